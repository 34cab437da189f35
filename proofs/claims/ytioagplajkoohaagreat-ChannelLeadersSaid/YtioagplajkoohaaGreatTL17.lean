/- Merged texts of a claim: Tab55, RefRight, Nats, Right, RightLaw, LeadMath, LeadPl, Leaders, Between55. -/
import Derived.Test.YtioagplajkoohaaGreatTL12
import Derived.Test.YtioagplajkoohaaGreatTL13
import Derived.Test.YtioagplajkoohaaGreatTL14
import Derived.Test.YtioagplajkoohaaGreatTL16
namespace Go.Proofs.YtioagplajkoohaaGreat
set_option maxRecDepth 100000
set_option maxHeartbeats 32000000
open KA KB KC KD KE KF
open Go.RowKit
theorem zgx {f g:Nat->Int} {n:Nat}:disN f g n=0↔∀ k,k<n->f k=g k:=by
 induction n with
 | zero=>exact ⟨fun _ k hk=>absurd hk (by omega),fun _=>rfl⟩
 | succ n ih =>
  show disN f g n+(if f n=g n then 0 else 1)=0↔_
  constructor
  ·intro h k hk
   by_cases e:k=n
   ·subst e
    by_cases h2:f k=g k
    ·exact h2
    ·rw [if_neg h2] at h; omega
   ·exact ih.1 (by omega) k (by omega)
  ·intro h
   rw [ih.2 fun k hk=>h k (by omega),if_pos (h n (by omega))]
def TabE (row:Nat->List (Prop × Int)):Nat->Int->Prop
 | 0,v=>v=0
 | t+1,v=>(v≠0/\TabE row t v)∨(TabE row t 0/\FirstErr (row t) v)
theorem TabE.unique {row:Nat->List (Prop × Int)}:∀ {t:Nat} {v u:Int},TabE row t v->TabE row t u->v=u
 | 0,_,_,h1,h2=>Eq.trans h1 (Eq.symm h2)
 | t + 1, v, u, h1, h2 => by
  rcases h1 with ⟨a,h1⟩ | ⟨a,h1⟩
  ·rcases h2 with ⟨_,h2⟩ | ⟨b,_⟩
   ·exact TabE.unique h1 h2
   ·exact absurd (TabE.unique h1 b) a
  ·rcases h2 with ⟨b,h2⟩ | ⟨_,h2⟩
   ·exact absurd (TabE.unique h2 a) b
   ·exact FirstErr.unique h1 h2
theorem TabE.later {row:Nat->List (Prop × Int)} {t:Nat} {v:Int} (h:TabE row t v) (hv:v≠0):∀ {m:Nat},t<=m->TabE row m v:=by
 intro m
 induction m with
 | zero =>
  intro hm
  have e:t=0:=by omega
  rw [<-e]; exact h
 | succ m ih =>
  intro hm
  by_cases e:t=m+1
  ·rw [<-e]; exact h
  ·exact .inl ⟨hv,ih (by omega)⟩
def RowErrs (q N:Nat) (tl:Nat->Nat) (U:Nat->Nat->Int) (D:Nat->Nat->Prop) (t:Nat):List (Prop × Int) :=
 [(tl t=N,4),(AllIn q (tl t) (U t),2),(∀ j,j<t->D j t,18)]
def synT (add mul:Nat->Nat->Nat) (W:Nat->Nat->Nat) (N:Nat) (U:Nat->Nat->Int) (t i:Nat):Nat:=dotN add mul (fun j=>(U t j).toNat) (W i) N
def disT (a:Nat) (S:Nat->Nat->Nat) (j t:Nat):Prop:=∃ i,i<a/\S j i≠S t i
theorem zb5 {add mul:Nat->Nat->Nat} {a a' b b':Nat->Nat}:∀ n,(∀ i,i<n->a i=a' i/\b i=b' i)->dotN add mul a b n=dotN add mul a' b' n
 | 0,_=>rfl
 | n+1,h=>by
  show add (dotN add mul a b n) (mul (a n) (b n))=add (dotN add mul a' b' n) (mul (a' n) (b' n))
  rw [zb5 n fun i hi=>h i (by omega),(h n (by omega)).1,(h n (by omega)).2]
theorem zkN {q n N a a':Nat} {add mul:Nat->Nat->Nat} {neg:Nat->Nat} {V W W':Nat->Nat->Nat} (hL:FieldLaws q add mul) (hneg:∀ x,x<q->neg x<q/\add x (neg x)=0) (hV:∀ i,i<n->∀ j,j<N->V i j<q) (h:NullRel q add mul neg n N V a W) (h':NullRel q add mul neg n N V a' W') (U:Nat->Nat->Int) :
  a=a'/\(∀ t i,i<a->synT add mul W N U t i=synT add mul W' N U t i)/\disT a (synT add mul W N U)=disT a' (synT add mul W' N U):=by
 obtain ⟨e1,e2⟩:=h.same hL hneg hV h'
 have e3:∀ t i,i<a->synT add mul W N U t i=synT add mul W' N U t i:=fun t i hi=>zb5 N fun j hj=>⟨rfl,e2 i hi j hj⟩
 refine ⟨e1,e3,?_⟩
 funext j t
 refine propext ⟨?_,?_⟩
 ·rintro ⟨i,hi,hne⟩
  exact ⟨i,by omega,by rw [<-e3 j i hi,<-e3 t i hi]; exact hne⟩
 ·rintro ⟨i,hi,hne⟩
  have hi':i<a:=by omega
  exact ⟨i,hi',by rw [e3 j i hi',e3 t i hi']; exact hne⟩
def TabV (q N n m:Nat) (tl:Nat->Nat) (U:Nat->Nat->Int) (D:Nat->Nat->Prop) (v:Int):Prop :=
 (cosN q (N - n)=0/\v=8)∨(cosN q (N - n)≠0/\((m≠cosN q (N - n)/\v=3)∨(m=cosN q (N - n)/\TabE (RowErrs q N tl U D) m v)))
theorem TabV.unique {q N n m:Nat} {tl:Nat->Nat} {U:Nat->Nat->Int} {D:Nat->Nat->Prop} {v u:Int} (h:TabV q N n m tl U D v) (h':TabV q N n m tl U D u):v=u:=by
 rcases h with ⟨a1,e1⟩ | ⟨a1,⟨b1,e1⟩ | ⟨b1,e1⟩⟩ <;> rcases h' with ⟨a2,e2⟩ | ⟨a2,⟨b2,e2⟩ | ⟨b2,e2⟩⟩
 ·rw [e1,e2]
 ·exact absurd a1 a2
 ·exact absurd a1 a2
 ·exact absurd a2 a1
 ·rw [e1,e2]
 ·exact absurd b2 b1
 ·exact absurd a2 a1
 ·exact absurd b1 b2
 ·exact e1.unique e2
def TablePost (P M:Int) (k:Nat) (f:Nat->Int) (N:Int) (n:Nat) (ln:Nat->Nat) (V:Nat->Nat->Int) (m:Nat) (tl:Nat->Nat) (U:Nat->Nat->Int) (w:World) (e:Ending) (w':World):Prop :=
 Below w.heap.size w w'/\∃ v:Int,e=.returned (.int .i64 v)/\((v≠0/\FirstErr (CodeErrs P M k f N n ln V) v) ∨
  (FirstErr (CodeErrs P M k f N n ln V) 0/\∀ (P' M' N' a:Nat) (W:Nat->Nat->Nat),P=P'->M=M'->N=N'->NullRel (P' ^ M') (addF P' M') (mulF P' M' fun i=>(f i).toNat) (negF P' M') n N' (natT V) a W ->
   TabV (P' ^ M') N' n m tl U (disT a (synT (addF P' M') (mulF P' M' fun i=>(f i).toNat) W N' U)) v))
theorem zg4 (P M:Int) (A:Option Addr) (k c:Nat) (f:Nat->Int) (N:Int) (T:Option Addr) (n d:Nat) (ln:Nat->Nat) (V:Nat->Nat->Int) (T2:Option Addr) (m d2:Nat) (tl:Nat->Nat) (U:Nat->Nat->Int) (w:World) (hr:IntsR w w.heap.size A k f) (h:IntRows w T n ln V) (h2:IntRows w T2 m tl U) (hm:m<=1048576) :
  Calls Tryz.prog 32 #[.agg #[.int .i64 P,.int .i64 M,.slice A k c,.int .i64 N,.slice T n d],.slice T2 m d2] w (TablePost P M k f N n ln V m tl U w):=by
 have HT:=hid h
 have HR:=hid hr
 have H2:=hid h2
 clear h hr h2
 have rf:=zao (w:=w) (a:=.int .i64 P) (b:=.int .i64 M) (c:=.slice A k c) (d:=.int .i64 N) (e:=.slice T n d) (T := 27)
 have hB:Below w.heap.size w (w.alloc (.cells #[.int .i64 P,.int .i64 M,.slice A k c,.int .i64 N,.slice T n d] 27)):=(Below.refl _ _).alloc (Nat.le_refl _) _
 obtain ⟨w1,hw1⟩:∃ W,W=w.alloc (.cells #[.int .i64 P,.int .i64 M,.slice A k c,.int .i64 N,.slice T n d] 27):=⟨_,rfl⟩
 rw [<-hw1] at hB rf
 go_enter Tryz.func32, Tryz.ntmps32
 go_upto_region 1 with fail
 rw [<-hw1];clear hw1
 have q0:=qc0 rf
 have q1:=qc1 rf
 have q2:=qc2 rf
 have q3:=qc3 rf
 have q4:=qc4 rf
 go_wp2_with fail
 refine (zca P M A k c f N T n d ln V w1 (HR.out.on hB) (HT.out.on hB)).mono ?_
 rintro e w2 ⟨v,rfl,hv,kb⟩
 have HV:=hid hv
 replace rf:=zaa rf kb;replace hB:=onS hB kb;clear kb hv q0 q1 q2 q3 q4
 by_cases hv0:v=0
 ·subst hv0
  obtain ⟨P,M,N,rfl,rfl,rfl,hC⟩:=zdw HR.out HT.out HV.out
  have HC:=hid hC
  have hN:=hC.ln2
  have hnN:=hC.n_le
  have hL:=fieldLaws hC.fld
  have hP0:0<P:=by have:=hC.fld.1.1; omega
  clear hC
  obtain ⟨m',hm'⟩:∃ x,x=fun i=>(f i).toNat:=⟨_,rfl⟩
  have HP:Hid (∀ (v:Int),(∀ (a:Nat) (W:Nat->Nat->Nat),NullRel (P ^ M) (addF P M) (mulF P M m') (negF P M) n N (natT V) a W->TabV (P ^ M) N n m tl U (disT a (synT (addF P M) (mulF P M m') W N U)) v) ->
    ∀ (P' M' N' a:Nat) (W:Nat->Nat->Nat),(P:Int)=P'->(M:Int)=M'->(N:Int)=N'->NullRel (P' ^ M') (addF P' M') (mulF P' M' fun i=>(f i).toNat) (negF P' M') n N' (natT V) a W->TabV (P' ^ M') N' n m tl U (disT a (synT (addF P' M') (mulF P' M' fun i=>(f i).toNat) W N' U)) v):=by
   intro v hh P' M' N' a W e1 e2 e3 hrel
   obtain rfl:P=P':=by omega
   obtain rfl:M=M':=by omega
   obtain rfl:N=N':=by omega
   rw [<-hm'] at hrel ⊢
   exact hh a W hrel
  rw [<-hm'] at HC hL;clear hm'
  have q0:=qc0 rf
  have q1:=qc1 rf
  have q2:=qc2 rf
  have q3:=qc3 rf
  have q4:=qc4 rf
  go_wp2_with fail
  refine (zfp P M m' A k c N T n d (natT V) w2 (HC.out.on hB) hnN).mono ?_
  rintro e w3 ⟨rfl,kb⟩
  replace rf:=zaa rf kb;replace hB:=onS hB kb;clear kb q0 q1 q2 q3 q4
  obtain ⟨C,hC⟩:∃ x,x=cosN (P ^ M) (N - n):=⟨_,rfl⟩
  rw [<-hC]
  have HCO:=hid hC
  clear hC
  by_cases hc0:C=0
  ·have hc0':((C:Int) == 0)=true:=by simp [hc0]
   have hv8:Hid (∀ (a:Nat) (W:Nat->Nat->Nat),NullRel (P ^ M) (addF P M) (mulF P M m') (negF P M) n N (natT V) a W->TabV (P ^ M) N n m tl U (disT a (synT (addF P M) (mulF P M m') W N U)) 8):=fun a W _=>.inl ⟨by rw [<-HCO.out,hc0],rfl⟩
   clear hc0
   go_wp2
   go_ret
   exact ⟨hB,8,rfl,.inr ⟨HV.out,HP.out 8 hv8.out⟩⟩
  ·have hc0':((C:Int) == 0)=false:=by simp; omega
   have HC0:=hid hc0
   clear hc0
   have q0:=qc0 rf
   have q1:=qc1 rf
   have q2:=qc2 rf
   have q3:=qc3 rf
   have q4:=qc4 rf
   go_wp2_with fail
   refine (zfp P M m' A k c N T n d (natT V) w3 (HC.out.on hB) hnN).mono ?_
   rintro e w4 ⟨rfl,kb⟩
   replace rf:=zaa rf kb;replace hB:=onS hB kb;clear kb q0 q1 q2 q3 q4;rw [<-HCO.out]
   by_cases hmC:m=C
   ·have hmC':((m:Int) != (C:Int))=false:=by simp [hmC]
    have HMC:=hid hmC
    clear hmC
    have HB4:=hid hB
    obtain ⟨w9,hw9⟩:∃ W,W=w4:=⟨_,rfl⟩
    go_wp2
    clear hw9 w9 hB
    go_loopg [6,7] m (fun gg sv iv wx=>∃ t:Nat,iv=.int .i64 (t:Nat)/\t<=m/\m<=t+gg/\Hid (∀ (a:Nat) (W:Nat->Nat->Nat),NullRel (P ^ M) (addF P M) (mulF P M m') (negF P M) n N (natT V) a W->MTab wx w4.heap.size sv t a (synT (addF P M) (mulF P M m') W N U)/\TabE (RowErrs (P ^ M) N tl U (disT a (synT (addF P M) (mulF P M m') W N U))) t 0)/\wx.rowIs w.heap.size 27 5 (codCell (.int .i64 (P:Nat)) (.int .i64 (M:Nat)) (.slice A k c) (.int .i64 (N:Nat)) (.slice T n d))/\Below w4.heap.size w4 wx)
    case atStart=>exact ⟨0,rfl,by omega,by omega,fun a W _=>⟨MTab.nil _ _ _ _,rfl⟩,rf,Below.refl _ _⟩
    case round =>
     clear rf
     obtain ⟨t,rfl,ht,htg,HI,rf,hB⟩:=hrel
     have ht0:(0:Int)<=(t:Int):=by omega
     by_cases hlt:t<m
     ·have hlt':(t:Int)<(m:Int):=by omega
      obtain ⟨tb,to0,RA,rc,hTe,htb,t0,htl,hrcm,hrow,_⟩:=H2.out t hlt
      subst hTe
      have hB0:=onS HB4.out hB
      replace t0:=(hB0.cell (p:=⟨tb,to0+t,none⟩) htb).trans t0
      have HROW:=hid hrow
      clear hrow
      obtain ⟨l,hl⟩:∃ x,x=tl t:=⟨_,rfl⟩
      rw [<-hl] at htl t0 HROW
      have HL:=hid hl
      clear hl
      unfold maxLen at hrcm
      have q0:=qc0 rf
      have q1:=qc1 rf
      have q2:=qc2 rf
      have q3:=qc3 rf
      have q4:=qc4 rf
      obtain ⟨w5,hw5⟩:∃ X,X=wr:=⟨_,rfl⟩
      subst hw5
      clear hB0
      go_wp2
      refine wp_region_held_drew (S:=fun w'=>w'.cell? ⟨w.heap.size,0,none⟩=some (.int .i64 (P:Nat))/\w'.cell? ⟨w.heap.size,1,none⟩=some (.int .i64 (M:Nat))/\w'.cell? ⟨w.heap.size,2,none⟩=some (.slice A k c)/\w'.cell? ⟨w.heap.size,3,none⟩=some (.int .i64 (N:Nat))/\w'.cell? ⟨w.heap.size,4,none⟩=some (.slice T n d)/\w'.cell? ⟨tb,to0+t,none⟩=some (.slice RA l rc)) (by kernel_rfl) ⟨cellS (Below.refl _ _).drew q0,cellS (Below.refl _ _).drew q1,cellS (Below.refl _ _).drew q2,cellS (Below.refl _ _).drew q3,cellS (Below.refl _ _).drew q4,cellS (Below.refl _ _).drew t0⟩ (fun hHeld=>?_)
      obtain ⟨w6,hw⟩:∃ W,W=World.drew w5:=⟨_,rfl⟩
      have kb:Below w5.heap.size w5 w6:=by rw [hw]; exact (Below.refl _ _).drew
      rw [<-hw] at hHeld ⊢;clear hw
      have HK6:=hid kb
      replace rf:=zaa rf kb;replace hB:=onS hB kb;replace t0:=cellS kb t0;clear kb q0 q1 q2 q3 q4
      refine tkq 0 (h:=tkq 1 (h:=tkq 2 (h:=tkq 3 (h:=tkq 4 (h:=?_)))))
      refine rdq 5 (h:=fun K hK=>?_)
      go_simp
      go_wp2_with fail
      have hB0:=onS HB4.out hB
      have hBs:=hB.size
      refine (zjc P M m' A k c N T n d (natT V) RA l rc (U t) w6 (HC.out.on hB0) (HROW.out.on hB0) (by omega)).mono ?_
      rintro e w7 ⟨kb,v,hv,hcase⟩
      have HVW:=hid hv
      have HK7:=hid (onS HK6.out kb)
      replace rf:=zaa rf kb;replace hB:=onS hB kb;replace t0:=cellS kb t0;clear kb hv hB0
      rcases hcase with ⟨hv0,rfl⟩ | ⟨rfl,a,W,s,hrel,rfl,hS⟩
      ·have hvn:(v != 0)=true:=by simpa using hv0
       have HV0:=hid hv0
       clear hv0
       refine bkq hK ⟨qc0 rf,qc1 rf,qc2 rf,qc3 rf,qc4 rf,t0⟩ (h:=fun hHeld=>?_)
       clear hK K
       refine tkq 6 (h:=tkq 7 (h:=tkq 8 (h:=tkq 9 (h:=tkq 10 (h:=?_)))))
       refine wpAnyH_done (by kernel_rfl) ?_ _
       clear hHeld
       have hB0:=onS HB4.out hB
       have hvv:Hid (∀ (a:Nat) (W:Nat->Nat->Nat),NullRel (P ^ M) (addF P M) (mulF P M m') (negF P M) n N (natT V) a W->TabV (P ^ M) N n m tl U (disT a (synT (addF P M) (mulF P M m') W N U)) v):=fun a W hrel=>.inr ⟨by rw [<-HCO.out]; exact HC0.out,.inr ⟨by rw [<-HCO.out]; exact HMC.out,TabE.later (t:=t+1) (.inr ⟨(HI.out a W hrel).2,by
        have hh:=HVW.out
        rw [HL.out] at hh
        rcases hh with ⟨h1,h2⟩ | ⟨h1,⟨h2,h3⟩ | ⟨_,h3⟩⟩
        ·exact .inl ⟨h1,h2⟩
        ·exact .inr ⟨h1,.inl ⟨h2,h3⟩⟩
        ·exact absurd h3 HV0.out⟩) HV0.out (by omega)⟩⟩
       clear rf hB t0
       go_wp2
       go_ret
       exact ⟨hB0,v,rfl,.inr ⟨HV.out,HP.out v hvv.out⟩⟩
      ·have HSAME:=hid (fun a' W' (h':NullRel (P ^ M) (addF P M) (mulF P M m') (negF P M) n N (natT V) a' W')=>zkN hL (fun x _=>⟨zbS hP0,zbK hP0⟩) (fun i hi j hj=>HC.out.lt i hi j hj) hrel h' U)
       obtain ⟨hM,hT⟩:=HI.out a W hrel
       have HTE:=hid hT
       have HM:=hid (hM.on HK7.out)
       obtain ⟨QA,qc,hqv⟩:=hM.shape
       subst hqv
       have haN:a<=N:=hrel.rref.choose_spec.le_c
       obtain ⟨SA,sc,hsv⟩:=hS.shape
       subst hsv
       have HREL:=hid hrel
       obtain ⟨S,hSd⟩:∃ S,S=synT (addF P M) (mulF P M m') W N U:=⟨_,rfl⟩
       have HS:=hid (show Own w7 w4.heap.size 3 1 (.slice SA a sc) a (fun i _=>.int .i64 (S t i:Nat)) from (hS.mono hBs).congr fun i hi q _=>by rw [hSd]; rfl)
       rw [<-hSd] at HM HTE HSAME
       have HSD:=hid hSd
       clear hS hM hT hSd hrel
       refine bkq hK ⟨qc0 rf,qc1 rf,qc2 rf,qc3 rf,qc4 rf,t0⟩ (h:=fun hHeld=>?_)
       clear hK K
       refine tkq 6 (h:=tkq 7 (h:=tkq 8 (h:=tkq 9 (h:=tkq 10 (h:=?_)))))
       refine wpAnyH_done (by kernel_rfl) ?_ _
       clear hHeld t0
       have HRF7:=hid rf
       have HB7:=hid hB
       obtain ⟨w9,hw9⟩:∃ W,W=w7:=⟨_,rfl⟩
       go_wp2
       clear hw9 w9 rf hB
       obtain ⟨gO,hgO⟩:∃ x,x=gk:=⟨_,rfl⟩
       subst hgO
       go_loopg [10] t (fun gg jv wx=>∃ j:Nat,jv=.int .i64 (j:Nat)/\j<=t/\t<=j+gg/\Hid (∀ j',j'<j->disT a S j' t)/\Below w7.heap.size w7 wx)
       case atStart=>exact ⟨0,rfl,by omega,by omega,fun j' h'=>absurd h' (by omega),Below.refl _ _⟩
       case round =>
        obtain ⟨j,rfl,hj,hjg,HD,hB⟩:=hrel
        have hj0:(0:Int)<=(j:Int):=by omega
        by_cases hjt:j<t
        ·have hjt':(j:Int)<(t:Int):=by omega
         obtain ⟨rb,ro,RB,rbc,hQe,_,_,r0,_,hrj⟩:=HM.out.row hjt
         subst hQe
         have HRJ:=hid (hrj.on hB)
         replace r0:=cellS hB r0;clear hrj
         obtain ⟨w9,hw9⟩:∃ X,X=wr:=⟨_,rfl⟩
         subst hw9
         go_wp2_with fail
         refine (zdE RB SA a rbc sc (fun i=>(S j i:Nat)) (fun i=>(S t i:Nat)) w9 (HRJ.out.rd rfl) ((HS.out.on hB).rd rfl) (by omega)).mono ?_
         rintro e w10 ⟨rfl,kb⟩
         replace hB:=onS hB kb;clear kb r0 HRJ
         obtain ⟨D,hD⟩:∃ x,x=disN (fun i=>(S j i:Nat)) (fun i=>(S t i:Nat)) a:=⟨_,rfl⟩
         rw [<-hD]
         by_cases hD0:D=0
         ·have hD0':((D:Int) == 0)=true:=by simp [hD0]
          have hno:Hid (¬ ∀ j',j'<t->disT a S j' t):=fun h=>by
           obtain ⟨i,hi,hne⟩:=h j hjt
           have:=zgx.1 (hD.symm.trans hD0) i hi
           exact hne (by omega)
          have hvv:Hid (∀ (a:Nat) (W:Nat->Nat->Nat),NullRel (P ^ M) (addF P M) (mulF P M m') (negF P M) n N (natT V) a W->TabV (P ^ M) N n m tl U (disT a (synT (addF P M) (mulF P M m') W N U)) 18):=fun a' W' hrel=>.inr ⟨by rw [<-HCO.out]; exact HC0.out,.inr ⟨by rw [<-HCO.out]; exact HMC.out,by
           rw [<-(HSAME.out a' W' hrel).2.2]
           refine TabE.later (t:=t+1) (.inr ⟨HTE.out,?_⟩) (by omega) (by omega)
           have hh:=HVW.out
           rw [HL.out] at hh
           rcases hh with ⟨h1,h2⟩ | ⟨h1,⟨h2,h3⟩ | ⟨h2,h3⟩⟩
           ·cases h2
           ·cases h3
           ·exact .inr ⟨h1,.inr ⟨h2,.inl ⟨hno.out,rfl⟩⟩⟩⟩⟩
          have hB0:=onS HB4.out (onS HB7.out hB)
          clear hB hD hD0
          go_wp2
          go_ret
          exact ⟨hB0,18,rfl,.inr ⟨HV.out,HP.out 18 hvv.out⟩⟩
         ·have hD0':((D:Int) == 0)=false:=by simp; omega
          have HD2:Hid (∀ j',j'<j+1->disT a S j' t):=fun j' h'=>by
           by_cases e:j'=j
           ·subst e
            by_cases hx:∃ i,i<a/\S j' i≠S t i
            ·exact hx
            ·refine absurd (hD.trans (zgx.2 fun i hi=>?_)) hD0
             by_cases e2:S j' i=S t i
             ·show ((S j' i:Nat):Int)=((S t i:Nat):Int); rw [e2]
             ·exact absurd ⟨i,hi,e2⟩ hx
           ·exact HD.out j' (by omega)
          clear hD hD0
          go_wp2
          go_roundg (gk - 1)
          case measure=>omega
          case rel=>exact ⟨j+1,by go_num,by omega,by omega,HD2,hB⟩
        ·have hjt':¬ (j:Int)<(t:Int):=by omega
         obtain rfl:j=t:=by omega
         have kb2:=(Below.refl wr.heap.size wr).alloc (Nat.le_refl _) (Obj.cells #[Value.slice SA a sc] 22)
         have HX8:=hid ((HS.out.on hB).on kb2)
         have HO8:=hid ((HM.out.on hB).on kb2)
         have HB8:=hid (onS (onS HB7.out hB) kb2)
         have HC8:Hid ((wr.alloc (Obj.cells #[Value.slice SA a sc] 22)).cell? ((⟨wr.heap.size,0,none⟩:Addr).add 0)=some (.slice SA a sc)):=tbox2
         have HZ8:=hid HB8.out.size
         have HIL:Hid (j<=1048576):=by show _<=_; omega
         have HRF8:=hid (zaa (zaa HRF7.out hB) kb2)
         clear kb2 hB
         go_wp2_with (first | (at_builtin; (refine zaK rfl (.tmp 55) (.tmp 57) rfl HO8.out rfl (ad:=⟨wr.heap.size,0,none⟩) (c:=1) rfl HC8.out rfl HX8.out HZ8.out HIL.out ?_); intro v9 w9 o1 o2 o3))
         have HM9:=hid (o1.congr (W':=S) fun u hu q _=>by
          by_cases e:u=j
          ·subst e; rw [if_pos rfl]
          ·rw [if_neg e])
         have HB9:=hid (HB8.out.grown o2 HZ8.out o3)
         have HRF9:=hid (HRF8.out.of_block (o2.block _ HRF8.out.lt fun e=>absurd (zap HRF8.out HO8.out.choose_spec.1 (by decide)) (by rw [<-e]; simp)))
         clear o1 o2 o3
         have HI2:Hid (∀ (a:Nat) (W:Nat->Nat->Nat),NullRel (P ^ M) (addF P M) (mulF P M m') (negF P M) n N (natT V) a W->MTab w9 w4.heap.size v9 (j+1) a (synT (addF P M) (mulF P M m') W N U)/\TabE (RowErrs (P ^ M) N tl U (disT a (synT (addF P M) (mulF P M m') W N U))) (j+1) 0):=fun a' W' h'=>by
          obtain ⟨e1,e2,e3⟩:=HSAME.out a' W' h'
          rw [<-e3]
          subst e1
          refine ⟨HM9.out.congr fun u hu q hq=>e2 u q hq,.inr ⟨HTE.out,?_⟩⟩
          have hh:=HVW.out
          rw [HL.out] at hh
          rcases hh with ⟨h1,h2⟩ | ⟨h1,⟨h2,h3⟩ | ⟨h2,h3⟩⟩
          ·cases h2
          ·cases h3
          ·exact .inr ⟨h1,.inr ⟨h2,.inr ⟨HD.out,rfl⟩⟩⟩
         go_wp2
         go_roundg (gO - 1)
         case measure=>omega
         case rel=>exact ⟨j+1,by go_num,by omega,by omega,HI2,HRF9.out,HB9.out⟩
     ·have hlt':¬ (t:Int)<(m:Int):=by omega
      obtain rfl:t=m:=by omega
      have hB0:=onS HB4.out hB
      have hvv:Hid (∀ (a:Nat) (W:Nat->Nat->Nat),NullRel (P ^ M) (addF P M) (mulF P M m') (negF P M) n N (natT V) a W->TabV (P ^ M) N n t tl U (disT a (synT (addF P M) (mulF P M m') W N U)) 0):=fun a W hrel=>.inr ⟨by rw [<-HCO.out]; exact HC0.out,.inr ⟨by rw [<-HCO.out]; exact HMC.out,(HI.out a W hrel).2⟩⟩
      clear hB rf
      go_wp2
      go_ret
      exact ⟨hB0,0,rfl,.inr ⟨HV.out,HP.out 0 hvv.out⟩⟩
   ·have hmC':((m:Int) != (C:Int))=true:=by simp; omega
    have hv3:Hid (∀ (a:Nat) (W:Nat->Nat->Nat),NullRel (P ^ M) (addF P M) (mulF P M m') (negF P M) n N (natT V) a W->TabV (P ^ M) N n m tl U (disT a (synT (addF P M) (mulF P M m') W N U)) 3):=fun a W _=>.inr ⟨by rw [<-HCO.out]; exact HC0.out,.inl ⟨by rw [<-HCO.out]; exact hmC,rfl⟩⟩
    clear hmC
    go_wp2
    go_ret
    exact ⟨hB,3,rfl,.inr ⟨HV.out,HP.out 3 hv3.out⟩⟩
 ·have hvn:(v != 0)=true:=by simpa using hv0
  have HV0:=hid hv0
  clear hv0 rf
  go_wp2
  go_ret
  exact ⟨hB,v,rfl,.inl ⟨HV0.out,HV.out⟩⟩
open Go.ChangeShapes Go.WideShapes Go.ChangeAt
theorem zlH {x:Nat} (h:x<4294967296):dl x<=1:=by
 by_cases e:x=0
 ·rw [e,zaw]; omega
 ·rw [zbA (by omega) h]; omega
theorem zdM (A:Option Addr) (n c:Nat) (f:Nat->Int) (w:World) (h:IntsR w w.heap.size A n f) (hn:n<=1048576) :
  Calls Tryz.prog 74 #[.slice A n c] w fun e w'=>e=.returned (.int .i64 (disN f (fun _=>0) n:Nat))/\Below w.heap.size w w':=by
 have HA:=hid h
 clear h
 have hmk:=fun X=>zan (P:=Tryz.prog) 22 3 _ 8 Tryz.underlying22 Tryz.infoInt rfl (n:Int) (by omega) (by omega) (by omega) X
 simp only [Int.toNat_natCast] at hmk
 have ra:=World.rowIs_made w (.int .i64 0) n 3
 have kb:=(Below.refl w.heap.size w).alloc (Nat.le_refl _) (Obj.cells (madeCells #[Value.int .i64 0] n) 3)
 have hz:IntsR (w.alloc (Obj.cells (madeCells #[Value.int .i64 0] n) 3)) (w.alloc (Obj.cells (madeCells #[Value.int .i64 0] n) 3)).heap.size (some ⟨w.heap.size,0,none⟩) n (fun _=>0):=by
  have:=rowInts (w:=w.alloc (Obj.cells (madeCells #[Value.int .i64 0] n) 3)) (g:=w.heap.size) (n:=n) (f:=fun _=>0) (ra.congr fun _ _=>rfl)
  exact this
 have HZ:=hid hz
 have HB:=hid kb
 clear hz ra kb
 go_enter Tryz.func74, Tryz.ntmps74
 go_wp2_with fail
 refine (zdE A (some ⟨w.heap.size,0,none⟩) n c n f (fun _=>0) _ (HA.out.on HB.out) HZ.out hn).mono ?_
 rintro e w2 ⟨rfl,kb⟩
 have hB:=onS HB.out kb
 clear kb
 go_wp2
 go_ret
 exact ⟨rfl,hB⟩
def NatsPost (n:Nat) (x:Nat->Nat) (w:World) (e:Ending) (w':World):Prop :=
 ∃ T c,e=.returned (.slice T n c)/\n<=c/\c<=maxLen/\NatRTab w' w'.heap.size T n x 8/\Below w.heap.size w w'
theorem natsPost {w w':World} {v:Value} {n:Nat} {x:Nat->Nat} {base:Nat} (h:NatOwn w' base v n x) (hx:∀ i,i<n->x i<4294967296) (hB:Below w.heap.size w w'):NatsPost n x w (.returned v) w':=by
 obtain ⟨A,c,rfl,h1,h2,h3⟩:=h.tab
 refine ⟨A,c,rfl,h1,h2,fun i hi=>?_,hB⟩
 obtain ⟨b,off,B,d,e,hb,hc0,g1,g2,g3⟩:=h3 i hi
 exact ⟨b,off,B,dl (x i),d,e,hb,hc0,g3.raw,g1,g2,by have:=zlH (hx i hi); omega⟩
theorem zkO (A:Option Addr) (n c:Nat) (x:Nat->Nat) (w:World) (h:IntsR w w.heap.size A n (fun i=>(x i:Nat))) (hx:∀ i,i<n->x i<4294967296) (hn:n<=1048576) :
  Calls Tryz.prog 66 #[.slice A n c] w (NatsPost n x w):=by
 have HA:=hid h
 have HX:=hid hx
 clear h hx
 go_enter Tryz.func66, Tryz.ntmps66
 go_wp2
 go_loopg [3,8] n (fun gg sv iv wx=>∃ i:Nat,iv=.int .i64 (i:Nat)/\i<=n/\n<=i+gg/\NatOwn wx w.heap.size sv i x/\Below w.heap.size w wx)
 case atStart=>exact ⟨0,rfl,by omega,by omega,NatOwn.nil _ _ _,Below.refl _ _⟩
 case round =>
  obtain ⟨i,rfl,hi,hig,hO,hB⟩:=hrel
  have hi0:(0:Int)<=(i:Int):=by omega
  by_cases hlt:i<n
  ·have hlt':(i:Int)<(n:Int):=by omega
   obtain ⟨ab,ao,rfl,hab,x0⟩:=HA.out.at hlt
   replace x0:=(hB.cell (p:=⟨ab,ao+i,none⟩) hab).trans x0
   obtain ⟨u,hu⟩:∃ u,u=x i:=⟨_,rfl⟩
   have hux:u<4294967296:=by rw [hu]; exact HX.out i hlt
   rw [<-hu] at x0
   have HU:=hid hu
   have HO:=hid hO
   have hu64:IntKind.u64.wrap (u:Int)=(u:Int):=by rw [IntKind.wrap_u64]; omega
   clear hu hO
   obtain ⟨w1,hw1⟩:∃ X,X=wr:=⟨_,rfl⟩
   subst hw1
   go_wp2_with fail
   refine (zdk u w1 (by omega)).mono ?_
   rintro e w2 ⟨NA,nc,rfl,g1,g2,g3,kb⟩
   have kb2:=(Below.refl w2.heap.size w2).alloc (Nat.le_refl _) (Obj.cells #[Value.slice NA (dl u) nc] 47)
   have HO8:=hid ((HO.out.on kb).on kb2)
   have HB8:=hid (onS (onS hB kb) kb2)
   have HM:=hid (g3.on kb2)
   have HC8:Hid ((w2.alloc (Obj.cells #[Value.slice NA (dl u) nc] 47)).cell? ⟨w2.heap.size,0,none⟩=some (.slice NA (dl u) nc)):=tbox2
   have HZ8:=hid HB8.out.size
   clear kb kb2 hB x0 g3
   go_wp2_with (first | (at_builtin; (refine zdf rfl (.tmp 12) (.tmp 16) rfl w.heap.size _ i x rfl HO8.out HZ8.out (by omega) w2.heap.size 1 rfl NA nc u HU.out.symm HC8.out HM.out g1 g2 ?_); intro v9 w9 o1 o2))
   have HO9:=hid o1
   have hB9:=HB8.out.trans o2
   clear o1 o2
   go_wp2
   go_roundg (gk - 1)
   case measure=>omega
   case rel=>exact ⟨i+1,by go_num,by omega,by omega,HO9.out,hB9⟩
  ·have hlt':¬ (i:Int)<(n:Int):=by omega
   obtain rfl:i=n:=by omega
   obtain ⟨NA,nc,rfl,_,_,_⟩:=hO.tab
   have HP:=hid (natsPost hO HX.out hB)
   go_wp2
   go_ret
   exact HP.out
def hornN (q:Nat) (s:Nat->Nat):Nat->Nat
 | 0=>0
 | i+1=>hornN q s i*q+s i
theorem zf1 {q:Nat} {s:Nat->Nat}:∀ {a:Nat},(∀ i,i<a->s i<q)->hornN q s a<q ^ a
 | 0,_=>by show 0<1; omega
 | a+1,h=>by
  have h1:=zf1 (a:=a) fun i hi=>h i (by omega)
  have h2:=h a (by omega)
  show hornN q s a*q+s a<q ^ (a+1)
  have h3:(hornN q s a+1)*q<=q ^ a*q:=Nat.mul_le_mul_right q h1
  rw [Nat.add_mul,Nat.one_mul] at h3;rw [Nat.pow_succ]
  omega
theorem zgy {q:Nat} {s t:Nat->Nat}:∀ {a:Nat},(∀ i,i<a->s i<q)->(∀ i,i<a->t i<q)->(hornN q s a=hornN q t a↔∀ i,i<a->s i=t i)
 | 0,_,_=>⟨fun _ i hi=>absurd hi (by omega),fun _=>rfl⟩
 | a + 1, h, h' => by
  have ih:=zgy (a:=a) (fun i hi=>h i (by omega)) (fun i hi=>h' i (by omega))
  have h1:=h a (by omega)
  have h2:=h' a (by omega)
  have hq:0<q:=by omega
  show hornN q s a*q+s a=hornN q t a*q+t a↔_
  constructor
  ·intro e
   have e1:(hornN q s a*q+s a) % q=(hornN q t a*q+t a) % q:=by rw [e]
   rw [Nat.add_comm,Nat.add_mul_mod_self_right,Nat.mod_eq_of_lt h1,Nat.add_comm,Nat.add_mul_mod_self_right,Nat.mod_eq_of_lt h2] at e1;rw [e1] at e
   have e2:hornN q s a=hornN q t a:=Nat.eq_of_mul_eq_mul_right hq (by omega)
   intro i hi
   by_cases e3:i=a
   ·rw [e3]; exact e1
   ·exact ih.1 e2 i (by omega)
  ·intro e
   rw [ih.2 fun i hi=>e i (by omega),e a (by omega)]
theorem zeK {q:Nat} {add mul:Nat->Nat->Nat} (hL:FieldLaws q add mul) {a b:Nat->Nat}:∀ n,(∀ i,i<n->a i<q/\b i<q)->dotN add mul a b n=dotN add mul b a n
 | 0,_=>rfl
 | n+1,h=>by
  show add (dotN add mul a b n) (mul (a n) (b n))=add (dotN add mul b a n) (mul (b n) (a n))
  rw [zeK hL n fun i hi=>h i (by omega),hL.mulComm _ _ (h n (by omega)).1 (h n (by omega)).2]
theorem TabE.rows {row:Nat->List (Prop × Int)}:∀ {t:Nat},TabE row t 0->∀ u,u<t->FirstErr (row u) 0
 | 0,_,u,hu=>absurd hu (by omega)
 | t + 1, h, u, hu => by
  rcases h with ⟨h1,_⟩ | ⟨h1,h2⟩
  ·exact absurd rfl h1
  ·by_cases e:u=t
   ·rw [e]; exact h2
   ·exact TabE.rows h1 u (by omega)
theorem zl3 {q a N:Nat} {add mul:Nat->Nat->Nat} {W:Nat->Nat->Nat} {U:Nat->Nat->Int} (hL:FieldLaws q add mul) (hW:∀ i,i<a->∀ j,j<N->W i j<q) {u t:Nat} (hu:AllIn q N (U u)) (ht:AllIn q N (U t)) :
  disT a (synT add mul W N U) u t↔hornN q (fun i=>dotN add mul (W i) (fun j=>(U u j).toNat) N) a≠hornN q (fun i=>dotN add mul (W i) (fun j=>(U t j).toNat) N) a:=by
 have key:∀ v,AllIn q N (U v)->∀ i,i<a->synT add mul W N U v i=dotN add mul (W i) (fun j=>(U v j).toNat) N:=fun v hv i hi=>zeK hL N fun j hj=>⟨by have:=hv j hj; show (U v j).toNat<q; omega,hW i hi j hj⟩
 rw [ne_eq,zgy (fun i _=>zcF hL _ _ _) (fun i _=>zcF hL _ _ _)]
 constructor
 ·rintro ⟨i,hi,hne⟩ h
  exact hne (by rw [key u hu i hi,key t ht i hi]; exact h i hi)
 ·intro h
  by_cases hx:disT a (synT add mul W N U) u t
  ·exact hx
  ·refine absurd (fun i hi=>?_) h
   by_cases e:synT add mul W N U u i=synT add mul W N U t i
   ·rw [<-key u hu i hi,<-key t ht i hi]; exact e
   ·exact absurd ⟨i,hi,e⟩ hx
def RightPost (P M:Int) (k:Nat) (f:Nat->Int) (N:Int) (n:Nat) (ln:Nat->Nat) (V:Nat->Nat->Int) (m:Nat) (tl:Nat->Nat) (U:Nat->Nat->Int) (w:World) (e:Ending) (w':World):Prop :=
 Below w.heap.size w w'/\∃ v:Int,((v≠0/\FirstErr (CodeErrs P M k f N n ln V) v) ∨
  (FirstErr (CodeErrs P M k f N n ln V) 0/\∃ (P' M' N' a:Nat) (W:Nat->Nat->Nat),P=P'/\M=M'/\N=N'/\NullRel (P' ^ M') (addF P' M') (mulF P' M' fun i=>(f i).toNat) (negF P' M') n N' (natT V) a W /\
   TabV (P' ^ M') N' n m tl U (disT a (synT (addF P' M') (mulF P' M' fun i=>(f i).toNat) W N' U)) v)) /\
  ((v≠0/\e=.returned (.tuple #[.slice none 0 0,.int .i64 v])) ∨
   (v=0/\∀ P' M' N':Nat,P=P'->M=M'->N=N'->∃ A c,e=.returned (.tuple #[.slice A (wtP (P' ^ M') N' (wcnt N' U m) (N'+1)).1 c,.int .i64 0])/\RatList w' w'.heap.size A (wtP (P' ^ M') N' (wcnt N' U m) (N'+1)).1 (wtP (P' ^ M') N' (wcnt N' U m) (N'+1)).2))
theorem zgz (P M:Int) (A:Option Addr) (k c:Nat) (f:Nat->Int) (N:Int) (T:Option Addr) (n d:Nat) (ln:Nat->Nat) (V:Nat->Nat->Int) (T2:Option Addr) (m d2:Nat) (tl:Nat->Nat) (U:Nat->Nat->Int) (w:World) (hr:IntsR w w.heap.size A k f) (h:IntRows w T n ln V) (h2:IntRows w T2 m tl U) (hkc:k<=c) (hm:m<=1048576) :
  Calls Tryz.prog 35 #[.agg #[.int .i64 P,.int .i64 M,.slice A k c,.int .i64 N,.slice T n d],.slice T2 m d2] w (RightPost P M k f N n ln V m tl U w):=by
 have HT:=hid h
 have HR:=hid hr
 have H2:=hid h2
 clear h hr h2
 have rf:=zao (w:=w) (a:=.int .i64 P) (b:=.int .i64 M) (c:=.slice A k c) (d:=.int .i64 N) (e:=.slice T n d) (T := 27)
 have hB:Below w.heap.size w (w.alloc (.cells #[.int .i64 P,.int .i64 M,.slice A k c,.int .i64 N,.slice T n d] 27)):=(Below.refl _ _).alloc (Nat.le_refl _) _
 obtain ⟨w1,hw1⟩:∃ W,W=w.alloc (.cells #[.int .i64 P,.int .i64 M,.slice A k c,.int .i64 N,.slice T n d] 27):=⟨_,rfl⟩
 rw [<-hw1] at hB rf
 go_enter Tryz.func35, Tryz.ntmps35
 go_upto_region 1 with fail
 rw [<-hw1];clear hw1
 have q0:=qc0 rf
 have q1:=qc1 rf
 have q2:=qc2 rf
 have q3:=qc3 rf
 have q4:=qc4 rf
 go_wp2_with fail
 refine (zja P M A k c f N T n d ln V w1 (HR.out.on hB) (HT.out.on hB) hkc).mono ?_
 rintro e w2 ⟨kb,v,hv,hcase⟩
 have HV:=hid hv
 have hBs1:=hB.size
 replace rf:=zaa rf kb;replace hB:=onS hB kb;clear kb hv q0 q1 q2 q3 q4
 rcases hcase with ⟨hv0,rfl⟩ | ⟨rfl,P',M',N',rfl,rfl,rfl,hD⟩
 ·have hvn:(v != 0)=true:=by simpa using hv0
  have HV0:=hid hv0
  clear hv0
  have hB2:=hB.alloc hB.size (.cells #[.int .i64 0,.int .i64 0,.slice none 0 0,.int .i64 0,.slice none 0 0] 27)
  have HB2:=hid hB2
  clear hB2 hB rf
  go_wp2
  go_ret2
  exact ⟨HB2.out,v,.inl ⟨HV0.out,HV.out⟩,.inl ⟨HV0.out,rfl⟩⟩
 ·obtain ⟨dv,lv,a,W,rfl,hdO,hM,_,hrel⟩:=hD
  obtain ⟨P2,M2,N2,hP2,hM2,hN2,hC⟩:=zdw HR.out HT.out HV.out
  obtain rfl:P'=P2:=by omega
  obtain rfl:M'=M2:=by omega
  obtain rfl:N'=N2:=by omega
  clear hP2 hM2 hN2
  have HC:=hid hC
  have hN:=hC.ln2
  have hN1:=hC.ln1
  have hL:=fieldLaws hC.fld
  have hP0:0<P':=by have:=hC.fld.1.1; omega
  have hfo:=hC.fld.1
  have hq256:=hfo.2.2.2
  have hq2:=hL.two
  have hcnt:=hrel.count hL (fun x _=>⟨zbS hP0,zbK hP0⟩) hC.rref
  have HREL:=hid hrel
  have HWL:=hid hrel.rref.choose_spec.lt
  have HL:=hid hL
  obtain ⟨DA,dc,hdv⟩:=hdO.shape
  subst hdv
  obtain ⟨LA,lc,hlv⟩:=hM.shape
  subst hlv
  clear hC hrel hL hdO
  obtain ⟨m',hm'⟩:∃ x,x=fun i=>(f i).toNat:=⟨_,rfl⟩
  rw [<-hm'] at HC HREL HL
  have HMM:=hid hm'
  clear hm'
  obtain ⟨q,hqd⟩:∃ q,q=P' ^ M':=⟨_,rfl⟩
  rw [<-hqd] at hq256 hq2 HWL
  have HQ:=hid hqd
  clear hqd
  obtain ⟨b6,hb6⟩:∃ b,b=w2.heap.size:=⟨_,rfl⟩
  have rd:=zao (w:=w2) (a:=.int .i64 (P':Nat)) (b:=.int .i64 (M':Nat)) (c:=.slice DA k dc) (d:=.int .i64 (N':Nat)) (e:=.slice LA a lc) (T := 27)
  have kb:Below w2.heap.size w2 (w2.alloc (.cells #[.int .i64 (P':Nat),.int .i64 (M':Nat),.slice DA k dc,.int .i64 (N':Nat),.slice LA a lc] 27)):=(Below.refl _ _).alloc (Nat.le_refl _) _
  obtain ⟨w3,hw3⟩:∃ W,W=w2.alloc (.cells #[.int .i64 (P':Nat),.int .i64 (M':Nat),.slice DA k dc,.int .i64 (N':Nat),.slice LA a lc] 27):=⟨_,rfl⟩
  rw [<-hw3] at rd kb
  go_upto_region 4 with fail
  rw [<-hw3,<-hb6];rw [<-hb6] at rd;clear hw3 hb6
  have HM:=hid (hM.on kb)
  replace rf:=zaa rf kb;replace hB:=onS hB kb;clear kb hM
  have q0:=qc0 rf
  have q1:=qc1 rf
  have q2:=qc2 rf
  go_wp2_with fail
  refine (zeG (P':Int) (M':Int) A k c f w3 (HR.out.on hB)).mono ?_
  rintro e w4 ⟨kb,hcase⟩
  rcases hcase with ⟨hbad,_⟩ | ⟨_,g,P2,M2,hP2,hM2,rfl,_,hG⟩
  ·refine absurd ?_ hbad
   rcases HV.out with ⟨_,h9⟩ | ⟨h1,_⟩
   ·cases h9
   ·exact h1
  obtain rfl:P'=P2:=by omega
  obtain rfl:M'=M2:=by omega
  have HG:=hid hG.gf
  rw [<-HMM.out] at HG;replace HM:=hid (HM.out.on kb);replace rf:=zaa rf kb;replace rd:=zaa rd kb;replace hB:=onS hB kb;clear kb q0 q1 q2 hP2 hM2 hG
  obtain ⟨C,hC⟩:∃ C,C=q ^ a:=⟨_,rfl⟩
  have HCC:=hid hC
  clear hC
  obtain ⟨w9,hw9⟩:∃ W,W=w4:=⟨_,rfl⟩
  go_wp2
  clear hw9 w9
  go_cut [7,10] (fun v7 v10 wx=>((v7=.int .i64 0/\v10=.int .i64 (C:Nat)/\C<=65536)∨(v7=.int .i64 8/\65536<C))/\Below w4.heap.size w4 wx)
  case first =>
   refine wp_region_held_drew (S:=fun w'=>w'.cell? ⟨b6,4,none⟩=some (.slice LA a lc)) (by kernel_rfl) (cellS (Below.refl _ _).drew (rd.cell (i:=4) (by omega))) (fun hHeld=>?_)
   obtain ⟨w5,hw⟩:∃ W,W=World.drew w4:=⟨_,rfl⟩
   have kb:Below w4.heap.size w4 w5:=by rw [hw]; exact (Below.refl _ _).drew
   rw [<-hw] at hHeld ⊢;clear hw
   refine tkq 0 (h:=tkq 2 (h:=tkq 3 (h:=tkq 4 (h:=?_))))
   refine rdq 1 (h:=fun K hK=>?_)
   go_simp
   go_wp2_with fail
   refine (zeC (HG.out.on kb)).mono ?_
   rintro e w6 ⟨rfl,kb2⟩
   rw [<-HQ.out];replace kb:=onS kb kb2;clear kb2
   refine bkq hK (cellS kb (qc4 rd)) (h:=fun hHeld=>?_)
   clear hK K
   refine rdq 5 (h:=fun K hK=>?_)
   go_simp
   go_wp2_with fail
   refine (zlG q a 65536 w6 hq2 (by omega) (by omega) (by omega) (by omega)).mono ?_
   rintro e w7 ⟨hE,kb2⟩
   replace kb:=onS kb kb2;clear kb2
   rcases hE with ⟨hE,rfl⟩ | ⟨hE,rfl⟩
   ·rw [<-HCC.out] at hE ⊢
    refine bkq hK (cellS kb (qc4 rd)) (h:=fun hHeld=>?_)
    clear hK K
    refine tkq 6 (h:=tkq 7 (h:=tkq 8 (h:=tkq 9 (h:=tkq 10 (h:=?_)))))
    refine wpAnyH_done (by kernel_rfl) ?_ _
    clear hHeld
    go_wp2
    go_meet
    exact ⟨.inl ⟨rfl,rfl,hE⟩,kb⟩
   ·rw [<-HCC.out] at hE
    refine bkq hK (cellS kb (qc4 rd)) (h:=fun hHeld=>?_)
    clear hK K
    refine tkq 6 (h:=tkq 7 (h:=tkq 8 (h:=tkq 9 (h:=tkq 10 (h:=?_)))))
    refine wpAnyH_done (by kernel_rfl) ?_ _
    clear hHeld
    go_wp2
    go_meet
    exact ⟨.inr ⟨rfl,hE⟩,kb⟩
  case rest =>
   obtain ⟨hcase,kb⟩:=hcut
   have HPV:Hid (∀ v:Int,TabV q N' n m tl U (disT a (synT (addF P' M') (mulF P' M' m') W N' U)) v->FirstErr (CodeErrs (P':Int) (M':Int) k f (N':Int) n ln V) 0/\∃ (P2 M2 N2 a:Nat) (W:Nat->Nat->Nat),(P':Int)=P2/\(M':Int)=M2/\(N':Int)=N2/\NullRel (P2 ^ M2) (addF P2 M2) (mulF P2 M2 fun i=>(f i).toNat) (negF P2 M2) n N2 (natT V) a W /\
     TabV (P2 ^ M2) N2 n m tl U (disT a (synT (addF P2 M2) (mulF P2 M2 fun i=>(f i).toNat) W N2 U)) v):=fun v hv=>⟨HV.out,P',M',N',a,W,rfl,rfl,rfl,by rw [<-HMM.out]; exact HREL.out,by rw [<-HMM.out,<-HQ.out]; exact hv⟩
   have HCOS:Hid (C<=65536->cosN q (N' - n)=C):=fun h=>by
    show cosN q (N' - n)=C
    rw [show N' - n=a by omega]
    unfold cosN
    rw [<-HCC.out,if_pos h]
   replace HG:=hid (HG.out.on kb);replace HM:=hid (HM.out.on kb);replace rf:=zaa rf kb;replace rd:=zaa rd kb;replace hB:=onS hB kb;clear kb
   rcases hcase with ⟨rfl,rfl,hC⟩ | ⟨rfl,hC⟩
   ·have hC0:0<C:=by rw [HCC.out]; exact Nat.pow_pos (by omega)
    by_cases hmC:m=C
    ·have hmC':((m:Int) != (C:Int))=false:=by simp [hmC]
     have HMC:=hid hmC
     clear hmC
     have HB5:=hid hB
     have HRF:=hid rf
     have HRD:=hid rd
     obtain ⟨w5,hw5⟩:∃ X,X=wc:=⟨_,rfl⟩
     subst hw5
     obtain ⟨w9,hw9⟩:∃ W,W=w5:=⟨_,rfl⟩
     go_wp2
     clear hw9 w9
     go_cut [11,12] (fun v11 v12 wx=>∃ sb cb:Nat,v11=.slice (some ⟨sb,0,none⟩) C C/\v12=.slice (some ⟨cb,0,none⟩) (N'+1) (N'+1)/\w5.heap.size<=sb/\w5.heap.size<=cb/\sb≠cb/\Hid (wx.rowIs sb 4 C (fun _=>.bool false))/\Hid (wx.rowIs cb 3 (N'+1) (fun _=>.int .i64 0))/\Below w5.heap.size w5 wx)
     case first =>
      have hmk1:=fun X=>zan (P:=Tryz.prog) 66 4 _ 1 Tryz.underlying66 Tryz.infoBool rfl (C:Int) (by omega) (by omega) (by omega) X
      have hmk2:=fun X=>zan (P:=Tryz.prog) 22 3 _ 8 Tryz.underlying22 Tryz.infoInt rfl ((N':Int)+1) (by omega) (by omega) (by omega) X
      simp only [show ((N':Int)+1).toNat=N'+1 by omega,Int.toNat_natCast] at hmk1 hmk2
      have hwN:IntKind.i64.wrap ((N':Int)+1)=(N':Int)+1:=IntWalk.i64_in _ (by omega)
      refine wp_region_held_drew (S:=fun w'=>w'.cell? ⟨w.heap.size,3,none⟩=some (.int .i64 (N':Nat))) (by kernel_rfl) (cellS (Below.refl _ _).drew (rf.cell (i:=3) (by omega))) (fun hHeld=>?_)
      obtain ⟨w6,hw⟩:∃ W,W=World.drew w5:=⟨_,rfl⟩
      have kb:Below w5.heap.size w5 w6:=by rw [hw]; exact (Below.refl _ _).drew
      rw [<-hw] at hHeld ⊢;clear hw
      refine tkq 0 (h:=tkq 2 (h:=tkq 3 (h:=tkq 4 (h:=?_))))
      refine rdq2 1 5 (h:=fun K hK=>?_) (h2:=fun K hK=>?_)
      ·go_simp
       have r1:=World.rowIs_made w6 (.bool false) C 4
       have kb2:Below w6.heap.size w6 (w6.alloc (.cells (madeCells #[.bool false] C) 4)):=(Below.refl _ _).alloc (Nat.le_refl _) _
       obtain ⟨w7,hw⟩:∃ W,W=w6.alloc (.cells (madeCells #[.bool false] C) 4):=⟨_,rfl⟩
       rw [<-hw] at r1 kb2 ⊢;clear hw
       have hs1:=kb.size
       have hl1:=r1.lt
       obtain ⟨sb,hsb⟩:∃ b,b=w6.heap.size:=⟨_,rfl⟩
       rw [<-hsb] at r1 hl1 ⊢;replace kb:=onS kb kb2;clear kb2
       refine bkq hK (cellS kb (qc3 rf)) (h:=fun hHeld=>?_)
       clear hK K
       refine tkq 6 (h:=?_)
       refine rdq 5 (h:=fun K hK=>?_)
       go_simp
       have r2:=World.rowIs_made w7 (.int .i64 0) (N'+1) 3
       have kb2:Below w7.heap.size w7 (w7.alloc (.cells (madeCells #[.int .i64 0] (N'+1)) 3)):=(Below.refl _ _).alloc (Nat.le_refl _) _
       obtain ⟨w8,hw⟩:∃ W,W=w7.alloc (.cells (madeCells #[.int .i64 0] (N'+1)) 3):=⟨_,rfl⟩
       rw [<-hw] at r2 kb2 ⊢;clear hw
       have hs2:=kb.size
       have r1b:=zaa r1 kb2
       replace kb:=onS kb kb2;clear kb2
       refine bkq hK (cellS kb (qc3 rf)) (h:=fun hHeld=>?_)
       clear hK K
       refine tkq 7 (h:=?_)
       refine wpAnyH_done (by kernel_rfl) ?_ _
       clear hHeld
       go_wp2
       go_meet
       exact ⟨sb,_,by rw [hsb],rfl,by omega,hs2,by omega,r1b,r2,kb⟩
      ·go_simp
       have r1:=World.rowIs_made w6 (.int .i64 0) (N'+1) 3
       have kb2:Below w6.heap.size w6 (w6.alloc (.cells (madeCells #[.int .i64 0] (N'+1)) 3)):=(Below.refl _ _).alloc (Nat.le_refl _) _
       obtain ⟨w7,hw⟩:∃ W,W=w6.alloc (.cells (madeCells #[.int .i64 0] (N'+1)) 3):=⟨_,rfl⟩
       rw [<-hw] at r1 kb2 ⊢;clear hw
       have hs1:=kb.size
       have hl1:=r1.lt
       obtain ⟨cb,hcb⟩:∃ b,b=w6.heap.size:=⟨_,rfl⟩
       rw [<-hcb] at r1 hl1 ⊢;replace kb:=onS kb kb2;clear kb2
       refine bkq hK (cellS kb (qc3 rf)) (h:=fun hHeld=>?_)
       clear hK K
       refine rdq 1 (h:=fun K hK=>?_)
       go_simp
       have r2:=World.rowIs_made w7 (.bool false) C 4
       have kb2:Below w7.heap.size w7 (w7.alloc (.cells (madeCells #[.bool false] C) 4)):=(Below.refl _ _).alloc (Nat.le_refl _) _
       obtain ⟨w8,hw⟩:∃ W,W=w7.alloc (.cells (madeCells #[.bool false] C) 4):=⟨_,rfl⟩
       rw [<-hw] at r2 kb2 ⊢;clear hw
       have hs2:=kb.size
       have r1b:=zaa r1 kb2
       replace kb:=onS kb kb2;clear kb2
       refine bkq hK (cellS kb (qc3 rf)) (h:=fun hHeld=>?_)
       clear hK K
       refine tkq 6 (h:=tkq 7 (h:=?_))
       refine wpAnyH_done (by kernel_rfl) ?_ _
       clear hHeld
       go_wp2
       go_meet
       exact ⟨_,cb,rfl,by rw [hcb],hs2,by omega,by omega,r2,r1b,kb⟩
     case rest =>
      clear hB rf rd
      obtain ⟨sb,cb,rfl,rfl,hsb,hcb,hne,HSB,HCB,kb⟩:=hcut
      have hCm:C=m:=HMC.out.symm
      subst hCm
      -- the number of row t
      obtain ⟨ix,hix⟩:∃ ix:Nat->Nat,ix=fun t=>hornN q (fun i=>dotN (addF P' M') (mulF P' M' m') (W i) (fun j=>(U t j).toNat) N') a:=⟨_,rfl⟩
      have HIX:Hid (∀ t,ix t<C):=fun t=>by
       rw [hix,HCC.out]
       exact zf1 fun i hi=>by rw [HQ.out]; exact zcF HL.out _ _ _
      have HIX2:=hid hix
      clear hix
      obtain ⟨w9,hw9⟩:∃ X,X=wc:=⟨_,rfl⟩
      subst hw9
      go_wp2
      go_loopg [58] C (fun gg iv wx=>∃ (t:Nat) (sn:Nat->Bool),iv=.int .i64 (t:Nat)/\t<=C/\C<=t+gg/\Hid (∀ i,sn i=true↔∃ u,u<t/\ix u=i)/\Hid (TabE (RowErrs q N' tl U (disT a (synT (addF P' M') (mulF P' M' m') W N' U))) t 0)/\Hid (wx.rowIs sb 4 C (fun i=>.bool (sn i)))/\Hid (wx.rowIs cb 3 (N'+1) (fun i=>.int .i64 (wcnt N' U t i:Nat)))/\Below w5.heap.size w5 wx)
      case atStart=>exact ⟨0,fun _=>false,rfl,by omega,by omega,fun i=>⟨fun h=>(by cases h),fun h=>(by obtain ⟨u,hu,_⟩:=h; exact absurd hu (by omega))⟩,rfl,HSB,HCB.out.congr fun t _=>rfl,kb⟩
      case round =>
       obtain ⟨t,sn,rfl,ht,htg,HSN,HTE,HSB,HCB,hB⟩:=hrel
       have ht0:(0:Int)<=(t:Int):=by omega
       by_cases hlt:t<C
       ·have hlt' : (t : Int) < (C : Int) := by omega
        obtain ⟨tb,to0,RA,rc,hTe,htb,t0,htl,hrcm,hrow,_⟩:=H2.out t hlt
        subst hTe
        have hB0:=onS HB5.out hB
        replace t0:=(hB0.cell (p:=⟨tb,to0+t,none⟩) htb).trans t0
        have HROW:=hid hrow
        clear hrow
        obtain ⟨l,hl⟩:∃ x,x=tl t:=⟨_,rfl⟩
        rw [<-hl] at htl t0 HROW
        have HLT:=hid hl
        clear hl
        unfold maxLen at hrcm
        have q3:wr.cell? ⟨w.heap.size,3,none⟩=some (.int .i64 (N':Nat)):=(zaa HRF.out hB).cell (i:=3) (by omega)
        obtain ⟨gO,hgO⟩:∃ x,x=gk:=⟨_,rfl⟩
        subst hgO
        obtain ⟨w6,hw6⟩:∃ X,X=wr:=⟨_,rfl⟩
        subst hw6
        have HTV:Hid (∀ v:Int,v≠0->TabE (RowErrs q N' tl U (disT a (synT (addF P' M') (mulF P' M' m') W N' U))) (t+1) v->TabV q N' n C tl U (disT a (synT (addF P' M') (mulF P' M' m') W N' U)) v):=fun v hv hE=>.inr ⟨by rw [HCOS.out hC]; omega,.inr ⟨by rw [HCOS.out hC],hE.later hv (by omega)⟩⟩
        by_cases hlN:l=N'
        ·subst hlN
         have hlN':((l:Int) != (l:Int))=false:=by simp
         have HB6:=hid hB
         obtain ⟨w9,hw9⟩:∃ W,W=w6:=⟨_,rfl⟩
         go_wp2
         clear hw9 w9 hB hB0
         go_loopg [15,69] l (fun gg nv iv wx=>∃ j u:Nat,nv=.int .i64 (u:Nat)/\iv=.int .i64 (j:Nat)/\j<=l/\l<=j+gg/\u<=j/\Hid (u=disN (U t) (fun _=>0) j)/\Hid (∀ i,i<j->0<=U t i/\U t i<q)/\Below w6.heap.size w6 wx)
         case atStart=>exact ⟨0,0,rfl,rfl,by omega,by omega,by omega,rfl,fun i hi=>absurd hi (by omega),Below.refl _ _⟩
         case round =>
          obtain ⟨j,u,rfl,rfl,hj,hjg,huj,HU,HAI,hB⟩:=hrel
          have hj0:(0:Int)<=(j:Int):=by omega
          by_cases hjl:j<l
          ·have hjl':(j:Int)<(l:Int):=by omega
           have hB0:=onS HB5.out (onS HB6.out hB)
           obtain ⟨xb,xo,rfl,hxb,x0⟩:=HROW.out.at hjl
           replace x0:=(hB0.cell (p:=⟨xb,xo+j,none⟩) hxb).trans x0
           obtain ⟨x,hx⟩:∃ x,x=U t j:=⟨_,rfl⟩
           rw [<-hx] at x0
           have HX:=hid hx
           clear hx
           obtain ⟨w7,hw7⟩:∃ X,X=wr:=⟨_,rfl⟩
           subst hw7
           go_wp2_with fail
           refine (zfY x (HG.out.on (onS HB6.out hB))).mono ?_
           rintro e w8 ⟨rfl,kb⟩
           rw [<-HQ.out];replace hB:=onS hB kb;clear kb hB0 x0
           by_cases hin:0<=x/\x<q
           ·have hd:isB q x=true:=by unfold isB; simpa using hin
            have HAI2:Hid (∀ i,i<j+1->0<=U t i/\U t i<q):=fun i hi=>by
             by_cases e:i=j
             ·rw [e,<-HX.out]; exact hin
             ·exact HAI.out i (by omega)
            by_cases hx0:x=0
            ·have hx0':(x != 0)=false:=by simp [hx0]
             have HU2:Hid (u=disN (U t) (fun _=>0) (j+1)):=by
              show u=disN (U t) (fun _=>0) j+(if U t j=0 then 0 else 1)
              rw [if_pos (by rw [<-HX.out]; exact hx0),HU.out,Nat.add_zero]
             clear hx0 hin
             go_wp2
             go_roundg (gk - 1)
             case measure=>omega
             case rel=>exact ⟨j+1,u,rfl,by go_num,by omega,by omega,by omega,HU2,HAI2,hB⟩
            ·have hx0':(x != 0)=true:=by simpa using hx0
             have HU2:Hid (u+1=disN (U t) (fun _=>0) (j+1)):=by
              show u+1=disN (U t) (fun _=>0) j+(if U t j=0 then 0 else 1)
              rw [if_neg (by rw [<-HX.out]; exact hx0),HU.out]
             clear hx0 hin
             go_wp2
             go_roundg (gk - 1)
             case measure=>omega
             case rel=>exact ⟨j+1,u+1,by go_num,by go_num,by omega,by omega,by omega,HU2,HAI2,hB⟩
           ·have hd:isB q x=false:=by unfold isB; simpa using hin
            have HT2:=hid (HTV.out 2 (by omega) (.inr ⟨HTE.out,.inr ⟨HLT.out.symm,.inl ⟨fun h=>hin (by rw [HX.out]; exact h j (by rw [<-HLT.out]; exact hjl)),rfl⟩⟩⟩))
            have HB0:=hid (onS HB5.out (onS HB6.out hB))
            clear hin hB
            go_wp2
            go_ret2
            exact ⟨HB0.out,2,.inr (HPV.out 2 HT2.out),.inl ⟨by omega,rfl⟩⟩
          ·have hjl':¬ (j:Int)<(l:Int):=by omega
           obtain rfl:l=j:=by omega
           obtain ⟨ug,hug⟩:∃ x:Nat,x=u:=⟨_,rfl⟩
           have HUG:=hid hug
           clear hug
           have HB7:=hid (onS HB6.out hB)
           have hd4:wr.cell? ⟨b6,4,none⟩=some (.slice LA a lc):=(zaa HRD.out HB7.out).cell (i:=4) (by omega)
           obtain ⟨w7,hw7⟩:∃ X,X=wr:=⟨_,rfl⟩
           subst hw7
           obtain ⟨w9,hw9⟩:∃ W,W=w7:=⟨_,rfl⟩
           go_wp2
           have HB67:=hid hB
           clear hw9 w9 hB hd4
           go_loopg [18,85] a (fun gg nv iv wx=>∃ i x:Nat,nv=.int .i64 (x:Nat)/\iv=.int .i64 (i:Nat)/\i<=a/\a<=i+gg/\x<C/\Hid (x=hornN q (fun i=>dotN (addF P' M') (mulF P' M' m') (W i) (fun j=>(U t j).toNat) l) i)/\Below w7.heap.size w7 wx)
           case atStart=>exact ⟨0,0,rfl,rfl,by omega,by omega,by omega,rfl,Below.refl _ _⟩
           case round =>
            obtain ⟨i,x,rfl,rfl,hi,hig,hxC,HX,hB⟩:=hrel
            have hi0:(0:Int)<=(i:Int):=by omega
            by_cases hia:i<a
            ·have hia':(i:Int)<(a:Int):=by omega
             obtain ⟨rb,ro,RB,rbc,hQe,_,_,r0,_,hri⟩:=HM.out.row hia
             subst hQe
             have hBx:=onS HB7.out hB
             have hB0:=onS HB5.out hBx
             replace r0:=cellS hBx r0
             have hra:=(hri.on hBx).rd rfl
             have hrb:IntsR wr wr.heap.size RA l (fun j=>(((U t j).toNat:Nat):Int)):=(HROW.out.on hB0).congr fun j hj=>by have:=(HAI.out j hj).1; show U t j=(((U t j).toNat:Nat):Int); omega
             have hbq:∀ j,j<l->(U t j).toNat<P' ^ M':=fun j hj=>by have:=HAI.out j hj; have h9:=HQ.out; omega
             have haq:∀ j,j<l->W i j<P' ^ M':=fun j hj=>by rw [<-HQ.out]; exact HWL.out i hia j hj
             have hG:=HG.out.on hBx
             have HRA:=hid hra
             have HRB:=hid hrb
             have HBQ:=hid hbq
             have HAQ:=hid haq
             have HGG:=hid hG
             clear hra hrb hbq haq hG hri hB0 hBx
             obtain ⟨w8,hw8⟩:∃ X,X=wr:=⟨_,rfl⟩
             subst hw8
             go_wp2_with fail
             refine (zeC HGG.out).mono ?_
             rintro e w9 ⟨rfl,kb⟩
             rw [<-HQ.out]
             have HK:=hid kb
             replace hB:=onS hB kb;clear kb
             have hxq0:0<=(x:Int)*(q:Int):=Int.mul_nonneg (by omega) (by omega)
             have hxq1:(x:Int)*(q:Int)<=16777216:=by
              have h9:x*q<=16777216:=Nat.mul_le_mul (show x<=65536 by omega) hq256
              rw [<-Int.natCast_mul]
              omega
             go_wp2_with fail
             refine (zi3 l RB RA rbc rc (W i) (fun j=>(U t j).toNat) (HGG.out.on HK.out) (IntsR.on HRA.out HK.out) (HRB.out.on HK.out) HAQ.out HBQ.out (by omega)).mono ?_
             rintro e w10 ⟨rfl,kb⟩
             replace hB:=onS hB kb;clear kb
             obtain ⟨y,hy⟩:∃ y,y=dotN (addF P' M') (mulF P' M' m') (W i) (fun j=>(U t j).toNat) l:=⟨_,rfl⟩
             rw [<-hy]
             have hyq:y<q:=by rw [hy,HQ.out]; exact zcF HL.out _ _ _
             have HXN:Hid (x*q+y=hornN q (fun i=>dotN (addF P' M') (mulF P' M' m') (W i) (fun j=>(U t j).toNat) l) (i+1)):=by
              show x*q+y=hornN q _ i*q+_
              rw [HX.out,hy]
             have hxN:x*q+y<C:=by
              rw [HXN.out,HCC.out]
              refine Nat.lt_of_lt_of_le (zf1 fun i hi=>by rw [HQ.out]; exact zcF HL.out _ _ _) (Nat.pow_le_pow_right (by omega) (by omega))
             clear hy
             go_wp2
             go_roundg (gk - 1)
             case measure=>omega
             case rel=>exact ⟨i+1,x*q+y,by push_cast; go_num,by go_num,by omega,by omega,hxN,HXN,hB⟩
            ·have hia':¬ (i:Int)<(a:Int):=by omega
             obtain rfl:a=i:=by omega
             have hxi:x=ix t:=by rw [HIX2.out]; exact HX.out
             have HXI:=hid hxi
             have HAT:Hid (AllIn q l (U t)):=HAI.out
             have HDU:Hid (∀ u,u<t->(disT a (synT (addF P' M') (mulF P' M' m') W l U) u t↔ix u≠x)):=fun u hu=>by
              have hr:=HTE.out.rows u hu
              rcases hr with ⟨_,h9⟩ | ⟨h1,⟨_,h9⟩ | ⟨h2,_⟩⟩
              ·cases h9
              ·cases h9
              ·rw [hxi,HIX2.out]
               refine zl3 (q:=q) (by rw [HQ.out]; exact HL.out) HWL.out ?_ HAT.out
               rw [<-h1]; exact h2
             have hkb:=onS HB67.out hB
             have HSB1:=hid (zaa HSB.out hkb)
             have HCB1:=hid (zaa HCB.out hkb)
             have HBB:=hid (onS HB6.out hkb)
             have c0:=HSB1.out.cell (i:=x) hxC
             have z0:=HSB1.out.frozen x
             obtain ⟨sx,hsx⟩:∃ b,b=sn x:=⟨_,rfl⟩
             rw [<-hsx] at c0
             have HSX:=hid hsx
             clear hsx hxi hkb hB
             obtain ⟨w8,hw8⟩:∃ X,X=wr:=⟨_,rfl⟩
             subst hw8
             cases sx with
             | true =>
              have HT18:=hid (HTV.out 18 (by omega) (.inr ⟨HTE.out,.inr ⟨HLT.out.symm,.inr ⟨by rw [<-HLT.out]; exact HAT.out,.inl ⟨fun h=>by
               obtain ⟨u,hu,e⟩:=(HSN.out x).1 HSX.out.symm
               exact (HDU.out u hu).1 (h u hu) e,rfl⟩⟩⟩⟩))
              have HB0:=hid (onS HB5.out HBB.out)
              clear z0
              go_wp2
              go_ret2
              exact ⟨HB0.out,18,.inr (HPV.out 18 HT18.out),.inl ⟨by omega,rfl⟩⟩
             | false =>
              have hnd:∀ u,u<t->ix u≠x:=fun u hu e=>by
               have:=(HSN.out x).2 ⟨u,hu,e⟩
               rw [<-HSX.out] at this
               cases this
              have HTN:Hid (TabE (RowErrs q l tl U (disT a (synT (addF P' M') (mulF P' M' m') W l U))) (t+1) 0):=.inr ⟨HTE.out,.inr ⟨HLT.out.symm,.inr ⟨by rw [<-HLT.out]; exact HAT.out,.inr ⟨fun u hu=>(HDU.out u hu).2 (hnd u hu),rfl⟩⟩⟩⟩
              clear hnd
              have HSN2:Hid (∀ i,(if i=x then true else sn i)=true↔∃ u,u<t+1/\ix u=i):=fun i=>by
               by_cases e:i=x
               ·rw [if_pos e]
                exact ⟨fun _=>⟨t,by omega,by rw [e,HXI.out]⟩,fun _=>rfl⟩
               ·rw [if_neg e,HSN.out i]
                constructor
                ·rintro ⟨u,hu,h⟩
                 exact ⟨u,by omega,h⟩
                ·rintro ⟨u,hu,h⟩
                 refine ⟨u,?_,h⟩
                 by_cases e2:u=t
                 ·rw [e2,<-HXI.out] at h; exact absurd h.symm e
                 ·omega
              -- seen
              have hset:=HSB1.out.set x (.bool true)
              have HSB2:=hid (hset.congr (g:=fun i=>.bool (if i=x then true else sn i)) fun i hi=>by
               by_cases e:i=x
               ·rw [if_pos e,if_pos e]
               ·rw [if_neg e,if_neg e])
              have HCB2:=hid (HCB1.out.setOther (a:=⟨sb,x,none⟩) (by simpa using hne.symm) (.bool true))
              have HBB2:=hid (HBB.out.setCell (p:=⟨sb,x,none⟩) hsb (.bool true))
              clear hset
              -- count
              have hugl:ug<l+1:=by have:=HUG.out; omega
              have hnx:∀ i,wcnt l U (t+1) i=wcnt l U t i+if disN (U t) (fun _=>0) l=i then 1 else 0:=fun _=>rfl
              have hD:ug=disN (U t) (fun _=>0) l:=by rw [HUG.out]; exact HU.out
              rw [<-hD] at hnx
              have c1:=HCB2.out.cell hugl
              have z1:=HCB2.out.frozen ug
              have hcl:=zhS l U t ug
              have hset:=HCB2.out.set ug (.int .i64 ((wcnt l U t ug+1:Nat):Int))
              obtain ⟨cn,hcn⟩:∃ C,C=wcnt l U t ug:=⟨_,rfl⟩
              have HCB3:Hid (((w8.setCell ⟨sb,x,none⟩ (.bool true)).setCell ⟨cb,ug,none⟩ (.int .i64 ((cn:Int)+1))).rowIs cb 3 (l+1) (fun i=>.int .i64 (wcnt l U (t+1) i:Nat))):=by
               show World.rowIs _ _ _ _ _
               rw [hcn,show ((wcnt l U t ug:Nat):Int)+1=((wcnt l U t ug+1:Nat):Int) by omega]
               refine hset.congr fun i hi=>?_
               rw [hnx]
               by_cases e:i=ug
               ·rw [if_pos e,if_pos e.symm,e]
               ·rw [if_neg e,if_neg (fun h=>e h.symm),Nat.add_zero]
              rw [<-hcn] at c1 hcl
              have HSB3:=hid (HSB2.out.setOther (a:=⟨cb,ug,none⟩) (by simpa using hne) (.int .i64 ((cn:Int)+1)))
              have HBB3:=hid (HBB2.out.setCell (p:=⟨cb,ug,none⟩) hcb (.int .i64 ((cn:Int)+1)))
              have hu0:(0:Int)<=(ug:Int):=by omega
              have hu1:(ug:Int)<(l:Int)+1:=by omega
              have hwC:IntKind.i64.wrap ((cn:Int)+1)=(cn:Int)+1:=IntWalk.i64_in _ (by omega)
              have hug:u=ug:=HUG.out.symm
              subst hug
              clear hset hnx hcn hD
              go_wp2
              clear hwC
              go_roundg (gO - 1)
              case measure=>omega
              case rel=>exact ⟨t+1,_,by go_num,by omega,by omega,HSN2,HTN,HSB3,HCB3,HBB3.out⟩
        ·have hlN':((l:Int) != (N':Int))=true:=by simp; omega
         have HT4:=hid (HTV.out 4 (by omega) (.inr ⟨HTE.out,.inl ⟨by rw [<-HLT.out]; exact hlN,rfl⟩⟩))
         have HB0:=hid hB0
         clear hlN hB hB0
         go_wp2
         go_ret2
         exact ⟨HB0.out,4,.inr (HPV.out 4 HT4.out),.inl ⟨by omega,rfl⟩⟩
       ·have hlt':¬ (t:Int)<(C:Int):=by omega
        obtain rfl:C=t:=by omega
        have HT0:=hid (show TabV q N' n C tl U (disT a (synT (addF P' M') (mulF P' M' m') W N' U)) 0 from .inr ⟨by rw [HCOS.out hC]; omega,.inr ⟨by rw [HCOS.out hC],HTE.out⟩⟩)
        obtain ⟨xs,hxs⟩:∃ xs,xs=wcnt N' U C:=⟨_,rfl⟩
        have hxl:∀ i,i<N'+1->xs i<4294967296:=fun i _=>by
         have:=zhS N' U C i
         rw [hxs]; omega
        have HXL:=hid hxl
        have HCX:Hid (wr.rowIs cb 3 (N'+1) (fun i=>.int .i64 (xs i:Nat))):=by rw [hxs]; exact HCB
        have HXS:=hid hxs
        obtain ⟨J,hJ⟩:∃ J,J=N'+1:=⟨_,rfl⟩
        rw [<-hJ] at HXL HCX ⊢
        have HJ:=hid hJ
        have hJ65:J<=65:=by omega
        have hpo:Hid (∀ (W2:World) (e:Ending) (W':World),PolyPost (wtP q N' xs (N'+1)).1 (wtP q N' xs (N'+1)).2 W2 e W'->PolyPost (wtP q N' xs J).1 (wtP q N' xs J).2 W2 e W'):=fun _ _ _ h=>by rw [hJ]; exact h
        obtain ⟨PL,hPL⟩:∃ L,L=(wtP q N' xs J).1:=⟨_,rfl⟩
        obtain ⟨PS,hPS⟩:∃ S,S=(wtP q N' xs J).2:=⟨_,rfl⟩
        rw [<-hPL,<-hPS] at hpo
        have HPL:=hid hPL
        have HPS:=hid hPS
        clear hxl hxs hJ hPL hPS
        obtain ⟨w6,hw6⟩:∃ X,X=wr:=⟨_,rfl⟩
        subst hw6
        go_wp2_with fail
        refine (zeC (HG.out.on hB)).mono ?_
        rintro e w7 ⟨rfl,kb⟩
        rw [<-HQ.out];replace hB:=onS hB kb
        have HCX7:=hid (zaa HCX.out kb)
        clear kb
        go_wp2_with fail
        refine (zkO (some ⟨cb,0,none⟩) J J xs w7 (rowInts HCX7.out) HXL.out (by omega)).mono ?_
        rintro e w8 ⟨NT,nc,rfl,_,_,hnt,kb⟩
        have HNT:=hid hnt
        replace hB:=onS hB kb;clear kb hnt
        go_wp2_with fail
        refine ((zfS q N' NT J nc xs w8 HNT.out hq2 hq256 hN HJ.out).mono (fun e W'=>hpo.out _ e W')).mono ?_
        rintro e w9 ⟨Ta,ca,rfl,_,_,l3,kb⟩
        have L3:=hid l3
        have HB0:=hid (onS HB5.out (onS hB kb))
        clear l3 kb hB
        go_wp2
        go_ret2
        refine ⟨HB0.out,0,.inr (HPV.out 0 HT0.out),.inr ⟨rfl,fun P2 M2 N2 e1 e2 e3=>?_⟩⟩
        obtain rfl:P'=P2:=by omega
        obtain rfl:M'=M2:=by omega
        obtain rfl:N'=N2:=by omega
        rw [<-HQ.out,<-HXS.out,<-HJ.out,<-HPL.out,<-HPS.out]
        exact ⟨Ta,ca,rfl,L3.out⟩
    ·have hmC':((m:Int) != (C:Int))=true:=by simp; omega
     have hT:Hid (TabV q N' n m tl U (disT a (synT (addF P' M') (mulF P' M' m') W N' U)) 3):=.inr ⟨by rw [HCOS.out hC]; omega,.inl ⟨by rw [HCOS.out hC]; exact hmC,rfl⟩⟩
     clear hmC rf rd
     go_wp2
     go_ret2
     exact ⟨hB,3,.inr (HPV.out 3 hT.out),.inl ⟨by omega,rfl⟩⟩
   ·have hT:Hid (TabV q N' n m tl U (disT a (synT (addF P' M') (mulF P' M' m') W N' U)) 8):=.inl ⟨by
     rw [show N' - n=a by omega]
     unfold cosN
     rw [<-HCC.out,if_neg (by omega)],rfl⟩
    clear rf rd
    go_wp2
    go_ret2
    exact ⟨hB,8,.inr (HPV.out 8 hT.out),.inl ⟨by omega,rfl⟩⟩
def RightV (P M:Int) (k:Nat) (f:Nat->Int) (N:Int) (n:Nat) (ln:Nat->Nat) (V:Nat->Nat->Int) (m:Nat) (tl:Nat->Nat) (U:Nat->Nat->Int) (v:Int):Prop :=
 (v≠0/\FirstErr (CodeErrs P M k f N n ln V) v) ∨
  (FirstErr (CodeErrs P M k f N n ln V) 0/\∃ (P' M' N' a:Nat) (W:Nat->Nat->Nat),P=P'/\M=M'/\N=N'/\NullRel (P' ^ M') (addF P' M') (mulF P' M' fun i=>(f i).toNat) (negF P' M') n N' (natT V) a W /\
   TabV (P' ^ M') N' n m tl U (disT a (synT (addF P' M') (mulF P' M' fun i=>(f i).toNat) W N' U)) v)
def TableV (P M:Int) (k:Nat) (f:Nat->Int) (N:Int) (n:Nat) (ln:Nat->Nat) (V:Nat->Nat->Int) (m:Nat) (tl:Nat->Nat) (U:Nat->Nat->Int) (v:Int):Prop :=
 (v≠0/\FirstErr (CodeErrs P M k f N n ln V) v) ∨
  (FirstErr (CodeErrs P M k f N n ln V) 0/\∀ (P' M' N' a:Nat) (W:Nat->Nat->Nat),P=P'->M=M'->N=N'->NullRel (P' ^ M') (addF P' M') (mulF P' M' fun i=>(f i).toNat) (negF P' M') n N' (natT V) a W ->
   TabV (P' ^ M') N' n m tl U (disT a (synT (addF P' M') (mulF P' M' fun i=>(f i).toNat) W N' U)) v)
theorem zdN {P M:Int} {k:Nat} {f:Nat->Int} {N:Int} {n:Nat} {ln:Nat->Nat} {V:Nat->Nat->Int} {m:Nat} {tl:Nat->Nat} {U:Nat->Nat->Int} {v u:Int} (h:RightV P M k f N n ln V m tl U v) (h':TableV P M k f N n ln V m tl U u):u=v:=by
 rcases h with ⟨h1,h2⟩ | ⟨h1,P',M',N',a,W,e1,e2,e3,hr,hv⟩
 ·rcases h' with ⟨_,h4⟩ | ⟨h3,_⟩
  ·exact FirstErr.unique h4 h2
  ·exact absurd (FirstErr.unique h2 h3) h1
 ·rcases h' with ⟨h3,h4⟩ | ⟨_,h4⟩
  ·exact absurd (FirstErr.unique h4 h1) h3
  ·exact (h4 P' M' N' a W e1 e2 e3 hr).unique hv
theorem RightV.rows {P M:Int} {k:Nat} {f:Nat->Int} {N:Int} {n:Nat} {ln:Nat->Nat} {V:Nat->Nat->Int} {m:Nat} {tl:Nat->Nat} {U:Nat->Nat->Int} (h:RightV P M k f N n ln V m tl U 0) :
  FirstErr (CodeErrs P M k f N n ln V) 0/\∀ N':Nat,N=N'->∀ t,t<m->tl t=N':=by
 rcases h with ⟨h1,_⟩ | ⟨h1,P',M',N',a,W,e1,e2,e3,hr,hv⟩
 ·exact absurd rfl h1
 ·refine ⟨h1,fun N2 e t ht=>?_⟩
  obtain rfl:N'=N2:=by omega
  rcases hv with ⟨_,h9⟩ | ⟨_,⟨_,h9⟩ | ⟨_,hE⟩⟩
  ·cases h9
  ·cases h9
  ·rcases hE.rows t ht with ⟨_,h9⟩ | ⟨h2,_⟩
   ·cases h9
   ·exact h2
theorem zbH {x:Rat} (h:0<=x):∀ n,0<=powR x n
 | 0=>by show (0:Rat)<=1; decide
 | n+1=>Rat.mul_nonneg (zbH h n) h
def gW (s t:Rat) (N w:Nat):Rat:=powR t w*powR s (N - w)
theorem zgA {s t:Rat} (h0:0<=t) (h1:0<=s) (N w:Nat):0<=gW s t N w:=Rat.mul_nonneg (zbH h0 w) (zbH h1 _)
theorem zlI {s t:Rat} (h0:0<=t) (h1:t<=s) {N w:Nat} (h:w<N):gW s t N (w+1)<=gW s t N w:=by
 have hs:0<=s:=Rat.le_trans h0 h1
 have e:powR s (N - w)=powR s (N - (w+1))*s:=by rw [show N - w=N - (w+1)+1 by omega]; rfl
 have hp:=Rat.mul_nonneg (zbH h0 w) (zbH hs (N - (w+1)))
 have h2:=Rat.mul_le_mul_of_nonneg_left h1 hp
 unfold gW
 rw [e]
 show powR t w*t*powR s (N - (w+1))<=_
 have e1:powR t w*t*powR s (N - (w+1))=powR t w*powR s (N - (w+1))*t:=by grind
 have e2:powR t w*(powR s (N - (w+1))*s)=powR t w*powR s (N - (w+1))*s:=by grind
 rw [e1,e2]
 exact h2
theorem zlJ {s t:Rat} (h0:0<=t) (h1:t<=s) {N:Nat}:∀ {w' w:Nat},w<=w'->w'<=N->gW s t N w'<=gW s t N w:=by
 intro w'
 induction w' with
 | zero =>
  intro w h _
  have e:w=0:=by omega
  rw [e]; exact Rat.le_refl
 | succ n ih =>
  intro w h hN
  by_cases e:w=n+1
  ·rw [e]; exact Rat.le_refl
  ·exact Rat.le_trans (zlI h0 h1 (by omega)) (ih (by omega) (by omega))
theorem zim {α:Type} {f g:α->Rat}:∀ {l:List α},(∀ x,x ∈ l->f x<=g x)->sumM f l<=sumM g l
 | [],_=>Rat.le_refl
 | a :: l,h=>by
  have h1:=h a (by simp)
  have h2:=zim (f:=f) (g:=g) (l:=l) fun x hx=>h x (by simp [hx])
  show f a+sumM f l<=g a+sumM g l
  grind
open Classical in
theorem zjB {K:Type} [Zero K] (L:List K) (s t:Rat) (c:Rat) (hc:sumM (fun a=>(if a=0 then s else t)) L=c):∀ n,sumM (fun x=>wtW s t x) (allW L n)=powR c n
 | 0=>by show wtW s t ([]:List K)+0=1; show (1:Rat)+0=1; grind
 | n + 1 => by
  rw [zjT]
  have e:∀ w,w ∈ allW L n->sumM (fun a=>wtW s t (a :: w)) L=c*wtW s t w:=fun w _=>by
   have e2:sumM (fun a=>wtW s t (a :: w)) L=sumM (fun a=>wtW s t w*(if a=0 then s else t)) L:=zbe fun a _=>by
    show (if a=0 then s else t)*wtW s t w=_
    grind
   rw [e2,zhl,hc]
   grind
  rw [zbe e,zhl,zjB L s t c hc n]
  show c*powR c n=powR c n*c
  grind
open Classical in
theorem zkP {α:Type} {f:α->Rat} (hf:∀ x,0<=f x) {l m:List α} (hl:l.Nodup) (hm:m.Nodup) (h:∀ x,x ∈ l->x ∈ m):sumM f l<=sumM f m:=by
 obtain ⟨C,hC⟩:∃ C:α->Prop,∀ x,C x↔x ∈ l:=⟨fun x=>x ∈ l,fun _=>Iff.rfl⟩
 have h2:∀ x,x ∈ l->x ∈ m.filter fun x=>decide (C x):=fun x hx=>List.mem_filter.2 ⟨h x hx,by simpa using (hC x).2 hx⟩
 have h3:∀ x,x ∈ m.filter (fun x=>decide (C x))->x ∈ l:=fun x hx=>(hC x).1 (by simpa using (List.mem_filter.1 hx).2)
 rw [ziC (perm_of_nodup' hl h2 (zkF (hm.filter _) h3)),<-zd7 C f m]
 refine zim fun x _=>?_
 split
 ·exact Rat.le_refl
 ·exact hf x
theorem add4 {q:Nat} {add mul:Nat->Nat->Nat} (hL:FieldLaws q add mul) {a b c d:Nat} (ha:a<q) (hb:b<q) (hc:c<q) (hd:d<q):add (add a b) (add c d)=add (add a c) (add b d):=by
 rw [hL.addAssoc a b _ ha hb (hL.addLt _ _),<-hL.addAssoc b c d hb hc hd,hL.addComm b c,hL.addAssoc c b d hc hb hd,<-hL.addAssoc a c _ ha hc (hL.addLt _ _)]
theorem zf2 {q:Nat} {add mul:Nat->Nat->Nat} (hL:FieldLaws q add mul) {x v w:Nat->Nat}:∀ n,(∀ j,j<n->x j<q/\v j<q/\w j<q)->dotN add mul (fun j=>add (x j) (v j)) w n=add (dotN add mul x w n) (dotN add mul v w n)
 | 0,_=>by have:=hL.two; exact (hL.zeroAdd 0 (by omega)).symm
 | n+1,h=>by
  obtain ⟨h1,h2,h3⟩:=h n (by omega)
  show add (dotN add mul (fun j=>add (x j) (v j)) w n) (mul (add (x n) (v n)) (w n))=add (add (dotN add mul x w n) (mul (x n) (w n))) (add (dotN add mul v w n) (mul (v n) (w n)))
  rw [zf2 hL n fun j hj=>h j (by omega),hL.mulComm _ _ (hL.addLt _ _) h3,hL.distrib _ _ _ h3 h1 h2,hL.mulComm _ _ h3 h1,hL.mulComm _ _ h3 h2]
  exact add4 hL (zcF hL _ _ _) (zcF hL _ _ _) (hL.mulLt _ _) (hL.mulLt _ _)
theorem zgB {q:Nat} {add mul:Nat->Nat->Nat} (hL:FieldLaws q add mul) {d:Nat} (hd:d<q) {x w:Nat->Nat}:∀ n,(∀ j,j<n->x j<q/\w j<q)->dotN add mul (fun j=>mul d (x j)) w n=mul d (dotN add mul x w n)
 | 0,_=>(hL.mulZero hd).symm
 | n+1,h=>by
  obtain ⟨h1,h2⟩:=h n (by omega)
  show add (dotN add mul (fun j=>mul d (x j)) w n) (mul (mul d (x n)) (w n))=mul d (add (dotN add mul x w n) (mul (x n) (w n)))
  rw [zgB hL hd n fun j hj=>h j (by omega),hL.distrib _ _ _ hd (zcF hL _ _ _) (hL.mulLt _ _),hL.mulAssoc _ _ _ hd h1 h2]
theorem zin {q n N:Nat} {add mul:Nat->Nat->Nat} (hL:FieldLaws q add mul) {V:Nat->Nat->Nat} {c w:Nat->Nat} (hV:∀ i,i<n->∀ j,j<N->V i j<q) (hw:∀ j,j<N->w j<q) (hc:∀ i,i<n->c i<q) (h0:∀ i,i<n->dotN add mul (V i) w N=0) :
  ∀ t,t<=n->dotN add mul (fun j=>spE add mul V c t j) w N=0
 | 0, _ => by
  have hq:=hL.two
  have key:∀ k,k<=N->dotN add mul (fun _=>0) w k=0:=by
   intro k
   induction k with
   | zero=>intro _; rfl
   | succ k ih =>
    intro hk
    show add (dotN add mul (fun _=>0) w k) (mul 0 (w k))=0
    rw [ih (by omega),hL.mulComm _ _ (by omega) (hw k (by omega)),hL.mulZero (hw k (by omega)),hL.zeroAdd 0 (by omega)]
  exact key N (Nat.le_refl _)
 | t+1,ht=>by
  have hq:=hL.two
  have e:dotN add mul (fun j=>spE add mul V c (t+1) j) w N=dotN add mul (fun j=>add (spE add mul V c t j) (mul (c t) (V t j))) w N:=rfl
  rw [e,zf2 (v:=fun j=>mul (c t) (V t j)) hL N fun j hj=>⟨zcR hL _ _ _,hL.mulLt _ _,hw j hj⟩,zin hL hV hw hc h0 t (by omega),zgB hL (hc t (by omega)) N fun j hj=>⟨hV t (by omega) j hj,hw j hj⟩,h0 t (by omega),hL.mulZero (hc t (by omega)),hL.zeroAdd 0 (by omega)]
theorem zio {q:Nat} {add mul:Nat->Nat->Nat} [Add (El q)] [Mul (El q)] [Neg (El q)] [Zero (El q)] [One (El q)] (hq:0<q) (O:OnEl q add mul) {x y:Nat->Nat}:∀ n,(∀ j,j<n->x j<q/\y j<q)->(sumK n (fun j=>toEl q hq (x j)*toEl q hq (y j))).val=dotN add mul x y n
 | 0,_=>O.h0
 | n+1,h=>by
  show (sumK n (fun j=>toEl q hq (x j)*toEl q hq (y j))+toEl q hq (x n)*toEl q hq (y n)).val=_
  rw [O.ha,O.hm,zio hq O n fun j hj=>h j (by omega),zar hq (h n (by omega)).1,zar hq (h n (by omega)).2]
  rfl
theorem NullRel.dot {q n N a2:Nat} {add mul:Nat->Nat->Nat} {neg:Nat->Nat} {V W2:Nat->Nat->Nat} (hL:FieldLaws q add mul) (hneg:∀ x,x<q->neg x<q/\add x (neg x)=0) (hV:∀ i,i<n->∀ j,j<N->V i j<q) (h:NullRel q add mul neg n N V a2 W2) {i t:Nat} (hi:i<n) (ht:t<a2):dotN add mul (V i) (W2 t) N=0:=by
 have hq:0<q:=by have:=hL.two; omega
 obtain ⟨iA,iM,iN,i0,i1,F,ha,hm,h0,h1⟩:=zgJ hL
 have O:OnEl q add mul:=⟨F,ha,hm,h0,h1⟩
 obtain ⟨p2,hE2⟩:=h.rref
 have hW:∀ j,j<N->W2 t j<q:=fun j hj=>hE2.lt t ht j hj
 obtain ⟨_,h2⟩:=(NullRel.perp hq O hL hneg hV h (wordK q hq N (W2 t))).2 (Gen.row t ht)
 have h3:=h2 (wordK q hq N (V i)) (Gen.row i hi)
 rw [ze0 F (zbL hq N _) (zbL hq N _)] at h3
 have h4:sumK N (fun j=>ent (wordK q hq N (W2 t)) j*ent (wordK q hq N (V i)) j)=sumK N (fun j=>toEl q hq (W2 t j)*toEl q hq (V i j)):=zbt fun j hj=>by
  rw [zbT hq,zbT hq,zbi hj,zbi hj]
 rw [h4] at h3
 have h5:=zio hq O (x:=W2 t) (y:=V i) N fun j hj=>⟨hW j hj,hV i hi j hj⟩
 rw [h3,h0] at h5
 rw [zeK hL N fun j hj=>⟨hV i hi j hj,hW j hj⟩]
 exact h5.symm
theorem TabE.of_rows {row:Nat->List (Prop × Int)}:∀ {t:Nat},(∀ u,u<t->FirstErr (row u) 0)->TabE row t 0
 | 0,_=>rfl
 | t+1,h=>.inr ⟨TabE.of_rows fun u hu=>h u (by omega),h t (by omega)⟩
theorem zc4 {q N:Nat} {tl:Nat->Nat} {U:Nat->Nat->Int} {D:Nat->Nat->Prop} {t:Nat}:FirstErr (RowErrs q N tl U D t) 0↔tl t=N/\AllIn q (tl t) (U t)/\∀ j,j<t->D j t:=by
 constructor
 ·rintro (⟨_,h⟩ | ⟨h1,⟨_,h⟩ | ⟨h2,⟨_,h⟩ | ⟨h3,_⟩⟩⟩)
  ·cases h
  ·cases h
  ·cases h
  ·exact ⟨h1,h2,h3⟩
 ·rintro ⟨h1,h2,h3⟩
  exact .inr ⟨h1,.inr ⟨h2,.inr ⟨h3,rfl⟩⟩⟩
def InCos (q n N m:Nat) (add mul:Nat->Nat->Nat) (V:Nat->Nat->Nat) (U R:Nat->Nat->Int):Prop :=
 ∀ i,i<m->(∀ j,j<N->R i j=U i j)∨∃ l,∀ j,j<N->R i j=(add (U i j).toNat (spE add mul V (msgD q n l) n j):Nat)
section
variable {q n N m a2:Nat} {add mul:Nat->Nat->Nat} {neg:Nat->Nat} {V W2:Nat->Nat->Nat} {tl:Nat->Nat} {U R:Nat->Nat->Int}
theorem zlK (hL:FieldLaws q add mul) (hneg:∀ x,x<q->neg x<q/\add x (neg x)=0) (hV:∀ i,i<n->∀ j,j<N->V i j<q) (h:NullRel q add mul neg n N V a2 W2) (hU:∀ i,i<m->AllIn q N (U i)) (hR:InCos q n N m add mul V U R) :
  (∀ i,i<m->AllIn q N (R i))/\∀ i,i<m->∀ s,s<a2->synT add mul W2 N R i s=synT add mul W2 N U i s:=by
 obtain ⟨p2,hE2⟩:=h.rref
 refine ⟨fun i hi j hj=>?_,fun i hi s hs=>?_⟩
 ·rcases hR i hi with e | ⟨l,e⟩
  ·rw [e j hj]; exact hU i hi j hj
  ·rw [e j hj]
   have:=hL.addLt (U i j).toNat (spE add mul V (msgD q n l) n j)
   omega
 ·have hq:0<q:=by have:=hL.two; omega
  rcases hR i hi with e | ⟨l,e⟩
  ·exact zb5 N fun j hj=>⟨by rw [e j hj],rfl⟩
  ·have hW:∀ j,j<N->W2 s j<q:=fun j hj=>hE2.lt s hs j hj
   have e1:synT add mul W2 N R i s=dotN add mul (fun j=>add (U i j).toNat (spE add mul V (msgD q n l) n j)) (W2 s) N:=zb5 N fun j hj=>⟨by rw [e j hj,Int.toNat_natCast],rfl⟩
   rw [e1,zf2 (x:=fun j=>(U i j).toNat) hL N fun j hj=>⟨by have:=hU i hi j hj; show (U i j).toNat<q; omega,zcR hL _ _ _,hW j hj⟩,
    zin hL hV hW (fun _ _=>ze4 hq) (fun u hu=>h.dot hL hneg hV hu hs) n (Nat.le_refl _),hL.addZero (zcF hL _ _ _)]
   rfl
theorem zf3 (hL:FieldLaws q add mul) (hneg:∀ x,x<q->neg x<q/\add x (neg x)=0) (hV:∀ i,i<n->∀ j,j<N->V i j<q) (h:NullRel q add mul neg n N V a2 W2) (hR:InCos q n N m add mul V U R) (hT:TabV q N n m tl U (disT a2 (synT add mul W2 N U)) 0) :
  (∀ i,i<m->AllIn q N (U i))/\m≠0/\TabV q N n m (fun _=>N) R (disT a2 (synT add mul W2 N R)) 0:=by
 rcases hT with ⟨_,e⟩ | ⟨h1,⟨_,e⟩ | ⟨h2,h3⟩⟩
 ·cases e
 ·cases e
 ·have hrows:=fun u hu=>zc4.1 (h3.rows u hu)
  have hU:∀ i,i<m->AllIn q N (U i):=fun i hi=>by
   obtain ⟨e1,e2,_⟩:=hrows i hi
   rw [e1] at e2
   exact e2
  obtain ⟨hA,hS⟩:=zlK hL hneg hV h hU hR
  refine ⟨hU,by omega,.inr ⟨h1,.inr ⟨h2,TabE.of_rows fun t ht=>zc4.2 ⟨rfl,hA t ht,fun j hj=>?_⟩⟩⟩⟩
  obtain ⟨s,hs,hne⟩:=(hrows t ht).2.2 j hj
  exact ⟨s,hs,by rw [hS j (by omega) s hs,hS t ht s hs]; exact hne⟩
end
theorem zip {q N:Nat} (U:Nat->Nat->Int) (m:Nat) (hq:2<=q) (p:Rat):evR (wtP q N (wcnt N U m) (N+1)).2 p (wtP q N (wcnt N U m) (N+1)).1=sumM (fun i=>gW (1 - p) (mkRat 1 (q - 1)*p) N (disN (U i) (fun _=>0) N)) (List.range m):=by
 rw [zjy hq p (N+1) (Nat.le_refl _),zly,zhY (fun w=>gW (1 - p) (mkRat 1 (q - 1)*p) N w)]
 rfl
theorem zc5 {α:Type} {f:α->Rat}:∀ {l:List α},(∀ x,x ∈ l->0<=f x)->0<=sumM f l
 | [],_=>Rat.le_refl
 | a :: l,h=>by
  have h1:=h a (by simp)
  have h2:=zc5 (f:=f) (l:=l) fun x hx=>h x (by simp [hx])
  show (0:Rat)<=f a+sumM f l
  grind
open Classical in
theorem zfq {K:Type} [Zero K] {s t:Rat} (h0:0<=s) (h1:0<=t):∀ x:List K,0<=wtW s t x
 | []=>by show (0:Rat)<=1; decide
 | a :: x=>by
  refine Rat.mul_nonneg ?_ (zfq h0 h1 x)
  split <;> assumption
theorem ziq (s t:Rat):∀ k,sumM (fun x:Nat=>if x=0 then s else t) (List.range (k+1))=s+(k:Rat)*t
 | 0=>by show s+0=s+((0:Nat):Rat)*t; grind
 | k+1=>by
  rw [zcD,ziq s t k,if_neg (by omega)]
  push_cast
  grind
theorem zjd {q N m:Nat} {add mul:Nat->Nat->Nat} {R:Nat->Nat->Int} (hL:FieldLaws q add mul) {s t:Rat} (h0:0<=s) (h1:0<=t) (hst:s+((q - 1:Nat):Rat)*t=1) (hR:∀ i,i<m->AllIn q N (R i)) (hne:∀ i j,i<j->j<m->∃ u,u<N/\R i u≠R j u) :
  sumM (fun i=>gW s t N (disN (R i) (fun _=>0) N)) (List.range m)<=1:=by
 classical
 have hq:0<q:=by have:=hL.two; omega
 obtain ⟨iA,iM,iN,i0,i1,F,ha,hm,hz,ho⟩:=zgJ hL
 obtain ⟨L,hLd⟩:∃ L:List (El q),L=(List.range q).map (toEl q hq):=⟨_,rfl⟩
 have hn:L.Nodup:=by
  rw [hLd]
  exact zb3 List.nodup_range fun a ha b hb e=>zdu hq (List.mem_range.1 ha) (List.mem_range.1 hb) e
 have hc:∀ a,a ∈ L:=fun a=>by
  rw [hLd]
  exact List.mem_map.2 ⟨a.val,List.mem_range.2 a.lt,El.ext' (zar hq a.lt)⟩
 have hsum:sumM (fun a=>if a=0 then s else t) L=1:=by
  rw [hLd,zfw,<-hst,<-ziq s t (q - 1),show q - 1+1=q by omega]
  refine zbe fun x hx=>?_
  have hx2:=List.mem_range.1 hx
  by_cases e:x=0
  ·rw [if_pos e,if_pos (El.ext' (by rw [zar hq hx2,hz,e]))]
  ·rw [if_neg e,if_neg (fun h=>e (by have:=congrArg El.val h; rwa [zar hq hx2,hz] at this))]
 have hw:∀ i,i<m->∀ j,j<N->(R i j).toNat<q:=fun i hi j hj=>by have:=hR i hi j hj; omega
 have e1:sumM (fun i=>gW s t N (disN (R i) (fun _=>0) N)) (List.range m)=sumM (fun x=>wtW s t x) ((List.range m).map fun i=>wordK q hq N fun j=>(R i j).toNat):=by
  rw [zfw]
  refine zbe fun i hi=>?_
  have hi2:=List.mem_range.1 hi
  rw [zhX hq hz s t N (hw i hi2)]
  have e2:∀ k,k<=N->disN (fun j=>((R i j).toNat:Nat)) (fun _=>0) k=disN (R i) (fun _=>0) k:=by
   intro k
   induction k with
   | zero=>intro _; rfl
   | succ k ih =>
    intro hk
    have h2:=hR i hi2 k (by omega)
    show disN (fun j=>((R i j).toNat:Nat)) (fun _=>0) k+(if (((R i k).toNat:Nat):Int)=0 then 0 else 1)=disN (R i) (fun _=>0) k+(if R i k=0 then 0 else 1)
    rw [ih (by omega),Int.toNat_of_nonneg h2.1]
  rw [e2 N (Nat.le_refl _)]
  unfold gW
  grind
 have hall:=zjB L s t 1 hsum N
 rw [zkG] at hall;rw [e1,<-hall]
 refine zkP (zfq h0 h1) ?_ (zfg hn N) fun x hx=>?_
 ·refine zb3 List.nodup_range fun i hi j hj e=>?_
  have hi2:=List.mem_range.1 hi
  have hj2:=List.mem_range.1 hj
  have e3:=ziY hq (hw i hi2) (hw j hj2) e
  have key:∀ u,u<N->R i u=R j u:=fun u hu=>by
   have h1:=hR i hi2 u hu
   have h2:=hR j hj2 u hu
   have h3:=e3 u hu
   omega
  rcases Nat.lt_trichotomy i j with h | h | h
  ·obtain ⟨u,hu,hx⟩:=hne i j h hj2
   exact absurd (key u hu) hx
  ·exact h
  ·obtain ⟨u,hu,hx⟩:=hne j i h hi2
   exact absurd (key u hu).symm hx
 ·obtain ⟨i,_,rfl⟩:=List.mem_map.1 hx
  exact zhW hc N _ (zbL hq N _)
theorem zgC (r:Nat):0<=mkRat 1 r:=by
 by_cases h:r=0
 ·rw [h]; decide
 ·have h1:=ziZ h
  have h2:(0:Rat)<=(r:Rat):=by exact_mod_cast Nat.zero_le r
  by_cases h3:0<=mkRat 1 r
  ·exact h3
  ·have h4:mkRat 1 r<=0:=by grind
   have h5:=Rat.mul_le_mul_of_nonneg_left h4 h2
   rw [h1] at h5
   exact absurd h5 (by rw [Rat.mul_zero]; decide)
theorem zje {q n N m a2:Nat} {add mul:Nat->Nat->Nat} {W2:Nat->Nat->Nat} {U R:Nat->Nat->Int} (hL:FieldLaws q add mul) (hT:TabV q N n m (fun _=>N) R (disT a2 (synT add mul W2 N R)) 0)
  (hle:∀ i,i<m->disN (R i) (fun _=>0) N<=disN (U i) (fun _=>0) N) {p:Rat} (h0:0<=p) (h1:p<=mkRat ((q - 1:Nat):Int) q) :
  evR (wtP q N (wcnt N U m) (N+1)).2 p (wtP q N (wcnt N U m) (N+1)).1<=evR (wtP q N (wcnt N R m) (N+1)).2 p (wtP q N (wcnt N R m) (N+1)).1 /\
   0<=evR (wtP q N (wcnt N R m) (N+1)).2 p (wtP q N (wcnt N R m) (N+1)).1/\evR (wtP q N (wcnt N R m) (N+1)).2 p (wtP q N (wcnt N R m) (N+1)).1<=1:=by
 have hq:=hL.two
 rcases hT with ⟨_,e⟩ | ⟨g1,⟨_,e⟩ | ⟨g2,g3⟩⟩
 ·cases e
 ·cases e
 have hrows:=fun u hu=>zc4.1 (g3.rows u hu)
 rw [zip U m hq p,zip R m hq p]
 obtain ⟨r,hr⟩:∃ r,r=q - 1:=⟨_,rfl⟩
 have hqr:q=r+1:=by omega
 rw [<-hr] at h1 ⊢
 have i1:=ziZ (b:=r) (by omega)
 have i2:=ziZ (b:=q) (by omega)
 rw [zh1] at h1
 have n1:=zgC r
 have c1:(q:Rat)=(r:Rat)+1:=by rw [hqr]; push_cast; rfl
 have n2:(0:Rat)<=(q:Rat):=by exact_mod_cast Nat.zero_le q
 have t0:0<=mkRat 1 r*p:=Rat.mul_nonneg n1 h0
 have k1:=Rat.mul_le_mul_of_nonneg_left h1 n2
 have k2:(q:Rat)*((r:Rat)*mkRat 1 q)=(r:Rat):=by
  have:(q:Rat)*((r:Rat)*mkRat 1 q)=(r:Rat)*((q:Rat)*mkRat 1 q):=by grind
  rw [this,i2,Rat.mul_one]
 rw [k2,c1] at k1
 have k3:=Rat.mul_le_mul_of_nonneg_left k1 n1
 have k4:mkRat 1 r*(((r:Rat)+1)*p)=p+mkRat 1 r*p:=by
  have:mkRat 1 r*(((r:Rat)+1)*p)=((r:Rat)*mkRat 1 r)*p+mkRat 1 r*p:=by grind
  rw [this,i1,Rat.one_mul]
 rw [k4,Rat.mul_comm (mkRat 1 r) (r:Rat),i1] at k3
 have ts:mkRat 1 r*p<=1 - p:=by grind
 have s0:0<=1 - p:=Rat.le_trans t0 ts
 refine ⟨zim fun i hi=>zlJ t0 ts (hle i (List.mem_range.1 hi)) (zgn _ _ _),zc5 fun i _=>zgA t0 s0 _ _,?_⟩
 refine zjd hL s0 t0 ?_ (fun i hi=>(hrows i hi).2.1) fun i j hij hj=>?_
 ·rw [<-hr]
  have:(r:Rat)*(mkRat 1 r*p)=((r:Rat)*mkRat 1 r)*p:=by grind
  rw [this,i1]
  grind
 ·obtain ⟨s,hs,hx⟩:=(hrows j hj).2.2 i hij
  by_cases hex:∃ u,u<N/\R i u≠R j u
  ·exact hex
  ·refine absurd (zb5 N fun u hu=>⟨?_,rfl⟩) hx
   by_cases e:R i u=R j u
   ·rw [e]
   ·exact absurd ⟨u,hu,e⟩ hex
theorem zf4 {x:Rat} (h:0<x):∀ n,0<powR x n
 | 0=>by show (0:Rat)<1; decide
 | n+1=>Rat.mul_pos (zf4 h n) h
theorem zlL {q N m:Nat} (R:Nat->Nat->Int) (hq:2<=q) (hm:m≠0):(wtP q N (wcnt N R m) (N+1)).1≠0:=by
 intro e
 have h:=zip (N:=N) R m hq (mkRat 1 2)
 rw [e] at h
 have e0:evR (wtP q N (wcnt N R m) (N+1)).2 (mkRat 1 2) 0=0:=rfl
 rw [e0] at h
 have i1:=ziZ (b:=q - 1) (by omega)
 have n1:=zgC (q - 1)
 have p1:0<mkRat 1 (q - 1):=by
  rcases Rat.le_iff_lt_or_eq.1 n1 with h2 | h2
  ·exact h2
  ·rw [<-h2,Rat.mul_zero] at i1; exact absurd i1 (by decide)
 have t0:0<mkRat 1 (q - 1)*mkRat 1 2:=Rat.mul_pos p1 (by decide)
 have s0:(0:Rat)<1 - mkRat 1 2:=by decide +kernel
 obtain ⟨k,rfl⟩:∃ k,m=k+1:=⟨m - 1,by omega⟩
 rw [zcD] at h
 have h3:0<gW (1 - mkRat 1 2) (mkRat 1 (q - 1)*mkRat 1 2) N (disN (R k) (fun _=>0) N):=Rat.mul_pos (zf4 t0 _) (zf4 s0 _)
 have h4:=zc5 (f:=fun i=>gW (1 - mkRat 1 2) (mkRat 1 (q - 1)*mkRat 1 2) N (disN (R i) (fun _=>0) N)) (l:=List.range k) fun i _=>zgA (Rat.le_of_lt t0) (Rat.le_of_lt s0) _ _
 grind
def RowMix (w0 w:World) (base:Nat) (r:Value) (k:Nat) (y:Nat->Int):Prop :=
 (∃ RA rc,r=.slice RA k rc/\k<=rc/\rc<=maxLen/\IntsR w0 w0.heap.size RA k y)∨Own w base 3 1 r k (fun j _=>.int .i64 (y j))
def MixT (w0 w:World) (base:Nat) (v:Value) (n k:Nat) (R:Nat->Nat->Int):Prop :=
 ∃ Rv:Nat->Value,Own w base 22 1 v n (fun i _=>Rv i)/\∀ i,i<n->RowMix w0 w base (Rv i) k (R i)
section
variable {w0 w w':World} {base n k:Nat} {v r:Value} {y:Nat->Int} {R:Nat->Nat->Int}
theorem RowMix.shape (h:RowMix w0 w base r k y):∃ A c,r=.slice A k c:=by
 rcases h with ⟨RA,rc,e,_⟩ | h
 ·exact ⟨RA,rc,e⟩
 ·exact h.shape
theorem RowMix.on (h:RowMix w0 w base r k y) (hb:Below w.heap.size w w'):RowMix w0 w' base r k y:=by
 rcases h with h | h
 ·exact .inl h
 ·exact .inr (h.on hb)
theorem RowMix.ints {A:Option Addr} {c:Nat} (h:RowMix w0 w base (.slice A k c) k y) (hb:Below w0.heap.size w0 w):IntsR w w.heap.size A k y/\k<=c/\c<=maxLen:=by
 rcases h with ⟨RA,rc,e,h1,h2,h3⟩ | h
 ·injection e with e1 e2 e3
  subst e1 e3
  exact ⟨h3.on hb,h1,h2⟩
 ·exact ⟨h.rd rfl,h.capL⟩
theorem MixT.nil (w0 w:World) (base k:Nat) (R:Nat->Nat->Int):MixT w0 w base (.slice none 0 0) 0 k R:=⟨fun _=>undef,Own.nil _ _ _ _ _,fun i hi=>absurd hi (by omega)⟩
theorem MixT.on (h:MixT w0 w base v n k R) (hb:Below w.heap.size w w'):MixT w0 w' base v n k R:=by
 obtain ⟨Rv,h1,h2⟩:=h
 exact ⟨Rv,h1.on hb,fun i hi=>(h2 i hi).on hb⟩
theorem MixT.lt (h:MixT w0 w base v n k R):∀ q,v.ownBlock=some q->base<=q:=fun q e=>(h.choose_spec.1.lt q e).1
theorem MixT.rows (h:MixT w0 w base v n k R) (hb:Below w0.heap.size w0 w) (hi:∀ i,i<n->∀ j,j<k -> -9223372036854775808<=R i j/\R i j<=9223372036854775807):∃ O c,v=.slice O n c/\IntRows w O n (fun _=>k) R:=by
 obtain ⟨Rv,h1,h2⟩:=h
 obtain ⟨O,c,rfl⟩:=h1.shape
 refine ⟨O,c,rfl,fun i hi'=>?_⟩
 obtain ⟨b,off,e,hb2,hcell⟩:=h1.rd rfl i hi'
 have hc0:=hcell 0 (by omega)
 rw [Nat.mul_one,Nat.add_zero] at hc0
 have h3:=h2 i hi'
 obtain ⟨A,cc,hR⟩:=h3.shape
 simp only [hR] at hc0
 rw [hR] at h3
 obtain ⟨g1,g2,g3⟩:=h3.ints hb
 exact ⟨b,off,A,cc,e,hb2,hc0,g2,g3,g1,hi i hi'⟩
theorem zdh {ops:Array Oper} {rest:List Oper} {o:Oper} {a:Act} {Q:Exit->Act->World->Prop} (hgd:o.guard=none) (sl x:Operand)
  (ho:o.op=.call { callee:=.builtin .append,args:=#[sl,x],argTypes:=#[25, 25] })
  (h:MixT w0 w base v n k R) (hv:a.eval sl=v) {ad:Addr} {c:Nat} (hx:a.eval x=.slice (some ad) 1 c)
  (hcell:w.cell? (ad.add 0)=some r) (h1:r.oneCell'=true) (hrow:RowMix w0 w base r k y) (hbase:base<=w.heap.size) (hN:n<=1048576)
  (K:∀ v' w',MixT w0 w' base v' (n+1) k (fun u=>if u=n then y else R u)->w.grownBy w' v.ownBlock->wpList Tryz.prog ops Q rest (a.put o.dst v') w'):wpList Tryz.prog ops Q (o :: rest) a w:=by
 obtain ⟨Rv,hA,hB⟩:=h
 obtain ⟨i0,qi0,qz0,qz1,qz2⟩:=info_parts Tryz.infoInts
 have hown:Own w base 22 1 v n (fun i _=>if i=n then r else Rv i):=hA.congr fun i hi _ _=>by rw [if_neg (by omega)]
 refine zam w hgd sl x _ ho base 22 i0 _ 1 24 Tryz.underlying25 qi0 qz0 qz1 qz2 rfl (by omega) v n _ hv hown ad c hx (fun j hj=>by
   obtain rfl:j=0:=by omega
   rw [if_pos rfl]
   exact hcell) (fun _ _=>by rw [if_pos rfl]; exact h1) (by unfold maxLen; omega) (by omega) hbase ?_
 intro v' w3 hown3 hg3 _
 have ne:(22 : Nat) ≠ 3 := by decide
 have kept:∀ r2 y2,RowMix w0 w base r2 k y2->RowMix w0 w3 base r2 k y2:=fun r2 y2 hh=>by
  rcases hh with hh | hh
  ·exact .inl hh
  ·exact .inr (hh.kept hg3 (zcO hA hh ne))
 refine K v' w3 ⟨fun i=>if i=n then r else Rv i,hown3,fun i hi=>?_⟩ hg3
 show RowMix w0 w3 base (if i=n then r else Rv i) k (if i=n then y else R i)
 by_cases e:i=n
 ·rw [if_pos e,if_pos e]
  exact kept _ _ hrow
 ·rw [if_neg e,if_neg e]
  exact kept _ _ (hB i (by omega))
end
def LeadRow (P M N l:Nat) (Wd:Nat->Nat->Nat) (u y:Nat->Int):Prop :=
 ((∀ j,j<N->y j=u j)∨∃ t,t<l/\∀ j,j<N->y j=(addF P M (u j).toNat (Wd t j):Nat))/\disN y (fun _=>0) N<=disN u (fun _=>0) N
def LeadPost (P M N m l:Nat) (Wd:Nat->Nat->Nat) (U:Nat->Nat->Int) (w:World) (e:Ending) (w':World):Prop :=
 ∃ O c R,e=.returned (.slice O m c)/\IntRows w' O m (fun _=>N) R/\(∀ i,i<m->LeadRow P M N l Wd (U i) (R i))/\Below w.heap.size w w'
theorem zg5 (P M:Nat) (m':Nat->Nat) (A:Option Addr) (k c N:Nat) (T:Option Addr) (n d:Nat) (V:Nat->Nat->Nat) (TW:Option Addr) (l cw:Nat) (Wd:Nat->Nat->Nat) (T2:Option Addr) (m d2:Nat) (U:Nat->Nat->Int) (w:World) (h:CodeR w P M m' A k N T n V) (hw:MRows w TW l N Wd) (hwl:∀ t,t<l->∀ j,j<N->Wd t j<P ^ M) (h2:IntRows w T2 m (fun _=>N) U) (hU:∀ i,i<m->AllIn (P ^ M) N (U i)) (hl:l<=65536) (hm:m<=65536) :
  Calls Tryz.prog 36 #[.agg #[.int .i64 (P:Nat),.int .i64 (M:Nat),.slice A k c,.int .i64 (N:Nat),.slice T n d],.slice TW l cw,.slice T2 m d2] w (LeadPost P M N m l Wd U w):=by
 have H2:=hid h2
 have HW:=hid hw
 have HWL:=hid hwl
 have HU:=hid hU
 have hN:=h.ln2
 have hfo:=h.fld.1
 have hLw:=fieldLaws h.fld
 have HLT:Hid (∀ x y,addF P M x y<P ^ M):=hLw.addLt
 have hq256:=hfo.2.2.2
 clear h h2 hw hU hwl hLw
 have hmk:=fun W=>zan (P:=Tryz.prog) 22 3 _ 8 Tryz.underlying22 Tryz.infoInt rfl (N:Int) (by omega) (by omega) (by omega) W
 simp only [Int.toNat_natCast] at hmk
 have HMK:=hid hmk
 clear hmk
 have rf:=zao (w:=w) (a:=.int .i64 (P:Nat)) (b:=.int .i64 (M:Nat)) (c:=.slice A k c) (d:=.int .i64 (N:Nat)) (e:=.slice T n d) (T := 27)
 have hB:Below w.heap.size w (w.alloc (.cells #[.int .i64 (P:Nat),.int .i64 (M:Nat),.slice A k c,.int .i64 (N:Nat),.slice T n d] 27)):=(Below.refl _ _).alloc (Nat.le_refl _) _
 obtain ⟨w1,hw1⟩:∃ W,W=w.alloc (.cells #[.int .i64 (P:Nat),.int .i64 (M:Nat),.slice A k c,.int .i64 (N:Nat),.slice T n d] 27):=⟨_,rfl⟩
 rw [<-hw1] at hB rf
 have HRF:=hid rf
 have H0:=hid (MixT.nil w w1 w.heap.size N U)
 clear rf
 go_enter Tryz.func36, Tryz.ntmps36
 go_upto_region 1 with fail
 rw [<-hw1];clear hw1
 go_wp2
 obtain ⟨nv,hnv⟩:∃ x:Value,x=.slice none 0 0:=⟨_,rfl⟩
 rw [<-hnv] at H0 ⊢;clear hnv
 go_loopg [7,8] m (fun gg ov iv wx=>∃ i:Nat,∃ R:Nat->Nat->Int,iv=.int .i64 (i:Nat)/\i<=m/\m<=i+gg/\Hid (MixT w wx w.heap.size ov i N R)/\Hid (∀ u,u<i->LeadRow P M N l Wd (U u) (R u))/\Hid (wx.rowIs w.heap.size 27 5 (codCell (.int .i64 (P:Nat)) (.int .i64 (M:Nat)) (.slice A k c) (.int .i64 (N:Nat)) (.slice T n d)))/\Below w.heap.size w wx)
 case atStart=>exact ⟨0,U,rfl,by omega,by omega,H0,fun u hu=>absurd hu (by omega),HRF,hB⟩
 case round =>
  clear H0 HRF hB
  obtain ⟨i,R,rfl,hi,hig,HM,HR,HRF,hB⟩:=hrel
  have hi0:(0:Int)<=(i:Int):=by omega
  by_cases him:i<m
  ·have him':(i:Int)<(m:Int):=by omega
   obtain ⟨tb,to0,RA,rc,hTe,htb,t0,htl,hrcm,hrow,_⟩:=H2.out i him
   subst hTe
   have HTB:=hid htb
   have HT0:=hid t0
   have hY0:Hid (RowMix w wr w.heap.size (.slice RA N rc) N (U i)):=.inl ⟨RA,rc,rfl,htl,hrcm,hrow⟩
   have hL0:Hid (LeadRow P M N l Wd (U i) (U i)):=⟨.inl fun _ _=>rfl,Nat.le_refl _⟩
   have HROW:=hid hrow
   have q9:wr.cell? ⟨tb,to0+i,none⟩=some (.slice RA N rc):=(hB.cell (p:=⟨tb,to0+i,none⟩) htb).trans t0
   clear t0 htl hrcm hrow htb
   obtain ⟨gO,hgO⟩:∃ x,x=gk:=⟨_,rfl⟩
   subst hgO
   obtain ⟨w2,hw2⟩:∃ X,X=wr:=⟨_,rfl⟩
   subst hw2
   have HB2:=hid hB
   clear hB
   go_wp2
   clear q9
   go_loopg [9,10] l (fun gg bv jv wx=>∃ j:Nat,∃ BA bc,∃ y:Nat->Int,jv=.int .i64 (j:Nat)/\j<=l/\l<=j+gg/\bv=.slice BA N bc/\Hid (RowMix w wx w.heap.size (.slice BA N bc) N y)/\Hid (LeadRow P M N l Wd (U i) y)/\Hid (wx.rowIs w.heap.size 27 5 (codCell (.int .i64 (P:Nat)) (.int .i64 (M:Nat)) (.slice A k c) (.int .i64 (N:Nat)) (.slice T n d)))/\Below w2.heap.size w2 wx)
   case atStart=>exact ⟨0,RA,rc,U i,rfl,by omega,by omega,rfl,hY0,hL0,HRF,Below.refl _ _⟩
   case round =>
    clear HRF hY0 hL0
    obtain ⟨j,BA,bc,y,rfl,hj,hjg,rfl,HY,HLR,HRF,hB⟩:=hrel
    have hj0:(0:Int)<=(j:Int):=by omega
    by_cases hjl:j<l
    ·have hjl':(j:Int)<(l:Int):=by omega
     obtain ⟨wb,wo,XA,xc,hXe,hwb,x0,_,_,hxrow,_⟩:=HW.out j hjl
     subst hXe
     have HXB:=hid hwb
     have HX0:=hid x0
     have HXR:=hid hxrow
     clear hwb x0 hxrow
     obtain ⟨gP,hgP⟩:∃ x,x=gk:=⟨_,rfl⟩
     subst hgP
     obtain ⟨w3,hw3⟩:∃ X,X=wr:=⟨_,rfl⟩
     subst hw3
     have q3:=qc3 HRF.out
     have hmk:=HMK.out
     go_upto_region 10 with fail
     have kb:=(Below.refl w3.heap.size w3).alloc (Nat.le_refl _) (Obj.cells (madeCells #[Value.int .i64 0] N) 3)
     have ra:=World.rowIs_made w3 (.int .i64 0) N 3
     have hB3:=onS HB2.out hB
     have hgz:=hB3.size
     have hfl:=HRF.out.lt
     have hgf:w3.heap.size≠w.heap.size:=by omega
     obtain ⟨w4,hw4⟩:∃ W,W=w3.alloc (Obj.cells (madeCells #[Value.int .i64 0] N) 3):=⟨_,rfl⟩
     obtain ⟨g,hg⟩:∃ b,b=w3.heap.size:=⟨_,rfl⟩
     rw [<-hw4] at kb ra ⊢;rw [<-hg] at ra hgz hgf ⊢
     have HY4:=hid (HY.out.on kb)
     have HRF4:=hid (zaa HRF.out kb)
     have HB4:=hid (onS hB kb)
     have HBA:=hid (onS hB3 kb)
     have HGF:=hid hgf
     have HGZ:=hid hgz
     have HG2:=hid (show w2.heap.size<=g by rw [hg]; exact hB.size)
     have HNE:Hid (∀ w':World,RowMix w w' w.heap.size (.slice BA N bc) N y->∀ (t:Nat) (v:Value),RowMix w (w'.setCell ⟨g,t,none⟩ v) w.heap.size (.slice BA N bc) N y):=fun w' h' t v=>by
      rcases h' with h' | h'
      ·exact .inl h'
      ·rcases HY.out with h3 | h3
       ·exact .inl h3
       ·refine .inr (h'.setCell (fun e=>?_) v)
        have:=(h3.lt _ e).2
        rw [hg] at this
        exact absurd this (Nat.lt_irrefl _)
     clear kb hw4 hg hmk hfl q3 HRF HY hB hB3 hgf hgz
     go_wp2
     go_loopg [12] N (fun gg kv wx=>∃ t:Nat,kv=.int .i64 (t:Nat)/\t<=N/\N<=t+gg/\Hid (wx.rowIs g 3 N (fun u=>.int .i64 ((if u<t then addF P M (U i u).toNat (Wd j u) else 0:Nat):Int)))/\Hid (wx.rowIs w.heap.size 27 5 (codCell (.int .i64 (P:Nat)) (.int .i64 (M:Nat)) (.slice A k c) (.int .i64 (N:Nat)) (.slice T n d)))/\Hid (Below w.heap.size w wx)/\Hid (RowMix w wx w.heap.size (.slice BA N bc) N y)/\Hid (Below w2.heap.size w2 wx))
     case atStart=>exact ⟨0,rfl,by omega,by omega,ra.congr fun t _=>by rw [if_neg (by omega)]; rfl,HRF4,HBA,HY4,HB4⟩
     case round =>
      clear ra HRF4 HBA HY4 HB4
      obtain ⟨t,rfl,ht,htg,HRA,HRF,HBA,HY,HB4⟩:=hrel
      have ht0:(0:Int)<=(t:Int):=by omega
      have q3:=qc3 HRF.out
      by_cases htN:t<N
      ·have htN':(t:Int)<(N:Int):=by omega
       obtain ⟨ub,uo,hue,hub,u0⟩:=HROW.out.at htN
       obtain ⟨xb,xo,hxe,hxb,v0⟩:=HXR.out.at htN
       have hg0:=HGZ.out
       have q0:=qc0 HRF.out
       have q1:=qc1 HRF.out
       have q2:=qc2 HRF.out
       have q4:wr.cell? ⟨tb,to0+i,none⟩=some (.slice RA N rc):=(HBA.out.cell (p:=⟨tb,to0+i,none⟩) HTB.out).trans HT0.out
       have q5:wr.cell? ⟨wb,wo+j,none⟩=some (.slice XA N xc):=(HBA.out.cell (p:=⟨wb,wo+j,none⟩) HXB.out).trans HX0.out
       have q6:=(HBA.out.cell (p:=⟨ub,uo+t,none⟩) hub).trans u0
       have q7:=(HBA.out.cell (p:=⟨xb,xo+t,none⟩) hxb).trans v0
       have hUi:=HU.out i him t htN
       obtain ⟨X,hX⟩:∃ X,X=(U i t).toNat:=⟨_,rfl⟩
       have hXi:U i t=(X:Int):=by omega
       have hXq:X<P ^ M:=by omega
       rw [hXi] at q6
       obtain ⟨Z,hZ⟩:∃ Z,Z=Wd j t:=⟨_,rfl⟩
       have hZq:Z<P ^ M:=by rw [hZ]; exact HWL.out j hjl t htN
       rw [<-hZ] at q7
       have HX:=hid hX
       have HZ:=hid hZ
       have HIX:=hid (zaH hXq)
       have HIZ:=hid (zaH hZq)
       subst hue hxe
       clear hX hXi hZ u0 v0 hub hxb hUi hXq hZq
       obtain ⟨w5,hw5⟩:∃ X,X=wr:=⟨_,rfl⟩
       rw [<-hw5] at q0 q1 q2 q3 q4 q5 q6 q7 HRA HRF HBA HY HB4 ⊢;clear hw5
       go_wp2
       clear q3
       refine wp_region_held_drew (S:=fun w'=>w'.cell? ⟨w.heap.size,0,none⟩=some (.int .i64 (P:Nat))/\w'.cell? ⟨w.heap.size,1,none⟩=some (.int .i64 (M:Nat))/\w'.cell? ⟨w.heap.size,2,none⟩=some (.slice A k c)/\w'.cell? ⟨tb,to0+i,none⟩=some (.slice (some ⟨ub,uo,none⟩) N rc)/\w'.cell? ⟨wb,wo+j,none⟩=some (.slice (some ⟨xb,xo,none⟩) N xc)/\w'.cell? ⟨ub,uo+t,none⟩=some (.int .i64 (X:Int))/\w'.cell? ⟨xb,xo+t,none⟩=some (.int .i64 (Z:Int))) (by kernel_rfl) ⟨cellS (Below.refl _ _).drew q0,cellS (Below.refl _ _).drew q1,cellS (Below.refl _ _).drew q2,cellS (Below.refl _ _).drew q4,cellS (Below.refl _ _).drew q5,cellS (Below.refl _ _).drew q6,cellS (Below.refl _ _).drew q7⟩ (fun hHeld=>?_)
       obtain ⟨w6,hw⟩:∃ W,W=World.drew w5:=⟨_,rfl⟩
       have kb:Below w5.heap.size w5 w6:=by rw [hw]; exact (Below.refl _ _).drew
       rw [<-hw] at hHeld ⊢;clear hw
       have HRA6:=hid (zaa HRA.out kb)
       have HRF6:=hid (zaa HRF.out kb)
       have HBA6:=hid (onS HBA.out kb)
       have HY6:=hid (HY.out.on kb)
       have HB6:=hid (onS HB4.out kb)
       replace q0:=cellS kb q0;replace q1:=cellS kb q1;replace q2:=cellS kb q2;replace q4:=cellS kb q4;replace q5:=cellS kb q5;replace q6:=cellS kb q6;replace q7:=cellS kb q7;clear kb HRA HRF HBA HY HB4
       refine tkq 0 (h:=tkq 1 (h:=tkq 2 (h:=tkq 3 (h:=tkq 4 (h:=tkq 5 (h:=tkq 6 (h:=tkq 7 (h:=tkq 8 (h:=?_)))))))))
       refine tkq 9 (h:=tkq 10 (h:=tkq 11 (h:=tkq 12 (h:=tkq 13 (h:=tkq 14 (h:=tkq 15 (h:=tkq 16 (h:=tkq 17 (h:=?_)))))))))
       refine rdq 18 (h:=fun K hK=>?_)
       go_simp
       go_wp2_with fail
       refine (zd9 P M A k c (X:Int) (Z:Int) w6 hfo).mono ?_
       rintro e w7 ⟨rfl,kb⟩
       rw [HIX.out,HIZ.out]
       have HRA7:=hid (zaa HRA6.out kb)
       have HRF7:=hid (zaa HRF6.out kb)
       have HBA7:=hid (onS HBA6.out kb)
       have HY7:=hid (HY6.out.on kb)
       have HB7:=hid (onS HB6.out kb)
       replace q0:=cellS kb q0;replace q1:=cellS kb q1;replace q2:=cellS kb q2;replace q4:=cellS kb q4;replace q5:=cellS kb q5;replace q6:=cellS kb q6;replace q7:=cellS kb q7;clear kb HRA6 HRF6 HBA6 HY6 HB6
       obtain ⟨S,hS⟩:∃ S,S=addF P M X Z:=⟨_,rfl⟩
       rw [<-hS]
       have HS:=hid hS
       clear hS
       refine bkq hK ⟨q0,q1,q2,q4,q5,q6,q7⟩ (h:=fun hHeld=>?_)
       clear hK K
       refine tkq 19 (h:=?_)
       refine rdq 20 (h:=fun K hK=>?_)
       have c0:=HRA7.out.cell htN
       have z0:=HRA7.out.frozen t
       go_simp
       have hra2:(w7.setCell ⟨g,t,none⟩ (.int .i64 (S:Int))).rowIs g 3 N (fun u=>.int .i64 ((if u<t+1 then addF P M (U i u).toNat (Wd j u) else 0:Nat):Int)):=(HRA7.out.set t _).congr fun u hu=>by
        by_cases e:u=t
        ·subst e
         rw [if_pos rfl,if_pos (by omega),HS.out,HX.out,HZ.out]
        ·rw [if_neg e]
         by_cases e2:u<t
         ·rw [if_pos e2,if_pos (by omega)]
         ·rw [if_neg e2,if_neg (by omega)]
       have HRA8:=hid hra2
       have HRF8:=hid (HRF7.out.setOther (a:=⟨g,t,none⟩) (fun e=>HGF.out e.symm) (.int .i64 (S:Int)))
       have HBA8:=hid (show Below w.heap.size w (w7.setCell ⟨g,t,none⟩ (.int .i64 (S:Int))) from HBA7.out.setCell HGZ.out _)
       have HB8:=hid (show Below w2.heap.size w2 (w7.setCell ⟨g,t,none⟩ (.int .i64 (S:Int))) from HB7.out.setCell HG2.out _)
       have HY8:=hid (HNE.out _ HY7.out t (.int .i64 (S:Int)))
       obtain ⟨w8,hw8⟩:∃ W,W=w7.setCell ⟨g,t,none⟩ (.int .i64 (S:Int)):=⟨_,rfl⟩
       rw [<-hw8] at HRA8 HRF8 HBA8 HB8 HY8 ⊢;clear hw8 hra2 c0 z0 HRA7 HRF7 HBA7 HB7 HY7 hHeld q0 q1 q2 q4 q5 q6 q7
       have k4:w8.cell? ⟨tb,to0+i,none⟩=some (.slice (some ⟨ub,uo,none⟩) N rc):=(HBA8.out.cell (p:=⟨tb,to0+i,none⟩) HTB.out).trans HT0.out
       have k5:w8.cell? ⟨wb,wo+j,none⟩=some (.slice (some ⟨xb,xo,none⟩) N xc):=(HBA8.out.cell (p:=⟨wb,wo+j,none⟩) HXB.out).trans HX0.out
       have k6:w8.cell? ⟨ub,uo+t,none⟩=some (.int .i64 (X:Int)):=by
        obtain ⟨ub2,uo2,e,h1,h2⟩:=HROW.out.at htN
        injection e with e
        injection e with e1 e2
        subst e1 e2
        rw [(HBA8.out.cell (p:=⟨ub,uo+t,none⟩) h1).trans h2]
        have:=HU.out i him t htN
        rw [HX.out,Int.toNat_of_nonneg this.1]
       have k7:w8.cell? ⟨xb,xo+t,none⟩=some (.int .i64 (Z:Int)):=by
        obtain ⟨ub2,uo2,e,h1,h2⟩:=HXR.out.at htN
        injection e with e
        injection e with e1 e2
        subst e1 e2
        rw [(HBA8.out.cell (p:=⟨xb,xo+t,none⟩) h1).trans h2,HZ.out]
       refine bkq hK ⟨qc0 HRF8.out,qc1 HRF8.out,qc2 HRF8.out,k4,k5,k6,k7⟩ (h:=fun hHeld=>?_)
       clear hK K k4 k5 k6 k7
       refine wpAnyH_done (by kernel_rfl) ?_ _
       clear hHeld
       go_wp2
       go_roundg (gk - 1)
       case measure=>omega
       case rel=>exact ⟨t+1,by go_num,by omega,by omega,HRA8,HRF8,HBA8,HY8,HB8⟩
      ·have htN':¬ (t:Int)<(N:Int):=by omega
       obtain rfl:t=N:=by omega
       obtain ⟨z,hz⟩:∃ z:Nat->Int,z=fun u=>((addF P M (U i u).toNat (Wd j u):Nat):Int):=⟨_,rfl⟩
       have hrz:wr.rowIs g 3 t (fun u=>.int .i64 (z u)):=HRA.out.congr fun u hu=>by rw [if_pos hu,hz]
       have HZR:=hid hrz
       have HZE:=hid hz
       have hiz:IntsR wr wr.heap.size (some ⟨g,0,none⟩) t z:=zco hrz
       have HIZ:=hid hiz
       clear hrz hz hiz HRA
       obtain ⟨w5,hw5⟩:∃ X,X=wr:=⟨_,rfl⟩
       rw [<-hw5] at q3 HZR HIZ HRF HBA HY HB4 ⊢;clear hw5
       go_wp2_with fail
       refine (zdM (some ⟨g,0,none⟩) t t z w5 HIZ.out (by omega)).mono ?_
       rintro e w6 ⟨rfl,kb⟩
       have HZR6:=hid (zaa HZR.out kb)
       have HRF6:=hid (zaa HRF.out kb)
       have HBA6:=hid (onS HBA.out kb)
       have HY6:=hid (HY.out.on kb)
       have HB6:=hid (onS HB4.out kb)
       clear kb q3 HZR HIZ HRF HBA HY HB4
       obtain ⟨D1,hD1⟩:∃ D,D=disN z (fun _=>0) t:=⟨_,rfl⟩
       rw [<-hD1]
       have HD1:=hid hD1
       clear hD1
       go_wp2_with fail
       refine (zdM BA t bc y w6 (HY6.out.ints HBA6.out).1 (by omega)).mono ?_
       rintro e w7 ⟨rfl,kb⟩
       have HZR7:=hid (zaa HZR6.out kb)
       have HRF7:=hid (zaa HRF6.out kb)
       have HY7:=hid (HY6.out.on kb)
       have HB7:=hid (onS HB6.out kb)
       clear kb HZR6 HRF6 HBA6 HY6 HB6
       obtain ⟨D2,hD2⟩:∃ D,D=disN y (fun _=>0) t:=⟨_,rfl⟩
       rw [<-hD2]
       have HD2:=hid hD2
       clear hD2
       by_cases hD:D1<D2
       ·have hD':(D1:Int)<(D2:Int):=by omega
        have hYn:Hid (RowMix w w7 w.heap.size (.slice (some ⟨g,0,none⟩) t t) t z):=.inr (za6 HZR7.out HGZ.out (by unfold maxLen; omega))
        have hLn:Hid (LeadRow P M t l Wd (U i) z):=⟨.inr ⟨j,hjl,fun u _=>by rw [HZE.out]⟩,by have:=HLR.out.2; rw [<-HD1.out]; rw [<-HD2.out] at this; omega⟩
        go_wp2
        go_roundg (gP - 1)
        case measure=>omega
        case rel=>exact ⟨j+1,some ⟨g,0,none⟩,t,z,by go_num,by omega,by omega,rfl,hYn,hLn,HRF7,HB7.out⟩
       ·have hD':¬ (D1:Int)<(D2:Int):=by omega
        go_wp2
        go_roundg (gP - 1)
        case measure=>omega
        case rel=>exact ⟨j+1,BA,bc,y,by go_num,by omega,by omega,rfl,HY7,HLR,HRF7,HB7.out⟩
    ·have hjl':¬ (j:Int)<(l:Int):=by omega
     obtain ⟨w3,hw3⟩:∃ X,X=wr:=⟨_,rfl⟩
     rw [<-hw3] at HY HRF hB ⊢;clear hw3
     have kb2:=(Below.refl w3.heap.size w3).alloc (Nat.le_refl _) (Obj.cells #[Value.slice BA N bc] 22)
     have HO8:=hid ((HM.out.on hB).on kb2)
     have HY8:=hid (HY.out.on kb2)
     have HB8:=hid (onS (onS HB2.out hB) kb2)
     have HRF8:=hid (zaa HRF.out kb2)
     have HC8:Hid ((w3.alloc (Obj.cells #[Value.slice BA N bc] 22)).cell? ((⟨w3.heap.size,0,none⟩:Addr).add 0)=some (.slice BA N bc)):=tbox2
     have HZ8:=hid HB8.out.size
     have HIL:Hid (i<=1048576):=by show _<=_; omega
     have HUB:=hid HM.out.lt
     clear kb2 HY HRF hB HM
     go_wp2_with (first | (at_builtin; (refine zdh rfl (.tmp 64) (.tmp 66) rfl HO8.out rfl (ad:=⟨w3.heap.size,0,none⟩) (c:=1) rfl HC8.out rfl HY8.out HZ8.out HIL.out ?_); intro v9 w9 o1 o2))
     have HM9:=hid o1
     have HB9:=hid (HB8.out.grown o2 HZ8.out HUB.out)
     have HRF9:=hid (HRF8.out.of_block (o2.block _ HRF8.out.lt fun e=>absurd (zap HRF8.out HO8.out.choose_spec.1 (by decide)) (by rw [<-e]; simp)))
     have HR9:Hid (∀ u,u<i+1->LeadRow P M N l Wd (U u) (if u=i then y else R u)):=fun u hu=>by
      by_cases e:u=i
      ·rw [if_pos e,e]; exact HLR.out
      ·rw [if_neg e]; exact HR.out u (by omega)
     clear o1 o2
     go_wp2
     go_roundg (gO - 1)
     case measure=>omega
     case rel=>exact ⟨i+1,fun u=>if u=i then y else R u,by go_num,by omega,by omega,HM9,HR9,HRF9,HB9.out⟩
  ·have him':¬ (i:Int)<(m:Int):=by omega
   obtain rfl:i=m:=by omega
   have hrg:∀ u,u<i->∀ j,j<N -> -9223372036854775808<=R u j/\R u j<=9223372036854775807:=fun u hu j hj=>by
    have h1:=HU.out u hu j hj
    rcases (HR.out u hu).1 with e | ⟨t,ht,e⟩
    ·rw [e j hj]; omega
    ·rw [e j hj]
     have:=HLT.out (U u j).toNat (Wd t j)
     omega
   obtain ⟨O,oc,hO,hrows⟩:=HM.out.rows hB hrg
   have HROWS:=hid hrows
   subst hO
   clear hrg hrows HM
   go_wp2
   go_ret
   exact ⟨O,oc,R,rfl,HROWS.out,HR.out,hB⟩
theorem zdO (b:Bool) (v v':Value) (r r':Rat) (N:Nat) (w:World) (h:RatRaw w w.heap.size v r N) (h':RatRaw w w.heap.size v' r' N) (hN:N<=33554432) (hr:rsz r N) (hr':rsz r' N) (hb:Hid ((decide (0<=rsign r) && decide (rsign (r - r')<=0))=b)) :
  Calls Tryz.prog 27 #[v,v'] w fun e w'=>e=.returned (.bool b)/\Below w.heap.size w w':=by
 have hv:∃ s A n c A2 m c2,v=.agg #[.bool s,.slice A n c,.slice A2 m c2]:=by obtain ⟨s,A,n,c,A2,m,c2,x,y,rfl,_⟩:=h; exact ⟨s,A,n,c,A2,m,c2,rfl⟩
 obtain ⟨s,A,n,c,A2,m,c2,rfl⟩:=hv
 have hv':∃ s A n c A2 m c2,v'=.agg #[.bool s,.slice A n c,.slice A2 m c2]:=by obtain ⟨s,A,n,c,A2,m,c2,x,y,rfl,_⟩:=h'; exact ⟨s,A,n,c,A2,m,c2,rfl⟩
 obtain ⟨s',A',n',c',A2',m',c2',rfl⟩:=hv'
 have hb0:=zab w (.cells #[.bool s,.slice A n c,.slice A2 m c2] 49)
 have hb1:=zab (w.alloc (.cells #[.bool s,.slice A n c,.slice A2 m c2] 49)) (.cells #[.bool s',.slice A' n' c',.slice A2' m' c2'] 49)
 have s0:(w.alloc (.cells #[.bool s,.slice A n c,.slice A2 m c2] 49)).heap.size=w.heap.size+1:=by simp
 have ra:=zaa (zah (w:=w) (a:=.bool s) (b:=.slice A n c) (c:=.slice A2 m c2) (T := 49)) hb1
 have rb:=zah (w:=w.alloc (.cells #[.bool s,.slice A n c,.slice A2 m c2] 49)) (a:=.bool s') (b:=.slice A' n' c') (c:=.slice A2' m' c2') (T := 49)
 have hB:=onS hb0 hb1
 rw [s0] at rb
 obtain ⟨w1,hw1⟩:∃ W,W=(w.alloc (.cells #[.bool s,.slice A n c,.slice A2 m c2] 49)).alloc (.cells #[.bool s',.slice A' n' c',.slice A2' m' c2'] 49):=⟨_,rfl⟩
 rw [<-hw1] at ra rb hB
 have HA:=hid h
 have HA':=hid h'
 clear hb0 hb1 s0 h h'
 go_enter Tryz.func27, Tryz.ntmps27
 go_upto_region 1 with fail
 rw [<-hw1];clear hw1
 have a0:=qc0 ra
 have a1:=qc1 ra
 have a2:=qc2 ra
 go_wp2_with fail
 refine (zd4 _ r N _ (HA.out.on hB) (by omega)).mono ?_
 rintro e w2 ⟨rfl,kb⟩
 replace ra:=zaa ra kb;replace rb:=zaa rb kb;replace hB:=onS hB kb;clear kb a0 a1 a2
 obtain ⟨z,hz⟩:∃ z,z=rsign r:=⟨_,rfl⟩
 rw [<-hz] at hb ⊢;clear hz
 by_cases h0:0<=z
 ·have h0':decide (z ≥ 0)=true:=by simpa using h0
  have a0:=qc0 ra
  have a1:=qc1 ra
  have a2:=qc2 ra
  have b0:=qc0 rb
  have b1:=qc1 rb
  have b2:=qc2 rb
  go_wp2_with fail
  refine (zdB _ _ r r' N _ (HA.out.on hB) (HA'.out.on hB) hN hr hr').mono ?_
  rintro e w3 ⟨rfl,kb⟩
  replace hB:=onS hB kb;clear kb a0 a1 a2 b0 b1 b2 ra rb
  obtain ⟨y,hy⟩:∃ z,z=rsign (r - r'):=⟨_,rfl⟩
  rw [<-hy] at hb ⊢;clear hy
  have hr3:Hid (decide (y<=0)=b):=by show _=_; have:=hb.out; rw [show decide (0<=z)=true by simpa using h0] at this; simpa using this
  have hb2:=hr3.out
  subst hb2
  clear hb hr3
  go_wp2
  go_ret
  exact ⟨rfl,hB⟩
 ·have h0':decide (z ≥ 0)=false:=by simp; omega
  have hr3:Hid (b=false):=by show _=_; have:=hb.out; rw [show decide (0<=z)=false by simp; omega] at this; simpa using this
  clear hb ra rb
  have hb2:=hr3.out
  subst hb2
  clear hr3
  go_wp2
  go_ret
  exact ⟨rfl,hB⟩
end Go.Proofs.YtioagplajkoohaaGreat