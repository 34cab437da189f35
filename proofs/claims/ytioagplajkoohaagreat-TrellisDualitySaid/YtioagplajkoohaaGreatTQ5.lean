/- Merged texts of a claim: Elim, Same09. -/
import Derived.Test.YtioagplajkoohaaGreatTQ3
import Derived.Test.YtioagplajkoohaaGreatTQ4
namespace Go.Proofs.YtioagplajkoohaaGreat
set_option maxRecDepth 100000
set_option maxHeartbeats 32000000
open KB KE
open Go.RowKit
def ElimPost (q:Nat) (add mul:Nat->Nat->Nat) (n k cols:Nat) (V:Nat->Nat->Nat) (w:World) (e:Ending) (w':World):Prop :=
 ∃ lv pv a c p W,e=.returned (.tuple #[lv,pv])/\MTabX w' w.heap.size lv n k W pv/\Own w' w.heap.size 3 1 pv a (fun j _=>.int .i64 (p j:Nat))/\Below w.heap.size w w' /\
  c<=cols/\(c=cols∨a=n)/\EchN q n k c a p W/\RowOps q add mul n k V W
theorem MTabX.froz {w:World} {base n k b o c:Nat} {W:Nat->Nat->Nat} {z:Value} (h:MTabX w base (.slice (some ⟨b,o,none⟩) n c) n k W z) (j:Nat):w.frozen? ⟨b,j,none⟩=false:=h.choose_spec.1.frozen j
theorem MTabX.old {w:World} {base n k b o c i:Nat} {W:Nat->Nat->Nat} {z:Value} (h:MTabX w base (.slice (some ⟨b,o,none⟩) n c) n k W z) (hi:i<n):∃ v,w.cell? ⟨b,o+i,none⟩=some v:=by
 obtain ⟨b',o',RA,rc,e,_,_,h1,_⟩:=h.row hi
 injection e with e
 injection e with e1 e2
 subst e1 e2
 exact ⟨_,h1⟩
theorem MTabX.rowne {w:World} {base n k b o c rb ro m rc:Nat} {W:Nat->Nat->Nat} {z:Value} {f:Nat->Nat->Value} (h:MTabX w base (.slice (some ⟨b,o,none⟩) n c) n k W z) (hr:Own w base 3 1 (.slice (some ⟨rb,ro,none⟩) m rc) m f):rb≠b:=by
 obtain ⟨R,h1,_⟩:=h
 rcases zc2 h1 hr (by decide) with h3 | h3
 ·cases h3
 ·exact fun e=>h3 (by rw [e]; rfl)
theorem ziC {P M a t:Nat} {m u v:Nat->Nat} (hF:FieldLaws (P ^ M) (addF P M) (mulF P M m)) (ha:a<P ^ M) (hv:v t<P ^ M):atF P M m a v u t=addF P M (v t) (mulF P M m a (u t)):=by
 unfold atF
 split
 ·rename_i h
  rw [h,hF.mulZero ha,hF.addZero hv]
 ·rfl
theorem zgm {P M y x:Nat} {m:Nat->Nat} (hF:FieldLaws (P ^ M) (addF P M) (mulF P M m)) (hx:x<P ^ M) (hx0:x≠0) (hy:y<P ^ M) (h:(∃ z,1<=z/\z<P ^ M/\mulF P M m x z=1)->mulF P M m x y=1):mulF P M m y x=1/\y≠0:=by
 have h1:mulF P M m x y=1:=by
  obtain ⟨z,hz,e⟩:=hF.inv x hx hx0
  refine h ⟨z,?_,hz,e⟩
  rcases Nat.eq_zero_or_pos z with h0 | h0
  ·subst h0
   rw [hF.mulZero hx] at e
   cases e
  ·exact h0
 refine ⟨by rw [hF.mulComm y x hy hx]; exact h1,fun e=>?_⟩
 rw [e,hF.mulZero hx] at h1
 cases h1
theorem ziD (P M:Nat) (A:Option Addr) (k c:Nat) (m:Nat->Nat) (T:Option Addr) (n d kc cols:Nat) (V:Nat->Nat->Nat) (w:World) (hf:FieldOk P M m) (hm:ModOk w P M A m) (hkM:M=1∨k=M)
  (h:MRows w T n kc V) (hV:∀ i,i<n->∀ j,j<kc->V i j<P ^ M) (hcK:cols<=kc) (hK:0<kc) (hK2:kc<=1048576) (hn:n<=1048576) :
  Calls Tryz.prog 158 #[.agg #[.int .i64 (P:Nat),.int .i64 (M:Nat),.slice A k c],.slice T n d,.int .i64 (cols:Nat)] w (ElimPost (P ^ M) (addF P M) (mulF P M m) n kc cols V w):=by
 have hfo:=hf.1
 have hL:=fieldLaws hf
 have hB:Below w.heap.size w (w.alloc (.cells #[.int .i64 (P:Nat),.int .i64 (M:Nat),.slice A k c] 24)):=(Below.refl _ _).alloc (Nat.le_refl _) _
 have rf:=zad (w:=w) (a:=.int .i64 (P:Nat)) (b:=.int .i64 (M:Nat)) (c:=.slice A k c) (T := 24)
 obtain ⟨w0,hw0⟩:∃ W,W=w.alloc (.cells #[.int .i64 (P:Nat),.int .i64 (M:Nat),.slice A k c] 24):=⟨_,rfl⟩
 rw [<-hw0] at hB rf
 have HST:=hid (EchN.start (pv:=fun _=>0) hV)
 go_enter Tryz.func158, Tryz.ntmps158
 go_upto_region 1 with fail
 rw [<-hw0];clear hw0
 have hr0:MRows w0 T n kc V:=h.on hB
 clear h hV
 go_wp2_with fail
 refine (zge T n kc d V w0 hr0 hK hK2 hn).mono ?_
 rintro e w1 ⟨lv,rfl,hM0,kb⟩
 have hBs:w.heap.size+1<=w0.heap.size:=rf.lt
 have hM:=(hM0.mono hBs).x (z:=.slice none 0 0) rfl
 replace rf:=zaa rf kb;replace hB:=onS hB kb
 have HB1:w.heap.size+1<=w1.heap.size:=rf.lt
 clear hr0 hM0 kb hBs
 obtain ⟨LA,lc,hlv⟩:=hM.tab.shape
 subst hlv
 have hPv:=Own.nil w1 (w.heap.size+1) 3 1 (fun j _=>.int .i64 ((0:Nat):Int))
 go_wp2
 obtain ⟨nv,hnv⟩:∃ x:Value,x=.slice none 0 0:=⟨_,rfl⟩
 rw [<-hnv] at hM hPv ⊢;clear hnv
 go_loopg [9,10,11] cols (fun gg pv av cv wx=>∃ a c0:Nat,∃ p W,av=.int .i64 (a:Nat)/\cv=.int .i64 (c0:Nat)/\c0<=cols/\cols<=c0+gg/\Hid (EchN (P ^ M) n kc c0 a p W)/\Hid (RowOps (P ^ M) (addF P M) (mulF P M m) n kc V W)/\MTabX wx (w.heap.size+1) (.slice LA n lc) n kc W pv/\Own wx (w.heap.size+1) 3 1 pv a (fun j _=>.int .i64 (p j:Nat))/\wx.rowIs w.heap.size 24 3 (fldCell (.int .i64 (P:Nat)) (.int .i64 (M:Nat)) (.slice A k c))/\Below w.heap.size w wx)
 case atStart=>exact ⟨0,0,fun _=>0,V,rfl,rfl,by omega,by omega,HST,hid .refl,hM,hPv,rf,hB⟩
 case round =>
  clear hM hPv rf hB HB1
  obtain ⟨a,c0,p,W,rfl,rfl,hc,hcg,HE,HR,hM,hP,rf,hB⟩:=hrel
  have han:=HE.out.le
  by_cases hcl:c0<cols
  ·have hcl' : (c0 : Int) < (cols : Int) := by omega
   by_cases hal:a<n
   ·have hal' : (a : Int) < (n : Int) := by omega
    obtain ⟨gO,hgO⟩:∃ g,g=gk:=⟨_,rfl⟩
    rw [<-hgO] at hcg
    go_wp2
    go_loopg [12] n (fun g2 tv wx=>∃ t:Nat,tv=.int .i64 (t:Nat)/\a<=t/\t<=n/\n<=t+g2/\Hid (∀ i,a<=i->i<t->W i c0=0)/\wx=wr)
    case atStart=>exact ⟨a,rfl,by omega,by omega,by omega,fun i h1 h2=>absurd h2 (by omega),rfl⟩
    case round =>
     obtain ⟨t,rfl,hat,htn,htg,HZ,hwx⟩:=hrel
     subst hwx
     by_cases htl:t<n
     ·have htl':(t:Int)<(n:Int):=by omega
      obtain ⟨tb,to0,RA,rc,hLA,htb,htbs,x0,_,hrow,hap⟩:=hM.row htl
      subst hLA
      obtain ⟨rb,ro,hRA,_,y0⟩:=(show IntsR wr wr.heap.size RA kc (fun j=>((W t j:Nat):Int)) from hrow.rd rfl).at (i:=c0) (by omega)
      subst hRA
      obtain ⟨x,hx⟩:∃ x,x=W t c0:=⟨_,rfl⟩
      rw [<-hx] at y0
      by_cases hx0:x=0
      ·have hxz:((x:Int) == 0)=true:=by simpa using hx0
       have HZ2:Hid (∀ i,a<=i->i<t+1->W i c0=0):=fun i h1 h2=>by
        by_cases e:i=t
        ·subst e; rw [<-hx,hx0]
        ·exact HZ.out i h1 (by omega)
       clear hx hx0
       go_wp2
       go_roundg (gk - 1)
       case measure=>omega
       case rel=>exact ⟨t+1,by go_num,by omega,by omega,by omega,HZ2,rfl⟩
      ·have hxz:((x:Int) == 0)=false:=by simpa using hx0
       have hck:c0<kc:=by omega
       have hxq:x<P ^ M:=by rw [hx]; exact HE.out.lt t htl c0 hck
       have HX:=hid hx
       have HX0:=hid hx0
       clear hx hx0
       have htn':((t:Int) == (n:Int))=false:=by simp; omega
       go_upto_region 11 with fail
       obtain ⟨_,_,RA2,rc2,hLA2,_,_,u0,_,hrow2,hap2⟩:=hM.row hal
       injection hLA2 with hLA2
       injection hLA2 with e1 e2
       subst e1 e2
       have hftb:w.heap.size≠tb:=by omega
       have htbB:w.heap.size<=tb:=by omega
       clear y0 htbs
       obtain ⟨W1,hW1⟩:∃ X,X=fun u=>if u=a then W t else if u=t then W a else W u:=⟨_,rfl⟩
       have HE1:=hid (HE.out.swap hat htl)
       have HR1:=hid (HR.out.swap hal htl)
       rw [<-hW1] at HE1 HR1
       have hxa:x=W1 a c0:=by rw [hW1,HX.out]; simp
       have HXA:=hid hxa
       have HWE:Hid (∀ u,u<n->∀ j,j<kc->(if u=t then W a else if u=a then W t else W u) j=W1 u j):=fun u _ j _=>by
        rw [hW1]
        by_cases e1:u=a
        ·subst e1
         by_cases e2:u=t
         ·subst e2; simp
         ·simp [e2]
        ·by_cases e2:u=t
         ·subst e2; simp [e1]
         ·simp [e1,e2]
       clear hW1 hxa
       go_cut [] (fun wx=>MTabX wx (w.heap.size+1) (.slice (some ⟨tb,to0,none⟩) n lc) n kc W1 u9/\Own wx (w.heap.size+1) 3 1 u9 a (fun j _=>.int .i64 (p j:Nat))/\wx.rowIs w.heap.size 24 3 (fldCell (.int .i64 (P:Nat)) (.int .i64 (M:Nat)) (.slice A k c))/\Below w.heap.size w wx)
       case first =>
        obtain ⟨w1,hw1⟩:∃ W,W=wr:=⟨_,rfl⟩
        rw [<-hw1] at hM hP rf hB x0 u0 hrow hrow2 ⊢;clear hw1
        refine wp_region_held_drew (S:=fun _=>True) (by kernel_rfl) trivial (fun hHeld=>?_)
        obtain ⟨w2,hw⟩:∃ W,W=World.drew w1:=⟨_,rfl⟩
        have kb:Below w1.heap.size w1 w2:=by rw [hw]; exact (Below.refl _ _).drew
        rw [<-hw];clear hw;replace rf:=zaa rf kb;replace hM:=hM.on kb;replace hP:=hP.on kb;replace hB:=onS hB kb;replace x0:=cellS kb x0;replace u0:=cellS kb u0;replace hrow:=hrow.on kb;replace hrow2:=hrow2.on kb;clear kb
        refine tkq 0 (h:=tkq 1 (h:=tkq 2 (h:=tkq 3 (h:=tkq 4 (h:=tkq 5 (h:=tkq 6 (h:=tkq 8 (h:=tkq 9 (h:=tkq 10 (h:=?_))))))))))
        refine rdq2 7 11 (h:=fun K hK=>?_) (h2:=fun K hK=>?_)
        ·go_simp
         refine bkq hK trivial (h:=fun hHeld=>?_)
         clear hK K
         refine rdq 11 (h:=fun K hK=>?_)
         go_simp
         refine bkq hK trivial (h:=fun hHeld=>?_)
         clear hK K
         refine tkq 12 (h:=?_)
         refine rdq 13 (h:=fun K hK=>?_)
         clear x0 u0
         have z0:=hM.froz (to0+a)
         obtain ⟨vo,v0⟩:=hM.old hal
         go_simp
         clear z0 v0
         have hM9:=hM.set (i:=a) hal hrow hap
         replace hP:=hM.keep (i:=a) (r:=(.slice (some ⟨rb,ro,none⟩) kc rc)) hP;replace hrow:=hM.keep (i:=a) (r:=(.slice (some ⟨rb,ro,none⟩) kc rc)) hrow;replace hrow2:=hM.keep (i:=a) (r:=(.slice (some ⟨rb,ro,none⟩) kc rc)) hrow2
         replace rf:=rf.setOther (a:=⟨tb,to0+a,none⟩) (by simpa using hftb) (.slice (some ⟨rb,ro,none⟩) kc rc)
         replace hB:=hB.setCell (p:=⟨tb,to0+a,none⟩) htbB (.slice (some ⟨rb,ro,none⟩) kc rc);replace hM:=hM9;clear hM9
         obtain ⟨w3,hw⟩:∃ W,W=World.setCell w2 ⟨tb,to0+a,none⟩ (.slice (some ⟨rb,ro,none⟩) kc rc):=⟨_,rfl⟩
         rw [<-hw] at hM rf hB hP hrow hrow2 ⊢;clear hw
         refine bkq hK trivial (h:=fun hHeld=>?_)
         clear hK K
         refine tkq 14 (h:=?_)
         refine rdq 15 (h:=fun K hK=>?_)
         have z0:=hM.froz (to0+t)
         obtain ⟨vo,v0⟩:=hM.old htl
         go_simp
         clear z0 v0
         have hM9:=hM.set (i:=t) htl hrow2 hap2
         replace hP:=hM.keep (i:=t) (r:=(.slice RA2 kc rc2)) hP;replace hrow:=hM.keep (i:=t) (r:=(.slice RA2 kc rc2)) hrow;replace hrow2:=hM.keep (i:=t) (r:=(.slice RA2 kc rc2)) hrow2
         replace rf:=rf.setOther (a:=⟨tb,to0+t,none⟩) (by simpa using hftb) (.slice RA2 kc rc2)
         replace hB:=hB.setCell (p:=⟨tb,to0+t,none⟩) htbB (.slice RA2 kc rc2);replace hM:=hM9;clear hM9
         obtain ⟨w4,hw⟩:∃ W,W=World.setCell w3 ⟨tb,to0+t,none⟩ (.slice RA2 kc rc2):=⟨_,rfl⟩
         rw [<-hw] at hM rf hB hP hrow hrow2 ⊢;clear hw
         refine bkq hK trivial (h:=fun hHeld=>?_)
         clear hK K
         refine wpAnyH_done (by kernel_rfl) ?_ _
         clear hHeld
         go_wp2
         go_meet
         exact ⟨hM.congr HWE.out,hP,rf,hB⟩
        ·go_simp
         refine bkq hK trivial (h:=fun hHeld=>?_)
         clear hK K
         refine rdq 7 (h:=fun K hK=>?_)
         go_simp
         refine bkq hK trivial (h:=fun hHeld=>?_)
         clear hK K
         refine tkq 12 (h:=?_)
         refine rdq 13 (h:=fun K hK=>?_)
         clear x0 u0
         have z0:=hM.froz (to0+a)
         obtain ⟨vo,v0⟩:=hM.old hal
         go_simp
         clear z0 v0
         have hM9:=hM.set (i:=a) hal hrow hap
         replace hP:=hM.keep (i:=a) (r:=(.slice (some ⟨rb,ro,none⟩) kc rc)) hP;replace hrow:=hM.keep (i:=a) (r:=(.slice (some ⟨rb,ro,none⟩) kc rc)) hrow;replace hrow2:=hM.keep (i:=a) (r:=(.slice (some ⟨rb,ro,none⟩) kc rc)) hrow2
         replace rf:=rf.setOther (a:=⟨tb,to0+a,none⟩) (by simpa using hftb) (.slice (some ⟨rb,ro,none⟩) kc rc)
         replace hB:=hB.setCell (p:=⟨tb,to0+a,none⟩) htbB (.slice (some ⟨rb,ro,none⟩) kc rc);replace hM:=hM9;clear hM9
         obtain ⟨w3,hw⟩:∃ W,W=World.setCell w2 ⟨tb,to0+a,none⟩ (.slice (some ⟨rb,ro,none⟩) kc rc):=⟨_,rfl⟩
         rw [<-hw] at hM rf hB hP hrow hrow2 ⊢;clear hw
         refine bkq hK trivial (h:=fun hHeld=>?_)
         clear hK K
         refine tkq 14 (h:=?_)
         refine rdq 15 (h:=fun K hK=>?_)
         have z0:=hM.froz (to0+t)
         obtain ⟨vo,v0⟩:=hM.old htl
         go_simp
         clear z0 v0
         have hM9:=hM.set (i:=t) htl hrow2 hap2
         replace hP:=hM.keep (i:=t) (r:=(.slice RA2 kc rc2)) hP;replace hrow:=hM.keep (i:=t) (r:=(.slice RA2 kc rc2)) hrow;replace hrow2:=hM.keep (i:=t) (r:=(.slice RA2 kc rc2)) hrow2
         replace rf:=rf.setOther (a:=⟨tb,to0+t,none⟩) (by simpa using hftb) (.slice RA2 kc rc2)
         replace hB:=hB.setCell (p:=⟨tb,to0+t,none⟩) htbB (.slice RA2 kc rc2);replace hM:=hM9;clear hM9
         obtain ⟨w4,hw⟩:∃ W,W=World.setCell w3 ⟨tb,to0+t,none⟩ (.slice RA2 kc rc2):=⟨_,rfl⟩
         rw [<-hw] at hM rf hB hP hrow hrow2 ⊢;clear hw
         refine bkq hK trivial (h:=fun hHeld=>?_)
         clear hK K
         refine wpAnyH_done (by kernel_rfl) ?_ _
         clear hHeld
         go_wp2
         go_meet
         exact ⟨hM.congr HWE.out,hP,rf,hB⟩
       case rest =>
       clear hM hP rf hB x0 u0 hrow hrow2 hap hap2
       obtain ⟨hM,hP,rf,hB⟩:=hcut
       obtain ⟨_,_,RA5,rc5,e5,_,_,x5,_,hrow5,_⟩:=hM.row hal
       injection e5 with e5
       injection e5 with e1 e2
       subst e1 e2
       obtain ⟨rb5,ro5,hRA5,hrb5,y5⟩:=(show IntsR _ _ RA5 kc (fun j=>((W1 a j:Nat):Int)) from hrow5.rd rfl).at (i:=c0) hck
       subst hRA5
       have hne5:=hM.rowne hrow5
       rw [<-HXA.out] at y5
       go_upto_if 69 with fail
       go_cut [] (fun wx=>∃ W2,Hid (EchP (P ^ M) n kc c0 a 0 p W2)/\Hid (RowOps (P ^ M) (addF P M) (mulF P M m) n kc V W2)/\MTabX wx (w.heap.size+1) (.slice (some ⟨tb,to0,none⟩) n lc) n kc W2 u9/\Own wx (w.heap.size+1) 3 1 u9 a (fun j _=>.int .i64 (p j:Nat))/\wx.rowIs w.heap.size 24 3 (fldCell (.int .i64 (P:Nat)) (.int .i64 (M:Nat)) (.slice A k c))/\Below w.heap.size w wx)
       case first =>
        by_cases h1:x=1
        ·have hx1:((x:Int) != 1)=false:=by simp; omega
         have hW:=HXA.out
         rw [h1] at hW;clear h1
         go_wp2
         go_meet
         exact ⟨W1,HE1.out.one_piv hal hW.symm,HR1,hM,hP,rf,hB⟩
        ·have hx1:((x:Int) != 1)=true:=by simp; omega
         clear h1
         obtain ⟨w1,hw1⟩:∃ W,W=wc:=⟨_,rfl⟩
         rw [<-hw1] at hM hP rf hB x5 y5 hrow5 ⊢;clear hw1
         have hix:inV (P ^ M) (x:Nat)=x:=zaE hxq
         have q0:=qc0 rf
         have q1:=qc1 rf
         have q2:=qc2 rf
         go_wp2
         refine wp_region_held_drew (S:=fun w'=>w'.cell? ⟨w.heap.size,0,none⟩=some (.int .i64 (P:Nat))/\w'.cell? ⟨w.heap.size,1,none⟩=some (.int .i64 (M:Nat))/\w'.cell? ⟨w.heap.size,2,none⟩=some (.slice A k c)/\w'.cell? ⟨rb5,ro5+c0,none⟩=some (.int .i64 (x:Nat))) (by kernel_rfl) ⟨cellS (Below.refl _ _).drew (rf.cell (i:=0) (by omega)),cellS (Below.refl _ _).drew (rf.cell (i:=1) (by omega)),cellS (Below.refl _ _).drew (rf.cell (i:=2) (by omega)),cellS (Below.refl _ _).drew (y5)⟩ (fun hHeld=>?_)
         obtain ⟨w2,hw⟩:∃ W,W=World.drew w1:=⟨_,rfl⟩
         have kb:Below w1.heap.size w1 w2:=by rw [hw]; exact (Below.refl _ _).drew
         rw [<-hw] at hHeld ⊢;clear hw;replace rf:=zaa rf kb;replace hM:=hM.on kb;replace hP:=hP.on kb;replace hB:=onS hB kb;replace x5:=cellS kb x5;replace y5:=cellS kb y5;replace hrow5:=hrow5.on kb;clear kb
         refine tkq 0 (h:=tkq 1 (h:=tkq 2 (h:=tkq 3 (h:=tkq 4 (h:=tkq 5 (h:=tkq 6 (h:=tkq 8 (h:=tkq 12 (h:=tkq 13 (h:=tkq 14 (h:=?_)))))))))))
         refine rdq2 7 15 (h:=fun K hK=>?_) (h2:=fun K hK=>?_)
         ·go_simp
          refine bkq hK ⟨qc0 rf,qc1 rf,qc2 rf,y5⟩ (h:=fun hHeld=>?_)
          clear hK K
          refine tkq 9 (h:=tkq 10 (h:=?_))
          refine rdq2 11 15 (h:=fun K hK=>?_) (h2:=fun K hK=>?_)
          ·go_simp
           go_wp2_with fail
           refine (zdt P M A k c m (x:Nat) w2 hfo (zav hm hB) hkM).mono ?_
           rintro e w3 ⟨r,rfl,kb,hrq,hri⟩
           replace rf:=zaa rf kb;replace hM:=hM.on kb;replace hP:=hP.on kb;replace hB:=onS hB kb;replace x5:=cellS kb x5;replace y5:=cellS kb y5;replace hrow5:=hrow5.on kb;clear kb;rw [hix] at hri
           obtain ⟨hr1,hr0⟩:=zgm hL hxq HX0.out hrq hri
           have HR9:=hid hr1
           have HR0:=hid hr0
           clear hri hr1 hr0
           refine bkq hK ⟨qc0 rf,qc1 rf,qc2 rf,y5⟩ (h:=fun hHeld=>?_)
           clear hK K
           refine rdq 15 (h:=fun K hK=>?_)
           go_simp
           refine bkq hK ⟨qc0 rf,qc1 rf,qc2 rf,y5⟩ (h:=fun hHeld=>?_)
           clear hK K
           refine rdq 16 (h:=fun K hK=>?_)
           have HPO:=hid hP
           go_simp
           go_wp2_with fail
           have hz9:=rf.lt
           refine (zdu P M A k c m r (some ⟨rb5,ro5,none⟩) kc rc5 (W1 a) w3 hfo (zav hm hB) hkM hrq (hrow5.rd rfl) (fun j hj=>HE1.out.lt a hal j hj) hK2).mono ?_
           rintro e w4 ⟨g,rfl,hgB,hsr,kb⟩
           replace rf:=zaa rf kb;replace hM:=hM.on kb;replace hP:=hP.on kb;replace hB:=onS hB kb;replace x5:=cellS kb x5;replace y5:=cellS kb y5;replace hrow5:=hrow5.on kb;clear kb
           have hap5:=zbE (n:=kc) HPO.out hgB
           have hsO:=zau hsr (show w.heap.size+1<=g by omega) (show kc<=maxLen by unfold maxLen; omega)
           clear hsr hz9 HPO hrow5 x5
           refine bkq hK ⟨qc0 rf,qc1 rf,qc2 rf,y5⟩ (h:=fun hHeld=>?_)
           clear hK K
           refine tkq 17 (h:=?_)
           refine rdq 18 (h:=fun K hK=>?_)
           have y59:=zab (p:=⟨tb,to0+a,none⟩) (u:=.slice (some ⟨g,0,none⟩) kc kc) y5 hne5
           clear y5
           have Y59:=hid y59
           clear y59
           have z0:=hM.froz (to0+a)
           obtain ⟨vo,v0⟩:=hM.old hal
           go_simp
           clear z0 v0
           have hM9:=hM.set (i:=a) hal hsO hap5
           replace hP:=hM.keep (i:=a) (r:=(.slice (some ⟨g,0,none⟩) kc kc)) hP;replace hsO:=hM.keep (i:=a) (r:=(.slice (some ⟨g,0,none⟩) kc kc)) hsO
           replace rf:=rf.setOther (a:=⟨tb,to0+a,none⟩) (by simpa using hftb) (.slice (some ⟨g,0,none⟩) kc kc)
           replace hB:=hB.setCell (p:=⟨tb,to0+a,none⟩) htbB (.slice (some ⟨g,0,none⟩) kc kc);replace hM:=hM9;clear hM9
           obtain ⟨w5,hw⟩:∃ W,W=World.setCell w4 ⟨tb,to0+a,none⟩ (.slice (some ⟨g,0,none⟩) kc kc):=⟨_,rfl⟩
           rw [<-hw] at hM rf hB hP hsO Y59 ⊢;clear hw
           refine bkq hK ⟨qc0 rf,qc1 rf,qc2 rf,Y59.out⟩ (h:=fun hHeld=>?_)
           clear hK K
           refine wpAnyH_done (by kernel_rfl) ?_ _
           clear hHeld;clear Y59
           go_wp2
           go_meet
           exact ⟨_,hid (HE1.out.scale hL hal hrq (by rw [<-HXA.out]; exact HR9.out)),hid (HR1.out.scale hal hrq HR0.out),hM,hP,rf,hB⟩
          ·go_simp
           refine bkq hK ⟨qc0 rf,qc1 rf,qc2 rf,y5⟩ (h:=fun hHeld=>?_)
           clear hK K
           refine rdq 11 (h:=fun K hK=>?_)
           go_simp
           go_wp2_with fail
           refine (zdt P M A k c m (x:Nat) w2 hfo (zav hm hB) hkM).mono ?_
           rintro e w3 ⟨r,rfl,kb,hrq,hri⟩
           replace rf:=zaa rf kb;replace hM:=hM.on kb;replace hP:=hP.on kb;replace hB:=onS hB kb;replace x5:=cellS kb x5;replace y5:=cellS kb y5;replace hrow5:=hrow5.on kb;clear kb;rw [hix] at hri
           obtain ⟨hr1,hr0⟩:=zgm hL hxq HX0.out hrq hri
           have HR9:=hid hr1
           have HR0:=hid hr0
           clear hri hr1 hr0
           refine bkq hK ⟨qc0 rf,qc1 rf,qc2 rf,y5⟩ (h:=fun hHeld=>?_)
           clear hK K
           refine rdq 16 (h:=fun K hK=>?_)
           have HPO:=hid hP
           go_simp
           go_wp2_with fail
           have hz9:=rf.lt
           refine (zdu P M A k c m r (some ⟨rb5,ro5,none⟩) kc rc5 (W1 a) w3 hfo (zav hm hB) hkM hrq (hrow5.rd rfl) (fun j hj=>HE1.out.lt a hal j hj) hK2).mono ?_
           rintro e w4 ⟨g,rfl,hgB,hsr,kb⟩
           replace rf:=zaa rf kb;replace hM:=hM.on kb;replace hP:=hP.on kb;replace hB:=onS hB kb;replace x5:=cellS kb x5;replace y5:=cellS kb y5;replace hrow5:=hrow5.on kb;clear kb
           have hap5:=zbE (n:=kc) HPO.out hgB
           have hsO:=zau hsr (show w.heap.size+1<=g by omega) (show kc<=maxLen by unfold maxLen; omega)
           clear hsr hz9 HPO hrow5 x5
           refine bkq hK ⟨qc0 rf,qc1 rf,qc2 rf,y5⟩ (h:=fun hHeld=>?_)
           clear hK K
           refine tkq 17 (h:=?_)
           refine rdq 18 (h:=fun K hK=>?_)
           have y59:=zab (p:=⟨tb,to0+a,none⟩) (u:=.slice (some ⟨g,0,none⟩) kc kc) y5 hne5
           clear y5
           have Y59:=hid y59
           clear y59
           have z0:=hM.froz (to0+a)
           obtain ⟨vo,v0⟩:=hM.old hal
           go_simp
           clear z0 v0
           have hM9:=hM.set (i:=a) hal hsO hap5
           replace hP:=hM.keep (i:=a) (r:=(.slice (some ⟨g,0,none⟩) kc kc)) hP;replace hsO:=hM.keep (i:=a) (r:=(.slice (some ⟨g,0,none⟩) kc kc)) hsO
           replace rf:=rf.setOther (a:=⟨tb,to0+a,none⟩) (by simpa using hftb) (.slice (some ⟨g,0,none⟩) kc kc)
           replace hB:=hB.setCell (p:=⟨tb,to0+a,none⟩) htbB (.slice (some ⟨g,0,none⟩) kc kc);replace hM:=hM9;clear hM9
           obtain ⟨w5,hw⟩:∃ W,W=World.setCell w4 ⟨tb,to0+a,none⟩ (.slice (some ⟨g,0,none⟩) kc kc):=⟨_,rfl⟩
           rw [<-hw] at hM rf hB hP hsO Y59 ⊢;clear hw
           refine bkq hK ⟨qc0 rf,qc1 rf,qc2 rf,Y59.out⟩ (h:=fun hHeld=>?_)
           clear hK K
           refine wpAnyH_done (by kernel_rfl) ?_ _
           clear hHeld;clear Y59
           go_wp2
           go_meet
           exact ⟨_,hid (HE1.out.scale hL hal hrq (by rw [<-HXA.out]; exact HR9.out)),hid (HR1.out.scale hal hrq HR0.out),hM,hP,rf,hB⟩
         ·go_simp
          refine bkq hK ⟨qc0 rf,qc1 rf,qc2 rf,y5⟩ (h:=fun hHeld=>?_)
          clear hK K
          refine rdq 7 (h:=fun K hK=>?_)
          go_simp
          refine bkq hK ⟨qc0 rf,qc1 rf,qc2 rf,y5⟩ (h:=fun hHeld=>?_)
          clear hK K
          refine tkq 9 (h:=tkq 10 (h:=?_))
          refine rdq 11 (h:=fun K hK=>?_)
          go_simp
          go_wp2_with fail
          refine (zdt P M A k c m (x:Nat) w2 hfo (zav hm hB) hkM).mono ?_
          rintro e w3 ⟨r,rfl,kb,hrq,hri⟩
          replace rf:=zaa rf kb;replace hM:=hM.on kb;replace hP:=hP.on kb;replace hB:=onS hB kb;replace x5:=cellS kb x5;replace y5:=cellS kb y5;replace hrow5:=hrow5.on kb;clear kb;rw [hix] at hri
          obtain ⟨hr1,hr0⟩:=zgm hL hxq HX0.out hrq hri
          have HR9:=hid hr1
          have HR0:=hid hr0
          clear hri hr1 hr0
          refine bkq hK ⟨qc0 rf,qc1 rf,qc2 rf,y5⟩ (h:=fun hHeld=>?_)
          clear hK K
          refine rdq 16 (h:=fun K hK=>?_)
          have HPO:=hid hP
          go_simp
          go_wp2_with fail
          have hz9:=rf.lt
          refine (zdu P M A k c m r (some ⟨rb5,ro5,none⟩) kc rc5 (W1 a) w3 hfo (zav hm hB) hkM hrq (hrow5.rd rfl) (fun j hj=>HE1.out.lt a hal j hj) hK2).mono ?_
          rintro e w4 ⟨g,rfl,hgB,hsr,kb⟩
          replace rf:=zaa rf kb;replace hM:=hM.on kb;replace hP:=hP.on kb;replace hB:=onS hB kb;replace x5:=cellS kb x5;replace y5:=cellS kb y5;replace hrow5:=hrow5.on kb;clear kb
          have hap5:=zbE (n:=kc) HPO.out hgB
          have hsO:=zau hsr (show w.heap.size+1<=g by omega) (show kc<=maxLen by unfold maxLen; omega)
          clear hsr hz9 HPO hrow5 x5
          refine bkq hK ⟨qc0 rf,qc1 rf,qc2 rf,y5⟩ (h:=fun hHeld=>?_)
          clear hK K
          refine tkq 17 (h:=?_)
          refine rdq 18 (h:=fun K hK=>?_)
          have y59:=zab (p:=⟨tb,to0+a,none⟩) (u:=.slice (some ⟨g,0,none⟩) kc kc) y5 hne5
          clear y5
          have Y59:=hid y59
          clear y59
          have z0:=hM.froz (to0+a)
          obtain ⟨vo,v0⟩:=hM.old hal
          go_simp
          clear z0 v0
          have hM9:=hM.set (i:=a) hal hsO hap5
          replace hP:=hM.keep (i:=a) (r:=(.slice (some ⟨g,0,none⟩) kc kc)) hP;replace hsO:=hM.keep (i:=a) (r:=(.slice (some ⟨g,0,none⟩) kc kc)) hsO
          replace rf:=rf.setOther (a:=⟨tb,to0+a,none⟩) (by simpa using hftb) (.slice (some ⟨g,0,none⟩) kc kc)
          replace hB:=hB.setCell (p:=⟨tb,to0+a,none⟩) htbB (.slice (some ⟨g,0,none⟩) kc kc);replace hM:=hM9;clear hM9
          obtain ⟨w5,hw⟩:∃ W,W=World.setCell w4 ⟨tb,to0+a,none⟩ (.slice (some ⟨g,0,none⟩) kc kc):=⟨_,rfl⟩
          rw [<-hw] at hM rf hB hP hsO Y59 ⊢;clear hw
          refine bkq hK ⟨qc0 rf,qc1 rf,qc2 rf,Y59.out⟩ (h:=fun hHeld=>?_)
          clear hK K
          refine wpAnyH_done (by kernel_rfl) ?_ _
          clear hHeld;clear Y59
          go_wp2
          go_meet
          exact ⟨_,hid (HE1.out.scale hL hal hrq (by rw [<-HXA.out]; exact HR9.out)),hid (HR1.out.scale hal hrq HR0.out),hM,hP,rf,hB⟩
       case rest =>
        clear hM hP rf hB x5 hrow5 y5 HE1 HR1 HXA hrb5
        obtain ⟨W2,HE2,HR2,hM,hP,rf,hB⟩:=hcut
        go_wp2
        go_loopg [13] n (fun g3 iv wx=>∃ i:Nat,∃ W3,iv=.int .i64 (i:Nat)/\i<=n/\n<=i+g3/\Hid (EchP (P ^ M) n kc c0 a i p W3)/\Hid (RowOps (P ^ M) (addF P M) (mulF P M m) n kc V W3)/\MTabX wx (w.heap.size+1) (.slice (some ⟨tb,to0,none⟩) n lc) n kc W3 u9/\Own wx (w.heap.size+1) 3 1 u9 a (fun j _=>.int .i64 (p j:Nat))/\wx.rowIs w.heap.size 24 3 (fldCell (.int .i64 (P:Nat)) (.int .i64 (M:Nat)) (.slice A k c))/\Below w.heap.size w wx)
        case atStart=>exact ⟨0,W2,rfl,by omega,by omega,HE2,HR2,hM,hP,rf,hB⟩
        case round =>
         clear hM hP rf hB
         obtain ⟨i,W3,rfl,hi,hig,HE3,HR3,hM,hP,rf,hB⟩:=hrel
         by_cases hil:i<n
         ·have hil':(i:Int)<(n:Int):=by omega
          by_cases hia:i=a
          ·have hia':((i:Int) != (a:Int))=false:=by simp [hia]
           have HE4:=hid (HE3.out.skip (.inl hia))
           clear hia
           go_wp2
           go_roundg (gk - 1)
           case measure=>omega
           case rel=>exact ⟨i+1,W3,by go_num,by omega,by omega,HE4,HR3,hM,hP,rf,hB⟩
          ·have hia':((i:Int) != (a:Int))=true:=by simp; omega
           obtain ⟨_,_,RA6,rc6,e6,_,_,x6,_,hrow6,_⟩:=hM.row hil
           injection e6 with e6
           injection e6 with e1 e2
           subst e1 e2
           obtain ⟨rb6,ro6,hRA6,hrb6,y6⟩:=(show IntsR _ _ RA6 kc (fun j=>((W3 i j:Nat):Int)) from hrow6.rd rfl).at (i:=c0) hck
           subst hRA6
           have hne6:=hM.rowne hrow6
           obtain ⟨y,hy⟩:∃ y,y=W3 i c0:=⟨_,rfl⟩
           rw [<-hy] at y6
           by_cases hy0:y=0
           ·have hyz:((y:Int) != 0)=false:=by simp [hy0]
            have HE4:=hid (HE3.out.skip (.inr (by rw [<-hy,hy0])))
            clear hia hy hy0
            go_wp2
            go_roundg (gk - 1)
            case measure=>omega
            case rel=>exact ⟨i+1,W3,by go_num,by omega,by omega,HE4,HR3,hM,hP,rf,hB⟩
           ·have hyz:((y:Int) != 0)=true:=by simp; omega
            have hyq:y<P ^ M:=by rw [hy]; exact HE3.out.ech.lt i hil c0 hck
            have HY:=hid hy
            have HIA:=hid hia
            clear hy hy0 hia
            obtain ⟨_,_,RA7,rc7,e7,_,_,x7,_,hrow7,_⟩:=hM.row hal
            injection e7 with e7
            injection e7 with e1 e2
            subst e1 e2
            have hiy:inV (P ^ M) (y:Nat)=y:=zaE hyq
            obtain ⟨w1,hw1⟩:∃ W,W=wr:=⟨_,rfl⟩
            rw [<-hw1] at hM hP rf hB x6 y6 hrow6 x7 hrow7 ⊢;clear hw1
            have q0:=qc0 rf
            have q1:=qc1 rf
            have q2:=qc2 rf
            go_wp2
            refine wp_region_held_drew (S:=fun w'=>w'.cell? ⟨w.heap.size,0,none⟩=some (.int .i64 (P:Nat))/\w'.cell? ⟨w.heap.size,1,none⟩=some (.int .i64 (M:Nat))/\w'.cell? ⟨w.heap.size,2,none⟩=some (.slice A k c)/\w'.cell? ⟨rb6,ro6+c0,none⟩=some (.int .i64 (y:Nat))/\w'.cell? ⟨tb,to0+a,none⟩=some (.slice RA7 kc rc7)) (by kernel_rfl) ⟨cellS (Below.refl _ _).drew (rf.cell (i:=0) (by omega)),cellS (Below.refl _ _).drew (rf.cell (i:=1) (by omega)),cellS (Below.refl _ _).drew (rf.cell (i:=2) (by omega)),cellS (Below.refl _ _).drew (y6),cellS (Below.refl _ _).drew (x7)⟩ (fun hHeld=>?_)
            obtain ⟨w2,hw⟩:∃ W,W=World.drew w1:=⟨_,rfl⟩
            have kb:Below w1.heap.size w1 w2:=by rw [hw]; exact (Below.refl _ _).drew
            rw [<-hw] at hHeld ⊢;clear hw;replace rf:=zaa rf kb;replace hM:=hM.on kb;replace hP:=hP.on kb;replace hB:=onS hB kb;replace x6:=cellS kb x6;replace y6:=cellS kb y6;replace x7:=cellS kb x7;replace hrow6:=hrow6.on kb;replace hrow7:=hrow7.on kb;clear kb
            refine tkq 0 (h:=tkq 1 (h:=tkq 2 (h:=tkq 3 (h:=tkq 4 (h:=tkq 5 (h:=tkq 7 (h:=tkq 8 (h:=tkq 9 (h:=tkq 10 (h:=tkq 12 (h:=tkq 16 (h:=tkq 17 (h:=tkq 18 (h:=tkq 19 (h:=?_)))))))))))))))
            refine rdq2 6 11 (h:=fun K hK=>?_) (h2:=fun K hK=>?_)
            ·go_simp
             refine bkq hK ⟨qc0 rf,qc1 rf,qc2 rf,y6,x7⟩ (h:=fun hHeld=>?_)
             clear hK K
             refine rdq 11 (h:=fun K hK=>?_)
             go_simp
             refine bkq hK ⟨qc0 rf,qc1 rf,qc2 rf,y6,x7⟩ (h:=fun hHeld=>?_)
             clear hK K
             refine tkq 13 (h:=tkq 14 (h:=?_))
             refine rdq 15 (h:=fun K hK=>?_)
             go_simp
             go_wp2_with fail
             refine (zcx P M A k c (y:Nat) w2 hfo).mono ?_
             rintro e w3 ⟨rfl,kb⟩
             replace rf:=zaa rf kb;replace hM:=hM.on kb;replace hP:=hP.on kb;replace hB:=onS hB kb;replace x6:=cellS kb x6;replace y6:=cellS kb y6;replace x7:=cellS kb x7;replace hrow6:=hrow6.on kb;replace hrow7:=hrow7.on kb;clear kb;rw [hiy]
             obtain ⟨r,hr⟩:∃ r,r=negF P M y:=⟨_,rfl⟩
             rw [<-hr]
             have hrq:r<P ^ M:=by rw [hr]; exact za7 (by have:=hfo.1; omega)
             have HR9:=hid (show addF P M y r=0 by rw [hr]; exact zaR (by have:=hfo.1; omega))
             clear hr
             refine bkq hK ⟨qc0 rf,qc1 rf,qc2 rf,y6,x7⟩ (h:=fun hHeld=>?_)
             clear hK K
             refine rdq 20 (h:=fun K hK=>?_)
             have HPO:=hid hP
             have HV6:=hid (show IntsR w3 w3.heap.size (some ⟨rb6,ro6,none⟩) kc (fun j=>((W3 i j:Nat):Int)) from hrow6.rd rfl)
             have HV7:=hid (show IntsR w3 w3.heap.size RA7 kc (fun j=>((W3 a j:Nat):Int)) from hrow7.rd rfl)
             clear hrow6 hrow7 x6
             go_simp
             go_wp2_with fail
             have hz9:=rf.lt
             refine (zb0 P M A k c m r (some ⟨rb6,ro6,none⟩) RA7 kc rc6 kc rc7 (W3 i) (W3 a) w3 hfo (zav hm hB) hkM hrq HV6.out (fun j hj=>HE3.out.ech.lt i hil j hj) HV7.out (fun j hj=>HE3.out.ech.lt a hal j hj) (Nat.le_refl _) hK2).mono ?_
             rintro e w4 ⟨g,rfl,hgB,hsr,kb⟩
             replace rf:=zaa rf kb;replace hM:=hM.on kb;replace hP:=hP.on kb;replace hB:=onS hB kb;replace y6:=cellS kb y6;replace x7:=cellS kb x7;clear kb
             have hap5:=zbE (n:=kc) HPO.out hgB
             have hsO:=(zau hsr (show w.heap.size+1<=g by omega) (show kc<=maxLen by unfold maxLen; omega)).congr (f':=fun j _=>.int .i64 ((addF P M (W3 i j) (mulF P M m r (W3 a j)):Nat):Int)) (fun j hj _ _=>by rw [ziC hL hrq (HE3.out.ech.lt i hil j hj)])
             clear hsr hz9 HPO HV6 HV7
             refine bkq hK ⟨qc0 rf,qc1 rf,qc2 rf,y6,x7⟩ (h:=fun hHeld=>?_)
             clear hK K
             refine tkq 21 (h:=?_)
             refine rdq 22 (h:=fun K hK=>?_)
             have y69:=zab (p:=⟨tb,to0+i,none⟩) (u:=.slice (some ⟨g,0,none⟩) kc kc) y6 hne6
             have Y69:=hid y69
             have x79:=zbh (p:=⟨tb,to0+i,none⟩) (u:=.slice (some ⟨g,0,none⟩) kc kc) x7 (by intro e; injection e with e1 e2; have:=HIA.out; omega)
             have X79:=hid x79
             clear y69 x79 y6 x7
             have z0:=hM.froz (to0+i)
             obtain ⟨vo,v0⟩:=hM.old hil
             go_simp
             clear z0 v0
             have hM9:=hM.set (i:=i) hil hsO hap5
             replace hP:=hM.keep (i:=i) (r:=(.slice (some ⟨g,0,none⟩) kc kc)) hP;replace hsO:=hM.keep (i:=i) (r:=(.slice (some ⟨g,0,none⟩) kc kc)) hsO
             replace rf:=rf.setOther (a:=⟨tb,to0+i,none⟩) (by simpa using hftb) (.slice (some ⟨g,0,none⟩) kc kc)
             replace hB:=hB.setCell (p:=⟨tb,to0+i,none⟩) htbB (.slice (some ⟨g,0,none⟩) kc kc);replace hM:=hM9;clear hM9
             obtain ⟨w5,hw⟩:∃ W,W=World.setCell w4 ⟨tb,to0+i,none⟩ (.slice (some ⟨g,0,none⟩) kc kc):=⟨_,rfl⟩
             rw [<-hw] at hM rf hB hP hsO Y69 X79 ⊢;clear hw
             refine bkq hK ⟨qc0 rf,qc1 rf,qc2 rf,Y69.out,X79.out⟩ (h:=fun hHeld=>?_)
             clear hK K
             refine wpAnyH_done (by kernel_rfl) ?_ _
             clear hHeld;clear Y69 X79
             go_wp2
             go_roundg (gk - 1)
             case measure=>omega
             case rel=>exact ⟨i+1,_,by go_num,by omega,by omega,hid (HE3.out.clear hL hck hil HIA.out hrq (by rw [<-HY.out]; exact HR9.out)),hid (HR3.out.add hil hal HIA.out hrq),hM,hP,rf,hB⟩
            ·go_simp
             refine bkq hK ⟨qc0 rf,qc1 rf,qc2 rf,y6,x7⟩ (h:=fun hHeld=>?_)
             clear hK K
             refine tkq 13 (h:=tkq 14 (h:=?_))
             refine rdq2 6 15 (h:=fun K hK=>?_) (h2:=fun K hK=>?_)
             ·go_simp
              refine bkq hK ⟨qc0 rf,qc1 rf,qc2 rf,y6,x7⟩ (h:=fun hHeld=>?_)
              clear hK K
              refine rdq 15 (h:=fun K hK=>?_)
              go_simp
              go_wp2_with fail
              refine (zcx P M A k c (y:Nat) w2 hfo).mono ?_
              rintro e w3 ⟨rfl,kb⟩
              replace rf:=zaa rf kb;replace hM:=hM.on kb;replace hP:=hP.on kb;replace hB:=onS hB kb;replace x6:=cellS kb x6;replace y6:=cellS kb y6;replace x7:=cellS kb x7;replace hrow6:=hrow6.on kb;replace hrow7:=hrow7.on kb;clear kb;rw [hiy]
              obtain ⟨r,hr⟩:∃ r,r=negF P M y:=⟨_,rfl⟩
              rw [<-hr]
              have hrq:r<P ^ M:=by rw [hr]; exact za7 (by have:=hfo.1; omega)
              have HR9:=hid (show addF P M y r=0 by rw [hr]; exact zaR (by have:=hfo.1; omega))
              clear hr
              refine bkq hK ⟨qc0 rf,qc1 rf,qc2 rf,y6,x7⟩ (h:=fun hHeld=>?_)
              clear hK K
              refine rdq 20 (h:=fun K hK=>?_)
              have HPO:=hid hP
              have HV6:=hid (show IntsR w3 w3.heap.size (some ⟨rb6,ro6,none⟩) kc (fun j=>((W3 i j:Nat):Int)) from hrow6.rd rfl)
              have HV7:=hid (show IntsR w3 w3.heap.size RA7 kc (fun j=>((W3 a j:Nat):Int)) from hrow7.rd rfl)
              clear hrow6 hrow7 x6
              go_simp
              go_wp2_with fail
              have hz9:=rf.lt
              refine (zb0 P M A k c m r (some ⟨rb6,ro6,none⟩) RA7 kc rc6 kc rc7 (W3 i) (W3 a) w3 hfo (zav hm hB) hkM hrq HV6.out (fun j hj=>HE3.out.ech.lt i hil j hj) HV7.out (fun j hj=>HE3.out.ech.lt a hal j hj) (Nat.le_refl _) hK2).mono ?_
              rintro e w4 ⟨g,rfl,hgB,hsr,kb⟩
              replace rf:=zaa rf kb;replace hM:=hM.on kb;replace hP:=hP.on kb;replace hB:=onS hB kb;replace y6:=cellS kb y6;replace x7:=cellS kb x7;clear kb
              have hap5:=zbE (n:=kc) HPO.out hgB
              have hsO:=(zau hsr (show w.heap.size+1<=g by omega) (show kc<=maxLen by unfold maxLen; omega)).congr (f':=fun j _=>.int .i64 ((addF P M (W3 i j) (mulF P M m r (W3 a j)):Nat):Int)) (fun j hj _ _=>by rw [ziC hL hrq (HE3.out.ech.lt i hil j hj)])
              clear hsr hz9 HPO HV6 HV7
              refine bkq hK ⟨qc0 rf,qc1 rf,qc2 rf,y6,x7⟩ (h:=fun hHeld=>?_)
              clear hK K
              refine tkq 21 (h:=?_)
              refine rdq 22 (h:=fun K hK=>?_)
              have y69:=zab (p:=⟨tb,to0+i,none⟩) (u:=.slice (some ⟨g,0,none⟩) kc kc) y6 hne6
              have Y69:=hid y69
              have x79:=zbh (p:=⟨tb,to0+i,none⟩) (u:=.slice (some ⟨g,0,none⟩) kc kc) x7 (by intro e; injection e with e1 e2; have:=HIA.out; omega)
              have X79:=hid x79
              clear y69 x79 y6 x7
              have z0:=hM.froz (to0+i)
              obtain ⟨vo,v0⟩:=hM.old hil
              go_simp
              clear z0 v0
              have hM9:=hM.set (i:=i) hil hsO hap5
              replace hP:=hM.keep (i:=i) (r:=(.slice (some ⟨g,0,none⟩) kc kc)) hP;replace hsO:=hM.keep (i:=i) (r:=(.slice (some ⟨g,0,none⟩) kc kc)) hsO
              replace rf:=rf.setOther (a:=⟨tb,to0+i,none⟩) (by simpa using hftb) (.slice (some ⟨g,0,none⟩) kc kc)
              replace hB:=hB.setCell (p:=⟨tb,to0+i,none⟩) htbB (.slice (some ⟨g,0,none⟩) kc kc);replace hM:=hM9;clear hM9
              obtain ⟨w5,hw⟩:∃ W,W=World.setCell w4 ⟨tb,to0+i,none⟩ (.slice (some ⟨g,0,none⟩) kc kc):=⟨_,rfl⟩
              rw [<-hw] at hM rf hB hP hsO Y69 X79 ⊢;clear hw
              refine bkq hK ⟨qc0 rf,qc1 rf,qc2 rf,Y69.out,X79.out⟩ (h:=fun hHeld=>?_)
              clear hK K
              refine wpAnyH_done (by kernel_rfl) ?_ _
              clear hHeld;clear Y69 X79
              go_wp2
              go_roundg (gk - 1)
              case measure=>omega
              case rel=>exact ⟨i+1,_,by go_num,by omega,by omega,hid (HE3.out.clear hL hck hil HIA.out hrq (by rw [<-HY.out]; exact HR9.out)),hid (HR3.out.add hil hal HIA.out hrq),hM,hP,rf,hB⟩
             ·go_simp
              go_wp2_with fail
              refine (zcx P M A k c (y:Nat) w2 hfo).mono ?_
              rintro e w3 ⟨rfl,kb⟩
              replace rf:=zaa rf kb;replace hM:=hM.on kb;replace hP:=hP.on kb;replace hB:=onS hB kb;replace x6:=cellS kb x6;replace y6:=cellS kb y6;replace x7:=cellS kb x7;replace hrow6:=hrow6.on kb;replace hrow7:=hrow7.on kb;clear kb;rw [hiy]
              obtain ⟨r,hr⟩:∃ r,r=negF P M y:=⟨_,rfl⟩
              rw [<-hr]
              have hrq:r<P ^ M:=by rw [hr]; exact za7 (by have:=hfo.1; omega)
              have HR9:=hid (show addF P M y r=0 by rw [hr]; exact zaR (by have:=hfo.1; omega))
              clear hr
              refine bkq hK ⟨qc0 rf,qc1 rf,qc2 rf,y6,x7⟩ (h:=fun hHeld=>?_)
              clear hK K
              refine rdq 6 (h:=fun K hK=>?_)
              go_simp
              refine bkq hK ⟨qc0 rf,qc1 rf,qc2 rf,y6,x7⟩ (h:=fun hHeld=>?_)
              clear hK K
              refine rdq 20 (h:=fun K hK=>?_)
              have HPO:=hid hP
              have HV6:=hid (show IntsR w3 w3.heap.size (some ⟨rb6,ro6,none⟩) kc (fun j=>((W3 i j:Nat):Int)) from hrow6.rd rfl)
              have HV7:=hid (show IntsR w3 w3.heap.size RA7 kc (fun j=>((W3 a j:Nat):Int)) from hrow7.rd rfl)
              clear hrow6 hrow7 x6
              go_simp
              go_wp2_with fail
              have hz9:=rf.lt
              refine (zb0 P M A k c m r (some ⟨rb6,ro6,none⟩) RA7 kc rc6 kc rc7 (W3 i) (W3 a) w3 hfo (zav hm hB) hkM hrq HV6.out (fun j hj=>HE3.out.ech.lt i hil j hj) HV7.out (fun j hj=>HE3.out.ech.lt a hal j hj) (Nat.le_refl _) hK2).mono ?_
              rintro e w4 ⟨g,rfl,hgB,hsr,kb⟩
              replace rf:=zaa rf kb;replace hM:=hM.on kb;replace hP:=hP.on kb;replace hB:=onS hB kb;replace y6:=cellS kb y6;replace x7:=cellS kb x7;clear kb
              have hap5:=zbE (n:=kc) HPO.out hgB
              have hsO:=(zau hsr (show w.heap.size+1<=g by omega) (show kc<=maxLen by unfold maxLen; omega)).congr (f':=fun j _=>.int .i64 ((addF P M (W3 i j) (mulF P M m r (W3 a j)):Nat):Int)) (fun j hj _ _=>by rw [ziC hL hrq (HE3.out.ech.lt i hil j hj)])
              clear hsr hz9 HPO HV6 HV7
              refine bkq hK ⟨qc0 rf,qc1 rf,qc2 rf,y6,x7⟩ (h:=fun hHeld=>?_)
              clear hK K
              refine tkq 21 (h:=?_)
              refine rdq 22 (h:=fun K hK=>?_)
              have y69:=zab (p:=⟨tb,to0+i,none⟩) (u:=.slice (some ⟨g,0,none⟩) kc kc) y6 hne6
              have Y69:=hid y69
              have x79:=zbh (p:=⟨tb,to0+i,none⟩) (u:=.slice (some ⟨g,0,none⟩) kc kc) x7 (by intro e; injection e with e1 e2; have:=HIA.out; omega)
              have X79:=hid x79
              clear y69 x79 y6 x7
              have z0:=hM.froz (to0+i)
              obtain ⟨vo,v0⟩:=hM.old hil
              go_simp
              clear z0 v0
              have hM9:=hM.set (i:=i) hil hsO hap5
              replace hP:=hM.keep (i:=i) (r:=(.slice (some ⟨g,0,none⟩) kc kc)) hP;replace hsO:=hM.keep (i:=i) (r:=(.slice (some ⟨g,0,none⟩) kc kc)) hsO
              replace rf:=rf.setOther (a:=⟨tb,to0+i,none⟩) (by simpa using hftb) (.slice (some ⟨g,0,none⟩) kc kc)
              replace hB:=hB.setCell (p:=⟨tb,to0+i,none⟩) htbB (.slice (some ⟨g,0,none⟩) kc kc);replace hM:=hM9;clear hM9
              obtain ⟨w5,hw⟩:∃ W,W=World.setCell w4 ⟨tb,to0+i,none⟩ (.slice (some ⟨g,0,none⟩) kc kc):=⟨_,rfl⟩
              rw [<-hw] at hM rf hB hP hsO Y69 X79 ⊢;clear hw
              refine bkq hK ⟨qc0 rf,qc1 rf,qc2 rf,Y69.out,X79.out⟩ (h:=fun hHeld=>?_)
              clear hK K
              refine wpAnyH_done (by kernel_rfl) ?_ _
              clear hHeld;clear Y69 X79
              go_wp2
              go_roundg (gk - 1)
              case measure=>omega
              case rel=>exact ⟨i+1,_,by go_num,by omega,by omega,hid (HE3.out.clear hL hck hil HIA.out hrq (by rw [<-HY.out]; exact HR9.out)),hid (HR3.out.add hil hal HIA.out hrq),hM,hP,rf,hB⟩
         ·have hil':¬ (i:Int)<(n:Int):=by omega
          obtain rfl:i=n:=by omega
          have HE4:=hid HE3.out.done
          have kb:=(Below.refl wr.heap.size wr).alloc (Nat.le_refl _) (Obj.cells #[Value.int .i64 (c0:Nat)] 3)
          have HM8:=hid (hM.on kb)
          have HP8:=hid (hP.on kb)
          have RF8:=hid (zaa rf kb)
          have HB8:=hid (onS hB kb)
          have HC8:Hid ((wr.alloc (Obj.cells #[Value.int .i64 (c0:Nat)] 3)).cell? ((⟨wr.heap.size,0,none⟩:Addr).add 0)=some (.int .i64 (c0:Nat))):=tbox2
          have HZ8:Hid (w.heap.size+1<=(wr.alloc (Obj.cells #[Value.int .i64 (c0:Nat)] 3)).heap.size):=RF8.out.lt
          have HAL:Hid (a<=1048576):=by show _<=_; omega
          clear hM hP rf hB kb
          go_wp2_with (first | (at_builtin; (refine zaA rfl (.tmp 129) (.tmp 131) rfl HP8.out rfl (ad:=⟨wr.heap.size,0,none⟩) (c:=1) rfl HC8.out HZ8.out HAL.out ?_); intro v9 w9 o1 o2 o3))
          have HM9:=hid (HM8.out.grown HP8.out o2 o3)
          have RF9:=hid (RF8.out.of_block (o2.block _ RF8.out.lt fun e=>by have:=(HP8.out.lt _ e.symm).1; omega))
          have HB9:=hid (HB8.out.grown o2 (Nat.le_of_succ_le HZ8.out) fun q e=>by have:=(HP8.out.lt q e).1; omega)
          have HO9:=hid o1
          clear o1 o2 o3
          go_wp2
          go_roundg (gO - 1)
          case measure=>omega
          case rel=>exact ⟨a+1,c0+1,_,W3,by go_num,by go_num,by omega,by omega,HE4,HR3,HM9.out,HO9.out,RF9.out,HB9.out⟩
     ·have htl':¬ (t:Int)<(n:Int):=by omega
      obtain rfl:t=n:=by omega
      have htn':((t:Int) == (t:Int))=true:=by simp
      have HE1:=hid (HE.out.none fun i h1 h2=>HZ.out i h1 h2)
      go_wp2
      go_roundg (gO - 1)
      case measure=>omega
      case rel=>exact ⟨a,c0+1,p,W,rfl,by go_num,by omega,by omega,HE1,HR,hM,hP,rf,hB⟩
   ·have hal':¬ (a:Int)<(n:Int):=by omega
    obtain rfl:a=n:=by omega
    go_wp2
    go_ret2
    exact ⟨_,u9,a,c0,p,W,rfl,hM.mono (Nat.le_succ _),hP.mono (Nat.le_succ _),hB,hc,.inr rfl,HE.out,HR.out⟩
  ·have hcl':¬ (c0:Int)<(cols:Int):=by omega
   obtain rfl:c0=cols:=by omega
   go_wp2
   go_ret2
   exact ⟨_,u9,a,c0,p,W,rfl,hM.mono (Nat.le_succ _),hP.mono (Nat.le_succ _),hB,by omega,.inl rfl,HE.out,HR.out⟩
def EqI (n m:Nat) (f g:Nat->Int):Prop:=n=m/\∀ i,i<n->f i=g i
def EqT (n m:Nat) (ln ln':Nat->Nat) (V W:Nat->Nat->Int):Prop:=n=m/\∀ i,i<n->EqI (ln i) (ln' i) (V i) (W i)
theorem zeF (A B:Option Addr) (n m c d:Nat) (f g:Nat->Int) (w:World) (ha:IntsR w w.heap.size A n f) (hb:IntsR w w.heap.size B m g) (hn:n<=9223372036854775807) (hm:m<=9223372036854775807) :
  Calls Tryz.prog 185 #[.slice A n c,.slice B m d] w (IffPost (EqI n m f g) w):=by
 have HA:=hid ha
 have HB:=hid hb
 clear ha hb
 by_cases hnm:n=m
 ·subst hnm
  have hd:((n:Int) != (n:Int))=false:=by simp
  go_enter Tryz.func185, Tryz.ntmps185
  go_wp2
  go_loopg [5] n (fun gg iv wx=>∃ k:Nat,iv=.int .i64 (k:Nat)/\k<=n/\n<=k+gg/\Hid (∀ i,i<k->f i=g i)/\Below w.heap.size w wx)
  case atStart=>exact ⟨0,rfl,by omega,by omega,fun i hi=>absurd hi (by omega),Below.refl _ _⟩
  case round =>
   obtain ⟨k,rfl,hk,hkg,HEQ,hW⟩:=hrel
   have hk0:(0:Int)<=(k:Int):=by omega
   by_cases hlt:k<n
   ·have hlt':(k:Int)<(n:Int):=by omega
    obtain ⟨ab,ao,rfl,hab,x0⟩:=(HA.out.on hW).at hlt
    obtain ⟨bb,bo,rfl,hbb,y0⟩:=(HB.out.on hW).at hlt
    obtain ⟨x,hx⟩:∃ x,x=f k:=⟨_,rfl⟩
    obtain ⟨y,hy⟩:∃ y,y=g k:=⟨_,rfl⟩
    rw [<-hx] at x0;rw [<-hy] at y0
    have HX:=hid hx
    have HY:=hid hy
    clear hx hy
    by_cases h1:x=y
    ·have h1':(x != y)=false:=by simp [h1]
     have H1:=hid h1
     clear h1
     go_wp2
     go_quiet (fail)
     go_wp2
     go_roundg (gk - 1)
     case measure=>omega
     case rel =>
      refine ⟨k+1,by go_num,by omega,by omega,fun i hi=>?_,zac hW _⟩
      by_cases e:i=k
      ·subst e; rw [<-HX.out,<-HY.out]; exact H1.out
      ·exact HEQ.out i (by omega)
    ·have h1':(x != y)=true:=by simp [h1]
     have H1:=hid h1
     clear h1
     go_wp2
     go_quiet (fail)
     go_wp2
     go_ret
     exact zax (fun h=>H1.out (by rw [HX.out,HY.out]; exact h.2 k hlt)) (zac hW _)
   ·have hlt':¬ (k:Int)<(n:Int):=by omega
    obtain rfl:k=n:=by omega
    go_wp2
    go_ret
    exact za0 ⟨rfl,HEQ.out⟩ hW
 ·have hd:((n:Int) != (m:Int))=true:=by simp; omega
  go_enter Tryz.func185, Tryz.ntmps185
  go_wp2
  go_ret
  exact zax (fun h=>hnm h.1) (Below.refl _ _)
theorem zeG (A B:Option Addr) (n m c d:Nat) (ln ln':Nat->Nat) (V W:Nat->Nat->Int) (w:World) (ha:IntRows w A n ln V) (hb:IntRows w B m ln' W) (hn:n<=9223372036854775807) (hm:m<=9223372036854775807) :
  Calls Tryz.prog 113 #[.slice A n c,.slice B m d] w (IffPost (EqT n m ln ln' V W) w):=by
 have HA:=hid ha
 have HB:=hid hb
 clear ha hb
 by_cases hnm:n=m
 ·subst hnm
  have hd:((n:Int) != (n:Int))=false:=by simp
  go_enter Tryz.func113, Tryz.ntmps113
  go_wp2
  go_loopg [5] n (fun gg iv wx=>∃ k:Nat,iv=.int .i64 (k:Nat)/\k<=n/\n<=k+gg/\Hid (∀ i,i<k->EqI (ln i) (ln' i) (V i) (W i))/\Below w.heap.size w wx)
  case atStart=>exact ⟨0,rfl,by omega,by omega,fun i hi=>absurd hi (by omega),Below.refl _ _⟩
  case round =>
   obtain ⟨k,rfl,hk,hkg,HEQ,hW⟩:=hrel
   have hk0:(0:Int)<=(k:Int):=by omega
   by_cases hlt:k<n
   ·have hlt':(k:Int)<(n:Int):=by omega
    obtain ⟨ab,ao,RA,rc,hA,hab,x0,hg1,hg2,hrow,_⟩:=HA.out k hlt
    subst hA
    obtain ⟨bb,bo,RB,rd,hB2,hbb,y0,hg3,hg4,hrow2,_⟩:=HB.out k hlt
    subst hB2
    replace x0:=(hW.cell (p:=⟨ab,ao+k,none⟩) hab).trans x0;replace y0:=(hW.cell (p:=⟨bb,bo+k,none⟩) hbb).trans y0
    have h1:=hrow.on hW
    have h2:=hrow2.on hW
    have hal:ln k<=9223372036854775807:=by unfold maxLen at hg2; omega
    have hbl:ln' k<=9223372036854775807:=by unfold maxLen at hg4; omega
    clear hg1 hg2 hg3 hg4
    obtain ⟨LA,hLA⟩:∃ x,x=ln k:=⟨_,rfl⟩
    obtain ⟨LB,hLB⟩:∃ x,x=ln' k:=⟨_,rfl⟩
    rw [<-hLA] at x0 h1 hal;rw [<-hLB] at y0 h2 hbl
    have HLA:=hid hLA
    have HLB:=hid hLB
    clear hrow hrow2 hLA hLB
    obtain ⟨w1,hw1⟩:∃ X,X=wr:=⟨_,rfl⟩
    rw [<-hw1] at hW h1 h2 x0 y0 ⊢;clear hw1
    go_wp2
    refine wp_region_held_drew (S:=fun w'=>w'.cell? ⟨ab,ao+k,none⟩=some (.slice RA LA rc)/\w'.cell? ⟨bb,bo+k,none⟩=some (.slice RB LB rd)) (by kernel_rfl) ⟨cellS (Below.refl _ _).drew x0,cellS (Below.refl _ _).drew y0⟩ (fun hHeld=>?_)
    obtain ⟨w2,hw⟩:∃ W,W=World.drew w1:=⟨_,rfl⟩
    have kb:Below w1.heap.size w1 w2:=by rw [hw]; exact (Below.refl _ _).drew
    rw [<-hw] at hHeld ⊢;clear hw;replace hW:=onS hW kb;replace h1:=h1.on kb;replace h2:=h2.on kb;replace x0:=cellS kb x0;replace y0:=cellS kb y0;clear kb
    refine tkq 0 (h:=tkq 1 (h:=tkq 2 (h:=tkq 3 (h:=tkq 4 (h:=tkq 5 (h:=tkq 6 (h:=tkq 7 (h:=?_))))))))
    refine rdq 8 (h:=fun K hK=>?_)
    go_simp
    go_wp2_with fail
    refine (zeF RA RB LA LB rc rd (V k) (W k) w2 h1 h2 hal hbl).mono ?_
    rintro e w3 ⟨b,rfl,hb,kb⟩
    replace hW:=onS hW kb;replace h1:=h1.on kb;replace h2:=h2.on kb;replace x0:=cellS kb x0;replace y0:=cellS kb y0;clear kb
    have HBB:=hid hb
    clear hb
    refine bkq hK ⟨x0,y0⟩ (h:=fun hHeld=>?_)
    clear hK K
    refine tkq 9 (h:=?_)
    refine wpAnyH_done (by kernel_rfl) ?_ _
    clear hHeld;clear x0 y0 h1 h2
    cases b
    ·go_wp2
     go_ret
     exact zax (fun h=>by have:=h.2 k hlt; rw [<-HLA.out,<-HLB.out] at this; have:=HBB.out.2 this; cases this) hW
    ·go_wp2
     go_roundg (gk - 1)
     case measure=>omega
     case rel =>
      refine ⟨k+1,by go_num,by omega,by omega,fun i hi=>?_,hW⟩
      by_cases e:i=k
      ·subst e; rw [<-HLA.out,<-HLB.out]; exact HBB.out.1 (by first | rfl | trivial)
      ·exact HEQ.out i (by omega)
   ·have hlt':¬ (k:Int)<(n:Int):=by omega
    obtain rfl:k=n:=by omega
    go_wp2
    go_ret
    exact za0 ⟨rfl,HEQ.out⟩ hW
 ·have hd:((n:Int) != (m:Int))=true:=by simp; omega
  go_enter Tryz.func113, Tryz.ntmps113
  go_wp2
  go_ret
  exact zax (fun h=>hnm h.1) (Below.refl _ _)
def ErrPost (e:Int) (p:Prop) (w:World) (x:Ending) (w':World):Prop:=∃ v:Int,x=.returned (.int .i64 v)/\((v=0/\p)∨(v=e/\¬ p))/\Below w.heap.size w w'
theorem zhv {e:Int} {p:Prop} {w w':World} (h:p) (hB:Below w.heap.size w w'):ErrPost e p w (.returned (.int .i64 0)) w':=⟨0,rfl,.inl ⟨rfl,h⟩,hB⟩
theorem zhw {e:Int} {p:Prop} {w w':World} (h:¬ p) (hB:Below w.heap.size w w'):ErrPost e p w (.returned (.int .i64 e)) w':=⟨e,rfl,.inr ⟨rfl,h⟩,hB⟩
def AllIn (q n:Nat) (f:Nat->Int):Prop:=∀ i,i<n->0<=f i/\f i<q
theorem zd6 (P M:Nat) (A:Option Addr) (k c:Nat) (T:Option Addr) (n d:Nat) (f:Nat->Int) (w:World) (hf:FldOk P M) (h:IntsR w w.heap.size T n f) (hn:n<=9223372036854775807) :
  Calls Tryz.prog 110 #[.agg #[.int .i64 (P:Nat),.int .i64 (M:Nat),.slice A k c],.slice T n d] w (ErrPost 2 (AllIn (P ^ M) n f) w):=by
 have HT:=hid h
 clear h
 have hB:Below w.heap.size w (w.alloc (.cells #[.int .i64 (P:Nat),.int .i64 (M:Nat),.slice A k c] 24)):=(Below.refl _ _).alloc (Nat.le_refl _) _
 have rf:=zad (w:=w) (a:=.int .i64 (P:Nat)) (b:=.int .i64 (M:Nat)) (c:=.slice A k c) (T := 24)
 obtain ⟨w0,hw0⟩:∃ W,W=w.alloc (.cells #[.int .i64 (P:Nat),.int .i64 (M:Nat),.slice A k c] 24):=⟨_,rfl⟩
 rw [<-hw0] at hB rf
 go_enter Tryz.func110, Tryz.ntmps110
 go_upto_region 1 with fail
 rw [<-hw0];clear hw0
 go_wp2
 go_loopg [5] n (fun gg iv wx=>∃ i:Nat,iv=.int .i64 (i:Nat)/\i<=n/\n<=i+gg/\Hid (∀ t,t<i->0<=f t/\f t<(P ^ M:Nat))/\wx.rowIs w.heap.size 24 3 (fldCell (.int .i64 (P:Nat)) (.int .i64 (M:Nat)) (.slice A k c))/\Below w.heap.size w wx)
 case atStart=>exact ⟨0,rfl,by omega,by omega,fun t ht=>absurd ht (by omega),rf,hB⟩
 case round =>
  clear rf hB
  obtain ⟨i,rfl,hi,hig,HQ,rf,hB⟩:=hrel
  have hi0:(0:Int)<=(i:Int):=by omega
  by_cases hlt:i<n
  ·have hlt':(i:Int)<(n:Int):=by omega
   obtain ⟨tb,to0,rfl,htb,x0⟩:=HT.out.at hlt
   replace x0:=(hB.cell (p:=⟨tb,to0+i,none⟩) htb).trans x0
   obtain ⟨x,hx⟩:∃ x,x=f i:=⟨_,rfl⟩
   rw [<-hx] at x0
   have HX:=hid hx
   clear hx
   have q0:=qc0 rf
   have q1:=qc1 rf
   have q2:=qc2 rf
   obtain ⟨w1,hw1⟩:∃ X,X=wr:=⟨_,rfl⟩
   rw [<-hw1] at hB rf x0 q0 q1 q2 ⊢;clear hw1
   go_wp2
   refine wp_region_held_drew (S:=fun w'=>w'.cell? ⟨w.heap.size,0,none⟩=some (.int .i64 (P:Nat))/\w'.cell? ⟨w.heap.size,1,none⟩=some (.int .i64 (M:Nat))/\w'.cell? ⟨w.heap.size,2,none⟩=some (.slice A k c)/\w'.cell? ⟨tb,to0+i,none⟩=some (.int .i64 x)) (by kernel_rfl) ⟨cellS (Below.refl _ _).drew q0,cellS (Below.refl _ _).drew q1,cellS (Below.refl _ _).drew q2,cellS (Below.refl _ _).drew x0⟩ (fun hHeld=>?_)
   obtain ⟨w2,hw⟩:∃ W,W=World.drew w1:=⟨_,rfl⟩
   have kb:Below w1.heap.size w1 w2:=by rw [hw]; exact (Below.refl _ _).drew
   rw [<-hw] at hHeld ⊢;clear hw;replace rf:=zaa rf kb;replace hB:=onS hB kb;replace x0:=cellS kb x0;replace q0:=cellS kb q0;replace q1:=cellS kb q1;replace q2:=cellS kb q2;clear kb
   refine tkq 0 (h:=tkq 1 (h:=tkq 2 (h:=tkq 3 (h:=tkq 4 (h:=?_)))))
   refine rdq 5 (h:=fun K hK=>?_)
   go_simp
   go_wp2_with fail
   refine (zey P M A k c x w2 hf).mono ?_
   rintro e w3 ⟨rfl,kb⟩
   replace rf:=zaa rf kb;replace hB:=onS hB kb;replace x0:=cellS kb x0;replace q0:=cellS kb q0;replace q1:=cellS kb q1;replace q2:=cellS kb q2;clear kb
   refine bkq hK ⟨q0,q1,q2,x0⟩ (h:=fun hHeld=>?_)
   clear hK K
   refine tkq 6 (h:=?_)
   refine wpAnyH_done (by kernel_rfl) ?_ _
   clear hHeld;clear q0 q1 q2 x0
   by_cases hxq:0<=x/\x<(P ^ M:Nat)
   ·have hd:isB (P ^ M) x=true:=by unfold isB; simpa using hxq
    rw [hd]
    have HXQ:=hid hxq
    clear hd hxq
    go_wp2
    go_roundg (gk - 1)
    case measure=>omega
    case rel =>
     refine ⟨i+1,by go_num,by omega,by omega,fun t ht=>?_,rf,hB⟩
     by_cases e:t=i
     ·subst e; rw [<-HX.out]; exact HXQ.out
     ·exact HQ.out t (by omega)
   ·have hd:isB (P ^ M) x=false:=by unfold isB; simpa using hxq
    rw [hd];clear hd
    go_wp2
    go_ret
    exact zhw (fun h=>hxq (by rw [HX.out]; exact h i hlt)) hB
  ·have hlt':¬ (i:Int)<(n:Int):=by omega
   obtain rfl:i=n:=by omega
   go_wp2
   go_ret
   exact zhv HQ.out hB
end Go.Proofs.YtioagplajkoohaaGreat