/- Merged texts of a claim: Elim, Same09, CanAll. -/
import Derived.Test.YtgekjfpapmlndaaGreatUW3
namespace Go.Proofs.YtgekjfpapmlndaaGreat
set_option maxRecDepth 100000
set_option maxHeartbeats 32000000
open KB KE
open Go.RowKit
def ElimPost (q:Nat) (add mul:Nat->Nat->Nat) (n k cols:Nat) (V:Nat->Nat->Nat) (w:World) (e:Ending) (w':World):Prop :=
 ∃ lv pv a c p W,e=.returned (.tuple #[lv,pv])/\MTabX w' w.heap.size lv n k W pv/\Own w' w.heap.size 3 1 pv a (fun j _=>.int .i64 (p j:Nat))/\Below w.heap.size w w' /\
  c<=cols/\(c=cols∨a=n)/\EchN q n k c a p W/\RowOps q add mul n k V W
theorem MTabX.froz {w:World} {base n k b o c:Nat} {W:Nat->Nat->Nat} {z:Value} (h:MTabX w base (.slice (some ⟨b,o,none⟩) n c) n k W z) (j:Nat):w.frozen? ⟨b,j,none⟩=false:=h.choose_spec.1.frozen j
theorem MTabX.old {w:World} {base n k b o c i:Nat} {W:Nat->Nat->Nat} {z:Value} (h:MTabX w base (.slice (some ⟨b,o,none⟩) n c) n k W z) (hi:i<n):∃ v,w.cell? ⟨b,o+i,none⟩=some v:=by
 obtain ⟨b',o',RA,rc,e,_,_,h1,_⟩:=h.row hi
 injection e with e
 injection e with e1 e2
 subst e1 e2
 exact ⟨_,h1⟩
theorem MTabX.rowne {w:World} {base n k b o c rb ro m rc:Nat} {W:Nat->Nat->Nat} {z:Value} {f:Nat->Nat->Value} (h:MTabX w base (.slice (some ⟨b,o,none⟩) n c) n k W z) (hr:Own w base 3 1 (.slice (some ⟨rb,ro,none⟩) m rc) m f):rb≠b:=by
 obtain ⟨R,h1,_⟩:=h
 rcases zbm h1 hr (by decide) with h3 | h3
 ·cases h3
 ·exact fun e=>h3 (by rw [e]; rfl)
theorem zj4 {P M a t:Nat} {m u v:Nat->Nat} (hF:FieldLaws (P ^ M) (addF P M) (mulF P M m)) (ha:a<P ^ M) (hv:v t<P ^ M):atF P M m a v u t=addF P M (v t) (mulF P M m a (u t)):=by
 unfold atF
 split
 ·rename_i h
  rw [h,hF.mulZero ha,hF.addZero hv]
 ·rfl
theorem zgd {P M y x:Nat} {m:Nat->Nat} (hF:FieldLaws (P ^ M) (addF P M) (mulF P M m)) (hx:x<P ^ M) (hx0:x≠0) (hy:y<P ^ M) (h:(∃ z,1<=z/\z<P ^ M/\mulF P M m x z=1)->mulF P M m x y=1):mulF P M m y x=1/\y≠0:=by
 have h1:mulF P M m x y=1:=by
  obtain ⟨z,hz,e⟩:=hF.inv x hx hx0
  refine h ⟨z,?_,hz,e⟩
  rcases Nat.eq_zero_or_pos z with h0 | h0
  ·subst h0
   rw [hF.mulZero hx] at e
   cases e
  ·exact h0
 refine ⟨by rw [hF.mulComm y x hy hx]; exact h1,fun e=>?_⟩
 rw [e,hF.mulZero hx] at h1
 cases h1
theorem ziQ (P M:Nat) (A:Option Addr) (k c:Nat) (m:Nat->Nat) (T:Option Addr) (n d kc cols:Nat) (V:Nat->Nat->Nat) (w:World) (hf:FieldOk P M m) (hm:ModOk w P M A m) (hkM:M=1∨k=M)
  (h:MRows w T n kc V) (hV:∀ i,i<n->∀ j,j<kc->V i j<P ^ M) (hcK:cols<=kc) (hK:0<kc) (hK2:kc<=1048576) (hn:n<=1048576) :
  Calls Tryz.prog 191 #[.agg #[.int .i64 (P:Nat),.int .i64 (M:Nat),.slice A k c],.slice T n d,.int .i64 (cols:Nat)] w (ElimPost (P ^ M) (addF P M) (mulF P M m) n kc cols V w):=by
 have C:=hf.1
 have hL:=fieldLaws hf
 obtain ⟨w0,ay,hB,rf⟩:=zaz w (.int .i64 (P:Nat)) (.int .i64 (M:Nat)) (.slice A k c) 24
 have bk:=hid (EchN.start (pv:=fun _=>0) hV)
 go_enter Tryz.func191, Tryz.ntmps191
 go_upto_region 1 with fail
 rw [<-ay];clear ay
 have E:MRows w0 T n kc V:=h.on hB
 clear h hV
 go_wp2_with fail
 refine (zgb T n kc d V w0 E hK hK2 hn).mono ?_
 rintro e w1 ⟨lv,rfl,b1,kb⟩
 have b2:w.heap.size+1<=w0.heap.size:=rf.lt
 have hM:=(b1.mono b2).x (z:=.slice none 0 0) rfl
 replace rf:=zab rf kb;replace hB:=onS hB kb
 have bt:w.heap.size+1<=w1.heap.size:=rf.lt
 clear E b1 kb b2
 obtain ⟨LA,lc,bc⟩:=hM.tab.shape
 subst bc
 have aq:=Own.nil w1 (w.heap.size+1) 3 1 (fun j _=>.int .i64 ((0:Nat):Int))
 go_wp2
 obtain ⟨nv,az⟩:∃ x:Value,x=.slice none 0 0:=⟨_,rfl⟩
 rw [<-az] at hM aq ⊢;clear az
 go_loopg [9,10,11] cols (fun gg pv av cv wx=>∃ a c0:Nat,∃ p W,av=.int .i64 (a:Nat)/\cv=.int .i64 (c0:Nat)/\c0<=cols/\cols<=c0+gg/\Hid (EchN (P ^ M) n kc c0 a p W)/\Hid (RowOps (P ^ M) (addF P M) (mulF P M m) n kc V W)/\MTabX wx (w.heap.size+1) (.slice LA n lc) n kc W pv/\Own wx (w.heap.size+1) 3 1 pv a (fun j _=>.int .i64 (p j:Nat))/\wx.rowIs w.heap.size 24 3 (fldCell (.int .i64 (P:Nat)) (.int .i64 (M:Nat)) (.slice A k c))/\Below w.heap.size w wx)
 case atStart=>exact ⟨0,0,fun _=>0,V,rfl,rfl,by omega,by omega,bk,hid .refl,hM,aq,rf,hB⟩
 clear hM aq rf hB bt
 obtain ⟨a,c0,p,W,rfl,rfl,hc,be,HE,HR,hM,hP,rf,hB⟩:=hrel
 have c1:=HE.out.le
 by_cases hcl:c0<cols
 rotate_left
 ·have am:¬ (c0:Int)<(cols:Int):=by omega
  obtain rfl:c0=cols:=by omega
  go_wp2
  go_ret2
  exact ⟨_,u9,a,c0,p,W,rfl,hM.mono (Nat.le_succ _),hP.mono (Nat.le_succ _),hB,by omega,.inl rfl,HE.out,HR.out⟩
 have am:(c0:Int)<(cols:Int):=by omega
 by_cases hal:a<n
 rotate_left
 ·have an:¬ (a:Int)<(n:Int):=by omega
  obtain rfl:a=n:=by omega
  go_wp2
  go_ret2
  exact ⟨_,u9,a,c0,p,W,rfl,hM.mono (Nat.le_succ _),hP.mono (Nat.le_succ _),hB,hc,.inr rfl,HE.out,HR.out⟩
 have an:(a:Int)<(n:Int):=by omega
 obtain ⟨gO,bd⟩:=exx gk
 rw [<-bd] at be
 go_wp2
 go_loopg [12] n (fun g2 tv wx=>∃ t:Nat,tv=.int .i64 (t:Nat)/\a<=t/\t<=n/\n<=t+g2/\Hid (∀ i,a<=i->i<t->W i c0=0)/\wx=wr)
 case atStart=>exact ⟨a,rfl,by omega,by omega,by omega,fun i h1 h2=>absurd h2 (by omega),rfl⟩
 obtain ⟨t,rfl,bf,bv,bw,HZ,ba⟩:=hrel
 subst ba
 by_cases htl:t<n
 rotate_left
 ·have ab:¬ (t:Int)<(n:Int):=by omega
  obtain rfl:t=n:=by omega
  have aa:((t:Int) == (t:Int))=true:=by simp
  have U:=hid (HE.out.none fun i h1 h2=>HZ.out i h1 h2)
  go_wp2
  go_roundg (gO - 1)
  case measure=>omega
  case rel=>exact ⟨a,c0+1,p,W,rfl,by go_num,by omega,by omega,U,HR,hM,hP,rf,hB⟩
 have ab:(t:Int)<(n:Int):=by omega
 obtain ⟨tb,to0,RA,rc,bh,bx,ac,x0,_,v,b0⟩:=hM.row htl
 subst bh
 obtain ⟨rb,ro,bg,_,y0⟩:=(show IntsR wr wr.heap.size RA kc (fun j=>((W t j:Nat):Int)) from v.rd rfl).at (i:=c0) (by omega)
 subst bg
 obtain ⟨x,hx⟩:=exx (W t c0)
 rw [<-hx] at y0
 by_cases hx0:x=0
 ·have b8:((x:Int) == 0)=true:=by simpa using hx0
  have bi:Hid (∀ i,a<=i->i<t+1->W i c0=0):=fun i h1 h2=>by
   by_cases e:i=t
   ·subst e; rw [<-hx,hx0]
   ·exact HZ.out i h1 (by omega)
  clear hx hx0
  go_wp2
  go_roundg (gk - 1)
  case measure=>omega
  case rel=>exact ⟨t+1,by go_num,by omega,by omega,by omega,bi,rfl⟩
 have b8:((x:Int) == 0)=false:=by simpa using hx0
 have Z:c0<kc:=by omega
 have a3:x<P ^ M:=by rw [hx]; exact HE.out.lt t htl c0 Z
 have HX:=hid hx
 have ar:=hid hx0
 clear hx hx0
 have aa:((t:Int) == (n:Int))=false:=by simp; omega
 go_upto_region 11 with fail
 obtain ⟨_,_,RA2,rc2,Q,_,_,u0,_,s,a0⟩:=hM.row hal
 injection Q with Q
 injection Q with e1 e2
 subst e1 e2
 have I:w.heap.size≠tb:=by omega
 have G:w.heap.size<=tb:=by omega
 clear y0 ac
 obtain ⟨W1,a4⟩:∃ X,X=fun u=>if u=a then W t else if u=t then W a else W u:=⟨_,rfl⟩
 have U:=hid (HE.out.swap bf htl)
 have a7:=hid (HR.out.swap hal htl)
 rw [<-a4] at U a7
 have ax:x=W1 a c0:=by rw [a4,HX.out]; simp
 have a5:=hid ax
 have bj:Hid (∀ u,u<n->∀ j,j<kc->(if u=t then W a else if u=a then W t else W u) j=W1 u j):=fun u _ j _=>by
  rw [a4]
  by_cases e1:u=a
  ·subst e1
   by_cases e2:u=t
   ·subst e2; simp
   ·simp [e2]
  by_cases e2:u=t
  ·subst e2; simp [e1]
  ·simp [e1,e2]
 clear a4 ax
 go_cut [] (fun wx=>MTabX wx (w.heap.size+1) (.slice (some ⟨tb,to0,none⟩) n lc) n kc W1 u9/\Own wx (w.heap.size+1) 3 1 u9 a (fun j _=>.int .i64 (p j:Nat))/\wx.rowIs w.heap.size 24 3 (fldCell (.int .i64 (P:Nat)) (.int .i64 (M:Nat)) (.slice A k c))/\Below w.heap.size w wx)
 case first =>
  obtain ⟨w1,J⟩:=exx wr
  rw [<-J] at hM hP rf hB x0 u0 v s ⊢;clear J
  refine wp_region_held_drew (S:=fun _=>True) (by kernel_rfl) trivial (fun hHeld=>?_)
  obtain ⟨w2,hw,kb⟩:=dwx w1
  rw [<-hw];clear hw;replace rf:=zab rf kb;replace hM:=hM.on kb;replace hP:=hP.on kb;replace hB:=onS hB kb;replace x0:=cellS kb x0;replace u0:=cellS kb u0;replace v:=v.on kb;replace s:=s.on kb;clear kb
  refine tkq 0 (h:=tkq 1 (h:=tkq 2 (h:=tkq 3 (h:=tkq 4 (h:=tkq 5 (h:=tkq 6 (h:=tkq 8 (h:=tkq 9 (h:=tkq 10 (h:=?_))))))))))
  refine rdq2 7 11 (h:=fun K hK=>?_) (h2:=fun K hK=>?_)
  focus
   go_simp
   refine bkq hK trivial (h:=fun hHeld=>?_)
   clear hK K
   refine rdq 11 (h:=fun K hK=>?_)
  rotate_left
  focus
   go_simp
   refine bkq hK trivial (h:=fun hHeld=>?_)
   clear hK K
   refine rdq 7 (h:=fun K hK=>?_)
  rotate_left
  all_goals
   go_simp
   refine bkq hK trivial (h:=fun hHeld=>?_)
   clear hK K
   refine tkq 12 (h:=?_)
   refine rdq 13 (h:=fun K hK=>?_)
   clear x0 u0
   have z0:=hM.froz (to0+a)
   obtain ⟨vo,v0⟩:=hM.old hal
   go_simp
   clear z0 v0
   have F:=hM.set (i:=a) hal v b0
   replace hP:=hM.keep (i:=a) (r:=(.slice (some ⟨rb,ro,none⟩) kc rc)) hP;replace v:=hM.keep (i:=a) (r:=(.slice (some ⟨rb,ro,none⟩) kc rc)) v;replace s:=hM.keep (i:=a) (r:=(.slice (some ⟨rb,ro,none⟩) kc rc)) s
   replace rf:=rf.setOther (a:=⟨tb,to0+a,none⟩) (by simpa using I) (.slice (some ⟨rb,ro,none⟩) kc rc)
   replace hB:=hB.setCell (p:=⟨tb,to0+a,none⟩) G (.slice (some ⟨rb,ro,none⟩) kc rc);replace hM:=F;clear F
   obtain ⟨w3,hw⟩:=exx (World.setCell w2 ⟨tb,to0+a,none⟩ (.slice (some ⟨rb,ro,none⟩) kc rc))
   rw [<-hw] at hM rf hB hP v s ⊢;clear hw
   refine bkq hK trivial (h:=fun hHeld=>?_)
   clear hK K
   refine tkq 14 (h:=?_)
   refine rdq 15 (h:=fun K hK=>?_)
   have z0:=hM.froz (to0+t)
   obtain ⟨vo,v0⟩:=hM.old htl
   go_simp
   clear z0 v0
   have F:=hM.set (i:=t) htl s a0
   replace hP:=hM.keep (i:=t) (r:=(.slice RA2 kc rc2)) hP;replace v:=hM.keep (i:=t) (r:=(.slice RA2 kc rc2)) v;replace s:=hM.keep (i:=t) (r:=(.slice RA2 kc rc2)) s
   replace rf:=rf.setOther (a:=⟨tb,to0+t,none⟩) (by simpa using I) (.slice RA2 kc rc2)
   replace hB:=hB.setCell (p:=⟨tb,to0+t,none⟩) G (.slice RA2 kc rc2);replace hM:=F;clear F
   obtain ⟨w4,hw⟩:=exx (World.setCell w3 ⟨tb,to0+t,none⟩ (.slice RA2 kc rc2))
   rw [<-hw] at hM rf hB hP v s ⊢;clear hw
   refine bkq hK trivial (h:=fun hHeld=>?_)
   clear hK K
   refine wpAnyH_done (by kernel_rfl) ?_ _
   clear hHeld
   go_wp2
   go_meet
   exact ⟨hM.congr bj.out,hP,rf,hB⟩
 case rest =>
 clear hM hP rf hB x0 u0 v s b0 a0
 obtain ⟨hM,hP,rf,hB⟩:=hcut
 obtain ⟨_,_,RA5,rc5,e5,_,_,x5,_,b,_⟩:=hM.row hal
 injection e5 with e5
 injection e5 with e1 e2
 subst e1 e2
 obtain ⟨rb5,ro5,ap,ae,y5⟩:=(show IntsR _ _ RA5 kc (fun j=>((W1 a j:Nat):Int)) from b.rd rfl).at (i:=c0) Z
 subst ap
 have ag:=hM.rowne b
 rw [<-a5.out] at y5
 go_upto_if 69 with fail
 go_cut [] (fun wx=>∃ W2,Hid (EchP (P ^ M) n kc c0 a 0 p W2)/\Hid (RowOps (P ^ M) (addF P M) (mulF P M m) n kc V W2)/\MTabX wx (w.heap.size+1) (.slice (some ⟨tb,to0,none⟩) n lc) n kc W2 u9/\Own wx (w.heap.size+1) 3 1 u9 a (fun j _=>.int .i64 (p j:Nat))/\wx.rowIs w.heap.size 24 3 (fldCell (.int .i64 (P:Nat)) (.int .i64 (M:Nat)) (.slice A k c))/\Below w.heap.size w wx)
 case first =>
  by_cases h1:x=1
  ·have b9:((x:Int) != 1)=false:=by simp; omega
   have hW:=a5.out
   rw [h1] at hW;clear h1
   go_wp2
   go_meet
   exact ⟨W1,U.out.one_piv hal hW.symm,a7,hM,hP,rf,hB⟩
  have b9:((x:Int) != 1)=true:=by simp; omega
  clear h1
  obtain ⟨w1,J⟩:=exx wc
  rw [<-J] at hM hP rf hB x5 y5 b ⊢;clear J
  have ai:inV (P ^ M) (x:Nat)=x:=zaj a3
  have q0:=qc0 rf
  have q1:=qc1 rf
  have q2:=qc2 rf
  go_wp2
  refine wp_region_held_drew (S:=fun w'=>w'.cell? ⟨w.heap.size,0,none⟩=some (.int .i64 (P:Nat))/\w'.cell? ⟨w.heap.size,1,none⟩=some (.int .i64 (M:Nat))/\w'.cell? ⟨w.heap.size,2,none⟩=some (.slice A k c)/\w'.cell? ⟨rb5,ro5+c0,none⟩=some (.int .i64 (x:Nat))) (by kernel_rfl) ⟨cellS (Below.refl _ _).drew (rf.cell (i:=0) (by omega)),cellS (Below.refl _ _).drew (rf.cell (i:=1) (by omega)),cellS (Below.refl _ _).drew (rf.cell (i:=2) (by omega)),cellS (Below.refl _ _).drew (y5)⟩ (fun hHeld=>?_)
  obtain ⟨w2,hw,kb⟩:=dwx w1
  rw [<-hw] at hHeld ⊢;clear hw;replace rf:=zab rf kb;replace hM:=hM.on kb;replace hP:=hP.on kb;replace hB:=onS hB kb;replace x5:=cellS kb x5;replace y5:=cellS kb y5;replace b:=b.on kb;clear kb
  refine tkq 0 (h:=tkq 1 (h:=tkq 2 (h:=tkq 3 (h:=tkq 4 (h:=tkq 5 (h:=tkq 6 (h:=tkq 8 (h:=tkq 12 (h:=tkq 13 (h:=tkq 14 (h:=?_)))))))))))
  refine rdq2 7 15 (h:=fun K hK=>?_) (h2:=fun K hK=>?_)
  focus
   go_simp
   refine bkq hK ⟨qc0 rf,qc1 rf,qc2 rf,y5⟩ (h:=fun hHeld=>?_)
   clear hK K
   refine tkq 9 (h:=tkq 10 (h:=?_))
   refine rdq2 11 15 (h:=fun K hK=>?_) (h2:=fun K hK=>?_)
   focus
    go_simp
    go_wp2_with fail
    refine (zdr P M A k c m (x:Nat) w2 C (zaO hm hB) hkM).mono ?_
    rintro e w3 ⟨r,rfl,kb,B,D⟩
    replace rf:=zab rf kb;replace hM:=hM.on kb;replace hP:=hP.on kb;replace hB:=onS hB kb;replace x5:=cellS kb x5;replace y5:=cellS kb y5;replace b:=b.on kb;clear kb;rw [ai] at D
    obtain ⟨L,E⟩:=zgd hL a3 ar.out B D
    have R:=hid L
    have au:=hid E
    clear D L E
    refine bkq hK ⟨qc0 rf,qc1 rf,qc2 rf,y5⟩ (h:=fun hHeld=>?_)
    clear hK K
    refine rdq 15 (h:=fun K hK=>?_)
    go_simp
   rotate_left
   focus
    go_simp
    refine bkq hK ⟨qc0 rf,qc1 rf,qc2 rf,y5⟩ (h:=fun hHeld=>?_)
    clear hK K
    refine rdq 11 (h:=fun K hK=>?_)
    go_simp
    go_wp2_with fail
    refine (zdr P M A k c m (x:Nat) w2 C (zaO hm hB) hkM).mono ?_
    rintro e w3 ⟨r,rfl,kb,B,D⟩
    replace rf:=zab rf kb;replace hM:=hM.on kb;replace hP:=hP.on kb;replace hB:=onS hB kb;replace x5:=cellS kb x5;replace y5:=cellS kb y5;replace b:=b.on kb;clear kb;rw [ai] at D
    obtain ⟨L,E⟩:=zgd hL a3 ar.out B D
    have R:=hid L
    have au:=hid E
    clear D L E
   rotate_left
  rotate_left 2
  focus
   go_simp
   refine bkq hK ⟨qc0 rf,qc1 rf,qc2 rf,y5⟩ (h:=fun hHeld=>?_)
   clear hK K
   refine rdq 7 (h:=fun K hK=>?_)
   go_simp
   refine bkq hK ⟨qc0 rf,qc1 rf,qc2 rf,y5⟩ (h:=fun hHeld=>?_)
   clear hK K
   refine tkq 9 (h:=tkq 10 (h:=?_))
   refine rdq 11 (h:=fun K hK=>?_)
   go_simp
   go_wp2_with fail
   refine (zdr P M A k c m (x:Nat) w2 C (zaO hm hB) hkM).mono ?_
   rintro e w3 ⟨r,rfl,kb,B,D⟩
   replace rf:=zab rf kb;replace hM:=hM.on kb;replace hP:=hP.on kb;replace hB:=onS hB kb;replace x5:=cellS kb x5;replace y5:=cellS kb y5;replace b:=b.on kb;clear kb;rw [ai] at D
   obtain ⟨L,E⟩:=zgd hL a3 ar.out B D
   have R:=hid L
   have au:=hid E
   clear D L E
  rotate_left
  all_goals
   refine bkq hK ⟨qc0 rf,qc1 rf,qc2 rf,y5⟩ (h:=fun hHeld=>?_)
   clear hK K
   refine rdq 16 (h:=fun K hK=>?_)
   have a1:=hid hP
   go_simp
   go_wp2_with fail
   have a9:=rf.lt
   refine (zhu P M A k c m r (some ⟨rb5,ro5,none⟩) kc rc5 (W1 a) w3 C (zaO hm hB) hkM B (b.rd rfl) (fun j hj=>U.out.lt a hal j hj) hK2).mono ?_
   rintro e w4 ⟨g,rfl,al,Y,kb⟩
   replace rf:=zab rf kb;replace hM:=hM.on kb;replace hP:=hP.on kb;replace hB:=onS hB kb;replace x5:=cellS kb x5;replace y5:=cellS kb y5;replace b:=b.on kb;clear kb
   have O:=ze1 (n:=kc) a1.out al
   have H:=zbW Y (show w.heap.size+1<=g by omega) (show kc<=maxLen by unfold maxLen; omega)
   clear Y a9 a1 b x5
   refine bkq hK ⟨qc0 rf,qc1 rf,qc2 rf,y5⟩ (h:=fun hHeld=>?_)
   clear hK K
   refine tkq 17 (h:=?_)
   refine rdq 18 (h:=fun K hK=>?_)
   have y59:=zaa (p:=⟨tb,to0+a,none⟩) (u:=.slice (some ⟨g,0,none⟩) kc kc) y5 ag
   clear y5
   have Y59:=hid y59
   clear y59
   have z0:=hM.froz (to0+a)
   obtain ⟨vo,v0⟩:=hM.old hal
   go_simp
   clear z0 v0
   have F:=hM.set (i:=a) hal H O
   replace hP:=hM.keep (i:=a) (r:=(.slice (some ⟨g,0,none⟩) kc kc)) hP;replace H:=hM.keep (i:=a) (r:=(.slice (some ⟨g,0,none⟩) kc kc)) H
   replace rf:=rf.setOther (a:=⟨tb,to0+a,none⟩) (by simpa using I) (.slice (some ⟨g,0,none⟩) kc kc)
   replace hB:=hB.setCell (p:=⟨tb,to0+a,none⟩) G (.slice (some ⟨g,0,none⟩) kc kc);replace hM:=F;clear F
   obtain ⟨w5,hw⟩:=exx (World.setCell w4 ⟨tb,to0+a,none⟩ (.slice (some ⟨g,0,none⟩) kc kc))
   rw [<-hw] at hM rf hB hP H Y59 ⊢;clear hw
   refine bkq hK ⟨qc0 rf,qc1 rf,qc2 rf,Y59.out⟩ (h:=fun hHeld=>?_)
   clear hK K
   refine wpAnyH_done (by kernel_rfl) ?_ _
   clear hHeld;clear Y59
   go_wp2
   go_meet
   exact ⟨_,hid (U.out.scale hL hal B (by rw [<-a5.out]; exact R.out)),hid (a7.out.scale hal B au.out),hM,hP,rf,hB⟩
 clear hM hP rf hB x5 b y5 U a7 a5 ae
 obtain ⟨W2,bp,bl,hM,hP,rf,hB⟩:=hcut
 go_wp2
 go_loopg [13] n (fun g3 iv wx=>∃ i:Nat,∃ W3,iv=.int .i64 (i:Nat)/\i<=n/\n<=i+g3/\Hid (EchP (P ^ M) n kc c0 a i p W3)/\Hid (RowOps (P ^ M) (addF P M) (mulF P M m) n kc V W3)/\MTabX wx (w.heap.size+1) (.slice (some ⟨tb,to0,none⟩) n lc) n kc W3 u9/\Own wx (w.heap.size+1) 3 1 u9 a (fun j _=>.int .i64 (p j:Nat))/\wx.rowIs w.heap.size 24 3 (fldCell (.int .i64 (P:Nat)) (.int .i64 (M:Nat)) (.slice A k c))/\Below w.heap.size w wx)
 case atStart=>exact ⟨0,W2,rfl,by omega,by omega,bp,bl,hM,hP,rf,hB⟩
 clear hM hP rf hB
 obtain ⟨i,W3,rfl,hi,bz,N,a6,hM,hP,rf,hB⟩:=hrel
 by_cases hil:i<n
 rotate_left
 ·have aj:¬ (i:Int)<(n:Int):=by omega
  obtain rfl:i=n:=by omega
  have a2:=hid N.out.done
  have kb:=(Below.refl wr.heap.size wr).alloc (Nat.le_refl _) (Obj.cells #[Value.int .i64 (c0:Nat)] 3)
  have bo:=hid (hM.on kb)
  have a8:=hid (hP.on kb)
  have RF8:=hid (zab rf kb)
  have bs:=hid (onS hB kb)
  have bq:Hid ((wr.alloc (Obj.cells #[Value.int .i64 (c0:Nat)] 3)).cell? ((⟨wr.heap.size,0,none⟩:Addr).add 0)=some (.int .i64 (c0:Nat))):=tbox2
  have b3:Hid (w.heap.size+1<=(wr.alloc (Obj.cells #[Value.int .i64 (c0:Nat)] 3)).heap.size):=RF8.out.lt
  have bu:Hid (a<=1048576):=by show _<=_; omega
  clear hM hP rf hB kb
  go_wp2_with (first | (at_builtin; (refine zaP rfl (.tmp 129) (.tmp 131) rfl a8.out rfl (ad:=⟨wr.heap.size,0,none⟩) (c:=1) rfl bq.out b3.out bu.out ?_); intro v9 w9 o1 o2 o3))
  have bn:=hid (bo.out.grown a8.out o2 o3)
  have RF9:=hid (RF8.out.of_block (o2.block _ RF8.out.lt fun e=>by have:=(a8.out.lt _ e.symm).1; omega))
  have br:=hid (bs.out.grown o2 (Nat.le_of_succ_le b3.out) fun q e=>by have:=(a8.out.lt q e).1; omega)
  have bm:=hid o1
  clear o1 o2 o3
  go_wp2
  go_roundg (gO - 1)
  case measure=>omega
  case rel=>exact ⟨a+1,c0+1,_,W3,by go_num,by go_num,by omega,by omega,a2,a6,bn.out,bm.out,RF9.out,br.out⟩
 have aj:(i:Int)<(n:Int):=by omega
 by_cases hia:i=a
 ·have ak:((i:Int) != (a:Int))=false:=by simp [hia]
  have a2:=hid (N.out.skip (.inl hia))
  clear hia
  go_wp2
  go_roundg (gk - 1)
  case measure=>omega
  case rel=>exact ⟨i+1,W3,by go_num,by omega,by omega,a2,a6,hM,hP,rf,hB⟩
 have ak:((i:Int) != (a:Int))=true:=by simp; omega
 obtain ⟨_,_,RA6,rc6,e6,_,_,x6,_,l,_⟩:=hM.row hil
 injection e6 with e6
 injection e6 with e1 e2
 subst e1 e2
 obtain ⟨rb6,ro6,ao,bb,y6⟩:=(show IntsR _ _ RA6 kc (fun j=>((W3 i j:Nat):Int)) from l.rd rfl).at (i:=c0) Z
 subst ao
 have af:=hM.rowne l
 obtain ⟨y,hy⟩:=exx (W3 i c0)
 rw [<-hy] at y6
 by_cases hy0:y=0
 ·have b6:((y:Int) != 0)=false:=by simp [hy0]
  have a2:=hid (N.out.skip (.inr (by rw [<-hy,hy0])))
  clear hia hy hy0
  go_wp2
  go_roundg (gk - 1)
  case measure=>omega
  case rel=>exact ⟨i+1,W3,by go_num,by omega,by omega,a2,a6,hM,hP,rf,hB⟩
 have b6:((y:Int) != 0)=true:=by simp; omega
 have b7:y<P ^ M:=by rw [hy]; exact N.out.ech.lt i hil c0 Z
 have HY:=hid hy
 have aw:=hid hia
 clear hy hy0 hia
 obtain ⟨_,_,RA7,rc7,e7,_,_,x7,_,o,_⟩:=hM.row hal
 injection e7 with e7
 injection e7 with e1 e2
 subst e1 e2
 have ah:inV (P ^ M) (y:Nat)=y:=zaj b7
 obtain ⟨w1,J⟩:=exx wr
 rw [<-J] at hM hP rf hB x6 y6 l x7 o ⊢;clear J
 have q0:=qc0 rf
 have q1:=qc1 rf
 have q2:=qc2 rf
 go_wp2
 refine wp_region_held_drew (S:=fun w'=>w'.cell? ⟨w.heap.size,0,none⟩=some (.int .i64 (P:Nat))/\w'.cell? ⟨w.heap.size,1,none⟩=some (.int .i64 (M:Nat))/\w'.cell? ⟨w.heap.size,2,none⟩=some (.slice A k c)/\w'.cell? ⟨rb6,ro6+c0,none⟩=some (.int .i64 (y:Nat))/\w'.cell? ⟨tb,to0+a,none⟩=some (.slice RA7 kc rc7)) (by kernel_rfl) ⟨cellS (Below.refl _ _).drew (rf.cell (i:=0) (by omega)),cellS (Below.refl _ _).drew (rf.cell (i:=1) (by omega)),cellS (Below.refl _ _).drew (rf.cell (i:=2) (by omega)),cellS (Below.refl _ _).drew (y6),cellS (Below.refl _ _).drew (x7)⟩ (fun hHeld=>?_)
 obtain ⟨w2,hw,kb⟩:=dwx w1
 rw [<-hw] at hHeld ⊢;clear hw;replace rf:=zab rf kb;replace hM:=hM.on kb;replace hP:=hP.on kb;replace hB:=onS hB kb;replace x6:=cellS kb x6;replace y6:=cellS kb y6;replace x7:=cellS kb x7;replace l:=l.on kb;replace o:=o.on kb;clear kb
 refine tkq 0 (h:=tkq 1 (h:=tkq 2 (h:=tkq 3 (h:=tkq 4 (h:=tkq 5 (h:=tkq 7 (h:=tkq 8 (h:=tkq 9 (h:=tkq 10 (h:=tkq 12 (h:=tkq 16 (h:=tkq 17 (h:=tkq 18 (h:=tkq 19 (h:=?_)))))))))))))))
 refine rdq2 6 11 (h:=fun K hK=>?_) (h2:=fun K hK=>?_)
 focus
  go_simp
  refine bkq hK ⟨qc0 rf,qc1 rf,qc2 rf,y6,x7⟩ (h:=fun hHeld=>?_)
  clear hK K
  refine rdq 11 (h:=fun K hK=>?_)
  go_simp
  refine bkq hK ⟨qc0 rf,qc1 rf,qc2 rf,y6,x7⟩ (h:=fun hHeld=>?_)
  clear hK K
  refine tkq 13 (h:=tkq 14 (h:=?_))
  refine rdq 15 (h:=fun K hK=>?_)
  go_simp
  go_wp2_with fail
  refine (zdq P M A k c (y:Nat) w2 C).mono ?_
  rintro e w3 ⟨rfl,kb⟩
  replace rf:=zab rf kb;replace hM:=hM.on kb;replace hP:=hP.on kb;replace hB:=onS hB kb;replace x6:=cellS kb x6;replace y6:=cellS kb y6;replace x7:=cellS kb x7;replace l:=l.on kb;replace o:=o.on kb;clear kb;rw [ah]
  obtain ⟨r,hr⟩:=exx (negF P M y)
  rw [<-hr]
  have B:r<P ^ M:=by rw [hr]; exact zb8 (by have:=C.1; omega)
  have R:=hid (show addF P M y r=0 by rw [hr]; exact zbK (by have:=C.1; omega))
  clear hr
 rotate_left
 focus
  go_simp
  refine bkq hK ⟨qc0 rf,qc1 rf,qc2 rf,y6,x7⟩ (h:=fun hHeld=>?_)
  clear hK K
  refine tkq 13 (h:=tkq 14 (h:=?_))
  refine rdq2 6 15 (h:=fun K hK=>?_) (h2:=fun K hK=>?_)
  focus
   go_simp
   refine bkq hK ⟨qc0 rf,qc1 rf,qc2 rf,y6,x7⟩ (h:=fun hHeld=>?_)
   clear hK K
   refine rdq 15 (h:=fun K hK=>?_)
   go_simp
   go_wp2_with fail
   refine (zdq P M A k c (y:Nat) w2 C).mono ?_
   rintro e w3 ⟨rfl,kb⟩
   replace rf:=zab rf kb;replace hM:=hM.on kb;replace hP:=hP.on kb;replace hB:=onS hB kb;replace x6:=cellS kb x6;replace y6:=cellS kb y6;replace x7:=cellS kb x7;replace l:=l.on kb;replace o:=o.on kb;clear kb;rw [ah]
   obtain ⟨r,hr⟩:=exx (negF P M y)
   rw [<-hr]
   have B:r<P ^ M:=by rw [hr]; exact zb8 (by have:=C.1; omega)
   have R:=hid (show addF P M y r=0 by rw [hr]; exact zbK (by have:=C.1; omega))
   clear hr
  rotate_left
  focus
   go_simp
   go_wp2_with fail
   refine (zdq P M A k c (y:Nat) w2 C).mono ?_
   rintro e w3 ⟨rfl,kb⟩
   replace rf:=zab rf kb;replace hM:=hM.on kb;replace hP:=hP.on kb;replace hB:=onS hB kb;replace x6:=cellS kb x6;replace y6:=cellS kb y6;replace x7:=cellS kb x7;replace l:=l.on kb;replace o:=o.on kb;clear kb;rw [ah]
   obtain ⟨r,hr⟩:=exx (negF P M y)
   rw [<-hr]
   have B:r<P ^ M:=by rw [hr]; exact zb8 (by have:=C.1; omega)
   have R:=hid (show addF P M y r=0 by rw [hr]; exact zbK (by have:=C.1; omega))
   clear hr
   refine bkq hK ⟨qc0 rf,qc1 rf,qc2 rf,y6,x7⟩ (h:=fun hHeld=>?_)
   clear hK K
   refine rdq 6 (h:=fun K hK=>?_)
   go_simp
  rotate_left
 rotate_left 2
 all_goals
  refine bkq hK ⟨qc0 rf,qc1 rf,qc2 rf,y6,x7⟩ (h:=fun hHeld=>?_)
  clear hK K
  refine rdq 20 (h:=fun K hK=>?_)
  have a1:=hid hP
  have b5:=hid (show IntsR w3 w3.heap.size (some ⟨rb6,ro6,none⟩) kc (fun j=>((W3 i j:Nat):Int)) from l.rd rfl)
  have b4:=hid (show IntsR w3 w3.heap.size RA7 kc (fun j=>((W3 a j:Nat):Int)) from o.rd rfl)
  clear l o x6
  go_simp
  go_wp2_with fail
  have a9:=rf.lt
  refine (zhv P M A k c m r (some ⟨rb6,ro6,none⟩) RA7 kc rc6 kc rc7 (W3 i) (W3 a) w3 C (zaO hm hB) hkM B b5.out (fun j hj=>N.out.ech.lt i hil j hj) b4.out (fun j hj=>N.out.ech.lt a hal j hj) (Nat.le_refl _) hK2).mono ?_
  rintro e w4 ⟨g,rfl,al,Y,kb⟩
  replace rf:=zab rf kb;replace hM:=hM.on kb;replace hP:=hP.on kb;replace hB:=onS hB kb;replace y6:=cellS kb y6;replace x7:=cellS kb x7;clear kb
  have O:=ze1 (n:=kc) a1.out al
  have H:=(zbW Y (show w.heap.size+1<=g by omega) (show kc<=maxLen by unfold maxLen; omega)).congr (f':=fun j _=>.int .i64 ((addF P M (W3 i j) (mulF P M m r (W3 a j)):Nat):Int)) (fun j hj _ _=>by rw [zj4 hL B (N.out.ech.lt i hil j hj)])
  clear Y a9 a1 b5 b4
  refine bkq hK ⟨qc0 rf,qc1 rf,qc2 rf,y6,x7⟩ (h:=fun hHeld=>?_)
  clear hK K
  refine tkq 21 (h:=?_)
  refine rdq 22 (h:=fun K hK=>?_)
  have y69:=zaa (p:=⟨tb,to0+i,none⟩) (u:=.slice (some ⟨g,0,none⟩) kc kc) y6 af
  have Y69:=hid y69
  have x79:=zc2 (p:=⟨tb,to0+i,none⟩) (u:=.slice (some ⟨g,0,none⟩) kc kc) x7 (by intro e; injection e with e1 e2; have:=aw.out; omega)
  have X79:=hid x79
  clear y69 x79 y6 x7
  have z0:=hM.froz (to0+i)
  obtain ⟨vo,v0⟩:=hM.old hil
  go_simp
  clear z0 v0
  have F:=hM.set (i:=i) hil H O
  replace hP:=hM.keep (i:=i) (r:=(.slice (some ⟨g,0,none⟩) kc kc)) hP;replace H:=hM.keep (i:=i) (r:=(.slice (some ⟨g,0,none⟩) kc kc)) H
  replace rf:=rf.setOther (a:=⟨tb,to0+i,none⟩) (by simpa using I) (.slice (some ⟨g,0,none⟩) kc kc)
  replace hB:=hB.setCell (p:=⟨tb,to0+i,none⟩) G (.slice (some ⟨g,0,none⟩) kc kc);replace hM:=F;clear F
  obtain ⟨w5,hw⟩:=exx (World.setCell w4 ⟨tb,to0+i,none⟩ (.slice (some ⟨g,0,none⟩) kc kc))
  rw [<-hw] at hM rf hB hP H Y69 X79 ⊢;clear hw
  refine bkq hK ⟨qc0 rf,qc1 rf,qc2 rf,Y69.out,X79.out⟩ (h:=fun hHeld=>?_)
  clear hK K
  refine wpAnyH_done (by kernel_rfl) ?_ _
  clear hHeld;clear Y69 X79
  go_wp2
  go_roundg (gk - 1)
  case measure=>omega
  case rel=>exact ⟨i+1,_,by go_num,by omega,by omega,hid (N.out.clear hL Z hil aw.out B (by rw [<-HY.out]; exact R.out)),hid (a6.out.add hil hal aw.out B),hM,hP,rf,hB⟩
def EqI (n m:Nat) (f g:Nat->Int):Prop:=n=m/\∀ i,i<n->f i=g i
def EqT (n m:Nat) (ln ln':Nat->Nat) (V W:Nat->Nat->Int):Prop:=n=m/\∀ i,i<n->EqI (ln i) (ln' i) (V i) (W i)
theorem zep (A B:Option Addr) (n m c d:Nat) (f g:Nat->Int) (w:World) (ha:IntsR w w.heap.size A n f) (hb:IntsR w w.heap.size B m g) (hn:n<=9223372036854775807) (hm:m<=9223372036854775807) :
  Calls Tryz.prog 192 #[.slice A n c,.slice B m d] w (IffPost (EqI n m f g) w):=by
 have HA:=hid ha
 have HB:=hid hb
 clear ha hb
 by_cases hnm:n=m
 rotate_left
 ·have hd:((n:Int) != (m:Int))=true:=by simp; omega
  go_enter Tryz.func192, Tryz.ntmps192
  go_wp2
  go_ret
  exact zat (fun h=>hnm h.1) (Below.refl _ _)
 subst hnm
 have hd:((n:Int) != (n:Int))=false:=by simp
 go_enter Tryz.func192, Tryz.ntmps192
 go_wp2
 go_loopg [5] n (fun gg iv wx=>∃ k:Nat,iv=.int .i64 (k:Nat)/\k<=n/\n<=k+gg/\Hid (∀ i,i<k->f i=g i)/\Below w.heap.size w wx)
 case atStart=>exact ⟨0,rfl,by omega,by omega,fun i hi=>absurd hi (by omega),Below.refl _ _⟩
 obtain ⟨k,rfl,hk,l,b,hW⟩:=hrel
 have o:(0:Int)<=(k:Int):=by omega
 by_cases hlt:k<n
 rotate_left
 ·have a:¬ (k:Int)<(n:Int):=by omega
  obtain rfl:k=n:=by omega
  go_wp2
  go_ret
  exact za5 ⟨rfl,b.out⟩ hW
 have a:(k:Int)<(n:Int):=by omega
 obtain ⟨ab,ao,rfl,q,x0⟩:=(HA.out.on hW).at hlt
 obtain ⟨bb,bo,rfl,p,y0⟩:=(HB.out.on hW).at hlt
 obtain ⟨x,hx⟩:=exx (f k)
 obtain ⟨y,hy⟩:=exx (g k)
 rw [<-hx] at x0;rw [<-hy] at y0
 have HX:=hid hx
 have HY:=hid hy
 clear hx hy
 by_cases h1:x=y
 ·have j:(x != y)=false:=by simp [h1]
  have H1:=hid h1
  clear h1
  go_wp2
  go_quiet (fail)
  go_wp2
  go_roundg (gk - 1)
  case measure=>omega
  refine ⟨k+1,by go_num,by omega,by omega,fun i hi=>?_,zac hW _⟩
  by_cases e:i=k
  ·subst e; rw [<-HX.out,<-HY.out]; exact H1.out
  ·exact b.out i (by omega)
 have j:(x != y)=true:=by simp [h1]
 have H1:=hid h1
 clear h1
 go_wp2
 go_quiet (fail)
 go_wp2
 go_ret
 exact zat (fun h=>H1.out (by rw [HX.out,HY.out]; exact h.2 k hlt)) (zac hW _)
theorem zeq (A B:Option Addr) (n m c d:Nat) (ln ln':Nat->Nat) (V W:Nat->Nat->Int) (w:World) (ha:IntRows w A n ln V) (hb:IntRows w B m ln' W) (hn:n<=9223372036854775807) (hm:m<=9223372036854775807) :
  Calls Tryz.prog 137 #[.slice A n c,.slice B m d] w (IffPost (EqT n m ln ln' V W) w):=by
 have HA:=hid ha
 have HB:=hid hb
 clear ha hb
 by_cases hnm:n=m
 rotate_left
 ·have hd:((n:Int) != (m:Int))=true:=by simp; omega
  go_enter Tryz.func137, Tryz.ntmps137
  go_wp2
  go_ret
  exact zat (fun h=>hnm h.1) (Below.refl _ _)
 subst hnm
 have hd:((n:Int) != (n:Int))=false:=by simp
 go_enter Tryz.func137, Tryz.ntmps137
 go_wp2
 go_loopg [5] n (fun gg iv wx=>∃ k:Nat,iv=.int .i64 (k:Nat)/\k<=n/\n<=k+gg/\Hid (∀ i,i<k->EqI (ln i) (ln' i) (V i) (W i))/\Below w.heap.size w wx)
 case atStart=>exact ⟨0,rfl,by omega,by omega,fun i hi=>absurd hi (by omega),Below.refl _ _⟩
 obtain ⟨k,rfl,hk,H,y,hW⟩:=hrel
 have I:(0:Int)<=(k:Int):=by omega
 by_cases hlt:k<n
 rotate_left
 ·have j:¬ (k:Int)<(n:Int):=by omega
  obtain rfl:k=n:=by omega
  go_wp2
  go_ret
  exact za5 ⟨rfl,y.out⟩ hW
 have j:(k:Int)<(n:Int):=by omega
 obtain ⟨ab,ao,RA,rc,hA,F,x0,D,s,g,_⟩:=HA.out k hlt
 subst hA
 obtain ⟨bb,bo,RB,rd,G,E,y0,C,r,a,_⟩:=HB.out k hlt
 subst G
 replace x0:=(hW.cell (p:=⟨ab,ao+k,none⟩) F).trans x0;replace y0:=(hW.cell (p:=⟨bb,bo+k,none⟩) E).trans y0
 have h1:=g.on hW
 have h2:=a.on hW
 have u:ln k<=9223372036854775807:=by unfold maxLen at s; omega
 have t:ln' k<=9223372036854775807:=by unfold maxLen at r; omega
 clear D s C r
 obtain ⟨LA,o⟩:=exx (ln k)
 obtain ⟨LB,l⟩:=exx (ln' k)
 rw [<-o] at x0 h1 u;rw [<-l] at y0 h2 t
 have x:=hid o
 have v:=hid l
 clear g a o l
 obtain ⟨w1,q⟩:=exx wr
 rw [<-q] at hW h1 h2 x0 y0 ⊢;clear q
 go_wp2
 refine wp_region_held_drew (S:=fun w'=>w'.cell? ⟨ab,ao+k,none⟩=some (.slice RA LA rc)/\w'.cell? ⟨bb,bo+k,none⟩=some (.slice RB LB rd)) (by kernel_rfl) ⟨cellS (Below.refl _ _).drew x0,cellS (Below.refl _ _).drew y0⟩ (fun hHeld=>?_)
 obtain ⟨w2,hw,kb⟩:=dwx w1
 rw [<-hw] at hHeld ⊢;clear hw;replace hW:=onS hW kb;replace h1:=h1.on kb;replace h2:=h2.on kb;replace x0:=cellS kb x0;replace y0:=cellS kb y0;clear kb
 refine tkq 0 (h:=tkq 1 (h:=tkq 2 (h:=tkq 3 (h:=tkq 4 (h:=tkq 5 (h:=tkq 6 (h:=tkq 7 (h:=?_))))))))
 refine rdq 8 (h:=fun K hK=>?_)
 go_simp
 go_wp2_with fail
 refine (zep RA RB LA LB rc rd (V k) (W k) w2 h1 h2 u t).mono ?_
 rintro e w3 ⟨b,rfl,hb,kb⟩
 replace hW:=onS hW kb;replace h1:=h1.on kb;replace h2:=h2.on kb;replace x0:=cellS kb x0;replace y0:=cellS kb y0;clear kb
 have z:=hid hb
 clear hb
 refine bkq hK ⟨x0,y0⟩ (h:=fun hHeld=>?_)
 clear hK K
 refine tkq 9 (h:=?_)
 refine wpAnyH_done (by kernel_rfl) ?_ _
 clear hHeld;clear x0 y0 h1 h2
 cases b
 ·go_wp2
  go_ret
  exact zat (fun h=>by have:=h.2 k hlt; rw [<-x.out,<-v.out] at this; have:=z.out.2 this; cases this) hW
 go_wp2
 go_roundg (gk - 1)
 case measure=>omega
 refine ⟨k+1,by go_num,by omega,by omega,fun i hi=>?_,hW⟩
 by_cases e:i=k
 ·subst e; rw [<-x.out,<-v.out]; exact z.out.1 (by first | rfl | trivial)
 ·exact y.out i (by omega)
def ErrPost (e:Int) (p:Prop) (w:World) (x:Ending) (w':World):Prop:=∃ v:Int,x=.returned (.int .i64 v)/\((v=0/\p)∨(v=e/\¬ p))/\Below w.heap.size w w'
theorem zhy {e:Int} {p:Prop} {w w':World} (h:p) (hB:Below w.heap.size w w'):ErrPost e p w (.returned (.int .i64 0)) w':=⟨0,rfl,.inl ⟨rfl,h⟩,hB⟩
theorem zhz {e:Int} {p:Prop} {w w':World} (h:¬ p) (hB:Below w.heap.size w w'):ErrPost e p w (.returned (.int .i64 e)) w':=⟨e,rfl,.inr ⟨rfl,h⟩,hB⟩
def AllIn (q n:Nat) (f:Nat->Int):Prop:=∀ i,i<n->0<=f i/\f i<q
theorem zdS (P M:Nat) (A:Option Addr) (k c:Nat) (T:Option Addr) (n d:Nat) (f:Nat->Int) (w:World) (hf:FldOk P M) (h:IntsR w w.heap.size T n f) (hn:n<=9223372036854775807) :
  Calls Tryz.prog 126 #[.agg #[.int .i64 (P:Nat),.int .i64 (M:Nat),.slice A k c],.slice T n d] w (ErrPost 2 (AllIn (P ^ M) n f) w):=by
 have HT:=hid h
 clear h
 obtain ⟨w0,g,hB,rf⟩:=zaz w (.int .i64 (P:Nat)) (.int .i64 (M:Nat)) (.slice A k c) 24
 go_enter Tryz.func126, Tryz.ntmps126
 go_upto_region 1 with fail
 rw [<-g];clear g
 go_wp2
 go_loopg [5] n (fun gg iv wx=>∃ i:Nat,iv=.int .i64 (i:Nat)/\i<=n/\n<=i+gg/\Hid (∀ t,t<i->0<=f t/\f t<(P ^ M:Nat))/\wx.rowIs w.heap.size 24 3 (fldCell (.int .i64 (P:Nat)) (.int .i64 (M:Nat)) (.slice A k c))/\Below w.heap.size w wx)
 case atStart=>exact ⟨0,rfl,by omega,by omega,fun t ht=>absurd ht (by omega),rf,hB⟩
 clear rf hB
 obtain ⟨i,rfl,hi,m,HQ,rf,hB⟩:=hrel
 have o:(0:Int)<=(i:Int):=by omega
 by_cases hlt:i<n
 rotate_left
 ·have a:¬ (i:Int)<(n:Int):=by omega
  obtain rfl:i=n:=by omega
  go_wp2
  go_ret
  exact zhy HQ.out hB
 have a:(i:Int)<(n:Int):=by omega
 obtain ⟨tb,to0,rfl,j,x0⟩:=HT.out.at hlt
 replace x0:=(hB.cell (p:=⟨tb,to0+i,none⟩) j).trans x0
 obtain ⟨x,hx⟩:=exx (f i)
 rw [<-hx] at x0
 have HX:=hid hx
 clear hx
 have q0:=qc0 rf
 have q1:=qc1 rf
 have q2:=qc2 rf
 obtain ⟨w1,b⟩:=exx wr
 rw [<-b] at hB rf x0 q0 q1 q2 ⊢;clear b
 go_wp2
 refine wp_region_held_drew (S:=fun w'=>w'.cell? ⟨w.heap.size,0,none⟩=some (.int .i64 (P:Nat))/\w'.cell? ⟨w.heap.size,1,none⟩=some (.int .i64 (M:Nat))/\w'.cell? ⟨w.heap.size,2,none⟩=some (.slice A k c)/\w'.cell? ⟨tb,to0+i,none⟩=some (.int .i64 x)) (by kernel_rfl) ⟨cellS (Below.refl _ _).drew q0,cellS (Below.refl _ _).drew q1,cellS (Below.refl _ _).drew q2,cellS (Below.refl _ _).drew x0⟩ (fun hHeld=>?_)
 obtain ⟨w2,hw,kb⟩:=dwx w1
 rw [<-hw] at hHeld ⊢;clear hw;replace rf:=zab rf kb;replace hB:=onS hB kb;replace x0:=cellS kb x0;replace q0:=cellS kb q0;replace q1:=cellS kb q1;replace q2:=cellS kb q2;clear kb
 refine tkq 0 (h:=tkq 1 (h:=tkq 2 (h:=tkq 3 (h:=tkq 4 (h:=?_)))))
 refine rdq 5 (h:=fun K hK=>?_)
 go_simp
 go_wp2_with fail
 refine (zf8 P M A k c x w2 hf).mono ?_
 rintro e w3 ⟨rfl,kb⟩
 replace rf:=zab rf kb;replace hB:=onS hB kb;replace x0:=cellS kb x0;replace q0:=cellS kb q0;replace q1:=cellS kb q1;replace q2:=cellS kb q2;clear kb
 refine bkq hK ⟨q0,q1,q2,x0⟩ (h:=fun hHeld=>?_)
 clear hK K
 refine tkq 6 (h:=?_)
 refine wpAnyH_done (by kernel_rfl) ?_ _
 clear hHeld;clear q0 q1 q2 x0
 by_cases hxq:0<=x/\x<(P ^ M:Nat)
 ·have hd:isB (P ^ M) x=true:=by unfold isB; simpa using hxq
  rw [hd]
  have l:=hid hxq
  clear hd hxq
  go_wp2
  go_roundg (gk - 1)
  case measure=>omega
  refine ⟨i+1,by go_num,by omega,by omega,fun t ht=>?_,rf,hB⟩
  by_cases e:t=i
  ·subst e; rw [<-HX.out]; exact l.out
  ·exact HQ.out t (by omega)
 have hd:isB (P ^ M) x=false:=by unfold isB; simpa using hxq
 rw [hd];clear hd
 go_wp2
 go_ret
 exact zhz (fun h=>hxq (by rw [HX.out]; exact h i hlt)) hB
section
variable {K:Type}
def sumK [Add K] [Zero K]:Nat->(Nat->K)->K
 | 0,_=>0
 | n+1,f=>sumK n f+f n
def ent [Zero K] (x:List K) (j:Nat):K:=x.getD j 0
def wd (k:Nat) (f:Nat->K):List K:=(List.range k).map f
theorem zbr [Add K] [Zero K] {n:Nat} {f g:Nat->K} (h:∀ i,i<n->f i=g i):sumK n f=sumK n g:=by
 induction n with
 | zero=>rfl
 | succ n ih=>show sumK n f+f n=sumK n g+g n; rw [ih fun i hi=>h i (by omega),h n (by omega)]
theorem zfr (k:Nat) (f:Nat->K):(wd k f).length=k:=by simp [wd]
theorem zbX [Zero K] {k j:Nat} {f:Nat->K} (hj:j<k):ent (wd k f) j=f j:=by
 unfold ent wd
 rw [List.getD_eq_getElem?_getD,List.getElem?_map,List.getElem?_range hj]
 rfl
theorem zer [Zero K] {x:List K} {j:Nat} (hj:j<x.length):ent x j=x[j]:=by
 unfold ent
 rw [List.getD_eq_getElem?_getD,List.getElem?_eq_getElem hj]
 rfl
theorem zge [Zero K] {k:Nat} {x y:List K} (hx:x.length=k) (hy:y.length=k) (h:∀ j,j<k->ent x j=ent y j):x=y:=by
 refine List.ext_getElem (by omega) fun j h1 h2=>?_
 rw [<-zer h1,<-zer h2]
 exact h j (by omega)
theorem ze2 [Zero K] {k j:Nat}:ent (List.replicate k (0:K)) j=0:=by
 unfold ent
 by_cases h:j<k
 ·simp [List.getD_eq_getElem?_getD,h]
 ·simp [List.getD_eq_getElem?_getD,h]
theorem ze3 [Add K] [Zero K] {k j:Nat} {x y:List K} (hx:x.length=k) (hy:y.length=k) (hj:j<k):ent (addW x y) j=ent x j+ent y j:=by
 have hl:j<(addW x y).length:=by unfold addW; rw [List.length_zipWith]; omega
 rw [zer hl,zer (by omega),zer (by omega)]
 exact List.getElem_zipWith (f:=fun a b=>a+b)
theorem zdu [Mul K] [Zero K] {k j:Nat} {a:K} {x:List K} (hx:x.length=k) (hj:j<k):ent (smulW a x) j=a*ent x j:=by
 have hl:j<(smulW a x).length:=by unfold smulW; rw [List.length_map]; omega
 rw [zer hl,zer (by omega)]
 exact List.getElem_map (fun b=>a*b)
end
section
variable {K:Type} [Add K] [Mul K] [Neg K] [Zero K] [One K]
variable (F:Fie K)
include F
theorem zcm {n:Nat} {f:Nat->K} (h:∀ i,i<n->f i=0):sumK n f=0:=by
 induction n with
 | zero=>rfl
 | succ n ih=>show sumK n f+f n=0; rw [ih fun i hi=>h i (by omega),h n (by omega),F.addZ]
theorem zes {n t:Nat} {f:Nat->K} (ht:t<n) (h:∀ i,i<n->i≠t->f i=0):sumK n f=f t:=by
 induction n with
 | zero=>omega
 | succ n ih =>
  show sumK n f+f n=f t
  by_cases e:t=n
  ·subst e
   rw [zcm F fun i hi=>h i (by omega) (by omega),F.zeroA]
  ·rw [ih (by omega) fun i hi=>h i (by omega),h n (by omega) (by omega),F.addZ]
theorem zgf (n:Nat) (f g:Nat->K):sumK n (fun i=>f i+g i)=sumK n f+sumK n g:=by
 induction n with
 | zero=>exact (F.addZ 0).symm
 | succ n ih =>
  show sumK n (fun i=>f i+g i)+(f n+g n)=sumK n f+f n+(sumK n g+g n)
  rw [ih,F.addA,F.addA,F.addL (sumK n g)]
theorem zgg (c:K) (n:Nat) (f:Nat->K):sumK n (fun i=>c*f i)=c*sumK n f:=by
 induction n with
 | zero=>exact (F.mulZ c).symm
 | succ n ih =>
  show sumK n (fun i=>c*f i)+c*f n=c*(sumK n f+f n)
  rw [ih,F.dist]
end
section
variable {K:Type} [Add K] [Mul K] [Zero K]
def comb (k:Nat) (N:Nat->Nat->K) (c:Nat->K):Nat->List K
 | 0=>List.replicate k 0
 | f+1=>addW (comb k N c f) (smulW (c f) (wd k (N f)))
theorem zet (k:Nat) (N:Nat->Nat->K) (c:Nat->K):∀ f,(comb k N c f).length=k:=by
 intro f
 induction f with
 | zero=>simp [comb]
 | succ f ih=>show (addW _ _).length=k; rw [zgc (by rw [ih,zds,zfr]),ih]
theorem ziR (k:Nat) (N:Nat->Nat->K) (c:Nat->K) {n:Nat}:∀ f,f<=n->Gen k n (fun i=>wd k (N i)) (comb k N c f):=by
 intro f
 induction f with
 | zero=>exact fun _=>.zero
 | succ f ih=>exact fun h=>.add (ih (by omega)) (.smul _ (.row (r:=fun i=>wd k (N i)) f (by omega)))
theorem zbY {k j:Nat} (N:Nat->Nat->K) (c:Nat->K) (hj:j<k):∀ f,ent (comb k N c f) j=sumK f fun u=>c u*N u j:=by
 intro f
 induction f with
 | zero=>exact ze2
 | succ f ih =>
  show ent (addW _ _) j=sumK f _+_
  rw [ze3 (zet _ _ _ _) (by rw [zds,zfr]) hj,ih,zdu (zfr _ _) hj,zbX hj]
end
section
variable {K:Type} [Add K] [Mul K] [Neg K] [Zero K] [One K]
structure EchK (k a:Nat) (pv:Nat->Nat) (R:Nat->Nat->K):Prop where
 inc:∀ s t,s<t->t<a->pv s<pv t
 pvlt:∀ s,s<a->pv s<k
 one:∀ s,s<a->R s (pv s)=1
 zero:∀ s t,s<a->t<a->t≠s->R t (pv s)=0
 lead:∀ s,s<a->∀ j,j<pv s->R s j=0
variable (F:Fie K)
include F
theorem EchK.rep {k a:Nat} {pv:Nat->Nat} {R:Nat->Nat->K} (h:EchK k a pv R) {x:List K} (hx:Gen k a (fun i=>wd k (R i)) x) :
  x.length=k/\∀ j,j<k->ent x j=sumK a fun s=>ent x (pv s)*R s j:=by
 induction hx with
 | zero =>
  refine ⟨by simp,fun j _=>?_⟩
  rw [ze2,zcm F fun s _=>by rw [ze2,F.zMul]]
 | row i hi =>
  refine ⟨zfr _ _,fun j hj=>?_⟩
  rw [zbX hj,zes F (t:=i) hi fun s hs hne=>by rw [zbX (h.pvlt s hs),h.zero s i hs hi (fun e=>hne e.symm),F.zMul]]
  rw [zbX (h.pvlt i hi),h.one i hi,F.oneM]
 | add h1 h2 i1 i2 =>
  refine ⟨by rw [zgc (by rw [i1.1,i2.1]),i1.1],fun j hj=>?_⟩
  rw [ze3 i1.1 i2.1 hj,i1.2 j hj,i2.2 j hj,<-zgf F]
  exact zbr fun s hs=>by rw [ze3 i1.1 i2.1 (h.pvlt s hs),F.distR]
 | smul a h1 i1 =>
  refine ⟨by rw [zds,i1.1],fun j hj=>?_⟩
  rw [zdu i1.1 hj,i1.2 j hj,<-zgg F]
  exact zbr fun s hs=>by rw [zdu i1.1 (h.pvlt s hs),F.mulA]
theorem EchK.lead_pv {k a:Nat} {pv:Nat->Nat} {R:Nat->Nat->K} (h:EchK k a pv R) {x:List K} (hx:Gen k a (fun i=>wd k (R i)) x) {j:Nat} (hj:j<k) (h1:ent x j≠0) (h0:∀ i,i<j->ent x i=0):∃ s,s<a/\pv s=j:=by
 refine Classical.byContradiction fun hn=>h1 ?_
 rw [(h.rep F hx).2 j hj]
 refine zcm F fun s hs=>?_
 have b:pv s≠j:=fun e=>hn ⟨s,hs,e⟩
 by_cases hlt:pv s<j
 ·rw [h0 _ hlt,F.zMul]
 ·rw [h.lead s hs j (by omega),F.mulZ]
end
theorem zj5 {a a':Nat} {p p':Nat->Nat} (h:∀ s t,s<t->t<a->p s<p t) (h':∀ s t,s<t->t<a'->p' s<p' t) (h1:∀ s,s<a->∃ t,t<a'/\p' t=p s) (h2:∀ s,s<a'->∃ t,t<a/\p t=p' s):a=a'/\∀ s,s<a->p s=p' s:=by
 have c : ∀ s, (s < a → s < a' ∧ p' s = p s) ∧ (s < a' → s < a ∧ p' s = p s) := by
  intro s
  induction s using Nat.strongRecOn with
  | _ s ih =>
   have A:s<a->s<a'/\p' s=p s:=fun hs=>by
    obtain ⟨t,ht,e⟩:=h1 s hs
    rcases Nat.lt_trichotomy t s with hl | rfl | hl
    ·have:=(ih t hl).2 ht
     have:=h t s hl hs
     omega
    ·exact ⟨ht,e⟩
    ·have b:s<a':=by omega
     have d:=h' s t hl ht
     obtain ⟨u,hu,e2⟩:=h2 s b
     rcases Nat.lt_trichotomy u s with hl2 | rfl | hl2
     ·have h3:=((ih u hl2).1 hu).2
      have:=h' u s hl2 b
      omega
     ·omega
     ·have:=h s u hl2 hu
      omega
   refine ⟨A,fun hs=>?_⟩
   obtain ⟨t,ht,e⟩:=h2 s hs
   rcases Nat.lt_trichotomy t s with hl | rfl | hl
   ·have h3:=(ih t hl).1 ht
    have:=h' t s hl hs
    omega
   ·exact ⟨ht,e.symm⟩
   ·have b:s<a:=by omega
    exact ⟨b,(A b).2⟩
 refine ⟨?_,fun s hs=>((c s).1 hs).2.symm⟩
 rcases Nat.lt_trichotomy a a' with hl | e | hl
 ·have:=((c a).2 hl).1; omega
 ·exact e
 ·have:=((c a').1 hl).1; omega
section
variable {K:Type} [Add K] [Mul K] [Neg K] [Zero K] [One K] (F:Fie K)
include F
theorem EchK.sub {k a a':Nat} {pv pv':Nat->Nat} {R R':Nat->Nat->K} (h:EchK k a pv R) (h':EchK k a' pv' R') (e:∀ x,Gen k a (fun i=>wd k (R i)) x->Gen k a' (fun i=>wd k (R' i)) x):∀ s,s<a->∃ t,t<a'/\pv' t=pv s:=fun s hs =>
 h'.lead_pv F (e _ (.row (r:=fun i=>wd k (R i)) s hs)) (h.pvlt s hs) (by
  show ent (wd k (R s)) (pv s)≠0
  rw [zbX (h.pvlt s hs),h.one s hs]
  exact F.ne) fun i hi=>by
  show ent (wd k (R s)) i=0
  rw [zbX (by have:=h.pvlt s hs; omega),h.lead s hs i hi]
theorem EchK.unique {k a a':Nat} {pv pv':Nat->Nat} {R R':Nat->Nat->K} (h:EchK k a pv R) (h':EchK k a' pv' R') (e:∀ x,Gen k a (fun i=>wd k (R i)) x↔Gen k a' (fun i=>wd k (R' i)) x) :
  a=a'/\(∀ s,s<a->pv s=pv' s)/\∀ s,s<a->∀ j,j<k->R s j=R' s j:=by
 obtain ⟨e1,e2⟩:=zj5 h.inc h'.inc (h.sub F h' fun x hx=>(e x).1 hx) (h'.sub F h fun x hx=>(e x).2 hx)
 refine ⟨e1,e2,fun s hs j hj=>?_⟩
 subst e1
 have hx:=(e _).1 (.row (r:=fun i=>wd k (R i)) s hs)
 have hr:=(h'.rep F hx).2 j hj
 rw [zbX hj,zes F hs fun t ht hne=>?_] at hr
 ·rw [<-e2 s hs,zbX (h.pvlt s hs),h.one s hs,F.oneM] at hr
  exact hr
 ·rw [<-e2 t ht,zbX (h.pvlt t ht),h.zero t s ht hs (fun e=>hne e.symm),F.zMul]
end
section
variable {K:Type} [Add K] [Mul K] [Neg K] [Zero K] [One K] (F:Fie K)
include F
theorem zgh {k n:Nat} {N:Nat->Nat->K} {x:List K} (h:Gen k n (fun i=>wd k (N i)) x):x.length=k/\∃ c:Nat->K,x=comb k N c n:=by
 have b:∀ {x:List K} {c:Nat->K},x.length=k->(∀ j,j<k->ent x j=sumK n fun u=>c u*N u j)->x=comb k N c n:=fun hl he =>
  zge hl (zet _ _ _ _) fun j hj=>by rw [he j hj,zbY _ _ hj]
 induction h with
 | zero=>exact ⟨by simp,fun _=>0,b (by simp) fun j _=>by rw [ze2,zcm F fun s _=>F.zMul _]⟩
 | row i hi =>
  refine ⟨zfr _ _,fun u=>if u=i then 1 else 0,b (zfr _ _) fun j hj=>?_⟩
  rw [zbX hj,zes F (t:=i) hi fun s _ hne=>by rw [if_neg hne,F.zMul],if_pos rfl,F.oneM]
 | add h1 h2 i1 i2 =>
  obtain ⟨l1,c1,e1⟩:=i1
  obtain ⟨l2,c2,e2⟩:=i2
  have hl:=zgc (l1.trans l2.symm)
  rw [l1] at hl
  refine ⟨hl,fun u=>c1 u+c2 u,b hl fun j hj=>?_⟩
  rw [ze3 l1 l2 hj,e1,e2,zbY _ _ hj,zbY _ _ hj,<-zgf F]
  exact zbr fun s _=>(F.distR _ _ _).symm
 | smul a h1 i1 =>
  obtain ⟨l1,c1,e1⟩:=i1
  have hl:=zds a
  refine ⟨by rw [hl,l1],fun u=>a*c1 u,b (by rw [hl,l1]) fun j hj=>?_⟩
  rw [zdu l1 hj,e1,zbY _ _ hj,<-zgg F]
  exact zbr fun s _=>(F.mulA _ _ _).symm
end
def spE (add mul:Nat->Nat->Nat) (V:Nat->Nat->Nat) (c:Nat->Nat):Nat->Nat->Nat
 | 0,_=>0
 | t+1,j=>add (spE add mul V c t j) (mul (c t) (V t j))
def InSp (q:Nat) (add mul:Nat->Nat->Nat) (n k:Nat) (V:Nat->Nat->Nat) (x:Nat->Nat):Prop :=
 ∃ c:Nat->Nat,(∀ i,i<n->c i<q)/\∀ j,j<k->x j=spE add mul V c n j
def RrefN (q n k:Nat) (V:Nat->Nat->Nat):Prop:=∃ p,EchN q n k k n p V
def SameSp (q:Nat) (add mul:Nat->Nat->Nat) (k n n':Nat) (V V':Nat->Nat->Nat):Prop:=∀ x,InSp q add mul n k V x↔InSp q add mul n' k V' x
section
variable {q n k:Nat} {add mul:Nat->Nat->Nat} {V:Nat->Nat->Nat}
theorem zcw (h:FieldLaws q add mul) (c:Nat->Nat) (t j:Nat):spE add mul V c t j<q:=by
 cases t with
 | zero=>have:=h.two; show 0<q; omega
 | succ t=>exact h.addLt _ _
theorem zdv {V':Nat->Nat->Nat} {c c':Nat->Nat} {j:Nat}:∀ t,(∀ i,i<t->c i=c' i/\V i j=V' i j)->spE add mul V c t j=spE add mul V' c' t j
 | 0,_=>rfl
 | t+1,h=>by
  show add _ _=add _ _
  rw [zdv t fun i hi=>h i (by omega),(h t (by omega)).1,(h t (by omega)).2]
theorem InSp.lt (hL:FieldLaws q add mul) {x:Nat->Nat} (h:InSp q add mul n k V x) {j:Nat} (hj:j<k):x j<q:=by
 obtain ⟨c,_,h2⟩:=h
 rw [h2 j hj]
 exact zcw hL c n j
section
variable (hq:0<q)
theorem zgi [iA:Add (El q)] [iM:Mul (El q)] [i0:Zero (El q)] (h:FieldLaws q add mul) (ha:∀ x y:El q,(x+y).val=add x.val y.val) (hm:∀ x y:El q,(x*y).val=mul x.val y.val) (h0:(0:El q).val=0) {c:Nat->Nat} {j:Nat}:∀ t,(∀ i,i<t->c i<q)->(∀ i,i<t->V i j<q)->(sumK t fun u=>toEl q hq (c u)*toEl q hq (V u j))=toEl q hq (spE add mul V c t j)
 | 0,_,_=>El.ext' (by show (0:El q).val=(toEl q hq 0).val; rw [h0,zav hq hq])
 | t+1,hc,hv=>by
  have ih:=zgi h ha hm h0 (c:=c) (j:=j) t (fun i hi=>hc i (by omega)) (fun i hi=>hv i (by omega))
  refine El.ext' ?_
  show ((sumK t fun u=>toEl q hq (c u)*toEl q hq (V u j))+toEl q hq (c t)*toEl q hq (V t j)).val=(toEl q hq (add (spE add mul V c t j) (mul (c t) (V t j)))).val
  rw [ha,hm,ih,zav hq (zcw h c t j),zav hq (hc t (by omega)),zav hq (hv t (by omega)),zav hq (h.addLt _ _)]
theorem zeu (x:Nat->Nat):wordK q hq k x=wd k (fun j=>toEl q hq (x j)):=rfl
theorem zbs [iA:Add (El q)] [iM:Mul (El q)] [iN:Neg (El q)] [i0:Zero (El q)] [i1:One (El q)] (F:Fie (El q)) (h:FieldLaws q add mul) (ha:∀ x y:El q,(x+y).val=add x.val y.val) (hm:∀ x y:El q,(x*y).val=mul x.val y.val) (h0:(0:El q).val=0) (hV:∀ i,i<n->∀ j,j<k->V i j<q) {x:Nat->Nat} (hx:∀ j,j<k->x j<q) :
  InSp q add mul n k V x↔Gen k n (fun i=>wordK q hq k (V i)) (wordK q hq k x):=by
 constructor
 ·rintro ⟨c,h1,h2⟩
  have e:wordK q hq k x=comb k (fun i j=>toEl q hq (V i j)) (fun u=>toEl q hq (c u)) n:=zge (zdt hq k x) (zet _ _ _ _) fun j hj=>by
   rw [zeu hq,zbX hj,zbY _ _ hj,zgi hq h ha hm h0 n h1 (fun i hi=>hV i hi j hj),h2 j hj]
  rw [e]
  exact ziR k (fun i j=>toEl q hq (V i j)) (fun u=>toEl q hq (c u)) n (Nat.le_refl _)
 intro hg
 obtain ⟨_,c,e⟩:=zgh F (N:=fun i j=>toEl q hq (V i j)) hg
 refine ⟨fun u=>(c u).val,fun i _=>(c i).lt,fun j hj=>?_⟩
 have e2:=congrArg (fun l=>ent l j) e
 rw [zeu hq,zbX hj,zbY _ _ hj] at e2
 have e3:(sumK n fun u=>c u*toEl q hq (V u j))=sumK n fun u=>toEl q hq (c u).val*toEl q hq (V u j):=zbr fun u _=>by
  rw [show toEl q hq (c u).val=c u from El.ext' (zav hq (c u).lt)]
 rw [e3,zgi hq h ha hm h0 n (fun i _=>(c i).lt) (fun i hi=>hV i hi j hj)] at e2
 exact zeo hq (hx j hj) (zcw h _ n j) e2
theorem EchN.toK [i0:Zero (El q)] [i1:One (El q)] {a:Nat} {p:Nat->Nat} (h0:(0:El q).val=0) (h1:(1:El q).val=1) (h:EchN q n k k a p V):EchK k a p (fun i j=>toEl q hq (V i j)):=by
 have b:=h.le
 refine ⟨h.inc,h.pvlt,fun s hs=>El.ext' ?_,fun s t hs ht hne=>El.ext' ?_,fun s hs j hj=>El.ext' ?_⟩
 ·rw [zav hq (h.lt s (by omega) _ (h.pvlt s hs)),h1,h.one s hs]
 ·rw [zav hq (h.lt t (by omega) _ (h.pvlt s hs)),h0,h.zero s hs t (by omega) hne]
 ·rw [zav hq (h.lt s (by omega) _ (Nat.lt_trans hj (h.pvlt s hs))),h0,h.lead s hs j hj]
end
theorem EchN.top {a:Nat} {p:Nat->Nat} (h:EchN q n k k a p V):EchN q a k k a p V :=
 ⟨Nat.le_refl _,fun i hi=>h.lt i (Nat.lt_of_lt_of_le hi h.le),h.inc,h.pvlt,h.one,fun s hs i hi=>h.zero s hs i (Nat.lt_of_lt_of_le hi h.le),h.lead,fun i h1 h2=>absurd h1 (by omega)⟩
theorem zgj (hL:FieldLaws q add mul) {c:Nat->Nat} {j a:Nat} (hz:∀ i,a<=i->i<n->V i j=0) (hc:∀ i,i<n->c i<q):∀ t,t<=n->a<=t->spE add mul V c t j=spE add mul V c a j:=by
 intro t
 induction t with
 | zero =>
  intro _ h
  obtain rfl:a=0:=by omega
  rfl
 | succ t ih =>
  intro h1 h2
  by_cases e:a=t+1
  ·rw [e]
  ·show add (spE add mul V c t j) (mul (c t) (V t j))=_
   rw [hz t (by omega) (by omega),hL.mulZero (hc t (by omega)),hL.addZero (zcw hL _ _ _),ih (by omega) (by omega)]
theorem EchN.sp_top (hL:FieldLaws q add mul) {a:Nat} {p:Nat->Nat} (h:EchN q n k k a p V):SameSp q add mul k n a V V:=by
 have b:=h.le
 have hq:=hL.two
 intro x
 constructor
 ·rintro ⟨c,h1,h2⟩
  exact ⟨c,fun i hi=>h1 i (by omega),fun j hj=>by rw [h2 j hj,zgj hL (fun i a1 a2=>h.below i a1 a2 j hj) h1 n (Nat.le_refl _) b]⟩
 rintro ⟨c,h1,h2⟩
 refine ⟨fun i=>if i<a then c i else 0,fun i hi=>?_,fun j hj=>?_⟩
 ·show (if i<a then c i else 0)<q
  split
  ·rename_i h3; exact h1 i h3
  ·omega
 rw [h2 j hj,zgj (a:=a) hL (fun i a1 a2=>h.below i a1 a2 j hj) (fun i hi=>?_) n (Nat.le_refl _) b]
 ·exact zdv a fun i hi=>⟨by rw [if_pos hi],rfl⟩
 show (if i<a then c i else 0)<q
 split
 ·rename_i h3; exact h1 i h3
 ·omega
theorem RowOps.sp (hL:FieldLaws q add mul) {W:Nat->Nat->Nat} (hV:∀ i,i<n->∀ j,j<k->V i j<q) (h:RowOps q add mul n k V W):SameSp q add mul k n n V W/\∀ i,i<n->∀ j,j<k->W i j<q:=by
 have hq:0<q:=by have:=hL.two; omega
 obtain ⟨iA,iM,iN,i0,i1,F,ha,hm,h0,h1⟩:=ziO hL
 obtain ⟨hW,hg⟩:=RowOps.gen hq F hL ha hm h0 hV h
 refine ⟨fun x=>?_,hW⟩
 constructor
 ·intro hx
  exact (zbs hq F hL ha hm h0 hW fun j hj=>hx.lt hL hj).2 ((hg _).2 ((zbs hq F hL ha hm h0 hV fun j hj=>hx.lt hL hj).1 hx))
 ·intro hx
  exact (zbs hq F hL ha hm h0 hV fun j hj=>hx.lt hL hj).2 ((hg _).1 ((zbs hq F hL ha hm h0 hW fun j hj=>hx.lt hL hj).1 hx))
theorem zfs (hL:FieldLaws q add mul) {n':Nat} {p p':Nat->Nat} {V':Nat->Nat->Nat} (h:EchN q n k k n p V) (h':EchN q n' k k n' p' V') (e:SameSp q add mul k n n' V V') :
  n=n'/\(∀ s,s<n->p s=p' s)/\∀ s,s<n->∀ j,j<k->V s j=V' s j:=by
 have hq:0<q:=by have:=hL.two; omega
 obtain ⟨iA,iM,iN,i0,i1,F,ha,hm,h0,h1⟩:=ziO hL
 have back:∀ (m:Nat) (U:Nat->Nat->Nat) (x:List (El q)),(∀ i,i<m->∀ j,j<k->U i j<q)->Gen k m (fun i=>wd k (fun j=>toEl q hq (U i j))) x->x=wordK q hq k (fun j=>(ent x j).val):=fun m U x hU hx=>by
  refine zge (zgh F (N:=fun i j=>toEl q hq (U i j)) hx).1 (zdt hq k _) fun j hj=>?_
  rw [zeu hq,zbX hj]
  exact El.ext' (zav hq (ent x j).lt).symm
 obtain ⟨e1,e2,e3⟩:=(h.toK hq h0 h1).unique F (h'.toK hq h0 h1) fun x=>by
  constructor
  ·intro hx
   have ex:=back _ _ _ h.lt hx
   rw [ex] at hx ⊢
   exact (zbs hq F hL ha hm h0 h'.lt fun j _=>(ent x j).lt).1 ((e _).1 ((zbs hq F hL ha hm h0 h.lt fun j _=>(ent x j).lt).2 hx))
  intro hx
  have ex:=back _ _ _ h'.lt hx
  rw [ex] at hx ⊢
  exact (zbs hq F hL ha hm h0 h.lt fun j _=>(ent x j).lt).1 ((e _).2 ((zbs hq F hL ha hm h0 h'.lt fun j _=>(ent x j).lt).2 hx))
 refine ⟨e1,e2,fun s hs j hj=>zeo hq (h.lt s hs j hj) (h'.lt s (by omega) j hj) (e3 s hs j hj)⟩
theorem zdT (hL:FieldLaws q add mul) {a:Nat} {p:Nat->Nat} {W:Nat->Nat->Nat} (hV:∀ i,i<n->∀ j,j<k->V i j<q) (h:EchN q n k k a p W) (hr:RowOps q add mul n k V W) :
  RrefN q n k V↔a=n/\∀ i,i<a->∀ j,j<k->W i j=V i j:=by
 constructor
 ·rintro ⟨p',h'⟩
  obtain ⟨hs,_⟩:=hr.sp hL hV
  obtain ⟨e1,e2,e3⟩:=zfs hL h.top h' fun x=>((h.sp_top hL x).symm.trans (hs x).symm)
  exact ⟨e1,e3⟩
 ·rintro ⟨rfl,e⟩
  exact ⟨p,h.congr (Nat.le_refl _) e⟩
end
end Go.Proofs.YtgekjfpapmlndaaGreat