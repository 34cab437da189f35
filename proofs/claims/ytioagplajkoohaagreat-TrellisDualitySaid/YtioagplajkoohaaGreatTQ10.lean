/- Merged texts of a claim: MElim, MCan, MChk, MOpen, MCano, MKer, Spc, SpOpen. -/
import Derived.Test.YtioagplajkoohaaGreatTQ6
import Derived.Test.YtioagplajkoohaaGreatTQ9
namespace Go.Proofs.YtioagplajkoohaaGreat
set_option maxRecDepth 100000
set_option maxHeartbeats 32000000
open KA KB KC KE KF
open Go.RowKit
theorem boxRow {w:World} {v:Value} {T:TypeId}:(w.alloc (.cells #[v] T)).rowIs w.heap.size T 1 (fun _=>v):=⟨_,zaw rfl,rfl,fun i hi=>by
 obtain rfl:i=0:=by omega
 rfl⟩
def MElimPost (base q:Nat) (add mul:Nat->Nat->Nat) (tb o n c k cols:Nat) (V:Nat->Nat->Nat) (w:World) (e:Ending) (w':World):Prop :=
 ∃ (pv:Value) (d:Int) (a c0:Nat) (p:Nat->Nat) (r:Nat->RowAt) (W:Nat->Nat->Nat),e=.returned (.tuple #[pv,.int .i64 d])/\DTab w' base tb o n c k r W/\Own w' base 3 1 pv a (fun j _=>.int .i64 (p j:Nat))/\Below base w w' /\
  c0<=cols/\(c0=cols∨a=n)/\EchN q n k c0 a p W/\RowOps q add mul n k V W
theorem zhF (P M g base tb o n c kc cols:Nat) (m:Nat->Nat) (r0:Nat->RowAt) (V:Nat->Nat->Nat) (w:World) (hG:GF w base g P M m) (hbw:base<=w.heap.size) (hT:DTab w base tb o n c kc r0 V)
  (hV:∀ i,i<n->∀ j,j<kc->V i j<P ^ M) (hcK:cols<=kc) (hK2:kc<=1048576) (hn:n<=1048576) :
  Calls Tryz.prog 241 #[.pointer (some ⟨g,0,none⟩),.slice (some ⟨tb,o,none⟩) n c,.int .i64 (cols:Nat),.slice none 0 0] w (MElimPost base (P ^ M) (addF P M) (mulF P M m) tb o n c kc cols V w):=by
 have hL:=fieldLaws hG.ok
 have hP0:0<P:=by have:=hG.ok.1.1; omega
 have HGF:=hid hG
 have HST:=hid (EchN.start (pv:=fun _=>0) hV)
 obtain ⟨o4,ho4⟩:∃ x,x=Obj.cells #[.pointer (some ⟨g,0,none⟩)] 100 := ⟨_,rfl⟩
 obtain ⟨o5,ho5⟩:∃ x,x=Obj.cells #[.slice (some ⟨tb,o,none⟩) n c] 25 := ⟨_,rfl⟩
 obtain ⟨o7,ho7⟩:∃ x,x=Obj.cells #[.slice none 0 0] 25 := ⟨_,rfl⟩
 obtain ⟨w1,hw1⟩:∃ W,W=w.alloc o4:=⟨_,rfl⟩
 obtain ⟨w2,hw2⟩:∃ W,W=w1.alloc o5:=⟨_,rfl⟩
 obtain ⟨w3,hw3⟩:∃ W,W=w2.alloc o7:=⟨_,rfl⟩
 have r4:w1.rowIs w.heap.size 100 1 (fun _=>.pointer (some ⟨g,0,none⟩)):=by rw [hw1,ho4]; exact boxRow
 have r5:w2.rowIs w1.heap.size 25 1 (fun _=>.slice (some ⟨tb,o,none⟩) n c):=by rw [hw2,ho5]; exact boxRow
 have r7:w3.rowIs w2.heap.size 25 1 (fun _=>.slice none 0 0):=by rw [hw3,ho7]; exact boxRow
 have k1:Below w.heap.size w w1:=by rw [hw1]; exact (Below.refl _ _).alloc (Nat.le_refl _) _
 have k2:Below w1.heap.size w1 w2:=by rw [hw2]; exact (Below.refl _ _).alloc (Nat.le_refl _) _
 have k3:Below w2.heap.size w2 w3:=by rw [hw3]; exact (Below.refl _ _).alloc (Nat.le_refl _) _
 have s1:w1.heap.size=w.heap.size+1:=by rw [hw1]; simp
 have s2:w2.heap.size=w.heap.size+1+1:=by rw [hw2]; simp [s1]
 have hBb:Below base w w3:=((k1.mono hbw).trans (k2.mono (Nat.le_trans hbw k1.size))).trans (k3.mono (Nat.le_trans (Nat.le_trans hbw k1.size) k2.size))
 have HM0:EMem w w3 base g tb o n c kc w.heap.size w1.heap.size w2.heap.size 0 (.slice none 0 0) r0 V (fun _=>0) :=
  ⟨((hT.on k1).on k2).on k3,Own.nil _ _ _ _ _,(fun i _ e=>by cases e),zaa (zaa r4 k2) k3,zaa r5 k3,r7,hBb,hbw⟩
 rw [s1,s2] at HM0
 have HMM:=hid HM0
 clear r4 r5 r7 k1 k2 k3 hBb HM0 hT hG hV
 go_enter Tryz.func241, Tryz.ntmps241
 go_upto_region 1 with fail
 rw [<-ho4,<-hw1,<-ho5,<-hw2,<-ho7,<-hw3];clear hw1 hw2 hw3 ho4 ho5 ho7 s1 s2
 obtain ⟨b4,hb4⟩:∃ b,b=w.heap.size:=⟨_,rfl⟩
 obtain ⟨b5,hb5⟩:∃ b,b=w.heap.size+1:=⟨_,rfl⟩
 obtain ⟨b7,hb7⟩:∃ b,b=w.heap.size+1+1:=⟨_,rfl⟩
 rw [<-hb7,<-hb5,<-hb4] at HMM;rw [<-hb7,<-hb5,<-hb4];clear hb4 hb5 hb7
 go_wp2
 go_loopg [10,12,13] cols (fun gg dv pv cv wx=>∃ (d:Int) (a c0 pc:Nat) (PA:Option Addr) (p:Nat->Nat) (r:Nat->RowAt) (W:Nat->Nat->Nat),dv=.int .i64 d/\pv=.slice PA a pc/\cv=.int .i64 (c0:Nat)/\c0<=cols/\cols<=c0+gg/\Hid (EchN (P ^ M) n kc c0 a p W)/\Hid (RowOps (P ^ M) (addF P M) (mulF P M m) n kc V W)/\Hid (EMem w wx base g tb o n c kc b4 b5 b7 a (.slice PA a pc) r W p))
 case atStart=>exact ⟨1,0,0,0,none,fun _=>0,r0,V,rfl,rfl,rfl,by omega,by omega,HST,hid .refl,HMM⟩
 case round =>
  clear HMM
  obtain ⟨d,a,c0,pc,PA,p,r,W,rfl,rfl,rfl,hc,hcg,HE,HR,HM⟩:=hrel
  have han:=HE.out.le
  have y5:=qc0 HM.out.b5
  by_cases hcl:c0<cols
  ·have hcl' : (c0 : Int) < (cols : Int) := by omega
   by_cases hal:a<n
   ·have hal':(a:Int)<(n:Int):=by omega
    obtain ⟨gO,hgO⟩:∃ g,g=gk:=⟨_,rfl⟩
    rw [<-hgO] at hcg
    go_upto_region 8 with fail
    have kb1:Below wr.heap.size wr (wr.alloc (Obj.cells #[Value.int .i64 (a:Nat)] 3)):=(Below.refl _ _).alloc (Nat.le_refl _) _
    obtain ⟨w4,hw4⟩:∃ W,W=wr.alloc (Obj.cells #[Value.int .i64 (a:Nat)] 3):=⟨_,rfl⟩
    have ra:w4.rowIs wr.heap.size 3 1 (fun _=>.int .i64 (a:Nat)):=by rw [hw4]; exact boxRow
    have hfa:=HM.out.far (Nat.le_refl wr.heap.size)
    rw [<-hw4] at kb1 ⊢
    have HM1:=hid (HM.out.on kb1)
    obtain ⟨ab,hab⟩:∃ b,b=wr.heap.size:=⟨_,rfl⟩
    rw [<-hab] at ra hfa ⊢
    have HFA:=hid hfa
    clear HM hw4 hab kb1 hfa y5
    have ca:=qc0 ra
    go_wp2
    have kb2:Below w4.heap.size w4 (w4.alloc (Obj.cells #[Value.int .i64 (a:Nat)] 3)):=(Below.refl _ _).alloc (Nat.le_refl _) _
    obtain ⟨w5,hw5⟩:∃ W,W=w4.alloc (Obj.cells #[Value.int .i64 (a:Nat)] 3):=⟨_,rfl⟩
    have rk:w5.rowIs w4.heap.size 3 1 (fun _=>.int .i64 (a:Nat)):=by rw [hw5]; exact boxRow
    have hfk:=HM1.out.far (Nat.le_refl w4.heap.size)
    have hak:ab≠w4.heap.size:=by have:=ra.lt; omega
    rw [<-hw5] at kb2 ⊢
    have HM2:=hid (HM1.out.on kb2)
    replace ra:=zaa ra kb2
    obtain ⟨kb,hkb⟩:∃ b,b=w4.heap.size:=⟨_,rfl⟩
    rw [<-hkb] at rk hfk hak ⊢
    have HFK:=hid hfk
    have HAK:=hid hak
    clear HM1 hw5 hkb kb2 hfk hak ca
    go_loopg [] n (fun g2 wx=>∃ t:Nat,a<=t/\t<=n/\n<=t+g2/\Hid (∀ i,a<=i->i<t->W i c0=0)/\wx.rowIs kb 3 1 (fun _=>.int .i64 (t:Nat))/\wx.rowIs ab 3 1 (fun _=>.int .i64 (a:Nat))/\Hid (EMem w wx base g tb o n c kc b4 b5 b7 a (.slice PA a pc) r W p))
    case atStart=>exact ⟨a,by omega,by omega,by omega,fun i h1 h2=>absurd h2 (by omega),rk,ra,HM2⟩
    case round =>
     clear HM2 rk ra
     obtain ⟨t,hat,htn,htg,HZ,rk,ra,HM⟩:=hrel
     have ck:=qc0 rk
     have ca:=qc0 ra
     have y5:=qc0 HM.out.b5
     have ht0:(0:Int)<=(t:Int):=by omega
     have hc00:(0:Int)<=(c0:Int):=by omega
     by_cases htl:t<n
     ·have htl':(t:Int)<(n:Int):=by omega
      have hck:c0<kc:=by omega
      have hck':(c0:Int)<(kc:Int):=by omega
      have x0:=HM.out.tab.cell htl
      have y0:=HM.out.tab.entry htl hck
      obtain ⟨x,hx⟩:∃ x,x=W t c0:=⟨_,rfl⟩
      rw [<-hx] at y0
      by_cases hx0:x=0
      ·have hxz:((x:Int) == 0)=true:=by simpa using hx0
       have HZ2:Hid (∀ i,a<=i->i<t+1->W i c0=0):=fun i h1 h2=>by
        by_cases e:i=t
        ·subst e; rw [<-hx,hx0]
        ·exact HZ.out i h1 (by omega)
       have hwt:IntKind.i64.wrap ((t:Int)+1)=(t:Int)+1:=IntWalk.i64_in _ (by omega)
       have z0:=rk.frozen 0
       have HM8:=hid (HM.out.boxed (j:=0) HFK.out (.int .i64 ((t:Int)+1)))
       have RK8:=hid ((rk.set 0 (.int .i64 ((t:Int)+1))).congr (g:=fun _=>.int .i64 ((t+1:Nat):Int)) fun i hi=>by
        obtain rfl:i=0:=by omega
        rfl)
       have RA8:=hid (ra.setOther (a:=⟨kb,0,none⟩) (by simpa using HAK.out) (.int .i64 ((t:Int)+1)))
       clear hx hx0 HM rk ra
       go_wp2
       go_roundg (gk - 1)
       case measure=>omega
       case rel=>exact ⟨t+1,by omega,by omega,by omega,HZ2,RK8.out,RA8.out,HM8⟩
      ·have hxz:((x:Int) == 0)=false:=by simpa using hx0
       have hxq:x<P ^ M:=by rw [hx]; exact HE.out.lt t htl c0 hck
       have HX:=hid hx
       have HX0:=hid hx0
       have HRK:=hid rk
       have HRA:=hid ra
       clear hx hx0 rk ra
       have htn':((t:Int) == (n:Int))=false:=by simp; omega
       obtain ⟨W1,hW1⟩:∃ X,X=fun u=>if u=a then W t else if u=t then W a else W u:=⟨_,rfl⟩
       have HE1:=hid (HE.out.swap hat htl)
       have HR1:=hid (HR.out.swap hal htl)
       rw [<-hW1] at HE1 HR1
       have HXA:Hid (x=W1 a c0):=by show _=_; rw [hW1,HX.out]; simp
       have HWE:Hid (∀ u,u<n->∀ j,j<kc->(if u=t then W a else if u=a then W t else W u) j=W1 u j):=fun u _ j _=>by
        rw [hW1]
        by_cases e1:u=a
        ·subst e1
         by_cases e2:u=t
         ·subst e2; simp
         ·simp [e2]
        ·by_cases e2:u=t
         ·subst e2; simp [e1]
         ·simp [e1,e2]
       clear hW1
       go_upto_if 58 with fail
       go_cut [10] (fun v10 wx=>∃ (d1:Int) (r1:Nat->RowAt),v10=.int .i64 d1/\Hid (wx.rowIs ab 3 1 (fun _=>.int .i64 (a:Nat)))/\Hid (∀ i,i<n->ab≠(r1 i).b)/\Hid (EMem w wx base g tb o n c kc b4 b5 b7 a (.slice PA a pc) r1 W1 p))
       case first =>
        by_cases hta:t=a
        ·have hta':((t:Int) != (a:Int))=false:=by simp [hta]
         have HM8:=hid (HM.out.congr (W':=W1) fun u hu j hj=>by
          have:=HWE.out u hu j hj
          rw [<-this]
          by_cases e:u=t
          ·rw [if_pos e,<-hta,e]
          ·rw [if_neg e,if_neg (by omega)])
         clear hta
         go_wp2
         go_meet
         exact ⟨d,r,rfl,HRA,HFA.out.2.1,HM8⟩
        ·have hta':((t:Int) != (a:Int))=true:=by simp; omega
         clear hta
         have y7:=qc0 HM.out.b7
         have hT:=HM.out.tab
         go_wp2_with fail
         refine (zgM hT hal htl ck ca HFK.out.1 HFA.out.1 y5 y7 (zaH HM.out.b7 hT.tab (by decide))).mono ?_
         rintro e w6 ⟨rfl,hg,hT1⟩
         have hap:=HM.out.ap
         have HM6:=hid ((HM.out.tabbed hg hT1 (fun i hi=>by
          by_cases e1:i=t
          ·simp only [if_pos e1]; exact hap a hal
          ·by_cases e2:i=a
           ·simp only [if_neg e1,if_pos e2]; exact hap t htl
           ·simp only [if_neg e1,if_neg e2]; exact hap i hi)).congr HWE.out)
         have HRA6:=hid (zaj HRA.out hg HFA.out.1)
         have HAB6:Hid (∀ i,i<n->ab≠(if i=t then r a else if i=a then r t else r i).b):=fun i hi=>by
          by_cases e1:i=t
          ·rw [if_pos e1]; exact HFA.out.2.1 a hal
          ·rw [if_neg e1]
           by_cases e2:i=a
           ·rw [if_pos e2]; exact HFA.out.2.1 t htl
           ·rw [if_neg e2]; exact HFA.out.2.1 i hi
         clear hg hT1 hap hT y5 y7 ck ca x0 y0 HM
         have y4:=qc0 HM6.out.b4
         go_wp2_with fail
         refine (zdH d (HGF.out.at HM6.out.below HM6.out.bw)).mono ?_
         rintro e w7 ⟨rfl,kb7⟩
         have HM7:=hid (HM6.out.on kb7)
         have HRA7:=hid (zaa HRA6.out kb7)
         obtain ⟨d1,hd1⟩:∃ x:Int,x=((negF P M (inV (P ^ M) d):Nat):Int):=⟨_,rfl⟩
         rw [<-hd1];clear hd1 kb7 y4 HM6 HRA6
         go_wp2
         go_meet
         exact ⟨d1,_,rfl,HRA7,HAB6,HM7⟩
       case rest =>
        clear HM HRA HRK ck ca y5 x0 y0 HE HR HWE HZ HFK HAK htg
        obtain ⟨d1,r1,rfl,HRA,HAB,HM⟩:=hcut
        have HRA0:=HRA
        obtain ⟨w6,hw6⟩:∃ W,W=wc:=⟨_,rfl⟩
        rw [<-hw6] at HRA HM ⊢;clear hw6 HRA0
        have HIX:=hid (zaE hxq)
        have y4:=qc0 HM.out.b4
        have y5:=qc0 HM.out.b5
        have ca:=qc0 HRA.out
        have x5:=HM.out.tab.cell hal
        have e5:=HM.out.tab.entry hal hck
        rw [<-HXA.out] at e5
        go_wp2
        refine wp_region_held_drew (S:=fun w'=>w'.cell? ⟨b4,0,none⟩=some (.pointer (some ⟨g,0,none⟩))/\w'.cell? ⟨b5,0,none⟩=some (.slice (some ⟨tb,o,none⟩) n c)/\w'.cell? ⟨ab,0,none⟩=some (.int .i64 (a:Nat))/\w'.cell? ⟨tb,o+a,none⟩=some (.slice (some ⟨(r1 a).b,(r1 a).o,none⟩) kc (r1 a).c)/\w'.cell? ⟨(r1 a).b,(r1 a).o+c0,none⟩=some (.int .i64 (x:Nat))) (by kernel_rfl) ⟨cellS (Below.refl _ _).drew y4,cellS (Below.refl _ _).drew y5,cellS (Below.refl _ _).drew ca,cellS (Below.refl _ _).drew x5,cellS (Below.refl _ _).drew e5⟩ (fun hHeld=>?_)
        obtain ⟨w7,hw⟩:∃ W,W=World.drew w6:=⟨_,rfl⟩
        have kb7:Below w6.heap.size w6 w7:=by rw [hw]; exact (Below.refl _ _).drew
        rw [<-hw] at hHeld ⊢;clear hw
        have HM7:=hid (HM.out.on kb7)
        have HRA7:=hid (zaa HRA.out kb7)
        clear kb7 y4 y5 ca x5 e5 HM HRA
        refine tkq 0 (h:=tkq 1 (h:=tkq 2 (h:=tkq 3 (h:=tkq 4 (h:=tkq 5 (h:=tkq 6 (h:=tkq 7 (h:=tkq 8 (h:=rdq 9 (h:=fun K hK=>?_))))))))))
        go_simp
        go_wp2_with fail
        refine (zbG d1 (x:Int) (HGF.out.at HM7.out.below HM7.out.bw)).mono ?_
        rintro e w8 ⟨rfl,kb8⟩
        have HM8:=hid (HM7.out.on kb8)
        have HRA8:=hid (zaa HRA7.out kb8)
        obtain ⟨d2,hd2⟩:∃ z:Int,z=((mulF P M m (inV (P ^ M) d1) (inV (P ^ M) (x:Int)):Nat):Int):=⟨_,rfl⟩
        rw [<-hd2];clear hd2 kb8 HM7 HRA7
        have y4:=qc0 HM8.out.b4
        have y5:=qc0 HM8.out.b5
        have ca:=qc0 HRA8.out
        have x5:=HM8.out.tab.cell hal
        have e5:=HM8.out.tab.entry hal hck
        rw [<-HXA.out] at e5
        refine bkq hK ⟨y4,y5,ca,x5,e5⟩ (h:=fun hHeld=>?_)
        clear hK K
        refine tkq 10 (h:=?_)
        refine wpAnyH_done (by kernel_rfl) ?_ _
        clear hHeld
        go_upto_region 16 with fail
        go_cut [16,17] (fun v16 v17 wx=>∃ vb y:Nat,v16=.pointer (some ⟨vb,0,none⟩)/\v17=.int .i64 0/\y<P ^ M/\Hid (y≠0)/\Hid (mulF P M m x y=1)/\Hid (wx.rowIs vb 3 1 (fun _=>.int .i64 (y:Nat)))/\Hid (wx.rowIs ab 3 1 (fun _=>.int .i64 (a:Nat)))/\vb≠tb/\Hid (EMem w wx base g tb o n c kc b4 b5 b7 a (.slice PA a pc) r1 W1 p))
        case first =>
         have hM:=HM8.out
         have hra:=HRA8.out
         refine wp_region_held_drew (S:=fun w'=>w'.cell? ⟨b4,0,none⟩=some (.pointer (some ⟨g,0,none⟩))/\w'.cell? ⟨b5,0,none⟩=some (.slice (some ⟨tb,o,none⟩) n c)/\w'.cell? ⟨ab,0,none⟩=some (.int .i64 (a:Nat))/\w'.cell? ⟨tb,o+a,none⟩=some (.slice (some ⟨(r1 a).b,(r1 a).o,none⟩) kc (r1 a).c)/\w'.cell? ⟨(r1 a).b,(r1 a).o+c0,none⟩=some (.int .i64 (x:Nat))) (by kernel_rfl) ⟨cellS (Below.refl _ _).drew (y4),cellS (Below.refl _ _).drew (y5),cellS (Below.refl _ _).drew (ca),cellS (Below.refl _ _).drew (x5),cellS (Below.refl _ _).drew (e5)⟩ (fun hHeld=>?_)
         obtain ⟨w9,hw⟩:∃ W,W=World.drew w8:=⟨_,rfl⟩
         have kb:Below w8.heap.size w8 w9:=by rw [hw]; exact (Below.refl _ _).drew
         rw [<-hw] at hHeld ⊢;clear hw;replace hra:=zaa hra kb;replace hM:=hM.on kb;replace y4:=cellS kb y4;replace y5:=cellS kb y5;replace ca:=cellS kb ca;replace x5:=cellS kb x5;replace e5:=cellS kb e5;clear kb
         refine tkq 0 (h:=tkq 1 (h:=tkq 2 (h:=tkq 3 (h:=tkq 4 (h:=tkq 5 (h:=tkq 6 (h:=tkq 7 (h:=?_))))))))
         refine rdq2 8 12 (h:=fun K hK=>?_) (h2:=fun K hK=>?_)
         ·go_simp
          go_wp2_with fail
          refine (zfl (x:Int) (HGF.out.at hM.below hM.bw)).mono ?_
          rintro e w10 ⟨kb,hcase⟩
          rw [HIX.out] at hcase
          rcases hcase with ⟨h0,_⟩ | ⟨_,y,rfl,hyq,hy0,hxy⟩
          ·exact absurd h0 HX0.out
          have HY0:=hid hy0
          have HXY:=hid hxy
          clear hy0 hxy;replace hra:=zaa hra kb;replace hM:=hM.on kb;replace y4:=cellS kb y4;replace y5:=cellS kb y5;replace ca:=cellS kb ca;replace x5:=cellS kb x5;replace e5:=cellS kb e5;clear kb
          refine bkq hK ⟨y4,y5,ca,x5,e5⟩ (h:=fun hHeld=>?_)
          clear hK K
          refine tkq 9 (h:=tkq 10 (h:=tkq 11 (h:=?_)))
          refine rdq 12 (h:=fun K hK=>?_)
          go_simp
          obtain ⟨w11,hw⟩:∃ W,W=World.alloc w10 (Obj.cells #[.int .i64 0] 3):=⟨_,rfl⟩
          have kb:Below w10.heap.size w10 w11:=by rw [hw]; exact (Below.refl _ _).alloc (Nat.le_refl _) _
          have rv:w11.rowIs w10.heap.size 3 1 (fun _=>.int .i64 0):=by rw [hw]; exact boxRow
          have hfv:=hM.far (Nat.le_refl w10.heap.size)
          have hav:ab≠w10.heap.size:=by have:=hra.lt; omega
          rw [<-hw];clear hw
          obtain ⟨vb,hb⟩:∃ b,b=w10.heap.size:=⟨_,rfl⟩
          rw [<-hb] at rv hfv hav ⊢;clear hb
          have HFV:=hid hfv
          clear hfv;replace hra:=zaa hra kb;replace hM:=hM.on kb;replace y4:=cellS kb y4;replace y5:=cellS kb y5;replace ca:=cellS kb ca;replace x5:=cellS kb x5;replace e5:=cellS kb e5;clear kb
          refine bkq hK ⟨y4,y5,ca,x5,e5⟩ (h:=fun hHeld=>?_)
          clear hK K
          refine rdq 13 (h:=fun K hK=>?_)
          have z0:=rv.frozen 0
          have v0:=qc0 rv
          replace hM:=hM.boxed (j:=0) HFV.out (.int .i64 (y:Nat))
          replace hra:=hra.setOther (a:=⟨vb,0,none⟩) (by simpa using hav) (.int .i64 (y:Nat))
          replace y4:=zab (p:=⟨vb,0,none⟩) (u:=(.int .i64 (y:Nat))) y4 (fun e=>HFV.out.2.2.2.1 e.symm)
          replace y5:=zab (p:=⟨vb,0,none⟩) (u:=(.int .i64 (y:Nat))) y5 (fun e=>HFV.out.2.2.2.2.1 e.symm)
          replace x5:=zab (p:=⟨vb,0,none⟩) (u:=(.int .i64 (y:Nat))) x5 (fun e=>HFV.out.1 e.symm)
          replace e5:=zab (p:=⟨vb,0,none⟩) (u:=(.int .i64 (y:Nat))) e5 (fun e=>(HFV.out.2.1 a hal) e.symm)
          replace ca:=zab (p:=⟨vb,0,none⟩) (u:=(.int .i64 (y:Nat))) ca hav
          replace rv:=(rv.set 0 (.int .i64 (y:Nat))).congr (g:=fun _=>(.int .i64 (y:Nat))) fun i hi=>by
           obtain rfl:i=0:=by omega
           rfl
          go_simp
          clear z0 v0
          obtain ⟨w12,hw⟩:∃ W,W=World.setCell w11 ⟨vb,0,none⟩ (.int .i64 (y:Nat)):=⟨_,rfl⟩
          rw [<-hw] at hM hra rv y4 y5 ca x5 e5 ⊢;clear hw
          refine bkq hK ⟨y4,y5,ca,x5,e5⟩ (h:=fun hHeld=>?_)
          clear hK K
          refine tkq 14 (h:=?_)
          refine wpAnyH_done (by kernel_rfl) ?_ _
          clear hHeld
          go_wp2
          go_meet
          exact ⟨vb,y,rfl,rfl,hyq,HY0,HXY,hid rv,hid hra,HFV.out.1,hid hM⟩
         ·go_simp
          obtain ⟨w10,hw⟩:∃ W,W=World.alloc w9 (Obj.cells #[.int .i64 0] 3):=⟨_,rfl⟩
          have kb:Below w9.heap.size w9 w10:=by rw [hw]; exact (Below.refl _ _).alloc (Nat.le_refl _) _
          have rv:w10.rowIs w9.heap.size 3 1 (fun _=>.int .i64 0):=by rw [hw]; exact boxRow
          have hfv:=hM.far (Nat.le_refl w9.heap.size)
          have hav:ab≠w9.heap.size:=by have:=hra.lt; omega
          rw [<-hw];clear hw
          obtain ⟨vb,hb⟩:∃ b,b=w9.heap.size:=⟨_,rfl⟩
          rw [<-hb] at rv hfv hav ⊢;clear hb
          have HFV:=hid hfv
          clear hfv;replace hra:=zaa hra kb;replace hM:=hM.on kb;replace y4:=cellS kb y4;replace y5:=cellS kb y5;replace ca:=cellS kb ca;replace x5:=cellS kb x5;replace e5:=cellS kb e5;clear kb
          refine bkq hK ⟨y4,y5,ca,x5,e5⟩ (h:=fun hHeld=>?_)
          clear hK K
          refine rdq 8 (h:=fun K hK=>?_)
          go_simp
          go_wp2_with fail
          refine (zfl (x:Int) (HGF.out.at hM.below hM.bw)).mono ?_
          rintro e w11 ⟨kb,hcase⟩
          rw [HIX.out] at hcase
          rcases hcase with ⟨h0,_⟩ | ⟨_,y,rfl,hyq,hy0,hxy⟩
          ·exact absurd h0 HX0.out
          have HY0:=hid hy0
          have HXY:=hid hxy
          clear hy0 hxy;replace hra:=zaa hra kb;replace rv:=zaa rv kb;replace hM:=hM.on kb;replace y4:=cellS kb y4;replace y5:=cellS kb y5;replace ca:=cellS kb ca;replace x5:=cellS kb x5;replace e5:=cellS kb e5;clear kb
          refine bkq hK ⟨y4,y5,ca,x5,e5⟩ (h:=fun hHeld=>?_)
          clear hK K
          refine tkq 9 (h:=tkq 10 (h:=tkq 11 (h:=?_)))
          refine rdq 13 (h:=fun K hK=>?_)
          have z0:=rv.frozen 0
          have v0:=qc0 rv
          replace hM:=hM.boxed (j:=0) HFV.out (.int .i64 (y:Nat))
          replace hra:=hra.setOther (a:=⟨vb,0,none⟩) (by simpa using hav) (.int .i64 (y:Nat))
          replace y4:=zab (p:=⟨vb,0,none⟩) (u:=(.int .i64 (y:Nat))) y4 (fun e=>HFV.out.2.2.2.1 e.symm)
          replace y5:=zab (p:=⟨vb,0,none⟩) (u:=(.int .i64 (y:Nat))) y5 (fun e=>HFV.out.2.2.2.2.1 e.symm)
          replace x5:=zab (p:=⟨vb,0,none⟩) (u:=(.int .i64 (y:Nat))) x5 (fun e=>HFV.out.1 e.symm)
          replace e5:=zab (p:=⟨vb,0,none⟩) (u:=(.int .i64 (y:Nat))) e5 (fun e=>(HFV.out.2.1 a hal) e.symm)
          replace ca:=zab (p:=⟨vb,0,none⟩) (u:=(.int .i64 (y:Nat))) ca hav
          replace rv:=(rv.set 0 (.int .i64 (y:Nat))).congr (g:=fun _=>(.int .i64 (y:Nat))) fun i hi=>by
           obtain rfl:i=0:=by omega
           rfl
          go_simp
          clear z0 v0
          obtain ⟨w12,hw⟩:∃ W,W=World.setCell w11 ⟨vb,0,none⟩ (.int .i64 (y:Nat)):=⟨_,rfl⟩
          rw [<-hw] at hM hra rv y4 y5 ca x5 e5 ⊢;clear hw
          refine bkq hK ⟨y4,y5,ca,x5,e5⟩ (h:=fun hHeld=>?_)
          clear hK K
          refine tkq 14 (h:=?_)
          refine wpAnyH_done (by kernel_rfl) ?_ _
          clear hHeld
          go_wp2
          go_meet
          exact ⟨vb,y,rfl,rfl,hyq,HY0,HXY,hid rv,hid hra,HFV.out.1,hid hM⟩
        case rest =>
         clear y4 y5 ca x5 e5 HM8 HRA8
         obtain ⟨vb,y,rfl,rfl,hyq,HY0,HXY,HRV,HRA,hvt,HM⟩:=hcut
         have cv:=qc0 HRV.out
         go_upto_if 92 with fail
         go_cut [] (fun wx=>∃ (r2:Nat->RowAt) (W2:Nat->Nat->Nat),Hid (wx.rowIs ab 3 1 (fun _=>.int .i64 (a:Nat)))/\Hid (∀ i,i<n->ab≠(r2 i).b)/\Hid (EchP (P ^ M) n kc c0 a 0 p W2)/\Hid (RowOps (P ^ M) (addF P M) (mulF P M m) n kc V W2)/\Hid (EMem w wx base g tb o n c kc b4 b5 b7 a (.slice PA a pc) r2 W2 p))
         case first =>
          by_cases h1:y=1
          ·have hy1:((y:Int) != 1)=false:=by simp; omega
           have hW:Hid (W1 a c0=1):=by
            have:=HXY.out
            rw [h1,hL.mulOne hxq] at this
            show _=_
            rw [<-HXA.out,this]
           clear h1
           go_wp2
           go_meet
           exact ⟨r1,W1,HRA,HAB,hid (HE1.out.one_piv hal hW.out),HR1,HM⟩
          ·have hy1:((y:Int) != 1)=true:=by simp; omega
           clear h1
           have y4:=qc0 HM.out.b4
           have y5:=qc0 HM.out.b5
           have y7:=qc0 HM.out.b7
           have ca:=qc0 HRA.out
           have hyx:Hid (mulF P M m y (W1 a c0)=1):=by
            show _=_
            rw [<-HXA.out,hL.mulComm y x hyq hxq]
            exact HXY.out
           go_wp2_with fail
           refine (zgN (HGF.out.below' HM.out.below) HM.out.bw HM.out.tab hal (fun j hj=>HE1.out.lt a hal j hj) hyq hK2 y4 cv ca (zaH HM.out.b4 HM.out.tab.tab (by decide)) hvt HFA.out.1 y5 y7 (zaH HM.out.b7 HM.out.tab.tab (by decide))).mono ?_
           rintro e w10 ⟨q,hq,rfl,hg,hT2⟩
           have hap:=HM.out.ap
           have hpl:=HM.out.pv.lt
           have HM3:=hid (HM.out.tabbed hg hT2 (fun i hi=>by
            by_cases e1:i=a
            ·simp only [if_pos e1]; exact fun e=>by have:=(hpl _ e).2; omega
            ·simp only [if_neg e1]; exact hap i hi))
           have hal2:=HRA.out.lt
           have HRA3:=hid (zaj HRA.out hg HFA.out.1)
           have HAB3:Hid (∀ i,i<n->ab≠(if i=a then (⟨q,0,kc⟩:RowAt) else r1 i).b):=fun i hi=>by
            by_cases e1:i=a
            ·rw [if_pos e1]; show ab≠q; omega
            ·rw [if_neg e1]; exact HAB.out i hi
           clear hg hT2 hap hpl y4 y5 y7 ca cv hq hal2 HM HRA HRV
           go_wp2
           go_meet
           exact ⟨_,_,HRA3,HAB3,hid (HE1.out.scale hL hal hyq hyx.out),hid (HR1.out.scale hal hyq HY0.out),HM3⟩
         case rest =>
          clear HM HRA HRV cv HAB HE1 HR1 HXA hvt HXY HY0
          obtain ⟨r2,W2,HRA,HAB,HE2,HR2,HM⟩:=hcut
          have y5:=qc0 HM.out.b5
          go_wp2
          clear y5
          go_loopg [98] n (fun g3 iv wx=>∃ (i:Nat) (W3:Nat->Nat->Nat),iv=.int .i64 (i:Nat)/\i<=n/\n<=i+g3/\Hid (EchP (P ^ M) n kc c0 a i p W3)/\Hid (RowOps (P ^ M) (addF P M) (mulF P M m) n kc V W3)/\Hid (wx.rowIs ab 3 1 (fun _=>.int .i64 (a:Nat)))/\Hid (EMem w wx base g tb o n c kc b4 b5 b7 a (.slice PA a pc) r2 W3 p))
          case atStart=>exact ⟨0,W2,rfl,by omega,by omega,HE2,HR2,HRA,HM⟩
          case round =>
           clear HM HRA HE2 HR2
           obtain ⟨i,W3,rfl,hi,hig,HE3,HR3,HRA,HM⟩:=hrel
           have hi0:(0:Int)<=(i:Int):=by omega
           by_cases hil:i<n
           ·have hil':(i:Int)<(n:Int):=by omega
            go_upto_region 22 with fail
            have kb1:Below wr.heap.size wr (wr.alloc (Obj.cells #[Value.int .i64 (i:Nat)] 3)):=(Below.refl _ _).alloc (Nat.le_refl _) _
            obtain ⟨w11,hw11⟩:∃ W,W=wr.alloc (Obj.cells #[Value.int .i64 (i:Nat)] 3):=⟨_,rfl⟩
            have ri:w11.rowIs wr.heap.size 3 1 (fun _=>.int .i64 (i:Nat)):=by rw [hw11]; exact boxRow
            have hfi:=HM.out.far (Nat.le_refl wr.heap.size)
            rw [<-hw11] at kb1 ⊢
            have HM1:=hid (HM.out.on kb1)
            have HRA1:=hid (zaa HRA.out kb1)
            obtain ⟨ib,hib⟩:∃ b,b=wr.heap.size:=⟨_,rfl⟩
            rw [<-hib] at ri hfi ⊢
            have HFI:=hid hfi
            clear HM HRA hw11 hib kb1 hfi
            have ci:=qc0 ri
            have y5:=qc0 HM1.out.b5
            have x6:=HM1.out.tab.cell hil
            have e6:=HM1.out.tab.entry hil hck
            obtain ⟨y2,hy2⟩:∃ y,y=W3 i c0:=⟨_,rfl⟩
            rw [<-hy2] at e6
            have hyq2:y2<P ^ M:=by rw [hy2]; exact HE3.out.ech.lt i hil c0 hck
            have HY2:=hid hy2
            clear hy2
            go_upto_region 23 with fail
            clear y5 x6 e6 ci
            have kb2:Below w11.heap.size w11 (w11.alloc (Obj.cells #[Value.int .i64 (y2:Nat)] 3)):=(Below.refl _ _).alloc (Nat.le_refl _) _
            obtain ⟨w12,hw12⟩:∃ W,W=w11.alloc (Obj.cells #[Value.int .i64 (y2:Nat)] 3):=⟨_,rfl⟩
            have rx:w12.rowIs w11.heap.size 3 1 (fun _=>.int .i64 (y2:Nat)):=by rw [hw12]; exact boxRow
            have hfx:=HM1.out.far (Nat.le_refl w11.heap.size)
            rw [<-hw12] at kb2 ⊢
            have HM2:=hid (HM1.out.on kb2)
            have HRA2:=hid (zaa HRA1.out kb2)
            replace ri:=zaa ri kb2
            obtain ⟨xb,hxb⟩:∃ b,b=w11.heap.size:=⟨_,rfl⟩
            rw [<-hxb] at rx hfx ⊢
            have HFX:=hid hfx
            clear HM1 HRA1 hw12 hxb kb2 hfx
            have ci:=qc0 ri
            have cx:=qc0 rx
            have ca:=qc0 HRA2.out
            clear ri rx
            by_cases hia:i=a
            ·have hia':((i:Int) != (a:Int))=false:=by simp [hia]
             have HE4:=hid (HE3.out.skip (.inl hia))
             clear hia
             go_wp2
             go_roundg (gk - 1)
             case measure=>omega
             case rel=>exact ⟨i+1,W3,by go_num,by omega,by omega,HE4,HR3,HRA2,HM2⟩
            ·have hia':((i:Int) != (a:Int))=true:=by simp; omega
             by_cases hy0:y2=0
             ·have hyz:((y2:Int) != 0)=false:=by simp [hy0]
              have HE4:=hid (HE3.out.skip (.inr (by rw [<-HY2.out,hy0])))
              clear hia hy0
              go_wp2
              go_roundg (gk - 1)
              case measure=>omega
              case rel=>exact ⟨i+1,W3,by go_num,by omega,by omega,HE4,HR3,HRA2,HM2⟩
             ·have hyz:((y2:Int) != 0)=true:=by simp; omega
              have HIA:=hid hia
              clear hia hy0
              have y4:=qc0 HM2.out.b4
              have y5:=qc0 HM2.out.b5
              have y7:=qc0 HM2.out.b7
              have HRI:=hid (HM2.out.tab.row i hil)
              go_wp2_with fail
              refine (zgO (HGF.out.below' HM2.out.below) HM2.out.bw HM2.out.tab hal hil HIA.out (fun u hu j hj=>HE3.out.ech.lt u hu j hj) hyq2 hK2 y4 ci cx ca (zaH HM2.out.b4 HRI.out (by decide)) (HFI.out.2.1 i hil) (HFX.out.2.1 i hil) (HAB.out i hil) y5 y7 (zaH HM2.out.b7 HRI.out (by decide))).mono ?_
              rintro e w13 ⟨rfl,hg,hT3⟩
              have HM3:=hid (HM2.out.rowed hil hg hT3)
              have HRA3:=hid (zaj HRA2.out hg (HAB.out i hil))
              have HE4:=hid (HE3.out.clear hL hck hil HIA.out (e:=negF P M y2) (za7 hP0) (by rw [<-HY2.out]; exact zaR hP0))
              have HR4:=hid (HR3.out.add hil hal HIA.out (e:=negF P M y2) (za7 hP0))
              clear hg hT3 y4 y5 y7 ca ci cx HM2 HRA2 HRI
              go_wp2
              go_roundg (gk - 1)
              case measure=>omega
              case rel=>exact ⟨i+1,_,by go_num,by omega,by omega,HE4,HR4,HRA3,HM3⟩
           ·have hil':¬ (i:Int)<(n:Int):=by omega
            have hin:i=n:=by omega
            have HE4:=hid (EchP.done (q:=P ^ M) (n:=n) (k:=kc) (c:=c0) (a:=a) (pv:=p) (W:=W3) (by have h:=HE3.out; rw [hin] at h; exact h))
            clear hin
            have kb:=(Below.refl wr.heap.size wr).alloc (Nat.le_refl _) (Obj.cells #[Value.int .i64 (c0:Nat)] 3)
            have HM8:=hid (HM.out.on kb)
            have HC8:Hid ((wr.alloc (Obj.cells #[Value.int .i64 (c0:Nat)] 3)).cell? ((⟨wr.heap.size,0,none⟩:Addr).add 0)=some (.int .i64 (c0:Nat))):=tbox2
            have HP8:=hid HM8.out.pv
            have HZ8:=hid HM8.out.bw
            have HAL:Hid (a<=1048576):=by show _<=_; omega
            clear kb HM
            go_wp2_with (first | (at_builtin; (refine zaA rfl (.tmp 119) (.tmp 121) rfl HP8.out rfl (ad:=⟨wr.heap.size,0,none⟩) (c:=1) rfl HC8.out HZ8.out HAL.out ?_); intro v9 w9 o1 o2 o3))
            have HM9:=hid (HM8.out.pushed o1 o2 o3)
            obtain ⟨PA9,pc9,hsh⟩:=o1.shape
            subst hsh
            clear o1 o2 o3 HM8 HP8 HC8
            go_wp2
            go_roundg (gO - 1)
            case measure=>omega
            case rel=>exact ⟨d2,a+1,c0+1,pc9,PA9,_,r2,W3,rfl,rfl,by go_num,by omega,by omega,HE4,HR3,HM9⟩
     ·have htl':¬ (t:Int)<(n:Int):=by omega
      obtain rfl:t=n:=by omega
      have htn':((t:Int) == (t:Int))=true:=by simp
      have HE1:=hid (HE.out.none fun i h1 h2=>HZ.out i h1 h2)
      go_wp2
      go_roundg (gO - 1)
      case measure=>omega
      case rel=>exact ⟨d,a,c0+1,pc,PA,p,r,W,rfl,rfl,by go_num,by omega,by omega,HE1,HR,HM⟩
   ·have hal':¬ (a:Int)<(n:Int):=by omega
    have hae:a=n:=by omega
    have HAE:=hid hae
    clear hae
    go_wp2
    go_ret2
    exact ⟨_,d,a,c0,p,r,W,rfl,HM.out.tab,HM.out.pv,HM.out.below,hc,.inr HAE.out,HE.out,HR.out⟩
  ·have hcl':¬ (c0:Int)<(cols:Int):=by omega
   have hce:c0=cols:=by omega
   have HCE:=hid hce
   clear hce
   go_wp2
   go_ret2
   exact ⟨_,d,a,c0,p,r,W,rfl,HM.out.tab,HM.out.pv,HM.out.below,hc,.inl HCE.out,HE.out,HR.out⟩
theorem Tryz.infoInts':(Tryz.prog.info? 22).map (fun i=>(i.zero,i.size,i.bytes))=some (some (.slice none 0 0),1,24):=by kernel_rfl
structure RowsAt (w:World) (base n k:Nat) (r:Nat->RowAt) (W:Nat->Nat->Nat):Prop where
 row:∀ i,i<n->Own w base 3 1 (.slice (some ⟨(r i).b,(r i).o,none⟩) k (r i).c) k (fun j _=>.int .i64 (W i j:Nat))
 apart:∀ i j,i<n->j<n->i≠j->(r i).b≠(r j).b
theorem RowsAt.on {w w':World} {base n k:Nat} {r:Nat->RowAt} {W:Nat->Nat->Nat} (h:RowsAt w base n k r W) (hb:Below w.heap.size w w'):RowsAt w' base n k r W:=⟨fun i hi=>(h.row i hi).on hb,h.apart⟩
theorem RowsAt.more {w:World} {base n k:Nat} {r:Nat->RowAt} {W:Nat->Nat->Nat} {q:RowAt} (h:RowsAt w base n k r W) (hq:Own w base 3 1 (.slice (some ⟨q.b,q.o,none⟩) k q.c) k (fun j _=>.int .i64 (W n j:Nat))) (ha:∀ i,i<n->(r i).b≠q.b):RowsAt w base (n+1) k (fun u=>if u=n then q else r u) W:=by
 refine ⟨fun i hi=>?_,fun i j hi hj hne=>?_⟩
 ·by_cases e:i=n
  ·subst e; simp only [if_pos]; exact hq
  ·simp only [if_neg e]; exact h.row i (by omega)
 ·show (if i=n then q else r i).b≠(if j=n then q else r j).b
  by_cases e1:i=n
  ·rw [if_pos e1,if_neg (by omega)]; exact fun e=>ha j (by omega) e.symm
  ·rw [if_neg e1]
   by_cases e2:j=n
   ·rw [if_pos e2]; exact ha i (by omega)
   ·rw [if_neg e2]; exact h.apart i j (by omega) (by omega) hne
theorem zhG {w:World} {base e s n b o c a:Nat} {f:Nat->Nat->Value} (h:Own w base e s (.slice (some ⟨b,o,none⟩) n c) n f) (ha:a<=n):Own w base e s (.slice (some ⟨b,o,none⟩) a a) a f:=by
 rcases h with ⟨h1,_⟩ | ⟨g,o',cap,cur,h1,h3,h4,h5,h6,h7,h8⟩
 ·cases h1
 ·injection h1 with e1 e2 e3
  injection e1 with e1
  injection e1 with e1 e4
  subst e1 e4 e3
  refine .inr ⟨_,_,_,cur,rfl,h3,h4,Nat.le_refl _,by omega,?_,fun i hi=>h8 i (by omega)⟩
  have:=Nat.mul_le_mul_right s (show a<=c by omega)
  omega
def MClonePost (n k:Nat) (W:Nat->Nat->Nat) (w:World) (e:Ending) (w':World):Prop :=
 ∃ tb r,e=.returned (.slice (some ⟨tb,0,none⟩) n n)/\DTab w' w.heap.size tb 0 n n k r W/\Below w.heap.size w w'
theorem zgP (T:Option Addr) (n k c:Nat) (W:Nat->Nat->Nat) (w:World) (h:MRows w T n k W) (hk:0<k) (hk2:k<=1048576) (hn:n<=1048576) :
  Calls Tryz.prog 240 #[.slice T n c] w (MClonePost n k W w):=by
 have HR:=hid h
 clear h
 have hmk:=fun W=>zaf (P:=Tryz.prog) 25 22 _ 24 Tryz.underlying25 Tryz.infoInts' rfl (n:Int) (by omega) (by omega) (by omega) W
 simp only [Int.toNat_natCast] at hmk
 go_enter Tryz.func240, Tryz.ntmps240
 go_upto_region 2 with fail
 have hB:=(Below.refl w.heap.size w).alloc (Nat.le_refl _) (Obj.cells (madeCells #[Value.slice none 0 0] n) 22)
 have rt:=World.rowIs_made w (.slice none 0 0) n 22
 obtain ⟨w1,hw1⟩:∃ W,W=w.alloc (Obj.cells (madeCells #[Value.slice none 0 0] n) 22):=⟨_,rfl⟩
 obtain ⟨tb,htb⟩:∃ b,b=w.heap.size:=⟨_,rfl⟩
 rw [<-hw1] at hB rt ⊢;rw [<-htb] at rt ⊢
 have htB:w.heap.size<=tb:=by omega
 have HTE:=hid htb
 clear hw1 htb hmk
 have HRT:=hid (rt.congr (g:=fun u=>if u<0 then Value.slice (some ⟨(⟨0,0,0⟩:RowAt).b,0,none⟩) k 0 else .slice none 0 0) fun u _=>rfl)
 clear rt
 go_wp2
 go_loopg [11] n (fun gg iv wx=>∃ (i:Nat) (r:Nat->RowAt),iv=.int .i64 (i:Nat)/\i<=n/\n<=i+gg/\Hid (wx.rowIs tb 22 n (fun u=>if u<i then Value.slice (some ⟨(r u).b,(r u).o,none⟩) k (r u).c else .slice none 0 0))/\Hid (RowsAt wx w.heap.size i k r W)/\Hid (Below w.heap.size w wx))
 case atStart=>exact ⟨0,fun _=>⟨0,0,0⟩,rfl,by omega,by omega,HRT.out.congr fun u _=>rfl,⟨fun i hi=>absurd hi (by omega),fun i j hi=>absurd hi (by omega)⟩,hB⟩
 case round =>
  clear HRT hB
  obtain ⟨i,r,rfl,hi,hig,HRT,HRO,HB⟩:=hrel
  have hi0:(0:Int)<=(i:Int):=by omega
  by_cases hlt:i<n
  ·have hlt':(i:Int)<(n:Int):=by omega
   obtain ⟨b,o,RA,rc,hT,hb,x0,hrc,_,hrow,_⟩:=(HR.out.on HB.out) i hlt
   subst hT
   have HROW:=hid hrow
   have HRC:=hid hrc
   clear hrow hrc
   go_wp2_with fail
   refine (zbx RA k rc (fun j=>((W i j:Nat):Int)) wr HROW.out HRC.out hk2).mono ?_
   rintro e w2 ⟨A,c2,rfl,hO,kb⟩
   obtain ⟨g,go,gc,hv,hg1,_⟩:=hO.form hk
   injection hv with hv e2 e3
   subst hv e3
   have hBs:=HB.out.size
   have hap:∀ u,u<i->(r u).b≠g:=fun u hu=>by have h1:(r u).b<wr.heap.size:=((HRO.out.row u hu).lt _ rfl).2; omega
   have HRO2:=hid ((HRO.out.on kb).more (q:=⟨g,go,c2⟩) (hO.mono hBs) hap)
   have HRT2:=hid (zaa HRT.out kb)
   have HB2:=hid (onS HB.out kb)
   have hi0':(0:Int)<=(i:Int):=by omega
   have v0:=HRT2.out.cell hlt
   have z0:=HRT2.out.frozen i
   have HRT3:=hid ((HRT2.out.set i (.slice (some ⟨g,go,none⟩) k c2)).congr (g:=fun u=>if u<i+1 then Value.slice (some ⟨(if u=i then (⟨g,go,c2⟩:RowAt) else r u).b,(if u=i then (⟨g,go,c2⟩:RowAt) else r u).o,none⟩) k (if u=i then (⟨g,go,c2⟩:RowAt) else r u).c else .slice none 0 0) fun u hu=>by
    by_cases e:u=i
    ·subst e
     simp
    ·by_cases e2:u<i
     ·simp [e,e2,show u<i+1 by omega]
     ·simp [e,e2,show ¬ u<i+1 by omega])
   have HRO3:Hid (RowsAt (w2.setCell ⟨tb,i,none⟩ (.slice (some ⟨g,go,none⟩) k c2)) w.heap.size (i+1) k (fun u=>if u=i then ⟨g,go,c2⟩ else r u) W):=⟨fun u hu=>(HRO2.out.row u hu).setCell (fun e=>(zaL HRT2.out (HRO2.out.row u hu) (by decide)).elim (fun h=>by rw [h] at e; cases e) fun h=>h e) _,HRO2.out.apart⟩
   have HB3:=hid (HB2.out.setCell (p:=⟨tb,i,none⟩) (by show w.heap.size<=tb; exact htB) (.slice (some ⟨g,go,none⟩) k c2))
   clear hO hap kb hg1 x0 hBs HROW HRC HB2 HRO2 HRT2 HB HRO HRT
   go_wp2
   go_roundg (gk - 1)
   case measure=>omega
   case rel=>exact ⟨i+1,_,by go_num,by omega,by omega,HRT3,HRO3,HB3⟩
  ·have hlt':¬ (i:Int)<(n:Int):=by omega
   have hin:i=n:=by omega
   have HD:Hid (DTab wr w.heap.size tb 0 n n k r W):=by
    have h1:=HRT.out
    have h2:=HRO.out
    rw [hin] at h1 h2
    exact ⟨(zau h1 htB (by unfold maxLen; omega)).congr fun u hu _ _=>by rw [if_pos hu],h2.row,h2.apart⟩
   clear hin
   go_wp2
   go_ret
   exact ⟨tb,r,rfl,HD.out,HB.out⟩
theorem zcR (P M g:Nat) (m:Nat->Nat) (T:Option Addr) (n d kc cols:Nat) (V:Nat->Nat->Nat) (w:World) (hG:GF w w.heap.size g P M m) (h:MRows w T n kc V) (hV:∀ i,i<n->∀ j,j<kc->V i j<P ^ M) (hcK:cols<=kc) (hK:0<kc) (hK2:kc<=1048576) (hn:n<=1048576) :
  Calls Tryz.prog 201 #[.pointer (some ⟨g,0,none⟩),.slice T n d,.int .i64 (cols:Nat)] w (CanonPost (P ^ M) (addF P M) (mulF P M m) n kc cols V w):=by
 have HG:=hid hG
 have HV:=hid hV
 have HR:=hid h
 clear hG hV h
 go_enter Tryz.func201, Tryz.ntmps201
 go_wp2_with fail
 refine (zgP T n kc d V w HR.out hK hK2 hn).mono ?_
 rintro e w1 ⟨tb,r,rfl,hD,hB⟩
 go_wp2_with fail
 refine (zhF P M g w.heap.size tb 0 n n kc cols m r V w1 (HG.out.below' hB) hB.size hD HV.out hcK hK2 hn).mono ?_
 rintro e w2 ⟨pv,dd,a,c0,p,r2,W,rfl,hD2,hP,kb,hc,hca,hE,hR⟩
 have HB:=hid (hB.trans kb)
 have HE:=hid (hE.full hc hca)
 have HRO:=hid hR
 have han:=hE.le
 obtain ⟨PA,pc,hpv⟩:=hP.shape
 subst hpv
 have HP:=hid hP
 have HT:Hid (MTab w2 w.heap.size (.slice (some ⟨tb,0,none⟩) a a) a kc W):=⟨_,zhG hD2.tab han,fun i hi=>hD2.row i (by omega)⟩
 have ha0:(0:Int)<=(a:Int):=by omega
 have hal:(a:Int)<=(n:Int):=by omega
 clear hB kb hD hD2 hP hE hR hc hca
 go_wp2
 go_ret2
 exact ⟨_,_,a,p,W,rfl,HT.out,HP.out,HB.out,HE.out,HRO.out⟩
theorem zeS (P M g:Nat) (m:Nat->Nat) (T:Option Addr) (n d:Nat) (f:Nat->Int) (w:World) (hG:GF w w.heap.size g P M m) (h:IntsR w w.heap.size T n f) (hn:n<=1048576) :
  Calls Tryz.prog 257 #[.pointer (some ⟨g,0,none⟩),.slice T n d] w (ErrsPost [(AllIn (P ^ M) n f,2)] w):=by
 have HG:=hid hG
 have HR:=hid h
 clear hG h
 go_enter Tryz.func257, Tryz.ntmps257
 go_wp2
 go_loopg [9] n (fun gg iv wx=>∃ i:Nat,iv=.int .i64 (i:Nat)/\i<=n/\n<=i+gg/\Hid (∀ t,t<i->0<=f t/\f t<(P ^ M:Nat))/\Hid (Below w.heap.size w wx))
 case atStart=>exact ⟨0,rfl,by omega,by omega,fun t ht=>absurd ht (by omega),Below.refl _ _⟩
 case round =>
  obtain ⟨i,rfl,hi,hig,HA,HB⟩:=hrel
  have hi0:(0:Int)<=(i:Int):=by omega
  by_cases hlt:i<n
  ·have hlt':(i:Int)<(n:Int):=by omega
   obtain ⟨b,o,rfl,_,x0⟩:=(HR.out.on HB.out).at hlt
   obtain ⟨x,hx⟩:∃ x,x=f i:=⟨_,rfl⟩
   rw [<-hx] at x0
   have HX:=hid hx
   clear hx
   have hG:=HG.out.at HB.out HB.out.size
   go_wp2_with fail
   refine (zeR x hG).mono ?_
   rintro e w2 ⟨rfl,kb⟩
   have HB2:=hid (onS HB.out kb)
   clear kb hG x0
   by_cases hin:0<=x/\x<(P ^ M:Nat)
   ·have hd:isB (P ^ M) x=true:=by unfold isB; simpa using hin
    have HA2:Hid (∀ t,t<i+1->0<=f t/\f t<(P ^ M:Nat)):=fun t ht=>by
     by_cases e:t=i
     ·rw [e,<-HX.out]; exact hin
     ·exact HA.out t (by omega)
    rw [hd];clear hin hd
    go_wp2
    go_roundg (gk - 1)
    case measure=>omega
    case rel=>exact ⟨i+1,by go_num,by omega,by omega,HA2,HB2⟩
   ·have hd:isB (P ^ M) x=false:=by unfold isB; simpa using hin
    have hno:Hid (FirstErr [(AllIn (P ^ M) n f,2)] 2):=.inl ⟨fun h=>hin (by rw [HX.out]; exact h i hlt),rfl⟩
    rw [hd];clear hin hd
    go_wp2
    go_ret
    exact errsPost hno.out HB2.out
  ·have hlt':¬ (i:Int)<(n:Int):=by omega
   have hin:i=n:=by omega
   have hyes:Hid (FirstErr [(AllIn (P ^ M) n f,2)] 0):=.inr ⟨fun t ht=>HA.out t (by omega),rfl⟩
   clear hin
   go_wp2
   go_ret
   exact errsPost hyes.out HB.out
theorem zgQ (P M g : Nat) (m : Nat → Nat) (cols : Int) (T : Option Addr) (n d : Nat) (ln : Nat → Nat) (V : Nat → Nat → Int) (w : World) (hG : GF w w.heap.size g P M m) (h : IntRows w T n ln V) :
  Calls Tryz.prog 239 #[.pointer (some ⟨g,0,none⟩),.agg #[.int .i64 cols,.slice T n d]] w (ErrsPost [(ShapeM cols n ln,3),(ElemsM (P ^ M) n ln V,2)] w):=by
 have HG:=hid hG
 have HR:=hid h
 clear hG h
 have hB:Below w.heap.size w (w.alloc (.cells #[.int .i64 cols,.slice T n d] 97)):=(Below.refl _ _).alloc (Nat.le_refl _) _
 have rm:=zae (w:=w) (a:=.int .i64 cols) (b:=.slice T n d) (T := 97)
 obtain ⟨w0,hw0⟩:∃ W,W=w.alloc (.cells #[.int .i64 cols,.slice T n d] 97):=⟨_,rfl⟩
 rw [<-hw0] at hB rm
 go_enter Tryz.func239, Tryz.ntmps239
 go_upto_region 1 with fail
 rw [<-hw0];clear hw0
 have q0:=qc0 rm
 have q1:=qc1 rm
 have hsh:∀ {p:Prop},¬ p->∀ {c:Int} {l:List (Prop × Int)},FirstErr ((p,c) :: l) c:=fun h=>.inl ⟨h,rfl⟩
 by_cases h1:cols<0
 ·have hd:decide (cols<0)=true:=by simpa using h1
  have hno:Hid (FirstErr [(ShapeM cols n ln,3),(ElemsM (P ^ M) n ln V,2)] 3):=hsh fun h=>by have:=h.1; omega
  go_wp2
  go_ret
  exact errsPost hno.out hB
 ·have hd : decide (cols < 0) = false := by simpa using h1
  by_cases h2:256<cols
  ·have hd2:decide (256<cols)=true:=by simpa using h2
   have hno:Hid (FirstErr [(ShapeM cols n ln,3),(ElemsM (P ^ M) n ln V,2)] 3):=hsh fun h=>by have:=h.2.1; omega
   go_wp2
   go_ret
   exact errsPost hno.out hB
  ·have hd2 : decide (256 < cols) = false := by simpa using h2
   by_cases h3:256<n
   ·have hd3:decide ((256:Int)<(n:Int))=true:=by simp; omega
    have hd4:decide (256<n)=true:=by simpa using h3
    have hno:Hid (FirstErr [(ShapeM cols n ln,3),(ElemsM (P ^ M) n ln V,2)] 3):=hsh fun h=>by have:=h.2.2.1; omega
    go_wp2
    go_ret
    exact errsPost hno.out hB
   ·have hd3:decide ((256:Int)<(n:Int))=false:=by simp; omega
    have hd4:decide (256<n)=false:=by simpa using h3
    obtain ⟨C,rfl⟩:∃ C:Nat,cols=C:=⟨cols.toNat,by omega⟩
    have hC:C<=256:=by omega
    have hn:n<=256:=by omega
    clear h1 h2 h3 hsh
    go_wp2
    clear q0 q1 hd hd2 hd3 hd4
    go_loopg [27] n (fun gg iv wx=>∃ i:Nat,iv=.int .i64 (i:Nat)/\i<=n/\n<=i+gg/\Hid (∀ t,t<i->(ln t:Int)=(C:Int))/\wx=w0)
    case atStart=>exact ⟨0,rfl,by omega,by omega,fun t ht=>absurd ht (by omega),rfl⟩
    case round =>
     obtain ⟨i,rfl,hi,hig,HA,hwx⟩:=hrel
     subst hwx
     have hi0:(0:Int)<=(i:Int):=by omega
     have q0:=qc0 rm
     have q1:=qc1 rm
     by_cases hlt:i<n
     ·have hlt':(i:Int)<(n:Int):=by omega
      obtain ⟨b,o,RA,rc,rfl,hb,x0,_,_,_,_⟩:=(HR.out.on hB) i hlt
      by_cases hl:ln i=C
      ·have hl':((ln i:Int) != (C:Int))=false:=by simp [hl]
       have HA2:Hid (∀ t,t<i+1->(ln t:Int)=(C:Int)):=fun t ht=>by
        by_cases e:t=i
        ·rw [e,hl]
        ·exact HA.out t (by omega)
       clear hl
       go_wp2
       go_roundg (gk - 1)
       case measure=>omega
       case rel=>exact ⟨i+1,by go_num,by omega,by omega,HA2,rfl⟩
      ·have hl':((ln i:Int) != (C:Int))=true:=by simp; omega
       have hno:Hid (FirstErr [(ShapeM (C:Int) n ln,3),(ElemsM (P ^ M) n ln V,2)] 3):=.inl ⟨fun h=>by have:=h.2.2.2 i hlt; omega,rfl⟩
       clear hl
       go_wp2
       go_ret
       exact errsPost hno.out hB
     ·have hlt':¬ (i:Int)<(n:Int):=by omega
      have hin:i=n:=by omega
      have hsh:Hid (ShapeM (C:Int) n ln):=⟨by omega,by omega,hn,fun t ht=>HA.out t (by omega)⟩
      have hok:Hid (∀ {v:Int},FirstErr [(ElemsM (P ^ M) n ln V,2)] v->FirstErr [(ShapeM (C:Int) n ln,3),(ElemsM (P ^ M) n ln V,2)] v):=fun h=>.inr ⟨hsh.out,h⟩
      clear hin HA
      go_wp2
      clear q0 q1
      go_loopg [40] n (fun g2 iv wx=>∃ i:Nat,iv=.int .i64 (i:Nat)/\i<=n/\n<=i+g2/\Hid (∀ t,t<i->AllIn (P ^ M) (ln t) (V t))/\Hid (Below w.heap.size w wx))
      case atStart=>exact ⟨0,rfl,by omega,by omega,fun t ht=>absurd ht (by omega),hB⟩
      case round =>
       obtain ⟨j,rfl,hj,hjg,HE,HB⟩:=hrel
       have hj0:(0:Int)<=(j:Int):=by omega
       by_cases hjt:j<n
       ·have hjt':(j:Int)<(n:Int):=by omega
        obtain ⟨b,o,RA,rc,rfl,hb,x0,_,_,hrow,_⟩:=(HR.out.on HB.out) j hjt
        have HROW:=hid hrow
        have hlj:Hid (ln j<=1048576):=by show _<=_; have:=hsh.out.2.2.2 j hjt; omega
        have hG:=HG.out.at HB.out HB.out.size
        clear hrow
        go_wp2_with fail
        refine (zeS P M g m RA (ln j) rc (V j) _ hG HROW.out hlj.out).mono ?_
        rintro e w2 ⟨v,rfl,hv,kb⟩
        have HB2:=hid (onS HB.out kb)
        clear kb hG x0 HROW hlj
        rcases hv with ⟨hno,hv2⟩ | ⟨hyes,hv0⟩
        ·subst hv2
         have hf:Hid (FirstErr [(ElemsM (P ^ M) n ln V,2)] 2):=.inl ⟨fun h=>hno (h j hjt),rfl⟩
         clear hno
         go_wp2
         go_ret
         exact errsPost (hok.out hf.out) HB2.out
        ·have hv0:v=0:=hv0
         subst hv0
         have HE2:Hid (∀ t,t<j+1->AllIn (P ^ M) (ln t) (V t)):=fun t ht=>by
          by_cases e:t=j
          ·rw [e]; exact hyes
          ·exact HE.out t (by omega)
         clear hyes
         go_wp2
         go_roundg (gk - 1)
         case measure=>omega
         case rel=>exact ⟨j+1,by go_num,by omega,by omega,HE2,HB2⟩
       ·have hjt':¬ (j:Int)<(n:Int):=by omega
        have hf:Hid (FirstErr [(ElemsM (P ^ M) n ln V,2)] 0):=.inr ⟨fun t ht=>HE.out t (by omega),rfl⟩
        go_wp2
        go_ret
        exact errsPost (hok.out hf.out) HB.out
def MOpenPost (P M:Int) (k:Nat) (f:Nat->Int) (cols:Int) (n:Nat) (ln:Nat->Nat) (V:Nat->Nat->Int) (w:World) (e:Ending) (w':World):Prop :=
 Below w.heap.size w w'/\∃ v:Int,FirstErr [(GoodF P M k f,1),(ShapeM cols n ln,3),(ElemsM (P.toNat ^ M.toNat) n ln V,2)] v /\
  ((v≠0/\e=.returned (.tuple #[.pointer none,.int .i64 v])) ∨
   (v=0/\∃ g P' M':Nat,P=P'/\M=M'/\e=.returned (.tuple #[.pointer (some ⟨g,0,none⟩),.int .i64 0])/\GF w' w'.heap.size g P' M' (fun i=>(f i).toNat)))
theorem zfm (P M:Int) (A:Option Addr) (k c:Nat) (f:Nat->Int) (cols:Int) (T:Option Addr) (n d lb lc:Nat) (ln:Nat->Nat) (V:Nat->Nat->Int) (w:World) (hr:IntsR w w.heap.size A k f) (h:IntRows w T n ln V)
  (hl0:w.cell? ⟨lb,0,none⟩=some (.int .i64 cols)) (hl1:w.cell? ⟨lb,1,none⟩=some (.slice T n d)) :
  Calls Tryz.prog 200 #[.agg #[.int .i64 P,.int .i64 M,.slice A k c],.slice (some ⟨lb,0,none⟩) 1 lc] w (MOpenPost P M k f cols n ln V w):=by
 have HR:=hid hr
 have HT:=hid h
 have HL0:=hid hl0
 have HL1:=hid hl1
 have hlb:=World.block_lt_of_cell? w _ hl0
 have hlb:lb<w.heap.size:=hlb
 clear hr h hl0 hl1
 have hB:Below w.heap.size w (w.alloc (.cells #[.int .i64 P,.int .i64 M,.slice A k c] 24)):=(Below.refl _ _).alloc (Nat.le_refl _) _
 have rf:=zad (w:=w) (a:=.int .i64 P) (b:=.int .i64 M) (c:=.slice A k c) (T := 24)
 obtain ⟨w0,hw0⟩:∃ W,W=w.alloc (.cells #[.int .i64 P,.int .i64 M,.slice A k c] 24):=⟨_,rfl⟩
 rw [<-hw0] at hB rf
 go_enter Tryz.func200, Tryz.ntmps200
 go_upto_region 1 with fail
 rw [<-hw0];clear hw0
 have q0:=qc0 rf
 have q1:=qc1 rf
 have q2:=qc2 rf
 go_wp2_with fail
 refine (zdJ P M A k c f w0 (HR.out.on hB)).mono ?_
 rintro e w1 ⟨kb,hN⟩
 have HB:=hid (onS hB kb)
 clear hB kb rf q0 q1 q2
 rcases hN with ⟨hno,rfl⟩ | ⟨hyes,g,P,M,rfl,rfl,rfl,_,hG⟩
 ·have hf:Hid (FirstErr [(GoodF P M k f,1),(ShapeM cols n ln,3),(ElemsM (P.toNat ^ M.toNat) n ln V,2)] 1):=.inl ⟨hno,rfl⟩
  clear hno
  go_wp2
  go_ret2
  exact ⟨HB.out,1,hf.out,.inl ⟨by omega,rfl⟩⟩
 ·have HG:=hid hG.gf
  have hok:Hid (∀ {v:Int},FirstErr [(ShapeM cols n ln,3),(ElemsM (P ^ M) n ln V,2)] v->FirstErr [(GoodF (P:Int) (M:Int) k f,1),(ShapeM cols n ln,3),(ElemsM ((P:Int).toNat ^ (M:Int).toNat) n ln V,2)] v):=fun h=>.inr ⟨hyes,by rw [Int.toNat_natCast,Int.toNat_natCast]; exact h⟩
  clear hG hyes
  go_wp2
  go_loopg [20] 1 (fun gg iv wx=>∃ i:Nat,iv=.int .i64 (i:Nat)/\i<=1/\1<=i+gg/\Hid (i=1->FirstErr [(ShapeM cols n ln,3),(ElemsM (P ^ M) n ln V,2)] 0)/\Hid (Below w1.heap.size w1 wx)/\Hid (Below w.heap.size w wx))
  case atStart=>exact ⟨0,rfl,by omega,by omega,fun h=>absurd h (by omega),Below.refl _ _,HB⟩
  case round =>
   clear HB
   obtain ⟨i,rfl,hi,hig,HE,HBG,HB⟩:=hrel
   by_cases hlt:i<1
   ·obtain rfl:i=0:=by omega
    clear hlt hi
    have x0:=(HB.out.cell (p:=⟨lb,0,none⟩) hlb).trans HL0.out
    have x1:=(HB.out.cell (p:=⟨lb,1,none⟩) hlb).trans HL1.out
    go_upto_region 7 with fail
    clear x0 x1
    have kb1:Below wr.heap.size wr (wr.alloc (Obj.cells #[.int .i64 cols,.slice T n d] 97)):=(Below.refl _ _).alloc (Nat.le_refl _) _
    have rm:=zae (w:=wr) (a:=.int .i64 cols) (b:=.slice T n d) (T := 97)
    obtain ⟨w2,hw2⟩:∃ W,W=wr.alloc (Obj.cells #[.int .i64 cols,.slice T n d] 97):=⟨_,rfl⟩
    obtain ⟨mb,hmb⟩:∃ b,b=wr.heap.size:=⟨_,rfl⟩
    rw [<-hw2] at kb1 rm ⊢;rw [<-hmb] at rm ⊢
    have HB2:=hid (onS HB.out kb1)
    have HBG2:=hid (onS HBG.out kb1)
    have z0:=qc0 rm
    have z1:=qc1 rm
    clear hw2 hmb kb1 rm HB HBG
    go_wp2_with fail
    refine (zgQ P M g _ cols T n d ln V w2 (HG.out.on HBG2.out) (HT.out.on HB2.out)).mono ?_
    rintro e w3 ⟨v,rfl,hv,kb⟩
    have HB3:=hid (onS HB2.out kb)
    have HBG3:=hid (onS HBG2.out kb)
    have HV:=hid hv
    clear kb z0 z1 hv HB2 HBG2
    by_cases hv0:v=0
    ·have HE2:Hid (True->FirstErr [(ShapeM cols n ln,3),(ElemsM (P ^ M) n ln V,2)] 0):=fun _=>by rw [<-hv0]; exact HV.out
     subst hv0
     go_wp2
     go_roundg (gk - 1)
     case measure=>omega
     case rel=>exact ⟨0+1,by go_num,by omega,by omega,fun _=>HE2.out trivial,HBG3,HB3⟩
    ·have hvn:(v != 0)=true:=by simpa using hv0
     have HV0:=hid hv0
     clear hv0
     go_wp2
     go_ret2
     exact ⟨HB3.out,v,hok.out HV.out,.inl ⟨HV0.out,rfl⟩⟩
   ·obtain rfl:i=1:=by omega
    clear hlt hi
    go_wp2
    go_ret2
    exact ⟨HB.out,0,hok.out (HE.out trivial),.inr ⟨rfl,g,P,M,rfl,rfl,rfl,HG.out.on HBG.out⟩⟩
theorem zaY {w w':World} {g:Nat} {T:TypeId} {f:Nat->Value} {a b:Value} (h:w.rowIs g T 2 f) (hw:w'=(w.setCell ⟨g,0,none⟩ a).setCell ⟨g,1,none⟩ b):w'.rowIs g T 2 (matCell a b)/\w.grownBy w' (some g):=by
 rw [hw]
 refine ⟨((h.set 0 _).set 1 _).congr fun j hj=>?_,zan (zaO _ _ _ _) _ _⟩
 match j,hj with
 | 0,_=>rfl
 | 1,_=>rfl
def MatErrs (P M:Int) (k:Nat) (f:Nat->Int) (cols:Int) (n:Nat) (ln:Nat->Nat) (V:Nat->Nat->Int):List (Prop × Int):=[(GoodF P M k f,1),(ShapeM cols n ln,3),(ElemsM (P.toNat ^ M.toNat) n ln V,2)]
def MCanonPost (P M : Int) (k : Nat) (f : Nat → Int) (cols : Int) (n : Nat) (ln : Nat → Nat) (V : Nat → Nat → Int) (w : World) (e : Ending) (w' : World) : Prop :=
 Below w.heap.size w w'/\∃ v:Int,FirstErr (MatErrs P M k f cols n ln V) v /\
  ((v≠0/\e=.returned (.tuple #[.agg #[.int .i64 0,.slice none 0 0],.slice none 0 0,.int .i64 v])) ∨
   (v=0/\∃ (P' M' C:Nat) (lv pv:Value) (a:Nat) (p:Nat->Nat) (W:Nat->Nat->Nat),P=P'/\M=M'/\cols=C/\e=.returned (.tuple #[.agg #[.int .i64 (C:Nat),lv],pv,.int .i64 0]) /\
    MTab w' w.heap.size lv a C W/\Own w' w.heap.size 3 1 pv a (fun j _=>.int .i64 (p j:Nat))/\EchN (P' ^ M') n C C a p W/\RowOps (P' ^ M') (addF P' M') (mulF P' M' fun i=>(f i).toNat) n C (natT V) W))
theorem zdK (P M:Int) (A:Option Addr) (k c:Nat) (f:Nat->Int) (cols:Int) (T:Option Addr) (n d:Nat) (ln:Nat->Nat) (V:Nat->Nat->Int) (w:World) (hr:IntsR w w.heap.size A k f) (h:IntRows w T n ln V) (hc1:1<=cols) :
  Calls Tryz.prog 248 #[.agg #[.int .i64 P,.int .i64 M,.slice A k c],.agg #[.int .i64 cols,.slice T n d]] w (MCanonPost P M k f cols n ln V w):=by
 have HR:=hid hr
 have HT:=hid h
 clear hr h
 have rf:=zad (w:=w) (a:=.int .i64 P) (b:=.int .i64 M) (c:=.slice A k c) (T := 24)
 have hB:Below w.heap.size w (w.alloc (.cells #[.int .i64 P,.int .i64 M,.slice A k c] 24)):=(Below.refl _ _).alloc (Nat.le_refl _) _
 have hsz:(w.alloc (.cells #[.int .i64 P,.int .i64 M,.slice A k c] 24)).heap.size=w.heap.size+1:=by simp
 obtain ⟨w0,hw0⟩:∃ W,W=w.alloc (.cells #[.int .i64 P,.int .i64 M,.slice A k c] 24):=⟨_,rfl⟩
 have rm:=zae (w:=w0) (a:=.int .i64 cols) (b:=.slice T n d) (T := 97)
 have kb:Below w0.heap.size w0 (w0.alloc (.cells #[.int .i64 cols,.slice T n d] 97)):=(Below.refl _ _).alloc (Nat.le_refl _) _
 have hsz1:(w0.alloc (.cells #[.int .i64 cols,.slice T n d] 97)).heap.size=w0.heap.size+1:=by simp
 obtain ⟨w1,hw1⟩:∃ W,W=w0.alloc (.cells #[.int .i64 cols,.slice T n d] 97):=⟨_,rfl⟩
 have ro:=zae (w:=w1) (a:=.int .i64 0) (b:=.slice none 0 0) (T := 97)
 have kb2:Below w1.heap.size w1 (w1.alloc (.cells #[.int .i64 0,.slice none 0 0] 97)):=(Below.refl _ _).alloc (Nat.le_refl _) _
 obtain ⟨w2,hw2⟩:∃ W,W=w1.alloc (.cells #[.int .i64 0,.slice none 0 0] 97):=⟨_,rfl⟩
 rw [<-hw0] at hB rf hsz;rw [<-hw1] at rm kb hsz1;rw [<-hw2] at ro kb2;rw [hsz1,hsz] at ro;rw [hsz] at rm;replace rf:=zaa (zaa rf kb) kb2;replace rm:=zaa rm kb2;replace hB:=onS (onS hB kb) kb2
 go_enter Tryz.func248, Tryz.ntmps248
 go_upto_region 1 with fail
 rw [<-hw0,<-hw1,<-hw2];clear hw0 hw1 hw2 kb kb2 hsz hsz1
 obtain ⟨b0,hb0⟩:∃ b,b=w.heap.size:=⟨_,rfl⟩
 obtain ⟨b1,hb1⟩:∃ b,b=w.heap.size+1:=⟨_,rfl⟩
 obtain ⟨b2,hb2⟩:∃ b,b=w.heap.size+1+1:=⟨_,rfl⟩
 have hb2w:w.heap.size<=b2:=by omega
 rw [<-hb0] at rf;rw [<-hb1] at rm;rw [<-hb2] at ro;rw [<-hb2,<-hb1,<-hb0];clear hb0 hb1 hb2
 have q0:=qc0 rf
 have q1:=qc1 rf
 have q2:=qc2 rf
 have p0:=qc0 rm
 have p1:=qc1 rm
 go_wp2_with fail
 have kb3:Below w2.heap.size w2 (w2.alloc (Obj.cells #[.int .i64 cols,.slice T n d] 97)):=(Below.refl _ _).alloc (Nat.le_refl _) _
 have rl:=zae (w:=w2) (a:=.int .i64 cols) (b:=.slice T n d) (T := 97)
 obtain ⟨w3,hw3⟩:∃ W,W=w2.alloc (Obj.cells #[.int .i64 cols,.slice T n d] 97):=⟨_,rfl⟩
 rw [<-hw3] at kb3 rl ⊢;replace hB:=onS hB kb3;replace rf:=zaa rf kb3;replace rm:=zaa rm kb3;replace ro:=zaa ro kb3;clear hw3 kb3 q0 q1 q2 p0 p1
 refine (zfm P M A k c f cols T n d w2.heap.size 1 ln V w3 (HR.out.on hB) (HT.out.on hB) (rl.cell (i:=0) (by omega)) (rl.cell (i:=1) (by omega))).mono ?_
 rintro e w4 ⟨kb,v,hv,hcase⟩
 replace hB:=onS hB kb;replace rm:=zaa rm kb;replace ro:=zaa ro kb
 have HV:=hid hv
 clear kb rl rf hv
 rcases hcase with ⟨hv0,rfl⟩ | ⟨rfl,g,P,M,rfl,rfl,rfl,hG⟩
 ·have hvn:(v != 0)=true:=by simpa using hv0
  have HV0:=hid hv0
  clear hv0 rm
  have r0:=ro.frozen 0
  have s0:=qc0 ro
  have r1:=ro.frozen 1
  have s1:=qc1 ro
  go_wp2
  clear r0 s0 r1 s1
  generalize hw9:World.setCell _ _ _=w5
  obtain ⟨row9,hg9⟩:=zaY ro hw9.symm
  clear hw9
  have hB9:=hB.grown hg9 hB.size (fun q e=>by injection e with e; omega)
  have e0:=qc0 row9
  have e1:=qc1 row9
  refine bodyPost_ret (v:=.tuple #[.agg #[.int .i64 0,.slice none 0 0],.slice none 0 0,.int .i64 v]) (by simp [results,Tryz.results248, go_sem,e0,e1]) rfl ?_
  exact ⟨hB9,v,HV.out,.inl ⟨HV0.out,rfl⟩⟩
 ·have hok:=HV.out
  rcases hok with ⟨_,h9⟩ | ⟨hgood,⟨_,h9⟩ | ⟨hs,⟨_,h9⟩ | ⟨he,_⟩⟩⟩
  ·cases h9
  ·cases h9
  ·cases h9
  obtain ⟨C,rfl⟩:∃ C:Nat,cols=C:=⟨cols.toNat,by omega⟩
  rw [Int.toNat_natCast,Int.toNat_natCast] at he
  obtain ⟨hm,hlt⟩:=zch (HT.out.on hB) hs he
  have hC1:0<C:=by omega
  have hC2:C<=1048576:=by have:=hs.2.1; omega
  have hn2:n<=1048576:=by have:=hs.2.2.1; omega
  have p0:=qc0 rm
  have p1:=qc1 rm
  clear hs he hgood
  go_wp2_with fail
  refine (zcR P M g _ T n d C C (natT V) w4 hG hm hlt (Nat.le_refl _) hC1 hC2 hn2).mono ?_
  rintro e w5 ⟨lv,pv,a,p,W,rfl,hMT,hP,kb,hE,hR⟩
  have HB:=hid (onS hB kb)
  have hB4:=hB.size
  replace ro:=zaa ro kb
  have HE:=hid hE
  have HRO:=hid hR
  obtain ⟨LA,lc,hlv⟩:=hMT.shape
  subst hlv
  obtain ⟨PA,pc,hpv⟩:=hP.shape
  subst hpv
  replace rm:=zaa rm kb
  have HM5:=hid (hMT.mono hB4)
  have HP5:=hid (hP.mono hB4)
  clear kb hMT hP hE hR hlt hm hG p0 p1 hB hB4
  have p0:=qc0 rm
  have r0:=ro.frozen 0
  have s0:=qc0 ro
  have r1:=ro.frozen 1
  have s1:=qc1 ro
  go_wp2
  clear r0 s0 r1 s1 p0 rm
  generalize hw9:World.setCell _ _ _=w6
  obtain ⟨row9,hg9⟩:=zaY ro hw9.symm
  clear hw9
  have hB9:=HB.out.grown hg9 HB.out.size (fun q e=>by injection e with e; omega)
  have hM9:=HM5.out.kept hg9 ro (by decide) (by decide)
  have hP9:=HP5.out.kept hg9 (zar ro HP5.out (by decide))
  have e0:=qc0 row9
  have e1:=qc1 row9
  refine bodyPost_ret (v:=.tuple #[.agg #[.int .i64 (C:Nat),.slice LA a lc],.slice PA a pc,.int .i64 0]) (by simp [results,Tryz.results248, go_sem,e0,e1]) rfl ?_
  exact ⟨hB9,0,HV.out,.inr ⟨rfl,P,M,C,_,_,a,p,W,rfl,rfl,rfl,rfl,hM9,hP9,HE.out,HRO.out⟩⟩
def IndexPost (n:Nat) (f:Nat->Int) (v:Int) (w:World) (e:Ending) (w':World):Prop :=
 ∃ x:Int,e=.returned (.int .i64 x)/\Below w.heap.size w w'/\((x = -1/\∀ i,i<n->f i≠v)∨∃ i:Nat,x=i/\i<n/\f i=v/\∀ j,j<i->f j≠v)
theorem zek (T:Option Addr) (n d:Nat) (f:Nat->Int) (v:Int) (w:World) (h:IntsR w w.heap.size T n f) (hn:n<=1048576) :
  Calls Tryz.prog 242 #[.slice T n d,.int .i64 v] w (IndexPost n f v w):=by
 have HR:=hid h
 clear h
 go_enter Tryz.func242, Tryz.ntmps242
 go_wp2
 go_loopg [8] n (fun gg iv wx=>∃ i:Nat,iv=.int .i64 (i:Nat)/\i<=n/\n<=i+gg/\Hid (∀ j,j<i->f j≠v)/\wx=w)
 case atStart=>exact ⟨0,rfl,by omega,by omega,fun t ht=>absurd ht (by omega),rfl⟩
 case round =>
  obtain ⟨i,rfl,hi,hig,HA,hwx⟩:=hrel
  subst hwx
  have hi0:(0:Int)<=(i:Int):=by omega
  by_cases hlt:i<n
  ·have hlt':(i:Int)<(n:Int):=by omega
   obtain ⟨b,o,rfl,_,x0⟩:=HR.out.at hlt
   obtain ⟨x,hx⟩:∃ x,x=f i:=⟨_,rfl⟩
   rw [<-hx] at x0
   by_cases he:v=x
   ·have hd:(v == x)=true:=by simpa using he
    have HP:Hid (∃ i2:Nat,(i:Int)=i2/\i2<n/\f i2=v/\∀ j,j<i2->f j≠v):=⟨i,rfl,hlt,by rw [<-hx,he],HA.out⟩
    clear he hx
    go_wp2
    go_ret
    exact ⟨_,rfl,Below.refl _ _,.inr HP.out⟩
   ·have hd:(v == x)=false:=by simpa using he
    have HA2:Hid (∀ j,j<i+1->f j≠v):=fun j hj=>by
     by_cases e:j=i
     ·rw [e,<-hx]; exact fun h=>he h.symm
     ·exact HA.out j (by omega)
    clear he hx
    go_wp2
    go_roundg (gk - 1)
    case measure=>omega
    case rel=>exact ⟨i+1,by go_num,by omega,by omega,HA2,rfl⟩
  ·have hlt':¬ (i:Int)<(n:Int):=by omega
   have HP:Hid (∀ j,j<n->f j≠v):=fun j hj=>HA.out j (by omega)
   go_wp2
   go_ret
   exact ⟨_,rfl,Below.refl _ _,.inl ⟨rfl,HP.out⟩⟩
theorem zcS (T:Option Addr) (n d:Nat) (f:Nat->Int) (v:Int) (w:World) (h:IntsR w w.heap.size T n f) (hn:n<=1048576) :
  Calls Tryz.prog 202 #[.slice T n d,.int .i64 v] w (IffPost (∃ i,i<n/\f i=v) w):=by
 go_enter Tryz.func202, Tryz.ntmps202
 go_wp2_with fail
 refine (zek T n d f v w h hn).mono ?_
 rintro e w1 ⟨x,rfl,hB,hx⟩
 have HX:=hid hx
 clear hx h
 by_cases hx0:0<=x
 ·have hd:decide (0<=x)=true:=by simpa using hx0
  have HY:Hid (∃ i,i<n/\f i=v):=by
   rcases HX.out with ⟨h1,_⟩ | ⟨i,_,h2,h3,_⟩
   ·omega
   ·exact ⟨i,h2,h3⟩
  clear hx0
  go_wp2
  go_ret
  exact za0 HY.out hB
 ·have hd:decide (0<=x)=false:=by simpa using hx0
  have HY:Hid (¬ ∃ i,i<n/\f i=v):=by
   rcases HX.out with ⟨_,h1⟩ | ⟨i,h1,_,_,_⟩
   ·rintro ⟨i,h2,h3⟩; exact h1 i h2 h3
   ·omega
  clear hx0
  go_wp2
  go_ret
  exact zax HY.out hB
def MKerPost (P M : Int) (k : Nat) (f : Nat → Int) (cols : Int) (n : Nat) (ln : Nat → Nat) (V : Nat → Nat → Int) (w : World) (e : Ending) (w' : World) : Prop :=
 Below w.heap.size w w'/\∃ v:Int,FirstErr (MatErrs P M k f cols n ln V) v /\
  ((v≠0/\e=.returned (.tuple #[.agg #[.int .i64 0,.slice none 0 0],.int .i64 v])) ∨
   (v=0/\∃ (P' M' C:Nat) (lv:Value) (a:Nat) (W:Nat->Nat->Nat),P=P'/\M=M'/\cols=C/\e=.returned (.tuple #[.agg #[.int .i64 (C:Nat),lv],.int .i64 0]) /\
    MTab w' w.heap.size lv a C W/\NullRel (P' ^ M') (addF P' M') (mulF P' M' fun i=>(f i).toNat) (negF P' M') n C (natT V) a W))
theorem zcl (P M:Int) (A:Option Addr) (k c:Nat) (f:Nat->Int) (cols:Int) (T:Option Addr) (n d:Nat) (ln:Nat->Nat) (V:Nat->Nat->Int) (w:World) (hr:IntsR w w.heap.size A k f) (h:IntRows w T n ln V) (hc1:1<=cols) :
  Calls Tryz.prog 126 #[.agg #[.int .i64 P,.int .i64 M,.slice A k c],.agg #[.int .i64 cols,.slice T n d]] w (MKerPost P M k f cols n ln V w):=by
 have HR:=hid hr
 have HT:=hid h
 clear hr h
 have rf:=zad (w:=w) (a:=.int .i64 P) (b:=.int .i64 M) (c:=.slice A k c) (T := 24)
 have hB:Below w.heap.size w (w.alloc (.cells #[.int .i64 P,.int .i64 M,.slice A k c] 24)):=(Below.refl _ _).alloc (Nat.le_refl _) _
 have hsz:(w.alloc (.cells #[.int .i64 P,.int .i64 M,.slice A k c] 24)).heap.size=w.heap.size+1:=by simp
 obtain ⟨w0,hw0⟩:∃ W,W=w.alloc (.cells #[.int .i64 P,.int .i64 M,.slice A k c] 24):=⟨_,rfl⟩
 have rm:=zae (w:=w0) (a:=.int .i64 cols) (b:=.slice T n d) (T := 97)
 have kb:Below w0.heap.size w0 (w0.alloc (.cells #[.int .i64 cols,.slice T n d] 97)):=(Below.refl _ _).alloc (Nat.le_refl _) _
 have hsz1:(w0.alloc (.cells #[.int .i64 cols,.slice T n d] 97)).heap.size=w0.heap.size+1:=by simp
 obtain ⟨w1,hw1⟩:∃ W,W=w0.alloc (.cells #[.int .i64 cols,.slice T n d] 97):=⟨_,rfl⟩
 have ro:=zae (w:=w1) (a:=.int .i64 0) (b:=.slice none 0 0) (T := 97)
 have kb2:Below w1.heap.size w1 (w1.alloc (.cells #[.int .i64 0,.slice none 0 0] 97)):=(Below.refl _ _).alloc (Nat.le_refl _) _
 obtain ⟨w2,hw2⟩:∃ W,W=w1.alloc (.cells #[.int .i64 0,.slice none 0 0] 97):=⟨_,rfl⟩
 rw [<-hw0] at hB rf hsz;rw [<-hw1] at rm kb hsz1;rw [<-hw2] at ro kb2;rw [hsz1,hsz] at ro;rw [hsz] at rm;replace rf:=zaa (zaa rf kb) kb2;replace rm:=zaa rm kb2;replace hB:=onS (onS hB kb) kb2
 go_enter Tryz.func126, Tryz.ntmps126
 go_upto_region 1 with fail
 rw [<-hw0,<-hw1,<-hw2];clear hw0 hw1 hw2 kb kb2 hsz hsz1
 obtain ⟨b0,hb0⟩:∃ b,b=w.heap.size:=⟨_,rfl⟩
 obtain ⟨b1,hb1⟩:∃ b,b=w.heap.size+1:=⟨_,rfl⟩
 obtain ⟨b2,hb2⟩:∃ b,b=w.heap.size+1+1:=⟨_,rfl⟩
 have hb2w:w.heap.size<=b2:=by omega
 rw [<-hb0] at rf;rw [<-hb1] at rm;rw [<-hb2] at ro;rw [<-hb2,<-hb1,<-hb0];clear hb0 hb1 hb2
 have q0:=qc0 rf
 have q1:=qc1 rf
 have q2:=qc2 rf
 have p0:=qc0 rm
 have p1:=qc1 rm
 go_wp2_with fail
 have kb3:Below w2.heap.size w2 (w2.alloc (Obj.cells #[.int .i64 cols,.slice T n d] 97)):=(Below.refl _ _).alloc (Nat.le_refl _) _
 have rl:=zae (w:=w2) (a:=.int .i64 cols) (b:=.slice T n d) (T := 97)
 obtain ⟨w3,hw3⟩:∃ W,W=w2.alloc (Obj.cells #[.int .i64 cols,.slice T n d] 97):=⟨_,rfl⟩
 rw [<-hw3] at kb3 rl ⊢;replace hB:=onS hB kb3;replace rf:=zaa rf kb3;replace rm:=zaa rm kb3;replace ro:=zaa ro kb3;clear hw3 kb3 q0 q1 q2 p0 p1
 refine (zfm P M A k c f cols T n d w2.heap.size 1 ln V w3 (HR.out.on hB) (HT.out.on hB) (rl.cell (i:=0) (by omega)) (rl.cell (i:=1) (by omega))).mono ?_
 rintro e w4 ⟨kb,v,hv,hcase⟩
 replace hB:=onS hB kb;replace rm:=zaa rm kb;replace ro:=zaa ro kb
 have HV:=hid hv
 clear kb rl rf hv
 rcases hcase with ⟨hv0,rfl⟩ | ⟨rfl,g,P,M,rfl,rfl,rfl,hG⟩
 ·have hvn:(v != 0)=true:=by simpa using hv0
  have HV0:=hid hv0
  clear hv0 rm
  have r0:=ro.frozen 0
  have s0:=qc0 ro
  have r1:=ro.frozen 1
  have s1:=qc1 ro
  go_wp2
  clear r0 s0 r1 s1
  generalize hw9:World.setCell _ _ _=w5
  obtain ⟨row9,hg9⟩:=zaY ro hw9.symm
  clear hw9
  have hB9:=hB.grown hg9 hB.size (fun q e=>by injection e with e; omega)
  have e0:=qc0 row9
  have e1:=qc1 row9
  refine bodyPost_ret (v:=.tuple #[.agg #[.int .i64 0,.slice none 0 0],.int .i64 v]) (by simp [results,Tryz.results126, go_sem,e0,e1]) rfl ?_
  exact ⟨hB9,v,HV.out,.inl ⟨HV0.out,rfl⟩⟩
 ·have hok:=HV.out
  rcases hok with ⟨_,h9⟩ | ⟨hgood,⟨_,h9⟩ | ⟨hs,⟨_,h9⟩ | ⟨he,_⟩⟩⟩
  ·cases h9
  ·cases h9
  ·cases h9
  obtain ⟨C,rfl⟩:∃ C:Nat,cols=C:=⟨cols.toNat,by omega⟩
  rw [Int.toNat_natCast,Int.toNat_natCast] at he
  obtain ⟨hm,hlt⟩:=zch (HT.out.on hB) hs he
  have hC1:0<C:=by omega
  have hC2:C<=1048576:=by have:=hs.2.1; omega
  have hn2:n<=1048576:=by have:=hs.2.2.1; omega
  have p0:=qc0 rm
  have p1:=qc1 rm
  have HOK:=hid hgood.field.1
  have HG:=hid hG
  have HMM:=hid hm
  have HLT:=hid hlt
  have HC:Hid (C<=256):=by show _<=_; have:=hs.2.1; omega
  have HB4:=hid hB
  clear hs he hgood hG hm hlt hB
  go_wp2_with fail
  refine (zcR P M g _ T n d C C (natT V) w4 HG.out HMM.out HLT.out (Nat.le_refl _) hC1 hC2 hn2).mono ?_
  rintro e w5 ⟨lv,pv,a,p,W,rfl,hMT,hP,kb,hE,hR⟩
  have HB5:=hid (onS HB4.out kb)
  have HG5:=hid (HG.out.on kb)
  replace ro:=zaa ro kb;replace rm:=zaa rm kb
  have HE:=hid hE
  have HRO:=hid hR
  obtain ⟨LA,lc,hlv⟩:=hMT.shape
  subst hlv
  obtain ⟨PA,pc,hpv⟩:=hP.shape
  subst hpv
  have HMB:=hid hMT
  have HPB:=hid hP
  have haC:=hE.le_c
  have HRM:=hid rm
  have HRO2:=hid ro
  clear kb hMT hP hE hR HMM HLT HG p0 p1 rm ro
  have p0:=qc0 HRM.out
  have hL:=hid (fieldLaws HOK.out)
  have hP0:0<P:=by have:=HOK.out.1.1; omega
  have HQN:Hid (∀ x,negF P M x<P ^ M):=fun x=>za7 hP0
  have H0:=hid (MTab.nil w5 w5.heap.size C (fun _ _=>0))
  have hmk:=fun W=>zaf (P:=Tryz.prog) 22 3 _ 8 Tryz.underlying22 Tryz.infoInt rfl (C:Int) (by omega) (by omega) (by omega) W
  simp only [Int.toNat_natCast] at hmk
  go_wp2
  clear p0
  obtain ⟨nv,hnv⟩:∃ x:Value,x=.slice none 0 0:=⟨_,rfl⟩
  rw [<-hnv] at H0;rw [<-hnv];clear hnv
  go_loopg [10,37] C (fun gg ov cv wx=>∃ (c0 f0:Nat) (fr:Nat->Nat) (NW:Nat->Nat->Nat),cv=.int .i64 (c0:Nat)/\c0<=C/\C<=c0+gg/\f0<=c0/\Hid (NullN (negF P M) C a p W c0 f0 fr NW)/\Hid (MTab wx w5.heap.size ov f0 C NW)/\Hid (Below w5.heap.size w5 wx))
  case atStart=>exact ⟨0,0,fun _=>0,fun _ _=>0,rfl,by omega,by omega,by omega,hid NullN.start,H0,Below.refl _ _⟩
  case round =>
   clear H0
   obtain ⟨c0,f0,fr,NW,rfl,hc,hcg,hfc,HN,HO,HB2⟩:=hrel
   have hc00:(0:Int)<=(c0:Int):=by omega
   obtain ⟨gO,hgO⟩:∃ x,x=gk:=⟨_,rfl⟩
   rw [<-hgO] at hcg
   have p0:wr.cell? ⟨b1,0,none⟩=some (.int .i64 (C:Nat)):=cellS HB2.out (HRM.out.cell (i:=0) (by omega))
   by_cases hcl:c0<C
   ·have hcl':(c0:Int)<(C:Int):=by omega
    go_wp2_with fail
    refine (zcS PA a pc (fun s=>((p s:Nat):Int)) (c0:Int) wr ((show IntsR w5 w5.heap.size PA a (fun s=>((p s:Nat):Int)) from HPB.out.rd rfl).on HB2.out) (by omega)).mono ?_
    rintro e wC ⟨b,rfl,hb,kb⟩
    have HBC:=hid (onS HB2.out kb)
    have HOC:=hid (HO.out.on kb)
    have HBB:=hid hb
    clear kb hb HO HB2 p0
    cases b
    ·have HFREE:Hid (∀ s,s<a->p s≠c0):=fun s hs e=>by have:=HBB.out.2 ⟨s,hs,by rw [e]⟩; cases this
     have p0:wC.cell? ⟨b1,0,none⟩=some (.int .i64 (C:Nat)):=cellS HBC.out (HRM.out.cell (i:=0) (by omega))
     go_upto_region 11 with fail
     have rx:=World.rowIs_made wC (.int .i64 0) C 3
     have kb:=(Below.refl wC.heap.size wC).alloc (Nat.le_refl _) (Obj.cells (madeCells #[Value.int .i64 0] C) 3)
     obtain ⟨w6,hw6⟩:∃ W,W=wC.alloc (Obj.cells (madeCells #[Value.int .i64 0] C) 3):=⟨_,rfl⟩
     obtain ⟨xb,hxb⟩:∃ b,b=wC.heap.size:=⟨_,rfl⟩
     rw [<-hw6] at kb rx ⊢;rw [<-hxb] at rx ⊢
     have hxb1:wC.heap.size<=xb:=by omega
     clear hw6 hxb p0
     have y0:=rx.cell hcl
     have z0:=rx.frozen c0
     have HRX:=hid ((rx.set c0 (.int .i64 1)).congr (g:=fun t=>.int .i64 ((nrow (negF P M) p W c0 0 t:Nat):Int)) fun t _=>by
      show (if t=c0 then Value.int .i64 1 else .int .i64 0)=.int .i64 (((if t=c0 then 1 else 0:Nat)):Int)
      split <;> rfl)
     have HKB:=hid (kb.setCell (p:=⟨xb,c0,none⟩) hxb1 (.int .i64 1))
     clear rx kb
     go_wp2
     clear y0 z0
     obtain ⟨w7,hw7⟩:∃ W,W=w6.setCell ⟨xb,c0,none⟩ (.int .i64 1):=⟨_,rfl⟩
     rw [<-hw7] at HRX HKB ⊢;clear hw7
     go_loopg [51] a (fun gg iv wx=>∃ t:Nat,iv=.int .i64 (t:Nat)/\t<=a/\a<=t+gg/\Hid (wx.rowIs xb 3 C (fun j=>.int .i64 ((nrow (negF P M) p W c0 t j:Nat):Int)))/\Hid (Below wC.heap.size wC wx))
     case atStart=>exact ⟨0,rfl,by omega,by omega,HRX,HKB⟩
     case round =>
      clear HRX HKB
      obtain ⟨t,rfl,ht,htg,HRX,HKB⟩:=hrel
      have ht0:(0:Int)<=(t:Int):=by omega
      by_cases htl:t<a
      ·have htl':(t:Int)<(a:Int):=by omega
       obtain ⟨pb,po,hPA,hpb,x0⟩:=(show IntsR w5 w5.heap.size PA a (fun s=>((p s:Nat):Int)) from HPB.out.rd rfl).at htl
       subst hPA
       obtain ⟨tb,to0,RA,rc,hLA,_,htb,y0,_,hrow⟩:=HMB.out.row htl
       subst hLA
       obtain ⟨rb,ro,hRA,hrb,y1⟩:=(show IntsR w5 w5.heap.size RA C (fun j=>((W t j:Nat):Int)) from hrow.rd rfl).at (i:=c0) hcl
       subst hRA
       clear hrow
       obtain ⟨pt,hpt⟩:∃ x,x=p t:=⟨_,rfl⟩
       obtain ⟨y,hy⟩:∃ y,y=W t c0:=⟨_,rfl⟩
       rw [<-hpt] at x0;rw [<-hy] at y1
       have hptN:pt<C:=by rw [hpt]; exact HE.out.pvlt t htl
       have hptN':(pt:Int)<(C:Int):=by omega
       have hpt0:(0:Int)<=(pt:Int):=by omega
       have HIY:=hid (zaE (q:=P ^ M) (x:=y) (by rw [hy]; exact HE.out.lt t (by have:=HE.out.le; omega) c0 hcl))
       have HPT:=hid hpt
       have HY:=hid hy
       clear hpt hy
       have HBX:=hid (onS HBC.out HKB.out)
       replace x0:=cellS HBX.out x0;replace y0:=cellS HBX.out y0;replace y1:=cellS HBX.out y1
       go_wp2_with fail
       refine (zdH (y:Int) (HG5.out.on HBX.out)).mono ?_
       rintro e w8 ⟨rfl,kb⟩
       rw [HIY.out]
       have HRX8:=hid (zaa HRX.out kb)
       have HKB8:=hid (onS HKB.out kb)
       obtain ⟨r,hr⟩:∃ r,r=negF P M y:=⟨_,rfl⟩
       rw [<-hr]
       have HRR:=hid hr
       clear kb hr x0 y0 y1 HRX HKB HBX
       have y0:=HRX8.out.cell hptN
       have z0:=HRX8.out.frozen pt
       have HRX9:=hid ((HRX8.out.set pt (.int .i64 (r:Nat))).congr (g:=fun j=>.int .i64 ((nrow (negF P M) p W c0 (t+1) j:Nat):Int)) fun j _=>by
        show (if j=pt then Value.int .i64 (r:Nat) else .int .i64 (nrow (negF P M) p W c0 t j:Nat))=.int .i64 (((if j=p t then negF P M (W t c0) else nrow (negF P M) p W c0 t j:Nat)):Int)
        rw [HPT.out]
        split
        ·rw [HRR.out,HY.out]
        ·rfl)
       have HKB9:=hid (HKB8.out.setCell (p:=⟨xb,pt,none⟩) hxb1 (.int .i64 (r:Nat)))
       clear HRX8 HKB8
       go_wp2
       go_roundg (gk - 1)
       case measure=>omega
       case rel=>exact ⟨t+1,by go_num,by omega,by omega,HRX9,HKB9⟩
      ·have htl':¬ (t:Int)<(a:Int):=by omega
       have hta:t=a:=by omega
       have HX9:Hid (Own wr w5.heap.size 3 1 (.slice (some ⟨xb,0,none⟩) C C) C (fun j _=>.int .i64 ((nrow (negF P M) p W c0 a j:Nat):Int))):=by
        have h:=zau HRX.out (Nat.le_trans HBC.out.size hxb1) (show C<=maxLen by unfold maxLen; have:=HC.out; omega)
        rw [hta] at h
        exact h
       clear hta
       have HO9:=hid (HOC.out.on HKB.out)
       have HB9:=hid (onS HBC.out HKB.out)
       have kb3:Below wr.heap.size wr (wr.alloc (Obj.cells #[.slice (some ⟨xb,0,none⟩) C C] 22)):=(Below.refl _ _).alloc (Nat.le_refl _) _
       have HXA:=hid (HX9.out.on kb3)
       have HOA:=hid (HO9.out.on kb3)
       have HBA:=hid (onS HB9.out kb3)
       have HZA:=hid HBA.out.size
       have HCA:Hid ((wr.alloc (Obj.cells #[.slice (some ⟨xb,0,none⟩) C C] 22)).cell? ((⟨wr.heap.size,0,none⟩:Addr).add 0)=some (.slice (some ⟨xb,0,none⟩) C C)):=tbox2
       have HL:Hid (f0<=1048576):=by show _<=_; have:=HC.out; omega
       clear kb3 HX9 HO9 HB9 HRX HKB
       go_wp2_with (first | (at_builtin; (refine zaz rfl (.tmp 69) (.tmp 71) rfl HOA.out rfl (ad:=⟨wr.heap.size,0,none⟩) (c:=1) rfl HCA.out rfl HXA.out HZA.out HL.out ?_); intro v9 w9 o1 o2 o3))
       have HN9:=hid (HN.out.next HFREE.out (x:=fun j=>nrow (negF P M) p W c0 a j) (fun j _=>rfl))
       have HO9:=hid o1
       have HB9:=hid (HBA.out.grown o2 HZA.out o3)
       clear o1 o2 o3
       go_wp2
       go_roundg (gO - 1)
       case measure=>omega
       case rel=>exact ⟨c0+1,f0+1,_,_,by go_num,by omega,by omega,by omega,HN9,HO9,HB9⟩
    ·have HIN:Hid (∃ s,s<a/\p s=c0):=by
      obtain ⟨s,hs,e⟩:=HBB.out.1 rfl
      exact ⟨s,hs,by omega⟩
     have HNN:=hid (HN.out.skip HIN.out)
     go_wp2
     go_roundg (gO - 1)
     case measure=>omega
     case rel=>exact ⟨c0+1,f0,fr,NW,by go_num,by omega,by omega,by omega,HNN,HOC,HBC⟩
   ·have hcl':¬ (c0:Int)<(C:Int):=by omega
    have hcC:c0=C:=by omega
    have HNN:Hid (NullN (negF P M) C a p W C f0 fr NW):=by have h:=HN.out; rw [hcC] at h; exact h
    clear hcC
    obtain ⟨OA,oc,hov⟩:=HO.out.shape
    subst hov
    have HNL:Hid (∀ i,i<f0->∀ j,j<C->NW i j<P ^ M):=fun i hi j hj=>by
     rw [HNN.out.row i hi j hj]
     exact zgt hL.out.two HQN.out _ _ _
    have HMR:=hid (HO.out.rd (q:=P ^ M) HOK.out.1.2.2.2 HNL.out)
    have hf2:f0<=1048576:=by have:=HC.out; omega
    go_wp2_with fail
    refine (zcR P M g _ OA f0 oc C C NW wr (HG5.out.on HB2.out) HMR.out HNL.out (Nat.le_refl _) hC1 hC2 hf2).mono ?_
    rintro e w6 ⟨lv2,pv2,a2,p2,W2,rfl,hMT2,hP2,kb,hE2,hR2⟩
    have HREL:Hid (NullRel (P ^ M) (addF P M) (mulF P M fun i=>(f i).toNat) (negF P M) n C (natT V) a2 W2):=⟨a,p,W,f0,fr,NW,p2,HE.out,HRO.out,HNN.out,hE2,hR2⟩
    obtain ⟨LA2,lc2,hlv2⟩:=hMT2.shape
    subst hlv2
    obtain ⟨PA2,pc2,hpv2⟩:=hP2.shape
    subst hpv2
    have hsz5:=HB5.out.size
    have hsz2:=HB2.out.size
    have HM6:=hid (hMT2.mono (Nat.le_trans hsz5 hsz2))
    have HB6:=hid (onS (onS HB5.out HB2.out) kb)
    have ro:=zaa (zaa HRO2.out HB2.out) kb
    have p0:w6.cell? ⟨b1,0,none⟩=some (.int .i64 (C:Nat)):=cellS kb (cellS HB2.out (HRM.out.cell (i:=0) (by omega)))
    clear kb hMT2 hP2 hE2 hR2
    have r0:=ro.frozen 0
    have s0:=qc0 ro
    have r1:=ro.frozen 1
    have s1:=qc1 ro
    go_wp2
    clear r0 s0 r1 s1 p0
    generalize hw9:World.setCell _ _ _=w7
    obtain ⟨row9,hg9⟩:=zaY ro hw9.symm
    clear hw9
    have hB9:=HB6.out.grown hg9 HB6.out.size (fun q e=>by injection e with e; omega)
    have hM9:=HM6.out.kept hg9 ro (by decide) (by decide)
    have e0:=qc0 row9
    have e1:=qc1 row9
    refine bodyPost_ret (v:=.tuple #[.agg #[.int .i64 (C:Nat),.slice LA2 a2 lc2],.int .i64 0]) (by simp [results,Tryz.results126, go_sem,e0,e1]) rfl ?_
    exact ⟨hB9,0,HV.out,.inr ⟨rfl,P,M,C,_,a2,W2,rfl,rfl,rfl,rfl,hM9,HREL.out⟩⟩
theorem zb4 (A B:Option Addr) (n m c d:Nat) (f g:Nat->Int) (w:World) (ha:IntsR w w.heap.size A n f) (hb:IntsR w w.heap.size B m g) (hn:n<=1048576) (hm:m<=1048576) :
  Calls Tryz.prog 189 #[.slice A n c,.slice B m d] w (IffPost (EqI n m f g) w):=by
 have HA:=hid ha
 have HB:=hid hb
 clear ha hb
 by_cases hnm:n=m
 ·subst hnm
  have hd:((n:Int) != (n:Int))=false:=by simp
  go_enter Tryz.func189, Tryz.ntmps189
  go_wp2
  go_loopg [13] n (fun gg iv wx=>∃ i:Nat,iv=.int .i64 (i:Nat)/\i<=n/\n<=i+gg/\Hid (∀ t,t<i->f t=g t)/\Hid (Below w.heap.size w wx))
  case atStart=>exact ⟨0,rfl,by omega,by omega,fun t ht=>absurd ht (by omega),Below.refl _ _⟩
  case round =>
   obtain ⟨i,rfl,hi,hig,HE,HW⟩:=hrel
   have hi0:(0:Int)<=(i:Int):=by omega
   by_cases hlt:i<n
   ·have hlt':(i:Int)<(n:Int):=by omega
    obtain ⟨b,o,rfl,_,x0⟩:=(HA.out.on HW.out).at hlt
    obtain ⟨b2,o2,rfl,_,y0⟩:=(HB.out.on HW.out).at hlt
    obtain ⟨x,hx⟩:∃ x,x=f i:=⟨_,rfl⟩
    obtain ⟨y,hy⟩:∃ x,x=g i:=⟨_,rfl⟩
    rw [<-hx] at x0;rw [<-hy] at y0
    by_cases he:x=y
    ·have hd2:(x != y)=false:=by simpa using he
     have HE2:Hid (∀ t,t<i+1->f t=g t):=fun t ht=>by
      by_cases e:t=i
      ·rw [e,<-hx,<-hy,he]
      ·exact HE.out t (by omega)
     clear he hx hy
     go_wp2
     go_quiet (fail)
     go_wp2
     go_roundg (gk - 1)
     case measure=>omega
     case rel=>exact ⟨i+1,by go_num,by omega,by omega,HE2,zac HW.out _⟩
    ·have hd2:(x != y)=true:=by simpa using he
     have HNO:Hid (¬ EqI n n f g):=fun h=>he (by rw [hx,hy]; exact h.2 i hlt)
     clear he hx hy
     go_wp2
     go_quiet (fail)
     go_wp2
     go_ret
     exact zax HNO.out (zac HW.out _)
   ·have hlt':¬ (i:Int)<(n:Int):=by omega
    have HY:Hid (EqI n n f g):=⟨rfl,fun t ht=>HE.out t (by omega)⟩
    go_wp2
    go_ret
    exact za0 HY.out HW.out
 ·have hd:((n:Int) != (m:Int))=true:=by simp; omega
  have HNO:Hid (¬ EqI n m f g):=fun h=>hnm h.1
  clear hnm
  go_enter Tryz.func189, Tryz.ntmps189
  go_wp2
  go_ret
  exact zax HNO.out (Below.refl _ _)
theorem zel (A B:Option Addr) (n m c d:Nat) (ln ln':Nat->Nat) (V W:Nat->Nat->Int) (w:World) (ha:IntRows w A n ln V) (hb:IntRows w B m ln' W) (hn:n<=1048576) (hm:m<=1048576) (hl:∀ i,i<n->ln i<=1048576) (hl2:∀ i,i<m->ln' i<=1048576) :
  Calls Tryz.prog 249 #[.slice A n c,.slice B m d,.func (.func 189) #[] #[]] w (IffPost (EqT n m ln ln' V W) w):=by
 have hcf:∀ (x y:Value) (W:World),(callFunc 189 #[x,y]).run Tryz.prog W=.ok (.enter 189 #[x,y]) W:=fun _ _ _=>by kernel_rfl
 have HA:=hid ha
 have HB:=hid hb
 have HL:=hid hl
 have HL2:=hid hl2
 clear ha hb hl hl2
 by_cases hnm:n=m
 ·subst hnm
  have hd:((n:Int) != (n:Int))=false:=by simp
  go_enter Tryz.func249, Tryz.ntmps249
  go_wp2
  go_loopg [17] n (fun gg iv wx=>∃ i:Nat,iv=.int .i64 (i:Nat)/\i<=n/\n<=i+gg/\Hid (∀ t,t<i->EqI (ln t) (ln' t) (V t) (W t))/\Hid (Below w.heap.size w wx))
  case atStart=>exact ⟨0,rfl,by omega,by omega,fun t ht=>absurd ht (by omega),Below.refl _ _⟩
  case round =>
   obtain ⟨i,rfl,hi,hig,HE,HW⟩:=hrel
   have hi0:(0:Int)<=(i:Int):=by omega
   by_cases hlt:i<n
   ·have hlt':(i:Int)<(n:Int):=by omega
    obtain ⟨b,o,RA,rc,rfl,_,x0,_,_,hrow,_⟩:=(HA.out.on HW.out) i hlt
    obtain ⟨b2,o2,RB,rc2,rfl,_,y0,_,_,hrow2,_⟩:=(HB.out.on HW.out) i hlt
    have H1:=hid hrow
    have H2:=hid hrow2
    clear hrow hrow2
    go_wp2_with fail
    refine (zb4 RA RB (ln i) (ln' i) rc rc2 (V i) (W i) wr H1.out H2.out (HL.out i hlt) (HL2.out i hlt)).mono ?_
    rintro e w2 ⟨b,rfl,hb,kb⟩
    have HB2:=hid (onS HW.out kb)
    have HBB:=hid hb
    clear kb hb x0 y0 H1 H2 HW
    cases b
    ·have HNO:Hid (¬ EqT n n ln ln' V W):=fun h=>by have:=HBB.out.2 (h.2 i hlt); cases this
     go_wp2
     go_ret
     exact zax HNO.out HB2.out
    ·have HE2:Hid (∀ t,t<i+1->EqI (ln t) (ln' t) (V t) (W t)):=fun t ht=>by
      by_cases e:t=i
      ·rw [e]; exact HBB.out.1 rfl
      ·exact HE.out t (by omega)
     go_wp2
     go_roundg (gk - 1)
     case measure=>omega
     case rel=>exact ⟨i+1,by go_num,by omega,by omega,HE2,HB2⟩
   ·have hlt':¬ (i:Int)<(n:Int):=by omega
    have HY:Hid (EqT n n ln ln' V W):=⟨rfl,fun t ht=>HE.out t (by omega)⟩
    go_wp2
    go_ret
    exact za0 HY.out HW.out
 ·have hd:((n:Int) != (m:Int))=true:=by simp; omega
  have HNO:Hid (¬ EqT n m ln ln' V W):=fun h=>hnm h.1
  clear hnm
  go_enter Tryz.func249, Tryz.ntmps249
  go_wp2
  go_ret
  exact zax HNO.out (Below.refl _ _)
def viewCell (a b c d:Value) (i:Nat):Value:=if i=0 then a else if i=1 then b else if i=2 then c else d
theorem KD.qc0 {w:World} {g:Nat} {T:TypeId} {a b c d:Value} (h:w.rowIs g T 4 (viewCell a b c d)) : w.cell? ⟨g,0,none⟩=some a:=h.cell (i:=0) (by decide)
theorem KD.qc1 {w:World} {g:Nat} {T:TypeId} {a b c d:Value} (h:w.rowIs g T 4 (viewCell a b c d)) : w.cell? ⟨g,1,none⟩=some b:=h.cell (i:=1) (by decide)
theorem KD.qc2 {w:World} {g:Nat} {T:TypeId} {a b c d:Value} (h:w.rowIs g T 4 (viewCell a b c d)) : w.cell? ⟨g,2,none⟩=some c:=h.cell (i:=2) (by decide)
theorem KD.qc3 {w:World} {g:Nat} {T:TypeId} {a b c d:Value} (h:w.rowIs g T 4 (viewCell a b c d)) : w.cell? ⟨g,3,none⟩=some d:=h.cell (i:=3) (by decide)
open KD
theorem zfO {w:World} {a b c d:Value} {T:TypeId}:(w.alloc (.cells #[a,b,c,d] T)).rowIs w.heap.size T 4 (viewCell a b c d) :=
 ⟨_,zaw rfl,rfl,fun i hi=>by
  rcases (show i=0∨i=1∨i=2∨i=3 by omega) with rfl | rfl | rfl | rfl <;> rfl⟩
theorem zcT {w w':World} {g:Nat} {T:TypeId} {f:Nat->Value} {a b c d:Value} (h:w.rowIs g T 4 f) (hw:w'=(((w.setCell ⟨g,0,none⟩ a).setCell ⟨g,1,none⟩ b).setCell ⟨g,2,none⟩ c).setCell ⟨g,3,none⟩ d):w'.rowIs g T 4 (viewCell a b c d)/\w.grownBy w' (some g):=by
 rw [hw]
 refine ⟨((((h.set 0 _).set 1 _).set 2 _).set 3 _).congr fun j hj=>?_,zan (zan (zan (zaO _ _ _ _) _ _) _ _) _ _⟩
 match j,hj with
 | 0,_=>rfl
 | 1,_=>rfl
 | 2,_=>rfl
 | 3,_=>rfl
def SOpenPost (P M : Int) (k : Nat) (f : Nat → Int) (cols : Nat) (T : Option Addr) (n d : Nat) (ln : Nat → Nat) (V : Nat → Nat → Int) (w : World) (e : Ending) (w' : World) : Prop :=
 Below w.heap.size w w'/\∃ v:Int,FirstErr (SpaceErrs P M k f cols n ln V) v /\
  ((v≠0/\e=.returned (.tuple #[.agg #[.pointer none,.int .i64 0,.slice none 0 0,.slice none 0 0],.int .i64 v])) ∨
   (v=0/\∃ (P' M' C g:Nat) (pv:Value) (p:Nat->Nat),P=P'/\M=M'/\cols=C/\e=.returned (.tuple #[.agg #[.pointer (some ⟨g,0,none⟩),.int .i64 (C:Nat),.slice T n d,pv],.int .i64 0]) /\
    GF w' w'.heap.size g P' M' (fun i=>(f i).toNat)/\Own w' w.heap.size 3 1 pv n (fun j _=>.int .i64 (p j:Nat))/\EchN (P' ^ M') n C C n p (natT V)))
theorem zfP {q n k a:Nat} {p:Nat->Nat} {V W:Nat->Nat->Nat} (hE:EchN q n k k a p W) (h:a=n/\∀ i,i<a->∀ j,j<k->W i j=V i j):EchN q n k k n p V:=by
 obtain ⟨rfl,h2⟩:=h
 exact hE.congr (Nat.le_refl _) h2
theorem zhH (P M:Int) (A:Option Addr) (k c:Nat) (f:Nat->Int) (cols:Nat) (T:Option Addr) (n d:Nat) (ln:Nat->Nat) (V:Nat->Nat->Int) (w:World) (hr:IntsR w w.heap.size A k f) (h:IntRows w T n ln V) (hc1:1<=cols) :
  Calls Tryz.prog 209 #[.agg #[.int .i64 P,.int .i64 M,.slice A k c],.agg #[.int .i64 (cols:Nat),.slice T n d]] w (SOpenPost P M k f cols T n d ln V w):=by
 have HR:=hid hr
 have HT:=hid h
 clear hr h
 have rf:=zad (w:=w) (a:=.int .i64 P) (b:=.int .i64 M) (c:=.slice A k c) (T := 24)
 have hB:Below w.heap.size w (w.alloc (.cells #[.int .i64 P,.int .i64 M,.slice A k c] 24)):=(Below.refl _ _).alloc (Nat.le_refl _) _
 have hsz:(w.alloc (.cells #[.int .i64 P,.int .i64 M,.slice A k c] 24)).heap.size=w.heap.size+1:=by simp
 obtain ⟨w0,hw0⟩:∃ W,W=w.alloc (.cells #[.int .i64 P,.int .i64 M,.slice A k c] 24):=⟨_,rfl⟩
 have rm:=zae (w:=w0) (a:=.int .i64 (cols:Nat)) (b:=.slice T n d) (T := 97)
 have kb:Below w0.heap.size w0 (w0.alloc (.cells #[.int .i64 (cols:Nat),.slice T n d] 97)):=(Below.refl _ _).alloc (Nat.le_refl _) _
 have hsz1:(w0.alloc (.cells #[.int .i64 (cols:Nat),.slice T n d] 97)).heap.size=w0.heap.size+1:=by simp
 obtain ⟨w1,hw1⟩:∃ W,W=w0.alloc (.cells #[.int .i64 (cols:Nat),.slice T n d] 97):=⟨_,rfl⟩
 have ro:=zfO (w:=w1) (a:=.pointer none) (b:=.int .i64 0) (c:=.slice none 0 0) (d:=.slice none 0 0) (T := 221)
 have kb2:Below w1.heap.size w1 (w1.alloc (.cells #[.pointer none,.int .i64 0,.slice none 0 0,.slice none 0 0] 221)):=(Below.refl _ _).alloc (Nat.le_refl _) _
 obtain ⟨w2,hw2⟩:∃ W,W=w1.alloc (.cells #[.pointer none,.int .i64 0,.slice none 0 0,.slice none 0 0] 221):=⟨_,rfl⟩
 rw [<-hw0] at hB rf hsz;rw [<-hw1] at rm kb hsz1;rw [<-hw2] at ro kb2;rw [hsz1,hsz] at ro;rw [hsz] at rm;replace rf:=zaa (zaa rf kb) kb2;replace rm:=zaa rm kb2;replace hB:=onS (onS hB kb) kb2
 go_enter Tryz.func209, Tryz.ntmps209
 go_upto_region 1 with fail
 rw [<-hw0,<-hw1,<-hw2];clear hw0 hw1 hw2 kb kb2 hsz hsz1
 obtain ⟨b0,hb0⟩:∃ b,b=w.heap.size:=⟨_,rfl⟩
 obtain ⟨b1,hb1⟩:∃ b,b=w.heap.size+1:=⟨_,rfl⟩
 obtain ⟨b2,hb2⟩:∃ b,b=w.heap.size+1+1:=⟨_,rfl⟩
 have hb2w:w.heap.size<=b2:=by omega
 rw [<-hb0] at rf;rw [<-hb1] at rm;rw [<-hb2] at ro;rw [<-hb2,<-hb1,<-hb0];clear hb0 hb1 hb2
 have q0:=qc0 rf
 have q1:=qc1 rf
 have q2:=qc2 rf
 have p0:=qc0 rm
 have p1:=qc1 rm
 go_wp2_with fail
 have hB2:=hB.size
 refine (zdK P M A k c f (cols:Int) T n d ln V w2 (HR.out.on hB) (HT.out.on hB) (by omega)).mono ?_
 rintro e w4 ⟨kb,v,hv,hcase⟩
 replace hB:=onS hB kb;replace rf:=zaa rf kb;replace rm:=zaa rm kb;replace ro:=zaa ro kb
 have HV:=hid hv
 clear kb hv q0 q1 q2 p0 p1
 rcases hcase with ⟨hv0,rfl⟩ | ⟨rfl,P,M,C,lv,pv,a,p,W,rfl,rfl,hCe,rfl,hMT,hP,hE,hRo⟩
 ·have hvn:(v != 0)=true:=by simpa using hv0
  have HV0:=hid hv0
  have HP9:=hid (FirstErr.app (r:=[(RrefN (P.toNat ^ M.toNat) n cols (natT V),5)]) (u:=v) (by simp) (show FirstErr [(GoodF P M k f,1),(ShapeM cols n ln,3),(ElemsM (P.toNat ^ M.toNat) n ln V,2)] v from HV.out) (fun _=>rfl) (fun h=>absurd h hv0))
  clear hv0 rm rf
  go_upto_region 2 with fail
  have kb1:Below w4.heap.size w4 (w4.alloc (Obj.cells #[.int .i64 0,.slice none 0 0] 97)):=(Below.refl _ _).alloc (Nat.le_refl _) _
  obtain ⟨w5,hw5⟩:∃ W,W=w4.alloc (Obj.cells #[.int .i64 0,.slice none 0 0] 97):=⟨_,rfl⟩
  rw [<-hw5] at kb1 ⊢;replace hB:=onS hB kb1;replace ro:=zaa ro kb1;clear hw5 kb1
  have r0:=ro.frozen 0
  have s0:=qc0 ro
  have r1:=ro.frozen 1
  have s1:=qc1 ro
  have r2:=ro.frozen 2
  have s2:=qc2 ro
  have r3:=ro.frozen 3
  have s3:=qc3 ro
  go_wp2
  clear r0 s0 r1 s1 r2 s2 r3 s3
  generalize hw9:World.setCell _ _ _=w6
  obtain ⟨row9,hg9⟩:=zcT ro hw9.symm
  clear hw9
  have hB9:=hB.grown hg9 hB.size (fun q e=>by injection e with e; omega)
  have e0:=qc0 row9
  have e1:=qc1 row9
  have e2:=qc2 row9
  have e3:=qc3 row9
  refine bodyPost_ret (v:=.tuple #[.agg #[.pointer none,.int .i64 0,.slice none 0 0,.slice none 0 0],.int .i64 v]) (by simp [results,Tryz.results209, go_sem,e0,e1,e2,e3]) rfl ?_
  exact ⟨hB9,v,by simpa [SpaceErrs] using HP9.out,.inl ⟨HV0.out,rfl⟩⟩
 ·obtain rfl:C=cols:=by omega
  clear hCe
  have hok:=HV.out
  rcases hok with ⟨_,h9⟩ | ⟨hgood,⟨_,h9⟩ | ⟨hs,⟨_,h9⟩ | ⟨he,_⟩⟩⟩
  ·cases h9
  ·cases h9
  ·cases h9
  rw [Int.toNat_natCast,Int.toNat_natCast] at he
  have HMV:=hid (zch (HT.out.on hB) hs he).1
  have HLT:=hid (zch (HT.out.on hB) hs he).2
  have hC2:C<=256:=by have:=hs.2.1; omega
  have hn2:n<=256:=by have:=hs.2.2.1; omega
  have han:=hE.le
  have HGO:=hid hgood
  have HCA:=hid (zd9 (fieldLaws hgood.field.1) HLT.out hE hRo)
  have HPP:=hid (fun h=>zfP (V:=natT V) hE h)
  have HLNS:Hid (∀ i,i<n->ln i=C):=fun i hi=>by have:=hs.2.2.2 i hi; omega
  have HMW0:=hMT.shape
  obtain ⟨LA,lc,hlv⟩:=HMW0
  subst hlv
  obtain ⟨PA,pc,hpv⟩:=hP.shape
  subst hpv
  have hq256:=hgood.field.1.1.2.2.2
  have HMW:=hid (hMT.rd (q:=P ^ M) hq256 fun i hi=>hE.lt i (by omega))
  have HPO:=hid hP
  clear hMT hP hE hRo hs he hgood
  go_upto_region 2 with fail
  have kb1:Below w4.heap.size w4 (w4.alloc (Obj.cells #[.int .i64 (C:Nat),.slice LA a lc] 97)):=(Below.refl _ _).alloc (Nat.le_refl _) _
  have rl:=zae (w:=w4) (a:=.int .i64 (C:Nat)) (b:=.slice LA a lc) (T := 97)
  obtain ⟨w5,hw5⟩:∃ W,W=w4.alloc (Obj.cells #[.int .i64 (C:Nat),.slice LA a lc] 97):=⟨_,rfl⟩
  obtain ⟨b6,hb6⟩:∃ b,b=w4.heap.size:=⟨_,rfl⟩
  rw [<-hw5] at kb1 rl ⊢;rw [<-hb6] at rl ⊢
  have HMW5:=hid (HMW.out.on kb1)
  have HMV5:=hid (HMV.out.on kb1)
  have HPO5:=hid (HPO.out.on kb1)
  replace hB:=onS hB kb1;replace ro:=zaa ro kb1;replace rf:=zaa rf kb1;replace rm:=zaa rm kb1;clear hw5 hb6 kb1 HMW HMV HPO
  have p1:=qc1 rm
  have l1:=qc1 rl
  go_wp2_with fail
  refine (zel LA T a n lc d (fun _=>C) (fun _=>C) (fun i j=>((W i j:Nat):Int)) (fun i j=>((natT V i j:Nat):Int)) w5 HMW5.out HMV5.out (by omega) (by omega) (fun _ _=>by omega) (fun _ _=>by omega)).mono ?_
  rintro e w6 ⟨b,rfl,hb,kb⟩
  replace hB:=onS hB kb;replace ro:=zaa ro kb;replace rf:=zaa rf kb;replace rm:=zaa rm kb
  have HPO6:=hid (HPO5.out.on kb)
  have HEQ:Hid (EqT a n (fun _=>C) (fun _=>C) (fun i j=>((W i j:Nat):Int)) (fun i j=>((natT V i j:Nat):Int))↔a=n/\∀ i,i<a->∀ j,j<C->W i j=natT V i j):=by
   constructor
   ·intro h
    refine ⟨h.1,fun i hi j hj=>?_⟩
    have:=(h.2 i hi).2 j hj
    simp only at this
    omega
   ·intro h
    refine ⟨h.1,fun i hi=>⟨rfl,fun j hj=>?_⟩⟩
    show ((W i j:Nat):Int)=((natT V i j:Nat):Int)
    rw [h.2 i hi j hj]
  have HBB:=hid (hb.trans HEQ.out)
  have HP9:Hid (∀ u:Int,FirstErr [(RrefN (P ^ M) n C (natT V),5)] u->FirstErr (SpaceErrs (P:Int) (M:Int) k f C n ln V) u):=fun u hu=>by
   refine FirstErr.app (l:=[(GoodF (P:Int) (M:Int) k f,1),(ShapeM (C:Int) n ln,3),(ElemsM ((P:Int).toNat ^ (M:Int).toNat) n ln V,2)]) (by simp) (v:=0) (by simpa [MatErrs] using HV.out) (fun h=>absurd rfl h) fun _=>?_
   rw [Int.toNat_natCast,Int.toNat_natCast]
   exact hu
  clear kb hb p1 l1 rl HMW5 HMV5 HPO5 HEQ
  cases b
  ·have HNO:Hid (¬ RrefN (P ^ M) n C (natT V)):=fun h=>by have:=HBB.out.2 (HCA.out.1 h); cases this
   have r0:=ro.frozen 0
   have s0:=qc0 ro
   have r1:=ro.frozen 1
   have s1:=qc1 ro
   have r2:=ro.frozen 2
   have s2:=qc2 ro
   have r3:=ro.frozen 3
   have s3:=qc3 ro
   go_wp2
   clear r0 s0 r1 s1 r2 s2 r3 s3
   generalize hw9:World.setCell _ _ _=w7
   obtain ⟨row9,hg9⟩:=zcT ro hw9.symm
   clear hw9
   have hB9:=hB.grown hg9 hB.size (fun q e=>by injection e with e; omega)
   have e0:=qc0 row9
   have e1:=qc1 row9
   have e2:=qc2 row9
   have e3:=qc3 row9
   refine bodyPost_ret (v:=.tuple #[.agg #[.pointer none,.int .i64 0,.slice none 0 0,.slice none 0 0],.int .i64 5]) (by simp [results,Tryz.results209, go_sem,e0,e1,e2,e3]) rfl ?_
   exact ⟨hB9,5,HP9.out 5 (.inl ⟨HNO.out,rfl⟩),.inl ⟨by omega,rfl⟩⟩
  ·have HYES:=hid (HBB.out.1 rfl)
   have q0:=qc0 rf
   have q1:=qc1 rf
   have q2:=qc2 rf
   have hb26:b2<w6.heap.size:=ro.lt
   go_wp2_with fail
   refine (zdJ (P:Int) (M:Int) A k c f w6 (HR.out.on hB)).mono ?_
   rintro e w7 ⟨kb,hN⟩
   replace hB:=onS hB kb;replace ro:=zaa ro kb;replace rm:=zaa rm kb
   have HPO7:=hid (HPO6.out.on kb)
   clear kb q0 q1 q2 rf HPO6
   rcases hN with ⟨hno,_⟩ | ⟨_,g,P',M',hPe,hMe,rfl,hgw,hG⟩
   ·exact absurd HGO.out hno
   obtain rfl:P=P':=by omega
   obtain rfl:M=M':=by omega
   have HG:=hid hG
   have hgl:=hG
   clear hG hPe hMe hgw
   have p0:=qc0 rm
   have p1:=qc1 rm
   have r0:=ro.frozen 0
   have s0:=qc0 ro
   have r1:=ro.frozen 1
   have s1:=qc1 ro
   have r2:=ro.frozen 2
   have s2:=qc2 ro
   have r3:=ro.frozen 3
   have s3:=qc3 ro
   clear hgl
   go_wp2
   clear r0 s0 r1 s1 r2 s2 r3 s3 p0 p1
   generalize hw9:World.setCell _ _ _=w8
   obtain ⟨row9,hg9⟩:=zcT ro hw9.symm
   clear hw9
   have hB9:=hB.grown hg9 hB.size (fun q e=>by injection e with e; omega)
   have hP9:=HPO7.out.kept hg9 (zar ro HPO7.out (by decide))
   have hG9:=(HG.out.grown hg9 hb26).gf
   have e0:=qc0 row9
   have e1:=qc1 row9
   have e2:=qc2 row9
   have e3:=qc3 row9
   have han2:a=n:=HYES.out.1
   have hpiv:=HPP.out HYES.out
   subst han2
   refine bodyPost_ret (v:=.tuple #[.agg #[.pointer (some ⟨g,0,none⟩),.int .i64 (C:Nat),.slice T a d,.slice PA a pc],.int .i64 0]) (by simp [results,Tryz.results209, go_sem,e0,e1,e2,e3]) rfl ?_
   exact ⟨hB9,0,HP9.out 0 (.inr ⟨⟨p,hpiv⟩,rfl⟩),.inr ⟨rfl,P,M,C,g,_,p,rfl,rfl,rfl,rfl,hG9,hP9.mono hB2,hpiv⟩⟩
end Go.Proofs.YtioagplajkoohaaGreat