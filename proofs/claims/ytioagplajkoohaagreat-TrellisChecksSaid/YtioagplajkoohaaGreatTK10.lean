/- Merged texts of a claim: Shape, Less, Proper, TrelProper. -/
import Derived.Test.YtioagplajkoohaaGreatTK1
import Derived.Test.YtioagplajkoohaaGreatTK9
namespace Go.Proofs.YtioagplajkoohaaGreat
set_option maxRecDepth 100000
set_option maxHeartbeats 32000000
open KA KB KC KD KE KF
open Go.RowKit
theorem tbox {w wr:World} {cs:Array Value} {X:TypeId} (h:Below (w.heap.size+1) (w.alloc (.cells cs X)) wr) {i:Nat} {v:Value} (hi:cs[i]?=some v):wr.cell? ⟨w.heap.size,i,none⟩=some v:=by
 rw [h.cell (by simp),World.cell?_alloc_at _ _ _ _ rfl]
 exact hi
theorem zaB {w wr:World} {o:Obj} (h:Below (w.heap.size+1) (w.alloc o) wr):Below w.heap.size w wr:=((Below.refl _ _).alloc (Nat.le_refl _) _).trans (h.mono (by omega))
theorem zaQ {w wr:World} {o:Obj} (h:Below (w.heap.size+1) (w.alloc o) wr):w.heap.size<wr.heap.size:=by have:=h.size; simp at this; omega
theorem zaN {w wr w':World} {o:Obj} (h:Below (w.heap.size+1) (w.alloc o) wr) (hb:Below wr.heap.size wr w'):Below (w.heap.size+1) (w.alloc o) w':=h.trans (hb.mono (zaQ h))
section
variable (T:Trel)
theorem Trel.shapeE_w (hs:¬ (64<T.n∨T.nw≠T.n+1)) {k:Nat} (hk:k<T.nw) (h:T.W k<1):T.shapeE=6:=by
 unfold Trel.shapeE
 rw [if_neg hs,if_pos fun h1=>by have:=h1 k hk; omega]
variable (hs:¬ (64<T.n∨T.nw≠T.n+1)) (h1:∀ i,i<T.nw->1<=T.W i)
include hs h1
theorem Trel.shapeE_big {k:Nat} (hk:k<=T.nw) (h:65536<T.sumW k):T.shapeE=8:=by
 have h2:=Trel.sumW_mono h1 k (T.nw - k) (by omega)
 rw [show k+(T.nw - k)=T.nw by omega] at h2
 unfold Trel.shapeE
 rw [if_neg hs,if_neg (by simpa using h1),if_pos (by omega)]
variable (h2:T.sumW T.nw<=65536)
include h2
theorem Trel.shapeE_bigE {k:Nat} (hk:k<=T.n) (h:262144<T.sumE k):T.shapeE=8:=by
 have h3:=Trel.sumE_mono (T:=T) k (T.n - k)
 rw [show k+(T.n - k)=T.n by omega] at h3
 unfold Trel.shapeE
 rw [if_neg hs,if_neg (by simpa using h1),if_neg (by omega),if_pos (by omega)]
variable (h3:T.sumE T.n<=262144)
include h3
theorem Trel.shapeE_in {i j:Nat} (hi:i<T.n) (hj:j<T.el i) (h:¬ T.inside i j):T.shapeE=6:=by
 unfold Trel.shapeE
 rw [if_neg hs,if_neg (by simpa using h1),if_neg (by omega),if_neg (by omega),if_pos fun h4=>h (h4 i hi j hj)]
theorem Trel.shapeE_ok (h:∀ i,i<T.n->∀ j,j<T.el i->T.inside i j):T.shapeE=0:=by
 unfold Trel.shapeE
 rw [if_neg hs,if_neg (by simpa using h1),if_neg (by omega),if_neg (by omega),if_neg fun h4=>h4 h]
end
theorem zei (T:Trel) (A B:Option Addr) (c d:Nat) (w:World) (h:T.Reads w A B) :
  Calls Tryz.prog 193 #[.agg #[.slice A T.nw c,.slice B T.n d]] w fun e w'=>e=.returned (.int .i64 T.shapeE)/\Below w.heap.size w w':=by
 obtain ⟨RB,hRB⟩:∃ o,o=(Obj.cells #[.slice A T.nw c,.slice B T.n d] 74):=⟨_,rfl⟩
 have hB0:Below (w.heap.size+1) (w.alloc RB) (w.alloc RB):=Below.refl _ _
 have HS:Hid (∀ w',Below (w.heap.size+1) (w.alloc RB) w'->(w'.cell? ⟨w.heap.size,0,none⟩=some (.slice A T.nw c)/\w'.cell? ⟨w.heap.size,1,none⟩=some (.slice B T.n d))/\Below w.heap.size w w'):=fun w' hB=>by
  have hB':=zaB hB
  subst hRB
  exact ⟨⟨tbox hB rfl,tbox hB rfl⟩,hB'⟩
 obtain ⟨⟨p0,p1⟩,hW⟩:=HS.out _ hB0
 have hnm:=h.2.2.2
 by_cases hs:64<T.n∨T.nw≠T.n+1
 ·have hE:Hid (T.shapeE=3):=by show _=_; unfold Trel.shapeE; rw [if_pos hs]
  go_enter Tryz.func193, Tryz.ntmps193
  by_cases h64:64<T.n
  ·have h64':(T.n:Int) > 64:=by omega
   clear hs
   go_wp2_with fail
   rw [<-hRB]
   go_wp2
   go_ret
   exact ⟨zaf hE.out.symm,hW⟩
  ·have h64':¬ (T.n:Int) > 64:=by omega
   have hne:((T.nw:Int) != (T.n:Int)+1)=true:=by simp; omega
   clear hs
   go_wp2_with fail
   rw [<-hRB]
   go_wp2
   go_ret
   exact ⟨zaf hE.out.symm,hW⟩
 ·have h64:T.n<=64:=by omega
  have hnw:T.nw=T.n+1:=by omega
  have HS3:=hid hs
  have HNW:=hid hnw
  have h64':¬ (T.n:Int) > 64:=by omega
  have hne:((T.nw:Int) != (T.n:Int)+1)=false:=by simp; omega
  have hne2:((T.nw:Int) == (T.n:Int)+1)=true:=by simp; omega
  clear hs hnw
  go_enter Tryz.func193, Tryz.ntmps193
  go_wp2_with fail
  rw [<-hRB]
  have HR:=hid h
  clear h hRB
  go_wp2
  go_loopg [4] T.nw (fun gg iv wx=>∃ k:Nat,iv=.int .i64 (k:Nat)/\k<=T.nw/\T.nw<=k+gg/\(∀ i,i<k->1<=T.W i)/\Below (w.heap.size+1) (w.alloc RB) wx)
  case atStart=>exact ⟨0,rfl,by omega,by omega,fun i hi=>absurd hi (by omega),hB0⟩
  case round =>
   obtain ⟨k,rfl,hk,hkg,hall,hB⟩:=hrel
   have hk0:(0:Int)<=(k:Int):=by omega
   have HB:=hid hB
   have hwz:=zaQ hB
   clear hW p0 p1 hB
   obtain ⟨⟨p0,p1⟩,hW⟩:=HS.out _ HB.out
   have HALL:=hid hall
   clear hall
   by_cases hlt:k<T.nw
   ·have hlt':(k:Int)<(T.nw:Int):=by omega
    obtain ⟨b,o,rfl,hb,x0,hx1,hx2⟩:=(HR.out.on hW).width hlt
    by_cases h1:T.W k<1
    ·have hE:=hid (T.shapeE_w HS3.out hlt h1)
     go_wp2
     go_ret
     exact ⟨zaf hE.out.symm,hW⟩
    ·have HA:Hid (∀ i,i<k+1->1<=T.W i):=fun i hi=>by
      by_cases e:i=k
      ·subst e; omega
      ·exact HALL.out i (by omega)
     go_wp2
     go_roundg (gk - 1)
     case measure=>omega
     case rel=>exact ⟨k+1,by go_num,by omega,by omega,HA.out,HB.out⟩
   ·have hlt':¬ (k:Int)<(T.nw:Int):=by omega
    have HA:Hid (∀ i,i<T.nw->1<=T.W i):=fun i hi=>HALL.out i (by omega)
    have hken:(k:Int)=(T.nw:Int):=by omega
    go_wp2
    go_loopg [3,5] T.nw (fun gg sv iv wx=>∃ k:Nat,iv=.int .i64 (k:Nat)/\k<=T.nw/\T.nw<=k+gg/\sv=.int .i64 (T.sumW k)/\T.sumW k<=65536/\Below (w.heap.size+1) (w.alloc RB) wx)
    case atStart=>exact ⟨0,rfl,by omega,by omega,rfl,by simp [Trel.sumW],HB.out⟩
    case round =>
     clear hW p0 p1 hlt hlt' hken hwz HB HALL hk hk0 hkg
     obtain ⟨k2,rfl,hk,hkg,rfl,hs1,hB⟩:=hrel
     have hk0:(0:Int)<=(k2:Int):=by omega
     have HB:=hid hB
     have hwz:=zaQ hB
     clear hB
     obtain ⟨⟨p0,p1⟩,hW⟩:=HS.out _ HB.out
     have hs0:=Trel.sumW_mono (m:=T.nw) HA.out 0 k2 (by omega)
     simp only [Trel.sumW,Nat.zero_add] at hs0
     have hnx:Hid (T.sumW (k2+1)=T.sumW k2+T.W k2):=rfl
     obtain ⟨sm,hsm⟩:∃ s,s=T.sumW k2:=⟨_,rfl⟩
     rw [<-hsm] at hs0 hs1 hnx;rw [<-hsm];clear hsm
     by_cases hlt:k2<T.nw
     ·have hlt':(k2:Int)<(T.nw:Int):=by omega
      obtain ⟨b,o,rfl,hb,x0,hx1,hx2⟩:=(HR.out.on hW).width hlt
      by_cases h1:T.W k2 > 65536 - sm
      ·have hE:=hid (T.shapeE_big HS3.out HA.out (k:=k2+1) (by omega) (by rw [hnx.out]; omega))
       go_wp2
       go_ret
       exact ⟨zaf hE.out.symm,hW⟩
      ·go_wp2
       go_roundg (gk - 1)
       case measure=>omega
       case rel=>exact ⟨k2+1,by go_num,by omega,by omega,by rw [hnx.out],by rw [hnx.out]; omega,HB.out⟩
     ·have hlt':¬ (k2:Int)<(T.nw:Int):=by omega
      have hken:k2=T.nw:=by omega
      have HSW:Hid (T.sumW T.nw<=65536):=by
       show _<=_
       rw [<-hken]
       have:=hnx.out
       have e:T.sumW (k2+1)=T.sumW k2+T.W k2:=rfl
       omega
      clear hken
      go_wp2
      go_loopg [6,7] T.n (fun gg sv iv wx=>∃ k:Nat,iv=.int .i64 (k:Nat)/\k<=T.n/\T.n<=k+gg/\sv=.int .i64 (T.sumE k:Nat)/\T.sumE k<=262144/\Below (w.heap.size+1) (w.alloc RB) wx)
      case atStart=>exact ⟨0,rfl,by omega,by omega,rfl,by simp [Trel.sumE],HB.out⟩
      case round =>
       clear hW p0 p1 hlt hlt' hwz HB hk hk0 hkg hs0 hs1 hnx
       obtain ⟨k3,rfl,hk,hkg,rfl,hs1,hB⟩:=hrel
       have hk0:(0:Int)<=(k3:Int):=by omega
       have HB:=hid hB
       have hwz:=zaQ hB
       clear hB
       obtain ⟨⟨p0,p1⟩,hW⟩:=HS.out _ HB.out
       have hnx:Hid (T.sumE (k3+1)=T.sumE k3+T.el k3):=rfl
       obtain ⟨sm,hsm⟩:∃ s,s=T.sumE k3:=⟨_,rfl⟩
       have HSM:=hid hsm
       rw [<-hsm] at hs1 hnx;rw [<-hsm];clear hsm
       by_cases hlt:k3<T.n
       ·have hlt':(k3:Int)<(T.n:Int):=by omega
        obtain ⟨b,o,E,ec,rfl,hb,x0,he1,he2,he3,he4⟩:=(HR.out.on hW).sec hlt
        unfold maxLen at he2
        have hel47:=HR.out.2.2.2.2.2 k3 hlt
        obtain ⟨el,hel⟩:∃ l,l=T.el k3:=⟨_,rfl⟩
        rw [<-hel] at x0 he1 hnx hel47;clear he3 he4 hel
        by_cases h1:sm+el > 262144
        ·have hE:=hid (T.shapeE_bigE HS3.out HA.out HSW.out (k:=k3+1) (by omega) (by rw [hnx.out]; omega))
         have h1':(el:Int) > 262144 - (sm:Int):=by omega
         go_wp2
         go_ret
         exact ⟨zaf hE.out.symm,hW⟩
        ·have h1':¬ (el:Int) > 262144 - (sm:Int):=by omega
         go_wp2
         go_roundg (gk - 1)
         case measure=>omega
         case rel=>exact ⟨k3+1,by go_num,by omega,by omega,by rw [hnx.out]; go_num,by rw [hnx.out]; omega,HB.out⟩
       ·have hlt':¬ (k3:Int)<(T.n:Int):=by omega
        have hken:k3=T.n:=by omega
        have HSE:Hid (T.sumE T.n<=262144):=by
         show _<=_
         rw [<-hken,<-HSM.out]
         exact hs1
        clear hken
        go_wp2
        go_loopg [8] T.n (fun gg iv wx=>∃ k:Nat,iv=.int .i64 (k:Nat)/\k<=T.n/\T.n<=k+gg/\(∀ i,i<k->∀ j,j<T.el i->T.inside i j)/\Below (w.heap.size+1) (w.alloc RB) wx)
        case atStart=>exact ⟨0,rfl,by omega,by omega,fun i hi=>absurd hi (by omega),HB.out⟩
        case round =>
         clear hW p0 p1 hlt hlt' hwz HB hk hk0 hkg hs1 hnx HSM
         obtain ⟨gK,hgK⟩:∃ g,g=gk:=⟨_,rfl⟩
         subst hgK
         obtain ⟨k4,rfl,hk,hkg,hall,hB⟩:=hrel
         have hk0:(0:Int)<=(k4:Int):=by omega
         have HB:=hid hB
         have hwz:=zaQ hB
         clear hB
         obtain ⟨⟨p0,p1⟩,hW⟩:=HS.out _ HB.out
         have HALL:=hid hall
         clear hall
         by_cases hlt:k4<T.n
         ·have hlt':(k4:Int)<(T.n:Int):=by omega
          obtain ⟨b,o,E,ec,rfl,hb,x0,he1,he2,he3,he4⟩:=(HR.out.on hW).sec hlt
          unfold maxLen at he2
          have HX0:=hid x0
          go_wp2
          go_loopg [9] (T.el k4) (fun gg jv wx=>∃ j:Nat,jv=.int .i64 (j:Nat)/\j<=T.el k4/\T.el k4<=j+gg/\(∀ i,i<j->T.inside k4 i)/\Below (w.heap.size+1) (w.alloc RB) wx/\Below wr.heap.size wr wx)
          case atStart=>exact ⟨0,rfl,by omega,by omega,fun i hi=>absurd hi (by omega),HB.out,Below.refl _ _⟩
          case round =>
           clear hW p0 p1 hwz x0
           obtain ⟨j,rfl,hj,hjg,hall,hB,hBr⟩:=hrel
           have hj0:(0:Int)<=(j:Int):=by omega
           have x0:=cellS hBr HX0.out
           have HBr:=hid hBr
           have HB2:=hid hB
           have hwz:=zaQ hB
           clear hB hBr
           obtain ⟨⟨p0,p1⟩,hW⟩:=HS.out _ HB2.out
           have HALL2:=hid hall
           clear hall
           by_cases hltj:j<T.el k4
           ·have hltj':(j:Int)<(T.el k4:Int):=by omega
            obtain ⟨eb,eo,rfl,heb,e0,e1,e2⟩:=zby ((Rd.below he3 HBr.out (Nat.le_refl _)).mono HBr.out.size) hltj
            obtain ⟨wb,wo,hA,hwb,y0,hy1,hy2⟩:=(HR.out.on hW).width (i:=k4) (by have:=HNW.out; omega)
            obtain ⟨_,_,hA2,_,y1,hy3,hy4⟩:=(HR.out.on hW).width (i:=k4+1) (by have:=HNW.out; omega)
            rw [hA] at hA2
            injection hA2 with hA2; injection hA2 with hA2 hA3; subst hA2 hA3
            subst hA
            have hk1:k4+1<T.nw:=by have:=HNW.out; omega
            have hk1':(k4:Int)+1<(T.nw:Int):=by omega
            have hk2':(k4:Int)<(T.nw:Int):=by omega
            obtain ⟨⟨i1,i2⟩,_,⟨i3,i4⟩⟩:=he4 j hltj
            have HIN:Hid (T.inside k4 j↔0<=T.fr k4 j/\T.fr k4 j<T.W k4/\0<=T.to k4 j/\T.to k4 j<T.W (k4+1)):=Iff.rfl
            have HBAD:Hid (¬ T.inside k4 j->T.shapeE=6):=fun hb=>T.shapeE_in HS3.out HA.out HSW.out HSE.out hlt hltj hb
            obtain ⟨fr,hfr⟩:∃ x,x=T.fr k4 j:=⟨_,rfl⟩
            obtain ⟨tq,hto⟩:∃ x,x=T.to k4 j:=⟨_,rfl⟩
            obtain ⟨lb,hlb⟩:∃ x,x=T.lb k4 j:=⟨_,rfl⟩
            obtain ⟨u,hu⟩:∃ x,x=T.W k4:=⟨_,rfl⟩
            obtain ⟨v,hv⟩:∃ x,x=T.W (k4+1):=⟨_,rfl⟩
            rw [<-hfr] at e0 HIN i1 i2;rw [<-hlb] at e1;rw [<-hto] at e2 HIN i3 i4;rw [<-hu] at y0 HIN hy1 hy2;rw [<-hv] at y1 HIN hy3 hy4;clear hfr hto hlb hu hv he3 he4
            by_cases h1:fr<0
            ·clear HALL2
             have b1:decide (fr<0)=true:=by simp; omega
             go_wp2
             go_quiet (fail)
             go_wp2
             go_ret
             exact ⟨zaf (HBAD.out fun hi=>by have:=HIN.out.1 hi; omega).symm,zac (hW.alloc (by omega) _) _⟩
            have b1:decide (fr<0)=false:=by simp; omega
            by_cases h2:fr ≥ u
            ·clear HALL2
             have b2:decide (fr ≥ u)=true:=by simp; omega
             have b3:decide (u<=fr)=true:=by simp; omega
             go_wp2
             go_quiet (fail)
             go_wp2
             go_ret
             exact ⟨zaf (HBAD.out fun hi=>by have:=HIN.out.1 hi; omega).symm,zac (hW.alloc (by omega) _) _⟩
            have b2:decide (fr ≥ u)=false:=by simp; omega
            have b3:decide (u<=fr)=false:=by simp; omega
            by_cases h3:tq<0
            ·clear HALL2
             have b4:decide (tq<0)=true:=by simp; omega
             go_wp2
             go_quiet (fail)
             go_wp2
             go_ret
             exact ⟨zaf (HBAD.out fun hi=>by have:=HIN.out.1 hi; omega).symm,zac (hW.alloc (by omega) _) _⟩
            have b4:decide (tq<0)=false:=by simp; omega
            by_cases h4:tq ≥ v
            ·clear HALL2
             have b5:decide (tq ≥ v)=true:=by simp; omega
             have b6:decide (v<=tq)=true:=by simp; omega
             go_wp2
             go_quiet (fail)
             go_wp2
             go_ret
             exact ⟨zaf (HBAD.out fun hi=>by have:=HIN.out.1 hi; omega).symm,zac (hW.alloc (by omega) _) _⟩
            have b5:decide (tq ≥ v)=false:=by simp; omega
            have b6:decide (v<=tq)=false:=by simp; omega
            have HN:Hid (∀ i,i<j+1->T.inside k4 i):=fun i hi=>by
             by_cases e:i=j
             ·subst e; exact HIN.out.2 (by omega)
             ·exact HALL2.out i (by omega)
            go_wp2
            go_quiet (fail)
            go_wp2
            go_roundg (gk - 1)
            case measure=>omega
            case rel=>exact ⟨j+1,by go_num,by omega,by omega,HN.out,zac (HB2.out.alloc (by omega) _) _,zac (HBr.out.alloc HBr.out.size _) _⟩
           ·have hltj':¬ (j:Int)<(T.el k4:Int):=by omega
            have HN:Hid (∀ i,i<k4+1->∀ j,j<T.el i->T.inside i j):=fun i hi=>by
             by_cases e:i=k4
             ·subst e; exact fun q hq=>HALL2.out q (by omega)
             ·exact HALL.out i (by omega)
            clear he3 he4
            go_wp2
            go_roundg (gK - 1)
            case measure=>omega
            case rel=>exact ⟨k4+1,by go_num,by omega,by omega,HN.out,HB2.out⟩
         ·have hlt':¬ (k4:Int)<(T.n:Int):=by omega
          have hE:=hid (T.shapeE_ok HS3.out HA.out HSW.out HSE.out fun i hi=>HALL.out i (by omega))
          go_wp2
          go_ret
          exact ⟨zaf hE.out.symm,hW⟩
theorem zdM (T:Trel) (A B:Option Addr) (c d:Nat) (w:World) (h:T.Reads w A B) :
  Calls Tryz.prog 186 #[.agg #[.slice A T.nw c,.slice B T.n d]] w fun e w'=>e=.returned (.int .i64 T.shapeE)/\Below w.heap.size w w':=by
 obtain ⟨RB,hRB⟩:∃ o,o=(Obj.cells #[.slice A T.nw c,.slice B T.n d] 74):=⟨_,rfl⟩
 have hB0:Below (w.heap.size+1) (w.alloc RB) (w.alloc RB):=Below.refl _ _
 have HS:Hid (∀ w',Below (w.heap.size+1) (w.alloc RB) w'->(w'.cell? ⟨w.heap.size,0,none⟩=some (.slice A T.nw c)/\w'.cell? ⟨w.heap.size,1,none⟩=some (.slice B T.n d))/\Below w.heap.size w w'):=fun w' hB=>by
  have hB':=zaB hB
  subst hRB
  exact ⟨⟨tbox hB rfl,tbox hB rfl⟩,hB'⟩
 obtain ⟨⟨p0,p1⟩,hW⟩:=HS.out _ hB0
 have hnm:=h.2.2.2
 by_cases hs:64<T.n∨T.nw≠T.n+1
 ·have hE:Hid (T.shapeE=3):=by show _=_; unfold Trel.shapeE; rw [if_pos hs]
  go_enter Tryz.func186, Tryz.ntmps186
  by_cases h64:64<T.n
  ·have h64':(T.n:Int) > 64:=by omega
   clear hs
   go_wp2_with fail
   rw [<-hRB]
   go_wp2
   go_ret
   exact ⟨zaf hE.out.symm,hW⟩
  ·have h64':¬ (T.n:Int) > 64:=by omega
   have hne:((T.nw:Int) != (T.n:Int)+1)=true:=by simp; omega
   clear hs
   go_wp2_with fail
   rw [<-hRB]
   go_wp2
   go_ret
   exact ⟨zaf hE.out.symm,hW⟩
 ·have h64:T.n<=64:=by omega
  have hnw:T.nw=T.n+1:=by omega
  have HS3:=hid hs
  have HNW:=hid hnw
  have h64':¬ (T.n:Int) > 64:=by omega
  have hne:((T.nw:Int) != (T.n:Int)+1)=false:=by simp; omega
  have hne2:((T.nw:Int) == (T.n:Int)+1)=true:=by simp; omega
  clear hs hnw
  go_enter Tryz.func186, Tryz.ntmps186
  go_wp2_with fail
  rw [<-hRB]
  have HR:=hid h
  clear h hRB
  go_wp2
  go_loopg [4,32] T.nw (fun gg xv iv wx=>∃ k:Nat,iv=.int .i64 (k:Nat)/\k<=T.nw/\T.nw<=k+gg/\(∀ i,i<k->1<=T.W i)/\Below (w.heap.size+1) (w.alloc RB) wx)
  case atStart=>exact ⟨0,rfl,by omega,by omega,fun i hi=>absurd hi (by omega),hB0⟩
  case round =>
   obtain ⟨k,rfl,hk,hkg,hall,hB⟩:=hrel
   have hk0:(0:Int)<=(k:Int):=by omega
   have HB:=hid hB
   have hwz:=zaQ hB
   clear hW p0 p1 hB
   obtain ⟨⟨p0,p1⟩,hW⟩:=HS.out _ HB.out
   have HALL:=hid hall
   clear hall
   by_cases hlt:k<T.nw
   ·have hlt':(k:Int)<(T.nw:Int):=by omega
    obtain ⟨b,o,rfl,hb,x0,hx1,hx2⟩:=(HR.out.on hW).width hlt
    by_cases h1:T.W k<1
    ·have hE:=hid (T.shapeE_w HS3.out hlt h1)
     go_wp2
     go_ret
     exact ⟨zaf hE.out.symm,hW⟩
    ·have HA:Hid (∀ i,i<k+1->1<=T.W i):=fun i hi=>by
      by_cases e:i=k
      ·subst e; omega
      ·exact HALL.out i (by omega)
     go_wp2
     go_roundg (gk - 1)
     case measure=>omega
     case rel=>exact ⟨k+1,by go_num,by omega,by omega,HA.out,HB.out⟩
   ·have hlt':¬ (k:Int)<(T.nw:Int):=by omega
    have HA:Hid (∀ i,i<T.nw->1<=T.W i):=fun i hi=>HALL.out i (by omega)
    have hken:(k:Int)=(T.nw:Int):=by omega
    go_wp2
    go_loopg [5,8,42] T.nw (fun gg sv xv iv wx=>∃ k:Nat,iv=.int .i64 (k:Nat)/\k<=T.nw/\T.nw<=k+gg/\sv=.int .i64 (T.sumW k)/\T.sumW k<=65536/\Below (w.heap.size+1) (w.alloc RB) wx)
    case atStart=>exact ⟨0,rfl,by omega,by omega,rfl,by simp [Trel.sumW],HB.out⟩
    case round =>
     clear hW p0 p1 hlt hlt' hken hwz HB HALL hk hk0 hkg
     obtain ⟨k2,rfl,hk,hkg,rfl,hs1,hB⟩:=hrel
     have hk0:(0:Int)<=(k2:Int):=by omega
     have HB:=hid hB
     have hwz:=zaQ hB
     clear hB
     obtain ⟨⟨p0,p1⟩,hW⟩:=HS.out _ HB.out
     have hs0:=Trel.sumW_mono (m:=T.nw) HA.out 0 k2 (by omega)
     simp only [Trel.sumW,Nat.zero_add] at hs0
     have hnx:Hid (T.sumW (k2+1)=T.sumW k2+T.W k2):=rfl
     obtain ⟨sm,hsm⟩:∃ s,s=T.sumW k2:=⟨_,rfl⟩
     rw [<-hsm] at hs0 hs1 hnx;rw [<-hsm];clear hsm
     by_cases hlt:k2<T.nw
     ·have hlt':(k2:Int)<(T.nw:Int):=by omega
      obtain ⟨b,o,rfl,hb,x0,hx1,hx2⟩:=(HR.out.on hW).width hlt
      by_cases h1:T.W k2 > 65536 - sm
      ·have hE:=hid (T.shapeE_big HS3.out HA.out (k:=k2+1) (by omega) (by rw [hnx.out]; omega))
       go_wp2
       go_ret
       exact ⟨zaf hE.out.symm,hW⟩
      ·go_wp2
       go_roundg (gk - 1)
       case measure=>omega
       case rel=>exact ⟨k2+1,by go_num,by omega,by omega,by rw [hnx.out],by rw [hnx.out]; omega,HB.out⟩
     ·have hlt':¬ (k2:Int)<(T.nw:Int):=by omega
      have hken:k2=T.nw:=by omega
      have HSW:Hid (T.sumW T.nw<=65536):=by
       show _<=_
       rw [<-hken]
       have:=hnx.out
       have e:T.sumW (k2+1)=T.sumW k2+T.W k2:=rfl
       omega
      clear hken
      go_wp2
      go_loopg [6,10,57] T.n (fun gg sv xv iv wx=>∃ k:Nat,iv=.int .i64 (k:Nat)/\k<=T.n/\T.n<=k+gg/\sv=.int .i64 (T.sumE k:Nat)/\T.sumE k<=262144/\Below (w.heap.size+1) (w.alloc RB) wx)
      case atStart=>exact ⟨0,rfl,by omega,by omega,rfl,by simp [Trel.sumE],HB.out⟩
      case round =>
       clear hW p0 p1 hlt hlt' hwz HB hk hk0 hkg hs0 hs1 hnx
       obtain ⟨k3,rfl,hk,hkg,rfl,hs1,hB⟩:=hrel
       have hk0:(0:Int)<=(k3:Int):=by omega
       have HB:=hid hB
       have hwz:=zaQ hB
       clear hB
       obtain ⟨⟨p0,p1⟩,hW⟩:=HS.out _ HB.out
       have hnx:Hid (T.sumE (k3+1)=T.sumE k3+T.el k3):=rfl
       obtain ⟨sm,hsm⟩:∃ s,s=T.sumE k3:=⟨_,rfl⟩
       have HSM:=hid hsm
       rw [<-hsm] at hs1 hnx;rw [<-hsm];clear hsm
       by_cases hlt:k3<T.n
       ·have hlt':(k3:Int)<(T.n:Int):=by omega
        obtain ⟨b,o,E,ec,rfl,hb,x0,he1,he2,he3,he4⟩:=(HR.out.on hW).sec hlt
        unfold maxLen at he2
        have hel47:=HR.out.2.2.2.2.2 k3 hlt
        obtain ⟨el,hel⟩:∃ l,l=T.el k3:=⟨_,rfl⟩
        rw [<-hel] at x0 he1 hnx hel47;clear he3 he4 hel
        by_cases h1:sm+el > 262144
        ·have hE:=hid (T.shapeE_bigE HS3.out HA.out HSW.out (k:=k3+1) (by omega) (by rw [hnx.out]; omega))
         have h1':(sm:Int)+(el:Int) > 262144:=by omega
         go_wp2
         go_ret
         exact ⟨zaf hE.out.symm,hW⟩
        ·have h1':¬ (sm:Int)+(el:Int) > 262144:=by omega
         go_wp2
         go_roundg (gk - 1)
         case measure=>omega
         case rel=>exact ⟨k3+1,by go_num,by omega,by omega,by rw [hnx.out]; go_num,by rw [hnx.out]; omega,HB.out⟩
       ·have hlt':¬ (k3:Int)<(T.n:Int):=by omega
        have hken:k3=T.n:=by omega
        have HSE:Hid (T.sumE T.n<=262144):=by
         show _<=_
         rw [<-hken,<-HSM.out]
         exact hs1
        clear hken
        go_wp2
        go_loopg [11,12,71] T.n (fun gg xv yv iv wx=>∃ k:Nat,iv=.int .i64 (k:Nat)/\k<=T.n/\T.n<=k+gg/\(∀ i,i<k->∀ j,j<T.el i->T.inside i j)/\Below (w.heap.size+1) (w.alloc RB) wx)
        case atStart=>exact ⟨0,rfl,by omega,by omega,fun i hi=>absurd hi (by omega),HB.out⟩
        case round =>
         clear hW p0 p1 hlt hlt' hwz HB hk hk0 hkg hs1 hnx HSM
         obtain ⟨gK,hgK⟩:∃ g,g=gk:=⟨_,rfl⟩
         subst hgK
         obtain ⟨k4,rfl,hk,hkg,hall,hB⟩:=hrel
         have hk0:(0:Int)<=(k4:Int):=by omega
         have HB:=hid hB
         have hwz:=zaQ hB
         clear hB
         obtain ⟨⟨p0,p1⟩,hW⟩:=HS.out _ HB.out
         have HALL:=hid hall
         clear hall
         by_cases hlt:k4<T.n
         ·have hlt':(k4:Int)<(T.n:Int):=by omega
          obtain ⟨b,o,E,ec,rfl,hb,x0,he1,he2,he3,he4⟩:=(HR.out.on hW).sec hlt
          unfold maxLen at he2
          have HX0:=hid x0
          go_wp2
          go_loopg [78] (T.el k4) (fun gg jv wx=>∃ j:Nat,jv=.int .i64 (j:Nat)/\j<=T.el k4/\T.el k4<=j+gg/\(∀ i,i<j->T.inside k4 i)/\Below (w.heap.size+1) (w.alloc RB) wx/\Below wr.heap.size wr wx)
          case atStart=>exact ⟨0,rfl,by omega,by omega,fun i hi=>absurd hi (by omega),HB.out,Below.refl _ _⟩
          case round =>
           clear hW p0 p1 hwz x0
           obtain ⟨j,rfl,hj,hjg,hall,hB,hBr⟩:=hrel
           have hj0:(0:Int)<=(j:Int):=by omega
           have x0:=cellS hBr HX0.out
           have HBr:=hid hBr
           have HB2:=hid hB
           have hwz:=zaQ hB
           clear hB hBr
           obtain ⟨⟨p0,p1⟩,hW⟩:=HS.out _ HB2.out
           have HALL2:=hid hall
           clear hall
           by_cases hltj:j<T.el k4
           ·have hltj':(j:Int)<(T.el k4:Int):=by omega
            obtain ⟨eb,eo,rfl,heb,e0,e1,e2⟩:=zby ((Rd.below he3 HBr.out (Nat.le_refl _)).mono HBr.out.size) hltj
            obtain ⟨wb,wo,hA,hwb,y0,hy1,hy2⟩:=(HR.out.on hW).width (i:=k4) (by have:=HNW.out; omega)
            obtain ⟨_,_,hA2,_,y1,hy3,hy4⟩:=(HR.out.on hW).width (i:=k4+1) (by have:=HNW.out; omega)
            rw [hA] at hA2
            injection hA2 with hA2; injection hA2 with hA2 hA3; subst hA2 hA3
            subst hA
            have hk1:k4+1<T.nw:=by have:=HNW.out; omega
            have hk1':(k4:Int)+1<(T.nw:Int):=by omega
            have hk2':(k4:Int)<(T.nw:Int):=by omega
            obtain ⟨⟨i1,i2⟩,_,⟨i3,i4⟩⟩:=he4 j hltj
            have HIN:Hid (T.inside k4 j↔0<=T.fr k4 j/\T.fr k4 j<T.W k4/\0<=T.to k4 j/\T.to k4 j<T.W (k4+1)):=Iff.rfl
            have HBAD:Hid (¬ T.inside k4 j->T.shapeE=6):=fun hb=>T.shapeE_in HS3.out HA.out HSW.out HSE.out hlt hltj hb
            obtain ⟨fr,hfr⟩:∃ x,x=T.fr k4 j:=⟨_,rfl⟩
            obtain ⟨tq,hto⟩:∃ x,x=T.to k4 j:=⟨_,rfl⟩
            obtain ⟨lb,hlb⟩:∃ x,x=T.lb k4 j:=⟨_,rfl⟩
            obtain ⟨u,hu⟩:∃ x,x=T.W k4:=⟨_,rfl⟩
            obtain ⟨v,hv⟩:∃ x,x=T.W (k4+1):=⟨_,rfl⟩
            rw [<-hfr] at e0 HIN i1 i2;rw [<-hlb] at e1;rw [<-hto] at e2 HIN i3 i4;rw [<-hu] at y0 HIN hy1 hy2;rw [<-hv] at y1 HIN hy3 hy4;clear hfr hto hlb hu hv he3 he4
            by_cases h1:fr<0
            ·clear HALL2
             have b1:decide (fr<0)=true:=by simp; omega
             go_wp2
             go_quiet (fail)
             go_wp2
             go_ret
             exact ⟨zaf (HBAD.out fun hi=>by have:=HIN.out.1 hi; omega).symm,zac (hW.alloc (by omega) _) _⟩
            have b1:decide (fr<0)=false:=by simp; omega
            by_cases h2:fr ≥ u
            ·clear HALL2
             have b2:decide (fr ≥ u)=true:=by simp; omega
             have b3:decide (u<=fr)=true:=by simp; omega
             go_wp2
             go_quiet (fail)
             go_wp2
             go_ret
             exact ⟨zaf (HBAD.out fun hi=>by have:=HIN.out.1 hi; omega).symm,zac (hW.alloc (by omega) _) _⟩
            have b2:decide (fr ≥ u)=false:=by simp; omega
            have b3:decide (u<=fr)=false:=by simp; omega
            by_cases h3:tq<0
            ·clear HALL2
             have b4:decide (tq<0)=true:=by simp; omega
             go_wp2
             go_quiet (fail)
             go_wp2
             go_ret
             exact ⟨zaf (HBAD.out fun hi=>by have:=HIN.out.1 hi; omega).symm,zac (hW.alloc (by omega) _) _⟩
            have b4:decide (tq<0)=false:=by simp; omega
            by_cases h4:tq ≥ v
            ·clear HALL2
             have b5:decide (tq ≥ v)=true:=by simp; omega
             have b6:decide (v<=tq)=true:=by simp; omega
             go_wp2
             go_quiet (fail)
             go_wp2
             go_ret
             exact ⟨zaf (HBAD.out fun hi=>by have:=HIN.out.1 hi; omega).symm,zac (hW.alloc (by omega) _) _⟩
            have b5:decide (tq ≥ v)=false:=by simp; omega
            have b6:decide (v<=tq)=false:=by simp; omega
            have HN:Hid (∀ i,i<j+1->T.inside k4 i):=fun i hi=>by
             by_cases e:i=j
             ·subst e; exact HIN.out.2 (by omega)
             ·exact HALL2.out i (by omega)
            go_wp2
            go_quiet (fail)
            go_wp2
            go_roundg (gk - 1)
            case measure=>omega
            case rel=>exact ⟨j+1,by go_num,by omega,by omega,HN.out,zac (HB2.out.alloc (by omega) _) _,zac (HBr.out.alloc HBr.out.size _) _⟩
           ·have hltj':¬ (j:Int)<(T.el k4:Int):=by omega
            have HN:Hid (∀ i,i<k4+1->∀ j,j<T.el i->T.inside i j):=fun i hi=>by
             by_cases e:i=k4
             ·subst e; exact fun q hq=>HALL2.out q (by omega)
             ·exact HALL.out i (by omega)
            clear he3 he4
            go_wp2
            go_roundg (gK - 1)
            case measure=>omega
            case rel=>exact ⟨k4+1,by go_num,by omega,by omega,HN.out,HB2.out⟩
         ·have hlt':¬ (k4:Int)<(T.n:Int):=by omega
          have hE:=hid (T.shapeE_ok HS3.out HA.out HSW.out HSE.out fun i hi=>HALL.out i (by omega))
          go_wp2
          go_ret
          exact ⟨zaf hE.out.symm,hW⟩
def cmpI (a b:Int):Int:=if a<b then -1 else if b<a then 1 else 0
theorem zgZ (a b:Int) (w:World):Calls Tryz.prog 233 #[.int .i64 a,.int .i64 b] w fun e w'=>e=.returned (.int .i64 (cmpI a b))/\Below w.heap.size w w':=by
 have hne:(a != a)=false:=by simp
 have hne2:(b != b)=false:=by simp
 by_cases h1:a<b
 ·have hE:Hid (cmpI a b = -1):=if_pos h1
  go_enter Tryz.func233, Tryz.ntmps233
  go_wp2
  go_ret
  exact ⟨zaf hE.out.symm,Below.refl _ _⟩
 ·by_cases h2:b<a
  ·have hE:Hid (cmpI a b=1):=by show _=_; unfold cmpI; rw [if_neg h1,if_pos h2]
   have h2':a > b:=h2
   go_enter Tryz.func233, Tryz.ntmps233
   go_wp2
   go_ret
   exact ⟨zaf hE.out.symm,Below.refl _ _⟩
  ·have hE:Hid (cmpI a b=0):=by show _=_; unfold cmpI; rw [if_neg h1,if_neg h2]
   have h2':¬ a > b:=h2
   go_enter Tryz.func233, Tryz.ntmps233
   go_wp2
   go_ret
   exact ⟨zaf hE.out.symm,Below.refl _ _⟩
def orV (x y:Int):Int:=if x=0 then y else x
theorem zgF (A:Option Addr) (c:Nat) (f:Nat->Int) (w:World) (h:IntsR w w.heap.size A 2 f) :
  Calls Tryz.prog 232 #[.slice A 2 c] w fun e w'=>e=.returned (.int .i64 (orV (f 0) (f 1)))/\Below w.heap.size w w':=by
 obtain ⟨b,o,rfl,hb,x0⟩:=h.at (i:=0) (by omega)
 obtain ⟨_,_,e1,_,x1⟩:=h.at (i:=1) (by omega)
 injection e1 with e1; injection e1 with e1 e2; subst e1 e2
 obtain ⟨x,hx⟩:∃ x,x=f 0:=⟨_,rfl⟩
 obtain ⟨y,hy⟩:∃ x,x=f 1:=⟨_,rfl⟩
 rw [<-hx] at x0 ⊢;rw [<-hy] at x1 ⊢;clear hx hy h
 go_enter Tryz.func232, Tryz.ntmps232
 go_wp2
 go_loopg [5,8] 2 (fun gg ev iv wx=>∃ k:Nat,iv=.int .i64 (k:Nat)/\k<=2/\2<=k+gg/\(1<=k->x=0)/\(2<=k->y=0)/\Below w.heap.size w wx)
 case atStart=>exact ⟨0,rfl,by omega,by omega,fun h=>absurd h (by omega),fun h=>absurd h (by omega),Below.refl _ _⟩
 case round =>
  obtain ⟨k,rfl,hk,hkg,h1,h2,hB⟩:=hrel
  replace x0:=cellS hB x0;replace x1:=cellS hB x1
  have H1:=hid h1
  have H2:=hid h2
  clear h1 h2
  by_cases hk2:k=2
  ·have hlt:¬ (k:Int)<2:=by omega
   have hE:Hid (orV x y=0):=by
    show _=_
    unfold orV
    rw [if_pos (H1.out (by omega)),H2.out (by omega)]
   clear hk2
   go_wp2
   go_ret
   exact ⟨zaf hE.out.symm,hB⟩
  ·have hlt:(k:Int)<2:=by omega
   have hk0:(0:Int)<=(k:Int):=by omega
   by_cases hk1:k=0
   ·have xk:wr.cell? ⟨b,o+k,none⟩=some (.int .i64 x):=by rw [hk1]; exact x0
    by_cases hx:x=0
    ·have hxb:(x != 0)=false:=by simp [hx]
     have hxb2:(x == 0)=true:=by simp [hx]
     have HX:=hid hx
     have HK:=hid hk1
     clear hx x0 x1 hk1 hk2
     go_wp2
     go_roundg (gk - 1)
     case measure=>omega
     case rel=>exact ⟨k+1,by go_num,by omega,by omega,fun _=>HX.out,fun h=>absurd h (by have:=HK.out; omega),hB⟩
    ·have hxb:(x != 0)=true:=by simp [hx]
     have hxb2:(x == 0)=false:=by simp [hx]
     have hE:Hid (orV x y=x):=if_neg hx
     clear hx x0 x1 hk1 hk2
     go_wp2
     go_ret
     exact ⟨zaf hE.out.symm,hB⟩
   ·have xk:wr.cell? ⟨b,o+k,none⟩=some (.int .i64 y):=by rw [show k=1 by omega]; exact x1
    have hx:x=0:=H1.out (by omega)
    by_cases hy:y=0
    ·have hxb:(y != 0)=false:=by simp [hy]
     have hxb2:(y == 0)=true:=by simp [hy]
     have HX:=hid hx
     have HY:=hid hy
     clear hx hy x0 x1 hk1 hk2
     go_wp2
     go_roundg (gk - 1)
     case measure=>omega
     case rel=>exact ⟨k+1,by go_num,by omega,by omega,fun _=>HX.out,fun _=>HY.out,hB⟩
    ·have hxb:(y != 0)=true:=by simp [hy]
     have hxb2:(y == 0)=false:=by simp [hy]
     have hE:Hid (orV x y=y):=if_pos hx
     clear hx hy x0 x1 hk1 hk2
     go_wp2
     go_ret
     exact ⟨zaf hE.out.symm,hB⟩
def lessV (f l f' l':Int):Int:=orV (cmpI f f') (cmpI l l')
theorem zgG {f l f' l':Int}:lessV f l f' l'<0↔f<f'∨f=f'/\l<l':=by
 unfold lessV orV cmpI
 split <;> split <;> (try split) <;> (try split) <;> omega
theorem zhw (f l t f' l' t':Int) (w:World) :
  Calls Tryz.prog 187 #[.agg #[.int .i64 f,.int .i64 l,.int .i64 t],.agg #[.int .i64 f',.int .i64 l',.int .i64 t']] w fun e w'=>e=.returned (.int .i64 (lessV f l f' l'))/\Below w.heap.size w w':=by
 go_enter Tryz.func187, Tryz.ntmps187
 go_upto_region 1 with fail
 obtain ⟨B1,hB1⟩:∃ o,o=(Obj.cells #[.int .i64 f,.int .i64 l,.int .i64 t] 148):=⟨_,rfl⟩
 obtain ⟨B2,hB2⟩:∃ o,o=(Obj.cells #[.int .i64 f',.int .i64 l',.int .i64 t'] 148):=⟨_,rfl⟩
 rw [<-hB1,<-hB2]
 have hb1:Below (w.heap.size+1) (w.alloc B1) ((w.alloc B1).alloc B2):=(Below.refl _ _).alloc (by simp) _
 have hW:=zaB hb1
 have p0:((w.alloc B1).alloc B2).cell? ⟨w.heap.size,0,none⟩=some (.int .i64 f):=by subst hB1; exact tbox hb1 rfl
 have p1:((w.alloc B1).alloc B2).cell? ⟨w.heap.size,1,none⟩=some (.int .i64 l):=by subst hB1; exact tbox hb1 rfl
 have p2:((w.alloc B1).alloc B2).cell? ⟨w.heap.size+1,0,none⟩=some (.int .i64 f'):=by subst hB2; simp
 have p3:((w.alloc B1).alloc B2).cell? ⟨w.heap.size+1,1,none⟩=some (.int .i64 l'):=by subst hB2; simp
 obtain ⟨w1,hw1⟩:∃ W,W=(w.alloc B1).alloc B2:=⟨_,rfl⟩
 rw [<-hw1] at hW p0 p1 p2 p3 ⊢;clear hb1 hw1 hB1 hB2
 refine wp_region_held_drew (S:=fun w'=>w'.cell? ⟨w.heap.size,0,none⟩=some (.int .i64 f)/\w'.cell? ⟨w.heap.size,1,none⟩=some (.int .i64 l)/\w'.cell? ⟨w.heap.size+1,0,none⟩=some (.int .i64 f')/\w'.cell? ⟨w.heap.size+1,1,none⟩=some (.int .i64 l')) (by kernel_rfl) ⟨cellS (Below.refl _ _).drew p0,cellS (Below.refl _ _).drew p1,cellS (Below.refl _ _).drew p2,cellS (Below.refl _ _).drew p3⟩ (fun hHeld=>?_)
 obtain ⟨w2,hw⟩:∃ W,W=World.drew w1:=⟨_,rfl⟩
 have kb:Below w1.heap.size w1 w2:=by rw [hw]; exact (Below.refl _ _).drew
 rw [<-hw] at hHeld ⊢;clear hw;replace hW:=onS hW kb;replace p0:=cellS kb p0;replace p1:=cellS kb p1;replace p2:=cellS kb p2;replace p3:=cellS kb p3;clear kb
 refine tkq 0 (h:=tkq 1 (h:=tkq 2 (h:=tkq 3 (h:=tkq 5 (h:=tkq 6 (h:=tkq 7 (h:=tkq 8 (h:=?_))))))))
 refine rdq 4 (h:=fun K hK=>?_)
 go_simp
 go_wp2_with fail
 refine (zgZ f f' w2).mono ?_
 rintro e w3 ⟨rfl,kb⟩
 replace hW:=onS hW kb;replace p0:=cellS kb p0;replace p1:=cellS kb p1;replace p2:=cellS kb p2;replace p3:=cellS kb p3;clear kb
 refine bkq hK ⟨p0,p1,p2,p3⟩ (h:=fun hHeld=>?_)
 clear hK K
 refine rdq 9 (h:=fun K hK=>?_)
 go_simp
 go_wp2_with fail
 refine (zgZ l l' w3).mono ?_
 rintro e w4 ⟨rfl,kb⟩
 replace hW:=onS hW kb;replace p0:=cellS kb p0;replace p1:=cellS kb p1;replace p2:=cellS kb p2;replace p3:=cellS kb p3;clear kb
 refine bkq hK ⟨p0,p1,p2,p3⟩ (h:=fun hHeld=>?_)
 clear hK K
 refine rdq 10 (h:=fun K hK=>?_)
 go_simp
 obtain ⟨w5,hw⟩:∃ W,W=World.alloc w4 (Obj.cells #[.int .i64 (cmpI f f'),.int .i64 (cmpI l l')] 3):=⟨_,rfl⟩
 have kb:Below w4.heap.size w4 w5:=by rw [hw]; exact (Below.refl _ _).alloc (Nat.le_refl _) _
 have hi:IntsR w5 w5.heap.size (some ⟨w4.heap.size,0,none⟩) 2 (fun i=>if i=0 then cmpI f f' else cmpI l l'):=by
  rw [hw]
  intro i hi
  refine ⟨_,0,rfl,by simp,fun j hj=>?_⟩
  obtain rfl:j=0:=by omega
  match i,hi with
  | 0,_=>simp
  | 1,_=>simp
 rw [<-hw];clear hw
 obtain ⟨nb,hnb⟩:∃ b,b=w4.heap.size:=⟨_,rfl⟩
 rw [<-hnb] at hi ⊢;clear hnb;replace hW:=onS hW kb;replace p0:=cellS kb p0;replace p1:=cellS kb p1;replace p2:=cellS kb p2;replace p3:=cellS kb p3;clear kb
 refine bkq hK ⟨p0,p1,p2,p3⟩ (h:=fun hHeld=>?_)
 clear hK K
 refine rdq 11 (h:=fun K hK=>?_)
 go_simp
 go_wp2_with fail
 refine ((show Calls _ _ _ _ (fun e w'=>e=.returned (.int .i64 (lessV f l f' l'))/\Below w5.heap.size w5 w') from zgF (some ⟨nb,0,none⟩) 2 _ w5 hi)).mono ?_
 rintro e w6 ⟨rfl,kb⟩
 replace hW:=onS hW kb;replace p0:=cellS kb p0;replace p1:=cellS kb p1;replace p2:=cellS kb p2;replace p3:=cellS kb p3;replace hi:=hi.on kb;clear kb
 refine bkq hK ⟨p0,p1,p2,p3⟩ (h:=fun hHeld=>?_)
 clear hK K
 refine tkq 12 (h:=?_)
 refine wpAnyH_done (by kernel_rfl) ?_ _
 clear hHeld
 go_wp2_with fail
 go_ret
 exact ⟨rfl,hW⟩
theorem zcy (A:Option Addr) (n c:Nat) (f:Nat->Bool) (v:Bool) (w:World) (h:Rd w w.heap.size A n 1 (fun i _=>.bool (f i))) (hn:n<=1048576) :
  Calls Tryz.prog 188 #[.slice A n c,.bool v] w fun e w'=>(∃ r:Bool,e=.returned (.bool r)/\(r=true↔∃ i,i<n/\f i=v))/\Below w.heap.size w w':=by
 have key : Calls Tryz.prog 234 #[.slice A n c, .bool v] w fun e w' => (∃ r : Int, e = .returned (.int .i64 r) ∧ (0 ≤ r ↔ ∃ i, i < n ∧ f i = v)) ∧ Below w.heap.size w w' := by
  go_enter Tryz.func234, Tryz.ntmps234
  go_wp2
  go_loopg [5,8] n (fun gg ev iv wx=>∃ k:Nat,iv=.int .i64 (k:Nat)/\k<=n/\n<=k+gg/\(∀ i,i<k->f i≠v)/\Below w.heap.size w wx)
  case atStart=>exact ⟨0,rfl,by omega,by omega,fun i hi=>absurd hi (by omega),Below.refl _ _⟩
  case round =>
   obtain ⟨k,rfl,hk,hkg,hall,hB⟩:=hrel
   have hk0:(0:Int)<=(k:Int):=by omega
   have HALL:=hid hall
   clear hall
   by_cases hlt:k<n
   ·have hlt':(k:Int)<(n:Int):=by omega
    obtain ⟨b,o,rfl,hb,x0⟩:=Rd.at1 ((Rd.below h hB (Nat.le_refl _)).mono hB.size) hlt
    obtain ⟨y,hy⟩:∃ y,y=f k:=⟨_,rfl⟩
    rw [<-hy] at x0
    have HY:=hid hy
    clear hy
    by_cases he:v=y
    ·have heb:(v == y)=true:=by simp [he]
     have hex:Hid (∃ i,i<n/\f i=v):=⟨k,hlt,by rw [he,HY.out]⟩
     clear he
     go_wp2
     go_ret
     exact ⟨⟨_,rfl,fun _=>hex.out,fun _=>hk0⟩,hB⟩
    ·have heb:(v == y)=false:=by simp [he]
     have hne:Hid (∀ i,i<k+1->f i≠v):=fun i hi=>by
      by_cases e:i=k
      ·subst e; rw [<-HY.out]; exact fun h=>he h.symm
      ·exact HALL.out i (by omega)
     clear he
     go_wp2
     go_roundg (gk - 1)
     case measure=>omega
     case rel=>exact ⟨k+1,by go_num,by omega,by omega,hne.out,hB⟩
   ·have hlt':¬ (k:Int)<(n:Int):=by omega
    have hno:Hid (¬ ∃ i,i<n/\f i=v):=fun ⟨i,hi,e⟩=>HALL.out i (by omega) e
    go_wp2
    go_ret
    exact ⟨⟨_,rfl,fun h=>absurd h (by omega),fun h=>absurd h hno.out⟩,hB⟩
 go_enter Tryz.func188, Tryz.ntmps188
 go_wp2_with fail
 refine key.mono ?_
 rintro e w1 ⟨⟨r,rfl,hr⟩,hB⟩
 have HR:=hid hr
 clear hr
 by_cases h0:0<=r
 ·have h0':decide (r ≥ 0)=true:=by simpa using h0
  have hE:=hid (HR.out.1 h0)
  go_wp2
  go_ret
  exact ⟨⟨_,rfl,by simpa using hE.out⟩,hB⟩
 ·have h0':decide (r ≥ 0)=false:=by simp; omega
  have hE:Hid (¬ ∃ i,i<n/\f i=v):=fun h=>h0 (HR.out.2 h)
  go_wp2
  go_ret
  refine ⟨⟨_,rfl,?_⟩,hB⟩
  simp only [Bool.false_eq_true,false_iff]
  exact hE.out
def hitB (f:Nat->Int):Nat->Int->Bool
 | 0,_=>false
 | j+1,v=>hitB f j v || decide (f j=v)
theorem zej {f:Nat->Int} {v:Int}:∀ {j:Nat},hitB f j v=true↔∃ i,i<j/\f i=v:=by
 intro j
 induction j with
 | zero=>simp [hitB]
 | succ j ih =>
  simp only [hitB,Bool.or_eq_true,decide_eq_true_eq,ih]
  constructor
  ·rintro (⟨i,hi,e⟩ | e)
   ·exact ⟨i,by omega,e⟩
   ·exact ⟨j,by omega,e⟩
  ·rintro ⟨i,hi,e⟩
   by_cases h:i=j
   ·subst h; exact .inr e
   ·exact .inl ⟨i,by omega,e⟩
def Trel.after (T:Trel) (i j:Nat):Prop:=T.fr i (j - 1)<T.fr i j∨T.fr i (j - 1)=T.fr i j/\T.lb i (j - 1)<T.lb i j
instance (T:Trel) (i j:Nat):Decidable (T.after i j):=by unfold Trel.after; exact inferInstance
def Trel.edgeOk (T:Trel) (i j:Nat):Prop:=0<=T.lb i j/\T.lb i j<256/\(0<j->T.after i j)
instance (T:Trel) (i j:Nat):Decidable (T.edgeOk i j):=by unfold Trel.edgeOk; exact inferInstance
def Trel.secOk (T:Trel) (i:Nat):Prop :=
 (∀ j,j<T.el i->T.edgeOk i j)/\(∀ v,v<(T.W i).toNat->hitB (T.fr i) (T.el i) (v:Nat)=true)/\(∀ v,v<(T.W (i+1)).toNat->hitB (T.to i) (T.el i) (v:Nat)=true)
instance (T:Trel) (i:Nat):Decidable (T.secOk i):=by unfold Trel.secOk; exact inferInstance
def Trel.properE (T:Trel):Int :=
 if T.shapeE≠0 then T.shapeE else if T.W 0≠1∨T.W T.n≠1 then 5 else if ∀ i,i<T.n->T.secOk i then 0 else 5
structure Trel.Proper (T:Trel):Prop where
 shape:T.Shape
 w0:T.W 0=1
 wn:T.W T.n=1
 sec:∀ i,i<T.n->T.secOk i
theorem Trel.proper_of {T:Trel} (h:T.properE=0):T.Proper:=by
 unfold Trel.properE at h
 by_cases h1:T.shapeE=0
 ·rw [if_neg (by simpa using h1)] at h
  by_cases h2:T.W 0≠1∨T.W T.n≠1
  ·rw [if_pos h2] at h; omega
  ·rw [if_neg h2] at h
   by_cases h3:∀ i,i<T.n->T.secOk i
   ·exact ⟨Trel.shape_of h1,by omega,by omega,h3⟩
   ·rw [if_neg h3] at h; omega
 ·rw [if_pos h1] at h; exact absurd h h1
theorem Trel.properE_shape {T:Trel} (h:T.shapeE≠0):T.properE=T.shapeE:=by unfold Trel.properE; rw [if_pos h]
theorem Trel.properE_end {T:Trel} (h:T.shapeE=0) (h2:T.W 0≠1∨T.W T.n≠1):T.properE=5:=by unfold Trel.properE; rw [if_neg (by simpa using h),if_pos h2]
theorem Trel.properE_sec {T:Trel} (h:T.shapeE=0) {i:Nat} (hi:i<T.n) (h2:¬ T.secOk i):T.properE=5:=by
 unfold Trel.properE
 rw [if_neg (by simpa using h)]
 split
 ·rfl
 ·rw [if_neg fun h3=>h2 (h3 i hi)]
theorem Trel.properE_ok {T:Trel} (h:T.shapeE=0) (h0:T.W 0=1) (hn:T.W T.n=1) (h2:∀ i,i<T.n->T.secOk i):T.properE=0:=by
 unfold Trel.properE
 rw [if_neg (by simpa using h),if_neg (by omega),if_pos h2]
theorem zhx {X:World} {b1 b2 n1 n2 x y:Nat} {t:TypeId} {f g f' g':Nat->Bool} (h1:X.rowIs b1 t n1 (fun v=>.bool (f v))) (h2:X.rowIs b2 t n2 (fun v=>.bool (g v))) (hne:b1≠b2)
  (hf:∀ v,v<n1->f' v=(f v || decide (v=x))) (hg:∀ v,v<n2->g' v=(g v || decide (v=y))) :
  ((X.setCell ⟨b1,x,none⟩ (.bool true)).setCell ⟨b2,y,none⟩ (.bool true)).rowIs b1 t n1 (fun v=>.bool (f' v))/\((X.setCell ⟨b1,x,none⟩ (.bool true)).setCell ⟨b2,y,none⟩ (.bool true)).rowIs b2 t n2 (fun v=>.bool (g' v)):=by
 have k1:=(h1.set x (.bool true)).setOther (a:=⟨b2,y,none⟩) (by simpa using hne) (.bool true)
 have k2:=(h2.setOther (a:=⟨b1,x,none⟩) (by simpa using fun e:b2=b1=>hne e.symm) (.bool true)).set y (.bool true)
 refine ⟨k1.congr fun v hv=>?_,k2.congr fun v hv=>?_⟩
 ·show (if v=x then Value.bool true else .bool (f v))=.bool (f' v)
  rw [hf v hv]
  by_cases e:v=x
  ·rw [if_pos e]; simp [e]
  ·rw [if_neg e]; simp [e]
 ·show (if v=y then Value.bool true else .bool (g v))=.bool (g' v)
  rw [hg v hv]
  by_cases e:v=y
  ·rw [if_pos e]; simp [e]
  ·rw [if_neg e]; simp [e]
theorem zdN (T:Trel) (A B:Option Addr) (c d:Nat) (w:World) (h:T.Reads w A B) :
  Calls Tryz.prog 123 #[.agg #[.slice A T.nw c,.slice B T.n d]] w fun e w'=>e=.returned (.int .i64 T.properE)/\Below w.heap.size w w':=by
 obtain ⟨RB,hRB⟩:∃ o,o=(Obj.cells #[.slice A T.nw c,.slice B T.n d] 74):=⟨_,rfl⟩
 have hB0:Below (w.heap.size+1) (w.alloc RB) (w.alloc RB):=Below.refl _ _
 have HS:Hid (∀ w',Below (w.heap.size+1) (w.alloc RB) w'->(w'.cell? ⟨w.heap.size,0,none⟩=some (.slice A T.nw c)/\w'.cell? ⟨w.heap.size,1,none⟩=some (.slice B T.n d))/\Below w.heap.size w w'):=fun w' hB=>by
  have hB':=zaB hB
  subst hRB
  exact ⟨⟨tbox hB rfl,tbox hB rfl⟩,hB'⟩
 obtain ⟨⟨p0,p1⟩,hW⟩:=HS.out _ hB0
 go_enter Tryz.func123, Tryz.ntmps123
 go_wp2_with fail
 rw [<-hRB]
 refine (zei T A B c d _ (h.on hW)).mono ?_
 rintro e w1 ⟨rfl,hb⟩
 have hB1:=zaN hB0 hb
 clear hW p0 p1 hb hB0 hRB
 obtain ⟨⟨p0,p1⟩,hW⟩:=HS.out _ hB1
 by_cases hs:T.shapeE=0
 ·have HSH:=hid (Trel.shape_of hs)
  have HS0:=hid hs
  rw [hs]
  have HR:=hid h
  have hnw:T.nw=T.n+1:=HSH.out.nw
  have HNW:=hid hnw
  have h64:T.n<=64:=HSH.out.n64
  have hnw2:T.n<T.nw:=by omega
  have hnw2':(T.n:Int)<(T.nw:Int):=by omega
  have hnw3:0<T.nw:=by omega
  have hnw3':(0:Int)<(T.nw:Int):=by omega
  have HB1:=hid hB1
  clear hs hnw h hB1
  obtain ⟨b,o,hA,hb,x0,_,_⟩:=(HR.out.on hW).width (i:=0) (by omega)
  obtain ⟨_,_,hA2,_,x1,_,_⟩:=(HR.out.on hW).width (i:=T.n) (by omega)
  subst hA
  injection hA2 with e1
  injection e1 with e1 e2
  subst e1 e2
  obtain ⟨u0,hu0⟩:∃ u,u=T.W 0:=⟨_,rfl⟩
  obtain ⟨u1,hu1⟩:∃ u,u=T.W T.n:=⟨_,rfl⟩
  rw [Nat.add_zero,<-hu0] at x0;rw [<-hu1] at x1
  have HU0:=hid hu0
  have HU1:=hid hu1
  clear hu0 hu1
  by_cases h0:u0=1
  ·have c0:(u0 != 1)=false:=by simp [h0]
   by_cases h1:u1=1
   ·have c1:(u1 != 1)=false:=by simp [h1]
    have HW0:Hid (T.W 0=1):=HU0.out.symm.trans h0
    have HWN:Hid (T.W T.n=1):=HU1.out.symm.trans h1
    clear h0 h1
    go_wp2
    go_loopg [5] T.n (fun gg iv wx=>∃ k:Nat,iv=.int .i64 (k:Nat)/\k<=T.n/\T.n<=k+gg/\(∀ i,i<k->T.secOk i)/\Below (w.heap.size+1) (w.alloc RB) wx)
    case atStart=>exact ⟨0,rfl,by omega,by omega,fun i hi=>absurd hi (by omega),HB1.out⟩
    case round =>
     clear hW p0 p1 x0 x1
     obtain ⟨gK,hgK⟩:∃ g,g=gk:=⟨_,rfl⟩
     subst hgK
     obtain ⟨k,rfl,hk,hkg,hall,hB⟩:=hrel
     obtain ⟨wk,hwk⟩:∃ W,W=wr:=⟨_,rfl⟩
     subst hwk
     have hk0:(0:Int)<=(k:Int):=by omega
     have HB:=hid hB
     have hwz:=zaQ hB
     clear hB
     obtain ⟨⟨p0,p1⟩,hW⟩:=HS.out _ HB.out
     have HALL:=hid hall
     clear hall
     by_cases hlt:k<T.n
     ·have hlt':(k:Int)<(T.n:Int):=by omega
      have hk1:k+1<T.nw:=by omega
      have hk1':(k:Int)+1<(T.nw:Int):=by omega
      have hk2':(k:Int)<(T.nw:Int):=by omega
      obtain ⟨wa,wo,hA,_,y0,hy1,hy2⟩:=(HR.out.on hW).width (i:=k) (by omega)
      obtain ⟨_,_,hA2,_,y1,hy3,hy4⟩:=(HR.out.on hW).width (i:=k+1) (by omega)
      rw [hA] at hA2
      injection hA with e1
      injection e1 with e1 e2
      subst e1 e2
      injection hA2 with e1
      injection e1 with e1 e2
      subst e1 e2
      obtain ⟨eb,eo,E,ec,rfl,heb,x0,he1,he2,he3,he4⟩:=(HR.out.on hW).sec hlt
      unfold maxLen at he2
      have hwk:=HSH.out.wid (i:=k) (by omega)
      have hwk1:=HSH.out.wid (i:=k+1) (by omega)
      have hel:=HSH.out.elb hlt
      obtain ⟨n1,hn1⟩:∃ n:Nat,(n:Int)=T.W k:=⟨(T.W k).toNat,by omega⟩
      obtain ⟨n2,hn2⟩:∃ n:Nat,(n:Int)=T.W (k+1):=⟨(T.W (k+1)).toNat,by omega⟩
      rw [<-hn1] at y0 hwk;rw [<-hn2] at y1 hwk1
      have HN1:=hid hn1
      have HN2:=hid hn2
      have HE3:=hid he3
      have HE4:=hid he4
      have HX0:=hid x0
      have hmk:=fun W=>zag (P:=Tryz.prog) 66 4 _ 1 Tryz.underlying66 Tryz.infoBool rfl (n1:Int) (by omega) (by omega) (by omega) W
      have hmk2:=fun W=>zag (P:=Tryz.prog) 66 4 _ 1 Tryz.underlying66 Tryz.infoBool rfl (n2:Int) (by omega) (by omega) (by omega) W
      simp only [Int.toNat_natCast] at hmk hmk2
      clear hn1 hn2 he3 he4 hy1 hy2 hy3 hy4
      go_upto_region 12 with fail
      have hr1:=zaa (World.rowIs_made wk (.bool false) n1 4) ((Below.refl _ _).alloc (Nat.le_refl _) (Obj.cells (madeCells #[Value.bool false] n2) 4))
      have hr2:=World.rowIs_made (wk.alloc (Obj.cells (madeCells #[Value.bool false] n1) 4)) (.bool false) n2 4
      have hbm:=(((Below.refl wk.heap.size wk).alloc (Nat.le_refl _) (Obj.cells (madeCells #[Value.bool false] n1) 4)).alloc (by simp) (Obj.cells (madeCells #[Value.bool false] n2) 4))
      simp only [World.size_alloc] at hr2 ⊢
      obtain ⟨wm,hwm⟩:∃ W,W=(wk.alloc (Obj.cells (madeCells #[Value.bool false] n1) 4)).alloc (Obj.cells (madeCells #[Value.bool false] n2) 4):=⟨_,rfl⟩
      rw [<-hwm] at hr1 hr2 hbm ⊢
      obtain ⟨b1,hb1⟩:∃ q,q=wk.heap.size:=⟨_,rfl⟩
      obtain ⟨b2,hb2⟩:∃ q,q=wk.heap.size+1:=⟨_,rfl⟩
      rw [<-hb1] at hr1;rw [<-hb2] at hr2;rw [<-hb2,<-hb1]
      have hne:b1≠b2:=by omega
      have hz1:wk.heap.size<=b1:=by omega
      have hz2:wk.heap.size<=b2:=by omega
      have hs1:Hid (wm.rowIs b1 4 n1 (fun v=>.bool (hitB (T.fr k) 0 (v:Nat)))):=hr1.congr fun _ _=>rfl
      have hs2:Hid (wm.rowIs b2 4 n2 (fun v=>.bool (hitB (T.to k) 0 (v:Nat)))):=hr2.congr fun _ _=>rfl
      have HBM:=hid hbm
      have HBAD:Hid (¬ T.secOk k->T.properE=5):=fun hb=>T.properE_sec HS0.out hlt hb
      clear hr1 hr2 hbm hwm hb1 hb2 hmk hmk2 p0 p1 x0 hW
      obtain ⟨⟨p0,p1⟩,hW⟩:=HS.out _ (zaN HB.out HBM.out)
      have x0:=cellS HBM.out HX0.out
      go_wp2
      go_loopg [8] (T.el k) (fun gg jv wx=>∃ j:Nat,jv=.int .i64 (j:Nat)/\j<=T.el k/\T.el k<=j+gg/\(∀ i,i<j->T.edgeOk k i)/\wx.rowIs b1 4 n1 (fun v=>.bool (hitB (T.fr k) j (v:Nat)))/\wx.rowIs b2 4 n2 (fun v=>.bool (hitB (T.to k) j (v:Nat)))/\Below wk.heap.size wk wx)
      case atStart=>exact ⟨0,rfl,by omega,by omega,fun i hi=>absurd hi (by omega),hs1.out,hs2.out,HBM.out⟩
      case round =>
       clear hW p0 p1 x0 hs1 hs2 HBM y0 y1 hb
       obtain ⟨wj,hwj⟩:∃ W,W=wr:=⟨_,rfl⟩
       subst hwj
       obtain ⟨j,rfl,hj,hjg,hall,hr1,hr2,hBj⟩:=hrel
       have hj0:(0:Int)<=(j:Int):=by omega
       have HALL2:=hid hall
       obtain ⟨⟨p0,p1⟩,hW⟩:=HS.out _ (zaN HB.out hBj)
       have x0:=cellS hBj HX0.out
       have HBj:=hid hBj
       have hwj1:=hr1.lt
       have hwzj:=zaQ (zaN HB.out hBj)
       have hwzk:wk.heap.size<=wj.heap.size:=hBj.size
       have heb2:eb<wj.heap.size:=by omega
       have hwj2:=hr2.lt
       have HR1:=hid hr1
       have HR2:=hid hr2
       clear hall
       by_cases hltj:j<T.el k
       ·have hltj':(j:Int)<(T.el k:Int):=by omega
        obtain ⟨fb,fo,rfl,hfb,e0,e1,e2⟩:=zby ((Rd.below HE3.out hBj (Nat.le_refl _)).mono hBj.size) hltj
        obtain ⟨i1,i2,i3,i4⟩:=HSH.out.ins k hlt j hltj
        rw [<-HN1.out] at i2;rw [<-HN2.out] at i4
        have HOK:Hid (T.edgeOk k j↔0<=T.lb k j/\T.lb k j<256/\(0<j->T.after k j)):=Iff.rfl
        have HNO:Hid (¬ T.edgeOk k j->T.properE=5):=fun hn=>HBAD.out fun hs=>hn (hs.1 j hltj)
        obtain ⟨fn,hfn⟩:∃ n:Nat,(n:Int)=T.fr k j:=⟨(T.fr k j).toNat,by omega⟩
        obtain ⟨tn,htn⟩:∃ n:Nat,(n:Int)=T.to k j:=⟨(T.to k j).toNat,by omega⟩
        obtain ⟨lb,hlb⟩:∃ x,x=T.lb k j:=⟨_,rfl⟩
        have hfl:fn<n1:=by omega
        have htl:tn<n2:=by omega
        have hfl':(fn:Int)<(n1:Int):=by omega
        have htl':(tn:Int)<(n2:Int):=by omega
        have hf0:(0:Int)<=(fn:Int):=by omega
        have ht0:(0:Int)<=(tn:Int):=by omega
        have HSET:Hid (∀ X,Below wj.heap.size wj X->(((X.setCell ⟨b1,fn,none⟩ (.bool true)).setCell ⟨b2,tn,none⟩ (.bool true)).rowIs b1 4 n1 (fun v=>.bool (hitB (T.fr k) (j+1) (v:Nat)))/\((X.setCell ⟨b1,fn,none⟩ (.bool true)).setCell ⟨b2,tn,none⟩ (.bool true)).rowIs b2 4 n2 (fun v=>.bool (hitB (T.to k) (j+1) (v:Nat))))/\Below wk.heap.size wk ((X.setCell ⟨b1,fn,none⟩ (.bool true)).setCell ⟨b2,tn,none⟩ (.bool true))):=fun X hX=>by
         refine ⟨zhx (zaa HR1.out hX) (zaa HR2.out hX) hne (fun v hv=>?_) (fun v hv=>?_),((onS HBj.out hX).setCell (p:=⟨b1,fn,none⟩) hz1 _).setCell (p:=⟨b2,tn,none⟩) hz2 _⟩
         ·show (hitB (T.fr k) j (v:Nat) || decide (T.fr k j=(v:Nat)))=_
          rw [<-hfn]
          congr 1
          exact decide_eq_decide.2 ⟨fun h=>by omega,fun h=>by omega⟩
         ·show (hitB (T.to k) j (v:Nat) || decide (T.to k j=(v:Nat)))=_
          rw [<-htn]
          congr 1
          exact decide_eq_decide.2 ⟨fun h=>by omega,fun h=>by omega⟩
        have HOKS:Hid (T.edgeOk k j->∀ i,i<j+1->T.edgeOk k i):=fun ho i hi=>by
         by_cases e:i=j
         ·subst e; exact ho
         ·exact HALL2.out i (by omega)
        have u0:=hr1.cell (i:=fn) hfl
        have u1:=hr2.cell (i:=tn) htl
        have z0:=hr1.frozen fn
        have z1:=hr2.frozen tn
        obtain ⟨v0,hv0⟩:∃ x,x=hitB (T.fr k) j (fn:Nat):=⟨_,rfl⟩
        obtain ⟨v1,hv1⟩:∃ x,x=hitB (T.to k) j (tn:Nat):=⟨_,rfl⟩
        have hne':b2≠b1:=fun e=>hne e.symm
        rw [<-hv0] at u0;rw [<-hv1] at u1;rw [<-hfn] at e0;rw [<-htn] at e2;rw [<-hlb] at e1 HOK
        have HFN:=hid hfn
        have HLB:=hid hlb
        clear hv0 hv1 hfn htn hlb hr1 hr2 hBj i1 i2 i3 i4
        by_cases l1:lb<0
        ·have q1:decide (lb<0)=true:=by simpa using l1
         have hE:=hid (HNO.out fun ho=>by have:=(HOK.out.1 ho).1; omega)
         go_wp2
         go_ret
         exact ⟨zaf hE.out.symm,hW.alloc (by omega) _⟩
        have q1:decide (lb<0)=false:=by simpa using l1
        by_cases l2:lb ≥ 256
        ·have hE:=hid (HNO.out fun ho=>by have:=(HOK.out.1 ho).2.1; omega)
         go_wp2
         go_ret
         exact ⟨zaf hE.out.symm,hW.alloc (by omega) _⟩
        by_cases jz:j=0
        ·have hg:¬ (j:Int) > 0:=by omega
         have hok:=hid (HOK.out.2 ⟨by omega,by omega,fun h=>absurd h (by omega)⟩)
         clear jz
         go_wp2
         go_roundg (gk - 1)
         case measure=>omega
         case rel=>exact ⟨j+1,by go_num,by omega,by omega,HOKS.out hok.out,zaa (HSET.out _ (Below.refl _ _)).1.1 ((Below.refl _ _).alloc (Nat.le_refl _) _),zaa (HSET.out _ (Below.refl _ _)).1.2 ((Below.refl _ _).alloc (Nat.le_refl _) _),onS (HSET.out _ (Below.refl _ _)).2 ((Below.refl _ _).alloc (Nat.le_refl _) _)⟩
        ·obtain ⟨jp,rfl⟩:∃ jp,j=jp+1:=⟨j - 1,by omega⟩
         obtain ⟨_,_,hE2,_,g0,g1,g2⟩:=zby ((Rd.below HE3.out HBj.out (Nat.le_refl _)).mono HBj.out.size) (j:=jp) (by omega)
         injection hE2 with hE2; injection hE2 with hE2 hE3; subst hE2 hE3
         have HAF:Hid (T.after k (jp+1)↔T.fr k jp<T.fr k (jp+1)∨T.fr k jp=T.fr k (jp+1)/\T.lb k jp<T.lb k (jp+1)):=Iff.rfl
         rw [<-HFN.out,<-HLB.out] at HAF
         have hlj:jp<T.el k:=by omega
         have hlj':(jp:Int)<(T.el k:Int):=by omega
         have hjp0:(0:Int)<=(jp:Int):=by omega
         obtain ⟨gf,hgf⟩:∃ x,x=T.fr k jp:=⟨_,rfl⟩
         obtain ⟨gl,hgl⟩:∃ x,x=T.lb k jp:=⟨_,rfl⟩
         obtain ⟨gt,hgt⟩:∃ x,x=T.to k jp:=⟨_,rfl⟩
         rw [<-hgf] at g0 HAF;rw [<-hgl] at g1 HAF;rw [<-hgt] at g2;clear hgf hgl hgt jz
         have hg:(jp:Int)+1 > 0:=by omega
         by_cases f1:(fn:Int)<gf
         ·have hE:=hid (HNO.out fun ho=>by have:=HAF.out.1 ((HOK.out.1 ho).2.2 (by omega)); omega)
          go_wp2
          go_ret
          exact ⟨zaf hE.out.symm,(hW.alloc (by omega) _).alloc (by simp; omega) _⟩
         by_cases f2:(fn:Int)=gf
         ·have f2':((fn:Int) == gf)=true:=by simpa using f2
          by_cases f3:lb<=gl
          ·have hE:=hid (HNO.out fun ho=>by have:=HAF.out.1 ((HOK.out.1 ho).2.2 (by omega)); omega)
           clear f2
           go_wp2
           go_ret
           exact ⟨zaf hE.out.symm,(hW.alloc (by omega) _).alloc (by simp; omega) _⟩
          ·have hok:=hid (HOK.out.2 ⟨by omega,by omega,fun h=>HAF.out.2 (by omega)⟩)
           clear f2
           go_wp2
           go_roundg (gk - 1)
           case measure=>omega
           case rel=>exact ⟨jp+1+1,by go_num,by omega,by omega,HOKS.out hok.out,zaa (HSET.out _ (Below.refl _ _)).1.1 (((Below.refl _ _).alloc (Nat.le_refl _) _).alloc (by simp) _),zaa (HSET.out _ (Below.refl _ _)).1.2 (((Below.refl _ _).alloc (Nat.le_refl _) _).alloc (by simp) _),onS (HSET.out _ (Below.refl _ _)).2 (((Below.refl _ _).alloc (Nat.le_refl _) _).alloc (by simp) _)⟩
         ·have f2':((fn:Int) == gf)=false:=by simpa using f2
          have hok:=hid (HOK.out.2 ⟨by omega,by omega,fun h=>HAF.out.2 (by omega)⟩)
          go_wp2
          go_roundg (gk - 1)
          case measure=>omega
          case rel=>exact ⟨jp+1+1,by go_num,by omega,by omega,HOKS.out hok.out,zaa (HSET.out _ (Below.refl _ _)).1.1 (((Below.refl _ _).alloc (Nat.le_refl _) _).alloc (by simp) _),zaa (HSET.out _ (Below.refl _ _)).1.2 (((Below.refl _ _).alloc (Nat.le_refl _) _).alloc (by simp) _),onS (HSET.out _ (Below.refl _ _)).2 (((Below.refl _ _).alloc (Nat.le_refl _) _).alloc (by simp) _)⟩
       ·have hltj' : ¬ (j : Int) < (T.el k : Int) := by omega
        have hje:j=T.el k:=by omega
        have HALL3:Hid (∀ i,i<T.el k->T.edgeOk k i):=by rw [<-hje]; exact HALL2
        rw [hje] at hr1 hr2
        have hltj2:¬ (T.el k:Int)<(T.el k:Int):=by omega
        clear HR1 HR2 HALL2
        go_wp2
        go_loopg [11] n1 (fun gg iv wx=>∃ v:Nat,iv=.int .i64 (v:Nat)/\v<=n1/\n1<=v+gg/\(∀ i,i<v->hitB (T.fr k) (T.el k) (i:Nat)=true)/\Below wj.heap.size wj wx)
        case atStart=>exact ⟨0,rfl,by omega,by omega,fun i hi=>absurd hi (by omega),Below.refl _ _⟩
        case round =>
         obtain ⟨v,rfl,hv,hvg,hall,hBv⟩:=hrel
         have hv0:(0:Int)<=(v:Int):=by omega
         have HA:=hid hall
         clear hall
         by_cases hlv:v<n1
         ·have hlv':(v:Int)<(n1:Int):=by omega
          have u0:=(zaa hr1 hBv).cell (i:=v) hlv
          by_cases hh:hitB (T.fr k) (T.el k) (v:Nat)=true
          ·rw [hh] at u0
           have HN:Hid (∀ i,i<v+1->hitB (T.fr k) (T.el k) (i:Nat)=true):=fun i hi=>by
            by_cases e:i=v
            ·subst e; exact hh
            ·exact HA.out i (by omega)
           clear hh
           go_wp2
           go_roundg (gk - 1)
           case measure=>omega
           case rel=>exact ⟨v+1,by go_num,by omega,by omega,HN.out,hBv⟩
          ·rw [Bool.eq_false_iff.2 hh] at u0
           have hE:=hid (HBAD.out fun hs=>hh (hs.2.1 v (by have:=HN1.out; omega)))
           clear hh
           have hWv:=onS hW hBv
           go_wp2
           go_ret
           exact ⟨zaf hE.out.symm,hWv⟩
         ·have hlv':¬ (v:Int)<(n1:Int):=by omega
          have HA1:Hid (∀ i,i<n1->hitB (T.fr k) (T.el k) (i:Nat)=true):=fun i hi=>HA.out i (by omega)
          have HBv:=hid hBv
          clear hBv
          go_wp2
          go_loopg [12] n2 (fun gg iv wx=>∃ v:Nat,iv=.int .i64 (v:Nat)/\v<=n2/\n2<=v+gg/\(∀ i,i<v->hitB (T.to k) (T.el k) (i:Nat)=true)/\Below wj.heap.size wj wx)
          case atStart=>exact ⟨0,rfl,by omega,by omega,fun i hi=>absurd hi (by omega),HBv.out⟩
          case round =>
           clear hv hvg hv0 hlv hlv' HBv
           obtain ⟨v2,rfl,hv,hvg,hall,hBv⟩:=hrel
           have hv0:(0:Int)<=(v2:Int):=by omega
           have HA2:=hid hall
           clear hall
           have hWv:=onS hW hBv
           by_cases hlv:v2<n2
           ·have hlv':(v2:Int)<(n2:Int):=by omega
            have u0:=(zaa hr2 hBv).cell (i:=v2) hlv
            by_cases hh:hitB (T.to k) (T.el k) (v2:Nat)=true
            ·rw [hh] at u0
             have HN:Hid (∀ i,i<v2+1->hitB (T.to k) (T.el k) (i:Nat)=true):=fun i hi=>by
              by_cases e:i=v2
              ·subst e; exact hh
              ·exact HA2.out i (by omega)
             clear hh
             go_wp2
             go_roundg (gk - 1)
             case measure=>omega
             case rel=>exact ⟨v2+1,by go_num,by omega,by omega,HN.out,hBv⟩
            ·rw [Bool.eq_false_iff.2 hh] at u0
             have hE:=hid (HBAD.out fun hs=>hh (hs.2.2 v2 (by have:=HN2.out; omega)))
             clear hh
             go_wp2
             go_ret
             exact ⟨zaf hE.out.symm,hWv⟩
           ·have hlv':¬ (v2:Int)<(n2:Int):=by omega
            have HN:Hid (∀ i,i<k+1->T.secOk i):=fun i hi=>by
             by_cases e:i=k
             ·subst e; exact ⟨HALL3.out,fun v hv=>HA1.out v (by have:=HN1.out; omega),fun v hv=>HA2.out v (by have:=HN2.out; omega)⟩
             ·exact HALL.out i (by omega)
            have HFIN:=hid (zaN (zaN HB.out HBj.out) hBv)
            go_wp2
            go_roundg (gK - 1)
            case measure=>omega
            case rel=>exact ⟨k+1,by go_num,by omega,by omega,HN.out,HFIN.out⟩
     ·have hlt':¬ (k:Int)<(T.n:Int):=by omega
      have hE:=hid (T.properE_ok HS0.out HW0.out HWN.out fun i hi=>HALL.out i (by omega))
      go_wp2
      go_ret
      exact ⟨zaf hE.out.symm,hW⟩
   ·have c1:(u1 != 1)=true:=by simp [h1]
    have hE:=hid (T.properE_end HS0.out (.inr (by rw [<-HU1.out]; exact h1)))
    go_wp2
    go_ret
    exact ⟨zaf hE.out.symm,hW⟩
  ·have c0:(u0 != 1)=true:=by simp [h0]
   have hE:=hid (T.properE_end HS0.out (.inl (by rw [<-HU0.out]; exact h0)))
   go_wp2
   go_ret
   exact ⟨zaf hE.out.symm,hW⟩
 ·have hE:=hid (Trel.properE_shape hs)
  have hn:(T.shapeE != 0)=true:=by simpa using hs
  obtain ⟨x,hx⟩:∃ x,x=T.shapeE:=⟨_,rfl⟩
  rw [<-hx] at hE hn ⊢;clear hs hx
  go_wp2
  go_ret
  exact ⟨zaf hE.out.symm,hW⟩
theorem zaI {w:World} {p q:Addr} {u v:Value} (h:w.cell? q=some v) (hne:q.block≠p.block):(w.setCell p u).cell? q=some v :=
 (World.cell?_setCell_other w p q u (fun e=>hne (by rw [e]))).trans h
theorem zdO (T:Trel) (A B:Option Addr) (c d:Nat) (w:World) (h:T.Reads w A B) :
  Calls Tryz.prog 116 #[.agg #[.slice A T.nw c,.slice B T.n d]] w fun e w'=>e=.returned (.int .i64 T.properE)/\Below w.heap.size w w':=by
 obtain ⟨RB,hRB⟩:∃ o,o=(Obj.cells #[.slice A T.nw c,.slice B T.n d] 74):=⟨_,rfl⟩
 have hB0:Below (w.heap.size+1) (w.alloc RB) (w.alloc RB):=Below.refl _ _
 have HS:Hid (∀ w',Below (w.heap.size+1) (w.alloc RB) w'->(w'.cell? ⟨w.heap.size,0,none⟩=some (.slice A T.nw c)/\w'.cell? ⟨w.heap.size,1,none⟩=some (.slice B T.n d))/\Below w.heap.size w w'):=fun w' hB=>by
  have hB':=zaB hB
  subst hRB
  exact ⟨⟨tbox hB rfl,tbox hB rfl⟩,hB'⟩
 obtain ⟨⟨p0,p1⟩,hW⟩:=HS.out _ hB0
 go_enter Tryz.func116, Tryz.ntmps116
 go_wp2_with fail
 rw [<-hRB]
 refine (zdM T A B c d _ (h.on hW)).mono ?_
 rintro e w1 ⟨rfl,hb⟩
 have hB1:=zaN hB0 hb
 clear hW p0 p1 hb hB0 hRB
 obtain ⟨⟨p0,p1⟩,hW⟩:=HS.out _ hB1
 by_cases hs:T.shapeE=0
 ·have HSH:=hid (Trel.shape_of hs)
  have HS0:=hid hs
  rw [hs]
  have HR:=hid h
  have hnw:T.nw=T.n+1:=HSH.out.nw
  have HNW:=hid hnw
  have h64:T.n<=64:=HSH.out.n64
  have hnw2:T.n<T.nw:=by omega
  have hnw2':(T.n:Int)<(T.nw:Int):=by omega
  have hnw3:0<T.nw:=by omega
  have hnw3':(0:Int)<(T.nw:Int):=by omega
  have HB1:=hid hB1
  clear hs hnw h hB1
  obtain ⟨b,o,hA,hb,x0,_,_⟩:=(HR.out.on hW).width (i:=0) (by omega)
  obtain ⟨_,_,hA2,_,x1,_,_⟩:=(HR.out.on hW).width (i:=T.n) (by omega)
  subst hA
  injection hA2 with e1
  injection e1 with e1 e2
  subst e1 e2
  obtain ⟨u0,hu0⟩:∃ u,u=T.W 0:=⟨_,rfl⟩
  obtain ⟨u1,hu1⟩:∃ u,u=T.W T.n:=⟨_,rfl⟩
  rw [Nat.add_zero,<-hu0] at x0;rw [<-hu1] at x1
  have HU0:=hid hu0
  have HU1:=hid hu1
  clear hu0 hu1
  by_cases h0:u0=1
  ·have c0:(u0 != 1)=false:=by simp [h0]
   by_cases h1:u1=1
   ·have c1:(u1 != 1)=false:=by simp [h1]
    have HW0:Hid (T.W 0=1):=HU0.out.symm.trans h0
    have HWN:Hid (T.W T.n=1):=HU1.out.symm.trans h1
    clear h0 h1
    go_wp2
    go_loopg [35] T.n (fun gg iv wx=>∃ k:Nat,iv=.int .i64 (k:Nat)/\k<=T.n/\T.n<=k+gg/\(∀ i,i<k->T.secOk i)/\Below (w.heap.size+1) (w.alloc RB) wx)
    case atStart=>exact ⟨0,rfl,by omega,by omega,fun i hi=>absurd hi (by omega),HB1.out⟩
    case round =>
     clear hW p0 p1 x0 x1
     obtain ⟨gK,hgK⟩:∃ g,g=gk:=⟨_,rfl⟩
     subst hgK
     obtain ⟨k,rfl,hk,hkg,hall,hB⟩:=hrel
     obtain ⟨wk,hwk⟩:∃ W,W=wr:=⟨_,rfl⟩
     subst hwk
     have hk0:(0:Int)<=(k:Int):=by omega
     have HB:=hid hB
     have hwz:=zaQ hB
     clear hB
     obtain ⟨⟨p0,p1⟩,hW⟩:=HS.out _ HB.out
     have HALL:=hid hall
     clear hall
     by_cases hlt:k<T.n
     ·have hlt':(k:Int)<(T.n:Int):=by omega
      have hk1:k+1<T.nw:=by omega
      have hk1':(k:Int)+1<(T.nw:Int):=by omega
      have hk2':(k:Int)<(T.nw:Int):=by omega
      obtain ⟨wa,wo,hA,_,y0,hy1,hy2⟩:=(HR.out.on hW).width (i:=k) (by omega)
      obtain ⟨_,_,hA2,_,y1,hy3,hy4⟩:=(HR.out.on hW).width (i:=k+1) (by omega)
      rw [hA] at hA2
      injection hA with e1
      injection e1 with e1 e2
      subst e1 e2
      injection hA2 with e1
      injection e1 with e1 e2
      subst e1 e2
      obtain ⟨eb,eo,E,ec,rfl,heb,x0,he1,he2,he3,he4⟩:=(HR.out.on hW).sec hlt
      unfold maxLen at he2
      have hwk:=HSH.out.wid (i:=k) (by omega)
      have hwk1:=HSH.out.wid (i:=k+1) (by omega)
      have hel:=HSH.out.elb hlt
      obtain ⟨n1,hn1⟩:∃ n:Nat,(n:Int)=T.W k:=⟨(T.W k).toNat,by omega⟩
      obtain ⟨n2,hn2⟩:∃ n:Nat,(n:Int)=T.W (k+1):=⟨(T.W (k+1)).toNat,by omega⟩
      rw [<-hn1] at y0 hwk;rw [<-hn2] at y1 hwk1
      have HN1:=hid hn1
      have HN2:=hid hn2
      have HE3:=hid he3
      have HE4:=hid he4
      have HX0:=hid x0
      have hmk:=fun W=>zag (P:=Tryz.prog) 66 4 _ 1 Tryz.underlying66 Tryz.infoBool rfl (n1:Int) (by omega) (by omega) (by omega) W
      have hmk2:=fun W=>zag (P:=Tryz.prog) 66 4 _ 1 Tryz.underlying66 Tryz.infoBool rfl (n2:Int) (by omega) (by omega) (by omega) W
      simp only [Int.toNat_natCast] at hmk hmk2
      clear hn1 hn2 he3 he4 hy1 hy2 hy3 hy4
      go_upto_region 12 with fail
      have hr1:=zaa (World.rowIs_made wk (.bool false) n1 4) ((Below.refl _ _).alloc (Nat.le_refl _) (Obj.cells (madeCells #[Value.bool false] n2) 4))
      have hr2:=World.rowIs_made (wk.alloc (Obj.cells (madeCells #[Value.bool false] n1) 4)) (.bool false) n2 4
      have hbm:=(((Below.refl wk.heap.size wk).alloc (Nat.le_refl _) (Obj.cells (madeCells #[Value.bool false] n1) 4)).alloc (by simp) (Obj.cells (madeCells #[Value.bool false] n2) 4))
      simp only [World.size_alloc] at hr2 ⊢
      obtain ⟨wm,hwm⟩:∃ W,W=(wk.alloc (Obj.cells (madeCells #[Value.bool false] n1) 4)).alloc (Obj.cells (madeCells #[Value.bool false] n2) 4):=⟨_,rfl⟩
      rw [<-hwm] at hr1 hr2 hbm ⊢
      obtain ⟨b1,hb1⟩:∃ q,q=wk.heap.size:=⟨_,rfl⟩
      obtain ⟨b2,hb2⟩:∃ q,q=wk.heap.size+1:=⟨_,rfl⟩
      rw [<-hb1] at hr1;rw [<-hb2] at hr2;rw [<-hb2,<-hb1]
      have hne:b1≠b2:=by omega
      have hz1:wk.heap.size<=b1:=by omega
      have hz2:wk.heap.size<=b2:=by omega
      have hs1:Hid (wm.rowIs b1 4 n1 (fun v=>.bool (hitB (T.fr k) 0 (v:Nat)))):=hr1.congr fun _ _=>rfl
      have hs2:Hid (wm.rowIs b2 4 n2 (fun v=>.bool (hitB (T.to k) 0 (v:Nat)))):=hr2.congr fun _ _=>rfl
      have HBM:=hid hbm
      have HBAD:Hid (¬ T.secOk k->T.properE=5):=fun hb=>T.properE_sec HS0.out hlt hb
      clear hr1 hr2 hbm hwm hb1 hb2 hmk hmk2 p0 p1 x0 hW
      obtain ⟨⟨p0,p1⟩,hW⟩:=HS.out _ (zaN HB.out HBM.out)
      have x0:=cellS HBM.out HX0.out
      go_wp2
      go_loopg [55] (T.el k) (fun gg jv wx=>∃ j:Nat,jv=.int .i64 (j:Nat)/\j<=T.el k/\T.el k<=j+gg/\(∀ i,i<j->T.edgeOk k i)/\wx.rowIs b1 4 n1 (fun v=>.bool (hitB (T.fr k) j (v:Nat)))/\wx.rowIs b2 4 n2 (fun v=>.bool (hitB (T.to k) j (v:Nat)))/\Below wk.heap.size wk wx)
      case atStart=>exact ⟨0,rfl,by omega,by omega,fun i hi=>absurd hi (by omega),hs1.out,hs2.out,HBM.out⟩
      case round =>
       clear hW p0 p1 x0 hs1 hs2 HBM y0 y1 hb
       obtain ⟨wj,hwj⟩:∃ W,W=wr:=⟨_,rfl⟩
       subst hwj
       obtain ⟨j,rfl,hj,hjg,hall,hr1,hr2,hBj⟩:=hrel
       have hj0:(0:Int)<=(j:Int):=by omega
       have HALL2:=hid hall
       obtain ⟨⟨p0,p1⟩,hW⟩:=HS.out _ (zaN HB.out hBj)
       have x0:=cellS hBj HX0.out
       have HBj:=hid hBj
       have hwj1:=hr1.lt
       have hwzj:=zaQ (zaN HB.out hBj)
       have hwzk:wk.heap.size<=wj.heap.size:=hBj.size
       have heb2:eb<wj.heap.size:=by omega
       have hwj2:=hr2.lt
       have HR1:=hid hr1
       have HR2:=hid hr2
       clear hall
       by_cases hltj:j<T.el k
       ·have hltj':(j:Int)<(T.el k:Int):=by omega
        obtain ⟨fb,fo,rfl,hfb,e0,e1,e2⟩:=zby ((Rd.below HE3.out hBj (Nat.le_refl _)).mono hBj.size) hltj
        obtain ⟨i1,i2,i3,i4⟩:=HSH.out.ins k hlt j hltj
        rw [<-HN1.out] at i2;rw [<-HN2.out] at i4
        have HOK:Hid (T.edgeOk k j↔0<=T.lb k j/\T.lb k j<256/\(0<j->T.after k j)):=Iff.rfl
        have HNO:Hid (¬ T.edgeOk k j->T.properE=5):=fun hn=>HBAD.out fun hs=>hn (hs.1 j hltj)
        obtain ⟨fn,hfn⟩:∃ n:Nat,(n:Int)=T.fr k j:=⟨(T.fr k j).toNat,by omega⟩
        obtain ⟨tn,htn⟩:∃ n:Nat,(n:Int)=T.to k j:=⟨(T.to k j).toNat,by omega⟩
        obtain ⟨lb,hlb⟩:∃ x,x=T.lb k j:=⟨_,rfl⟩
        have hfl:fn<n1:=by omega
        have htl:tn<n2:=by omega
        have hfl':(fn:Int)<(n1:Int):=by omega
        have htl':(tn:Int)<(n2:Int):=by omega
        have hf0:(0:Int)<=(fn:Int):=by omega
        have ht0:(0:Int)<=(tn:Int):=by omega
        have HOKS:Hid (T.edgeOk k j->∀ i,i<j+1->T.edgeOk k i):=fun ho i hi=>by
         by_cases e:i=j
         ·subst e; exact ho
         ·exact HALL2.out i (by omega)
        have u0:=hr1.cell (i:=fn) hfl
        have u1:=hr2.cell (i:=tn) htl
        have z0:=hr1.frozen fn
        have z1:=hr2.frozen tn
        obtain ⟨v0,hv0⟩:∃ x,x=hitB (T.fr k) j (fn:Nat):=⟨_,rfl⟩
        obtain ⟨v1,hv1⟩:∃ x,x=hitB (T.to k) j (tn:Nat):=⟨_,rfl⟩
        have hne':b2≠b1:=fun e=>hne e.symm
        rw [<-hv0] at u0;rw [<-hv1] at u1;rw [<-hfn] at e0;rw [<-htn] at e2;rw [<-hlb] at e1 HOK
        have HFN:=hid hfn
        have HTN:=hid htn
        have HLB:=hid hlb
        clear hv0 hv1 hfn htn hlb hr1 hr2 hBj i1 i2 i3 i4
        have hbj:=(HBj.out.alloc hwzk (Obj.cells #[.int .i64 (fn:Int),.int .i64 lb,.int .i64 (tn:Int)] 148))
        have HC1:Hid (∀ v,v<n1->(if v=fn then Value.bool true else .bool (hitB (T.fr k) j (v:Nat)))=.bool (hitB (T.fr k) (j+1) (v:Nat))):=fun v hv=>by
         show _=Value.bool (hitB (T.fr k) j (v:Nat) || decide (T.fr k j=(v:Nat)))
         by_cases e:v=fn
         ·subst e; rw [if_pos rfl,<-HFN.out]; simp
         ·rw [if_neg e,decide_eq_false (by have:=HFN.out; omega)]; simp
        have HC2:Hid (∀ v,v<n2->(if v=tn then Value.bool true else .bool (hitB (T.to k) j (v:Nat)))=.bool (hitB (T.to k) (j+1) (v:Nat))):=fun v hv=>by
         show _=Value.bool (hitB (T.to k) j (v:Nat) || decide (T.to k j=(v:Nat)))
         by_cases e:v=tn
         ·subst e; rw [if_pos rfl,<-HTN.out]; simp
         ·rw [if_neg e,decide_eq_false (by have:=HTN.out; omega)]; simp
        go_upto_region 15 with fail
        obtain ⟨OB,hOB⟩:∃ o,o=(Obj.cells #[.int .i64 (fn:Int),.int .i64 lb,.int .i64 (tn:Int)] 148):=⟨_,rfl⟩
        have hq:∀ i v,(#[Value.int .i64 (fn:Int),.int .i64 lb,.int .i64 (tn:Int)]:Array Value)[i]?=some v->(wj.alloc OB).cell? ⟨wj.heap.size,i,none⟩=some v:=fun i v hv=>by subst hOB; exact tbox (Below.refl _ _) hv
        have q0:=hq 0 _ rfl
        have q1:=hq 1 _ rfl
        have q2:=hq 2 _ rfl
        have kbo:Below wj.heap.size wj (wj.alloc OB):=(Below.refl _ _).alloc (Nat.le_refl _) _
        rw [<-hOB] at hbj ⊢
        obtain ⟨w50,hw50⟩:∃ W,W=wj.alloc OB:=⟨_,rfl⟩
        rw [<-hw50] at hbj q0 q1 q2 kbo ⊢
        have hr1:=zaa HR1.out kbo
        have hr2:=zaa HR2.out kbo
        have hbx:=hbj
        have hwj50:wj.heap.size<w50.heap.size:=by rw [hw50]; simp
        have hW50:Below w.heap.size w w50:=onS hW kbo
        have hzb1:b1<wj.heap.size:=hwj1
        have hzb2:b2<wj.heap.size:=hwj2
        clear hq hw50 hOB hbj p0 p1 x0 HR1 HR2 u0 u1 z0 z1
        by_cases l1:lb<0
        ·have q3:decide (lb<0)=true:=by simpa using l1
         have hE:=hid (HNO.out fun ho=>by have:=(HOK.out.1 ho).1; omega)
         go_quiet (fail)
         go_wp2
         go_ret
         exact ⟨zaf hE.out.symm,zac hW50 _⟩
        have q3:decide (lb<0)=false:=by simpa using l1
        by_cases l2:lb ≥ 256
        ·have q4:decide (lb ≥ 256)=true:=by simpa using l2
         have q5:decide (256<=lb)=true:=by simpa using l2
         have hE:=hid (HNO.out fun ho=>by have:=(HOK.out.1 ho).2.1; omega)
         go_quiet (fail)
         go_wp2
         go_ret
         exact ⟨zaf hE.out.symm,zac hW50 _⟩
        have q4:decide (lb ≥ 256)=false:=by simpa using l2
        have q5:decide (256<=lb)=false:=by simpa using l2
        by_cases jz:j=0
        ·have hg:decide ((j:Int) > 0)=false:=by simp; omega
         have hg2:decide (0<(j:Int))=false:=by simp; omega
         have hg3:decide (0<j)=false:=by simp; omega
         have hok:=hid (HOK.out.2 ⟨by omega,by omega,fun h=>absurd h (by omega)⟩)
         clear jz e0 e1 e2
         go_quiet (fail)
         go_upto_region 17 with fail
         replace kbo:=zac (Below.refl w50.heap.size w50) nq;replace q0:=cellS kbo q0;replace q2:=cellS kbo q2;replace hr1:=zaa hr1 kbo;replace hr2:=zaa hr2 kbo;replace hbx:=onS hbx kbo
         obtain ⟨w60,hw60⟩:∃ W,W=w50.drewN nq:=⟨_,rfl⟩
         rw [<-hw60] at q0 q2 hr1 hr2 hbx ⊢;clear hw60 kbo hW50 q1
         refine wp_region_held_drew (S:=fun w'=>w'.cell? ⟨wj.heap.size,0,none⟩=some (.int .i64 fn)/\w'.cell? ⟨wj.heap.size,2,none⟩=some (.int .i64 tn)) (by kernel_rfl) ⟨cellS (Below.refl _ _).drew q0,cellS (Below.refl _ _).drew q2⟩ (fun hHeld=>?_)
         obtain ⟨w61,hw⟩:∃ W,W=World.drew w60:=⟨_,rfl⟩
         have kb:Below w60.heap.size w60 w61:=by rw [hw]; exact (Below.refl _ _).drew
         rw [<-hw] at hHeld ⊢;clear hw;replace hr1:=zaa hr1 kb;replace hr2:=zaa hr2 kb;replace q0:=cellS kb q0;replace q2:=cellS kb q2;replace hbx:=onS hbx kb;clear kb
         refine tkq 0 (h:=tkq 1 (h:=tkq 2 (h:=tkq 3 (h:=tkq 4 (h:=tkq 5 (h:=tkq 6 (h:=?_)))))))
         refine rdq 7 (h:=fun K hK=>?_)
         have hlx:=hr1.lt
         have u0:=hr1.cell (i:=fn) hfl
         have z0:=hr1.frozen fn
         skip
         go_simp
         replace q0:=zaI (p:=⟨b1,fn,none⟩) (u:=.bool true) q0 (by show wj.heap.size≠b1; omega)
         replace q2:=zaI (p:=⟨b1,fn,none⟩) (u:=.bool true) q2 (by show wj.heap.size≠b1; omega)
         replace hbx:=hbx.setCell (p:=⟨b1,fn,none⟩) hz1 (.bool true)
         replace hr2:=hr2.setOther (a:=⟨b1,fn,none⟩) (by simpa using hne') (.bool true)
         replace hr1:=hr1.set fn (.bool true)
         obtain ⟨w62,hw⟩:∃ W,W=World.setCell w61 ⟨b1,fn,none⟩ (.bool true):=⟨_,rfl⟩
         rw [<-hw] at q0 q2 hbx hr1 hr2 ⊢;clear hw u0 z0 hlx
         refine bkq hK ⟨q0,q2⟩ (h:=fun hHeld=>?_)
         clear hK K
         refine tkq 8 (h:=?_)
         refine rdq 9 (h:=fun K hK=>?_)
         have hlx:=hr2.lt
         have u0:=hr2.cell (i:=tn) htl
         have z0:=hr2.frozen tn
         skip
         go_simp
         replace q0:=zaI (p:=⟨b2,tn,none⟩) (u:=.bool true) q0 (by show wj.heap.size≠b2; omega)
         replace q2:=zaI (p:=⟨b2,tn,none⟩) (u:=.bool true) q2 (by show wj.heap.size≠b2; omega)
         replace hbx:=hbx.setCell (p:=⟨b2,tn,none⟩) hz2 (.bool true)
         replace hr1:=hr1.setOther (a:=⟨b2,tn,none⟩) (by simpa using hne) (.bool true)
         replace hr2:=hr2.set tn (.bool true)
         obtain ⟨w63,hw⟩:∃ W,W=World.setCell w62 ⟨b2,tn,none⟩ (.bool true):=⟨_,rfl⟩
         rw [<-hw] at q0 q2 hbx hr1 hr2 ⊢;clear hw u0 z0 hlx
         refine bkq hK ⟨q0,q2⟩ (h:=fun hHeld=>?_)
         clear hK K
         refine wpAnyH_done (by kernel_rfl) ?_ _
         clear hHeld
         have hs1:=hr1.congr (g:=fun v=>.bool (hitB (T.fr k) (j+1) (v:Nat))) (HC1.out)
         have hs2:=hr2.congr (g:=fun v=>.bool (hitB (T.to k) (j+1) (v:Nat))) (HC2.out)
         have HS1:=hid hs1
         have HS2:=hid hs2
         have HBX:=hid hbx
         clear hs1 hs2 hr1 hr2 hbx
         go_wp2
         go_roundg (gk - 1)
         case measure=>omega
         case rel=>exact ⟨j+1,by go_num,by omega,by omega,HOKS.out hok.out,HS1.out,HS2.out,HBX.out⟩
        ·obtain ⟨jp,rfl⟩:∃ jp,j=jp+1:=⟨j - 1,by omega⟩
         obtain ⟨_,_,hE2,_,g0,g1,g2⟩:=zby ((Rd.below HE3.out HBj.out (Nat.le_refl _)).mono HBj.out.size) (j:=jp) (by omega)
         injection hE2 with hE2; injection hE2 with hE2 hE3; subst hE2 hE3
         have HAF:Hid (T.after k (jp+1)↔T.fr k jp<T.fr k (jp+1)∨T.fr k jp=T.fr k (jp+1)/\T.lb k jp<T.lb k (jp+1)):=Iff.rfl
         rw [<-HFN.out,<-HLB.out] at HAF
         have hlj:jp<T.el k:=by omega
         have hlj':(jp:Int)<(T.el k:Int):=by omega
         have hjp0:(0:Int)<=(jp:Int):=by omega
         obtain ⟨gf,hgf⟩:∃ x,x=T.fr k jp:=⟨_,rfl⟩
         obtain ⟨gl,hgl⟩:∃ x,x=T.lb k jp:=⟨_,rfl⟩
         obtain ⟨gt,hgt⟩:∃ x,x=T.to k jp:=⟨_,rfl⟩
         rw [<-hgf] at g0 HAF;rw [<-hgl] at g1 HAF;rw [<-hgt] at g2;replace g0:=cellS kbo g0;replace g1:=cellS kbo g1;replace g2:=cellS kbo g2;clear hgf hgl hgt jz e0 e1 e2 kbo hW50
         have hg:decide ((jp:Int)+1 > 0)=true:=decide_eq_true (by omega)
         have hg2:decide (0<(jp:Int)+1)=true:=decide_eq_true (by omega)
         have hwj1:IntKind.i64.wrap (jp:Int)=(jp:Int):=IntWalk.i64_in _ (by omega)
         have hlv:Hid (lessV gf gl fn lb<0↔gf<fn∨gf=fn/\gl<lb):=zgG
         refine wp_region_held_drew (S:=fun w'=>w'.cell? ⟨wj.heap.size,0,none⟩=some (.int .i64 fn)/\w'.cell? ⟨wj.heap.size,1,none⟩=some (.int .i64 lb)/\w'.cell? ⟨wj.heap.size,2,none⟩=some (.int .i64 tn)/\w'.cell? ⟨fb,fo+jp*3,none⟩=some (.int .i64 gf)/\w'.cell? ⟨fb,fo+jp*3+1,none⟩=some (.int .i64 gl)/\w'.cell? ⟨fb,fo+jp*3+2,none⟩=some (.int .i64 gt)) (by kernel_rfl) ⟨cellS (Below.refl _ _).drew q0,cellS (Below.refl _ _).drew q1,cellS (Below.refl _ _).drew q2,cellS (Below.refl _ _).drew g0,cellS (Below.refl _ _).drew g1,cellS (Below.refl _ _).drew g2⟩ (fun hHeld=>?_)
         obtain ⟨w51,hw⟩:∃ W,W=World.drew w50:=⟨_,rfl⟩
         have kb:Below w50.heap.size w50 w51:=by rw [hw]; exact (Below.refl _ _).drew
         rw [<-hw] at hHeld ⊢;clear hw;replace hr1:=zaa hr1 kb;replace hr2:=zaa hr2 kb;replace q0:=cellS kb q0;replace q1:=cellS kb q1;replace q2:=cellS kb q2;replace g0:=cellS kb g0;replace g1:=cellS kb g1;replace g2:=cellS kb g2;replace hbx:=onS hbx kb;clear kb
         refine tkq 0 (h:=tkq 1 (h:=tkq 2 (h:=tkq 3 (h:=tkq 4 (h:=tkq 5 (h:=tkq 6 (h:=tkq 7 (h:=tkq 8 (h:=tkq 9 (h:=tkq 10 (h:=tkq 11 (h:=tkq 12 (h:=tkq 13 (h:=tkq 14 (h:=tkq 15 (h:=tkq 16 (h:=tkq 17 (h:=?_))))))))))))))))))
         refine rdq 18 (h:=fun K hK=>?_)
         go_simp
         go_wp2_with fail
         refine (zhw gf gl gt fn lb tn w51).mono ?_
         rintro e w52 ⟨rfl,kb⟩
         replace hr1:=zaa hr1 kb;replace hr2:=zaa hr2 kb;replace q0:=cellS kb q0;replace q1:=cellS kb q1;replace q2:=cellS kb q2;replace g0:=cellS kb g0;replace g1:=cellS kb g1;replace g2:=cellS kb g2;replace hbx:=onS hbx kb;clear kb
         refine bkq hK ⟨q0,q1,q2,g0,g1,g2⟩ (h:=fun hHeld=>?_)
         clear hK K
         refine tkq 19 (h:=tkq 20 (h:=tkq 21 (h:=?_)))
         refine wpAnyH_done (by kernel_rfl) ?_ _
         clear hHeld
         obtain ⟨lv,hlv2⟩:∃ x,x=lessV gf gl fn lb:=⟨_,rfl⟩
         rw [<-hlv2] at hlv ⊢;clear hlv2
         by_cases hl0:lv ≥ 0
         ·have q6:decide (lv ≥ 0)=true:=by simpa using hl0
          have q7:decide (0<=lv)=true:=by simpa using hl0
          have hE:=hid (HNO.out fun ho=>by have:=hlv.out.2 (HAF.out.1 ((HOK.out.1 ho).2.2 (by omega))); omega)
          have hWx:=zaB (zaN HB.out hbx)
          go_wp2
          go_ret
          exact ⟨zaf hE.out.symm,hWx⟩
         ·have q6:decide (lv ≥ 0)=false:=by simpa using hl0
          have q7:decide (0<=lv)=false:=by simpa using hl0
          have hok:=hid (HOK.out.2 ⟨by omega,by omega,fun h=>HAF.out.2 (hlv.out.1 (by omega))⟩)
          clear g0 g1 g2 q1
          go_upto_region 17 with fail
          obtain ⟨w60,hw60⟩:∃ W,W=w52:=⟨_,rfl⟩
          rw [<-hw60] at q0 q2 hr1 hr2 hbx ⊢;clear hw60
          refine wp_region_held_drew (S:=fun w'=>w'.cell? ⟨wj.heap.size,0,none⟩=some (.int .i64 fn)/\w'.cell? ⟨wj.heap.size,2,none⟩=some (.int .i64 tn)) (by kernel_rfl) ⟨cellS (Below.refl _ _).drew q0,cellS (Below.refl _ _).drew q2⟩ (fun hHeld=>?_)
          obtain ⟨w61,hw⟩:∃ W,W=World.drew w60:=⟨_,rfl⟩
          have kb:Below w60.heap.size w60 w61:=by rw [hw]; exact (Below.refl _ _).drew
          rw [<-hw] at hHeld ⊢;clear hw;replace hr1:=zaa hr1 kb;replace hr2:=zaa hr2 kb;replace q0:=cellS kb q0;replace q2:=cellS kb q2;replace hbx:=onS hbx kb;clear kb
          refine tkq 0 (h:=tkq 1 (h:=tkq 2 (h:=tkq 3 (h:=tkq 4 (h:=tkq 5 (h:=tkq 6 (h:=?_)))))))
          refine rdq 7 (h:=fun K hK=>?_)
          have hlx:=hr1.lt
          have u0:=hr1.cell (i:=fn) hfl
          have z0:=hr1.frozen fn
          skip
          go_simp
          replace q0:=zaI (p:=⟨b1,fn,none⟩) (u:=.bool true) q0 (by show wj.heap.size≠b1; omega)
          replace q2:=zaI (p:=⟨b1,fn,none⟩) (u:=.bool true) q2 (by show wj.heap.size≠b1; omega)
          replace hbx:=hbx.setCell (p:=⟨b1,fn,none⟩) hz1 (.bool true)
          replace hr2:=hr2.setOther (a:=⟨b1,fn,none⟩) (by simpa using hne') (.bool true)
          replace hr1:=hr1.set fn (.bool true)
          obtain ⟨w62,hw⟩:∃ W,W=World.setCell w61 ⟨b1,fn,none⟩ (.bool true):=⟨_,rfl⟩
          rw [<-hw] at q0 q2 hbx hr1 hr2 ⊢;clear hw u0 z0 hlx
          refine bkq hK ⟨q0,q2⟩ (h:=fun hHeld=>?_)
          clear hK K
          refine tkq 8 (h:=?_)
          refine rdq 9 (h:=fun K hK=>?_)
          have hlx:=hr2.lt
          have u0:=hr2.cell (i:=tn) htl
          have z0:=hr2.frozen tn
          skip
          go_simp
          replace q0:=zaI (p:=⟨b2,tn,none⟩) (u:=.bool true) q0 (by show wj.heap.size≠b2; omega)
          replace q2:=zaI (p:=⟨b2,tn,none⟩) (u:=.bool true) q2 (by show wj.heap.size≠b2; omega)
          replace hbx:=hbx.setCell (p:=⟨b2,tn,none⟩) hz2 (.bool true)
          replace hr1:=hr1.setOther (a:=⟨b2,tn,none⟩) (by simpa using hne) (.bool true)
          replace hr2:=hr2.set tn (.bool true)
          obtain ⟨w63,hw⟩:∃ W,W=World.setCell w62 ⟨b2,tn,none⟩ (.bool true):=⟨_,rfl⟩
          rw [<-hw] at q0 q2 hbx hr1 hr2 ⊢;clear hw u0 z0 hlx
          refine bkq hK ⟨q0,q2⟩ (h:=fun hHeld=>?_)
          clear hK K
          refine wpAnyH_done (by kernel_rfl) ?_ _
          clear hHeld
          have hs1:=hr1.congr (g:=fun v=>.bool (hitB (T.fr k) (jp+1+1) (v:Nat))) (HC1.out)
          have hs2:=hr2.congr (g:=fun v=>.bool (hitB (T.to k) (jp+1+1) (v:Nat))) (HC2.out)
          have HS1:=hid hs1
          have HS2:=hid hs2
          have HBX:=hid hbx
          clear hs1 hs2 hr1 hr2 hbx
          go_wp2
          go_roundg (gk - 1)
          case measure=>omega
          case rel=>exact ⟨jp+1+1,by go_num,by omega,by omega,HOKS.out hok.out,HS1.out,HS2.out,HBX.out⟩
       ·have hltj':¬ (j:Int)<(T.el k:Int):=by omega
        have hje:j=T.el k:=by omega
        have HALL3:Hid (∀ i,i<T.el k->T.edgeOk k i):=by rw [<-hje]; exact HALL2
        rw [hje] at hr1 hr2;clear HR1 HR2 HALL2
        go_wp2_with fail
        refine (zcy _ n1 n1 (fun v=>hitB (T.fr k) (T.el k) (v:Nat)) false wj (zbo hr1) (by omega)).mono ?_
        rintro e w2 ⟨⟨r1,rfl,hc1⟩,kb⟩
        replace hW:=onS hW kb;replace hr2:=zaa hr2 kb
        have hb2x:=onS HBj.out kb
        clear kb hr1
        cases r1
        ·have HA1:Hid (∀ i,i<n1->hitB (T.fr k) (T.el k) (i:Nat)=true):=fun i hi=>by
          cases hv:hitB (T.fr k) (T.el k) (i:Nat)
          ·exact absurd (hc1.2 ⟨i,hi,hv⟩) (by simp)
          ·rfl
         clear hc1
         go_wp2_with fail
         refine (zcy _ n2 n2 (fun v=>hitB (T.to k) (T.el k) (v:Nat)) false w2 (zbo hr2) (by omega)).mono ?_
         rintro e w3 ⟨⟨r2,rfl,hc2⟩,kb⟩
         replace hW:=onS hW kb;replace hb2x:=onS hb2x kb;clear kb hr2
         cases r2
         ·have HN:Hid (∀ i,i<k+1->T.secOk i):=fun i hi=>by
           by_cases e:i=k
           ·subst e
            refine ⟨HALL3.out,fun v hv=>HA1.out v (by have:=HN1.out; omega),fun v hv=>?_⟩
            cases hv2:hitB (T.to i) (T.el i) (v:Nat)
            ·exact absurd (hc2.2 ⟨v,by have:=HN2.out; omega,hv2⟩) (by simp)
            ·rfl
           ·exact HALL.out i (by omega)
          have HFIN:=hid (zaN HB.out hb2x)
          clear hc2
          go_wp2
          go_roundg (gK - 1)
          case measure=>omega
          case rel=>exact ⟨k+1,by go_num,by omega,by omega,HN.out,HFIN.out⟩
         ·have hE:=hid (HBAD.out fun hs=>by
           obtain ⟨i,hi,e⟩:=hc2.1 rfl
           have:=hs.2.2 i (by have:=HN2.out; omega)
           rw [e] at this
           cases this)
          clear hc2
          go_wp2
          go_ret
          exact ⟨zaf hE.out.symm,hW⟩
        ·have hE:=hid (HBAD.out fun hs=>by
          obtain ⟨i,hi,e⟩:=hc1.1 rfl
          have:=hs.2.1 i (by have:=HN1.out; omega)
          rw [e] at this
          cases this)
         clear hc1
         go_wp2
         go_ret
         exact ⟨zaf hE.out.symm,hW⟩
     ·have hlt':¬ (k:Int)<(T.n:Int):=by omega
      have hE:=hid (T.properE_ok HS0.out HW0.out HWN.out fun i hi=>HALL.out i (by omega))
      go_wp2
      go_ret
      exact ⟨zaf hE.out.symm,hW⟩
   ·have c1:(u1 != 1)=true:=by simp [h1]
    have hE:=hid (T.properE_end HS0.out (.inr (by rw [<-HU1.out]; exact h1)))
    go_wp2
    go_ret
    exact ⟨zaf hE.out.symm,hW⟩
  ·have c0:(u0 != 1)=true:=by simp [h0]
   have hE:=hid (T.properE_end HS0.out (.inl (by rw [<-HU0.out]; exact h0)))
   go_wp2
   go_ret
   exact ⟨zaf hE.out.symm,hW⟩
 ·have hE:=hid (Trel.properE_shape hs)
  have hn:(T.shapeE != 0)=true:=by simpa using hs
  obtain ⟨x,hx⟩:∃ x,x=T.shapeE:=⟨_,rfl⟩
  rw [<-hx] at hE hn ⊢;clear hs hx
  go_wp2
  go_ret
  exact ⟨zaf hE.out.symm,hW⟩
end Go.Proofs.YtioagplajkoohaaGreat