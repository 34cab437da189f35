/- Merged texts of a claim: Rat13, RatC. -/
import Derived.Test.YtioagplajkoohaaGreatTF8
import Derived.BigQuiet
namespace Go.Proofs.YtioagplajkoohaaGreat
set_option maxRecDepth 100000
set_option maxHeartbeats 32000000
open KA KB KC KE
open Go.RowKit
def prodR (rs:Nat->Rat):Nat->Rat
 | 0=>1
 | k+1=>prodR rs k*rs k
theorem zgZ (T:Option Addr) (m c N:Nat) (rs:Nat->Rat) (w:World) (h:RatTab w w.heap.size T m rs N) (hm:m<=1048576) (hN:N<=33554432) (hs:Hid (∀ k,k<=m->rsz (prodR rs k) N)) (hr:Hid (∀ k,k<m->rsz (rs k) N)) :
  Calls Tryz.prog 89 #[.slice T m c] w (RatPost (prodR rs m) w):=by
 have hB:=zab w (.cells #[.bool false,.slice none 0 0,.slice none 0 0] 49)
 have rz:=zae (w:=w) (a:=.bool false) (b:=.slice none 0 0) (c:=.slice none 0 0) (T := 49)
 obtain ⟨w0,hw0⟩:∃ W,W=w.alloc (.cells #[.bool false,.slice none 0 0,.slice none 0 0] 49):=⟨_,rfl⟩
 rw [<-hw0] at hB rz
 go_enter Tryz.func89, Tryz.ntmps89
 go_upto_region 1 with fail
 rw [<-hw0];clear hw0
 go_wp2_with fail
 refine (zbS _).mono ?_
 rintro e w1 ⟨rfl,o1,kb⟩
 replace rz:=zaa rz kb;replace hB:=onS hB kb;clear kb
 go_wp2_with fail
 refine (zbS _).mono ?_
 rintro e w2 ⟨rfl,o2,kb⟩
 replace rz:=zaa rz kb;replace hB:=onS hB kb;replace o1:=o1.on kb;clear kb
 have hd1:dl (1:Rat).num.natAbs=1:=zb4
 have hd2:dl (1:Rat).den=1:=zb4
 obtain ⟨g1,hg1⟩:∃ g,g=w0.heap.size:=⟨_,rfl⟩
 obtain ⟨g2,hg2⟩:∃ g,g=w1.heap.size:=⟨_,rfl⟩
 rw [<-hg1] at o1;rw [<-hg2] at o2
 go_wp2
 rw [<-hg1,<-hg2];clear hg1 hg2
 go_loopg [3,4,5,13] m (fun gg v3 v4 v5 iv wx=>∃ k:Nat,∃ Sa sc Sb sd,v3=.bool (rneg (prodR rs k))/\v4=.slice Sa (dl (prodR rs k).num.natAbs) sc/\v5=.slice Sb (dl (prodR rs k).den) sd/\iv=.int .i64 (k:Nat)/\k<=m/\m<=k+gg/\dl (prodR rs k).num.natAbs<=sc/\sc<=maxLen/\dl (prodR rs k).den<=sd/\sd<=maxLen/\NatOk wx wx.heap.size Sa (prodR rs k).num.natAbs/\NatOk wx wx.heap.size Sb (prodR rs k).den/\wx.rowIs w.heap.size 49 3 (ratCell (.bool false) (.slice none 0 0) (.slice none 0 0))/\Below w.heap.size w wx)
 case atStart=>exact ⟨0,some ⟨g1,0,none⟩,1,some ⟨g2,0,none⟩,1,rfl,by show _=Value.slice _ (dl (1:Rat).num.natAbs) _; rw [hd1],by show _=Value.slice _ (dl (1:Rat).den) _; rw [hd2],rfl,by omega,by omega,by show dl (1:Rat).num.natAbs<=1; omega,by unfold maxLen; omega,by show dl (1:Rat).den<=1; omega,by unfold maxLen; omega,o1,o2,rz,hB⟩
 case round =>
  clear o1 o2 rz hB
  obtain ⟨k,Sa,sc,Sb,sd,rfl,rfl,rfl,rfl,hk,hkg,c1,c2,c3,c4,s1,s2,rz,hB⟩:=hrel
  have HSK:=hs.out k hk
  by_cases hlt:k<m
  ·have hlt':(k:Int)<(m:Int):=by omega
   obtain ⟨b,off,s,A,n,c',A2,n2,c2',rfl,hb,t0,t1,t2,hraw⟩:=h.on hB k hlt
   have HRK:=hr.out k hlt
   have HSK2:=hs.out (k+1) (by omega)
   obtain ⟨S,hS⟩:∃ S,S=prodR rs k:=⟨_,rfl⟩
   obtain ⟨rk,hrk⟩:∃ S,S=rs k:=⟨_,rfl⟩
   have hnext:prodR rs (k+1)=S*rk:=by rw [hS,hrk]; rfl
   rw [<-hS] at c1 c3 s1 s2 HSK ⊢;rw [<-hrk] at hraw HRK
   have HNX:=hid hnext
   rw [hnext] at HSK2;clear hS hrk hnext
   have hr1:=HSK.1
   have hr2:=HSK.2
   have hr3:=HRK.1
   have hr4:=HRK.2
   have hx:=dl_mul_le' (show dl S.num.natAbs<=N from hr1) (show dl rk.num.natAbs<=N from hr3)
   have hy:=dl_mul_le' (show dl S.den<=N from hr2) (show dl rk.den<=N from hr4)
   have HR:=hid (zkc S rk)
   have kb:=zab wr (.cells #[.bool s,.slice A n c',.slice A2 n2 c2'] 49)
   have rt:=zae (w:=wr) (a:=.bool s) (b:=.slice A n c') (c:=.slice A2 n2 c2') (T := 49)
   have hgz:=rz.lt
   replace s1:=s1.on kb;replace s2:=s2.on kb;replace rz:=zaa rz kb;replace hB:=onS hB kb;replace hraw:=hraw.on kb;clear kb
   obtain ⟨w4,hw4⟩:∃ W,W=wr.alloc (.cells #[.bool s,.slice A n c',.slice A2 n2 c2'] 49):=⟨_,rfl⟩
   rw [<-hw4] at s1 s2 rz hB hraw rt
   obtain ⟨h5,hh5⟩:∃ g,g=wr.heap.size:=⟨_,rfl⟩
   rw [<-hh5] at rt hgz
   have hne:=hgz
   go_upto_region 5 with fail
   rw [<-hh5,<-hw4];clear hw4 hh5 t0 t1 t2
   have lt0:=qc0 rt
   have lt1:=qc1 rt
   have lt2:=qc2 rt
   have hgs:=hB.size
   have hle5:w.heap.size<=h5:=by omega
   go_wp2_with fail
   refine (zbz _ rk N _ hraw (by omega)).mono ?_
   rintro e w5 ⟨Aa,ca,Ba,da,rfl,ma1,ma2,ma3,ma4,ma5,ma6,kb⟩
   replace s1:=s1.on kb;replace s2:=s2.on kb;replace rz:=zaa rz kb;replace hB:=onS hB kb;replace hraw:=hraw.on kb;replace rt:=zaa rt kb;clear kb;clear hraw lt0 lt1 lt2
   have hsz:=hB.size
   have za0:=rt.frozen 0
   have za1:=rt.frozen 1
   have za2:=rt.frozen 2
   have ya0:=qc0 rt
   have ya1:=qc1 rt
   have ya2:=qc2 rt
   go_upto_region 6 with fail
   generalize hw3:World.setCell _ _ _=w6
   have hst:RatStored w5 (h5) 49 (rneg rk) (Aa) (dl rk.num.natAbs) (ca) (Ba) (dl rk.den) (da) w6:=by rw [<-hw3]; exact zaf rt _ _ _ _ _ _ _
   clear hw3;replace s1:=hst.nat _ _ _ s1;rw [<-hst.size] at s1;replace s2:=hst.nat _ _ _ s2;rw [<-hst.size] at s2
   replace rz:=zad rz hst.grown (by omega)
   replace hB:=hst.below hB (by omega) (by omega)
   replace rt:=hst.row;replace ma1:=hst.nat _ _ _ ma1;rw [<-hst.size] at ma1;replace ma2:=hst.nat _ _ _ ma2;rw [<-hst.size] at ma2;clear hst;clear hsz za0 za1 za2 ya0 ya1 ya2 hgs
   go_cut [8] (fun v8 wx=>∃ g8 Am cm Bm dm,v8=.pointer (some ⟨g8,0,none⟩)/\NatOk wx wx.heap.size Am (S*rk).num.natAbs/\NatOk wx wx.heap.size Bm (S*rk).den/\dl (S*rk).num.natAbs<=cm/\cm<=maxLen/\dl (S*rk).den<=dm/\dm<=maxLen/\wx.rowIs g8 49 3 (ratCell (.bool (rneg (S*rk))) (.slice Am (dl (S*rk).num.natAbs) cm) (.slice Bm (dl (S*rk).den) dm))/\Below w6.heap.size w6 wx)
   case first =>
    have kw:=Below.refl w6.heap.size w6
    clear hs hr h HNX rz hB HSK2
    have HS:Hid (∀ w':World,w'.rowIs h5 49 3 (ratCell (.bool (rneg rk)) (.slice (Aa) (dl rk.num.natAbs) (ca)) (.slice (Ba) (dl rk.den) (da)))->w'.cell? ⟨h5,0,none⟩=some (.bool (rneg rk))/\w'.cell? ⟨h5,1,none⟩=some (.slice (Aa) (dl rk.num.natAbs) (ca))/\w'.cell? ⟨h5,2,none⟩=some (.slice (Ba) (dl rk.den) (da))):=fun w' h2=>⟨h2.cell (i:=0) (by omega),h2.cell (i:=1) (by omega),h2.cell (i:=2) (by omega)⟩
    refine wp_region_held_drew (S:=fun w'=>w'.cell? ⟨h5,0,none⟩=some (.bool (rneg rk))/\w'.cell? ⟨h5,1,none⟩=some (.slice (Aa) (dl rk.num.natAbs) (ca))/\w'.cell? ⟨h5,2,none⟩=some (.slice (Ba) (dl rk.den) (da))) (by kernel_rfl) (HS.out _ (show World.rowIs (World.drew _) _ _ _ _ from rt)) (fun hHeld=>?_)
    obtain ⟨w7,hw⟩:∃ W,W=World.drew w6:=⟨_,rfl⟩
    have kb:Below w6.heap.size w6 w7:=by rw [hw]; exact (Below.refl _ _).drew
    rw [<-hw] at hHeld ⊢;clear hw;replace s1:=s1.on kb;replace s2:=s2.on kb;replace rt:=zaa rt kb;replace ma1:=ma1.on kb;replace ma2:=ma2.on kb;replace kw:=onS kw kb;clear kb
    refine tkq 0 (h:=tkq 1 (h:=tkq 2 (h:=tkq 3 (h:=tkq 4 (h:=tkq 5 (h:=tkq 6 (h:=tkq 9 (h:=tkq 10 (h:=tkq 11 (h:=?_))))))))))
    refine wpAnyH_ready (rs:=[7,12,15]) (by kernel_rfl) (by simp) ?_
    refine AllReadyH.cons (by simp only [List.getElem?_toArray,List.getElem?_cons_succ,List.getElem?_cons_zero]; rfl) (fun K hK=>?_) (AllReadyH.cons (by simp only [List.getElem?_toArray,List.getElem?_cons_succ,List.getElem?_cons_zero]; rfl) (fun K hK=>?_) (AllReadyH.cons (by simp only [List.getElem?_toArray,List.getElem?_cons_succ,List.getElem?_cons_zero]; rfl) (fun K hK=>?_) AllReadyH.nil))
    focus
     go_simp
     obtain ⟨w8,hw⟩:∃ W,W=World.alloc w7 (Obj.cells #[.slice Sa (dl (S.num.natAbs)) sc,.slice Aa (dl (rk.num.natAbs)) ca] 47):=⟨_,rfl⟩
     have kb:Below w7.heap.size w7 w8:=by rw [hw]; exact zab _ _
     have tbp:NatTab w8 w8.heap.size (some ⟨w7.heap.size,0,none⟩) 2 (pairF (S.num.natAbs) (rk.num.natAbs)):=NatTab.letter hw (zak 47 s1 ma1 c1 ma3 c2 ma4)
     rw [<-hw];clear hw;replace s1:=s1.on kb;replace s2:=s2.on kb;replace rt:=zaa rt kb;replace ma1:=ma1.on kb;replace ma2:=ma2.on kb;replace kw:=onS kw kb;clear kb
     obtain ⟨gp,hg⟩:∃ g,g=w7.heap.size:=⟨_,rfl⟩
     rw [<-hg] at tbp ⊢;clear hg
     refine bkq hK (HS.out _ rt) (h:=fun hHeld=>?_)
     clear hK K
     refine wpAnyH_ready (rs:=[8,12,15]) (by kernel_rfl) (by simp) ?_
     refine AllReadyH.cons (by simp only [List.getElem?_toArray,List.getElem?_cons_succ,List.getElem?_cons_zero]; rfl) (fun K hK=>?_) (AllReadyH.cons (by simp only [List.getElem?_toArray,List.getElem?_cons_succ,List.getElem?_cons_zero]; rfl) (fun K hK=>?_) (AllReadyH.cons (by simp only [List.getElem?_toArray,List.getElem?_cons_succ,List.getElem?_cons_zero]; rfl) (fun K hK=>?_) AllReadyH.nil))
     focus
      go_simp
      go_wp2_with fail
      refine (zax (x:=S.num.natAbs) (y:=rk.num.natAbs) tbp (by omega) (by omega) (by omega)).mono ?_
      rintro e w9 ⟨Xx,kx,rfl,ux1,ux2,ux3,kb⟩
      replace s1:=s1.on kb;replace s2:=s2.on kb;replace rt:=zaa rt kb;replace ma1:=ma1.on kb;replace ma2:=ma2.on kb;replace kw:=onS kw kb;replace tbp:=tbp.on kb;clear kb;clear tbp
      refine bkq hK (HS.out _ rt) (h:=fun hHeld=>?_)
      clear hK K
      refine rdq2 12 15 (h:=fun K hK=>?_) (h2:=fun K hK=>?_)
      focus
       go_simp
       obtain ⟨w10,hw⟩:∃ W,W=World.alloc w9 (Obj.cells #[.slice Sb (dl (S.den)) sd,.slice Ba (dl (rk.den)) da] 47):=⟨_,rfl⟩
       have kb:Below w9.heap.size w9 w10:=by rw [hw]; exact zab _ _
       have tbq:NatTab w10 w10.heap.size (some ⟨w9.heap.size,0,none⟩) 2 (pairF (S.den) (rk.den)):=NatTab.letter hw (zak 47 s2 ma2 c3 ma5 c4 ma6)
       rw [<-hw];clear hw;replace s1:=s1.on kb;replace s2:=s2.on kb;replace rt:=zaa rt kb;replace ma1:=ma1.on kb;replace ma2:=ma2.on kb;replace kw:=onS kw kb;replace ux3:=ux3.on kb;clear kb
       obtain ⟨gq,hg⟩:∃ g,g=w9.heap.size:=⟨_,rfl⟩
       rw [<-hg] at tbq ⊢;clear hg
       refine bkq hK (HS.out _ rt) (h:=fun hHeld=>?_)
       clear hK K
       refine rdq2 13 15 (h:=fun K hK=>?_) (h2:=fun K hK=>?_)
       focus
        go_simp
        go_wp2_with fail
        refine (zax (x:=S.den) (y:=rk.den) tbq (by omega) (by omega) (by omega)).mono ?_
        rintro e w11 ⟨Xy,ky,rfl,uy1,uy2,uy3,kb⟩
        replace s1:=s1.on kb;replace s2:=s2.on kb;replace rt:=zaa rt kb;replace ma1:=ma1.on kb;replace ma2:=ma2.on kb;replace kw:=onS kw kb;replace ux3:=ux3.on kb;replace tbq:=tbq.on kb;clear kb;clear tbq
        refine bkq hK (HS.out _ rt) (h:=fun hHeld=>?_)
        clear hK K
        refine rdq2 14 15 (h:=fun K hK=>?_) (h2:=fun K hK=>?_)
        focus
         go_simp
         go_wp2_with fail
         refine (zah (rneg S != rneg rk) Xx Xy (dl (S.num.natAbs*rk.num.natAbs)) kx (dl (S.den*rk.den)) ky (S.num.natAbs*rk.num.natAbs) (S.den*rk.den) _ ux3.raw uy3.raw ux1 ux2 uy1 uy2 (by omega) (by omega)).mono ?_
         rintro e w12 ⟨Am,cm,Bm,dm,rfl,mm1,mm2,mm3,mm4,mm5,mm6,kb⟩
         replace s1:=s1.on kb;replace s2:=s2.on kb;replace rt:=zaa rt kb;replace ma1:=ma1.on kb;replace ma2:=ma2.on kb;replace kw:=onS kw kb;replace ux3:=ux3.on kb;replace uy3:=uy3.on kb;clear kb;rw [HR.out] at mm1 mm2 mm3 mm5 ⊢
         obtain ⟨q,hq⟩:∃ q,q=S*rk:=⟨_,rfl⟩
         rw [<-hq] at mm1 mm2 mm3 mm5 ⊢
         have HQL:=hid hq
         obtain ⟨ngq,hngq⟩:∃ b,b=rneg q:=⟨_,rfl⟩
         rw [<-hngq]
         have HNG:=hid hngq
         clear hq hngq
         refine bkq hK (HS.out _ rt) (h:=fun hHeld=>?_)
         clear hK K
         refine rdq 15 (h:=fun K hK=>?_)
         go_simp
         obtain ⟨w13,hw⟩:∃ W,W=World.alloc w12 (.cells #[.bool false,.slice none 0 0,.slice none 0 0] 49):=⟨_,rfl⟩
         have kb:Below w12.heap.size w12 w13:=by rw [hw]; exact zab _ _
         have r8:World.rowIs w13 w12.heap.size 49 3 (ratCell (.bool false) (.slice none 0 0) (.slice none 0 0)):=by rw [hw]; exact zae
         rw [<-hw];clear hw
         have hsz8:=kw.size
         have hrt8:=rt.lt
         replace s1:=s1.on kb;replace s2:=s2.on kb;replace rt:=zaa rt kb;replace ma1:=ma1.on kb;replace ma2:=ma2.on kb;replace kw:=onS kw kb;replace ux3:=ux3.on kb;replace uy3:=uy3.on kb;replace mm1:=mm1.on kb;replace mm2:=mm2.on kb;clear kb
         obtain ⟨g8,hg⟩:∃ g,g=w12.heap.size:=⟨_,rfl⟩
         rw [<-hg] at r8 hsz8 hrt8 ⊢;clear hg
         refine bkq hK (HS.out _ rt) (h:=fun hHeld=>?_)
         clear hK K
        rotate_left
        focus
         go_simp
         obtain ⟨w12,hw⟩:∃ W,W=World.alloc w11 (.cells #[.bool false,.slice none 0 0,.slice none 0 0] 49):=⟨_,rfl⟩
         have kb:Below w11.heap.size w11 w12:=by rw [hw]; exact zab _ _
         have r8:World.rowIs w12 w11.heap.size 49 3 (ratCell (.bool false) (.slice none 0 0) (.slice none 0 0)):=by rw [hw]; exact zae
         rw [<-hw];clear hw
         have hsz8:=kw.size
         have hrt8:=rt.lt
         replace s1:=s1.on kb;replace s2:=s2.on kb;replace rt:=zaa rt kb;replace ma1:=ma1.on kb;replace ma2:=ma2.on kb;replace kw:=onS kw kb;replace ux3:=ux3.on kb;replace uy3:=uy3.on kb;clear kb
         obtain ⟨g8,hg⟩:∃ g,g=w11.heap.size:=⟨_,rfl⟩
         rw [<-hg] at r8 hsz8 hrt8 ⊢;clear hg
         refine bkq hK (HS.out _ rt) (h:=fun hHeld=>?_)
         clear hK K
         refine rdq 14 (h:=fun K hK=>?_)
         go_simp
         go_wp2_with fail
         refine (zah (rneg S != rneg rk) Xx Xy (dl (S.num.natAbs*rk.num.natAbs)) kx (dl (S.den*rk.den)) ky (S.num.natAbs*rk.num.natAbs) (S.den*rk.den) _ ux3.raw uy3.raw ux1 ux2 uy1 uy2 (by omega) (by omega)).mono ?_
         rintro e w13 ⟨Am,cm,Bm,dm,rfl,mm1,mm2,mm3,mm4,mm5,mm6,kb⟩
         replace s1:=s1.on kb;replace s2:=s2.on kb;replace rt:=zaa rt kb;replace ma1:=ma1.on kb;replace ma2:=ma2.on kb;replace kw:=onS kw kb;replace ux3:=ux3.on kb;replace uy3:=uy3.on kb;replace r8:=zaa r8 kb;clear kb;rw [HR.out] at mm1 mm2 mm3 mm5 ⊢
         obtain ⟨q,hq⟩:∃ q,q=S*rk:=⟨_,rfl⟩
         rw [<-hq] at mm1 mm2 mm3 mm5 ⊢
         have HQL:=hid hq
         obtain ⟨ngq,hngq⟩:∃ b,b=rneg q:=⟨_,rfl⟩
         rw [<-hngq]
         have HNG:=hid hngq
         clear hq hngq
         refine bkq hK (HS.out _ rt) (h:=fun hHeld=>?_)
         clear hK K
        rotate_left
       rotate_left 2
       focus
        go_simp
        obtain ⟨w11,hw⟩:∃ W,W=World.alloc w10 (.cells #[.bool false,.slice none 0 0,.slice none 0 0] 49):=⟨_,rfl⟩
        have kb:Below w10.heap.size w10 w11:=by rw [hw]; exact zab _ _
        have r8:World.rowIs w11 w10.heap.size 49 3 (ratCell (.bool false) (.slice none 0 0) (.slice none 0 0)):=by rw [hw]; exact zae
        rw [<-hw];clear hw
        have hsz8:=kw.size
        have hrt8:=rt.lt
        replace s1:=s1.on kb;replace s2:=s2.on kb;replace rt:=zaa rt kb;replace ma1:=ma1.on kb;replace ma2:=ma2.on kb;replace kw:=onS kw kb;replace ux3:=ux3.on kb;replace tbq:=tbq.on kb;clear kb
        obtain ⟨g8,hg⟩:∃ g,g=w10.heap.size:=⟨_,rfl⟩
        rw [<-hg] at r8 hsz8 hrt8 ⊢;clear hg
        refine bkq hK (HS.out _ rt) (h:=fun hHeld=>?_)
        clear hK K
        refine rdq 13 (h:=fun K hK=>?_)
        go_simp
        go_wp2_with fail
        refine (zax (x:=S.den) (y:=rk.den) tbq (by omega) (by omega) (by omega)).mono ?_
        rintro e w12 ⟨Xy,ky,rfl,uy1,uy2,uy3,kb⟩
        replace s1:=s1.on kb;replace s2:=s2.on kb;replace rt:=zaa rt kb;replace ma1:=ma1.on kb;replace ma2:=ma2.on kb;replace kw:=onS kw kb;replace ux3:=ux3.on kb;replace tbq:=tbq.on kb;replace r8:=zaa r8 kb;clear kb;clear tbq
        refine bkq hK (HS.out _ rt) (h:=fun hHeld=>?_)
        clear hK K
        refine rdq 14 (h:=fun K hK=>?_)
        go_simp
        go_wp2_with fail
        refine (zah (rneg S != rneg rk) Xx Xy (dl (S.num.natAbs*rk.num.natAbs)) kx (dl (S.den*rk.den)) ky (S.num.natAbs*rk.num.natAbs) (S.den*rk.den) _ ux3.raw uy3.raw ux1 ux2 uy1 uy2 (by omega) (by omega)).mono ?_
        rintro e w13 ⟨Am,cm,Bm,dm,rfl,mm1,mm2,mm3,mm4,mm5,mm6,kb⟩
        replace s1:=s1.on kb;replace s2:=s2.on kb;replace rt:=zaa rt kb;replace ma1:=ma1.on kb;replace ma2:=ma2.on kb;replace kw:=onS kw kb;replace ux3:=ux3.on kb;replace r8:=zaa r8 kb;replace uy3:=uy3.on kb;clear kb;rw [HR.out] at mm1 mm2 mm3 mm5 ⊢
        obtain ⟨q,hq⟩:∃ q,q=S*rk:=⟨_,rfl⟩
        rw [<-hq] at mm1 mm2 mm3 mm5 ⊢
        have HQL:=hid hq
        obtain ⟨ngq,hngq⟩:∃ b,b=rneg q:=⟨_,rfl⟩
        rw [<-hngq]
        have HNG:=hid hngq
        clear hq hngq
        refine bkq hK (HS.out _ rt) (h:=fun hHeld=>?_)
        clear hK K
       rotate_left
      rotate_left 3
      focus
       go_simp
       obtain ⟨w10,hw⟩:∃ W,W=World.alloc w9 (.cells #[.bool false,.slice none 0 0,.slice none 0 0] 49):=⟨_,rfl⟩
       have kb:Below w9.heap.size w9 w10:=by rw [hw]; exact zab _ _
       have r8:World.rowIs w10 w9.heap.size 49 3 (ratCell (.bool false) (.slice none 0 0) (.slice none 0 0)):=by rw [hw]; exact zae
       rw [<-hw];clear hw
       have hsz8:=kw.size
       have hrt8:=rt.lt
       replace s1:=s1.on kb;replace s2:=s2.on kb;replace rt:=zaa rt kb;replace ma1:=ma1.on kb;replace ma2:=ma2.on kb;replace kw:=onS kw kb;replace ux3:=ux3.on kb;clear kb
       obtain ⟨g8,hg⟩:∃ g,g=w9.heap.size:=⟨_,rfl⟩
       rw [<-hg] at r8 hsz8 hrt8 ⊢;clear hg
       refine bkq hK (HS.out _ rt) (h:=fun hHeld=>?_)
       clear hK K
       refine rdq 12 (h:=fun K hK=>?_)
       go_simp
       obtain ⟨w11,hw⟩:∃ W,W=World.alloc w10 (Obj.cells #[.slice Sb (dl (S.den)) sd,.slice Ba (dl (rk.den)) da] 47):=⟨_,rfl⟩
       have kb:Below w10.heap.size w10 w11:=by rw [hw]; exact zab _ _
       have tbq:NatTab w11 w11.heap.size (some ⟨w10.heap.size,0,none⟩) 2 (pairF (S.den) (rk.den)):=NatTab.letter hw (zak 47 s2 ma2 c3 ma5 c4 ma6)
       rw [<-hw];clear hw;replace s1:=s1.on kb;replace s2:=s2.on kb;replace rt:=zaa rt kb;replace ma1:=ma1.on kb;replace ma2:=ma2.on kb;replace kw:=onS kw kb;replace ux3:=ux3.on kb;replace r8:=zaa r8 kb;clear kb
       obtain ⟨gq,hg⟩:∃ g,g=w10.heap.size:=⟨_,rfl⟩
       rw [<-hg] at tbq ⊢;clear hg
       refine bkq hK (HS.out _ rt) (h:=fun hHeld=>?_)
       clear hK K
       refine rdq 13 (h:=fun K hK=>?_)
       go_simp
       go_wp2_with fail
       refine (zax (x:=S.den) (y:=rk.den) tbq (by omega) (by omega) (by omega)).mono ?_
       rintro e w12 ⟨Xy,ky,rfl,uy1,uy2,uy3,kb⟩
       replace s1:=s1.on kb;replace s2:=s2.on kb;replace rt:=zaa rt kb;replace ma1:=ma1.on kb;replace ma2:=ma2.on kb;replace kw:=onS kw kb;replace ux3:=ux3.on kb;replace r8:=zaa r8 kb;replace tbq:=tbq.on kb;clear kb;clear tbq
       refine bkq hK (HS.out _ rt) (h:=fun hHeld=>?_)
       clear hK K
       refine rdq 14 (h:=fun K hK=>?_)
       go_simp
       go_wp2_with fail
       refine (zah (rneg S != rneg rk) Xx Xy (dl (S.num.natAbs*rk.num.natAbs)) kx (dl (S.den*rk.den)) ky (S.num.natAbs*rk.num.natAbs) (S.den*rk.den) _ ux3.raw uy3.raw ux1 ux2 uy1 uy2 (by omega) (by omega)).mono ?_
       rintro e w13 ⟨Am,cm,Bm,dm,rfl,mm1,mm2,mm3,mm4,mm5,mm6,kb⟩
       replace s1:=s1.on kb;replace s2:=s2.on kb;replace rt:=zaa rt kb;replace ma1:=ma1.on kb;replace ma2:=ma2.on kb;replace kw:=onS kw kb;replace ux3:=ux3.on kb;replace r8:=zaa r8 kb;replace uy3:=uy3.on kb;clear kb;rw [HR.out] at mm1 mm2 mm3 mm5 ⊢
       obtain ⟨q,hq⟩:∃ q,q=S*rk:=⟨_,rfl⟩
       rw [<-hq] at mm1 mm2 mm3 mm5 ⊢
       have HQL:=hid hq
       obtain ⟨ngq,hngq⟩:∃ b,b=rneg q:=⟨_,rfl⟩
       rw [<-hngq]
       have HNG:=hid hngq
       clear hq hngq
       refine bkq hK (HS.out _ rt) (h:=fun hHeld=>?_)
       clear hK K
      rotate_left
     rotate_left 4
     focus
      go_simp
      obtain ⟨w9,hw⟩:∃ W,W=World.alloc w8 (Obj.cells #[.slice Sb (dl (S.den)) sd,.slice Ba (dl (rk.den)) da] 47):=⟨_,rfl⟩
      have kb:Below w8.heap.size w8 w9:=by rw [hw]; exact zab _ _
      have tbq:NatTab w9 w9.heap.size (some ⟨w8.heap.size,0,none⟩) 2 (pairF (S.den) (rk.den)):=NatTab.letter hw (zak 47 s2 ma2 c3 ma5 c4 ma6)
      rw [<-hw];clear hw;replace s1:=s1.on kb;replace s2:=s2.on kb;replace rt:=zaa rt kb;replace ma1:=ma1.on kb;replace ma2:=ma2.on kb;replace kw:=onS kw kb;replace tbp:=tbp.on kb;clear kb
      obtain ⟨gq,hg⟩:∃ g,g=w8.heap.size:=⟨_,rfl⟩
      rw [<-hg] at tbq ⊢;clear hg
      refine bkq hK (HS.out _ rt) (h:=fun hHeld=>?_)
      clear hK K
      refine rdq2 8 15 (h:=fun K hK=>?_) (h2:=fun K hK=>?_)
      focus
       go_simp
       go_wp2_with fail
       refine (zax (x:=S.num.natAbs) (y:=rk.num.natAbs) tbp (by omega) (by omega) (by omega)).mono ?_
       rintro e w10 ⟨Xx,kx,rfl,ux1,ux2,ux3,kb⟩
       replace s1:=s1.on kb;replace s2:=s2.on kb;replace rt:=zaa rt kb;replace ma1:=ma1.on kb;replace ma2:=ma2.on kb;replace kw:=onS kw kb;replace tbp:=tbp.on kb;replace tbq:=tbq.on kb;clear kb;clear tbp
       refine bkq hK (HS.out _ rt) (h:=fun hHeld=>?_)
       clear hK K
       refine rdq2 13 15 (h:=fun K hK=>?_) (h2:=fun K hK=>?_)
       focus
        go_simp
        go_wp2_with fail
        refine (zax (x:=S.den) (y:=rk.den) tbq (by omega) (by omega) (by omega)).mono ?_
        rintro e w11 ⟨Xy,ky,rfl,uy1,uy2,uy3,kb⟩
        replace s1:=s1.on kb;replace s2:=s2.on kb;replace rt:=zaa rt kb;replace ma1:=ma1.on kb;replace ma2:=ma2.on kb;replace kw:=onS kw kb;replace tbq:=tbq.on kb;replace ux3:=ux3.on kb;clear kb;clear tbq
        refine bkq hK (HS.out _ rt) (h:=fun hHeld=>?_)
        clear hK K
        refine rdq2 14 15 (h:=fun K hK=>?_) (h2:=fun K hK=>?_)
        focus
         go_simp
         go_wp2_with fail
         refine (zah (rneg S != rneg rk) Xx Xy (dl (S.num.natAbs*rk.num.natAbs)) kx (dl (S.den*rk.den)) ky (S.num.natAbs*rk.num.natAbs) (S.den*rk.den) _ ux3.raw uy3.raw ux1 ux2 uy1 uy2 (by omega) (by omega)).mono ?_
         rintro e w12 ⟨Am,cm,Bm,dm,rfl,mm1,mm2,mm3,mm4,mm5,mm6,kb⟩
         replace s1:=s1.on kb;replace s2:=s2.on kb;replace rt:=zaa rt kb;replace ma1:=ma1.on kb;replace ma2:=ma2.on kb;replace kw:=onS kw kb;replace ux3:=ux3.on kb;replace uy3:=uy3.on kb;clear kb;rw [HR.out] at mm1 mm2 mm3 mm5 ⊢
         obtain ⟨q,hq⟩:∃ q,q=S*rk:=⟨_,rfl⟩
         rw [<-hq] at mm1 mm2 mm3 mm5 ⊢
         have HQL:=hid hq
         obtain ⟨ngq,hngq⟩:∃ b,b=rneg q:=⟨_,rfl⟩
         rw [<-hngq]
         have HNG:=hid hngq
         clear hq hngq
         refine bkq hK (HS.out _ rt) (h:=fun hHeld=>?_)
         clear hK K
         refine rdq 15 (h:=fun K hK=>?_)
         go_simp
         obtain ⟨w13,hw⟩:∃ W,W=World.alloc w12 (.cells #[.bool false,.slice none 0 0,.slice none 0 0] 49):=⟨_,rfl⟩
         have kb:Below w12.heap.size w12 w13:=by rw [hw]; exact zab _ _
         have r8:World.rowIs w13 w12.heap.size 49 3 (ratCell (.bool false) (.slice none 0 0) (.slice none 0 0)):=by rw [hw]; exact zae
         rw [<-hw];clear hw
         have hsz8:=kw.size
         have hrt8:=rt.lt
         replace s1:=s1.on kb;replace s2:=s2.on kb;replace rt:=zaa rt kb;replace ma1:=ma1.on kb;replace ma2:=ma2.on kb;replace kw:=onS kw kb;replace ux3:=ux3.on kb;replace uy3:=uy3.on kb;replace mm1:=mm1.on kb;replace mm2:=mm2.on kb;clear kb
         obtain ⟨g8,hg⟩:∃ g,g=w12.heap.size:=⟨_,rfl⟩
         rw [<-hg] at r8 hsz8 hrt8 ⊢;clear hg
         refine bkq hK (HS.out _ rt) (h:=fun hHeld=>?_)
         clear hK K
        rotate_left
        focus
         go_simp
         obtain ⟨w12,hw⟩:∃ W,W=World.alloc w11 (.cells #[.bool false,.slice none 0 0,.slice none 0 0] 49):=⟨_,rfl⟩
         have kb:Below w11.heap.size w11 w12:=by rw [hw]; exact zab _ _
         have r8:World.rowIs w12 w11.heap.size 49 3 (ratCell (.bool false) (.slice none 0 0) (.slice none 0 0)):=by rw [hw]; exact zae
         rw [<-hw];clear hw
         have hsz8:=kw.size
         have hrt8:=rt.lt
         replace s1:=s1.on kb;replace s2:=s2.on kb;replace rt:=zaa rt kb;replace ma1:=ma1.on kb;replace ma2:=ma2.on kb;replace kw:=onS kw kb;replace ux3:=ux3.on kb;replace uy3:=uy3.on kb;clear kb
         obtain ⟨g8,hg⟩:∃ g,g=w11.heap.size:=⟨_,rfl⟩
         rw [<-hg] at r8 hsz8 hrt8 ⊢;clear hg
         refine bkq hK (HS.out _ rt) (h:=fun hHeld=>?_)
         clear hK K
         refine rdq 14 (h:=fun K hK=>?_)
         go_simp
         go_wp2_with fail
         refine (zah (rneg S != rneg rk) Xx Xy (dl (S.num.natAbs*rk.num.natAbs)) kx (dl (S.den*rk.den)) ky (S.num.natAbs*rk.num.natAbs) (S.den*rk.den) _ ux3.raw uy3.raw ux1 ux2 uy1 uy2 (by omega) (by omega)).mono ?_
         rintro e w13 ⟨Am,cm,Bm,dm,rfl,mm1,mm2,mm3,mm4,mm5,mm6,kb⟩
         replace s1:=s1.on kb;replace s2:=s2.on kb;replace rt:=zaa rt kb;replace ma1:=ma1.on kb;replace ma2:=ma2.on kb;replace kw:=onS kw kb;replace ux3:=ux3.on kb;replace uy3:=uy3.on kb;replace r8:=zaa r8 kb;clear kb;rw [HR.out] at mm1 mm2 mm3 mm5 ⊢
         obtain ⟨q,hq⟩:∃ q,q=S*rk:=⟨_,rfl⟩
         rw [<-hq] at mm1 mm2 mm3 mm5 ⊢
         have HQL:=hid hq
         obtain ⟨ngq,hngq⟩:∃ b,b=rneg q:=⟨_,rfl⟩
         rw [<-hngq]
         have HNG:=hid hngq
         clear hq hngq
         refine bkq hK (HS.out _ rt) (h:=fun hHeld=>?_)
         clear hK K
        rotate_left
       rotate_left 2
       focus
        go_simp
        obtain ⟨w11,hw⟩:∃ W,W=World.alloc w10 (.cells #[.bool false,.slice none 0 0,.slice none 0 0] 49):=⟨_,rfl⟩
        have kb:Below w10.heap.size w10 w11:=by rw [hw]; exact zab _ _
        have r8:World.rowIs w11 w10.heap.size 49 3 (ratCell (.bool false) (.slice none 0 0) (.slice none 0 0)):=by rw [hw]; exact zae
        rw [<-hw];clear hw
        have hsz8:=kw.size
        have hrt8:=rt.lt
        replace s1:=s1.on kb;replace s2:=s2.on kb;replace rt:=zaa rt kb;replace ma1:=ma1.on kb;replace ma2:=ma2.on kb;replace kw:=onS kw kb;replace tbq:=tbq.on kb;replace ux3:=ux3.on kb;clear kb
        obtain ⟨g8,hg⟩:∃ g,g=w10.heap.size:=⟨_,rfl⟩
        rw [<-hg] at r8 hsz8 hrt8 ⊢;clear hg
        refine bkq hK (HS.out _ rt) (h:=fun hHeld=>?_)
        clear hK K
        refine rdq 13 (h:=fun K hK=>?_)
        go_simp
        go_wp2_with fail
        refine (zax (x:=S.den) (y:=rk.den) tbq (by omega) (by omega) (by omega)).mono ?_
        rintro e w12 ⟨Xy,ky,rfl,uy1,uy2,uy3,kb⟩
        replace s1:=s1.on kb;replace s2:=s2.on kb;replace rt:=zaa rt kb;replace ma1:=ma1.on kb;replace ma2:=ma2.on kb;replace kw:=onS kw kb;replace tbq:=tbq.on kb;replace ux3:=ux3.on kb;replace r8:=zaa r8 kb;clear kb;clear tbq
        refine bkq hK (HS.out _ rt) (h:=fun hHeld=>?_)
        clear hK K
        refine rdq 14 (h:=fun K hK=>?_)
        go_simp
        go_wp2_with fail
        refine (zah (rneg S != rneg rk) Xx Xy (dl (S.num.natAbs*rk.num.natAbs)) kx (dl (S.den*rk.den)) ky (S.num.natAbs*rk.num.natAbs) (S.den*rk.den) _ ux3.raw uy3.raw ux1 ux2 uy1 uy2 (by omega) (by omega)).mono ?_
        rintro e w13 ⟨Am,cm,Bm,dm,rfl,mm1,mm2,mm3,mm4,mm5,mm6,kb⟩
        replace s1:=s1.on kb;replace s2:=s2.on kb;replace rt:=zaa rt kb;replace ma1:=ma1.on kb;replace ma2:=ma2.on kb;replace kw:=onS kw kb;replace ux3:=ux3.on kb;replace r8:=zaa r8 kb;replace uy3:=uy3.on kb;clear kb;rw [HR.out] at mm1 mm2 mm3 mm5 ⊢
        obtain ⟨q,hq⟩:∃ q,q=S*rk:=⟨_,rfl⟩
        rw [<-hq] at mm1 mm2 mm3 mm5 ⊢
        have HQL:=hid hq
        obtain ⟨ngq,hngq⟩:∃ b,b=rneg q:=⟨_,rfl⟩
        rw [<-hngq]
        have HNG:=hid hngq
        clear hq hngq
        refine bkq hK (HS.out _ rt) (h:=fun hHeld=>?_)
        clear hK K
       rotate_left
      rotate_left 3
      focus
       go_simp
       obtain ⟨w10,hw⟩:∃ W,W=World.alloc w9 (.cells #[.bool false,.slice none 0 0,.slice none 0 0] 49):=⟨_,rfl⟩
       have kb:Below w9.heap.size w9 w10:=by rw [hw]; exact zab _ _
       have r8:World.rowIs w10 w9.heap.size 49 3 (ratCell (.bool false) (.slice none 0 0) (.slice none 0 0)):=by rw [hw]; exact zae
       rw [<-hw];clear hw
       have hsz8:=kw.size
       have hrt8:=rt.lt
       replace s1:=s1.on kb;replace s2:=s2.on kb;replace rt:=zaa rt kb;replace ma1:=ma1.on kb;replace ma2:=ma2.on kb;replace kw:=onS kw kb;replace tbp:=tbp.on kb;replace tbq:=tbq.on kb;clear kb
       obtain ⟨g8,hg⟩:∃ g,g=w9.heap.size:=⟨_,rfl⟩
       rw [<-hg] at r8 hsz8 hrt8 ⊢;clear hg
       refine bkq hK (HS.out _ rt) (h:=fun hHeld=>?_)
       clear hK K
       refine rdq 8 (h:=fun K hK=>?_)
       go_simp
       go_wp2_with fail
       refine (zax (x:=S.num.natAbs) (y:=rk.num.natAbs) tbp (by omega) (by omega) (by omega)).mono ?_
       rintro e w11 ⟨Xx,kx,rfl,ux1,ux2,ux3,kb⟩
       replace s1:=s1.on kb;replace s2:=s2.on kb;replace rt:=zaa rt kb;replace ma1:=ma1.on kb;replace ma2:=ma2.on kb;replace kw:=onS kw kb;replace tbp:=tbp.on kb;replace tbq:=tbq.on kb;replace r8:=zaa r8 kb;clear kb;clear tbp
       refine bkq hK (HS.out _ rt) (h:=fun hHeld=>?_)
       clear hK K
       refine rdq 13 (h:=fun K hK=>?_)
       go_simp
       go_wp2_with fail
       refine (zax (x:=S.den) (y:=rk.den) tbq (by omega) (by omega) (by omega)).mono ?_
       rintro e w12 ⟨Xy,ky,rfl,uy1,uy2,uy3,kb⟩
       replace s1:=s1.on kb;replace s2:=s2.on kb;replace rt:=zaa rt kb;replace ma1:=ma1.on kb;replace ma2:=ma2.on kb;replace kw:=onS kw kb;replace tbq:=tbq.on kb;replace r8:=zaa r8 kb;replace ux3:=ux3.on kb;clear kb;clear tbq
       refine bkq hK (HS.out _ rt) (h:=fun hHeld=>?_)
       clear hK K
       refine rdq 14 (h:=fun K hK=>?_)
       go_simp
       go_wp2_with fail
       refine (zah (rneg S != rneg rk) Xx Xy (dl (S.num.natAbs*rk.num.natAbs)) kx (dl (S.den*rk.den)) ky (S.num.natAbs*rk.num.natAbs) (S.den*rk.den) _ ux3.raw uy3.raw ux1 ux2 uy1 uy2 (by omega) (by omega)).mono ?_
       rintro e w13 ⟨Am,cm,Bm,dm,rfl,mm1,mm2,mm3,mm4,mm5,mm6,kb⟩
       replace s1:=s1.on kb;replace s2:=s2.on kb;replace rt:=zaa rt kb;replace ma1:=ma1.on kb;replace ma2:=ma2.on kb;replace kw:=onS kw kb;replace r8:=zaa r8 kb;replace ux3:=ux3.on kb;replace uy3:=uy3.on kb;clear kb;rw [HR.out] at mm1 mm2 mm3 mm5 ⊢
       obtain ⟨q,hq⟩:∃ q,q=S*rk:=⟨_,rfl⟩
       rw [<-hq] at mm1 mm2 mm3 mm5 ⊢
       have HQL:=hid hq
       obtain ⟨ngq,hngq⟩:∃ b,b=rneg q:=⟨_,rfl⟩
       rw [<-hngq]
       have HNG:=hid hngq
       clear hq hngq
       refine bkq hK (HS.out _ rt) (h:=fun hHeld=>?_)
       clear hK K
      rotate_left
     rotate_left 4
     focus
      go_simp
      obtain ⟨w9,hw⟩:∃ W,W=World.alloc w8 (.cells #[.bool false,.slice none 0 0,.slice none 0 0] 49):=⟨_,rfl⟩
      have kb:Below w8.heap.size w8 w9:=by rw [hw]; exact zab _ _
      have r8:World.rowIs w9 w8.heap.size 49 3 (ratCell (.bool false) (.slice none 0 0) (.slice none 0 0)):=by rw [hw]; exact zae
      rw [<-hw];clear hw
      have hsz8:=kw.size
      have hrt8:=rt.lt
      replace s1:=s1.on kb;replace s2:=s2.on kb;replace rt:=zaa rt kb;replace ma1:=ma1.on kb;replace ma2:=ma2.on kb;replace kw:=onS kw kb;replace tbp:=tbp.on kb;clear kb
      obtain ⟨g8,hg⟩:∃ g,g=w8.heap.size:=⟨_,rfl⟩
      rw [<-hg] at r8 hsz8 hrt8 ⊢;clear hg
      refine bkq hK (HS.out _ rt) (h:=fun hHeld=>?_)
      clear hK K
      refine rdq2 8 12 (h:=fun K hK=>?_) (h2:=fun K hK=>?_)
      focus
       go_simp
       go_wp2_with fail
       refine (zax (x:=S.num.natAbs) (y:=rk.num.natAbs) tbp (by omega) (by omega) (by omega)).mono ?_
       rintro e w10 ⟨Xx,kx,rfl,ux1,ux2,ux3,kb⟩
       replace s1:=s1.on kb;replace s2:=s2.on kb;replace rt:=zaa rt kb;replace ma1:=ma1.on kb;replace ma2:=ma2.on kb;replace kw:=onS kw kb;replace tbp:=tbp.on kb;replace r8:=zaa r8 kb;clear kb;clear tbp
       refine bkq hK (HS.out _ rt) (h:=fun hHeld=>?_)
       clear hK K
       refine rdq 12 (h:=fun K hK=>?_)
       go_simp
       obtain ⟨w11,hw⟩:∃ W,W=World.alloc w10 (Obj.cells #[.slice Sb (dl (S.den)) sd,.slice Ba (dl (rk.den)) da] 47):=⟨_,rfl⟩
       have kb:Below w10.heap.size w10 w11:=by rw [hw]; exact zab _ _
       have tbq:NatTab w11 w11.heap.size (some ⟨w10.heap.size,0,none⟩) 2 (pairF (S.den) (rk.den)):=NatTab.letter hw (zak 47 s2 ma2 c3 ma5 c4 ma6)
       rw [<-hw];clear hw;replace s1:=s1.on kb;replace s2:=s2.on kb;replace rt:=zaa rt kb;replace ma1:=ma1.on kb;replace ma2:=ma2.on kb;replace kw:=onS kw kb;replace r8:=zaa r8 kb;replace ux3:=ux3.on kb;clear kb
       obtain ⟨gq,hg⟩:∃ g,g=w10.heap.size:=⟨_,rfl⟩
       rw [<-hg] at tbq ⊢;clear hg
       refine bkq hK (HS.out _ rt) (h:=fun hHeld=>?_)
       clear hK K
       refine rdq 13 (h:=fun K hK=>?_)
       go_simp
       go_wp2_with fail
       refine (zax (x:=S.den) (y:=rk.den) tbq (by omega) (by omega) (by omega)).mono ?_
       rintro e w12 ⟨Xy,ky,rfl,uy1,uy2,uy3,kb⟩
       replace s1:=s1.on kb;replace s2:=s2.on kb;replace rt:=zaa rt kb;replace ma1:=ma1.on kb;replace ma2:=ma2.on kb;replace kw:=onS kw kb;replace r8:=zaa r8 kb;replace ux3:=ux3.on kb;replace tbq:=tbq.on kb;clear kb;clear tbq
       refine bkq hK (HS.out _ rt) (h:=fun hHeld=>?_)
       clear hK K
       refine rdq 14 (h:=fun K hK=>?_)
       go_simp
       go_wp2_with fail
       refine (zah (rneg S != rneg rk) Xx Xy (dl (S.num.natAbs*rk.num.natAbs)) kx (dl (S.den*rk.den)) ky (S.num.natAbs*rk.num.natAbs) (S.den*rk.den) _ ux3.raw uy3.raw ux1 ux2 uy1 uy2 (by omega) (by omega)).mono ?_
       rintro e w13 ⟨Am,cm,Bm,dm,rfl,mm1,mm2,mm3,mm4,mm5,mm6,kb⟩
       replace s1:=s1.on kb;replace s2:=s2.on kb;replace rt:=zaa rt kb;replace ma1:=ma1.on kb;replace ma2:=ma2.on kb;replace kw:=onS kw kb;replace r8:=zaa r8 kb;replace ux3:=ux3.on kb;replace uy3:=uy3.on kb;clear kb;rw [HR.out] at mm1 mm2 mm3 mm5 ⊢
       obtain ⟨q,hq⟩:∃ q,q=S*rk:=⟨_,rfl⟩
       rw [<-hq] at mm1 mm2 mm3 mm5 ⊢
       have HQL:=hid hq
       obtain ⟨ngq,hngq⟩:∃ b,b=rneg q:=⟨_,rfl⟩
       rw [<-hngq]
       have HNG:=hid hngq
       clear hq hngq
       refine bkq hK (HS.out _ rt) (h:=fun hHeld=>?_)
       clear hK K
      rotate_left
      focus
       go_simp
       obtain ⟨w10,hw⟩:∃ W,W=World.alloc w9 (Obj.cells #[.slice Sb (dl (S.den)) sd,.slice Ba (dl (rk.den)) da] 47):=⟨_,rfl⟩
       have kb:Below w9.heap.size w9 w10:=by rw [hw]; exact zab _ _
       have tbq:NatTab w10 w10.heap.size (some ⟨w9.heap.size,0,none⟩) 2 (pairF (S.den) (rk.den)):=NatTab.letter hw (zak 47 s2 ma2 c3 ma5 c4 ma6)
       rw [<-hw];clear hw;replace s1:=s1.on kb;replace s2:=s2.on kb;replace rt:=zaa rt kb;replace ma1:=ma1.on kb;replace ma2:=ma2.on kb;replace kw:=onS kw kb;replace tbp:=tbp.on kb;replace r8:=zaa r8 kb;clear kb
       obtain ⟨gq,hg⟩:∃ g,g=w9.heap.size:=⟨_,rfl⟩
       rw [<-hg] at tbq ⊢;clear hg
       refine bkq hK (HS.out _ rt) (h:=fun hHeld=>?_)
       clear hK K
       refine rdq 8 (h:=fun K hK=>?_)
       go_simp
       go_wp2_with fail
       refine (zax (x:=S.num.natAbs) (y:=rk.num.natAbs) tbp (by omega) (by omega) (by omega)).mono ?_
       rintro e w11 ⟨Xx,kx,rfl,ux1,ux2,ux3,kb⟩
       replace s1:=s1.on kb;replace s2:=s2.on kb;replace rt:=zaa rt kb;replace ma1:=ma1.on kb;replace ma2:=ma2.on kb;replace kw:=onS kw kb;replace tbp:=tbp.on kb;replace r8:=zaa r8 kb;replace tbq:=tbq.on kb;clear kb;clear tbp
       refine bkq hK (HS.out _ rt) (h:=fun hHeld=>?_)
       clear hK K
       refine rdq 13 (h:=fun K hK=>?_)
       go_simp
       go_wp2_with fail
       refine (zax (x:=S.den) (y:=rk.den) tbq (by omega) (by omega) (by omega)).mono ?_
       rintro e w12 ⟨Xy,ky,rfl,uy1,uy2,uy3,kb⟩
       replace s1:=s1.on kb;replace s2:=s2.on kb;replace rt:=zaa rt kb;replace ma1:=ma1.on kb;replace ma2:=ma2.on kb;replace kw:=onS kw kb;replace r8:=zaa r8 kb;replace tbq:=tbq.on kb;replace ux3:=ux3.on kb;clear kb;clear tbq
       refine bkq hK (HS.out _ rt) (h:=fun hHeld=>?_)
       clear hK K
       refine rdq 14 (h:=fun K hK=>?_)
       go_simp
       go_wp2_with fail
       refine (zah (rneg S != rneg rk) Xx Xy (dl (S.num.natAbs*rk.num.natAbs)) kx (dl (S.den*rk.den)) ky (S.num.natAbs*rk.num.natAbs) (S.den*rk.den) _ ux3.raw uy3.raw ux1 ux2 uy1 uy2 (by omega) (by omega)).mono ?_
       rintro e w13 ⟨Am,cm,Bm,dm,rfl,mm1,mm2,mm3,mm4,mm5,mm6,kb⟩
       replace s1:=s1.on kb;replace s2:=s2.on kb;replace rt:=zaa rt kb;replace ma1:=ma1.on kb;replace ma2:=ma2.on kb;replace kw:=onS kw kb;replace r8:=zaa r8 kb;replace ux3:=ux3.on kb;replace uy3:=uy3.on kb;clear kb;rw [HR.out] at mm1 mm2 mm3 mm5 ⊢
       obtain ⟨q,hq⟩:∃ q,q=S*rk:=⟨_,rfl⟩
       rw [<-hq] at mm1 mm2 mm3 mm5 ⊢
       have HQL:=hid hq
       obtain ⟨ngq,hngq⟩:∃ b,b=rneg q:=⟨_,rfl⟩
       rw [<-hngq]
       have HNG:=hid hngq
       clear hq hngq
       refine bkq hK (HS.out _ rt) (h:=fun hHeld=>?_)
       clear hK K
      rotate_left
     rotate_left 2
    rotate_left 10
    focus
     go_simp
     obtain ⟨w8,hw⟩:∃ W,W=World.alloc w7 (Obj.cells #[.slice Sb (dl (S.den)) sd,.slice Ba (dl (rk.den)) da] 47):=⟨_,rfl⟩
     have kb:Below w7.heap.size w7 w8:=by rw [hw]; exact zab _ _
     have tbq:NatTab w8 w8.heap.size (some ⟨w7.heap.size,0,none⟩) 2 (pairF (S.den) (rk.den)):=NatTab.letter hw (zak 47 s2 ma2 c3 ma5 c4 ma6)
     rw [<-hw];clear hw;replace s1:=s1.on kb;replace s2:=s2.on kb;replace rt:=zaa rt kb;replace ma1:=ma1.on kb;replace ma2:=ma2.on kb;replace kw:=onS kw kb;clear kb
     obtain ⟨gq,hg⟩:∃ g,g=w7.heap.size:=⟨_,rfl⟩
     rw [<-hg] at tbq ⊢;clear hg
     refine bkq hK (HS.out _ rt) (h:=fun hHeld=>?_)
     clear hK K
     refine rdq2 7 15 (h:=fun K hK=>?_) (h2:=fun K hK=>?_)
     focus
      go_simp
      obtain ⟨w9,hw⟩:∃ W,W=World.alloc w8 (Obj.cells #[.slice Sa (dl (S.num.natAbs)) sc,.slice Aa (dl (rk.num.natAbs)) ca] 47):=⟨_,rfl⟩
      have kb:Below w8.heap.size w8 w9:=by rw [hw]; exact zab _ _
      have tbp:NatTab w9 w9.heap.size (some ⟨w8.heap.size,0,none⟩) 2 (pairF (S.num.natAbs) (rk.num.natAbs)):=NatTab.letter hw (zak 47 s1 ma1 c1 ma3 c2 ma4)
      rw [<-hw];clear hw;replace s1:=s1.on kb;replace s2:=s2.on kb;replace rt:=zaa rt kb;replace ma1:=ma1.on kb;replace ma2:=ma2.on kb;replace kw:=onS kw kb;replace tbq:=tbq.on kb;clear kb
      obtain ⟨gp,hg⟩:∃ g,g=w8.heap.size:=⟨_,rfl⟩
      rw [<-hg] at tbp ⊢;clear hg
      refine bkq hK (HS.out _ rt) (h:=fun hHeld=>?_)
      clear hK K
      refine rdq2 8 15 (h:=fun K hK=>?_) (h2:=fun K hK=>?_)
      focus
       go_simp
       go_wp2_with fail
       refine (zax (x:=S.num.natAbs) (y:=rk.num.natAbs) tbp (by omega) (by omega) (by omega)).mono ?_
       rintro e w10 ⟨Xx,kx,rfl,ux1,ux2,ux3,kb⟩
       replace s1:=s1.on kb;replace s2:=s2.on kb;replace rt:=zaa rt kb;replace ma1:=ma1.on kb;replace ma2:=ma2.on kb;replace kw:=onS kw kb;replace tbq:=tbq.on kb;replace tbp:=tbp.on kb;clear kb;clear tbp
       refine bkq hK (HS.out _ rt) (h:=fun hHeld=>?_)
       clear hK K
       refine rdq2 13 15 (h:=fun K hK=>?_) (h2:=fun K hK=>?_)
       focus
        go_simp
        go_wp2_with fail
        refine (zax (x:=S.den) (y:=rk.den) tbq (by omega) (by omega) (by omega)).mono ?_
        rintro e w11 ⟨Xy,ky,rfl,uy1,uy2,uy3,kb⟩
        replace s1:=s1.on kb;replace s2:=s2.on kb;replace rt:=zaa rt kb;replace ma1:=ma1.on kb;replace ma2:=ma2.on kb;replace kw:=onS kw kb;replace tbq:=tbq.on kb;replace ux3:=ux3.on kb;clear kb;clear tbq
        refine bkq hK (HS.out _ rt) (h:=fun hHeld=>?_)
        clear hK K
        refine rdq2 14 15 (h:=fun K hK=>?_) (h2:=fun K hK=>?_)
        focus
         go_simp
         go_wp2_with fail
         refine (zah (rneg S != rneg rk) Xx Xy (dl (S.num.natAbs*rk.num.natAbs)) kx (dl (S.den*rk.den)) ky (S.num.natAbs*rk.num.natAbs) (S.den*rk.den) _ ux3.raw uy3.raw ux1 ux2 uy1 uy2 (by omega) (by omega)).mono ?_
         rintro e w12 ⟨Am,cm,Bm,dm,rfl,mm1,mm2,mm3,mm4,mm5,mm6,kb⟩
         replace s1:=s1.on kb;replace s2:=s2.on kb;replace rt:=zaa rt kb;replace ma1:=ma1.on kb;replace ma2:=ma2.on kb;replace kw:=onS kw kb;replace ux3:=ux3.on kb;replace uy3:=uy3.on kb;clear kb;rw [HR.out] at mm1 mm2 mm3 mm5 ⊢
         obtain ⟨q,hq⟩:∃ q,q=S*rk:=⟨_,rfl⟩
         rw [<-hq] at mm1 mm2 mm3 mm5 ⊢
         have HQL:=hid hq
         obtain ⟨ngq,hngq⟩:∃ b,b=rneg q:=⟨_,rfl⟩
         rw [<-hngq]
         have HNG:=hid hngq
         clear hq hngq
         refine bkq hK (HS.out _ rt) (h:=fun hHeld=>?_)
         clear hK K
         refine rdq 15 (h:=fun K hK=>?_)
         go_simp
         obtain ⟨w13,hw⟩:∃ W,W=World.alloc w12 (.cells #[.bool false,.slice none 0 0,.slice none 0 0] 49):=⟨_,rfl⟩
         have kb:Below w12.heap.size w12 w13:=by rw [hw]; exact zab _ _
         have r8:World.rowIs w13 w12.heap.size 49 3 (ratCell (.bool false) (.slice none 0 0) (.slice none 0 0)):=by rw [hw]; exact zae
         rw [<-hw];clear hw
         have hsz8:=kw.size
         have hrt8:=rt.lt
         replace s1:=s1.on kb;replace s2:=s2.on kb;replace rt:=zaa rt kb;replace ma1:=ma1.on kb;replace ma2:=ma2.on kb;replace kw:=onS kw kb;replace ux3:=ux3.on kb;replace uy3:=uy3.on kb;replace mm1:=mm1.on kb;replace mm2:=mm2.on kb;clear kb
         obtain ⟨g8,hg⟩:∃ g,g=w12.heap.size:=⟨_,rfl⟩
         rw [<-hg] at r8 hsz8 hrt8 ⊢;clear hg
         refine bkq hK (HS.out _ rt) (h:=fun hHeld=>?_)
         clear hK K
        rotate_left
        focus
         go_simp
         obtain ⟨w12,hw⟩:∃ W,W=World.alloc w11 (.cells #[.bool false,.slice none 0 0,.slice none 0 0] 49):=⟨_,rfl⟩
         have kb:Below w11.heap.size w11 w12:=by rw [hw]; exact zab _ _
         have r8:World.rowIs w12 w11.heap.size 49 3 (ratCell (.bool false) (.slice none 0 0) (.slice none 0 0)):=by rw [hw]; exact zae
         rw [<-hw];clear hw
         have hsz8:=kw.size
         have hrt8:=rt.lt
         replace s1:=s1.on kb;replace s2:=s2.on kb;replace rt:=zaa rt kb;replace ma1:=ma1.on kb;replace ma2:=ma2.on kb;replace kw:=onS kw kb;replace ux3:=ux3.on kb;replace uy3:=uy3.on kb;clear kb
         obtain ⟨g8,hg⟩:∃ g,g=w11.heap.size:=⟨_,rfl⟩
         rw [<-hg] at r8 hsz8 hrt8 ⊢;clear hg
         refine bkq hK (HS.out _ rt) (h:=fun hHeld=>?_)
         clear hK K
         refine rdq 14 (h:=fun K hK=>?_)
         go_simp
         go_wp2_with fail
         refine (zah (rneg S != rneg rk) Xx Xy (dl (S.num.natAbs*rk.num.natAbs)) kx (dl (S.den*rk.den)) ky (S.num.natAbs*rk.num.natAbs) (S.den*rk.den) _ ux3.raw uy3.raw ux1 ux2 uy1 uy2 (by omega) (by omega)).mono ?_
         rintro e w13 ⟨Am,cm,Bm,dm,rfl,mm1,mm2,mm3,mm4,mm5,mm6,kb⟩
         replace s1:=s1.on kb;replace s2:=s2.on kb;replace rt:=zaa rt kb;replace ma1:=ma1.on kb;replace ma2:=ma2.on kb;replace kw:=onS kw kb;replace ux3:=ux3.on kb;replace uy3:=uy3.on kb;replace r8:=zaa r8 kb;clear kb;rw [HR.out] at mm1 mm2 mm3 mm5 ⊢
         obtain ⟨q,hq⟩:∃ q,q=S*rk:=⟨_,rfl⟩
         rw [<-hq] at mm1 mm2 mm3 mm5 ⊢
         have HQL:=hid hq
         obtain ⟨ngq,hngq⟩:∃ b,b=rneg q:=⟨_,rfl⟩
         rw [<-hngq]
         have HNG:=hid hngq
         clear hq hngq
         refine bkq hK (HS.out _ rt) (h:=fun hHeld=>?_)
         clear hK K
        rotate_left
       rotate_left 2
       focus
        go_simp
        obtain ⟨w11,hw⟩:∃ W,W=World.alloc w10 (.cells #[.bool false,.slice none 0 0,.slice none 0 0] 49):=⟨_,rfl⟩
        have kb:Below w10.heap.size w10 w11:=by rw [hw]; exact zab _ _
        have r8:World.rowIs w11 w10.heap.size 49 3 (ratCell (.bool false) (.slice none 0 0) (.slice none 0 0)):=by rw [hw]; exact zae
        rw [<-hw];clear hw
        have hsz8:=kw.size
        have hrt8:=rt.lt
        replace s1:=s1.on kb;replace s2:=s2.on kb;replace rt:=zaa rt kb;replace ma1:=ma1.on kb;replace ma2:=ma2.on kb;replace kw:=onS kw kb;replace tbq:=tbq.on kb;replace ux3:=ux3.on kb;clear kb
        obtain ⟨g8,hg⟩:∃ g,g=w10.heap.size:=⟨_,rfl⟩
        rw [<-hg] at r8 hsz8 hrt8 ⊢;clear hg
        refine bkq hK (HS.out _ rt) (h:=fun hHeld=>?_)
        clear hK K
        refine rdq 13 (h:=fun K hK=>?_)
        go_simp
        go_wp2_with fail
        refine (zax (x:=S.den) (y:=rk.den) tbq (by omega) (by omega) (by omega)).mono ?_
        rintro e w12 ⟨Xy,ky,rfl,uy1,uy2,uy3,kb⟩
        replace s1:=s1.on kb;replace s2:=s2.on kb;replace rt:=zaa rt kb;replace ma1:=ma1.on kb;replace ma2:=ma2.on kb;replace kw:=onS kw kb;replace tbq:=tbq.on kb;replace ux3:=ux3.on kb;replace r8:=zaa r8 kb;clear kb;clear tbq
        refine bkq hK (HS.out _ rt) (h:=fun hHeld=>?_)
        clear hK K
        refine rdq 14 (h:=fun K hK=>?_)
        go_simp
        go_wp2_with fail
        refine (zah (rneg S != rneg rk) Xx Xy (dl (S.num.natAbs*rk.num.natAbs)) kx (dl (S.den*rk.den)) ky (S.num.natAbs*rk.num.natAbs) (S.den*rk.den) _ ux3.raw uy3.raw ux1 ux2 uy1 uy2 (by omega) (by omega)).mono ?_
        rintro e w13 ⟨Am,cm,Bm,dm,rfl,mm1,mm2,mm3,mm4,mm5,mm6,kb⟩
        replace s1:=s1.on kb;replace s2:=s2.on kb;replace rt:=zaa rt kb;replace ma1:=ma1.on kb;replace ma2:=ma2.on kb;replace kw:=onS kw kb;replace ux3:=ux3.on kb;replace r8:=zaa r8 kb;replace uy3:=uy3.on kb;clear kb;rw [HR.out] at mm1 mm2 mm3 mm5 ⊢
        obtain ⟨q,hq⟩:∃ q,q=S*rk:=⟨_,rfl⟩
        rw [<-hq] at mm1 mm2 mm3 mm5 ⊢
        have HQL:=hid hq
        obtain ⟨ngq,hngq⟩:∃ b,b=rneg q:=⟨_,rfl⟩
        rw [<-hngq]
        have HNG:=hid hngq
        clear hq hngq
        refine bkq hK (HS.out _ rt) (h:=fun hHeld=>?_)
        clear hK K
       rotate_left
      rotate_left 3
      focus
       go_simp
       obtain ⟨w10,hw⟩:∃ W,W=World.alloc w9 (.cells #[.bool false,.slice none 0 0,.slice none 0 0] 49):=⟨_,rfl⟩
       have kb:Below w9.heap.size w9 w10:=by rw [hw]; exact zab _ _
       have r8:World.rowIs w10 w9.heap.size 49 3 (ratCell (.bool false) (.slice none 0 0) (.slice none 0 0)):=by rw [hw]; exact zae
       rw [<-hw];clear hw
       have hsz8:=kw.size
       have hrt8:=rt.lt
       replace s1:=s1.on kb;replace s2:=s2.on kb;replace rt:=zaa rt kb;replace ma1:=ma1.on kb;replace ma2:=ma2.on kb;replace kw:=onS kw kb;replace tbq:=tbq.on kb;replace tbp:=tbp.on kb;clear kb
       obtain ⟨g8,hg⟩:∃ g,g=w9.heap.size:=⟨_,rfl⟩
       rw [<-hg] at r8 hsz8 hrt8 ⊢;clear hg
       refine bkq hK (HS.out _ rt) (h:=fun hHeld=>?_)
       clear hK K
       refine rdq 8 (h:=fun K hK=>?_)
       go_simp
       go_wp2_with fail
       refine (zax (x:=S.num.natAbs) (y:=rk.num.natAbs) tbp (by omega) (by omega) (by omega)).mono ?_
       rintro e w11 ⟨Xx,kx,rfl,ux1,ux2,ux3,kb⟩
       replace s1:=s1.on kb;replace s2:=s2.on kb;replace rt:=zaa rt kb;replace ma1:=ma1.on kb;replace ma2:=ma2.on kb;replace kw:=onS kw kb;replace tbq:=tbq.on kb;replace tbp:=tbp.on kb;replace r8:=zaa r8 kb;clear kb;clear tbp
       refine bkq hK (HS.out _ rt) (h:=fun hHeld=>?_)
       clear hK K
       refine rdq 13 (h:=fun K hK=>?_)
       go_simp
       go_wp2_with fail
       refine (zax (x:=S.den) (y:=rk.den) tbq (by omega) (by omega) (by omega)).mono ?_
       rintro e w12 ⟨Xy,ky,rfl,uy1,uy2,uy3,kb⟩
       replace s1:=s1.on kb;replace s2:=s2.on kb;replace rt:=zaa rt kb;replace ma1:=ma1.on kb;replace ma2:=ma2.on kb;replace kw:=onS kw kb;replace tbq:=tbq.on kb;replace r8:=zaa r8 kb;replace ux3:=ux3.on kb;clear kb;clear tbq
       refine bkq hK (HS.out _ rt) (h:=fun hHeld=>?_)
       clear hK K
       refine rdq 14 (h:=fun K hK=>?_)
       go_simp
       go_wp2_with fail
       refine (zah (rneg S != rneg rk) Xx Xy (dl (S.num.natAbs*rk.num.natAbs)) kx (dl (S.den*rk.den)) ky (S.num.natAbs*rk.num.natAbs) (S.den*rk.den) _ ux3.raw uy3.raw ux1 ux2 uy1 uy2 (by omega) (by omega)).mono ?_
       rintro e w13 ⟨Am,cm,Bm,dm,rfl,mm1,mm2,mm3,mm4,mm5,mm6,kb⟩
       replace s1:=s1.on kb;replace s2:=s2.on kb;replace rt:=zaa rt kb;replace ma1:=ma1.on kb;replace ma2:=ma2.on kb;replace kw:=onS kw kb;replace r8:=zaa r8 kb;replace ux3:=ux3.on kb;replace uy3:=uy3.on kb;clear kb;rw [HR.out] at mm1 mm2 mm3 mm5 ⊢
       obtain ⟨q,hq⟩:∃ q,q=S*rk:=⟨_,rfl⟩
       rw [<-hq] at mm1 mm2 mm3 mm5 ⊢
       have HQL:=hid hq
       obtain ⟨ngq,hngq⟩:∃ b,b=rneg q:=⟨_,rfl⟩
       rw [<-hngq]
       have HNG:=hid hngq
       clear hq hngq
       refine bkq hK (HS.out _ rt) (h:=fun hHeld=>?_)
       clear hK K
      rotate_left
     rotate_left 4
     focus
      go_simp
      obtain ⟨w9,hw⟩:∃ W,W=World.alloc w8 (.cells #[.bool false,.slice none 0 0,.slice none 0 0] 49):=⟨_,rfl⟩
      have kb:Below w8.heap.size w8 w9:=by rw [hw]; exact zab _ _
      have r8:World.rowIs w9 w8.heap.size 49 3 (ratCell (.bool false) (.slice none 0 0) (.slice none 0 0)):=by rw [hw]; exact zae
      rw [<-hw];clear hw
      have hsz8:=kw.size
      have hrt8:=rt.lt
      replace s1:=s1.on kb;replace s2:=s2.on kb;replace rt:=zaa rt kb;replace ma1:=ma1.on kb;replace ma2:=ma2.on kb;replace kw:=onS kw kb;replace tbq:=tbq.on kb;clear kb
      obtain ⟨g8,hg⟩:∃ g,g=w8.heap.size:=⟨_,rfl⟩
      rw [<-hg] at r8 hsz8 hrt8 ⊢;clear hg
      refine bkq hK (HS.out _ rt) (h:=fun hHeld=>?_)
      clear hK K
      refine rdq 7 (h:=fun K hK=>?_)
      go_simp
      obtain ⟨w10,hw⟩:∃ W,W=World.alloc w9 (Obj.cells #[.slice Sa (dl (S.num.natAbs)) sc,.slice Aa (dl (rk.num.natAbs)) ca] 47):=⟨_,rfl⟩
      have kb:Below w9.heap.size w9 w10:=by rw [hw]; exact zab _ _
      have tbp:NatTab w10 w10.heap.size (some ⟨w9.heap.size,0,none⟩) 2 (pairF (S.num.natAbs) (rk.num.natAbs)):=NatTab.letter hw (zak 47 s1 ma1 c1 ma3 c2 ma4)
      rw [<-hw];clear hw;replace s1:=s1.on kb;replace s2:=s2.on kb;replace rt:=zaa rt kb;replace ma1:=ma1.on kb;replace ma2:=ma2.on kb;replace kw:=onS kw kb;replace tbq:=tbq.on kb;replace r8:=zaa r8 kb;clear kb
      obtain ⟨gp,hg⟩:∃ g,g=w9.heap.size:=⟨_,rfl⟩
      rw [<-hg] at tbp ⊢;clear hg
      refine bkq hK (HS.out _ rt) (h:=fun hHeld=>?_)
      clear hK K
      refine rdq 8 (h:=fun K hK=>?_)
      go_simp
      go_wp2_with fail
      refine (zax (x:=S.num.natAbs) (y:=rk.num.natAbs) tbp (by omega) (by omega) (by omega)).mono ?_
      rintro e w11 ⟨Xx,kx,rfl,ux1,ux2,ux3,kb⟩
      replace s1:=s1.on kb;replace s2:=s2.on kb;replace rt:=zaa rt kb;replace ma1:=ma1.on kb;replace ma2:=ma2.on kb;replace kw:=onS kw kb;replace tbq:=tbq.on kb;replace r8:=zaa r8 kb;replace tbp:=tbp.on kb;clear kb;clear tbp
      refine bkq hK (HS.out _ rt) (h:=fun hHeld=>?_)
      clear hK K
      refine rdq 13 (h:=fun K hK=>?_)
      go_simp
      go_wp2_with fail
      refine (zax (x:=S.den) (y:=rk.den) tbq (by omega) (by omega) (by omega)).mono ?_
      rintro e w12 ⟨Xy,ky,rfl,uy1,uy2,uy3,kb⟩
      replace s1:=s1.on kb;replace s2:=s2.on kb;replace rt:=zaa rt kb;replace ma1:=ma1.on kb;replace ma2:=ma2.on kb;replace kw:=onS kw kb;replace tbq:=tbq.on kb;replace r8:=zaa r8 kb;replace ux3:=ux3.on kb;clear kb;clear tbq
      refine bkq hK (HS.out _ rt) (h:=fun hHeld=>?_)
      clear hK K
      refine rdq 14 (h:=fun K hK=>?_)
      go_simp
      go_wp2_with fail
      refine (zah (rneg S != rneg rk) Xx Xy (dl (S.num.natAbs*rk.num.natAbs)) kx (dl (S.den*rk.den)) ky (S.num.natAbs*rk.num.natAbs) (S.den*rk.den) _ ux3.raw uy3.raw ux1 ux2 uy1 uy2 (by omega) (by omega)).mono ?_
      rintro e w13 ⟨Am,cm,Bm,dm,rfl,mm1,mm2,mm3,mm4,mm5,mm6,kb⟩
      replace s1:=s1.on kb;replace s2:=s2.on kb;replace rt:=zaa rt kb;replace ma1:=ma1.on kb;replace ma2:=ma2.on kb;replace kw:=onS kw kb;replace r8:=zaa r8 kb;replace ux3:=ux3.on kb;replace uy3:=uy3.on kb;clear kb;rw [HR.out] at mm1 mm2 mm3 mm5 ⊢
      obtain ⟨q,hq⟩:∃ q,q=S*rk:=⟨_,rfl⟩
      rw [<-hq] at mm1 mm2 mm3 mm5 ⊢
      have HQL:=hid hq
      obtain ⟨ngq,hngq⟩:∃ b,b=rneg q:=⟨_,rfl⟩
      rw [<-hngq]
      have HNG:=hid hngq
      clear hq hngq
      refine bkq hK (HS.out _ rt) (h:=fun hHeld=>?_)
      clear hK K
     rotate_left
    rotate_left 5
    focus
     go_simp
     obtain ⟨w8,hw⟩:∃ W,W=World.alloc w7 (.cells #[.bool false,.slice none 0 0,.slice none 0 0] 49):=⟨_,rfl⟩
     have kb:Below w7.heap.size w7 w8:=by rw [hw]; exact zab _ _
     have r8:World.rowIs w8 w7.heap.size 49 3 (ratCell (.bool false) (.slice none 0 0) (.slice none 0 0)):=by rw [hw]; exact zae
     rw [<-hw];clear hw
     have hsz8:=kw.size
     have hrt8:=rt.lt
     replace s1:=s1.on kb;replace s2:=s2.on kb;replace rt:=zaa rt kb;replace ma1:=ma1.on kb;replace ma2:=ma2.on kb;replace kw:=onS kw kb;clear kb
     obtain ⟨g8,hg⟩:∃ g,g=w7.heap.size:=⟨_,rfl⟩
     rw [<-hg] at r8 hsz8 hrt8 ⊢;clear hg
     refine bkq hK (HS.out _ rt) (h:=fun hHeld=>?_)
     clear hK K
     refine rdq2 7 12 (h:=fun K hK=>?_) (h2:=fun K hK=>?_)
     focus
      go_simp
      obtain ⟨w9,hw⟩:∃ W,W=World.alloc w8 (Obj.cells #[.slice Sa (dl (S.num.natAbs)) sc,.slice Aa (dl (rk.num.natAbs)) ca] 47):=⟨_,rfl⟩
      have kb:Below w8.heap.size w8 w9:=by rw [hw]; exact zab _ _
      have tbp:NatTab w9 w9.heap.size (some ⟨w8.heap.size,0,none⟩) 2 (pairF (S.num.natAbs) (rk.num.natAbs)):=NatTab.letter hw (zak 47 s1 ma1 c1 ma3 c2 ma4)
      rw [<-hw];clear hw;replace s1:=s1.on kb;replace s2:=s2.on kb;replace rt:=zaa rt kb;replace ma1:=ma1.on kb;replace ma2:=ma2.on kb;replace kw:=onS kw kb;replace r8:=zaa r8 kb;clear kb
      obtain ⟨gp,hg⟩:∃ g,g=w8.heap.size:=⟨_,rfl⟩
      rw [<-hg] at tbp ⊢;clear hg
      refine bkq hK (HS.out _ rt) (h:=fun hHeld=>?_)
      clear hK K
      refine rdq2 8 12 (h:=fun K hK=>?_) (h2:=fun K hK=>?_)
      focus
       go_simp
       go_wp2_with fail
       refine (zax (x:=S.num.natAbs) (y:=rk.num.natAbs) tbp (by omega) (by omega) (by omega)).mono ?_
       rintro e w10 ⟨Xx,kx,rfl,ux1,ux2,ux3,kb⟩
       replace s1:=s1.on kb;replace s2:=s2.on kb;replace rt:=zaa rt kb;replace ma1:=ma1.on kb;replace ma2:=ma2.on kb;replace kw:=onS kw kb;replace r8:=zaa r8 kb;replace tbp:=tbp.on kb;clear kb;clear tbp
       refine bkq hK (HS.out _ rt) (h:=fun hHeld=>?_)
       clear hK K
       refine rdq 12 (h:=fun K hK=>?_)
       go_simp
       obtain ⟨w11,hw⟩:∃ W,W=World.alloc w10 (Obj.cells #[.slice Sb (dl (S.den)) sd,.slice Ba (dl (rk.den)) da] 47):=⟨_,rfl⟩
       have kb:Below w10.heap.size w10 w11:=by rw [hw]; exact zab _ _
       have tbq:NatTab w11 w11.heap.size (some ⟨w10.heap.size,0,none⟩) 2 (pairF (S.den) (rk.den)):=NatTab.letter hw (zak 47 s2 ma2 c3 ma5 c4 ma6)
       rw [<-hw];clear hw;replace s1:=s1.on kb;replace s2:=s2.on kb;replace rt:=zaa rt kb;replace ma1:=ma1.on kb;replace ma2:=ma2.on kb;replace kw:=onS kw kb;replace r8:=zaa r8 kb;replace ux3:=ux3.on kb;clear kb
       obtain ⟨gq,hg⟩:∃ g,g=w10.heap.size:=⟨_,rfl⟩
       rw [<-hg] at tbq ⊢;clear hg
       refine bkq hK (HS.out _ rt) (h:=fun hHeld=>?_)
       clear hK K
       refine rdq 13 (h:=fun K hK=>?_)
       go_simp
       go_wp2_with fail
       refine (zax (x:=S.den) (y:=rk.den) tbq (by omega) (by omega) (by omega)).mono ?_
       rintro e w12 ⟨Xy,ky,rfl,uy1,uy2,uy3,kb⟩
       replace s1:=s1.on kb;replace s2:=s2.on kb;replace rt:=zaa rt kb;replace ma1:=ma1.on kb;replace ma2:=ma2.on kb;replace kw:=onS kw kb;replace r8:=zaa r8 kb;replace ux3:=ux3.on kb;replace tbq:=tbq.on kb;clear kb;clear tbq
       refine bkq hK (HS.out _ rt) (h:=fun hHeld=>?_)
       clear hK K
       refine rdq 14 (h:=fun K hK=>?_)
       go_simp
       go_wp2_with fail
       refine (zah (rneg S != rneg rk) Xx Xy (dl (S.num.natAbs*rk.num.natAbs)) kx (dl (S.den*rk.den)) ky (S.num.natAbs*rk.num.natAbs) (S.den*rk.den) _ ux3.raw uy3.raw ux1 ux2 uy1 uy2 (by omega) (by omega)).mono ?_
       rintro e w13 ⟨Am,cm,Bm,dm,rfl,mm1,mm2,mm3,mm4,mm5,mm6,kb⟩
       replace s1:=s1.on kb;replace s2:=s2.on kb;replace rt:=zaa rt kb;replace ma1:=ma1.on kb;replace ma2:=ma2.on kb;replace kw:=onS kw kb;replace r8:=zaa r8 kb;replace ux3:=ux3.on kb;replace uy3:=uy3.on kb;clear kb;rw [HR.out] at mm1 mm2 mm3 mm5 ⊢
       obtain ⟨q,hq⟩:∃ q,q=S*rk:=⟨_,rfl⟩
       rw [<-hq] at mm1 mm2 mm3 mm5 ⊢
       have HQL:=hid hq
       obtain ⟨ngq,hngq⟩:∃ b,b=rneg q:=⟨_,rfl⟩
       rw [<-hngq]
       have HNG:=hid hngq
       clear hq hngq
       refine bkq hK (HS.out _ rt) (h:=fun hHeld=>?_)
       clear hK K
      rotate_left
      focus
       go_simp
       obtain ⟨w10,hw⟩:∃ W,W=World.alloc w9 (Obj.cells #[.slice Sb (dl (S.den)) sd,.slice Ba (dl (rk.den)) da] 47):=⟨_,rfl⟩
       have kb:Below w9.heap.size w9 w10:=by rw [hw]; exact zab _ _
       have tbq:NatTab w10 w10.heap.size (some ⟨w9.heap.size,0,none⟩) 2 (pairF (S.den) (rk.den)):=NatTab.letter hw (zak 47 s2 ma2 c3 ma5 c4 ma6)
       rw [<-hw];clear hw;replace s1:=s1.on kb;replace s2:=s2.on kb;replace rt:=zaa rt kb;replace ma1:=ma1.on kb;replace ma2:=ma2.on kb;replace kw:=onS kw kb;replace r8:=zaa r8 kb;replace tbp:=tbp.on kb;clear kb
       obtain ⟨gq,hg⟩:∃ g,g=w9.heap.size:=⟨_,rfl⟩
       rw [<-hg] at tbq ⊢;clear hg
       refine bkq hK (HS.out _ rt) (h:=fun hHeld=>?_)
       clear hK K
       refine rdq 8 (h:=fun K hK=>?_)
       go_simp
       go_wp2_with fail
       refine (zax (x:=S.num.natAbs) (y:=rk.num.natAbs) tbp (by omega) (by omega) (by omega)).mono ?_
       rintro e w11 ⟨Xx,kx,rfl,ux1,ux2,ux3,kb⟩
       replace s1:=s1.on kb;replace s2:=s2.on kb;replace rt:=zaa rt kb;replace ma1:=ma1.on kb;replace ma2:=ma2.on kb;replace kw:=onS kw kb;replace r8:=zaa r8 kb;replace tbp:=tbp.on kb;replace tbq:=tbq.on kb;clear kb;clear tbp
       refine bkq hK (HS.out _ rt) (h:=fun hHeld=>?_)
       clear hK K
       refine rdq 13 (h:=fun K hK=>?_)
       go_simp
       go_wp2_with fail
       refine (zax (x:=S.den) (y:=rk.den) tbq (by omega) (by omega) (by omega)).mono ?_
       rintro e w12 ⟨Xy,ky,rfl,uy1,uy2,uy3,kb⟩
       replace s1:=s1.on kb;replace s2:=s2.on kb;replace rt:=zaa rt kb;replace ma1:=ma1.on kb;replace ma2:=ma2.on kb;replace kw:=onS kw kb;replace r8:=zaa r8 kb;replace tbq:=tbq.on kb;replace ux3:=ux3.on kb;clear kb;clear tbq
       refine bkq hK (HS.out _ rt) (h:=fun hHeld=>?_)
       clear hK K
       refine rdq 14 (h:=fun K hK=>?_)
       go_simp
       go_wp2_with fail
       refine (zah (rneg S != rneg rk) Xx Xy (dl (S.num.natAbs*rk.num.natAbs)) kx (dl (S.den*rk.den)) ky (S.num.natAbs*rk.num.natAbs) (S.den*rk.den) _ ux3.raw uy3.raw ux1 ux2 uy1 uy2 (by omega) (by omega)).mono ?_
       rintro e w13 ⟨Am,cm,Bm,dm,rfl,mm1,mm2,mm3,mm4,mm5,mm6,kb⟩
       replace s1:=s1.on kb;replace s2:=s2.on kb;replace rt:=zaa rt kb;replace ma1:=ma1.on kb;replace ma2:=ma2.on kb;replace kw:=onS kw kb;replace r8:=zaa r8 kb;replace ux3:=ux3.on kb;replace uy3:=uy3.on kb;clear kb;rw [HR.out] at mm1 mm2 mm3 mm5 ⊢
       obtain ⟨q,hq⟩:∃ q,q=S*rk:=⟨_,rfl⟩
       rw [<-hq] at mm1 mm2 mm3 mm5 ⊢
       have HQL:=hid hq
       obtain ⟨ngq,hngq⟩:∃ b,b=rneg q:=⟨_,rfl⟩
       rw [<-hngq]
       have HNG:=hid hngq
       clear hq hngq
       refine bkq hK (HS.out _ rt) (h:=fun hHeld=>?_)
       clear hK K
      rotate_left
     rotate_left 2
     focus
      go_simp
      obtain ⟨w9,hw⟩:∃ W,W=World.alloc w8 (Obj.cells #[.slice Sb (dl (S.den)) sd,.slice Ba (dl (rk.den)) da] 47):=⟨_,rfl⟩
      have kb:Below w8.heap.size w8 w9:=by rw [hw]; exact zab _ _
      have tbq:NatTab w9 w9.heap.size (some ⟨w8.heap.size,0,none⟩) 2 (pairF (S.den) (rk.den)):=NatTab.letter hw (zak 47 s2 ma2 c3 ma5 c4 ma6)
      rw [<-hw];clear hw;replace s1:=s1.on kb;replace s2:=s2.on kb;replace rt:=zaa rt kb;replace ma1:=ma1.on kb;replace ma2:=ma2.on kb;replace kw:=onS kw kb;replace r8:=zaa r8 kb;clear kb
      obtain ⟨gq,hg⟩:∃ g,g=w8.heap.size:=⟨_,rfl⟩
      rw [<-hg] at tbq ⊢;clear hg
      refine bkq hK (HS.out _ rt) (h:=fun hHeld=>?_)
      clear hK K
      refine rdq 7 (h:=fun K hK=>?_)
      go_simp
      obtain ⟨w10,hw⟩:∃ W,W=World.alloc w9 (Obj.cells #[.slice Sa (dl (S.num.natAbs)) sc,.slice Aa (dl (rk.num.natAbs)) ca] 47):=⟨_,rfl⟩
      have kb:Below w9.heap.size w9 w10:=by rw [hw]; exact zab _ _
      have tbp:NatTab w10 w10.heap.size (some ⟨w9.heap.size,0,none⟩) 2 (pairF (S.num.natAbs) (rk.num.natAbs)):=NatTab.letter hw (zak 47 s1 ma1 c1 ma3 c2 ma4)
      rw [<-hw];clear hw;replace s1:=s1.on kb;replace s2:=s2.on kb;replace rt:=zaa rt kb;replace ma1:=ma1.on kb;replace ma2:=ma2.on kb;replace kw:=onS kw kb;replace r8:=zaa r8 kb;replace tbq:=tbq.on kb;clear kb
      obtain ⟨gp,hg⟩:∃ g,g=w9.heap.size:=⟨_,rfl⟩
      rw [<-hg] at tbp ⊢;clear hg
      refine bkq hK (HS.out _ rt) (h:=fun hHeld=>?_)
      clear hK K
      refine rdq 8 (h:=fun K hK=>?_)
      go_simp
      go_wp2_with fail
      refine (zax (x:=S.num.natAbs) (y:=rk.num.natAbs) tbp (by omega) (by omega) (by omega)).mono ?_
      rintro e w11 ⟨Xx,kx,rfl,ux1,ux2,ux3,kb⟩
      replace s1:=s1.on kb;replace s2:=s2.on kb;replace rt:=zaa rt kb;replace ma1:=ma1.on kb;replace ma2:=ma2.on kb;replace kw:=onS kw kb;replace r8:=zaa r8 kb;replace tbq:=tbq.on kb;replace tbp:=tbp.on kb;clear kb;clear tbp
      refine bkq hK (HS.out _ rt) (h:=fun hHeld=>?_)
      clear hK K
      refine rdq 13 (h:=fun K hK=>?_)
      go_simp
      go_wp2_with fail
      refine (zax (x:=S.den) (y:=rk.den) tbq (by omega) (by omega) (by omega)).mono ?_
      rintro e w12 ⟨Xy,ky,rfl,uy1,uy2,uy3,kb⟩
      replace s1:=s1.on kb;replace s2:=s2.on kb;replace rt:=zaa rt kb;replace ma1:=ma1.on kb;replace ma2:=ma2.on kb;replace kw:=onS kw kb;replace r8:=zaa r8 kb;replace tbq:=tbq.on kb;replace ux3:=ux3.on kb;clear kb;clear tbq
      refine bkq hK (HS.out _ rt) (h:=fun hHeld=>?_)
      clear hK K
      refine rdq 14 (h:=fun K hK=>?_)
      go_simp
      go_wp2_with fail
      refine (zah (rneg S != rneg rk) Xx Xy (dl (S.num.natAbs*rk.num.natAbs)) kx (dl (S.den*rk.den)) ky (S.num.natAbs*rk.num.natAbs) (S.den*rk.den) _ ux3.raw uy3.raw ux1 ux2 uy1 uy2 (by omega) (by omega)).mono ?_
      rintro e w13 ⟨Am,cm,Bm,dm,rfl,mm1,mm2,mm3,mm4,mm5,mm6,kb⟩
      replace s1:=s1.on kb;replace s2:=s2.on kb;replace rt:=zaa rt kb;replace ma1:=ma1.on kb;replace ma2:=ma2.on kb;replace kw:=onS kw kb;replace r8:=zaa r8 kb;replace ux3:=ux3.on kb;replace uy3:=uy3.on kb;clear kb;rw [HR.out] at mm1 mm2 mm3 mm5 ⊢
      obtain ⟨q,hq⟩:∃ q,q=S*rk:=⟨_,rfl⟩
      rw [<-hq] at mm1 mm2 mm3 mm5 ⊢
      have HQL:=hid hq
      obtain ⟨ngq,hngq⟩:∃ b,b=rneg q:=⟨_,rfl⟩
      rw [<-hngq]
      have HNG:=hid hngq
      clear hq hngq
      refine bkq hK (HS.out _ rt) (h:=fun hHeld=>?_)
      clear hK K
     rotate_left
    rotate_left 3
    all_goals
     have hr8:=r8.lt
     have hszk:=kw.size
     have za0:=r8.frozen 0
     have za1:=r8.frozen 1
     have za2:=r8.frozen 2
     have ya0:=qc0 r8
     have ya1:=qc1 r8
     have ya2:=qc2 r8
     refine rdq 16 (h:=fun K hK=>?_)
     go_simp
     generalize hw3:World.setCell _ _ _=w14
     have hst:RatStored w13 (g8) 49 (ngq) (Am) (dl q.num.natAbs) (cm) (Bm) (dl q.den) (dm) w14:=by rw [<-hw3]; exact zaf r8 _ _ _ _ _ _ _
     clear hw3;replace s1:=hst.nat _ _ _ s1;rw [<-hst.size] at s1;replace s2:=hst.nat _ _ _ s2;rw [<-hst.size] at s2
     replace rt:=zad rt hst.grown (by omega)
     replace ma1:=hst.nat _ _ _ ma1;rw [<-hst.size] at ma1;replace ma2:=hst.nat _ _ _ ma2;rw [<-hst.size] at ma2
     replace kw:=hst.below kw (by omega) (by omega)
     replace ux3:=hst.nat _ _ _ ux3;rw [<-hst.size] at ux3;replace uy3:=hst.nat _ _ _ uy3;rw [<-hst.size] at uy3;replace mm1:=hst.nat _ _ _ mm1;rw [<-hst.size] at mm1;replace mm2:=hst.nat _ _ _ mm2;rw [<-hst.size] at mm2;replace r8:=hst.row;clear hst
     refine bkq hK (HS.out _ rt) (h:=fun hHeld=>?_)
     clear hK K
     refine wpAnyH_done (by kernel_rfl) ?_ _
     clear hHeld;clear za0 za1 za2 ya0 ya1 ya2 HS hr8 hszk hsz8 hrt8
     go_wp2
     go_meet
     rw [HNG.out] at r8;rw [HQL.out] at mm1 mm2 mm3 mm5 r8
     exact ⟨g8,Am,cm,Bm,dm,rfl,mm1,mm2,mm3,mm4,mm5,mm6,r8,kw⟩
   case rest =>
    clear s1 s2 ma1 ma2 c1 c2 c3 c4 ma3 ma4 ma5 ma6 hx hy HR hr1 hr2 hr3 hr4 HSK HRK rt
    obtain ⟨g8,Am,cm,Bm,dm,rfl,mm1,mm2,mm3,mm4,mm5,mm6,r8,kb⟩:=hcut
    replace rz:=zaa rz kb;replace hB:=onS hB kb;clear kb;rw [<-HNX.out] at mm1 mm2 mm3 mm5 r8
    have e0:=qc0 r8
    have e1:=qc1 r8
    have e2:=qc2 r8
    clear HNX HSK2 hs hr h r8
    go_wp2
    go_quiet (fail)
    go_wp2
    go_roundg (gk - 1)
    case measure=>omega
    case rel=>exact ⟨k+1,Am,cm,Bm,dm,rfl,rfl,rfl,by go_num,by omega,by omega,mm3,mm4,mm5,mm6,mm1,mm2,rz,zai hB _⟩
  ·obtain rfl:k=m:=by omega
   have hlt':¬ (k:Int)<(k:Int):=by omega
   obtain ⟨w19,hw19⟩:∃ W,W=wr:=⟨_,rfl⟩
   rw [<-hw19] at s1 s2 rz hB ⊢;clear hw19 h
   have mm1:=s1
   have mm2:=s2
   have mm3:=c1
   have mm4:=c2
   have mm5:=c3
   have mm6:=c4
   clear s1 s2 c1 c2 c3 c4
   obtain ⟨q,hq⟩:∃ q,q=prodR rs k:=⟨_,rfl⟩
   rw [<-hq] at mm1 mm2 mm3 mm5 ⊢
   have HQL:=hid hq
   obtain ⟨ngq,hngq⟩:∃ b,b=rneg q:=⟨_,rfl⟩
   rw [<-hngq]
   have HNG:=hid hngq
   clear hq hngq
   have hsz:=hB.size
   have za0:=rz.frozen 0
   have za1:=rz.frozen 1
   have za2:=rz.frozen 2
   have ya0:=qc0 rz
   have ya1:=qc1 rz
   have ya2:=qc2 rz
   go_wp2
   generalize hw3:World.setCell _ _ _=w20
   have hst:RatStored w19 (w.heap.size) 49 (ngq) (Sa) (dl q.num.natAbs) (sc) (Sb) (dl q.den) (sd) w20:=by rw [<-hw3]; exact zaf rz _ _ _ _ _ _ _
   clear hw3;replace mm1:=hst.nat _ _ _ mm1;rw [<-hst.size] at mm1;replace mm2:=hst.nat _ _ _ mm2;rw [<-hst.size] at mm2;replace rz:=hst.row
   replace hB:=hst.below hB (by omega) (by omega)
   clear hst;clear hsz za0 za1 za2 ya0 ya1 ya2
   have e0:=qc0 rz
   have e1:=qc1 rz
   have e2:=qc2 rz
   refine bodyPost_ret (v:=.agg #[.bool (ngq),.slice (Sa) (dl q.num.natAbs) (sc),.slice (Sb) (dl q.den) (sd)]) (by simp [results,Tryz.results89, go_sem,e0,e1,e2]) rfl ?_
   rw [<-HQL.out]
   exact ⟨Sa,sc,Sb,sd,by rw [HNG.out],mm1,mm2,mm3,mm4,mm5,mm6,hB⟩
theorem zcV (A B A' B':Option Addr) (c d c' d':Nat) (r:Rat) (N:Nat) (w:World) (m1:NatOk w w.heap.size A r.num.natAbs) (m2:NatOk w w.heap.size B r.den) (n1:NatOk w w.heap.size A' r.num.natAbs) (n2:NatOk w w.heap.size B' r.den) (hN:N<=33554432) (hr:rsz r N) :
  Calls Tryz.prog 31 #[.agg #[.bool (rneg r),.slice A (dl r.num.natAbs) c,.slice B (dl r.den) d],.agg #[.bool (rneg r),.slice A' (dl r.num.natAbs) c',.slice B' (dl r.den) d']] w fun e w'=>e=.returned (.bool true)/\Below w.heap.size w w':=by
 have hb0:=zab w (.cells #[.bool (rneg r),.slice A (dl r.num.natAbs) c,.slice B (dl r.den) d] 49)
 have hb1:=zab (w.alloc (.cells #[.bool (rneg r),.slice A (dl r.num.natAbs) c,.slice B (dl r.den) d] 49)) (.cells #[.bool (rneg r),.slice A' (dl r.num.natAbs) c',.slice B' (dl r.den) d'] 49)
 have s0:(w.alloc (.cells #[.bool (rneg r),.slice A (dl r.num.natAbs) c,.slice B (dl r.den) d] 49)).heap.size=w.heap.size+1:=by simp
 have ra:=zaa (zae (w:=w) (a:=.bool (rneg r)) (b:=.slice A (dl r.num.natAbs) c) (c:=.slice B (dl r.den) d) (T := 49)) hb1
 have rb:=zae (w:=w.alloc (.cells #[.bool (rneg r),.slice A (dl r.num.natAbs) c,.slice B (dl r.den) d] 49)) (a:=.bool (rneg r)) (b:=.slice A' (dl r.num.natAbs) c') (c:=.slice B' (dl r.den) d') (T := 49)
 rw [s0] at rb
 have hB:=onS hb0 hb1
 clear s0 hb0 hb1;replace m1:=m1.on hB;replace m2:=m2.on hB;replace n1:=n1.on hB;replace n2:=n2.on hB
 have hr1:=hr.1
 have hr2:=hr.2
 have heq:(rneg r == rneg r)=true:=by simp
 go_enter Tryz.func31, Tryz.ntmps31
 go_upto_region 1 with fail
 obtain ⟨w0,hw0⟩:∃ W,W=((w.alloc (.cells #[.bool (rneg r),.slice A (dl r.num.natAbs) c,.slice B (dl r.den) d] 49)).alloc (.cells #[.bool (rneg r),.slice A' (dl r.num.natAbs) c',.slice B' (dl r.den) d'] 49)):=⟨_,rfl⟩
 rw [<-hw0] at ra rb hB m1 m2 n1 n2 ⊢;clear hw0
 have ea0:=qc0 ra
 have ea1:=qc1 ra
 have ea2:=qc2 ra
 have eb0:=qc0 rb
 have eb1:=qc1 rb
 have eb2:=qc2 rb
 go_wp2_with fail
 refine (zdB _ _ _ _ _ _ m1 n1 (by omega)).mono ?_
 rintro e w1 ⟨rfl,kb⟩
 have kb2:=kb
 replace m1:=m1.on kb;replace m2:=m2.on kb;replace n1:=n1.on kb;replace n2:=n2.on kb;replace ra:=zaa ra kb;replace rb:=zaa rb kb;replace hB:=onS hB kb;clear kb;replace ea0:=cellS kb2 ea0;replace ea1:=cellS kb2 ea1;replace ea2:=cellS kb2 ea2;replace eb0:=cellS kb2 eb0;replace eb1:=cellS kb2 eb1;replace eb2:=cellS kb2 eb2;clear kb2
 go_wp2_with fail
 refine (zdB _ _ _ _ _ _ m2 n2 (by omega)).mono ?_
 rintro e w2 ⟨rfl,kb⟩
 have kb2:=kb
 replace m1:=m1.on kb;replace m2:=m2.on kb;replace n1:=n1.on kb;replace n2:=n2.on kb;replace ra:=zaa ra kb;replace rb:=zaa rb kb;replace hB:=onS hB kb;clear kb;replace ea0:=cellS kb2 ea0;replace ea1:=cellS kb2 ea1;replace ea2:=cellS kb2 ea2;replace eb0:=cellS kb2 eb0;replace eb1:=cellS kb2 eb1;replace eb2:=cellS kb2 eb2;clear kb2
 go_wp2
 go_ret
 exact ⟨rfl,hB⟩
theorem zff (s:Bool) (A A2:Option Addr) (n c m c2:Nat) (w:World) :
  Calls Tryz.prog 26 #[.agg #[.bool s,.slice A n c,.slice A2 m c2]] w fun e w'=>e=.returned (.bool (decide (n<=4) && decide (m<=4)))/\Below w.heap.size w w':=by
 have hB:=zab w (.cells #[.bool s,.slice A n c,.slice A2 m c2] 49)
 have ra:=zae (w:=w) (a:=.bool s) (b:=.slice A n c) (c:=.slice A2 m c2) (T := 49)
 have hd:decide ((n:Int)<=4)=decide (n<=4):=by simp only [decide_eq_decide]; omega
 have hd2:decide ((m:Int)<=4)=decide (m<=4):=by simp only [decide_eq_decide]; omega
 go_enter Tryz.func26, Tryz.ntmps26
 go_upto_region 1 with fail
 obtain ⟨w0,hw0⟩:∃ W,W=w.alloc (.cells #[.bool s,.slice A n c,.slice A2 m c2] 49):=⟨_,rfl⟩
 rw [<-hw0] at ra hB ⊢;clear hw0
 have HD:=hid hd2
 clear hd2
 have e1:=qc1 ra
 have e2:=qc2 ra
 by_cases h:n<=4
 ·have hn:decide ((n:Int)<=4)=true:=by rw [hd]; simpa using h
  have hn2:decide (n<=4)=true:=by simpa using h
  clear hd h
  go_wp2
  go_ret
  exact ⟨by simp [hn2,HD.out],hB⟩
 ·have hn:decide ((n:Int)<=4)=false:=by rw [hd]; simpa using h
  have hn2:decide (n<=4)=false:=by simpa using h
  clear hd h
  go_wp2
  go_ret
  exact ⟨by simp [hn2],hB⟩
theorem zcp (w:World):Calls Tryz.prog 87 #[] w (RatPost 0 w):=by
 have hB:=zab w (.cells #[.bool false,.slice none 0 0,.slice none 0 0] 49)
 have rz:=zae (w:=w) (a:=.bool false) (b:=.slice none 0 0) (c:=.slice none 0 0) (T := 49)
 obtain ⟨w0,hw0⟩:∃ W,W=w.alloc (.cells #[.bool false,.slice none 0 0,.slice none 0 0] 49):=⟨_,rfl⟩
 rw [<-hw0] at hB rz
 have HD:Hid (dl (0:Rat).num.natAbs=0/\dl (0:Rat).den=1/\rneg 0=false):=⟨zas,zb4,zd4⟩
 go_enter Tryz.func87, Tryz.ntmps87
 go_upto_region 1 with fail
 rw [<-hw0];clear hw0
 have o1:=zaQ (w:=w0) 110 (x:=1) (by omega) (by omega)
 have kb:=zab w0 (.cells #[.int .u32 1] 110)
 obtain ⟨w1,hw1⟩:∃ W,W=w0.alloc (.cells #[.int .u32 1] 110):=⟨_,rfl⟩
 have e1:w0.alloc (.cells #[.int .u32 ((1:Nat):Int)] 110)=w1:=hw1.symm
 rw [e1] at o1;rw [<-hw1] at kb
 obtain ⟨g,hg⟩:∃ g,g=w0.heap.size:=⟨_,rfl⟩
 rw [<-hg] at o1;clear e1;replace rz:=zaa rz kb;replace hB:=onS hB kb;clear kb
 have hsz:=hB.size
 have za0:=rz.frozen 0
 have za1:=rz.frozen 1
 have za2:=rz.frozen 2
 have ya0:=qc0 rz
 have ya1:=qc1 rz
 have ya2:=qc2 rz
 rw [hw1] at za0 za1 za2 ya0 ya1 ya2
 have HW:=hid hw1
 have HG:=hid hg
 clear hw1 hg
 go_wp2
 rw [<-HW.out,<-HG.out];clear HW HG
 generalize hw3:World.setCell _ _ _=w2
 have hst:RatStored w1 (w.heap.size) 49 (false) (none) (0) (0) (some ⟨g,0,none⟩) (1) (1) w2:=by rw [<-hw3]; exact zaf rz _ _ _ _ _ _ _
 clear hw3;replace rz:=hst.row
 replace hB:=hst.below hB (by omega) (by omega)
 replace o1:=hst.nat _ _ _ o1;rw [<-hst.size] at o1;clear hst;clear hsz za0 za1 za2 ya0 ya1 ya2
 have e0:=qc0 rz
 have e1:=qc1 rz
 have e2:=qc2 rz
 refine bodyPost_ret (v:=.agg #[.bool false,.slice none 0 0,.slice (some ⟨g,0,none⟩) 1 1]) (by simp [results,Tryz.results87, go_sem,e0,e1,e2]) rfl ?_
 exact ⟨none,0,some ⟨g,0,none⟩,1,by rw [HD.out.1,HD.out.2.1,HD.out.2.2],fun i hi=>absurd hi (by show ¬ i<dl (0:Rat).num.natAbs; rw [HD.out.1]; omega),o1,by rw [HD.out.1]; omega,by unfold maxLen; omega,by rw [HD.out.2.1]; omega,by unfold maxLen; omega,hB⟩
def RatList (w:World) (B:Nat) (T:Option Addr) (m:Nat) (rs:Nat->Rat):Prop :=
 ∀ i,i<m->∃ b off A c A2 c2,T=some ⟨b,off,none⟩/\b<B/\w.cell? ⟨b,off+i*3,none⟩=some (.bool (rneg (rs i)))/\w.cell? ⟨b,off+i*3+1,none⟩=some (.slice A (dl (rs i).num.natAbs) c)/\w.cell? ⟨b,off+i*3+2,none⟩=some (.slice A2 (dl (rs i).den) c2)/\NatOk w B A (rs i).num.natAbs/\NatOk w B A2 (rs i).den/\dl (rs i).num.natAbs<=c/\c<=maxLen/\dl (rs i).den<=c2/\c2<=maxLen
structure RatRow (w:World) (g:Nat) (T:TypeId) (m:Nat) (f:Nat->Nat->Value):Prop where
 row:w.rowIs g T (m*3) (fun i=>f (i / 3) (i % 3))
 noInt:∀ i j k,f i j≠.int .u32 k
def putRat (f:Nat->Nat->Value) (k:Nat) (a b c:Value) (i j:Nat):Value:=if i=k then ratCell a b c j else f i j
structure RatPut (w:World) (g:Nat) (T:TypeId) (m:Nat) (f:Nat->Nat->Value) (k:Nat) (a b c:Value) (w3:World):Prop where
 row:RatRow w3 g T m (putRat f k a b c)
 nat:∀ B A' x,NatOk w B A' x->NatOk w3 B A' x
 rawn:∀ B A' n' x,NatRaw w B A' n' x->NatRaw w3 B A' n' x
 size:w3.heap.size=w.heap.size
 grown:w.grownBy w3 (some g)
theorem zkg {w : World} {g : Nat} {T : TypeId} {m : Nat} {f : Nat → Nat → Value} (h : RatRow w g T m f) (k : Nat) (s : Bool) (A : Option Addr) (n c : Nat) (A2 : Option Addr) (p c2 : Nat) :
    RatPut w g T m f k (.bool s) (.slice A n c) (.slice A2 p c2) (((w.setCell ⟨g,k*3,none⟩ (.bool s)).setCell ⟨g,k*3+1,none⟩ (.slice A n c)).setCell ⟨g,k*3+2,none⟩ (.slice A2 p c2)):=by
  have r0:=NoInt.row h.row fun i hi q=>h.noInt _ _ q
  have h1:=h.row.set (k*3) (.bool s)
  have r1 := NoInt.row h1 fun i hi q => by
    first
    | (split
       · intro e; cases e
       · exact h.noInt _ _ q)
    | (simp only [Function.update]; split
       · intro e; cases e
       · exact h.noInt _ _ q)
  have h2:=h1.set (k*3+1) (.slice A n c)
  have r2:=NoInt.row h2 fun i hi q=>by
    split
    · intro e; cases e
    · split
      · intro e; cases e
      · exact h.noInt _ _ q
  have h3:=h2.set (k*3+2) (.slice A2 p c2)
  refine ⟨⟨h3.congr fun i hi=>?_,fun i j q=>?_⟩,fun B A' x hx=>((hx.set r0 _ _).set r1 _ _).set r2 _ _,fun B A' n' x hx=>((hx.set r0 _ _).set r1 _ _).set r2 _ _,by simp,zaq (zaq (zaq (zby w _) _) _) _⟩
  · unfold putRat ratCell
    by_cases e:i / 3=k
    · rw [if_pos e]
      rcases (by omega:i=k*3∨i=k*3+1∨i=k*3+2) with rfl | rfl | rfl
      · rw [if_neg (by omega),if_neg (by omega),if_pos rfl,if_pos (by omega)]
      · rw [if_neg (by omega),if_pos rfl,if_neg (by omega),if_pos (by omega)]
      · rw [if_pos rfl,if_neg (by omega),if_neg (by omega)]
    · rw [if_neg e,if_neg (by omega),if_neg (by omega),if_neg (by omega)]
  · unfold putRat ratCell
    split
    · split
      · intro e; cases e
      · split
        · intro e; cases e
        · intro e; cases e
    · exact h.noInt _ _ q
theorem RatRow.on {w w':World} {g:Nat} {T:TypeId} {m:Nat} {f:Nat->Nat->Value} (h:RatRow w g T m f) (hb:Below w.heap.size w w'):RatRow w' g T m f:=⟨zaa h.row hb,h.noInt⟩
theorem RatRow.cell {w:World} {g:Nat} {T:TypeId} {m:Nat} {f:Nat->Nat->Value} (h:RatRow w g T m f) {i j:Nat} (hi:i<m) (hj:j<3):w.cell? ⟨g,i*3+j,none⟩=some (f i j):=by
 have:=h.row.cell (i:=i*3+j) (by omega)
 rw [show (i*3+j) / 3=i by omega,show (i*3+j) % 3=j by omega] at this
 exact this
def pairR (r r':Rat) (i:Nat):Rat:=if i=0 then r else r'
theorem zaE {w:World} (T:TypeId) {s s':Bool} {A A2 A' A2':Option Addr} {n c k c2 n' c' k' c2' N:Nat} {r r':Rat}
  (h:RatRaw w w.heap.size (.agg #[.bool s,.slice A n c,.slice A2 k c2]) r N) (h':RatRaw w w.heap.size (.agg #[.bool s',.slice A' n' c',.slice A2' k' c2']) r' N) :
  RatTab (w.alloc (.cells #[.bool s,.slice A n c,.slice A2 k c2,.bool s',.slice A' n' c',.slice A2' k' c2'] T)) (w.alloc (.cells #[.bool s,.slice A n c,.slice A2 k c2,.bool s',.slice A' n' c',.slice A2' k' c2'] T)).heap.size (some ⟨w.heap.size,0,none⟩) 2 (pairR r r') N:=fun i hi=>by
 have hb:=zab w (.cells #[.bool s,.slice A n c,.slice A2 k c2,.bool s',.slice A' n' c',.slice A2' k' c2'] T)
 have hs:w.heap.size<(w.alloc (.cells #[.bool s,.slice A n c,.slice A2 k c2,.bool s',.slice A' n' c',.slice A2' k' c2'] T)).heap.size:=by simp
 have hg:=heap_alloc_new w (.cells #[.bool s,.slice A n c,.slice A2 k c2,.bool s',.slice A' n' c',.slice A2' k' c2'] T)
 match i,hi with
 | 0,_=>exact ⟨w.heap.size,0,s,A,n,c,A2,k,c2,rfl,hs,by rw [cell_of_row _ _ _ _ T (0,0) hg]; rfl,by rw [cell_of_row _ _ _ _ T (0,0) hg]; rfl,by rw [cell_of_row _ _ _ _ T (0,0) hg]; rfl,h.on hb⟩
 | 1,_=>exact ⟨w.heap.size,0,s',A',n',c',A2',k',c2',rfl,hs,by rw [cell_of_row _ _ _ _ T (0,0) hg]; rfl,by rw [cell_of_row _ _ _ _ T (0,0) hg]; rfl,by rw [cell_of_row _ _ _ _ T (0,0) hg]; rfl,h'.on hb⟩
theorem zcq {w:World} {T:Option Addr} {r r':Rat} {N:Nat} (h:RatTab w w.heap.size T 2 (pairR r r') N) (hN:N<=33554432) (h1:1<=N) (d1:rsz r N) (d2:rsz r' N) (d3:rsz (r*r') N) :
  Calls Tryz.prog 89 #[.slice T 2 2] w (RatPost (r*r') w):=by
 have e:prodR (pairR r r') 2=r*r':=by simp [prodR,pairR]
 have e1:prodR (pairR r r') 1=r:=by simp [prodR,pairR]
 have:=zgZ T 2 2 N (pairR r r') w h (by omega) hN (hid fun k hk=>?_) (hid fun k hk=>?_)
 ·rwa [e] at this
 ·match k,hk with
  | 0,_=>exact ⟨by show dl 1<=N; rw [zb4]; exact h1,by show dl 1<=N; rw [zb4]; exact h1⟩
  | 1,_=>rw [e1]; exact d1
  | 2,_=>rw [e]; exact d3
 ·match k,hk with
  | 0,_=>exact d1
  | 1,_=>exact d2
theorem za9 {w:World} {T:Option Addr} {r r':Rat} {N:Nat} (h:RatTab w w.heap.size T 2 (pairR r r') N) (hN:N<=33554432) (h1:1<=N) (d1:rsz r N) (d2:rsz r' N) (d3:rsz (r+r') N) :
  Calls Tryz.prog 88 #[.slice T 2 2] w (RatPost (r+r') w):=by
 have e:sumR (pairR r r') 2=r+r':=by simp [sumR,pairR,Rat.zero_add]
 have e1:sumR (pairR r r') 1=r:=by simp [sumR,pairR,Rat.zero_add]
 have:=zgY T 2 2 N (pairR r r') w h (by omega) hN (hid fun k hk=>?_) (hid fun k hk=>?_)
 ·rwa [e] at this
 ·match k,hk with
  | 0,_=>exact ⟨by show dl 0<=N; rw [zas]; omega,by show dl 1<=N; rw [zb4]; exact h1⟩
  | 1,_=>rw [e1]; exact d1
  | 2,_=>rw [e]; exact d3
 ·match k,hk with
  | 0,_=>exact d1
  | 1,_=>exact d2
end Go.Proofs.YtioagplajkoohaaGreat