/- Merged texts of a claim: Rat13. -/
import Derived.Test.YtmgeblpnnaamnaaGreatTR8
import Derived.BigQuiet
namespace Go.Proofs.YtmgeblpnnaamnaaGreat
set_option maxRecDepth 100000
set_option maxHeartbeats 32000000
open Go.RowKit
def prodR (rs:Nat->Rat):Nat->Rat
 | 0=>1
 | k+1=>prodR rs k*rs k
theorem ratMul_any (T:Option Addr) (m c N:Nat) (rs:Nat->Rat) (w:World) (h:RatTab w w.heap.size T m rs N) (hm:m<=1048576) (hN:N<=33554432) (hs:Hid (∀ k,k<=m->rsz (prodR rs k) N)) (hr:Hid (∀ k,k<m->rsz (rs k) N)) :
  Calls Tryz.prog 61 #[.slice T m c] w (RatPost (prodR rs m) w):=by
 have hB:=below_one w (.cells #[.bool false,.slice none 0 0,.slice none 0 0] 31)
 have rz:=box_row (w:=w) (a:=.bool false) (b:=.slice none 0 0) (c:=.slice none 0 0) (T := 31)
 obtain ⟨w0,hw0⟩:∃ W,W=w.alloc (.cells #[.bool false,.slice none 0 0,.slice none 0 0] 31):=⟨_,rfl⟩
 rw [<-hw0] at hB rz
 go_enter Tryz.func61, Tryz.ntmps61
 go_upto_region 1 with fail
 rw [<-hw0]
 clear hw0
 go_wp2_with fail
 refine (ratOne_any _).mono ?_
 rintro e w1 ⟨rfl,o1,kb⟩
 replace rz:=rowIs_on rz kb
 replace hB:=onS hB kb
 clear kb
 go_wp2_with fail
 refine (ratOne_any _).mono ?_
 rintro e w2 ⟨rfl,o2,kb⟩
 replace rz:=rowIs_on rz kb
 replace hB:=onS hB kb
 replace o1:=o1.on kb
 clear kb
 have hd1:dl (1:Rat).num.natAbs=1:=dl_one
 have hd2:dl (1:Rat).den=1:=dl_one
 obtain ⟨g1,hg1⟩:∃ g,g=w0.heap.size:=⟨_,rfl⟩
 obtain ⟨g2,hg2⟩:∃ g,g=w1.heap.size:=⟨_,rfl⟩
 rw [<-hg1] at o1
 rw [<-hg2] at o2
 go_wp2
 rw [<-hg1,<-hg2]
 clear hg1 hg2
 go_loopg [3,4,5,13] m (fun gg v3 v4 v5 iv wx=>∃ k:Nat,∃ Sa sc Sb sd,v3=.bool (rneg (prodR rs k))/\v4=.slice Sa (dl (prodR rs k).num.natAbs) sc/\v5=.slice Sb (dl (prodR rs k).den) sd/\iv=.int .i64 (k:Nat)/\k<=m/\m<=k+gg/\dl (prodR rs k).num.natAbs<=sc/\sc<=maxLen/\dl (prodR rs k).den<=sd/\sd<=maxLen/\NatOk wx wx.heap.size Sa (prodR rs k).num.natAbs/\NatOk wx wx.heap.size Sb (prodR rs k).den/\wx.rowIs w.heap.size 31 3 (ratCell (.bool false) (.slice none 0 0) (.slice none 0 0))/\Below w.heap.size w wx)
 case atStart=>exact ⟨0,some ⟨g1,0,none⟩,1,some ⟨g2,0,none⟩,1,rfl,by show _=Value.slice _ (dl (1:Rat).num.natAbs) _; rw [hd1],by show _=Value.slice _ (dl (1:Rat).den) _; rw [hd2],rfl,by omega,by omega,by show dl (1:Rat).num.natAbs<=1; omega,by unfold maxLen; omega,by show dl (1:Rat).den<=1; omega,by unfold maxLen; omega,o1,o2,rz,hB⟩
 case round =>
  clear o1 o2 rz hB
  obtain ⟨k,Sa,sc,Sb,sd,rfl,rfl,rfl,rfl,hk,hkg,c1,c2,c3,c4,s1,s2,rz,hB⟩:=hrel
  have HSK:=hs.out k hk
  by_cases hlt:k<m
  ·have hlt':(k:Int)<(m:Int):=by omega
   obtain ⟨b,off,s,A,n,c',A2,n2,c2',rfl,hb,t0,t1,t2,hraw⟩:=h.on hB k hlt
   have HRK:=hr.out k hlt
   have HSK2:=hs.out (k+1) (by omega)
   obtain ⟨S,hS⟩:∃ S,S=prodR rs k:=⟨_,rfl⟩
   obtain ⟨rk,hrk⟩:∃ S,S=rs k:=⟨_,rfl⟩
   have hnext:prodR rs (k+1)=S*rk:=by rw [hS,hrk]; rfl
   rw [<-hS] at c1 c3 s1 s2 HSK ⊢
   rw [<-hrk] at hraw HRK
   have HNX:=hid hnext
   rw [hnext] at HSK2
   clear hS hrk hnext
   have hr1:=HSK.1
   have hr2:=HSK.2
   have hr3:=HRK.1
   have hr4:=HRK.2
   have hx:=dl_mul_le' (show dl S.num.natAbs<=N from hr1) (show dl rk.num.natAbs<=N from hr3)
   have hy:=dl_mul_le' (show dl S.den<=N from hr2) (show dl rk.den<=N from hr4)
   have HR:=hid (rv_mul S rk)
   have kb:=below_one wr (.cells #[.bool s,.slice A n c',.slice A2 n2 c2'] 31)
   have rt:=box_row (w:=wr) (a:=.bool s) (b:=.slice A n c') (c:=.slice A2 n2 c2') (T := 31)
   have hgz:=rz.lt
   replace s1:=s1.on kb
   replace s2:=s2.on kb
   replace rz:=rowIs_on rz kb
   replace hB:=onS hB kb
   replace hraw:=hraw.on kb
   clear kb
   obtain ⟨w4,hw4⟩:∃ W,W=wr.alloc (.cells #[.bool s,.slice A n c',.slice A2 n2 c2'] 31):=⟨_,rfl⟩
   rw [<-hw4] at s1 s2 rz hB hraw rt
   obtain ⟨h5,hh5⟩:∃ g,g=wr.heap.size:=⟨_,rfl⟩
   rw [<-hh5] at rt hgz
   have hne:=hgz
   go_upto_region 5 with fail
   rw [<-hh5,<-hw4]
   clear hw4 hh5 t0 t1 t2
   have lt0:w4.cell? ⟨h5,0,none⟩=some (.bool (s)):=rt.cell (i:=0) (by omega)
   have lt1:w4.cell? ⟨h5,1,none⟩=some (.slice (A) (n) (c')):=rt.cell (i:=1) (by omega)
   have lt2:w4.cell? ⟨h5,2,none⟩=some (.slice (A2) (n2) (c2')):=rt.cell (i:=2) (by omega)
   have hgs:=hB.size
   have hle5:w.heap.size<=h5:=by omega
   go_wp2_with fail
   refine (ratTrim_any _ rk N _ hraw (by omega)).mono ?_
   rintro e w5 ⟨Aa,ca,Ba,da,rfl,ma1,ma2,ma3,ma4,ma5,ma6,kb⟩
   replace s1:=s1.on kb
   replace s2:=s2.on kb
   replace rz:=rowIs_on rz kb
   replace hB:=onS hB kb
   replace hraw:=hraw.on kb
   replace rt:=rowIs_on rt kb
   clear kb
   clear hraw lt0 lt1 lt2
   have hsz:=hB.size
   have za0:=rt.frozen 0
   have za1:=rt.frozen 1
   have za2:=rt.frozen 2
   have ya0:w5.cell? ⟨h5,0,none⟩=some _:=rt.cell (i:=0) (by omega)
   have ya1:w5.cell? ⟨h5,1,none⟩=some _:=rt.cell (i:=1) (by omega)
   have ya2:w5.cell? ⟨h5,2,none⟩=some _:=rt.cell (i:=2) (by omega)
   go_upto_region 6 with fail
   generalize hw3:World.setCell _ _ _=w6
   have hst:RatStored w5 (h5) 31 (rneg rk) (Aa) (dl rk.num.natAbs) (ca) (Ba) (dl rk.den) (da) w6:=by rw [<-hw3]; exact rat_stored rt _ _ _ _ _ _ _
   clear hw3
   replace s1:=hst.nat _ _ _ s1
   rw [<-hst.size] at s1
   replace s2:=hst.nat _ _ _ s2
   rw [<-hst.size] at s2
   replace rz:=rowIs_grown rz hst.grown (by omega)
   replace hB:=hst.below hB (by omega) (by omega)
   replace rt:=hst.row
   replace ma1:=hst.nat _ _ _ ma1
   rw [<-hst.size] at ma1
   replace ma2:=hst.nat _ _ _ ma2
   rw [<-hst.size] at ma2
   clear hst
   clear hsz za0 za1 za2 ya0 ya1 ya2 hgs
   go_cut [8] (fun v8 wx=>∃ g8 Am cm Bm dm,v8=.pointer (some ⟨g8,0,none⟩)/\NatOk wx wx.heap.size Am (S*rk).num.natAbs/\NatOk wx wx.heap.size Bm (S*rk).den/\dl (S*rk).num.natAbs<=cm/\cm<=maxLen/\dl (S*rk).den<=dm/\dm<=maxLen/\wx.rowIs g8 31 3 (ratCell (.bool (rneg (S*rk))) (.slice Am (dl (S*rk).num.natAbs) cm) (.slice Bm (dl (S*rk).den) dm))/\Below w6.heap.size w6 wx)
   case first =>
    have kw:=Below.refl w6.heap.size w6
    clear hs hr h HNX rz hB HSK2
    have HS:Hid (∀ w':World,w'.rowIs h5 31 3 (ratCell (.bool (rneg rk)) (.slice (Aa) (dl rk.num.natAbs) (ca)) (.slice (Ba) (dl rk.den) (da)))->w'.cell? ⟨h5,0,none⟩=some (.bool (rneg rk))/\w'.cell? ⟨h5,1,none⟩=some (.slice (Aa) (dl rk.num.natAbs) (ca))/\w'.cell? ⟨h5,2,none⟩=some (.slice (Ba) (dl rk.den) (da))):=fun w' h2=>⟨h2.cell (i:=0) (by omega),h2.cell (i:=1) (by omega),h2.cell (i:=2) (by omega)⟩
    refine wp_region_held_drew (S:=fun w'=>w'.cell? ⟨h5,0,none⟩=some (.bool (rneg rk))/\w'.cell? ⟨h5,1,none⟩=some (.slice (Aa) (dl rk.num.natAbs) (ca))/\w'.cell? ⟨h5,2,none⟩=some (.slice (Ba) (dl rk.den) (da))) (by kernel_rfl) (HS.out _ (show World.rowIs (World.drew _) _ _ _ _ from rt)) (fun hHeld=>?_)
    obtain ⟨w7,hw⟩:∃ W,W=World.drew w6:=⟨_,rfl⟩
    have kb:Below w6.heap.size w6 w7:=by rw [hw]; exact (Below.refl _ _).drew
    rw [<-hw] at hHeld ⊢
    clear hw
    replace s1:=s1.on kb
    replace s2:=s2.on kb
    replace rt:=rowIs_on rt kb
    replace ma1:=ma1.on kb
    replace ma2:=ma2.on kb
    replace kw:=onS kw kb
    clear kb
    refine tkq 0 (h:=tkq 1 (h:=tkq 2 (h:=tkq 3 (h:=tkq 4 (h:=tkq 5 (h:=tkq 6 (h:=tkq 9 (h:=tkq 10 (h:=tkq 11 (h:=?_))))))))))
    refine wpAnyH_ready (rs:=[7,12,15]) (by kernel_rfl) (by simp) ?_
    refine AllReadyH.cons (by simp only [List.getElem?_toArray,List.getElem?_cons_succ,List.getElem?_cons_zero]; rfl) (fun K hK=>?_) (AllReadyH.cons (by simp only [List.getElem?_toArray,List.getElem?_cons_succ,List.getElem?_cons_zero]; rfl) (fun K hK=>?_) (AllReadyH.cons (by simp only [List.getElem?_toArray,List.getElem?_cons_succ,List.getElem?_cons_zero]; rfl) (fun K hK=>?_) AllReadyH.nil))
    ·go_simp
     obtain ⟨w8,hw⟩:∃ W,W=World.alloc w7 (Obj.cells #[.slice Sa (dl (S.num.natAbs)) sc,.slice Aa (dl (rk.num.natAbs)) ca] 29):=⟨_,rfl⟩
     have kb:Below w7.heap.size w7 w8:=by rw [hw]; exact below_one _ _
     have tbp:NatTab w8 w8.heap.size (some ⟨w7.heap.size,0,none⟩) 2 (pairF (S.num.natAbs) (rk.num.natAbs)):=NatTab.letter hw (natTab_pair 29 s1 ma1 c1 ma3 c2 ma4)
     rw [<-hw]
     clear hw
     replace s1:=s1.on kb
     replace s2:=s2.on kb
     replace rt:=rowIs_on rt kb
     replace ma1:=ma1.on kb
     replace ma2:=ma2.on kb
     replace kw:=onS kw kb
     clear kb
     obtain ⟨gp,hg⟩:∃ g,g=w7.heap.size:=⟨_,rfl⟩
     rw [<-hg] at tbp ⊢
     clear hg
     refine bkq hK (HS.out _ rt) (h:=fun hHeld=>?_)
     clear hK K
     refine wpAnyH_ready (rs:=[8,12,15]) (by kernel_rfl) (by simp) ?_
     refine AllReadyH.cons (by simp only [List.getElem?_toArray,List.getElem?_cons_succ,List.getElem?_cons_zero]; rfl) (fun K hK=>?_) (AllReadyH.cons (by simp only [List.getElem?_toArray,List.getElem?_cons_succ,List.getElem?_cons_zero]; rfl) (fun K hK=>?_) (AllReadyH.cons (by simp only [List.getElem?_toArray,List.getElem?_cons_succ,List.getElem?_cons_zero]; rfl) (fun K hK=>?_) AllReadyH.nil))
     ·go_simp
      go_wp2_with fail
      refine (mul_tab (x:=S.num.natAbs) (y:=rk.num.natAbs) tbp (by omega) (by omega) (by omega)).mono ?_
      rintro e w9 ⟨Xx,kx,rfl,ux1,ux2,ux3,kb⟩
      replace s1:=s1.on kb
      replace s2:=s2.on kb
      replace rt:=rowIs_on rt kb
      replace ma1:=ma1.on kb
      replace ma2:=ma2.on kb
      replace kw:=onS kw kb
      replace tbp:=tbp.on kb
      clear kb
      clear tbp
      refine bkq hK (HS.out _ rt) (h:=fun hHeld=>?_)
      clear hK K
      refine rdq2 12 15 (h:=fun K hK=>?_) (h2:=fun K hK=>?_)
      ·go_simp
       obtain ⟨w10,hw⟩:∃ W,W=World.alloc w9 (Obj.cells #[.slice Sb (dl (S.den)) sd,.slice Ba (dl (rk.den)) da] 29):=⟨_,rfl⟩
       have kb:Below w9.heap.size w9 w10:=by rw [hw]; exact below_one _ _
       have tbq:NatTab w10 w10.heap.size (some ⟨w9.heap.size,0,none⟩) 2 (pairF (S.den) (rk.den)):=NatTab.letter hw (natTab_pair 29 s2 ma2 c3 ma5 c4 ma6)
       rw [<-hw]
       clear hw
       replace s1:=s1.on kb
       replace s2:=s2.on kb
       replace rt:=rowIs_on rt kb
       replace ma1:=ma1.on kb
       replace ma2:=ma2.on kb
       replace kw:=onS kw kb
       replace ux3:=ux3.on kb
       clear kb
       obtain ⟨gq,hg⟩:∃ g,g=w9.heap.size:=⟨_,rfl⟩
       rw [<-hg] at tbq ⊢
       clear hg
       refine bkq hK (HS.out _ rt) (h:=fun hHeld=>?_)
       clear hK K
       refine rdq2 13 15 (h:=fun K hK=>?_) (h2:=fun K hK=>?_)
       ·go_simp
        go_wp2_with fail
        refine (mul_tab (x:=S.den) (y:=rk.den) tbq (by omega) (by omega) (by omega)).mono ?_
        rintro e w11 ⟨Xy,ky,rfl,uy1,uy2,uy3,kb⟩
        replace s1:=s1.on kb
        replace s2:=s2.on kb
        replace rt:=rowIs_on rt kb
        replace ma1:=ma1.on kb
        replace ma2:=ma2.on kb
        replace kw:=onS kw kb
        replace ux3:=ux3.on kb
        replace tbq:=tbq.on kb
        clear kb
        clear tbq
        refine bkq hK (HS.out _ rt) (h:=fun hHeld=>?_)
        clear hK K
        refine rdq2 14 15 (h:=fun K hK=>?_) (h2:=fun K hK=>?_)
        ·go_simp
         go_wp2_with fail
         refine (ratCanon_any (rneg S != rneg rk) Xx Xy (dl (S.num.natAbs*rk.num.natAbs)) kx (dl (S.den*rk.den)) ky (S.num.natAbs*rk.num.natAbs) (S.den*rk.den) _ ux3.raw uy3.raw ux1 ux2 uy1 uy2 (by omega) (by omega)).mono ?_
         rintro e w12 ⟨Am,cm,Bm,dm,rfl,mm1,mm2,mm3,mm4,mm5,mm6,kb⟩
         replace s1:=s1.on kb
         replace s2:=s2.on kb
         replace rt:=rowIs_on rt kb
         replace ma1:=ma1.on kb
         replace ma2:=ma2.on kb
         replace kw:=onS kw kb
         replace ux3:=ux3.on kb
         replace uy3:=uy3.on kb
         clear kb
         rw [HR.out] at mm1 mm2 mm3 mm5 ⊢
         obtain ⟨q,hq⟩:∃ q,q=S*rk:=⟨_,rfl⟩
         rw [<-hq] at mm1 mm2 mm3 mm5 ⊢
         have HQL:=hid hq
         obtain ⟨ngq,hngq⟩:∃ b,b=rneg q:=⟨_,rfl⟩
         rw [<-hngq]
         have HNG:=hid hngq
         clear hq hngq
         refine bkq hK (HS.out _ rt) (h:=fun hHeld=>?_)
         clear hK K
         refine rdq 15 (h:=fun K hK=>?_)
         go_simp
         obtain ⟨w13,hw⟩:∃ W,W=World.alloc w12 (.cells #[.bool false,.slice none 0 0,.slice none 0 0] 31):=⟨_,rfl⟩
         have kb:Below w12.heap.size w12 w13:=by rw [hw]; exact below_one _ _
         have r8:World.rowIs w13 w12.heap.size 31 3 (ratCell (.bool false) (.slice none 0 0) (.slice none 0 0)):=by rw [hw]; exact box_row
         rw [<-hw]
         clear hw
         have hsz8:=kw.size
         have hrt8:=rt.lt
         replace s1:=s1.on kb
         replace s2:=s2.on kb
         replace rt:=rowIs_on rt kb
         replace ma1:=ma1.on kb
         replace ma2:=ma2.on kb
         replace kw:=onS kw kb
         replace ux3:=ux3.on kb
         replace uy3:=uy3.on kb
         replace mm1:=mm1.on kb
         replace mm2:=mm2.on kb
         clear kb
         obtain ⟨g8,hg⟩:∃ g,g=w12.heap.size:=⟨_,rfl⟩
         rw [<-hg] at r8 hsz8 hrt8 ⊢
         clear hg
         refine bkq hK (HS.out _ rt) (h:=fun hHeld=>?_)
         clear hK K
         have hr8:=r8.lt
         have hszk:=kw.size
         have za0:=r8.frozen 0
         have za1:=r8.frozen 1
         have za2:=r8.frozen 2
         have ya0:w13.cell? ⟨g8,0,none⟩=some _:=r8.cell (i:=0) (by omega)
         have ya1:w13.cell? ⟨g8,1,none⟩=some _:=r8.cell (i:=1) (by omega)
         have ya2:w13.cell? ⟨g8,2,none⟩=some _:=r8.cell (i:=2) (by omega)
         refine rdq 16 (h:=fun K hK=>?_)
         go_simp
         generalize hw3:World.setCell _ _ _=w14
         have hst:RatStored w13 (g8) 31 (ngq) (Am) (dl q.num.natAbs) (cm) (Bm) (dl q.den) (dm) w14:=by rw [<-hw3]; exact rat_stored r8 _ _ _ _ _ _ _
         clear hw3
         replace s1:=hst.nat _ _ _ s1
         rw [<-hst.size] at s1
         replace s2:=hst.nat _ _ _ s2
         rw [<-hst.size] at s2
         replace rt:=rowIs_grown rt hst.grown (by omega)
         replace ma1:=hst.nat _ _ _ ma1
         rw [<-hst.size] at ma1
         replace ma2:=hst.nat _ _ _ ma2
         rw [<-hst.size] at ma2
         replace kw:=hst.below kw (by omega) (by omega)
         replace ux3:=hst.nat _ _ _ ux3
         rw [<-hst.size] at ux3
         replace uy3:=hst.nat _ _ _ uy3
         rw [<-hst.size] at uy3
         replace mm1:=hst.nat _ _ _ mm1
         rw [<-hst.size] at mm1
         replace mm2:=hst.nat _ _ _ mm2
         rw [<-hst.size] at mm2
         replace r8:=hst.row
         clear hst
         refine bkq hK (HS.out _ rt) (h:=fun hHeld=>?_)
         clear hK K
         refine wpAnyH_done (by kernel_rfl) ?_ _
         clear hHeld
         clear za0 za1 za2 ya0 ya1 ya2 HS hr8 hszk hsz8 hrt8
         go_wp2
         go_meet
         rw [HNG.out] at r8
         rw [HQL.out] at mm1 mm2 mm3 mm5 r8
         exact ⟨g8,Am,cm,Bm,dm,rfl,mm1,mm2,mm3,mm4,mm5,mm6,r8,kw⟩
        ·go_simp
         obtain ⟨w12,hw⟩:∃ W,W=World.alloc w11 (.cells #[.bool false,.slice none 0 0,.slice none 0 0] 31):=⟨_,rfl⟩
         have kb:Below w11.heap.size w11 w12:=by rw [hw]; exact below_one _ _
         have r8:World.rowIs w12 w11.heap.size 31 3 (ratCell (.bool false) (.slice none 0 0) (.slice none 0 0)):=by rw [hw]; exact box_row
         rw [<-hw]
         clear hw
         have hsz8:=kw.size
         have hrt8:=rt.lt
         replace s1:=s1.on kb
         replace s2:=s2.on kb
         replace rt:=rowIs_on rt kb
         replace ma1:=ma1.on kb
         replace ma2:=ma2.on kb
         replace kw:=onS kw kb
         replace ux3:=ux3.on kb
         replace uy3:=uy3.on kb
         clear kb
         obtain ⟨g8,hg⟩:∃ g,g=w11.heap.size:=⟨_,rfl⟩
         rw [<-hg] at r8 hsz8 hrt8 ⊢
         clear hg
         refine bkq hK (HS.out _ rt) (h:=fun hHeld=>?_)
         clear hK K
         refine rdq 14 (h:=fun K hK=>?_)
         go_simp
         go_wp2_with fail
         refine (ratCanon_any (rneg S != rneg rk) Xx Xy (dl (S.num.natAbs*rk.num.natAbs)) kx (dl (S.den*rk.den)) ky (S.num.natAbs*rk.num.natAbs) (S.den*rk.den) _ ux3.raw uy3.raw ux1 ux2 uy1 uy2 (by omega) (by omega)).mono ?_
         rintro e w13 ⟨Am,cm,Bm,dm,rfl,mm1,mm2,mm3,mm4,mm5,mm6,kb⟩
         replace s1:=s1.on kb
         replace s2:=s2.on kb
         replace rt:=rowIs_on rt kb
         replace ma1:=ma1.on kb
         replace ma2:=ma2.on kb
         replace kw:=onS kw kb
         replace ux3:=ux3.on kb
         replace uy3:=uy3.on kb
         replace r8:=rowIs_on r8 kb
         clear kb
         rw [HR.out] at mm1 mm2 mm3 mm5 ⊢
         obtain ⟨q,hq⟩:∃ q,q=S*rk:=⟨_,rfl⟩
         rw [<-hq] at mm1 mm2 mm3 mm5 ⊢
         have HQL:=hid hq
         obtain ⟨ngq,hngq⟩:∃ b,b=rneg q:=⟨_,rfl⟩
         rw [<-hngq]
         have HNG:=hid hngq
         clear hq hngq
         refine bkq hK (HS.out _ rt) (h:=fun hHeld=>?_)
         clear hK K
         have hr8:=r8.lt
         have hszk:=kw.size
         have za0:=r8.frozen 0
         have za1:=r8.frozen 1
         have za2:=r8.frozen 2
         have ya0:w13.cell? ⟨g8,0,none⟩=some _:=r8.cell (i:=0) (by omega)
         have ya1:w13.cell? ⟨g8,1,none⟩=some _:=r8.cell (i:=1) (by omega)
         have ya2:w13.cell? ⟨g8,2,none⟩=some _:=r8.cell (i:=2) (by omega)
         refine rdq 16 (h:=fun K hK=>?_)
         go_simp
         generalize hw3:World.setCell _ _ _=w14
         have hst:RatStored w13 (g8) 31 (ngq) (Am) (dl q.num.natAbs) (cm) (Bm) (dl q.den) (dm) w14:=by rw [<-hw3]; exact rat_stored r8 _ _ _ _ _ _ _
         clear hw3
         replace s1:=hst.nat _ _ _ s1
         rw [<-hst.size] at s1
         replace s2:=hst.nat _ _ _ s2
         rw [<-hst.size] at s2
         replace rt:=rowIs_grown rt hst.grown (by omega)
         replace ma1:=hst.nat _ _ _ ma1
         rw [<-hst.size] at ma1
         replace ma2:=hst.nat _ _ _ ma2
         rw [<-hst.size] at ma2
         replace kw:=hst.below kw (by omega) (by omega)
         replace ux3:=hst.nat _ _ _ ux3
         rw [<-hst.size] at ux3
         replace uy3:=hst.nat _ _ _ uy3
         rw [<-hst.size] at uy3
         replace r8:=hst.row
         replace mm1:=hst.nat _ _ _ mm1
         rw [<-hst.size] at mm1
         replace mm2:=hst.nat _ _ _ mm2
         rw [<-hst.size] at mm2
         clear hst
         refine bkq hK (HS.out _ rt) (h:=fun hHeld=>?_)
         clear hK K
         refine wpAnyH_done (by kernel_rfl) ?_ _
         clear hHeld
         clear za0 za1 za2 ya0 ya1 ya2 HS hr8 hszk hsz8 hrt8
         go_wp2
         go_meet
         rw [HNG.out] at r8
         rw [HQL.out] at mm1 mm2 mm3 mm5 r8
         exact ⟨g8,Am,cm,Bm,dm,rfl,mm1,mm2,mm3,mm4,mm5,mm6,r8,kw⟩
       ·go_simp
        obtain ⟨w11,hw⟩:∃ W,W=World.alloc w10 (.cells #[.bool false,.slice none 0 0,.slice none 0 0] 31):=⟨_,rfl⟩
        have kb:Below w10.heap.size w10 w11:=by rw [hw]; exact below_one _ _
        have r8:World.rowIs w11 w10.heap.size 31 3 (ratCell (.bool false) (.slice none 0 0) (.slice none 0 0)):=by rw [hw]; exact box_row
        rw [<-hw]
        clear hw
        have hsz8:=kw.size
        have hrt8:=rt.lt
        replace s1:=s1.on kb
        replace s2:=s2.on kb
        replace rt:=rowIs_on rt kb
        replace ma1:=ma1.on kb
        replace ma2:=ma2.on kb
        replace kw:=onS kw kb
        replace ux3:=ux3.on kb
        replace tbq:=tbq.on kb
        clear kb
        obtain ⟨g8,hg⟩:∃ g,g=w10.heap.size:=⟨_,rfl⟩
        rw [<-hg] at r8 hsz8 hrt8 ⊢
        clear hg
        refine bkq hK (HS.out _ rt) (h:=fun hHeld=>?_)
        clear hK K
        refine rdq 13 (h:=fun K hK=>?_)
        go_simp
        go_wp2_with fail
        refine (mul_tab (x:=S.den) (y:=rk.den) tbq (by omega) (by omega) (by omega)).mono ?_
        rintro e w12 ⟨Xy,ky,rfl,uy1,uy2,uy3,kb⟩
        replace s1:=s1.on kb
        replace s2:=s2.on kb
        replace rt:=rowIs_on rt kb
        replace ma1:=ma1.on kb
        replace ma2:=ma2.on kb
        replace kw:=onS kw kb
        replace ux3:=ux3.on kb
        replace tbq:=tbq.on kb
        replace r8:=rowIs_on r8 kb
        clear kb
        clear tbq
        refine bkq hK (HS.out _ rt) (h:=fun hHeld=>?_)
        clear hK K
        refine rdq 14 (h:=fun K hK=>?_)
        go_simp
        go_wp2_with fail
        refine (ratCanon_any (rneg S != rneg rk) Xx Xy (dl (S.num.natAbs*rk.num.natAbs)) kx (dl (S.den*rk.den)) ky (S.num.natAbs*rk.num.natAbs) (S.den*rk.den) _ ux3.raw uy3.raw ux1 ux2 uy1 uy2 (by omega) (by omega)).mono ?_
        rintro e w13 ⟨Am,cm,Bm,dm,rfl,mm1,mm2,mm3,mm4,mm5,mm6,kb⟩
        replace s1:=s1.on kb
        replace s2:=s2.on kb
        replace rt:=rowIs_on rt kb
        replace ma1:=ma1.on kb
        replace ma2:=ma2.on kb
        replace kw:=onS kw kb
        replace ux3:=ux3.on kb
        replace r8:=rowIs_on r8 kb
        replace uy3:=uy3.on kb
        clear kb
        rw [HR.out] at mm1 mm2 mm3 mm5 ⊢
        obtain ⟨q,hq⟩:∃ q,q=S*rk:=⟨_,rfl⟩
        rw [<-hq] at mm1 mm2 mm3 mm5 ⊢
        have HQL:=hid hq
        obtain ⟨ngq,hngq⟩:∃ b,b=rneg q:=⟨_,rfl⟩
        rw [<-hngq]
        have HNG:=hid hngq
        clear hq hngq
        refine bkq hK (HS.out _ rt) (h:=fun hHeld=>?_)
        clear hK K
        have hr8:=r8.lt
        have hszk:=kw.size
        have za0:=r8.frozen 0
        have za1:=r8.frozen 1
        have za2:=r8.frozen 2
        have ya0:w13.cell? ⟨g8,0,none⟩=some _:=r8.cell (i:=0) (by omega)
        have ya1:w13.cell? ⟨g8,1,none⟩=some _:=r8.cell (i:=1) (by omega)
        have ya2:w13.cell? ⟨g8,2,none⟩=some _:=r8.cell (i:=2) (by omega)
        refine rdq 16 (h:=fun K hK=>?_)
        go_simp
        generalize hw3:World.setCell _ _ _=w14
        have hst:RatStored w13 (g8) 31 (ngq) (Am) (dl q.num.natAbs) (cm) (Bm) (dl q.den) (dm) w14:=by rw [<-hw3]; exact rat_stored r8 _ _ _ _ _ _ _
        clear hw3
        replace s1:=hst.nat _ _ _ s1
        rw [<-hst.size] at s1
        replace s2:=hst.nat _ _ _ s2
        rw [<-hst.size] at s2
        replace rt:=rowIs_grown rt hst.grown (by omega)
        replace ma1:=hst.nat _ _ _ ma1
        rw [<-hst.size] at ma1
        replace ma2:=hst.nat _ _ _ ma2
        rw [<-hst.size] at ma2
        replace kw:=hst.below kw (by omega) (by omega)
        replace ux3:=hst.nat _ _ _ ux3
        rw [<-hst.size] at ux3
        replace r8:=hst.row
        replace uy3:=hst.nat _ _ _ uy3
        rw [<-hst.size] at uy3
        replace mm1:=hst.nat _ _ _ mm1
        rw [<-hst.size] at mm1
        replace mm2:=hst.nat _ _ _ mm2
        rw [<-hst.size] at mm2
        clear hst
        refine bkq hK (HS.out _ rt) (h:=fun hHeld=>?_)
        clear hK K
        refine wpAnyH_done (by kernel_rfl) ?_ _
        clear hHeld
        clear za0 za1 za2 ya0 ya1 ya2 HS hr8 hszk hsz8 hrt8
        go_wp2
        go_meet
        rw [HNG.out] at r8
        rw [HQL.out] at mm1 mm2 mm3 mm5 r8
        exact ⟨g8,Am,cm,Bm,dm,rfl,mm1,mm2,mm3,mm4,mm5,mm6,r8,kw⟩
      ·go_simp
       obtain ⟨w10,hw⟩:∃ W,W=World.alloc w9 (.cells #[.bool false,.slice none 0 0,.slice none 0 0] 31):=⟨_,rfl⟩
       have kb:Below w9.heap.size w9 w10:=by rw [hw]; exact below_one _ _
       have r8:World.rowIs w10 w9.heap.size 31 3 (ratCell (.bool false) (.slice none 0 0) (.slice none 0 0)):=by rw [hw]; exact box_row
       rw [<-hw]
       clear hw
       have hsz8:=kw.size
       have hrt8:=rt.lt
       replace s1:=s1.on kb
       replace s2:=s2.on kb
       replace rt:=rowIs_on rt kb
       replace ma1:=ma1.on kb
       replace ma2:=ma2.on kb
       replace kw:=onS kw kb
       replace ux3:=ux3.on kb
       clear kb
       obtain ⟨g8,hg⟩:∃ g,g=w9.heap.size:=⟨_,rfl⟩
       rw [<-hg] at r8 hsz8 hrt8 ⊢
       clear hg
       refine bkq hK (HS.out _ rt) (h:=fun hHeld=>?_)
       clear hK K
       refine rdq 12 (h:=fun K hK=>?_)
       go_simp
       obtain ⟨w11,hw⟩:∃ W,W=World.alloc w10 (Obj.cells #[.slice Sb (dl (S.den)) sd,.slice Ba (dl (rk.den)) da] 29):=⟨_,rfl⟩
       have kb:Below w10.heap.size w10 w11:=by rw [hw]; exact below_one _ _
       have tbq:NatTab w11 w11.heap.size (some ⟨w10.heap.size,0,none⟩) 2 (pairF (S.den) (rk.den)):=NatTab.letter hw (natTab_pair 29 s2 ma2 c3 ma5 c4 ma6)
       rw [<-hw]
       clear hw
       replace s1:=s1.on kb
       replace s2:=s2.on kb
       replace rt:=rowIs_on rt kb
       replace ma1:=ma1.on kb
       replace ma2:=ma2.on kb
       replace kw:=onS kw kb
       replace ux3:=ux3.on kb
       replace r8:=rowIs_on r8 kb
       clear kb
       obtain ⟨gq,hg⟩:∃ g,g=w10.heap.size:=⟨_,rfl⟩
       rw [<-hg] at tbq ⊢
       clear hg
       refine bkq hK (HS.out _ rt) (h:=fun hHeld=>?_)
       clear hK K
       refine rdq 13 (h:=fun K hK=>?_)
       go_simp
       go_wp2_with fail
       refine (mul_tab (x:=S.den) (y:=rk.den) tbq (by omega) (by omega) (by omega)).mono ?_
       rintro e w12 ⟨Xy,ky,rfl,uy1,uy2,uy3,kb⟩
       replace s1:=s1.on kb
       replace s2:=s2.on kb
       replace rt:=rowIs_on rt kb
       replace ma1:=ma1.on kb
       replace ma2:=ma2.on kb
       replace kw:=onS kw kb
       replace ux3:=ux3.on kb
       replace r8:=rowIs_on r8 kb
       replace tbq:=tbq.on kb
       clear kb
       clear tbq
       refine bkq hK (HS.out _ rt) (h:=fun hHeld=>?_)
       clear hK K
       refine rdq 14 (h:=fun K hK=>?_)
       go_simp
       go_wp2_with fail
       refine (ratCanon_any (rneg S != rneg rk) Xx Xy (dl (S.num.natAbs*rk.num.natAbs)) kx (dl (S.den*rk.den)) ky (S.num.natAbs*rk.num.natAbs) (S.den*rk.den) _ ux3.raw uy3.raw ux1 ux2 uy1 uy2 (by omega) (by omega)).mono ?_
       rintro e w13 ⟨Am,cm,Bm,dm,rfl,mm1,mm2,mm3,mm4,mm5,mm6,kb⟩
       replace s1:=s1.on kb
       replace s2:=s2.on kb
       replace rt:=rowIs_on rt kb
       replace ma1:=ma1.on kb
       replace ma2:=ma2.on kb
       replace kw:=onS kw kb
       replace ux3:=ux3.on kb
       replace r8:=rowIs_on r8 kb
       replace uy3:=uy3.on kb
       clear kb
       rw [HR.out] at mm1 mm2 mm3 mm5 ⊢
       obtain ⟨q,hq⟩:∃ q,q=S*rk:=⟨_,rfl⟩
       rw [<-hq] at mm1 mm2 mm3 mm5 ⊢
       have HQL:=hid hq
       obtain ⟨ngq,hngq⟩:∃ b,b=rneg q:=⟨_,rfl⟩
       rw [<-hngq]
       have HNG:=hid hngq
       clear hq hngq
       refine bkq hK (HS.out _ rt) (h:=fun hHeld=>?_)
       clear hK K
       have hr8:=r8.lt
       have hszk:=kw.size
       have za0:=r8.frozen 0
       have za1:=r8.frozen 1
       have za2:=r8.frozen 2
       have ya0:w13.cell? ⟨g8,0,none⟩=some _:=r8.cell (i:=0) (by omega)
       have ya1:w13.cell? ⟨g8,1,none⟩=some _:=r8.cell (i:=1) (by omega)
       have ya2:w13.cell? ⟨g8,2,none⟩=some _:=r8.cell (i:=2) (by omega)
       refine rdq 16 (h:=fun K hK=>?_)
       go_simp
       generalize hw3:World.setCell _ _ _=w14
       have hst:RatStored w13 (g8) 31 (ngq) (Am) (dl q.num.natAbs) (cm) (Bm) (dl q.den) (dm) w14:=by rw [<-hw3]; exact rat_stored r8 _ _ _ _ _ _ _
       clear hw3
       replace s1:=hst.nat _ _ _ s1
       rw [<-hst.size] at s1
       replace s2:=hst.nat _ _ _ s2
       rw [<-hst.size] at s2
       replace rt:=rowIs_grown rt hst.grown (by omega)
       replace ma1:=hst.nat _ _ _ ma1
       rw [<-hst.size] at ma1
       replace ma2:=hst.nat _ _ _ ma2
       rw [<-hst.size] at ma2
       replace kw:=hst.below kw (by omega) (by omega)
       replace ux3:=hst.nat _ _ _ ux3
       rw [<-hst.size] at ux3
       replace r8:=hst.row
       replace uy3:=hst.nat _ _ _ uy3
       rw [<-hst.size] at uy3
       replace mm1:=hst.nat _ _ _ mm1
       rw [<-hst.size] at mm1
       replace mm2:=hst.nat _ _ _ mm2
       rw [<-hst.size] at mm2
       clear hst
       refine bkq hK (HS.out _ rt) (h:=fun hHeld=>?_)
       clear hK K
       refine wpAnyH_done (by kernel_rfl) ?_ _
       clear hHeld
       clear za0 za1 za2 ya0 ya1 ya2 HS hr8 hszk hsz8 hrt8
       go_wp2
       go_meet
       rw [HNG.out] at r8
       rw [HQL.out] at mm1 mm2 mm3 mm5 r8
       exact ⟨g8,Am,cm,Bm,dm,rfl,mm1,mm2,mm3,mm4,mm5,mm6,r8,kw⟩
     ·go_simp
      obtain ⟨w9,hw⟩:∃ W,W=World.alloc w8 (Obj.cells #[.slice Sb (dl (S.den)) sd,.slice Ba (dl (rk.den)) da] 29):=⟨_,rfl⟩
      have kb:Below w8.heap.size w8 w9:=by rw [hw]; exact below_one _ _
      have tbq:NatTab w9 w9.heap.size (some ⟨w8.heap.size,0,none⟩) 2 (pairF (S.den) (rk.den)):=NatTab.letter hw (natTab_pair 29 s2 ma2 c3 ma5 c4 ma6)
      rw [<-hw]
      clear hw
      replace s1:=s1.on kb
      replace s2:=s2.on kb
      replace rt:=rowIs_on rt kb
      replace ma1:=ma1.on kb
      replace ma2:=ma2.on kb
      replace kw:=onS kw kb
      replace tbp:=tbp.on kb
      clear kb
      obtain ⟨gq,hg⟩:∃ g,g=w8.heap.size:=⟨_,rfl⟩
      rw [<-hg] at tbq ⊢
      clear hg
      refine bkq hK (HS.out _ rt) (h:=fun hHeld=>?_)
      clear hK K
      refine rdq2 8 15 (h:=fun K hK=>?_) (h2:=fun K hK=>?_)
      ·go_simp
       go_wp2_with fail
       refine (mul_tab (x:=S.num.natAbs) (y:=rk.num.natAbs) tbp (by omega) (by omega) (by omega)).mono ?_
       rintro e w10 ⟨Xx,kx,rfl,ux1,ux2,ux3,kb⟩
       replace s1:=s1.on kb
       replace s2:=s2.on kb
       replace rt:=rowIs_on rt kb
       replace ma1:=ma1.on kb
       replace ma2:=ma2.on kb
       replace kw:=onS kw kb
       replace tbp:=tbp.on kb
       replace tbq:=tbq.on kb
       clear kb
       clear tbp
       refine bkq hK (HS.out _ rt) (h:=fun hHeld=>?_)
       clear hK K
       refine rdq2 13 15 (h:=fun K hK=>?_) (h2:=fun K hK=>?_)
       ·go_simp
        go_wp2_with fail
        refine (mul_tab (x:=S.den) (y:=rk.den) tbq (by omega) (by omega) (by omega)).mono ?_
        rintro e w11 ⟨Xy,ky,rfl,uy1,uy2,uy3,kb⟩
        replace s1:=s1.on kb
        replace s2:=s2.on kb
        replace rt:=rowIs_on rt kb
        replace ma1:=ma1.on kb
        replace ma2:=ma2.on kb
        replace kw:=onS kw kb
        replace tbq:=tbq.on kb
        replace ux3:=ux3.on kb
        clear kb
        clear tbq
        refine bkq hK (HS.out _ rt) (h:=fun hHeld=>?_)
        clear hK K
        refine rdq2 14 15 (h:=fun K hK=>?_) (h2:=fun K hK=>?_)
        ·go_simp
         go_wp2_with fail
         refine (ratCanon_any (rneg S != rneg rk) Xx Xy (dl (S.num.natAbs*rk.num.natAbs)) kx (dl (S.den*rk.den)) ky (S.num.natAbs*rk.num.natAbs) (S.den*rk.den) _ ux3.raw uy3.raw ux1 ux2 uy1 uy2 (by omega) (by omega)).mono ?_
         rintro e w12 ⟨Am,cm,Bm,dm,rfl,mm1,mm2,mm3,mm4,mm5,mm6,kb⟩
         replace s1:=s1.on kb
         replace s2:=s2.on kb
         replace rt:=rowIs_on rt kb
         replace ma1:=ma1.on kb
         replace ma2:=ma2.on kb
         replace kw:=onS kw kb
         replace ux3:=ux3.on kb
         replace uy3:=uy3.on kb
         clear kb
         rw [HR.out] at mm1 mm2 mm3 mm5 ⊢
         obtain ⟨q,hq⟩:∃ q,q=S*rk:=⟨_,rfl⟩
         rw [<-hq] at mm1 mm2 mm3 mm5 ⊢
         have HQL:=hid hq
         obtain ⟨ngq,hngq⟩:∃ b,b=rneg q:=⟨_,rfl⟩
         rw [<-hngq]
         have HNG:=hid hngq
         clear hq hngq
         refine bkq hK (HS.out _ rt) (h:=fun hHeld=>?_)
         clear hK K
         refine rdq 15 (h:=fun K hK=>?_)
         go_simp
         obtain ⟨w13,hw⟩:∃ W,W=World.alloc w12 (.cells #[.bool false,.slice none 0 0,.slice none 0 0] 31):=⟨_,rfl⟩
         have kb:Below w12.heap.size w12 w13:=by rw [hw]; exact below_one _ _
         have r8:World.rowIs w13 w12.heap.size 31 3 (ratCell (.bool false) (.slice none 0 0) (.slice none 0 0)):=by rw [hw]; exact box_row
         rw [<-hw]
         clear hw
         have hsz8:=kw.size
         have hrt8:=rt.lt
         replace s1:=s1.on kb
         replace s2:=s2.on kb
         replace rt:=rowIs_on rt kb
         replace ma1:=ma1.on kb
         replace ma2:=ma2.on kb
         replace kw:=onS kw kb
         replace ux3:=ux3.on kb
         replace uy3:=uy3.on kb
         replace mm1:=mm1.on kb
         replace mm2:=mm2.on kb
         clear kb
         obtain ⟨g8,hg⟩:∃ g,g=w12.heap.size:=⟨_,rfl⟩
         rw [<-hg] at r8 hsz8 hrt8 ⊢
         clear hg
         refine bkq hK (HS.out _ rt) (h:=fun hHeld=>?_)
         clear hK K
         have hr8:=r8.lt
         have hszk:=kw.size
         have za0:=r8.frozen 0
         have za1:=r8.frozen 1
         have za2:=r8.frozen 2
         have ya0:w13.cell? ⟨g8,0,none⟩=some _:=r8.cell (i:=0) (by omega)
         have ya1:w13.cell? ⟨g8,1,none⟩=some _:=r8.cell (i:=1) (by omega)
         have ya2:w13.cell? ⟨g8,2,none⟩=some _:=r8.cell (i:=2) (by omega)
         refine rdq 16 (h:=fun K hK=>?_)
         go_simp
         generalize hw3:World.setCell _ _ _=w14
         have hst:RatStored w13 (g8) 31 (ngq) (Am) (dl q.num.natAbs) (cm) (Bm) (dl q.den) (dm) w14:=by rw [<-hw3]; exact rat_stored r8 _ _ _ _ _ _ _
         clear hw3
         replace s1:=hst.nat _ _ _ s1
         rw [<-hst.size] at s1
         replace s2:=hst.nat _ _ _ s2
         rw [<-hst.size] at s2
         replace rt:=rowIs_grown rt hst.grown (by omega)
         replace ma1:=hst.nat _ _ _ ma1
         rw [<-hst.size] at ma1
         replace ma2:=hst.nat _ _ _ ma2
         rw [<-hst.size] at ma2
         replace kw:=hst.below kw (by omega) (by omega)
         replace ux3:=hst.nat _ _ _ ux3
         rw [<-hst.size] at ux3
         replace uy3:=hst.nat _ _ _ uy3
         rw [<-hst.size] at uy3
         replace mm1:=hst.nat _ _ _ mm1
         rw [<-hst.size] at mm1
         replace mm2:=hst.nat _ _ _ mm2
         rw [<-hst.size] at mm2
         replace r8:=hst.row
         clear hst
         refine bkq hK (HS.out _ rt) (h:=fun hHeld=>?_)
         clear hK K
         refine wpAnyH_done (by kernel_rfl) ?_ _
         clear hHeld
         clear za0 za1 za2 ya0 ya1 ya2 HS hr8 hszk hsz8 hrt8
         go_wp2
         go_meet
         rw [HNG.out] at r8
         rw [HQL.out] at mm1 mm2 mm3 mm5 r8
         exact ⟨g8,Am,cm,Bm,dm,rfl,mm1,mm2,mm3,mm4,mm5,mm6,r8,kw⟩
        ·go_simp
         obtain ⟨w12,hw⟩:∃ W,W=World.alloc w11 (.cells #[.bool false,.slice none 0 0,.slice none 0 0] 31):=⟨_,rfl⟩
         have kb:Below w11.heap.size w11 w12:=by rw [hw]; exact below_one _ _
         have r8:World.rowIs w12 w11.heap.size 31 3 (ratCell (.bool false) (.slice none 0 0) (.slice none 0 0)):=by rw [hw]; exact box_row
         rw [<-hw]
         clear hw
         have hsz8:=kw.size
         have hrt8:=rt.lt
         replace s1:=s1.on kb
         replace s2:=s2.on kb
         replace rt:=rowIs_on rt kb
         replace ma1:=ma1.on kb
         replace ma2:=ma2.on kb
         replace kw:=onS kw kb
         replace ux3:=ux3.on kb
         replace uy3:=uy3.on kb
         clear kb
         obtain ⟨g8,hg⟩:∃ g,g=w11.heap.size:=⟨_,rfl⟩
         rw [<-hg] at r8 hsz8 hrt8 ⊢
         clear hg
         refine bkq hK (HS.out _ rt) (h:=fun hHeld=>?_)
         clear hK K
         refine rdq 14 (h:=fun K hK=>?_)
         go_simp
         go_wp2_with fail
         refine (ratCanon_any (rneg S != rneg rk) Xx Xy (dl (S.num.natAbs*rk.num.natAbs)) kx (dl (S.den*rk.den)) ky (S.num.natAbs*rk.num.natAbs) (S.den*rk.den) _ ux3.raw uy3.raw ux1 ux2 uy1 uy2 (by omega) (by omega)).mono ?_
         rintro e w13 ⟨Am,cm,Bm,dm,rfl,mm1,mm2,mm3,mm4,mm5,mm6,kb⟩
         replace s1:=s1.on kb
         replace s2:=s2.on kb
         replace rt:=rowIs_on rt kb
         replace ma1:=ma1.on kb
         replace ma2:=ma2.on kb
         replace kw:=onS kw kb
         replace ux3:=ux3.on kb
         replace uy3:=uy3.on kb
         replace r8:=rowIs_on r8 kb
         clear kb
         rw [HR.out] at mm1 mm2 mm3 mm5 ⊢
         obtain ⟨q,hq⟩:∃ q,q=S*rk:=⟨_,rfl⟩
         rw [<-hq] at mm1 mm2 mm3 mm5 ⊢
         have HQL:=hid hq
         obtain ⟨ngq,hngq⟩:∃ b,b=rneg q:=⟨_,rfl⟩
         rw [<-hngq]
         have HNG:=hid hngq
         clear hq hngq
         refine bkq hK (HS.out _ rt) (h:=fun hHeld=>?_)
         clear hK K
         have hr8:=r8.lt
         have hszk:=kw.size
         have za0:=r8.frozen 0
         have za1:=r8.frozen 1
         have za2:=r8.frozen 2
         have ya0:w13.cell? ⟨g8,0,none⟩=some _:=r8.cell (i:=0) (by omega)
         have ya1:w13.cell? ⟨g8,1,none⟩=some _:=r8.cell (i:=1) (by omega)
         have ya2:w13.cell? ⟨g8,2,none⟩=some _:=r8.cell (i:=2) (by omega)
         refine rdq 16 (h:=fun K hK=>?_)
         go_simp
         generalize hw3:World.setCell _ _ _=w14
         have hst:RatStored w13 (g8) 31 (ngq) (Am) (dl q.num.natAbs) (cm) (Bm) (dl q.den) (dm) w14:=by rw [<-hw3]; exact rat_stored r8 _ _ _ _ _ _ _
         clear hw3
         replace s1:=hst.nat _ _ _ s1
         rw [<-hst.size] at s1
         replace s2:=hst.nat _ _ _ s2
         rw [<-hst.size] at s2
         replace rt:=rowIs_grown rt hst.grown (by omega)
         replace ma1:=hst.nat _ _ _ ma1
         rw [<-hst.size] at ma1
         replace ma2:=hst.nat _ _ _ ma2
         rw [<-hst.size] at ma2
         replace kw:=hst.below kw (by omega) (by omega)
         replace ux3:=hst.nat _ _ _ ux3
         rw [<-hst.size] at ux3
         replace uy3:=hst.nat _ _ _ uy3
         rw [<-hst.size] at uy3
         replace r8:=hst.row
         replace mm1:=hst.nat _ _ _ mm1
         rw [<-hst.size] at mm1
         replace mm2:=hst.nat _ _ _ mm2
         rw [<-hst.size] at mm2
         clear hst
         refine bkq hK (HS.out _ rt) (h:=fun hHeld=>?_)
         clear hK K
         refine wpAnyH_done (by kernel_rfl) ?_ _
         clear hHeld
         clear za0 za1 za2 ya0 ya1 ya2 HS hr8 hszk hsz8 hrt8
         go_wp2
         go_meet
         rw [HNG.out] at r8
         rw [HQL.out] at mm1 mm2 mm3 mm5 r8
         exact ⟨g8,Am,cm,Bm,dm,rfl,mm1,mm2,mm3,mm4,mm5,mm6,r8,kw⟩
       ·go_simp
        obtain ⟨w11,hw⟩:∃ W,W=World.alloc w10 (.cells #[.bool false,.slice none 0 0,.slice none 0 0] 31):=⟨_,rfl⟩
        have kb:Below w10.heap.size w10 w11:=by rw [hw]; exact below_one _ _
        have r8:World.rowIs w11 w10.heap.size 31 3 (ratCell (.bool false) (.slice none 0 0) (.slice none 0 0)):=by rw [hw]; exact box_row
        rw [<-hw]
        clear hw
        have hsz8:=kw.size
        have hrt8:=rt.lt
        replace s1:=s1.on kb
        replace s2:=s2.on kb
        replace rt:=rowIs_on rt kb
        replace ma1:=ma1.on kb
        replace ma2:=ma2.on kb
        replace kw:=onS kw kb
        replace tbq:=tbq.on kb
        replace ux3:=ux3.on kb
        clear kb
        obtain ⟨g8,hg⟩:∃ g,g=w10.heap.size:=⟨_,rfl⟩
        rw [<-hg] at r8 hsz8 hrt8 ⊢
        clear hg
        refine bkq hK (HS.out _ rt) (h:=fun hHeld=>?_)
        clear hK K
        refine rdq 13 (h:=fun K hK=>?_)
        go_simp
        go_wp2_with fail
        refine (mul_tab (x:=S.den) (y:=rk.den) tbq (by omega) (by omega) (by omega)).mono ?_
        rintro e w12 ⟨Xy,ky,rfl,uy1,uy2,uy3,kb⟩
        replace s1:=s1.on kb
        replace s2:=s2.on kb
        replace rt:=rowIs_on rt kb
        replace ma1:=ma1.on kb
        replace ma2:=ma2.on kb
        replace kw:=onS kw kb
        replace tbq:=tbq.on kb
        replace ux3:=ux3.on kb
        replace r8:=rowIs_on r8 kb
        clear kb
        clear tbq
        refine bkq hK (HS.out _ rt) (h:=fun hHeld=>?_)
        clear hK K
        refine rdq 14 (h:=fun K hK=>?_)
        go_simp
        go_wp2_with fail
        refine (ratCanon_any (rneg S != rneg rk) Xx Xy (dl (S.num.natAbs*rk.num.natAbs)) kx (dl (S.den*rk.den)) ky (S.num.natAbs*rk.num.natAbs) (S.den*rk.den) _ ux3.raw uy3.raw ux1 ux2 uy1 uy2 (by omega) (by omega)).mono ?_
        rintro e w13 ⟨Am,cm,Bm,dm,rfl,mm1,mm2,mm3,mm4,mm5,mm6,kb⟩
        replace s1:=s1.on kb
        replace s2:=s2.on kb
        replace rt:=rowIs_on rt kb
        replace ma1:=ma1.on kb
        replace ma2:=ma2.on kb
        replace kw:=onS kw kb
        replace ux3:=ux3.on kb
        replace r8:=rowIs_on r8 kb
        replace uy3:=uy3.on kb
        clear kb
        rw [HR.out] at mm1 mm2 mm3 mm5 ⊢
        obtain ⟨q,hq⟩:∃ q,q=S*rk:=⟨_,rfl⟩
        rw [<-hq] at mm1 mm2 mm3 mm5 ⊢
        have HQL:=hid hq
        obtain ⟨ngq,hngq⟩:∃ b,b=rneg q:=⟨_,rfl⟩
        rw [<-hngq]
        have HNG:=hid hngq
        clear hq hngq
        refine bkq hK (HS.out _ rt) (h:=fun hHeld=>?_)
        clear hK K
        have hr8:=r8.lt
        have hszk:=kw.size
        have za0:=r8.frozen 0
        have za1:=r8.frozen 1
        have za2:=r8.frozen 2
        have ya0:w13.cell? ⟨g8,0,none⟩=some _:=r8.cell (i:=0) (by omega)
        have ya1:w13.cell? ⟨g8,1,none⟩=some _:=r8.cell (i:=1) (by omega)
        have ya2:w13.cell? ⟨g8,2,none⟩=some _:=r8.cell (i:=2) (by omega)
        refine rdq 16 (h:=fun K hK=>?_)
        go_simp
        generalize hw3:World.setCell _ _ _=w14
        have hst:RatStored w13 (g8) 31 (ngq) (Am) (dl q.num.natAbs) (cm) (Bm) (dl q.den) (dm) w14:=by rw [<-hw3]; exact rat_stored r8 _ _ _ _ _ _ _
        clear hw3
        replace s1:=hst.nat _ _ _ s1
        rw [<-hst.size] at s1
        replace s2:=hst.nat _ _ _ s2
        rw [<-hst.size] at s2
        replace rt:=rowIs_grown rt hst.grown (by omega)
        replace ma1:=hst.nat _ _ _ ma1
        rw [<-hst.size] at ma1
        replace ma2:=hst.nat _ _ _ ma2
        rw [<-hst.size] at ma2
        replace kw:=hst.below kw (by omega) (by omega)
        replace ux3:=hst.nat _ _ _ ux3
        rw [<-hst.size] at ux3
        replace r8:=hst.row
        replace uy3:=hst.nat _ _ _ uy3
        rw [<-hst.size] at uy3
        replace mm1:=hst.nat _ _ _ mm1
        rw [<-hst.size] at mm1
        replace mm2:=hst.nat _ _ _ mm2
        rw [<-hst.size] at mm2
        clear hst
        refine bkq hK (HS.out _ rt) (h:=fun hHeld=>?_)
        clear hK K
        refine wpAnyH_done (by kernel_rfl) ?_ _
        clear hHeld
        clear za0 za1 za2 ya0 ya1 ya2 HS hr8 hszk hsz8 hrt8
        go_wp2
        go_meet
        rw [HNG.out] at r8
        rw [HQL.out] at mm1 mm2 mm3 mm5 r8
        exact ⟨g8,Am,cm,Bm,dm,rfl,mm1,mm2,mm3,mm4,mm5,mm6,r8,kw⟩
      ·go_simp
       obtain ⟨w10,hw⟩:∃ W,W=World.alloc w9 (.cells #[.bool false,.slice none 0 0,.slice none 0 0] 31):=⟨_,rfl⟩
       have kb:Below w9.heap.size w9 w10:=by rw [hw]; exact below_one _ _
       have r8:World.rowIs w10 w9.heap.size 31 3 (ratCell (.bool false) (.slice none 0 0) (.slice none 0 0)):=by rw [hw]; exact box_row
       rw [<-hw]
       clear hw
       have hsz8:=kw.size
       have hrt8:=rt.lt
       replace s1:=s1.on kb
       replace s2:=s2.on kb
       replace rt:=rowIs_on rt kb
       replace ma1:=ma1.on kb
       replace ma2:=ma2.on kb
       replace kw:=onS kw kb
       replace tbp:=tbp.on kb
       replace tbq:=tbq.on kb
       clear kb
       obtain ⟨g8,hg⟩:∃ g,g=w9.heap.size:=⟨_,rfl⟩
       rw [<-hg] at r8 hsz8 hrt8 ⊢
       clear hg
       refine bkq hK (HS.out _ rt) (h:=fun hHeld=>?_)
       clear hK K
       refine rdq 8 (h:=fun K hK=>?_)
       go_simp
       go_wp2_with fail
       refine (mul_tab (x:=S.num.natAbs) (y:=rk.num.natAbs) tbp (by omega) (by omega) (by omega)).mono ?_
       rintro e w11 ⟨Xx,kx,rfl,ux1,ux2,ux3,kb⟩
       replace s1:=s1.on kb
       replace s2:=s2.on kb
       replace rt:=rowIs_on rt kb
       replace ma1:=ma1.on kb
       replace ma2:=ma2.on kb
       replace kw:=onS kw kb
       replace tbp:=tbp.on kb
       replace tbq:=tbq.on kb
       replace r8:=rowIs_on r8 kb
       clear kb
       clear tbp
       refine bkq hK (HS.out _ rt) (h:=fun hHeld=>?_)
       clear hK K
       refine rdq 13 (h:=fun K hK=>?_)
       go_simp
       go_wp2_with fail
       refine (mul_tab (x:=S.den) (y:=rk.den) tbq (by omega) (by omega) (by omega)).mono ?_
       rintro e w12 ⟨Xy,ky,rfl,uy1,uy2,uy3,kb⟩
       replace s1:=s1.on kb
       replace s2:=s2.on kb
       replace rt:=rowIs_on rt kb
       replace ma1:=ma1.on kb
       replace ma2:=ma2.on kb
       replace kw:=onS kw kb
       replace tbq:=tbq.on kb
       replace r8:=rowIs_on r8 kb
       replace ux3:=ux3.on kb
       clear kb
       clear tbq
       refine bkq hK (HS.out _ rt) (h:=fun hHeld=>?_)
       clear hK K
       refine rdq 14 (h:=fun K hK=>?_)
       go_simp
       go_wp2_with fail
       refine (ratCanon_any (rneg S != rneg rk) Xx Xy (dl (S.num.natAbs*rk.num.natAbs)) kx (dl (S.den*rk.den)) ky (S.num.natAbs*rk.num.natAbs) (S.den*rk.den) _ ux3.raw uy3.raw ux1 ux2 uy1 uy2 (by omega) (by omega)).mono ?_
       rintro e w13 ⟨Am,cm,Bm,dm,rfl,mm1,mm2,mm3,mm4,mm5,mm6,kb⟩
       replace s1:=s1.on kb
       replace s2:=s2.on kb
       replace rt:=rowIs_on rt kb
       replace ma1:=ma1.on kb
       replace ma2:=ma2.on kb
       replace kw:=onS kw kb
       replace r8:=rowIs_on r8 kb
       replace ux3:=ux3.on kb
       replace uy3:=uy3.on kb
       clear kb
       rw [HR.out] at mm1 mm2 mm3 mm5 ⊢
       obtain ⟨q,hq⟩:∃ q,q=S*rk:=⟨_,rfl⟩
       rw [<-hq] at mm1 mm2 mm3 mm5 ⊢
       have HQL:=hid hq
       obtain ⟨ngq,hngq⟩:∃ b,b=rneg q:=⟨_,rfl⟩
       rw [<-hngq]
       have HNG:=hid hngq
       clear hq hngq
       refine bkq hK (HS.out _ rt) (h:=fun hHeld=>?_)
       clear hK K
       have hr8:=r8.lt
       have hszk:=kw.size
       have za0:=r8.frozen 0
       have za1:=r8.frozen 1
       have za2:=r8.frozen 2
       have ya0:w13.cell? ⟨g8,0,none⟩=some _:=r8.cell (i:=0) (by omega)
       have ya1:w13.cell? ⟨g8,1,none⟩=some _:=r8.cell (i:=1) (by omega)
       have ya2:w13.cell? ⟨g8,2,none⟩=some _:=r8.cell (i:=2) (by omega)
       refine rdq 16 (h:=fun K hK=>?_)
       go_simp
       generalize hw3:World.setCell _ _ _=w14
       have hst:RatStored w13 (g8) 31 (ngq) (Am) (dl q.num.natAbs) (cm) (Bm) (dl q.den) (dm) w14:=by rw [<-hw3]; exact rat_stored r8 _ _ _ _ _ _ _
       clear hw3
       replace s1:=hst.nat _ _ _ s1
       rw [<-hst.size] at s1
       replace s2:=hst.nat _ _ _ s2
       rw [<-hst.size] at s2
       replace rt:=rowIs_grown rt hst.grown (by omega)
       replace ma1:=hst.nat _ _ _ ma1
       rw [<-hst.size] at ma1
       replace ma2:=hst.nat _ _ _ ma2
       rw [<-hst.size] at ma2
       replace kw:=hst.below kw (by omega) (by omega)
       replace r8:=hst.row
       replace ux3:=hst.nat _ _ _ ux3
       rw [<-hst.size] at ux3
       replace uy3:=hst.nat _ _ _ uy3
       rw [<-hst.size] at uy3
       replace mm1:=hst.nat _ _ _ mm1
       rw [<-hst.size] at mm1
       replace mm2:=hst.nat _ _ _ mm2
       rw [<-hst.size] at mm2
       clear hst
       refine bkq hK (HS.out _ rt) (h:=fun hHeld=>?_)
       clear hK K
       refine wpAnyH_done (by kernel_rfl) ?_ _
       clear hHeld
       clear za0 za1 za2 ya0 ya1 ya2 HS hr8 hszk hsz8 hrt8
       go_wp2
       go_meet
       rw [HNG.out] at r8
       rw [HQL.out] at mm1 mm2 mm3 mm5 r8
       exact ⟨g8,Am,cm,Bm,dm,rfl,mm1,mm2,mm3,mm4,mm5,mm6,r8,kw⟩
     ·go_simp
      obtain ⟨w9,hw⟩:∃ W,W=World.alloc w8 (.cells #[.bool false,.slice none 0 0,.slice none 0 0] 31):=⟨_,rfl⟩
      have kb:Below w8.heap.size w8 w9:=by rw [hw]; exact below_one _ _
      have r8:World.rowIs w9 w8.heap.size 31 3 (ratCell (.bool false) (.slice none 0 0) (.slice none 0 0)):=by rw [hw]; exact box_row
      rw [<-hw]
      clear hw
      have hsz8:=kw.size
      have hrt8:=rt.lt
      replace s1:=s1.on kb
      replace s2:=s2.on kb
      replace rt:=rowIs_on rt kb
      replace ma1:=ma1.on kb
      replace ma2:=ma2.on kb
      replace kw:=onS kw kb
      replace tbp:=tbp.on kb
      clear kb
      obtain ⟨g8,hg⟩:∃ g,g=w8.heap.size:=⟨_,rfl⟩
      rw [<-hg] at r8 hsz8 hrt8 ⊢
      clear hg
      refine bkq hK (HS.out _ rt) (h:=fun hHeld=>?_)
      clear hK K
      refine rdq2 8 12 (h:=fun K hK=>?_) (h2:=fun K hK=>?_)
      ·go_simp
       go_wp2_with fail
       refine (mul_tab (x:=S.num.natAbs) (y:=rk.num.natAbs) tbp (by omega) (by omega) (by omega)).mono ?_
       rintro e w10 ⟨Xx,kx,rfl,ux1,ux2,ux3,kb⟩
       replace s1:=s1.on kb
       replace s2:=s2.on kb
       replace rt:=rowIs_on rt kb
       replace ma1:=ma1.on kb
       replace ma2:=ma2.on kb
       replace kw:=onS kw kb
       replace tbp:=tbp.on kb
       replace r8:=rowIs_on r8 kb
       clear kb
       clear tbp
       refine bkq hK (HS.out _ rt) (h:=fun hHeld=>?_)
       clear hK K
       refine rdq 12 (h:=fun K hK=>?_)
       go_simp
       obtain ⟨w11,hw⟩:∃ W,W=World.alloc w10 (Obj.cells #[.slice Sb (dl (S.den)) sd,.slice Ba (dl (rk.den)) da] 29):=⟨_,rfl⟩
       have kb:Below w10.heap.size w10 w11:=by rw [hw]; exact below_one _ _
       have tbq:NatTab w11 w11.heap.size (some ⟨w10.heap.size,0,none⟩) 2 (pairF (S.den) (rk.den)):=NatTab.letter hw (natTab_pair 29 s2 ma2 c3 ma5 c4 ma6)
       rw [<-hw]
       clear hw
       replace s1:=s1.on kb
       replace s2:=s2.on kb
       replace rt:=rowIs_on rt kb
       replace ma1:=ma1.on kb
       replace ma2:=ma2.on kb
       replace kw:=onS kw kb
       replace r8:=rowIs_on r8 kb
       replace ux3:=ux3.on kb
       clear kb
       obtain ⟨gq,hg⟩:∃ g,g=w10.heap.size:=⟨_,rfl⟩
       rw [<-hg] at tbq ⊢
       clear hg
       refine bkq hK (HS.out _ rt) (h:=fun hHeld=>?_)
       clear hK K
       refine rdq 13 (h:=fun K hK=>?_)
       go_simp
       go_wp2_with fail
       refine (mul_tab (x:=S.den) (y:=rk.den) tbq (by omega) (by omega) (by omega)).mono ?_
       rintro e w12 ⟨Xy,ky,rfl,uy1,uy2,uy3,kb⟩
       replace s1:=s1.on kb
       replace s2:=s2.on kb
       replace rt:=rowIs_on rt kb
       replace ma1:=ma1.on kb
       replace ma2:=ma2.on kb
       replace kw:=onS kw kb
       replace r8:=rowIs_on r8 kb
       replace ux3:=ux3.on kb
       replace tbq:=tbq.on kb
       clear kb
       clear tbq
       refine bkq hK (HS.out _ rt) (h:=fun hHeld=>?_)
       clear hK K
       refine rdq 14 (h:=fun K hK=>?_)
       go_simp
       go_wp2_with fail
       refine (ratCanon_any (rneg S != rneg rk) Xx Xy (dl (S.num.natAbs*rk.num.natAbs)) kx (dl (S.den*rk.den)) ky (S.num.natAbs*rk.num.natAbs) (S.den*rk.den) _ ux3.raw uy3.raw ux1 ux2 uy1 uy2 (by omega) (by omega)).mono ?_
       rintro e w13 ⟨Am,cm,Bm,dm,rfl,mm1,mm2,mm3,mm4,mm5,mm6,kb⟩
       replace s1:=s1.on kb
       replace s2:=s2.on kb
       replace rt:=rowIs_on rt kb
       replace ma1:=ma1.on kb
       replace ma2:=ma2.on kb
       replace kw:=onS kw kb
       replace r8:=rowIs_on r8 kb
       replace ux3:=ux3.on kb
       replace uy3:=uy3.on kb
       clear kb
       rw [HR.out] at mm1 mm2 mm3 mm5 ⊢
       obtain ⟨q,hq⟩:∃ q,q=S*rk:=⟨_,rfl⟩
       rw [<-hq] at mm1 mm2 mm3 mm5 ⊢
       have HQL:=hid hq
       obtain ⟨ngq,hngq⟩:∃ b,b=rneg q:=⟨_,rfl⟩
       rw [<-hngq]
       have HNG:=hid hngq
       clear hq hngq
       refine bkq hK (HS.out _ rt) (h:=fun hHeld=>?_)
       clear hK K
       have hr8:=r8.lt
       have hszk:=kw.size
       have za0:=r8.frozen 0
       have za1:=r8.frozen 1
       have za2:=r8.frozen 2
       have ya0:w13.cell? ⟨g8,0,none⟩=some _:=r8.cell (i:=0) (by omega)
       have ya1:w13.cell? ⟨g8,1,none⟩=some _:=r8.cell (i:=1) (by omega)
       have ya2:w13.cell? ⟨g8,2,none⟩=some _:=r8.cell (i:=2) (by omega)
       refine rdq 16 (h:=fun K hK=>?_)
       go_simp
       generalize hw3:World.setCell _ _ _=w14
       have hst:RatStored w13 (g8) 31 (ngq) (Am) (dl q.num.natAbs) (cm) (Bm) (dl q.den) (dm) w14:=by rw [<-hw3]; exact rat_stored r8 _ _ _ _ _ _ _
       clear hw3
       replace s1:=hst.nat _ _ _ s1
       rw [<-hst.size] at s1
       replace s2:=hst.nat _ _ _ s2
       rw [<-hst.size] at s2
       replace rt:=rowIs_grown rt hst.grown (by omega)
       replace ma1:=hst.nat _ _ _ ma1
       rw [<-hst.size] at ma1
       replace ma2:=hst.nat _ _ _ ma2
       rw [<-hst.size] at ma2
       replace kw:=hst.below kw (by omega) (by omega)
       replace r8:=hst.row
       replace ux3:=hst.nat _ _ _ ux3
       rw [<-hst.size] at ux3
       replace uy3:=hst.nat _ _ _ uy3
       rw [<-hst.size] at uy3
       replace mm1:=hst.nat _ _ _ mm1
       rw [<-hst.size] at mm1
       replace mm2:=hst.nat _ _ _ mm2
       rw [<-hst.size] at mm2
       clear hst
       refine bkq hK (HS.out _ rt) (h:=fun hHeld=>?_)
       clear hK K
       refine wpAnyH_done (by kernel_rfl) ?_ _
       clear hHeld
       clear za0 za1 za2 ya0 ya1 ya2 HS hr8 hszk hsz8 hrt8
       go_wp2
       go_meet
       rw [HNG.out] at r8
       rw [HQL.out] at mm1 mm2 mm3 mm5 r8
       exact ⟨g8,Am,cm,Bm,dm,rfl,mm1,mm2,mm3,mm4,mm5,mm6,r8,kw⟩
      ·go_simp
       obtain ⟨w10,hw⟩:∃ W,W=World.alloc w9 (Obj.cells #[.slice Sb (dl (S.den)) sd,.slice Ba (dl (rk.den)) da] 29):=⟨_,rfl⟩
       have kb:Below w9.heap.size w9 w10:=by rw [hw]; exact below_one _ _
       have tbq:NatTab w10 w10.heap.size (some ⟨w9.heap.size,0,none⟩) 2 (pairF (S.den) (rk.den)):=NatTab.letter hw (natTab_pair 29 s2 ma2 c3 ma5 c4 ma6)
       rw [<-hw]
       clear hw
       replace s1:=s1.on kb
       replace s2:=s2.on kb
       replace rt:=rowIs_on rt kb
       replace ma1:=ma1.on kb
       replace ma2:=ma2.on kb
       replace kw:=onS kw kb
       replace tbp:=tbp.on kb
       replace r8:=rowIs_on r8 kb
       clear kb
       obtain ⟨gq,hg⟩:∃ g,g=w9.heap.size:=⟨_,rfl⟩
       rw [<-hg] at tbq ⊢
       clear hg
       refine bkq hK (HS.out _ rt) (h:=fun hHeld=>?_)
       clear hK K
       refine rdq 8 (h:=fun K hK=>?_)
       go_simp
       go_wp2_with fail
       refine (mul_tab (x:=S.num.natAbs) (y:=rk.num.natAbs) tbp (by omega) (by omega) (by omega)).mono ?_
       rintro e w11 ⟨Xx,kx,rfl,ux1,ux2,ux3,kb⟩
       replace s1:=s1.on kb
       replace s2:=s2.on kb
       replace rt:=rowIs_on rt kb
       replace ma1:=ma1.on kb
       replace ma2:=ma2.on kb
       replace kw:=onS kw kb
       replace tbp:=tbp.on kb
       replace r8:=rowIs_on r8 kb
       replace tbq:=tbq.on kb
       clear kb
       clear tbp
       refine bkq hK (HS.out _ rt) (h:=fun hHeld=>?_)
       clear hK K
       refine rdq 13 (h:=fun K hK=>?_)
       go_simp
       go_wp2_with fail
       refine (mul_tab (x:=S.den) (y:=rk.den) tbq (by omega) (by omega) (by omega)).mono ?_
       rintro e w12 ⟨Xy,ky,rfl,uy1,uy2,uy3,kb⟩
       replace s1:=s1.on kb
       replace s2:=s2.on kb
       replace rt:=rowIs_on rt kb
       replace ma1:=ma1.on kb
       replace ma2:=ma2.on kb
       replace kw:=onS kw kb
       replace r8:=rowIs_on r8 kb
       replace tbq:=tbq.on kb
       replace ux3:=ux3.on kb
       clear kb
       clear tbq
       refine bkq hK (HS.out _ rt) (h:=fun hHeld=>?_)
       clear hK K
       refine rdq 14 (h:=fun K hK=>?_)
       go_simp
       go_wp2_with fail
       refine (ratCanon_any (rneg S != rneg rk) Xx Xy (dl (S.num.natAbs*rk.num.natAbs)) kx (dl (S.den*rk.den)) ky (S.num.natAbs*rk.num.natAbs) (S.den*rk.den) _ ux3.raw uy3.raw ux1 ux2 uy1 uy2 (by omega) (by omega)).mono ?_
       rintro e w13 ⟨Am,cm,Bm,dm,rfl,mm1,mm2,mm3,mm4,mm5,mm6,kb⟩
       replace s1:=s1.on kb
       replace s2:=s2.on kb
       replace rt:=rowIs_on rt kb
       replace ma1:=ma1.on kb
       replace ma2:=ma2.on kb
       replace kw:=onS kw kb
       replace r8:=rowIs_on r8 kb
       replace ux3:=ux3.on kb
       replace uy3:=uy3.on kb
       clear kb
       rw [HR.out] at mm1 mm2 mm3 mm5 ⊢
       obtain ⟨q,hq⟩:∃ q,q=S*rk:=⟨_,rfl⟩
       rw [<-hq] at mm1 mm2 mm3 mm5 ⊢
       have HQL:=hid hq
       obtain ⟨ngq,hngq⟩:∃ b,b=rneg q:=⟨_,rfl⟩
       rw [<-hngq]
       have HNG:=hid hngq
       clear hq hngq
       refine bkq hK (HS.out _ rt) (h:=fun hHeld=>?_)
       clear hK K
       have hr8:=r8.lt
       have hszk:=kw.size
       have za0:=r8.frozen 0
       have za1:=r8.frozen 1
       have za2:=r8.frozen 2
       have ya0:w13.cell? ⟨g8,0,none⟩=some _:=r8.cell (i:=0) (by omega)
       have ya1:w13.cell? ⟨g8,1,none⟩=some _:=r8.cell (i:=1) (by omega)
       have ya2:w13.cell? ⟨g8,2,none⟩=some _:=r8.cell (i:=2) (by omega)
       refine rdq 16 (h:=fun K hK=>?_)
       go_simp
       generalize hw3:World.setCell _ _ _=w14
       have hst:RatStored w13 (g8) 31 (ngq) (Am) (dl q.num.natAbs) (cm) (Bm) (dl q.den) (dm) w14:=by rw [<-hw3]; exact rat_stored r8 _ _ _ _ _ _ _
       clear hw3
       replace s1:=hst.nat _ _ _ s1
       rw [<-hst.size] at s1
       replace s2:=hst.nat _ _ _ s2
       rw [<-hst.size] at s2
       replace rt:=rowIs_grown rt hst.grown (by omega)
       replace ma1:=hst.nat _ _ _ ma1
       rw [<-hst.size] at ma1
       replace ma2:=hst.nat _ _ _ ma2
       rw [<-hst.size] at ma2
       replace kw:=hst.below kw (by omega) (by omega)
       replace r8:=hst.row
       replace ux3:=hst.nat _ _ _ ux3
       rw [<-hst.size] at ux3
       replace uy3:=hst.nat _ _ _ uy3
       rw [<-hst.size] at uy3
       replace mm1:=hst.nat _ _ _ mm1
       rw [<-hst.size] at mm1
       replace mm2:=hst.nat _ _ _ mm2
       rw [<-hst.size] at mm2
       clear hst
       refine bkq hK (HS.out _ rt) (h:=fun hHeld=>?_)
       clear hK K
       refine wpAnyH_done (by kernel_rfl) ?_ _
       clear hHeld
       clear za0 za1 za2 ya0 ya1 ya2 HS hr8 hszk hsz8 hrt8
       go_wp2
       go_meet
       rw [HNG.out] at r8
       rw [HQL.out] at mm1 mm2 mm3 mm5 r8
       exact ⟨g8,Am,cm,Bm,dm,rfl,mm1,mm2,mm3,mm4,mm5,mm6,r8,kw⟩
    ·go_simp
     obtain ⟨w8,hw⟩:∃ W,W=World.alloc w7 (Obj.cells #[.slice Sb (dl (S.den)) sd,.slice Ba (dl (rk.den)) da] 29):=⟨_,rfl⟩
     have kb:Below w7.heap.size w7 w8:=by rw [hw]; exact below_one _ _
     have tbq:NatTab w8 w8.heap.size (some ⟨w7.heap.size,0,none⟩) 2 (pairF (S.den) (rk.den)):=NatTab.letter hw (natTab_pair 29 s2 ma2 c3 ma5 c4 ma6)
     rw [<-hw]
     clear hw
     replace s1:=s1.on kb
     replace s2:=s2.on kb
     replace rt:=rowIs_on rt kb
     replace ma1:=ma1.on kb
     replace ma2:=ma2.on kb
     replace kw:=onS kw kb
     clear kb
     obtain ⟨gq,hg⟩:∃ g,g=w7.heap.size:=⟨_,rfl⟩
     rw [<-hg] at tbq ⊢
     clear hg
     refine bkq hK (HS.out _ rt) (h:=fun hHeld=>?_)
     clear hK K
     refine rdq2 7 15 (h:=fun K hK=>?_) (h2:=fun K hK=>?_)
     ·go_simp
      obtain ⟨w9,hw⟩:∃ W,W=World.alloc w8 (Obj.cells #[.slice Sa (dl (S.num.natAbs)) sc,.slice Aa (dl (rk.num.natAbs)) ca] 29):=⟨_,rfl⟩
      have kb:Below w8.heap.size w8 w9:=by rw [hw]; exact below_one _ _
      have tbp:NatTab w9 w9.heap.size (some ⟨w8.heap.size,0,none⟩) 2 (pairF (S.num.natAbs) (rk.num.natAbs)):=NatTab.letter hw (natTab_pair 29 s1 ma1 c1 ma3 c2 ma4)
      rw [<-hw]
      clear hw
      replace s1:=s1.on kb
      replace s2:=s2.on kb
      replace rt:=rowIs_on rt kb
      replace ma1:=ma1.on kb
      replace ma2:=ma2.on kb
      replace kw:=onS kw kb
      replace tbq:=tbq.on kb
      clear kb
      obtain ⟨gp,hg⟩:∃ g,g=w8.heap.size:=⟨_,rfl⟩
      rw [<-hg] at tbp ⊢
      clear hg
      refine bkq hK (HS.out _ rt) (h:=fun hHeld=>?_)
      clear hK K
      refine rdq2 8 15 (h:=fun K hK=>?_) (h2:=fun K hK=>?_)
      ·go_simp
       go_wp2_with fail
       refine (mul_tab (x:=S.num.natAbs) (y:=rk.num.natAbs) tbp (by omega) (by omega) (by omega)).mono ?_
       rintro e w10 ⟨Xx,kx,rfl,ux1,ux2,ux3,kb⟩
       replace s1:=s1.on kb
       replace s2:=s2.on kb
       replace rt:=rowIs_on rt kb
       replace ma1:=ma1.on kb
       replace ma2:=ma2.on kb
       replace kw:=onS kw kb
       replace tbq:=tbq.on kb
       replace tbp:=tbp.on kb
       clear kb
       clear tbp
       refine bkq hK (HS.out _ rt) (h:=fun hHeld=>?_)
       clear hK K
       refine rdq2 13 15 (h:=fun K hK=>?_) (h2:=fun K hK=>?_)
       ·go_simp
        go_wp2_with fail
        refine (mul_tab (x:=S.den) (y:=rk.den) tbq (by omega) (by omega) (by omega)).mono ?_
        rintro e w11 ⟨Xy,ky,rfl,uy1,uy2,uy3,kb⟩
        replace s1:=s1.on kb
        replace s2:=s2.on kb
        replace rt:=rowIs_on rt kb
        replace ma1:=ma1.on kb
        replace ma2:=ma2.on kb
        replace kw:=onS kw kb
        replace tbq:=tbq.on kb
        replace ux3:=ux3.on kb
        clear kb
        clear tbq
        refine bkq hK (HS.out _ rt) (h:=fun hHeld=>?_)
        clear hK K
        refine rdq2 14 15 (h:=fun K hK=>?_) (h2:=fun K hK=>?_)
        ·go_simp
         go_wp2_with fail
         refine (ratCanon_any (rneg S != rneg rk) Xx Xy (dl (S.num.natAbs*rk.num.natAbs)) kx (dl (S.den*rk.den)) ky (S.num.natAbs*rk.num.natAbs) (S.den*rk.den) _ ux3.raw uy3.raw ux1 ux2 uy1 uy2 (by omega) (by omega)).mono ?_
         rintro e w12 ⟨Am,cm,Bm,dm,rfl,mm1,mm2,mm3,mm4,mm5,mm6,kb⟩
         replace s1:=s1.on kb
         replace s2:=s2.on kb
         replace rt:=rowIs_on rt kb
         replace ma1:=ma1.on kb
         replace ma2:=ma2.on kb
         replace kw:=onS kw kb
         replace ux3:=ux3.on kb
         replace uy3:=uy3.on kb
         clear kb
         rw [HR.out] at mm1 mm2 mm3 mm5 ⊢
         obtain ⟨q,hq⟩:∃ q,q=S*rk:=⟨_,rfl⟩
         rw [<-hq] at mm1 mm2 mm3 mm5 ⊢
         have HQL:=hid hq
         obtain ⟨ngq,hngq⟩:∃ b,b=rneg q:=⟨_,rfl⟩
         rw [<-hngq]
         have HNG:=hid hngq
         clear hq hngq
         refine bkq hK (HS.out _ rt) (h:=fun hHeld=>?_)
         clear hK K
         refine rdq 15 (h:=fun K hK=>?_)
         go_simp
         obtain ⟨w13,hw⟩:∃ W,W=World.alloc w12 (.cells #[.bool false,.slice none 0 0,.slice none 0 0] 31):=⟨_,rfl⟩
         have kb:Below w12.heap.size w12 w13:=by rw [hw]; exact below_one _ _
         have r8:World.rowIs w13 w12.heap.size 31 3 (ratCell (.bool false) (.slice none 0 0) (.slice none 0 0)):=by rw [hw]; exact box_row
         rw [<-hw]
         clear hw
         have hsz8:=kw.size
         have hrt8:=rt.lt
         replace s1:=s1.on kb
         replace s2:=s2.on kb
         replace rt:=rowIs_on rt kb
         replace ma1:=ma1.on kb
         replace ma2:=ma2.on kb
         replace kw:=onS kw kb
         replace ux3:=ux3.on kb
         replace uy3:=uy3.on kb
         replace mm1:=mm1.on kb
         replace mm2:=mm2.on kb
         clear kb
         obtain ⟨g8,hg⟩:∃ g,g=w12.heap.size:=⟨_,rfl⟩
         rw [<-hg] at r8 hsz8 hrt8 ⊢
         clear hg
         refine bkq hK (HS.out _ rt) (h:=fun hHeld=>?_)
         clear hK K
         have hr8:=r8.lt
         have hszk:=kw.size
         have za0:=r8.frozen 0
         have za1:=r8.frozen 1
         have za2:=r8.frozen 2
         have ya0:w13.cell? ⟨g8,0,none⟩=some _:=r8.cell (i:=0) (by omega)
         have ya1:w13.cell? ⟨g8,1,none⟩=some _:=r8.cell (i:=1) (by omega)
         have ya2:w13.cell? ⟨g8,2,none⟩=some _:=r8.cell (i:=2) (by omega)
         refine rdq 16 (h:=fun K hK=>?_)
         go_simp
         generalize hw3:World.setCell _ _ _=w14
         have hst:RatStored w13 (g8) 31 (ngq) (Am) (dl q.num.natAbs) (cm) (Bm) (dl q.den) (dm) w14:=by rw [<-hw3]; exact rat_stored r8 _ _ _ _ _ _ _
         clear hw3
         replace s1:=hst.nat _ _ _ s1
         rw [<-hst.size] at s1
         replace s2:=hst.nat _ _ _ s2
         rw [<-hst.size] at s2
         replace rt:=rowIs_grown rt hst.grown (by omega)
         replace ma1:=hst.nat _ _ _ ma1
         rw [<-hst.size] at ma1
         replace ma2:=hst.nat _ _ _ ma2
         rw [<-hst.size] at ma2
         replace kw:=hst.below kw (by omega) (by omega)
         replace ux3:=hst.nat _ _ _ ux3
         rw [<-hst.size] at ux3
         replace uy3:=hst.nat _ _ _ uy3
         rw [<-hst.size] at uy3
         replace mm1:=hst.nat _ _ _ mm1
         rw [<-hst.size] at mm1
         replace mm2:=hst.nat _ _ _ mm2
         rw [<-hst.size] at mm2
         replace r8:=hst.row
         clear hst
         refine bkq hK (HS.out _ rt) (h:=fun hHeld=>?_)
         clear hK K
         refine wpAnyH_done (by kernel_rfl) ?_ _
         clear hHeld
         clear za0 za1 za2 ya0 ya1 ya2 HS hr8 hszk hsz8 hrt8
         go_wp2
         go_meet
         rw [HNG.out] at r8
         rw [HQL.out] at mm1 mm2 mm3 mm5 r8
         exact ⟨g8,Am,cm,Bm,dm,rfl,mm1,mm2,mm3,mm4,mm5,mm6,r8,kw⟩
        ·go_simp
         obtain ⟨w12,hw⟩:∃ W,W=World.alloc w11 (.cells #[.bool false,.slice none 0 0,.slice none 0 0] 31):=⟨_,rfl⟩
         have kb:Below w11.heap.size w11 w12:=by rw [hw]; exact below_one _ _
         have r8:World.rowIs w12 w11.heap.size 31 3 (ratCell (.bool false) (.slice none 0 0) (.slice none 0 0)):=by rw [hw]; exact box_row
         rw [<-hw]
         clear hw
         have hsz8:=kw.size
         have hrt8:=rt.lt
         replace s1:=s1.on kb
         replace s2:=s2.on kb
         replace rt:=rowIs_on rt kb
         replace ma1:=ma1.on kb
         replace ma2:=ma2.on kb
         replace kw:=onS kw kb
         replace ux3:=ux3.on kb
         replace uy3:=uy3.on kb
         clear kb
         obtain ⟨g8,hg⟩:∃ g,g=w11.heap.size:=⟨_,rfl⟩
         rw [<-hg] at r8 hsz8 hrt8 ⊢
         clear hg
         refine bkq hK (HS.out _ rt) (h:=fun hHeld=>?_)
         clear hK K
         refine rdq 14 (h:=fun K hK=>?_)
         go_simp
         go_wp2_with fail
         refine (ratCanon_any (rneg S != rneg rk) Xx Xy (dl (S.num.natAbs*rk.num.natAbs)) kx (dl (S.den*rk.den)) ky (S.num.natAbs*rk.num.natAbs) (S.den*rk.den) _ ux3.raw uy3.raw ux1 ux2 uy1 uy2 (by omega) (by omega)).mono ?_
         rintro e w13 ⟨Am,cm,Bm,dm,rfl,mm1,mm2,mm3,mm4,mm5,mm6,kb⟩
         replace s1:=s1.on kb
         replace s2:=s2.on kb
         replace rt:=rowIs_on rt kb
         replace ma1:=ma1.on kb
         replace ma2:=ma2.on kb
         replace kw:=onS kw kb
         replace ux3:=ux3.on kb
         replace uy3:=uy3.on kb
         replace r8:=rowIs_on r8 kb
         clear kb
         rw [HR.out] at mm1 mm2 mm3 mm5 ⊢
         obtain ⟨q,hq⟩:∃ q,q=S*rk:=⟨_,rfl⟩
         rw [<-hq] at mm1 mm2 mm3 mm5 ⊢
         have HQL:=hid hq
         obtain ⟨ngq,hngq⟩:∃ b,b=rneg q:=⟨_,rfl⟩
         rw [<-hngq]
         have HNG:=hid hngq
         clear hq hngq
         refine bkq hK (HS.out _ rt) (h:=fun hHeld=>?_)
         clear hK K
         have hr8:=r8.lt
         have hszk:=kw.size
         have za0:=r8.frozen 0
         have za1:=r8.frozen 1
         have za2:=r8.frozen 2
         have ya0:w13.cell? ⟨g8,0,none⟩=some _:=r8.cell (i:=0) (by omega)
         have ya1:w13.cell? ⟨g8,1,none⟩=some _:=r8.cell (i:=1) (by omega)
         have ya2:w13.cell? ⟨g8,2,none⟩=some _:=r8.cell (i:=2) (by omega)
         refine rdq 16 (h:=fun K hK=>?_)
         go_simp
         generalize hw3:World.setCell _ _ _=w14
         have hst:RatStored w13 (g8) 31 (ngq) (Am) (dl q.num.natAbs) (cm) (Bm) (dl q.den) (dm) w14:=by rw [<-hw3]; exact rat_stored r8 _ _ _ _ _ _ _
         clear hw3
         replace s1:=hst.nat _ _ _ s1
         rw [<-hst.size] at s1
         replace s2:=hst.nat _ _ _ s2
         rw [<-hst.size] at s2
         replace rt:=rowIs_grown rt hst.grown (by omega)
         replace ma1:=hst.nat _ _ _ ma1
         rw [<-hst.size] at ma1
         replace ma2:=hst.nat _ _ _ ma2
         rw [<-hst.size] at ma2
         replace kw:=hst.below kw (by omega) (by omega)
         replace ux3:=hst.nat _ _ _ ux3
         rw [<-hst.size] at ux3
         replace uy3:=hst.nat _ _ _ uy3
         rw [<-hst.size] at uy3
         replace r8:=hst.row
         replace mm1:=hst.nat _ _ _ mm1
         rw [<-hst.size] at mm1
         replace mm2:=hst.nat _ _ _ mm2
         rw [<-hst.size] at mm2
         clear hst
         refine bkq hK (HS.out _ rt) (h:=fun hHeld=>?_)
         clear hK K
         refine wpAnyH_done (by kernel_rfl) ?_ _
         clear hHeld
         clear za0 za1 za2 ya0 ya1 ya2 HS hr8 hszk hsz8 hrt8
         go_wp2
         go_meet
         rw [HNG.out] at r8
         rw [HQL.out] at mm1 mm2 mm3 mm5 r8
         exact ⟨g8,Am,cm,Bm,dm,rfl,mm1,mm2,mm3,mm4,mm5,mm6,r8,kw⟩
       ·go_simp
        obtain ⟨w11,hw⟩:∃ W,W=World.alloc w10 (.cells #[.bool false,.slice none 0 0,.slice none 0 0] 31):=⟨_,rfl⟩
        have kb:Below w10.heap.size w10 w11:=by rw [hw]; exact below_one _ _
        have r8:World.rowIs w11 w10.heap.size 31 3 (ratCell (.bool false) (.slice none 0 0) (.slice none 0 0)):=by rw [hw]; exact box_row
        rw [<-hw]
        clear hw
        have hsz8:=kw.size
        have hrt8:=rt.lt
        replace s1:=s1.on kb
        replace s2:=s2.on kb
        replace rt:=rowIs_on rt kb
        replace ma1:=ma1.on kb
        replace ma2:=ma2.on kb
        replace kw:=onS kw kb
        replace tbq:=tbq.on kb
        replace ux3:=ux3.on kb
        clear kb
        obtain ⟨g8,hg⟩:∃ g,g=w10.heap.size:=⟨_,rfl⟩
        rw [<-hg] at r8 hsz8 hrt8 ⊢
        clear hg
        refine bkq hK (HS.out _ rt) (h:=fun hHeld=>?_)
        clear hK K
        refine rdq 13 (h:=fun K hK=>?_)
        go_simp
        go_wp2_with fail
        refine (mul_tab (x:=S.den) (y:=rk.den) tbq (by omega) (by omega) (by omega)).mono ?_
        rintro e w12 ⟨Xy,ky,rfl,uy1,uy2,uy3,kb⟩
        replace s1:=s1.on kb
        replace s2:=s2.on kb
        replace rt:=rowIs_on rt kb
        replace ma1:=ma1.on kb
        replace ma2:=ma2.on kb
        replace kw:=onS kw kb
        replace tbq:=tbq.on kb
        replace ux3:=ux3.on kb
        replace r8:=rowIs_on r8 kb
        clear kb
        clear tbq
        refine bkq hK (HS.out _ rt) (h:=fun hHeld=>?_)
        clear hK K
        refine rdq 14 (h:=fun K hK=>?_)
        go_simp
        go_wp2_with fail
        refine (ratCanon_any (rneg S != rneg rk) Xx Xy (dl (S.num.natAbs*rk.num.natAbs)) kx (dl (S.den*rk.den)) ky (S.num.natAbs*rk.num.natAbs) (S.den*rk.den) _ ux3.raw uy3.raw ux1 ux2 uy1 uy2 (by omega) (by omega)).mono ?_
        rintro e w13 ⟨Am,cm,Bm,dm,rfl,mm1,mm2,mm3,mm4,mm5,mm6,kb⟩
        replace s1:=s1.on kb
        replace s2:=s2.on kb
        replace rt:=rowIs_on rt kb
        replace ma1:=ma1.on kb
        replace ma2:=ma2.on kb
        replace kw:=onS kw kb
        replace ux3:=ux3.on kb
        replace r8:=rowIs_on r8 kb
        replace uy3:=uy3.on kb
        clear kb
        rw [HR.out] at mm1 mm2 mm3 mm5 ⊢
        obtain ⟨q,hq⟩:∃ q,q=S*rk:=⟨_,rfl⟩
        rw [<-hq] at mm1 mm2 mm3 mm5 ⊢
        have HQL:=hid hq
        obtain ⟨ngq,hngq⟩:∃ b,b=rneg q:=⟨_,rfl⟩
        rw [<-hngq]
        have HNG:=hid hngq
        clear hq hngq
        refine bkq hK (HS.out _ rt) (h:=fun hHeld=>?_)
        clear hK K
        have hr8:=r8.lt
        have hszk:=kw.size
        have za0:=r8.frozen 0
        have za1:=r8.frozen 1
        have za2:=r8.frozen 2
        have ya0:w13.cell? ⟨g8,0,none⟩=some _:=r8.cell (i:=0) (by omega)
        have ya1:w13.cell? ⟨g8,1,none⟩=some _:=r8.cell (i:=1) (by omega)
        have ya2:w13.cell? ⟨g8,2,none⟩=some _:=r8.cell (i:=2) (by omega)
        refine rdq 16 (h:=fun K hK=>?_)
        go_simp
        generalize hw3:World.setCell _ _ _=w14
        have hst:RatStored w13 (g8) 31 (ngq) (Am) (dl q.num.natAbs) (cm) (Bm) (dl q.den) (dm) w14:=by rw [<-hw3]; exact rat_stored r8 _ _ _ _ _ _ _
        clear hw3
        replace s1:=hst.nat _ _ _ s1
        rw [<-hst.size] at s1
        replace s2:=hst.nat _ _ _ s2
        rw [<-hst.size] at s2
        replace rt:=rowIs_grown rt hst.grown (by omega)
        replace ma1:=hst.nat _ _ _ ma1
        rw [<-hst.size] at ma1
        replace ma2:=hst.nat _ _ _ ma2
        rw [<-hst.size] at ma2
        replace kw:=hst.below kw (by omega) (by omega)
        replace ux3:=hst.nat _ _ _ ux3
        rw [<-hst.size] at ux3
        replace r8:=hst.row
        replace uy3:=hst.nat _ _ _ uy3
        rw [<-hst.size] at uy3
        replace mm1:=hst.nat _ _ _ mm1
        rw [<-hst.size] at mm1
        replace mm2:=hst.nat _ _ _ mm2
        rw [<-hst.size] at mm2
        clear hst
        refine bkq hK (HS.out _ rt) (h:=fun hHeld=>?_)
        clear hK K
        refine wpAnyH_done (by kernel_rfl) ?_ _
        clear hHeld
        clear za0 za1 za2 ya0 ya1 ya2 HS hr8 hszk hsz8 hrt8
        go_wp2
        go_meet
        rw [HNG.out] at r8
        rw [HQL.out] at mm1 mm2 mm3 mm5 r8
        exact ⟨g8,Am,cm,Bm,dm,rfl,mm1,mm2,mm3,mm4,mm5,mm6,r8,kw⟩
      ·go_simp
       obtain ⟨w10,hw⟩:∃ W,W=World.alloc w9 (.cells #[.bool false,.slice none 0 0,.slice none 0 0] 31):=⟨_,rfl⟩
       have kb:Below w9.heap.size w9 w10:=by rw [hw]; exact below_one _ _
       have r8:World.rowIs w10 w9.heap.size 31 3 (ratCell (.bool false) (.slice none 0 0) (.slice none 0 0)):=by rw [hw]; exact box_row
       rw [<-hw]
       clear hw
       have hsz8:=kw.size
       have hrt8:=rt.lt
       replace s1:=s1.on kb
       replace s2:=s2.on kb
       replace rt:=rowIs_on rt kb
       replace ma1:=ma1.on kb
       replace ma2:=ma2.on kb
       replace kw:=onS kw kb
       replace tbq:=tbq.on kb
       replace tbp:=tbp.on kb
       clear kb
       obtain ⟨g8,hg⟩:∃ g,g=w9.heap.size:=⟨_,rfl⟩
       rw [<-hg] at r8 hsz8 hrt8 ⊢
       clear hg
       refine bkq hK (HS.out _ rt) (h:=fun hHeld=>?_)
       clear hK K
       refine rdq 8 (h:=fun K hK=>?_)
       go_simp
       go_wp2_with fail
       refine (mul_tab (x:=S.num.natAbs) (y:=rk.num.natAbs) tbp (by omega) (by omega) (by omega)).mono ?_
       rintro e w11 ⟨Xx,kx,rfl,ux1,ux2,ux3,kb⟩
       replace s1:=s1.on kb
       replace s2:=s2.on kb
       replace rt:=rowIs_on rt kb
       replace ma1:=ma1.on kb
       replace ma2:=ma2.on kb
       replace kw:=onS kw kb
       replace tbq:=tbq.on kb
       replace tbp:=tbp.on kb
       replace r8:=rowIs_on r8 kb
       clear kb
       clear tbp
       refine bkq hK (HS.out _ rt) (h:=fun hHeld=>?_)
       clear hK K
       refine rdq 13 (h:=fun K hK=>?_)
       go_simp
       go_wp2_with fail
       refine (mul_tab (x:=S.den) (y:=rk.den) tbq (by omega) (by omega) (by omega)).mono ?_
       rintro e w12 ⟨Xy,ky,rfl,uy1,uy2,uy3,kb⟩
       replace s1:=s1.on kb
       replace s2:=s2.on kb
       replace rt:=rowIs_on rt kb
       replace ma1:=ma1.on kb
       replace ma2:=ma2.on kb
       replace kw:=onS kw kb
       replace tbq:=tbq.on kb
       replace r8:=rowIs_on r8 kb
       replace ux3:=ux3.on kb
       clear kb
       clear tbq
       refine bkq hK (HS.out _ rt) (h:=fun hHeld=>?_)
       clear hK K
       refine rdq 14 (h:=fun K hK=>?_)
       go_simp
       go_wp2_with fail
       refine (ratCanon_any (rneg S != rneg rk) Xx Xy (dl (S.num.natAbs*rk.num.natAbs)) kx (dl (S.den*rk.den)) ky (S.num.natAbs*rk.num.natAbs) (S.den*rk.den) _ ux3.raw uy3.raw ux1 ux2 uy1 uy2 (by omega) (by omega)).mono ?_
       rintro e w13 ⟨Am,cm,Bm,dm,rfl,mm1,mm2,mm3,mm4,mm5,mm6,kb⟩
       replace s1:=s1.on kb
       replace s2:=s2.on kb
       replace rt:=rowIs_on rt kb
       replace ma1:=ma1.on kb
       replace ma2:=ma2.on kb
       replace kw:=onS kw kb
       replace r8:=rowIs_on r8 kb
       replace ux3:=ux3.on kb
       replace uy3:=uy3.on kb
       clear kb
       rw [HR.out] at mm1 mm2 mm3 mm5 ⊢
       obtain ⟨q,hq⟩:∃ q,q=S*rk:=⟨_,rfl⟩
       rw [<-hq] at mm1 mm2 mm3 mm5 ⊢
       have HQL:=hid hq
       obtain ⟨ngq,hngq⟩:∃ b,b=rneg q:=⟨_,rfl⟩
       rw [<-hngq]
       have HNG:=hid hngq
       clear hq hngq
       refine bkq hK (HS.out _ rt) (h:=fun hHeld=>?_)
       clear hK K
       have hr8:=r8.lt
       have hszk:=kw.size
       have za0:=r8.frozen 0
       have za1:=r8.frozen 1
       have za2:=r8.frozen 2
       have ya0:w13.cell? ⟨g8,0,none⟩=some _:=r8.cell (i:=0) (by omega)
       have ya1:w13.cell? ⟨g8,1,none⟩=some _:=r8.cell (i:=1) (by omega)
       have ya2:w13.cell? ⟨g8,2,none⟩=some _:=r8.cell (i:=2) (by omega)
       refine rdq 16 (h:=fun K hK=>?_)
       go_simp
       generalize hw3:World.setCell _ _ _=w14
       have hst:RatStored w13 (g8) 31 (ngq) (Am) (dl q.num.natAbs) (cm) (Bm) (dl q.den) (dm) w14:=by rw [<-hw3]; exact rat_stored r8 _ _ _ _ _ _ _
       clear hw3
       replace s1:=hst.nat _ _ _ s1
       rw [<-hst.size] at s1
       replace s2:=hst.nat _ _ _ s2
       rw [<-hst.size] at s2
       replace rt:=rowIs_grown rt hst.grown (by omega)
       replace ma1:=hst.nat _ _ _ ma1
       rw [<-hst.size] at ma1
       replace ma2:=hst.nat _ _ _ ma2
       rw [<-hst.size] at ma2
       replace kw:=hst.below kw (by omega) (by omega)
       replace r8:=hst.row
       replace ux3:=hst.nat _ _ _ ux3
       rw [<-hst.size] at ux3
       replace uy3:=hst.nat _ _ _ uy3
       rw [<-hst.size] at uy3
       replace mm1:=hst.nat _ _ _ mm1
       rw [<-hst.size] at mm1
       replace mm2:=hst.nat _ _ _ mm2
       rw [<-hst.size] at mm2
       clear hst
       refine bkq hK (HS.out _ rt) (h:=fun hHeld=>?_)
       clear hK K
       refine wpAnyH_done (by kernel_rfl) ?_ _
       clear hHeld
       clear za0 za1 za2 ya0 ya1 ya2 HS hr8 hszk hsz8 hrt8
       go_wp2
       go_meet
       rw [HNG.out] at r8
       rw [HQL.out] at mm1 mm2 mm3 mm5 r8
       exact ⟨g8,Am,cm,Bm,dm,rfl,mm1,mm2,mm3,mm4,mm5,mm6,r8,kw⟩
     ·go_simp
      obtain ⟨w9,hw⟩:∃ W,W=World.alloc w8 (.cells #[.bool false,.slice none 0 0,.slice none 0 0] 31):=⟨_,rfl⟩
      have kb:Below w8.heap.size w8 w9:=by rw [hw]; exact below_one _ _
      have r8:World.rowIs w9 w8.heap.size 31 3 (ratCell (.bool false) (.slice none 0 0) (.slice none 0 0)):=by rw [hw]; exact box_row
      rw [<-hw]
      clear hw
      have hsz8:=kw.size
      have hrt8:=rt.lt
      replace s1:=s1.on kb
      replace s2:=s2.on kb
      replace rt:=rowIs_on rt kb
      replace ma1:=ma1.on kb
      replace ma2:=ma2.on kb
      replace kw:=onS kw kb
      replace tbq:=tbq.on kb
      clear kb
      obtain ⟨g8,hg⟩:∃ g,g=w8.heap.size:=⟨_,rfl⟩
      rw [<-hg] at r8 hsz8 hrt8 ⊢
      clear hg
      refine bkq hK (HS.out _ rt) (h:=fun hHeld=>?_)
      clear hK K
      refine rdq 7 (h:=fun K hK=>?_)
      go_simp
      obtain ⟨w10,hw⟩:∃ W,W=World.alloc w9 (Obj.cells #[.slice Sa (dl (S.num.natAbs)) sc,.slice Aa (dl (rk.num.natAbs)) ca] 29):=⟨_,rfl⟩
      have kb:Below w9.heap.size w9 w10:=by rw [hw]; exact below_one _ _
      have tbp:NatTab w10 w10.heap.size (some ⟨w9.heap.size,0,none⟩) 2 (pairF (S.num.natAbs) (rk.num.natAbs)):=NatTab.letter hw (natTab_pair 29 s1 ma1 c1 ma3 c2 ma4)
      rw [<-hw]
      clear hw
      replace s1:=s1.on kb
      replace s2:=s2.on kb
      replace rt:=rowIs_on rt kb
      replace ma1:=ma1.on kb
      replace ma2:=ma2.on kb
      replace kw:=onS kw kb
      replace tbq:=tbq.on kb
      replace r8:=rowIs_on r8 kb
      clear kb
      obtain ⟨gp,hg⟩:∃ g,g=w9.heap.size:=⟨_,rfl⟩
      rw [<-hg] at tbp ⊢
      clear hg
      refine bkq hK (HS.out _ rt) (h:=fun hHeld=>?_)
      clear hK K
      refine rdq 8 (h:=fun K hK=>?_)
      go_simp
      go_wp2_with fail
      refine (mul_tab (x:=S.num.natAbs) (y:=rk.num.natAbs) tbp (by omega) (by omega) (by omega)).mono ?_
      rintro e w11 ⟨Xx,kx,rfl,ux1,ux2,ux3,kb⟩
      replace s1:=s1.on kb
      replace s2:=s2.on kb
      replace rt:=rowIs_on rt kb
      replace ma1:=ma1.on kb
      replace ma2:=ma2.on kb
      replace kw:=onS kw kb
      replace tbq:=tbq.on kb
      replace r8:=rowIs_on r8 kb
      replace tbp:=tbp.on kb
      clear kb
      clear tbp
      refine bkq hK (HS.out _ rt) (h:=fun hHeld=>?_)
      clear hK K
      refine rdq 13 (h:=fun K hK=>?_)
      go_simp
      go_wp2_with fail
      refine (mul_tab (x:=S.den) (y:=rk.den) tbq (by omega) (by omega) (by omega)).mono ?_
      rintro e w12 ⟨Xy,ky,rfl,uy1,uy2,uy3,kb⟩
      replace s1:=s1.on kb
      replace s2:=s2.on kb
      replace rt:=rowIs_on rt kb
      replace ma1:=ma1.on kb
      replace ma2:=ma2.on kb
      replace kw:=onS kw kb
      replace tbq:=tbq.on kb
      replace r8:=rowIs_on r8 kb
      replace ux3:=ux3.on kb
      clear kb
      clear tbq
      refine bkq hK (HS.out _ rt) (h:=fun hHeld=>?_)
      clear hK K
      refine rdq 14 (h:=fun K hK=>?_)
      go_simp
      go_wp2_with fail
      refine (ratCanon_any (rneg S != rneg rk) Xx Xy (dl (S.num.natAbs*rk.num.natAbs)) kx (dl (S.den*rk.den)) ky (S.num.natAbs*rk.num.natAbs) (S.den*rk.den) _ ux3.raw uy3.raw ux1 ux2 uy1 uy2 (by omega) (by omega)).mono ?_
      rintro e w13 ⟨Am,cm,Bm,dm,rfl,mm1,mm2,mm3,mm4,mm5,mm6,kb⟩
      replace s1:=s1.on kb
      replace s2:=s2.on kb
      replace rt:=rowIs_on rt kb
      replace ma1:=ma1.on kb
      replace ma2:=ma2.on kb
      replace kw:=onS kw kb
      replace r8:=rowIs_on r8 kb
      replace ux3:=ux3.on kb
      replace uy3:=uy3.on kb
      clear kb
      rw [HR.out] at mm1 mm2 mm3 mm5 ⊢
      obtain ⟨q,hq⟩:∃ q,q=S*rk:=⟨_,rfl⟩
      rw [<-hq] at mm1 mm2 mm3 mm5 ⊢
      have HQL:=hid hq
      obtain ⟨ngq,hngq⟩:∃ b,b=rneg q:=⟨_,rfl⟩
      rw [<-hngq]
      have HNG:=hid hngq
      clear hq hngq
      refine bkq hK (HS.out _ rt) (h:=fun hHeld=>?_)
      clear hK K
      have hr8:=r8.lt
      have hszk:=kw.size
      have za0:=r8.frozen 0
      have za1:=r8.frozen 1
      have za2:=r8.frozen 2
      have ya0:w13.cell? ⟨g8,0,none⟩=some _:=r8.cell (i:=0) (by omega)
      have ya1:w13.cell? ⟨g8,1,none⟩=some _:=r8.cell (i:=1) (by omega)
      have ya2:w13.cell? ⟨g8,2,none⟩=some _:=r8.cell (i:=2) (by omega)
      refine rdq 16 (h:=fun K hK=>?_)
      go_simp
      generalize hw3:World.setCell _ _ _=w14
      have hst:RatStored w13 (g8) 31 (ngq) (Am) (dl q.num.natAbs) (cm) (Bm) (dl q.den) (dm) w14:=by rw [<-hw3]; exact rat_stored r8 _ _ _ _ _ _ _
      clear hw3
      replace s1:=hst.nat _ _ _ s1
      rw [<-hst.size] at s1
      replace s2:=hst.nat _ _ _ s2
      rw [<-hst.size] at s2
      replace rt:=rowIs_grown rt hst.grown (by omega)
      replace ma1:=hst.nat _ _ _ ma1
      rw [<-hst.size] at ma1
      replace ma2:=hst.nat _ _ _ ma2
      rw [<-hst.size] at ma2
      replace kw:=hst.below kw (by omega) (by omega)
      replace r8:=hst.row
      replace ux3:=hst.nat _ _ _ ux3
      rw [<-hst.size] at ux3
      replace uy3:=hst.nat _ _ _ uy3
      rw [<-hst.size] at uy3
      replace mm1:=hst.nat _ _ _ mm1
      rw [<-hst.size] at mm1
      replace mm2:=hst.nat _ _ _ mm2
      rw [<-hst.size] at mm2
      clear hst
      refine bkq hK (HS.out _ rt) (h:=fun hHeld=>?_)
      clear hK K
      refine wpAnyH_done (by kernel_rfl) ?_ _
      clear hHeld
      clear za0 za1 za2 ya0 ya1 ya2 HS hr8 hszk hsz8 hrt8
      go_wp2
      go_meet
      rw [HNG.out] at r8
      rw [HQL.out] at mm1 mm2 mm3 mm5 r8
      exact ⟨g8,Am,cm,Bm,dm,rfl,mm1,mm2,mm3,mm4,mm5,mm6,r8,kw⟩
    ·go_simp
     obtain ⟨w8,hw⟩:∃ W,W=World.alloc w7 (.cells #[.bool false,.slice none 0 0,.slice none 0 0] 31):=⟨_,rfl⟩
     have kb:Below w7.heap.size w7 w8:=by rw [hw]; exact below_one _ _
     have r8:World.rowIs w8 w7.heap.size 31 3 (ratCell (.bool false) (.slice none 0 0) (.slice none 0 0)):=by rw [hw]; exact box_row
     rw [<-hw]
     clear hw
     have hsz8:=kw.size
     have hrt8:=rt.lt
     replace s1:=s1.on kb
     replace s2:=s2.on kb
     replace rt:=rowIs_on rt kb
     replace ma1:=ma1.on kb
     replace ma2:=ma2.on kb
     replace kw:=onS kw kb
     clear kb
     obtain ⟨g8,hg⟩:∃ g,g=w7.heap.size:=⟨_,rfl⟩
     rw [<-hg] at r8 hsz8 hrt8 ⊢
     clear hg
     refine bkq hK (HS.out _ rt) (h:=fun hHeld=>?_)
     clear hK K
     refine rdq2 7 12 (h:=fun K hK=>?_) (h2:=fun K hK=>?_)
     ·go_simp
      obtain ⟨w9,hw⟩:∃ W,W=World.alloc w8 (Obj.cells #[.slice Sa (dl (S.num.natAbs)) sc,.slice Aa (dl (rk.num.natAbs)) ca] 29):=⟨_,rfl⟩
      have kb:Below w8.heap.size w8 w9:=by rw [hw]; exact below_one _ _
      have tbp:NatTab w9 w9.heap.size (some ⟨w8.heap.size,0,none⟩) 2 (pairF (S.num.natAbs) (rk.num.natAbs)):=NatTab.letter hw (natTab_pair 29 s1 ma1 c1 ma3 c2 ma4)
      rw [<-hw]
      clear hw
      replace s1:=s1.on kb
      replace s2:=s2.on kb
      replace rt:=rowIs_on rt kb
      replace ma1:=ma1.on kb
      replace ma2:=ma2.on kb
      replace kw:=onS kw kb
      replace r8:=rowIs_on r8 kb
      clear kb
      obtain ⟨gp,hg⟩:∃ g,g=w8.heap.size:=⟨_,rfl⟩
      rw [<-hg] at tbp ⊢
      clear hg
      refine bkq hK (HS.out _ rt) (h:=fun hHeld=>?_)
      clear hK K
      refine rdq2 8 12 (h:=fun K hK=>?_) (h2:=fun K hK=>?_)
      ·go_simp
       go_wp2_with fail
       refine (mul_tab (x:=S.num.natAbs) (y:=rk.num.natAbs) tbp (by omega) (by omega) (by omega)).mono ?_
       rintro e w10 ⟨Xx,kx,rfl,ux1,ux2,ux3,kb⟩
       replace s1:=s1.on kb
       replace s2:=s2.on kb
       replace rt:=rowIs_on rt kb
       replace ma1:=ma1.on kb
       replace ma2:=ma2.on kb
       replace kw:=onS kw kb
       replace r8:=rowIs_on r8 kb
       replace tbp:=tbp.on kb
       clear kb
       clear tbp
       refine bkq hK (HS.out _ rt) (h:=fun hHeld=>?_)
       clear hK K
       refine rdq 12 (h:=fun K hK=>?_)
       go_simp
       obtain ⟨w11,hw⟩:∃ W,W=World.alloc w10 (Obj.cells #[.slice Sb (dl (S.den)) sd,.slice Ba (dl (rk.den)) da] 29):=⟨_,rfl⟩
       have kb:Below w10.heap.size w10 w11:=by rw [hw]; exact below_one _ _
       have tbq:NatTab w11 w11.heap.size (some ⟨w10.heap.size,0,none⟩) 2 (pairF (S.den) (rk.den)):=NatTab.letter hw (natTab_pair 29 s2 ma2 c3 ma5 c4 ma6)
       rw [<-hw]
       clear hw
       replace s1:=s1.on kb
       replace s2:=s2.on kb
       replace rt:=rowIs_on rt kb
       replace ma1:=ma1.on kb
       replace ma2:=ma2.on kb
       replace kw:=onS kw kb
       replace r8:=rowIs_on r8 kb
       replace ux3:=ux3.on kb
       clear kb
       obtain ⟨gq,hg⟩:∃ g,g=w10.heap.size:=⟨_,rfl⟩
       rw [<-hg] at tbq ⊢
       clear hg
       refine bkq hK (HS.out _ rt) (h:=fun hHeld=>?_)
       clear hK K
       refine rdq 13 (h:=fun K hK=>?_)
       go_simp
       go_wp2_with fail
       refine (mul_tab (x:=S.den) (y:=rk.den) tbq (by omega) (by omega) (by omega)).mono ?_
       rintro e w12 ⟨Xy,ky,rfl,uy1,uy2,uy3,kb⟩
       replace s1:=s1.on kb
       replace s2:=s2.on kb
       replace rt:=rowIs_on rt kb
       replace ma1:=ma1.on kb
       replace ma2:=ma2.on kb
       replace kw:=onS kw kb
       replace r8:=rowIs_on r8 kb
       replace ux3:=ux3.on kb
       replace tbq:=tbq.on kb
       clear kb
       clear tbq
       refine bkq hK (HS.out _ rt) (h:=fun hHeld=>?_)
       clear hK K
       refine rdq 14 (h:=fun K hK=>?_)
       go_simp
       go_wp2_with fail
       refine (ratCanon_any (rneg S != rneg rk) Xx Xy (dl (S.num.natAbs*rk.num.natAbs)) kx (dl (S.den*rk.den)) ky (S.num.natAbs*rk.num.natAbs) (S.den*rk.den) _ ux3.raw uy3.raw ux1 ux2 uy1 uy2 (by omega) (by omega)).mono ?_
       rintro e w13 ⟨Am,cm,Bm,dm,rfl,mm1,mm2,mm3,mm4,mm5,mm6,kb⟩
       replace s1:=s1.on kb
       replace s2:=s2.on kb
       replace rt:=rowIs_on rt kb
       replace ma1:=ma1.on kb
       replace ma2:=ma2.on kb
       replace kw:=onS kw kb
       replace r8:=rowIs_on r8 kb
       replace ux3:=ux3.on kb
       replace uy3:=uy3.on kb
       clear kb
       rw [HR.out] at mm1 mm2 mm3 mm5 ⊢
       obtain ⟨q,hq⟩:∃ q,q=S*rk:=⟨_,rfl⟩
       rw [<-hq] at mm1 mm2 mm3 mm5 ⊢
       have HQL:=hid hq
       obtain ⟨ngq,hngq⟩:∃ b,b=rneg q:=⟨_,rfl⟩
       rw [<-hngq]
       have HNG:=hid hngq
       clear hq hngq
       refine bkq hK (HS.out _ rt) (h:=fun hHeld=>?_)
       clear hK K
       have hr8:=r8.lt
       have hszk:=kw.size
       have za0:=r8.frozen 0
       have za1:=r8.frozen 1
       have za2:=r8.frozen 2
       have ya0:w13.cell? ⟨g8,0,none⟩=some _:=r8.cell (i:=0) (by omega)
       have ya1:w13.cell? ⟨g8,1,none⟩=some _:=r8.cell (i:=1) (by omega)
       have ya2:w13.cell? ⟨g8,2,none⟩=some _:=r8.cell (i:=2) (by omega)
       refine rdq 16 (h:=fun K hK=>?_)
       go_simp
       generalize hw3:World.setCell _ _ _=w14
       have hst:RatStored w13 (g8) 31 (ngq) (Am) (dl q.num.natAbs) (cm) (Bm) (dl q.den) (dm) w14:=by rw [<-hw3]; exact rat_stored r8 _ _ _ _ _ _ _
       clear hw3
       replace s1:=hst.nat _ _ _ s1
       rw [<-hst.size] at s1
       replace s2:=hst.nat _ _ _ s2
       rw [<-hst.size] at s2
       replace rt:=rowIs_grown rt hst.grown (by omega)
       replace ma1:=hst.nat _ _ _ ma1
       rw [<-hst.size] at ma1
       replace ma2:=hst.nat _ _ _ ma2
       rw [<-hst.size] at ma2
       replace kw:=hst.below kw (by omega) (by omega)
       replace r8:=hst.row
       replace ux3:=hst.nat _ _ _ ux3
       rw [<-hst.size] at ux3
       replace uy3:=hst.nat _ _ _ uy3
       rw [<-hst.size] at uy3
       replace mm1:=hst.nat _ _ _ mm1
       rw [<-hst.size] at mm1
       replace mm2:=hst.nat _ _ _ mm2
       rw [<-hst.size] at mm2
       clear hst
       refine bkq hK (HS.out _ rt) (h:=fun hHeld=>?_)
       clear hK K
       refine wpAnyH_done (by kernel_rfl) ?_ _
       clear hHeld
       clear za0 za1 za2 ya0 ya1 ya2 HS hr8 hszk hsz8 hrt8
       go_wp2
       go_meet
       rw [HNG.out] at r8
       rw [HQL.out] at mm1 mm2 mm3 mm5 r8
       exact ⟨g8,Am,cm,Bm,dm,rfl,mm1,mm2,mm3,mm4,mm5,mm6,r8,kw⟩
      ·go_simp
       obtain ⟨w10,hw⟩:∃ W,W=World.alloc w9 (Obj.cells #[.slice Sb (dl (S.den)) sd,.slice Ba (dl (rk.den)) da] 29):=⟨_,rfl⟩
       have kb:Below w9.heap.size w9 w10:=by rw [hw]; exact below_one _ _
       have tbq:NatTab w10 w10.heap.size (some ⟨w9.heap.size,0,none⟩) 2 (pairF (S.den) (rk.den)):=NatTab.letter hw (natTab_pair 29 s2 ma2 c3 ma5 c4 ma6)
       rw [<-hw]
       clear hw
       replace s1:=s1.on kb
       replace s2:=s2.on kb
       replace rt:=rowIs_on rt kb
       replace ma1:=ma1.on kb
       replace ma2:=ma2.on kb
       replace kw:=onS kw kb
       replace r8:=rowIs_on r8 kb
       replace tbp:=tbp.on kb
       clear kb
       obtain ⟨gq,hg⟩:∃ g,g=w9.heap.size:=⟨_,rfl⟩
       rw [<-hg] at tbq ⊢
       clear hg
       refine bkq hK (HS.out _ rt) (h:=fun hHeld=>?_)
       clear hK K
       refine rdq 8 (h:=fun K hK=>?_)
       go_simp
       go_wp2_with fail
       refine (mul_tab (x:=S.num.natAbs) (y:=rk.num.natAbs) tbp (by omega) (by omega) (by omega)).mono ?_
       rintro e w11 ⟨Xx,kx,rfl,ux1,ux2,ux3,kb⟩
       replace s1:=s1.on kb
       replace s2:=s2.on kb
       replace rt:=rowIs_on rt kb
       replace ma1:=ma1.on kb
       replace ma2:=ma2.on kb
       replace kw:=onS kw kb
       replace r8:=rowIs_on r8 kb
       replace tbp:=tbp.on kb
       replace tbq:=tbq.on kb
       clear kb
       clear tbp
       refine bkq hK (HS.out _ rt) (h:=fun hHeld=>?_)
       clear hK K
       refine rdq 13 (h:=fun K hK=>?_)
       go_simp
       go_wp2_with fail
       refine (mul_tab (x:=S.den) (y:=rk.den) tbq (by omega) (by omega) (by omega)).mono ?_
       rintro e w12 ⟨Xy,ky,rfl,uy1,uy2,uy3,kb⟩
       replace s1:=s1.on kb
       replace s2:=s2.on kb
       replace rt:=rowIs_on rt kb
       replace ma1:=ma1.on kb
       replace ma2:=ma2.on kb
       replace kw:=onS kw kb
       replace r8:=rowIs_on r8 kb
       replace tbq:=tbq.on kb
       replace ux3:=ux3.on kb
       clear kb
       clear tbq
       refine bkq hK (HS.out _ rt) (h:=fun hHeld=>?_)
       clear hK K
       refine rdq 14 (h:=fun K hK=>?_)
       go_simp
       go_wp2_with fail
       refine (ratCanon_any (rneg S != rneg rk) Xx Xy (dl (S.num.natAbs*rk.num.natAbs)) kx (dl (S.den*rk.den)) ky (S.num.natAbs*rk.num.natAbs) (S.den*rk.den) _ ux3.raw uy3.raw ux1 ux2 uy1 uy2 (by omega) (by omega)).mono ?_
       rintro e w13 ⟨Am,cm,Bm,dm,rfl,mm1,mm2,mm3,mm4,mm5,mm6,kb⟩
       replace s1:=s1.on kb
       replace s2:=s2.on kb
       replace rt:=rowIs_on rt kb
       replace ma1:=ma1.on kb
       replace ma2:=ma2.on kb
       replace kw:=onS kw kb
       replace r8:=rowIs_on r8 kb
       replace ux3:=ux3.on kb
       replace uy3:=uy3.on kb
       clear kb
       rw [HR.out] at mm1 mm2 mm3 mm5 ⊢
       obtain ⟨q,hq⟩:∃ q,q=S*rk:=⟨_,rfl⟩
       rw [<-hq] at mm1 mm2 mm3 mm5 ⊢
       have HQL:=hid hq
       obtain ⟨ngq,hngq⟩:∃ b,b=rneg q:=⟨_,rfl⟩
       rw [<-hngq]
       have HNG:=hid hngq
       clear hq hngq
       refine bkq hK (HS.out _ rt) (h:=fun hHeld=>?_)
       clear hK K
       have hr8:=r8.lt
       have hszk:=kw.size
       have za0:=r8.frozen 0
       have za1:=r8.frozen 1
       have za2:=r8.frozen 2
       have ya0:w13.cell? ⟨g8,0,none⟩=some _:=r8.cell (i:=0) (by omega)
       have ya1:w13.cell? ⟨g8,1,none⟩=some _:=r8.cell (i:=1) (by omega)
       have ya2:w13.cell? ⟨g8,2,none⟩=some _:=r8.cell (i:=2) (by omega)
       refine rdq 16 (h:=fun K hK=>?_)
       go_simp
       generalize hw3:World.setCell _ _ _=w14
       have hst:RatStored w13 (g8) 31 (ngq) (Am) (dl q.num.natAbs) (cm) (Bm) (dl q.den) (dm) w14:=by rw [<-hw3]; exact rat_stored r8 _ _ _ _ _ _ _
       clear hw3
       replace s1:=hst.nat _ _ _ s1
       rw [<-hst.size] at s1
       replace s2:=hst.nat _ _ _ s2
       rw [<-hst.size] at s2
       replace rt:=rowIs_grown rt hst.grown (by omega)
       replace ma1:=hst.nat _ _ _ ma1
       rw [<-hst.size] at ma1
       replace ma2:=hst.nat _ _ _ ma2
       rw [<-hst.size] at ma2
       replace kw:=hst.below kw (by omega) (by omega)
       replace r8:=hst.row
       replace ux3:=hst.nat _ _ _ ux3
       rw [<-hst.size] at ux3
       replace uy3:=hst.nat _ _ _ uy3
       rw [<-hst.size] at uy3
       replace mm1:=hst.nat _ _ _ mm1
       rw [<-hst.size] at mm1
       replace mm2:=hst.nat _ _ _ mm2
       rw [<-hst.size] at mm2
       clear hst
       refine bkq hK (HS.out _ rt) (h:=fun hHeld=>?_)
       clear hK K
       refine wpAnyH_done (by kernel_rfl) ?_ _
       clear hHeld
       clear za0 za1 za2 ya0 ya1 ya2 HS hr8 hszk hsz8 hrt8
       go_wp2
       go_meet
       rw [HNG.out] at r8
       rw [HQL.out] at mm1 mm2 mm3 mm5 r8
       exact ⟨g8,Am,cm,Bm,dm,rfl,mm1,mm2,mm3,mm4,mm5,mm6,r8,kw⟩
     ·go_simp
      obtain ⟨w9,hw⟩:∃ W,W=World.alloc w8 (Obj.cells #[.slice Sb (dl (S.den)) sd,.slice Ba (dl (rk.den)) da] 29):=⟨_,rfl⟩
      have kb:Below w8.heap.size w8 w9:=by rw [hw]; exact below_one _ _
      have tbq:NatTab w9 w9.heap.size (some ⟨w8.heap.size,0,none⟩) 2 (pairF (S.den) (rk.den)):=NatTab.letter hw (natTab_pair 29 s2 ma2 c3 ma5 c4 ma6)
      rw [<-hw]
      clear hw
      replace s1:=s1.on kb
      replace s2:=s2.on kb
      replace rt:=rowIs_on rt kb
      replace ma1:=ma1.on kb
      replace ma2:=ma2.on kb
      replace kw:=onS kw kb
      replace r8:=rowIs_on r8 kb
      clear kb
      obtain ⟨gq,hg⟩:∃ g,g=w8.heap.size:=⟨_,rfl⟩
      rw [<-hg] at tbq ⊢
      clear hg
      refine bkq hK (HS.out _ rt) (h:=fun hHeld=>?_)
      clear hK K
      refine rdq 7 (h:=fun K hK=>?_)
      go_simp
      obtain ⟨w10,hw⟩:∃ W,W=World.alloc w9 (Obj.cells #[.slice Sa (dl (S.num.natAbs)) sc,.slice Aa (dl (rk.num.natAbs)) ca] 29):=⟨_,rfl⟩
      have kb:Below w9.heap.size w9 w10:=by rw [hw]; exact below_one _ _
      have tbp:NatTab w10 w10.heap.size (some ⟨w9.heap.size,0,none⟩) 2 (pairF (S.num.natAbs) (rk.num.natAbs)):=NatTab.letter hw (natTab_pair 29 s1 ma1 c1 ma3 c2 ma4)
      rw [<-hw]
      clear hw
      replace s1:=s1.on kb
      replace s2:=s2.on kb
      replace rt:=rowIs_on rt kb
      replace ma1:=ma1.on kb
      replace ma2:=ma2.on kb
      replace kw:=onS kw kb
      replace r8:=rowIs_on r8 kb
      replace tbq:=tbq.on kb
      clear kb
      obtain ⟨gp,hg⟩:∃ g,g=w9.heap.size:=⟨_,rfl⟩
      rw [<-hg] at tbp ⊢
      clear hg
      refine bkq hK (HS.out _ rt) (h:=fun hHeld=>?_)
      clear hK K
      refine rdq 8 (h:=fun K hK=>?_)
      go_simp
      go_wp2_with fail
      refine (mul_tab (x:=S.num.natAbs) (y:=rk.num.natAbs) tbp (by omega) (by omega) (by omega)).mono ?_
      rintro e w11 ⟨Xx,kx,rfl,ux1,ux2,ux3,kb⟩
      replace s1:=s1.on kb
      replace s2:=s2.on kb
      replace rt:=rowIs_on rt kb
      replace ma1:=ma1.on kb
      replace ma2:=ma2.on kb
      replace kw:=onS kw kb
      replace r8:=rowIs_on r8 kb
      replace tbq:=tbq.on kb
      replace tbp:=tbp.on kb
      clear kb
      clear tbp
      refine bkq hK (HS.out _ rt) (h:=fun hHeld=>?_)
      clear hK K
      refine rdq 13 (h:=fun K hK=>?_)
      go_simp
      go_wp2_with fail
      refine (mul_tab (x:=S.den) (y:=rk.den) tbq (by omega) (by omega) (by omega)).mono ?_
      rintro e w12 ⟨Xy,ky,rfl,uy1,uy2,uy3,kb⟩
      replace s1:=s1.on kb
      replace s2:=s2.on kb
      replace rt:=rowIs_on rt kb
      replace ma1:=ma1.on kb
      replace ma2:=ma2.on kb
      replace kw:=onS kw kb
      replace r8:=rowIs_on r8 kb
      replace tbq:=tbq.on kb
      replace ux3:=ux3.on kb
      clear kb
      clear tbq
      refine bkq hK (HS.out _ rt) (h:=fun hHeld=>?_)
      clear hK K
      refine rdq 14 (h:=fun K hK=>?_)
      go_simp
      go_wp2_with fail
      refine (ratCanon_any (rneg S != rneg rk) Xx Xy (dl (S.num.natAbs*rk.num.natAbs)) kx (dl (S.den*rk.den)) ky (S.num.natAbs*rk.num.natAbs) (S.den*rk.den) _ ux3.raw uy3.raw ux1 ux2 uy1 uy2 (by omega) (by omega)).mono ?_
      rintro e w13 ⟨Am,cm,Bm,dm,rfl,mm1,mm2,mm3,mm4,mm5,mm6,kb⟩
      replace s1:=s1.on kb
      replace s2:=s2.on kb
      replace rt:=rowIs_on rt kb
      replace ma1:=ma1.on kb
      replace ma2:=ma2.on kb
      replace kw:=onS kw kb
      replace r8:=rowIs_on r8 kb
      replace ux3:=ux3.on kb
      replace uy3:=uy3.on kb
      clear kb
      rw [HR.out] at mm1 mm2 mm3 mm5 ⊢
      obtain ⟨q,hq⟩:∃ q,q=S*rk:=⟨_,rfl⟩
      rw [<-hq] at mm1 mm2 mm3 mm5 ⊢
      have HQL:=hid hq
      obtain ⟨ngq,hngq⟩:∃ b,b=rneg q:=⟨_,rfl⟩
      rw [<-hngq]
      have HNG:=hid hngq
      clear hq hngq
      refine bkq hK (HS.out _ rt) (h:=fun hHeld=>?_)
      clear hK K
      have hr8:=r8.lt
      have hszk:=kw.size
      have za0:=r8.frozen 0
      have za1:=r8.frozen 1
      have za2:=r8.frozen 2
      have ya0:w13.cell? ⟨g8,0,none⟩=some _:=r8.cell (i:=0) (by omega)
      have ya1:w13.cell? ⟨g8,1,none⟩=some _:=r8.cell (i:=1) (by omega)
      have ya2:w13.cell? ⟨g8,2,none⟩=some _:=r8.cell (i:=2) (by omega)
      refine rdq 16 (h:=fun K hK=>?_)
      go_simp
      generalize hw3:World.setCell _ _ _=w14
      have hst:RatStored w13 (g8) 31 (ngq) (Am) (dl q.num.natAbs) (cm) (Bm) (dl q.den) (dm) w14:=by rw [<-hw3]; exact rat_stored r8 _ _ _ _ _ _ _
      clear hw3
      replace s1:=hst.nat _ _ _ s1
      rw [<-hst.size] at s1
      replace s2:=hst.nat _ _ _ s2
      rw [<-hst.size] at s2
      replace rt:=rowIs_grown rt hst.grown (by omega)
      replace ma1:=hst.nat _ _ _ ma1
      rw [<-hst.size] at ma1
      replace ma2:=hst.nat _ _ _ ma2
      rw [<-hst.size] at ma2
      replace kw:=hst.below kw (by omega) (by omega)
      replace r8:=hst.row
      replace ux3:=hst.nat _ _ _ ux3
      rw [<-hst.size] at ux3
      replace uy3:=hst.nat _ _ _ uy3
      rw [<-hst.size] at uy3
      replace mm1:=hst.nat _ _ _ mm1
      rw [<-hst.size] at mm1
      replace mm2:=hst.nat _ _ _ mm2
      rw [<-hst.size] at mm2
      clear hst
      refine bkq hK (HS.out _ rt) (h:=fun hHeld=>?_)
      clear hK K
      refine wpAnyH_done (by kernel_rfl) ?_ _
      clear hHeld
      clear za0 za1 za2 ya0 ya1 ya2 HS hr8 hszk hsz8 hrt8
      go_wp2
      go_meet
      rw [HNG.out] at r8
      rw [HQL.out] at mm1 mm2 mm3 mm5 r8
      exact ⟨g8,Am,cm,Bm,dm,rfl,mm1,mm2,mm3,mm4,mm5,mm6,r8,kw⟩
   case rest =>
    clear s1 s2 ma1 ma2 c1 c2 c3 c4 ma3 ma4 ma5 ma6 hx hy HR hr1 hr2 hr3 hr4 HSK HRK rt
    obtain ⟨g8,Am,cm,Bm,dm,rfl,mm1,mm2,mm3,mm4,mm5,mm6,r8,kb⟩:=hcut
    replace rz:=rowIs_on rz kb
    replace hB:=onS hB kb
    clear kb
    rw [<-HNX.out] at mm1 mm2 mm3 mm5 r8
    have e0:wc.cell? ⟨g8,0,none⟩=some (.bool (rneg (prodR rs (k+1)))):=r8.cell (i:=0) (by omega)
    have e1:wc.cell? ⟨g8,1,none⟩=some (.slice (Am) (dl (prodR rs (k+1)).num.natAbs) (cm)):=r8.cell (i:=1) (by omega)
    have e2:wc.cell? ⟨g8,2,none⟩=some (.slice (Bm) (dl (prodR rs (k+1)).den) (dm)):=r8.cell (i:=2) (by omega)
    clear HNX HSK2 hs hr h r8
    go_wp2
    go_quiet (fail)
    go_wp2
    go_roundg (gk - 1)
    case measure=>omega
    case rel=>exact ⟨k+1,Am,cm,Bm,dm,rfl,rfl,rfl,by go_num,by omega,by omega,mm3,mm4,mm5,mm6,mm1,mm2,rz,below_drewN hB _⟩
  ·obtain rfl:k=m:=by omega
   have hlt':¬ (k:Int)<(k:Int):=by omega
   obtain ⟨w19,hw19⟩:∃ W,W=wr:=⟨_,rfl⟩
   rw [<-hw19] at s1 s2 rz hB ⊢
   clear hw19 h
   have mm1:=s1
   have mm2:=s2
   have mm3:=c1
   have mm4:=c2
   have mm5:=c3
   have mm6:=c4
   clear s1 s2 c1 c2 c3 c4
   obtain ⟨q,hq⟩:∃ q,q=prodR rs k:=⟨_,rfl⟩
   rw [<-hq] at mm1 mm2 mm3 mm5 ⊢
   have HQL:=hid hq
   obtain ⟨ngq,hngq⟩:∃ b,b=rneg q:=⟨_,rfl⟩
   rw [<-hngq]
   have HNG:=hid hngq
   clear hq hngq
   have hsz:=hB.size
   have za0:=rz.frozen 0
   have za1:=rz.frozen 1
   have za2:=rz.frozen 2
   have ya0:w19.cell? ⟨w.heap.size,0,none⟩=some _:=rz.cell (i:=0) (by omega)
   have ya1:w19.cell? ⟨w.heap.size,1,none⟩=some _:=rz.cell (i:=1) (by omega)
   have ya2:w19.cell? ⟨w.heap.size,2,none⟩=some _:=rz.cell (i:=2) (by omega)
   go_wp2
   generalize hw3:World.setCell _ _ _=w20
   have hst:RatStored w19 (w.heap.size) 31 (ngq) (Sa) (dl q.num.natAbs) (sc) (Sb) (dl q.den) (sd) w20:=by rw [<-hw3]; exact rat_stored rz _ _ _ _ _ _ _
   clear hw3
   replace mm1:=hst.nat _ _ _ mm1
   rw [<-hst.size] at mm1
   replace mm2:=hst.nat _ _ _ mm2
   rw [<-hst.size] at mm2
   replace rz:=hst.row
   replace hB:=hst.below hB (by omega) (by omega)
   clear hst
   clear hsz za0 za1 za2 ya0 ya1 ya2
   have e0:w20.cell? ⟨w.heap.size,0,none⟩=some (.bool (ngq)):=rz.cell (i:=0) (by omega)
   have e1:w20.cell? ⟨w.heap.size,1,none⟩=some (.slice (Sa) (dl q.num.natAbs) (sc)):=rz.cell (i:=1) (by omega)
   have e2:w20.cell? ⟨w.heap.size,2,none⟩=some (.slice (Sb) (dl q.den) (sd)):=rz.cell (i:=2) (by omega)
   refine bodyPost_ret (v:=.agg #[.bool (ngq),.slice (Sa) (dl q.num.natAbs) (sc),.slice (Sb) (dl q.den) (sd)]) (by simp [results,Tryz.results61, go_sem,e0,e1,e2]) rfl ?_
   rw [<-HQL.out]
   exact ⟨Sa,sc,Sb,sd,by rw [HNG.out],mm1,mm2,mm3,mm4,mm5,mm6,hB⟩
end Go.Proofs.YtmgeblpnnaamnaaGreat