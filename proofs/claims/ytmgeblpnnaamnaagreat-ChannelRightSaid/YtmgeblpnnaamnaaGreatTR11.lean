/- Merged texts of a claim: PAddAll. -/
import Derived.Test.YtmgeblpnnaamnaaGreatTR10
namespace Go.Proofs.YtmgeblpnnaamnaaGreat
set_option maxRecDepth 100000
set_option maxHeartbeats 32000000
open Go.RowKit
theorem RowOk.last {w:World} {g M k p:Nat} {rs:Nat->Rat} {r:Rat} (h:RowOk w g M k (updR rs p r)) (hp:p<k):∃ A c A2 c2,w.cell? ⟨g,p*3,none⟩=some (.bool (rneg r))/\w.cell? ⟨g,p*3+1,none⟩=some (.slice A (dl r.num.natAbs) c)/\w.cell? ⟨g,p*3+2,none⟩=some (.slice A2 (dl r.den) c2)/\NatOk w w.heap.size A r.num.natAbs/\NatOk w w.heap.size A2 r.den/\dl r.num.natAbs<=c/\c<=maxLen/\dl r.den<=c2/\c2<=maxLen:=by
 have:=h.get p hp
 have e:updR rs p r p=r:=by simp [updR]
 rwa [e] at this
theorem RowOk.again {w:World} {g M k p:Nat} {rs:Nat->Rat} {r r':Rat} (h:RowOk w g M k (updR (updR rs p r) p r')):RowOk w g M k (updR rs p r'):=h.congr fun i _=>by unfold updR; split <;> simp_all
theorem RowOk.whole {w:World} {g M k p:Nat} {rs:Nat->Rat} {r:Rat} (h:RowOk w g M k (updR rs p r)) (e:r=rs p):RowOk w g M k rs:=h.congr fun i _=>by unfold updR; split <;> simp_all
theorem RatRaw.mono {w:World} {B N N2:Nat} {v:Value} {r:Rat} (h:RatRaw w B v r N) (hN:N<=N2):RatRaw w B v r N2:=by
 obtain ⟨s,A,n,c,A2,m,c2,x,y,e,h1,h2,h3,h4,h5,h6,h7,h8,h9⟩:=h
 exact ⟨s,A,n,c,A2,m,c2,x,y,e,h1,h2,h3,h4,h5,h6,by omega,by omega,h9⟩
theorem RatTab.mono {w:World} {B m N N2:Nat} {T:Option Addr} {rs:Nat->Rat} (h:RatTab w B T m rs N) (hN:N<=N2):RatTab w B T m rs N2:=fun i hi=>by
 obtain ⟨b,off,s,A,n,c,A2,k,c2,e,h1,h2,h3,h4,h5⟩:=h i hi
 exact ⟨b,off,s,A,n,c,A2,k,c2,e,h1,h2,h3,h4,h5.mono hN⟩
def cutR (a:Nat->Rat) (m i:Nat):Rat:=if i<m then a i else 0
def sumP (a:Nat->Rat) (m:Nat) (b:Nat->Rat) (m' i:Nat):Rat:=cutR a m i+cutR b m' i
theorem sumP_both {a b:Nat->Rat} {m m' j:Nat} {q0 q1 q2 r1 r2:Rat} (h1:j<m) (h2:j<m') (e0:q0=0) (e1:q1=q0+r1) (e2:q2=q1+r2) (f1:r1=a j) (f2:r2=b j):q2=sumP a m b m' j:=by
 subst e0 e1 e2 f1 f2; simp [sumP,cutR,h1,h2,Rat.zero_add]
theorem sumP_left {a b:Nat->Rat} {m m' j:Nat} {q0 q1 r1:Rat} (h1:j<m) (h2:¬ j<m') (e0:q0=0) (e1:q1=q0+r1) (f1:r1=a j):q1=sumP a m b m' j:=by
 subst e0 e1 f1; simp [sumP,cutR,h1,h2,Rat.zero_add,Rat.add_zero]
theorem sumP_right {a b:Nat->Rat} {m m' j:Nat} {q0 q1 r1:Rat} (h1:¬ j<m) (h2:j<m') (e0:q0=0) (e1:q1=q0+r1) (f1:r1=b j):q1=sumP a m b m' j:=by
 subst e0 e1 f1; simp [sumP,cutR,h1,h2,Rat.zero_add]
theorem rsz_sumP {a b:Nat->Rat} {m m' N j:Nat} (h1:∀ k,k<m->rsz (a k) N) (h2:∀ k,k<m'->rsz (b k) N) (hN:1<=N):rsz (sumP a m b m' j) (N+N+1):=by
 unfold sumP
 refine rsz_add ?_ ?_
 ·unfold cutR; split
  ·exact h1 _ (by assumption)
  ·exact rsz_zero.mono hN
 ·unfold cutR; split
  ·exact h2 _ (by assumption)
  ·exact rsz_zero.mono hN
theorem chPAdd_any (T T':Option Addr) (m c m' c' N:Nat) (a b:Nat->Rat) (w:World) (h:RatTab w w.heap.size T m a N) (h':RatTab w w.heap.size T' m' b N) (hm:m<=524288) (hm':m'<=524288) (hN:N<=8388608) (hra:Hid (∀ k,k<m->rsz (a k) N)) (hrb:Hid (∀ k,k<m'->rsz (b k) N)) :
  Calls Tryz.prog 70 #[.slice T m c,.slice T' m' c'] w (PolyPost (clen (sumP a m b m') (max m m')) (sumP a m b m') w):=by
 obtain ⟨NN,hNN⟩:∃ n,n=N+N+4:=⟨_,rfl⟩
 have hn1:NN<=N+N+4:=by omega
 have hn2:N+N+4<=NN:=by omega
 clear hNN
 replace h:=h.mono (show N<=NN by omega)
 replace h':=h'.mono (show N<=NN by omega)
 have hS:Hid (∀ j,j<max m m'->rsz (sumP a m b m' j) (N+N+1)):=fun j hj=>rsz_sumP hra.out hrb.out (by rcases (by omega:j<m∨j<m') with e | e; exact rsz_pos (hra.out j e); exact rsz_pos (hrb.out j e))
 obtain ⟨S,hSe⟩:∃ S,S=sumP a m b m':=⟨_,rfl⟩
 rw [<-hSe] at hS ⊢
 have HSE:=hid hSe
 clear hSe
 have hmx:max (m:Int) (m':Int)=((max m m':Nat):Int):=by omega
 obtain ⟨M,hM⟩:∃ M,M=max m m':=⟨_,rfl⟩
 rw [<-hM] at hmx hS ⊢
 have hmx2:max m m'=M:=hM.symm
 have hMle:M<=1048576:=by omega
 have HM:=hid hM
 clear hM
 have hmk:=fun W=>run_makeRat M hMle W
 have kb1:=below_one w (.cells (madeCells #[.bool false,.slice none 0 0,.slice none 0 0] (M*3)) 31)
 have row:=rowOk_made w M S
 have hB:=kb1
 clear kb1
 go_enter Tryz.func70, Tryz.ntmps70
 go_wp2
 obtain ⟨w1,hw1⟩:∃ W,W=w.alloc (.cells (madeCells #[.bool false,.slice none 0 0,.slice none 0 0] (M*3)) 31):=⟨_,rfl⟩
 obtain ⟨g,hg⟩:∃ g,g=w.heap.size:=⟨_,rfl⟩
 rw [<-hw1,<-hg]
 rw [<-hw1] at hB row
 rw [<-hg] at row
 have hgB:w.heap.size<=g:=by omega
 clear hw1 hg hmk hmx hmx2
 go_loopg [15] M (fun gg iv wx=>∃ j:Nat,iv=.int .i64 (j:Nat)/\j<=M/\M<=j+gg/\RowOk wx g M j S/\Below w.heap.size w wx)
 case atStart=>exact ⟨0,rfl,by omega,by omega,row,hB⟩
 case round =>
  clear row hB
  obtain ⟨j,rfl,hj,hjg,row,hB⟩:=hrel
  have hj0:(0:Int)<=(j:Int):=by omega
  by_cases hlt:j<M
  ·have hlt':(j:Int)<(M:Int):=by omega
   obtain ⟨w0,hw0⟩:∃ W,W=wr:=⟨_,rfl⟩
   rw [<-hw0] at row hB ⊢
   clear hw0
   go_wp2_with fail
   refine (chZero_any _).mono ?_
   rintro e w1 ⟨Ap,cp,Bp,dp,rfl,mp1,mp2,mp3,mp4,mp5,mp6,kb⟩
   replace row:=row.on kb
   replace hB:=onS hB kb
   clear kb
   obtain ⟨q0,hq0⟩:∃ q:Rat,q=(0:Rat):=⟨_,rfl⟩
   rw [<-hq0] at mp1 mp2 mp3 mp5 ⊢
   replace hq0:q0=0:=hq0.trans (by rfl)
   have HQ0:=hid hq0
   have HSZq0:rsz q0 1:=by rw [hq0]; exact rsz_zero
   clear hq0
   obtain ⟨o0,o1,o2,y0,y1,y2⟩:=row.old (j) (by omega)
   have z0:=row.froz (j*3)
   have z1:=row.froz (j*3+1)
   have z2:=row.froz (j*3+2)
   have hsz:=hB.size
   go_upto_region 6 with fail
   generalize hw3:World.setCell _ _ _=w2
   have hst:RowPut w1 g M (j) (j) (S) q0 w2:=by rw [<-hw3]; exact rowPut row (by omega) (by omega) mp1 mp2 mp3 mp4 mp5 mp6
   clear hw3 mp1 mp2 mp3 mp4 mp5 mp6
   replace row:=hst.row
   replace hB:=hst.below hB hgB hsz
   clear hst
   rw [show max j (j+1)=j+1 by omega] at row
   clear y0 y1 y2 z0 z1 z2 hsz
   by_cases h1:j<m
   ·by_cases h2:j<m'
    ·have hx:(j:Int)<(m:Int):=by omega
     have hy:(j:Int)<(m':Int):=by omega
     go_upto_region 7 with fail
     obtain ⟨bb,off,s5,A5,n5,c5,A6,n6,c6,rfl,hb,t0,t1,t2,hraw⟩:=h j (by omega)
     replace hraw:=hraw.on hB
     obtain ⟨rk,hrk⟩:∃ r,r=a j:=⟨_,rfl⟩
     rw [<-hrk] at hraw
     have HRK:=hid hrk
     have hrs:rsz rk N:=by rw [hrk]; exact hra.out j (by omega)
     clear hrk
     have HS:Hid (∀ w':World,Below w.heap.size w w'->w'.cell? ⟨bb,off+j*3,none⟩=some (.bool (s5))/\w'.cell? ⟨bb,off+j*3+1,none⟩=some (.slice (A5) (n5) (c5))/\w'.cell? ⟨bb,off+j*3+2,none⟩=some (.slice (A6) (n6) (c6))):=fun w' kb=>⟨cellS kb t0,cellS kb t1,cellS kb t2⟩
     refine wp_region_held_drew (S:=fun w'=>w'.cell? ⟨bb,off+j*3,none⟩=some (.bool (s5))/\w'.cell? ⟨bb,off+j*3+1,none⟩=some (.slice (A5) (n5) (c5))/\w'.cell? ⟨bb,off+j*3+2,none⟩=some (.slice (A6) (n6) (c6))) (by kernel_rfl) (HS.out _ hB.drew) (fun hHeld=>?_)
     clear t0 t1 t2 hb
     obtain ⟨w3,hw⟩:∃ W,W=World.drew w2:=⟨_,rfl⟩
     have kb:Below w2.heap.size w2 w3:=by rw [hw]; exact (Below.refl _ _).drew
     rw [<-hw] at hHeld ⊢
     clear hw
     replace row:=row.on kb
     replace hB:=onS hB kb
     replace hraw:=hraw.on kb
     clear kb
     refine tkq 0 (h:=tkq 1 (h:=tkq 2 (h:=tkq 3 (h:=tkq 4 (h:=tkq 6 (h:=tkq 7 (h:=tkq 8 (h:=tkq 9 (h:=?_)))))))))
     obtain ⟨Ao,co,Bo,do_,g0,g1,g2,mo1,mo2,mo3,mo4,mo5,mo6⟩:=row.last (by omega)
     refine rdq 5 (h:=fun K hK=>?_)
     go_simp
     clear g0 g1 g2
     refine bkq hK (HS.out _ hB) (h:=fun hHeld=>?_)
     clear hK K
     refine rdq 10 (h:=fun K hK=>?_)
     go_simp
     obtain ⟨w4,hw⟩:∃ W,W=World.alloc w3 (.cells #[.bool (rneg (q0)),.slice (Ao) (dl (q0).num.natAbs) (co),.slice (Bo) (dl (q0).den) (do_),.bool (s5),.slice (A5) (n5) (c5),.slice (A6) (n6) (c6)] 31):=⟨_,rfl⟩
     have kb:Below w3.heap.size w3 w4:=by rw [hw]; exact below_one _ _
     have tb:RatTab w4 w4.heap.size (some ⟨w3.heap.size,0,none⟩) 2 (pairR (q0) (rk)) NN:=RatTab.letter hw (ratTab_pair 31 (RatOk.raw ⟨Ao,co,Bo,do_,rfl,mo1,mo2,mo3,mo4,mo5,mo6⟩ (rsz.mono HSZq0 (by omega))) hraw)
     rw [<-hw]
     clear hw
     replace row:=row.on kb
     replace hB:=onS hB kb
     replace hraw:=hraw.on kb
     replace mo1:=mo1.on kb
     replace mo2:=mo2.on kb
     clear kb
     obtain ⟨gq,hg⟩:∃ g,g=w3.heap.size:=⟨_,rfl⟩
     rw [<-hg] at tb ⊢
     clear hg
     refine bkq hK (HS.out _ hB) (h:=fun hHeld=>?_)
     clear hK K
     refine rdq 11 (h:=fun K hK=>?_)
     go_simp
     go_wp2_with fail
     refine (ratAdd_tab tb (by omega) (by omega) (rsz.mono HSZq0 (by omega)) (rsz.mono hrs (by omega)) (rsz.mono (rsz_add HSZq0 hrs) (by omega))).mono ?_
     rintro e w5 ⟨Ap,cp,Bp,dp,rfl,mp1,mp2,mp3,mp4,mp5,mp6,kb⟩
     replace row:=row.on kb
     replace hB:=onS hB kb
     replace hraw:=hraw.on kb
     replace mo1:=mo1.on kb
     replace mo2:=mo2.on kb
     replace tb:=tb.on kb
     clear kb
     clear tb
     obtain ⟨q1,hq⟩:∃ z,z=q0+rk:=⟨_,rfl⟩
     rw [<-hq] at mp1 mp2 mp3 mp5 ⊢
     have HQ1:=hid hq
     have HSZq1:rsz q1 (1+N+1):=by rw [hq]; exact rsz_add HSZq0 hrs
     clear hq
     clear hraw mo1 mo2 mo3 mo4 mo5 mo6
     refine bkq hK (HS.out _ hB) (h:=fun hHeld=>?_)
     clear hK K
     refine tkq 12 (h:=?_)
     obtain ⟨o0,o1,o2,y0,y1,y2⟩:=row.old (j) (by omega)
     have z0:=row.froz (j*3)
     have z1:=row.froz (j*3+1)
     have z2:=row.froz (j*3+2)
     have hsz:=hB.size
     refine rdq 13 (h:=fun K hK=>?_)
     go_simp
     generalize hw3:World.setCell _ _ _=w6
     have hst:RowPut w5 g M (j+1) (j) (updR S j q0) q1 w6:=by rw [<-hw3]; exact rowPut row (by omega) (by omega) mp1 mp2 mp3 mp4 mp5 mp6
     clear hw3 mp1 mp2 mp3 mp4 mp5 mp6
     replace row:=hst.row
     replace hB:=hst.below hB hgB hsz
     clear hst
     rw [show max (j+1) (j+1)=j+1 by omega] at row
     replace row:=row.again
     refine bkq hK (HS.out _ hB) (h:=fun hHeld=>?_)
     clear hK K
     refine wpAnyH_done (by kernel_rfl) ?_ _
     clear hHeld
     clear y0 y1 y2 z0 z1 z2 hsz HS hrs
     have HA:=HRK
     clear HRK
     go_upto_region 9 with fail
     obtain ⟨bb,off,s5,A5,n5,c5,A6,n6,c6,rfl,hb,t0,t1,t2,hraw⟩:=h' j (by omega)
     replace hraw:=hraw.on hB
     obtain ⟨rk,hrk⟩:∃ r,r=b j:=⟨_,rfl⟩
     rw [<-hrk] at hraw
     have HRK:=hid hrk
     have hrs:rsz rk N:=by rw [hrk]; exact hrb.out j (by omega)
     clear hrk
     have HS:Hid (∀ w':World,Below w.heap.size w w'->w'.cell? ⟨bb,off+j*3,none⟩=some (.bool (s5))/\w'.cell? ⟨bb,off+j*3+1,none⟩=some (.slice (A5) (n5) (c5))/\w'.cell? ⟨bb,off+j*3+2,none⟩=some (.slice (A6) (n6) (c6))):=fun w' kb=>⟨cellS kb t0,cellS kb t1,cellS kb t2⟩
     refine wp_region_held_drew (S:=fun w'=>w'.cell? ⟨bb,off+j*3,none⟩=some (.bool (s5))/\w'.cell? ⟨bb,off+j*3+1,none⟩=some (.slice (A5) (n5) (c5))/\w'.cell? ⟨bb,off+j*3+2,none⟩=some (.slice (A6) (n6) (c6))) (by kernel_rfl) (HS.out _ hB.drew) (fun hHeld=>?_)
     clear t0 t1 t2 hb
     obtain ⟨w7,hw⟩:∃ W,W=World.drew w6:=⟨_,rfl⟩
     have kb:Below w6.heap.size w6 w7:=by rw [hw]; exact (Below.refl _ _).drew
     rw [<-hw] at hHeld ⊢
     clear hw
     replace row:=row.on kb
     replace hB:=onS hB kb
     replace hraw:=hraw.on kb
     clear kb
     refine tkq 0 (h:=tkq 1 (h:=tkq 2 (h:=tkq 3 (h:=tkq 4 (h:=tkq 6 (h:=tkq 7 (h:=tkq 8 (h:=tkq 9 (h:=?_)))))))))
     obtain ⟨Ao,co,Bo,do_,g0,g1,g2,mo1,mo2,mo3,mo4,mo5,mo6⟩:=row.last (by omega)
     refine rdq 5 (h:=fun K hK=>?_)
     go_simp
     clear g0 g1 g2
     refine bkq hK (HS.out _ hB) (h:=fun hHeld=>?_)
     clear hK K
     refine rdq 10 (h:=fun K hK=>?_)
     go_simp
     obtain ⟨w8,hw⟩:∃ W,W=World.alloc w7 (.cells #[.bool (rneg (q1)),.slice (Ao) (dl (q1).num.natAbs) (co),.slice (Bo) (dl (q1).den) (do_),.bool (s5),.slice (A5) (n5) (c5),.slice (A6) (n6) (c6)] 31):=⟨_,rfl⟩
     have kb:Below w7.heap.size w7 w8:=by rw [hw]; exact below_one _ _
     have tb:RatTab w8 w8.heap.size (some ⟨w7.heap.size,0,none⟩) 2 (pairR (q1) (rk)) NN:=RatTab.letter hw (ratTab_pair 31 (RatOk.raw ⟨Ao,co,Bo,do_,rfl,mo1,mo2,mo3,mo4,mo5,mo6⟩ (rsz.mono HSZq1 (by omega))) hraw)
     rw [<-hw]
     clear hw
     replace row:=row.on kb
     replace hB:=onS hB kb
     replace hraw:=hraw.on kb
     replace mo1:=mo1.on kb
     replace mo2:=mo2.on kb
     clear kb
     obtain ⟨gq,hg⟩:∃ g,g=w7.heap.size:=⟨_,rfl⟩
     rw [<-hg] at tb ⊢
     clear hg
     refine bkq hK (HS.out _ hB) (h:=fun hHeld=>?_)
     clear hK K
     refine rdq 11 (h:=fun K hK=>?_)
     go_simp
     go_wp2_with fail
     refine (ratAdd_tab tb (by omega) (by omega) (rsz.mono HSZq1 (by omega)) (rsz.mono hrs (by omega)) (rsz.mono (rsz_add HSZq1 hrs) (by omega))).mono ?_
     rintro e w9 ⟨Ap,cp,Bp,dp,rfl,mp1,mp2,mp3,mp4,mp5,mp6,kb⟩
     replace row:=row.on kb
     replace hB:=onS hB kb
     replace hraw:=hraw.on kb
     replace mo1:=mo1.on kb
     replace mo2:=mo2.on kb
     replace tb:=tb.on kb
     clear kb
     clear tb
     obtain ⟨q2,hq⟩:∃ z,z=q1+rk:=⟨_,rfl⟩
     rw [<-hq] at mp1 mp2 mp3 mp5 ⊢
     have HQ2:=hid hq
     have HSZq2:rsz q2 (1+N+1+N+1):=by rw [hq]; exact rsz_add HSZq1 hrs
     clear hq
     clear hraw mo1 mo2 mo3 mo4 mo5 mo6
     refine bkq hK (HS.out _ hB) (h:=fun hHeld=>?_)
     clear hK K
     refine tkq 12 (h:=?_)
     obtain ⟨o0,o1,o2,y0,y1,y2⟩:=row.old (j) (by omega)
     have z0:=row.froz (j*3)
     have z1:=row.froz (j*3+1)
     have z2:=row.froz (j*3+2)
     have hsz:=hB.size
     refine rdq 13 (h:=fun K hK=>?_)
     go_simp
     generalize hw3:World.setCell _ _ _=w10
     have hst:RowPut w9 g M (j+1) (j) (updR S j q1) q2 w10:=by rw [<-hw3]; exact rowPut row (by omega) (by omega) mp1 mp2 mp3 mp4 mp5 mp6
     clear hw3 mp1 mp2 mp3 mp4 mp5 mp6
     replace row:=hst.row
     replace hB:=hst.below hB hgB hsz
     clear hst
     rw [show max (j+1) (j+1)=j+1 by omega] at row
     replace row:=row.again
     refine bkq hK (HS.out _ hB) (h:=fun hHeld=>?_)
     clear hK K
     refine wpAnyH_done (by kernel_rfl) ?_ _
     clear hHeld
     clear y0 y1 y2 z0 z1 z2 hsz HS hrs
     have HBB:=HRK
     clear HRK
     replace row:=row.whole (show q2=S j by rw [HSE.out]; exact sumP_both h1 h2 HQ0.out HQ1.out HQ2.out HA.out HBB.out)
     clear HQ0 HSZq0 HSZq1 HQ1 HA HBB HQ2 HSZq2
     go_wp2
     go_roundg (gk - 1)
     case measure=>omega
     case rel=>exact ⟨j+1,by go_num,by omega,by omega,row,hB⟩
    ·have hx:(j:Int)<(m:Int):=by omega
     have hy:¬ (j:Int)<(m':Int):=by omega
     go_upto_region 7 with fail
     obtain ⟨bb,off,s5,A5,n5,c5,A6,n6,c6,rfl,hb,t0,t1,t2,hraw⟩:=h j (by omega)
     replace hraw:=hraw.on hB
     obtain ⟨rk,hrk⟩:∃ r,r=a j:=⟨_,rfl⟩
     rw [<-hrk] at hraw
     have HRK:=hid hrk
     have hrs:rsz rk N:=by rw [hrk]; exact hra.out j (by omega)
     clear hrk
     have HS:Hid (∀ w':World,Below w.heap.size w w'->w'.cell? ⟨bb,off+j*3,none⟩=some (.bool (s5))/\w'.cell? ⟨bb,off+j*3+1,none⟩=some (.slice (A5) (n5) (c5))/\w'.cell? ⟨bb,off+j*3+2,none⟩=some (.slice (A6) (n6) (c6))):=fun w' kb=>⟨cellS kb t0,cellS kb t1,cellS kb t2⟩
     refine wp_region_held_drew (S:=fun w'=>w'.cell? ⟨bb,off+j*3,none⟩=some (.bool (s5))/\w'.cell? ⟨bb,off+j*3+1,none⟩=some (.slice (A5) (n5) (c5))/\w'.cell? ⟨bb,off+j*3+2,none⟩=some (.slice (A6) (n6) (c6))) (by kernel_rfl) (HS.out _ hB.drew) (fun hHeld=>?_)
     clear t0 t1 t2 hb
     obtain ⟨w3,hw⟩:∃ W,W=World.drew w2:=⟨_,rfl⟩
     have kb:Below w2.heap.size w2 w3:=by rw [hw]; exact (Below.refl _ _).drew
     rw [<-hw] at hHeld ⊢
     clear hw
     replace row:=row.on kb
     replace hB:=onS hB kb
     replace hraw:=hraw.on kb
     clear kb
     refine tkq 0 (h:=tkq 1 (h:=tkq 2 (h:=tkq 3 (h:=tkq 4 (h:=tkq 6 (h:=tkq 7 (h:=tkq 8 (h:=tkq 9 (h:=?_)))))))))
     obtain ⟨Ao,co,Bo,do_,g0,g1,g2,mo1,mo2,mo3,mo4,mo5,mo6⟩:=row.last (by omega)
     refine rdq 5 (h:=fun K hK=>?_)
     go_simp
     clear g0 g1 g2
     refine bkq hK (HS.out _ hB) (h:=fun hHeld=>?_)
     clear hK K
     refine rdq 10 (h:=fun K hK=>?_)
     go_simp
     obtain ⟨w4,hw⟩:∃ W,W=World.alloc w3 (.cells #[.bool (rneg (q0)),.slice (Ao) (dl (q0).num.natAbs) (co),.slice (Bo) (dl (q0).den) (do_),.bool (s5),.slice (A5) (n5) (c5),.slice (A6) (n6) (c6)] 31):=⟨_,rfl⟩
     have kb:Below w3.heap.size w3 w4:=by rw [hw]; exact below_one _ _
     have tb:RatTab w4 w4.heap.size (some ⟨w3.heap.size,0,none⟩) 2 (pairR (q0) (rk)) NN:=RatTab.letter hw (ratTab_pair 31 (RatOk.raw ⟨Ao,co,Bo,do_,rfl,mo1,mo2,mo3,mo4,mo5,mo6⟩ (rsz.mono HSZq0 (by omega))) hraw)
     rw [<-hw]
     clear hw
     replace row:=row.on kb
     replace hB:=onS hB kb
     replace hraw:=hraw.on kb
     replace mo1:=mo1.on kb
     replace mo2:=mo2.on kb
     clear kb
     obtain ⟨gq,hg⟩:∃ g,g=w3.heap.size:=⟨_,rfl⟩
     rw [<-hg] at tb ⊢
     clear hg
     refine bkq hK (HS.out _ hB) (h:=fun hHeld=>?_)
     clear hK K
     refine rdq 11 (h:=fun K hK=>?_)
     go_simp
     go_wp2_with fail
     refine (ratAdd_tab tb (by omega) (by omega) (rsz.mono HSZq0 (by omega)) (rsz.mono hrs (by omega)) (rsz.mono (rsz_add HSZq0 hrs) (by omega))).mono ?_
     rintro e w5 ⟨Ap,cp,Bp,dp,rfl,mp1,mp2,mp3,mp4,mp5,mp6,kb⟩
     replace row:=row.on kb
     replace hB:=onS hB kb
     replace hraw:=hraw.on kb
     replace mo1:=mo1.on kb
     replace mo2:=mo2.on kb
     replace tb:=tb.on kb
     clear kb
     clear tb
     obtain ⟨q1,hq⟩:∃ z,z=q0+rk:=⟨_,rfl⟩
     rw [<-hq] at mp1 mp2 mp3 mp5 ⊢
     have HQ1:=hid hq
     have HSZq1:rsz q1 (1+N+1):=by rw [hq]; exact rsz_add HSZq0 hrs
     clear hq
     clear hraw mo1 mo2 mo3 mo4 mo5 mo6
     refine bkq hK (HS.out _ hB) (h:=fun hHeld=>?_)
     clear hK K
     refine tkq 12 (h:=?_)
     obtain ⟨o0,o1,o2,y0,y1,y2⟩:=row.old (j) (by omega)
     have z0:=row.froz (j*3)
     have z1:=row.froz (j*3+1)
     have z2:=row.froz (j*3+2)
     have hsz:=hB.size
     refine rdq 13 (h:=fun K hK=>?_)
     go_simp
     generalize hw3:World.setCell _ _ _=w6
     have hst:RowPut w5 g M (j+1) (j) (updR S j q0) q1 w6:=by rw [<-hw3]; exact rowPut row (by omega) (by omega) mp1 mp2 mp3 mp4 mp5 mp6
     clear hw3 mp1 mp2 mp3 mp4 mp5 mp6
     replace row:=hst.row
     replace hB:=hst.below hB hgB hsz
     clear hst
     rw [show max (j+1) (j+1)=j+1 by omega] at row
     replace row:=row.again
     refine bkq hK (HS.out _ hB) (h:=fun hHeld=>?_)
     clear hK K
     refine wpAnyH_done (by kernel_rfl) ?_ _
     clear hHeld
     clear y0 y1 y2 z0 z1 z2 hsz HS hrs
     have HA:=HRK
     clear HRK
     replace row:=row.whole (show q1=S j by rw [HSE.out]; exact sumP_left h1 h2 HQ0.out HQ1.out HA.out)
     clear HQ0 HSZq0 HSZq1 HQ1 HA
     go_wp2
     go_roundg (gk - 1)
     case measure=>omega
     case rel=>exact ⟨j+1,by go_num,by omega,by omega,row,hB⟩
   ·have h2:j<m':=by have:=HM.out; omega
    have hx:¬ (j:Int)<(m:Int):=by omega
    have hy:(j:Int)<(m':Int):=by omega
    go_upto_region 9 with fail
    obtain ⟨bb,off,s5,A5,n5,c5,A6,n6,c6,rfl,hb,t0,t1,t2,hraw⟩:=h' j (by omega)
    replace hraw:=hraw.on hB
    obtain ⟨rk,hrk⟩:∃ r,r=b j:=⟨_,rfl⟩
    rw [<-hrk] at hraw
    have HRK:=hid hrk
    have hrs:rsz rk N:=by rw [hrk]; exact hrb.out j (by omega)
    clear hrk
    have HS:Hid (∀ w':World,Below w.heap.size w w'->w'.cell? ⟨bb,off+j*3,none⟩=some (.bool (s5))/\w'.cell? ⟨bb,off+j*3+1,none⟩=some (.slice (A5) (n5) (c5))/\w'.cell? ⟨bb,off+j*3+2,none⟩=some (.slice (A6) (n6) (c6))):=fun w' kb=>⟨cellS kb t0,cellS kb t1,cellS kb t2⟩
    refine wp_region_held_drew (S:=fun w'=>w'.cell? ⟨bb,off+j*3,none⟩=some (.bool (s5))/\w'.cell? ⟨bb,off+j*3+1,none⟩=some (.slice (A5) (n5) (c5))/\w'.cell? ⟨bb,off+j*3+2,none⟩=some (.slice (A6) (n6) (c6))) (by kernel_rfl) (HS.out _ hB.drew) (fun hHeld=>?_)
    clear t0 t1 t2 hb
    obtain ⟨w3,hw⟩:∃ W,W=World.drew w2:=⟨_,rfl⟩
    have kb:Below w2.heap.size w2 w3:=by rw [hw]; exact (Below.refl _ _).drew
    rw [<-hw] at hHeld ⊢
    clear hw
    replace row:=row.on kb
    replace hB:=onS hB kb
    replace hraw:=hraw.on kb
    clear kb
    refine tkq 0 (h:=tkq 1 (h:=tkq 2 (h:=tkq 3 (h:=tkq 4 (h:=tkq 6 (h:=tkq 7 (h:=tkq 8 (h:=tkq 9 (h:=?_)))))))))
    obtain ⟨Ao,co,Bo,do_,g0,g1,g2,mo1,mo2,mo3,mo4,mo5,mo6⟩:=row.last (by omega)
    refine rdq 5 (h:=fun K hK=>?_)
    go_simp
    clear g0 g1 g2
    refine bkq hK (HS.out _ hB) (h:=fun hHeld=>?_)
    clear hK K
    refine rdq 10 (h:=fun K hK=>?_)
    go_simp
    obtain ⟨w4,hw⟩:∃ W,W=World.alloc w3 (.cells #[.bool (rneg (q0)),.slice (Ao) (dl (q0).num.natAbs) (co),.slice (Bo) (dl (q0).den) (do_),.bool (s5),.slice (A5) (n5) (c5),.slice (A6) (n6) (c6)] 31):=⟨_,rfl⟩
    have kb:Below w3.heap.size w3 w4:=by rw [hw]; exact below_one _ _
    have tb:RatTab w4 w4.heap.size (some ⟨w3.heap.size,0,none⟩) 2 (pairR (q0) (rk)) NN:=RatTab.letter hw (ratTab_pair 31 (RatOk.raw ⟨Ao,co,Bo,do_,rfl,mo1,mo2,mo3,mo4,mo5,mo6⟩ (rsz.mono HSZq0 (by omega))) hraw)
    rw [<-hw]
    clear hw
    replace row:=row.on kb
    replace hB:=onS hB kb
    replace hraw:=hraw.on kb
    replace mo1:=mo1.on kb
    replace mo2:=mo2.on kb
    clear kb
    obtain ⟨gq,hg⟩:∃ g,g=w3.heap.size:=⟨_,rfl⟩
    rw [<-hg] at tb ⊢
    clear hg
    refine bkq hK (HS.out _ hB) (h:=fun hHeld=>?_)
    clear hK K
    refine rdq 11 (h:=fun K hK=>?_)
    go_simp
    go_wp2_with fail
    refine (ratAdd_tab tb (by omega) (by omega) (rsz.mono HSZq0 (by omega)) (rsz.mono hrs (by omega)) (rsz.mono (rsz_add HSZq0 hrs) (by omega))).mono ?_
    rintro e w5 ⟨Ap,cp,Bp,dp,rfl,mp1,mp2,mp3,mp4,mp5,mp6,kb⟩
    replace row:=row.on kb
    replace hB:=onS hB kb
    replace hraw:=hraw.on kb
    replace mo1:=mo1.on kb
    replace mo2:=mo2.on kb
    replace tb:=tb.on kb
    clear kb
    clear tb
    obtain ⟨q1,hq⟩:∃ z,z=q0+rk:=⟨_,rfl⟩
    rw [<-hq] at mp1 mp2 mp3 mp5 ⊢
    have HQ1:=hid hq
    have HSZq1:rsz q1 (1+N+1):=by rw [hq]; exact rsz_add HSZq0 hrs
    clear hq
    clear hraw mo1 mo2 mo3 mo4 mo5 mo6
    refine bkq hK (HS.out _ hB) (h:=fun hHeld=>?_)
    clear hK K
    refine tkq 12 (h:=?_)
    obtain ⟨o0,o1,o2,y0,y1,y2⟩:=row.old (j) (by omega)
    have z0:=row.froz (j*3)
    have z1:=row.froz (j*3+1)
    have z2:=row.froz (j*3+2)
    have hsz:=hB.size
    refine rdq 13 (h:=fun K hK=>?_)
    go_simp
    generalize hw3:World.setCell _ _ _=w6
    have hst:RowPut w5 g M (j+1) (j) (updR S j q0) q1 w6:=by rw [<-hw3]; exact rowPut row (by omega) (by omega) mp1 mp2 mp3 mp4 mp5 mp6
    clear hw3 mp1 mp2 mp3 mp4 mp5 mp6
    replace row:=hst.row
    replace hB:=hst.below hB hgB hsz
    clear hst
    rw [show max (j+1) (j+1)=j+1 by omega] at row
    replace row:=row.again
    refine bkq hK (HS.out _ hB) (h:=fun hHeld=>?_)
    clear hK K
    refine wpAnyH_done (by kernel_rfl) ?_ _
    clear hHeld
    clear y0 y1 y2 z0 z1 z2 hsz HS hrs
    have HBB:=HRK
    clear HRK
    replace row:=row.whole (show q1=S j by rw [HSE.out]; exact sumP_right h1 h2 HQ0.out HQ1.out HBB.out)
    clear HQ0 HSZq0 HSZq1 HQ1 HBB
    go_wp2
    go_roundg (gk - 1)
    case measure=>omega
    case rel=>exact ⟨j+1,by go_num,by omega,by omega,row,hB⟩
  ·obtain rfl:j=M:=by omega
   have hlt':¬ (j:Int)<(j:Int):=by omega
   have hl:=row.list.tab hS.out
   go_wp2_with fail
   refine (chCanon_any (some ⟨g,0,none⟩) j j (N+N+1) S _ hl (by omega) (by omega)).mono ?_
   rintro e w2 ⟨Ar,cr,rfl,e1,e2,e3,kb⟩
   replace hB:=onS hB kb
   clear kb hl row
   obtain ⟨cl,hcl⟩:∃ cl,cl=clen S j:=⟨_,rfl⟩
   rw [<-hcl] at e1 e3 ⊢
   have HCL:=hid hcl
   clear hcl
   go_wp2
   go_ret
   rw [<-HCL.out]
   exact ⟨_,_,rfl,e1,e2,e3,hB⟩
theorem refPAdd_any (T T':Option Addr) (m c m' c' N:Nat) (a b:Nat->Rat) (w:World) (h:RatTab w w.heap.size T m a N) (h':RatTab w w.heap.size T' m' b N) (hm:m<=524288) (hm':m'<=524288) (hN:N<=8388608) (hra:Hid (∀ k,k<m->rsz (a k) N)) (hrb:Hid (∀ k,k<m'->rsz (b k) N)) :
  Calls Tryz.prog 33 #[.slice T m c,.slice T' m' c'] w (PolyPost (clen (sumP a m b m') (max m m')) (sumP a m b m') w):=by
 obtain ⟨NN,hNN⟩:∃ n,n=N+N+4:=⟨_,rfl⟩
 have hn1:NN<=N+N+4:=by omega
 have hn2:N+N+4<=NN:=by omega
 clear hNN
 replace h:=h.mono (show N<=NN by omega)
 replace h':=h'.mono (show N<=NN by omega)
 have hS:Hid (∀ j,j<max m m'->rsz (sumP a m b m' j) (N+N+1)):=fun j hj=>rsz_sumP hra.out hrb.out (by rcases (by omega:j<m∨j<m') with e | e; exact rsz_pos (hra.out j e); exact rsz_pos (hrb.out j e))
 obtain ⟨S,hSe⟩:∃ S,S=sumP a m b m':=⟨_,rfl⟩
 rw [<-hSe] at hS ⊢
 have HSE:=hid hSe
 clear hSe
 have hmx:max (m:Int) (m':Int)=((max m m':Nat):Int):=by omega
 obtain ⟨M,hM⟩:∃ M,M=max m m':=⟨_,rfl⟩
 rw [<-hM] at hmx hS ⊢
 have hmx2:max m m'=M:=hM.symm
 have hMle:M<=1048576:=by omega
 have HM:=hid hM
 clear hM
 have hmk:=fun W=>run_makeRat M hMle W
 have kb1:=below_one w (.cells (madeCells #[.bool false,.slice none 0 0,.slice none 0 0] (M*3)) 31)
 have row:=rowOk_made w M S
 have hB:=kb1
 clear kb1
 go_enter Tryz.func33, Tryz.ntmps33
 go_wp2
 obtain ⟨w1,hw1⟩:∃ W,W=w.alloc (.cells (madeCells #[.bool false,.slice none 0 0,.slice none 0 0] (M*3)) 31):=⟨_,rfl⟩
 obtain ⟨g,hg⟩:∃ g,g=w.heap.size:=⟨_,rfl⟩
 rw [<-hw1,<-hg]
 rw [<-hw1] at hB row
 rw [<-hg] at row
 have hgB:w.heap.size<=g:=by omega
 clear hw1 hg hmk hmx hmx2
 go_loopg [6] M (fun gg iv wx=>∃ j:Nat,iv=.int .i64 (j:Nat)/\j<=M/\M<=j+gg/\RowOk wx g M j S/\Below w.heap.size w wx)
 case atStart=>exact ⟨0,rfl,by omega,by omega,row,hB⟩
 case round =>
  clear row hB
  obtain ⟨j,rfl,hj,hjg,row,hB⟩:=hrel
  have hj0:(0:Int)<=(j:Int):=by omega
  by_cases hlt:j<M
  ·have hlt':(j:Int)<(M:Int):=by omega
   obtain ⟨w0,hw0⟩:∃ W,W=wr:=⟨_,rfl⟩
   rw [<-hw0] at row hB ⊢
   clear hw0
   go_wp2_with fail
   refine (refInt_any 0 _ (by omega) (by omega)).mono ?_
   rintro e w1 ⟨Ap,cp,Bp,dp,rfl,mp1,mp2,mp3,mp4,mp5,mp6,kb⟩
   replace row:=row.on kb
   replace hB:=onS hB kb
   clear kb
   obtain ⟨q0,hq0⟩:∃ q:Rat,q=((0:Int):Rat):=⟨_,rfl⟩
   rw [<-hq0] at mp1 mp2 mp3 mp5 ⊢
   replace hq0:q0=0:=hq0.trans (by rfl)
   have HQ0:=hid hq0
   have HSZq0:rsz q0 1:=by rw [hq0]; exact rsz_zero
   clear hq0
   obtain ⟨o0,o1,o2,y0,y1,y2⟩:=row.old (j) (by omega)
   have z0:=row.froz (j*3)
   have z1:=row.froz (j*3+1)
   have z2:=row.froz (j*3+2)
   have hsz:=hB.size
   go_upto_region 6 with fail
   generalize hw3:World.setCell _ _ _=w2
   have hst:RowPut w1 g M (j) (j) (S) q0 w2:=by rw [<-hw3]; exact rowPut row (by omega) (by omega) mp1 mp2 mp3 mp4 mp5 mp6
   clear hw3 mp1 mp2 mp3 mp4 mp5 mp6
   replace row:=hst.row
   replace hB:=hst.below hB hgB hsz
   clear hst
   rw [show max j (j+1)=j+1 by omega] at row
   clear y0 y1 y2 z0 z1 z2 hsz
   by_cases h1:j<m
   ·by_cases h2:j<m'
    ·have hx:(j:Int)<(m:Int):=by omega
     have hy:(j:Int)<(m':Int):=by omega
     go_upto_region 7 with fail
     obtain ⟨bb,off,s5,A5,n5,c5,A6,n6,c6,rfl,hb,t0,t1,t2,hraw⟩:=h j (by omega)
     replace hraw:=hraw.on hB
     obtain ⟨rk,hrk⟩:∃ r,r=a j:=⟨_,rfl⟩
     rw [<-hrk] at hraw
     have HRK:=hid hrk
     have hrs:rsz rk N:=by rw [hrk]; exact hra.out j (by omega)
     clear hrk
     have HS:Hid (∀ w':World,Below w.heap.size w w'->w'.cell? ⟨bb,off+j*3,none⟩=some (.bool (s5))/\w'.cell? ⟨bb,off+j*3+1,none⟩=some (.slice (A5) (n5) (c5))/\w'.cell? ⟨bb,off+j*3+2,none⟩=some (.slice (A6) (n6) (c6))):=fun w' kb=>⟨cellS kb t0,cellS kb t1,cellS kb t2⟩
     refine wp_region_held_drew (S:=fun w'=>w'.cell? ⟨bb,off+j*3,none⟩=some (.bool (s5))/\w'.cell? ⟨bb,off+j*3+1,none⟩=some (.slice (A5) (n5) (c5))/\w'.cell? ⟨bb,off+j*3+2,none⟩=some (.slice (A6) (n6) (c6))) (by kernel_rfl) (HS.out _ hB.drew) (fun hHeld=>?_)
     clear t0 t1 t2 hb
     obtain ⟨w3,hw⟩:∃ W,W=World.drew w2:=⟨_,rfl⟩
     have kb:Below w2.heap.size w2 w3:=by rw [hw]; exact (Below.refl _ _).drew
     rw [<-hw] at hHeld ⊢
     clear hw
     replace row:=row.on kb
     replace hB:=onS hB kb
     replace hraw:=hraw.on kb
     clear kb
     refine tkq 0 (h:=tkq 1 (h:=tkq 2 (h:=tkq 3 (h:=tkq 4 (h:=tkq 6 (h:=tkq 7 (h:=tkq 8 (h:=tkq 9 (h:=?_)))))))))
     obtain ⟨Ao,co,Bo,do_,g0,g1,g2,mo1,mo2,mo3,mo4,mo5,mo6⟩:=row.last (by omega)
     refine rdq 5 (h:=fun K hK=>?_)
     go_simp
     clear g0 g1 g2
     refine bkq hK (HS.out _ hB) (h:=fun hHeld=>?_)
     clear hK K
     refine rdq 10 (h:=fun K hK=>?_)
     go_simp
     go_wp2_with fail
     refine (refAdd02_any _ _ q0 rk NN _ (RatOk.raw ⟨Ao,co,Bo,do_,rfl,mo1,mo2,mo3,mo4,mo5,mo6⟩ (rsz.mono HSZq0 (by omega))) hraw (by omega) (rsz.mono HSZq0 (by omega)) (rsz.mono hrs (by omega))).mono ?_
     rintro e w4 ⟨Ap,cp,Bp,dp,rfl,mp1,mp2,mp3,mp4,mp5,mp6,kb⟩
     replace row:=row.on kb
     replace hB:=onS hB kb
     replace hraw:=hraw.on kb
     replace mo1:=mo1.on kb
     replace mo2:=mo2.on kb
     clear kb
     obtain ⟨q1,hq⟩:∃ z,z=q0+rk:=⟨_,rfl⟩
     rw [<-hq] at mp1 mp2 mp3 mp5 ⊢
     have HQ1:=hid hq
     have HSZq1:rsz q1 (1+N+1):=by rw [hq]; exact rsz_add HSZq0 hrs
     clear hq
     clear hraw mo1 mo2 mo3 mo4 mo5 mo6
     refine bkq hK (HS.out _ hB) (h:=fun hHeld=>?_)
     clear hK K
     refine tkq 11 (h:=?_)
     obtain ⟨o0,o1,o2,y0,y1,y2⟩:=row.old (j) (by omega)
     have z0:=row.froz (j*3)
     have z1:=row.froz (j*3+1)
     have z2:=row.froz (j*3+2)
     have hsz:=hB.size
     refine rdq 12 (h:=fun K hK=>?_)
     go_simp
     generalize hw3:World.setCell _ _ _=w5
     have hst:RowPut w4 g M (j+1) (j) (updR S j q0) q1 w5:=by rw [<-hw3]; exact rowPut row (by omega) (by omega) mp1 mp2 mp3 mp4 mp5 mp6
     clear hw3 mp1 mp2 mp3 mp4 mp5 mp6
     replace row:=hst.row
     replace hB:=hst.below hB hgB hsz
     clear hst
     rw [show max (j+1) (j+1)=j+1 by omega] at row
     replace row:=row.again
     refine bkq hK (HS.out _ hB) (h:=fun hHeld=>?_)
     clear hK K
     refine wpAnyH_done (by kernel_rfl) ?_ _
     clear hHeld
     clear y0 y1 y2 z0 z1 z2 hsz HS hrs
     have HA:=HRK
     clear HRK
     go_upto_region 9 with fail
     obtain ⟨bb,off,s5,A5,n5,c5,A6,n6,c6,rfl,hb,t0,t1,t2,hraw⟩:=h' j (by omega)
     replace hraw:=hraw.on hB
     obtain ⟨rk,hrk⟩:∃ r,r=b j:=⟨_,rfl⟩
     rw [<-hrk] at hraw
     have HRK:=hid hrk
     have hrs:rsz rk N:=by rw [hrk]; exact hrb.out j (by omega)
     clear hrk
     have HS:Hid (∀ w':World,Below w.heap.size w w'->w'.cell? ⟨bb,off+j*3,none⟩=some (.bool (s5))/\w'.cell? ⟨bb,off+j*3+1,none⟩=some (.slice (A5) (n5) (c5))/\w'.cell? ⟨bb,off+j*3+2,none⟩=some (.slice (A6) (n6) (c6))):=fun w' kb=>⟨cellS kb t0,cellS kb t1,cellS kb t2⟩
     refine wp_region_held_drew (S:=fun w'=>w'.cell? ⟨bb,off+j*3,none⟩=some (.bool (s5))/\w'.cell? ⟨bb,off+j*3+1,none⟩=some (.slice (A5) (n5) (c5))/\w'.cell? ⟨bb,off+j*3+2,none⟩=some (.slice (A6) (n6) (c6))) (by kernel_rfl) (HS.out _ hB.drew) (fun hHeld=>?_)
     clear t0 t1 t2 hb
     obtain ⟨w6,hw⟩:∃ W,W=World.drew w5:=⟨_,rfl⟩
     have kb:Below w5.heap.size w5 w6:=by rw [hw]; exact (Below.refl _ _).drew
     rw [<-hw] at hHeld ⊢
     clear hw
     replace row:=row.on kb
     replace hB:=onS hB kb
     replace hraw:=hraw.on kb
     clear kb
     refine tkq 0 (h:=tkq 1 (h:=tkq 2 (h:=tkq 3 (h:=tkq 4 (h:=tkq 6 (h:=tkq 7 (h:=tkq 8 (h:=tkq 9 (h:=?_)))))))))
     obtain ⟨Ao,co,Bo,do_,g0,g1,g2,mo1,mo2,mo3,mo4,mo5,mo6⟩:=row.last (by omega)
     refine rdq 5 (h:=fun K hK=>?_)
     go_simp
     clear g0 g1 g2
     refine bkq hK (HS.out _ hB) (h:=fun hHeld=>?_)
     clear hK K
     refine rdq 10 (h:=fun K hK=>?_)
     go_simp
     go_wp2_with fail
     refine (refAdd02_any _ _ q1 rk NN _ (RatOk.raw ⟨Ao,co,Bo,do_,rfl,mo1,mo2,mo3,mo4,mo5,mo6⟩ (rsz.mono HSZq1 (by omega))) hraw (by omega) (rsz.mono HSZq1 (by omega)) (rsz.mono hrs (by omega))).mono ?_
     rintro e w7 ⟨Ap,cp,Bp,dp,rfl,mp1,mp2,mp3,mp4,mp5,mp6,kb⟩
     replace row:=row.on kb
     replace hB:=onS hB kb
     replace hraw:=hraw.on kb
     replace mo1:=mo1.on kb
     replace mo2:=mo2.on kb
     clear kb
     obtain ⟨q2,hq⟩:∃ z,z=q1+rk:=⟨_,rfl⟩
     rw [<-hq] at mp1 mp2 mp3 mp5 ⊢
     have HQ2:=hid hq
     have HSZq2:rsz q2 (1+N+1+N+1):=by rw [hq]; exact rsz_add HSZq1 hrs
     clear hq
     clear hraw mo1 mo2 mo3 mo4 mo5 mo6
     refine bkq hK (HS.out _ hB) (h:=fun hHeld=>?_)
     clear hK K
     refine tkq 11 (h:=?_)
     obtain ⟨o0,o1,o2,y0,y1,y2⟩:=row.old (j) (by omega)
     have z0:=row.froz (j*3)
     have z1:=row.froz (j*3+1)
     have z2:=row.froz (j*3+2)
     have hsz:=hB.size
     refine rdq 12 (h:=fun K hK=>?_)
     go_simp
     generalize hw3:World.setCell _ _ _=w8
     have hst:RowPut w7 g M (j+1) (j) (updR S j q1) q2 w8:=by rw [<-hw3]; exact rowPut row (by omega) (by omega) mp1 mp2 mp3 mp4 mp5 mp6
     clear hw3 mp1 mp2 mp3 mp4 mp5 mp6
     replace row:=hst.row
     replace hB:=hst.below hB hgB hsz
     clear hst
     rw [show max (j+1) (j+1)=j+1 by omega] at row
     replace row:=row.again
     refine bkq hK (HS.out _ hB) (h:=fun hHeld=>?_)
     clear hK K
     refine wpAnyH_done (by kernel_rfl) ?_ _
     clear hHeld
     clear y0 y1 y2 z0 z1 z2 hsz HS hrs
     have HBB:=HRK
     clear HRK
     replace row:=row.whole (show q2=S j by rw [HSE.out]; exact sumP_both h1 h2 HQ0.out HQ1.out HQ2.out HA.out HBB.out)
     clear HQ0 HSZq0 HSZq1 HQ1 HA HBB HQ2 HSZq2
     go_wp2
     go_roundg (gk - 1)
     case measure=>omega
     case rel=>exact ⟨j+1,by go_num,by omega,by omega,row,hB⟩
    ·have hx:(j:Int)<(m:Int):=by omega
     have hy:¬ (j:Int)<(m':Int):=by omega
     go_upto_region 7 with fail
     obtain ⟨bb,off,s5,A5,n5,c5,A6,n6,c6,rfl,hb,t0,t1,t2,hraw⟩:=h j (by omega)
     replace hraw:=hraw.on hB
     obtain ⟨rk,hrk⟩:∃ r,r=a j:=⟨_,rfl⟩
     rw [<-hrk] at hraw
     have HRK:=hid hrk
     have hrs:rsz rk N:=by rw [hrk]; exact hra.out j (by omega)
     clear hrk
     have HS:Hid (∀ w':World,Below w.heap.size w w'->w'.cell? ⟨bb,off+j*3,none⟩=some (.bool (s5))/\w'.cell? ⟨bb,off+j*3+1,none⟩=some (.slice (A5) (n5) (c5))/\w'.cell? ⟨bb,off+j*3+2,none⟩=some (.slice (A6) (n6) (c6))):=fun w' kb=>⟨cellS kb t0,cellS kb t1,cellS kb t2⟩
     refine wp_region_held_drew (S:=fun w'=>w'.cell? ⟨bb,off+j*3,none⟩=some (.bool (s5))/\w'.cell? ⟨bb,off+j*3+1,none⟩=some (.slice (A5) (n5) (c5))/\w'.cell? ⟨bb,off+j*3+2,none⟩=some (.slice (A6) (n6) (c6))) (by kernel_rfl) (HS.out _ hB.drew) (fun hHeld=>?_)
     clear t0 t1 t2 hb
     obtain ⟨w3,hw⟩:∃ W,W=World.drew w2:=⟨_,rfl⟩
     have kb:Below w2.heap.size w2 w3:=by rw [hw]; exact (Below.refl _ _).drew
     rw [<-hw] at hHeld ⊢
     clear hw
     replace row:=row.on kb
     replace hB:=onS hB kb
     replace hraw:=hraw.on kb
     clear kb
     refine tkq 0 (h:=tkq 1 (h:=tkq 2 (h:=tkq 3 (h:=tkq 4 (h:=tkq 6 (h:=tkq 7 (h:=tkq 8 (h:=tkq 9 (h:=?_)))))))))
     obtain ⟨Ao,co,Bo,do_,g0,g1,g2,mo1,mo2,mo3,mo4,mo5,mo6⟩:=row.last (by omega)
     refine rdq 5 (h:=fun K hK=>?_)
     go_simp
     clear g0 g1 g2
     refine bkq hK (HS.out _ hB) (h:=fun hHeld=>?_)
     clear hK K
     refine rdq 10 (h:=fun K hK=>?_)
     go_simp
     go_wp2_with fail
     refine (refAdd02_any _ _ q0 rk NN _ (RatOk.raw ⟨Ao,co,Bo,do_,rfl,mo1,mo2,mo3,mo4,mo5,mo6⟩ (rsz.mono HSZq0 (by omega))) hraw (by omega) (rsz.mono HSZq0 (by omega)) (rsz.mono hrs (by omega))).mono ?_
     rintro e w4 ⟨Ap,cp,Bp,dp,rfl,mp1,mp2,mp3,mp4,mp5,mp6,kb⟩
     replace row:=row.on kb
     replace hB:=onS hB kb
     replace hraw:=hraw.on kb
     replace mo1:=mo1.on kb
     replace mo2:=mo2.on kb
     clear kb
     obtain ⟨q1,hq⟩:∃ z,z=q0+rk:=⟨_,rfl⟩
     rw [<-hq] at mp1 mp2 mp3 mp5 ⊢
     have HQ1:=hid hq
     have HSZq1:rsz q1 (1+N+1):=by rw [hq]; exact rsz_add HSZq0 hrs
     clear hq
     clear hraw mo1 mo2 mo3 mo4 mo5 mo6
     refine bkq hK (HS.out _ hB) (h:=fun hHeld=>?_)
     clear hK K
     refine tkq 11 (h:=?_)
     obtain ⟨o0,o1,o2,y0,y1,y2⟩:=row.old (j) (by omega)
     have z0:=row.froz (j*3)
     have z1:=row.froz (j*3+1)
     have z2:=row.froz (j*3+2)
     have hsz:=hB.size
     refine rdq 12 (h:=fun K hK=>?_)
     go_simp
     generalize hw3:World.setCell _ _ _=w5
     have hst:RowPut w4 g M (j+1) (j) (updR S j q0) q1 w5:=by rw [<-hw3]; exact rowPut row (by omega) (by omega) mp1 mp2 mp3 mp4 mp5 mp6
     clear hw3 mp1 mp2 mp3 mp4 mp5 mp6
     replace row:=hst.row
     replace hB:=hst.below hB hgB hsz
     clear hst
     rw [show max (j+1) (j+1)=j+1 by omega] at row
     replace row:=row.again
     refine bkq hK (HS.out _ hB) (h:=fun hHeld=>?_)
     clear hK K
     refine wpAnyH_done (by kernel_rfl) ?_ _
     clear hHeld
     clear y0 y1 y2 z0 z1 z2 hsz HS hrs
     have HA:=HRK
     clear HRK
     replace row:=row.whole (show q1=S j by rw [HSE.out]; exact sumP_left h1 h2 HQ0.out HQ1.out HA.out)
     clear HQ0 HSZq0 HSZq1 HQ1 HA
     go_wp2
     go_roundg (gk - 1)
     case measure=>omega
     case rel=>exact ⟨j+1,by go_num,by omega,by omega,row,hB⟩
   ·have h2:j<m':=by have:=HM.out; omega
    have hx:¬ (j:Int)<(m:Int):=by omega
    have hy:(j:Int)<(m':Int):=by omega
    go_upto_region 9 with fail
    obtain ⟨bb,off,s5,A5,n5,c5,A6,n6,c6,rfl,hb,t0,t1,t2,hraw⟩:=h' j (by omega)
    replace hraw:=hraw.on hB
    obtain ⟨rk,hrk⟩:∃ r,r=b j:=⟨_,rfl⟩
    rw [<-hrk] at hraw
    have HRK:=hid hrk
    have hrs:rsz rk N:=by rw [hrk]; exact hrb.out j (by omega)
    clear hrk
    have HS:Hid (∀ w':World,Below w.heap.size w w'->w'.cell? ⟨bb,off+j*3,none⟩=some (.bool (s5))/\w'.cell? ⟨bb,off+j*3+1,none⟩=some (.slice (A5) (n5) (c5))/\w'.cell? ⟨bb,off+j*3+2,none⟩=some (.slice (A6) (n6) (c6))):=fun w' kb=>⟨cellS kb t0,cellS kb t1,cellS kb t2⟩
    refine wp_region_held_drew (S:=fun w'=>w'.cell? ⟨bb,off+j*3,none⟩=some (.bool (s5))/\w'.cell? ⟨bb,off+j*3+1,none⟩=some (.slice (A5) (n5) (c5))/\w'.cell? ⟨bb,off+j*3+2,none⟩=some (.slice (A6) (n6) (c6))) (by kernel_rfl) (HS.out _ hB.drew) (fun hHeld=>?_)
    clear t0 t1 t2 hb
    obtain ⟨w3,hw⟩:∃ W,W=World.drew w2:=⟨_,rfl⟩
    have kb:Below w2.heap.size w2 w3:=by rw [hw]; exact (Below.refl _ _).drew
    rw [<-hw] at hHeld ⊢
    clear hw
    replace row:=row.on kb
    replace hB:=onS hB kb
    replace hraw:=hraw.on kb
    clear kb
    refine tkq 0 (h:=tkq 1 (h:=tkq 2 (h:=tkq 3 (h:=tkq 4 (h:=tkq 6 (h:=tkq 7 (h:=tkq 8 (h:=tkq 9 (h:=?_)))))))))
    obtain ⟨Ao,co,Bo,do_,g0,g1,g2,mo1,mo2,mo3,mo4,mo5,mo6⟩:=row.last (by omega)
    refine rdq 5 (h:=fun K hK=>?_)
    go_simp
    clear g0 g1 g2
    refine bkq hK (HS.out _ hB) (h:=fun hHeld=>?_)
    clear hK K
    refine rdq 10 (h:=fun K hK=>?_)
    go_simp
    go_wp2_with fail
    refine (refAdd02_any _ _ q0 rk NN _ (RatOk.raw ⟨Ao,co,Bo,do_,rfl,mo1,mo2,mo3,mo4,mo5,mo6⟩ (rsz.mono HSZq0 (by omega))) hraw (by omega) (rsz.mono HSZq0 (by omega)) (rsz.mono hrs (by omega))).mono ?_
    rintro e w4 ⟨Ap,cp,Bp,dp,rfl,mp1,mp2,mp3,mp4,mp5,mp6,kb⟩
    replace row:=row.on kb
    replace hB:=onS hB kb
    replace hraw:=hraw.on kb
    replace mo1:=mo1.on kb
    replace mo2:=mo2.on kb
    clear kb
    obtain ⟨q1,hq⟩:∃ z,z=q0+rk:=⟨_,rfl⟩
    rw [<-hq] at mp1 mp2 mp3 mp5 ⊢
    have HQ1:=hid hq
    have HSZq1:rsz q1 (1+N+1):=by rw [hq]; exact rsz_add HSZq0 hrs
    clear hq
    clear hraw mo1 mo2 mo3 mo4 mo5 mo6
    refine bkq hK (HS.out _ hB) (h:=fun hHeld=>?_)
    clear hK K
    refine tkq 11 (h:=?_)
    obtain ⟨o0,o1,o2,y0,y1,y2⟩:=row.old (j) (by omega)
    have z0:=row.froz (j*3)
    have z1:=row.froz (j*3+1)
    have z2:=row.froz (j*3+2)
    have hsz:=hB.size
    refine rdq 12 (h:=fun K hK=>?_)
    go_simp
    generalize hw3:World.setCell _ _ _=w5
    have hst:RowPut w4 g M (j+1) (j) (updR S j q0) q1 w5:=by rw [<-hw3]; exact rowPut row (by omega) (by omega) mp1 mp2 mp3 mp4 mp5 mp6
    clear hw3 mp1 mp2 mp3 mp4 mp5 mp6
    replace row:=hst.row
    replace hB:=hst.below hB hgB hsz
    clear hst
    rw [show max (j+1) (j+1)=j+1 by omega] at row
    replace row:=row.again
    refine bkq hK (HS.out _ hB) (h:=fun hHeld=>?_)
    clear hK K
    refine wpAnyH_done (by kernel_rfl) ?_ _
    clear hHeld
    clear y0 y1 y2 z0 z1 z2 hsz HS hrs
    have HBB:=HRK
    clear HRK
    replace row:=row.whole (show q1=S j by rw [HSE.out]; exact sumP_right h1 h2 HQ0.out HQ1.out HBB.out)
    clear HQ0 HSZq0 HSZq1 HQ1 HBB
    go_wp2
    go_roundg (gk - 1)
    case measure=>omega
    case rel=>exact ⟨j+1,by go_num,by omega,by omega,row,hB⟩
  ·obtain rfl:j=M:=by omega
   have hlt':¬ (j:Int)<(j:Int):=by omega
   have hl:=row.list.tab hS.out
   go_wp2_with fail
   refine (refCanon55_any (some ⟨g,0,none⟩) j j (N+N+1) S _ hl (by omega) (by omega)).mono ?_
   rintro e w2 ⟨Ar,cr,rfl,e1,e2,e3,kb⟩
   replace hB:=onS hB kb
   clear kb hl row
   obtain ⟨cl,hcl⟩:∃ cl,cl=clen S j:=⟨_,rfl⟩
   rw [<-hcl] at e1 e3 ⊢
   have HCL:=hid hcl
   clear hcl
   go_wp2
   go_ret
   rw [<-HCL.out]
   exact ⟨_,_,rfl,e1,e2,e3,hB⟩
end Go.Proofs.YtmgeblpnnaamnaaGreat