/- Merged texts of a claim: PolyA, PAddAll, PMulAll, RefEval, PolyC, WtsAll, PatAll, UndAll, DualPl, SeesCode, Gf1, Gf2, Gf3, Gf4, Gf5, GfObj, GfMul, GfDot, GfChk, GfNew, DTab, MAdd, MCl, MEach, MElim, MCan, MChk, MOpen, MCano, MKer, Spc, SpOpen, PCode, PDual, ExpN, Dot04, Word12, Syn12, Tab55, RefRight, Nats, Right, RightLaw, LeadMath, LeadPl, Leaders, Between55, LeadersLaw, RecFirst, RecRed, RecFrom, Recover, RefRec, RecLaw, PolyId, ConMath, ConDual, ConPl. -/
import Derived.Test.YtioagplajkoohaaGreatTF15
import Derived.Test.YtioagplajkoohaaGreatTC1
import Derived.Laws.CopyOwn
namespace Go.Proofs.YtioagplajkoohaaGreat
set_option maxRecDepth 100000
set_option maxHeartbeats 32000000
open Go.RowKit
theorem RatList.congr {w:World} {B m:Nat} {T:Option Addr} {rs rs':Nat->Rat} (h:RatList w B T m rs) (e:∀ i,i<m->rs i=rs' i):RatList w B T m rs':=fun i hi=>by
 rw [<-e i hi]; exact h i hi
theorem refCanon55_any (T:Option Addr) (m c N:Nat) (rs:Nat->Rat) (w:World) (h:RatTab w w.heap.size T m rs N) (hm:m<=1048576) (hN:N<=33554432) :
  Calls Tryz.prog 79 #[.slice T m c] w (PolyPost (clen rs m) rs w):=by
 have hcm:=zeM rs m
 obtain ⟨M,hM⟩:∃ M,M=clen rs m:=⟨_,rfl⟩
 rw [<-hM] at hcm ⊢
 have HM:=hid hM
 clear hM
 go_enter Tryz.func79, Tryz.ntmps79
 go_wp2
 go_loopg [3,4] m (fun gg nv iv wx=>∃ k:Nat,iv=.int .i64 (k:Nat)/\k<=m/\m<=k+gg/\nv=.int .i64 (clen rs k:Nat)/\Below w.heap.size w wx)
 case atStart=>exact ⟨0,rfl,by omega,by omega,rfl,Below.refl _ _⟩
 case round =>
  obtain ⟨k,rfl,hk,hkg,rfl,hB⟩:=hrel
  have hk0:(0:Int)<=(k:Int):=by omega
  have hcl:=zeM rs k
  by_cases hlt:k<m
  ·have hlt':(k:Int)<(m:Int):=by omega
   obtain ⟨b,off,s,A1,n1,c1,A2,n2,c2,rfl,hb,t0,t1,t2,hraw⟩:=h.on hB k hlt
   obtain ⟨r,hr⟩:∃ r,r=rs k:=⟨_,rfl⟩
   rw [<-hr] at hraw
   have HR:=hid hr
   clear hr
   obtain ⟨cl,hcle⟩:∃ cl,cl=clen rs k:=⟨_,rfl⟩
   rw [<-hcle]
   rw [<-hcle] at hcl
   have HCL:=hid hcle
   clear hcle
   go_wp2_with fail
   refine (zcK _ r N _ hraw (by omega)).mono ?_
   rintro e w1 ⟨rfl,kb1⟩
   replace hB:=onS hB kb1
   clear t0 t1 t2 kb1
   have hsg:=zjq (r:=r)
   have hnx:clen rs (k+1)=if r=0 then clen rs k else k+1:=by rw [HR.out]; rfl
   rw [<-HCL.out] at hnx
   by_cases hz:r=0
   ·have hsg2:((rsign r:Int) != 0)=false:=by rw [hsg]; simp [hz]
    rw [if_pos hz] at hnx
    have HNX:=hid hnx
    have hsg3:((rsign r:Int) == 0)=true:=by simpa using hsg2
    clear hsg hnx hz
    go_wp2
    go_roundg (gk - 1)
    case measure=>omega
    case rel=>exact ⟨k+1,by go_num,by omega,by omega,by rw [HNX.out],hB⟩
   ·have hsg2:((rsign r:Int) != 0)=true:=by rw [hsg]; simp [hz]
    rw [if_neg hz] at hnx
    have HNX:=hid hnx
    have hsg3:((rsign r:Int) == 0)=false:=by simpa using hsg2
    clear hsg hnx hz
    go_wp2
    go_roundg (gk - 1)
    case measure=>omega
    case rel=>exact ⟨k+1,by go_num,by omega,by omega,by rw [HNX.out]; go_num,hB⟩
  ·obtain rfl:k=m:=by omega
   have hlt':¬ (k:Int)<(k:Int):=by omega
   rw [<-HM.out]
   have hmk:=fun W=>zcL M (by omega) W
   have kb1:=zab wr (.cells (madeCells #[.bool false,.slice none 0 0,.slice none 0 0] (M*3)) 49)
   have row:=zdi wr M rs
   have hgB:=hB.size
   replace hB:=onS hB kb1
   have hsz:=kb1.size
   clear hcl hlt kb1
   go_wp2
   obtain ⟨w1,hw1⟩:∃ W,W=wr.alloc (.cells (madeCells #[.bool false,.slice none 0 0,.slice none 0 0] (M*3)) 49):=⟨_,rfl⟩
   obtain ⟨g,hg⟩:∃ g,g=wr.heap.size:=⟨_,rfl⟩
   rw [<-hw1,<-hg]
   rw [<-hw1] at hB row
   rw [<-hg] at row hgB
   clear hw1 hg hsz hmk
   go_loopg [6] M (fun gg iv wx=>∃ j:Nat,iv=.int .i64 (j:Nat)/\j<=M/\M<=j+gg/\RowOk wx g M j rs/\Below w.heap.size w wx)
   case atStart=>exact ⟨0,rfl,by omega,by omega,row,hB⟩
   case round =>
    clear row hB
    obtain ⟨j,rfl,hj,hjg,row,hB⟩:=hrel
    have hj0:(0:Int)<=(j:Int):=by omega
    by_cases hlt:j<M
    ·have hlt':(j:Int)<(M:Int):=by omega
     have hlt2:(j:Int)<(k:Int):=by omega
     obtain ⟨b,off,s,A1,n1,c1,A2,n2,c2,rfl,hb,t0,t1,t2,hraw⟩:=h.on hB j (by omega)
     obtain ⟨r,hr⟩:∃ r,r=rs j:=⟨_,rfl⟩
     rw [<-hr] at hraw
     have HR:=hid hr
     clear hr
     go_wp2_with fail
     refine (zbp _ r N _ hraw (by omega)).mono ?_
     rintro e w2 ⟨At,ct,Bt,dt,rfl,m1,m2,m3,m4,m5,m6,kb1⟩
     replace row:=row.on kb1
     replace hB:=onS hB kb1
     clear t0 t1 t2 kb1
     obtain ⟨o0,o1,o2,y0,y1,y2⟩:=row.old j hlt
     have z0:=row.froz (j*3)
     have z1:=row.froz (j*3+1)
     have z2:=row.froz (j*3+2)
     have hsz:=hB.size
     go_upto_region 10 with fail
     generalize hw3:World.setCell _ _ _=w3
     have hst:RowPut w2 g M j j rs r w3:=by rw [<-hw3]; exact rowPut row (Nat.le_refl _) hlt m1 m2 m3 m4 m5 m6
     have row3:=hst.row
     replace hB:=hst.below hB hgB hsz
     rw [show max j (j+1)=j+1 by omega] at row3
     have row4:RowOk w3 g M (j+1) rs:=row3.congr fun i hi=>by unfold updR; split; (· rename_i e; rw [e,HR.out]); rfl
     clear hst hw3 row row3 y0 y1 y2 z0 z1 z2 m1 m2 hsz
     go_wp2
     go_roundg (gk - 1)
     case measure=>omega
     case rel=>exact ⟨j+1,by go_num,by omega,by omega,row4,hB⟩
    ·obtain rfl:j=M:=by omega
     have hlt':¬ (j:Int)<(j:Int):=by omega
     have hl:=row.list
     go_wp2
     go_ret
     exact ⟨_,_,rfl,Nat.le_refl _,by unfold maxLen; omega,hl,hB⟩
theorem refPAdd_any (T T':Option Addr) (m c m' c' N:Nat) (a b:Nat->Rat) (w:World) (h:RatTab w w.heap.size T m a N) (h':RatTab w w.heap.size T' m' b N) (hm:m<=524288) (hm':m'<=524288) (hN:N<=8388608) (hra:Hid (∀ k,k<m->rsz (a k) N)) (hrb:Hid (∀ k,k<m'->rsz (b k) N)) :
  Calls Tryz.prog 25 #[.slice T m c,.slice T' m' c'] w (PolyPost (clen (sumP a m b m') (max m m')) (sumP a m b m') w):=by
 obtain ⟨NN,hNN⟩:∃ n,n=N+N+4:=⟨_,rfl⟩
 have hn1:NN<=N+N+4:=by omega
 have hn2:N+N+4<=NN:=by omega
 clear hNN
 replace h:=h.mono (show N<=NN by omega)
 replace h':=h'.mono (show N<=NN by omega)
 have hS:Hid (∀ j,j<max m m'->rsz (sumP a m b m' j) (N+N+1)):=fun j hj=>zjr hra.out hrb.out (by rcases (by omega:j<m∨j<m') with e | e; exact zeJ (hra.out j e); exact zeJ (hrb.out j e))
 obtain ⟨S,hSe⟩:∃ S,S=sumP a m b m':=⟨_,rfl⟩
 rw [<-hSe] at hS ⊢
 have HSE:=hid hSe
 clear hSe
 have hmx:max (m:Int) (m':Int)=((max m m':Nat):Int):=by omega
 obtain ⟨M,hM⟩:∃ M,M=max m m':=⟨_,rfl⟩
 rw [<-hM] at hmx hS ⊢
 have hmx2:max m m'=M:=hM.symm
 have hMle:M<=1048576:=by omega
 have HM:=hid hM
 clear hM
 have hmk:=fun W=>zcL M hMle W
 have kb1:=zab w (.cells (madeCells #[.bool false,.slice none 0 0,.slice none 0 0] (M*3)) 49)
 have row:=zdi w M S
 have hB:=kb1
 clear kb1
 go_enter Tryz.func25, Tryz.ntmps25
 go_wp2
 obtain ⟨w1,hw1⟩:∃ W,W=w.alloc (.cells (madeCells #[.bool false,.slice none 0 0,.slice none 0 0] (M*3)) 49):=⟨_,rfl⟩
 obtain ⟨g,hg⟩:∃ g,g=w.heap.size:=⟨_,rfl⟩
 rw [<-hw1,<-hg]
 rw [<-hw1] at hB row
 rw [<-hg] at row
 have hgB:w.heap.size<=g:=by omega
 clear hw1 hg hmk hmx hmx2
 go_loopg [6] M (fun gg iv wx=>∃ j:Nat,iv=.int .i64 (j:Nat)/\j<=M/\M<=j+gg/\RowOk wx g M j S/\Below w.heap.size w wx)
 case atStart=>exact ⟨0,rfl,by omega,by omega,row,hB⟩
 case round =>
  clear row hB
  obtain ⟨j,rfl,hj,hjg,row,hB⟩:=hrel
  have hj0:(0:Int)<=(j:Int):=by omega
  by_cases hlt:j<M
  ·have hlt':(j:Int)<(M:Int):=by omega
   obtain ⟨w0,hw0⟩:∃ W,W=wr:=⟨_,rfl⟩
   rw [<-hw0] at row hB ⊢
   clear hw0
   go_wp2_with fail
   refine (zbi 0 _ (by omega) (by omega)).mono ?_
   rintro e w1 ⟨Ap,cp,Bp,dp,rfl,mp1,mp2,mp3,mp4,mp5,mp6,kb⟩
   replace row:=row.on kb
   replace hB:=onS hB kb
   clear kb
   obtain ⟨q0,hq0⟩:∃ q:Rat,q=((0:Int):Rat):=⟨_,rfl⟩
   rw [<-hq0] at mp1 mp2 mp3 mp5 ⊢
   replace hq0:q0=0:=hq0.trans (by rfl)
   have HQ0:=hid hq0
   have HSZq0:rsz q0 1:=by rw [hq0]; exact zba
   clear hq0
   obtain ⟨o0,o1,o2,y0,y1,y2⟩:=row.old (j) (by omega)
   have z0:=row.froz (j*3)
   have z1:=row.froz (j*3+1)
   have z2:=row.froz (j*3+2)
   have hsz:=hB.size
   go_upto_region 6 with fail
   generalize hw3:World.setCell _ _ _=w2
   have hst:RowPut w1 g M (j) (j) (S) q0 w2:=by rw [<-hw3]; exact rowPut row (by omega) (by omega) mp1 mp2 mp3 mp4 mp5 mp6
   clear hw3 mp1 mp2 mp3 mp4 mp5 mp6
   replace row:=hst.row
   replace hB:=hst.below hB hgB hsz
   clear hst
   rw [show max j (j+1)=j+1 by omega] at row
   clear y0 y1 y2 z0 z1 z2 hsz
   by_cases h1:j<m
   ·by_cases h2:j<m'
    ·have hx:(j:Int)<(m:Int):=by omega
     have hy:(j:Int)<(m':Int):=by omega
     go_upto_region 7 with fail
     obtain ⟨bb,off,s5,A5,n5,c5,A6,n6,c6,rfl,hb,t0,t1,t2,hraw⟩:=h j (by omega)
     replace hraw:=hraw.on hB
     obtain ⟨rk,hrk⟩:∃ r,r=a j:=⟨_,rfl⟩
     rw [<-hrk] at hraw
     have HRK:=hid hrk
     have hrs:rsz rk N:=by rw [hrk]; exact hra.out j (by omega)
     clear hrk
     have HS:Hid (∀ w':World,Below w.heap.size w w'->w'.cell? ⟨bb,off+j*3,none⟩=some (.bool (s5))/\w'.cell? ⟨bb,off+j*3+1,none⟩=some (.slice (A5) (n5) (c5))/\w'.cell? ⟨bb,off+j*3+2,none⟩=some (.slice (A6) (n6) (c6))):=fun w' kb=>⟨cellS kb t0,cellS kb t1,cellS kb t2⟩
     refine wp_region_held_drew (S:=fun w'=>w'.cell? ⟨bb,off+j*3,none⟩=some (.bool (s5))/\w'.cell? ⟨bb,off+j*3+1,none⟩=some (.slice (A5) (n5) (c5))/\w'.cell? ⟨bb,off+j*3+2,none⟩=some (.slice (A6) (n6) (c6))) (by kernel_rfl) (HS.out _ hB.drew) (fun hHeld=>?_)
     clear t0 t1 t2 hb
     obtain ⟨w3,hw⟩:∃ W,W=World.drew w2:=⟨_,rfl⟩
     have kb:Below w2.heap.size w2 w3:=by rw [hw]; exact (Below.refl _ _).drew
     rw [<-hw] at hHeld ⊢
     clear hw
     replace row:=row.on kb
     replace hB:=onS hB kb
     replace hraw:=hraw.on kb
     clear kb
     refine tkq 0 (h:=tkq 1 (h:=tkq 2 (h:=tkq 3 (h:=tkq 4 (h:=tkq 6 (h:=tkq 7 (h:=tkq 8 (h:=tkq 9 (h:=?_)))))))))
     obtain ⟨Ao,co,Bo,do_,g0,g1,g2,mo1,mo2,mo3,mo4,mo5,mo6⟩:=row.last (by omega)
     refine rdq 5 (h:=fun K hK=>?_)
     go_simp
     clear g0 g1 g2
     refine bkq hK (HS.out _ hB) (h:=fun hHeld=>?_)
     clear hK K
     refine rdq 10 (h:=fun K hK=>?_)
     go_simp
     go_wp2_with fail
     refine (zfd _ _ q0 rk NN _ (RatOk.raw ⟨Ao,co,Bo,do_,rfl,mo1,mo2,mo3,mo4,mo5,mo6⟩ (rsz.mono HSZq0 (by omega))) hraw (by omega) (rsz.mono HSZq0 (by omega)) (rsz.mono hrs (by omega))).mono ?_
     rintro e w4 ⟨Ap,cp,Bp,dp,rfl,mp1,mp2,mp3,mp4,mp5,mp6,kb⟩
     replace row:=row.on kb
     replace hB:=onS hB kb
     replace hraw:=hraw.on kb
     replace mo1:=mo1.on kb
     replace mo2:=mo2.on kb
     clear kb
     obtain ⟨q1,hq⟩:∃ z,z=q0+rk:=⟨_,rfl⟩
     rw [<-hq] at mp1 mp2 mp3 mp5 ⊢
     have HQ1:=hid hq
     have HSZq1:rsz q1 (1+N+1):=by rw [hq]; exact zbo HSZq0 hrs
     clear hq
     clear hraw mo1 mo2 mo3 mo4 mo5 mo6
     refine bkq hK (HS.out _ hB) (h:=fun hHeld=>?_)
     clear hK K
     refine tkq 11 (h:=?_)
     obtain ⟨o0,o1,o2,y0,y1,y2⟩:=row.old (j) (by omega)
     have z0:=row.froz (j*3)
     have z1:=row.froz (j*3+1)
     have z2:=row.froz (j*3+2)
     have hsz:=hB.size
     refine rdq 12 (h:=fun K hK=>?_)
     go_simp
     generalize hw3:World.setCell _ _ _=w5
     have hst:RowPut w4 g M (j+1) (j) (updR S j q0) q1 w5:=by rw [<-hw3]; exact rowPut row (by omega) (by omega) mp1 mp2 mp3 mp4 mp5 mp6
     clear hw3 mp1 mp2 mp3 mp4 mp5 mp6
     replace row:=hst.row
     replace hB:=hst.below hB hgB hsz
     clear hst
     rw [show max (j+1) (j+1)=j+1 by omega] at row
     replace row:=row.again
     refine bkq hK (HS.out _ hB) (h:=fun hHeld=>?_)
     clear hK K
     refine wpAnyH_done (by kernel_rfl) ?_ _
     clear hHeld
     clear y0 y1 y2 z0 z1 z2 hsz HS hrs
     have HA:=HRK
     clear HRK
     go_upto_region 9 with fail
     obtain ⟨bb,off,s5,A5,n5,c5,A6,n6,c6,rfl,hb,t0,t1,t2,hraw⟩:=h' j (by omega)
     replace hraw:=hraw.on hB
     obtain ⟨rk,hrk⟩:∃ r,r=b j:=⟨_,rfl⟩
     rw [<-hrk] at hraw
     have HRK:=hid hrk
     have hrs:rsz rk N:=by rw [hrk]; exact hrb.out j (by omega)
     clear hrk
     have HS:Hid (∀ w':World,Below w.heap.size w w'->w'.cell? ⟨bb,off+j*3,none⟩=some (.bool (s5))/\w'.cell? ⟨bb,off+j*3+1,none⟩=some (.slice (A5) (n5) (c5))/\w'.cell? ⟨bb,off+j*3+2,none⟩=some (.slice (A6) (n6) (c6))):=fun w' kb=>⟨cellS kb t0,cellS kb t1,cellS kb t2⟩
     refine wp_region_held_drew (S:=fun w'=>w'.cell? ⟨bb,off+j*3,none⟩=some (.bool (s5))/\w'.cell? ⟨bb,off+j*3+1,none⟩=some (.slice (A5) (n5) (c5))/\w'.cell? ⟨bb,off+j*3+2,none⟩=some (.slice (A6) (n6) (c6))) (by kernel_rfl) (HS.out _ hB.drew) (fun hHeld=>?_)
     clear t0 t1 t2 hb
     obtain ⟨w6,hw⟩:∃ W,W=World.drew w5:=⟨_,rfl⟩
     have kb:Below w5.heap.size w5 w6:=by rw [hw]; exact (Below.refl _ _).drew
     rw [<-hw] at hHeld ⊢
     clear hw
     replace row:=row.on kb
     replace hB:=onS hB kb
     replace hraw:=hraw.on kb
     clear kb
     refine tkq 0 (h:=tkq 1 (h:=tkq 2 (h:=tkq 3 (h:=tkq 4 (h:=tkq 6 (h:=tkq 7 (h:=tkq 8 (h:=tkq 9 (h:=?_)))))))))
     obtain ⟨Ao,co,Bo,do_,g0,g1,g2,mo1,mo2,mo3,mo4,mo5,mo6⟩:=row.last (by omega)
     refine rdq 5 (h:=fun K hK=>?_)
     go_simp
     clear g0 g1 g2
     refine bkq hK (HS.out _ hB) (h:=fun hHeld=>?_)
     clear hK K
     refine rdq 10 (h:=fun K hK=>?_)
     go_simp
     go_wp2_with fail
     refine (zfd _ _ q1 rk NN _ (RatOk.raw ⟨Ao,co,Bo,do_,rfl,mo1,mo2,mo3,mo4,mo5,mo6⟩ (rsz.mono HSZq1 (by omega))) hraw (by omega) (rsz.mono HSZq1 (by omega)) (rsz.mono hrs (by omega))).mono ?_
     rintro e w7 ⟨Ap,cp,Bp,dp,rfl,mp1,mp2,mp3,mp4,mp5,mp6,kb⟩
     replace row:=row.on kb
     replace hB:=onS hB kb
     replace hraw:=hraw.on kb
     replace mo1:=mo1.on kb
     replace mo2:=mo2.on kb
     clear kb
     obtain ⟨q2,hq⟩:∃ z,z=q1+rk:=⟨_,rfl⟩
     rw [<-hq] at mp1 mp2 mp3 mp5 ⊢
     have HQ2:=hid hq
     have HSZq2:rsz q2 (1+N+1+N+1):=by rw [hq]; exact zbo HSZq1 hrs
     clear hq
     clear hraw mo1 mo2 mo3 mo4 mo5 mo6
     refine bkq hK (HS.out _ hB) (h:=fun hHeld=>?_)
     clear hK K
     refine tkq 11 (h:=?_)
     obtain ⟨o0,o1,o2,y0,y1,y2⟩:=row.old (j) (by omega)
     have z0:=row.froz (j*3)
     have z1:=row.froz (j*3+1)
     have z2:=row.froz (j*3+2)
     have hsz:=hB.size
     refine rdq 12 (h:=fun K hK=>?_)
     go_simp
     generalize hw3:World.setCell _ _ _=w8
     have hst:RowPut w7 g M (j+1) (j) (updR S j q1) q2 w8:=by rw [<-hw3]; exact rowPut row (by omega) (by omega) mp1 mp2 mp3 mp4 mp5 mp6
     clear hw3 mp1 mp2 mp3 mp4 mp5 mp6
     replace row:=hst.row
     replace hB:=hst.below hB hgB hsz
     clear hst
     rw [show max (j+1) (j+1)=j+1 by omega] at row
     replace row:=row.again
     refine bkq hK (HS.out _ hB) (h:=fun hHeld=>?_)
     clear hK K
     refine wpAnyH_done (by kernel_rfl) ?_ _
     clear hHeld
     clear y0 y1 y2 z0 z1 z2 hsz HS hrs
     have HBB:=HRK
     clear HRK
     replace row:=row.whole (show q2=S j by rw [HSE.out]; exact zh8 h1 h2 HQ0.out HQ1.out HQ2.out HA.out HBB.out)
     clear HQ0 HSZq0 HSZq1 HQ1 HA HBB HQ2 HSZq2
     go_wp2
     go_roundg (gk - 1)
     case measure=>omega
     case rel=>exact ⟨j+1,by go_num,by omega,by omega,row,hB⟩
    ·have hx:(j:Int)<(m:Int):=by omega
     have hy:¬ (j:Int)<(m':Int):=by omega
     go_upto_region 7 with fail
     obtain ⟨bb,off,s5,A5,n5,c5,A6,n6,c6,rfl,hb,t0,t1,t2,hraw⟩:=h j (by omega)
     replace hraw:=hraw.on hB
     obtain ⟨rk,hrk⟩:∃ r,r=a j:=⟨_,rfl⟩
     rw [<-hrk] at hraw
     have HRK:=hid hrk
     have hrs:rsz rk N:=by rw [hrk]; exact hra.out j (by omega)
     clear hrk
     have HS:Hid (∀ w':World,Below w.heap.size w w'->w'.cell? ⟨bb,off+j*3,none⟩=some (.bool (s5))/\w'.cell? ⟨bb,off+j*3+1,none⟩=some (.slice (A5) (n5) (c5))/\w'.cell? ⟨bb,off+j*3+2,none⟩=some (.slice (A6) (n6) (c6))):=fun w' kb=>⟨cellS kb t0,cellS kb t1,cellS kb t2⟩
     refine wp_region_held_drew (S:=fun w'=>w'.cell? ⟨bb,off+j*3,none⟩=some (.bool (s5))/\w'.cell? ⟨bb,off+j*3+1,none⟩=some (.slice (A5) (n5) (c5))/\w'.cell? ⟨bb,off+j*3+2,none⟩=some (.slice (A6) (n6) (c6))) (by kernel_rfl) (HS.out _ hB.drew) (fun hHeld=>?_)
     clear t0 t1 t2 hb
     obtain ⟨w3,hw⟩:∃ W,W=World.drew w2:=⟨_,rfl⟩
     have kb:Below w2.heap.size w2 w3:=by rw [hw]; exact (Below.refl _ _).drew
     rw [<-hw] at hHeld ⊢
     clear hw
     replace row:=row.on kb
     replace hB:=onS hB kb
     replace hraw:=hraw.on kb
     clear kb
     refine tkq 0 (h:=tkq 1 (h:=tkq 2 (h:=tkq 3 (h:=tkq 4 (h:=tkq 6 (h:=tkq 7 (h:=tkq 8 (h:=tkq 9 (h:=?_)))))))))
     obtain ⟨Ao,co,Bo,do_,g0,g1,g2,mo1,mo2,mo3,mo4,mo5,mo6⟩:=row.last (by omega)
     refine rdq 5 (h:=fun K hK=>?_)
     go_simp
     clear g0 g1 g2
     refine bkq hK (HS.out _ hB) (h:=fun hHeld=>?_)
     clear hK K
     refine rdq 10 (h:=fun K hK=>?_)
     go_simp
     go_wp2_with fail
     refine (zfd _ _ q0 rk NN _ (RatOk.raw ⟨Ao,co,Bo,do_,rfl,mo1,mo2,mo3,mo4,mo5,mo6⟩ (rsz.mono HSZq0 (by omega))) hraw (by omega) (rsz.mono HSZq0 (by omega)) (rsz.mono hrs (by omega))).mono ?_
     rintro e w4 ⟨Ap,cp,Bp,dp,rfl,mp1,mp2,mp3,mp4,mp5,mp6,kb⟩
     replace row:=row.on kb
     replace hB:=onS hB kb
     replace hraw:=hraw.on kb
     replace mo1:=mo1.on kb
     replace mo2:=mo2.on kb
     clear kb
     obtain ⟨q1,hq⟩:∃ z,z=q0+rk:=⟨_,rfl⟩
     rw [<-hq] at mp1 mp2 mp3 mp5 ⊢
     have HQ1:=hid hq
     have HSZq1:rsz q1 (1+N+1):=by rw [hq]; exact zbo HSZq0 hrs
     clear hq
     clear hraw mo1 mo2 mo3 mo4 mo5 mo6
     refine bkq hK (HS.out _ hB) (h:=fun hHeld=>?_)
     clear hK K
     refine tkq 11 (h:=?_)
     obtain ⟨o0,o1,o2,y0,y1,y2⟩:=row.old (j) (by omega)
     have z0:=row.froz (j*3)
     have z1:=row.froz (j*3+1)
     have z2:=row.froz (j*3+2)
     have hsz:=hB.size
     refine rdq 12 (h:=fun K hK=>?_)
     go_simp
     generalize hw3:World.setCell _ _ _=w5
     have hst:RowPut w4 g M (j+1) (j) (updR S j q0) q1 w5:=by rw [<-hw3]; exact rowPut row (by omega) (by omega) mp1 mp2 mp3 mp4 mp5 mp6
     clear hw3 mp1 mp2 mp3 mp4 mp5 mp6
     replace row:=hst.row
     replace hB:=hst.below hB hgB hsz
     clear hst
     rw [show max (j+1) (j+1)=j+1 by omega] at row
     replace row:=row.again
     refine bkq hK (HS.out _ hB) (h:=fun hHeld=>?_)
     clear hK K
     refine wpAnyH_done (by kernel_rfl) ?_ _
     clear hHeld
     clear y0 y1 y2 z0 z1 z2 hsz HS hrs
     have HA:=HRK
     clear HRK
     replace row:=row.whole (show q1=S j by rw [HSE.out]; exact zh9 h1 h2 HQ0.out HQ1.out HA.out)
     clear HQ0 HSZq0 HSZq1 HQ1 HA
     go_wp2
     go_roundg (gk - 1)
     case measure=>omega
     case rel=>exact ⟨j+1,by go_num,by omega,by omega,row,hB⟩
   ·have h2:j<m':=by have:=HM.out; omega
    have hx:¬ (j:Int)<(m:Int):=by omega
    have hy:(j:Int)<(m':Int):=by omega
    go_upto_region 9 with fail
    obtain ⟨bb,off,s5,A5,n5,c5,A6,n6,c6,rfl,hb,t0,t1,t2,hraw⟩:=h' j (by omega)
    replace hraw:=hraw.on hB
    obtain ⟨rk,hrk⟩:∃ r,r=b j:=⟨_,rfl⟩
    rw [<-hrk] at hraw
    have HRK:=hid hrk
    have hrs:rsz rk N:=by rw [hrk]; exact hrb.out j (by omega)
    clear hrk
    have HS:Hid (∀ w':World,Below w.heap.size w w'->w'.cell? ⟨bb,off+j*3,none⟩=some (.bool (s5))/\w'.cell? ⟨bb,off+j*3+1,none⟩=some (.slice (A5) (n5) (c5))/\w'.cell? ⟨bb,off+j*3+2,none⟩=some (.slice (A6) (n6) (c6))):=fun w' kb=>⟨cellS kb t0,cellS kb t1,cellS kb t2⟩
    refine wp_region_held_drew (S:=fun w'=>w'.cell? ⟨bb,off+j*3,none⟩=some (.bool (s5))/\w'.cell? ⟨bb,off+j*3+1,none⟩=some (.slice (A5) (n5) (c5))/\w'.cell? ⟨bb,off+j*3+2,none⟩=some (.slice (A6) (n6) (c6))) (by kernel_rfl) (HS.out _ hB.drew) (fun hHeld=>?_)
    clear t0 t1 t2 hb
    obtain ⟨w3,hw⟩:∃ W,W=World.drew w2:=⟨_,rfl⟩
    have kb:Below w2.heap.size w2 w3:=by rw [hw]; exact (Below.refl _ _).drew
    rw [<-hw] at hHeld ⊢
    clear hw
    replace row:=row.on kb
    replace hB:=onS hB kb
    replace hraw:=hraw.on kb
    clear kb
    refine tkq 0 (h:=tkq 1 (h:=tkq 2 (h:=tkq 3 (h:=tkq 4 (h:=tkq 6 (h:=tkq 7 (h:=tkq 8 (h:=tkq 9 (h:=?_)))))))))
    obtain ⟨Ao,co,Bo,do_,g0,g1,g2,mo1,mo2,mo3,mo4,mo5,mo6⟩:=row.last (by omega)
    refine rdq 5 (h:=fun K hK=>?_)
    go_simp
    clear g0 g1 g2
    refine bkq hK (HS.out _ hB) (h:=fun hHeld=>?_)
    clear hK K
    refine rdq 10 (h:=fun K hK=>?_)
    go_simp
    go_wp2_with fail
    refine (zfd _ _ q0 rk NN _ (RatOk.raw ⟨Ao,co,Bo,do_,rfl,mo1,mo2,mo3,mo4,mo5,mo6⟩ (rsz.mono HSZq0 (by omega))) hraw (by omega) (rsz.mono HSZq0 (by omega)) (rsz.mono hrs (by omega))).mono ?_
    rintro e w4 ⟨Ap,cp,Bp,dp,rfl,mp1,mp2,mp3,mp4,mp5,mp6,kb⟩
    replace row:=row.on kb
    replace hB:=onS hB kb
    replace hraw:=hraw.on kb
    replace mo1:=mo1.on kb
    replace mo2:=mo2.on kb
    clear kb
    obtain ⟨q1,hq⟩:∃ z,z=q0+rk:=⟨_,rfl⟩
    rw [<-hq] at mp1 mp2 mp3 mp5 ⊢
    have HQ1:=hid hq
    have HSZq1:rsz q1 (1+N+1):=by rw [hq]; exact zbo HSZq0 hrs
    clear hq
    clear hraw mo1 mo2 mo3 mo4 mo5 mo6
    refine bkq hK (HS.out _ hB) (h:=fun hHeld=>?_)
    clear hK K
    refine tkq 11 (h:=?_)
    obtain ⟨o0,o1,o2,y0,y1,y2⟩:=row.old (j) (by omega)
    have z0:=row.froz (j*3)
    have z1:=row.froz (j*3+1)
    have z2:=row.froz (j*3+2)
    have hsz:=hB.size
    refine rdq 12 (h:=fun K hK=>?_)
    go_simp
    generalize hw3:World.setCell _ _ _=w5
    have hst:RowPut w4 g M (j+1) (j) (updR S j q0) q1 w5:=by rw [<-hw3]; exact rowPut row (by omega) (by omega) mp1 mp2 mp3 mp4 mp5 mp6
    clear hw3 mp1 mp2 mp3 mp4 mp5 mp6
    replace row:=hst.row
    replace hB:=hst.below hB hgB hsz
    clear hst
    rw [show max (j+1) (j+1)=j+1 by omega] at row
    replace row:=row.again
    refine bkq hK (HS.out _ hB) (h:=fun hHeld=>?_)
    clear hK K
    refine wpAnyH_done (by kernel_rfl) ?_ _
    clear hHeld
    clear y0 y1 y2 z0 z1 z2 hsz HS hrs
    have HBB:=HRK
    clear HRK
    replace row:=row.whole (show q1=S j by rw [HSE.out]; exact zg1 h1 h2 HQ0.out HQ1.out HBB.out)
    clear HQ0 HSZq0 HSZq1 HQ1 HBB
    go_wp2
    go_roundg (gk - 1)
    case measure=>omega
    case rel=>exact ⟨j+1,by go_num,by omega,by omega,row,hB⟩
  ·obtain rfl:j=M:=by omega
   have hlt':¬ (j:Int)<(j:Int):=by omega
   have hl:=row.list.tab hS.out
   go_wp2_with fail
   refine (refCanon55_any (some ⟨g,0,none⟩) j j (N+N+1) S _ hl (by omega) (by omega)).mono ?_
   rintro e w2 ⟨Ar,cr,rfl,e1,e2,e3,kb⟩
   replace hB:=onS hB kb
   clear kb hl row
   obtain ⟨cl,hcl⟩:∃ cl,cl=clen S j:=⟨_,rfl⟩
   rw [<-hcl] at e1 e3 ⊢
   have HCL:=hid hcl
   clear hcl
   go_wp2
   go_ret
   rw [<-HCL.out]
   exact ⟨_,_,rfl,e1,e2,e3,hB⟩
theorem refPMul_any (T T':Option Addr) (m c m' c' N K:Nat) (a b:Nat->Rat) (w:World) (h:RatTab w w.heap.size T m a N) (h':RatTab w w.heap.size T' m' b N) (hm:m<=524288) (hm':m'<=524288) (hK:m*(N+N+1)<=K) (hKN:K+N+N+5<=33554432) (hra:Hid (∀ k,k<m->rsz (a k) N)) (hrb:Hid (∀ k,k<m'->rsz (b k) N)) :
  Calls Tryz.prog 23 #[.slice T m c,.slice T' m' c'] w (PolyPost (clen (mulP a m b m') (m+m')) (mulP a m b m') w):=by
 obtain ⟨NN,hNN⟩:∃ n,n=K+N+N+5:=⟨_,rfl⟩
 have hn1:NN<=33554432:=by omega
 have hn2:K+N+N+5<=NN:=by omega
 clear hNN
 replace h:=h.mono (show N<=NN by omega)
 replace h':=h'.mono (show N<=NN by omega)
 have hSO:Hid (∀ i,i<=m->∀ p,rsz (outP a b m' i p) (K+1)):=fun i hi p=>(zg3 hra.out hrb.out i hi p).mono (by have:i*(N+N+1)<=m*(N+N+1):=Nat.mul_le_mul_right _ hi; omega)
 have hSI:Hid (∀ i,i<m->∀ j,j<=m'->∀ p,rsz (inP a b i (outP a b m' i) j p) (K+1+(N+N)+1)):=fun i hi j hj p=>ziE hra.out hrb.out hi (hSO.out i (by omega)) j hj p
 have hwr1:IntKind.i64.wrap ((m:Int)+(m':Int))=((m+m':Nat):Int):=by rw [IntWalk.i64_in _ (by omega)]; omega
 have hwr2:(m:Int)+(m':Int)=((m+m':Nat):Int):=by omega
 obtain ⟨M,hM⟩:∃ M,M=m+m':=⟨_,rfl⟩
 rw [<-hM] at hwr1 hwr2 ⊢
 have hMle:M<=1048576:=by omega
 have hM1:m+m'<=M:=by omega
 have HM:=hid hM
 clear hM
 have hmk:=fun W=>zcL M hMle W
 have kb1:=zab w (.cells (madeCells #[.bool false,.slice none 0 0,.slice none 0 0] (M*3)) 49)
 have row:=zdi w M (fun _=>0)
 have hB:=kb1
 clear kb1
 have hm0:(0:Int)<=(m:Int):=by omega
 have hm0':(0:Int)<=(m':Int):=by omega
 go_enter Tryz.func23, Tryz.ntmps23
 go_wp2
 obtain ⟨w1,hw1⟩:∃ W,W=w.alloc (.cells (madeCells #[.bool false,.slice none 0 0,.slice none 0 0] (M*3)) 49):=⟨_,rfl⟩
 obtain ⟨g,hg⟩:∃ g,g=w.heap.size:=⟨_,rfl⟩
 rw [<-hw1,<-hg]
 rw [<-hw1] at hB row
 rw [<-hg] at row
 have hgB:w.heap.size<=g:=by omega
 clear hw1 hg hmk hwr2 hwr1
 go_loopg [6] M (fun gg iv wx=>∃ j:Nat,iv=.int .i64 (j:Nat)/\j<=M/\M<=j+gg/\RowOk wx g M j (fun _=>0)/\Below w.heap.size w wx)
 case atStart=>exact ⟨0,rfl,by omega,by omega,row,hB⟩
 case round =>
  clear row hB
  obtain ⟨j,rfl,hj,hjg,row,hB⟩:=hrel
  have hj0:(0:Int)<=(j:Int):=by omega
  by_cases hlt:j<M
  ·have hlt':(j:Int)<(M:Int):=by omega
   obtain ⟨w0,hw0⟩:∃ W,W=wr:=⟨_,rfl⟩
   rw [<-hw0] at row hB ⊢
   clear hw0
   obtain ⟨S,hSe⟩:∃ S:Nat->Rat,S=fun _=>0:=⟨_,rfl⟩
   rw [<-hSe] at row
   have HSE:=hid hSe
   clear hSe
   go_wp2_with fail
   refine (zbi 0 _ (by omega) (by omega)).mono ?_
   rintro e w1 ⟨Ap,cp,Bp,dp,rfl,mp1,mp2,mp3,mp4,mp5,mp6,kb⟩
   replace row:=row.on kb
   replace hB:=onS hB kb
   clear kb
   obtain ⟨q0,hq0⟩:∃ q:Rat,q=((0:Int):Rat):=⟨_,rfl⟩
   rw [<-hq0] at mp1 mp2 mp3 mp5 ⊢
   replace hq0:q0=0:=hq0.trans (by rfl)
   have HQ0:=hid hq0
   have HSZq0:rsz q0 1:=by rw [hq0]; exact zba
   clear hq0
   obtain ⟨o0,o1,o2,y0,y1,y2⟩:=row.old (j) (by omega)
   have z0:=row.froz (j*3)
   have z1:=row.froz (j*3+1)
   have z2:=row.froz (j*3+2)
   have hsz:=hB.size
   go_upto_region 4 with fail
   generalize hw3:World.setCell _ _ _=w2
   have hst:RowPut w1 g M (j) (j) (S) q0 w2:=by rw [<-hw3]; exact rowPut row (by omega) (by omega) mp1 mp2 mp3 mp4 mp5 mp6
   clear hw3 mp1 mp2 mp3 mp4 mp5 mp6
   replace row:=hst.row
   replace hB:=hst.below hB hgB hsz
   clear hst
   rw [show max j (j+1)=j+1 by omega] at row
   clear y0 y1 y2 z0 z1 z2 hsz
   replace row:=row.whole (show q0=S j by rw [HSE.out,HQ0.out])
   rw [HSE.out] at row
   clear HSE HSZq0 HQ0
   go_wp2
   go_roundg (gk - 1)
   case measure=>omega
   case rel=>exact ⟨j+1,by go_num,by omega,by omega,row,hB⟩
  ·obtain rfl:j=M:=by omega
   have hlt':¬ (j:Int)<(j:Int):=by omega
   replace row:=row.put' (show (fun _=>(0:Rat))=outP a b m' 0 from rfl)
   go_wp2
   obtain ⟨w0,hw0⟩:∃ W,W=wr:=⟨_,rfl⟩
   rw [<-hw0] at row hB ⊢
   clear hw0 hlt hlt'
   obtain ⟨gK,rfl⟩:∃ gK:Nat,gK=gk:=⟨_,rfl⟩
   go_loopg [7] m (fun gg iv wx=>∃ i:Nat,iv=.int .i64 (i:Nat)/\i<=m/\m<=i+gg/\RowOk wx g j j (outP a b m' i)/\Below w.heap.size w wx)
   case atStart=>exact ⟨0,rfl,by omega,by omega,row,hB⟩
   case round =>
    clear row hB
    obtain ⟨i,rfl,hi,hig,row,hB⟩:=hrel
    have hi0:(0:Int)<=(i:Int):=by omega
    by_cases hlt:i<m
    ·have hlt':(i:Int)<(m:Int):=by omega
     obtain ⟨bx,ox,s5,A5,n5,c5,A6,n6,c6,rfl,hbx,t0,t1,t2,hrx⟩:=h i hlt
     have hrsx:=hra.out i hlt
     go_wp2
     obtain ⟨w2,hw2⟩:∃ W,W=wr:=⟨_,rfl⟩
     rw [<-hw2] at row hB ⊢
     clear hw2
     obtain ⟨gI,rfl⟩:∃ gK:Nat,gK=gk:=⟨_,rfl⟩
     replace row:=row.put' (show outP a b m' i=inP a b i (outP a b m' i) 0 from rfl)
     go_loopg [8] m' (fun gg jv wx=>∃ k:Nat,jv=.int .i64 (k:Nat)/\k<=m'/\m'<=k+gg/\RowOk wx g j j (inP a b i (outP a b m' i) k)/\Below w.heap.size w wx)
     case atStart=>exact ⟨0,rfl,by omega,by omega,row,hB⟩
     case round =>
      clear row hB
      obtain ⟨k,rfl,hk,hkg,row,hB⟩:=hrel
      have hk0:(0:Int)<=(k:Int):=by omega
      by_cases hlk:k<m'
      ·have hlk':(k:Int)<(m':Int):=by omega
       obtain ⟨by_,oy,s7,A7,n7,c7,A8,n8,c8,rfl,hby,v0,v1,v2,hry⟩:=h' k hlk
       have hrsy:=hrb.out k hlk
       have hik:(i:Int)+(k:Int)=((i+k:Nat):Int):=by omega
       have hikw:IntKind.i64.wrap ((i:Int)+(k:Int))=((i+k:Nat):Int):=by rw [IntWalk.i64_in _ (by omega)]; omega
       have hikl:i+k<j:=by omega
       have hikw2:IntKind.i64.wrap ((i+k:Nat):Int)=((i+k:Nat):Int):=by rw [IntWalk.i64_in _ (by omega)]
       have hikl':((i+k:Nat):Int)<(j:Int):=by omega
       have hik0:(0:Int)<=((i+k:Nat):Int):=by omega
       have hikt:((i+k:Nat):Int).toNat=i+k:=by omega
       go_upto_region 12 with fail
       obtain ⟨w2,hw2⟩:∃ W,W=wr:=⟨_,rfl⟩
       rw [<-hw2] at row hB ⊢
       clear hw2
       have hx:=hrx.on hB
       have hy:=hry.on hB
       obtain ⟨S,hSe⟩:∃ S,S=inP a b i (outP a b m' i) k:=⟨_,rfl⟩
       have hnxt:inP a b i (outP a b m' i) (k+1)=updR S (i+k) (S (i+k)+a i*b k):=by rw [hSe]; rfl
       have hsz1:=hSI.out i hlt k (by omega) (i+k)
       have hsz2:rsz (S (i+k)+a i*b k) (K+1+(N+N)+1):=by have:=hSI.out i hlt (k+1) hlk (i+k); rw [hnxt] at this; simpa [updR] using this
       rw [<-hSe] at row hsz1
       clear hSe
       obtain ⟨P,hP⟩:∃ P,P=i+k:=⟨_,rfl⟩
       rw [<-hP] at hik hikw hikw2 hikl hikl' hik0 hikt hnxt hsz1 hsz2
       obtain ⟨x,hxe⟩:∃ x,x=a i:=⟨_,rfl⟩
       obtain ⟨y,hye⟩:∃ y,y=b k:=⟨_,rfl⟩
       rw [<-hxe,<-hye] at hnxt hsz2
       rw [<-hxe] at hx hrsx
       rw [<-hye] at hy hrsy
       have hsxy:=zdg hrsx hrsy
       obtain ⟨q0,hq0⟩:∃ q,q=S P:=⟨_,rfl⟩
       rw [<-hq0] at hnxt hsz1 hsz2
       have HQ0:=hid hq0
       have HNX:=hid hnxt
       clear hq0 hnxt hxe hye hP
       have HS:Hid (∀ w':World,Below w.heap.size w w'->w'.cell? ⟨bx,ox+i*3,none⟩=some (.bool (s5))/\w'.cell? ⟨bx,ox+i*3+1,none⟩=some (.slice (A5) (n5) (c5))/\w'.cell? ⟨bx,ox+i*3+2,none⟩=some (.slice (A6) (n6) (c6))/\w'.cell? ⟨by_,oy+k*3,none⟩=some (.bool (s7))/\w'.cell? ⟨by_,oy+k*3+1,none⟩=some (.slice (A7) (n7) (c7))/\w'.cell? ⟨by_,oy+k*3+2,none⟩=some (.slice (A8) (n8) (c8))):=fun w' kb=>⟨cellS kb t0,cellS kb t1,cellS kb t2,cellS kb v0,cellS kb v1,cellS kb v2⟩
       refine wp_region_held_drew (S:=fun w'=>w'.cell? ⟨bx,ox+i*3,none⟩=some (.bool (s5))/\w'.cell? ⟨bx,ox+i*3+1,none⟩=some (.slice (A5) (n5) (c5))/\w'.cell? ⟨bx,ox+i*3+2,none⟩=some (.slice (A6) (n6) (c6))/\w'.cell? ⟨by_,oy+k*3,none⟩=some (.bool (s7))/\w'.cell? ⟨by_,oy+k*3+1,none⟩=some (.slice (A7) (n7) (c7))/\w'.cell? ⟨by_,oy+k*3+2,none⟩=some (.slice (A8) (n8) (c8))) (by kernel_rfl) (HS.out _ hB.drew) (fun hHeld=>?_)
       obtain ⟨w3,hw⟩:∃ W,W=World.drew w2:=⟨_,rfl⟩
       have kb:Below w2.heap.size w2 w3:=by rw [hw]; exact (Below.refl _ _).drew
       rw [<-hw] at hHeld ⊢
       clear hw
       replace row:=row.on kb
       replace hB:=onS hB kb
       replace hx:=hx.on kb
       replace hy:=hy.on kb
       clear kb
       refine tkq 0 (h:=tkq 1 (h:=tkq 2 (h:=tkq 3 (h:=tkq 4 (h:=tkq 5 (h:=tkq 6 (h:=tkq 7 (h:=tkq 8 (h:=tkq 10 (h:=tkq 11 (h:=tkq 12 (h:=tkq 13 (h:=tkq 14 (h:=tkq 15 (h:=tkq 16 (h:=tkq 17 (h:=?_)))))))))))))))))
       refine rdq2 9 18 (h:=fun K hK=>?_) (h2:=fun K hK=>?_)
       ·obtain ⟨Ao,co,Bo,do_,g0,g1,g2,mo1,mo2,mo3,mo4,mo5,mo6⟩:=row.get P (by omega)
        rw [<-HQ0.out] at g0 g1 g2 mo1 mo2 mo3 mo5
        go_simp
        clear g0 g1 g2
        refine bkq hK (HS.out _ hB) (h:=fun hHeld=>?_)
        clear hK K
        refine rdq 18 (h:=fun K hK=>?_)
        go_simp
        go_wp2_with fail
        refine (refMul02_any _ _ x y NN _ hx hy (by omega) (hrsx.mono (by omega)) (hrsy.mono (by omega))).mono ?_
        rintro e w4 ⟨Am,cm,Bm,dm,rfl,mm1,mm2,mm3,mm4,mm5,mm6,kb⟩
        replace row:=row.on kb
        replace hB:=onS hB kb
        replace hx:=hx.on kb
        replace hy:=hy.on kb
        replace mo1:=mo1.on kb
        replace mo2:=mo2.on kb
        clear kb
        obtain ⟨xy,hxy⟩:∃ p,p=x*y:=⟨_,rfl⟩
        rw [<-hxy] at mm1 mm2 mm3 mm5 hsxy hsz2 ⊢
        have HXY:=hid hxy
        clear hxy
        refine bkq hK (HS.out _ hB) (h:=fun hHeld=>?_)
        clear hK K
        refine rdq 19 (h:=fun K hK=>?_)
        go_simp
        go_wp2_with fail
        refine (zfd _ _ q0 xy NN _ (RatOk.raw ⟨Ao,co,Bo,do_,rfl,mo1,mo2,mo3,mo4,mo5,mo6⟩ (hsz1.mono (by omega))) (RatOk.raw ⟨Am,cm,Bm,dm,rfl,mm1,mm2,mm3,mm4,mm5,mm6⟩ (hsxy.mono (by omega))) (by omega) (hsz1.mono (by omega)) (hsxy.mono (by omega))).mono ?_
        rintro e w5 ⟨Ap,cp,Bp,dp,rfl,mp1,mp2,mp3,mp4,mp5,mp6,kb⟩
        replace row:=row.on kb
        replace hB:=onS hB kb
        replace hx:=hx.on kb
        replace hy:=hy.on kb
        replace mo1:=mo1.on kb
        replace mo2:=mo2.on kb
        replace mm1:=mm1.on kb
        replace mm2:=mm2.on kb
        clear kb
        obtain ⟨q1,hq1⟩:∃ z,z=q0+xy:=⟨_,rfl⟩
        rw [<-hq1] at mp1 mp2 mp3 mp5 hsz2 ⊢
        have HQ1:=hid hq1
        clear hq1
        clear mo1 mo2 mo3 mo4 mo5 mo6 mm1 mm2 mm3 mm4 mm5 mm6
        refine bkq hK (HS.out _ hB) (h:=fun hHeld=>?_)
        clear hK K
        refine tkq 20 (h:=?_)
        obtain ⟨o0,o1,o2,y0,y1,y2⟩:=row.old (P) (by omega)
        have z0:=row.froz (P*3)
        have z1:=row.froz (P*3+1)
        have z2:=row.froz (P*3+2)
        have hsz:=hB.size
        refine rdq 21 (h:=fun K hK=>?_)
        go_simp
        generalize hw3:World.setCell _ _ _=w6
        have hst:RowPut w5 g j j P S q1 w6:=by rw [<-hw3]; exact rowPut row (by omega) (by omega) mp1 mp2 mp3 mp4 mp5 mp6
        clear hw3 mp1 mp2 mp3 mp4 mp5 mp6 hx hy
        replace row:=hst.row
        rw [show max j (P+1)=j by omega] at row
        replace hB:=hst.below hB hgB hsz
        clear hst
        refine bkq hK (HS.out _ hB) (h:=fun hHeld=>?_)
        clear hK K
        refine wpAnyH_done (by kernel_rfl) ?_ _
        clear hHeld
        replace row:=row.put' (show updR S P q1=inP a b i (outP a b m' i) (k+1) by rw [HNX.out,HQ1.out,HXY.out])
        clear y0 y1 y2 z0 z1 z2 hsz HS HNX HQ1 HXY HQ0 hsz1 hsz2 hsxy hikw hikw2 hik hikt
        go_wp2
        go_roundg (gk - 1)
        case measure=>omega
        case rel=>exact ⟨k+1,by go_num,by omega,by omega,row,hB⟩
       ·go_simp
        go_wp2_with fail
        refine (refMul02_any _ _ x y NN _ hx hy (by omega) (hrsx.mono (by omega)) (hrsy.mono (by omega))).mono ?_
        rintro e w4 ⟨Am,cm,Bm,dm,rfl,mm1,mm2,mm3,mm4,mm5,mm6,kb⟩
        replace row:=row.on kb
        replace hB:=onS hB kb
        replace hx:=hx.on kb
        replace hy:=hy.on kb
        clear kb
        obtain ⟨xy,hxy⟩:∃ p,p=x*y:=⟨_,rfl⟩
        rw [<-hxy] at mm1 mm2 mm3 mm5 hsxy hsz2 ⊢
        have HXY:=hid hxy
        clear hxy
        refine bkq hK (HS.out _ hB) (h:=fun hHeld=>?_)
        clear hK K
        refine rdq 9 (h:=fun K hK=>?_)
        obtain ⟨Ao,co,Bo,do_,g0,g1,g2,mo1,mo2,mo3,mo4,mo5,mo6⟩:=row.get P (by omega)
        rw [<-HQ0.out] at g0 g1 g2 mo1 mo2 mo3 mo5
        go_simp
        clear g0 g1 g2
        refine bkq hK (HS.out _ hB) (h:=fun hHeld=>?_)
        clear hK K
        refine rdq 19 (h:=fun K hK=>?_)
        go_simp
        go_wp2_with fail
        refine (zfd _ _ q0 xy NN _ (RatOk.raw ⟨Ao,co,Bo,do_,rfl,mo1,mo2,mo3,mo4,mo5,mo6⟩ (hsz1.mono (by omega))) (RatOk.raw ⟨Am,cm,Bm,dm,rfl,mm1,mm2,mm3,mm4,mm5,mm6⟩ (hsxy.mono (by omega))) (by omega) (hsz1.mono (by omega)) (hsxy.mono (by omega))).mono ?_
        rintro e w5 ⟨Ap,cp,Bp,dp,rfl,mp1,mp2,mp3,mp4,mp5,mp6,kb⟩
        replace row:=row.on kb
        replace hB:=onS hB kb
        replace hx:=hx.on kb
        replace hy:=hy.on kb
        replace mm1:=mm1.on kb
        replace mm2:=mm2.on kb
        replace mo1:=mo1.on kb
        replace mo2:=mo2.on kb
        clear kb
        obtain ⟨q1,hq1⟩:∃ z,z=q0+xy:=⟨_,rfl⟩
        rw [<-hq1] at mp1 mp2 mp3 mp5 hsz2 ⊢
        have HQ1:=hid hq1
        clear hq1
        clear mo1 mo2 mo3 mo4 mo5 mo6 mm1 mm2 mm3 mm4 mm5 mm6
        refine bkq hK (HS.out _ hB) (h:=fun hHeld=>?_)
        clear hK K
        refine tkq 20 (h:=?_)
        obtain ⟨o0,o1,o2,y0,y1,y2⟩:=row.old (P) (by omega)
        have z0:=row.froz (P*3)
        have z1:=row.froz (P*3+1)
        have z2:=row.froz (P*3+2)
        have hsz:=hB.size
        refine rdq 21 (h:=fun K hK=>?_)
        go_simp
        generalize hw3:World.setCell _ _ _=w6
        have hst:RowPut w5 g j j P S q1 w6:=by rw [<-hw3]; exact rowPut row (by omega) (by omega) mp1 mp2 mp3 mp4 mp5 mp6
        clear hw3 mp1 mp2 mp3 mp4 mp5 mp6 hx hy
        replace row:=hst.row
        rw [show max j (P+1)=j by omega] at row
        replace hB:=hst.below hB hgB hsz
        clear hst
        refine bkq hK (HS.out _ hB) (h:=fun hHeld=>?_)
        clear hK K
        refine wpAnyH_done (by kernel_rfl) ?_ _
        clear hHeld
        replace row:=row.put' (show updR S P q1=inP a b i (outP a b m' i) (k+1) by rw [HNX.out,HQ1.out,HXY.out])
        clear y0 y1 y2 z0 z1 z2 hsz HS HNX HQ1 HXY HQ0 hsz1 hsz2 hsxy hikw hikw2 hik hikt
        go_wp2
        go_roundg (gk - 1)
        case measure=>omega
        case rel=>exact ⟨k+1,by go_num,by omega,by omega,row,hB⟩
      ·obtain rfl:k=m':=by omega
       have hlk':¬ (k:Int)<(k:Int):=by omega
       replace row:=row.put' (show inP a b i (outP a b k i) k=outP a b k (i+1) from rfl)
       go_wp2
       go_roundg (gI - 1)
       case measure=>omega
       case rel=>exact ⟨i+1,by go_num,by omega,by omega,row,hB⟩
    ·obtain rfl:i=m:=by omega
     have hlt':¬ (i:Int)<(i:Int):=by omega
     have hl:=row.list.tab (fun p _=>hSO.out i (by omega) p)
     go_wp2_with fail
     refine (refCanon55_any (some ⟨g,0,none⟩) j j (K+1) (outP a b m' i) _ hl (by omega) (by omega)).mono ?_
     rintro e w2 ⟨Ar,cr,rfl,e1,e2,e3,kb⟩
     replace hB:=onS hB kb
     clear kb hl row
     obtain ⟨cl,hcl⟩:∃ cl,cl=clen (outP a b m' i) j:=⟨_,rfl⟩
     rw [<-hcl] at e1 e3 ⊢
     have HCL:=hid hcl
     clear hcl
     go_wp2
     go_ret
     exact ⟨_,_,by rw [HCL.out]; rfl,by rw [HCL.out] at e1; exact e1,e2,by rw [HCL.out] at e3; exact e3,hB⟩
open Go.ChangeShapes Go.WideShapes Go.ChangeAt
theorem rsz_int {z:Int} (h:z.natAbs<18446744073709551616):rsz (z:Rat) 2:=by
 refine ⟨?_,?_⟩
 ·show dl z.natAbs<=2
  exact zdO (by omega)
 ·show dl 1<=2
  rw [zb4]; omega
theorem clen_clen (rs:Nat->Rat) (m:Nat):clen rs (clen rs m)=clen rs m:=by
 induction m with
 | zero=>rfl
 | succ m ih =>
  by_cases e:rs m=0
  ·rw [zec e,ih]
  ·rw [zfj e,zfj e]
theorem allW_mem {K:Type} {L:List K} (hc:∀ a,a ∈ L):∀ n (x:List K),x.length=n->x ∈ allW L n
 | 0,x,h=>by rw [List.length_eq_zero_iff.1 h]; simp [allW]
 | n+1,[],h=>by simp at h
 | n+1,a :: x,h=>by
  show _ ∈ (allW L n).flatMap _
  exact List.mem_flatMap.2 ⟨x,allW_mem hc n x (by simpa using h),List.mem_map.2 ⟨a,hc a,rfl⟩⟩
section
variable {q n k:Nat} {add mul:Nat->Nat->Nat} {V:Nat->Nat->Nat}
theorem nrow_pv {neg:Nat->Nat} {p:Nat->Nat} {W:Nat->Nat->Nat} {c s:Nat}:∀ a,(∀ t u,t<u->u<a->p t<p u)->s<a->nrow neg p W c a (p s)=neg (W s c)
 | 0,_,h=>absurd h (by omega)
 | a + 1, hi, hs => by
  unfold nrow
  by_cases e:s=a
  ·subst e; rw [if_pos rfl]
  ·have:=hi s a (by omega) (by omega)
   rw [if_neg (by omega)]
   exact nrow_pv a (fun t u h1 h2=>hi t u h1 (by omega)) (by omega)
end
section
variable {q n N a2:Nat} {add mul:Nat->Nat->Nat} {neg:Nat->Nat} {V W2:Nat->Nat->Nat} (hq:0<q) [iA:Add (El q)] [iM:Mul (El q)] [iN:Neg (El q)] [i0:Zero (El q)] [i1:One (El q)] (O:OnEl q add mul)
include O
theorem back_word {m:Nat} {U:Nat->Nat->Nat} {x:List (El q)} (hx:Gen N m (fun i=>wordK q hq N (U i)) x):x=wordK q hq N (fun j=>(ent x j).val):=by
 refine zgD (zgG O.fie (N:=fun i j=>toEl q hq (U i j)) hx).1 (zd0 hq N _) fun j hj=>?_
 rw [ze5 hq,zcG hj]
 exact El.ext' (zaD hq (ent x j).lt).symm
variable (hL:FieldLaws q add mul)
include hL
theorem gen_same {m m':Nat} {U U':Nat->Nat->Nat} (hU:∀ i,i<m->∀ j,j<N->U i j<q) (hU':∀ i,i<m'->∀ j,j<N->U' i j<q) (e:SameSp q add mul N m m' U U') (x:List (El q)):Gen N m (fun i=>wordK q hq N (U i)) x↔Gen N m' (fun i=>wordK q hq N (U' i)) x:=by
 constructor
 ·intro hx
  have ex:=back_word hq O hx
  rw [ex] at hx ⊢
  exact (zbM hq O.fie hL O.ha O.hm O.h0 hU' fun j _=>(ent x j).lt).1 ((e _).1 ((zbM hq O.fie hL O.ha O.hm O.h0 hU fun j _=>(ent x j).lt).2 hx))
 ·intro hx
  have ex:=back_word hq O hx
  rw [ex] at hx ⊢
  exact (zbM hq O.fie hL O.ha O.hm O.h0 hU fun j _=>(ent x j).lt).1 ((e _).2 ((zbM hq O.fie hL O.ha O.hm O.h0 hU' fun j _=>(ent x j).lt).2 hx))
theorem NullRel.perp (hneg:∀ x,x<q->neg x<q/\add x (neg x)=0) (hV:∀ i,i<n->∀ j,j<N->V i j<q) (h:NullRel q add mul neg n N V a2 W2) (x:List (El q)) :
  perpW N (Gen N n fun i=>wordK q hq N (V i)) x↔Gen N a2 (fun i=>wordK q hq N (W2 i)) x:=by
 obtain ⟨a,p,W,f,fr,Nn,p2,hE,hR,hN,hE2,hR2⟩:=h
 obtain ⟨hs,hWl⟩:=hR.sp hL hV
 have hle:=hE.le
 have hq2:=hL.two
 have hNl:∀ u,u<f->∀ j,j<N->Nn u j<q:=fun u hu j hj=>by
  rw [hN.row u hu j hj]
  have hfu:=hN.lt u hu
  rcases hN.cover j hj with ⟨s,hs,e⟩ | ⟨v,hv,e⟩
  ·rw [<-e,nrow_pv a hE.inc hs]
   exact (hneg _ (hWl s (by omega) _ hfu)).1
  ·rw [zid a fun s hs e2=>hN.ne v hv s hs (e2.trans e.symm)]
   split <;> omega
 obtain ⟨hs2,hWl2⟩:=hR2.sp hL hNl
 have s1:=gen_same hq O hL hV (hE.top.lt) (fun x=>(hs x).trans (hE.sp_top hL x)) x
 have s1':∀ x,Gen N n (fun i=>wordK q hq N (V i)) x↔Gen N a (fun i=>wordK q hq N (W i)) x:=gen_same hq O hL hV (hE.top.lt) (fun x=>(hs x).trans (hE.sp_top hL x))
 have s2:=gen_same hq O hL hNl (hE2.top.lt) (fun x=>(hs2 x).trans (hE2.sp_top hL x)) x
 rw [<-s2]
 have hK:NullK N a p (fun i j=>toEl q hq (W i j)) f fr (fun i j=>toEl q hq (Nn i j)):=by
  refine ⟨hN.lt,hN.ne,hN.cover,fun u hu=>?_,fun u hu s hs=>?_,fun u hu v hv hne=>?_⟩
  ·rw [hN.row u hu _ (hN.lt u hu),zid a (hN.ne u hu),if_pos rfl]
   exact El.ext' (by rw [zaD hq (by omega),O.h1])
  ·rw [hN.row u hu _ (hE.pvlt s hs),nrow_pv a hE.inc hs]
   obtain ⟨g1,g2⟩:=hneg _ (hE.lt s (by omega) _ (hN.lt u hu))
   refine O.fie.negOf (El.ext' ?_)
   rw [O.ha,zaD hq (hE.lt s (by omega) _ (hN.lt u hu)),zaD hq g1,g2,O.h0]
  ·have hne2:fr v≠fr u:=by
    rcases Nat.lt_or_gt_of_ne hne with h1 | h1
    ·have:=hN.inc v u h1 hu; omega
    ·have:=hN.inc u v h1 hv; omega
   refine ⟨hne2,?_⟩
   rw [hN.row u hu _ (hN.lt v hv),zid a (hN.ne v hv),if_neg hne2]
   exact El.ext' (by rw [zaD hq hq,O.h0])
 have:=NullK.perp O.fie (hE.toK hq O.h0 O.h1) hK x
 refine Iff.trans ?_ this
 constructor
 ·rintro ⟨g1,g2⟩; exact ⟨g1,fun y hy=>g2 y ((s1' y).2 hy)⟩
 ·rintro ⟨g1,g2⟩; exact ⟨g1,fun y hy=>g2 y ((s1' y).1 hy)⟩
end
def WordErrs (q N l:Nat) (u:Nat->Int):List (Prop × Int):=[(l=N,4),(AllIn q l u,2)]
theorem list12_any (P M:Nat) (A:Option Addr) (k c:Nat) (U:Option Addr) (l d N:Nat) (u:Nat->Int) (w:World) (hf:FldOk P M) (h:IntsR w w.heap.size U l u) (hn:l<=9223372036854775807) :
  Calls Tryz.prog 41 #[.agg #[.int .i64 (P:Nat),.int .i64 (M:Nat),.slice A k c],.slice U l d,.int .i64 (N:Nat)] w (ErrsPost (WordErrs (P ^ M) N l u) w):=by
 have HU:=hid h
 clear h
 have hB:Below w.heap.size w (w.alloc (.cells #[.int .i64 (P:Nat),.int .i64 (M:Nat),.slice A k c] 24)):=(Below.refl _ _).alloc (Nat.le_refl _) _
 have rf:=zaj (w:=w) (a:=.int .i64 (P:Nat)) (b:=.int .i64 (M:Nat)) (c:=.slice A k c) (T := 24)
 obtain ⟨w0,hw0⟩:∃ W,W=w.alloc (.cells #[.int .i64 (P:Nat),.int .i64 (M:Nat),.slice A k c] 24):=⟨_,rfl⟩
 rw [<-hw0] at hB rf
 go_enter Tryz.func41, Tryz.ntmps41
 go_upto_region 1 with fail
 rw [<-hw0]
 clear hw0
 have q0:w0.cell? ⟨w.heap.size,0,none⟩=some (.int .i64 (P:Nat)):=rf.cell (i:=0) (by omega)
 have q1:w0.cell? ⟨w.heap.size,1,none⟩=some (.int .i64 (M:Nat)):=rf.cell (i:=1) (by omega)
 have q2:w0.cell? ⟨w.heap.size,2,none⟩=some (.slice A k c):=rf.cell (i:=2) (by omega)
 clear rf
 by_cases hl:l=N
 ·have HL:=hid hl
  have hl':((l:Int) != (N:Int))=false:=by simp [hl]
  clear hl
  go_wp2_with fail
  refine (zeD P M A k c U l d u w0 hf (HU.out.on hB) hn).mono ?_
  rintro e w1 ⟨v,rfl,hv,kb⟩
  have HV:=hid hv
  replace hB:=onS hB kb
  clear hv kb q0 q1 q2
  go_wp2
  go_ret
  refine errsPost (.inr ⟨HL.out,?_⟩) hB
  rcases HV.out with ⟨h1,h2⟩ | ⟨h1,h2⟩
  ·exact .inr ⟨h2,h1⟩
  ·exact .inl ⟨h2,h1⟩
 ·have HL:=hid hl
  have hl':((l:Int) != (N:Int))=true:=by simp; omega
  clear hl
  go_wp2
  go_ret
  exact errsPost (.inl ⟨HL.out,rfl⟩) hB
theorem word12_any (P M:Nat) (m:Nat->Nat) (A:Option Addr) (k c N:Nat) (T:Option Addr) (n d:Nat) (V:Nat->Nat->Nat) (U:Option Addr) (l uc:Nat) (u:Nat->Int) (w:World) (h:CodeR w P M m A k N T n V) (hu:IntsR w w.heap.size U l u) (hn:l<=9223372036854775807) :
  Calls Tryz.prog 83 #[.agg #[.int .i64 (P:Nat),.int .i64 (M:Nat),.slice A k c,.int .i64 (N:Nat),.slice T n d],.slice U l uc] w (ErrsPost (WordErrs (P ^ M) N l u) w):=by
 have HC:=hid h
 have HU:=hid hu
 have hN:=h.ln2
 have hfo:=h.fld.1
 clear h hu
 have rf:=zbN (w:=w) (a:=.int .i64 (P:Nat)) (b:=.int .i64 (M:Nat)) (c:=.slice A k c) (d:=.int .i64 (N:Nat)) (e:=.slice T n d) (T := 27)
 have hB:Below w.heap.size w (w.alloc (.cells #[.int .i64 (P:Nat),.int .i64 (M:Nat),.slice A k c,.int .i64 (N:Nat),.slice T n d] 27)):=(Below.refl _ _).alloc (Nat.le_refl _) _
 obtain ⟨w1,hw1⟩:∃ W,W=w.alloc (.cells #[.int .i64 (P:Nat),.int .i64 (M:Nat),.slice A k c,.int .i64 (N:Nat),.slice T n d] 27):=⟨_,rfl⟩
 rw [<-hw1] at hB rf
 go_enter Tryz.func83, Tryz.ntmps83
 go_upto_region 1 with fail
 rw [<-hw1]
 clear hw1
 have q0:w1.cell? ⟨w.heap.size,0,none⟩=some (.int .i64 (P:Nat)):=rf.cell (i:=0) (by omega)
 have q1:w1.cell? ⟨w.heap.size,1,none⟩=some (.int .i64 (M:Nat)):=rf.cell (i:=1) (by omega)
 have q2:w1.cell? ⟨w.heap.size,2,none⟩=some (.slice A k c):=rf.cell (i:=2) (by omega)
 have q3:w1.cell? ⟨w.heap.size,3,none⟩=some (.int .i64 (N:Nat)):=rf.cell (i:=3) (by omega)
 have q4:w1.cell? ⟨w.heap.size,4,none⟩=some (.slice T n d):=rf.cell (i:=4) (by omega)
 go_wp2_with fail
 have h1:=HC.out.on hB
 refine (zf7 (P:Int) (M:Int) A k c _ (N:Int) T n d _ _ w1 h1.ints h1.rows).mono ?_
 rintro e w2 ⟨v,rfl,hv,kb⟩
 obtain rfl:v=0:=FirstErr.unique hv HC.out.errs
 replace hB:=onS hB kb
 replace q0:=cellS kb q0
 replace q1:=cellS kb q1
 replace q2:=cellS kb q2
 replace q3:=cellS kb q3
 clear kb q4 rf hv h1
 go_wp2_with fail
 refine (list12_any P M A k c U l uc N u w2 hfo (HU.out.on hB) hn).mono ?_
 rintro e w3 ⟨v,rfl,hv,kb⟩
 have HV:=hid hv
 replace hB:=onS hB kb
 clear hv kb q0 q1 q2 q3
 go_wp2
 go_ret
 exact errsPost HV.out hB
theorem sumM_le {α:Type} {f g:α->Rat}:∀ {l:List α},(∀ x,x ∈ l->f x<=g x)->sumM f l<=sumM g l
 | [],_=>Rat.le_refl
 | a :: l,h=>by
  have h1:=h a (by simp)
  have h2:=sumM_le (f:=f) (g:=g) (l:=l) fun x hx=>h x (by simp [hx])
  show f a+sumM f l<=g a+sumM g l
  grind
theorem sumK_val {q:Nat} {add mul:Nat->Nat->Nat} [Add (El q)] [Mul (El q)] [Neg (El q)] [Zero (El q)] [One (El q)] (hq:0<q) (O:OnEl q add mul) {x y:Nat->Nat}:∀ n,(∀ j,j<n->x j<q/\y j<q)->(sumK n (fun j=>toEl q hq (x j)*toEl q hq (y j))).val=dotN add mul x y n
 | 0,_=>O.h0
 | n+1,h=>by
  show (sumK n (fun j=>toEl q hq (x j)*toEl q hq (y j))+toEl q hq (x n)*toEl q hq (y n)).val=_
  rw [O.ha,O.hm,sumK_val hq O n fun j hj=>h j (by omega),zaD hq (h n (by omega)).1,zaD hq (h n (by omega)).2]
  rfl
theorem ev_head (a:Nat->Rat) (x:Rat):∀ m,evR a x (m+1)=a 0+x*evR (fun i=>a (i+1)) x m
 | 0=>by show evR a x 0+a 0*powR x 0=_; rw [zjs,zfK,zjs]; grind
 | m+1=>by
  show evR a x (m+1)+a (m+1)*(powR x m*x)=a 0+x*(evR (fun i=>a (i+1)) x m+a (m+1)*powR x m)
  rw [ev_head a x m]
  grind
theorem ev_none {a:Nat->Rat} {x:Rat}:∀ {m:Nat},(∀ i,i<m->a i=0)->evR a x m=0
 | 0,_=>rfl
 | m+1,h=>by
  show evR a x m+a m*powR x m=0
  rw [ev_none (m:=m) fun i hi=>h i (by omega),h m (by omega)]
  grind
theorem ev_div (r:Rat):∀ (m:Nat) (a:Nat->Rat),∃ q:Nat->Rat,(∀ x,evR a x (m+1)=evR a r (m+1)+(x - r)*evR q x m)/\((∀ i,i<m->q i=0)->∀ i,1<=i->i<m+1->a i=0)
 | 0,a=>⟨fun _=>0,fun x=>by rw [ev_head,ev_head,zjs,zjs,zjs]; grind,fun _ i h1 h2=>by omega⟩
 | m + 1, a => by
  obtain ⟨q',h1,h2⟩:=ev_div r m fun i=>a (i+1)
  refine ⟨fun i=>if i=0 then evR (fun i=>a (i+1)) r (m+1) else q' (i - 1),fun x=>?_,fun hq i hi1 hi2=>?_⟩
  ·have e:evR (fun i=>if i=0 then evR (fun i=>a (i+1)) r (m+1) else q' (i - 1)) x (m+1)=evR (fun i=>a (i+1)) r (m+1)+x*evR q' x m:=by
    rw [ev_head,if_pos rfl]
    congr 2
   rw [ev_head a x (m+1),ev_head a r (m+1),e,h1 x]
   grind
  ·have h3:=h2 fun j hj=>by
    have:=hq (j+1) (by omega)
    dsimp only at this
    rwa [if_neg (by omega),Nat.add_sub_cancel] at this
   have h4:=hq 0 (by omega)
   dsimp only at h4
   rw [if_pos rfl,ev_head,ev_none (a:=fun i=>a (i+1+1)) fun j hj=>h3 (j+1) (by omega) (by omega)] at h4
   by_cases e:i=1
   ·rw [e]
    have h5:a (0+1)+r*0=0:=h4
    rw [Nat.zero_add] at h5
    grind
   ·have:=h3 (i - 1) (by omega) (by omega)
    rwa [show i - 1+1=i by omega] at this
theorem poly_zero:∀ (m k:Nat) (a:Nat->Rat),(∀ x:Nat,k<x->evR a (x:Rat) m=0)->∀ i,i<m->a i=0
 | 0,_,_,_,i,hi=>absurd hi (by omega)
 | m + 1, k, a, h, i, hi => by
  obtain ⟨q,h1,h2⟩:=ev_div ((k+1:Nat):Rat) m a
  have h0:=h (k+1) (by omega)
  have hq:=poly_zero m (k+1) q fun x hx=>by
   have h3:=h1 (x:Rat)
   rw [h x (by omega),h0] at h3
   have h4:(x:Rat) - ((k+1:Nat):Rat)≠0:=fun e=>by
    have e2:(x:Rat)=((k+1:Nat):Rat):=by grind
    have e3:x=k+1:=by exact_mod_cast e2
    omega
   have h5:((x:Rat) - ((k+1:Nat):Rat))*evR q (x:Rat) m=0:=by grind
   rcases Rat.mul_eq_zero.1 h5 with h6 | h6
   ·exact absurd h6 h4
   ·exact h6
  have h3:=h2 hq
  by_cases e:i=0
  ·rw [e]
   rw [ev_head,ev_none (a:=fun i=>a (i+1)) fun j hj=>h3 (j+1) (by omega) (by omega)] at h0
   grind
  ·exact h3 i (by omega) hi
theorem poly_same {m:Nat} {a b:Nat->Rat} (h:∀ x:Rat,evR a x m=evR b x m):∀ i,i<m->a i=b i:=fun i hi=>by
 have h1:=poly_zero m 0 (fun j=>a j + -1*b j) (fun x _=>by
  rw [zki]
  have e:∀ n,evR (fun j => -1*b j) (x:Rat) n = -1*evR b (x:Rat) n:=fun n=>by
   induction n with
   | zero=>show (0:Rat) = -1*0; grind
   | succ n ih=>show evR (fun j => -1*b j) (x:Rat) n + -1*b n*powR (x:Rat) n = -1*(evR b (x:Rat) n+b n*powR (x:Rat) n); rw [ih]; grind
  rw [e,h]
  grind) i hi
 grind
section
open Classical
noncomputable def valL (R:(Nat->Bool)->Prop) (p:Rat):List Nat->(Nat->Bool)->Rat
 | [],b=>if R b then 1 else 0
 | j :: l,b=>p*valL R p l (fun i=>if i=j then true else b i)+(1 - p)*valL R p l (fun i=>if i=j then false else b i)
theorem upd_swap {b:Nat->Bool} {i j:Nat} {u v:Bool} (h:i≠j):(fun t=>if t=i then u else if t=j then v else b t)=fun t=>if t=j then v else if t=i then u else b t:=by
 funext t
 by_cases e1:t=i
 ·rw [if_pos e1,if_neg (fun e2=>h (e1.symm.trans e2)),if_pos e1]
 ·by_cases e2:t=j
  ·rw [if_neg e1,if_pos e2,if_pos e2]
  ·rw [if_neg e1,if_neg e2,if_neg e2,if_neg e1]
theorem valL_first (R:(Nat->Bool)->Prop) (p:Rat) (at':Nat):∀ (l m:List Nat) (b:Nat->Bool),at' ∉ l->valL R p (l ++ at' :: m) b=valL R p (at' :: (l ++ m)) b
 | [],_,_,_=>rfl
 | j :: l,m,b,h=>by
  have hj:j≠at':=fun e=>h (by rw [e]; simp)
  have hl:at' ∉ l:=fun e=>h (by simp [e])
  have ih:=fun b=>valL_first R p at' l m b hl
  show p*valL R p (l ++ at' :: m) _+(1 - p)*valL R p (l ++ at' :: m) _=p*(p*valL R p (l ++ m) _+(1 - p)*valL R p (l ++ m) _)+(1 - p)*(p*valL R p (l ++ m) _+(1 - p)*valL R p (l ++ m) _)
  rw [ih,ih]
  show p*(p*valL R p (l ++ m) _+(1 - p)*valL R p (l ++ m) _)+(1 - p)*(p*valL R p (l ++ m) _+(1 - p)*valL R p (l ++ m) _)=_
  rw [upd_swap (b:=b) (u:=true) (v:=true) hj,upd_swap (b:=b) (u:=true) (v:=false) hj,upd_swap (b:=b) (u:=false) (v:=true) hj,upd_swap (b:=b) (u:=false) (v:=false) hj]
  grind
theorem valL_congr {R S:(Nat->Bool)->Prop} {p:Rat}:∀ {l:List Nat} {b c:Nat->Bool},(∀ u v:Nat->Bool,(∀ i,i ∈ l->u i=v i)->(∀ i,i ∉ l->u i=b i/\v i=c i)->(R u↔S v))->valL R p l b=valL S p l c
 | [],b,c,h=>by
  have:=h b c (fun i hi=>by simp at hi) fun i _=>⟨rfl,rfl⟩
  show (if R b then (1:Rat) else 0)=if S c then 1 else 0
  by_cases e:R b
  ·rw [if_pos e,if_pos (this.1 e)]
  ·rw [if_neg e,if_neg (fun g=>e (this.2 g))]
 | j :: l, b, c, h => by
  have key:∀ t:Bool,valL R p l (fun i=>if i=j then t else b i)=valL S p l (fun i=>if i=j then t else c i):=fun t=>valL_congr fun u v h1 h2=>h u v (fun i hi=>by
   by_cases e:i ∈ l
   ·exact h1 i e
   ·have e2:i=j:=by
     rcases List.mem_cons.1 hi with e3 | e3
     ·exact e3
     ·exact absurd e3 e
    obtain ⟨g1,g2⟩:=h2 i e
    rw [g1,g2,if_pos e2,if_pos e2]) fun i hi=>by
   have e:i ∉ l:=fun g=>hi (by simp [g])
   have e2:i≠j:=fun g=>hi (by simp [g])
   obtain ⟨g1,g2⟩:=h2 i e
   rw [g1,g2,if_neg e2,if_neg e2]
   exact ⟨rfl,rfl⟩
  show p*valL R p l _+(1 - p)*valL R p l _=p*valL S p l _+(1 - p)*valL S p l _
  rw [key true,key false]
theorem valL_map {R:(Nat->Bool)->Prop} {p:Rat} {f:Nat->Nat} (hf:∀ i j,f i=f j->i=j):∀ (l:List Nat) (b:Nat->Bool),valL R p (l.map f) b=valL (fun v=>R fun t=>if (∃ i,i ∈ l/\f i=t) then v (Classical.epsilon fun i=>f i=t) else b t) p l fun i=>b (f i)
 | [], b => by
  show (if R b then (1:Rat) else 0)=if R _ then 1 else 0
  have:(fun t=>if (∃ i,i ∈ ([]:List Nat)/\f i=t) then (fun i=>b (f i)) (Classical.epsilon fun i=>f i=t) else b t)=b:=by
   funext t
   exact if_neg fun ⟨i,hi,_⟩=>by simp at hi
  rw [this]
 | j :: l, b => by
  have heps:∀ i,(Classical.epsilon fun k=>f k=f i)=i:=fun i=>hf _ _ (Classical.epsilon_spec (p:=fun k=>f k=f i) ⟨i,rfl⟩)
  have key:∀ t:Bool,valL R p (l.map f) (fun i=>if i=f j then t else b i)=valL (fun v=>R fun u=>if (∃ i,i ∈ j :: l/\f i=u) then v (Classical.epsilon fun i=>f i=u) else b u) p l (fun i=>if i=j then t else b (f i)):=fun t=>by
   rw [valL_map hf l]
   refine valL_congr fun u v h1 h2=>?_
   have:(fun s=>if (∃ i,i ∈ l/\f i=s) then u (Classical.epsilon fun i=>f i=s) else if s=f j then t else b s)=fun s=>if (∃ i,i ∈ j :: l/\f i=s) then v (Classical.epsilon fun i=>f i=s) else b s:=by
    funext s
    by_cases e:∃ i,i ∈ l/\f i=s
    ·obtain ⟨i,hi,rfl⟩:=e
     rw [if_pos ⟨i,hi,rfl⟩,if_pos ⟨i,by simp [hi],rfl⟩,heps,h1 i hi]
    ·by_cases e2:s=f j
     ·rw [if_neg e,if_pos e2,if_pos ⟨j,by simp,e2.symm⟩,e2,heps]
      have hjl:j ∉ l:=fun g=>e ⟨j,g,e2.symm⟩
      have:=(h2 j hjl).2
      rw [this,if_pos rfl]
     ·rw [if_neg e,if_neg e2,if_neg]
      rintro ⟨i,hi,hs⟩
      rcases List.mem_cons.1 hi with rfl | hi
      ·exact e2 hs.symm
      ·exact e ⟨i,hi,hs⟩
   rw [this]
  show p*valL R p (l.map f) _+(1 - p)*valL R p (l.map f) _=p*valL _ p l _+(1 - p)*valL _ p l _
  rw [key true,key false]
end
section
open Classical
def RecF (C:(Nat->Nat)->Prop) (N:Nat) (b:Nat->Bool):Prop:=∀ x,C x->(∀ j,j<N->b j=false->x j=0)->∀ j,j<N->x j=0
theorem valE_valL (T:MsgP->Prop) (D:Nat->MsgP) (p:Rat):∀ (r i:Nat) (K:MsgP) (b:Nat->Bool),valE T D p r i K=valL (fun b=>T fun c=>K c/\∀ j,i<=j->j<i+r->b j=false->D j c) p (List.range' i r) b
 | 0, i, K, b => by
  have e:(fun c=>K c/\∀ j,i<=j->j<i+0->b j=false->D j c)=K:=by
   funext c
   exact propext ⟨fun h=>h.1,fun h=>⟨h,fun j h1 h2=>by omega⟩⟩
  show (if T K then (1:Rat) else 0)=if T (fun c=>K c/\∀ j,i<=j->j<i+0->b j=false->D j c) then 1 else 0
  rw [e]
 | r + 1, i, K, b => by
  have hni:i ∉ List.range' (i+1) r:=fun h=>by have:=List.mem_range'_1.1 h; omega
  have same:∀ {t:Bool} {u v:Nat->Bool},(∀ j,j ∈ List.range' (i+1) r->u j=v j)->(∀ j,j ∉ List.range' (i+1) r->u j=(if j=i then t else b j)/\v j=if j=i then t else b j)->u=v/\v i=t:=fun {t u v} h1 h2=>by
   refine ⟨?_,?_⟩
   ·funext j
    by_cases e:j ∈ List.range' (i+1) r
    ·exact h1 j e
    ·rw [(h2 j e).1,(h2 j e).2]
   ·have:=(h2 i hni).2
    rwa [if_pos rfl] at this
  show p*valE T D p r (i+1) K+(1 - p)*valE T D p r (i+1) (fun c=>K c/\D i c)=_
  rw [List.range'_succ]
  show _=p*valL _ p (List.range' (i+1) r) _+(1 - p)*valL _ p (List.range' (i+1) r) _
  rw [valE_valL T D p r (i+1) K fun j=>if j=i then true else b j,valE_valL T D p r (i+1) (fun c=>K c/\D i c) fun j=>if j=i then false else b j]
  have k1:valL (fun b=>T fun c=>K c/\∀ j,i+1<=j->j<i+1+r->b j=false->D j c) p (List.range' (i+1) r) (fun j=>if j=i then true else b j)=valL (fun b=>T fun c=>K c/\∀ j,i<=j->j<i+(r+1)->b j=false->D j c) p (List.range' (i+1) r) (fun j=>if j=i then true else b j):=by
   refine valL_congr fun u v h1 h2=>?_
   obtain ⟨e1,e2⟩:=same h1 h2
   rw [e1]
   have e:(fun c=>K c/\∀ j,i+1<=j->j<i+1+r->v j=false->D j c)=fun c=>K c/\∀ j,i<=j->j<i+(r+1)->v j=false->D j c:=by
    funext c
    refine propext ⟨fun h=>⟨h.1,fun j g1 g2 g3=>?_⟩,fun h=>⟨h.1,fun j g1 g2 g3=>h.2 j (by omega) (by omega) g3⟩⟩
    by_cases e:j=i
    ·rw [e,e2] at g3; cases g3
    ·exact h.2 j (by omega) (by omega) g3
   rw [e]
  have k2:valL (fun b=>T fun c=>(K c/\D i c)/\∀ j,i+1<=j->j<i+1+r->b j=false->D j c) p (List.range' (i+1) r) (fun j=>if j=i then false else b j)=valL (fun b=>T fun c=>K c/\∀ j,i<=j->j<i+(r+1)->b j=false->D j c) p (List.range' (i+1) r) (fun j=>if j=i then false else b j):=by
   refine valL_congr fun u v h1 h2=>?_
   obtain ⟨e1,e2⟩:=same h1 h2
   rw [e1]
   have e:(fun c=>(K c/\D i c)/\∀ j,i+1<=j->j<i+1+r->v j=false->D j c)=fun c=>K c/\∀ j,i<=j->j<i+(r+1)->v j=false->D j c:=by
    funext c
    refine propext ⟨fun h=>⟨h.1.1,fun j g1 g2 g3=>?_⟩,fun h=>⟨⟨h.1,h.2 i (by omega) (by omega) e2⟩,fun j g1 g2 g3=>h.2 j (by omega) (by omega) g3⟩⟩
    by_cases e:j=i
    ·rw [e]; exact h.1.2
    ·exact h.2 j (by omega) (by omega) g3
   rw [e]
  rw [k1,k2]
theorem val_words {q n N:Nat} {add mul:Nat->Nat->Nat} {V:Nat->Nat->Nat} (hL:FieldLaws q add mul) (hV:RrefN q n N V) (p:Rat) (b:Nat->Bool):valE (Triv q n) (ColD add mul n V) p N 0 (fun _=>True)=valL (RecF (InSp q add mul n N V) N) p (List.range N) b:=by
 rw [valE_valL _ _ p N 0 _ b,List.range_eq_range']
 obtain ⟨pv,hE⟩:=hV
 refine valL_congr fun u v h1 h2=>?_
 have huv:u=v:=by
  funext j
  by_cases e:j ∈ List.range' 0 N
  ·exact h1 j e
  ·rw [(h2 j e).1,(h2 j e).2]
 rw [huv]
 constructor
 ·rintro h x ⟨c,hc,hx⟩ hz j hj
  have h0:=h c hc ⟨trivial,fun t _ ht hb=>by
   show dotN add mul c (fun s=>V s t) n=0
   rw [zhE,<-hx t (by omega)]
   exact hz t (by omega) hb⟩
  rw [hx j hj,<-zhE]
  exact zeo hL n (fun t ht=>hE.lt t ht j hj) _ h0
 ·rintro h c hc ⟨_,hk⟩ t ht
  have:=h (fun j=>spE add mul V c n j) ⟨c,hc,fun _ _=>rfl⟩ (fun j hj hb=>by
   have:=hk j (by omega) (by omega) hb
   unfold ColD at this
   rwa [zhE] at this) (pv t) (hE.pvlt t ht)
  rwa [hE.spE_pv hL hc ht] at this
def skipN (a i:Nat):Nat:=if i<a then i else i+1
theorem skipN_inj {a i j:Nat} (h:skipN a i=skipN a j):i=j:=by
 unfold skipN at h
 split at h <;> split at h <;> omega
theorem skipN_ne (a i:Nat):skipN a i≠a:=by unfold skipN; split <;> omega
theorem skipN_sur {a j N:Nat} (h:j≠a) (hj:j<N) (ha:a<N):∃ i,i<N - 1/\skipN a i=j:=by
 by_cases e:j<a
 ·exact ⟨j,by omega,if_pos e⟩
 ·exact ⟨j - 1,by omega,by unfold skipN; rw [if_neg (by omega)]; omega⟩
theorem skipN_lt {a i N:Nat} (hi:i<N - 1):skipN a i<N:=by unfold skipN; split <;> omega
def ShortC (C:(Nat->Nat)->Prop) (N a:Nat) (y:Nat->Nat):Prop:=∃ x,C x/\x a=0/\∀ i,i<N - 1->y i=x (skipN a i)
def PunctC (C:(Nat->Nat)->Prop) (N a:Nat) (y:Nat->Nat):Prop:=∃ x,C x/\∀ i,i<N - 1->y i=x (skipN a i)
def UnitC (C:(Nat->Nat)->Prop) (N a:Nat):Prop:=∃ x,C x/\x a≠0/\∀ j,j<N->j≠a->x j=0
theorem valL_false (p:Rat):∀ (l:List Nat) (b:Nat->Bool),valL (fun _=>False) p l b=0
 | [],b=>if_neg fun h=>h
 | j :: l,b=>by
  show p*valL _ p l _+(1 - p)*valL _ p l _=0
  rw [valL_false p l,valL_false p l]
  grind
theorem range_split {a N:Nat} (ha:a<N):List.range N=List.range a ++ a :: List.range' (a+1) (N - 1 - a):=by
 obtain ⟨d,hd⟩:∃ d,d=N - 1 - a:=⟨_,rfl⟩
 rw [<-hd,List.range_eq_range',List.range_eq_range',show N=a+(d+1) by omega,<-List.range'_append_1,Nat.zero_add,List.range'_succ]
theorem range_skip {a N:Nat} (ha:a<N):(List.range (N - 1)).map (skipN a)=List.range a ++ List.range' (a+1) (N - 1 - a):=by
 refine List.ext_getElem (by simp; omega) fun i h1 h2=>?_
 simp only [List.length_map,List.length_range] at h1
 rw [List.getElem_map,List.getElem_range,List.getElem_append]
 unfold skipN
 by_cases e:i<a
 ·rw [if_pos e,dif_pos (by simpa using e),List.getElem_range]
 ·rw [if_neg e,dif_neg (by simpa using e),List.getElem_range',List.length_range]
  omega
theorem rec_at {C:(Nat->Nat)->Prop} {N a:Nat} (ha:a<N) (p:Rat) (b b1:Nat->Bool) (t:Bool) (S:(Nat->Bool)->Prop)
  (hS:∀ (B v:Nat->Bool),B a=t->(∀ i,i<N - 1->B (skipN a i)=v i)->(RecF C N B↔S v)) :
  valL (RecF C N) p (List.range a ++ List.range' (a+1) (N - 1 - a)) (fun i=>if i=a then t else b i)=valL S p (List.range (N - 1)) b1:=by
 rw [<-range_skip ha,valL_map (fun i j h=>skipN_inj h)]
 refine valL_congr fun u v h1 h2=>?_
 refine hS _ v ?_ fun i hi=>?_
 ·rw [if_neg (fun ⟨i,_,h⟩=>skipN_ne a i h),if_pos rfl]
 ·rw [if_pos ⟨i,List.mem_range.2 hi,rfl⟩]
  have:(Classical.epsilon fun k=>skipN a k=skipN a i)=i:=skipN_inj (Classical.epsilon_spec (p:=fun k=>skipN a k=skipN a i) ⟨i,rfl⟩)
  rw [this]
  exact h1 i (List.mem_range.2 hi)
theorem rec_split {C:(Nat->Nat)->Prop} {N a:Nat} (ha:a<N) (p:Rat) (b b1:Nat->Bool) :
  valL (RecF C N) p (List.range N) b=(1 - p)*valL (RecF (ShortC C N a) (N - 1)) p (List.range (N - 1)) b1+if UnitC C N a then 0 else p*valL (RecF (PunctC C N a) (N - 1)) p (List.range (N - 1)) b1:=by
 rw [range_split ha,valL_first _ _ _ _ _ _ (by simp)]
 show p*valL _ p _ _+(1 - p)*valL _ p _ _=_
 rw [rec_at ha p b b1 false (RecF (ShortC C N a) (N - 1)) fun B v h0 hB=>?_]
 ·by_cases hu:UnitC C N a
  ·rw [if_pos hu,rec_at ha p b b1 true (fun _=>False) fun B v h0 hB=>?_,valL_false]
   ·grind
   ·refine ⟨fun h=>?_,fun h=>h.elim⟩
    obtain ⟨x,hx,hne,hz⟩:=hu
    exact hne (h x hx (fun j hj hb=>hz j hj fun e=>by rw [e,h0] at hb; cases hb) a ha)
  ·rw [if_neg hu, rec_at ha p b b1 true (RecF (PunctC C N a) (N - 1)) fun B v h0 hB => ?_]
   ·grind
   ·constructor
    ·rintro h y ⟨x,hx,hy⟩ hz i hi
     have:=h x hx (fun j hj hb=>by
      have hja:j≠a:=fun e=>by rw [e,h0] at hb; cases hb
      obtain ⟨k,hk,rfl⟩:=skipN_sur hja hj ha
      rw [<-hy k hk]
      exact hz k hk (by rw [<-hB k hk]; exact hb)) (skipN a i) (skipN_lt hi)
     rw [hy i hi]
     exact this
    ·intro h x hx hz
     have h1:=h (fun i=>x (skipN a i)) ⟨x,hx,fun _ _=>rfl⟩ fun i hi hb=>hz _ (skipN_lt hi) (by rw [hB i hi]; exact hb)
     have h2:∀ j,j<N->j≠a->x j=0:=fun j hj hne=>by
      obtain ⟨k,hk,rfl⟩:=skipN_sur hne hj ha
      exact h1 k hk
     intro j hj
     by_cases e:j=a
     ·rw [e]
      by_cases e2:x a=0
      ·exact e2
      ·exact absurd ⟨x,hx,e2,h2⟩ hu
     ·exact h2 j hj e
 ·constructor
  ·rintro h y ⟨x,hx,hxa,hy⟩ hz i hi
   have:=h x hx (fun j hj hb=>by
    by_cases e:j=a
    ·rw [e]; exact hxa
    ·obtain ⟨k,hk,rfl⟩:=skipN_sur e hj ha
     rw [<-hy k hk]
     exact hz k hk (by rw [<-hB k hk]; exact hb)) (skipN a i) (skipN_lt hi)
   rw [hy i hi]
   exact this
  ·intro h x hx hz
   have hxa:=hz a ha h0
   have h1:=h (fun i=>x (skipN a i)) ⟨x,hx,hxa,fun _ _=>rfl⟩ fun i hi hb=>hz _ (skipN_lt hi) (by rw [hB i hi]; exact hb)
   intro j hj
   by_cases e:j=a
   ·rw [e]; exact hxa
   ·obtain ⟨k,hk,rfl⟩:=skipN_sur e hj ha
    exact h1 k hk
end
section
variable {K:Type} [Add K] [Mul K] [Neg K] [Zero K] [One K] (F:Fie K)
include F
theorem dot_comm' {k:Nat} {x y:List K} (hx:x.length=k) (hy:y.length=k):dotW x y=dotW y x:=by
 rw [dot_sum F hx hy,dot_sum F hy hx]
 exact zbL fun i _=>F.mulC _ _
theorem perp_lin {n:Nat} {C:List K->Prop} (hC:LinC n C):LinC n (perpW n C):=by
 refine ⟨fun x h=>h.1,⟨by simp,fun y hy=>dot_repL F (hC.len y hy)⟩,fun x y hx hy=>⟨by rw [zgB (by rw [hx.1,hy.1]),hx.1],fun z hz=>?_⟩,fun a x hx=>⟨by rw [zdZ,hx.1],fun z hz=>?_⟩⟩
 ·rw [dot_addL F x y z (by rw [hx.1,hy.1]),hx.2 z hz,hy.2 z hz,F.zeroA]
 ·rw [dot_smulL F,hx.2 z hz,F.mulZ]
theorem perp_perp {L:List K} (hn:L.Nodup) (hc:∀ a,a ∈ L) {n:Nat} {C:List K->Prop} (hC:LinC n C) (x:List K):perpW n (perpW n C) x↔C x:=by
 classical
 have sub:∀ y,C y->perpW n (perpW n C) y:=fun y hy=>⟨hC.len y hy,fun z hz=>by rw [dot_comm' F (hC.len y hy) hz.1]; exact hz.2 y hy⟩
 refine ⟨fun h=>?_,sub x⟩
 by_cases hx:C x
 ·exact hx
 ·have h1:=(mac F hn hc n C hC).1
  have h2:=(mac F hn hc n (perpW n C) (perp_lin F hC)).1
  have hq0:rpow ((L.length:Nat):Rat) n≠0:=by
   refine rpow_ne ?_ n
   intro e
   have e2:L.length=0:=by simpa using e
   have e3:=List.length_eq_zero_iff.1 e2
   have:=hc 0
   rw [e3] at this
   simp at this
  have h3:cntW L n (perpW n C)≠0:=fun e=>hq0 (by rw [<-h1,e,Rat.mul_zero])
  have h4:cntW L n C=cntW L n (perpW n (perpW n C)):=by
   have h5:cntW L n (perpW n C)*cntW L n C=cntW L n (perpW n C)*cntW L n (perpW n (perpW n C)):=by rw [h2,Rat.mul_comm,h1]
   have h6:cntW L n (perpW n C)*(cntW L n C - cntW L n (perpW n (perpW n C)))=0:=by grind
   rcases Rat.mul_eq_zero.1 h6 with h7 | h7
   ·exact absurd h7 h3
   ·grind
  have hone:=sumM_one (l:=allW L n) (zhb hn n) (a:=x) (allW_mem hc n x h.1) (fun y=>y=x) (fun _=>Iff.rfl) (fun _=>(1:Rat))
  have hle:sumM (fun y=>(if C y then (1:Rat) else 0)+if y=x then (1:Rat) else 0) (allW L n)<=sumM (fun y=>if perpW n (perpW n C) y then (1:Rat) else 0) (allW L n):=sumM_le fun y _=>by
   by_cases e:y=x
   ·rw [e,if_neg hx,if_pos rfl,if_pos h]; decide +kernel
   ·rw [if_neg e]
    by_cases e2:C y
    ·rw [if_pos e2,if_pos (sub y e2)]; decide +kernel
    ·rw [if_neg e2]; split <;> decide +kernel
  have hone':sumM (fun y=>if y=x then (1:Rat) else 0) (allW L n)=1:=by
   refine Eq.trans (sumM_congr fun y _=>?_) hone
   by_cases e:y=x
   ·rw [if_pos e,if_pos e]
   ·rw [if_neg e,if_neg e]
  rw [sumM_add,hone'] at hle
  have h8:cntW L n C+1<=cntW L n (perpW n (perpW n C)):=hle
  rw [<-h4] at h8
  grind
end
section
variable {q n N ap a1 a2 a:Nat} {add mul:Nat->Nat->Nat} {neg:Nat->Nat} {V Wp U1 W2:Nat->Nat->Nat}
def addRow (m:Nat) (W:Nat->Nat->Nat) (r:Nat->Nat) (i:Nat):Nat->Nat:=if i=m then r else W i
theorem inside_iff (hL:FieldLaws q add mul) (hneg:∀ x,x<q->neg x<q/\add x (neg x)=0) (hV:RrefN q n N V) (hp:NullRel q add mul neg n N V ap Wp) (hU:RrefN q a1 N U1) (hs:SameSp q add mul N (ap+1) a1 (addRow ap Wp fun j=>if j=a then 1 else 0) U1) (hd:NullRel q add mul neg a1 N U1 a2 W2) (ha:a<N) {x:Nat->Nat} (hx:∀ j,j<N->x j<q) :
  InSp q add mul a2 N W2 x↔InSp q add mul n N V x/\x a=0:=by
 have hq2:=hL.two
 have hq:0<q:=by omega
 obtain ⟨iA,iM,iN,i0,i1,F,hva,hvm,h0,h1⟩:=zi5 hL
 have O:OnEl q add mul:=⟨F,hva,hvm,h0,h1⟩
 obtain ⟨pv,hE⟩:=id hV
 obtain ⟨pu,hEU⟩:=id hU
 obtain ⟨pp,hEp⟩:=hp.rref
 obtain ⟨pd,hEd⟩:=hd.rref
 obtain ⟨L,hLd⟩:∃ L:List (El q),L=(List.range q).map (toEl q hq):=⟨_,rfl⟩
 have hn:L.Nodup:=by
  rw [hLd]
  exact zbT List.nodup_range fun a ha b hb e=>zeZ hq (List.mem_range.1 ha) (List.mem_range.1 hb) e
 have hc:∀ a,a ∈ L:=fun a=>by
  rw [hLd]
  exact List.mem_map.2 ⟨a.val,List.mem_range.2 a.lt,El.ext' (zaD hq a.lt)⟩
 have hU0:∀ i,i<ap+1->∀ j,j<N->addRow ap Wp (fun j=>if j=a then 1 else 0) i j<q:=fun i hi j hj=>by
  unfold addRow
  by_cases e:i=ap
  ·rw [if_pos e]; show (if j=a then 1 else 0)<q; split <;> omega
  ·rw [if_neg e]; exact hEp.lt i (by omega) j hj
 have g1:=zbM hq F hL hva hvm h0 hEd.lt hx
 have g2:=zbM hq F hL hva hvm h0 hE.lt hx
 have hlx:=zd0 hq N x
 rw [g1,g2,<-NullRel.perp hq O hL hneg hEU.lt hd]
 have hgU:∀ y,Gen N a1 (fun i=>wordK q hq N (U1 i)) y↔Gen N (ap+1) (fun i=>wordK q hq N (addRow ap Wp (fun j=>if j=a then 1 else 0) i)) y:=fun y=>(gen_same hq O hL hU0 hEU.lt hs y).symm
 have hperpV:perpW N (Gen N ap fun i=>wordK q hq N (Wp i)) (wordK q hq N x)↔Gen N n (fun i=>wordK q hq N (V i)) (wordK q hq N x):=by
  rw [<-perp_perp F hn hc (Gen.linC fun i _=>zd0 hq N (V i)) (wordK q hq N x)]
  constructor
  ·rintro ⟨h2,h3⟩
   exact ⟨h2,fun y hy=>h3 y ((NullRel.perp hq O hL hneg hE.lt hp y).1 hy)⟩
  ·rintro ⟨h2,h3⟩
   exact ⟨h2,fun y hy=>h3 y ((NullRel.perp hq O hL hneg hE.lt hp y).2 hy)⟩
 have hunit:∀ y:Nat->Nat,(∀ j,j<N->y j<q)->(dotW (wordK q hq N y) (wordK q hq N fun j=>if j=a then 1 else 0)=0↔y a=0):=fun y hy=>by
  have hul:∀ j,j<N->(if j=a then 1 else 0)<q:=fun j _=>by split <;> omega
  have e1:=sumK_val hq O (x:=y) (y:=fun j=>if j=a then 1 else 0) N fun j hj=>⟨hy j hj,hul j hj⟩
  have e2:dotW (wordK q hq N y) (wordK q hq N fun j=>if j=a then 1 else 0)=sumK N (fun j=>toEl q hq (y j)*toEl q hq (if j=a then 1 else 0)):=by
   rw [dot_sum F (zd0 hq N _) (zd0 hq N _)]
   exact zbL fun j hj=>by rw [ze5 hq,ze5 hq,zcG hj,zcG hj]
  have e3:dotN add mul y (fun j=>if j=a then 1 else 0) N=y a:=by
   rw [zhy hL (j:=a) N ha (fun i hi=>⟨hy i hi,hul i hi⟩) fun i _ hne=>.inr (if_neg hne),if_pos rfl,hL.mulOne (hy a ha)]
  rw [e2]
  constructor
  ·intro h
   rw [h,h0,e3] at e1
   exact e1.symm
  ·intro h
   exact El.ext' (by rw [e1,e3,h,h0])
 constructor
 ·rintro ⟨h2,h3⟩
  refine ⟨hperpV.1 ⟨h2,fun y hy=>?_⟩,?_⟩
  ·refine h3 y ((hgU y).2 (Gen.sub (fun i hi=>?_) y hy))
   have:=Gen.row (k:=N) (n:=ap+1) (r:=fun i=>wordK q hq N (addRow ap Wp (fun j=>if j=a then 1 else 0) i)) i (by omega)
   have e:addRow ap Wp (fun j=>if j=a then 1 else 0) i=Wp i:=if_neg (by omega)
   rwa [e] at this
  ·have h4:=h3 _ ((hgU _).2 (Gen.row ap (by omega)))
   have e:addRow ap Wp (fun j=>if j=a then 1 else 0) ap=fun j=>if j=a then 1 else 0:=if_pos rfl
   rw [e] at h4
   exact (hunit x hx).1 h4
 ·rintro ⟨h2,h3⟩
  obtain ⟨h4,h5⟩:=hperpV.2 h2
  refine ⟨h4,fun y hy=>?_⟩
  refine Gen.perp F (fun i _=>zd0 hq N _) (fun i hi=>?_) y ((hgU y).1 hy)
  by_cases e:i=ap
  ·have e2:addRow ap Wp (fun j=>if j=a then 1 else 0) i=fun j=>if j=a then 1 else 0:=if_pos e
   rw [e2]
   exact (hunit x hx).2 h3
  ·have e2:addRow ap Wp (fun j=>if j=a then 1 else 0) i=Wp i:=if_neg e
   rw [e2]
   exact h5 _ (Gen.row i (by omega))
end
section
variable {q n N:Nat} {add mul:Nat->Nat->Nat} {V:Nat->Nat->Nat}
theorem spE_skip' (a:Nat) (c:Nat->Nat):∀ (t i:Nat),spE add mul (fun i j=>V i (skipN a j)) c t i=spE add mul V c t (skipN a i)
 | 0,_=>rfl
 | t+1,i=>by
  show add (spE add mul (fun i j=>V i (skipN a j)) c t i) _=add (spE add mul V c t (skipN a i)) _
  rw [spE_skip' a c t i]
theorem spE_scale (hL:FieldLaws q add mul) {c:Nat->Nat} {y:Nat} (hy:y<q) {j:Nat} (hV:∀ i,i<n->V i j<q) (hc:∀ i,i<n->c i<q):∀ t,t<=n->spE add mul V (fun i=>mul y (c i)) t j=mul y (spE add mul V c t j)
 | 0,_=>(hL.mulZero hy).symm
 | t+1,ht=>by
  show add (spE add mul V (fun i=>mul y (c i)) t j) (mul (mul y (c t)) (V t j))=mul y (add (spE add mul V c t j) (mul (c t) (V t j)))
  rw [spE_scale hL hy hV hc t (by omega),hL.distrib _ _ _ hy (zhW hL _ _ _) (hL.mulLt _ _),hL.mulAssoc _ _ _ hy (hc t (by omega)) (hV t (by omega))]
theorem inSp_lt (hL:FieldLaws q add mul) {x:Nat->Nat} (h:InSp q add mul n N V x):∀ j,j<N->x j<q:=fun j hj=>by
 obtain ⟨c,_,hx⟩:=h
 rw [hx j hj]
 exact zhW hL _ _ _
theorem unit_iff (hL:FieldLaws q add mul) (hV:∀ i,i<n->∀ j,j<N->V i j<q) {a:Nat} (ha:a<N):UnitC (InSp q add mul n N V) N a↔InSp q add mul n N V (fun j=>if j=a then 1 else 0):=by
 have hq:=hL.two
 constructor
 ·rintro ⟨x,hx,hne,hz⟩
  have hlt:=inSp_lt hL hx
  obtain ⟨c,hc,hxc⟩:=hx
  obtain ⟨y,hy,hxy⟩:=hL.inv (x a) (hlt a ha) hne
  refine ⟨fun i=>mul y (c i),fun i _=>hL.mulLt _ _,fun j hj=>?_⟩
  rw [spE_scale hL hy (fun i hi=>hV i hi j hj) hc n (Nat.le_refl _),<-hxc j hj]
  by_cases e:j=a
  ·show (if j=a then 1 else 0)=_
   rw [if_pos e,e,hL.mulComm _ _ hy (hlt a ha),hxy]
  ·show (if j=a then 1 else 0)=_
   rw [if_neg e,hz j hj e,hL.mulZero hy]
 ·intro h
  exact ⟨_,h,by show (if a=a then 1 else 0)≠0; rw [if_pos rfl]; omega,fun j _ hne=>if_neg hne⟩
theorem punct_iff {a nd:Nat} {Vd:Nat->Nat->Nat} (hs:SameSp q add mul (N - 1) n nd (fun i j=>V i (skipN a j)) Vd) (y:Nat->Nat):PunctC (InSp q add mul n N V) N a y↔InSp q add mul nd (N - 1) Vd y:=by
 rw [<-hs y]
 constructor
 ·rintro ⟨x,⟨c,hc,hx⟩,hy⟩
  exact ⟨c,hc,fun i hi=>by rw [hy i hi,spE_skip',hx _ (skipN_lt hi)]⟩
 ·rintro ⟨c,hc,hy⟩
  exact ⟨fun j=>spE add mul V c n j,⟨c,hc,fun _ _=>rfl⟩,fun i hi=>by rw [hy i hi,spE_skip']⟩
theorem short_iff (hL:FieldLaws q add mul) {a a2 nb:Nat} {W2 Vb:Nat->Nat->Nat} (hin:∀ x:Nat->Nat,(∀ j,j<N->x j<q)->(InSp q add mul a2 N W2 x↔InSp q add mul n N V x/\x a=0)) (hs:SameSp q add mul (N - 1) a2 nb (fun i j=>W2 i (skipN a j)) Vb) (y:Nat->Nat):ShortC (InSp q add mul n N V) N a y↔InSp q add mul nb (N - 1) Vb y:=by
 rw [<-hs y]
 constructor
 ·rintro ⟨x,hx,hxa,hy⟩
  obtain ⟨c,hc,hxc⟩:=(hin x (inSp_lt hL hx)).2 ⟨hx,hxa⟩
  exact ⟨c,hc,fun i hi=>by rw [hy i hi,spE_skip',hxc _ (skipN_lt hi)]⟩
 ·rintro ⟨c,hc,hy⟩
  obtain ⟨h1,h2⟩:=(hin (fun j=>spE add mul W2 c a2 j) fun j _=>zhW hL _ _ _).1 ⟨c,hc,fun _ _=>rfl⟩
  exact ⟨_,h1,h2,fun i hi=>by rw [hy i hi,spE_skip']⟩
theorem recF_congr {C C':(Nat->Nat)->Prop} (h:∀ x,C x↔C' x) (N:Nat) (b:Nat->Bool):RecF C N b↔RecF C' N b :=
 ⟨fun g x hx=>g x ((h x).2 hx),fun g x hx=>g x ((h x).1 hx)⟩
end
noncomputable def recPoly (P M:Nat) (m:Nat->Nat) (n:Nat) (V:Nat->Nat->Nat) (N:Nat):Nat × (Nat->Rat):=wtP 2 N (recC P M m n V N) (N+1)
open Classical in
theorem con_vals {P M n N a a2 nb nd:Nat} {m:Nat->Nat} {V W2 Vb Vd:Nat->Nat->Nat} (hL:FieldLaws (P ^ M) (addF P M) (mulF P M m)) (ha:a<N) (hV:RrefN (P ^ M) n N V) (hVb:RrefN (P ^ M) nb (N - 1) Vb) (hVd:RrefN (P ^ M) nd (N - 1) Vd)
  (hin:∀ x:Nat->Nat,(∀ j,j<N->x j<P ^ M)->(InSp (P ^ M) (addF P M) (mulF P M m) a2 N W2 x↔InSp (P ^ M) (addF P M) (mulF P M m) n N V x/\x a=0))
  (hsb:SameSp (P ^ M) (addF P M) (mulF P M m) (N - 1) a2 nb (fun i j=>W2 i (skipN a j)) Vb) (hsd:SameSp (P ^ M) (addF P M) (mulF P M m) (N - 1) n nd (fun i j=>V i (skipN a j)) Vd) (p:Rat) :
  evR (recPoly P M m n V N).2 p (recPoly P M m n V N).1=(1 - p)*evR (recPoly P M m nb Vb (N - 1)).2 p (recPoly P M m nb Vb (N - 1)).1+if InSp (P ^ M) (addF P M) (mulF P M m) n N V (fun j=>if j=a then 1 else 0) then 0 else p*evR (recPoly P M m nd Vd (N - 1)).2 p (recPoly P M m nd Vd (N - 1)).1:=by
 unfold recPoly
 rw [zkC,zkC,zkC,val_words hL hV p fun _=>false,val_words hL hVb p fun _=>false,val_words hL hVd p fun _=>false,rec_split ha p (fun _=>false) fun _=>false]
 obtain ⟨pv,hE⟩:=hV
 have e1:valL (RecF (ShortC (InSp (P ^ M) (addF P M) (mulF P M m) n N V) N a) (N - 1)) p (List.range (N - 1)) (fun _=>false)=valL (RecF (InSp (P ^ M) (addF P M) (mulF P M m) nb (N - 1) Vb) (N - 1)) p (List.range (N - 1)) (fun _=>false):=by
  congr 1
  funext b
  exact propext (recF_congr (short_iff hL hin hsb) _ b)
 have e2:valL (RecF (PunctC (InSp (P ^ M) (addF P M) (mulF P M m) n N V) N a) (N - 1)) p (List.range (N - 1)) (fun _=>false)=valL (RecF (InSp (P ^ M) (addF P M) (mulF P M m) nd (N - 1) Vd) (N - 1)) p (List.range (N - 1)) (fun _=>false):=by
  congr 1
  funext b
  exact propext (recF_congr (punct_iff hsd) _ b)
 rw [e1,e2]
 by_cases hu:InSp (P ^ M) (addF P M) (mulF P M m) n N V (fun j=>if j=a then 1 else 0)
 ·rw [if_pos hu,if_pos ((unit_iff hL hE.lt ha).2 hu)]
 ·rw [if_neg hu,if_neg (fun g=>hu ((unit_iff hL hE.lt ha).1 g))]
end Go.Proofs.YtioagplajkoohaaGreat