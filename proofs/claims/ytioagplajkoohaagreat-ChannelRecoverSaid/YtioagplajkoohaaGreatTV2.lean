/- Merged texts of a claim: PMulAll, RefEval, PolyC, WtsAll, PatAll, UndAll, DualPl, SeesCode, Gf1, Gf2, Gf3, Gf4, Gf5, GfObj, GfMul, GfDot, GfChk, GfNew, DTab, MAdd, MCl, MEach, MElim, MCan, MChk, MOpen, MCano, MKer, Spc, SpOpen, PCode, PDual, ExpN, Dot04, Word12, Syn12, Tab55, RefRight, Nats, Right, RightLaw, Leaders, Between55, LeadersLaw, RecCnt, RecFirst, RecRed, RecFrom, Recover, RefRec, RecPl, RecLaw. -/
import Derived.Test.YtioagplajkoohaaGreatTF15
import Derived.Test.YtioagplajkoohaaGreatTV1
import Derived.Laws.CopyOwn
namespace Go.Proofs.YtioagplajkoohaaGreat
set_option maxRecDepth 100000
set_option maxHeartbeats 32000000
open Go.RowKit
theorem refPMul_any (T T':Option Addr) (m c m' c' N K:Nat) (a b:Nat->Rat) (w:World) (h:RatTab w w.heap.size T m a N) (h':RatTab w w.heap.size T' m' b N) (hm:m<=524288) (hm':m'<=524288) (hK:m*(N+N+1)<=K) (hKN:K+N+N+5<=33554432) (hra:Hid (∀ k,k<m->rsz (a k) N)) (hrb:Hid (∀ k,k<m'->rsz (b k) N)) :
  Calls Tryz.prog 23 #[.slice T m c,.slice T' m' c'] w (PolyPost (clen (mulP a m b m') (m+m')) (mulP a m b m') w):=by
 obtain ⟨NN,hNN⟩:∃ n,n=K+N+N+5:=⟨_,rfl⟩
 have hn1:NN<=33554432:=by omega
 have hn2:K+N+N+5<=NN:=by omega
 clear hNN
 replace h:=h.mono (show N<=NN by omega)
 replace h':=h'.mono (show N<=NN by omega)
 have hSO:Hid (∀ i,i<=m->∀ p,rsz (outP a b m' i p) (K+1)):=fun i hi p=>(zg3 hra.out hrb.out i hi p).mono (by have:i*(N+N+1)<=m*(N+N+1):=Nat.mul_le_mul_right _ hi; omega)
 have hSI:Hid (∀ i,i<m->∀ j,j<=m'->∀ p,rsz (inP a b i (outP a b m' i) j p) (K+1+(N+N)+1)):=fun i hi j hj p=>ziE hra.out hrb.out hi (hSO.out i (by omega)) j hj p
 have hwr1:IntKind.i64.wrap ((m:Int)+(m':Int))=((m+m':Nat):Int):=by rw [IntWalk.i64_in _ (by omega)]; omega
 have hwr2:(m:Int)+(m':Int)=((m+m':Nat):Int):=by omega
 obtain ⟨M,hM⟩:∃ M,M=m+m':=⟨_,rfl⟩
 rw [<-hM] at hwr1 hwr2 ⊢
 have hMle:M<=1048576:=by omega
 have hM1:m+m'<=M:=by omega
 have HM:=hid hM
 clear hM
 have hmk:=fun W=>zcL M hMle W
 have kb1:=zab w (.cells (madeCells #[.bool false,.slice none 0 0,.slice none 0 0] (M*3)) 49)
 have row:=zdi w M (fun _=>0)
 have hB:=kb1
 clear kb1
 have hm0:(0:Int)<=(m:Int):=by omega
 have hm0':(0:Int)<=(m':Int):=by omega
 go_enter Tryz.func23, Tryz.ntmps23
 go_wp2
 obtain ⟨w1,hw1⟩:∃ W,W=w.alloc (.cells (madeCells #[.bool false,.slice none 0 0,.slice none 0 0] (M*3)) 49):=⟨_,rfl⟩
 obtain ⟨g,hg⟩:∃ g,g=w.heap.size:=⟨_,rfl⟩
 rw [<-hw1,<-hg]
 rw [<-hw1] at hB row
 rw [<-hg] at row
 have hgB:w.heap.size<=g:=by omega
 clear hw1 hg hmk hwr2 hwr1
 go_loopg [6] M (fun gg iv wx=>∃ j:Nat,iv=.int .i64 (j:Nat)/\j<=M/\M<=j+gg/\RowOk wx g M j (fun _=>0)/\Below w.heap.size w wx)
 case atStart=>exact ⟨0,rfl,by omega,by omega,row,hB⟩
 case round =>
  clear row hB
  obtain ⟨j,rfl,hj,hjg,row,hB⟩:=hrel
  have hj0:(0:Int)<=(j:Int):=by omega
  by_cases hlt:j<M
  ·have hlt':(j:Int)<(M:Int):=by omega
   obtain ⟨w0,hw0⟩:∃ W,W=wr:=⟨_,rfl⟩
   rw [<-hw0] at row hB ⊢
   clear hw0
   obtain ⟨S,hSe⟩:∃ S:Nat->Rat,S=fun _=>0:=⟨_,rfl⟩
   rw [<-hSe] at row
   have HSE:=hid hSe
   clear hSe
   go_wp2_with fail
   refine (zbi 0 _ (by omega) (by omega)).mono ?_
   rintro e w1 ⟨Ap,cp,Bp,dp,rfl,mp1,mp2,mp3,mp4,mp5,mp6,kb⟩
   replace row:=row.on kb
   replace hB:=onS hB kb
   clear kb
   obtain ⟨q0,hq0⟩:∃ q:Rat,q=((0:Int):Rat):=⟨_,rfl⟩
   rw [<-hq0] at mp1 mp2 mp3 mp5 ⊢
   replace hq0:q0=0:=hq0.trans (by rfl)
   have HQ0:=hid hq0
   have HSZq0:rsz q0 1:=by rw [hq0]; exact zba
   clear hq0
   obtain ⟨o0,o1,o2,y0,y1,y2⟩:=row.old (j) (by omega)
   have z0:=row.froz (j*3)
   have z1:=row.froz (j*3+1)
   have z2:=row.froz (j*3+2)
   have hsz:=hB.size
   go_upto_region 4 with fail
   generalize hw3:World.setCell _ _ _=w2
   have hst:RowPut w1 g M (j) (j) (S) q0 w2:=by rw [<-hw3]; exact rowPut row (by omega) (by omega) mp1 mp2 mp3 mp4 mp5 mp6
   clear hw3 mp1 mp2 mp3 mp4 mp5 mp6
   replace row:=hst.row
   replace hB:=hst.below hB hgB hsz
   clear hst
   rw [show max j (j+1)=j+1 by omega] at row
   clear y0 y1 y2 z0 z1 z2 hsz
   replace row:=row.whole (show q0=S j by rw [HSE.out,HQ0.out])
   rw [HSE.out] at row
   clear HSE HSZq0 HQ0
   go_wp2
   go_roundg (gk - 1)
   case measure=>omega
   case rel=>exact ⟨j+1,by go_num,by omega,by omega,row,hB⟩
  ·obtain rfl:j=M:=by omega
   have hlt':¬ (j:Int)<(j:Int):=by omega
   replace row:=row.put' (show (fun _=>(0:Rat))=outP a b m' 0 from rfl)
   go_wp2
   obtain ⟨w0,hw0⟩:∃ W,W=wr:=⟨_,rfl⟩
   rw [<-hw0] at row hB ⊢
   clear hw0 hlt hlt'
   obtain ⟨gK,rfl⟩:∃ gK:Nat,gK=gk:=⟨_,rfl⟩
   go_loopg [7] m (fun gg iv wx=>∃ i:Nat,iv=.int .i64 (i:Nat)/\i<=m/\m<=i+gg/\RowOk wx g j j (outP a b m' i)/\Below w.heap.size w wx)
   case atStart=>exact ⟨0,rfl,by omega,by omega,row,hB⟩
   case round =>
    clear row hB
    obtain ⟨i,rfl,hi,hig,row,hB⟩:=hrel
    have hi0:(0:Int)<=(i:Int):=by omega
    by_cases hlt:i<m
    ·have hlt':(i:Int)<(m:Int):=by omega
     obtain ⟨bx,ox,s5,A5,n5,c5,A6,n6,c6,rfl,hbx,t0,t1,t2,hrx⟩:=h i hlt
     have hrsx:=hra.out i hlt
     go_wp2
     obtain ⟨w2,hw2⟩:∃ W,W=wr:=⟨_,rfl⟩
     rw [<-hw2] at row hB ⊢
     clear hw2
     obtain ⟨gI,rfl⟩:∃ gK:Nat,gK=gk:=⟨_,rfl⟩
     replace row:=row.put' (show outP a b m' i=inP a b i (outP a b m' i) 0 from rfl)
     go_loopg [8] m' (fun gg jv wx=>∃ k:Nat,jv=.int .i64 (k:Nat)/\k<=m'/\m'<=k+gg/\RowOk wx g j j (inP a b i (outP a b m' i) k)/\Below w.heap.size w wx)
     case atStart=>exact ⟨0,rfl,by omega,by omega,row,hB⟩
     case round =>
      clear row hB
      obtain ⟨k,rfl,hk,hkg,row,hB⟩:=hrel
      have hk0:(0:Int)<=(k:Int):=by omega
      by_cases hlk:k<m'
      ·have hlk':(k:Int)<(m':Int):=by omega
       obtain ⟨by_,oy,s7,A7,n7,c7,A8,n8,c8,rfl,hby,v0,v1,v2,hry⟩:=h' k hlk
       have hrsy:=hrb.out k hlk
       have hik:(i:Int)+(k:Int)=((i+k:Nat):Int):=by omega
       have hikw:IntKind.i64.wrap ((i:Int)+(k:Int))=((i+k:Nat):Int):=by rw [IntWalk.i64_in _ (by omega)]; omega
       have hikl:i+k<j:=by omega
       have hikw2:IntKind.i64.wrap ((i+k:Nat):Int)=((i+k:Nat):Int):=by rw [IntWalk.i64_in _ (by omega)]
       have hikl':((i+k:Nat):Int)<(j:Int):=by omega
       have hik0:(0:Int)<=((i+k:Nat):Int):=by omega
       have hikt:((i+k:Nat):Int).toNat=i+k:=by omega
       go_upto_region 12 with fail
       obtain ⟨w2,hw2⟩:∃ W,W=wr:=⟨_,rfl⟩
       rw [<-hw2] at row hB ⊢
       clear hw2
       have hx:=hrx.on hB
       have hy:=hry.on hB
       obtain ⟨S,hSe⟩:∃ S,S=inP a b i (outP a b m' i) k:=⟨_,rfl⟩
       have hnxt:inP a b i (outP a b m' i) (k+1)=updR S (i+k) (S (i+k)+a i*b k):=by rw [hSe]; rfl
       have hsz1:=hSI.out i hlt k (by omega) (i+k)
       have hsz2:rsz (S (i+k)+a i*b k) (K+1+(N+N)+1):=by have:=hSI.out i hlt (k+1) hlk (i+k); rw [hnxt] at this; simpa [updR] using this
       rw [<-hSe] at row hsz1
       clear hSe
       obtain ⟨P,hP⟩:∃ P,P=i+k:=⟨_,rfl⟩
       rw [<-hP] at hik hikw hikw2 hikl hikl' hik0 hikt hnxt hsz1 hsz2
       obtain ⟨x,hxe⟩:∃ x,x=a i:=⟨_,rfl⟩
       obtain ⟨y,hye⟩:∃ y,y=b k:=⟨_,rfl⟩
       rw [<-hxe,<-hye] at hnxt hsz2
       rw [<-hxe] at hx hrsx
       rw [<-hye] at hy hrsy
       have hsxy:=zdg hrsx hrsy
       obtain ⟨q0,hq0⟩:∃ q,q=S P:=⟨_,rfl⟩
       rw [<-hq0] at hnxt hsz1 hsz2
       have HQ0:=hid hq0
       have HNX:=hid hnxt
       clear hq0 hnxt hxe hye hP
       have HS:Hid (∀ w':World,Below w.heap.size w w'->w'.cell? ⟨bx,ox+i*3,none⟩=some (.bool (s5))/\w'.cell? ⟨bx,ox+i*3+1,none⟩=some (.slice (A5) (n5) (c5))/\w'.cell? ⟨bx,ox+i*3+2,none⟩=some (.slice (A6) (n6) (c6))/\w'.cell? ⟨by_,oy+k*3,none⟩=some (.bool (s7))/\w'.cell? ⟨by_,oy+k*3+1,none⟩=some (.slice (A7) (n7) (c7))/\w'.cell? ⟨by_,oy+k*3+2,none⟩=some (.slice (A8) (n8) (c8))):=fun w' kb=>⟨cellS kb t0,cellS kb t1,cellS kb t2,cellS kb v0,cellS kb v1,cellS kb v2⟩
       refine wp_region_held_drew (S:=fun w'=>w'.cell? ⟨bx,ox+i*3,none⟩=some (.bool (s5))/\w'.cell? ⟨bx,ox+i*3+1,none⟩=some (.slice (A5) (n5) (c5))/\w'.cell? ⟨bx,ox+i*3+2,none⟩=some (.slice (A6) (n6) (c6))/\w'.cell? ⟨by_,oy+k*3,none⟩=some (.bool (s7))/\w'.cell? ⟨by_,oy+k*3+1,none⟩=some (.slice (A7) (n7) (c7))/\w'.cell? ⟨by_,oy+k*3+2,none⟩=some (.slice (A8) (n8) (c8))) (by kernel_rfl) (HS.out _ hB.drew) (fun hHeld=>?_)
       obtain ⟨w3,hw⟩:∃ W,W=World.drew w2:=⟨_,rfl⟩
       have kb:Below w2.heap.size w2 w3:=by rw [hw]; exact (Below.refl _ _).drew
       rw [<-hw] at hHeld ⊢
       clear hw
       replace row:=row.on kb
       replace hB:=onS hB kb
       replace hx:=hx.on kb
       replace hy:=hy.on kb
       clear kb
       refine tkq 0 (h:=tkq 1 (h:=tkq 2 (h:=tkq 3 (h:=tkq 4 (h:=tkq 5 (h:=tkq 6 (h:=tkq 7 (h:=tkq 8 (h:=tkq 10 (h:=tkq 11 (h:=tkq 12 (h:=tkq 13 (h:=tkq 14 (h:=tkq 15 (h:=tkq 16 (h:=tkq 17 (h:=?_)))))))))))))))))
       refine rdq2 9 18 (h:=fun K hK=>?_) (h2:=fun K hK=>?_)
       ·obtain ⟨Ao,co,Bo,do_,g0,g1,g2,mo1,mo2,mo3,mo4,mo5,mo6⟩:=row.get P (by omega)
        rw [<-HQ0.out] at g0 g1 g2 mo1 mo2 mo3 mo5
        go_simp
        clear g0 g1 g2
        refine bkq hK (HS.out _ hB) (h:=fun hHeld=>?_)
        clear hK K
        refine rdq 18 (h:=fun K hK=>?_)
        go_simp
        go_wp2_with fail
        refine (refMul02_any _ _ x y NN _ hx hy (by omega) (hrsx.mono (by omega)) (hrsy.mono (by omega))).mono ?_
        rintro e w4 ⟨Am,cm,Bm,dm,rfl,mm1,mm2,mm3,mm4,mm5,mm6,kb⟩
        replace row:=row.on kb
        replace hB:=onS hB kb
        replace hx:=hx.on kb
        replace hy:=hy.on kb
        replace mo1:=mo1.on kb
        replace mo2:=mo2.on kb
        clear kb
        obtain ⟨xy,hxy⟩:∃ p,p=x*y:=⟨_,rfl⟩
        rw [<-hxy] at mm1 mm2 mm3 mm5 hsxy hsz2 ⊢
        have HXY:=hid hxy
        clear hxy
        refine bkq hK (HS.out _ hB) (h:=fun hHeld=>?_)
        clear hK K
        refine rdq 19 (h:=fun K hK=>?_)
        go_simp
        go_wp2_with fail
        refine (zfd _ _ q0 xy NN _ (RatOk.raw ⟨Ao,co,Bo,do_,rfl,mo1,mo2,mo3,mo4,mo5,mo6⟩ (hsz1.mono (by omega))) (RatOk.raw ⟨Am,cm,Bm,dm,rfl,mm1,mm2,mm3,mm4,mm5,mm6⟩ (hsxy.mono (by omega))) (by omega) (hsz1.mono (by omega)) (hsxy.mono (by omega))).mono ?_
        rintro e w5 ⟨Ap,cp,Bp,dp,rfl,mp1,mp2,mp3,mp4,mp5,mp6,kb⟩
        replace row:=row.on kb
        replace hB:=onS hB kb
        replace hx:=hx.on kb
        replace hy:=hy.on kb
        replace mo1:=mo1.on kb
        replace mo2:=mo2.on kb
        replace mm1:=mm1.on kb
        replace mm2:=mm2.on kb
        clear kb
        obtain ⟨q1,hq1⟩:∃ z,z=q0+xy:=⟨_,rfl⟩
        rw [<-hq1] at mp1 mp2 mp3 mp5 hsz2 ⊢
        have HQ1:=hid hq1
        clear hq1
        clear mo1 mo2 mo3 mo4 mo5 mo6 mm1 mm2 mm3 mm4 mm5 mm6
        refine bkq hK (HS.out _ hB) (h:=fun hHeld=>?_)
        clear hK K
        refine tkq 20 (h:=?_)
        obtain ⟨o0,o1,o2,y0,y1,y2⟩:=row.old (P) (by omega)
        have z0:=row.froz (P*3)
        have z1:=row.froz (P*3+1)
        have z2:=row.froz (P*3+2)
        have hsz:=hB.size
        refine rdq 21 (h:=fun K hK=>?_)
        go_simp
        generalize hw3:World.setCell _ _ _=w6
        have hst:RowPut w5 g j j P S q1 w6:=by rw [<-hw3]; exact rowPut row (by omega) (by omega) mp1 mp2 mp3 mp4 mp5 mp6
        clear hw3 mp1 mp2 mp3 mp4 mp5 mp6 hx hy
        replace row:=hst.row
        rw [show max j (P+1)=j by omega] at row
        replace hB:=hst.below hB hgB hsz
        clear hst
        refine bkq hK (HS.out _ hB) (h:=fun hHeld=>?_)
        clear hK K
        refine wpAnyH_done (by kernel_rfl) ?_ _
        clear hHeld
        replace row:=row.put' (show updR S P q1=inP a b i (outP a b m' i) (k+1) by rw [HNX.out,HQ1.out,HXY.out])
        clear y0 y1 y2 z0 z1 z2 hsz HS HNX HQ1 HXY HQ0 hsz1 hsz2 hsxy hikw hikw2 hik hikt
        go_wp2
        go_roundg (gk - 1)
        case measure=>omega
        case rel=>exact ⟨k+1,by go_num,by omega,by omega,row,hB⟩
       ·go_simp
        go_wp2_with fail
        refine (refMul02_any _ _ x y NN _ hx hy (by omega) (hrsx.mono (by omega)) (hrsy.mono (by omega))).mono ?_
        rintro e w4 ⟨Am,cm,Bm,dm,rfl,mm1,mm2,mm3,mm4,mm5,mm6,kb⟩
        replace row:=row.on kb
        replace hB:=onS hB kb
        replace hx:=hx.on kb
        replace hy:=hy.on kb
        clear kb
        obtain ⟨xy,hxy⟩:∃ p,p=x*y:=⟨_,rfl⟩
        rw [<-hxy] at mm1 mm2 mm3 mm5 hsxy hsz2 ⊢
        have HXY:=hid hxy
        clear hxy
        refine bkq hK (HS.out _ hB) (h:=fun hHeld=>?_)
        clear hK K
        refine rdq 9 (h:=fun K hK=>?_)
        obtain ⟨Ao,co,Bo,do_,g0,g1,g2,mo1,mo2,mo3,mo4,mo5,mo6⟩:=row.get P (by omega)
        rw [<-HQ0.out] at g0 g1 g2 mo1 mo2 mo3 mo5
        go_simp
        clear g0 g1 g2
        refine bkq hK (HS.out _ hB) (h:=fun hHeld=>?_)
        clear hK K
        refine rdq 19 (h:=fun K hK=>?_)
        go_simp
        go_wp2_with fail
        refine (zfd _ _ q0 xy NN _ (RatOk.raw ⟨Ao,co,Bo,do_,rfl,mo1,mo2,mo3,mo4,mo5,mo6⟩ (hsz1.mono (by omega))) (RatOk.raw ⟨Am,cm,Bm,dm,rfl,mm1,mm2,mm3,mm4,mm5,mm6⟩ (hsxy.mono (by omega))) (by omega) (hsz1.mono (by omega)) (hsxy.mono (by omega))).mono ?_
        rintro e w5 ⟨Ap,cp,Bp,dp,rfl,mp1,mp2,mp3,mp4,mp5,mp6,kb⟩
        replace row:=row.on kb
        replace hB:=onS hB kb
        replace hx:=hx.on kb
        replace hy:=hy.on kb
        replace mm1:=mm1.on kb
        replace mm2:=mm2.on kb
        replace mo1:=mo1.on kb
        replace mo2:=mo2.on kb
        clear kb
        obtain ⟨q1,hq1⟩:∃ z,z=q0+xy:=⟨_,rfl⟩
        rw [<-hq1] at mp1 mp2 mp3 mp5 hsz2 ⊢
        have HQ1:=hid hq1
        clear hq1
        clear mo1 mo2 mo3 mo4 mo5 mo6 mm1 mm2 mm3 mm4 mm5 mm6
        refine bkq hK (HS.out _ hB) (h:=fun hHeld=>?_)
        clear hK K
        refine tkq 20 (h:=?_)
        obtain ⟨o0,o1,o2,y0,y1,y2⟩:=row.old (P) (by omega)
        have z0:=row.froz (P*3)
        have z1:=row.froz (P*3+1)
        have z2:=row.froz (P*3+2)
        have hsz:=hB.size
        refine rdq 21 (h:=fun K hK=>?_)
        go_simp
        generalize hw3:World.setCell _ _ _=w6
        have hst:RowPut w5 g j j P S q1 w6:=by rw [<-hw3]; exact rowPut row (by omega) (by omega) mp1 mp2 mp3 mp4 mp5 mp6
        clear hw3 mp1 mp2 mp3 mp4 mp5 mp6 hx hy
        replace row:=hst.row
        rw [show max j (P+1)=j by omega] at row
        replace hB:=hst.below hB hgB hsz
        clear hst
        refine bkq hK (HS.out _ hB) (h:=fun hHeld=>?_)
        clear hK K
        refine wpAnyH_done (by kernel_rfl) ?_ _
        clear hHeld
        replace row:=row.put' (show updR S P q1=inP a b i (outP a b m' i) (k+1) by rw [HNX.out,HQ1.out,HXY.out])
        clear y0 y1 y2 z0 z1 z2 hsz HS HNX HQ1 HXY HQ0 hsz1 hsz2 hsxy hikw hikw2 hik hikt
        go_wp2
        go_roundg (gk - 1)
        case measure=>omega
        case rel=>exact ⟨k+1,by go_num,by omega,by omega,row,hB⟩
      ·obtain rfl:k=m':=by omega
       have hlk':¬ (k:Int)<(k:Int):=by omega
       replace row:=row.put' (show inP a b i (outP a b k i) k=outP a b k (i+1) from rfl)
       go_wp2
       go_roundg (gI - 1)
       case measure=>omega
       case rel=>exact ⟨i+1,by go_num,by omega,by omega,row,hB⟩
    ·obtain rfl:i=m:=by omega
     have hlt':¬ (i:Int)<(i:Int):=by omega
     have hl:=row.list.tab (fun p _=>hSO.out i (by omega) p)
     go_wp2_with fail
     refine (refCanon55_any (some ⟨g,0,none⟩) j j (K+1) (outP a b m' i) _ hl (by omega) (by omega)).mono ?_
     rintro e w2 ⟨Ar,cr,rfl,e1,e2,e3,kb⟩
     replace hB:=onS hB kb
     clear kb hl row
     obtain ⟨cl,hcl⟩:∃ cl,cl=clen (outP a b m' i) j:=⟨_,rfl⟩
     rw [<-hcl] at e1 e3 ⊢
     have HCL:=hid hcl
     clear hcl
     go_wp2
     go_ret
     exact ⟨_,_,by rw [HCL.out]; rfl,by rw [HCL.out] at e1; exact e1,e2,by rw [HCL.out] at e3; exact e3,hB⟩
open Go.ChangeShapes Go.WideShapes Go.ChangeAt
theorem disN_le (f g:Nat->Int) (k:Nat):disN f g k<=k:=by
 induction k with
 | zero=>exact Nat.le_refl _
 | succ k ih=>unfold disN; split <;> omega
theorem distance_any (A B:Option Addr) (n c c':Nat) (f g:Nat->Int) (w:World) (h:IntsR w w.heap.size A n f) (h':IntsR w w.heap.size B n g) (hn:n<=1048576) :
  Calls Tryz.prog 95 #[.slice A n c,.slice B n c'] w fun e w'=>e=.returned (.int .i64 (disN f g n:Nat))/\Below w.heap.size w w':=by
 go_enter Tryz.func95, Tryz.ntmps95
 go_wp2
 go_loopg [5,6] n (fun gg ov iv wx=>∃ k:Nat,iv=.int .i64 (k:Nat)/\ov=.int .i64 (disN f g k:Nat)/\k<=n/\n<=k+gg/\Below w.heap.size w wx)
 case atStart=>exact ⟨0,rfl,rfl,by omega,by omega,Below.refl _ _⟩
 case round =>
  obtain ⟨k,rfl,rfl,hk,hkg,hB⟩:=hrel
  have hk0:(0:Int)<=(k:Int):=by omega
  by_cases hlt:k<n
  ·obtain ⟨b,o,rfl,hb,e0⟩:=(h.on hB).at hlt
   obtain ⟨b2,o2,rfl,hb2,e2⟩:=(h'.on hB).at hlt
   have hlt':(k:Int)<(n:Int):=by omega
   have hdl:=disN_le f g k
   by_cases heq:f k=g k
   ·have hnx:Hid (disN f g (k+1)=disN f g k):=by show _+_=_; rw [if_pos heq]; rfl
    obtain ⟨D,hD⟩:∃ D,D=disN f g k:=⟨_,rfl⟩
    rw [<-hD] at hnx hdl
    rw [<-hD]
    obtain ⟨x,hx⟩:∃ x,x=f k:=⟨_,rfl⟩
    rw [<-heq,<-hx] at e2
    rw [<-hx] at e0
    have hne:(x != x)=false:=by simp
    clear hD hx heq
    go_wp2
    go_quiet (fail)
    go_wp2
    go_roundg (gk - 1)
    case measure=>omega
    case rel=>exact ⟨k+1,by go_num,by rw [hnx.out],by omega,by omega,zai hB _⟩
   ·have hnx:Hid (disN f g (k+1)=disN f g k+1):=by show _+_=_; rw [if_neg heq]
    obtain ⟨D,hD⟩:∃ D,D=disN f g k:=⟨_,rfl⟩
    rw [<-hD] at hnx hdl
    rw [<-hD]
    obtain ⟨x,hx⟩:∃ x,x=f k:=⟨_,rfl⟩
    obtain ⟨y,hy⟩:∃ x,x=g k:=⟨_,rfl⟩
    rw [<-hy] at e2 heq
    rw [<-hx] at e0 heq
    have hne:(x != y)=true:=by simpa using heq
    have hne2:(x == y)=false:=by simpa using heq
    clear hD hx hy heq
    go_wp2
    go_quiet (fail)
    go_wp2
    go_roundg (gk - 1)
    case measure=>omega
    case rel=>exact ⟨k+1,by go_num,by rw [hnx.out]; go_num,by omega,by omega,zai hB _⟩
  ·obtain rfl:k=n:=by omega
   have hlt':¬ (k:Int)<(k:Int):=by omega
   go_wp2
   go_ret
   exact ⟨rfl,hB⟩
theorem ratList_one {w:World} (T:TypeId) {A A2:Option Addr} {c c2:Nat} {r:Rat} {rs:Nat->Rat} (hr:rs 0=r) (m1:NatOk w w.heap.size A r.num.natAbs) (m2:NatOk w w.heap.size A2 r.den) (m3:dl r.num.natAbs<=c) (m4:c<=maxLen) (m5:dl r.den<=c2) (m6:c2<=maxLen) :
  RatList (w.alloc (.cells #[.bool (rneg r),.slice A (dl r.num.natAbs) c,.slice A2 (dl r.den) c2] T)) (w.alloc (.cells #[.bool (rneg r),.slice A (dl r.num.natAbs) c,.slice A2 (dl r.den) c2] T)).heap.size (some ⟨w.heap.size,0,none⟩) 1 rs:=fun i hi=>by
 obtain rfl:i=0:=by omega
 subst hr
 have hb:=zab w (.cells #[.bool (rneg (rs 0)),.slice A (dl (rs 0).num.natAbs) c,.slice A2 (dl (rs 0).den) c2] T)
 have hg:=heap_alloc_new w (.cells #[.bool (rneg (rs 0)),.slice A (dl (rs 0).num.natAbs) c,.slice A2 (dl (rs 0).den) c2] T)
 exact ⟨w.heap.size,0,A,c,A2,c2,rfl,by simp,by rw [cell_of_row _ _ _ _ T (0,0) hg]; rfl,by rw [cell_of_row _ _ _ _ T (0,0) hg]; rfl,by rw [cell_of_row _ _ _ _ T (0,0) hg]; rfl,m1.on hb,m2.on hb,m3,m4,m5,m6⟩
theorem refPower_any (T:Option Addr) (m c k N:Nat) (a:Nat->Rat) (w:World) (h:RatTab w w.heap.size T m a N) (hm:m<=64) (hN:N<=1000) (hra:Hid (∀ i,i<m->rsz (a i) N)) (hk:k<=64)
  (hL:Hid (∀ j,j<=k->(pwP a m j).1<=128)) (hR:Hid (∀ j,j<=k->∀ i,i<(pwP a m j).1->rsz ((pwP a m j).2 i) N)) :
  Calls Tryz.prog 78 #[.slice T m c,.int .i64 (k:Nat)] w (PolyPost (pwP a m k).1 (pwP a m k).2 w):=by
 have hk0:(0:Int)<=(k:Int):=by omega
 go_enter Tryz.func78, Tryz.ntmps78
 go_wp2_with fail
 refine (zbi 1 _ (by omega) (by omega)).mono ?_
 rintro e w1 ⟨Ap,cp,Bp,dp,rfl,m1,m2,m3,m4,m5,m6,kb⟩
 have hB:=kb
 clear kb
 obtain ⟨q1,hq1⟩:∃ q:Rat,q=((1:Int):Rat):=⟨_,rfl⟩
 rw [<-hq1] at m1 m2 m3 m5 ⊢
 have hl:=ratList_one 49 (rs:=(pwP a m 0).2) (r:=q1) (by rw [hq1]; rfl) m1 m2 m3 m4 m5 m6
 have hb:=zab w1 (.cells #[.bool (rneg q1),.slice Ap (dl q1.num.natAbs) cp,.slice Bp (dl q1.den) dp] 49)
 replace hB:=onS hB hb
 clear m1 m2 m3 m4 m5 m6 hb hq1
 go_wp2
 obtain ⟨w2,hw2⟩:∃ W,W=w1.alloc (.cells #[.bool (rneg q1),.slice Ap (dl q1.num.natAbs) cp,.slice Bp (dl q1.den) dp] 49):=⟨_,rfl⟩
 rw [<-hw2] at hl hB ⊢
 clear hw2
 go_loopg [5,6] k (fun gg ov iv wx=>∃ j:Nat,∃ A d,iv=.int .i64 (j:Nat)/\j<=k/\k<=j+gg/\ov=.slice A (pwP a m j).1 d/\(pwP a m j).1<=d/\d<=maxLen/\RatList wx wx.heap.size A (pwP a m j).1 (pwP a m j).2/\Below w.heap.size w wx)
 case atStart=>exact ⟨0,_,_,rfl,by omega,by omega,rfl,Nat.le_refl 1,by unfold maxLen; omega,hl,hB⟩
 case round =>
  clear hl hB
  obtain ⟨j,A,d,rfl,hj,hjg,rfl,hd1,hd2,hl,hB⟩:=hrel
  have hj0:(0:Int)<=(j:Int):=by omega
  have hLj:=hL.out j hj
  have ht:=hl.tab (hR.out j hj)
  have hrs:=hid (hR.out j hj)
  by_cases hlt:j<k
  ·have hlt':(j:Int)<(k:Int):=by omega
   have hmul:(pwP a m j).1*(N+N+1)<=128*2001:=Nat.mul_le_mul (by omega) (by omega)
   have hnx:Hid (∀ (W:World) (e:Ending) (W':World),PolyPost (clen (mulP (pwP a m j).2 (pwP a m j).1 a m) ((pwP a m j).1+m)) (mulP (pwP a m j).2 (pwP a m j).1 a m) W e W'->PolyPost (pwP a m (j+1)).1 (pwP a m (j+1)).2 W e W'):=fun _ _ _ h=>h
   obtain ⟨l,hl1⟩:∃ l,l=(pwP a m j).1:=⟨_,rfl⟩
   obtain ⟨R,hR1⟩:∃ R,R=(pwP a m j).2:=⟨_,rfl⟩
   rw [<-hl1] at hLj hmul hd1
   rw [<-hl1,<-hR1] at ht hrs hnx
   rw [<-hl1]
   clear hl hl1 hR1
   go_wp2_with fail
   refine ((refPMul_any A T l d m c N (128*2001) R a _ ht (h.on hB) (by omega) (by omega) hmul (by omega) hrs hra).mono (fun e W'=>hnx.out _ e W')).mono ?_
   rintro e w3 ⟨A3,c3,rfl,l1,l2,l3,kb⟩
   replace hB:=onS hB kb
   obtain ⟨l',hl1⟩:∃ l,l=(pwP a m (j+1)).1:=⟨_,rfl⟩
   rw [<-hl1]
   have HL1:=hid hl1
   clear hl1 hmul hnx kb ht hrs
   go_wp2
   go_roundg (gk - 1)
   case measure=>omega
   case rel=>exact ⟨j+1,A3,c3,by go_num,by omega,by omega,by rw [HL1.out],l1,l2,l3,hB⟩
  ·obtain rfl:j=k:=by omega
   have hlt':¬ (j:Int)<(j:Int):=by omega
   obtain ⟨l,hl1⟩:∃ l,l=(pwP a m j).1:=⟨_,rfl⟩
   rw [<-hl1]
   have HL1:=hid hl1
   clear hl1 ht hrs hLj
   go_wp2
   go_ret
   exact ⟨_,_,by rw [HL1.out]; rfl,hd1,hd2,hl,hB⟩
theorem rsz_pw {u:Rat} {N:Nat} (hu:rsz u N) (k:Nat) (hk:k<=64):rsz (powR u k) (1+64*N):=(zfi hu k).mono (by have:k*N<=64*N:=Nat.mul_le_mul_right N hk; omega)
theorem rsz_sg {i c:Nat} {L:Nat} (h:dl c<=L) (hL:1<=L):rsz (sg i c) L:=by
 have:sg i c=rv (decide (i % 2=1)) c 1:=by
  unfold sg rv
  rw [<-Rat.mkRat_one]
  simp
 rw [this]
 exact zgb h (by rw [zb4]; exact hL) hL
theorem mulP_one (c:Rat) (b:Nat->Rat) (mB p:Nat):mulP (fun _=>c) 1 b mB p=if p<mB then c*b p else 0:=by
 have:=zia (A:=fun _=>c) (B:=b) (v:=0) (mB:=mB) (U:=c) (fun i hi=>by rw [if_pos (by omega)]) p
 rw [show (0:Nat)+1=1 from rfl] at this
 rw [this]
 simp
theorem sumP_cl2 {a a' b:Nat × (Nat->Rat)} (h:∀ i,cl2 a i=cl2 a' i):sumP a.2 a.1 b.2 b.1=sumP a'.2 a'.1 b.2 b.1:=by
 funext i
 show cutR a.2 a.1 i+_=cutR a'.2 a'.1 i+_
 have:=h i
 unfold cl2 at this
 rw [this]
theorem clen_clen (rs:Nat->Rat) (m:Nat):clen rs (clen rs m)=clen rs m:=by
 induction m with
 | zero=>rfl
 | succ m ih =>
  by_cases e:rs m=0
  ·rw [zec e,ih]
  ·rw [zfj e,zfj e]
theorem clen_cut (rs:Nat->Rat) (m:Nat):clen (cutR rs m) m=clen rs m:=clen_congr fun i hi=>by unfold cutR; rw [if_pos hi]
def SameP (a b:Nat × (Nat->Rat)):Prop:=a.1=b.1/\(∀ i,cl2 a i=cl2 b i)/\clen b.2 b.1=b.1
theorem SameP.add {a b p:Nat × (Nat->Rat)} (h:SameP a b):SameP (adP a p) (adP b p):=by
 obtain ⟨h1,h2,h3⟩:=h
 unfold adP
 rw [sumP_cl2 (b:=p) h2,h1]
 exact ⟨rfl,fun i=>rfl,clen_clen _ _⟩
theorem tmP_zero (q n k:Nat):(tmP q n 0 k).1=0:=by
 have:∀ m,clen (mulP (fun _=>((0:Nat):Rat)) 1 (patR q n k) (n+1)) m=0:=fun m=>by
  induction m with
  | zero=>rfl
  | succ m ih =>
   rw [zec,ih]
   rw [mulP_one]
   split
   ·show (0:Rat)*_=0; grind
   ·rfl
 exact this _
theorem SameP.skip {a b:Nat × (Nat->Rat)} (h:SameP a b) {p:Nat × (Nat->Rat)} (hp:p.1=0):SameP a (adP b p):=by
 obtain ⟨h1,h2,h3⟩:=h
 have hs:sumP b.2 b.1 p.2 p.1=cutR b.2 b.1:=by
  funext i
  show cutR b.2 b.1 i+cutR p.2 p.1 i=_
  have:cutR p.2 p.1 i=0:=by unfold cutR; rw [hp,if_neg (by omega)]
  rw [this]; grind
 have e1:(adP b p).1=b.1:=by
  unfold adP
  show clen _ _=_
  rw [hs,hp,Nat.max_eq_left (Nat.zero_le _),clen_cut,h3]
 refine ⟨by rw [e1]; exact h1,fun i=>?_,?_⟩
 ·rw [h2 i]
  show _=cutR (adP b p).2 (adP b p).1 i
  rw [e1]
  show cutR b.2 b.1 i=cutR (sumP b.2 b.1 p.2 p.1) b.1 i
  rw [hs]
  unfold cutR
  split <;> rfl
 ·exact clen_clen _ _
theorem refTimes_any (A T:Option Addr) (l d m c x N:Nat) (rs:Nat->Rat) (w:World) (hx:NatRaw w w.heap.size A l x) (hl:l<=d) (hd:d<=maxLen) (hl8:l<=8) (h:RatTab w w.heap.size T m rs N) (hm:m<=65) (hrs:Hid (∀ i,i<m->rsz (rs i) N)) (hN:N<=1000) (hN8:8<=N) :
  Calls Tryz.prog 76 #[.slice A l d,.slice T m c] w (PolyPost (clen (mulP (fun _=>(x:Rat)) 1 rs m) (1+m)) (mulP (fun _=>(x:Rat)) 1 rs m) w):=by
 have hxl:=hx.dl
 have hc1:Hid (∀ i,i<1->rsz ((fun _=>(x:Rat)) i:Rat) N):=fun i _=>ziH (by omega) (by omega)
 have hPO:Hid (∀ (W:World) (e:Ending) (W':World),PolyPost (clen (mulP (fun _=>(x:Rat)) 1 rs m) (1+m)) (mulP (fun _=>(x:Rat)) 1 rs m) W e W'->PolyPost (clen (mulP (fun _=>(x:Rat)) 1 rs m) (1+m)) (mulP (fun _=>(x:Rat)) 1 rs m) W e W'):=fun _ _ _ h=>h
 obtain ⟨pc,hpc⟩:∃ l,l=clen (mulP (fun _=>((x:Nat):Rat)) 1 rs m) (1+m):=⟨_,rfl⟩
 obtain ⟨PR,hPR⟩:∃ P,P=mulP (fun _=>((x:Nat):Rat)) 1 rs m:=⟨_,rfl⟩
 have hMU:Hid (∀ (W:World) (e:Ending) (W':World),PolyPost (clen (mulP (fun _=>((x:Nat):Rat)) 1 rs m) (1+m)) (mulP (fun _=>((x:Nat):Rat)) 1 rs m) W e W'->PolyPost pc PR W e W'):=fun _ _ _ h=>by rw [hpc,hPR]; exact h
 rw [<-hpc,<-hPR]
 clear hpc hPR hPO
 go_enter Tryz.func76, Tryz.ntmps76
 go_wp2_with fail
 refine (refNat02_any A l d x _ hx hl hd (by omega)).mono ?_
 rintro e w6 ⟨Aa,cc,Ba,da,rfl,a1,a2,a3,a4,a5,a6,kb⟩
 replace h:=h.on kb
 have hB:=kb
 clear kb
 obtain ⟨rx,hrx⟩:∃ z:Rat,z=(x:Rat):=⟨_,rfl⟩
 rw [<-hrx] at a1 a2 a3 a5 hMU hc1 ⊢
 clear hrx
 have hone:=ratList_one 49 (rs:=fun _=>rx) rfl a1 a2 a3 a4 a5 a6
 have kb:=zab w6 (.cells #[.bool (rneg rx),.slice Aa (dl rx.num.natAbs) cc,.slice Ba (dl rx.den) da] 49)
 replace h:=h.on kb
 replace hB:=onS hB kb
 have t1:=hone.tab hc1.out
 clear kb a1 a2 a3 a4 a5 a6 hone
 go_wp2_with fail
 refine ((refPMul_any _ T 1 1 m c N (N+N+1) (fun _=>rx) rs _ t1 h (by omega) (by omega) (by omega) (by omega) hc1 hrs).mono (fun e W'=>hMU.out _ e W')).mono ?_
 rintro e w7 ⟨Tb,cb,rfl,o1,o2,o3,kb⟩
 replace hB:=onS hB kb
 clear kb t1 h
 go_wp2
 go_ret
 exact ⟨_,_,rfl,o1,o2,o3,hB⟩
theorem msg_of {q:Nat} {n:Nat} {c:Nat->Nat} (hc:∀ t,t<n->c t<q):∃ x,x<q ^ n/\∀ t,t<n->dig q x (n - 1 - t)=c t:=by
 refine ⟨valN q (fun t=>c (n - 1 - t)) n,zbw fun i hi=>hc _ (by omega),fun t ht=>?_⟩
 rw [zbt (fun i hi=>hc _ (by omega)) _ (by omega)]
 congr 1
 omega
def rrP (q n:Nat) (xs:Nat->Nat):Nat->Nat × (Nat->Rat)
 | 0=>(0,fun _=>0)
 | k+1=>adP (rrP q n xs k) (tmP q n (xs k) k)
theorem wt_rr (q n:Nat) (xs:Nat->Nat):∀ k,SameP (wtP q n xs k) (rrP q n xs k):=by
 intro k
 induction k with
 | zero=>exact ⟨rfl,fun i=>rfl,rfl⟩
 | succ k ih =>
  show SameP (if xs k=0 then wtP q n xs k else _) _
  by_cases e:xs k=0
  ·rw [if_pos e]
   show SameP _ (adP (rrP q n xs k) (tmP q n (xs k) k))
   rw [e]
   exact ih.skip (tmP_zero q n k)
  ·rw [if_neg e]
   exact ih.add
theorem rrP_canon (q n:Nat) (xs:Nat->Nat) (k:Nat):clen (rrP q n xs k).2 (rrP q n xs k).1=(rrP q n xs k).1:=(wt_rr q n xs k).2.2
theorem rsz_rr {q n:Nat} {xs:Nat->Nat} (hq:2<=q) (hq2:q<=256) (hn:n<=64) (hx:∀ k,k<=n->dl (xs k)<=8):∀ k,k<=n+1->∀ i,rsz (cl2 (rrP q n xs k) i) (1+k*501):=by
 intro k
 induction k with
 | zero=>intro _ i; show rsz (cutR _ 0 i) _; unfold cutR; rw [if_neg (by omega)]; exact zba
 | succ k ih =>
  intro hk i
  exact (zkW (ih (by omega)) (zkp hq hq2 hn (by omega) (hx k (by omega))) i).mono (by omega)
theorem rrP_len (q n:Nat) (xs:Nat->Nat) (k:Nat):(rrP q n xs k).1<=n+2:=by
 cases k with
 | zero=>exact Nat.zero_le _
 | succ k =>
  have h1:(tmP q n (xs k) k).1<=n+2:=by have:=zeM (mulP (fun _=>((xs k:Nat):Rat)) 1 (patR q n k) (n+1)) (1+(n+1)); show clen _ _<=_; omega
  have h2:(rrP q n xs k).1<=n+2:=rrP_len q n xs k
  refine Nat.le_trans (zeM _ _) ?_
  omega
theorem weight55_any (A:Option Addr) (n c:Nat) (f:Nat->Int) (w:World) (h:IntsR w w.heap.size A n f) (hn:n<=1048576) :
  Calls Tryz.prog 74 #[.slice A n c] w fun e w'=>e=.returned (.int .i64 (disN f (fun _=>0) n:Nat))/\Below w.heap.size w w':=by
 have HA:=hid h
 clear h
 have hmk:=fun X=>zau (P:=Tryz.prog) 22 3 _ 8 Tryz.underlying22 Tryz.infoInt rfl (n:Int) (by omega) (by omega) (by omega) X
 simp only [Int.toNat_natCast] at hmk
 have ra:=World.rowIs_made w (.int .i64 0) n 3
 have kb:=(Below.refl w.heap.size w).alloc (Nat.le_refl _) (Obj.cells (madeCells #[Value.int .i64 0] n) 3)
 have hz:IntsR (w.alloc (Obj.cells (madeCells #[Value.int .i64 0] n) 3)) (w.alloc (Obj.cells (madeCells #[Value.int .i64 0] n) 3)).heap.size (some ⟨w.heap.size,0,none⟩) n (fun _=>0):=by
  have:=rowInts (w:=w.alloc (Obj.cells (madeCells #[Value.int .i64 0] n) 3)) (g:=w.heap.size) (n:=n) (f:=fun _=>0) (ra.congr fun _ _=>rfl)
  exact this
 have HZ:=hid hz
 have HB:=hid kb
 clear hz ra kb
 go_enter Tryz.func74, Tryz.ntmps74
 go_wp2_with fail
 refine (distance_any A (some ⟨w.heap.size,0,none⟩) n c n f (fun _=>0) _ (HA.out.on HB.out) HZ.out hn).mono ?_
 rintro e w2 ⟨rfl,kb⟩
 have hB:=onS HB.out kb
 clear kb
 go_wp2
 go_ret
 exact ⟨rfl,hB⟩
section
open Classical
theorem sizN_le (x:Nat):∀ r,sizN x r<=r
 | 0=>Nat.le_refl _
 | r+1=>by have:=sizN_le x r; show sizN x r+(if bitN x r then 1 else 0)<=r+1; split <;> omega
end
theorem bit_any (x j:Nat) (w:World) (hx:x<=1048576) (hj:j<=64) :
  Calls Tryz.prog 75 #[.int .i64 (x:Nat),.int .i64 (j:Nat)] w fun e w'=>e=.returned (.bool (bitN x j))/\Below w.heap.size w w':=by
 have h0:((x / 2 ^ 0:Nat):Int)=(x:Int):=by rw [Nat.pow_zero,Nat.div_one]
 go_enter Tryz.func75, Tryz.ntmps75
 go_wp2
 go_loopg [0,5] j (fun gg sv iv wx=>∃ i Y:Nat,iv=.int .i64 (i:Nat)/\i<=j/\j<=i+gg/\sv=.int .i64 (Y:Nat)/\Hid (Y=x / 2 ^ i)/\Y<=x/\Below w.heap.size w wx)
 case atStart=>exact ⟨0,x,rfl,by omega,by omega,rfl,by show _=_; rw [Nat.pow_zero,Nat.div_one],Nat.le_refl _,Below.refl _ _⟩
 case round =>
  obtain ⟨i,Y,rfl,hi,hig,rfl,HY,hYx,hB⟩:=hrel
  have hi0:(0:Int)<=(i:Int):=by omega
  by_cases hlt:i<j
  ·have hlt':(i:Int)<(j:Int):=by omega
   obtain ⟨Z,hZ⟩:∃ Z,Z=Y / 2:=⟨_,rfl⟩
   have hd1:(Y:Int).tdiv 2=(Z:Int):=by rw [Int.tdiv_eq_ediv_of_nonneg (by omega),hZ]; omega
   have hd2:(Y:Int) / 2=(Z:Int):=by rw [hZ]; omega
   have hwz:IntKind.i64.wrap (Z:Int)=(Z:Int):=IntWalk.i64_in _ (by omega)
   have hZx:Z<=x:=by omega
   have HZ:Hid (Z=x / 2 ^ (i+1)):=by show _=_; rw [hZ,HY.out,Nat.div_div_eq_div_mul,Nat.pow_succ]
   have hY0:(0:Int)<=(Y:Int):=by omega
   clear hZ
   go_wp2
   clear hd1 hd2 hwz
   go_roundg (gk - 1)
   case measure=>omega
   case rel=>exact ⟨i+1,Z,by go_num,by omega,by omega,rfl,HZ,hZx,hB⟩
  ·have hlt':¬ (i:Int)<(j:Int):=by omega
   obtain rfl:i=j:=by omega
   obtain ⟨R,hR⟩:∃ R,R=Y % 2:=⟨_,rfl⟩
   have hd1:(Y:Int).tmod 2=(R:Int):=by rw [Int.tmod_eq_emod_of_nonneg (by omega),hR]; omega
   have hd2:(Y:Int) % 2=(R:Int):=by rw [hR]; omega
   have hwz:IntKind.i64.wrap (R:Int)=(R:Int):=IntWalk.i64_in _ (by omega)
   obtain ⟨rb,hrb⟩:∃ b,((R:Int) == 1)=b:=⟨_,rfl⟩
   have hres:Hid (rb=bitN x i):=by
    show _=_
    rw [<-hrb]
    unfold bitN
    rw [<-HY.out,<-hR]
    rcases (show R=0∨R=1 by omega) with h | h <;> rw [h] <;> rfl
   have hY0:(0:Int)<=(Y:Int):=by omega
   clear hR h0
   go_wp2
   go_ret
   exact ⟨by rw [<-hres.out]; rfl,hB⟩
def InsP (n:Nat) (Wd:Nat->Nat->Nat) (x i:Nat):Prop:=(∃ j,j<n/\Wd i j≠0)/\∀ j,j<n->Wd i j=0∨bitN x j=true
def RecOk (n l:Nat) (Wd:Nat->Nat->Nat) (x:Nat):Prop:=∀ i,i<l->¬ InsP n Wd x i
noncomputable def cntR (n l:Nat) (Wd:Nat->Nat->Nat) (m s:Nat):Nat:=cntS (fun x=>RecOk n l Wd x/\sizN x n=s) m
theorem cntS_yes {P:Nat->Prop} {m:Nat} (h:P m):cntS P (m+1)=cntS P m+1:=by
 classical
 show cntS P m+(if P m then 1 else 0)=_
 rw [if_pos h]
theorem cntS_no {P:Nat->Prop} {m:Nat} (h:¬ P m):cntS P (m+1)=cntS P m:=by
 classical
 show cntS P m+(if P m then 1 else 0)=_
 rw [if_neg h]; rfl
theorem cntR_yes {n l:Nat} {Wd:Nat->Nat->Nat} {m s:Nat} (h:RecOk n l Wd m):cntR n l Wd (m+1) s=if s=sizN m n then cntR n l Wd m s+1 else cntR n l Wd m s:=by
 unfold cntR
 by_cases e:s=sizN m n
 ·rw [if_pos e]
  exact cntS_yes (P:=fun x=>RecOk n l Wd x/\sizN x n=s) ⟨h,e.symm⟩
 ·rw [if_neg e]
  exact cntS_no (P:=fun x=>RecOk n l Wd x/\sizN x n=s) (fun g=>e g.2.symm)
theorem cntR_no {n l:Nat} {Wd:Nat->Nat->Nat} {m s:Nat} (h:¬ RecOk n l Wd m):cntR n l Wd (m+1) s=cntR n l Wd m s:=cntS_no (P:=fun x=>RecOk n l Wd x/\sizN x n=s) (fun g=>h g.1)
theorem refRec_any (n l cw:Nat) (TW:Option Addr) (Wd:Nat->Nat->Nat) (w:World) (hw:MRows w TW l n Wd) (hn:n<=8) (hl:l<=65536) :
  Calls Tryz.prog 18 #[.int .i64 (n:Nat),.slice TW l cw] w (PolyPost (rrP 2 n (cntR n l Wd (2 ^ n)) (n+1)).1 (rrP 2 n (cntR n l Wd (2 ^ n)) (n+1)).2 w):=by
 have HW:=hid hw
 obtain ⟨xs,hxs⟩:∃ f,f=cntR n l Wd (2 ^ n):=⟨_,rfl⟩
 rw [<-hxs]
 have HXS:=hid hxs
 clear hw hxs
 have hmk:=fun W=>zau (P:=Tryz.prog) 22 3 _ 8 Tryz.underlying22 Tryz.infoInt rfl ((n:Int)+1) (by omega) (by omega) (by omega) W
 rw [show ((n:Int)+1).toNat=n+1 by omega] at hmk
 have hwn:IntKind.i64.wrap ((n:Int)+1)=(n:Int)+1:=IntWalk.i64_in _ (by omega)
 have hpw:2 ^ n<=256:=Nat.pow_le_pow_right (n:=2) (by omega) hn
 go_enter Tryz.func18, Tryz.ntmps18
 go_upto_region 2 with fail
 have kb:=(Below.refl w.heap.size w).alloc (Nat.le_refl _) (Obj.cells (madeCells #[Value.int .i64 0] (n+1)) 3)
 have ra:=World.rowIs_made w (.int .i64 0) (n+1) 3
 obtain ⟨w1,hw1⟩:∃ W,W=w.alloc (Obj.cells (madeCells #[Value.int .i64 0] (n+1)) 3):=⟨_,rfl⟩
 obtain ⟨cb,hcb⟩:∃ b,b=w.heap.size:=⟨_,rfl⟩
 rw [<-hw1] at kb ra ⊢
 rw [<-hcb] at ra ⊢
 have HCB:=hid (show w.heap.size<=cb by omega)
 have HR0:Hid (w1.rowIs cb 3 (n+1) (fun s=>.int .i64 (cntR n l Wd 0 s:Nat))):=ra.congr fun s _=>rfl
 have HB0:=hid kb
 clear hw1 hcb hmk kb ra hwn
 go_wp2
 go_loopg [6,7] n (fun gg tv iv wx=>∃ i Y:Nat,iv=.int .i64 (i:Nat)/\i<=n/\n<=i+gg/\tv=.int .i64 (Y:Nat)/\Hid (Y=2 ^ i)/\Y<=256/\wx=w1)
 case atStart=>exact ⟨0,1,rfl,by omega,by omega,rfl,rfl,by omega,rfl⟩
 case round =>
  obtain ⟨i,Y,rfl,hi,hig,rfl,HY,hY,rfl⟩:=hrel
  have hi0:(0:Int)<=(i:Int):=by omega
  by_cases hlt:i<n
  ·have hlt':(i:Int)<(n:Int):=by omega
   obtain ⟨Z,hZ⟩:∃ Z,Z=Y*2:=⟨_,rfl⟩
   have hZe:(Y:Int)*2=(Z:Int):=by rw [hZ]; push_cast; rfl
   have HZ:Hid (Z=2 ^ (i+1)):=by show _=_; rw [hZ,HY.out,Nat.pow_succ]
   have hZb:Z<=256:=by
    have h1:2 ^ (i+1)<=2 ^ n:=Nat.pow_le_pow_right (by omega) (by omega)
    have:=HZ.out
    omega
   have hwz:IntKind.i64.wrap (Z:Int)=(Z:Int):=IntWalk.i64_in _ (by omega)
   clear hZ
   go_wp2
   clear hZe hwz
   go_roundg (gk - 1)
   case measure=>omega
   case rel=>exact ⟨i+1,Z,by go_num,by omega,by omega,rfl,HZ,hZb,rfl⟩
  ·have hlt' : ¬ (i : Int) < (n : Int) := by omega
   obtain rfl:i=n:=by omega
   have HYY:=HY
   obtain ⟨gA,hgA⟩:∃ x,x=gk:=⟨_,rfl⟩
   subst hgA
   go_wp2
   go_loopg [8] Y (fun gg sv wx=>∃ x:Nat,sv=.int .i64 (x:Nat)/\x<=Y/\Y<=x+gg/\Hid (wx.rowIs cb 3 (i+1) (fun s=>.int .i64 (cntR i l Wd x s:Nat)))/\Below w.heap.size w wx)
   case atStart=>exact ⟨0,rfl,by omega,by omega,HR0,HB0.out⟩
   case round =>
    clear HR0 HB0
    obtain ⟨x,rfl,hx,hxg,HR,hB⟩:=hrel
    have hx0:(0:Int)<=(x:Int):=by omega
    by_cases hxY:x<Y
    ·have hxY' : (x : Int) < (Y : Int) := by omega
     obtain ⟨gO,hgO⟩:∃ x,x=gk:=⟨_,rfl⟩
     subst hgO
     obtain ⟨w2,hw2⟩:∃ X,X=wr:=⟨_,rfl⟩
     subst hw2
     have HB2:=hid hB
     clear hB
     go_wp2
     go_loopg [9,10] l (fun gg ov iv wx=>∃ u:Nat,∃ b:Bool,iv=.int .i64 (u:Nat)/\u<=l/\l<=u+gg/\ov=.bool b/\Hid (b=true↔∀ v,v<u->¬ InsP i Wd x v)/\Below w2.heap.size w2 wx)
     case atStart=>exact ⟨0,true,rfl,by omega,by omega,rfl,⟨fun _ v hv=>absurd hv (by omega),fun _=>rfl⟩,Below.refl _ _⟩
     case round =>
      obtain ⟨u,b,rfl,hu,hug,rfl,HOK,hB⟩:=hrel
      have hu0:(0:Int)<=(u:Int):=by omega
      by_cases hul:u<l
      ·have hul' : (u : Int) < (l : Int) := by omega
       obtain ⟨tb,to0,RA,rc,hTe,htb,t0,_,_,hrow,_⟩:=HW.out u hul
       subst hTe
       have hB0:=onS HB2.out hB
       have HTB:=hid htb
       have HT0:=hid t0
       have HROW:=hid hrow
       have q4:wr.cell? ⟨tb,to0+u,none⟩=some (.slice RA i rc):=(hB0.cell (p:=⟨tb,to0+u,none⟩) htb).trans t0
       obtain ⟨w3,hw3⟩:∃ X,X=wr:=⟨_,rfl⟩
       subst hw3
       clear t0 htb hrow
       go_wp2_with fail
       refine (weight55_any RA i rc (fun j=>(Wd u j:Nat)) w3 (HROW.out.on hB0) (by omega)).mono ?_
       rintro e w4 ⟨rfl,kb⟩
       have HB4:=hid (onS hB kb)
       have HBA:=hid (onS hB0 kb)
       clear kb hB hB0 q4
       obtain ⟨D,hD⟩:∃ D,D=disN (fun j=>((Wd u j:Nat):Int)) (fun _=>0) i:=⟨_,rfl⟩
       rw [<-hD]
       obtain ⟨d0,hd0⟩:∃ b,decide ((D:Int) > 0)=b:=⟨_,rfl⟩
       have hd0':decide (0<D)=d0:=by
        rw [<-hd0]
        by_cases h:0<D
        ·rw [decide_eq_true h,decide_eq_true (by omega)]
        ·rw [decide_eq_false h,decide_eq_false (by omega)]
       have HD0 : Hid (d0 = true ↔ ∃ j, j < i ∧ Wd u j ≠ 0) := by
        show _↔_
        rw [<-hd0,decide_eq_true_eq]
        constructor
        ·intro h
         by_cases hx:∃ j,j<i/\Wd u j≠0
         ·exact hx
         ·have h3:disN (fun j=>((Wd u j:Nat):Int)) (fun _=>0) i=0:=zkF.2 fun j hj=>by
           by_cases e:Wd u j=0
           ·show ((Wd u j:Nat):Int)=0
            rw [e]; rfl
           ·exact absurd ⟨j,hj,e⟩ hx
          rw [<-hD] at h3
          omega
        ·rintro ⟨j,hj,hne⟩
         by_cases h3:D=0
         ·rw [hD] at h3
          have h4:((Wd u j:Nat):Int)=0:=zkF.1 h3 j hj
          omega
         ·omega
       clear hD
       obtain ⟨gP,hgP⟩:∃ x,x=gk:=⟨_,rfl⟩
       subst hgP
       go_wp2
       clear hd0 hd0'
       go_loopg [11,12] i (fun gg nv jv wx=>∃ j:Nat,∃ c:Bool,jv=.int .i64 (j:Nat)/\j<=i/\i<=j+gg/\nv=.bool c/\Hid (c=true↔(∃ t,t<i/\Wd u t≠0)/\∀ t,t<j->Wd u t=0∨bitN x t=true)/\Hid (Below w2.heap.size w2 wx)/\Hid (Below w.heap.size w wx))
       case atStart=>exact ⟨0,d0,rfl,by omega,by omega,rfl,⟨fun h=>⟨HD0.out.1 h,fun t ht=>absurd ht (by omega)⟩,fun h=>HD0.out.2 h.1⟩,HB4,HBA⟩
       case round =>
        clear HB4 HBA HD0
        obtain ⟨j,c,rfl,hj,hjg,rfl,HC,HB4,HBA⟩:=hrel
        have hj0:(0:Int)<=(j:Int):=by omega
        by_cases hji:j<i
        ·have hji':(j:Int)<(i:Int):=by omega
         cases c
         ·have HC2:Hid (false=true↔(∃ t,t<i/\Wd u t≠0)/\∀ t,t<j+1->Wd u t=0∨bitN x t=true):=⟨fun h=>absurd h (by decide),fun h=>absurd (HC.out.2 ⟨h.1,fun t ht=>h.2 t (by omega)⟩) (by decide)⟩
          go_wp2
          go_roundg (gk - 1)
          case measure=>omega
          case rel=>exact ⟨j+1,false,by go_num,by omega,by omega,rfl,HC2,HB4,HBA⟩
         ·have hC:=HC.out.1 rfl
          have HCC:=hid hC
          obtain ⟨xb,xo,hxe,hxb,x0⟩:=HROW.out.at hji
          subst hxe
          have q4:wr.cell? ⟨tb,to0+u,none⟩=some (.slice (some ⟨xb,xo,none⟩) i rc):=(HBA.out.cell (p:=⟨tb,to0+u,none⟩) HTB.out).trans HT0.out
          have q5:=(HBA.out.cell (p:=⟨xb,xo+j,none⟩) hxb).trans x0
          obtain ⟨y,hy⟩:∃ y,y=Wd u j:=⟨_,rfl⟩
          rw [<-hy] at q5
          have HYW:=hid hy
          clear hy x0 hxb hC
          by_cases hy0:y=0
          ·have hyb:((y:Int) == 0)=true:=by simp [hy0]
           have HC2:Hid (true=true↔(∃ t,t<i/\Wd u t≠0)/\∀ t,t<j+1->Wd u t=0∨bitN x t=true):=⟨fun _=>⟨HCC.out.1,fun t ht=>by
            by_cases e:t=j
            ·rw [e,<-HYW.out]; exact .inl hy0
            ·exact HCC.out.2 t (by omega)⟩,fun _=>rfl⟩
           clear hy0
           go_wp2
           clear q4 q5
           go_roundg (gk - 1)
           case measure=>omega
           case rel=>exact ⟨j+1,true,by go_num,by omega,by omega,rfl,⟨fun _=>HC2.out.1 trivial,fun _=>rfl⟩,HB4,HBA⟩
          ·have hyb:((y:Int) == 0)=false:=by simp; omega
           have HY0:=hid hy0
           clear hy0
           go_wp2_with fail
           refine (bit_any x j wr (by omega) (by omega)).mono ?_
           rintro e w5 ⟨rfl,kb⟩
           have HB5:=hid (onS HB4.out kb)
           have HBA5:=hid (onS HBA.out kb)
           obtain ⟨bb,hbb⟩:∃ b,b=bitN x j:=⟨_,rfl⟩
           rw [<-hbb]
           have HC2:Hid (bb=true↔(∃ t,t<i/\Wd u t≠0)/\∀ t,t<j+1->Wd u t=0∨bitN x t=true):=⟨fun h=>⟨HCC.out.1,fun t ht=>by
            by_cases e:t=j
            ·rw [e,<-hbb]; exact .inr h
            ·exact HCC.out.2 t (by omega)⟩,fun h=>by
            rcases h.2 j (by omega) with h1 | h1
            ·rw [<-HYW.out] at h1; exact absurd h1 HY0.out
            ·rw [hbb]; exact h1⟩
           clear kb hbb q4 q5 HB4 HBA
           go_wp2
           go_roundg (gk - 1)
           case measure=>omega
           case rel=>exact ⟨j+1,bb,by go_num,by omega,by omega,rfl,HC2,HB5,HBA5⟩
        ·have hji':¬ (j:Int)<(i:Int):=by omega
         have hje:j=i:=by omega
         have HIN:Hid (c=true↔InsP i Wd x u):=by rw [hje] at HC; exact HC
         have HOK2:Hid ((b && !c)=true↔∀ v,v<u+1->¬ InsP i Wd x v):=by
          show _↔_
          rw [Bool.and_eq_true,HOK.out]
          constructor
          ·rintro ⟨h1,h2⟩ v hv
           by_cases e:v=u
           ·rw [e,<-HIN.out]
            intro h3
            rw [h3] at h2
            cases h2
           ·exact h1 v (by omega)
          ·intro h
           refine ⟨fun v hv=>h v (by omega),?_⟩
           cases hc:c
           ·rfl
           ·exact absurd (HIN.out.1 hc) (h u (by omega))
         clear hje HC HIN
         cases b
         ·go_wp2
          go_roundg (gP - 1)
          case measure=>omega
          case rel=>exact ⟨u+1,false,by go_num,by omega,by omega,rfl,by simpa using HOK2,HB4.out⟩
         ·go_wp2
          go_roundg (gP - 1)
          case measure=>omega
          case rel=>exact ⟨u+1,!c,by go_num,by omega,by omega,rfl,by simpa using HOK2,HB4.out⟩
      ·have hul':¬ (u:Int)<(l:Int):=by omega
       have hue:u=l:=by omega
       have HOKR:Hid (b=true↔RecOk i l Wd x):=by rw [hue] at HOK; exact HOK
       have HRB:=hid (zaa HR.out hB)
       have HBW:=hid (onS HB2.out hB)
       clear hue HOK hB
       cases b
       ·have HR2:Hid (wr.rowIs cb 3 (i+1) (fun s=>.int .i64 (cntR i l Wd (x+1) s:Nat))):=HRB.out.congr fun s _=>by
         rw [cntR_no fun h=>absurd (HOKR.out.2 h) (by decide)]
        go_wp2
        go_roundg (gO - 1)
        case measure=>omega
        case rel=>exact ⟨x+1,by go_num,by omega,by omega,HR2,HBW.out⟩
       ·have HRK:=hid (HOKR.out.1 rfl)
        obtain ⟨w3,hw3⟩:∃ X,X=wr:=⟨_,rfl⟩
        subst hw3
        go_wp2
        go_loopg [13,14] i (fun gg nv jv wx=>∃ j:Nat,jv=.int .i64 (j:Nat)/\j<=i/\i<=j+gg/\nv=.int .i64 (sizN x j:Nat)/\Below w3.heap.size w3 wx)
        case atStart=>exact ⟨0,rfl,by omega,by omega,rfl,Below.refl _ _⟩
        case round =>
         obtain ⟨j,rfl,hj,hjg,rfl,hB⟩:=hrel
         have hj0:(0:Int)<=(j:Int):=by omega
         have hsj:=sizN_le x j
         by_cases hji:j<i
         ·have hji':(j:Int)<(i:Int):=by omega
          go_wp2_with fail
          refine (bit_any x j wr (by omega) (by omega)).mono ?_
          rintro e w5 ⟨rfl,kb⟩
          have hB5:=onS hB kb
          have hs1:sizN x (j+1)=sizN x j+if bitN x j then 1 else 0:=rfl
          have HS1:=hid hs1
          obtain ⟨sz,hsz⟩:∃ s,s=sizN x j:=⟨_,rfl⟩
          rw [<-hsz] at hsj HS1 ⊢
          clear hs1 hsz kb hB
          cases hbit:bitN x j
          ·have HS2:Hid (sizN x (j+1)=sz):=by show _=_; rw [HS1.out,hbit]; simp
           clear hbit
           go_wp2
           go_roundg (gk - 1)
           case measure=>omega
           case rel=>exact ⟨j+1,by go_num,by omega,by omega,by rw [HS2.out],hB5⟩
          ·have HS2:Hid (sizN x (j+1)=sz+1):=by show _=_; rw [HS1.out,hbit]; simp
           clear hbit
           go_wp2
           go_roundg (gk - 1)
           case measure=>omega
           case rel=>exact ⟨j+1,by go_num,by omega,by omega,by rw [HS2.out]; go_num,hB5⟩
         ·have hji':¬ (j:Int)<(i:Int):=by omega
          have hje:j=i:=by omega
          subst hje
          obtain ⟨sz,hsz⟩:∃ s,s=sizN x j:=⟨_,rfl⟩
          rw [<-hsz] at hsj ⊢
          have hrw:=zaa HRB.out hB
          obtain ⟨cv,hcv⟩:∃ c,c=cntR j l Wd x sz:=⟨_,rfl⟩
          have hcvb:cv<=x:=by rw [hcv]; exact ziN _ _
          have c0:wr.cell? ⟨cb,sz,none⟩=some (.int .i64 (cv:Nat)):=by rw [hcv]; exact hrw.cell (by omega)
          have z0:=hrw.frozen sz
          have hwc:IntKind.i64.wrap ((cv:Int)+1)=(cv:Int)+1:=IntWalk.i64_in _ (by omega)
          have hsz0:(0:Int)<=(sz:Int):=by omega
          have hszn:(sz:Int)<(j:Int)+1:=by omega
          have HR3:Hid ((wr.setCell ⟨cb,sz,none⟩ (.int .i64 ((cv:Int)+1))).rowIs cb 3 (j+1) (fun s=>.int .i64 (cntR j l Wd (x+1) s:Nat))):=(hrw.set sz _).congr fun s _=>by
           rw [cntR_yes HRK.out]
           by_cases e:s=sz
           ·rw [if_pos e,if_pos (e.trans hsz),e,<-hcv]
            push_cast
            rfl
           ·rw [if_neg e,if_neg (fun h=>e (h.trans hsz.symm))]
          have HB3:=hid (show Below w.heap.size w (wr.setCell ⟨cb,sz,none⟩ (.int .i64 ((cv:Int)+1))) from (onS HBW.out hB).setCell HCB.out _)
          clear hrw hsz hcv hB
          go_wp2
          clear c0 z0 hwc
          go_roundg (gO - 1)
          case measure=>omega
          case rel=>exact ⟨x+1,by go_num,by omega,by omega,HR3,HB3.out⟩
    ·have hxY':¬ (x:Int)<(Y:Int):=by omega
     have hxe:x=Y:=by omega
     have hrr:=HR.out
     rw [hxe,HYY.out] at hrr
     have hxb:Hid (∀ s,xs s<=256):=fun s=>by rw [HXS.out]; exact Nat.le_trans (ziN _ _) hpw
     rw [<-HXS.out] at hrr
     have HRE:=hid hrr
     have hdx:Hid (∀ k,k<=i->dl (xs k)<=8):=fun k _=>by
      have:=zjH (x:=xs k) (by have:=hxb.out k; omega)
      omega
     have hRS:Hid (∀ k,k<=i+1->∀ j,rsz (cl2 (rrP 2 i xs k) j) (1+k*501)):=rsz_rr (by omega) (by omega) (by omega) hdx.out
     have hCA:Hid (clen (rrP 2 i xs (i+1)).2 (rrP 2 i xs (i+1)).1=(rrP 2 i xs (i+1)).1):=rrP_canon 2 i xs (i+1)
     obtain ⟨wE,hwE⟩:∃ W,W=wr:=⟨_,rfl⟩
     rw [<-hwE] at HRE hB ⊢
     have HBE:=hid hB
     clear hwE hrr hxe HR hB HYY HY
     have hu1:mkRat 1 (2 - 1)=((1:Int):Rat):=by decide +kernel
     obtain ⟨u,hu⟩:∃ u:Rat,u=((1:Int):Rat):=⟨_,rfl⟩
     have HU1:=hid hu
     have hu2:mkRat 1 (2 - 1)=u:=by rw [hu1,hu]
     have HU2:=hid hu2
     have hsu:rsz u 1:=by rw [hu]; exact zg5
     obtain ⟨z,hz⟩:∃ z:Rat,z=0:=⟨_,rfl⟩
     have HZ0:=hid hz
     have hsz:rsz z 1:=by rw [hz]; exact zba
     obtain ⟨mo,hmo⟩:∃ z:Rat,z=((-1:Int):Rat):=⟨_,rfl⟩
     have HMO:=hid hmo
     have hsm:rsz mo 1:=by rw [hmo]; exact ziD zg5
     clear hu1 hu hu2 hz hmo
     go_wp2
     go_loopg [15,16] (i+1) (fun gg ov sv wx=>∃ k:Nat,∃ PA pc,sv=.int .i64 (k:Nat)/\k<=i+1/\i+1<=k+gg/\ov=.slice PA (rrP 2 i xs k).1 pc/\RatList wx wx.heap.size PA (rrP 2 i xs k).1 (rrP 2 i xs k).2/\Below wE.heap.size wE wx)
     case atStart=>exact ⟨0,none,0,rfl,by omega,by omega,rfl,fun j hj=>absurd hj (Nat.not_lt_zero j),Below.refl _ _⟩
     case round =>
      obtain ⟨k,PA,pc,rfl,hk,hkg,rfl,hl,hB⟩:=hrel
      have hk0:(0:Int)<=(k:Int):=by omega
      have hLj:=rrP_len 2 i xs k
      have hrk:=zg9 (hRS.out k hk)
      have HRK:=hid hrk
      clear hrk
      by_cases hlt:k<=i
      ·have hlt':(k:Int)<=(i:Int):=by omega
       have hlt2:(k:Int)<(i:Int)+1:=by omega
       obtain ⟨L,hL⟩:∃ L,L=(rrP 2 i xs k).1:=⟨_,rfl⟩
       obtain ⟨S,hS⟩:∃ S,S=(rrP 2 i xs k).2:=⟨_,rfl⟩
       rw [<-hL] at hLj
       rw [<-hL,<-hS] at hl HRK
       rw [<-hL]
       have HLL:=hid hL
       have HSS:=hid hS
       have HLT:=hid hl
       have HBB:=hid hB
       obtain ⟨v,hv⟩:∃ v,v=xs k:=⟨_,rfl⟩
       have hvb:v<=256:=by rw [hv]; exact hxb.out k
       have c0:wr.cell? ⟨cb,k,none⟩=some (.int .i64 (v:Nat)):=by rw [hv]; exact (zaa HRE.out hB).cell (by omega)
       have HVX:=hid hv
       have hu64:IntKind.u64.wrap (v:Int)=(v:Int):=by rw [IntKind.wrap_u64]; omega
       have hv0:(0:Int)<=(v:Int):=by omega
       have hik:(i:Int) - (k:Int)=((i - k:Nat):Int):=by omega
       have hwik:IntKind.i64.wrap ((i - k:Nat):Int)=((i - k:Nat):Int):=IntWalk.i64_in _ (by omega)
       have hpo:Hid (∀ (W:World) (e:Ending) (W':World),PolyPost (clen (sumP S L (tmP 2 i v k).2 (tmP 2 i v k).1) (max L (tmP 2 i v k).1)) (sumP S L (tmP 2 i v k).2 (tmP 2 i v k).1) W e W'->PolyPost (rrP 2 i xs (k+1)).1 (rrP 2 i xs (k+1)).2 W e W'):=fun W e W' hh=>by
        show PolyPost (adP (rrP 2 i xs k) (tmP 2 i (xs k) k)).1 (adP (rrP 2 i xs k) (tmP 2 i (xs k) k)).2 W e W'
        rw [<-HVX.out]
        unfold adP
        rw [<-HLL.out,<-HSS.out]
        exact hh
       have hmu:Hid (∀ (W:World) (e:Ending) (W':World),PolyPost (clen (mulP (fun _=>((v:Nat):Rat)) 1 (patR 2 i k) (i+1)) (1+(i+1))) (mulP (fun _=>((v:Nat):Rat)) 1 (patR 2 i k) (i+1)) W e W'->PolyPost (tmP 2 i v k).1 (tmP 2 i v k).2 W e W'):=fun _ _ _ h=>h
       have hdv:dl v<=8:=by have:=zjH (x:=v) (by omega); omega
       have htm:Hid (∀ j,j<(tmP 2 i v k).1->rsz ((tmP 2 i v k).2 j) 33000):=fun j _=>(zkp (by omega) (by omega) (by omega) (by omega) hdv j).mono (by omega)
       have htl:(tmP 2 i v k).1<=i+2:=by have:=zeM (mulP (fun _=>((v:Nat):Rat)) 1 (patR 2 i k) (i+1)) (1+(i+1)); show clen _ _<=_; omega
       have hpat:Hid (∀ j,j<i+1->rsz (patR 2 i k j) 200):=fun j _=>ziI (by omega) (by omega) (by omega) (by omega) j
       have hrk':Hid (∀ j,j<L->rsz (S j) 33000):=fun j hj=>(HRK.out j hj).mono (by omega)
       obtain ⟨tl,hTL⟩:∃ L,L=(tmP 2 i v k).1:=⟨_,rfl⟩
       obtain ⟨ts,hTS⟩:∃ S,S=(tmP 2 i v k).2:=⟨_,rfl⟩
       rw [<-hTL,<-hTS] at hpo hmu htm
       rw [<-hTL] at htl
       clear hTL hTS
       -- the pattern's factors
       obtain ⟨pl,pv⟩:=zkV (q:=2) (n:=i) (v:=k) (by omega) hlt
       have hA:=zjy (mkRat 1 (2 - 1)) (zg8 (by omega))
       have hC:=zko
       have hLA:Hid (∀ j,j<=k->(pwP (pairR 0 (mkRat 1 (2 - 1))) 2 j).1<=128):=fun j hj=>by rw [(hA j).1]; omega
       have hRA:Hid (∀ j,j<=k->∀ i,i<(pwP (pairR 0 (mkRat 1 (2 - 1))) 2 j).1->rsz ((pwP (pairR 0 (mkRat 1 (2 - 1))) 2 j).2 i) 200):=fun j hj i hi=>by
        rw [(hA j).1] at hi
        rw [(hA j).2 i hi]
        split
        ·exact (rsz_pw (by rw [HU2.out]; exact hsu) j (by omega)).mono (by omega)
        ·exact zba.mono (by omega)
       have hLC:Hid (∀ j,j<=i - k->(pwP (pairR ((1:Int):Rat) (((-1:Int)):Rat)) 2 j).1<=128):=fun j hj=>by rw [(hC j).1]; omega
       have hRC:Hid (∀ j,j<=i - k->∀ i,i<(pwP (pairR ((1:Int):Rat) (((-1:Int)):Rat)) 2 j).1->rsz ((pwP (pairR ((1:Int):Rat) (((-1:Int)):Rat)) 2 j).2 i) 200):=fun j hj i hi=>by
        rw [(hC j).1] at hi
        rw [(hC j).2 i hi]
        exact rsz_sg (by have:=zjc j i (by omega); omega) (by omega)
       have hsA:Hid (∀ i,i<2->rsz (pairR 0 (mkRat 1 (2 - 1)) i) 200):=fun i hi=>by unfold pairR; split; exact zba.mono (by omega); exact (show rsz (mkRat 1 (2 - 1)) 1 by rw [HU2.out]; exact hsu).mono (by omega)
       have hsC:Hid (∀ i,i<2->rsz (pairR ((1:Int):Rat) (((-1:Int)):Rat) i) 200):=fun i hi=>by unfold pairR; split; exact zg5.mono (by omega); exact (ziD zg5).mono (by omega)
       have hlA:=(hA k).1
       have hlC:=(hC (i - k)).1
       clear hA hC
       rw [HU2.out,<-HZ0.out] at hLA hRA hsA hlA
       rw [HU2.out,<-HZ0.out,<-HU1.out,<-HMO.out] at pl pv
       rw [<-HU1.out,<-HMO.out] at hLC hRC hsC hlC
       have PL:=hid pl
       have PV:=hid pv
       clear pl pv hl hB hL hS hv
       obtain ⟨PP,hP⟩:∃ P,P=i+1:=⟨_,rfl⟩
       have HPP:=hid hP
       rw [<-hP] at hmu hpat
       have hP65:PP<=65:=by omega
       obtain ⟨KL,hKL⟩:∃ x,x=k+1:=⟨_,rfl⟩
       obtain ⟨CL,hCL⟩:∃ x,x=i - k+1:=⟨_,rfl⟩
       rw [<-hKL] at hlA
       rw [<-hCL] at hlC
       have hmul:KL*(200+200+1)<=65*401:=Nat.mul_le_mul (by omega) (by omega)
       have hKL2:KL<=65:=by omega
       have hCL2:CL<=65:=by omega
       clear hP hKL hCL
       go_wp2_with fail
       refine (zfw v wr (by omega)).mono ?_
       rintro e w1 ⟨NA,nc,rfl,g1,g2,g3,kb⟩
       have HN:=hid g3
       replace HLT:=hid (HLT.out.on kb)
       replace HBB:=hid (onS HBB.out kb)
       clear kb g3 c0
       go_wp2_with fail
       refine (zbi 0 _ (by omega) (by omega)).mono ?_
       rintro e w1 ⟨Aa,ca,Ba,da,rfl,a1,a2,a3,a4,a5,a6,kb⟩
       rw [show ((0:Int):Rat)=z from HZ0.out.symm] at a1 a2 a3 a5 ⊢
       replace HN:=hid (HN.out.on kb)
       replace HLT:=hid (HLT.out.on kb)
       replace HBB:=hid (onS HBB.out kb)
       clear kb
       go_wp2_with fail
       refine (zbi 1 _ (by omega) (by omega)).mono ?_
       rintro e w2 ⟨Ab,cb',Bb,db,rfl,b1,b2,b3,b4,b5,b6,kb⟩
       rw [<-HU1.out] at b1 b2 b3 b5 ⊢
       replace a1:=a1.on kb
       replace a2:=a2.on kb
       replace HN:=hid (HN.out.on kb)
       replace HLT:=hid (HLT.out.on kb)
       replace HBB:=hid (onS HBB.out kb)
       clear kb
       have kb:=zab w2 (.cells #[.bool (rneg z),.slice Aa (dl z.num.natAbs) ca,.slice Ba (dl z.den) da,.bool (rneg u),.slice Ab (dl u.num.natAbs) cb',.slice Bb (dl u.den) db] 49)
       have tb:=zaE 49 (N:=200) (zaH a1 a2 a3 a4 a5 a6 (hsz.mono (by omega))) (zaH b1 b2 b3 b4 b5 b6 (hsu.mono (by omega)))
       replace HN:=hid (HN.out.on kb)
       replace HLT:=hid (HLT.out.on kb)
       replace HBB:=hid (onS HBB.out kb)
       clear kb a1 a2 a3 a4 a5 a6 b1 b2 b3 b4 b5 b6
       go_wp2_with fail
       refine (refPower_any _ 2 2 k 200 (pairR z u) _ tb (by omega) (by omega) hsA (by omega) hLA hRA).mono ?_
       rintro e w3 ⟨Ac,cc,rfl,c1,c2,c3,kb⟩
       replace HN:=hid (HN.out.on kb)
       replace HLT:=hid (HLT.out.on kb)
       replace HBB:=hid (onS HBB.out kb)
       clear kb tb
       rw [hlA] at c1 ⊢
       go_wp2_with fail
       refine (zbi 1 _ (by omega) (by omega)).mono ?_
       rintro e w4 ⟨Aa,ca,Ba,da,rfl,a1,a2,a3,a4,a5,a6,kb⟩
       rw [<-HU1.out] at a1 a2 a3 a5 ⊢
       replace c3:=c3.on kb
       replace HN:=hid (HN.out.on kb)
       replace HLT:=hid (HLT.out.on kb)
       replace HBB:=hid (onS HBB.out kb)
       clear kb
       go_wp2_with fail
       refine (zbi (-1) _ (by omega) (by omega)).mono ?_
       rintro e w5 ⟨Ab,cb',Bb,db,rfl,b1,b2,b3,b4,b5,b6,kb⟩
       rw [<-HMO.out] at b1 b2 b3 b5 ⊢
       replace a1:=a1.on kb
       replace a2:=a2.on kb
       replace c3:=c3.on kb
       replace HN:=hid (HN.out.on kb)
       replace HLT:=hid (HLT.out.on kb)
       replace HBB:=hid (onS HBB.out kb)
       clear kb
       have kb:=zab w5 (.cells #[.bool (rneg u),.slice Aa (dl u.num.natAbs) ca,.slice Ba (dl u.den) da,.bool (rneg mo),.slice Ab (dl mo.num.natAbs) cb',.slice Bb (dl mo.den) db] 49)
       have tb:=zaE 49 (N:=200) (zaH a1 a2 a3 a4 a5 a6 (hsu.mono (by omega))) (zaH b1 b2 b3 b4 b5 b6 (hsm.mono (by omega)))
       replace c3:=c3.on kb
       replace HN:=hid (HN.out.on kb)
       replace HLT:=hid (HLT.out.on kb)
       replace HBB:=hid (onS HBB.out kb)
       clear kb a1 a2 a3 a4 a5 a6 b1 b2 b3 b4 b5 b6
       go_wp2_with fail
       refine (refPower_any _ 2 2 (i - k) 200 (pairR u mo) _ tb (by omega) (by omega) hsC (by omega) hLC hRC).mono ?_
       rintro e w6 ⟨Ad,cd,rfl,d1,d2,d3,kb⟩
       replace c3:=c3.on kb
       replace HN:=hid (HN.out.on kb)
       replace HLT:=hid (HLT.out.on kb)
       replace HBB:=hid (onS HBB.out kb)
       clear kb tb
       rw [hlC] at d1 ⊢
       have tc:=RatList.tab c3 (hRA.out k (Nat.le_refl _))
       have td:=RatList.tab d3 (hRC.out (i - k) (Nat.le_refl _))
       have hrc:=hid (hRA.out k (Nat.le_refl _))
       have hrd:=hid (hRC.out (i - k) (Nat.le_refl _))
       rw [hlA] at tc hrc
       rw [hlC] at td hrd
       rw [hlA,hlC] at PL PV
       have HK:Hid (∀ (W:World) (e:Ending) (W':World),PolyPost (clen (mulP (pwP (pairR z u) 2 k).2 KL (pwP (pairR u mo) 2 (i - k)).2 CL) (KL+CL)) (mulP (pwP (pairR z u) 2 k).2 KL (pwP (pairR u mo) 2 (i - k)).2 CL) W e W'->PolyPost PP (patR 2 i k) W e W'):=fun W e W' ⟨A,c,h1,h2,h3,h4,h5⟩=>by
        rw [PL.out] at h1 h2 h4
        rw [HPP.out]
        exact ⟨A,c,h1,h2,h3,h4.congr PV.out,h5⟩
       clear hlA hlC c3 d3 PL PV
       go_wp2_with fail
       refine ((refPMul_any Ac Ad KL cc CL cd 200 (65*401) _ _ _ tc td (by omega) (by omega) hmul (by omega) hrc hrd).mono (fun e W'=>HK.out _ e W')).mono ?_
       rintro e w7 ⟨Ta,cta,rfl,_,_,l3,kb⟩
       have L3:=hid l3
       replace HN:=hid (HN.out.on kb)
       replace HLT:=hid (HLT.out.on kb)
       replace HBB:=hid (onS HBB.out kb)
       clear kb tc td l3 HK
       go_wp2_with fail
       refine ((refTimes_any NA Ta (dl v) nc PP cta v 200 (patR 2 i k) w7 HN.out.raw g1 g2 hdv (L3.out.tab hpat.out) hP65 hpat (by omega) (by omega)).mono (fun e W'=>hmu.out _ e W')).mono ?_
       rintro e w8 ⟨Tb,ctb,rfl,_,_,l4,kb⟩
       have L4:=hid l4
       replace HLT:=hid (HLT.out.on kb)
       replace HBB:=hid (onS HBB.out kb)
       clear kb l4 L3 HN
       go_wp2_with fail
       refine ((refPAdd_any PA Tb L pc tl ctb 33000 S ts w8 ((HLT.out.tab hrk'.out)) (L4.out.tab htm.out) (by omega) (by omega) (by omega) hrk' htm).mono (fun e W'=>hpo.out _ e W')).mono ?_
       rintro e w9 ⟨Tc,ctc,rfl,_,_,l5,kb⟩
       obtain ⟨L',hL'⟩:∃ L,L=(rrP 2 i xs (k+1)).1:=⟨_,rfl⟩
       rw [<-hL'] at l5 ⊢
       have L5:=hid l5
       have HL':=hid hL'
       replace HBB:=hid (onS HBB.out kb)
       clear kb l5 L4 HLT hL' hu64 hwik hik
       go_wp2
       go_roundg (gk - 1)
       case measure=>omega
       case rel=>exact ⟨k+1,Tc,ctc,by go_num,by omega,by omega,by rw [HL'.out],by have:=L5.out; rw [HL'.out] at this; exact this,HBB.out⟩
      ·have hlt':¬ (k:Int)<=(i:Int):=by omega
       have hke:k=i+1:=by omega
       obtain ⟨L,hL⟩:∃ L,L=(rrP 2 i xs (i+1)).1:=⟨_,rfl⟩
       obtain ⟨S,hS⟩:∃ S,S=(rrP 2 i xs (i+1)).2:=⟨_,rfl⟩
       have hca:=hCA.out
       rw [hke] at hl HRK hLj
       rw [show (rrP 2 i xs k).1=L by rw [hke,hL]]
       rw [<-hL] at hLj
       rw [<-hL,<-hS] at hl HRK hca
       have HC:=hid hca
       have HL:=hid hL
       have HS:=hid hS
       have ht:=(hl.tab HRK.out).mono (show 1+(i+1)*501<=33000 by omega)
       clear hca hL hS hl hke
       go_wp2_with fail
       refine (refCanon55_any PA L pc 33000 S _ ht (by omega) (by omega)).mono ?_
       rintro e w2 ⟨Ar,cr,rfl,e1,e2,e3,kb⟩
       rw [HC.out] at e1 e3 ⊢
       have HFB:=hid (onS HBE.out (onS hB kb))
       have E1:=hid e1
       have E3:=hid e3
       clear kb ht hB e1 e3
       go_wp2
       go_ret
       rw [<-HL.out,<-HS.out]
       exact ⟨_,_,rfl,E1.out,e2,E3.out,HFB.out⟩
theorem recs_iff {q n N:Nat} {add mul:Nat->Nat->Nat} {V Wd:Nat->Nat->Nat} (hL:FieldLaws q add mul) (hV:RrefN q n N V) (hW:∀ i,Wd i=spE add mul V (msgD q n i) n) (x:Nat) :
  RecS (Triv q n) (ColD add mul n V) N 0 (fun _=>True) x↔RecOk N (q ^ n) Wd x:=by
 have hq:0<q:=by have:=hL.two; omega
 obtain ⟨p,hE⟩:=hV
 constructor
 ·rintro h i hi ⟨⟨j,hj,hne⟩,hin⟩
  refine hne ?_
  have hc:=h (msgD q n i) (fun t _=>msgD_lt hq) ⟨trivial,fun u hu hb=>by
   show dotN add mul (msgD q n i) (fun t=>V t (0+u)) n=0
   rw [Nat.zero_add,zhE,<-hW i]
   rcases hin u hu with h1 | h1
   ·exact h1
   ·rw [h1] at hb; cases hb⟩
  rw [hW i,<-zhE]
  exact zeo hL n (fun t ht=>hE.lt t ht j hj) _ hc
 ·rintro h c hc ⟨_,hk⟩ t ht
  obtain ⟨y,hy,hm⟩:=msg_of hc
  have hwy:∀ j,Wd y j=spE add mul V c n j:=fun j=>by
   rw [hW y]
   exact zfF n fun u hu=>⟨hm u hu,rfl⟩
  have hz:∀ j,j<N->Wd y j=0:=fun j hj=>by
   by_cases e:Wd y j=0
   ·exact e
   ·refine absurd ⟨⟨j,hj,e⟩,fun u hu=>?_⟩ (h y hy)
    cases hb:bitN x u
    ·refine .inl ?_
     have:=hk u hu hb
     unfold ColD at this
     rw [Nat.zero_add,zhE] at this
     rw [hwy u]
     exact this
    ·exact .inr rfl
  have:=hz (p t) (hE.pvlt t ht)
  rw [hwy,hE.spE_pv hL hc ht] at this
  exact this
theorem rec_counts {P M n N:Nat} {m:Nat->Nat} {V Wd:Nat->Nat->Nat} (hL:FieldLaws (P ^ M) (addF P M) (mulF P M m)) (hV:RrefN (P ^ M) n N V) (hW:∀ i,Wd i=spE (addF P M) (mulF P M m) V (msgD (P ^ M) n i) n):recC P M m n V N=cntR N ((P ^ M) ^ n) Wd (2 ^ N):=by
 funext s
 unfold recC cntR
 rw [zfs]
 refine zdp fun x _=>?_
 rw [recs_iff hL hV hW x,Nat.zero_add]
theorem channelRecover_any (P M:Int) (A:Option Addr) (k c:Nat) (f:Nat->Int) (N:Int) (T:Option Addr) (n d:Nat) (ln:Nat->Nat) (V:Nat->Nat->Int) (w:World) (hr:IntsR w w.heap.size A k f) (h:IntRows w T n ln V) :
  Calls Tryz.prog 3 #[.agg #[.int .i64 P,.int .i64 M,.slice A k c,.int .i64 N,.slice T n d]] w fun e w'=>e=.returned (.bool true)/\Below w.heap.size w w':=by
 have HT:=hid h
 have HR:=hid hr
 clear h hr
 have rf:=zbN (w:=w) (a:=.int .i64 P) (b:=.int .i64 M) (c:=.slice A k c) (d:=.int .i64 N) (e:=.slice T n d) (T := 27)
 have hB:Below w.heap.size w (w.alloc (.cells #[.int .i64 P,.int .i64 M,.slice A k c,.int .i64 N,.slice T n d] 27)):=(Below.refl _ _).alloc (Nat.le_refl _) _
 obtain ⟨w1,hw1⟩:∃ W,W=w.alloc (.cells #[.int .i64 P,.int .i64 M,.slice A k c,.int .i64 N,.slice T n d] 27):=⟨_,rfl⟩
 rw [<-hw1] at hB rf
 go_enter Tryz.func3, Tryz.ntmps3
 go_upto_region 1 with fail
 rw [<-hw1]
 clear hw1
 have q0:w1.cell? ⟨w.heap.size,0,none⟩=some (.int .i64 P):=rf.cell (i:=0) (by omega)
 have q1:w1.cell? ⟨w.heap.size,1,none⟩=some (.int .i64 M):=rf.cell (i:=1) (by omega)
 have q2:w1.cell? ⟨w.heap.size,2,none⟩=some (.slice A k c):=rf.cell (i:=2) (by omega)
 have q3:w1.cell? ⟨w.heap.size,3,none⟩=some (.int .i64 N):=rf.cell (i:=3) (by omega)
 have q4:w1.cell? ⟨w.heap.size,4,none⟩=some (.slice T n d):=rf.cell (i:=4) (by omega)
 by_cases hn:¬ n<=64
 ·have hn1:¬ (n:Int)<=64:=by omega
  have hn2:(n:Int) > 64:=by omega
  go_wp2
  go_ret
  exact ⟨rfl,hB⟩
 have hn1:(n:Int)<=64:=by omega
 have hn2:¬ (n:Int) > 64:=by omega
 by_cases hN8:N > 8
 focus
  have hb8:decide (N > 8)=true:=by simpa using hN8
  by_cases hN16:N<=16
  focus
   have hb16:decide (N<=16)=true:=by simpa using hN16
   go_wp2_with fail
   refine (zf7 P M A k c f N T n d ln V w1 (HR.out.on hB) (HT.out.on hB)).mono ?_
   rintro e wA ⟨v,rfl,hv,kb⟩
   replace rf:=zaa rf kb
   replace hB:=onS hB kb
   clear kb
   clear q0 q1 q2 q3 q4
   by_cases hv0:v=0
   ·have hvb:(v == 0)=true:=by simpa using hv0
    clear hv0 hv
    go_wp2
    go_ret
    exact ⟨rfl,hB⟩
   have hvb:(v == 0)=false:=by simpa using hv0
   clear hv hv0
   go_upto_region 3 with fail
   clear hvb hb16 hb8 hN16 hN8
  rotate_left
  focus
   have hb16:decide (N<=16)=false:=by simpa using hN16
   obtain ⟨wA,hwA⟩:∃ W,W=w1:=⟨_,rfl⟩
   go_upto_region 3 with fail
   rw [<-hwA] at rf hB ⊢
   clear q0 q1 q2 q3 q4
   clear hwA
   clear hb16 hb8 hN16 hN8
  rotate_left
 rotate_left 2
 focus
  have hb8:decide (N > 8)=false:=by simpa using hN8
  obtain ⟨wA,hwA⟩:∃ W,W=w1:=⟨_,rfl⟩
  go_upto_region 3 with fail
  rw [<-hwA] at rf hB ⊢
  clear q0 q1 q2 q3 q4
  clear hwA
  clear hb8 hN8
 rotate_left
 all_goals
  have q0:wA.cell? ⟨w.heap.size,0,none⟩=some (.int .i64 P):=rf.cell (i:=0) (by omega)
  have q1:wA.cell? ⟨w.heap.size,1,none⟩=some (.int .i64 M):=rf.cell (i:=1) (by omega)
  have q2:wA.cell? ⟨w.heap.size,2,none⟩=some (.slice A k c):=rf.cell (i:=2) (by omega)
  have q3:wA.cell? ⟨w.heap.size,3,none⟩=some (.int .i64 N):=rf.cell (i:=3) (by omega)
  have q4:wA.cell? ⟨w.heap.size,4,none⟩=some (.slice T n d):=rf.cell (i:=4) (by omega)
  go_wp2_with fail
  refine (zgm P M A k c f N T n d ln V wA (HR.out.on hB) (HT.out.on hB)).mono ?_
  rintro e w2 ⟨kb,hcase⟩
  replace rf:=zaa rf kb
  replace hB:=onS hB kb
  clear kb
  clear q0 q1 q2 q3 q4
  rcases hcase with ⟨v,hv0,hv1,rfl⟩ | ⟨hv1,h16,rfl⟩ | ⟨hv1,h16,hres⟩
  ·have HV:=hid hv1
   have q0:w2.cell? ⟨w.heap.size,0,none⟩=some (.int .i64 P):=rf.cell (i:=0) (by omega)
   have q1:w2.cell? ⟨w.heap.size,1,none⟩=some (.int .i64 M):=rf.cell (i:=1) (by omega)
   have q2:w2.cell? ⟨w.heap.size,2,none⟩=some (.slice A k c):=rf.cell (i:=2) (by omega)
   have q3:w2.cell? ⟨w.heap.size,3,none⟩=some (.int .i64 N):=rf.cell (i:=3) (by omega)
   have q4:w2.cell? ⟨w.heap.size,4,none⟩=some (.slice T n d):=rf.cell (i:=4) (by omega)
   go_wp2_with fail
   refine (zf7 P M A k c f N T n d ln V w2 (HR.out.on hB) (HT.out.on hB)).mono ?_
   rintro e w3 ⟨v2,rfl,hv2,kb⟩
   obtain rfl:v2=v:=FirstErr.unique hv2 HV.out
   replace rf:=zaa rf kb
   replace hB:=onS hB kb
   clear kb
   clear q0 q1 q2 q3 q4
   have hvb:(v2 != 0)=true:=by simpa using hv0
   have hvv:(v2 == v2)=true:=by simp
   clear hv0 hv1 hv2
   have q0:w3.cell? ⟨w.heap.size,0,none⟩=some (.int .i64 P):=rf.cell (i:=0) (by omega)
   have q1:w3.cell? ⟨w.heap.size,1,none⟩=some (.int .i64 M):=rf.cell (i:=1) (by omega)
   have q2:w3.cell? ⟨w.heap.size,2,none⟩=some (.slice A k c):=rf.cell (i:=2) (by omega)
   have q3:w3.cell? ⟨w.heap.size,3,none⟩=some (.int .i64 N):=rf.cell (i:=3) (by omega)
   have q4:w3.cell? ⟨w.heap.size,4,none⟩=some (.slice T n d):=rf.cell (i:=4) (by omega)
   go_wp2_with fail
   refine (zf7 P M A k c f N T n d ln V w3 (HR.out.on hB) (HT.out.on hB)).mono ?_
   rintro e w4 ⟨v3,rfl,hv3,kb⟩
   obtain rfl:v3=v2:=FirstErr.unique hv3 HV.out
   replace rf:=zaa rf kb
   replace hB:=onS hB kb
   clear kb
   clear q0 q1 q2 q3 q4
   clear hv3 rf
   go_wp2
   go_ret
   exact ⟨rfl,hB⟩
  ·have HV:=hid hv1
   have q0:w2.cell? ⟨w.heap.size,0,none⟩=some (.int .i64 P):=rf.cell (i:=0) (by omega)
   have q1:w2.cell? ⟨w.heap.size,1,none⟩=some (.int .i64 M):=rf.cell (i:=1) (by omega)
   have q2:w2.cell? ⟨w.heap.size,2,none⟩=some (.slice A k c):=rf.cell (i:=2) (by omega)
   have q3:w2.cell? ⟨w.heap.size,3,none⟩=some (.int .i64 N):=rf.cell (i:=3) (by omega)
   have q4:w2.cell? ⟨w.heap.size,4,none⟩=some (.slice T n d):=rf.cell (i:=4) (by omega)
   go_wp2_with fail
   refine (zf7 P M A k c f N T n d ln V w2 (HR.out.on hB) (HT.out.on hB)).mono ?_
   rintro e w3 ⟨v2,rfl,hv2,kb⟩
   obtain rfl:v2=0:=FirstErr.unique hv2 HV.out
   replace rf:=zaa rf kb
   replace hB:=onS hB kb
   clear kb
   clear q0 q1 q2 q3 q4
   clear hv1 hv2
   have q0:w3.cell? ⟨w.heap.size,0,none⟩=some (.int .i64 P):=rf.cell (i:=0) (by omega)
   have q1:w3.cell? ⟨w.heap.size,1,none⟩=some (.int .i64 M):=rf.cell (i:=1) (by omega)
   have q2:w3.cell? ⟨w.heap.size,2,none⟩=some (.slice A k c):=rf.cell (i:=2) (by omega)
   have q3:w3.cell? ⟨w.heap.size,3,none⟩=some (.int .i64 N):=rf.cell (i:=3) (by omega)
   have q4:w3.cell? ⟨w.heap.size,4,none⟩=some (.slice T n d):=rf.cell (i:=4) (by omega)
   have hb16:decide (N > 16)=true:=by simpa using h16
   clear h16
   go_wp2
   go_ret
   exact ⟨rfl,hB⟩
  ·obtain ⟨P,M,N,rfl,rfl,rfl,hC⟩:=zgJ HR.out HT.out hv1
   obtain ⟨RA,rc,rfl,hl⟩:=hres P M N rfl rfl rfl
   have HL0:=hid hl
   have HC:=hid hC
   clear hres hl hC
   obtain ⟨L1,hL1⟩:∃ l,l=(wtP 2 N (recC P M (fun i=>(f i).toNat) n (natT V) N) (N+1)).1:=⟨_,rfl⟩
   rw [<-hL1] at HL0 ⊢
   have HL1:=hid hL1
   clear hL1
   have HV:=hid hv1
   have q0:w2.cell? ⟨w.heap.size,0,none⟩=some (.int .i64 (P:Nat)):=rf.cell (i:=0) (by omega)
   have q1:w2.cell? ⟨w.heap.size,1,none⟩=some (.int .i64 (M:Nat)):=rf.cell (i:=1) (by omega)
   have q2:w2.cell? ⟨w.heap.size,2,none⟩=some (.slice A k c):=rf.cell (i:=2) (by omega)
   have q3:w2.cell? ⟨w.heap.size,3,none⟩=some (.int .i64 (N:Nat)):=rf.cell (i:=3) (by omega)
   have q4:w2.cell? ⟨w.heap.size,4,none⟩=some (.slice T n d):=rf.cell (i:=4) (by omega)
   go_wp2_with fail
   refine (zf7 (P:Int) (M:Int) A k c f (N:Int) T n d ln V w2 (HR.out.on hB) (HT.out.on hB)).mono ?_
   rintro e w3 ⟨v2,rfl,hv2,kb⟩
   obtain rfl:v2=0:=FirstErr.unique hv2 HV.out
   replace HL0:=hid (HL0.out.on kb)
   replace rf:=zaa rf kb
   replace hB:=onS hB kb
   clear kb
   clear q0 q1 q2 q3 q4
   clear hv1 hv2
   have q0:w3.cell? ⟨w.heap.size,0,none⟩=some (.int .i64 (P:Nat)):=rf.cell (i:=0) (by omega)
   have q1:w3.cell? ⟨w.heap.size,1,none⟩=some (.int .i64 (M:Nat)):=rf.cell (i:=1) (by omega)
   have q2:w3.cell? ⟨w.heap.size,2,none⟩=some (.slice A k c):=rf.cell (i:=2) (by omega)
   have q3:w3.cell? ⟨w.heap.size,3,none⟩=some (.int .i64 (N:Nat)):=rf.cell (i:=3) (by omega)
   have q4:w3.cell? ⟨w.heap.size,4,none⟩=some (.slice T n d):=rf.cell (i:=4) (by omega)
   have hb16:decide ((N:Int) > 16)=false:=by simp; omega
   by_cases hN8':(N:Int) > 8
   ·have hb8:decide ((N:Int) > 8)=true:=by simpa using hN8'
    clear hN8'
    go_wp2
    go_ret
    exact ⟨rfl,hB⟩
   have hb8:decide ((N:Int) > 8)=false:=by simpa using hN8'
   have hb8':decide (N > 8)=false:=by simp; omega
   go_wp2_with fail
   refine (count12_any 256 (P:Int) (M:Int) A k c f (N:Int) T n d ln V w3 (HR.out.on hB) (HT.out.on hB) (by omega)).mono ?_
   rintro e w4 ⟨v,rfl,hv,kb⟩
   replace HL0:=hid (HL0.out.on kb)
   replace rf:=zaa rf kb
   replace hB:=onS hB kb
   clear kb
   clear q0 q1 q2 q3 q4
   rcases hv with ⟨rfl,_⟩ | ⟨_,hcnt,hv⟩
   ·clear hN8'
    go_wp2
    go_ret
    exact ⟨rfl,hB⟩
   rw [Int.toNat_natCast,Int.toNat_natCast] at hcnt hv
   have hLL:=fieldLaws HC.out.fld
   have hq2:=hLL.two
   have hq256:=HC.out.fld.1.2.2.2
   have hvz:(v == 0)=false:=by
    have:v≠0:=by
     rw [hv]
     have:=Nat.pow_pos (n:=n) (show 0<P ^ M by omega)
     omega
    simpa using this
   clear hv
   have q0:w4.cell? ⟨w.heap.size,0,none⟩=some (.int .i64 (P:Nat)):=rf.cell (i:=0) (by omega)
   have q1:w4.cell? ⟨w.heap.size,1,none⟩=some (.int .i64 (M:Nat)):=rf.cell (i:=1) (by omega)
   have q2:w4.cell? ⟨w.heap.size,2,none⟩=some (.slice A k c):=rf.cell (i:=2) (by omega)
   have q3:w4.cell? ⟨w.heap.size,3,none⟩=some (.int .i64 (N:Nat)):=rf.cell (i:=3) (by omega)
   have q4:w4.cell? ⟨w.heap.size,4,none⟩=some (.slice T n d):=rf.cell (i:=4) (by omega)
   obtain ⟨m',hm'd⟩:∃ x,x=fun i=>(f i).toNat:=⟨_,rfl⟩
   rw [<-hm'd] at HC HL0 HL1 hLL
   clear hm'd
   go_wp2_with fail
   refine (words12_any P M m' A k c N T n d (natT V) w4 (HC.out.on hB) (by omega)).mono ?_
   rintro e w5 ⟨lv,rfl,hmt,kb⟩
   replace HL0:=hid (HL0.out.on kb)
   replace rf:=zaa rf kb
   replace hB:=onS hB kb
   clear kb
   clear q0 q1 q2 q3 q4
   obtain ⟨Wd,hWd⟩:∃ Wd,Wd=fun i=>spE (addF P M) (mulF P M m') (natT V) (msgD (P ^ M) n i) n:=⟨_,rfl⟩
   have hcn:=rec_counts (Wd:=Wd) hLL HC.out.rref (fun i=>by rw [hWd])
   have hwl:∀ i,i<(P ^ M) ^ n->∀ j,j<N->Wd i j<P ^ M:=fun i _ j _=>by rw [hWd]; exact zhW hLL _ _ _
   rw [<-hWd] at hmt
   rw [hcn] at HL0 HL1
   obtain ⟨ln2,hln2⟩:∃ l,l=(P ^ M) ^ n:=⟨_,rfl⟩
   rw [<-hln2] at hmt hcnt hwl HL0 HL1
   obtain ⟨WA,wc,rfl⟩:=hmt.shape
   have HMR:=hid (hmt.rd hq256 hwl)
   clear hmt hwl hWd hcn hln2
   obtain ⟨xs,hxs⟩:∃ x,x=cntR N ln2 Wd (2 ^ N):=⟨_,rfl⟩
   rw [<-hxs] at HL0 HL1
   have hN64:N<=64:=HC.out.ln2
   have hN8n:N<=8:=by omega
   have hxb:∀ s,xs s<=256:=fun s=>by rw [hxs]; exact Nat.le_trans (ziN _ _) (Nat.pow_le_pow_right (n:=2) (by omega) hN8n)
   have hdx:∀ k,k<=N->dl (xs k)<=8:=fun k _=>by
    have:=zjH (x:=xs k) (by have:=hxb k; omega)
    omega
   have hrs:=zg9 (rsz_rr (q:=2) (by omega) (by omega) hN64 hdx (N+1) (Nat.le_refl _))
   have hrl:=rrP_len 2 N xs (N+1)
   obtain ⟨s1,s2,_⟩:=wt_rr 2 N xs (N+1)
   have hl2:RatList w5 w5.heap.size RA (rrP 2 N xs (N+1)).1 (rrP 2 N xs (N+1)).2:=by
    have hl:=HL0.out
    rw [HL1.out,s1] at hl
    refine hl.congr fun i hi=>?_
    have:=s2 i
    unfold cl2 cutR at this
    rwa [if_pos (by omega),if_pos hi] at this
   rw [s1] at HL1
   have hpo:Hid (∀ (W2:World) (e:Ending) (W':World),PolyPost (rrP 2 N (cntR N ln2 Wd (2 ^ N)) (N+1)).1 (rrP 2 N (cntR N ln2 Wd (2 ^ N)) (N+1)).2 W2 e W'->PolyPost (rrP 2 N xs (N+1)).1 (rrP 2 N xs (N+1)).2 W2 e W'):=fun _ _ _ h=>by rw [hxs]; exact h
   obtain ⟨S,hS⟩:∃ S,S=(rrP 2 N xs (N+1)).2:=⟨_,rfl⟩
   rw [<-HL1.out,<-hS] at hrs hl2 hpo
   rw [<-HL1.out] at hrl
   have HLA:=hid hl2
   have HRS:=hid hrs
   clear hl2 hrs hS s1 s2 hxs hdx hxb HL0 HL1 hLL
   have q0:w5.cell? ⟨w.heap.size,0,none⟩=some (.int .i64 (P:Nat)):=rf.cell (i:=0) (by omega)
   have q1:w5.cell? ⟨w.heap.size,1,none⟩=some (.int .i64 (M:Nat)):=rf.cell (i:=1) (by omega)
   have q2:w5.cell? ⟨w.heap.size,2,none⟩=some (.slice A k c):=rf.cell (i:=2) (by omega)
   have q3:w5.cell? ⟨w.heap.size,3,none⟩=some (.int .i64 (N:Nat)):=rf.cell (i:=3) (by omega)
   have q4:w5.cell? ⟨w.heap.size,4,none⟩=some (.slice T n d):=rf.cell (i:=4) (by omega)
   go_wp2_with fail
   refine ((refRec_any N ln2 wc WA Wd w5 HMR.out hN8n (by omega)).mono (fun e W'=>hpo.out _ e W')).mono ?_
   rintro e w6 ⟨A5,c5,rfl,_,_,k3,kb⟩
   have K3:=hid k3
   replace HLA:=hid (HLA.out.on kb)
   replace rf:=zaa rf kb
   replace hB:=onS hB kb
   clear kb
   clear q0 q1 q2 q3 q4
   clear k3 rf
   go_wp2_with fail
   refine (lawSame_any RA A5 L1 rc c5 (1+(N+1)*501) S w6 HLA.out K3.out (by omega) (by omega) HRS).mono ?_
   rintro e w7 ⟨rfl,kb⟩
   replace hB:=onS hB kb
   clear kb
   go_wp2
   go_ret
   exact ⟨rfl,hB⟩
theorem channelRecover_law {H:Type} {enc:TypeId × Value->H} {w:World} {cs:Array Value}
  (h:Sees enc Tryz.prog w 0 (fun _=>true) true 27 cs.toList) :
  Calls Tryz.prog 3 #[.agg cs] w fun e w'=>e=.returned (.bool true)/\Below w.heap.size w w':=by
 obtain ⟨cs⟩:=cs
 obtain ⟨P,M,A,k,c1,N,T1,n,d,f,ln,V,rfl,_,_,hkc,_,_,_,hr,ht⟩:=zie h
 exact channelRecover_any P M A k c1 f N T1 n d ln V w hr ht
end Go.Proofs.YtioagplajkoohaaGreat