/- Merged texts of a claim: PMulAll, RefEval, PolyC, WtsAll, PatAll, UndAll, DualPl, SeesCode, Cyc, Gf1. -/
import Derived.Test.YtioagplajkoohaaGreatTF1
import Derived.Test.YtioagplajkoohaaGreatTF2
import Derived.Test.YtioagplajkoohaaGreatTF3
import Derived.Test.YtioagplajkoohaaGreatTF5
import Derived.Test.YtioagplajkoohaaGreatTF10
namespace Go.Proofs.YtioagplajkoohaaGreat
set_option maxRecDepth 100000
set_option maxHeartbeats 32000000
open KA KB KC KE
open Go.RowKit
def inP (a b:Nat->Rat) (i:Nat) (S:Nat->Rat):Nat->Nat->Rat
 | 0=>S
 | j+1=>updR (inP a b i S j) (i+j) (inP a b i S j (i+j)+a i*b j)
def outP (a b:Nat->Rat) (m':Nat):Nat->Nat->Rat
 | 0=>fun _=>0
 | i+1=>inP a b i (outP a b m' i) m'
theorem zkT {a b:Nat->Rat} {i:Nat} {S:Nat->Rat} {j p:Nat} (h:i+j<=p∨p<i):inP a b i S j p=S p:=by
 induction j with
 | zero=>rfl
 | succ j ih =>
  show updR _ _ _ p=_
  unfold updR
  rw [if_neg (by omega)]
  exact ih (by omega)
theorem ziE {a b:Nat->Rat} {i N K m m':Nat} {S:Nat->Rat} (h1:∀ k,k<m->rsz (a k) N) (h2:∀ k,k<m'->rsz (b k) N) (hi:i<m) (hS:∀ p,rsz (S p) K) :
  ∀ j,j<=m'->∀ p,rsz (inP a b i S j p) (K+(N+N)+1):=by
 intro j
 induction j with
 | zero=>exact fun _ p=>(hS p).mono (by omega)
 | succ j ih =>
  intro hj p
  show rsz (updR _ _ _ p) _
  unfold updR
  split
  ·rw [zkT (by omega)]
   exact zbo (hS _) (zdg (h1 i hi) (h2 j (by omega)))
  ·exact ih (by omega) p
theorem zg3 {a b:Nat->Rat} {N m m':Nat} (h1:∀ k,k<m->rsz (a k) N) (h2:∀ k,k<m'->rsz (b k) N) :
  ∀ i,i<=m->∀ p,rsz (outP a b m' i p) (1+i*(N+N+1)):=by
 intro i
 induction i with
 | zero=>exact fun _ p=>by show rsz (0:Rat) (1+0*(N+N+1)); rw [Nat.zero_mul]; exact zba
 | succ i ih =>
  intro hi p
  have:=ziE h1 h2 (i:=i) (by omega) (ih (by omega)) m' (Nat.le_refl _) p
  rw [Nat.add_mul,Nat.one_mul]
  exact this.mono (by omega)
def mulP (a:Nat->Rat) (m:Nat) (b:Nat->Rat) (m':Nat):Nat->Rat:=outP a b m' m
theorem RowOk.put' {w:World} {g M k:Nat} {rs rs':Nat->Rat} (h:RowOk w g M k rs) (e:rs=rs'):RowOk w g M k rs':=e ▸ h
theorem zg4 (T T':Option Addr) (m c m' c' N K:Nat) (a b:Nat->Rat) (w:World) (h:RatTab w w.heap.size T m a N) (h':RatTab w w.heap.size T' m' b N) (hm:m<=524288) (hm':m'<=524288) (hK:m*(N+N+1)<=K) (hKN:K+N+N+5<=33554432) (hra:Hid (∀ k,k<m->rsz (a k) N)) (hrb:Hid (∀ k,k<m'->rsz (b k) N)) :
  Calls Tryz.prog 69 #[.slice T m c,.slice T' m' c'] w (PolyPost (clen (mulP a m b m') (m+m')) (mulP a m b m') w):=by
 obtain ⟨NN,hNN⟩:∃ n,n=K+N+N+5:=⟨_,rfl⟩
 have hn1:NN<=33554432:=by omega
 have hn2:K+N+N+5<=NN:=by omega
 clear hNN
 replace h:=h.mono (show N<=NN by omega)
 replace h':=h'.mono (show N<=NN by omega)
 have hSO:Hid (∀ i,i<=m->∀ p,rsz (outP a b m' i p) (K+1)):=fun i hi p=>(zg3 hra.out hrb.out i hi p).mono (by have:i*(N+N+1)<=m*(N+N+1):=Nat.mul_le_mul_right _ hi; omega)
 have hSI:Hid (∀ i,i<m->∀ j,j<=m'->∀ p,rsz (inP a b i (outP a b m' i) j p) (K+1+(N+N)+1)):=fun i hi j hj p=>ziE hra.out hrb.out hi (hSO.out i (by omega)) j hj p
 have hwr1:IntKind.i64.wrap ((m:Int)+(m':Int))=((m+m':Nat):Int):=by rw [IntWalk.i64_in _ (by omega)]; omega
 have hwr2:(m:Int)+(m':Int)=((m+m':Nat):Int):=by omega
 obtain ⟨M,hM⟩:∃ M,M=m+m':=⟨_,rfl⟩
 rw [<-hM] at hwr1 hwr2 ⊢
 have hMle:M<=1048576:=by omega
 have hM1:m+m'<=M:=by omega
 have HM:=hid hM
 clear hM
 have hmk:=fun W=>zcL M hMle W
 have kb1:=zab w (.cells (madeCells #[.bool false,.slice none 0 0,.slice none 0 0] (M*3)) 49)
 have row:=zdi w M (fun _=>0)
 have hB:=kb1
 clear kb1
 have hm0:(0:Int)<=(m:Int):=by omega
 have hm0':(0:Int)<=(m':Int):=by omega
 go_enter Tryz.func69, Tryz.ntmps69
 go_wp2
 obtain ⟨w1,hw1⟩:∃ W,W=w.alloc (.cells (madeCells #[.bool false,.slice none 0 0,.slice none 0 0] (M*3)) 49):=⟨_,rfl⟩
 obtain ⟨g,hg⟩:∃ g,g=w.heap.size:=⟨_,rfl⟩
 rw [<-hw1,<-hg];rw [<-hw1] at hB row;rw [<-hg] at row
 have hgB:w.heap.size<=g:=by omega
 clear hw1 hg hmk hwr2 hwr1
 go_loopg [19] M (fun gg iv wx=>∃ j:Nat,iv=.int .i64 (j:Nat)/\j<=M/\M<=j+gg/\RowOk wx g M j (fun _=>0)/\Below w.heap.size w wx)
 case atStart=>exact ⟨0,rfl,by omega,by omega,row,hB⟩
 case round =>
  clear row hB
  obtain ⟨j,rfl,hj,hjg,row,hB⟩:=hrel
  have hj0:(0:Int)<=(j:Int):=by omega
  by_cases hlt:j<M
  ·have hlt':(j:Int)<(M:Int):=by omega
   obtain ⟨w0,hw0⟩:∃ W,W=wr:=⟨_,rfl⟩
   rw [<-hw0] at row hB ⊢;clear hw0
   obtain ⟨S,hSe⟩:∃ S:Nat->Rat,S=fun _=>0:=⟨_,rfl⟩
   rw [<-hSe] at row
   have HSE:=hid hSe
   clear hSe
   go_wp2_with fail
   refine (zcp _).mono ?_
   rintro e w1 ⟨Ap,cp,Bp,dp,rfl,mp1,mp2,mp3,mp4,mp5,mp6,kb⟩
   replace row:=row.on kb;replace hB:=onS hB kb;clear kb
   obtain ⟨q0,hq0⟩:∃ q:Rat,q=(0:Rat):=⟨_,rfl⟩
   rw [<-hq0] at mp1 mp2 mp3 mp5 ⊢
   replace hq0:q0=0:=hq0.trans (by rfl)
   have HQ0:=hid hq0
   have HSZq0:rsz q0 1:=by rw [hq0]; exact zba
   clear hq0
   obtain ⟨o0,o1,o2,y0,y1,y2⟩:=row.old (j) (by omega)
   have z0:=row.froz (j*3)
   have z1:=row.froz (j*3+1)
   have z2:=row.froz (j*3+2)
   have hsz:=hB.size
   go_upto_region 6 with fail
   generalize hw3:World.setCell _ _ _=w2
   have hst:RowPut w1 g M (j) (j) (S) q0 w2:=by rw [<-hw3]; exact rowPut row (by omega) (by omega) mp1 mp2 mp3 mp4 mp5 mp6
   clear hw3 mp1 mp2 mp3 mp4 mp5 mp6;replace row:=hst.row;replace hB:=hst.below hB hgB hsz;clear hst
   rw [show max j (j+1)=j+1 by omega] at row
   clear y0 y1 y2 z0 z1 z2 hsz
   replace row:=row.whole (show q0=S j by rw [HSE.out,HQ0.out])
   rw [HSE.out] at row;clear HSE HSZq0 HQ0
   go_wp2
   go_roundg (gk - 1)
   case measure=>omega
   case rel=>exact ⟨j+1,by go_num,by omega,by omega,row,hB⟩
  ·obtain rfl:j=M:=by omega
   have hlt':¬ (j:Int)<(j:Int):=by omega
   replace row:=row.put' (show (fun _=>(0:Rat))=outP a b m' 0 from rfl)
   go_wp2
   obtain ⟨w0,hw0⟩:∃ W,W=wr:=⟨_,rfl⟩
   rw [<-hw0] at row hB ⊢;clear hw0 hlt hlt'
   obtain ⟨gK,rfl⟩:∃ gK:Nat,gK=gk:=⟨_,rfl⟩
   go_loopg [29] m (fun gg iv wx=>∃ i:Nat,iv=.int .i64 (i:Nat)/\i<=m/\m<=i+gg/\RowOk wx g j j (outP a b m' i)/\Below w.heap.size w wx)
   case atStart=>exact ⟨0,rfl,by omega,by omega,row,hB⟩
   case round =>
    clear row hB
    obtain ⟨i,rfl,hi,hig,row,hB⟩:=hrel
    have hi0:(0:Int)<=(i:Int):=by omega
    by_cases hlt:i<m
    ·have hlt':(i:Int)<(m:Int):=by omega
     obtain ⟨bx,ox,s5,A5,n5,c5,A6,n6,c6,rfl,hbx,t0,t1,t2,hrx⟩:=h i hlt
     have hrsx:=hra.out i hlt
     have u0:=cellS hB t0
     have u1:=cellS hB t1
     have u2:=cellS hB t2
     have hBo:=hB.size
     have hrl:=row.lt
     have kb:=zab wr (.cells #[.bool s5,.slice A5 n5 c5,.slice A6 n6 c6] 49)
     have rx:=zae (w:=wr) (a:=.bool s5) (b:=.slice A5 n5 c5) (c:=.slice A6 n6 c6) (T := 49)
     replace row:=row.on kb;replace hB:=onS hB kb;clear kb
     go_wp2
     obtain ⟨w2,hw2⟩:∃ W,W=wr.alloc (.cells #[.bool s5,.slice A5 n5 c5,.slice A6 n6 c6] 49):=⟨_,rfl⟩
     obtain ⟨gx,hgx⟩:∃ g,g=wr.heap.size:=⟨_,rfl⟩
     rw [<-hw2,<-hgx];rw [<-hw2] at row rx hB;rw [<-hgx] at rx hrl;clear hw2 hgx u0 u1 u2 hBo
     obtain ⟨gI,rfl⟩:∃ gK:Nat,gK=gk:=⟨_,rfl⟩
     replace row:=row.put' (show outP a b m' i=inP a b i (outP a b m' i) 0 from rfl)
     go_loopg [36] m' (fun gg jv wx=>∃ k:Nat,jv=.int .i64 (k:Nat)/\k<=m'/\m'<=k+gg/\RowOk wx g j j (inP a b i (outP a b m' i) k)/\wx.rowIs gx 49 3 (ratCell (.bool (s5)) (.slice (A5) (n5) (c5)) (.slice (A6) (n6) (c6)))/\Below w.heap.size w wx)
     case atStart=>exact ⟨0,rfl,by omega,by omega,row,rx,hB⟩
     case round =>
      clear row hB rx
      obtain ⟨k,rfl,hk,hkg,row,rx,hB⟩:=hrel
      have hk0:(0:Int)<=(k:Int):=by omega
      by_cases hlk:k<m'
      ·have hlk':(k:Int)<(m':Int):=by omega
       obtain ⟨by_,oy,s7,A7,n7,c7,A8,n8,c8,rfl,hby,v0,v1,v2,hry⟩:=h' k hlk
       have hrsy:=hrb.out k hlk
       have hik:(i:Int)+(k:Int)=((i+k:Nat):Int):=by omega
       have hikw:IntKind.i64.wrap ((i:Int)+(k:Int))=((i+k:Nat):Int):=by rw [IntWalk.i64_in _ (by omega)]; omega
       have hikl:i+k<j:=by omega
       have hikw2:IntKind.i64.wrap ((i+k:Nat):Int)=((i+k:Nat):Int):=by rw [IntWalk.i64_in _ (by omega)]
       have hikl':((i+k:Nat):Int)<(j:Int):=by omega
       have hik0:(0:Int)<=((i+k:Nat):Int):=by omega
       have hikt:((i+k:Nat):Int).toNat=i+k:=by omega
       have u0:=cellS hB v0
       have u1:=cellS hB v1
       have u2:=cellS hB v2
       have hBo:=hB.size
       have hrl2:=row.lt
       have kb:=zab wr (.cells #[.bool s7,.slice A7 n7 c7,.slice A8 n8 c8] 49)
       have ry:=zae (w:=wr) (a:=.bool s7) (b:=.slice A7 n7 c7) (c:=.slice A8 n8 c8) (T := 49)
       replace row:=row.on kb;replace rx:=zaa rx kb;replace hB:=onS hB kb;clear kb
       go_upto_region 13 with fail
       obtain ⟨w2,hw2⟩:∃ W,W=wr.alloc (.cells #[.bool s7,.slice A7 n7 c7,.slice A8 n8 c8] 49):=⟨_,rfl⟩
       obtain ⟨gy,hgy⟩:∃ g,g=wr.heap.size:=⟨_,rfl⟩
       rw [<-hw2,<-hgy];rw [<-hw2] at row rx ry hB;rw [<-hgy] at ry hrl2;clear hw2 hgy u0 u1 u2 hBo
       have hx:=hrx.on hB
       have hy:=hry.on hB
       obtain ⟨S,hSe⟩:∃ S,S=inP a b i (outP a b m' i) k:=⟨_,rfl⟩
       have hnxt:inP a b i (outP a b m' i) (k+1)=updR S (i+k) (S (i+k)+a i*b k):=by rw [hSe]; rfl
       have hsz1:=hSI.out i hlt k (by omega) (i+k)
       have hsz2:rsz (S (i+k)+a i*b k) (K+1+(N+N)+1):=by have:=hSI.out i hlt (k+1) hlk (i+k); rw [hnxt] at this; simpa [updR] using this
       rw [<-hSe] at row hsz1;clear hSe
       obtain ⟨P,hP⟩:∃ P,P=i+k:=⟨_,rfl⟩
       rw [<-hP] at hik hikw hikw2 hikl hikl' hik0 hikt hnxt hsz1 hsz2
       obtain ⟨x,hxe⟩:∃ x,x=a i:=⟨_,rfl⟩
       obtain ⟨y,hye⟩:∃ y,y=b k:=⟨_,rfl⟩
       rw [<-hxe,<-hye] at hnxt hsz2;rw [<-hxe] at hx hrsx;rw [<-hye] at hy hrsy
       have hsxy:=zdg hrsx hrsy
       obtain ⟨q0,hq0⟩:∃ q,q=S P:=⟨_,rfl⟩
       rw [<-hq0] at hnxt hsz1 hsz2
       have HQ0:=hid hq0
       have HNX:=hid hnxt
       clear hq0 hnxt hxe hye hP
       have HS:Hid (∀ w':World,w'.rowIs gx 49 3 (ratCell (.bool (s5)) (.slice (A5) (n5) (c5)) (.slice (A6) (n6) (c6)))->w'.rowIs gy 49 3 (ratCell (.bool (s7)) (.slice (A7) (n7) (c7)) (.slice (A8) (n8) (c8)))->w'.cell? ⟨gx,0,none⟩=some (.bool (s5))/\w'.cell? ⟨gx,1,none⟩=some (.slice (A5) (n5) (c5))/\w'.cell? ⟨gx,2,none⟩=some (.slice (A6) (n6) (c6))/\w'.cell? ⟨gy,0,none⟩=some (.bool (s7))/\w'.cell? ⟨gy,1,none⟩=some (.slice (A7) (n7) (c7))/\w'.cell? ⟨gy,2,none⟩=some (.slice (A8) (n8) (c8))):=fun w' h1 h2=>⟨h1.cell (i:=0) (by omega),h1.cell (i:=1) (by omega),h1.cell (i:=2) (by omega),h2.cell (i:=0) (by omega),h2.cell (i:=1) (by omega),h2.cell (i:=2) (by omega)⟩
       refine wp_region_held_drew (S:=fun w'=>w'.cell? ⟨gx,0,none⟩=some (.bool (s5))/\w'.cell? ⟨gx,1,none⟩=some (.slice (A5) (n5) (c5))/\w'.cell? ⟨gx,2,none⟩=some (.slice (A6) (n6) (c6))/\w'.cell? ⟨gy,0,none⟩=some (.bool (s7))/\w'.cell? ⟨gy,1,none⟩=some (.slice (A7) (n7) (c7))/\w'.cell? ⟨gy,2,none⟩=some (.slice (A8) (n8) (c8))) (by kernel_rfl) (HS.out _ (show World.rowIs (World.drew _) _ _ _ _ from rx) (show World.rowIs (World.drew _) _ _ _ _ from ry)) (fun hHeld=>?_)
       obtain ⟨w3,hw⟩:∃ W,W=World.drew w2:=⟨_,rfl⟩
       have kb:Below w2.heap.size w2 w3:=by rw [hw]; exact (Below.refl _ _).drew
       rw [<-hw] at hHeld ⊢;clear hw;replace row:=row.on kb;replace hB:=onS hB kb;replace hx:=hx.on kb;replace hy:=hy.on kb;replace rx:=zaa rx kb;replace ry:=zaa ry kb;clear kb
       refine tkq 0 (h:=tkq 1 (h:=tkq 2 (h:=tkq 3 (h:=tkq 4 (h:=tkq 5 (h:=tkq 6 (h:=tkq 7 (h:=tkq 8 (h:=tkq 10 (h:=tkq 11 (h:=?_)))))))))))
       refine rdq2 9 12 (h:=fun K hK=>?_) (h2:=fun K hK=>?_)
       ·obtain ⟨Ao,co,Bo,do_,g0,g1,g2,mo1,mo2,mo3,mo4,mo5,mo6⟩:=row.get P (by omega)
        rw [<-HQ0.out] at g0 g1 g2 mo1 mo2 mo3 mo5
        go_simp
        clear g0 g1 g2
        refine bkq hK (HS.out _ rx ry) (h:=fun hHeld=>?_)
        clear hK K
        refine rdq 12 (h:=fun K hK=>?_)
        go_simp
        obtain ⟨w4,hw⟩:∃ W,W=World.alloc w3 (.cells #[.bool (s5),.slice (A5) (n5) (c5),.slice (A6) (n6) (c6),.bool (s7),.slice (A7) (n7) (c7),.slice (A8) (n8) (c8)] 49):=⟨_,rfl⟩
        have kb:Below w3.heap.size w3 w4:=by rw [hw]; exact zab _ _
        have tbp:RatTab w4 w4.heap.size (some ⟨w3.heap.size,0,none⟩) 2 (pairR (x) (y)) NN:=RatTab.letter hw (zaE 49 hx hy)
        rw [<-hw];clear hw;replace row:=row.on kb;replace hB:=onS hB kb;replace hx:=hx.on kb;replace hy:=hy.on kb;replace rx:=zaa rx kb;replace ry:=zaa ry kb;replace mo1:=mo1.on kb;replace mo2:=mo2.on kb;clear kb
        obtain ⟨gp,hg⟩:∃ g,g=w3.heap.size:=⟨_,rfl⟩
        rw [<-hg] at tbp ⊢;clear hg
        refine bkq hK (HS.out _ rx ry) (h:=fun hHeld=>?_)
        clear hK K
        refine rdq 13 (h:=fun K hK=>?_)
        go_simp
        go_wp2_with fail
        refine (zcq tbp (by omega) (by omega) (hrsx.mono (by omega)) (hrsy.mono (by omega)) (hsxy.mono (by omega))).mono ?_
        rintro e w5 ⟨Am,cm,Bm,dm,rfl,mm1,mm2,mm3,mm4,mm5,mm6,kb⟩
        replace row:=row.on kb;replace hB:=onS hB kb;replace hx:=hx.on kb;replace hy:=hy.on kb;replace rx:=zaa rx kb;replace ry:=zaa ry kb;replace mo1:=mo1.on kb;replace mo2:=mo2.on kb;replace tbp:=tbp.on kb;clear kb;clear tbp
        obtain ⟨xy,hxy⟩:∃ p,p=x*y:=⟨_,rfl⟩
        rw [<-hxy] at mm1 mm2 mm3 mm5 hsxy hsz2 ⊢
        have HXY:=hid hxy
        clear hxy
        refine bkq hK (HS.out _ rx ry) (h:=fun hHeld=>?_)
        clear hK K
        refine rdq 14 (h:=fun K hK=>?_)
        go_simp
        obtain ⟨w6,hw⟩:∃ W,W=World.alloc w5 (.cells #[.bool (rneg (q0)),.slice (Ao) (dl (q0).num.natAbs) (co),.slice (Bo) (dl (q0).den) (do_),.bool (rneg (xy)),.slice (Am) (dl (xy).num.natAbs) (cm),.slice (Bm) (dl (xy).den) (dm)] 49):=⟨_,rfl⟩
        have kb:Below w5.heap.size w5 w6:=by rw [hw]; exact zab _ _
        have tbq:RatTab w6 w6.heap.size (some ⟨w5.heap.size,0,none⟩) 2 (pairR (q0) (xy)) NN:=RatTab.letter hw (zaE 49 (RatOk.raw ⟨Ao,co,Bo,do_,rfl,mo1,mo2,mo3,mo4,mo5,mo6⟩ (hsz1.mono (by omega))) (RatOk.raw ⟨Am,cm,Bm,dm,rfl,mm1,mm2,mm3,mm4,mm5,mm6⟩ (hsxy.mono (by omega))))
        rw [<-hw];clear hw;replace row:=row.on kb;replace hB:=onS hB kb;replace hx:=hx.on kb;replace hy:=hy.on kb;replace rx:=zaa rx kb;replace ry:=zaa ry kb;replace mo1:=mo1.on kb;replace mo2:=mo2.on kb;replace mm1:=mm1.on kb;replace mm2:=mm2.on kb;clear kb
        obtain ⟨gq,hg⟩:∃ g,g=w5.heap.size:=⟨_,rfl⟩
        rw [<-hg] at tbq ⊢;clear hg
        refine bkq hK (HS.out _ rx ry) (h:=fun hHeld=>?_)
        clear hK K
        refine rdq 15 (h:=fun K hK=>?_)
        go_simp
        go_wp2_with fail
        refine (za9 tbq (by omega) (by omega) (hsz1.mono (by omega)) (hsxy.mono (by omega)) (hsz2.mono (by omega))).mono ?_
        rintro e w7 ⟨Ap,cp,Bp,dp,rfl,mp1,mp2,mp3,mp4,mp5,mp6,kb⟩
        replace row:=row.on kb;replace hB:=onS hB kb;replace hx:=hx.on kb;replace hy:=hy.on kb;replace rx:=zaa rx kb;replace ry:=zaa ry kb;replace mo1:=mo1.on kb;replace mo2:=mo2.on kb;replace mm1:=mm1.on kb;replace mm2:=mm2.on kb;replace tbq:=tbq.on kb;clear kb;clear tbq
        obtain ⟨q1,hq1⟩:∃ z,z=q0+xy:=⟨_,rfl⟩
        rw [<-hq1] at mp1 mp2 mp3 mp5 hsz2 ⊢
        have HQ1:=hid hq1
        clear hq1;clear mo1 mo2 mo3 mo4 mo5 mo6 mm1 mm2 mm3 mm4 mm5 mm6
        refine bkq hK (HS.out _ rx ry) (h:=fun hHeld=>?_)
        clear hK K
        refine tkq 16 (h:=?_)
        obtain ⟨o0,o1,o2,y0,y1,y2⟩:=row.old (P) (by omega)
        have z0:=row.froz (P*3)
        have z1:=row.froz (P*3+1)
        have z2:=row.froz (P*3+2)
        have hsz:=hB.size
        refine rdq 17 (h:=fun K hK=>?_)
        go_simp
        generalize hw3:World.setCell _ _ _=w8
        have hst:RowPut w7 g j j P S q1 w8:=by rw [<-hw3]; exact rowPut row (by omega) (by omega) mp1 mp2 mp3 mp4 mp5 mp6
        clear hw3 mp1 mp2 mp3 mp4 mp5 mp6 hx hy;replace row:=hst.row
        rw [show max j (P+1)=j by omega] at row
        replace hB:=hst.below hB hgB hsz
        replace rx:=zad rx hst.grown (by omega)
        replace ry:=zad ry hst.grown (by omega)
        clear hst
        refine bkq hK (HS.out _ rx ry) (h:=fun hHeld=>?_)
        clear hK K
        refine wpAnyH_done (by kernel_rfl) ?_ _
        clear hHeld
        replace row:=row.put' (show updR S P q1=inP a b i (outP a b m' i) (k+1) by rw [HNX.out,HQ1.out,HXY.out])
        clear y0 y1 y2 z0 z1 z2 hsz HS HNX HQ1 HXY HQ0 hsz1 hsz2 hsxy ry hikw hikw2 hik hikt
        go_wp2
        go_roundg (gk - 1)
        case measure=>omega
        case rel=>exact ⟨k+1,by go_num,by omega,by omega,row,rx,hB⟩
       ·go_simp
        obtain ⟨w4,hw⟩:∃ W,W=World.alloc w3 (.cells #[.bool (s5),.slice (A5) (n5) (c5),.slice (A6) (n6) (c6),.bool (s7),.slice (A7) (n7) (c7),.slice (A8) (n8) (c8)] 49):=⟨_,rfl⟩
        have kb:Below w3.heap.size w3 w4:=by rw [hw]; exact zab _ _
        have tbp:RatTab w4 w4.heap.size (some ⟨w3.heap.size,0,none⟩) 2 (pairR (x) (y)) NN:=RatTab.letter hw (zaE 49 hx hy)
        rw [<-hw];clear hw;replace row:=row.on kb;replace hB:=onS hB kb;replace hx:=hx.on kb;replace hy:=hy.on kb;replace rx:=zaa rx kb;replace ry:=zaa ry kb;clear kb
        obtain ⟨gp,hg⟩:∃ g,g=w3.heap.size:=⟨_,rfl⟩
        rw [<-hg] at tbp ⊢;clear hg
        refine bkq hK (HS.out _ rx ry) (h:=fun hHeld=>?_)
        clear hK K
        refine rdq2 9 13 (h:=fun K hK=>?_) (h2:=fun K hK=>?_)
        ·obtain ⟨Ao,co,Bo,do_,g0,g1,g2,mo1,mo2,mo3,mo4,mo5,mo6⟩:=row.get P (by omega)
         rw [<-HQ0.out] at g0 g1 g2 mo1 mo2 mo3 mo5
         go_simp
         clear g0 g1 g2
         refine bkq hK (HS.out _ rx ry) (h:=fun hHeld=>?_)
         clear hK K
         refine rdq 13 (h:=fun K hK=>?_)
         go_simp
         go_wp2_with fail
         refine (zcq tbp (by omega) (by omega) (hrsx.mono (by omega)) (hrsy.mono (by omega)) (hsxy.mono (by omega))).mono ?_
         rintro e w5 ⟨Am,cm,Bm,dm,rfl,mm1,mm2,mm3,mm4,mm5,mm6,kb⟩
         replace row:=row.on kb;replace hB:=onS hB kb;replace hx:=hx.on kb;replace hy:=hy.on kb;replace rx:=zaa rx kb;replace ry:=zaa ry kb;replace tbp:=tbp.on kb;replace mo1:=mo1.on kb;replace mo2:=mo2.on kb;clear kb;clear tbp
         obtain ⟨xy,hxy⟩:∃ p,p=x*y:=⟨_,rfl⟩
         rw [<-hxy] at mm1 mm2 mm3 mm5 hsxy hsz2 ⊢
         have HXY:=hid hxy
         clear hxy
         refine bkq hK (HS.out _ rx ry) (h:=fun hHeld=>?_)
         clear hK K
         refine rdq 14 (h:=fun K hK=>?_)
         go_simp
         obtain ⟨w6,hw⟩:∃ W,W=World.alloc w5 (.cells #[.bool (rneg (q0)),.slice (Ao) (dl (q0).num.natAbs) (co),.slice (Bo) (dl (q0).den) (do_),.bool (rneg (xy)),.slice (Am) (dl (xy).num.natAbs) (cm),.slice (Bm) (dl (xy).den) (dm)] 49):=⟨_,rfl⟩
         have kb:Below w5.heap.size w5 w6:=by rw [hw]; exact zab _ _
         have tbq:RatTab w6 w6.heap.size (some ⟨w5.heap.size,0,none⟩) 2 (pairR (q0) (xy)) NN:=RatTab.letter hw (zaE 49 (RatOk.raw ⟨Ao,co,Bo,do_,rfl,mo1,mo2,mo3,mo4,mo5,mo6⟩ (hsz1.mono (by omega))) (RatOk.raw ⟨Am,cm,Bm,dm,rfl,mm1,mm2,mm3,mm4,mm5,mm6⟩ (hsxy.mono (by omega))))
         rw [<-hw];clear hw;replace row:=row.on kb;replace hB:=onS hB kb;replace hx:=hx.on kb;replace hy:=hy.on kb;replace rx:=zaa rx kb;replace ry:=zaa ry kb;replace mo1:=mo1.on kb;replace mo2:=mo2.on kb;replace mm1:=mm1.on kb;replace mm2:=mm2.on kb;clear kb
         obtain ⟨gq,hg⟩:∃ g,g=w5.heap.size:=⟨_,rfl⟩
         rw [<-hg] at tbq ⊢;clear hg
         refine bkq hK (HS.out _ rx ry) (h:=fun hHeld=>?_)
         clear hK K
         refine rdq 15 (h:=fun K hK=>?_)
         go_simp
         go_wp2_with fail
         refine (za9 tbq (by omega) (by omega) (hsz1.mono (by omega)) (hsxy.mono (by omega)) (hsz2.mono (by omega))).mono ?_
         rintro e w7 ⟨Ap,cp,Bp,dp,rfl,mp1,mp2,mp3,mp4,mp5,mp6,kb⟩
         replace row:=row.on kb;replace hB:=onS hB kb;replace hx:=hx.on kb;replace hy:=hy.on kb;replace rx:=zaa rx kb;replace ry:=zaa ry kb;replace mo1:=mo1.on kb;replace mo2:=mo2.on kb;replace mm1:=mm1.on kb;replace mm2:=mm2.on kb;replace tbq:=tbq.on kb;clear kb;clear tbq
         obtain ⟨q1,hq1⟩:∃ z,z=q0+xy:=⟨_,rfl⟩
         rw [<-hq1] at mp1 mp2 mp3 mp5 hsz2 ⊢
         have HQ1:=hid hq1
         clear hq1;clear mo1 mo2 mo3 mo4 mo5 mo6 mm1 mm2 mm3 mm4 mm5 mm6
         refine bkq hK (HS.out _ rx ry) (h:=fun hHeld=>?_)
         clear hK K
         refine tkq 16 (h:=?_)
         obtain ⟨o0,o1,o2,y0,y1,y2⟩:=row.old (P) (by omega)
         have z0:=row.froz (P*3)
         have z1:=row.froz (P*3+1)
         have z2:=row.froz (P*3+2)
         have hsz:=hB.size
         refine rdq 17 (h:=fun K hK=>?_)
         go_simp
         generalize hw3:World.setCell _ _ _=w8
         have hst:RowPut w7 g j j P S q1 w8:=by rw [<-hw3]; exact rowPut row (by omega) (by omega) mp1 mp2 mp3 mp4 mp5 mp6
         clear hw3 mp1 mp2 mp3 mp4 mp5 mp6 hx hy;replace row:=hst.row
         rw [show max j (P+1)=j by omega] at row
         replace hB:=hst.below hB hgB hsz
         replace rx:=zad rx hst.grown (by omega)
         replace ry:=zad ry hst.grown (by omega)
         clear hst
         refine bkq hK (HS.out _ rx ry) (h:=fun hHeld=>?_)
         clear hK K
         refine wpAnyH_done (by kernel_rfl) ?_ _
         clear hHeld
         replace row:=row.put' (show updR S P q1=inP a b i (outP a b m' i) (k+1) by rw [HNX.out,HQ1.out,HXY.out])
         clear y0 y1 y2 z0 z1 z2 hsz HS HNX HQ1 HXY HQ0 hsz1 hsz2 hsxy ry hikw hikw2 hik hikt
         go_wp2
         go_roundg (gk - 1)
         case measure=>omega
         case rel=>exact ⟨k+1,by go_num,by omega,by omega,row,rx,hB⟩
        ·go_simp
         go_wp2_with fail
         refine (zcq tbp (by omega) (by omega) (hrsx.mono (by omega)) (hrsy.mono (by omega)) (hsxy.mono (by omega))).mono ?_
         rintro e w5 ⟨Am,cm,Bm,dm,rfl,mm1,mm2,mm3,mm4,mm5,mm6,kb⟩
         replace row:=row.on kb;replace hB:=onS hB kb;replace hx:=hx.on kb;replace hy:=hy.on kb;replace rx:=zaa rx kb;replace ry:=zaa ry kb;replace tbp:=tbp.on kb;clear kb;clear tbp
         obtain ⟨xy,hxy⟩:∃ p,p=x*y:=⟨_,rfl⟩
         rw [<-hxy] at mm1 mm2 mm3 mm5 hsxy hsz2 ⊢
         have HXY:=hid hxy
         clear hxy
         refine bkq hK (HS.out _ rx ry) (h:=fun hHeld=>?_)
         clear hK K
         refine rdq 9 (h:=fun K hK=>?_)
         obtain ⟨Ao,co,Bo,do_,g0,g1,g2,mo1,mo2,mo3,mo4,mo5,mo6⟩:=row.get P (by omega)
         rw [<-HQ0.out] at g0 g1 g2 mo1 mo2 mo3 mo5
         go_simp
         clear g0 g1 g2
         refine bkq hK (HS.out _ rx ry) (h:=fun hHeld=>?_)
         clear hK K
         refine rdq 14 (h:=fun K hK=>?_)
         go_simp
         obtain ⟨w6,hw⟩:∃ W,W=World.alloc w5 (.cells #[.bool (rneg (q0)),.slice (Ao) (dl (q0).num.natAbs) (co),.slice (Bo) (dl (q0).den) (do_),.bool (rneg (xy)),.slice (Am) (dl (xy).num.natAbs) (cm),.slice (Bm) (dl (xy).den) (dm)] 49):=⟨_,rfl⟩
         have kb:Below w5.heap.size w5 w6:=by rw [hw]; exact zab _ _
         have tbq:RatTab w6 w6.heap.size (some ⟨w5.heap.size,0,none⟩) 2 (pairR (q0) (xy)) NN:=RatTab.letter hw (zaE 49 (RatOk.raw ⟨Ao,co,Bo,do_,rfl,mo1,mo2,mo3,mo4,mo5,mo6⟩ (hsz1.mono (by omega))) (RatOk.raw ⟨Am,cm,Bm,dm,rfl,mm1,mm2,mm3,mm4,mm5,mm6⟩ (hsxy.mono (by omega))))
         rw [<-hw];clear hw;replace row:=row.on kb;replace hB:=onS hB kb;replace hx:=hx.on kb;replace hy:=hy.on kb;replace rx:=zaa rx kb;replace ry:=zaa ry kb;replace mm1:=mm1.on kb;replace mm2:=mm2.on kb;replace mo1:=mo1.on kb;replace mo2:=mo2.on kb;clear kb
         obtain ⟨gq,hg⟩:∃ g,g=w5.heap.size:=⟨_,rfl⟩
         rw [<-hg] at tbq ⊢;clear hg
         refine bkq hK (HS.out _ rx ry) (h:=fun hHeld=>?_)
         clear hK K
         refine rdq 15 (h:=fun K hK=>?_)
         go_simp
         go_wp2_with fail
         refine (za9 tbq (by omega) (by omega) (hsz1.mono (by omega)) (hsxy.mono (by omega)) (hsz2.mono (by omega))).mono ?_
         rintro e w7 ⟨Ap,cp,Bp,dp,rfl,mp1,mp2,mp3,mp4,mp5,mp6,kb⟩
         replace row:=row.on kb;replace hB:=onS hB kb;replace hx:=hx.on kb;replace hy:=hy.on kb;replace rx:=zaa rx kb;replace ry:=zaa ry kb;replace mm1:=mm1.on kb;replace mm2:=mm2.on kb;replace mo1:=mo1.on kb;replace mo2:=mo2.on kb;replace tbq:=tbq.on kb;clear kb;clear tbq
         obtain ⟨q1,hq1⟩:∃ z,z=q0+xy:=⟨_,rfl⟩
         rw [<-hq1] at mp1 mp2 mp3 mp5 hsz2 ⊢
         have HQ1:=hid hq1
         clear hq1;clear mo1 mo2 mo3 mo4 mo5 mo6 mm1 mm2 mm3 mm4 mm5 mm6
         refine bkq hK (HS.out _ rx ry) (h:=fun hHeld=>?_)
         clear hK K
         refine tkq 16 (h:=?_)
         obtain ⟨o0,o1,o2,y0,y1,y2⟩:=row.old (P) (by omega)
         have z0:=row.froz (P*3)
         have z1:=row.froz (P*3+1)
         have z2:=row.froz (P*3+2)
         have hsz:=hB.size
         refine rdq 17 (h:=fun K hK=>?_)
         go_simp
         generalize hw3:World.setCell _ _ _=w8
         have hst:RowPut w7 g j j P S q1 w8:=by rw [<-hw3]; exact rowPut row (by omega) (by omega) mp1 mp2 mp3 mp4 mp5 mp6
         clear hw3 mp1 mp2 mp3 mp4 mp5 mp6 hx hy;replace row:=hst.row
         rw [show max j (P+1)=j by omega] at row
         replace hB:=hst.below hB hgB hsz
         replace rx:=zad rx hst.grown (by omega)
         replace ry:=zad ry hst.grown (by omega)
         clear hst
         refine bkq hK (HS.out _ rx ry) (h:=fun hHeld=>?_)
         clear hK K
         refine wpAnyH_done (by kernel_rfl) ?_ _
         clear hHeld
         replace row:=row.put' (show updR S P q1=inP a b i (outP a b m' i) (k+1) by rw [HNX.out,HQ1.out,HXY.out])
         clear y0 y1 y2 z0 z1 z2 hsz HS HNX HQ1 HXY HQ0 hsz1 hsz2 hsxy ry hikw hikw2 hik hikt
         go_wp2
         go_roundg (gk - 1)
         case measure=>omega
         case rel=>exact ⟨k+1,by go_num,by omega,by omega,row,rx,hB⟩
      ·obtain rfl:k=m':=by omega
       have hlk':¬ (k:Int)<(k:Int):=by omega
       replace row:=row.put' (show inP a b i (outP a b k i) k=outP a b k (i+1) from rfl)
       go_wp2
       go_roundg (gI - 1)
       case measure=>omega
       case rel=>exact ⟨i+1,by go_num,by omega,by omega,row,hB⟩
    ·obtain rfl:i=m:=by omega
     have hlt':¬ (i:Int)<(i:Int):=by omega
     have hl:=row.list.tab (fun p _=>hSO.out i (by omega) p)
     go_wp2_with fail
     refine (zdG (some ⟨g,0,none⟩) j j (K+1) (outP a b m' i) _ hl (by omega) (by omega)).mono ?_
     rintro e w2 ⟨Ar,cr,rfl,e1,e2,e3,kb⟩
     replace hB:=onS hB kb;clear kb hl row
     obtain ⟨cl,hcl⟩:∃ cl,cl=clen (outP a b m' i) j:=⟨_,rfl⟩
     rw [<-hcl] at e1 e3 ⊢
     have HCL:=hid hcl
     clear hcl
     go_wp2
     go_ret
     exact ⟨_,_,by rw [HCL.out]; rfl,by rw [HCL.out] at e1; exact e1,e2,by rw [HCL.out] at e3; exact e3,hB⟩
def powR (x:Rat):Nat->Rat
 | 0=>((1:Int):Rat)
 | k+1=>powR x k*x
def evR (rs:Nat->Rat) (x:Rat):Nat->Rat
 | 0=>((0:Int):Rat)
 | k+1=>evR rs x k+rs k*powR x k
theorem zfK (x:Rat):powR x 0=1:=rfl
theorem zjs (a:Nat->Rat) (x:Rat):evR a x 0=0:=rfl
theorem zjt (x:Rat) (i j:Nat):powR x (i+j)=powR x i*powR x j:=by
 induction j with
 | zero=>rw [zfK,Nat.add_zero,Rat.mul_one]
 | succ j ih=>show powR x (i+j)*x=powR x i*(powR x j*x); rw [ih]; grind
theorem zju (a:Nat->Rat) (m:Nat) (x:Rat):∀ k,k<=m->evR a x m=evR a x (m - k)+horR a m x k*powR x (m - k):=by
 intro k
 induction k with
 | zero=>intro _; show _=evR a x m+0*_; grind
 | succ k ih =>
  intro hk
  rw [ih (by omega)]
  obtain ⟨j,hj⟩:∃ j,m - k=j+1:=⟨m - k - 1,by omega⟩
  rw [hj,show m - (k+1)=j by omega]
  show evR a x j+a j*powR x j+horR a m x k*(powR x j*x)=evR a x j+(horR a m x k*x+a (m - 1 - k))*powR x j
  rw [show m - 1 - k=j by omega]
  grind
theorem zkh (a:Nat->Rat) (m:Nat) (x:Rat):horR a m x m=evR a x m:=by
 have:=zju a m x m (Nat.le_refl _)
 rw [Nat.sub_self,zjs,zfK] at this
 grind
theorem zea {a b:Nat->Rat} {x:Rat} {m:Nat} (h:∀ i,i<m->a i=b i):evR a x m=evR b x m:=by
 induction m with
 | zero=>rfl
 | succ m ih =>
  show evR a x m+a m*_=evR b x m+b m*_
  rw [ih fun i hi=>h i (by omega),h m (by omega)]
theorem zeb (a:Nat->Rat) (x:Rat) (m:Nat):evR a x (clen a m)=evR a x m:=by
 induction m with
 | zero=>rfl
 | succ m ih =>
  unfold clen
  split
  ·rename_i e
   rw [ih]
   show _=evR a x m+a m*_
   rw [e]; grind
  ·rfl
theorem ziF (a:Nat->Rat) (x:Rat) (m k:Nat):evR (cutR a m) x (m+k)=evR a x m:=by
 induction k with
 | zero=>exact zea fun i hi=>by simp only [cutR]; rw [if_pos (by omega)]
 | succ k ih =>
  show evR (cutR a m) x (m+k)+cutR a m (m+k)*_=_
  rw [ih]
  simp only [cutR]
  rw [if_neg (by omega)]
  grind
theorem zki (a b:Nat->Rat) (x:Rat) (m:Nat):evR (fun i=>a i+b i) x m=evR a x m+evR b x m:=by
 induction m with
 | zero=>show (0:Rat)=0+0; grind
 | succ m ih =>
  show evR _ x m+(a m+b m)*powR x m=evR a x m+a m*powR x m+(evR b x m+b m*powR x m)
  rw [ih]; grind
theorem zjv (a b:Nat->Rat) (x:Rat) (m m':Nat):evR (sumP a m b m') x (max m m')=evR a x m+evR b x m':=by
 have e:sumP a m b m'=fun i=>cutR a m i+cutR b m' i:=rfl
 rw [e,zki]
 congr 1
 ·obtain ⟨k,hk⟩:∃ k,max m m'=m+k:=⟨max m m' - m,by omega⟩
  rw [hk,ziF]
 ·obtain ⟨k,hk⟩:∃ k,max m m'=m'+k:=⟨max m m' - m',by omega⟩
  rw [hk,ziF]
theorem zkj (S:Nat->Rat) (x v:Rat) (p M:Nat) (hp:p<M):evR (updR S p (S p+v)) x M=evR S x M+v*powR x p:=by
 induction M with
 | zero=>omega
 | succ M ih =>
  show evR _ x M+updR S p (S p+v) M*powR x M=evR S x M+S M*powR x M+v*powR x p
  by_cases e:p=M
  ·subst e
   rw [zea (b:=S) fun i hi=>by unfold updR; rw [if_neg (by omega)]]
   unfold updR
   rw [if_pos rfl]; grind
  ·rw [ih (by omega)]
   unfold updR
   rw [if_neg (fun h=>e h.symm)]; grind
theorem zkk (a b S:Nat->Rat) (x:Rat) (i M:Nat):∀ j,i+j<=M->evR (inP a b i S j) x M=evR S x M+a i*powR x i*evR b x j:=by
 intro j
 induction j with
 | zero=>intro _; show evR S x M=_+_*(0:Rat); grind
 | succ j ih =>
  intro hj
  show evR (updR (inP a b i S j) (i+j) (inP a b i S j (i+j)+a i*b j)) x M=_
  rw [zkj _ _ _ _ _ (by omega),ih (by omega),zjt]
  show _=evR S x M+a i*powR x i*(evR b x j+b j*powR x j)
  grind
theorem zjw (a b:Nat->Rat) (x:Rat) (m' M:Nat):∀ i,i+m'<=M+1->evR (outP a b m' i) x M=evR a x i*evR b x m':=by
 intro i
 induction i with
 | zero =>
  intro _
  show evR (fun _=>(0:Rat)) x M=0*_
  have:∀ M,evR (fun _=>(0:Rat)) x M=0:=fun M=>by
   induction M with
   | zero=>rfl
   | succ M ih=>show evR _ x M+0*_=0; rw [ih]; grind
  rw [this]; grind
 | succ i ih =>
  intro hi
  show evR (inP a b i (outP a b m' i) m') x M=(evR a x i+a i*powR x i)*_
  rw [zkk _ _ _ _ _ _ _ (by omega),ih (by omega)]
  grind
theorem zfh (a b:Nat->Rat) (x:Rat) (m m':Nat):evR (mulP a m b m') x (m+m')=evR a x m*evR b x m':=zjw a b x m' (m+m') m (by omega)
structure EvalFits (a:Nat->Rat) (m:Nat) (x:Rat) (N:Nat):Prop where
 top:∀ k,k<=m->rsz (horR a m x k) N/\rsz (horR a m x k*x) N
 low:∀ k,k<=m->rsz (evR a x k) N/\rsz (powR x k) N
 term:∀ k,k<m->rsz (a k*powR x k) N
 ent:∀ k,k<m->rsz (a k) N
 arg:rsz x N
theorem zg5:rsz 1 1:=⟨by show dl 1<=1; rw [zb4]; omega,by show dl 1<=1; rw [zb4]; omega⟩
theorem zjx {a:Nat->Rat} {m N E:Nat} {x:Rat} (ha:∀ k,k<m->rsz (a k) E) (hx:rsz x N):∀ k,k<=m->rsz (horR a m x k) (1+k*(N+E+1)):=by
 intro k
 induction k with
 | zero=>intro _; exact zba.mono (by omega)
 | succ k ih =>
  intro hk
  have:=zbo (zdg (ih (by omega)) hx) (ha (m - 1 - k) (by omega))
  rw [Nat.add_mul,Nat.one_mul]
  exact this.mono (by omega)
theorem zfi {N:Nat} {x:Rat} (hx:rsz x N) (k:Nat):rsz (powR x k) (1+k*N):=by
 induction k with
 | zero=>exact zg5.mono (by omega)
 | succ k ih =>
  rw [Nat.add_mul,Nat.one_mul]
  exact (zdg ih hx).mono (by omega)
theorem zkl {a:Nat->Rat} {m N E K:Nat} {x:Rat} (ha:∀ k,k<m->rsz (a k) E) (hx:rsz x N) (hK:m*N+E+2<=K):∀ k,k<=m->rsz (evR a x k) (1+k*K):=by
 intro k
 induction k with
 | zero=>intro _; exact zba.mono (by omega)
 | succ k ih =>
  intro hk
  have h1:=zbo (ih (by omega)) (zdg (ha k (by omega)) (zfi hx k))
  have h2:k*N<=m*N:=Nat.mul_le_mul_right N (by omega)
  rw [Nat.add_mul,Nat.one_mul]
  exact h1.mono (by omega)
theorem evalFits {a:Nat->Rat} {m N E K:Nat} {x:Rat} (ha:∀ k,k<m->rsz (a k) E) (hx:rsz x N) (hK:1+m*(m*N+E+N+3)+N<=K) (hE:E<=K):EvalFits a m x K:=by
 have h0:m*(N+E+1)<=m*(m*N+E+N+3):=Nat.mul_le_mul_left m (by omega)
 have h3:m*N<=m*(m*N+E+N+3):=Nat.mul_le_mul_left m (by omega)
 refine ⟨fun k hk=>?_,fun k hk=>?_,fun k hk=>?_,fun k hk=>(ha k hk).mono hE,hx.mono (by omega)⟩
 ·have h1:k*(N+E+1)<=m*(N+E+1):=Nat.mul_le_mul_right _ hk
  have:=zjx ha hx k hk
  exact ⟨this.mono (by omega),(zdg this hx).mono (by omega)⟩
 ·have h1:k*(m*N+E+2)<=m*(m*N+E+2):=Nat.mul_le_mul_right _ hk
  have h2:m*(m*N+E+2)<=m*(m*N+E+N+3):=Nat.mul_le_mul_left m (by omega)
  have h4:k*N<=m*N:=Nat.mul_le_mul_right _ hk
  exact ⟨(zkl ha hx (Nat.le_refl _) k hk).mono (by omega),(zfi hx k).mono (by omega)⟩
 ·have h1:k*N<=m*N:=Nat.mul_le_mul_right _ (by omega)
  have h4:1*(m*N+E+N+3)<=m*(m*N+E+N+3):=Nat.mul_le_mul_right _ (by omega)
  exact (zdg (ha k hk) (zfi hx k)).mono (by omega)
open Go.ChangeShapes Go.WideShapes Go.ChangeAt
theorem zkm {n:Int} (h:(Lit.int .u32 n).wf=true):0<=n/\n<4294967296:=by
 have:0<=n/\n<=4294967295:=by simpa [Lit.wf,IntKind.min,IntKind.max,IntKind.signed,IntKind.bits] using h
 omega
section
variable {H:Type} {enc:TypeId × Value->H} {w:World} {base:Nat} {spare:Nat->Bool} {held:Bool} {cs:List Value}
theorem zg6 (h:Sees enc Tryz.prog w base spare held 47 cs):∃ A n c x,cs=[.slice A n c]/\n<=c/\c<=maxLen/\NatRaw w w.heap.size A n x:=by
 obtain ⟨A,n,c,g,e,h1,h2,hr,hw⟩:=zdJ Tryz.underlying47 Tryz.underlying110 (by kernel_rfl) h
 refine ⟨A,n,c,_,e,h1,h2,fun i=>(g i).toNat,fun i hi=>?_,fun i hi=>?_,rfl⟩
 ·obtain ⟨b,off,e1,hb,hc⟩:=hr i hi
  refine ⟨b,off,e1,hb,fun j hj=>?_⟩
  have:=zkm (hw i hi)
  rw [hc j hj]
  show some (Value.int .u32 (g i))=some (.int .u32 ((g i).toNat:Int))
  rw [Int.toNat_of_nonneg this.1]
 ·have:=zkm (hw i hi)
  show (g i).toNat<4294967296
  omega
theorem zg7 (h:Sees enc Tryz.prog w base spare held 49 cs):∃ s A n c A2 k c2 r,cs=[.bool s,.slice A n c,.slice A2 k c2]/\∀ N,n<=N->k<=N->RatRaw w w.heap.size (.agg #[.bool s,.slice A n c,.slice A2 k c2]) r N:=by
 obtain ⟨hl,_⟩:=zcv Tryz.underlying49 h
 match cs,hl.trans (show Tryz.prog.cellsOf 49 = 3 by kernel_rfl) with
 | [c0,c1,c2],_ =>
  have hc:Tryz.prog.cellsOf 4 = 1:=by kernel_rfl
  have hc':Tryz.prog.cellsOf 47 = 1:=by kernel_rfl
  have g0:=zce Tryz.underlying49 h 0 4 0 1 ⟨_,rfl,rfl,rfl⟩ hc
  have g1:=zce Tryz.underlying49 h 1 47 1 1 ⟨_,rfl,rfl,rfl⟩ hc'
  have g2:=zce Tryz.underlying49 h 2 47 2 1 ⟨_,rfl,rfl,rfl⟩ hc'
  obtain ⟨s,ha⟩:=zhG Tryz.underlying4 g0
  obtain ⟨A,n,c,x,hb,h1,h2,hx⟩:=zg6 g1
  obtain ⟨A2,k,c2',y,hc,h3,h4,hy⟩:=zg6 g2
  simp at ha hb hc
  subst ha hb hc
  exact ⟨s,A,n,c,A2,k,c2',_,rfl,fun N hn hk=>⟨s,A,n,c,A2,k,c2',x,y,rfl,hx,hy,h1,h2,h3,h4,hn,hk,rfl⟩⟩
end
theorem RatRaw.rsz {w:World} {B N:Nat} {v:Value} {r:Rat} (h:RatRaw w B v r N) (hN:1<=N):rsz r N:=by
 obtain ⟨s,A,n,c,A2,m,c2,x,y,e,h1,h2,h3,h4,h5,h6,h7,h8,rfl⟩:=h
 have:=h1.dl
 have:=h2.dl
 exact zgb (by omega) (by omega) hN
theorem zdH (v:Bool) (s:Bool) (A A2:Option Addr) (n c m c2:Nat) (w:World) (hv:Hid ((decide (n<=4) && decide (m<=4))=v)) :
  Calls Tryz.prog 26 #[.agg #[.bool s,.slice A n c,.slice A2 m c2]] w fun e w'=>e=.returned (.bool v)/\Below w.heap.size w w':=by
 rw [<-hv.out]; exact zff s A A2 n c m c2 w
theorem zat {T:Option Addr} {m c N:Nat} {rs:Nat->Rat} {v:Value} {x:Rat} {w:World} (h:RatTab w w.heap.size T m rs N) (hx:RatRaw w w.heap.size v x N) (hm:m<=1048576) (hN:N<=33554432) (hf:EvalFits rs m x N) :
  Calls Tryz.prog 28 #[.slice T m c,v] w (RatPost (evR rs x m) w):=by
 have:=zg0 T m c N rs v x w h hx hm hN (zeJ hf.arg) hf.arg hf.top hf.ent
 rwa [zkh] at this
def disN (f g:Nat->Int):Nat->Nat
 | 0=>0
 | k+1=>disN f g k+if f k=g k then 0 else 1
def patR (q n v i:Nat):Rat:=if i<v then 0 else rv (decide ((i - v) % 2=1)) (chs (n - v) (i - v)) ((q - 1) ^ v)
theorem ziG {q n:Nat} (hq:q<65536) (hn:n<=128):dl (q ^ n)<=65:=by
 have key:∀ L,L=64->q ^ n<4294967296 ^ (L+1):=by
  intro L hL
  have h1:q ^ n<=65536 ^ n:=Nat.pow_le_pow_left (by omega) n
  have h2:(65536:Nat) ^ n<=65536 ^ (2*L):=Nat.pow_le_pow_right (by omega) (by omega)
  have h3:(65536:Nat) ^ (2*L)=4294967296 ^ L:=by rw [Nat.pow_mul]
  have h4:(4294967296:Nat) ^ L<4294967296 ^ (L+1):=Nat.pow_lt_pow_right (by omega) (by omega)
  omega
 exact zdO (key 64 rfl)
theorem zeN (q n v:Nat) (w:World) (hq:2<=q) (hq2:q<=256) (hn:n<=64) (hv:v<=n) :
  Calls Tryz.prog 70 #[.int .i64 (q:Nat),.int .i64 (n:Nat),.int .i64 (v:Nat)] w (PolyPost (n+1) (patR q n v) w):=by
 have hq1:((q:Int) - 1)=((q - 1:Nat):Int):=by omega
 have hn1:((n:Int)+1)=((n+1:Nat):Int):=by omega
 have hnv:((n:Int) - (v:Int))=((n - v:Nat):Int):=by omega
 have hd:=ziG (q:=q - 1) (n:=v) (by omega) (by omega)
 have hq1d:dl (q - 1)<=1:=zdO (by omega)
 have hl:=zci (x:=q - 1) (k:=16) (by omega)
 have hm:(nlen (q - 1) - 1)*v<=15*128:=Nat.mul_le_mul (by omega) (by omega)
 have hv0:(0:Int)<=(v:Int):=by omega
 have hn0:(0:Int)<=(n:Int):=by omega
 have hq0:(2:Int)<=(q:Int):=by omega
 have hq3:(q:Int)<=256:=by omega
 obtain ⟨M,hM⟩:∃ M,M=n+1:=⟨_,rfl⟩
 rw [<-hM] at hn1 ⊢
 have hMn:M=n+1:=hM
 have hM1:n+1<=M:=by omega
 have hM2:M<=n+1:=by omega
 have HM:=hid hM
 clear hM hMn
 obtain ⟨S,hSe⟩:∃ S,S=patR q n v:=⟨_,rfl⟩
 rw [<-hSe]
 have HSE:=hid hSe
 clear hSe
 obtain ⟨d,hde⟩:∃ d,d=(q - 1) ^ v:=⟨_,rfl⟩
 rw [<-hde] at hd
 have HDE:=hid hde
 clear hde
 have hmk:=fun W=>zcL M (by omega) W
 go_enter Tryz.func70, Tryz.ntmps70
 go_wp2_with fail
 refine (zc4 (q - 1) w (by omega)).mono ?_
 rintro e w1 ⟨A,c,rfl,h1,h2,h3,h4⟩
 go_wp2_with fail
 refine (zgO A c (q - 1) v w1 h3 h1 h2 (by omega) (by omega) (.inr (by omega)) (by rw [<-HDE.out]; omega)).mono ?_
 rintro e w2 ⟨Bd,cd,rfl,d1,d2,d3,d4⟩
 rw [<-HDE.out] at d1 d3 ⊢
 have hB:=onS h4 d4
 clear d4 h1 h2 h3 h4 hq1d hl hm
 have kb:=zab w2 (.cells (madeCells #[.bool false,.slice none 0 0,.slice none 0 0] (M*3)) 49)
 have row:=zdi w2 M S
 have hgB:=hB.size
 replace d3:=d3.on kb;replace hB:=onS hB kb;clear kb
 go_wp2
 obtain ⟨w3,hw1⟩:∃ W,W=w2.alloc (.cells (madeCells #[.bool false,.slice none 0 0,.slice none 0 0] (M*3)) 49):=⟨_,rfl⟩
 obtain ⟨g,hg⟩:∃ g,g=w2.heap.size:=⟨_,rfl⟩
 rw [<-hw1,<-hg];rw [<-hw1] at hB row d3;rw [<-hg] at row hgB;clear hw1 hg hmk
 go_loopg [27] v (fun gg iv wx=>∃ j:Nat,iv=.int .i64 (j:Nat)/\j<=v/\v<=j+gg/\RowOk wx g M j S/\NatOk wx wx.heap.size Bd d/\Below w.heap.size w wx)
 case atStart=>exact ⟨0,rfl,by omega,by omega,row,d3,hB⟩
 case round =>
  clear row hB d3
  obtain ⟨j,rfl,hj,hjg,row,d3,hB⟩:=hrel
  have hj0:(0:Int)<=(j:Int):=by omega
  by_cases hlt:j<v
  ·have hlt':(j:Int)<(v:Int):=by omega
   have hltM:(j:Int)<(M:Int):=by omega
   obtain ⟨w0,hw0⟩:∃ W,W=wr:=⟨_,rfl⟩
   rw [<-hw0] at row hB d3 ⊢;clear hw0
   go_wp2_with fail
   refine (zcp _).mono ?_
   rintro e w1 ⟨Ap,cp,Bp,dp,rfl,mp1,mp2,mp3,mp4,mp5,mp6,kb⟩
   replace row:=row.on kb;replace hB:=onS hB kb;replace d3:=d3.on kb;clear kb
   obtain ⟨q0,hq0⟩:∃ q:Rat,q=(0:Rat):=⟨_,rfl⟩
   rw [<-hq0] at mp1 mp2 mp3 mp5 ⊢
   replace hq0:q0=0:=hq0.trans (by rfl)
   have HQ0:=hid hq0
   have HSZq0:rsz q0 1:=by rw [hq0]; exact zba
   clear hq0
   obtain ⟨o0,o1,o2,y0,y1,y2⟩:=row.old (j) (by omega)
   have z0:=row.froz (j*3)
   have z1:=row.froz (j*3+1)
   have z2:=row.froz (j*3+2)
   have hsz:=hB.size
   go_upto_region 7 with fail
   generalize hw3:World.setCell _ _ _=w2
   have hst:RowPut w1 g M (j) (j) (S) q0 w2:=by rw [<-hw3]; exact rowPut row (by omega) (by omega) mp1 mp2 mp3 mp4 mp5 mp6
   clear hw3 mp1 mp2 mp3 mp4 mp5 mp6;replace row:=hst.row;replace hB:=hst.below hB hgB hsz;replace d3:=hst.nat _ _ _ d3;rw [<-hst.size] at d3;clear hst
   rw [show max j (j+1)=j+1 by omega] at row
   clear y0 y1 y2 z0 z1 z2 hsz
   replace row:=row.whole (show q0=S j by rw [HSE.out,HQ0.out]; simp [patR,hlt])
   clear HSZq0 HQ0
   go_wp2
   go_roundg (gk - 1)
   case measure=>omega
   case rel=>exact ⟨j+1,by go_num,by omega,by omega,row,d3,hB⟩
  ·obtain rfl:j=v:=by omega
   have hlt':¬ (j:Int)<(j:Int):=by omega
   go_wp2
   obtain ⟨w0,hw0⟩:∃ W,W=wr:=⟨_,rfl⟩
   rw [<-hw0] at row hB d3 ⊢;clear hw0 hlt hlt'
   obtain ⟨gK,rfl⟩:∃ gK:Nat,gK=gk:=⟨_,rfl⟩
   go_loopg [11] M (fun gg iv wx=>∃ i:Nat,iv=.int .i64 (i:Nat)/\j+i<=M/\M<=i+gg/\RowOk wx g M (j+i) S/\NatOk wx wx.heap.size Bd d/\Below w.heap.size w wx)
   case atStart=>exact ⟨0,rfl,by omega,by omega,row,d3,hB⟩
   case round =>
    clear row hB d3
    obtain ⟨i,rfl,hi,hig,row,d3,hB⟩:=hrel
    have hi0:(0:Int)<=(i:Int):=by omega
    have hij:(j:Int)+(i:Int)=((j+i:Nat):Int):=by omega
    by_cases hlt:j+i<M
    ·have hle:((j+i:Nat):Int)<=(n:Int):=by omega
     have hltM:((j+i:Nat):Int)<(M:Int):=by omega
     have hji0:(0:Int)<=((j+i:Nat):Int):=by omega
     have hdc:=zjc (n - j) i (by omega)
     have hval:S (j+i)=rv ((i:Int) % 2 == 1) (chs (n - j) i) d:=by rw [HSE.out,HDE.out]; simp only [patR]; rw [if_neg (by omega),show j+i - j=i by omega]; congr 1; rw [Bool.eq_iff_iff]; simp; omega
     obtain ⟨P,hP⟩:∃ P,P=j+i:=⟨_,rfl⟩
     rw [<-hP] at hij hle hltM hji0 hval row hlt hi
     obtain ⟨w1,hw0⟩:∃ W,W=wr:=⟨_,rfl⟩
     rw [<-hw0] at row hB d3 ⊢
     have HP:=hid hP
     have HV:=hid hval
     clear hw0 hP hval
     go_wp2_with fail
     refine (ze7 (n - j) i _ (by omega) (by have:=HP.out; omega)).mono ?_
     rintro e w2 ⟨Ac,cc,rfl,b1,b2,b3,kb⟩
     replace row:=row.on kb;replace hB:=onS hB kb;replace d3:=d3.on kb;clear kb
     obtain ⟨ch,hch⟩:∃ x,x=chs (n - j) i:=⟨_,rfl⟩
     rw [<-hch] at b1 b3 hdc ⊢
     have HCH:=hid hch
     clear hch
     have hraw:RatRaw _ _ (.agg #[.bool ((i:Int) % 2 == 1),.slice Ac (dl ch) cc,.slice Bd (dl d) cd]) (S P) 4096:=⟨_,Ac,_,cc,Bd,_,cd,ch,d,rfl,b3.raw,d3.raw,b1,b2,d1,d2,by omega,by omega,by rw [HV.out,HCH.out]⟩
     go_wp2_with fail
     refine (zbz _ (S P) 4096 _ hraw (by omega)).mono ?_
     rintro e w3 ⟨Ap,cp,Bp,dp,rfl,mp1,mp2,mp3,mp4,mp5,mp6,kb⟩
     replace row:=row.on kb;replace hB:=onS hB kb;replace d3:=d3.on kb;replace b3:=b3.on kb;replace hraw:=hraw.on kb;clear kb;clear hraw b1 b2 b3 HCH HV hdc
     obtain ⟨q1,hq1'⟩:∃ z,z=S P:=⟨_,rfl⟩
     rw [<-hq1'] at mp1 mp2 mp3 mp5 ⊢
     have HQ1:=hid hq1'
     clear hq1'
     obtain ⟨o0,o1,o2,y0,y1,y2⟩:=row.old (P) (by omega)
     have z0:=row.froz (P*3)
     have z1:=row.froz (P*3+1)
     have z2:=row.froz (P*3+2)
     have hsz:=hB.size
     go_upto_region 10 with fail
     generalize hw3:World.setCell _ _ _=w4
     have hst:RowPut w3 g M (P) (P) (S) q1 w4:=by rw [<-hw3]; exact rowPut row (by omega) (by omega) mp1 mp2 mp3 mp4 mp5 mp6
     clear hw3 mp1 mp2 mp3 mp4 mp5 mp6;replace row:=hst.row;replace hB:=hst.below hB hgB hsz;replace d3:=hst.nat _ _ _ d3;rw [<-hst.size] at d3;clear hst
     rw [show max P (P+1)=P+1 by omega] at row
     replace row:=row.whole HQ1.out
     rw [show P+1=j+(i+1) by have:=HP.out; omega] at row
     clear y0 y1 y2 z0 z1 z2 hsz HQ1
     go_wp2
     go_roundg (gk - 1)
     case measure=>omega
     case rel=>exact ⟨i+1,by go_num,by have:=HP.out; omega,by omega,row,d3,hB⟩
    ·obtain ⟨P,hP⟩:∃ P,P=j+i:=⟨_,rfl⟩
     rw [<-hP] at hij row hi hlt;clear hP
     obtain rfl:P=M:=by omega
     have hle:¬ (P:Int)<=(n:Int):=by omega
     have hl:=row.list
     go_wp2
     go_ret
     exact ⟨_,_,rfl,Nat.le_refl _,by unfold maxLen; omega,hl,hB⟩
theorem zfj {rs:Nat->Rat} {m:Nat} (h:rs m≠0):clen rs (m+1)=m+1:=by simp [clen,h]
theorem zec {rs:Nat->Rat} {m:Nat} (h:rs m=0):clen rs (m+1)=clen rs m:=by simp [clen,h]
theorem zfL (R:Nat->Rat) (c0 c1:Rat):∀ i p,outP R (pairR c0 c1) 2 i p=(if p<i then R p*c0 else 0)+(if p≠0/\p - 1<i then R (p - 1)*c1 else 0):=by
 intro i
 induction i with
 | zero=>intro p; show (0:Rat)=_; simp [Rat.zero_add]
 | succ i ih =>
  intro p
  show updR (updR (outP R (pairR c0 c1) 2 i) (i+0) (outP R (pairR c0 c1) 2 i (i+0)+R i*c0)) (i+1) (updR (outP R (pairR c0 c1) 2 i) (i+0) (outP R (pairR c0 c1) 2 i (i+0)+R i*c0) (i+1)+R i*c1) p=_
  by_cases h1:p=i+1
  ·subst h1
   simp only [updR,if_pos,Nat.add_zero]
   rw [if_neg (show ¬ i+1=i by omega),ih,if_neg (show ¬ i+1<i by omega),if_neg (show ¬ (i+1≠0/\i+1 - 1<i) by omega),if_neg (show ¬ i+1<i+1 by omega),if_pos (show i+1≠0/\i+1 - 1<i+1 by omega),show i+1 - 1=i by omega]
   clear ih; grind
  ·simp only [updR,if_neg h1,Nat.add_zero]
   by_cases h2:p=i
   ·subst h2
    rw [if_pos rfl,ih,if_neg (show ¬ p<p by omega),if_pos (show p<p+1 by omega)]
    clear ih
    by_cases h3:p=0
    ·rw [if_neg (show ¬ (p≠0/\p - 1<p) by omega),if_neg (show ¬ (p≠0/\p - 1<p+1) by omega)]; generalize R p=x; grind
    ·rw [if_pos (show p≠0/\p - 1<p by omega),if_pos (show p≠0/\p - 1<p+1 by omega)]; generalize R p=x; generalize R (p - 1)=y; grind
   ·rw [if_neg h2,ih]
    clear ih
    by_cases h4:p<i
    ·rw [if_pos h4,if_pos (show p<i+1 by omega)]
     by_cases h3:p=0
     ·rw [if_neg (show ¬ (p≠0/\p - 1<i) by omega),if_neg (show ¬ (p≠0/\p - 1<i+1) by omega)]
     ·rw [if_pos (show p≠0/\p - 1<i by omega),if_pos (show p≠0/\p - 1<i+1 by omega)]
    ·rw [if_neg h4,if_neg (show ¬ p<i+1 by omega),if_neg (show ¬ (p≠0/\p - 1<i) by omega),if_neg (show ¬ (p≠0/\p - 1<i+1) by omega)]
def pwP (a:Nat->Rat) (m:Nat):Nat->Nat × (Nat->Rat)
 | 0=>(1,fun i=>if i=0 then ((1:Int):Rat) else 0)
 | k+1=>(clen (mulP (pwP a m k).2 (pwP a m k).1 a m) ((pwP a m k).1+m),mulP (pwP a m k).2 (pwP a m k).1 a m)
theorem zjy (u : Rat) (hu : u ≠ 0) : ∀ k, (pwP (pairR 0 u) 2 k).1 = k + 1 ∧ ∀ i, i < k + 1 → (pwP (pairR 0 u) 2 k).2 i = if i = k then powR u k else 0 := by
  have hp:∀ k,powR u k≠0:=fun k=>by
    induction k with
    | zero=>show (1:Rat)≠0; decide
    | succ k ih=>intro h; rcases Rat.mul_eq_zero.1 (show powR u k*u=0 from h) with h | h; exact ih h; exact hu h
  intro k
  induction k with
  | zero => exact ⟨rfl, fun i hi => by obtain rfl : i = 0 := by omega
                                       rfl⟩
  | succ k ih =>
    obtain ⟨ih1,ih2⟩:=ih
    have val:∀ p,p<k+1+2->(pwP (pairR 0 u) 2 (k+1)).2 p=if p=k+1 then powR u (k+1) else 0:=by
      intro p hp
      show outP _ (pairR 0 u) 2 (pwP (pairR 0 u) 2 k).1 p=_
      rw [zfL,ih1]
      by_cases h1:p=k+1
      · subst h1
        rw [if_neg (by omega),if_pos ⟨by omega,by omega⟩,if_pos rfl,ih2 _ (by omega),if_pos (by omega)]
        show 0+powR u k*u=powR u k*u
        grind
      · rw [if_neg h1]
        have e1:(if p<k+1 then (pwP (pairR 0 u) 2 k).2 p*0 else 0)=(0:Rat):=by split <;> grind
        rw [e1]
        by_cases h3:p≠0/\p - 1<k+1
        · rw [if_pos h3,ih2 _ (by omega),if_neg (by omega)]; grind
        · rw [if_neg h3]; grind
    refine ⟨?_,fun i hi=>val i (by omega)⟩
    show clen (pwP (pairR 0 u) 2 (k+1)).2 ((pwP (pairR 0 u) 2 k).1+2)=_
    rw [ih1]
    rw [zec (by rw [val _ (by omega),if_neg (by omega)]),zfj (by rw [val _ (by omega),if_pos rfl]; exact hp _)]
def sg (i c:Nat):Rat:=(((if i % 2=1 then -(c:Int) else (c:Int)):Int):Rat)
theorem zkn (i c:Nat):sg (i+1) c = -sg i c:=by
 unfold sg
 by_cases h:i % 2=1
 ·rw [if_neg (by omega),if_pos h,Rat.intCast_neg]; grind
 ·rw [if_pos (by omega),if_neg h,Rat.intCast_neg]
theorem zkU (i c d:Nat):sg i (c+d)=sg i c+sg i d:=by
 unfold sg
 by_cases h:i % 2=1
 ·rw [if_pos h,if_pos h,if_pos h,<-Rat.intCast_add]; congr 1; omega
 ·rw [if_neg h,if_neg h,if_neg h,<-Rat.intCast_add]; congr 1
theorem zkZ {i c:Nat} (h:c≠0):sg i c≠0:=by
 unfold sg
 intro e
 have:(if i % 2=1 then -(c:Int) else (c:Int))=0:=by exact_mod_cast e
 split at this <;> omega
theorem zjz {c0 c1 : Rat} (f0 : c0 = 1) (f1 : c1 = -1) : ∀ k, (pwP (pairR c0 c1) 2 k).1 = k + 1 ∧ ∀ i, i < k + 1 → (pwP (pairR c0 c1) 2 k).2 i = sg i (chs k i) := by
  intro k
  induction k with
  | zero => exact ⟨rfl, fun i hi => by obtain rfl : i = 0 := by omega
                                       rfl⟩
  | succ k ih =>
    obtain ⟨ih1,ih2⟩:=ih
    have val:∀ p,p<k+1+2->(pwP (pairR c0 c1) 2 (k+1)).2 p=sg p (chs (k+1) p):=by
      intro p hp
      show outP _ _ 2 (pwP (pairR c0 c1) 2 k).1 p=_
      rw [zfL,ih1]
      cases p with
      | zero =>
        rw [if_pos (by omega),if_neg (by omega),ih2 0 (by omega),zcb,zcb,f0]
        grind
      | succ p =>
        have e1:(if p+1<k+1 then (pwP (pairR c0 c1) 2 k).2 (p+1)*c0 else 0)=sg (p+1) (chs k (p+1)):=by
          split
          · rw [ih2 _ (by omega),f0]; generalize sg _ _=z; grind
          · rw [zdP (by omega)]; unfold sg; simp
        have e2:(if p+1≠0/\p+1 - 1<k+1 then (pwP (pairR c0 c1) 2 k).2 (p+1 - 1)*c1 else 0)=sg (p+1) (chs k p):=by
          rw [Nat.add_sub_cancel]
          split
          · rw [ih2 _ (by omega),zkn,f1]; generalize sg _ _=z; grind
          · rw [zdP (by omega)]; unfold sg; simp
        rw [e1,e2]
        show _=sg (p+1) (chs k p+chs k (p+1))
        rw [zkU]; grind
    refine ⟨?_,fun i hi=>val i (by omega)⟩
    show clen (pwP (pairR c0 c1) 2 (k+1)).2 ((pwP (pairR c0 c1) 2 k).1+2)=_
    rw [ih1]
    rw [zec (by rw [val _ (by omega),zdP (by omega)]; unfold sg; simp),zfj (by rw [val _ (by omega),zdQ]; exact zkZ (by omega))]
theorem zko (k:Nat):(pwP (pairR ((1:Int):Rat) (((-1:Int)):Rat)) 2 k).1=k+1/\∀ i,i<k+1->(pwP (pairR ((1:Int):Rat) (((-1:Int)):Rat)) 2 k).2 i=sg i (chs k i):=zjz rfl rfl k
theorem zia {A B:Nat->Rat} {v mB:Nat} {U:Rat} (hA:∀ i,i<v+1->A i=if i=v then U else 0) (p:Nat):mulP A (v+1) B mB p=if v<=p/\p<v+mB then U*B (p - v) else 0:=by
 have z:∀ i,i<=v->∀ p,outP A B mB i p=0:=by
  intro i
  induction i with
  | zero=>intro _ p; rfl
  | succ i ih =>
   intro hi
   have:∀ j p,inP A B i (outP A B mB i) j p=0:=by
    intro j
    induction j with
    | zero=>intro p; exact ih (by omega) p
    | succ j ihj =>
     intro p
     show updR _ _ _ p=0
     unfold updR
     split
     ·rw [ihj,hA i (by omega),if_neg (by omega)]; grind
     ·exact ihj p
   exact this mB
 have key:∀ j p,inP A B v (outP A B mB v) j p=if v<=p/\p<v+j then U*B (p - v) else 0:=by
  intro j
  induction j with
  | zero=>intro p; rw [if_neg (by omega)]; exact z v (Nat.le_refl _) p
  | succ j ih =>
   intro p
   show updR _ _ _ p=_
   unfold updR
   by_cases e:p=v+j
   ·subst e
    rw [if_pos rfl,if_pos ⟨by omega,by omega⟩,ih,if_neg (by omega),hA v (by omega),if_pos rfl,show v+j - v=j by omega]; grind
   ·rw [if_neg e,ih]
    by_cases h:v<=p/\p<v+j
    ·rw [if_pos h,if_pos ⟨h.1,by omega⟩]
    ·rw [if_neg h,if_neg (by omega)]
 exact key mB p
theorem zjA (d:Nat) (v:Nat):powR (mkRat 1 d) v=mkRat 1 (d ^ v):=by
 induction v with
 | zero=>show (1:Rat)=mkRat 1 (d ^ 0); rw [Nat.pow_zero]; decide +kernel
 | succ v ih=>show powR _ v*_=_; rw [ih,Rat.mkRat_mul_mkRat,Nat.pow_succ]; simp
theorem zg8 {d:Nat} (h:d≠0):mkRat 1 d≠0:=by
 intro e
 have:=(Rat.mkRat_eq_zero h).1 e
 omega
theorem zk0 (U:Nat) (j c:Nat):mkRat 1 U*sg j c=rv (decide (j % 2=1)) c U:=by
 unfold sg rv
 rw [<-Rat.mkRat_one,Rat.mkRat_mul_mkRat]
 simp
theorem zkV {q n v:Nat} (hq:2<=q) (hv:v<=n) :
  clen (mulP (pwP (pairR 0 (mkRat 1 (q - 1))) 2 v).2 (pwP (pairR 0 (mkRat 1 (q - 1))) 2 v).1 (pwP (pairR ((1:Int):Rat) (((-1:Int)):Rat)) 2 (n - v)).2 (pwP (pairR ((1:Int):Rat) (((-1:Int)):Rat)) 2 (n - v)).1)
   ((pwP (pairR 0 (mkRat 1 (q - 1))) 2 v).1+(pwP (pairR ((1:Int):Rat) (((-1:Int)):Rat)) 2 (n - v)).1)=n+1 /\
  ∀ i,i<n+1->mulP (pwP (pairR 0 (mkRat 1 (q - 1))) 2 v).2 (pwP (pairR 0 (mkRat 1 (q - 1))) 2 v).1 (pwP (pairR ((1:Int):Rat) (((-1:Int)):Rat)) 2 (n - v)).2 (pwP (pairR ((1:Int):Rat) (((-1:Int)):Rat)) 2 (n - v)).1 i=patR q n v i:=by
 have hu:mkRat 1 (q - 1)≠0:=zg8 (by omega)
 obtain ⟨a1,a2⟩:=zjy (mkRat 1 (q - 1)) hu v
 obtain ⟨b1,b2⟩:=zko (n - v)
 rw [a1,b1]
 have hU:powR (mkRat 1 (q - 1)) v=mkRat 1 ((q - 1) ^ v):=zjA _ _
 have hne:mkRat 1 ((q - 1) ^ v)≠0:=zg8 (by have:=Nat.pow_pos (n:=v) (show 0<q - 1 by omega); omega)
 have val:∀ i,mulP (pwP (pairR 0 (mkRat 1 (q - 1))) 2 v).2 (v+1) (pwP (pairR ((1:Int):Rat) (((-1:Int)):Rat)) 2 (n - v)).2 (n - v+1) i=if v<=i/\i<n+1 then mkRat 1 ((q - 1) ^ v)*sg (i - v) (chs (n - v) (i - v)) else 0:=by
  intro i
  rw [zia a2,hU]
  by_cases h:v<=i/\i<n+1
  ·rw [if_pos h,if_pos ⟨h.1,by omega⟩,b2 _ (by omega)]
  ·rw [if_neg h,if_neg (by omega)]
 refine ⟨?_,fun i hi=>?_⟩
 ·rw [show v+1+(n - v+1)=n+1+1 by omega,zec (by rw [val,if_neg (by omega)]),zfj]
  rw [val,if_pos ⟨by omega,by omega⟩,zdQ]
  intro e
  rcases Rat.mul_eq_zero.1 e with e | e
  ·exact hne e
  ·exact zkZ (by omega) e
 ·rw [val]
  unfold patR
  by_cases h:v<=i
  ·rw [if_pos ⟨h,hi⟩,if_neg (by omega),zk0]
  ·rw [if_neg (by omega),if_pos (by omega)]
theorem zib (rs:Nat->Rat) (m i:Nat):cutR rs (clen rs m) i=cutR rs m i:=by
 have:=zeM rs m
 unfold cutR
 by_cases h:i<clen rs m
 ·rw [if_pos h,if_pos (by omega)]
 ·rw [if_neg h]
  by_cases h2:i<m
  ·rw [if_pos h2,zh7 (rs:=rs) (m:=m) (i:=i) (by omega) h2]
  ·rw [if_neg h2]
theorem zic (a b:Nat->Rat) (m m' i:Nat):cutR (sumP a m b m') (max m m') i=cutR a m i+cutR b m' i:=by
 unfold cutR
 by_cases h:i<max m m'
 ·rw [if_pos h]; rfl
 ·rw [if_neg h,if_neg (by omega),if_neg (by omega),Rat.add_zero]
theorem ziH {x:Nat} {L:Nat} (h:dl x<=L) (hL:1<=L):rsz (x:Rat) L:=by
 refine ⟨?_,?_⟩
 ·show dl (x:Int).natAbs<=L
  simpa using h
 ·show dl 1<=L
  rw [zb4]; exact hL
def NatRTab (w:World) (B:Nat) (T:Option Addr) (m:Nat) (xs:Nat->Nat) (N:Nat):Prop :=
 ∀ i,i<m->∃ b off A n c,T=some ⟨b,off,none⟩/\b<B/\w.cell? ⟨b,off+i,none⟩=some (.slice A n c)/\NatRaw w B A n (xs i)/\n<=c/\c<=maxLen/\n<=N
def largeB (ln:Nat->Nat):Nat->Bool
 | 0=>false
 | k+1=>largeB ln k || decide (8<ln k)
def cl2 (p:Nat × (Nat->Rat)) (i:Nat):Rat:=cutR p.2 p.1 i
def tmP (q n x k:Nat):Nat × (Nat->Rat):=(clen (mulP (fun _=>(x:Rat)) 1 (patR q n k) (n+1)) (1+(n+1)),mulP (fun _=>(x:Rat)) 1 (patR q n k) (n+1))
def adP (a b:Nat × (Nat->Rat)):Nat × (Nat->Rat):=(clen (sumP a.2 a.1 b.2 b.1) (max a.1 b.1),sumP a.2 a.1 b.2 b.1)
def wtP (q n:Nat) (xs:Nat->Nat):Nat->Nat × (Nat->Rat)
 | 0=>(0,fun _=>0)
 | k+1=>if xs k=0 then wtP q n xs k else adP (wtP q n xs k) (tmP q n (xs k) k)
theorem zg9 {p:Nat × (Nat->Rat)} {N:Nat} (h:∀ i,rsz (cl2 p i) N):∀ i,i<p.1->rsz (p.2 i) N:=fun i hi=>by
 have:=h i
 unfold cl2 cutR at this
 rwa [if_pos hi] at this
theorem ziI {q n k:Nat} (hq:2<=q) (hq2:q<=256) (hn:n<=64) (hk:k<=64) (i:Nat):rsz (patR q n k i) 200:=by
 unfold patR
 split
 ·exact zba.mono (by omega)
 ·exact zgb (by have:=zjc (n - k) (i - k) (by omega); omega) (by have:=ziG (q:=q - 1) (n:=k) (by omega) (by omega); omega) (by omega)
theorem zkp {q n x k:Nat} (hq:2<=q) (hq2:q<=256) (hn:n<=64) (hk:k<=64) (hx:dl x<=8) (i:Nat):rsz ((tmP q n x k).2 i) 500 :=
 (zg3 (N:=200) (a:=fun _=>(x:Rat)) (b:=patR q n k) (m:=1) (m':=n+1) (fun _ _=>ziH (by omega) (by omega)) (fun i _=>ziI hq hq2 hn hk i) 1 (Nat.le_refl _) i).mono (by omega)
theorem zkq {rs:Nat->Rat} {m N:Nat} (h:∀ i,rsz (rs i) N) (i:Nat):rsz (cutR rs m i) N:=by
 unfold cutR
 split
 ·exact h i
 ·exact zba.mono (zeJ (h 0))
theorem zkW {a b:Nat × (Nat->Rat)} {N M:Nat} (h1:∀ i,rsz (cl2 a i) N) (h2:∀ i,rsz (b.2 i) M) (i:Nat):rsz (cl2 (adP a b) i) (N+M+1):=by
 show rsz (cutR (sumP a.2 a.1 b.2 b.1) (clen _ _) i) _
 rw [zib,zic]
 exact zbo (h1 i) (zkq h2 i)
theorem zkr {q n:Nat} {xs:Nat->Nat} (hq:2<=q) (hq2:q<=256) (hn:n<=64) (hx:∀ k,k<=n->dl (xs k)<=8):∀ k,k<=n+1->∀ i,rsz (cl2 (wtP q n xs k) i) (1+k*501):=by
 intro k
 induction k with
 | zero=>intro _ i; show rsz (cutR _ 0 i) _; unfold cutR; rw [if_neg (by omega)]; exact zba
 | succ k ih =>
  intro hk i
  show rsz (cl2 (if xs k=0 then _ else _) i) _
  split
  ·exact (ih (by omega) i).mono (by omega)
  ·exact (zkW (ih (by omega)) (zkp hq hq2 hn (by omega) (hx k (by omega))) i).mono (by omega)
theorem ziJ (q n:Nat) (xs:Nat->Nat) (k:Nat):(wtP q n xs k).1<=n+2:=by
 induction k with
 | zero=>exact Nat.zero_le _
 | succ k ih =>
  show (if xs k=0 then _ else _:Nat × (Nat->Rat)).1<=_
  split
  ·exact ih
  ·have h1:(tmP q n (xs k) k).1<=n+2:=by have:=zeM (mulP (fun _=>((xs k:Nat):Rat)) 1 (patR q n k) (n+1)) (1+(n+1)); show clen _ _<=_; omega
   refine Nat.le_trans (zeM _ _) ?_
   omega
theorem zha {w:World} (T:TypeId) {s:Bool} {A A2:Option Addr} {n c k c2 N:Nat} {r:Rat} {rs:Nat->Rat} (hr:rs 0=r)
  (h:RatRaw w w.heap.size (.agg #[.bool s,.slice A n c,.slice A2 k c2]) r N) :
  RatTab (w.alloc (.cells #[.bool s,.slice A n c,.slice A2 k c2] T)) (w.alloc (.cells #[.bool s,.slice A n c,.slice A2 k c2] T)).heap.size (some ⟨w.heap.size,0,none⟩) 1 rs N:=fun i hi=>by
 obtain rfl:i=0:=by omega
 subst hr
 have hb:=zab w (.cells #[.bool s,.slice A n c,.slice A2 k c2] T)
 have hg:=heap_alloc_new w (.cells #[.bool s,.slice A n c,.slice A2 k c2] T)
 exact ⟨w.heap.size,0,s,A,n,c,A2,k,c2,rfl,by simp,by rw [cell_of_row _ _ _ _ T (0,0) hg]; rfl,by rw [cell_of_row _ _ _ _ T (0,0) hg]; rfl,by rw [cell_of_row _ _ _ _ T (0,0) hg]; rfl,h.on hb⟩
theorem zfk {α:Type}:∀ {l m:List α},l.Nodup->(∀ x,x ∈ l->x ∈ m)->l.length<=m.length:=by
 classical
 intro l
 induction l with
 | nil=>intro m _ _; exact Nat.zero_le _
 | cons a l ih =>
  intro m h1 h2
  have ha:=h2 a (by simp)
  rw [List.nodup_cons] at h1
  have hl:=List.length_erase_of_mem ha
  have hp:=ih (m:=m.erase a) h1.2 fun x hx=>(List.mem_erase_of_ne (fun e:x=a=>h1.1 (by rw [<-e]; exact hx))).2 (h2 x (by simp [hx]))
  have hpos:=List.length_pos_of_mem ha
  simp only [List.length_cons]
  omega
theorem zbT {α β:Type} {f:α->β}:∀ {l:List α},l.Nodup->(∀ a,a ∈ l->∀ b,b ∈ l->f a=f b->a=b)->(l.map f).Nodup:=by
 intro l
 induction l with
 | nil=>intro _ _; exact List.nodup_nil
 | cons a l ih =>
  intro h hi
  rw [List.nodup_cons] at h;rw [List.map_cons,List.nodup_cons]
  refine ⟨fun hm=>?_,ih h.2 fun x hx y hy e=>hi x (by simp [hx]) y (by simp [hy]) e⟩
  obtain ⟨b,hb,e⟩:=List.mem_map.1 hm
  have:=hi b (by simp [hb]) a (by simp) e
  exact h.1 (by rw [<-this]; exact hb)
theorem zhb {K:Type} {L:List K} (hn:L.Nodup):∀ n,(allW L n).Nodup
 | 0=>by simp [allW]
 | n + 1 => by
  have ih:=zhb hn n
  show ((allW L n).flatMap fun w=>L.map fun a=>a :: w).Nodup
  revert ih
  generalize allW L n=l
  induction l with
  | nil=>intro _; simp
  | cons w l ihl =>
   intro h
   rw [List.nodup_cons] at h;rw [List.flatMap_cons,List.nodup_append]
   refine ⟨zbT hn fun a _ b _ e=>by injection e,ihl h.2,fun x hx y hy e=>?_⟩
   obtain ⟨a,_,rfl⟩:=List.mem_map.1 hx
   obtain ⟨w',hw',hy⟩:=List.mem_flatMap.1 hy
   obtain ⟨b,_,rfl⟩:=List.mem_map.1 hy
   injection e with _ e
   exact h.1 (by rw [e]; exact hw')
section
variable {q n k:Nat} {add mul:Nat->Nat->Nat} {V:Nat->Nat->Nat}
theorem EchN.spE_pv (hL:FieldLaws q add mul) {a:Nat} {p:Nat->Nat} (h:EchN q n k k a p V) {c:Nat->Nat} (hc:∀ i,i<a->c i<q) {s:Nat} (hs:s<a):spE add mul V c a (p s)=c s:=by
 have hle:=h.le
 have key:∀ t,t<=a->spE add mul V c t (p s)=if s<t then c s else 0:=by
  intro t
  induction t with
  | zero=>intro _; rfl
  | succ t ih =>
   intro ht
   show add (spE add mul V c t (p s)) (mul (c t) (V t (p s)))=_
   rw [ih (by omega)]
   by_cases e:t=s
   ·subst e
    rw [if_neg (by omega),if_pos (by omega),h.one t hs,hL.mulOne (hc t hs),hL.zeroAdd _ (hc t hs)]
   ·rw [h.zero s hs t (by omega) e,hL.mulZero (hc t (by omega))]
    by_cases e2:s<t
    ·rw [if_pos e2,if_pos (by omega),hL.addZero (hc s hs)]
    ·have:=hL.two
     rw [if_neg e2,if_neg (by omega),hL.addZero (by omega)]
 rw [key a (Nat.le_refl _),if_pos hs]
theorem zid {neg:Nat->Nat} {p:Nat->Nat} {W:Nat->Nat->Nat} {c j:Nat}:∀ a,(∀ s,s<a->p s≠j)->nrow neg p W c a j=if j=c then 1 else 0
 | 0,_=>rfl
 | a+1,h=>by
  unfold nrow
  rw [if_neg (fun e=>h a (by omega) e.symm)]
  exact zid a fun s hs=>h s (by omega)
end
structure OnEl (q:Nat) (add mul:Nat->Nat->Nat) [Add (El q)] [Mul (El q)] [Neg (El q)] [Zero (El q)] [One (El q)]:Prop where
 fie:Fie (El q)
 ha:∀ x y:El q,(x+y).val=add x.val y.val
 hm:∀ x y:El q,(x*y).val=mul x.val y.val
 h0:(0:El q).val=0
 h1:(1:El q).val=1
theorem zhc (a b p:Rat):evR (pairR a b) p 2=a+b*p:=by
 show (((0:Int):Rat)+a*((1:Int):Rat))+b*(((1:Int):Rat)*p)=_
 grind
theorem zhd (a:Nat->Rat) (m:Nat) (p:Rat):∀ k,evR (pwP a m k).2 p (pwP a m k).1=powR (evR a p m) k
 | 0=>by
  show ((0:Int):Rat)+((1:Int):Rat)*((1:Int):Rat)=((1:Int):Rat)
  grind
 | k+1=>by
  show evR (mulP (pwP a m k).2 (pwP a m k).1 a m) p (clen (mulP (pwP a m k).2 (pwP a m k).1 a m) ((pwP a m k).1+m))=powR (evR a p m) k*evR a p m
  rw [zeb,zfh,zhd a m p k]
theorem zks {q n v:Nat} (hq:2<=q) (hv:v<=n) (p:Rat):evR (patR q n v) p (n+1)=powR (mkRat 1 (q - 1)*p) v*powR (1 - p) (n - v):=by
 obtain ⟨h1,h2⟩:=zkV hq hv
 rw [<-zea h2]
 conv=>lhs; rw [<-h1]
 rw [zeb,zfh,zhd,zhd,zhc,zhc]
 congr 2
 ·grind
 ·push_cast; grind
theorem zkt {q n x k:Nat} (hq:2<=q) (hk:k<=n) (p:Rat):evR (tmP q n x k).2 p (tmP q n x k).1=(x:Rat)*(powR (mkRat 1 (q - 1)*p) k*powR (1 - p) (n - k)):=by
 show evR (mulP (fun _=>(x:Rat)) 1 (patR q n k) (n+1)) p (clen (mulP (fun _=>(x:Rat)) 1 (patR q n k) (n+1)) (1+(n+1)))=_
 rw [zeb,zfh,zks hq hk]
 congr 1
 show ((0:Int):Rat)+(x:Rat)*((1:Int):Rat)=_
 grind
theorem zku (a b:Nat × (Nat->Rat)) (p:Rat):evR (adP a b).2 p (adP a b).1=evR a.2 p a.1+evR b.2 p b.1:=by
 show evR (sumP a.2 a.1 b.2 b.1) p (clen (sumP a.2 a.1 b.2 b.1) (max a.1 b.1))=_
 rw [zeb]
 exact zjv a.2 b.2 p a.1 b.1
def sumQ (f:Nat->Rat):Nat->Rat
 | 0=>0
 | k+1=>sumQ f k+f k
theorem ziK {q n:Nat} {xs:Nat->Nat} (hq:2<=q) (p:Rat):∀ k,k<=n+1->evR (wtP q n xs k).2 p (wtP q n xs k).1=sumQ (fun w=>(xs w:Rat)*(powR (mkRat 1 (q - 1)*p) w*powR (1 - p) (n - w))) k
 | 0,_=>rfl
 | k + 1, h => by
  have ih:=ziK (n:=n) (xs:=xs) hq p k (by omega)
  show evR (if xs k=0 then wtP q n xs k else adP (wtP q n xs k) (tmP q n (xs k) k)).2 p (if xs k=0 then wtP q n xs k else adP (wtP q n xs k) (tmP q n (xs k) k)).1=sumQ _ k+(xs k:Rat)*(powR (mkRat 1 (q - 1)*p) k*powR (1 - p) (n - k))
  by_cases e:xs k=0
  ·rw [if_pos e,ih,e]
   grind
  ·rw [if_neg e,zku,ih,zkt hq (by omega)]
theorem zbU {f g:Nat->Rat}:∀ n,(∀ i,i<n->f i=g i)->sumQ f n=sumQ g n
 | 0,_=>rfl
 | n+1,h=>by
  show sumQ f n+f n=sumQ g n+g n
  rw [zbU n fun i hi=>h i (by omega),h n (by omega)]
section
variable {H:Type} {enc:TypeId × Value->H} {w:World} {base:Nat} {spare:Nat->Bool} {held:Bool} {cs:List Value}
theorem zie (h:Sees enc Tryz.prog w base spare held 27 cs) :
  ∃ (P M:Int) (A:Option Addr) (k c:Nat) (N:Int) (T:Option Addr) (n d:Nat) (f:Nat->Int) (ln:Nat->Nat) (V:Nat->Nat->Int),cs=[.int .i64 P,.int .i64 M,.slice A k c,.int .i64 N,.slice T n d] /\
   -9223372036854775808<=N/\N<=9223372036854775807/\k<=c/\c<=maxLen/\n<=d/\d<=maxLen/\IntsR w w.heap.size A k f/\IntRows w T n ln V:=by
 obtain ⟨hl,_⟩:=zcv Tryz.underlying27 h
 match cs,hl.trans (show Tryz.prog.cellsOf 27 = 5 by kernel_rfl) with
 | [c0,c1,c2,c3,c4],_ =>
  have hc:Tryz.prog.cellsOf 3 = 1:=by kernel_rfl
  have hc':Tryz.prog.cellsOf 22 = 1:=by kernel_rfl
  have hct:Tryz.prog.cellsOf 25 = 1:=by kernel_rfl
  have hcf:Tryz.prog.cellsOf 24 = 3:=by kernel_rfl
  have gf:=zce Tryz.underlying27 h 0 24 0 3 ⟨_,rfl,rfl,rfl⟩ hcf
  have gN:=zce Tryz.underlying27 h 1 3 3 1 ⟨_,rfl,rfl,rfl⟩ hc
  have gT:=zce Tryz.underlying27 h 2 25 4 1 ⟨_,rfl,rfl,rfl⟩ hct
  have g0:=zce Tryz.underlying24 gf 0 3 0 1 ⟨_,rfl,rfl,rfl⟩ hc
  have g1:=zce Tryz.underlying24 gf 1 3 1 1 ⟨_,rfl,rfl,rfl⟩ hc
  have g2:=zce Tryz.underlying24 gf 2 22 2 1 ⟨_,rfl,rfl,rfl⟩ hc'
  obtain ⟨P,hP,_⟩:=zc8 Tryz.underlying3 g0
  obtain ⟨M,hM,_⟩:=zc8 Tryz.underlying3 g1
  obtain ⟨A,k,c,f,hs,k1,k2,hr,_⟩:=zdJ Tryz.underlying22 Tryz.underlying3 hc g2
  obtain ⟨N,hN,hNw⟩:=zc8 Tryz.underlying3 gN
  obtain ⟨T,n,d,ln,V,hT,k3,k4,hrows⟩:=zhH gT
  simp at hP hM hs hN hT
  subst hP hM hs hN hT
  have:=zjP hNw
  exact ⟨P,M,A,k,c,N,T,n,d,f,ln,V,rfl,this.1,this.2,k1,k2,k3,k4,hr,hrows⟩
end
theorem zif {p:Nat->Prop} (h:∃ n,p n):∃ n,p n/\∀ k,k<n->¬ p k:=by
 obtain ⟨n,hn⟩:=h
 induction n using Nat.strongRecOn with
 | ind n ih =>
  by_cases h:∃ k,k<n/\p k
  ·obtain ⟨k,h1,h2⟩:=h
   exact ih k h1 h2
  ·exact ⟨n,hn,fun k h1 h2=>h ⟨k,h1,h2⟩⟩
section
variable {K:Type} [Add K] [Mul K]
def evA:K->List K->K->K
 | a,[],_=>a
 | a,c :: l,x=>evA (a*x+c) l x
def qtA:K->List K->K->List K
 | _,[],_=>[]
 | a,c :: l,r=>a :: qtA (a*r+c) l r
theorem ziL (r:K):∀ (l:List K) (a:K),(qtA a l r).length=l.length
 | [],_=>rfl
 | c :: l,a=>by show (qtA (a*r+c) l r).length+1=l.length+1; rw [ziL r l]
end
section
variable {K:Type} [Mul K] [One K]
def pwK (x:K):Nat->K
 | 0=>1
 | n+1=>pwK x n*x
def IsOrd (x:K) (n:Nat):Prop:=1<=n/\pwK x n=1/\∀ k,1<=k->k<n->pwK x k≠1
theorem zhe {x:K} {n:Nat} (h1:1<=n) (h2:pwK x n=1) (h3:∀ k,pwK x k=1->n ∣ k):IsOrd x n :=
 ⟨h1,h2,fun k hk1 hk2 e=>by have:=Nat.le_of_dvd (by omega) (h3 k e); omega⟩
end
section
variable {K:Type} [Add K] [Mul K] [Neg K] [Zero K] [One K]
variable (F:Fie K)
include F
theorem zkv (x r:K):∀ (l:List K) (a b:K),evA (b*(x + -r)+a) l x=(x + -r)*evA b (qtA a l r) x+evA a l r
 | [],a,b=>by show b*(x + -r)+a=(x + -r)*b+a; rw [F.mulC]
 | c :: l,a,b=>by
  have ih:=zkv x r l (a*r+c) (b*x+a)
  show evA ((b*(x + -r)+a)*x+c) l x=(x + -r)*evA (b*x+a) (qtA (a*r+c) l r) x+evA (a*r+c) l r
  rw [<-ih]
  congr 1
  have h1:(b*(x + -r)+a)*x=b*x*(x + -r)+a*x:=by rw [F.distR,F.mulA,F.mulC (x + -r),<-F.mulA]
  have h2:(b*x+a)*(x + -r)=b*x*(x + -r)+(a*x + -(a*r)):=by rw [F.distR,F.dist a,F.mulNeg]
  rw [h1,h2,F.addA,F.addA,F.addA]
  congr 2
  rw [<-F.addA,F.negA,F.zeroA]
theorem zhf:∀ (n:Nat) (l rs:List K),l.length=n->rs.Nodup->(∀ r,r ∈ rs->evA 1 l r=0)->rs.length<=n
 | 0,l,rs,hl,_,hr=>by
  rw [List.length_eq_zero_iff] at hl
  subst hl
  cases rs with
  | nil=>exact Nat.le_refl _
  | cons r rs=>exact absurd (hr r (by simp)) F.ne
 | n+1,[],rs,hl,_,_=>by simp at hl
 | n + 1, c :: l, rs, hl, hn, hr => by
  cases rs with
  | nil=>exact Nat.zero_le _
  | cons r rs =>
   rw [List.nodup_cons] at hn
   have ih:=zhf n (qtA (1*r+c) l r) rs (by rw [ziL]; simpa using hl) hn.2 fun s hs=>by
    have h1:=zkv F s r (c :: l) 1 0
    rw [F.zMul,F.zeroA,hr s (by simp [hs]),hr r (by simp),F.addZ] at h1
    have h2:evA 0 (qtA 1 (c :: l) r) s=evA 1 (qtA (1*r+c) l r) s:=by
     show evA (0*s+1) (qtA (1*r+c) l r) s=_
     rw [F.zMul,F.zeroA]
    rw [h2] at h1
    refine F.zeroOr h1.symm fun e=>hn.1 ?_
    rw [<-F.subEq e]
    exact hs
   simp only [List.length_cons]
   omega
theorem zfM (x:K):∀ (n:Nat) (a:K),evA a (List.replicate n 0 ++ [-1]) x=a*pwK x (n+1) + -1
 | 0,a=>by show a*x + -1=a*(1*x) + -1; rw [F.oneM]
 | n+1,a=>by
  show evA (a*x+0) (List.replicate n 0 ++ [-1]) x=_
  rw [zfM x n,F.addZ,F.mulA]
  congr 2
  have:∀ k,x*pwK x k=pwK x (k+1):=fun k=>by show x*pwK x k=pwK x k*x; rw [F.mulC]
  exact this _
theorem zhg (x:K) (a:Nat):∀ b,pwK x (a+b)=pwK x a*pwK x b
 | 0=>by show pwK x a=pwK x a*1; rw [F.mulOne]
 | b+1=>by show pwK x (a+b)*x=pwK x a*(pwK x b*x); rw [zhg x a b,F.mulA]
theorem zeO (n:Nat):pwK (1:K) n=1:=by
 induction n with
 | zero=>rfl
 | succ n ih=>show pwK 1 n*1=1; rw [ih,F.oneM]
theorem zcM (x:K) (a:Nat):∀ b,pwK x (a*b)=pwK (pwK x a) b
 | 0=>rfl
 | b+1=>by rw [Nat.mul_succ,zhg F,zcM x a b]; rfl
theorem zeP (x y:K):∀ n,pwK (x*y) n=pwK x n*pwK y n
 | 0=>by show (1:K)=1*1; rw [F.oneM]
 | n+1=>by
  show pwK (x*y) n*(x*y)=pwK x n*x*(pwK y n*y)
  rw [zeP x y n,F.mulA,F.mulA,F.mulL (pwK y n)]
theorem zkw {x:K} (hx:x≠0):∀ n,pwK x n≠0
 | 0=>F.ne
 | n+1=>fun h=>hx (F.zeroOr h (zkw hx n))
theorem IsOrd.dvd {x:K} {n k:Nat} (h:IsOrd x n) (hk:pwK x k=1):n ∣ k:=by
 obtain ⟨h1,h2,h3⟩:=h
 have e:pwK x (k % n)=1:=by
  have:=Nat.div_add_mod k n
  rw [<-this,zhg F,zcM F,h2,zeO F,F.oneM] at hk
  exact hk
 have hlt:=Nat.mod_lt k (show n > 0 by omega)
 refine Nat.dvd_of_mod_eq_zero (Classical.byContradiction fun hne=>h3 (k % n) (by omega) hlt e)
theorem IsOrd.power {x:K} {d e:Nat} (h:IsOrd x (d*e)) (hd:1<=d):IsOrd (pwK x d) e:=by
 have he:1<=e:=by
  have:=h.1
  rcases Nat.eq_zero_or_pos e with h0 | h0
  ·rw [h0] at this; omega
  ·exact h0
 refine zhe he (by rw [<-zcM F]; exact h.2.1) fun k hk=>?_
 rw [<-zcM F] at hk
 exact Nat.dvd_of_mul_dvd_mul_left hd (h.dvd F hk)
theorem IsOrd.prod {x y:K} {a b:Nat} (h:IsOrd x a) (h':IsOrd y b) (hc:Nat.Coprime a b):IsOrd (x*y) (a*b):=by
 refine zhe (Nat.mul_pos h.1 h'.1) ?_ fun k hk=>?_
 ·rw [zeP F,zcM F,h.2.1,zeO F,Nat.mul_comm,zcM F,h'.2.1,zeO F,F.oneM]
 ·rw [zeP F] at hk
  have hb:b ∣ k:=by
   have h1:pwK y (k*a)=1:=by
    have h2:pwK (pwK x k*pwK y k) a=1:=by rw [hk,zeO F]
    rw [zeP F,<-zcM F,<-zcM F,Nat.mul_comm k a,zcM F x,h.2.1,zeO F,F.oneM,Nat.mul_comm a k] at h2
    exact h2
   exact (Nat.Coprime.dvd_of_dvd_mul_right hc.symm (h'.dvd F h1))
  have ha:a ∣ k:=by
   have h1:pwK x (k*b)=1:=by
    have h2:pwK (pwK x k*pwK y k) b=1:=by rw [hk,zeO F]
    rw [zeP F,<-zcM F,<-zcM F,Nat.mul_comm k b,zcM F y,h'.2.1,zeO F,F.mulOne,Nat.mul_comm b k] at h2
    exact h2
   exact (Nat.Coprime.dvd_of_dvd_mul_right hc (h.dvd F h1))
  exact Nat.Coprime.mul_dvd_of_dvd_of_dvd hc ha hb
end
def PrimeN (p:Nat):Prop:=2<=p/\∀ d,d ∣ p->d=1∨d=p
theorem zcW {p a:Nat} (hp:PrimeN p) (ha:¬ p ∣ a):Nat.Coprime p a:=by
 rcases hp.2 _ (Nat.gcd_dvd_left p a) with h | h
 ·exact h
 ·exact absurd (h ▸ Nat.gcd_dvd_right p a) ha
theorem zfl:∀ b,2<=b->∃ p,PrimeN p/\p ∣ b:=by
 intro b
 induction b using Nat.strongRecOn with
 | ind b ih =>
  intro hb
  by_cases h:∃ d,d ∣ b/\d≠1/\d≠b
  ·obtain ⟨d,h1,h2,h3⟩:=h
   have hle:=Nat.le_of_dvd (by omega) h1
   have h0:d≠0:=fun e=>by rw [e,Nat.zero_dvd] at h1; omega
   obtain ⟨p,hp,hpd⟩:=ih d (by omega) (by omega)
   exact ⟨p,hp,Nat.dvd_trans hpd h1⟩
  ·exact ⟨b,⟨hb,fun d hd=>Classical.byContradiction fun hn=>h ⟨d,hd,fun e=>hn (.inl e),fun e=>hn (.inr e)⟩⟩,Nat.dvd_refl b⟩
theorem zfN {p:Nat} (hp:2<=p):∀ b,1<=b->∃ v c,b=p ^ v*c/\¬ p ∣ c:=by
 intro b
 induction b using Nat.strongRecOn with
 | ind b ih =>
  intro hb
  by_cases h:p ∣ b
  ·obtain ⟨c,rfl⟩:=h
   have hc:1<=c:=by
    rcases Nat.eq_zero_or_pos c with e | e
    ·rw [e] at hb; omega
    ·exact e
   have hlt:c<p*c:=by
    have:=Nat.mul_le_mul_right c hp
    omega
   obtain ⟨v,d,e,hd⟩:=ih c hlt hc
   refine ⟨v+1,d,?_,hd⟩
   rw [Nat.pow_succ,Nat.mul_comm (p ^ v) p,Nat.mul_assoc,<-e]
  ·exact ⟨0,b,by simp,h⟩
theorem zge {a:Nat}:∀ b,1<=b->¬ b ∣ a->∃ p k,PrimeN p/\p ^ k ∣ b/\¬ p ^ k ∣ a:=by
 intro b
 induction b using Nat.strongRecOn with
 | ind b ih =>
  intro hb hn
  have hb2:2<=b:=by
   rcases (show b=1∨2<=b by omega) with e | e
   ·exact absurd (by rw [e]; exact Nat.one_dvd a) hn
   ·exact e
  obtain ⟨p,hp,hpb⟩:=zfl b hb2
  obtain ⟨v,c,e,hc⟩:=zfN hp.1 b hb
  by_cases h:p ^ v ∣ a
  ·have hcop:Nat.Coprime (p ^ v) c:=Nat.Coprime.pow_left v (zcW hp hc)
   have hca:¬ c ∣ a:=fun hca=>hn (by rw [e]; exact Nat.Coprime.mul_dvd_of_dvd_of_dvd hcop h hca)
   have hv:v≠0:=fun h0=>by
    rw [h0,Nat.pow_zero,Nat.one_mul] at e;rw [e] at hpb
    exact hc hpb
   have hc1:1<=c:=by
    rcases Nat.eq_zero_or_pos c with h0 | h0
    ·rw [h0] at e; omega
    ·exact h0
   have hlt:c<b:=by
    have h1:2<=p ^ v:=Nat.le_trans hp.1 (by
     have:=Nat.pow_le_pow_right (show 0<p by have:=hp.1; omega) (show 1<=v by omega)
     simpa using this)
    have:=Nat.mul_le_mul_right c h1
    omega
   obtain ⟨p',k,h1,h2,h3⟩:=ih c hlt hc1 hca
   exact ⟨p',k,h1,by rw [e]; exact Nat.dvd_trans h2 (Nat.dvd_mul_left c _),h3⟩
  ·exact ⟨p,v,hp,by rw [e]; exact Nat.dvd_mul_right _ _,h⟩
section
variable {K:Type} [Add K] [Mul K] [Neg K] [Zero K] [One K] (F:Fie K)
include F
theorem zeQ {x y:K} {a b:Nat} (hx:IsOrd x a) (hy:IsOrd y b) (h:¬ b ∣ a):∃ (z:K) (n:Nat),IsOrd z n/\a<n:=by
 obtain ⟨p,k,hp,h1,h2⟩:=zge b hy.1 h
 obtain ⟨v,c,e,hc⟩:=zfN hp.1 a hx.1
 have hp0:0<p:=by have:=hp.1; omega
 have hvk:v<k:=Classical.byContradiction fun hn=>h2 (by
  rw [e]
  exact Nat.dvd_trans (Nat.pow_dvd_pow p (by omega)) (Nat.dvd_mul_right _ _))
 obtain ⟨d,hd⟩:=h1
 have hd1:1<=d:=by
  have:=hy.1
  rcases Nat.eq_zero_or_pos d with h0 | h0
  ·rw [h0] at hd; omega
  ·exact h0
 have o1:IsOrd (pwK x (p ^ v)) c:=IsOrd.power F (by rw [<-e]; exact hx) (Nat.pow_pos hp0)
 have o2:IsOrd (pwK y d) (p ^ k):=IsOrd.power F (by rw [Nat.mul_comm,<-hd]; exact hy) hd1
 have hcop:Nat.Coprime c (p ^ k):=(Nat.Coprime.pow_left k (zcW hp hc)).symm
 refine ⟨_,_,o1.prod F o2 hcop,?_⟩
 rw [e,Nat.mul_comm c]
 exact Nat.mul_lt_mul_of_pos_right (Nat.pow_lt_pow_right hp.1 hvk) o1.1
theorem zdj {L:List K} (hn:L.Nodup) (hc:∀ a,a ∈ L):∃ x:K,x≠0/\IsOrd x (L.length - 1):=by
 classical
 have hpig:∀ {l m:List K},l.Nodup->(∀ x,x ∈ l->x ∈ m)->l.length<=m.length:=by
  intro l
  induction l with
  | nil=>intro m _ _; exact Nat.zero_le _
  | cons a l ih =>
   intro m h1 h2
   have ha:=h2 a (by simp)
   rw [List.nodup_cons] at h1
   have hl:=List.length_erase_of_mem ha
   have hp:=ih (m:=m.erase a) h1.2 fun x hx=>(List.mem_erase_of_ne (fun e:x=a=>h1.1 (by rw [<-e]; exact hx))).2 (h2 x (by simp [hx]))
   have hpos:=List.length_pos_of_mem ha
   simp only [List.length_cons]
   omega
 have hU:(L.erase 0).length=L.length - 1:=List.length_erase_of_mem (hc 0)
 have hUm:∀ x:K,x≠0->x ∈ L.erase 0:=fun x hx=>(List.mem_erase_of_ne hx).2 (hc x)
 -- powers below the order are different
 have hinj:∀ (x:K) (n:Nat),x≠0->(∀ k,1<=k->k<n->pwK x k≠1)->((List.range n).map (pwK x)).Nodup:=by
  intro x n hx hk
  rw [List.Nodup,List.pairwise_map]
  have key:∀ i j,i<j->j<n->pwK x i≠pwK x j:=fun i j hij hj e=>by
   refine hk (j - i) (by omega) (by omega) ?_
   rw [show j=i+(j - i) by omega,zhg F] at e
   have h1:pwK x i*pwK x (j - i)=pwK x i*1:=by rw [<-e,F.mulOne]
   obtain ⟨y,hy⟩:=F.inv _ (zkw F hx i)
   have h2:y*(pwK x i*pwK x (j - i))=y*(pwK x i*1):=by rw [h1]
   rwa [<-F.mulA,<-F.mulA,F.mulC y,hy,F.oneM,F.oneM] at h2
  refine List.Pairwise.imp_of_mem (R:=fun a b=>a<b) (fun {a b} ha hb hab=>key a b hab (List.mem_range.1 hb)) List.pairwise_lt_range
 have hle:∀ (x:K) (n:Nat),x≠0->(∀ k,1<=k->k<n->pwK x k≠1)->n<=L.length - 1:=fun x n hx hk=>by
  have:=hpig (hinj x n hx hk) (m:=L.erase 0) fun z hz=>by
   obtain ⟨i,_,rfl⟩:=List.mem_map.1 hz
   exact hUm _ (zkw F hx i)
  rw [hU] at this
  simpa using this
 have hord:∀ x:K,x≠0->∃ n,IsOrd x n:=fun x hx=>by
  have hex:∃ n,1<=n/\pwK x n=1:=Classical.byContradiction fun hno=>by
   have:=hle x (L.length+1) hx fun k h1 _ e=>hno ⟨k,h1,e⟩
   omega
  obtain ⟨n,h1,h2⟩:=zif hex
  exact ⟨n,h1.1,h1.2,fun k h3 h4 e=>h2 k h4 ⟨h3,e⟩⟩
 -- the greatest order
 have hmax:∃ x n,x≠(0:K)/\IsOrd x n/\∀ y m,y≠(0:K)->IsOrd y m->m<=n:=by
  refine Classical.byContradiction fun hno=>?_
  have step:∀ t,∃ x n,x≠(0:K)/\IsOrd x n/\t<=n:=by
   intro t
   induction t with
   | zero =>
    obtain ⟨n,h⟩:=hord 1 F.ne
    exact ⟨1,n,F.ne,h,Nat.zero_le _⟩
   | succ t ih =>
    obtain ⟨x,n,h1,h2,h3⟩:=ih
    refine Classical.byContradiction fun hn2=>hno ⟨x,n,h1,h2,fun y m hy hm=>?_⟩
    refine Classical.byContradiction fun hlt=>hn2 ⟨y,m,hy,hm,by omega⟩
  obtain ⟨x,n,h1,h2,h3⟩:=step (L.length+1)
  have:=hle x n h1 h2.2.2
  omega
 obtain ⟨x,e,hx,he,hbig⟩:=hmax
 refine ⟨x,hx,?_⟩
 have h1:=hle x e hx he.2.2
 have hall:∀ y:K,y≠0->pwK y e=1:=fun y hy=>by
  obtain ⟨m,hm⟩:=hord y hy
  have hdv:m ∣ e:=Classical.byContradiction fun hnd=>by
   obtain ⟨z,n,hz,hlt⟩:=zeQ F he hm hnd
   have hz0:z≠0:=fun e0=>by
    have h2:=hz.2.1
    rw [e0] at h2
    have h3:=hz.1
    obtain ⟨k,rfl⟩:∃ k,n=k+1:=⟨n - 1,by omega⟩
    rw [show pwK (0:K) (k+1)=pwK 0 k*0 from rfl,F.mulZ] at h2
    exact F.ne h2.symm
   have:=hbig z n hz0 hz
   omega
  obtain ⟨k,rfl⟩:=hdv
  rw [zcM F,hm.2.1,zeO F]
 have hroots:=zhf F e (List.replicate (e - 1) 0 ++ [-1]) (L.erase 0) (by have:=he.1; simp; omega) (hn.erase 0) fun r hr=>by
  have hr0:r≠0:=fun e0=>by rw [e0] at hr; exact (List.Nodup.mem_erase_iff hn).1 hr |>.1 rfl
  rw [zfM F,F.oneM,show e - 1+1=e by have:=he.1; omega,hall r hr0,F.addN]
 rw [hU] at hroots
 obtain rfl:e=L.length - 1:=by omega
 exact he
end
theorem zjB {P M:Int} (h:256<P):ordV P M=0:=by
 unfold ordV
 split
 ·rename_i h2
  exfalso
  obtain ⟨h3,h4,_,h5⟩:=h2
  have h6:=Nat.pow_le_pow_right (n:=P.toNat) (show 0<P.toNat by omega) (show 1<=M.toNat by omega)
  rw [Nat.pow_one] at h6
  omega
 ·rfl
theorem zcN (P M : Int) (w : World) : Calls Tryz.prog 146 #[.int .i64 P, .int .i64 M] w (OrderPost P M w) := by
 by_cases h1:P<2
 ·have hz:=hid (zdy (P:=P) (M:=M) (.inl h1))
  go_enter Tryz.func146, Tryz.ntmps146
  go_wp2
  go_ret
  exact zaK hz.out (Below.refl _ _)
 ·by_cases h2:P > 256
  ·have hz:=hid (zjB (P:=P) (M:=M) h2)
   go_enter Tryz.func146, Tryz.ntmps146
   go_wp2
   go_ret
   exact zaK hz.out (Below.refl _ _)
  ·by_cases h3:M<1
   ·have hz:=hid (zdy (P:=P) (M:=M) (.inr (.inl h3)))
    go_enter Tryz.func146, Tryz.ntmps146
    go_wp2
    go_ret
    exact zaK hz.out (Below.refl _ _)
   ·by_cases h4:M > 8
    ·have hz:=hid (zdy (P:=P) (M:=M) (.inr (.inr h4)))
     go_enter Tryz.func146, Tryz.ntmps146
     go_wp2
     go_ret
     exact zaK hz.out (Below.refl _ _)
    ·obtain ⟨p,rfl⟩:∃ p:Nat,P=p:=⟨P.toNat,by omega⟩
     obtain ⟨m,rfl⟩:∃ m:Nat,M=m:=⟨M.toNat,by omega⟩
     have HVAL:Hid (∀ v:Nat,(p ^ m<=256->v=p ^ m)->(256<p ^ m->v=0)->ordV (p:Int) (m:Int)=(v:Int)):=fun v hv1 hv2=>by
      unfold ordV
      rw [Int.toNat_natCast,Int.toNat_natCast]
      by_cases h:p ^ m<=256
      ·rw [if_pos ⟨by omega,by omega,by omega,h⟩,hv1 h]
      ·rw [if_neg (fun hh=>h hh.2.2.2),hv2 (by omega)]; rfl
     have hm0:(0:Int)<=(m:Int):=by omega
     go_enter Tryz.func146, Tryz.ntmps146
     go_wp2
     go_loopg [5,21] m (fun gg qv iv wx=>∃ i y:Nat,qv=.int .i64 (y:Nat)/\iv=.int .i64 (i:Nat)/\i<=m/\m<=i+gg/\Hid (y=p ^ i)/\y<=256/\wx=w)
     case atStart=>exact ⟨0,1,rfl,rfl,by omega,by omega,rfl,by omega,rfl⟩
     case round =>
      obtain ⟨i,y,rfl,rfl,hi,hig,HY,hy,hwx⟩:=hrel
      subst hwx
      by_cases hlt:i<m
      ·have hlt':(i:Int)<(m:Int):=by omega
       obtain ⟨z,hz⟩:∃ z,z=y*p:=⟨_,rfl⟩
       have hzz:(y:Int)*(p:Int)=(z:Int):=by rw [hz]; simp
       have hzl:z<=65536:=by rw [hz]; exact Nat.mul_le_mul (show y<=256 by omega) (show p<=256 by omega)
       have HZ:Hid (z=p ^ (i+1)):=by show _=_; rw [hz,HY.out,Nat.pow_succ]
       clear hz
       by_cases hb:z > 256
       ·have hb':(z:Int) > 256:=by omega
        have hno:=hid (HVAL.out 0 (fun h=>by
         have h5:=Nat.pow_le_pow_right (n:=p) (by omega) (show i+1<=m by omega)
         rw [<-HZ.out] at h5
         omega) (fun _=>rfl))
        go_wp2
        go_ret
        exact ⟨by rw [hno.out]; rfl,Below.refl _ _⟩
       ·have hb':¬ (z:Int) > 256:=by omega
        go_wp2
        go_roundg (gk - 1)
        case measure=>omega
        case rel=>exact ⟨i+1,z,rfl,by go_num,by omega,by omega,HZ,by omega,rfl⟩
      ·have hlt':¬ (i:Int)<(m:Int):=by omega
       obtain rfl:i=m:=by omega
       have hyes:=hid (HVAL.out y (fun _=>HY.out) (fun h=>by have:=HY.out; omega))
       go_wp2
       go_ret
       exact ⟨by rw [hyes.out]; rfl,Below.refl _ _⟩
theorem zed {n d:Nat} (hd:n<d*d) (h:∀ e,2<=e->e<d->n % e≠0):PrimeB n:=by
 intro e h1 h2 h3
 obtain ⟨f,hf⟩:=Nat.dvd_of_mod_eq_zero h3
 have hf2:2<=f:=by
  rcases (show f=0∨f=1∨2<=f by omega) with e0 | e0 | e0
  ·subst e0; omega
  ·subst e0; omega
  ·exact e0
 by_cases he:e<d
 ·exact h e h1 he h3
 ·by_cases hfd:f<d
  ·exact h f hf2 hfd (by rw [hf]; exact Nat.mul_mod_left e f)
  ·have:=Nat.mul_le_mul (show d<=e by omega) (show d<=f by omega)
   omega
theorem zgf (P:Nat) (w:World) (hP2:2<=P) (hP:P<=256) :
  Calls Tryz.prog 210 #[.int .i64 (P:Nat)] w (PrimePost P w):=by
 have hP2':(P:Int) ≥ 2:=by omega
 have hP2'':(2:Int)<=(P:Int):=by omega
 go_enter Tryz.func210, Tryz.ntmps210
 go_wp2
 go_loopg [3] 20 (fun gg iv wx=>∃ d:Nat,iv=.int .i64 (d:Nat)/\2<=d/\d<=17/\20<=d+gg/\Hid (∀ d',2<=d'->d'<d->P % d'≠0)/\wx=w)
 case atStart=>exact ⟨2,rfl,by omega,by omega,by omega,fun d' h1 h2=>absurd h1 (by omega),rfl⟩
 case round =>
  obtain ⟨d,rfl,h2,hd,hdg,HG,hwx⟩:=hrel
  subst hwx
  have hd2:(2:Int)<=(d:Int):=by omega
  have hd0:¬ (d:Int)=0:=by omega
  have hdm:(d:Int)<=17:=by omega
  obtain ⟨z,hz⟩:∃ z,z=d*d:=⟨_,rfl⟩
  have hzz:(d:Int)*(d:Int)=(z:Int):=by rw [hz]; simp
  have hzl:z<=289:=by rw [hz]; exact Nat.mul_le_mul hd hd
  have HZ:=hid hz
  clear hz
  by_cases hlt:z<=P
  ·have hlt':(z:Int)<=(P:Int):=by omega
   have hmod:(P:Int) % (d:Int)=((P % d:Nat):Int):=by simp
   obtain ⟨r,hr⟩:∃ r,r=P % d:=⟨_,rfl⟩
   rw [<-hr] at hmod
   have HR:=hid hr
   clear hr
   have hd16:d<=16:=Classical.byContradiction fun hn=>by
    obtain rfl:d=17:=by omega
    have:=HZ.out
    omega
   by_cases h0:r=0
   ·subst h0
    have HNO:Hid (¬ PrimeB P):=fun h=>h d h2 (by
     have:=HZ.out
     have h5:2*d<=d*d:=Nat.mul_le_mul_right d h2
     omega) HR.out.symm
    go_wp2
    go_ret
    exact ⟨false,rfl,⟨(fun h=>by cases h),fun h=>absurd h HNO.out⟩,rfl⟩
   ·have hb:((r:Int) == 0)=false:=by simp; omega
    have hnx:Hid (∀ d',2<=d'->d'<d+1->P % d'≠0):=fun d' e1 e2=>by
     by_cases e:d'=d
     ·rw [e,<-HR.out]; exact h0
     ·exact HG.out d' e1 (by omega)
    go_wp2
    go_roundg (gk - 1)
    case measure=>omega
    case rel=>exact ⟨d+1,by go_num,by omega,by omega,by omega,hnx,rfl⟩
  ·have hlt':¬ (z:Int)<=(P:Int):=by omega
   have HYES:=hid (zed (n:=P) (d:=d) (by have:=HZ.out; omega) HG.out)
   go_wp2
   go_ret
   exact ⟨true,rfl,⟨fun _=>HYES.out,fun _=>rfl⟩,rfl⟩
theorem zdk (x p n:Nat) (w:World) (hx:x<=1048576) (hp:1<=p) (hp2:p<=256) (hn:n<=64) :
  Calls Tryz.prog 250 #[.int .i64 (x:Nat),.int .i64 (p:Nat),.int .i64 (n:Nat)] w (RowPost n (fun i=>.int .i64 (dig p x i:Nat)) w):=by
 have hmk:=fun W=>zau (P:=Tryz.prog) 22 3 _ 8 Tryz.underlying22 Tryz.infoInt rfl (n:Int) (by omega) (by omega) (by omega) W
 simp only [Int.toNat_natCast] at hmk
 have row:=World.rowIs_made w (.int .i64 0) n 3
 have hB:Below w.heap.size w (w.alloc (.cells (madeCells #[.int .i64 0] n) 3)):=(Below.refl _ _).alloc (Nat.le_refl _) _
 have hp1:(1:Int)<=(p:Int):=by omega
 have hp0:¬ (p:Int)=0:=by omega
 have hpm:(p:Int)<=256:=by omega
 go_enter Tryz.func250, Tryz.ntmps250
 go_wp2
 obtain ⟨w1,hw1⟩:∃ W,W=w.alloc (.cells (madeCells #[.int .i64 0] n) 3):=⟨_,rfl⟩
 obtain ⟨g,hg⟩:∃ g,g=w.heap.size:=⟨_,rfl⟩
 rw [<-hw1,<-hg];rw [<-hw1] at hB row;rw [<-hg] at row
 have hgB:w.heap.size<=g:=by omega
 clear hw1 hg hmk
 go_loopg [0,8,13] n (fun gg xv _ iv wx=>∃ i:Nat,iv=.int .i64 (i:Nat)/\xv=.int .i64 (x / p ^ i:Nat)/\i<=n/\n<=i+gg/\wx.rowIs g 3 n (fun j=>.int .i64 (if j<i then (dig p x j:Nat) else 0:Int))/\Below w.heap.size w wx)
 case atStart=>exact ⟨0,rfl,by simp,by omega,by omega,row.congr fun i _=>rfl,hB⟩
 case round =>
  clear row hB
  obtain ⟨i,rfl,rfl,hi,hig,row,hB⟩:=hrel
  have hi0:(0:Int)<=(i:Int):=by omega
  have hle:x / p ^ i<=x:=Nat.div_le_self _ _
  have hst:x / p ^ (i+1)=x / p ^ i / p:=by rw [Nat.pow_succ,Nat.div_div_eq_div_mul]
  have hdg:dig p x i=x / p ^ i % p:=rfl
  obtain ⟨y,hy⟩:∃ y,y=x / p ^ i:=⟨_,rfl⟩
  rw [<-hy] at hle hst hdg;rw [<-hy]
  have HST:=hid hst
  have HDG:=hid hdg
  clear hy hst hdg
  by_cases hlt:i<n
  ·have hlt':(i:Int)<(n:Int):=by omega
   have hy0:(0:Int)<=(y:Int):=by omega
   have hy1:(y:Int)<=1048576:=by omega
   have hmod:(y:Int) % (p:Int)=((y % p:Nat):Int):=by simp
   have hdiv:(y:Int) / (p:Int)=((y / p:Nat):Int):=by simp
   obtain ⟨r,hr⟩:∃ r,r=y % p:=⟨_,rfl⟩
   obtain ⟨z,hz⟩:∃ r,r=y / p:=⟨_,rfl⟩
   rw [<-hr] at hmod;rw [<-hz] at hdiv
   have hz0:(0:Int)<=(z:Int):=by omega
   have hz1:(z:Int)<=1048576:=by have:y / p<=y:=Nat.div_le_self _ _; omega
   have HR:=hid hr
   have HZ:=hid hz
   clear hr hz
   have c0:=row.cell hlt
   have z0:=row.frozen i
   have HROW2:Hid ((wr.setCell ⟨g,i,none⟩ (.int .i64 (r:Int))).rowIs g 3 n (fun j=>.int .i64 (if j<i+1 then (dig p x j:Nat) else 0:Int))):=(row.set i _).congr fun j hj=>by
    by_cases e:j=i
    ·subst e
     rw [if_pos rfl,if_pos (by omega),HDG.out,HR.out]
    ·rw [if_neg e]
     by_cases e2:j<i
     ·rw [if_pos e2,if_pos (by omega)]
     ·rw [if_neg e2,if_neg (by omega)]
   have HB2:Hid (Below w.heap.size w (wr.setCell ⟨g,i,none⟩ (.int .i64 (r:Int)))):=hB.setCell hgB _
   clear row hB
   go_wp2
   go_roundg (gk - 1)
   case measure=>omega
   case rel=>exact ⟨i+1,by go_num,by rw [HST.out,HZ.out],by omega,by omega,HROW2.out,HB2.out⟩
  ·obtain rfl:i=n:=by omega
   have hlt':¬ (i:Int)<(i:Int):=by omega
   have hrow:Hid (wr.rowIs g 3 i (fun j=>.int .i64 (dig p x j:Nat))):=row.congr fun j hj=>by rw [if_pos hj]
   clear row
   go_wp2
   go_ret
   exact ⟨g,rfl,hgB,hrow.out,hB⟩
theorem zgg (P:Nat) (T:Option Addr) (n d:Nat) (f:Nat->Nat) (w:World) (hP2:2<=P) (hP:P<=256) (h:IntsR w w.heap.size T n (fun i=>(f i:Nat))) (hd:Hid (∀ i,i<n->f i<P)) (hn:P ^ n<=256) (hn8:n<=8) :
  Calls Tryz.prog 251 #[.slice T n d,.int .i64 (P:Nat)] w fun e w'=>e=.returned (.int .i64 (valN P f n:Nat))/\Below w.heap.size w w':=by
 have hT:=hid h
 clear h
 go_enter Tryz.func251, Tryz.ntmps251
 go_wp2
 go_loopg [5,6] n (fun gg xv iv wx=>∃ j:Nat,iv=.int .i64 ((n:Int) - 1 - (j:Nat))/\xv=.int .i64 (valN P (fun i=>f (n - j+i)) j:Nat)/\j<=n/\n<=j+gg/\Below w.heap.size w wx)
 case atStart=>exact ⟨0,by go_num,rfl,by omega,by omega,Below.refl _ _⟩
 case round =>
  obtain ⟨j,rfl,rfl,hj,hjg,hB⟩:=hrel
  have hvl:=zbw (p:=P) (n:=j) (f:=fun i=>f (n - j+i)) (fun i hi=>hd.out _ (by omega))
  have hpw:P ^ j<=P ^ n:=Nat.pow_le_pow_right (by omega) hj
  by_cases hlt:j<n
  ·have hge:(0:Int)<=(n:Int) - 1 - (j:Int):=by omega
   obtain ⟨i,hi⟩:∃ i:Nat,i=n - 1 - j:=⟨_,rfl⟩
   have hii:(n:Int) - 1 - (j:Int)=(i:Int):=by omega
   have hin:i<n:=by omega
   have hin':(i:Int)<(n:Int):=by omega
   have hi0:(0:Int)<=(i:Int):=by omega
   rw [hii]
   obtain ⟨b,o,rfl,hb,e0⟩:=(hT.out.on hB).at hin
   have hfi:=hd.out i hin
   have hnx:valN P (fun t=>f (n - (j+1)+t)) (j+1)=f i+P*valN P (fun t=>f (n - j+t)) j:=by
    show f (n - (j+1)+0)+P*valN P (fun t=>f (n - (j+1)+(t+1))) j=_
    rw [show n - (j+1)+0=i by omega]
    congr 2
    exact zaV fun t _=>by rw [show n - (j+1)+(t+1)=n - j+t by omega]
   obtain ⟨V,hV⟩:∃ V,V=valN P (fun t=>f (n - j+t)) j:=⟨_,rfl⟩
   obtain ⟨D,hD⟩:∃ D,D=f i:=⟨_,rfl⟩
   rw [<-hV] at hvl hnx;rw [<-hD] at e0 hfi hnx;rw [<-hV]
   have HNX:=hid hnx
   have HII:=hid hii
   clear hV hD hnx hi hii hge
   have hV0:(0:Int)<=(V:Int):=by omega
   have hV1:(V:Int)<=256:=by omega
   have hD0:(0:Int)<=(D:Int):=by omega
   have hD1:(D:Int)<=256:=by omega
   have hVP:V*P<=256*256:=Nat.mul_le_mul (by omega) hP
   have hmul:(V:Int)*(P:Int)=((V*P:Nat):Int):=by simp
   obtain ⟨R,hR⟩:∃ R,R=V*P:=⟨_,rfl⟩
   rw [<-hR] at hVP hmul
   have HR:=hid hR
   clear hR
   have hw1:IntKind.i64.wrap ((V:Int)*(P:Int))=(R:Int):=by rw [hmul]; exact IntWalk.i64_in _ (by omega)
   have hw2:IntKind.i64.wrap ((R:Int)+(D:Int))=(R:Int)+(D:Int):=IntWalk.i64_in _ (by omega)
   have hw3:IntKind.i64.wrap (R:Int)=(R:Int):=IntWalk.i64_in _ (by omega)
   go_wp2
   go_roundg (gk - 1)
   case measure=>omega
   case rel=>exact ⟨j+1,by have:=HII.out; go_num,by rw [HNX.out,Nat.mul_comm P V,<-HR.out]; go_num,by omega,by omega,hB⟩
  ·obtain rfl:j=n:=by omega
   have hge:¬ (0:Int)<=(j:Int) - 1 - (j:Int):=by omega
   have hge2:¬ (j:Int)<=(j:Int) - 1:=by omega
   have hv:valN P (fun i=>f (j - j+i)) j=valN P f j:=zaV fun i _=>by rw [show j - j+i=i by omega]
   rw [hv] at hvl ⊢
   obtain ⟨V,hV⟩:∃ V,V=valN P f j:=⟨_,rfl⟩
   rw [<-hV] at hvl ⊢
   have HV:=hid hV
   clear hV hv
   go_wp2
   go_ret
   exact ⟨by rw [HV.out]; rfl,hB⟩
end Go.Proofs.YtioagplajkoohaaGreat