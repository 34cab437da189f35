/- Merged texts of a claim: PMulAll, RefEval, PolyC, WtsAll, PatAll, UndAll, DualPl, SeesCode. -/
import Derived.Test.YtmgeblpnnaamnaaGreatTR1
import Derived.Test.YtmgeblpnnaamnaaGreatTR3
import Derived.Test.YtmgeblpnnaamnaaGreatTR5
import Derived.Test.YtmgeblpnnaamnaaGreatTR6
import Derived.Test.YtmgeblpnnaamnaaGreatTR11
namespace Go.Proofs.YtmgeblpnnaamnaaGreat
set_option maxRecDepth 100000
set_option maxHeartbeats 32000000
open Go.RowKit
def inP (a b:Nat->Rat) (i:Nat) (S:Nat->Rat):Nat->Nat->Rat
 | 0=>S
 | j+1=>updR (inP a b i S j) (i+j) (inP a b i S j (i+j)+a i*b j)
def outP (a b:Nat->Rat) (m':Nat):Nat->Nat->Rat
 | 0=>fun _=>0
 | i+1=>inP a b i (outP a b m' i) m'
theorem inP_ge {a b:Nat->Rat} {i:Nat} {S:Nat->Rat} {j p:Nat} (h:i+j<=p∨p<i):inP a b i S j p=S p:=by
 induction j with
 | zero=>rfl
 | succ j ih =>
  show updR _ _ _ p=_
  unfold updR
  rw [if_neg (by omega)]
  exact ih (by omega)
theorem rsz_inP {a b:Nat->Rat} {i N K m m':Nat} {S:Nat->Rat} (h1:∀ k,k<m->rsz (a k) N) (h2:∀ k,k<m'->rsz (b k) N) (hi:i<m) (hS:∀ p,rsz (S p) K) :
  ∀ j,j<=m'->∀ p,rsz (inP a b i S j p) (K+(N+N)+1):=by
 intro j
 induction j with
 | zero=>exact fun _ p=>(hS p).mono (by omega)
 | succ j ih =>
  intro hj p
  show rsz (updR _ _ _ p) _
  unfold updR
  split
  ·rw [inP_ge (by omega)]
   exact rsz_add (hS _) (rsz_mul (h1 i hi) (h2 j (by omega)))
  ·exact ih (by omega) p
theorem rsz_outP {a b:Nat->Rat} {N m m':Nat} (h1:∀ k,k<m->rsz (a k) N) (h2:∀ k,k<m'->rsz (b k) N) :
  ∀ i,i<=m->∀ p,rsz (outP a b m' i p) (1+i*(N+N+1)):=by
 intro i
 induction i with
 | zero=>exact fun _ p=>by show rsz (0:Rat) (1+0*(N+N+1)); rw [Nat.zero_mul]; exact rsz_zero
 | succ i ih =>
  intro hi p
  have:=rsz_inP h1 h2 (i:=i) (by omega) (ih (by omega)) m' (Nat.le_refl _) p
  rw [Nat.add_mul,Nat.one_mul]
  exact this.mono (by omega)
def mulP (a:Nat->Rat) (m:Nat) (b:Nat->Rat) (m':Nat):Nat->Rat:=outP a b m' m
theorem RowOk.put' {w:World} {g M k:Nat} {rs rs':Nat->Rat} (h:RowOk w g M k rs) (e:rs=rs'):RowOk w g M k rs':=e ▸ h
theorem chPMul_any (T T':Option Addr) (m c m' c' N K:Nat) (a b:Nat->Rat) (w:World) (h:RatTab w w.heap.size T m a N) (h':RatTab w w.heap.size T' m' b N) (hm:m<=524288) (hm':m'<=524288) (hK:m*(N+N+1)<=K) (hKN:K+N+N+5<=33554432) (hra:Hid (∀ k,k<m->rsz (a k) N)) (hrb:Hid (∀ k,k<m'->rsz (b k) N)) :
  Calls Tryz.prog 71 #[.slice T m c,.slice T' m' c'] w (PolyPost (clen (mulP a m b m') (m+m')) (mulP a m b m') w):=by
 obtain ⟨NN,hNN⟩:∃ n,n=K+N+N+5:=⟨_,rfl⟩
 have hn1:NN<=33554432:=by omega
 have hn2:K+N+N+5<=NN:=by omega
 clear hNN
 replace h:=h.mono (show N<=NN by omega)
 replace h':=h'.mono (show N<=NN by omega)
 have hSO:Hid (∀ i,i<=m->∀ p,rsz (outP a b m' i p) (K+1)):=fun i hi p=>(rsz_outP hra.out hrb.out i hi p).mono (by have:i*(N+N+1)<=m*(N+N+1):=Nat.mul_le_mul_right _ hi; omega)
 have hSI:Hid (∀ i,i<m->∀ j,j<=m'->∀ p,rsz (inP a b i (outP a b m' i) j p) (K+1+(N+N)+1)):=fun i hi j hj p=>rsz_inP hra.out hrb.out hi (hSO.out i (by omega)) j hj p
 have hwr1:IntKind.i64.wrap ((m:Int)+(m':Int))=((m+m':Nat):Int):=by rw [IntWalk.i64_in _ (by omega)]; omega
 have hwr2:(m:Int)+(m':Int)=((m+m':Nat):Int):=by omega
 obtain ⟨M,hM⟩:∃ M,M=m+m':=⟨_,rfl⟩
 rw [<-hM] at hwr1 hwr2 ⊢
 have hMle:M<=1048576:=by omega
 have hM1:m+m'<=M:=by omega
 have HM:=hid hM
 clear hM
 have hmk:=fun W=>run_makeRat M hMle W
 have kb1:=below_one w (.cells (madeCells #[.bool false,.slice none 0 0,.slice none 0 0] (M*3)) 31)
 have row:=rowOk_made w M (fun _=>0)
 have hB:=kb1
 clear kb1
 have hm0:(0:Int)<=(m:Int):=by omega
 have hm0':(0:Int)<=(m':Int):=by omega
 go_enter Tryz.func71, Tryz.ntmps71
 go_wp2
 obtain ⟨w1,hw1⟩:∃ W,W=w.alloc (.cells (madeCells #[.bool false,.slice none 0 0,.slice none 0 0] (M*3)) 31):=⟨_,rfl⟩
 obtain ⟨g,hg⟩:∃ g,g=w.heap.size:=⟨_,rfl⟩
 rw [<-hw1,<-hg]
 rw [<-hw1] at hB row
 rw [<-hg] at row
 have hgB:w.heap.size<=g:=by omega
 clear hw1 hg hmk hwr2 hwr1
 go_loopg [19] M (fun gg iv wx=>∃ j:Nat,iv=.int .i64 (j:Nat)/\j<=M/\M<=j+gg/\RowOk wx g M j (fun _=>0)/\Below w.heap.size w wx)
 case atStart=>exact ⟨0,rfl,by omega,by omega,row,hB⟩
 case round =>
  clear row hB
  obtain ⟨j,rfl,hj,hjg,row,hB⟩:=hrel
  have hj0:(0:Int)<=(j:Int):=by omega
  by_cases hlt:j<M
  ·have hlt':(j:Int)<(M:Int):=by omega
   obtain ⟨w0,hw0⟩:∃ W,W=wr:=⟨_,rfl⟩
   rw [<-hw0] at row hB ⊢
   clear hw0
   obtain ⟨S,hSe⟩:∃ S:Nat->Rat,S=fun _=>0:=⟨_,rfl⟩
   rw [<-hSe] at row
   have HSE:=hid hSe
   clear hSe
   go_wp2_with fail
   refine (chZero_any _).mono ?_
   rintro e w1 ⟨Ap,cp,Bp,dp,rfl,mp1,mp2,mp3,mp4,mp5,mp6,kb⟩
   replace row:=row.on kb
   replace hB:=onS hB kb
   clear kb
   obtain ⟨q0,hq0⟩:∃ q:Rat,q=(0:Rat):=⟨_,rfl⟩
   rw [<-hq0] at mp1 mp2 mp3 mp5 ⊢
   replace hq0:q0=0:=hq0.trans (by rfl)
   have HQ0:=hid hq0
   have HSZq0:rsz q0 1:=by rw [hq0]; exact rsz_zero
   clear hq0
   obtain ⟨o0,o1,o2,y0,y1,y2⟩:=row.old (j) (by omega)
   have z0:=row.froz (j*3)
   have z1:=row.froz (j*3+1)
   have z2:=row.froz (j*3+2)
   have hsz:=hB.size
   go_upto_region 6 with fail
   generalize hw3:World.setCell _ _ _=w2
   have hst:RowPut w1 g M (j) (j) (S) q0 w2:=by rw [<-hw3]; exact rowPut row (by omega) (by omega) mp1 mp2 mp3 mp4 mp5 mp6
   clear hw3 mp1 mp2 mp3 mp4 mp5 mp6
   replace row:=hst.row
   replace hB:=hst.below hB hgB hsz
   clear hst
   rw [show max j (j+1)=j+1 by omega] at row
   clear y0 y1 y2 z0 z1 z2 hsz
   replace row:=row.whole (show q0=S j by rw [HSE.out,HQ0.out])
   rw [HSE.out] at row
   clear HSE HSZq0 HQ0
   go_wp2
   go_roundg (gk - 1)
   case measure=>omega
   case rel=>exact ⟨j+1,by go_num,by omega,by omega,row,hB⟩
  ·obtain rfl:j=M:=by omega
   have hlt':¬ (j:Int)<(j:Int):=by omega
   replace row:=row.put' (show (fun _=>(0:Rat))=outP a b m' 0 from rfl)
   go_wp2
   obtain ⟨w0,hw0⟩:∃ W,W=wr:=⟨_,rfl⟩
   rw [<-hw0] at row hB ⊢
   clear hw0 hlt hlt'
   obtain ⟨gK,rfl⟩:∃ gK:Nat,gK=gk:=⟨_,rfl⟩
   go_loopg [29] m (fun gg iv wx=>∃ i:Nat,iv=.int .i64 (i:Nat)/\i<=m/\m<=i+gg/\RowOk wx g j j (outP a b m' i)/\Below w.heap.size w wx)
   case atStart=>exact ⟨0,rfl,by omega,by omega,row,hB⟩
   case round =>
    clear row hB
    obtain ⟨i,rfl,hi,hig,row,hB⟩:=hrel
    have hi0:(0:Int)<=(i:Int):=by omega
    by_cases hlt:i<m
    ·have hlt':(i:Int)<(m:Int):=by omega
     obtain ⟨bx,ox,s5,A5,n5,c5,A6,n6,c6,rfl,hbx,t0,t1,t2,hrx⟩:=h i hlt
     have hrsx:=hra.out i hlt
     have u0:=cellS hB t0
     have u1:=cellS hB t1
     have u2:=cellS hB t2
     have hBo:=hB.size
     have hrl:=row.lt
     have kb:=below_one wr (.cells #[.bool s5,.slice A5 n5 c5,.slice A6 n6 c6] 31)
     have rx:=box_row (w:=wr) (a:=.bool s5) (b:=.slice A5 n5 c5) (c:=.slice A6 n6 c6) (T := 31)
     replace row:=row.on kb
     replace hB:=onS hB kb
     clear kb
     go_wp2
     obtain ⟨w2,hw2⟩:∃ W,W=wr.alloc (.cells #[.bool s5,.slice A5 n5 c5,.slice A6 n6 c6] 31):=⟨_,rfl⟩
     obtain ⟨gx,hgx⟩:∃ g,g=wr.heap.size:=⟨_,rfl⟩
     rw [<-hw2,<-hgx]
     rw [<-hw2] at row rx hB
     rw [<-hgx] at rx hrl
     clear hw2 hgx u0 u1 u2 hBo
     obtain ⟨gI,rfl⟩:∃ gK:Nat,gK=gk:=⟨_,rfl⟩
     replace row:=row.put' (show outP a b m' i=inP a b i (outP a b m' i) 0 from rfl)
     go_loopg [36] m' (fun gg jv wx=>∃ k:Nat,jv=.int .i64 (k:Nat)/\k<=m'/\m'<=k+gg/\RowOk wx g j j (inP a b i (outP a b m' i) k)/\wx.rowIs gx 31 3 (ratCell (.bool (s5)) (.slice (A5) (n5) (c5)) (.slice (A6) (n6) (c6)))/\Below w.heap.size w wx)
     case atStart=>exact ⟨0,rfl,by omega,by omega,row,rx,hB⟩
     case round =>
      clear row hB rx
      obtain ⟨k,rfl,hk,hkg,row,rx,hB⟩:=hrel
      have hk0:(0:Int)<=(k:Int):=by omega
      by_cases hlk:k<m'
      ·have hlk':(k:Int)<(m':Int):=by omega
       obtain ⟨by_,oy,s7,A7,n7,c7,A8,n8,c8,rfl,hby,v0,v1,v2,hry⟩:=h' k hlk
       have hrsy:=hrb.out k hlk
       have hik:(i:Int)+(k:Int)=((i+k:Nat):Int):=by omega
       have hikw:IntKind.i64.wrap ((i:Int)+(k:Int))=((i+k:Nat):Int):=by rw [IntWalk.i64_in _ (by omega)]; omega
       have hikl:i+k<j:=by omega
       have hikw2:IntKind.i64.wrap ((i+k:Nat):Int)=((i+k:Nat):Int):=by rw [IntWalk.i64_in _ (by omega)]
       have hikl':((i+k:Nat):Int)<(j:Int):=by omega
       have hik0:(0:Int)<=((i+k:Nat):Int):=by omega
       have hikt:((i+k:Nat):Int).toNat=i+k:=by omega
       have u0:=cellS hB v0
       have u1:=cellS hB v1
       have u2:=cellS hB v2
       have hBo:=hB.size
       have hrl2:=row.lt
       have kb:=below_one wr (.cells #[.bool s7,.slice A7 n7 c7,.slice A8 n8 c8] 31)
       have ry:=box_row (w:=wr) (a:=.bool s7) (b:=.slice A7 n7 c7) (c:=.slice A8 n8 c8) (T := 31)
       replace row:=row.on kb
       replace rx:=rowIs_on rx kb
       replace hB:=onS hB kb
       clear kb
       go_upto_region 13 with fail
       obtain ⟨w2,hw2⟩:∃ W,W=wr.alloc (.cells #[.bool s7,.slice A7 n7 c7,.slice A8 n8 c8] 31):=⟨_,rfl⟩
       obtain ⟨gy,hgy⟩:∃ g,g=wr.heap.size:=⟨_,rfl⟩
       rw [<-hw2,<-hgy]
       rw [<-hw2] at row rx ry hB
       rw [<-hgy] at ry hrl2
       clear hw2 hgy u0 u1 u2 hBo
       have hx:=hrx.on hB
       have hy:=hry.on hB
       obtain ⟨S,hSe⟩:∃ S,S=inP a b i (outP a b m' i) k:=⟨_,rfl⟩
       have hnxt:inP a b i (outP a b m' i) (k+1)=updR S (i+k) (S (i+k)+a i*b k):=by rw [hSe]; rfl
       have hsz1:=hSI.out i hlt k (by omega) (i+k)
       have hsz2:rsz (S (i+k)+a i*b k) (K+1+(N+N)+1):=by have:=hSI.out i hlt (k+1) hlk (i+k); rw [hnxt] at this; simpa [updR] using this
       rw [<-hSe] at row hsz1
       clear hSe
       obtain ⟨P,hP⟩:∃ P,P=i+k:=⟨_,rfl⟩
       rw [<-hP] at hik hikw hikw2 hikl hikl' hik0 hikt hnxt hsz1 hsz2
       obtain ⟨x,hxe⟩:∃ x,x=a i:=⟨_,rfl⟩
       obtain ⟨y,hye⟩:∃ y,y=b k:=⟨_,rfl⟩
       rw [<-hxe,<-hye] at hnxt hsz2
       rw [<-hxe] at hx hrsx
       rw [<-hye] at hy hrsy
       have hsxy:=rsz_mul hrsx hrsy
       obtain ⟨q0,hq0⟩:∃ q,q=S P:=⟨_,rfl⟩
       rw [<-hq0] at hnxt hsz1 hsz2
       have HQ0:=hid hq0
       have HNX:=hid hnxt
       clear hq0 hnxt hxe hye hP
       have HS:Hid (∀ w':World,w'.rowIs gx 31 3 (ratCell (.bool (s5)) (.slice (A5) (n5) (c5)) (.slice (A6) (n6) (c6)))->w'.rowIs gy 31 3 (ratCell (.bool (s7)) (.slice (A7) (n7) (c7)) (.slice (A8) (n8) (c8)))->w'.cell? ⟨gx,0,none⟩=some (.bool (s5))/\w'.cell? ⟨gx,1,none⟩=some (.slice (A5) (n5) (c5))/\w'.cell? ⟨gx,2,none⟩=some (.slice (A6) (n6) (c6))/\w'.cell? ⟨gy,0,none⟩=some (.bool (s7))/\w'.cell? ⟨gy,1,none⟩=some (.slice (A7) (n7) (c7))/\w'.cell? ⟨gy,2,none⟩=some (.slice (A8) (n8) (c8))):=fun w' h1 h2=>⟨h1.cell (i:=0) (by omega),h1.cell (i:=1) (by omega),h1.cell (i:=2) (by omega),h2.cell (i:=0) (by omega),h2.cell (i:=1) (by omega),h2.cell (i:=2) (by omega)⟩
       refine wp_region_held_drew (S:=fun w'=>w'.cell? ⟨gx,0,none⟩=some (.bool (s5))/\w'.cell? ⟨gx,1,none⟩=some (.slice (A5) (n5) (c5))/\w'.cell? ⟨gx,2,none⟩=some (.slice (A6) (n6) (c6))/\w'.cell? ⟨gy,0,none⟩=some (.bool (s7))/\w'.cell? ⟨gy,1,none⟩=some (.slice (A7) (n7) (c7))/\w'.cell? ⟨gy,2,none⟩=some (.slice (A8) (n8) (c8))) (by kernel_rfl) (HS.out _ (show World.rowIs (World.drew _) _ _ _ _ from rx) (show World.rowIs (World.drew _) _ _ _ _ from ry)) (fun hHeld=>?_)
       obtain ⟨w3,hw⟩:∃ W,W=World.drew w2:=⟨_,rfl⟩
       have kb:Below w2.heap.size w2 w3:=by rw [hw]; exact (Below.refl _ _).drew
       rw [<-hw] at hHeld ⊢
       clear hw
       replace row:=row.on kb
       replace hB:=onS hB kb
       replace hx:=hx.on kb
       replace hy:=hy.on kb
       replace rx:=rowIs_on rx kb
       replace ry:=rowIs_on ry kb
       clear kb
       refine tkq 0 (h:=tkq 1 (h:=tkq 2 (h:=tkq 3 (h:=tkq 4 (h:=tkq 5 (h:=tkq 6 (h:=tkq 7 (h:=tkq 8 (h:=tkq 10 (h:=tkq 11 (h:=?_)))))))))))
       refine rdq2 9 12 (h:=fun K hK=>?_) (h2:=fun K hK=>?_)
       ·obtain ⟨Ao,co,Bo,do_,g0,g1,g2,mo1,mo2,mo3,mo4,mo5,mo6⟩:=row.get P (by omega)
        rw [<-HQ0.out] at g0 g1 g2 mo1 mo2 mo3 mo5
        go_simp
        clear g0 g1 g2
        refine bkq hK (HS.out _ rx ry) (h:=fun hHeld=>?_)
        clear hK K
        refine rdq 12 (h:=fun K hK=>?_)
        go_simp
        obtain ⟨w4,hw⟩:∃ W,W=World.alloc w3 (.cells #[.bool (s5),.slice (A5) (n5) (c5),.slice (A6) (n6) (c6),.bool (s7),.slice (A7) (n7) (c7),.slice (A8) (n8) (c8)] 31):=⟨_,rfl⟩
        have kb:Below w3.heap.size w3 w4:=by rw [hw]; exact below_one _ _
        have tbp:RatTab w4 w4.heap.size (some ⟨w3.heap.size,0,none⟩) 2 (pairR (x) (y)) NN:=RatTab.letter hw (ratTab_pair 31 hx hy)
        rw [<-hw]
        clear hw
        replace row:=row.on kb
        replace hB:=onS hB kb
        replace hx:=hx.on kb
        replace hy:=hy.on kb
        replace rx:=rowIs_on rx kb
        replace ry:=rowIs_on ry kb
        replace mo1:=mo1.on kb
        replace mo2:=mo2.on kb
        clear kb
        obtain ⟨gp,hg⟩:∃ g,g=w3.heap.size:=⟨_,rfl⟩
        rw [<-hg] at tbp ⊢
        clear hg
        refine bkq hK (HS.out _ rx ry) (h:=fun hHeld=>?_)
        clear hK K
        refine rdq 13 (h:=fun K hK=>?_)
        go_simp
        go_wp2_with fail
        refine (ratMul_tab tbp (by omega) (by omega) (hrsx.mono (by omega)) (hrsy.mono (by omega)) (hsxy.mono (by omega))).mono ?_
        rintro e w5 ⟨Am,cm,Bm,dm,rfl,mm1,mm2,mm3,mm4,mm5,mm6,kb⟩
        replace row:=row.on kb
        replace hB:=onS hB kb
        replace hx:=hx.on kb
        replace hy:=hy.on kb
        replace rx:=rowIs_on rx kb
        replace ry:=rowIs_on ry kb
        replace mo1:=mo1.on kb
        replace mo2:=mo2.on kb
        replace tbp:=tbp.on kb
        clear kb
        clear tbp
        obtain ⟨xy,hxy⟩:∃ p,p=x*y:=⟨_,rfl⟩
        rw [<-hxy] at mm1 mm2 mm3 mm5 hsxy hsz2 ⊢
        have HXY:=hid hxy
        clear hxy
        refine bkq hK (HS.out _ rx ry) (h:=fun hHeld=>?_)
        clear hK K
        refine rdq 14 (h:=fun K hK=>?_)
        go_simp
        obtain ⟨w6,hw⟩:∃ W,W=World.alloc w5 (.cells #[.bool (rneg (q0)),.slice (Ao) (dl (q0).num.natAbs) (co),.slice (Bo) (dl (q0).den) (do_),.bool (rneg (xy)),.slice (Am) (dl (xy).num.natAbs) (cm),.slice (Bm) (dl (xy).den) (dm)] 31):=⟨_,rfl⟩
        have kb:Below w5.heap.size w5 w6:=by rw [hw]; exact below_one _ _
        have tbq:RatTab w6 w6.heap.size (some ⟨w5.heap.size,0,none⟩) 2 (pairR (q0) (xy)) NN:=RatTab.letter hw (ratTab_pair 31 (RatOk.raw ⟨Ao,co,Bo,do_,rfl,mo1,mo2,mo3,mo4,mo5,mo6⟩ (hsz1.mono (by omega))) (RatOk.raw ⟨Am,cm,Bm,dm,rfl,mm1,mm2,mm3,mm4,mm5,mm6⟩ (hsxy.mono (by omega))))
        rw [<-hw]
        clear hw
        replace row:=row.on kb
        replace hB:=onS hB kb
        replace hx:=hx.on kb
        replace hy:=hy.on kb
        replace rx:=rowIs_on rx kb
        replace ry:=rowIs_on ry kb
        replace mo1:=mo1.on kb
        replace mo2:=mo2.on kb
        replace mm1:=mm1.on kb
        replace mm2:=mm2.on kb
        clear kb
        obtain ⟨gq,hg⟩:∃ g,g=w5.heap.size:=⟨_,rfl⟩
        rw [<-hg] at tbq ⊢
        clear hg
        refine bkq hK (HS.out _ rx ry) (h:=fun hHeld=>?_)
        clear hK K
        refine rdq 15 (h:=fun K hK=>?_)
        go_simp
        go_wp2_with fail
        refine (ratAdd_tab tbq (by omega) (by omega) (hsz1.mono (by omega)) (hsxy.mono (by omega)) (hsz2.mono (by omega))).mono ?_
        rintro e w7 ⟨Ap,cp,Bp,dp,rfl,mp1,mp2,mp3,mp4,mp5,mp6,kb⟩
        replace row:=row.on kb
        replace hB:=onS hB kb
        replace hx:=hx.on kb
        replace hy:=hy.on kb
        replace rx:=rowIs_on rx kb
        replace ry:=rowIs_on ry kb
        replace mo1:=mo1.on kb
        replace mo2:=mo2.on kb
        replace mm1:=mm1.on kb
        replace mm2:=mm2.on kb
        replace tbq:=tbq.on kb
        clear kb
        clear tbq
        obtain ⟨q1,hq1⟩:∃ z,z=q0+xy:=⟨_,rfl⟩
        rw [<-hq1] at mp1 mp2 mp3 mp5 hsz2 ⊢
        have HQ1:=hid hq1
        clear hq1
        clear mo1 mo2 mo3 mo4 mo5 mo6 mm1 mm2 mm3 mm4 mm5 mm6
        refine bkq hK (HS.out _ rx ry) (h:=fun hHeld=>?_)
        clear hK K
        refine tkq 16 (h:=?_)
        obtain ⟨o0,o1,o2,y0,y1,y2⟩:=row.old (P) (by omega)
        have z0:=row.froz (P*3)
        have z1:=row.froz (P*3+1)
        have z2:=row.froz (P*3+2)
        have hsz:=hB.size
        refine rdq 17 (h:=fun K hK=>?_)
        go_simp
        generalize hw3:World.setCell _ _ _=w8
        have hst:RowPut w7 g j j P S q1 w8:=by rw [<-hw3]; exact rowPut row (by omega) (by omega) mp1 mp2 mp3 mp4 mp5 mp6
        clear hw3 mp1 mp2 mp3 mp4 mp5 mp6 hx hy
        replace row:=hst.row
        rw [show max j (P+1)=j by omega] at row
        replace hB:=hst.below hB hgB hsz
        replace rx:=rowIs_grown rx hst.grown (by omega)
        replace ry:=rowIs_grown ry hst.grown (by omega)
        clear hst
        refine bkq hK (HS.out _ rx ry) (h:=fun hHeld=>?_)
        clear hK K
        refine wpAnyH_done (by kernel_rfl) ?_ _
        clear hHeld
        replace row:=row.put' (show updR S P q1=inP a b i (outP a b m' i) (k+1) by rw [HNX.out,HQ1.out,HXY.out])
        clear y0 y1 y2 z0 z1 z2 hsz HS HNX HQ1 HXY HQ0 hsz1 hsz2 hsxy ry hikw hikw2 hik hikt
        go_wp2
        go_roundg (gk - 1)
        case measure=>omega
        case rel=>exact ⟨k+1,by go_num,by omega,by omega,row,rx,hB⟩
       ·go_simp
        obtain ⟨w4,hw⟩:∃ W,W=World.alloc w3 (.cells #[.bool (s5),.slice (A5) (n5) (c5),.slice (A6) (n6) (c6),.bool (s7),.slice (A7) (n7) (c7),.slice (A8) (n8) (c8)] 31):=⟨_,rfl⟩
        have kb:Below w3.heap.size w3 w4:=by rw [hw]; exact below_one _ _
        have tbp:RatTab w4 w4.heap.size (some ⟨w3.heap.size,0,none⟩) 2 (pairR (x) (y)) NN:=RatTab.letter hw (ratTab_pair 31 hx hy)
        rw [<-hw]
        clear hw
        replace row:=row.on kb
        replace hB:=onS hB kb
        replace hx:=hx.on kb
        replace hy:=hy.on kb
        replace rx:=rowIs_on rx kb
        replace ry:=rowIs_on ry kb
        clear kb
        obtain ⟨gp,hg⟩:∃ g,g=w3.heap.size:=⟨_,rfl⟩
        rw [<-hg] at tbp ⊢
        clear hg
        refine bkq hK (HS.out _ rx ry) (h:=fun hHeld=>?_)
        clear hK K
        refine rdq2 9 13 (h:=fun K hK=>?_) (h2:=fun K hK=>?_)
        ·obtain ⟨Ao,co,Bo,do_,g0,g1,g2,mo1,mo2,mo3,mo4,mo5,mo6⟩:=row.get P (by omega)
         rw [<-HQ0.out] at g0 g1 g2 mo1 mo2 mo3 mo5
         go_simp
         clear g0 g1 g2
         refine bkq hK (HS.out _ rx ry) (h:=fun hHeld=>?_)
         clear hK K
         refine rdq 13 (h:=fun K hK=>?_)
         go_simp
         go_wp2_with fail
         refine (ratMul_tab tbp (by omega) (by omega) (hrsx.mono (by omega)) (hrsy.mono (by omega)) (hsxy.mono (by omega))).mono ?_
         rintro e w5 ⟨Am,cm,Bm,dm,rfl,mm1,mm2,mm3,mm4,mm5,mm6,kb⟩
         replace row:=row.on kb
         replace hB:=onS hB kb
         replace hx:=hx.on kb
         replace hy:=hy.on kb
         replace rx:=rowIs_on rx kb
         replace ry:=rowIs_on ry kb
         replace tbp:=tbp.on kb
         replace mo1:=mo1.on kb
         replace mo2:=mo2.on kb
         clear kb
         clear tbp
         obtain ⟨xy,hxy⟩:∃ p,p=x*y:=⟨_,rfl⟩
         rw [<-hxy] at mm1 mm2 mm3 mm5 hsxy hsz2 ⊢
         have HXY:=hid hxy
         clear hxy
         refine bkq hK (HS.out _ rx ry) (h:=fun hHeld=>?_)
         clear hK K
         refine rdq 14 (h:=fun K hK=>?_)
         go_simp
         obtain ⟨w6,hw⟩:∃ W,W=World.alloc w5 (.cells #[.bool (rneg (q0)),.slice (Ao) (dl (q0).num.natAbs) (co),.slice (Bo) (dl (q0).den) (do_),.bool (rneg (xy)),.slice (Am) (dl (xy).num.natAbs) (cm),.slice (Bm) (dl (xy).den) (dm)] 31):=⟨_,rfl⟩
         have kb:Below w5.heap.size w5 w6:=by rw [hw]; exact below_one _ _
         have tbq:RatTab w6 w6.heap.size (some ⟨w5.heap.size,0,none⟩) 2 (pairR (q0) (xy)) NN:=RatTab.letter hw (ratTab_pair 31 (RatOk.raw ⟨Ao,co,Bo,do_,rfl,mo1,mo2,mo3,mo4,mo5,mo6⟩ (hsz1.mono (by omega))) (RatOk.raw ⟨Am,cm,Bm,dm,rfl,mm1,mm2,mm3,mm4,mm5,mm6⟩ (hsxy.mono (by omega))))
         rw [<-hw]
         clear hw
         replace row:=row.on kb
         replace hB:=onS hB kb
         replace hx:=hx.on kb
         replace hy:=hy.on kb
         replace rx:=rowIs_on rx kb
         replace ry:=rowIs_on ry kb
         replace mo1:=mo1.on kb
         replace mo2:=mo2.on kb
         replace mm1:=mm1.on kb
         replace mm2:=mm2.on kb
         clear kb
         obtain ⟨gq,hg⟩:∃ g,g=w5.heap.size:=⟨_,rfl⟩
         rw [<-hg] at tbq ⊢
         clear hg
         refine bkq hK (HS.out _ rx ry) (h:=fun hHeld=>?_)
         clear hK K
         refine rdq 15 (h:=fun K hK=>?_)
         go_simp
         go_wp2_with fail
         refine (ratAdd_tab tbq (by omega) (by omega) (hsz1.mono (by omega)) (hsxy.mono (by omega)) (hsz2.mono (by omega))).mono ?_
         rintro e w7 ⟨Ap,cp,Bp,dp,rfl,mp1,mp2,mp3,mp4,mp5,mp6,kb⟩
         replace row:=row.on kb
         replace hB:=onS hB kb
         replace hx:=hx.on kb
         replace hy:=hy.on kb
         replace rx:=rowIs_on rx kb
         replace ry:=rowIs_on ry kb
         replace mo1:=mo1.on kb
         replace mo2:=mo2.on kb
         replace mm1:=mm1.on kb
         replace mm2:=mm2.on kb
         replace tbq:=tbq.on kb
         clear kb
         clear tbq
         obtain ⟨q1,hq1⟩:∃ z,z=q0+xy:=⟨_,rfl⟩
         rw [<-hq1] at mp1 mp2 mp3 mp5 hsz2 ⊢
         have HQ1:=hid hq1
         clear hq1
         clear mo1 mo2 mo3 mo4 mo5 mo6 mm1 mm2 mm3 mm4 mm5 mm6
         refine bkq hK (HS.out _ rx ry) (h:=fun hHeld=>?_)
         clear hK K
         refine tkq 16 (h:=?_)
         obtain ⟨o0,o1,o2,y0,y1,y2⟩:=row.old (P) (by omega)
         have z0:=row.froz (P*3)
         have z1:=row.froz (P*3+1)
         have z2:=row.froz (P*3+2)
         have hsz:=hB.size
         refine rdq 17 (h:=fun K hK=>?_)
         go_simp
         generalize hw3:World.setCell _ _ _=w8
         have hst:RowPut w7 g j j P S q1 w8:=by rw [<-hw3]; exact rowPut row (by omega) (by omega) mp1 mp2 mp3 mp4 mp5 mp6
         clear hw3 mp1 mp2 mp3 mp4 mp5 mp6 hx hy
         replace row:=hst.row
         rw [show max j (P+1)=j by omega] at row
         replace hB:=hst.below hB hgB hsz
         replace rx:=rowIs_grown rx hst.grown (by omega)
         replace ry:=rowIs_grown ry hst.grown (by omega)
         clear hst
         refine bkq hK (HS.out _ rx ry) (h:=fun hHeld=>?_)
         clear hK K
         refine wpAnyH_done (by kernel_rfl) ?_ _
         clear hHeld
         replace row:=row.put' (show updR S P q1=inP a b i (outP a b m' i) (k+1) by rw [HNX.out,HQ1.out,HXY.out])
         clear y0 y1 y2 z0 z1 z2 hsz HS HNX HQ1 HXY HQ0 hsz1 hsz2 hsxy ry hikw hikw2 hik hikt
         go_wp2
         go_roundg (gk - 1)
         case measure=>omega
         case rel=>exact ⟨k+1,by go_num,by omega,by omega,row,rx,hB⟩
        ·go_simp
         go_wp2_with fail
         refine (ratMul_tab tbp (by omega) (by omega) (hrsx.mono (by omega)) (hrsy.mono (by omega)) (hsxy.mono (by omega))).mono ?_
         rintro e w5 ⟨Am,cm,Bm,dm,rfl,mm1,mm2,mm3,mm4,mm5,mm6,kb⟩
         replace row:=row.on kb
         replace hB:=onS hB kb
         replace hx:=hx.on kb
         replace hy:=hy.on kb
         replace rx:=rowIs_on rx kb
         replace ry:=rowIs_on ry kb
         replace tbp:=tbp.on kb
         clear kb
         clear tbp
         obtain ⟨xy,hxy⟩:∃ p,p=x*y:=⟨_,rfl⟩
         rw [<-hxy] at mm1 mm2 mm3 mm5 hsxy hsz2 ⊢
         have HXY:=hid hxy
         clear hxy
         refine bkq hK (HS.out _ rx ry) (h:=fun hHeld=>?_)
         clear hK K
         refine rdq 9 (h:=fun K hK=>?_)
         obtain ⟨Ao,co,Bo,do_,g0,g1,g2,mo1,mo2,mo3,mo4,mo5,mo6⟩:=row.get P (by omega)
         rw [<-HQ0.out] at g0 g1 g2 mo1 mo2 mo3 mo5
         go_simp
         clear g0 g1 g2
         refine bkq hK (HS.out _ rx ry) (h:=fun hHeld=>?_)
         clear hK K
         refine rdq 14 (h:=fun K hK=>?_)
         go_simp
         obtain ⟨w6,hw⟩:∃ W,W=World.alloc w5 (.cells #[.bool (rneg (q0)),.slice (Ao) (dl (q0).num.natAbs) (co),.slice (Bo) (dl (q0).den) (do_),.bool (rneg (xy)),.slice (Am) (dl (xy).num.natAbs) (cm),.slice (Bm) (dl (xy).den) (dm)] 31):=⟨_,rfl⟩
         have kb:Below w5.heap.size w5 w6:=by rw [hw]; exact below_one _ _
         have tbq:RatTab w6 w6.heap.size (some ⟨w5.heap.size,0,none⟩) 2 (pairR (q0) (xy)) NN:=RatTab.letter hw (ratTab_pair 31 (RatOk.raw ⟨Ao,co,Bo,do_,rfl,mo1,mo2,mo3,mo4,mo5,mo6⟩ (hsz1.mono (by omega))) (RatOk.raw ⟨Am,cm,Bm,dm,rfl,mm1,mm2,mm3,mm4,mm5,mm6⟩ (hsxy.mono (by omega))))
         rw [<-hw]
         clear hw
         replace row:=row.on kb
         replace hB:=onS hB kb
         replace hx:=hx.on kb
         replace hy:=hy.on kb
         replace rx:=rowIs_on rx kb
         replace ry:=rowIs_on ry kb
         replace mm1:=mm1.on kb
         replace mm2:=mm2.on kb
         replace mo1:=mo1.on kb
         replace mo2:=mo2.on kb
         clear kb
         obtain ⟨gq,hg⟩:∃ g,g=w5.heap.size:=⟨_,rfl⟩
         rw [<-hg] at tbq ⊢
         clear hg
         refine bkq hK (HS.out _ rx ry) (h:=fun hHeld=>?_)
         clear hK K
         refine rdq 15 (h:=fun K hK=>?_)
         go_simp
         go_wp2_with fail
         refine (ratAdd_tab tbq (by omega) (by omega) (hsz1.mono (by omega)) (hsxy.mono (by omega)) (hsz2.mono (by omega))).mono ?_
         rintro e w7 ⟨Ap,cp,Bp,dp,rfl,mp1,mp2,mp3,mp4,mp5,mp6,kb⟩
         replace row:=row.on kb
         replace hB:=onS hB kb
         replace hx:=hx.on kb
         replace hy:=hy.on kb
         replace rx:=rowIs_on rx kb
         replace ry:=rowIs_on ry kb
         replace mm1:=mm1.on kb
         replace mm2:=mm2.on kb
         replace mo1:=mo1.on kb
         replace mo2:=mo2.on kb
         replace tbq:=tbq.on kb
         clear kb
         clear tbq
         obtain ⟨q1,hq1⟩:∃ z,z=q0+xy:=⟨_,rfl⟩
         rw [<-hq1] at mp1 mp2 mp3 mp5 hsz2 ⊢
         have HQ1:=hid hq1
         clear hq1
         clear mo1 mo2 mo3 mo4 mo5 mo6 mm1 mm2 mm3 mm4 mm5 mm6
         refine bkq hK (HS.out _ rx ry) (h:=fun hHeld=>?_)
         clear hK K
         refine tkq 16 (h:=?_)
         obtain ⟨o0,o1,o2,y0,y1,y2⟩:=row.old (P) (by omega)
         have z0:=row.froz (P*3)
         have z1:=row.froz (P*3+1)
         have z2:=row.froz (P*3+2)
         have hsz:=hB.size
         refine rdq 17 (h:=fun K hK=>?_)
         go_simp
         generalize hw3:World.setCell _ _ _=w8
         have hst:RowPut w7 g j j P S q1 w8:=by rw [<-hw3]; exact rowPut row (by omega) (by omega) mp1 mp2 mp3 mp4 mp5 mp6
         clear hw3 mp1 mp2 mp3 mp4 mp5 mp6 hx hy
         replace row:=hst.row
         rw [show max j (P+1)=j by omega] at row
         replace hB:=hst.below hB hgB hsz
         replace rx:=rowIs_grown rx hst.grown (by omega)
         replace ry:=rowIs_grown ry hst.grown (by omega)
         clear hst
         refine bkq hK (HS.out _ rx ry) (h:=fun hHeld=>?_)
         clear hK K
         refine wpAnyH_done (by kernel_rfl) ?_ _
         clear hHeld
         replace row:=row.put' (show updR S P q1=inP a b i (outP a b m' i) (k+1) by rw [HNX.out,HQ1.out,HXY.out])
         clear y0 y1 y2 z0 z1 z2 hsz HS HNX HQ1 HXY HQ0 hsz1 hsz2 hsxy ry hikw hikw2 hik hikt
         go_wp2
         go_roundg (gk - 1)
         case measure=>omega
         case rel=>exact ⟨k+1,by go_num,by omega,by omega,row,rx,hB⟩
      ·obtain rfl:k=m':=by omega
       have hlk':¬ (k:Int)<(k:Int):=by omega
       replace row:=row.put' (show inP a b i (outP a b k i) k=outP a b k (i+1) from rfl)
       go_wp2
       go_roundg (gI - 1)
       case measure=>omega
       case rel=>exact ⟨i+1,by go_num,by omega,by omega,row,hB⟩
    ·obtain rfl:i=m:=by omega
     have hlt':¬ (i:Int)<(i:Int):=by omega
     have hl:=row.list.tab (fun p _=>hSO.out i (by omega) p)
     go_wp2_with fail
     refine (chCanon_any (some ⟨g,0,none⟩) j j (K+1) (outP a b m' i) _ hl (by omega) (by omega)).mono ?_
     rintro e w2 ⟨Ar,cr,rfl,e1,e2,e3,kb⟩
     replace hB:=onS hB kb
     clear kb hl row
     obtain ⟨cl,hcl⟩:∃ cl,cl=clen (outP a b m' i) j:=⟨_,rfl⟩
     rw [<-hcl] at e1 e3 ⊢
     have HCL:=hid hcl
     clear hcl
     go_wp2
     go_ret
     exact ⟨_,_,by rw [HCL.out]; rfl,by rw [HCL.out] at e1; exact e1,e2,by rw [HCL.out] at e3; exact e3,hB⟩
theorem refPMul_any (T T':Option Addr) (m c m' c' N K:Nat) (a b:Nat->Rat) (w:World) (h:RatTab w w.heap.size T m a N) (h':RatTab w w.heap.size T' m' b N) (hm:m<=524288) (hm':m'<=524288) (hK:m*(N+N+1)<=K) (hKN:K+N+N+5<=33554432) (hra:Hid (∀ k,k<m->rsz (a k) N)) (hrb:Hid (∀ k,k<m'->rsz (b k) N)) :
  Calls Tryz.prog 32 #[.slice T m c,.slice T' m' c'] w (PolyPost (clen (mulP a m b m') (m+m')) (mulP a m b m') w):=by
 obtain ⟨NN,hNN⟩:∃ n,n=K+N+N+5:=⟨_,rfl⟩
 have hn1:NN<=33554432:=by omega
 have hn2:K+N+N+5<=NN:=by omega
 clear hNN
 replace h:=h.mono (show N<=NN by omega)
 replace h':=h'.mono (show N<=NN by omega)
 have hSO:Hid (∀ i,i<=m->∀ p,rsz (outP a b m' i p) (K+1)):=fun i hi p=>(rsz_outP hra.out hrb.out i hi p).mono (by have:i*(N+N+1)<=m*(N+N+1):=Nat.mul_le_mul_right _ hi; omega)
 have hSI:Hid (∀ i,i<m->∀ j,j<=m'->∀ p,rsz (inP a b i (outP a b m' i) j p) (K+1+(N+N)+1)):=fun i hi j hj p=>rsz_inP hra.out hrb.out hi (hSO.out i (by omega)) j hj p
 have hwr1:IntKind.i64.wrap ((m:Int)+(m':Int))=((m+m':Nat):Int):=by rw [IntWalk.i64_in _ (by omega)]; omega
 have hwr2:(m:Int)+(m':Int)=((m+m':Nat):Int):=by omega
 obtain ⟨M,hM⟩:∃ M,M=m+m':=⟨_,rfl⟩
 rw [<-hM] at hwr1 hwr2 ⊢
 have hMle:M<=1048576:=by omega
 have hM1:m+m'<=M:=by omega
 have HM:=hid hM
 clear hM
 have hmk:=fun W=>run_makeRat M hMle W
 have kb1:=below_one w (.cells (madeCells #[.bool false,.slice none 0 0,.slice none 0 0] (M*3)) 31)
 have row:=rowOk_made w M (fun _=>0)
 have hB:=kb1
 clear kb1
 have hm0:(0:Int)<=(m:Int):=by omega
 have hm0':(0:Int)<=(m':Int):=by omega
 go_enter Tryz.func32, Tryz.ntmps32
 go_wp2
 obtain ⟨w1,hw1⟩:∃ W,W=w.alloc (.cells (madeCells #[.bool false,.slice none 0 0,.slice none 0 0] (M*3)) 31):=⟨_,rfl⟩
 obtain ⟨g,hg⟩:∃ g,g=w.heap.size:=⟨_,rfl⟩
 rw [<-hw1,<-hg]
 rw [<-hw1] at hB row
 rw [<-hg] at row
 have hgB:w.heap.size<=g:=by omega
 clear hw1 hg hmk hwr2 hwr1
 go_loopg [6] M (fun gg iv wx=>∃ j:Nat,iv=.int .i64 (j:Nat)/\j<=M/\M<=j+gg/\RowOk wx g M j (fun _=>0)/\Below w.heap.size w wx)
 case atStart=>exact ⟨0,rfl,by omega,by omega,row,hB⟩
 case round =>
  clear row hB
  obtain ⟨j,rfl,hj,hjg,row,hB⟩:=hrel
  have hj0:(0:Int)<=(j:Int):=by omega
  by_cases hlt:j<M
  ·have hlt':(j:Int)<(M:Int):=by omega
   obtain ⟨w0,hw0⟩:∃ W,W=wr:=⟨_,rfl⟩
   rw [<-hw0] at row hB ⊢
   clear hw0
   obtain ⟨S,hSe⟩:∃ S:Nat->Rat,S=fun _=>0:=⟨_,rfl⟩
   rw [<-hSe] at row
   have HSE:=hid hSe
   clear hSe
   go_wp2_with fail
   refine (refInt_any 0 _ (by omega) (by omega)).mono ?_
   rintro e w1 ⟨Ap,cp,Bp,dp,rfl,mp1,mp2,mp3,mp4,mp5,mp6,kb⟩
   replace row:=row.on kb
   replace hB:=onS hB kb
   clear kb
   obtain ⟨q0,hq0⟩:∃ q:Rat,q=((0:Int):Rat):=⟨_,rfl⟩
   rw [<-hq0] at mp1 mp2 mp3 mp5 ⊢
   replace hq0:q0=0:=hq0.trans (by rfl)
   have HQ0:=hid hq0
   have HSZq0:rsz q0 1:=by rw [hq0]; exact rsz_zero
   clear hq0
   obtain ⟨o0,o1,o2,y0,y1,y2⟩:=row.old (j) (by omega)
   have z0:=row.froz (j*3)
   have z1:=row.froz (j*3+1)
   have z2:=row.froz (j*3+2)
   have hsz:=hB.size
   go_upto_region 4 with fail
   generalize hw3:World.setCell _ _ _=w2
   have hst:RowPut w1 g M (j) (j) (S) q0 w2:=by rw [<-hw3]; exact rowPut row (by omega) (by omega) mp1 mp2 mp3 mp4 mp5 mp6
   clear hw3 mp1 mp2 mp3 mp4 mp5 mp6
   replace row:=hst.row
   replace hB:=hst.below hB hgB hsz
   clear hst
   rw [show max j (j+1)=j+1 by omega] at row
   clear y0 y1 y2 z0 z1 z2 hsz
   replace row:=row.whole (show q0=S j by rw [HSE.out,HQ0.out])
   rw [HSE.out] at row
   clear HSE HSZq0 HQ0
   go_wp2
   go_roundg (gk - 1)
   case measure=>omega
   case rel=>exact ⟨j+1,by go_num,by omega,by omega,row,hB⟩
  ·obtain rfl:j=M:=by omega
   have hlt':¬ (j:Int)<(j:Int):=by omega
   replace row:=row.put' (show (fun _=>(0:Rat))=outP a b m' 0 from rfl)
   go_wp2
   obtain ⟨w0,hw0⟩:∃ W,W=wr:=⟨_,rfl⟩
   rw [<-hw0] at row hB ⊢
   clear hw0 hlt hlt'
   obtain ⟨gK,rfl⟩:∃ gK:Nat,gK=gk:=⟨_,rfl⟩
   go_loopg [7] m (fun gg iv wx=>∃ i:Nat,iv=.int .i64 (i:Nat)/\i<=m/\m<=i+gg/\RowOk wx g j j (outP a b m' i)/\Below w.heap.size w wx)
   case atStart=>exact ⟨0,rfl,by omega,by omega,row,hB⟩
   case round =>
    clear row hB
    obtain ⟨i,rfl,hi,hig,row,hB⟩:=hrel
    have hi0:(0:Int)<=(i:Int):=by omega
    by_cases hlt:i<m
    ·have hlt':(i:Int)<(m:Int):=by omega
     obtain ⟨bx,ox,s5,A5,n5,c5,A6,n6,c6,rfl,hbx,t0,t1,t2,hrx⟩:=h i hlt
     have hrsx:=hra.out i hlt
     go_wp2
     obtain ⟨w2,hw2⟩:∃ W,W=wr:=⟨_,rfl⟩
     rw [<-hw2] at row hB ⊢
     clear hw2
     obtain ⟨gI,rfl⟩:∃ gK:Nat,gK=gk:=⟨_,rfl⟩
     replace row:=row.put' (show outP a b m' i=inP a b i (outP a b m' i) 0 from rfl)
     go_loopg [8] m' (fun gg jv wx=>∃ k:Nat,jv=.int .i64 (k:Nat)/\k<=m'/\m'<=k+gg/\RowOk wx g j j (inP a b i (outP a b m' i) k)/\Below w.heap.size w wx)
     case atStart=>exact ⟨0,rfl,by omega,by omega,row,hB⟩
     case round =>
      clear row hB
      obtain ⟨k,rfl,hk,hkg,row,hB⟩:=hrel
      have hk0:(0:Int)<=(k:Int):=by omega
      by_cases hlk:k<m'
      ·have hlk':(k:Int)<(m':Int):=by omega
       obtain ⟨by_,oy,s7,A7,n7,c7,A8,n8,c8,rfl,hby,v0,v1,v2,hry⟩:=h' k hlk
       have hrsy:=hrb.out k hlk
       have hik:(i:Int)+(k:Int)=((i+k:Nat):Int):=by omega
       have hikw:IntKind.i64.wrap ((i:Int)+(k:Int))=((i+k:Nat):Int):=by rw [IntWalk.i64_in _ (by omega)]; omega
       have hikl:i+k<j:=by omega
       have hikw2:IntKind.i64.wrap ((i+k:Nat):Int)=((i+k:Nat):Int):=by rw [IntWalk.i64_in _ (by omega)]
       have hikl':((i+k:Nat):Int)<(j:Int):=by omega
       have hik0:(0:Int)<=((i+k:Nat):Int):=by omega
       have hikt:((i+k:Nat):Int).toNat=i+k:=by omega
       go_upto_region 12 with fail
       obtain ⟨w2,hw2⟩:∃ W,W=wr:=⟨_,rfl⟩
       rw [<-hw2] at row hB ⊢
       clear hw2
       have hx:=hrx.on hB
       have hy:=hry.on hB
       obtain ⟨S,hSe⟩:∃ S,S=inP a b i (outP a b m' i) k:=⟨_,rfl⟩
       have hnxt:inP a b i (outP a b m' i) (k+1)=updR S (i+k) (S (i+k)+a i*b k):=by rw [hSe]; rfl
       have hsz1:=hSI.out i hlt k (by omega) (i+k)
       have hsz2:rsz (S (i+k)+a i*b k) (K+1+(N+N)+1):=by have:=hSI.out i hlt (k+1) hlk (i+k); rw [hnxt] at this; simpa [updR] using this
       rw [<-hSe] at row hsz1
       clear hSe
       obtain ⟨P,hP⟩:∃ P,P=i+k:=⟨_,rfl⟩
       rw [<-hP] at hik hikw hikw2 hikl hikl' hik0 hikt hnxt hsz1 hsz2
       obtain ⟨x,hxe⟩:∃ x,x=a i:=⟨_,rfl⟩
       obtain ⟨y,hye⟩:∃ y,y=b k:=⟨_,rfl⟩
       rw [<-hxe,<-hye] at hnxt hsz2
       rw [<-hxe] at hx hrsx
       rw [<-hye] at hy hrsy
       have hsxy:=rsz_mul hrsx hrsy
       obtain ⟨q0,hq0⟩:∃ q,q=S P:=⟨_,rfl⟩
       rw [<-hq0] at hnxt hsz1 hsz2
       have HQ0:=hid hq0
       have HNX:=hid hnxt
       clear hq0 hnxt hxe hye hP
       have HS:Hid (∀ w':World,Below w.heap.size w w'->w'.cell? ⟨bx,ox+i*3,none⟩=some (.bool (s5))/\w'.cell? ⟨bx,ox+i*3+1,none⟩=some (.slice (A5) (n5) (c5))/\w'.cell? ⟨bx,ox+i*3+2,none⟩=some (.slice (A6) (n6) (c6))/\w'.cell? ⟨by_,oy+k*3,none⟩=some (.bool (s7))/\w'.cell? ⟨by_,oy+k*3+1,none⟩=some (.slice (A7) (n7) (c7))/\w'.cell? ⟨by_,oy+k*3+2,none⟩=some (.slice (A8) (n8) (c8))):=fun w' kb=>⟨cellS kb t0,cellS kb t1,cellS kb t2,cellS kb v0,cellS kb v1,cellS kb v2⟩
       refine wp_region_held_drew (S:=fun w'=>w'.cell? ⟨bx,ox+i*3,none⟩=some (.bool (s5))/\w'.cell? ⟨bx,ox+i*3+1,none⟩=some (.slice (A5) (n5) (c5))/\w'.cell? ⟨bx,ox+i*3+2,none⟩=some (.slice (A6) (n6) (c6))/\w'.cell? ⟨by_,oy+k*3,none⟩=some (.bool (s7))/\w'.cell? ⟨by_,oy+k*3+1,none⟩=some (.slice (A7) (n7) (c7))/\w'.cell? ⟨by_,oy+k*3+2,none⟩=some (.slice (A8) (n8) (c8))) (by kernel_rfl) (HS.out _ hB.drew) (fun hHeld=>?_)
       obtain ⟨w3,hw⟩:∃ W,W=World.drew w2:=⟨_,rfl⟩
       have kb:Below w2.heap.size w2 w3:=by rw [hw]; exact (Below.refl _ _).drew
       rw [<-hw] at hHeld ⊢
       clear hw
       replace row:=row.on kb
       replace hB:=onS hB kb
       replace hx:=hx.on kb
       replace hy:=hy.on kb
       clear kb
       refine tkq 0 (h:=tkq 1 (h:=tkq 2 (h:=tkq 3 (h:=tkq 4 (h:=tkq 5 (h:=tkq 6 (h:=tkq 7 (h:=tkq 8 (h:=tkq 10 (h:=tkq 11 (h:=tkq 12 (h:=tkq 13 (h:=tkq 14 (h:=tkq 15 (h:=tkq 16 (h:=tkq 17 (h:=?_)))))))))))))))))
       refine rdq2 9 18 (h:=fun K hK=>?_) (h2:=fun K hK=>?_)
       ·obtain ⟨Ao,co,Bo,do_,g0,g1,g2,mo1,mo2,mo3,mo4,mo5,mo6⟩:=row.get P (by omega)
        rw [<-HQ0.out] at g0 g1 g2 mo1 mo2 mo3 mo5
        go_simp
        clear g0 g1 g2
        refine bkq hK (HS.out _ hB) (h:=fun hHeld=>?_)
        clear hK K
        refine rdq 18 (h:=fun K hK=>?_)
        go_simp
        go_wp2_with fail
        refine (refMul02_any _ _ x y NN _ hx hy (by omega) (hrsx.mono (by omega)) (hrsy.mono (by omega))).mono ?_
        rintro e w4 ⟨Am,cm,Bm,dm,rfl,mm1,mm2,mm3,mm4,mm5,mm6,kb⟩
        replace row:=row.on kb
        replace hB:=onS hB kb
        replace hx:=hx.on kb
        replace hy:=hy.on kb
        replace mo1:=mo1.on kb
        replace mo2:=mo2.on kb
        clear kb
        obtain ⟨xy,hxy⟩:∃ p,p=x*y:=⟨_,rfl⟩
        rw [<-hxy] at mm1 mm2 mm3 mm5 hsxy hsz2 ⊢
        have HXY:=hid hxy
        clear hxy
        refine bkq hK (HS.out _ hB) (h:=fun hHeld=>?_)
        clear hK K
        refine rdq 19 (h:=fun K hK=>?_)
        go_simp
        go_wp2_with fail
        refine (refAdd02_any _ _ q0 xy NN _ (RatOk.raw ⟨Ao,co,Bo,do_,rfl,mo1,mo2,mo3,mo4,mo5,mo6⟩ (hsz1.mono (by omega))) (RatOk.raw ⟨Am,cm,Bm,dm,rfl,mm1,mm2,mm3,mm4,mm5,mm6⟩ (hsxy.mono (by omega))) (by omega) (hsz1.mono (by omega)) (hsxy.mono (by omega))).mono ?_
        rintro e w5 ⟨Ap,cp,Bp,dp,rfl,mp1,mp2,mp3,mp4,mp5,mp6,kb⟩
        replace row:=row.on kb
        replace hB:=onS hB kb
        replace hx:=hx.on kb
        replace hy:=hy.on kb
        replace mo1:=mo1.on kb
        replace mo2:=mo2.on kb
        replace mm1:=mm1.on kb
        replace mm2:=mm2.on kb
        clear kb
        obtain ⟨q1,hq1⟩:∃ z,z=q0+xy:=⟨_,rfl⟩
        rw [<-hq1] at mp1 mp2 mp3 mp5 hsz2 ⊢
        have HQ1:=hid hq1
        clear hq1
        clear mo1 mo2 mo3 mo4 mo5 mo6 mm1 mm2 mm3 mm4 mm5 mm6
        refine bkq hK (HS.out _ hB) (h:=fun hHeld=>?_)
        clear hK K
        refine tkq 20 (h:=?_)
        obtain ⟨o0,o1,o2,y0,y1,y2⟩:=row.old (P) (by omega)
        have z0:=row.froz (P*3)
        have z1:=row.froz (P*3+1)
        have z2:=row.froz (P*3+2)
        have hsz:=hB.size
        refine rdq 21 (h:=fun K hK=>?_)
        go_simp
        generalize hw3:World.setCell _ _ _=w6
        have hst:RowPut w5 g j j P S q1 w6:=by rw [<-hw3]; exact rowPut row (by omega) (by omega) mp1 mp2 mp3 mp4 mp5 mp6
        clear hw3 mp1 mp2 mp3 mp4 mp5 mp6 hx hy
        replace row:=hst.row
        rw [show max j (P+1)=j by omega] at row
        replace hB:=hst.below hB hgB hsz
        clear hst
        refine bkq hK (HS.out _ hB) (h:=fun hHeld=>?_)
        clear hK K
        refine wpAnyH_done (by kernel_rfl) ?_ _
        clear hHeld
        replace row:=row.put' (show updR S P q1=inP a b i (outP a b m' i) (k+1) by rw [HNX.out,HQ1.out,HXY.out])
        clear y0 y1 y2 z0 z1 z2 hsz HS HNX HQ1 HXY HQ0 hsz1 hsz2 hsxy hikw hikw2 hik hikt
        go_wp2
        go_roundg (gk - 1)
        case measure=>omega
        case rel=>exact ⟨k+1,by go_num,by omega,by omega,row,hB⟩
       ·go_simp
        go_wp2_with fail
        refine (refMul02_any _ _ x y NN _ hx hy (by omega) (hrsx.mono (by omega)) (hrsy.mono (by omega))).mono ?_
        rintro e w4 ⟨Am,cm,Bm,dm,rfl,mm1,mm2,mm3,mm4,mm5,mm6,kb⟩
        replace row:=row.on kb
        replace hB:=onS hB kb
        replace hx:=hx.on kb
        replace hy:=hy.on kb
        clear kb
        obtain ⟨xy,hxy⟩:∃ p,p=x*y:=⟨_,rfl⟩
        rw [<-hxy] at mm1 mm2 mm3 mm5 hsxy hsz2 ⊢
        have HXY:=hid hxy
        clear hxy
        refine bkq hK (HS.out _ hB) (h:=fun hHeld=>?_)
        clear hK K
        refine rdq 9 (h:=fun K hK=>?_)
        obtain ⟨Ao,co,Bo,do_,g0,g1,g2,mo1,mo2,mo3,mo4,mo5,mo6⟩:=row.get P (by omega)
        rw [<-HQ0.out] at g0 g1 g2 mo1 mo2 mo3 mo5
        go_simp
        clear g0 g1 g2
        refine bkq hK (HS.out _ hB) (h:=fun hHeld=>?_)
        clear hK K
        refine rdq 19 (h:=fun K hK=>?_)
        go_simp
        go_wp2_with fail
        refine (refAdd02_any _ _ q0 xy NN _ (RatOk.raw ⟨Ao,co,Bo,do_,rfl,mo1,mo2,mo3,mo4,mo5,mo6⟩ (hsz1.mono (by omega))) (RatOk.raw ⟨Am,cm,Bm,dm,rfl,mm1,mm2,mm3,mm4,mm5,mm6⟩ (hsxy.mono (by omega))) (by omega) (hsz1.mono (by omega)) (hsxy.mono (by omega))).mono ?_
        rintro e w5 ⟨Ap,cp,Bp,dp,rfl,mp1,mp2,mp3,mp4,mp5,mp6,kb⟩
        replace row:=row.on kb
        replace hB:=onS hB kb
        replace hx:=hx.on kb
        replace hy:=hy.on kb
        replace mm1:=mm1.on kb
        replace mm2:=mm2.on kb
        replace mo1:=mo1.on kb
        replace mo2:=mo2.on kb
        clear kb
        obtain ⟨q1,hq1⟩:∃ z,z=q0+xy:=⟨_,rfl⟩
        rw [<-hq1] at mp1 mp2 mp3 mp5 hsz2 ⊢
        have HQ1:=hid hq1
        clear hq1
        clear mo1 mo2 mo3 mo4 mo5 mo6 mm1 mm2 mm3 mm4 mm5 mm6
        refine bkq hK (HS.out _ hB) (h:=fun hHeld=>?_)
        clear hK K
        refine tkq 20 (h:=?_)
        obtain ⟨o0,o1,o2,y0,y1,y2⟩:=row.old (P) (by omega)
        have z0:=row.froz (P*3)
        have z1:=row.froz (P*3+1)
        have z2:=row.froz (P*3+2)
        have hsz:=hB.size
        refine rdq 21 (h:=fun K hK=>?_)
        go_simp
        generalize hw3:World.setCell _ _ _=w6
        have hst:RowPut w5 g j j P S q1 w6:=by rw [<-hw3]; exact rowPut row (by omega) (by omega) mp1 mp2 mp3 mp4 mp5 mp6
        clear hw3 mp1 mp2 mp3 mp4 mp5 mp6 hx hy
        replace row:=hst.row
        rw [show max j (P+1)=j by omega] at row
        replace hB:=hst.below hB hgB hsz
        clear hst
        refine bkq hK (HS.out _ hB) (h:=fun hHeld=>?_)
        clear hK K
        refine wpAnyH_done (by kernel_rfl) ?_ _
        clear hHeld
        replace row:=row.put' (show updR S P q1=inP a b i (outP a b m' i) (k+1) by rw [HNX.out,HQ1.out,HXY.out])
        clear y0 y1 y2 z0 z1 z2 hsz HS HNX HQ1 HXY HQ0 hsz1 hsz2 hsxy hikw hikw2 hik hikt
        go_wp2
        go_roundg (gk - 1)
        case measure=>omega
        case rel=>exact ⟨k+1,by go_num,by omega,by omega,row,hB⟩
      ·obtain rfl:k=m':=by omega
       have hlk':¬ (k:Int)<(k:Int):=by omega
       replace row:=row.put' (show inP a b i (outP a b k i) k=outP a b k (i+1) from rfl)
       go_wp2
       go_roundg (gI - 1)
       case measure=>omega
       case rel=>exact ⟨i+1,by go_num,by omega,by omega,row,hB⟩
    ·obtain rfl:i=m:=by omega
     have hlt':¬ (i:Int)<(i:Int):=by omega
     have hl:=row.list.tab (fun p _=>hSO.out i (by omega) p)
     go_wp2_with fail
     refine (refCanon55_any (some ⟨g,0,none⟩) j j (K+1) (outP a b m' i) _ hl (by omega) (by omega)).mono ?_
     rintro e w2 ⟨Ar,cr,rfl,e1,e2,e3,kb⟩
     replace hB:=onS hB kb
     clear kb hl row
     obtain ⟨cl,hcl⟩:∃ cl,cl=clen (outP a b m' i) j:=⟨_,rfl⟩
     rw [<-hcl] at e1 e3 ⊢
     have HCL:=hid hcl
     clear hcl
     go_wp2
     go_ret
     exact ⟨_,_,by rw [HCL.out]; rfl,by rw [HCL.out] at e1; exact e1,e2,by rw [HCL.out] at e3; exact e3,hB⟩
def powR (x:Rat):Nat->Rat
 | 0=>((1:Int):Rat)
 | k+1=>powR x k*x
theorem rsz_one:rsz 1 1:=⟨by show dl 1<=1; rw [dl_one]; omega,by show dl 1<=1; rw [dl_one]; omega⟩
theorem rsz_powR {N:Nat} {x:Rat} (hx:rsz x N) (k:Nat):rsz (powR x k) (1+k*N):=by
 induction k with
 | zero=>exact rsz_one.mono (by omega)
 | succ k ih =>
  rw [Nat.add_mul,Nat.one_mul]
  exact (rsz_mul ih hx).mono (by omega)
open Go.ChangeShapes Go.WideShapes Go.ChangeAt
def disN (f g:Nat->Int):Nat->Nat
 | 0=>0
 | k+1=>disN f g k+if f k=g k then 0 else 1
theorem disN_le (f g:Nat->Int) (k:Nat):disN f g k<=k:=by
 induction k with
 | zero=>exact Nat.le_refl _
 | succ k ih=>unfold disN; split <;> omega
theorem distance_any (A B:Option Addr) (n c c':Nat) (f g:Nat->Int) (w:World) (h:IntsR w w.heap.size A n f) (h':IntsR w w.heap.size B n g) (hn:n<=1048576) :
  Calls Tryz.prog 46 #[.slice A n c,.slice B n c'] w fun e w'=>e=.returned (.int .i64 (disN f g n:Nat))/\Below w.heap.size w w':=by
 go_enter Tryz.func46, Tryz.ntmps46
 go_wp2
 go_loopg [5,6] n (fun gg ov iv wx=>∃ k:Nat,iv=.int .i64 (k:Nat)/\ov=.int .i64 (disN f g k:Nat)/\k<=n/\n<=k+gg/\Below w.heap.size w wx)
 case atStart=>exact ⟨0,rfl,rfl,by omega,by omega,Below.refl _ _⟩
 case round =>
  obtain ⟨k,rfl,rfl,hk,hkg,hB⟩:=hrel
  have hk0:(0:Int)<=(k:Int):=by omega
  by_cases hlt:k<n
  ·obtain ⟨b,o,rfl,hb,e0⟩:=(h.on hB).at hlt
   obtain ⟨b2,o2,rfl,hb2,e2⟩:=(h'.on hB).at hlt
   have hlt':(k:Int)<(n:Int):=by omega
   have hdl:=disN_le f g k
   by_cases heq:f k=g k
   ·have hnx:Hid (disN f g (k+1)=disN f g k):=by show _+_=_; rw [if_pos heq]; rfl
    obtain ⟨D,hD⟩:∃ D,D=disN f g k:=⟨_,rfl⟩
    rw [<-hD] at hnx hdl
    rw [<-hD]
    obtain ⟨x,hx⟩:∃ x,x=f k:=⟨_,rfl⟩
    rw [<-heq,<-hx] at e2
    rw [<-hx] at e0
    have hne:(x != x)=false:=by simp
    clear hD hx heq
    go_wp2
    go_quiet (fail)
    go_wp2
    go_roundg (gk - 1)
    case measure=>omega
    case rel=>exact ⟨k+1,by go_num,by rw [hnx.out],by omega,by omega,below_drewN hB _⟩
   ·have hnx:Hid (disN f g (k+1)=disN f g k+1):=by show _+_=_; rw [if_neg heq]
    obtain ⟨D,hD⟩:∃ D,D=disN f g k:=⟨_,rfl⟩
    rw [<-hD] at hnx hdl
    rw [<-hD]
    obtain ⟨x,hx⟩:∃ x,x=f k:=⟨_,rfl⟩
    obtain ⟨y,hy⟩:∃ x,x=g k:=⟨_,rfl⟩
    rw [<-hy] at e2 heq
    rw [<-hx] at e0 heq
    have hne:(x != y)=true:=by simpa using heq
    have hne2:(x == y)=false:=by simpa using heq
    clear hD hx hy heq
    go_wp2
    go_quiet (fail)
    go_wp2
    go_roundg (gk - 1)
    case measure=>omega
    case rel=>exact ⟨k+1,by go_num,by rw [hnx.out]; go_num,by omega,by omega,below_drewN hB _⟩
  ·obtain rfl:k=n:=by omega
   have hlt':¬ (k:Int)<(k:Int):=by omega
   go_wp2
   go_ret
   exact ⟨rfl,hB⟩
def wcnt (n:Nat) (W:Nat->Nat->Int):Nat->Nat->Nat
 | 0,_=>0
 | i+1,t=>wcnt n W i t+if disN (W i) (fun _=>0) n=t then 1 else 0
theorem wcnt_le (n:Nat) (W:Nat->Nat->Int) (i t:Nat):wcnt n W i t<=i:=by
 induction i with
 | zero=>exact Nat.le_refl _
 | succ i ih=>unfold wcnt; split <;> omega
def patR (q n v i:Nat):Rat:=if i<v then 0 else rv (decide ((i - v) % 2=1)) (chs (n - v) (i - v)) ((q - 1) ^ v)
theorem dl_qpow {q n:Nat} (hq:q<65536) (hn:n<=128):dl (q ^ n)<=65:=by
 have key:∀ L,L=64->q ^ n<4294967296 ^ (L+1):=by
  intro L hL
  have h1:q ^ n<=65536 ^ n:=Nat.pow_le_pow_left (by omega) n
  have h2:(65536:Nat) ^ n<=65536 ^ (2*L):=Nat.pow_le_pow_right (by omega) (by omega)
  have h3:(65536:Nat) ^ (2*L)=4294967296 ^ L:=by rw [Nat.pow_mul]
  have h4:(4294967296:Nat) ^ L<4294967296 ^ (L+1):=Nat.pow_lt_pow_right (by omega) (by omega)
  omega
 exact dl_le (key 64 rfl)
theorem chPattern_any (q n v:Nat) (w:World) (hq:2<=q) (hq2:q<=256) (hn:n<=64) (hv:v<=n) :
  Calls Tryz.prog 72 #[.int .i64 (q:Nat),.int .i64 (n:Nat),.int .i64 (v:Nat)] w (PolyPost (n+1) (patR q n v) w):=by
 have hq1:((q:Int) - 1)=((q - 1:Nat):Int):=by omega
 have hn1:((n:Int)+1)=((n+1:Nat):Int):=by omega
 have hnv:((n:Int) - (v:Int))=((n - v:Nat):Int):=by omega
 have hd:=dl_qpow (q:=q - 1) (n:=v) (by omega) (by omega)
 have hq1d:dl (q - 1)<=1:=dl_le (by omega)
 have hl:=nlen_le (x:=q - 1) (k:=16) (by omega)
 have hm:(nlen (q - 1) - 1)*v<=15*128:=Nat.mul_le_mul (by omega) (by omega)
 have hv0:(0:Int)<=(v:Int):=by omega
 have hn0:(0:Int)<=(n:Int):=by omega
 have hq0:(2:Int)<=(q:Int):=by omega
 have hq3:(q:Int)<=256:=by omega
 obtain ⟨M,hM⟩:∃ M,M=n+1:=⟨_,rfl⟩
 rw [<-hM] at hn1 ⊢
 have hMn:M=n+1:=hM
 have hM1:n+1<=M:=by omega
 have hM2:M<=n+1:=by omega
 have HM:=hid hM
 clear hM hMn
 obtain ⟨S,hSe⟩:∃ S,S=patR q n v:=⟨_,rfl⟩
 rw [<-hSe]
 have HSE:=hid hSe
 clear hSe
 obtain ⟨d,hde⟩:∃ d,d=(q - 1) ^ v:=⟨_,rfl⟩
 rw [<-hde] at hd
 have HDE:=hid hde
 clear hde
 have hmk:=fun W=>run_makeRat M (by omega) W
 go_enter Tryz.func72, Tryz.ntmps72
 go_wp2_with fail
 refine (natOf_any (q - 1) w (by omega)).mono ?_
 rintro e w1 ⟨A,c,rfl,h1,h2,h3,h4⟩
 go_wp2_with fail
 refine (natPow_any A c (q - 1) v w1 h3 h1 h2 (by omega) (by omega) (.inr (by omega)) (by rw [<-HDE.out]; omega)).mono ?_
 rintro e w2 ⟨Bd,cd,rfl,d1,d2,d3,d4⟩
 rw [<-HDE.out] at d1 d3 ⊢
 have hB:=onS h4 d4
 clear d4 h1 h2 h3 h4 hq1d hl hm
 have kb:=below_one w2 (.cells (madeCells #[.bool false,.slice none 0 0,.slice none 0 0] (M*3)) 31)
 have row:=rowOk_made w2 M S
 have hgB:=hB.size
 replace d3:=d3.on kb
 replace hB:=onS hB kb
 clear kb
 go_wp2
 obtain ⟨w3,hw1⟩:∃ W,W=w2.alloc (.cells (madeCells #[.bool false,.slice none 0 0,.slice none 0 0] (M*3)) 31):=⟨_,rfl⟩
 obtain ⟨g,hg⟩:∃ g,g=w2.heap.size:=⟨_,rfl⟩
 rw [<-hw1,<-hg]
 rw [<-hw1] at hB row d3
 rw [<-hg] at row hgB
 clear hw1 hg hmk
 go_loopg [27] v (fun gg iv wx=>∃ j:Nat,iv=.int .i64 (j:Nat)/\j<=v/\v<=j+gg/\RowOk wx g M j S/\NatOk wx wx.heap.size Bd d/\Below w.heap.size w wx)
 case atStart=>exact ⟨0,rfl,by omega,by omega,row,d3,hB⟩
 case round =>
  clear row hB d3
  obtain ⟨j,rfl,hj,hjg,row,d3,hB⟩:=hrel
  have hj0:(0:Int)<=(j:Int):=by omega
  by_cases hlt:j<v
  ·have hlt':(j:Int)<(v:Int):=by omega
   have hltM:(j:Int)<(M:Int):=by omega
   obtain ⟨w0,hw0⟩:∃ W,W=wr:=⟨_,rfl⟩
   rw [<-hw0] at row hB d3 ⊢
   clear hw0
   go_wp2_with fail
   refine (chZero_any _).mono ?_
   rintro e w1 ⟨Ap,cp,Bp,dp,rfl,mp1,mp2,mp3,mp4,mp5,mp6,kb⟩
   replace row:=row.on kb
   replace hB:=onS hB kb
   replace d3:=d3.on kb
   clear kb
   obtain ⟨q0,hq0⟩:∃ q:Rat,q=(0:Rat):=⟨_,rfl⟩
   rw [<-hq0] at mp1 mp2 mp3 mp5 ⊢
   replace hq0:q0=0:=hq0.trans (by rfl)
   have HQ0:=hid hq0
   have HSZq0:rsz q0 1:=by rw [hq0]; exact rsz_zero
   clear hq0
   obtain ⟨o0,o1,o2,y0,y1,y2⟩:=row.old (j) (by omega)
   have z0:=row.froz (j*3)
   have z1:=row.froz (j*3+1)
   have z2:=row.froz (j*3+2)
   have hsz:=hB.size
   go_upto_region 7 with fail
   generalize hw3:World.setCell _ _ _=w2
   have hst:RowPut w1 g M (j) (j) (S) q0 w2:=by rw [<-hw3]; exact rowPut row (by omega) (by omega) mp1 mp2 mp3 mp4 mp5 mp6
   clear hw3 mp1 mp2 mp3 mp4 mp5 mp6
   replace row:=hst.row
   replace hB:=hst.below hB hgB hsz
   replace d3:=hst.nat _ _ _ d3
   rw [<-hst.size] at d3
   clear hst
   rw [show max j (j+1)=j+1 by omega] at row
   clear y0 y1 y2 z0 z1 z2 hsz
   replace row:=row.whole (show q0=S j by rw [HSE.out,HQ0.out]; simp [patR,hlt])
   clear HSZq0 HQ0
   go_wp2
   go_roundg (gk - 1)
   case measure=>omega
   case rel=>exact ⟨j+1,by go_num,by omega,by omega,row,d3,hB⟩
  ·obtain rfl:j=v:=by omega
   have hlt':¬ (j:Int)<(j:Int):=by omega
   go_wp2
   obtain ⟨w0,hw0⟩:∃ W,W=wr:=⟨_,rfl⟩
   rw [<-hw0] at row hB d3 ⊢
   clear hw0 hlt hlt'
   obtain ⟨gK,rfl⟩:∃ gK:Nat,gK=gk:=⟨_,rfl⟩
   go_loopg [11] M (fun gg iv wx=>∃ i:Nat,iv=.int .i64 (i:Nat)/\j+i<=M/\M<=i+gg/\RowOk wx g M (j+i) S/\NatOk wx wx.heap.size Bd d/\Below w.heap.size w wx)
   case atStart=>exact ⟨0,rfl,by omega,by omega,row,d3,hB⟩
   case round =>
    clear row hB d3
    obtain ⟨i,rfl,hi,hig,row,d3,hB⟩:=hrel
    have hi0:(0:Int)<=(i:Int):=by omega
    have hij:(j:Int)+(i:Int)=((j+i:Nat):Int):=by omega
    by_cases hlt:j+i<M
    ·have hle:((j+i:Nat):Int)<=(n:Int):=by omega
     have hltM:((j+i:Nat):Int)<(M:Int):=by omega
     have hji0:(0:Int)<=((j+i:Nat):Int):=by omega
     have hdc:=dl_chs (n - j) i (by omega)
     have hval:S (j+i)=rv ((i:Int) % 2 == 1) (chs (n - j) i) d:=by rw [HSE.out,HDE.out]; simp only [patR]; rw [if_neg (by omega),show j+i - j=i by omega]; congr 1; rw [Bool.eq_iff_iff]; simp; omega
     obtain ⟨P,hP⟩:∃ P,P=j+i:=⟨_,rfl⟩
     rw [<-hP] at hij hle hltM hji0 hval row hlt hi
     obtain ⟨w1,hw0⟩:∃ W,W=wr:=⟨_,rfl⟩
     rw [<-hw0] at row hB d3 ⊢
     have HP:=hid hP
     have HV:=hid hval
     clear hw0 hP hval
     go_wp2_with fail
     refine (binomial_any (n - j) i _ (by omega) (by have:=HP.out; omega)).mono ?_
     rintro e w2 ⟨Ac,cc,rfl,b1,b2,b3,kb⟩
     replace row:=row.on kb
     replace hB:=onS hB kb
     replace d3:=d3.on kb
     clear kb
     obtain ⟨ch,hch⟩:∃ x,x=chs (n - j) i:=⟨_,rfl⟩
     rw [<-hch] at b1 b3 hdc ⊢
     have HCH:=hid hch
     clear hch
     have hraw:RatRaw _ _ (.agg #[.bool ((i:Int) % 2 == 1),.slice Ac (dl ch) cc,.slice Bd (dl d) cd]) (S P) 4096:=⟨_,Ac,_,cc,Bd,_,cd,ch,d,rfl,b3.raw,d3.raw,b1,b2,d1,d2,by omega,by omega,by rw [HV.out,HCH.out]⟩
     go_wp2_with fail
     refine (ratTrim_any _ (S P) 4096 _ hraw (by omega)).mono ?_
     rintro e w3 ⟨Ap,cp,Bp,dp,rfl,mp1,mp2,mp3,mp4,mp5,mp6,kb⟩
     replace row:=row.on kb
     replace hB:=onS hB kb
     replace d3:=d3.on kb
     replace b3:=b3.on kb
     replace hraw:=hraw.on kb
     clear kb
     clear hraw b1 b2 b3 HCH HV hdc
     obtain ⟨q1,hq1'⟩:∃ z,z=S P:=⟨_,rfl⟩
     rw [<-hq1'] at mp1 mp2 mp3 mp5 ⊢
     have HQ1:=hid hq1'
     clear hq1'
     obtain ⟨o0,o1,o2,y0,y1,y2⟩:=row.old (P) (by omega)
     have z0:=row.froz (P*3)
     have z1:=row.froz (P*3+1)
     have z2:=row.froz (P*3+2)
     have hsz:=hB.size
     go_upto_region 10 with fail
     generalize hw3:World.setCell _ _ _=w4
     have hst:RowPut w3 g M (P) (P) (S) q1 w4:=by rw [<-hw3]; exact rowPut row (by omega) (by omega) mp1 mp2 mp3 mp4 mp5 mp6
     clear hw3 mp1 mp2 mp3 mp4 mp5 mp6
     replace row:=hst.row
     replace hB:=hst.below hB hgB hsz
     replace d3:=hst.nat _ _ _ d3
     rw [<-hst.size] at d3
     clear hst
     rw [show max P (P+1)=P+1 by omega] at row
     replace row:=row.whole HQ1.out
     rw [show P+1=j+(i+1) by have:=HP.out; omega] at row
     clear y0 y1 y2 z0 z1 z2 hsz HQ1
     go_wp2
     go_roundg (gk - 1)
     case measure=>omega
     case rel=>exact ⟨i+1,by go_num,by have:=HP.out; omega,by omega,row,d3,hB⟩
    ·obtain ⟨P,hP⟩:∃ P,P=j+i:=⟨_,rfl⟩
     rw [<-hP] at hij row hi hlt
     clear hP
     obtain rfl:P=M:=by omega
     have hle:¬ (P:Int)<=(n:Int):=by omega
     have hl:=row.list
     go_wp2
     go_ret
     exact ⟨_,_,rfl,Nat.le_refl _,by unfold maxLen; omega,hl,hB⟩
theorem clen_top {rs:Nat->Rat} {m:Nat} (h:rs m≠0):clen rs (m+1)=m+1:=by simp [clen,h]
theorem clen_skip {rs:Nat->Rat} {m:Nat} (h:rs m=0):clen rs (m+1)=clen rs m:=by simp [clen,h]
theorem outP_pair (R:Nat->Rat) (c0 c1:Rat):∀ i p,outP R (pairR c0 c1) 2 i p=(if p<i then R p*c0 else 0)+(if p≠0/\p - 1<i then R (p - 1)*c1 else 0):=by
 intro i
 induction i with
 | zero=>intro p; show (0:Rat)=_; simp [Rat.zero_add]
 | succ i ih =>
  intro p
  show updR (updR (outP R (pairR c0 c1) 2 i) (i+0) (outP R (pairR c0 c1) 2 i (i+0)+R i*c0)) (i+1) (updR (outP R (pairR c0 c1) 2 i) (i+0) (outP R (pairR c0 c1) 2 i (i+0)+R i*c0) (i+1)+R i*c1) p=_
  by_cases h1:p=i+1
  ·subst h1
   simp only [updR,if_pos,Nat.add_zero]
   rw [if_neg (show ¬ i+1=i by omega),ih,if_neg (show ¬ i+1<i by omega),if_neg (show ¬ (i+1≠0/\i+1 - 1<i) by omega),if_neg (show ¬ i+1<i+1 by omega),if_pos (show i+1≠0/\i+1 - 1<i+1 by omega),show i+1 - 1=i by omega]
   clear ih; grind
  ·simp only [updR,if_neg h1,Nat.add_zero]
   by_cases h2:p=i
   ·subst h2
    rw [if_pos rfl,ih,if_neg (show ¬ p<p by omega),if_pos (show p<p+1 by omega)]
    clear ih
    by_cases h3:p=0
    ·rw [if_neg (show ¬ (p≠0/\p - 1<p) by omega),if_neg (show ¬ (p≠0/\p - 1<p+1) by omega)]; generalize R p=x; grind
    ·rw [if_pos (show p≠0/\p - 1<p by omega),if_pos (show p≠0/\p - 1<p+1 by omega)]; generalize R p=x; generalize R (p - 1)=y; grind
   ·rw [if_neg h2,ih]
    clear ih
    by_cases h4:p<i
    ·rw [if_pos h4,if_pos (show p<i+1 by omega)]
     by_cases h3:p=0
     ·rw [if_neg (show ¬ (p≠0/\p - 1<i) by omega),if_neg (show ¬ (p≠0/\p - 1<i+1) by omega)]
     ·rw [if_pos (show p≠0/\p - 1<i by omega),if_pos (show p≠0/\p - 1<i+1 by omega)]
    ·rw [if_neg h4,if_neg (show ¬ p<i+1 by omega),if_neg (show ¬ (p≠0/\p - 1<i) by omega),if_neg (show ¬ (p≠0/\p - 1<i+1) by omega)]
def pwP (a:Nat->Rat) (m:Nat):Nat->Nat × (Nat->Rat)
 | 0=>(1,fun i=>if i=0 then ((1:Int):Rat) else 0)
 | k+1=>(clen (mulP (pwP a m k).2 (pwP a m k).1 a m) ((pwP a m k).1+m),mulP (pwP a m k).2 (pwP a m k).1 a m)
theorem pwP_mono (u : Rat) (hu : u ≠ 0) : ∀ k, (pwP (pairR 0 u) 2 k).1 = k + 1 ∧ ∀ i, i < k + 1 → (pwP (pairR 0 u) 2 k).2 i = if i = k then powR u k else 0 := by
  have hp:∀ k,powR u k≠0:=fun k=>by
    induction k with
    | zero=>show (1:Rat)≠0; decide
    | succ k ih=>intro h; rcases Rat.mul_eq_zero.1 (show powR u k*u=0 from h) with h | h; exact ih h; exact hu h
  intro k
  induction k with
  | zero => exact ⟨rfl, fun i hi => by obtain rfl : i = 0 := by omega
                                       rfl⟩
  | succ k ih =>
    obtain ⟨ih1,ih2⟩:=ih
    have val:∀ p,p<k+1+2->(pwP (pairR 0 u) 2 (k+1)).2 p=if p=k+1 then powR u (k+1) else 0:=by
      intro p hp
      show outP _ (pairR 0 u) 2 (pwP (pairR 0 u) 2 k).1 p=_
      rw [outP_pair,ih1]
      by_cases h1:p=k+1
      · subst h1
        rw [if_neg (by omega),if_pos ⟨by omega,by omega⟩,if_pos rfl,ih2 _ (by omega),if_pos (by omega)]
        show 0+powR u k*u=powR u k*u
        grind
      · rw [if_neg h1]
        have e1:(if p<k+1 then (pwP (pairR 0 u) 2 k).2 p*0 else 0)=(0:Rat):=by split <;> grind
        rw [e1]
        by_cases h3:p≠0/\p - 1<k+1
        · rw [if_pos h3,ih2 _ (by omega),if_neg (by omega)]; grind
        · rw [if_neg h3]; grind
    refine ⟨?_,fun i hi=>val i (by omega)⟩
    show clen (pwP (pairR 0 u) 2 (k+1)).2 ((pwP (pairR 0 u) 2 k).1+2)=_
    rw [ih1]
    rw [clen_skip (by rw [val _ (by omega),if_neg (by omega)]),clen_top (by rw [val _ (by omega),if_pos rfl]; exact hp _)]
def sg (i c:Nat):Rat:=(((if i % 2=1 then -(c:Int) else (c:Int)):Int):Rat)
theorem sg_succ (i c:Nat):sg (i+1) c = -sg i c:=by
 unfold sg
 by_cases h:i % 2=1
 ·rw [if_neg (by omega),if_pos h,Rat.intCast_neg]; grind
 ·rw [if_pos (by omega),if_neg h,Rat.intCast_neg]
theorem sg_add (i c d:Nat):sg i (c+d)=sg i c+sg i d:=by
 unfold sg
 by_cases h:i % 2=1
 ·rw [if_pos h,if_pos h,if_pos h,<-Rat.intCast_add]; congr 1; omega
 ·rw [if_neg h,if_neg h,if_neg h,<-Rat.intCast_add]; congr 1
theorem sg_ne {i c:Nat} (h:c≠0):sg i c≠0:=by
 unfold sg
 intro e
 have:(if i % 2=1 then -(c:Int) else (c:Int))=0:=by exact_mod_cast e
 split at this <;> omega
theorem pwP_altc {c0 c1 : Rat} (f0 : c0 = 1) (f1 : c1 = -1) : ∀ k, (pwP (pairR c0 c1) 2 k).1 = k + 1 ∧ ∀ i, i < k + 1 → (pwP (pairR c0 c1) 2 k).2 i = sg i (chs k i) := by
  intro k
  induction k with
  | zero => exact ⟨rfl, fun i hi => by obtain rfl : i = 0 := by omega
                                       rfl⟩
  | succ k ih =>
    obtain ⟨ih1,ih2⟩:=ih
    have val:∀ p,p<k+1+2->(pwP (pairR c0 c1) 2 (k+1)).2 p=sg p (chs (k+1) p):=by
      intro p hp
      show outP _ _ 2 (pwP (pairR c0 c1) 2 k).1 p=_
      rw [outP_pair,ih1]
      cases p with
      | zero =>
        rw [if_pos (by omega),if_neg (by omega),ih2 0 (by omega),chs_zero,chs_zero,f0]
        grind
      | succ p =>
        have e1:(if p+1<k+1 then (pwP (pairR c0 c1) 2 k).2 (p+1)*c0 else 0)=sg (p+1) (chs k (p+1)):=by
          split
          · rw [ih2 _ (by omega),f0]; generalize sg _ _=z; grind
          · rw [chs_gt (by omega)]; unfold sg; simp
        have e2:(if p+1≠0/\p+1 - 1<k+1 then (pwP (pairR c0 c1) 2 k).2 (p+1 - 1)*c1 else 0)=sg (p+1) (chs k p):=by
          rw [Nat.add_sub_cancel]
          split
          · rw [ih2 _ (by omega),sg_succ,f1]; generalize sg _ _=z; grind
          · rw [chs_gt (by omega)]; unfold sg; simp
        rw [e1,e2]
        show _=sg (p+1) (chs k p+chs k (p+1))
        rw [sg_add]; grind
    refine ⟨?_,fun i hi=>val i (by omega)⟩
    show clen (pwP (pairR c0 c1) 2 (k+1)).2 ((pwP (pairR c0 c1) 2 k).1+2)=_
    rw [ih1]
    rw [clen_skip (by rw [val _ (by omega),chs_gt (by omega)]; unfold sg; simp),clen_top (by rw [val _ (by omega),chs_self]; exact sg_ne (by omega))]
theorem pwP_alt (k:Nat):(pwP (pairR ((1:Int):Rat) (((-1:Int)):Rat)) 2 k).1=k+1/\∀ i,i<k+1->(pwP (pairR ((1:Int):Rat) (((-1:Int)):Rat)) 2 k).2 i=sg i (chs k i):=pwP_altc rfl rfl k
theorem mulP_mono {A B:Nat->Rat} {v mB:Nat} {U:Rat} (hA:∀ i,i<v+1->A i=if i=v then U else 0) (p:Nat):mulP A (v+1) B mB p=if v<=p/\p<v+mB then U*B (p - v) else 0:=by
 have z:∀ i,i<=v->∀ p,outP A B mB i p=0:=by
  intro i
  induction i with
  | zero=>intro _ p; rfl
  | succ i ih =>
   intro hi
   have:∀ j p,inP A B i (outP A B mB i) j p=0:=by
    intro j
    induction j with
    | zero=>intro p; exact ih (by omega) p
    | succ j ihj =>
     intro p
     show updR _ _ _ p=0
     unfold updR
     split
     ·rw [ihj,hA i (by omega),if_neg (by omega)]; grind
     ·exact ihj p
   exact this mB
 have key:∀ j p,inP A B v (outP A B mB v) j p=if v<=p/\p<v+j then U*B (p - v) else 0:=by
  intro j
  induction j with
  | zero=>intro p; rw [if_neg (by omega)]; exact z v (Nat.le_refl _) p
  | succ j ih =>
   intro p
   show updR _ _ _ p=_
   unfold updR
   by_cases e:p=v+j
   ·subst e
    rw [if_pos rfl,if_pos ⟨by omega,by omega⟩,ih,if_neg (by omega),hA v (by omega),if_pos rfl,show v+j - v=j by omega]; grind
   ·rw [if_neg e,ih]
    by_cases h:v<=p/\p<v+j
    ·rw [if_pos h,if_pos ⟨h.1,by omega⟩]
    ·rw [if_neg h,if_neg (by omega)]
 exact key mB p
theorem powR_inv (d:Nat) (v:Nat):powR (mkRat 1 d) v=mkRat 1 (d ^ v):=by
 induction v with
 | zero=>show (1:Rat)=mkRat 1 (d ^ 0); rw [Nat.pow_zero]; decide +kernel
 | succ v ih=>show powR _ v*_=_; rw [ih,Rat.mkRat_mul_mkRat,Nat.pow_succ]; simp
theorem mkRat_ne {d:Nat} (h:d≠0):mkRat 1 d≠0:=by
 intro e
 have:=(Rat.mkRat_eq_zero h).1 e
 omega
theorem sg_rv (U:Nat) (j c:Nat):mkRat 1 U*sg j c=rv (decide (j % 2=1)) c U:=by
 unfold sg rv
 rw [<-Rat.mkRat_one,Rat.mkRat_mul_mkRat]
 simp
theorem pat_eq {q n v:Nat} (hq:2<=q) (hv:v<=n) :
  clen (mulP (pwP (pairR 0 (mkRat 1 (q - 1))) 2 v).2 (pwP (pairR 0 (mkRat 1 (q - 1))) 2 v).1 (pwP (pairR ((1:Int):Rat) (((-1:Int)):Rat)) 2 (n - v)).2 (pwP (pairR ((1:Int):Rat) (((-1:Int)):Rat)) 2 (n - v)).1)
   ((pwP (pairR 0 (mkRat 1 (q - 1))) 2 v).1+(pwP (pairR ((1:Int):Rat) (((-1:Int)):Rat)) 2 (n - v)).1)=n+1 /\
  ∀ i,i<n+1->mulP (pwP (pairR 0 (mkRat 1 (q - 1))) 2 v).2 (pwP (pairR 0 (mkRat 1 (q - 1))) 2 v).1 (pwP (pairR ((1:Int):Rat) (((-1:Int)):Rat)) 2 (n - v)).2 (pwP (pairR ((1:Int):Rat) (((-1:Int)):Rat)) 2 (n - v)).1 i=patR q n v i:=by
 have hu:mkRat 1 (q - 1)≠0:=mkRat_ne (by omega)
 obtain ⟨a1,a2⟩:=pwP_mono (mkRat 1 (q - 1)) hu v
 obtain ⟨b1,b2⟩:=pwP_alt (n - v)
 rw [a1,b1]
 have hU:powR (mkRat 1 (q - 1)) v=mkRat 1 ((q - 1) ^ v):=powR_inv _ _
 have hne:mkRat 1 ((q - 1) ^ v)≠0:=mkRat_ne (by have:=Nat.pow_pos (n:=v) (show 0<q - 1 by omega); omega)
 have val:∀ i,mulP (pwP (pairR 0 (mkRat 1 (q - 1))) 2 v).2 (v+1) (pwP (pairR ((1:Int):Rat) (((-1:Int)):Rat)) 2 (n - v)).2 (n - v+1) i=if v<=i/\i<n+1 then mkRat 1 ((q - 1) ^ v)*sg (i - v) (chs (n - v) (i - v)) else 0:=by
  intro i
  rw [mulP_mono a2,hU]
  by_cases h:v<=i/\i<n+1
  ·rw [if_pos h,if_pos ⟨h.1,by omega⟩,b2 _ (by omega)]
  ·rw [if_neg h,if_neg (by omega)]
 refine ⟨?_,fun i hi=>?_⟩
 ·rw [show v+1+(n - v+1)=n+1+1 by omega,clen_skip (by rw [val,if_neg (by omega)]),clen_top]
  rw [val,if_pos ⟨by omega,by omega⟩,chs_self]
  intro e
  rcases Rat.mul_eq_zero.1 e with e | e
  ·exact hne e
  ·exact sg_ne (by omega) e
 ·rw [val]
  unfold patR
  by_cases h:v<=i
  ·rw [if_pos ⟨h,hi⟩,if_neg (by omega),sg_rv]
  ·rw [if_neg (by omega),if_pos (by omega)]
theorem ratList_one {w:World} (T:TypeId) {A A2:Option Addr} {c c2:Nat} {r:Rat} {rs:Nat->Rat} (hr:rs 0=r) (m1:NatOk w w.heap.size A r.num.natAbs) (m2:NatOk w w.heap.size A2 r.den) (m3:dl r.num.natAbs<=c) (m4:c<=maxLen) (m5:dl r.den<=c2) (m6:c2<=maxLen) :
  RatList (w.alloc (.cells #[.bool (rneg r),.slice A (dl r.num.natAbs) c,.slice A2 (dl r.den) c2] T)) (w.alloc (.cells #[.bool (rneg r),.slice A (dl r.num.natAbs) c,.slice A2 (dl r.den) c2] T)).heap.size (some ⟨w.heap.size,0,none⟩) 1 rs:=fun i hi=>by
 obtain rfl:i=0:=by omega
 subst hr
 have hb:=below_one w (.cells #[.bool (rneg (rs 0)),.slice A (dl (rs 0).num.natAbs) c,.slice A2 (dl (rs 0).den) c2] T)
 have hg:=heap_alloc_new w (.cells #[.bool (rneg (rs 0)),.slice A (dl (rs 0).num.natAbs) c,.slice A2 (dl (rs 0).den) c2] T)
 exact ⟨w.heap.size,0,A,c,A2,c2,rfl,by simp,by rw [cell_of_row _ _ _ _ T (0,0) hg]; rfl,by rw [cell_of_row _ _ _ _ T (0,0) hg]; rfl,by rw [cell_of_row _ _ _ _ T (0,0) hg]; rfl,m1.on hb,m2.on hb,m3,m4,m5,m6⟩
theorem RatList.letter {w W:World} {T:Option Addr} {m:Nat} {rs:Nat->Rat} (e:W=w) (h:RatList w w.heap.size T m rs):RatList W W.heap.size T m rs:=by rw [e]; exact h
theorem refPower_any (T:Option Addr) (m c k N:Nat) (a:Nat->Rat) (w:World) (h:RatTab w w.heap.size T m a N) (hm:m<=64) (hN:N<=1000) (hra:Hid (∀ i,i<m->rsz (a i) N)) (hk:k<=64)
  (hL:Hid (∀ j,j<=k->(pwP a m j).1<=128)) (hR:Hid (∀ j,j<=k->∀ i,i<(pwP a m j).1->rsz ((pwP a m j).2 i) N)) :
  Calls Tryz.prog 77 #[.slice T m c,.int .i64 (k:Nat)] w (PolyPost (pwP a m k).1 (pwP a m k).2 w):=by
 have hk0:(0:Int)<=(k:Int):=by omega
 go_enter Tryz.func77, Tryz.ntmps77
 go_wp2_with fail
 refine (refInt_any 1 _ (by omega) (by omega)).mono ?_
 rintro e w1 ⟨Ap,cp,Bp,dp,rfl,m1,m2,m3,m4,m5,m6,kb⟩
 have hB:=kb
 clear kb
 obtain ⟨q1,hq1⟩:∃ q:Rat,q=((1:Int):Rat):=⟨_,rfl⟩
 rw [<-hq1] at m1 m2 m3 m5 ⊢
 have hl:=ratList_one 31 (rs:=(pwP a m 0).2) (r:=q1) (by rw [hq1]; rfl) m1 m2 m3 m4 m5 m6
 have hb:=below_one w1 (.cells #[.bool (rneg q1),.slice Ap (dl q1.num.natAbs) cp,.slice Bp (dl q1.den) dp] 31)
 replace hB:=onS hB hb
 clear m1 m2 m3 m4 m5 m6 hb hq1
 go_wp2
 obtain ⟨w2,hw2⟩:∃ W,W=w1.alloc (.cells #[.bool (rneg q1),.slice Ap (dl q1.num.natAbs) cp,.slice Bp (dl q1.den) dp] 31):=⟨_,rfl⟩
 rw [<-hw2] at hl hB ⊢
 clear hw2
 go_loopg [5,6] k (fun gg ov iv wx=>∃ j:Nat,∃ A d,iv=.int .i64 (j:Nat)/\j<=k/\k<=j+gg/\ov=.slice A (pwP a m j).1 d/\(pwP a m j).1<=d/\d<=maxLen/\RatList wx wx.heap.size A (pwP a m j).1 (pwP a m j).2/\Below w.heap.size w wx)
 case atStart=>exact ⟨0,_,_,rfl,by omega,by omega,rfl,Nat.le_refl 1,by unfold maxLen; omega,hl,hB⟩
 case round =>
  clear hl hB
  obtain ⟨j,A,d,rfl,hj,hjg,rfl,hd1,hd2,hl,hB⟩:=hrel
  have hj0:(0:Int)<=(j:Int):=by omega
  have hLj:=hL.out j hj
  have ht:=hl.tab (hR.out j hj)
  have hrs:=hid (hR.out j hj)
  by_cases hlt:j<k
  ·have hlt':(j:Int)<(k:Int):=by omega
   have hmul:(pwP a m j).1*(N+N+1)<=128*2001:=Nat.mul_le_mul (by omega) (by omega)
   have hnx:Hid (∀ (W:World) (e:Ending) (W':World),PolyPost (clen (mulP (pwP a m j).2 (pwP a m j).1 a m) ((pwP a m j).1+m)) (mulP (pwP a m j).2 (pwP a m j).1 a m) W e W'->PolyPost (pwP a m (j+1)).1 (pwP a m (j+1)).2 W e W'):=fun _ _ _ h=>h
   obtain ⟨l,hl1⟩:∃ l,l=(pwP a m j).1:=⟨_,rfl⟩
   obtain ⟨R,hR1⟩:∃ R,R=(pwP a m j).2:=⟨_,rfl⟩
   rw [<-hl1] at hLj hmul hd1
   rw [<-hl1,<-hR1] at ht hrs hnx
   rw [<-hl1]
   clear hl hl1 hR1
   go_wp2_with fail
   refine ((refPMul_any A T l d m c N (128*2001) R a _ ht (h.on hB) (by omega) (by omega) hmul (by omega) hrs hra).mono (fun e W'=>hnx.out _ e W')).mono ?_
   rintro e w3 ⟨A3,c3,rfl,l1,l2,l3,kb⟩
   replace hB:=onS hB kb
   obtain ⟨l',hl1⟩:∃ l,l=(pwP a m (j+1)).1:=⟨_,rfl⟩
   rw [<-hl1]
   have HL1:=hid hl1
   clear hl1 hmul hnx kb ht hrs
   go_wp2
   go_roundg (gk - 1)
   case measure=>omega
   case rel=>exact ⟨j+1,A3,c3,by go_num,by omega,by omega,by rw [HL1.out],l1,l2,l3,hB⟩
  ·obtain rfl:j=k:=by omega
   have hlt':¬ (j:Int)<(j:Int):=by omega
   obtain ⟨l,hl1⟩:∃ l,l=(pwP a m j).1:=⟨_,rfl⟩
   rw [<-hl1]
   have HL1:=hid hl1
   clear hl1 ht hrs hLj
   go_wp2
   go_ret
   exact ⟨_,_,by rw [HL1.out]; rfl,hd1,hd2,hl,hB⟩
theorem rsz_pw {u:Rat} {N:Nat} (hu:rsz u N) (k:Nat) (hk:k<=64):rsz (powR u k) (1+64*N):=(rsz_powR hu k).mono (by have:k*N<=64*N:=Nat.mul_le_mul_right N hk; omega)
theorem rsz_sg {i c:Nat} {L:Nat} (h:dl c<=L) (hL:1<=L):rsz (sg i c) L:=by
 have:sg i c=rv (decide (i % 2=1)) c 1:=by
  unfold sg rv
  rw [<-Rat.mkRat_one]
  simp
 rw [this]
 exact rsz_rv h (by rw [dl_one]; exact hL) hL
theorem refPattern_any (q n v:Nat) (w:World) (hq:2<=q) (hq2:q<=256) (hn:n<=64) (hv:v<=n) :
  Calls Tryz.prog 90 #[.int .i64 (q:Nat),.int .i64 (n:Nat),.int .i64 (v:Nat)] w (PolyPost (n+1) (patR q n v) w):=by
 have hq1:((q:Int) - 1)=((q - 1:Nat):Int):=by omega
 have hnv:((n:Int) - (v:Int))=((n - v:Nat):Int):=by omega
 have hq0:(2:Int)<=(q:Int):=by omega
 have hq3:(q:Int)<=256:=by omega
 have hv0:(0:Int)<=(v:Int):=by omega
 have hn0:(0:Int)<=(n:Int):=by omega
 have hn1:(n:Int)<=64:=by omega
 have hvn:(v:Int)<=(n:Int):=by omega
 have hu0:((0:Int):Rat)=0:=rfl
 have huv:rv (decide ((1:Int)<0) != decide (((q - 1:Nat):Int)<0)) (1:Int).natAbs ((q - 1:Nat):Int).natAbs=mkRat 1 (q - 1):=by
  have:decide (((q - 1:Nat):Int)<0)=false:=by simp
  rw [this]
  show mkRat _ _=_
  simp
 have hsu:rsz (mkRat 1 (q - 1)) 1:=rsz_rv (s:=false) (x:=1) (y:=q - 1) (by rw [dl_one]; omega) (dl_le (by omega)) (by omega)
 obtain ⟨pl,pv⟩:=pat_eq hq hv
 have HU:=hid hu0
 have HUV:=hid huv
 -- the sizes
 have hA:=pwP_mono (mkRat 1 (q - 1)) (mkRat_ne (by omega))
 have hC:=pwP_alt
 have hLA:Hid (∀ j,j<=v->(pwP (pairR 0 (mkRat 1 (q - 1))) 2 j).1<=128):=fun j hj=>by rw [(hA j).1]; omega
 have hRA:Hid (∀ j,j<=v->∀ i,i<(pwP (pairR 0 (mkRat 1 (q - 1))) 2 j).1->rsz ((pwP (pairR 0 (mkRat 1 (q - 1))) 2 j).2 i) 200):=fun j hj i hi=>by
  rw [(hA j).1] at hi
  rw [(hA j).2 i hi]
  split
  ·exact (rsz_pw hsu j (by omega)).mono (by omega)
  ·exact rsz_zero.mono (by omega)
 have hLC:Hid (∀ j,j<=n - v->(pwP (pairR ((1:Int):Rat) (((-1:Int)):Rat)) 2 j).1<=128):=fun j hj=>by rw [(hC j).1]; omega
 have hRC:Hid (∀ j,j<=n - v->∀ i,i<(pwP (pairR ((1:Int):Rat) (((-1:Int)):Rat)) 2 j).1->rsz ((pwP (pairR ((1:Int):Rat) (((-1:Int)):Rat)) 2 j).2 i) 200):=fun j hj i hi=>by
  rw [(hC j).1] at hi
  rw [(hC j).2 i hi]
  exact rsz_sg (by have:=dl_chs j i (by omega); omega) (by omega)
 have hsA:Hid (∀ i,i<2->rsz (pairR 0 (mkRat 1 (q - 1)) i) 200):=fun i hi=>by unfold pairR; split; exact rsz_zero.mono (by omega); exact hsu.mono (by omega)
 have hsC:Hid (∀ i,i<2->rsz (pairR ((1:Int):Rat) (((-1:Int)):Rat) i) 200):=fun i hi=>by unfold pairR; split; exact rsz_one.mono (by omega); exact (rsz_neg rsz_one).mono (by omega)
 have hlA:=(hA v).1
 have hlC:=(hC (n - v)).1
 clear hA hC hu0 huv
 obtain ⟨u,hu⟩:∃ u,u=mkRat 1 (q - 1):=⟨_,rfl⟩
 rw [<-hu] at HUV hsu hLA hRA hsA hlA pl pv
 clear hu
 obtain ⟨z,hz⟩:∃ z:Rat,z=0:=⟨_,rfl⟩
 rw [<-hz] at HU hLA hRA hsA hlA pl pv
 have hsz:rsz z 1:=by rw [hz]; exact rsz_zero
 clear hz
 obtain ⟨o,ho⟩:∃ z:Rat,z=((1:Int):Rat):=⟨_,rfl⟩
 rw [<-ho] at hLC hRC hsC hlC pl pv
 have hso:rsz o 1:=by rw [ho]; exact rsz_one
 have HO:=hid ho
 clear ho
 obtain ⟨mo,hmo⟩:∃ z:Rat,z=((-1:Int):Rat):=⟨_,rfl⟩
 rw [<-hmo] at hLC hRC hsC hlC pl pv
 have hsm:rsz mo 1:=by rw [hmo]; exact rsz_neg rsz_one
 have HMO:=hid hmo
 clear hmo
 have PL:=hid pl
 have PV:=hid pv
 clear pl pv
 go_enter Tryz.func90, Tryz.ntmps90
 go_wp2_with fail
 refine (refInt_any 0 _ (by omega) (by omega)).mono ?_
 rintro e w1 ⟨Aa,ca,Ba,da,rfl,a1,a2,a3,a4,a5,a6,kb⟩
 rw [HU.out] at a1 a2 a3 a5 ⊢
 have hB:=kb
 clear kb
 go_wp2_with fail
 refine (refOf02_any 1 ((q - 1:Nat):Int) _ (by omega) (by omega) (by omega) (by omega)).mono ?_
 rintro e w2 ⟨Ab,cb,Bb,db,rfl,b1,b2,b3,b4,b5,b6,kb⟩
 rw [HUV.out] at b1 b2 b3 b5 ⊢
 replace a1:=a1.on kb
 replace a2:=a2.on kb
 replace hB:=onS hB kb
 clear kb
 have kb:=below_one w2 (.cells #[.bool (rneg z),.slice Aa (dl z.num.natAbs) ca,.slice Ba (dl z.den) da,.bool (rneg u),.slice Ab (dl u.num.natAbs) cb,.slice Bb (dl u.den) db] 31)
 have tb:=ratTab_pair 31 (N:=200) (ratPost_raw a1 a2 a3 a4 a5 a6 (hsz.mono (by omega))) (ratPost_raw b1 b2 b3 b4 b5 b6 (hsu.mono (by omega)))
 replace hB:=onS hB kb
 clear kb a1 a2 a3 a4 a5 a6 b1 b2 b3 b4 b5 b6
 go_wp2_with fail
 refine (refPower_any _ 2 2 v 200 (pairR z u) _ tb (by omega) (by omega) hsA (by omega) hLA hRA).mono ?_
 rintro e w3 ⟨Ac,cc,rfl,c1,c2,c3,kb⟩
 replace hB:=onS hB kb
 clear kb tb
 rw [hlA] at c1 ⊢
 go_wp2_with fail
 refine (refInt_any 1 _ (by omega) (by omega)).mono ?_
 rintro e w4 ⟨Aa,ca,Ba,da,rfl,a1,a2,a3,a4,a5,a6,kb⟩
 rw [<-HO.out] at a1 a2 a3 a5 ⊢
 replace c3:=c3.on kb
 replace hB:=onS hB kb
 clear kb
 go_wp2_with fail
 refine (refInt_any (-1) _ (by omega) (by omega)).mono ?_
 rintro e w5 ⟨Ab,cb,Bb,db,rfl,b1,b2,b3,b4,b5,b6,kb⟩
 rw [<-HMO.out] at b1 b2 b3 b5 ⊢
 replace a1:=a1.on kb
 replace a2:=a2.on kb
 replace c3:=c3.on kb
 replace hB:=onS hB kb
 clear kb
 have kb:=below_one w5 (.cells #[.bool (rneg o),.slice Aa (dl o.num.natAbs) ca,.slice Ba (dl o.den) da,.bool (rneg mo),.slice Ab (dl mo.num.natAbs) cb,.slice Bb (dl mo.den) db] 31)
 have tb:=ratTab_pair 31 (N:=200) (ratPost_raw a1 a2 a3 a4 a5 a6 (hso.mono (by omega))) (ratPost_raw b1 b2 b3 b4 b5 b6 (hsm.mono (by omega)))
 replace c3:=c3.on kb
 replace hB:=onS hB kb
 clear kb a1 a2 a3 a4 a5 a6 b1 b2 b3 b4 b5 b6
 go_wp2_with fail
 refine (refPower_any _ 2 2 (n - v) 200 (pairR o mo) _ tb (by omega) (by omega) hsC (by omega) hLC hRC).mono ?_
 rintro e w6 ⟨Ad,cd,rfl,d1,d2,d3,kb⟩
 replace c3:=c3.on kb
 replace hB:=onS hB kb
 clear kb tb
 rw [hlC] at d1 ⊢
 have tc:=RatList.tab c3 (hRA.out v (Nat.le_refl _))
 have td:=RatList.tab d3 (hRC.out (n - v) (Nat.le_refl _))
 have hrc:=hid (hRA.out v (Nat.le_refl _))
 have hrd:=hid (hRC.out (n - v) (Nat.le_refl _))
 rw [hlA] at tc hrc
 rw [hlC] at td hrd
 rw [hlA,hlC] at PL PV
 have hmul:(v+1)*(200+200+1)<=65*401:=Nat.mul_le_mul (by omega) (by omega)
 have HK:Hid (∀ (W:World) (e:Ending) (W':World),PolyPost (clen (mulP (pwP (pairR z u) 2 v).2 (v+1) (pwP (pairR o mo) 2 (n - v)).2 (n - v+1)) (v+1+(n - v+1))) (mulP (pwP (pairR z u) 2 v).2 (v+1) (pwP (pairR o mo) 2 (n - v)).2 (n - v+1)) W e W'->PolyPost (n+1) (patR q n v) W e W'):=fun W e W' ⟨A,c,h1,h2,h3,h4,h5⟩=>by
  rw [PL.out] at h1 h2 h4
  exact ⟨A,c,h1,h2,h3,h4.congr PV.out,h5⟩
 clear hlA hlC c3 d3 PL PV
 go_wp2_with fail
 refine ((refPMul_any Ac Ad (v+1) cc (n - v+1) cd 200 (65*401) _ _ _ tc td (by omega) (by omega) hmul (by omega) hrc hrd).mono (fun e W'=>HK.out _ e W')).mono ?_
 rintro e w7 ⟨A3,c3,rfl,l1,l2,l3,kb⟩
 replace hB:=onS hB kb
 obtain ⟨M,hM⟩:∃ M,M=n+1:=⟨_,rfl⟩
 rw [<-hM] at l1 l3 ⊢
 have HM:=hid hM
 clear kb hM tc td
 go_wp2
 go_ret
 rw [<-HM.out]
 exact ⟨_,_,rfl,l1,l2,l3,hB⟩
theorem cutR_clen (rs:Nat->Rat) (m i:Nat):cutR rs (clen rs m) i=cutR rs m i:=by
 have:=clen_le rs m
 unfold cutR
 by_cases h:i<clen rs m
 ·rw [if_pos h,if_pos (by omega)]
 ·rw [if_neg h]
  by_cases h2:i<m
  ·rw [if_pos h2,clen_zero (rs:=rs) (m:=m) (i:=i) (by omega) h2]
  ·rw [if_neg h2]
theorem cutR_sumP (a b:Nat->Rat) (m m' i:Nat):cutR (sumP a m b m') (max m m') i=cutR a m i+cutR b m' i:=by
 unfold cutR
 by_cases h:i<max m m'
 ·rw [if_pos h]; rfl
 ·rw [if_neg h,if_neg (by omega),if_neg (by omega),Rat.add_zero]
theorem mulP_one (c:Rat) (b:Nat->Rat) (mB p:Nat):mulP (fun _=>c) 1 b mB p=if p<mB then c*b p else 0:=by
 have:=mulP_mono (A:=fun _=>c) (B:=b) (v:=0) (mB:=mB) (U:=c) (fun i hi=>by rw [if_pos (by omega)]) p
 rw [show (0:Nat)+1=1 from rfl] at this
 rw [this]
 simp
theorem rsz_nat {x:Nat} {L:Nat} (h:dl x<=L) (hL:1<=L):rsz (x:Rat) L:=by
 refine ⟨?_,?_⟩
 ·show dl (x:Int).natAbs<=L
  simpa using h
 ·show dl 1<=L
  rw [dl_one]; exact hL
def NatRTab (w:World) (B:Nat) (T:Option Addr) (m:Nat) (xs:Nat->Nat) (N:Nat):Prop :=
 ∀ i,i<m->∃ b off A n c,T=some ⟨b,off,none⟩/\b<B/\w.cell? ⟨b,off+i,none⟩=some (.slice A n c)/\NatRaw w B A n (xs i)/\n<=c/\c<=maxLen/\n<=N
theorem NatRTab.on {w w':World} {T:Option Addr} {m N:Nat} {xs:Nat->Nat} (h:NatRTab w w.heap.size T m xs N) (hb:Below w.heap.size w w'):NatRTab w' w'.heap.size T m xs N:=fun i hi=>by
 obtain ⟨b,off,A,n,c,e,h1,h2,h3,h4⟩:=h i hi
 exact ⟨b,off,A,n,c,e,Nat.lt_of_lt_of_le h1 hb.size,(hb.cell (p:=⟨b,_,none⟩) h1).trans h2,h3.on hb,h4⟩
def NatLens (w:World) (T:Option Addr) (m:Nat) (ln:Nat->Nat):Prop:=∀ i,i<m->∃ b off A c,T=some ⟨b,off,none⟩/\b<w.heap.size/\w.cell? ⟨b,off+i,none⟩=some (.slice A (ln i) c)/\ln i<=c/\c<=maxLen
theorem NatLens.on {w w':World} {T:Option Addr} {m:Nat} {ln:Nat->Nat} (h:NatLens w T m ln) (hb:Below w.heap.size w w'):NatLens w' T m ln:=fun i hi=>by
 obtain ⟨b,off,A,c,e,h1,h2,h3⟩:=h i hi
 exact ⟨b,off,A,c,e,Nat.lt_of_lt_of_le h1 hb.size,(hb.cell (p:=⟨b,_,none⟩) h1).trans h2,h3⟩
def cl2 (p:Nat × (Nat->Rat)) (i:Nat):Rat:=cutR p.2 p.1 i
def tmP (q n x k:Nat):Nat × (Nat->Rat):=(clen (mulP (fun _=>(x:Rat)) 1 (patR q n k) (n+1)) (1+(n+1)),mulP (fun _=>(x:Rat)) 1 (patR q n k) (n+1))
def adP (a b:Nat × (Nat->Rat)):Nat × (Nat->Rat):=(clen (sumP a.2 a.1 b.2 b.1) (max a.1 b.1),sumP a.2 a.1 b.2 b.1)
def wtP (q n:Nat) (xs:Nat->Nat):Nat->Nat × (Nat->Rat)
 | 0=>(0,fun _=>0)
 | k+1=>if xs k=0 then wtP q n xs k else adP (wtP q n xs k) (tmP q n (xs k) k)
theorem sumP_cl2 {a a' b:Nat × (Nat->Rat)} (h:∀ i,cl2 a i=cl2 a' i):sumP a.2 a.1 b.2 b.1=sumP a'.2 a'.1 b.2 b.1:=by
 funext i
 show cutR a.2 a.1 i+_=cutR a'.2 a'.1 i+_
 have:=h i
 unfold cl2 at this
 rw [this]
theorem clen_clen (rs:Nat->Rat) (m:Nat):clen rs (clen rs m)=clen rs m:=by
 induction m with
 | zero=>rfl
 | succ m ih =>
  by_cases e:rs m=0
  ·rw [clen_skip e,ih]
  ·rw [clen_top e,clen_top e]
theorem clen_cut (rs:Nat->Rat) (m:Nat):clen (cutR rs m) m=clen rs m:=clen_congr fun i hi=>by unfold cutR; rw [if_pos hi]
def SameP (a b:Nat × (Nat->Rat)):Prop:=a.1=b.1/\(∀ i,cl2 a i=cl2 b i)/\clen b.2 b.1=b.1
theorem SameP.add {a b p:Nat × (Nat->Rat)} (h:SameP a b):SameP (adP a p) (adP b p):=by
 obtain ⟨h1,h2,h3⟩:=h
 unfold adP
 rw [sumP_cl2 (b:=p) h2,h1]
 exact ⟨rfl,fun i=>rfl,clen_clen _ _⟩
theorem tmP_zero (q n k:Nat):(tmP q n 0 k).1=0:=by
 have:∀ m,clen (mulP (fun _=>((0:Nat):Rat)) 1 (patR q n k) (n+1)) m=0:=fun m=>by
  induction m with
  | zero=>rfl
  | succ m ih =>
   rw [clen_skip,ih]
   rw [mulP_one]
   split
   ·show (0:Rat)*_=0; grind
   ·rfl
 exact this _
theorem SameP.skip {a b:Nat × (Nat->Rat)} (h:SameP a b) {p:Nat × (Nat->Rat)} (hp:p.1=0):SameP a (adP b p):=by
 obtain ⟨h1,h2,h3⟩:=h
 have hs:sumP b.2 b.1 p.2 p.1=cutR b.2 b.1:=by
  funext i
  show cutR b.2 b.1 i+cutR p.2 p.1 i=_
  have:cutR p.2 p.1 i=0:=by unfold cutR; rw [hp,if_neg (by omega)]
  rw [this]; grind
 have e1:(adP b p).1=b.1:=by
  unfold adP
  show clen _ _=_
  rw [hs,hp,Nat.max_eq_left (Nat.zero_le _),clen_cut,h3]
 refine ⟨by rw [e1]; exact h1,fun i=>?_,?_⟩
 ·rw [h2 i]
  show _=cutR (adP b p).2 (adP b p).1 i
  rw [e1]
  show cutR b.2 b.1 i=cutR (sumP b.2 b.1 p.2 p.1) b.1 i
  rw [hs]
  unfold cutR
  split <;> rfl
 ·exact clen_clen _ _
theorem rsz_cl2 {p:Nat × (Nat->Rat)} {N:Nat} (h:∀ i,rsz (cl2 p i) N):∀ i,i<p.1->rsz (p.2 i) N:=fun i hi=>by
 have:=h i
 unfold cl2 cutR at this
 rwa [if_pos hi] at this
theorem rsz_pat {q n k:Nat} (hq:2<=q) (hq2:q<=256) (hn:n<=64) (hk:k<=64) (i:Nat):rsz (patR q n k i) 200:=by
 unfold patR
 split
 ·exact rsz_zero.mono (by omega)
 ·exact rsz_rv (by have:=dl_chs (n - k) (i - k) (by omega); omega) (by have:=dl_qpow (q:=q - 1) (n:=k) (by omega) (by omega); omega) (by omega)
theorem rsz_tm {q n x k:Nat} (hq:2<=q) (hq2:q<=256) (hn:n<=64) (hk:k<=64) (hx:dl x<=8) (i:Nat):rsz ((tmP q n x k).2 i) 500 :=
 (rsz_outP (N:=200) (a:=fun _=>(x:Rat)) (b:=patR q n k) (m:=1) (m':=n+1) (fun _ _=>rsz_nat (by omega) (by omega)) (fun i _=>rsz_pat hq hq2 hn hk i) 1 (Nat.le_refl _) i).mono (by omega)
theorem rsz_cut {rs:Nat->Rat} {m N:Nat} (h:∀ i,rsz (rs i) N) (i:Nat):rsz (cutR rs m i) N:=by
 unfold cutR
 split
 ·exact h i
 ·exact rsz_zero.mono (rsz_pos (h 0))
theorem rsz_ad {a b:Nat × (Nat->Rat)} {N M:Nat} (h1:∀ i,rsz (cl2 a i) N) (h2:∀ i,rsz (b.2 i) M) (i:Nat):rsz (cl2 (adP a b) i) (N+M+1):=by
 show rsz (cutR (sumP a.2 a.1 b.2 b.1) (clen _ _) i) _
 rw [cutR_clen,cutR_sumP]
 exact rsz_add (h1 i) (rsz_cut h2 i)
theorem rsz_wt {q n:Nat} {xs:Nat->Nat} (hq:2<=q) (hq2:q<=256) (hn:n<=64) (hx:∀ k,k<=n->dl (xs k)<=8):∀ k,k<=n+1->∀ i,rsz (cl2 (wtP q n xs k) i) (1+k*501):=by
 intro k
 induction k with
 | zero=>intro _ i; show rsz (cutR _ 0 i) _; unfold cutR; rw [if_neg (by omega)]; exact rsz_zero
 | succ k ih =>
  intro hk i
  show rsz (cl2 (if xs k=0 then _ else _) i) _
  split
  ·exact (ih (by omega) i).mono (by omega)
  ·exact (rsz_ad (ih (by omega)) (rsz_tm hq hq2 hn (by omega) (hx k (by omega))) i).mono (by omega)
theorem wtP_len (q n:Nat) (xs:Nat->Nat) (k:Nat):(wtP q n xs k).1<=n+2:=by
 induction k with
 | zero=>exact Nat.zero_le _
 | succ k ih =>
  show (if xs k=0 then _ else _:Nat × (Nat->Rat)).1<=_
  split
  ·exact ih
  ·have h1:(tmP q n (xs k) k).1<=n+2:=by have:=clen_le (mulP (fun _=>((xs k:Nat):Rat)) 1 (patR q n k) (n+1)) (1+(n+1)); show clen _ _<=_; omega
   refine Nat.le_trans (clen_le _ _) ?_
   omega
theorem ratTab_one {w:World} (T:TypeId) {s:Bool} {A A2:Option Addr} {n c k c2 N:Nat} {r:Rat} {rs:Nat->Rat} (hr:rs 0=r)
  (h:RatRaw w w.heap.size (.agg #[.bool s,.slice A n c,.slice A2 k c2]) r N) :
  RatTab (w.alloc (.cells #[.bool s,.slice A n c,.slice A2 k c2] T)) (w.alloc (.cells #[.bool s,.slice A n c,.slice A2 k c2] T)).heap.size (some ⟨w.heap.size,0,none⟩) 1 rs N:=fun i hi=>by
 obtain rfl:i=0:=by omega
 subst hr
 have hb:=below_one w (.cells #[.bool s,.slice A n c,.slice A2 k c2] T)
 have hg:=heap_alloc_new w (.cells #[.bool s,.slice A n c,.slice A2 k c2] T)
 exact ⟨w.heap.size,0,s,A,n,c,A2,k,c2,rfl,by simp,by rw [cell_of_row _ _ _ _ T (0,0) hg]; rfl,by rw [cell_of_row _ _ _ _ T (0,0) hg]; rfl,by rw [cell_of_row _ _ _ _ T (0,0) hg]; rfl,h.on hb⟩
theorem refTimes_any (A T:Option Addr) (l d m c x N:Nat) (rs:Nat->Rat) (w:World) (hx:NatRaw w w.heap.size A l x) (hl:l<=d) (hd:d<=maxLen) (hl8:l<=8) (h:RatTab w w.heap.size T m rs N) (hm:m<=65) (hrs:Hid (∀ i,i<m->rsz (rs i) N)) (hN:N<=1000) (hN8:8<=N) :
  Calls Tryz.prog 76 #[.slice A l d,.slice T m c] w (PolyPost (clen (mulP (fun _=>(x:Rat)) 1 rs m) (1+m)) (mulP (fun _=>(x:Rat)) 1 rs m) w):=by
 have hxl:=hx.dl
 have hc1:Hid (∀ i,i<1->rsz ((fun _=>(x:Rat)) i:Rat) N):=fun i _=>rsz_nat (by omega) (by omega)
 have hPO:Hid (∀ (W:World) (e:Ending) (W':World),PolyPost (clen (mulP (fun _=>(x:Rat)) 1 rs m) (1+m)) (mulP (fun _=>(x:Rat)) 1 rs m) W e W'->PolyPost (clen (mulP (fun _=>(x:Rat)) 1 rs m) (1+m)) (mulP (fun _=>(x:Rat)) 1 rs m) W e W'):=fun _ _ _ h=>h
 obtain ⟨pc,hpc⟩:∃ l,l=clen (mulP (fun _=>((x:Nat):Rat)) 1 rs m) (1+m):=⟨_,rfl⟩
 obtain ⟨PR,hPR⟩:∃ P,P=mulP (fun _=>((x:Nat):Rat)) 1 rs m:=⟨_,rfl⟩
 have hMU:Hid (∀ (W:World) (e:Ending) (W':World),PolyPost (clen (mulP (fun _=>((x:Nat):Rat)) 1 rs m) (1+m)) (mulP (fun _=>((x:Nat):Rat)) 1 rs m) W e W'->PolyPost pc PR W e W'):=fun _ _ _ h=>by rw [hpc,hPR]; exact h
 rw [<-hpc,<-hPR]
 clear hpc hPR hPO
 go_enter Tryz.func76, Tryz.ntmps76
 go_wp2_with fail
 refine (refNat02_any A l d x _ hx hl hd (by omega)).mono ?_
 rintro e w6 ⟨Aa,cc,Ba,da,rfl,a1,a2,a3,a4,a5,a6,kb⟩
 replace h:=h.on kb
 have hB:=kb
 clear kb
 obtain ⟨rx,hrx⟩:∃ z:Rat,z=(x:Rat):=⟨_,rfl⟩
 rw [<-hrx] at a1 a2 a3 a5 hMU hc1 ⊢
 clear hrx
 have hone:=ratList_one 31 (rs:=fun _=>rx) rfl a1 a2 a3 a4 a5 a6
 have kb:=below_one w6 (.cells #[.bool (rneg rx),.slice Aa (dl rx.num.natAbs) cc,.slice Ba (dl rx.den) da] 31)
 replace h:=h.on kb
 replace hB:=onS hB kb
 have t1:=hone.tab hc1.out
 clear kb a1 a2 a3 a4 a5 a6 hone
 go_wp2_with fail
 refine ((refPMul_any _ T 1 1 m c N (N+N+1) (fun _=>rx) rs _ t1 h (by omega) (by omega) (by omega) (by omega) hc1 hrs).mono (fun e W'=>hMU.out _ e W')).mono ?_
 rintro e w7 ⟨Tb,cb,rfl,o1,o2,o3,kb⟩
 replace hB:=onS hB kb
 clear kb t1 h
 go_wp2
 go_ret
 exact ⟨_,_,rfl,o1,o2,o3,hB⟩
theorem weighted_any (q n:Nat) (T:Option Addr) (M c:Nat) (xs:Nat->Nat) (w:World) (h:NatRTab w w.heap.size T M xs 8) (hq:2<=q) (hq2:q<=256) (hn:n<=64) (hM:M=n+1) :
  Calls Tryz.prog 45 #[.int .i64 (q:Nat),.slice T M c] w (PolyPost (wtP q n xs (n+1)).1 (wtP q n xs (n+1)).2 w):=by
 have hdx:Hid (∀ k,k<=n->dl (xs k)<=8):=fun k hk=>by
  obtain ⟨b,off,A,l,d,_,_,_,h3,_,_,h5⟩:=h k (by omega)
  have:=h3.dl
  omega
 have hRS:Hid (∀ k,k<=n+1->∀ i,rsz (cl2 (wtP q n xs k) i) (1+k*501)):=rsz_wt hq hq2 hn hdx.out
 have hMi:(M:Int) - 1=(n:Int):=by omega
 rw [<-hM]
 have hM1:M<=n+1:=by omega
 have hM2:n+1<=M:=by omega
 have HM:=hid hM
 clear hM
 go_enter Tryz.func45, Tryz.ntmps45
 go_wp2
 go_loopg [5,10] M (fun gg ov iv wx=>∃ k:Nat,∃ A d,iv=.int .i64 (k:Nat)/\k<=M/\M<=k+gg/\ov=.slice A (wtP q n xs k).1 d/\(wtP q n xs k).1<=d/\d<=maxLen/\RatList wx wx.heap.size A (wtP q n xs k).1 (wtP q n xs k).2/\Below w.heap.size w wx)
 case atStart=>exact ⟨0,none,0,rfl,by omega,by omega,rfl,Nat.le_refl 0,by unfold maxLen; omega,fun i hi=>absurd hi (Nat.not_lt_zero i),Below.refl _ _⟩
 case round =>
  obtain ⟨k,A,d,rfl,hk,hkg,rfl,hd1,hd2,hl,hB⟩:=hrel
  have hk0:(0:Int)<=(k:Int):=by omega
  have hLk:=wtP_len q n xs k
  have ht:=hl.tab (rsz_cl2 (hRS.out k (by omega)))
  have hrk:=rsz_cl2 (hRS.out k (by omega))
  by_cases hlt:k<M
  ·have hlt':(k:Int)<(M:Int):=by omega
   obtain ⟨b,off,A1,l1,d1,rfl,hb,t0,hx0,g1,g2,g3⟩:=h k hlt
   have t1:=cellS hB t0
   have hx:=hx0.on hB
   by_cases hx0':xs k=0
   ·have hnx:Hid (wtP q n xs (k+1)=wtP q n xs k):=by show (if xs k=0 then _ else _)=_; rw [if_pos hx0']
    rw [hx0'] at hx
    have hnl:nlen 0=0:=nlen_zero
    obtain ⟨L,hL⟩:∃ L,L=(wtP q n xs k).1:=⟨_,rfl⟩
    rw [<-hL]
    have HL:=hid hL
    clear ht hrk hL hx0' hx0
    go_wp2_with fail
    refine (natBits_raw A1 l1 d1 0 _ hx g1 g2 (by omega)).mono ?_
    rintro e w1 ⟨rfl,rfl⟩
    rw [hnl]
    clear hnl t1 t0
    go_wp2
    go_roundg (gk - 1)
    case measure=>omega
    case rel=>exact ⟨k+1,A,d,by go_num,by omega,by omega,by rw [hnx.out,HL.out],by rw [hnx.out]; exact hd1,hd2,by rw [hnx.out]; exact hl,hB⟩
   ·have hxp:0<nlen (xs k):=Nat.pos_of_ne_zero fun e=>hx0' (nlen_eq_zero.1 e)
    have hxp':(0:Int)<((nlen (xs k):Nat):Int):=by omega
    have hpo:Hid (∀ (W:World) (e:Ending) (W':World),PolyPost (clen (sumP (wtP q n xs k).2 (wtP q n xs k).1 (tmP q n (xs k) k).2 (tmP q n (xs k) k).1) (max (wtP q n xs k).1 (tmP q n (xs k) k).1)) (sumP (wtP q n xs k).2 (wtP q n xs k).1 (tmP q n (xs k) k).2 (tmP q n (xs k) k).1) W e W'->PolyPost (wtP q n xs (k+1)).1 (wtP q n xs (k+1)).2 W e W'):=fun _ _ _ h=>by
     have e:wtP q n xs (k+1)=adP (wtP q n xs k) (tmP q n (xs k) k):=by show (if xs k=0 then _ else _)=_; rw [if_neg hx0']
     rw [e]; exact h
    have hmu:Hid (∀ (W:World) (e:Ending) (W':World),PolyPost (clen (mulP (fun _=>((xs k:Nat):Rat)) 1 (patR q n k) (n+1)) (1+(n+1))) (mulP (fun _=>((xs k:Nat):Rat)) 1 (patR q n k) (n+1)) W e W'->PolyPost (tmP q n (xs k) k).1 (tmP q n (xs k) k).2 W e W'):=fun _ _ _ h=>h
    have htm:Hid (∀ i,i<(tmP q n (xs k) k).1->rsz ((tmP q n (xs k) k).2 i) 33000):=fun i _=>(rsz_tm hq hq2 hn (by omega) (hdx.out k (by omega)) i).mono (by omega)
    have htl:(tmP q n (xs k) k).1<=n+2:=by have:=clen_le (mulP (fun _=>((xs k:Nat):Rat)) 1 (patR q n k) (n+1)) (1+(n+1)); show clen _ _<=_; omega
    have hdx1:=hdx.out k (by omega)
    have hpat:Hid (∀ i,i<n+1->rsz (patR q n k i) 200):=fun i _=>rsz_pat hq hq2 hn (by omega) i
    have hrk':Hid (∀ i,i<(wtP q n xs k).1->rsz ((wtP q n xs k).2 i) 33000):=fun i hi=>(hrk i hi).mono (by omega)
    have ht':=ht.mono (show 1+k*501<=33000 by omega)
    obtain ⟨L,hL⟩:∃ L,L=(wtP q n xs k).1:=⟨_,rfl⟩
    obtain ⟨S,hS⟩:∃ S,S=(wtP q n xs k).2:=⟨_,rfl⟩
    obtain ⟨tl,hTL⟩:∃ L,L=(tmP q n (xs k) k).1:=⟨_,rfl⟩
    obtain ⟨ts,hTS⟩:∃ S,S=(tmP q n (xs k) k).2:=⟨_,rfl⟩
    rw [<-hL] at hLk hd1
    rw [<-hL,<-hS] at ht' hrk' hpo
    rw [<-hTL,<-hTS] at hpo hmu htm
    rw [<-hTL] at htl
    rw [<-hL]
    clear hl ht hrk hL hS hTL hTS hx0'
    obtain ⟨x,hxe⟩:∃ x,x=xs k:=⟨_,rfl⟩
    rw [<-hxe] at hx hmu hdx1 hxp hxp'
    clear hxe hx0
    obtain ⟨P,hP⟩:∃ P,P=n+1:=⟨_,rfl⟩
    have hpp:Hid (∀ (W:World) (e:Ending) (W':World),PolyPost (n+1) (patR q n k) W e W'->PolyPost P (patR q n k) W e W'):=fun _ _ _ h=>by rw [hP]; exact h
    rw [<-hP] at hmu hpat
    have hP65:P<=65:=by omega
    clear hP
    have hc1:Hid (∀ i,i<1->rsz ((fun _=>(x:Rat)) i:Rat) 200):=fun i _=>rsz_nat (by omega) (by omega)
    go_wp2_with fail
    refine (natBits_raw A1 l1 d1 x _ hx g1 g2 (by omega)).mono ?_
    rintro e w1 ⟨rfl,hw1⟩
    rw [<-hw1]
    clear hw1 t0
    have o1:=natOk_one (w:=wr) 89 (x:=1) (by omega) (by omega)
    have kb:=below_one wr (.cells #[.int .u32 1] 89)
    replace hx:=hx.on kb
    replace ht':=ht'.on kb
    replace hB:=onS hB kb
    have hd1':=dl_one
    have hraw:RatRaw _ _ (.agg #[.bool false,.slice A1 l1 d1,.slice (some ⟨wr.heap.size,0,none⟩) 1 1]) (x:Rat) 200:=⟨false,A1,l1,d1,some ⟨wr.heap.size,0,none⟩,1,1,x,1,rfl,hx,by have:=o1.raw; rw [hd1'] at this; exact this,g1,g2,by omega,by unfold maxLen; omega,by omega,by omega,by rw [rv_one]; rfl⟩
    have tb:=ratTab_one 31 (rs:=fun _=>(x:Rat)) rfl hraw
    have esz:(wr.alloc (.cells #[.int .u32 1] 89)).heap.size=wr.heap.size+1:=by simp
    rw [esz] at tb
    clear esz
    have kb2:=below_one (wr.alloc (.cells #[.int .u32 1] 89)) (.cells #[.bool false,.slice A1 l1 d1,.slice (some ⟨wr.heap.size,0,none⟩) 1 1] 31)
    replace ht':=ht'.on kb2
    replace hB:=onS hB kb2
    clear kb kb2 o1 hraw hx hd1'
    go_wp2_with fail
    obtain ⟨wz,hwz⟩:∃ W,W=(wr.alloc (.cells #[.int .u32 1] 89)).alloc (.cells #[.bool false,.slice A1 l1 d1,.slice (some ⟨wr.heap.size,0,none⟩) 1 1] 31):=⟨_,rfl⟩
    obtain ⟨gz,hgz⟩:∃ g,g=wr.heap.size+1:=⟨_,rfl⟩
    rw [<-hwz] at tb ht' hB ⊢
    rw [<-hgz] at tb ⊢
    clear hwz hgz
    refine ((chPattern_any q n k _ hq hq2 hn (by omega)).mono (fun e W'=>hpp.out _ e W')).mono ?_
    rintro e w2 ⟨Ta,ca,rfl,p1,p2,l3,kb⟩
    replace ht':=ht'.on kb
    replace tb:=tb.on kb
    replace hB:=onS hB kb
    have t2:=l3.tab hpat.out
    clear kb l3 t1
    go_wp2_with fail
    refine ((chPMul_any _ Ta 1 1 P ca 200 401 (fun _=>(x:Rat)) (patR q n k) _ tb t2 (by omega) (by omega) (by omega) (by omega) hc1 hpat).mono (fun e W'=>hmu.out _ e W')).mono ?_
    rintro e w3 ⟨Tb,cb,rfl,q1,q2,l4,kb⟩
    replace ht':=ht'.on kb
    replace hB:=onS hB kb
    have t3:=l4.tab htm.out
    clear kb tb t2 l4
    go_wp2_with fail
    refine ((chPAdd_any A Tb L d tl cb 33000 S ts _ ht' t3 (by omega) (by omega) (by omega) hrk' htm).mono (fun e W'=>hpo.out _ e W')).mono ?_
    rintro e w4 ⟨Tc,cc,rfl,s1,s2,l5,kb⟩
    replace hB:=onS hB kb
    obtain ⟨L',hL'⟩:∃ L,L=(wtP q n xs (k+1)).1:=⟨_,rfl⟩
    rw [<-hL'] at s1 l5 ⊢
    have HL:=hid hL'
    clear kb t3 ht' hL'
    go_wp2
    go_roundg (gk - 1)
    case measure=>omega
    case rel=>exact ⟨k+1,Tc,cc,by go_num,by omega,by omega,by rw [HL.out],by rw [HL.out] at s1; exact s1,s2,by rw [HL.out] at l5; exact l5,hB⟩
  ·obtain rfl:k=M:=by omega
   have hlt':¬ (k:Int)<(k:Int):=by omega
   obtain ⟨L,hL⟩:∃ L,L=(wtP q n xs k).1:=⟨_,rfl⟩
   rw [<-hL] at hd1 hl ⊢
   have HL:=hid hL
   clear hL ht hrk hlt
   go_wp2
   go_ret
   rw [<-HL.out]
   exact ⟨_,_,rfl,hd1,hd2,hl,hB⟩
theorem dig_sum {q:Nat} (hq:0<q) {n x y:Nat} (hx:x<q ^ n) (hy:y<q ^ n) (h:∀ t,t<n->dig q x t=dig q y t):x=y:=dig_ext hq hx hy h
section
variable {q n k:Nat} {add mul:Nat->Nat->Nat} {V:Nat->Nat->Nat}
theorem nrow_free {neg:Nat->Nat} {p:Nat->Nat} {W:Nat->Nat->Nat} {c j:Nat}:∀ a,(∀ s,s<a->p s≠j)->nrow neg p W c a j=if j=c then 1 else 0
 | 0,_=>rfl
 | a+1,h=>by
  unfold nrow
  rw [if_neg (fun e=>h a (by omega) e.symm)]
  exact nrow_free a fun s hs=>h s (by omega)
theorem nrow_pv {neg:Nat->Nat} {p:Nat->Nat} {W:Nat->Nat->Nat} {c s:Nat}:∀ a,(∀ t u,t<u->u<a->p t<p u)->s<a->nrow neg p W c a (p s)=neg (W s c)
 | 0,_,h=>absurd h (by omega)
 | a + 1, hi, hs => by
  unfold nrow
  by_cases e:s=a
  ·subst e; rw [if_pos rfl]
  ·have:=hi s a (by omega) (by omega)
   rw [if_neg (by omega)]
   exact nrow_pv a (fun t u h1 h2=>hi t u h1 (by omega)) (by omega)
end
structure OnEl (q:Nat) (add mul:Nat->Nat->Nat) [Add (El q)] [Mul (El q)] [Neg (El q)] [Zero (El q)] [One (El q)]:Prop where
 fie:Fie (El q)
 ha:∀ x y:El q,(x+y).val=add x.val y.val
 hm:∀ x y:El q,(x*y).val=mul x.val y.val
 h0:(0:El q).val=0
 h1:(1:El q).val=1
section
variable {q n N a2:Nat} {add mul:Nat->Nat->Nat} {neg:Nat->Nat} {V W2:Nat->Nat->Nat} (hq:0<q) [iA:Add (El q)] [iM:Mul (El q)] [iN:Neg (El q)] [i0:Zero (El q)] [i1:One (El q)] (O:OnEl q add mul)
include O
theorem back_word {m:Nat} {U:Nat->Nat->Nat} {x:List (El q)} (hx:Gen N m (fun i=>wordK q hq N (U i)) x):x=wordK q hq N (fun j=>(ent x j).val):=by
 refine ent_ext (gen_comb O.fie (N:=fun i j=>toEl q hq (U i j)) hx).1 (wordK_len hq N _) fun j hj=>?_
 rw [wordK_wd hq,ent_wd hj]
 exact El.ext' (toEl_val hq (ent x j).lt).symm
variable (hL:FieldLaws q add mul)
include hL
theorem gen_same {m m':Nat} {U U':Nat->Nat->Nat} (hU:∀ i,i<m->∀ j,j<N->U i j<q) (hU':∀ i,i<m'->∀ j,j<N->U' i j<q) (e:SameSp q add mul N m m' U U') (x:List (El q)):Gen N m (fun i=>wordK q hq N (U i)) x↔Gen N m' (fun i=>wordK q hq N (U' i)) x:=by
 constructor
 ·intro hx
  have ex:=back_word hq O hx
  rw [ex] at hx ⊢
  exact (inSp_gen hq O.fie hL O.ha O.hm O.h0 hU' fun j _=>(ent x j).lt).1 ((e _).1 ((inSp_gen hq O.fie hL O.ha O.hm O.h0 hU fun j _=>(ent x j).lt).2 hx))
 ·intro hx
  have ex:=back_word hq O hx
  rw [ex] at hx ⊢
  exact (inSp_gen hq O.fie hL O.ha O.hm O.h0 hU fun j _=>(ent x j).lt).1 ((e _).2 ((inSp_gen hq O.fie hL O.ha O.hm O.h0 hU' fun j _=>(ent x j).lt).2 hx))
theorem NullRel.perp (hneg:∀ x,x<q->neg x<q/\add x (neg x)=0) (hV:∀ i,i<n->∀ j,j<N->V i j<q) (h:NullRel q add mul neg n N V a2 W2) (x:List (El q)) :
  perpW N (Gen N n fun i=>wordK q hq N (V i)) x↔Gen N a2 (fun i=>wordK q hq N (W2 i)) x:=by
 obtain ⟨a,p,W,f,fr,Nn,p2,hE,hR,hN,hE2,hR2⟩:=h
 obtain ⟨hs,hWl⟩:=hR.sp hL hV
 have hle:=hE.le
 have hq2:=hL.two
 have hNl:∀ u,u<f->∀ j,j<N->Nn u j<q:=fun u hu j hj=>by
  rw [hN.row u hu j hj]
  have hfu:=hN.lt u hu
  rcases hN.cover j hj with ⟨s,hs,e⟩ | ⟨v,hv,e⟩
  ·rw [<-e,nrow_pv a hE.inc hs]
   exact (hneg _ (hWl s (by omega) _ hfu)).1
  ·rw [nrow_free a fun s hs e2=>hN.ne v hv s hs (e2.trans e.symm)]
   split <;> omega
 obtain ⟨hs2,hWl2⟩:=hR2.sp hL hNl
 have s1:=gen_same hq O hL hV (hE.top.lt) (fun x=>(hs x).trans (hE.sp_top hL x)) x
 have s1':∀ x,Gen N n (fun i=>wordK q hq N (V i)) x↔Gen N a (fun i=>wordK q hq N (W i)) x:=gen_same hq O hL hV (hE.top.lt) (fun x=>(hs x).trans (hE.sp_top hL x))
 have s2:=gen_same hq O hL hNl (hE2.top.lt) (fun x=>(hs2 x).trans (hE2.sp_top hL x)) x
 rw [<-s2]
 have hK:NullK N a p (fun i j=>toEl q hq (W i j)) f fr (fun i j=>toEl q hq (Nn i j)):=by
  refine ⟨hN.lt,hN.ne,hN.cover,fun u hu=>?_,fun u hu s hs=>?_,fun u hu v hv hne=>?_⟩
  ·rw [hN.row u hu _ (hN.lt u hu),nrow_free a (hN.ne u hu),if_pos rfl]
   exact El.ext' (by rw [toEl_val hq (by omega),O.h1])
  ·rw [hN.row u hu _ (hE.pvlt s hs),nrow_pv a hE.inc hs]
   obtain ⟨g1,g2⟩:=hneg _ (hE.lt s (by omega) _ (hN.lt u hu))
   refine O.fie.negOf (El.ext' ?_)
   rw [O.ha,toEl_val hq (hE.lt s (by omega) _ (hN.lt u hu)),toEl_val hq g1,g2,O.h0]
  ·have hne2:fr v≠fr u:=by
    rcases Nat.lt_or_gt_of_ne hne with h1 | h1
    ·have:=hN.inc v u h1 hu; omega
    ·have:=hN.inc u v h1 hv; omega
   refine ⟨hne2,?_⟩
   rw [hN.row u hu _ (hN.lt v hv),nrow_free a (hN.ne v hv),if_neg hne2]
   exact El.ext' (by rw [toEl_val hq hq,O.h0])
 have:=NullK.perp O.fie (hE.toK hq O.h0 O.h1) hK x
 refine Iff.trans ?_ this
 constructor
 ·rintro ⟨g1,g2⟩; exact ⟨g1,fun y hy=>g2 y ((s1' y).2 hy)⟩
 ·rintro ⟨g1,g2⟩; exact ⟨g1,fun y hy=>g2 y ((s1' y).1 hy)⟩
end
section
variable {H:Type} {enc:TypeId × Value->H} {w:World} {base:Nat} {spare:Nat->Bool} {held:Bool} {cs:List Value}
theorem sees_code (h:Sees enc Tryz.prog w base spare held 27 cs) :
  ∃ (P M:Int) (A:Option Addr) (k c:Nat) (N:Int) (T:Option Addr) (n d:Nat) (f:Nat->Int) (ln:Nat->Nat) (V:Nat->Nat->Int),cs=[.int .i64 P,.int .i64 M,.slice A k c,.int .i64 N,.slice T n d] /\
   -9223372036854775808<=N/\N<=9223372036854775807/\k<=c/\c<=maxLen/\n<=d/\d<=maxLen/\IntsR w w.heap.size A k f/\IntRows w T n ln V:=by
 obtain ⟨hl,_⟩:=sees_struct Tryz.underlying27 h
 match cs,hl.trans (show Tryz.prog.cellsOf 27 = 5 by kernel_rfl) with
 | [c0,c1,c2,c3,c4],_ =>
  have hc:Tryz.prog.cellsOf 3 = 1:=by kernel_rfl
  have hc':Tryz.prog.cellsOf 22 = 1:=by kernel_rfl
  have hct:Tryz.prog.cellsOf 25 = 1:=by kernel_rfl
  have hcf:Tryz.prog.cellsOf 24 = 3:=by kernel_rfl
  have gf:=sees_at Tryz.underlying27 h 0 24 0 3 ⟨_,rfl,rfl,rfl⟩ hcf
  have gN:=sees_at Tryz.underlying27 h 1 3 3 1 ⟨_,rfl,rfl,rfl⟩ hc
  have gT:=sees_at Tryz.underlying27 h 2 25 4 1 ⟨_,rfl,rfl,rfl⟩ hct
  have g0:=sees_at Tryz.underlying24 gf 0 3 0 1 ⟨_,rfl,rfl,rfl⟩ hc
  have g1:=sees_at Tryz.underlying24 gf 1 3 1 1 ⟨_,rfl,rfl,rfl⟩ hc
  have g2:=sees_at Tryz.underlying24 gf 2 22 2 1 ⟨_,rfl,rfl,rfl⟩ hc'
  obtain ⟨P,hP,_⟩:=sees_int Tryz.underlying3 g0
  obtain ⟨M,hM,_⟩:=sees_int Tryz.underlying3 g1
  obtain ⟨A,k,c,f,hs,k1,k2,hr,_⟩:=sees_ints Tryz.underlying22 Tryz.underlying3 hc g2
  obtain ⟨N,hN,hNw⟩:=sees_int Tryz.underlying3 gN
  obtain ⟨T,n,d,ln,V,hT,k3,k4,hrows⟩:=sees_rows gT
  simp at hP hM hs hN hT
  subst hP hM hs hN hT
  have:=wf_i64 hNw
  exact ⟨P,M,A,k,c,N,T,n,d,f,ln,V,rfl,this.1,this.2,k1,k2,k3,k4,hr,hrows⟩
end
end Go.Proofs.YtmgeblpnnaamnaaGreat