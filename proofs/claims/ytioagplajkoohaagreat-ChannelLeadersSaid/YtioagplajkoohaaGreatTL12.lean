/- Merged texts of a claim: PMulAll, RefEval, PolyC, WtsAll, PatAll, UndAll. -/
import Derived.Test.YtioagplajkoohaaGreatTL1
import Derived.Test.YtioagplajkoohaaGreatTL3
import Derived.Test.YtioagplajkoohaaGreatTL6
import Derived.Test.YtioagplajkoohaaGreatTL11
namespace Go.Proofs.YtioagplajkoohaaGreat
set_option maxRecDepth 100000
set_option maxHeartbeats 32000000
open KA KB KC KE
open Go.RowKit
def inP (a b:Nat->Rat) (i:Nat) (S:Nat->Rat):Nat->Nat->Rat
 | 0=>S
 | j+1=>updR (inP a b i S j) (i+j) (inP a b i S j (i+j)+a i*b j)
def outP (a b:Nat->Rat) (m':Nat):Nat->Nat->Rat
 | 0=>fun _=>0
 | i+1=>inP a b i (outP a b m' i) m'
theorem zlZ {a b:Nat->Rat} {i:Nat} {S:Nat->Rat} {j p:Nat} (h:i+j<=p∨p<i):inP a b i S j p=S p:=by
 induction j with
 | zero=>rfl
 | succ j ih =>
  show updR _ _ _ p=_
  unfold updR
  rw [if_neg (by omega)]
  exact ih (by omega)
theorem zjq {a b:Nat->Rat} {i N K m m':Nat} {S:Nat->Rat} (h1:∀ k,k<m->rsz (a k) N) (h2:∀ k,k<m'->rsz (b k) N) (hi:i<m) (hS:∀ p,rsz (S p) K) :
  ∀ j,j<=m'->∀ p,rsz (inP a b i S j p) (K+(N+N)+1):=by
 intro j
 induction j with
 | zero=>exact fun _ p=>(hS p).mono (by omega)
 | succ j ih =>
  intro hj p
  show rsz (updR _ _ _ p) _
  unfold updR
  split
  ·rw [zlZ (by omega)]
   exact zby (hS _) (zdA (h1 i hi) (h2 j (by omega)))
  ·exact ih (by omega) p
theorem zhP {a b:Nat->Rat} {N m m':Nat} (h1:∀ k,k<m->rsz (a k) N) (h2:∀ k,k<m'->rsz (b k) N) :
  ∀ i,i<=m->∀ p,rsz (outP a b m' i p) (1+i*(N+N+1)):=by
 intro i
 induction i with
 | zero=>exact fun _ p=>by show rsz (0:Rat) (1+0*(N+N+1)); rw [Nat.zero_mul]; exact zbu
 | succ i ih =>
  intro hi p
  have:=zjq h1 h2 (i:=i) (by omega) (ih (by omega)) m' (Nat.le_refl _) p
  rw [Nat.add_mul,Nat.one_mul]
  exact this.mono (by omega)
def mulP (a:Nat->Rat) (m:Nat) (b:Nat->Rat) (m':Nat):Nat->Rat:=outP a b m' m
theorem RowOk.put' {w:World} {g M k:Nat} {rs rs':Nat->Rat} (h:RowOk w g M k rs) (e:rs=rs'):RowOk w g M k rs':=e ▸ h
theorem zhQ (T T':Option Addr) (m c m' c' N K:Nat) (a b:Nat->Rat) (w:World) (h:RatTab w w.heap.size T m a N) (h':RatTab w w.heap.size T' m' b N) (hm:m<=524288) (hm':m'<=524288) (hK:m*(N+N+1)<=K) (hKN:K+N+N+5<=33554432) (hra:Hid (∀ k,k<m->rsz (a k) N)) (hrb:Hid (∀ k,k<m'->rsz (b k) N)) :
  Calls Tryz.prog 69 #[.slice T m c,.slice T' m' c'] w (PolyPost (clen (mulP a m b m') (m+m')) (mulP a m b m') w):=by
 obtain ⟨NN,hNN⟩:∃ n,n=K+N+N+5:=⟨_,rfl⟩
 have hn1:NN<=33554432:=by omega
 have hn2:K+N+N+5<=NN:=by omega
 clear hNN
 replace h:=h.mono (show N<=NN by omega)
 replace h':=h'.mono (show N<=NN by omega)
 have hSO:Hid (∀ i,i<=m->∀ p,rsz (outP a b m' i p) (K+1)):=fun i hi p=>(zhP hra.out hrb.out i hi p).mono (by have:i*(N+N+1)<=m*(N+N+1):=Nat.mul_le_mul_right _ hi; omega)
 have hSI:Hid (∀ i,i<m->∀ j,j<=m'->∀ p,rsz (inP a b i (outP a b m' i) j p) (K+1+(N+N)+1)):=fun i hi j hj p=>zjq hra.out hrb.out hi (hSO.out i (by omega)) j hj p
 have hwr1:IntKind.i64.wrap ((m:Int)+(m':Int))=((m+m':Nat):Int):=by rw [IntWalk.i64_in _ (by omega)]; omega
 have hwr2:(m:Int)+(m':Int)=((m+m':Nat):Int):=by omega
 obtain ⟨M,hM⟩:∃ M,M=m+m':=⟨_,rfl⟩
 rw [<-hM] at hwr1 hwr2 ⊢
 have hMle:M<=1048576:=by omega
 have hM1:m+m'<=M:=by omega
 have HM:=hid hM
 clear hM
 have hmk:=fun W=>zcX M hMle W
 have kb1:=zab w (.cells (madeCells #[.bool false,.slice none 0 0,.slice none 0 0] (M*3)) 49)
 have row:=zdD w M (fun _=>0)
 have hB:=kb1
 clear kb1
 have hm0:(0:Int)<=(m:Int):=by omega
 have hm0':(0:Int)<=(m':Int):=by omega
 go_enter Tryz.func69, Tryz.ntmps69
 go_wp2
 obtain ⟨w1,hw1⟩:∃ W,W=w.alloc (.cells (madeCells #[.bool false,.slice none 0 0,.slice none 0 0] (M*3)) 49):=⟨_,rfl⟩
 obtain ⟨g,hg⟩:∃ g,g=w.heap.size:=⟨_,rfl⟩
 rw [<-hw1,<-hg];rw [<-hw1] at hB row;rw [<-hg] at row
 have hgB:w.heap.size<=g:=by omega
 clear hw1 hg hmk hwr2 hwr1
 go_loopg [19] M (fun gg iv wx=>∃ j:Nat,iv=.int .i64 (j:Nat)/\j<=M/\M<=j+gg/\RowOk wx g M j (fun _=>0)/\Below w.heap.size w wx)
 case atStart=>exact ⟨0,rfl,by omega,by omega,row,hB⟩
 case round =>
  clear row hB
  obtain ⟨j,rfl,hj,hjg,row,hB⟩:=hrel
  have hj0:(0:Int)<=(j:Int):=by omega
  by_cases hlt:j<M
  ·have hlt':(j:Int)<(M:Int):=by omega
   obtain ⟨w0,hw0⟩:∃ W,W=wr:=⟨_,rfl⟩
   rw [<-hw0] at row hB ⊢;clear hw0
   obtain ⟨S,hSe⟩:∃ S:Nat->Rat,S=fun _=>0:=⟨_,rfl⟩
   rw [<-hSe] at row
   have HSE:=hid hSe
   clear hSe
   go_wp2_with fail
   refine (zcB _).mono ?_
   rintro e w1 ⟨Ap,cp,Bp,dp,rfl,mp1,mp2,mp3,mp4,mp5,mp6,kb⟩
   replace row:=row.on kb;replace hB:=onS hB kb;clear kb
   obtain ⟨q0,hq0⟩:∃ q:Rat,q=(0:Rat):=⟨_,rfl⟩
   rw [<-hq0] at mp1 mp2 mp3 mp5 ⊢
   replace hq0:q0=0:=hq0.trans (by rfl)
   have HQ0:=hid hq0
   have HSZq0:rsz q0 1:=by rw [hq0]; exact zbu
   clear hq0
   obtain ⟨o0,o1,o2,y0,y1,y2⟩:=row.old (j) (by omega)
   have z0:=row.froz (j*3)
   have z1:=row.froz (j*3+1)
   have z2:=row.froz (j*3+2)
   have hsz:=hB.size
   go_upto_region 6 with fail
   generalize hw3:World.setCell _ _ _=w2
   have hst:RowPut w1 g M (j) (j) (S) q0 w2:=by rw [<-hw3]; exact rowPut row (by omega) (by omega) mp1 mp2 mp3 mp4 mp5 mp6
   clear hw3 mp1 mp2 mp3 mp4 mp5 mp6;replace row:=hst.row;replace hB:=hst.below hB hgB hsz;clear hst
   rw [show max j (j+1)=j+1 by omega] at row
   clear y0 y1 y2 z0 z1 z2 hsz
   replace row:=row.whole (show q0=S j by rw [HSE.out,HQ0.out])
   rw [HSE.out] at row;clear HSE HSZq0 HQ0
   go_wp2
   go_roundg (gk - 1)
   case measure=>omega
   case rel=>exact ⟨j+1,by go_num,by omega,by omega,row,hB⟩
  ·obtain rfl:j=M:=by omega
   have hlt':¬ (j:Int)<(j:Int):=by omega
   replace row:=row.put' (show (fun _=>(0:Rat))=outP a b m' 0 from rfl)
   go_wp2
   obtain ⟨w0,hw0⟩:∃ W,W=wr:=⟨_,rfl⟩
   rw [<-hw0] at row hB ⊢;clear hw0 hlt hlt'
   obtain ⟨gK,rfl⟩:∃ gK:Nat,gK=gk:=⟨_,rfl⟩
   go_loopg [29] m (fun gg iv wx=>∃ i:Nat,iv=.int .i64 (i:Nat)/\i<=m/\m<=i+gg/\RowOk wx g j j (outP a b m' i)/\Below w.heap.size w wx)
   case atStart=>exact ⟨0,rfl,by omega,by omega,row,hB⟩
   case round =>
    clear row hB
    obtain ⟨i,rfl,hi,hig,row,hB⟩:=hrel
    have hi0:(0:Int)<=(i:Int):=by omega
    by_cases hlt:i<m
    ·have hlt':(i:Int)<(m:Int):=by omega
     obtain ⟨bx,ox,s5,A5,n5,c5,A6,n6,c6,rfl,hbx,t0,t1,t2,hrx⟩:=h i hlt
     have hrsx:=hra.out i hlt
     have u0:=cellS hB t0
     have u1:=cellS hB t1
     have u2:=cellS hB t2
     have hBo:=hB.size
     have hrl:=row.lt
     have kb:=zab wr (.cells #[.bool s5,.slice A5 n5 c5,.slice A6 n6 c6] 49)
     have rx:=zah (w:=wr) (a:=.bool s5) (b:=.slice A5 n5 c5) (c:=.slice A6 n6 c6) (T := 49)
     replace row:=row.on kb;replace hB:=onS hB kb;clear kb
     go_wp2
     obtain ⟨w2,hw2⟩:∃ W,W=wr.alloc (.cells #[.bool s5,.slice A5 n5 c5,.slice A6 n6 c6] 49):=⟨_,rfl⟩
     obtain ⟨gx,hgx⟩:∃ g,g=wr.heap.size:=⟨_,rfl⟩
     rw [<-hw2,<-hgx];rw [<-hw2] at row rx hB;rw [<-hgx] at rx hrl;clear hw2 hgx u0 u1 u2 hBo
     obtain ⟨gI,rfl⟩:∃ gK:Nat,gK=gk:=⟨_,rfl⟩
     replace row:=row.put' (show outP a b m' i=inP a b i (outP a b m' i) 0 from rfl)
     go_loopg [36] m' (fun gg jv wx=>∃ k:Nat,jv=.int .i64 (k:Nat)/\k<=m'/\m'<=k+gg/\RowOk wx g j j (inP a b i (outP a b m' i) k)/\wx.rowIs gx 49 3 (ratCell (.bool (s5)) (.slice (A5) (n5) (c5)) (.slice (A6) (n6) (c6)))/\Below w.heap.size w wx)
     case atStart=>exact ⟨0,rfl,by omega,by omega,row,rx,hB⟩
     case round =>
      clear row hB rx
      obtain ⟨k,rfl,hk,hkg,row,rx,hB⟩:=hrel
      have hk0:(0:Int)<=(k:Int):=by omega
      by_cases hlk:k<m'
      ·have hlk':(k:Int)<(m':Int):=by omega
       obtain ⟨by_,oy,s7,A7,n7,c7,A8,n8,c8,rfl,hby,v0,v1,v2,hry⟩:=h' k hlk
       have hrsy:=hrb.out k hlk
       have hik:(i:Int)+(k:Int)=((i+k:Nat):Int):=by omega
       have hikw:IntKind.i64.wrap ((i:Int)+(k:Int))=((i+k:Nat):Int):=by rw [IntWalk.i64_in _ (by omega)]; omega
       have hikl:i+k<j:=by omega
       have hikw2:IntKind.i64.wrap ((i+k:Nat):Int)=((i+k:Nat):Int):=by rw [IntWalk.i64_in _ (by omega)]
       have hikl':((i+k:Nat):Int)<(j:Int):=by omega
       have hik0:(0:Int)<=((i+k:Nat):Int):=by omega
       have hikt:((i+k:Nat):Int).toNat=i+k:=by omega
       have u0:=cellS hB v0
       have u1:=cellS hB v1
       have u2:=cellS hB v2
       have hBo:=hB.size
       have hrl2:=row.lt
       have kb:=zab wr (.cells #[.bool s7,.slice A7 n7 c7,.slice A8 n8 c8] 49)
       have ry:=zah (w:=wr) (a:=.bool s7) (b:=.slice A7 n7 c7) (c:=.slice A8 n8 c8) (T := 49)
       replace row:=row.on kb;replace rx:=zaa rx kb;replace hB:=onS hB kb;clear kb
       go_upto_region 13 with fail
       obtain ⟨w2,hw2⟩:∃ W,W=wr.alloc (.cells #[.bool s7,.slice A7 n7 c7,.slice A8 n8 c8] 49):=⟨_,rfl⟩
       obtain ⟨gy,hgy⟩:∃ g,g=wr.heap.size:=⟨_,rfl⟩
       rw [<-hw2,<-hgy];rw [<-hw2] at row rx ry hB;rw [<-hgy] at ry hrl2;clear hw2 hgy u0 u1 u2 hBo
       have hx:=hrx.on hB
       have hy:=hry.on hB
       obtain ⟨S,hSe⟩:∃ S,S=inP a b i (outP a b m' i) k:=⟨_,rfl⟩
       have hnxt:inP a b i (outP a b m' i) (k+1)=updR S (i+k) (S (i+k)+a i*b k):=by rw [hSe]; rfl
       have hsz1:=hSI.out i hlt k (by omega) (i+k)
       have hsz2:rsz (S (i+k)+a i*b k) (K+1+(N+N)+1):=by have:=hSI.out i hlt (k+1) hlk (i+k); rw [hnxt] at this; simpa [updR] using this
       rw [<-hSe] at row hsz1;clear hSe
       obtain ⟨P,hP⟩:∃ P,P=i+k:=⟨_,rfl⟩
       rw [<-hP] at hik hikw hikw2 hikl hikl' hik0 hikt hnxt hsz1 hsz2
       obtain ⟨x,hxe⟩:∃ x,x=a i:=⟨_,rfl⟩
       obtain ⟨y,hye⟩:∃ y,y=b k:=⟨_,rfl⟩
       rw [<-hxe,<-hye] at hnxt hsz2;rw [<-hxe] at hx hrsx;rw [<-hye] at hy hrsy
       have hsxy:=zdA hrsx hrsy
       obtain ⟨q0,hq0⟩:∃ q,q=S P:=⟨_,rfl⟩
       rw [<-hq0] at hnxt hsz1 hsz2
       have HQ0:=hid hq0
       have HNX:=hid hnxt
       clear hq0 hnxt hxe hye hP
       have HS:Hid (∀ w':World,w'.rowIs gx 49 3 (ratCell (.bool (s5)) (.slice (A5) (n5) (c5)) (.slice (A6) (n6) (c6)))->w'.rowIs gy 49 3 (ratCell (.bool (s7)) (.slice (A7) (n7) (c7)) (.slice (A8) (n8) (c8)))->w'.cell? ⟨gx,0,none⟩=some (.bool (s5))/\w'.cell? ⟨gx,1,none⟩=some (.slice (A5) (n5) (c5))/\w'.cell? ⟨gx,2,none⟩=some (.slice (A6) (n6) (c6))/\w'.cell? ⟨gy,0,none⟩=some (.bool (s7))/\w'.cell? ⟨gy,1,none⟩=some (.slice (A7) (n7) (c7))/\w'.cell? ⟨gy,2,none⟩=some (.slice (A8) (n8) (c8))):=fun w' h1 h2=>⟨h1.cell (i:=0) (by omega),h1.cell (i:=1) (by omega),h1.cell (i:=2) (by omega),h2.cell (i:=0) (by omega),h2.cell (i:=1) (by omega),h2.cell (i:=2) (by omega)⟩
       refine wp_region_held_drew (S:=fun w'=>w'.cell? ⟨gx,0,none⟩=some (.bool (s5))/\w'.cell? ⟨gx,1,none⟩=some (.slice (A5) (n5) (c5))/\w'.cell? ⟨gx,2,none⟩=some (.slice (A6) (n6) (c6))/\w'.cell? ⟨gy,0,none⟩=some (.bool (s7))/\w'.cell? ⟨gy,1,none⟩=some (.slice (A7) (n7) (c7))/\w'.cell? ⟨gy,2,none⟩=some (.slice (A8) (n8) (c8))) (by kernel_rfl) (HS.out _ (show World.rowIs (World.drew _) _ _ _ _ from rx) (show World.rowIs (World.drew _) _ _ _ _ from ry)) (fun hHeld=>?_)
       obtain ⟨w3,hw⟩:∃ W,W=World.drew w2:=⟨_,rfl⟩
       have kb:Below w2.heap.size w2 w3:=by rw [hw]; exact (Below.refl _ _).drew
       rw [<-hw] at hHeld ⊢;clear hw;replace row:=row.on kb;replace hB:=onS hB kb;replace hx:=hx.on kb;replace hy:=hy.on kb;replace rx:=zaa rx kb;replace ry:=zaa ry kb;clear kb
       refine tkq 0 (h:=tkq 1 (h:=tkq 2 (h:=tkq 3 (h:=tkq 4 (h:=tkq 5 (h:=tkq 6 (h:=tkq 7 (h:=tkq 8 (h:=tkq 10 (h:=tkq 11 (h:=?_)))))))))))
       refine rdq2 9 12 (h:=fun K hK=>?_) (h2:=fun K hK=>?_)
       ·obtain ⟨Ao,co,Bo,do_,g0,g1,g2,mo1,mo2,mo3,mo4,mo5,mo6⟩:=row.get P (by omega)
        rw [<-HQ0.out] at g0 g1 g2 mo1 mo2 mo3 mo5
        go_simp
        clear g0 g1 g2
        refine bkq hK (HS.out _ rx ry) (h:=fun hHeld=>?_)
        clear hK K
        refine rdq 12 (h:=fun K hK=>?_)
        go_simp
        obtain ⟨w4,hw⟩:∃ W,W=World.alloc w3 (.cells #[.bool (s5),.slice (A5) (n5) (c5),.slice (A6) (n6) (c6),.bool (s7),.slice (A7) (n7) (c7),.slice (A8) (n8) (c8)] 49):=⟨_,rfl⟩
        have kb:Below w3.heap.size w3 w4:=by rw [hw]; exact zab _ _
        have tbp:RatTab w4 w4.heap.size (some ⟨w3.heap.size,0,none⟩) 2 (pairR (x) (y)) NN:=RatTab.letter hw (zaL 49 hx hy)
        rw [<-hw];clear hw;replace row:=row.on kb;replace hB:=onS hB kb;replace hx:=hx.on kb;replace hy:=hy.on kb;replace rx:=zaa rx kb;replace ry:=zaa ry kb;replace mo1:=mo1.on kb;replace mo2:=mo2.on kb;clear kb
        obtain ⟨gp,hg⟩:∃ g,g=w3.heap.size:=⟨_,rfl⟩
        rw [<-hg] at tbp ⊢;clear hg
        refine bkq hK (HS.out _ rx ry) (h:=fun hHeld=>?_)
        clear hK K
        refine rdq 13 (h:=fun K hK=>?_)
        go_simp
        go_wp2_with fail
        refine (zcC tbp (by omega) (by omega) (hrsx.mono (by omega)) (hrsy.mono (by omega)) (hsxy.mono (by omega))).mono ?_
        rintro e w5 ⟨Am,cm,Bm,dm,rfl,mm1,mm2,mm3,mm4,mm5,mm6,kb⟩
        replace row:=row.on kb;replace hB:=onS hB kb;replace hx:=hx.on kb;replace hy:=hy.on kb;replace rx:=zaa rx kb;replace ry:=zaa ry kb;replace mo1:=mo1.on kb;replace mo2:=mo2.on kb;replace tbp:=tbp.on kb;clear kb;clear tbp
        obtain ⟨xy,hxy⟩:∃ p,p=x*y:=⟨_,rfl⟩
        rw [<-hxy] at mm1 mm2 mm3 mm5 hsxy hsz2 ⊢
        have HXY:=hid hxy
        clear hxy
        refine bkq hK (HS.out _ rx ry) (h:=fun hHeld=>?_)
        clear hK K
        refine rdq 14 (h:=fun K hK=>?_)
        go_simp
        obtain ⟨w6,hw⟩:∃ W,W=World.alloc w5 (.cells #[.bool (rneg (q0)),.slice (Ao) (dl (q0).num.natAbs) (co),.slice (Bo) (dl (q0).den) (do_),.bool (rneg (xy)),.slice (Am) (dl (xy).num.natAbs) (cm),.slice (Bm) (dl (xy).den) (dm)] 49):=⟨_,rfl⟩
        have kb:Below w5.heap.size w5 w6:=by rw [hw]; exact zab _ _
        have tbq:RatTab w6 w6.heap.size (some ⟨w5.heap.size,0,none⟩) 2 (pairR (q0) (xy)) NN:=RatTab.letter hw (zaL 49 (RatOk.raw ⟨Ao,co,Bo,do_,rfl,mo1,mo2,mo3,mo4,mo5,mo6⟩ (hsz1.mono (by omega))) (RatOk.raw ⟨Am,cm,Bm,dm,rfl,mm1,mm2,mm3,mm4,mm5,mm6⟩ (hsxy.mono (by omega))))
        rw [<-hw];clear hw;replace row:=row.on kb;replace hB:=onS hB kb;replace hx:=hx.on kb;replace hy:=hy.on kb;replace rx:=zaa rx kb;replace ry:=zaa ry kb;replace mo1:=mo1.on kb;replace mo2:=mo2.on kb;replace mm1:=mm1.on kb;replace mm2:=mm2.on kb;clear kb
        obtain ⟨gq,hg⟩:∃ g,g=w5.heap.size:=⟨_,rfl⟩
        rw [<-hg] at tbq ⊢;clear hg
        refine bkq hK (HS.out _ rx ry) (h:=fun hHeld=>?_)
        clear hK K
        refine rdq 15 (h:=fun K hK=>?_)
        go_simp
        go_wp2_with fail
        refine (zbg tbq (by omega) (by omega) (hsz1.mono (by omega)) (hsxy.mono (by omega)) (hsz2.mono (by omega))).mono ?_
        rintro e w7 ⟨Ap,cp,Bp,dp,rfl,mp1,mp2,mp3,mp4,mp5,mp6,kb⟩
        replace row:=row.on kb;replace hB:=onS hB kb;replace hx:=hx.on kb;replace hy:=hy.on kb;replace rx:=zaa rx kb;replace ry:=zaa ry kb;replace mo1:=mo1.on kb;replace mo2:=mo2.on kb;replace mm1:=mm1.on kb;replace mm2:=mm2.on kb;replace tbq:=tbq.on kb;clear kb;clear tbq
        obtain ⟨q1,hq1⟩:∃ z,z=q0+xy:=⟨_,rfl⟩
        rw [<-hq1] at mp1 mp2 mp3 mp5 hsz2 ⊢
        have HQ1:=hid hq1
        clear hq1;clear mo1 mo2 mo3 mo4 mo5 mo6 mm1 mm2 mm3 mm4 mm5 mm6
        refine bkq hK (HS.out _ rx ry) (h:=fun hHeld=>?_)
        clear hK K
        refine tkq 16 (h:=?_)
        obtain ⟨o0,o1,o2,y0,y1,y2⟩:=row.old (P) (by omega)
        have z0:=row.froz (P*3)
        have z1:=row.froz (P*3+1)
        have z2:=row.froz (P*3+2)
        have hsz:=hB.size
        refine rdq 17 (h:=fun K hK=>?_)
        go_simp
        generalize hw3:World.setCell _ _ _=w8
        have hst:RowPut w7 g j j P S q1 w8:=by rw [<-hw3]; exact rowPut row (by omega) (by omega) mp1 mp2 mp3 mp4 mp5 mp6
        clear hw3 mp1 mp2 mp3 mp4 mp5 mp6 hx hy;replace row:=hst.row
        rw [show max j (P+1)=j by omega] at row
        replace hB:=hst.below hB hgB hsz
        replace rx:=zad rx hst.grown (by omega)
        replace ry:=zad ry hst.grown (by omega)
        clear hst
        refine bkq hK (HS.out _ rx ry) (h:=fun hHeld=>?_)
        clear hK K
        refine wpAnyH_done (by kernel_rfl) ?_ _
        clear hHeld
        replace row:=row.put' (show updR S P q1=inP a b i (outP a b m' i) (k+1) by rw [HNX.out,HQ1.out,HXY.out])
        clear y0 y1 y2 z0 z1 z2 hsz HS HNX HQ1 HXY HQ0 hsz1 hsz2 hsxy ry hikw hikw2 hik hikt
        go_wp2
        go_roundg (gk - 1)
        case measure=>omega
        case rel=>exact ⟨k+1,by go_num,by omega,by omega,row,rx,hB⟩
       ·go_simp
        obtain ⟨w4,hw⟩:∃ W,W=World.alloc w3 (.cells #[.bool (s5),.slice (A5) (n5) (c5),.slice (A6) (n6) (c6),.bool (s7),.slice (A7) (n7) (c7),.slice (A8) (n8) (c8)] 49):=⟨_,rfl⟩
        have kb:Below w3.heap.size w3 w4:=by rw [hw]; exact zab _ _
        have tbp:RatTab w4 w4.heap.size (some ⟨w3.heap.size,0,none⟩) 2 (pairR (x) (y)) NN:=RatTab.letter hw (zaL 49 hx hy)
        rw [<-hw];clear hw;replace row:=row.on kb;replace hB:=onS hB kb;replace hx:=hx.on kb;replace hy:=hy.on kb;replace rx:=zaa rx kb;replace ry:=zaa ry kb;clear kb
        obtain ⟨gp,hg⟩:∃ g,g=w3.heap.size:=⟨_,rfl⟩
        rw [<-hg] at tbp ⊢;clear hg
        refine bkq hK (HS.out _ rx ry) (h:=fun hHeld=>?_)
        clear hK K
        refine rdq2 9 13 (h:=fun K hK=>?_) (h2:=fun K hK=>?_)
        ·obtain ⟨Ao,co,Bo,do_,g0,g1,g2,mo1,mo2,mo3,mo4,mo5,mo6⟩:=row.get P (by omega)
         rw [<-HQ0.out] at g0 g1 g2 mo1 mo2 mo3 mo5
         go_simp
         clear g0 g1 g2
         refine bkq hK (HS.out _ rx ry) (h:=fun hHeld=>?_)
         clear hK K
         refine rdq 13 (h:=fun K hK=>?_)
         go_simp
         go_wp2_with fail
         refine (zcC tbp (by omega) (by omega) (hrsx.mono (by omega)) (hrsy.mono (by omega)) (hsxy.mono (by omega))).mono ?_
         rintro e w5 ⟨Am,cm,Bm,dm,rfl,mm1,mm2,mm3,mm4,mm5,mm6,kb⟩
         replace row:=row.on kb;replace hB:=onS hB kb;replace hx:=hx.on kb;replace hy:=hy.on kb;replace rx:=zaa rx kb;replace ry:=zaa ry kb;replace tbp:=tbp.on kb;replace mo1:=mo1.on kb;replace mo2:=mo2.on kb;clear kb;clear tbp
         obtain ⟨xy,hxy⟩:∃ p,p=x*y:=⟨_,rfl⟩
         rw [<-hxy] at mm1 mm2 mm3 mm5 hsxy hsz2 ⊢
         have HXY:=hid hxy
         clear hxy
         refine bkq hK (HS.out _ rx ry) (h:=fun hHeld=>?_)
         clear hK K
         refine rdq 14 (h:=fun K hK=>?_)
         go_simp
         obtain ⟨w6,hw⟩:∃ W,W=World.alloc w5 (.cells #[.bool (rneg (q0)),.slice (Ao) (dl (q0).num.natAbs) (co),.slice (Bo) (dl (q0).den) (do_),.bool (rneg (xy)),.slice (Am) (dl (xy).num.natAbs) (cm),.slice (Bm) (dl (xy).den) (dm)] 49):=⟨_,rfl⟩
         have kb:Below w5.heap.size w5 w6:=by rw [hw]; exact zab _ _
         have tbq:RatTab w6 w6.heap.size (some ⟨w5.heap.size,0,none⟩) 2 (pairR (q0) (xy)) NN:=RatTab.letter hw (zaL 49 (RatOk.raw ⟨Ao,co,Bo,do_,rfl,mo1,mo2,mo3,mo4,mo5,mo6⟩ (hsz1.mono (by omega))) (RatOk.raw ⟨Am,cm,Bm,dm,rfl,mm1,mm2,mm3,mm4,mm5,mm6⟩ (hsxy.mono (by omega))))
         rw [<-hw];clear hw;replace row:=row.on kb;replace hB:=onS hB kb;replace hx:=hx.on kb;replace hy:=hy.on kb;replace rx:=zaa rx kb;replace ry:=zaa ry kb;replace mo1:=mo1.on kb;replace mo2:=mo2.on kb;replace mm1:=mm1.on kb;replace mm2:=mm2.on kb;clear kb
         obtain ⟨gq,hg⟩:∃ g,g=w5.heap.size:=⟨_,rfl⟩
         rw [<-hg] at tbq ⊢;clear hg
         refine bkq hK (HS.out _ rx ry) (h:=fun hHeld=>?_)
         clear hK K
         refine rdq 15 (h:=fun K hK=>?_)
         go_simp
         go_wp2_with fail
         refine (zbg tbq (by omega) (by omega) (hsz1.mono (by omega)) (hsxy.mono (by omega)) (hsz2.mono (by omega))).mono ?_
         rintro e w7 ⟨Ap,cp,Bp,dp,rfl,mp1,mp2,mp3,mp4,mp5,mp6,kb⟩
         replace row:=row.on kb;replace hB:=onS hB kb;replace hx:=hx.on kb;replace hy:=hy.on kb;replace rx:=zaa rx kb;replace ry:=zaa ry kb;replace mo1:=mo1.on kb;replace mo2:=mo2.on kb;replace mm1:=mm1.on kb;replace mm2:=mm2.on kb;replace tbq:=tbq.on kb;clear kb;clear tbq
         obtain ⟨q1,hq1⟩:∃ z,z=q0+xy:=⟨_,rfl⟩
         rw [<-hq1] at mp1 mp2 mp3 mp5 hsz2 ⊢
         have HQ1:=hid hq1
         clear hq1;clear mo1 mo2 mo3 mo4 mo5 mo6 mm1 mm2 mm3 mm4 mm5 mm6
         refine bkq hK (HS.out _ rx ry) (h:=fun hHeld=>?_)
         clear hK K
         refine tkq 16 (h:=?_)
         obtain ⟨o0,o1,o2,y0,y1,y2⟩:=row.old (P) (by omega)
         have z0:=row.froz (P*3)
         have z1:=row.froz (P*3+1)
         have z2:=row.froz (P*3+2)
         have hsz:=hB.size
         refine rdq 17 (h:=fun K hK=>?_)
         go_simp
         generalize hw3:World.setCell _ _ _=w8
         have hst:RowPut w7 g j j P S q1 w8:=by rw [<-hw3]; exact rowPut row (by omega) (by omega) mp1 mp2 mp3 mp4 mp5 mp6
         clear hw3 mp1 mp2 mp3 mp4 mp5 mp6 hx hy;replace row:=hst.row
         rw [show max j (P+1)=j by omega] at row
         replace hB:=hst.below hB hgB hsz
         replace rx:=zad rx hst.grown (by omega)
         replace ry:=zad ry hst.grown (by omega)
         clear hst
         refine bkq hK (HS.out _ rx ry) (h:=fun hHeld=>?_)
         clear hK K
         refine wpAnyH_done (by kernel_rfl) ?_ _
         clear hHeld
         replace row:=row.put' (show updR S P q1=inP a b i (outP a b m' i) (k+1) by rw [HNX.out,HQ1.out,HXY.out])
         clear y0 y1 y2 z0 z1 z2 hsz HS HNX HQ1 HXY HQ0 hsz1 hsz2 hsxy ry hikw hikw2 hik hikt
         go_wp2
         go_roundg (gk - 1)
         case measure=>omega
         case rel=>exact ⟨k+1,by go_num,by omega,by omega,row,rx,hB⟩
        ·go_simp
         go_wp2_with fail
         refine (zcC tbp (by omega) (by omega) (hrsx.mono (by omega)) (hrsy.mono (by omega)) (hsxy.mono (by omega))).mono ?_
         rintro e w5 ⟨Am,cm,Bm,dm,rfl,mm1,mm2,mm3,mm4,mm5,mm6,kb⟩
         replace row:=row.on kb;replace hB:=onS hB kb;replace hx:=hx.on kb;replace hy:=hy.on kb;replace rx:=zaa rx kb;replace ry:=zaa ry kb;replace tbp:=tbp.on kb;clear kb;clear tbp
         obtain ⟨xy,hxy⟩:∃ p,p=x*y:=⟨_,rfl⟩
         rw [<-hxy] at mm1 mm2 mm3 mm5 hsxy hsz2 ⊢
         have HXY:=hid hxy
         clear hxy
         refine bkq hK (HS.out _ rx ry) (h:=fun hHeld=>?_)
         clear hK K
         refine rdq 9 (h:=fun K hK=>?_)
         obtain ⟨Ao,co,Bo,do_,g0,g1,g2,mo1,mo2,mo3,mo4,mo5,mo6⟩:=row.get P (by omega)
         rw [<-HQ0.out] at g0 g1 g2 mo1 mo2 mo3 mo5
         go_simp
         clear g0 g1 g2
         refine bkq hK (HS.out _ rx ry) (h:=fun hHeld=>?_)
         clear hK K
         refine rdq 14 (h:=fun K hK=>?_)
         go_simp
         obtain ⟨w6,hw⟩:∃ W,W=World.alloc w5 (.cells #[.bool (rneg (q0)),.slice (Ao) (dl (q0).num.natAbs) (co),.slice (Bo) (dl (q0).den) (do_),.bool (rneg (xy)),.slice (Am) (dl (xy).num.natAbs) (cm),.slice (Bm) (dl (xy).den) (dm)] 49):=⟨_,rfl⟩
         have kb:Below w5.heap.size w5 w6:=by rw [hw]; exact zab _ _
         have tbq:RatTab w6 w6.heap.size (some ⟨w5.heap.size,0,none⟩) 2 (pairR (q0) (xy)) NN:=RatTab.letter hw (zaL 49 (RatOk.raw ⟨Ao,co,Bo,do_,rfl,mo1,mo2,mo3,mo4,mo5,mo6⟩ (hsz1.mono (by omega))) (RatOk.raw ⟨Am,cm,Bm,dm,rfl,mm1,mm2,mm3,mm4,mm5,mm6⟩ (hsxy.mono (by omega))))
         rw [<-hw];clear hw;replace row:=row.on kb;replace hB:=onS hB kb;replace hx:=hx.on kb;replace hy:=hy.on kb;replace rx:=zaa rx kb;replace ry:=zaa ry kb;replace mm1:=mm1.on kb;replace mm2:=mm2.on kb;replace mo1:=mo1.on kb;replace mo2:=mo2.on kb;clear kb
         obtain ⟨gq,hg⟩:∃ g,g=w5.heap.size:=⟨_,rfl⟩
         rw [<-hg] at tbq ⊢;clear hg
         refine bkq hK (HS.out _ rx ry) (h:=fun hHeld=>?_)
         clear hK K
         refine rdq 15 (h:=fun K hK=>?_)
         go_simp
         go_wp2_with fail
         refine (zbg tbq (by omega) (by omega) (hsz1.mono (by omega)) (hsxy.mono (by omega)) (hsz2.mono (by omega))).mono ?_
         rintro e w7 ⟨Ap,cp,Bp,dp,rfl,mp1,mp2,mp3,mp4,mp5,mp6,kb⟩
         replace row:=row.on kb;replace hB:=onS hB kb;replace hx:=hx.on kb;replace hy:=hy.on kb;replace rx:=zaa rx kb;replace ry:=zaa ry kb;replace mm1:=mm1.on kb;replace mm2:=mm2.on kb;replace mo1:=mo1.on kb;replace mo2:=mo2.on kb;replace tbq:=tbq.on kb;clear kb;clear tbq
         obtain ⟨q1,hq1⟩:∃ z,z=q0+xy:=⟨_,rfl⟩
         rw [<-hq1] at mp1 mp2 mp3 mp5 hsz2 ⊢
         have HQ1:=hid hq1
         clear hq1;clear mo1 mo2 mo3 mo4 mo5 mo6 mm1 mm2 mm3 mm4 mm5 mm6
         refine bkq hK (HS.out _ rx ry) (h:=fun hHeld=>?_)
         clear hK K
         refine tkq 16 (h:=?_)
         obtain ⟨o0,o1,o2,y0,y1,y2⟩:=row.old (P) (by omega)
         have z0:=row.froz (P*3)
         have z1:=row.froz (P*3+1)
         have z2:=row.froz (P*3+2)
         have hsz:=hB.size
         refine rdq 17 (h:=fun K hK=>?_)
         go_simp
         generalize hw3:World.setCell _ _ _=w8
         have hst:RowPut w7 g j j P S q1 w8:=by rw [<-hw3]; exact rowPut row (by omega) (by omega) mp1 mp2 mp3 mp4 mp5 mp6
         clear hw3 mp1 mp2 mp3 mp4 mp5 mp6 hx hy;replace row:=hst.row
         rw [show max j (P+1)=j by omega] at row
         replace hB:=hst.below hB hgB hsz
         replace rx:=zad rx hst.grown (by omega)
         replace ry:=zad ry hst.grown (by omega)
         clear hst
         refine bkq hK (HS.out _ rx ry) (h:=fun hHeld=>?_)
         clear hK K
         refine wpAnyH_done (by kernel_rfl) ?_ _
         clear hHeld
         replace row:=row.put' (show updR S P q1=inP a b i (outP a b m' i) (k+1) by rw [HNX.out,HQ1.out,HXY.out])
         clear y0 y1 y2 z0 z1 z2 hsz HS HNX HQ1 HXY HQ0 hsz1 hsz2 hsxy ry hikw hikw2 hik hikt
         go_wp2
         go_roundg (gk - 1)
         case measure=>omega
         case rel=>exact ⟨k+1,by go_num,by omega,by omega,row,rx,hB⟩
      ·obtain rfl:k=m':=by omega
       have hlk':¬ (k:Int)<(k:Int):=by omega
       replace row:=row.put' (show inP a b i (outP a b k i) k=outP a b k (i+1) from rfl)
       go_wp2
       go_roundg (gI - 1)
       case measure=>omega
       case rel=>exact ⟨i+1,by go_num,by omega,by omega,row,hB⟩
    ·obtain rfl:i=m:=by omega
     have hlt':¬ (i:Int)<(i:Int):=by omega
     have hl:=row.list.tab (fun p _=>hSO.out i (by omega) p)
     go_wp2_with fail
     refine (zd6 (some ⟨g,0,none⟩) j j (K+1) (outP a b m' i) _ hl (by omega) (by omega)).mono ?_
     rintro e w2 ⟨Ar,cr,rfl,e1,e2,e3,kb⟩
     replace hB:=onS hB kb;clear kb hl row
     obtain ⟨cl,hcl⟩:∃ cl,cl=clen (outP a b m' i) j:=⟨_,rfl⟩
     rw [<-hcl] at e1 e3 ⊢
     have HCL:=hid hcl
     clear hcl
     go_wp2
     go_ret
     exact ⟨_,_,by rw [HCL.out]; rfl,by rw [HCL.out] at e1; exact e1,e2,by rw [HCL.out] at e3; exact e3,hB⟩
def powR (x:Rat):Nat->Rat
 | 0=>((1:Int):Rat)
 | k+1=>powR x k*x
def evR (rs:Nat->Rat) (x:Rat):Nat->Rat
 | 0=>((0:Int):Rat)
 | k+1=>evR rs x k+rs k*powR x k
theorem zgU (T:Option Addr) (m c N:Nat) (rs:Nat->Rat) (v:Value) (x:Rat) (w:World) (h:RatTab w w.heap.size T m rs N) (hx:RatRaw w w.heap.size v x N) (hm:m<=1048576) (hN:N<=33554432) (hsx:rsz x N) (hs:Hid (∀ k,k<=m->rsz (evR rs x k) N/\rsz (powR x k) N)) (hsp:Hid (∀ k,k<m->rsz (rs k*powR x k) N)) (hr:Hid (∀ k,k<m->rsz (rs k) N)) :
  Calls Tryz.prog 38 #[.slice T m c,v] w (RatPost (evR rs x m) w):=by
 have hv:∃ s A n c A2 m c2,v=.agg #[.bool s,.slice A n c,.slice A2 m c2]:=by obtain ⟨s,A,n,c,A2,m,c2,x,y,rfl,_⟩:=hx; exact ⟨s,A,n,c,A2,m,c2,rfl⟩
 obtain ⟨s,A,n,c1,A2,n2,c2,rfl⟩:=hv
 have hb0:=zab w (.cells #[.bool s,.slice A n c1,.slice A2 n2 c2] 49)
 have hb1:=zab (w.alloc (.cells #[.bool s,.slice A n c1,.slice A2 n2 c2] 49)) (.cells #[.bool false,.slice none 0 0,.slice none 0 0] 49)
 have s0:(w.alloc (.cells #[.bool s,.slice A n c1,.slice A2 n2 c2] 49)).heap.size=w.heap.size+1:=by simp
 have ra:=zaa (zah (w:=w) (a:=.bool s) (b:=.slice A n c1) (c:=.slice A2 n2 c2) (T := 49)) hb1
 have rz:=zah (w:=w.alloc (.cells #[.bool s,.slice A n c1,.slice A2 n2 c2] 49)) (a:=.bool false) (b:=.slice none 0 0) (c:=.slice none 0 0) (T := 49)
 rw [s0] at rz
 have hB:=onS hb0 hb1
 clear s0 hb0 hb1
 obtain ⟨w0,hw0⟩:∃ W,W=((w.alloc (.cells #[.bool s,.slice A n c1,.slice A2 n2 c2] 49)).alloc (.cells #[.bool false,.slice none 0 0,.slice none 0 0] 49)):=⟨_,rfl⟩
 rw [<-hw0] at ra rz hB
 go_enter Tryz.func38, Tryz.ntmps38
 go_upto_region 1 with fail
 rw [<-hw0];clear hw0
 go_wp2_with fail
 refine (zdC 0 _ (by omega) (by omega)).mono ?_
 rintro e w1 ⟨Ao,co,Bo,do_,rfl,mo1,mo2,mo3,mo4,mo5,mo6,kb⟩
 replace ra:=zaa ra kb;replace rz:=zaa rz kb;replace hB:=onS hB kb;clear kb
 obtain ⟨qo,hq0⟩:∃ q:Rat,q=((0:Int):Rat):=⟨_,rfl⟩
 rw [<-hq0] at mo1 mo2 mo3 mo5 ⊢
 have HQo:=hid hq0
 clear hq0
 have kb:=zab w1 (.cells #[.bool (rneg qo),.slice Ao (dl qo.num.natAbs) co,.slice Bo (dl qo.den) do_] 49)
 have ro:=zah (w:=w1) (a:=.bool (rneg qo)) (b:=.slice Ao (dl qo.num.natAbs) co) (c:=.slice Bo (dl qo.den) do_) (T := 49)
 have hszo:=hB.size
 have hlao:=rz.lt
 replace ra:=zaa ra kb;replace rz:=zaa rz kb;replace hB:=onS hB kb;replace mo1:=mo1.on kb;replace mo2:=mo2.on kb;clear kb
 obtain ⟨w2,hw2⟩:∃ W,W=w1.alloc (.cells #[.bool (rneg qo),.slice Ao (dl qo.num.natAbs) co,.slice Bo (dl qo.den) do_] 49):=⟨_,rfl⟩
 rw [<-hw2] at ra rz hB mo1 mo2 ro
 obtain ⟨go,hg⟩:∃ g,g=w1.heap.size:=⟨_,rfl⟩
 rw [<-hg] at ro hszo hlao
 go_upto_region 2 with fail
 rw [<-hg,<-hw2];clear hw2 hg
 go_wp2_with fail
 refine (zdC 1 _ (by omega) (by omega)).mono ?_
 rintro e w3 ⟨Ap,cp,Bp,dp,rfl,mp1,mp2,mp3,mp4,mp5,mp6,kb⟩
 replace ra:=zaa ra kb;replace rz:=zaa rz kb;replace hB:=onS hB kb;replace mo1:=mo1.on kb;replace mo2:=mo2.on kb;replace ro:=zaa ro kb;clear kb
 obtain ⟨qp,hq0⟩:∃ q:Rat,q=((1:Int):Rat):=⟨_,rfl⟩
 rw [<-hq0] at mp1 mp2 mp3 mp5 ⊢
 have HQp:=hid hq0
 clear hq0
 have kb:=zab w3 (.cells #[.bool (rneg qp),.slice Ap (dl qp.num.natAbs) cp,.slice Bp (dl qp.den) dp] 49)
 have rp:=zah (w:=w3) (a:=.bool (rneg qp)) (b:=.slice Ap (dl qp.num.natAbs) cp) (c:=.slice Bp (dl qp.den) dp) (T := 49)
 have hszp:=hB.size
 have hlap:=rz.lt
 have hoop:=ro.lt
 replace ra:=zaa ra kb;replace rz:=zaa rz kb;replace hB:=onS hB kb;replace mo1:=mo1.on kb;replace mo2:=mo2.on kb;replace ro:=zaa ro kb;replace mp1:=mp1.on kb;replace mp2:=mp2.on kb;clear kb
 obtain ⟨w4,hw2⟩:∃ W,W=w3.alloc (.cells #[.bool (rneg qp),.slice Ap (dl qp.num.natAbs) cp,.slice Bp (dl qp.den) dp] 49):=⟨_,rfl⟩
 rw [<-hw2] at ra rz hB mo1 mo2 ro mp1 mp2 rp
 obtain ⟨gp,hg⟩:∃ g,g=w3.heap.size:=⟨_,rfl⟩
 rw [<-hg] at rp hszp hlap hoop
 go_wp2
 rw [<-hg,<-hw2];clear hw2 hg
 go_loopg [7] m (fun gg iv wx=>∃ k:Nat,∃ Sa Sc Sb Sd Pa Pc Pb Pd,iv=.int .i64 (k:Nat)/\k<=m/\m<=k+gg/\dl (evR rs x k).num.natAbs<=Sc/\Sc<=maxLen/\dl (evR rs x k).den<=Sd/\Sd<=maxLen/\NatOk wx wx.heap.size Sa (evR rs x k).num.natAbs/\NatOk wx wx.heap.size Sb (evR rs x k).den/\wx.rowIs go 49 3 (ratCell (.bool (rneg ((evR rs x k)))) (.slice (Sa) (dl ((evR rs x k)).num.natAbs) (Sc)) (.slice (Sb) (dl ((evR rs x k)).den) (Sd)))/\dl (powR x k).num.natAbs<=Pc/\Pc<=maxLen/\dl (powR x k).den<=Pd/\Pd<=maxLen/\NatOk wx wx.heap.size Pa (powR x k).num.natAbs/\NatOk wx wx.heap.size Pb (powR x k).den/\wx.rowIs gp 49 3 (ratCell (.bool (rneg ((powR x k)))) (.slice (Pa) (dl ((powR x k)).num.natAbs) (Pc)) (.slice (Pb) (dl ((powR x k)).den) (Pd)))/\wx.rowIs w.heap.size 49 3 (ratCell (.bool (s)) (.slice (A) (n) (c1)) (.slice (A2) (n2) (c2)))/\wx.rowIs (w.heap.size+1) 49 3 (ratCell (.bool false) (.slice none 0 0) (.slice none 0 0))/\Below w.heap.size w wx)
 case atStart=>rw [HQo.out] at mo1 mo2 mo3 mo5 ro; rw [HQp.out] at mp1 mp2 mp3 mp5 rp; exact ⟨0,Ao,co,Bo,do_,Ap,cp,Bp,dp,rfl,by omega,by omega,mo3,mo4,mo5,mo6,mo1,mo2,ro,mp3,mp4,mp5,mp6,mp1,mp2,rp,ra,rz,hB⟩
 case round =>
  clear mo1 mo2 mo3 mo4 mo5 mo6 mp1 mp2 mp3 mp4 mp5 mp6 ra rz ro rp hB HQo HQp
  obtain ⟨k,Sa,Sc,Sb,Sd,Pa,Pc,Pb,Pd,rfl,hk,hkg,c3,c4,c5,c6,s1,s2,ro,p3,p4,p5,p6,s3,s4,rp,ra,rz,hB⟩:=hrel
  have hk0:(0:Int)<=(k:Int):=by omega
  by_cases hlt:k<m
  ·have hkm:(k:Int)<(m:Int):=by omega
   have HSK:=(hs.out k hk).1
   have HPK:=(hs.out k hk).2
   have HSN:=(hs.out (k+1) (by omega)).1
   have HPN:=(hs.out (k+1) (by omega)).2
   have HSP:=hsp.out k hlt
   have HRK:=hr.out k hlt
   obtain ⟨b,off,s5,A5,n5,c5',A6,n6,c6',rfl,hb,t0,t1,t2,hraw⟩:=h k hlt
   replace hraw:=hraw.on hB
   obtain ⟨S,hS⟩:∃ S,S=evR rs x k:=⟨_,rfl⟩
   obtain ⟨P,hP⟩:∃ S,S=powR x k:=⟨_,rfl⟩
   obtain ⟨rk,hrk⟩:∃ S,S=rs k:=⟨_,rfl⟩
   have hnext:evR rs x (k+1)=S+rk*P:=by rw [hS,hrk,hP]; rfl
   have hnextp:powR x (k+1)=P*x:=by rw [hP]; rfl
   rw [<-hS] at c3 c5 s1 s2 ro HSK;rw [<-hP] at p3 p5 s3 s4 rp HPK HSP;rw [<-hrk] at hraw HRK HSP
   have HNX:=hid hnext
   have HNP:=hid hnextp
   rw [hnext] at HSN;rw [hnextp] at HPN;clear hS hP hrk hnext hnextp
   go_upto_region 6 with fail
   have hxr:=hx.on hB
   have HS:Hid (∀ w':World,w'.rowIs gp 49 3 (ratCell (.bool (rneg (P))) (.slice (Pa) (dl (P).num.natAbs) (Pc)) (.slice (Pb) (dl (P).den) (Pd)))->Below w.heap.size w w'->w'.cell? ⟨gp,0,none⟩=some (.bool (rneg (P)))/\w'.cell? ⟨gp,1,none⟩=some (.slice (Pa) (dl (P).num.natAbs) (Pc))/\w'.cell? ⟨gp,2,none⟩=some (.slice (Pb) (dl (P).den) (Pd))/\w'.cell? ⟨b,off+k*3,none⟩=some (.bool (s5))/\w'.cell? ⟨b,off+k*3+1,none⟩=some (.slice (A5) (n5) (c5'))/\w'.cell? ⟨b,off+k*3+2,none⟩=some (.slice (A6) (n6) (c6'))):=fun w' h2 kb=>⟨h2.cell (i:=0) (by omega),h2.cell (i:=1) (by omega),h2.cell (i:=2) (by omega),cellS kb t0,cellS kb t1,cellS kb t2⟩
   refine wp_region_held_drew (S:=fun w'=>w'.cell? ⟨gp,0,none⟩=some (.bool (rneg (P)))/\w'.cell? ⟨gp,1,none⟩=some (.slice (Pa) (dl (P).num.natAbs) (Pc))/\w'.cell? ⟨gp,2,none⟩=some (.slice (Pb) (dl (P).den) (Pd))/\w'.cell? ⟨b,off+k*3,none⟩=some (.bool (s5))/\w'.cell? ⟨b,off+k*3+1,none⟩=some (.slice (A5) (n5) (c5'))/\w'.cell? ⟨b,off+k*3+2,none⟩=some (.slice (A6) (n6) (c6'))) (by kernel_rfl) (HS.out _ (show World.rowIs (World.drew _) _ _ _ _ from rp) hB.drew) (fun hHeld=>?_)
   clear t0 t1 t2
   obtain ⟨w3,hw⟩:∃ W,W=World.drew wr:=⟨_,rfl⟩
   have kb:Below wr.heap.size wr w3:=by rw [hw]; exact (Below.refl _ _).drew
   rw [<-hw] at hHeld ⊢;clear hw;replace s1:=s1.on kb;replace s2:=s2.on kb;replace s3:=s3.on kb;replace s4:=s4.on kb;replace ro:=zaa ro kb;replace rp:=zaa rp kb;replace ra:=zaa ra kb;replace rz:=zaa rz kb;replace hB:=onS hB kb;replace hraw:=hraw.on kb;replace hxr:=hxr.on kb;clear kb
   refine tkq 1 (h:=tkq 2 (h:=tkq 3 (h:=tkq 4 (h:=tkq 5 (h:=?_)))))
   refine rdq2 0 6 (h:=fun K hK=>?_) (h2:=fun K hK=>?_)
   ·have lg0:=qc0 ro
    have lg1:=qc1 ro
    have lg2:=qc2 ro
    go_simp
    clear lg0 lg1 lg2
    refine bkq hK (HS.out _ rp hB) (h:=fun hHeld=>?_)
    clear hK K
    refine rdq 6 (h:=fun K hK=>?_)
    go_simp
    go_wp2_with fail
    refine (zbM _ _ rk P N _ hraw (zau s3 s4 p3 p4 p5 p6 HPK) hN HRK HPK).mono ?_
    rintro e w4 ⟨Ae,ce,Be,de,rfl,me1,me2,me3,me4,me5,me6,kb⟩
    replace s1:=s1.on kb;replace s2:=s2.on kb;replace s3:=s3.on kb;replace s4:=s4.on kb;replace ro:=zaa ro kb;replace rp:=zaa rp kb;replace ra:=zaa ra kb;replace rz:=zaa rz kb;replace hB:=onS hB kb;replace hraw:=hraw.on kb;replace hxr:=hxr.on kb;clear kb
    obtain ⟨z,hz⟩:∃ p,p=rk*P:=⟨_,rfl⟩
    rw [<-hz] at me1 me2 me3 me5 HSP HSN HNX ⊢;clear hz
    refine bkq hK (HS.out _ rp hB) (h:=fun hHeld=>?_)
    clear hK K
    refine rdq 7 (h:=fun K hK=>?_)
    go_simp
    go_wp2_with fail
    refine (zcn _ _ S z N _ (zau s1 s2 c3 c4 c5 c6 HSK) (zau me1 me2 me3 me4 me5 me6 HSP) hN HSK HSP).mono ?_
    rintro e w5 ⟨Am,cm,Bm,dm,rfl,mm1,mm2,mm3,mm4,mm5,mm6,kb⟩
    replace s1:=s1.on kb;replace s2:=s2.on kb;replace s3:=s3.on kb;replace s4:=s4.on kb;replace ro:=zaa ro kb;replace rp:=zaa rp kb;replace ra:=zaa ra kb;replace rz:=zaa rz kb;replace hB:=onS hB kb;replace hraw:=hraw.on kb;replace hxr:=hxr.on kb;replace me1:=me1.on kb;replace me2:=me2.on kb;clear kb
    obtain ⟨q,hq⟩:∃ q,q=S+z:=⟨_,rfl⟩
    rw [<-hq] at mm1 mm2 mm3 mm5 HNX HSN ⊢;clear hq
    refine bkq hK (HS.out _ rp hB) (h:=fun hHeld=>?_)
    clear hK K
    have hsz:=hB.size
    have hgs:=ro.lt
    have za0:=ro.frozen 0
    have za1:=ro.frozen 1
    have za2:=ro.frozen 2
    have ya0:=qc0 ro
    have ya1:=qc1 ro
    have ya2:=qc2 ro
    refine rdq 8 (h:=fun K hK=>?_)
    go_simp
    generalize hw3:World.setCell _ _ _=w6
    have hst:RatStored w5 (go) 49 (rneg (q)) (Am) (dl (q).num.natAbs) (cm) (Bm) (dl (q).den) (dm) w6:=by rw [<-hw3]; exact zae ro _ _ _ _ _ _ _
    clear hw3;replace s1:=hst.nat _ _ _ s1;rw [<-hst.size] at s1;replace s2:=hst.nat _ _ _ s2;rw [<-hst.size] at s2;replace s3:=hst.nat _ _ _ s3;rw [<-hst.size] at s3;replace s4:=hst.nat _ _ _ s4;rw [<-hst.size] at s4;replace ro:=hst.row
    replace rp:=zad rp hst.grown (by omega)
    replace ra:=zad ra hst.grown (by omega)
    replace rz:=zad rz hst.grown (by omega)
    replace hB:=hst.below hB (by omega) (by omega)
    replace hraw:=hst.raw hraw;rw [<-hst.size] at hraw;replace hxr:=hst.raw hxr;rw [<-hst.size] at hxr;replace me1:=hst.nat _ _ _ me1;rw [<-hst.size] at me1;replace me2:=hst.nat _ _ _ me2;rw [<-hst.size] at me2;replace mm1:=hst.nat _ _ _ mm1;rw [<-hst.size] at mm1;replace mm2:=hst.nat _ _ _ mm2;rw [<-hst.size] at mm2;clear hst
    refine bkq hK (HS.out _ rp hB) (h:=fun hHeld=>?_)
    clear hK K
    refine wpAnyH_done (by kernel_rfl) ?_ _
    clear hHeld;clear hsz hgs za0 za1 za2 ya0 ya1 ya2 HS s1 s2 me1 me2 me3 me4 me5 me6
    have lp0:=qc0 rp
    have lp1:=qc1 rp
    have lp2:=qc2 rp
    have lx0:=qc0 ra
    have lx1:=qc1 ra
    have lx2:=qc2 ra
    go_wp2_with fail
    refine (zbM _ _ P x N _ (zau s3 s4 p3 p4 p5 p6 HPK) hxr hN HPK hsx).mono ?_
    rintro e w7 ⟨Au,cu,Bu,du,rfl,mu1,mu2,mu3,mu4,mu5,mu6,kb⟩
    replace s3:=s3.on kb;replace s4:=s4.on kb;replace ro:=zaa ro kb;replace rp:=zaa rp kb;replace ra:=zaa ra kb;replace rz:=zaa rz kb;replace hB:=onS hB kb;replace hraw:=hraw.on kb;replace hxr:=hxr.on kb;replace mm1:=mm1.on kb;replace mm2:=mm2.on kb;clear kb
    obtain ⟨u,hu⟩:∃ q,q=P*x:=⟨_,rfl⟩
    rw [<-hu] at mu1 mu2 mu3 mu5 HNP HPN ⊢;clear hu lp0 lp1 lp2 lx0 lx1 lx2
    have hsz:=hB.size
    have hgs:=rp.lt
    have za0:=rp.frozen 0
    have za1:=rp.frozen 1
    have za2:=rp.frozen 2
    have ya0:=qc0 rp
    have ya1:=qc1 rp
    have ya2:=qc2 rp
    go_upto_region 5 with fail
    generalize hw3:World.setCell _ _ _=w8
    have hst:RatStored w7 (gp) 49 (rneg (u)) (Au) (dl (u).num.natAbs) (cu) (Bu) (dl (u).den) (du) w8:=by rw [<-hw3]; exact zae rp _ _ _ _ _ _ _
    clear hw3;replace s3:=hst.nat _ _ _ s3;rw [<-hst.size] at s3;replace s4:=hst.nat _ _ _ s4;rw [<-hst.size] at s4
    replace ro:=zad ro hst.grown (by omega)
    replace rp:=hst.row
    replace ra:=zad ra hst.grown (by omega)
    replace rz:=zad rz hst.grown (by omega)
    replace hB:=hst.below hB (by omega) (by omega)
    replace hraw:=hst.raw hraw;rw [<-hst.size] at hraw;replace hxr:=hst.raw hxr;rw [<-hst.size] at hxr;replace mm1:=hst.nat _ _ _ mm1;rw [<-hst.size] at mm1;replace mm2:=hst.nat _ _ _ mm2;rw [<-hst.size] at mm2;replace mu1:=hst.nat _ _ _ mu1;rw [<-hst.size] at mu1;replace mu2:=hst.nat _ _ _ mu2;rw [<-hst.size] at mu2;clear hst;clear hsz hgs za0 za1 za2 ya0 ya1 ya2;rw [<-HNX.out] at mm1 mm2 mm3 mm5 ro
    rw [<-HNP.out] at mu1 mu2 mu3 mu5 rp;clear HNX HSN HNP HPN
    go_wp2
    go_roundg (gk - 1)
    case measure=>omega
    case rel=>exact ⟨k+1,Am,cm,Bm,dm,Au,cu,Bu,du,by go_num,by omega,by omega,mm3,mm4,mm5,mm6,mm1,mm2,ro,mu3,mu4,mu5,mu6,mu1,mu2,rp,ra,rz,hB⟩
   ·go_simp
    go_wp2_with fail
    refine (zbM _ _ rk P N _ hraw (zau s3 s4 p3 p4 p5 p6 HPK) hN HRK HPK).mono ?_
    rintro e w4 ⟨Ae,ce,Be,de,rfl,me1,me2,me3,me4,me5,me6,kb⟩
    replace s1:=s1.on kb;replace s2:=s2.on kb;replace s3:=s3.on kb;replace s4:=s4.on kb;replace ro:=zaa ro kb;replace rp:=zaa rp kb;replace ra:=zaa ra kb;replace rz:=zaa rz kb;replace hB:=onS hB kb;replace hraw:=hraw.on kb;replace hxr:=hxr.on kb;clear kb
    obtain ⟨z,hz⟩:∃ p,p=rk*P:=⟨_,rfl⟩
    rw [<-hz] at me1 me2 me3 me5 HSP HSN HNX ⊢;clear hz
    refine bkq hK (HS.out _ rp hB) (h:=fun hHeld=>?_)
    clear hK K
    refine rdq 0 (h:=fun K hK=>?_)
    have lg0:=qc0 ro
    have lg1:=qc1 ro
    have lg2:=qc2 ro
    go_simp
    clear lg0 lg1 lg2
    refine bkq hK (HS.out _ rp hB) (h:=fun hHeld=>?_)
    clear hK K
    refine rdq 7 (h:=fun K hK=>?_)
    go_simp
    go_wp2_with fail
    refine (zcn _ _ S z N _ (zau s1 s2 c3 c4 c5 c6 HSK) (zau me1 me2 me3 me4 me5 me6 HSP) hN HSK HSP).mono ?_
    rintro e w5 ⟨Am,cm,Bm,dm,rfl,mm1,mm2,mm3,mm4,mm5,mm6,kb⟩
    replace s1:=s1.on kb;replace s2:=s2.on kb;replace s3:=s3.on kb;replace s4:=s4.on kb;replace ro:=zaa ro kb;replace rp:=zaa rp kb;replace ra:=zaa ra kb;replace rz:=zaa rz kb;replace hB:=onS hB kb;replace hraw:=hraw.on kb;replace hxr:=hxr.on kb;replace me1:=me1.on kb;replace me2:=me2.on kb;clear kb
    obtain ⟨q,hq⟩:∃ q,q=S+z:=⟨_,rfl⟩
    rw [<-hq] at mm1 mm2 mm3 mm5 HNX HSN ⊢;clear hq
    refine bkq hK (HS.out _ rp hB) (h:=fun hHeld=>?_)
    clear hK K
    have hsz:=hB.size
    have hgs:=ro.lt
    have za0:=ro.frozen 0
    have za1:=ro.frozen 1
    have za2:=ro.frozen 2
    have ya0:=qc0 ro
    have ya1:=qc1 ro
    have ya2:=qc2 ro
    refine rdq 8 (h:=fun K hK=>?_)
    go_simp
    generalize hw3:World.setCell _ _ _=w6
    have hst:RatStored w5 (go) 49 (rneg (q)) (Am) (dl (q).num.natAbs) (cm) (Bm) (dl (q).den) (dm) w6:=by rw [<-hw3]; exact zae ro _ _ _ _ _ _ _
    clear hw3;replace s1:=hst.nat _ _ _ s1;rw [<-hst.size] at s1;replace s2:=hst.nat _ _ _ s2;rw [<-hst.size] at s2;replace s3:=hst.nat _ _ _ s3;rw [<-hst.size] at s3;replace s4:=hst.nat _ _ _ s4;rw [<-hst.size] at s4;replace ro:=hst.row
    replace rp:=zad rp hst.grown (by omega)
    replace ra:=zad ra hst.grown (by omega)
    replace rz:=zad rz hst.grown (by omega)
    replace hB:=hst.below hB (by omega) (by omega)
    replace hraw:=hst.raw hraw;rw [<-hst.size] at hraw;replace hxr:=hst.raw hxr;rw [<-hst.size] at hxr;replace me1:=hst.nat _ _ _ me1;rw [<-hst.size] at me1;replace me2:=hst.nat _ _ _ me2;rw [<-hst.size] at me2;replace mm1:=hst.nat _ _ _ mm1;rw [<-hst.size] at mm1;replace mm2:=hst.nat _ _ _ mm2;rw [<-hst.size] at mm2;clear hst
    refine bkq hK (HS.out _ rp hB) (h:=fun hHeld=>?_)
    clear hK K
    refine wpAnyH_done (by kernel_rfl) ?_ _
    clear hHeld;clear hsz hgs za0 za1 za2 ya0 ya1 ya2 HS s1 s2 me1 me2 me3 me4 me5 me6
    have lp0:=qc0 rp
    have lp1:=qc1 rp
    have lp2:=qc2 rp
    have lx0:=qc0 ra
    have lx1:=qc1 ra
    have lx2:=qc2 ra
    go_wp2_with fail
    refine (zbM _ _ P x N _ (zau s3 s4 p3 p4 p5 p6 HPK) hxr hN HPK hsx).mono ?_
    rintro e w7 ⟨Au,cu,Bu,du,rfl,mu1,mu2,mu3,mu4,mu5,mu6,kb⟩
    replace s3:=s3.on kb;replace s4:=s4.on kb;replace ro:=zaa ro kb;replace rp:=zaa rp kb;replace ra:=zaa ra kb;replace rz:=zaa rz kb;replace hB:=onS hB kb;replace hraw:=hraw.on kb;replace hxr:=hxr.on kb;replace mm1:=mm1.on kb;replace mm2:=mm2.on kb;clear kb
    obtain ⟨u,hu⟩:∃ q,q=P*x:=⟨_,rfl⟩
    rw [<-hu] at mu1 mu2 mu3 mu5 HNP HPN ⊢;clear hu lp0 lp1 lp2 lx0 lx1 lx2
    have hsz:=hB.size
    have hgs:=rp.lt
    have za0:=rp.frozen 0
    have za1:=rp.frozen 1
    have za2:=rp.frozen 2
    have ya0:=qc0 rp
    have ya1:=qc1 rp
    have ya2:=qc2 rp
    go_upto_region 5 with fail
    generalize hw3:World.setCell _ _ _=w8
    have hst:RatStored w7 (gp) 49 (rneg (u)) (Au) (dl (u).num.natAbs) (cu) (Bu) (dl (u).den) (du) w8:=by rw [<-hw3]; exact zae rp _ _ _ _ _ _ _
    clear hw3;replace s3:=hst.nat _ _ _ s3;rw [<-hst.size] at s3;replace s4:=hst.nat _ _ _ s4;rw [<-hst.size] at s4
    replace ro:=zad ro hst.grown (by omega)
    replace rp:=hst.row
    replace ra:=zad ra hst.grown (by omega)
    replace rz:=zad rz hst.grown (by omega)
    replace hB:=hst.below hB (by omega) (by omega)
    replace hraw:=hst.raw hraw;rw [<-hst.size] at hraw;replace hxr:=hst.raw hxr;rw [<-hst.size] at hxr;replace mm1:=hst.nat _ _ _ mm1;rw [<-hst.size] at mm1;replace mm2:=hst.nat _ _ _ mm2;rw [<-hst.size] at mm2;replace mu1:=hst.nat _ _ _ mu1;rw [<-hst.size] at mu1;replace mu2:=hst.nat _ _ _ mu2;rw [<-hst.size] at mu2;clear hst;clear hsz hgs za0 za1 za2 ya0 ya1 ya2;rw [<-HNX.out] at mm1 mm2 mm3 mm5 ro
    rw [<-HNP.out] at mu1 mu2 mu3 mu5 rp;clear HNX HSN HNP HPN
    go_wp2
    go_roundg (gk - 1)
    case measure=>omega
    case rel=>exact ⟨k+1,Am,cm,Bm,dm,Au,cu,Bu,du,by go_num,by omega,by omega,mm3,mm4,mm5,mm6,mm1,mm2,ro,mu3,mu4,mu5,mu6,mu1,mu2,rp,ra,rz,hB⟩
  ·obtain rfl:k=m:=by omega
   have hge:¬ (k:Int)<(k:Int):=by omega
   obtain ⟨w19,hw19⟩:∃ W,W=wr:=⟨_,rfl⟩
   rw [<-hw19] at s1 s2 ro rz hB ⊢;clear hw19 h ra rp s3 s4
   have mm1:=s1
   have mm2:=s2
   have mm3:=c3
   have mm4:=c4
   have mm5:=c5
   have mm6:=c6
   clear s1 s2 c3 c4 c5 c6
   obtain ⟨q,hq⟩:∃ q,q=evR rs x k:=⟨_,rfl⟩
   rw [<-hq] at mm1 mm2 mm3 mm5 ro ⊢
   have HQL:=hid hq
   obtain ⟨ngq,hngq⟩:∃ b,b=rneg q:=⟨_,rfl⟩
   rw [<-hngq] at ro
   have HNG:=hid hngq
   clear hq hngq
   have eg0:=qc0 ro
   have eg1:=qc1 ro
   have eg2:=qc2 ro
   clear ro
   have hsz:=hB.size
   have za0:=rz.frozen 0
   have za1:=rz.frozen 1
   have za2:=rz.frozen 2
   have ya0:=qc0 rz
   have ya1:=qc1 rz
   have ya2:=qc2 rz
   go_wp2
   generalize hw3:World.setCell _ _ _=w20
   have hst:RatStored w19 (w.heap.size+1) 49 (ngq) (Sa) (dl q.num.natAbs) (Sc) (Sb) (dl q.den) (Sd) w20:=by rw [<-hw3]; exact zae rz _ _ _ _ _ _ _
   clear hw3;replace mm1:=hst.nat _ _ _ mm1;rw [<-hst.size] at mm1;replace mm2:=hst.nat _ _ _ mm2;rw [<-hst.size] at mm2;replace rz:=hst.row
   replace hB:=hst.below hB (by omega) (by omega)
   clear hst;clear hsz za0 za1 za2 ya0 ya1 ya2
   have e0:=qc0 rz
   have e1:=qc1 rz
   have e2:=qc2 rz
   refine bodyPost_ret (v:=.agg #[.bool (ngq),.slice (Sa) (dl q.num.natAbs) (Sc),.slice (Sb) (dl q.den) (Sd)]) (by simp [results,Tryz.results38, go_sem,e0,e1,e2]) rfl ?_
   rw [<-HQL.out]
   exact ⟨Sa,Sc,Sb,Sd,by rw [HNG.out],mm1,mm2,mm3,mm4,mm5,mm6,hB⟩
theorem zgm (x:Rat):powR x 0=1:=rfl
theorem zkv (a:Nat->Rat) (x:Rat):evR a x 0=0:=rfl
theorem zkw (x:Rat) (i j:Nat):powR x (i+j)=powR x i*powR x j:=by
 induction j with
 | zero=>rw [zgm,Nat.add_zero,Rat.mul_one]
 | succ j ih=>show powR x (i+j)*x=powR x i*(powR x j*x); rw [ih]; grind
theorem zkx (a:Nat->Rat) (m:Nat) (x:Rat):∀ k,k<=m->evR a x m=evR a x (m - k)+horR a m x k*powR x (m - k):=by
 intro k
 induction k with
 | zero=>intro _; show _=evR a x m+0*_; grind
 | succ k ih =>
  intro hk
  rw [ih (by omega)]
  obtain ⟨j,hj⟩:∃ j,m - k=j+1:=⟨m - k - 1,by omega⟩
  rw [hj,show m - (k+1)=j by omega]
  show evR a x j+a j*powR x j+horR a m x k*(powR x j*x)=evR a x j+(horR a m x k*x+a (m - 1 - k))*powR x j
  rw [show m - 1 - k=j by omega]
  grind
theorem zlj (a:Nat->Rat) (m:Nat) (x:Rat):horR a m x m=evR a x m:=by
 have:=zkx a m x m (Nat.le_refl _)
 rw [Nat.sub_self,zkv,zgm] at this
 grind
theorem zex {a b:Nat->Rat} {x:Rat} {m:Nat} (h:∀ i,i<m->a i=b i):evR a x m=evR b x m:=by
 induction m with
 | zero=>rfl
 | succ m ih =>
  show evR a x m+a m*_=evR b x m+b m*_
  rw [ih fun i hi=>h i (by omega),h m (by omega)]
theorem zey (a:Nat->Rat) (x:Rat) (m:Nat):evR a x (clen a m)=evR a x m:=by
 induction m with
 | zero=>rfl
 | succ m ih =>
  unfold clen
  split
  ·rename_i e
   rw [ih]
   show _=evR a x m+a m*_
   rw [e]; grind
  ·rfl
theorem zjr (a:Nat->Rat) (x:Rat) (m k:Nat):evR (cutR a m) x (m+k)=evR a x m:=by
 induction k with
 | zero=>exact zex fun i hi=>by simp only [cutR]; rw [if_pos (by omega)]
 | succ k ih =>
  show evR (cutR a m) x (m+k)+cutR a m (m+k)*_=_
  rw [ih]
  simp only [cutR]
  rw [if_neg (by omega)]
  grind
theorem zlk (a b:Nat->Rat) (x:Rat) (m:Nat):evR (fun i=>a i+b i) x m=evR a x m+evR b x m:=by
 induction m with
 | zero=>show (0:Rat)=0+0; grind
 | succ m ih =>
  show evR _ x m+(a m+b m)*powR x m=evR a x m+a m*powR x m+(evR b x m+b m*powR x m)
  rw [ih]; grind
theorem zky (a b:Nat->Rat) (x:Rat) (m m':Nat):evR (sumP a m b m') x (max m m')=evR a x m+evR b x m':=by
 have e:sumP a m b m'=fun i=>cutR a m i+cutR b m' i:=rfl
 rw [e,zlk]
 congr 1
 ·obtain ⟨k,hk⟩:∃ k,max m m'=m+k:=⟨max m m' - m,by omega⟩
  rw [hk,zjr]
 ·obtain ⟨k,hk⟩:∃ k,max m m'=m'+k:=⟨max m m' - m',by omega⟩
  rw [hk,zjr]
theorem zll (S:Nat->Rat) (x v:Rat) (p M:Nat) (hp:p<M):evR (updR S p (S p+v)) x M=evR S x M+v*powR x p:=by
 induction M with
 | zero=>omega
 | succ M ih =>
  show evR _ x M+updR S p (S p+v) M*powR x M=evR S x M+S M*powR x M+v*powR x p
  by_cases e:p=M
  ·subst e
   rw [zex (b:=S) fun i hi=>by unfold updR; rw [if_neg (by omega)]]
   unfold updR
   rw [if_pos rfl]; grind
  ·rw [ih (by omega)]
   unfold updR
   rw [if_neg (fun h=>e h.symm)]; grind
theorem zlm (a b S:Nat->Rat) (x:Rat) (i M:Nat):∀ j,i+j<=M->evR (inP a b i S j) x M=evR S x M+a i*powR x i*evR b x j:=by
 intro j
 induction j with
 | zero=>intro _; show evR S x M=_+_*(0:Rat); grind
 | succ j ih =>
  intro hj
  show evR (updR (inP a b i S j) (i+j) (inP a b i S j (i+j)+a i*b j)) x M=_
  rw [zll _ _ _ _ _ (by omega),ih (by omega),zkw]
  show _=evR S x M+a i*powR x i*(evR b x j+b j*powR x j)
  grind
theorem zkz (a b:Nat->Rat) (x:Rat) (m' M:Nat):∀ i,i+m'<=M+1->evR (outP a b m' i) x M=evR a x i*evR b x m':=by
 intro i
 induction i with
 | zero =>
  intro _
  show evR (fun _=>(0:Rat)) x M=0*_
  have:∀ M,evR (fun _=>(0:Rat)) x M=0:=fun M=>by
   induction M with
   | zero=>rfl
   | succ M ih=>show evR _ x M+0*_=0; rw [ih]; grind
  rw [this]; grind
 | succ i ih =>
  intro hi
  show evR (inP a b i (outP a b m' i) m') x M=(evR a x i+a i*powR x i)*_
  rw [zlm _ _ _ _ _ _ _ (by omega),ih (by omega)]
  grind
theorem zfP (a b:Nat->Rat) (x:Rat) (m m':Nat):evR (mulP a m b m') x (m+m')=evR a x m*evR b x m':=zkz a b x m' (m+m') m (by omega)
structure EvalFits (a:Nat->Rat) (m:Nat) (x:Rat) (N:Nat):Prop where
 top:∀ k,k<=m->rsz (horR a m x k) N/\rsz (horR a m x k*x) N
 low:∀ k,k<=m->rsz (evR a x k) N/\rsz (powR x k) N
 term:∀ k,k<m->rsz (a k*powR x k) N
 ent:∀ k,k<m->rsz (a k) N
 arg:rsz x N
theorem zjs:rsz 1 1:=⟨by show dl 1<=1; rw [zce]; omega,by show dl 1<=1; rw [zce]; omega⟩
theorem zkA {a:Nat->Rat} {m N E:Nat} {x:Rat} (ha:∀ k,k<m->rsz (a k) E) (hx:rsz x N):∀ k,k<=m->rsz (horR a m x k) (1+k*(N+E+1)):=by
 intro k
 induction k with
 | zero=>intro _; exact zbu.mono (by omega)
 | succ k ih =>
  intro hk
  have:=zby (zdA (ih (by omega)) hx) (ha (m - 1 - k) (by omega))
  rw [Nat.add_mul,Nat.one_mul]
  exact this.mono (by omega)
theorem zfQ {N:Nat} {x:Rat} (hx:rsz x N) (k:Nat):rsz (powR x k) (1+k*N):=by
 induction k with
 | zero=>exact zjs.mono (by omega)
 | succ k ih =>
  rw [Nat.add_mul,Nat.one_mul]
  exact (zdA ih hx).mono (by omega)
theorem zln {a:Nat->Rat} {m N E K:Nat} {x:Rat} (ha:∀ k,k<m->rsz (a k) E) (hx:rsz x N) (hK:m*N+E+2<=K):∀ k,k<=m->rsz (evR a x k) (1+k*K):=by
 intro k
 induction k with
 | zero=>intro _; exact zbu.mono (by omega)
 | succ k ih =>
  intro hk
  have h1:=zby (ih (by omega)) (zdA (ha k (by omega)) (zfQ hx k))
  have h2:k*N<=m*N:=Nat.mul_le_mul_right N (by omega)
  rw [Nat.add_mul,Nat.one_mul]
  exact h1.mono (by omega)
theorem evalFits {a:Nat->Rat} {m N E K:Nat} {x:Rat} (ha:∀ k,k<m->rsz (a k) E) (hx:rsz x N) (hK:1+m*(m*N+E+N+3)+N<=K) (hE:E<=K):EvalFits a m x K:=by
 have h0:m*(N+E+1)<=m*(m*N+E+N+3):=Nat.mul_le_mul_left m (by omega)
 have h3:m*N<=m*(m*N+E+N+3):=Nat.mul_le_mul_left m (by omega)
 refine ⟨fun k hk=>?_,fun k hk=>?_,fun k hk=>?_,fun k hk=>(ha k hk).mono hE,hx.mono (by omega)⟩
 ·have h1:k*(N+E+1)<=m*(N+E+1):=Nat.mul_le_mul_right _ hk
  have:=zkA ha hx k hk
  exact ⟨this.mono (by omega),(zdA this hx).mono (by omega)⟩
 ·have h1:k*(m*N+E+2)<=m*(m*N+E+2):=Nat.mul_le_mul_right _ hk
  have h2:m*(m*N+E+2)<=m*(m*N+E+N+3):=Nat.mul_le_mul_left m (by omega)
  have h4:k*N<=m*N:=Nat.mul_le_mul_right _ hk
  exact ⟨(zln ha hx (Nat.le_refl _) k hk).mono (by omega),(zfQ hx k).mono (by omega)⟩
 ·have h1:k*N<=m*N:=Nat.mul_le_mul_right _ (by omega)
  have h4:1*(m*N+E+N+3)<=m*(m*N+E+N+3):=Nat.mul_le_mul_right _ (by omega)
  exact (zdA (ha k hk) (zfQ hx k)).mono (by omega)
open Go.ChangeShapes Go.WideShapes Go.ChangeAt
theorem zlo {n:Int} (h:(Lit.int .u32 n).wf=true):0<=n/\n<4294967296:=by
 have:0<=n/\n<=4294967295:=by simpa [Lit.wf,IntKind.min,IntKind.max,IntKind.signed,IntKind.bits] using h
 omega
section
variable {H:Type} {enc:TypeId × Value->H} {w:World} {base:Nat} {spare:Nat->Bool} {held:Bool} {cs:List Value}
theorem zhR (h:Sees enc Tryz.prog w base spare held 47 cs):∃ A n c x,cs=[.slice A n c]/\n<=c/\c<=maxLen/\NatRaw w w.heap.size A n x:=by
 obtain ⟨A,n,c,g,e,h1,h2,hr,hw⟩:=zd8 Tryz.underlying47 Tryz.underlying110 (by kernel_rfl) h
 refine ⟨A,n,c,_,e,h1,h2,fun i=>(g i).toNat,fun i hi=>?_,fun i hi=>?_,rfl⟩
 ·obtain ⟨b,off,e1,hb,hc⟩:=hr i hi
  refine ⟨b,off,e1,hb,fun j hj=>?_⟩
  have:=zlo (hw i hi)
  rw [hc j hj]
  show some (Value.int .u32 (g i))=some (.int .u32 ((g i).toNat:Int))
  rw [Int.toNat_of_nonneg this.1]
 ·have:=zlo (hw i hi)
  show (g i).toNat<4294967296
  omega
theorem zkB (h:Sees enc Tryz.prog w base spare held 49 cs):∃ s A n c A2 k c2 r,cs=[.bool s,.slice A n c,.slice A2 k c2]/\∀ N,n<=N->k<=N->RatRaw w w.heap.size (.agg #[.bool s,.slice A n c,.slice A2 k c2]) r N:=by
 obtain ⟨hl,_⟩:=zcG Tryz.underlying49 h
 match cs,hl.trans (show Tryz.prog.cellsOf 49 = 3 by kernel_rfl) with
 | [c0,c1,c2],_ =>
  have hc:Tryz.prog.cellsOf 4 = 1:=by kernel_rfl
  have hc':Tryz.prog.cellsOf 47 = 1:=by kernel_rfl
  have g0:=zcp Tryz.underlying49 h 0 4 0 1 ⟨_,rfl,rfl,rfl⟩ hc
  have g1:=zcp Tryz.underlying49 h 1 47 1 1 ⟨_,rfl,rfl,rfl⟩ hc'
  have g2:=zcp Tryz.underlying49 h 2 47 2 1 ⟨_,rfl,rfl,rfl⟩ hc'
  obtain ⟨s,ha⟩:=zis Tryz.underlying4 g0
  obtain ⟨A,n,c,x,hb,h1,h2,hx⟩:=zhR g1
  obtain ⟨A2,k,c2',y,hc,h3,h4,hy⟩:=zhR g2
  simp at ha hb hc
  subst ha hb hc
  exact ⟨s,A,n,c,A2,k,c2',_,rfl,fun N hn hk=>⟨s,A,n,c,A2,k,c2',x,y,rfl,hx,hy,h1,h2,h3,h4,hn,hk,rfl⟩⟩
end
theorem RatRaw.rsz {w:World} {B N:Nat} {v:Value} {r:Rat} (h:RatRaw w B v r N) (hN:1<=N):rsz r N:=by
 obtain ⟨s,A,n,c,A2,m,c2,x,y,e,h1,h2,h3,h4,h5,h6,h7,h8,rfl⟩:=h
 have:=h1.dl
 have:=h2.dl
 exact zfK (by omega) (by omega) hN
theorem zgV (v:Bool) (s:Bool) (A A2:Option Addr) (n c m c2:Nat) (w:World) (hv:Hid ((decide (n<=4) && decide (m<=4))=v)) :
  Calls Tryz.prog 26 #[.agg #[.bool s,.slice A n c,.slice A2 m c2]] w fun e w'=>e=.returned (.bool v)/\Below w.heap.size w w':=by
 rw [<-hv.out]; exact zfN s A A2 n c m c2 w
theorem zfd {T:Option Addr} {m c N:Nat} {rs:Nat->Rat} {v:Value} {x:Rat} {w:World} (h:RatTab w w.heap.size T m rs N) (hx:RatRaw w w.heap.size v x N) (hm:m<=1048576) (hN:N<=33554432) (hf:EvalFits rs m x N) :
  Calls Tryz.prog 28 #[.slice T m c,v] w (RatPost (evR rs x m) w):=by
 have:=zhM T m c N rs v x w h hx hm hN (ze9 hf.arg) hf.arg hf.top hf.ent
 rwa [zlj] at this
theorem zcY {T:Option Addr} {m c N:Nat} {rs:Nat->Rat} {v:Value} {x:Rat} {w:World} (h:RatTab w w.heap.size T m rs N) (hx:RatRaw w w.heap.size v x N) (hm:m<=1048576) (hN:N<=33554432) (hf:EvalFits rs m x N) :
  Calls Tryz.prog 38 #[.slice T m c,v] w (RatPost (evR rs x m) w) :=
 zgU T m c N rs v x w h hx hm hN hf.arg hf.low hf.term hf.ent
theorem zfe {T T':Option Addr} {m c m' c' N:Nat} {a b:Nat->Rat} {v:Value} {x:Rat} {w:World} (h:RatTab w w.heap.size T m a N) (h':RatTab w w.heap.size T' m' b N) (hx:RatRaw w w.heap.size v x N) (hm:m<=1048576) (hm':m'<=1048576) (hN:N<=33554432) (hf:EvalFits a m x N) (hf':EvalFits b m' x N) :
  Calls Tryz.prog 37 #[.slice T m c,.slice T' m' c',v] w fun e w'=>e=.returned (.int .i64 (rsign (evR a x m - evR b x m')))/\Below w.heap.size w w':=by
 have hv:∃ s A n c A2 m c2,v=.agg #[.bool s,.slice A n c,.slice A2 m c2]:=by obtain ⟨s,A,n,c,A2,m,c2,x,y,rfl,_⟩:=hx; exact ⟨s,A,n,c,A2,m,c2,rfl⟩
 obtain ⟨s,A,n,cx1,A2,n2,cx2,rfl⟩:=hv
 have hB:=zab w (.cells #[.bool s,.slice A n cx1,.slice A2 n2 cx2] 49)
 have ra:=zah (w:=w) (a:=.bool s) (b:=.slice A n cx1) (c:=.slice A2 n2 cx2) (T := 49)
 obtain ⟨w0,hw0⟩:∃ W,W=(w.alloc (.cells #[.bool s,.slice A n cx1,.slice A2 n2 cx2] 49)):=⟨_,rfl⟩
 rw [<-hw0] at ra hB
 go_enter Tryz.func37, Tryz.ntmps37
 go_upto_region 1 with fail
 rw [<-hw0];clear hw0
 have HS:Hid (∀ w':World,w'.rowIs (w.heap.size) 49 3 (ratCell (.bool (s)) (.slice (A) (n) (cx1)) (.slice (A2) (n2) (cx2)))->w'.cell? ⟨w.heap.size,0,none⟩=some (.bool (s))/\w'.cell? ⟨w.heap.size,1,none⟩=some (.slice (A) (n) (cx1))/\w'.cell? ⟨w.heap.size,2,none⟩=some (.slice (A2) (n2) (cx2))):=fun w' h0=>⟨h0.cell (i:=0) (by omega),h0.cell (i:=1) (by omega),h0.cell (i:=2) (by omega)⟩
 refine wp_region_held_drew (S:=fun w'=>w'.cell? ⟨w.heap.size,0,none⟩=some (.bool (s))/\w'.cell? ⟨w.heap.size,1,none⟩=some (.slice (A) (n) (cx1))/\w'.cell? ⟨w.heap.size,2,none⟩=some (.slice (A2) (n2) (cx2))) (by kernel_rfl) (HS.out _ (show World.rowIs (World.drew _) _ _ _ _ from ra)) (fun hHeld=>?_)
 obtain ⟨w1,hw⟩:∃ W,W=World.drew w0:=⟨_,rfl⟩
 have kb:Below w0.heap.size w0 w1:=by rw [hw]; exact (Below.refl _ _).drew
 rw [<-hw] at hHeld ⊢;clear hw;replace ra:=zaa ra kb;replace hB:=onS hB kb;clear kb
 refine tkq 0 (h:=tkq 1 (h:=tkq 3 (h:=tkq 4 (h:=?_))))
 refine rdq 2 (h:=fun K hK=>?_)
 go_simp
 go_wp2_with fail
 refine (zfd (h.on hB) (hx.on hB) hm hN hf).mono ?_
 rintro e w2 ⟨Ae,ce,Be,de,rfl,me1,me2,me3,me4,me5,me6,kb⟩
 replace ra:=zaa ra kb;replace hB:=onS hB kb;clear kb
 obtain ⟨p,hp⟩:∃ p,p=evR a x m:=⟨_,rfl⟩
 have hsp:=(hf.low m (Nat.le_refl _)).1
 rw [<-hp] at me1 me2 me3 me5 hsp ⊢
 have HP:=hid hp
 clear hp
 refine bkq hK (HS.out _ ra) (h:=fun hHeld=>?_)
 clear hK K
 refine rdq 5 (h:=fun K hK=>?_)
 go_simp
 go_wp2_with fail
 refine (zfd (h'.on hB) (hx.on hB) hm' hN hf').mono ?_
 rintro e w3 ⟨Af,cf,Bf,df,rfl,mf1,mf2,mf3,mf4,mf5,mf6,kb⟩
 replace ra:=zaa ra kb;replace hB:=onS hB kb;replace me1:=me1.on kb;replace me2:=me2.on kb;clear kb
 obtain ⟨q,hq⟩:∃ p,p=evR b x m':=⟨_,rfl⟩
 have hsq:=(hf'.low m' (Nat.le_refl _)).1
 rw [<-hq] at mf1 mf2 mf3 mf5 hsq ⊢
 have HQ:=hid hq
 clear hq
 refine bkq hK (HS.out _ ra) (h:=fun hHeld=>?_)
 clear hK K
 refine rdq 6 (h:=fun K hK=>?_)
 go_simp
 go_wp2_with fail
 refine (zhJ _ _ p q N _ (zau me1 me2 me3 me4 me5 me6 hsp) (zau mf1 mf2 mf3 mf4 mf5 mf6 hsq) hN hsp hsq).mono ?_
 rintro e w4 ⟨rfl,kb⟩
 replace ra:=zaa ra kb;replace hB:=onS hB kb;replace me1:=me1.on kb;replace me2:=me2.on kb;replace mf1:=mf1.on kb;replace mf2:=mf2.on kb;clear kb
 obtain ⟨sg,hsg⟩:∃ z,z=rsign (p - q):=⟨_,rfl⟩
 rw [<-hsg]
 have HSG:=hid hsg
 clear hsg
 refine bkq hK (HS.out _ ra) (h:=fun hHeld=>?_)
 clear hK K
 refine tkq 7 (h:=?_)
 refine wpAnyH_done (by kernel_rfl) ?_ _
 clear hHeld
 go_wp2
 go_ret
 rw [<-HP.out,<-HQ.out,<-HSG.out]
 exact ⟨rfl,hB⟩
def disN (f g:Nat->Int):Nat->Nat
 | 0=>0
 | k+1=>disN f g k+if f k=g k then 0 else 1
theorem zgn (f g:Nat->Int) (k:Nat):disN f g k<=k:=by
 induction k with
 | zero=>exact Nat.le_refl _
 | succ k ih=>unfold disN; split <;> omega
theorem zdE (A B:Option Addr) (n c c':Nat) (f g:Nat->Int) (w:World) (h:IntsR w w.heap.size A n f) (h':IntsR w w.heap.size B n g) (hn:n<=1048576) :
  Calls Tryz.prog 95 #[.slice A n c,.slice B n c'] w fun e w'=>e=.returned (.int .i64 (disN f g n:Nat))/\Below w.heap.size w w':=by
 go_enter Tryz.func95, Tryz.ntmps95
 go_wp2
 go_loopg [5,6] n (fun gg ov iv wx=>∃ k:Nat,iv=.int .i64 (k:Nat)/\ov=.int .i64 (disN f g k:Nat)/\k<=n/\n<=k+gg/\Below w.heap.size w wx)
 case atStart=>exact ⟨0,rfl,rfl,by omega,by omega,Below.refl _ _⟩
 case round =>
  obtain ⟨k,rfl,rfl,hk,hkg,hB⟩:=hrel
  have hk0:(0:Int)<=(k:Int):=by omega
  by_cases hlt:k<n
  ·obtain ⟨b,o,rfl,hb,e0⟩:=(h.on hB).at hlt
   obtain ⟨b2,o2,rfl,hb2,e2⟩:=(h'.on hB).at hlt
   have hlt':(k:Int)<(n:Int):=by omega
   have hdl:=zgn f g k
   by_cases heq:f k=g k
   ·have hnx:Hid (disN f g (k+1)=disN f g k):=by show _+_=_; rw [if_pos heq]; rfl
    obtain ⟨D,hD⟩:∃ D,D=disN f g k:=⟨_,rfl⟩
    rw [<-hD] at hnx hdl;rw [<-hD]
    obtain ⟨x,hx⟩:∃ x,x=f k:=⟨_,rfl⟩
    rw [<-heq,<-hx] at e2;rw [<-hx] at e0
    have hne:(x != x)=false:=by simp
    clear hD hx heq
    go_wp2
    go_quiet (fail)
    go_wp2
    go_roundg (gk - 1)
    case measure=>omega
    case rel=>exact ⟨k+1,by go_num,by rw [hnx.out],by omega,by omega,zaj hB _⟩
   ·have hnx:Hid (disN f g (k+1)=disN f g k+1):=by show _+_=_; rw [if_neg heq]
    obtain ⟨D,hD⟩:∃ D,D=disN f g k:=⟨_,rfl⟩
    rw [<-hD] at hnx hdl;rw [<-hD]
    obtain ⟨x,hx⟩:∃ x,x=f k:=⟨_,rfl⟩
    obtain ⟨y,hy⟩:∃ x,x=g k:=⟨_,rfl⟩
    rw [<-hy] at e2 heq;rw [<-hx] at e0 heq
    have hne:(x != y)=true:=by simpa using heq
    have hne2:(x == y)=false:=by simpa using heq
    clear hD hx hy heq
    go_wp2
    go_quiet (fail)
    go_wp2
    go_roundg (gk - 1)
    case measure=>omega
    case rel=>exact ⟨k+1,by go_num,by rw [hnx.out]; go_num,by omega,by omega,zaj hB _⟩
  ·obtain rfl:k=n:=by omega
   have hlt':¬ (k:Int)<(k:Int):=by omega
   go_wp2
   go_ret
   exact ⟨rfl,hB⟩
def wcnt (n:Nat) (W:Nat->Nat->Int):Nat->Nat->Nat
 | 0,_=>0
 | i+1,t=>wcnt n W i t+if disN (W i) (fun _=>0) n=t then 1 else 0
theorem zhS (n:Nat) (W:Nat->Nat->Int) (i t:Nat):wcnt n W i t<=i:=by
 induction i with
 | zero=>exact Nat.le_refl _
 | succ i ih=>unfold wcnt; split <;> omega
def patR (q n v i:Nat):Rat:=if i<v then 0 else rv (decide ((i - v) % 2=1)) (chs (n - v) (i - v)) ((q - 1) ^ v)
theorem zjt {q n:Nat} (hq:q<65536) (hn:n<=128):dl (q ^ n)<=65:=by
 have key:∀ L,L=64->q ^ n<4294967296 ^ (L+1):=by
  intro L hL
  have h1:q ^ n<=65536 ^ n:=Nat.pow_le_pow_left (by omega) n
  have h2:(65536:Nat) ^ n<=65536 ^ (2*L):=Nat.pow_le_pow_right (by omega) (by omega)
  have h3:(65536:Nat) ^ (2*L)=4294967296 ^ L:=by rw [Nat.pow_mul]
  have h4:(4294967296:Nat) ^ L<4294967296 ^ (L+1):=Nat.pow_lt_pow_right (by omega) (by omega)
  omega
 exact zdS (key 64 rfl)
theorem zff (q n v:Nat) (w:World) (hq:2<=q) (hq2:q<=256) (hn:n<=64) (hv:v<=n) :
  Calls Tryz.prog 70 #[.int .i64 (q:Nat),.int .i64 (n:Nat),.int .i64 (v:Nat)] w (PolyPost (n+1) (patR q n v) w):=by
 have hq1:((q:Int) - 1)=((q - 1:Nat):Int):=by omega
 have hn1:((n:Int)+1)=((n+1:Nat):Int):=by omega
 have hnv:((n:Int) - (v:Int))=((n - v:Nat):Int):=by omega
 have hd:=zjt (q:=q - 1) (n:=v) (by omega) (by omega)
 have hq1d:dl (q - 1)<=1:=zdS (by omega)
 have hl:=zct (x:=q - 1) (k:=16) (by omega)
 have hm:(nlen (q - 1) - 1)*v<=15*128:=Nat.mul_le_mul (by omega) (by omega)
 have hv0:(0:Int)<=(v:Int):=by omega
 have hn0:(0:Int)<=(n:Int):=by omega
 have hq0:(2:Int)<=(q:Int):=by omega
 have hq3:(q:Int)<=256:=by omega
 obtain ⟨M,hM⟩:∃ M,M=n+1:=⟨_,rfl⟩
 rw [<-hM] at hn1 ⊢
 have hMn:M=n+1:=hM
 have hM1:n+1<=M:=by omega
 have hM2:M<=n+1:=by omega
 have HM:=hid hM
 clear hM hMn
 obtain ⟨S,hSe⟩:∃ S,S=patR q n v:=⟨_,rfl⟩
 rw [<-hSe]
 have HSE:=hid hSe
 clear hSe
 obtain ⟨d,hde⟩:∃ d,d=(q - 1) ^ v:=⟨_,rfl⟩
 rw [<-hde] at hd
 have HDE:=hid hde
 clear hde
 have hmk:=fun W=>zcX M (by omega) W
 go_enter Tryz.func70, Tryz.ntmps70
 go_wp2_with fail
 refine (zdk (q - 1) w (by omega)).mono ?_
 rintro e w1 ⟨A,c,rfl,h1,h2,h3,h4⟩
 go_wp2_with fail
 refine (zhw A c (q - 1) v w1 h3 h1 h2 (by omega) (by omega) (.inr (by omega)) (by rw [<-HDE.out]; omega)).mono ?_
 rintro e w2 ⟨Bd,cd,rfl,d1,d2,d3,d4⟩
 rw [<-HDE.out] at d1 d3 ⊢
 have hB:=onS h4 d4
 clear d4 h1 h2 h3 h4 hq1d hl hm
 have kb:=zab w2 (.cells (madeCells #[.bool false,.slice none 0 0,.slice none 0 0] (M*3)) 49)
 have row:=zdD w2 M S
 have hgB:=hB.size
 replace d3:=d3.on kb;replace hB:=onS hB kb;clear kb
 go_wp2
 obtain ⟨w3,hw1⟩:∃ W,W=w2.alloc (.cells (madeCells #[.bool false,.slice none 0 0,.slice none 0 0] (M*3)) 49):=⟨_,rfl⟩
 obtain ⟨g,hg⟩:∃ g,g=w2.heap.size:=⟨_,rfl⟩
 rw [<-hw1,<-hg];rw [<-hw1] at hB row d3;rw [<-hg] at row hgB;clear hw1 hg hmk
 go_loopg [27] v (fun gg iv wx=>∃ j:Nat,iv=.int .i64 (j:Nat)/\j<=v/\v<=j+gg/\RowOk wx g M j S/\NatOk wx wx.heap.size Bd d/\Below w.heap.size w wx)
 case atStart=>exact ⟨0,rfl,by omega,by omega,row,d3,hB⟩
 case round =>
  clear row hB d3
  obtain ⟨j,rfl,hj,hjg,row,d3,hB⟩:=hrel
  have hj0:(0:Int)<=(j:Int):=by omega
  by_cases hlt:j<v
  ·have hlt':(j:Int)<(v:Int):=by omega
   have hltM:(j:Int)<(M:Int):=by omega
   obtain ⟨w0,hw0⟩:∃ W,W=wr:=⟨_,rfl⟩
   rw [<-hw0] at row hB d3 ⊢;clear hw0
   go_wp2_with fail
   refine (zcB _).mono ?_
   rintro e w1 ⟨Ap,cp,Bp,dp,rfl,mp1,mp2,mp3,mp4,mp5,mp6,kb⟩
   replace row:=row.on kb;replace hB:=onS hB kb;replace d3:=d3.on kb;clear kb
   obtain ⟨q0,hq0⟩:∃ q:Rat,q=(0:Rat):=⟨_,rfl⟩
   rw [<-hq0] at mp1 mp2 mp3 mp5 ⊢
   replace hq0:q0=0:=hq0.trans (by rfl)
   have HQ0:=hid hq0
   have HSZq0:rsz q0 1:=by rw [hq0]; exact zbu
   clear hq0
   obtain ⟨o0,o1,o2,y0,y1,y2⟩:=row.old (j) (by omega)
   have z0:=row.froz (j*3)
   have z1:=row.froz (j*3+1)
   have z2:=row.froz (j*3+2)
   have hsz:=hB.size
   go_upto_region 7 with fail
   generalize hw3:World.setCell _ _ _=w2
   have hst:RowPut w1 g M (j) (j) (S) q0 w2:=by rw [<-hw3]; exact rowPut row (by omega) (by omega) mp1 mp2 mp3 mp4 mp5 mp6
   clear hw3 mp1 mp2 mp3 mp4 mp5 mp6;replace row:=hst.row;replace hB:=hst.below hB hgB hsz;replace d3:=hst.nat _ _ _ d3;rw [<-hst.size] at d3;clear hst
   rw [show max j (j+1)=j+1 by omega] at row
   clear y0 y1 y2 z0 z1 z2 hsz
   replace row:=row.whole (show q0=S j by rw [HSE.out,HQ0.out]; simp [patR,hlt])
   clear HSZq0 HQ0
   go_wp2
   go_roundg (gk - 1)
   case measure=>omega
   case rel=>exact ⟨j+1,by go_num,by omega,by omega,row,d3,hB⟩
  ·obtain rfl:j=v:=by omega
   have hlt':¬ (j:Int)<(j:Int):=by omega
   go_wp2
   obtain ⟨w0,hw0⟩:∃ W,W=wr:=⟨_,rfl⟩
   rw [<-hw0] at row hB d3 ⊢;clear hw0 hlt hlt'
   obtain ⟨gK,rfl⟩:∃ gK:Nat,gK=gk:=⟨_,rfl⟩
   go_loopg [11] M (fun gg iv wx=>∃ i:Nat,iv=.int .i64 (i:Nat)/\j+i<=M/\M<=i+gg/\RowOk wx g M (j+i) S/\NatOk wx wx.heap.size Bd d/\Below w.heap.size w wx)
   case atStart=>exact ⟨0,rfl,by omega,by omega,row,d3,hB⟩
   case round =>
    clear row hB d3
    obtain ⟨i,rfl,hi,hig,row,d3,hB⟩:=hrel
    have hi0:(0:Int)<=(i:Int):=by omega
    have hij:(j:Int)+(i:Int)=((j+i:Nat):Int):=by omega
    by_cases hlt:j+i<M
    ·have hle:((j+i:Nat):Int)<=(n:Int):=by omega
     have hltM:((j+i:Nat):Int)<(M:Int):=by omega
     have hji0:(0:Int)<=((j+i:Nat):Int):=by omega
     have hdc:=zke (n - j) i (by omega)
     have hval:S (j+i)=rv ((i:Int) % 2 == 1) (chs (n - j) i) d:=by rw [HSE.out,HDE.out]; simp only [patR]; rw [if_neg (by omega),show j+i - j=i by omega]; congr 1; rw [Bool.eq_iff_iff]; simp; omega
     obtain ⟨P,hP⟩:∃ P,P=j+i:=⟨_,rfl⟩
     rw [<-hP] at hij hle hltM hji0 hval row hlt hi
     obtain ⟨w1,hw0⟩:∃ W,W=wr:=⟨_,rfl⟩
     rw [<-hw0] at row hB d3 ⊢
     have HP:=hid hP
     have HV:=hid hval
     clear hw0 hP hval
     go_wp2_with fail
     refine (zfF (n - j) i _ (by omega) (by have:=HP.out; omega)).mono ?_
     rintro e w2 ⟨Ac,cc,rfl,b1,b2,b3,kb⟩
     replace row:=row.on kb;replace hB:=onS hB kb;replace d3:=d3.on kb;clear kb
     obtain ⟨ch,hch⟩:∃ x,x=chs (n - j) i:=⟨_,rfl⟩
     rw [<-hch] at b1 b3 hdc ⊢
     have HCH:=hid hch
     clear hch
     have hraw:RatRaw _ _ (.agg #[.bool ((i:Int) % 2 == 1),.slice Ac (dl ch) cc,.slice Bd (dl d) cd]) (S P) 4096:=⟨_,Ac,_,cc,Bd,_,cd,ch,d,rfl,b3.raw,d3.raw,b1,b2,d1,d2,by omega,by omega,by rw [HV.out,HCH.out]⟩
     go_wp2_with fail
     refine (zbo _ (S P) 4096 _ hraw (by omega)).mono ?_
     rintro e w3 ⟨Ap,cp,Bp,dp,rfl,mp1,mp2,mp3,mp4,mp5,mp6,kb⟩
     replace row:=row.on kb;replace hB:=onS hB kb;replace d3:=d3.on kb;replace b3:=b3.on kb;replace hraw:=hraw.on kb;clear kb;clear hraw b1 b2 b3 HCH HV hdc
     obtain ⟨q1,hq1'⟩:∃ z,z=S P:=⟨_,rfl⟩
     rw [<-hq1'] at mp1 mp2 mp3 mp5 ⊢
     have HQ1:=hid hq1'
     clear hq1'
     obtain ⟨o0,o1,o2,y0,y1,y2⟩:=row.old (P) (by omega)
     have z0:=row.froz (P*3)
     have z1:=row.froz (P*3+1)
     have z2:=row.froz (P*3+2)
     have hsz:=hB.size
     go_upto_region 10 with fail
     generalize hw3:World.setCell _ _ _=w4
     have hst:RowPut w3 g M (P) (P) (S) q1 w4:=by rw [<-hw3]; exact rowPut row (by omega) (by omega) mp1 mp2 mp3 mp4 mp5 mp6
     clear hw3 mp1 mp2 mp3 mp4 mp5 mp6;replace row:=hst.row;replace hB:=hst.below hB hgB hsz;replace d3:=hst.nat _ _ _ d3;rw [<-hst.size] at d3;clear hst
     rw [show max P (P+1)=P+1 by omega] at row
     replace row:=row.whole HQ1.out
     rw [show P+1=j+(i+1) by have:=HP.out; omega] at row
     clear y0 y1 y2 z0 z1 z2 hsz HQ1
     go_wp2
     go_roundg (gk - 1)
     case measure=>omega
     case rel=>exact ⟨i+1,by go_num,by have:=HP.out; omega,by omega,row,d3,hB⟩
    ·obtain ⟨P,hP⟩:∃ P,P=j+i:=⟨_,rfl⟩
     rw [<-hP] at hij row hi hlt;clear hP
     obtain rfl:P=M:=by omega
     have hle:¬ (P:Int)<=(n:Int):=by omega
     have hl:=row.list
     go_wp2
     go_ret
     exact ⟨_,_,rfl,Nat.le_refl _,by unfold maxLen; omega,hl,hB⟩
theorem zfR {rs:Nat->Rat} {m:Nat} (h:rs m≠0):clen rs (m+1)=m+1:=by simp [clen,h]
theorem zez {rs:Nat->Rat} {m:Nat} (h:rs m=0):clen rs (m+1)=clen rs m:=by simp [clen,h]
theorem zgo (R:Nat->Rat) (c0 c1:Rat):∀ i p,outP R (pairR c0 c1) 2 i p=(if p<i then R p*c0 else 0)+(if p≠0/\p - 1<i then R (p - 1)*c1 else 0):=by
 intro i
 induction i with
 | zero=>intro p; show (0:Rat)=_; simp [Rat.zero_add]
 | succ i ih =>
  intro p
  show updR (updR (outP R (pairR c0 c1) 2 i) (i+0) (outP R (pairR c0 c1) 2 i (i+0)+R i*c0)) (i+1) (updR (outP R (pairR c0 c1) 2 i) (i+0) (outP R (pairR c0 c1) 2 i (i+0)+R i*c0) (i+1)+R i*c1) p=_
  by_cases h1:p=i+1
  ·subst h1
   simp only [updR,if_pos,Nat.add_zero]
   rw [if_neg (show ¬ i+1=i by omega),ih,if_neg (show ¬ i+1<i by omega),if_neg (show ¬ (i+1≠0/\i+1 - 1<i) by omega),if_neg (show ¬ i+1<i+1 by omega),if_pos (show i+1≠0/\i+1 - 1<i+1 by omega),show i+1 - 1=i by omega]
   clear ih; grind
  ·simp only [updR,if_neg h1,Nat.add_zero]
   by_cases h2:p=i
   ·subst h2
    rw [if_pos rfl,ih,if_neg (show ¬ p<p by omega),if_pos (show p<p+1 by omega)]
    clear ih
    by_cases h3:p=0
    ·rw [if_neg (show ¬ (p≠0/\p - 1<p) by omega),if_neg (show ¬ (p≠0/\p - 1<p+1) by omega)]; generalize R p=x; grind
    ·rw [if_pos (show p≠0/\p - 1<p by omega),if_pos (show p≠0/\p - 1<p+1 by omega)]; generalize R p=x; generalize R (p - 1)=y; grind
   ·rw [if_neg h2,ih]
    clear ih
    by_cases h4:p<i
    ·rw [if_pos h4,if_pos (show p<i+1 by omega)]
     by_cases h3:p=0
     ·rw [if_neg (show ¬ (p≠0/\p - 1<i) by omega),if_neg (show ¬ (p≠0/\p - 1<i+1) by omega)]
     ·rw [if_pos (show p≠0/\p - 1<i by omega),if_pos (show p≠0/\p - 1<i+1 by omega)]
    ·rw [if_neg h4,if_neg (show ¬ p<i+1 by omega),if_neg (show ¬ (p≠0/\p - 1<i) by omega),if_neg (show ¬ (p≠0/\p - 1<i+1) by omega)]
def pwP (a:Nat->Rat) (m:Nat):Nat->Nat × (Nat->Rat)
 | 0=>(1,fun i=>if i=0 then ((1:Int):Rat) else 0)
 | k+1=>(clen (mulP (pwP a m k).2 (pwP a m k).1 a m) ((pwP a m k).1+m),mulP (pwP a m k).2 (pwP a m k).1 a m)
theorem zkC (u : Rat) (hu : u ≠ 0) : ∀ k, (pwP (pairR 0 u) 2 k).1 = k + 1 ∧ ∀ i, i < k + 1 → (pwP (pairR 0 u) 2 k).2 i = if i = k then powR u k else 0 := by
  have hp:∀ k,powR u k≠0:=fun k=>by
    induction k with
    | zero=>show (1:Rat)≠0; decide
    | succ k ih=>intro h; rcases Rat.mul_eq_zero.1 (show powR u k*u=0 from h) with h | h; exact ih h; exact hu h
  intro k
  induction k with
  | zero => exact ⟨rfl, fun i hi => by obtain rfl : i = 0 := by omega
                                       rfl⟩
  | succ k ih =>
    obtain ⟨ih1,ih2⟩:=ih
    have val:∀ p,p<k+1+2->(pwP (pairR 0 u) 2 (k+1)).2 p=if p=k+1 then powR u (k+1) else 0:=by
      intro p hp
      show outP _ (pairR 0 u) 2 (pwP (pairR 0 u) 2 k).1 p=_
      rw [zgo,ih1]
      by_cases h1:p=k+1
      · subst h1
        rw [if_neg (by omega),if_pos ⟨by omega,by omega⟩,if_pos rfl,ih2 _ (by omega),if_pos (by omega)]
        show 0+powR u k*u=powR u k*u
        grind
      · rw [if_neg h1]
        have e1:(if p<k+1 then (pwP (pairR 0 u) 2 k).2 p*0 else 0)=(0:Rat):=by split <;> grind
        rw [e1]
        by_cases h3:p≠0/\p - 1<k+1
        · rw [if_pos h3,ih2 _ (by omega),if_neg (by omega)]; grind
        · rw [if_neg h3]; grind
    refine ⟨?_,fun i hi=>val i (by omega)⟩
    show clen (pwP (pairR 0 u) 2 (k+1)).2 ((pwP (pairR 0 u) 2 k).1+2)=_
    rw [ih1]
    rw [zez (by rw [val _ (by omega),if_neg (by omega)]),zfR (by rw [val _ (by omega),if_pos rfl]; exact hp _)]
def sg (i c:Nat):Rat:=(((if i % 2=1 then -(c:Int) else (c:Int)):Int):Rat)
theorem zlp (i c:Nat):sg (i+1) c = -sg i c:=by
 unfold sg
 by_cases h:i % 2=1
 ·rw [if_neg (by omega),if_pos h,Rat.intCast_neg]; grind
 ·rw [if_pos (by omega),if_neg h,Rat.intCast_neg]
theorem zl0 (i c d:Nat):sg i (c+d)=sg i c+sg i d:=by
 unfold sg
 by_cases h:i % 2=1
 ·rw [if_pos h,if_pos h,if_pos h,<-Rat.intCast_add]; congr 1; omega
 ·rw [if_neg h,if_neg h,if_neg h,<-Rat.intCast_add]; congr 1
theorem zl6 {i c:Nat} (h:c≠0):sg i c≠0:=by
 unfold sg
 intro e
 have:(if i % 2=1 then -(c:Int) else (c:Int))=0:=by exact_mod_cast e
 split at this <;> omega
theorem zkD {c0 c1 : Rat} (f0 : c0 = 1) (f1 : c1 = -1) : ∀ k, (pwP (pairR c0 c1) 2 k).1 = k + 1 ∧ ∀ i, i < k + 1 → (pwP (pairR c0 c1) 2 k).2 i = sg i (chs k i) := by
  intro k
  induction k with
  | zero => exact ⟨rfl, fun i hi => by obtain rfl : i = 0 := by omega
                                       rfl⟩
  | succ k ih =>
    obtain ⟨ih1,ih2⟩:=ih
    have val:∀ p,p<k+1+2->(pwP (pairR c0 c1) 2 (k+1)).2 p=sg p (chs (k+1) p):=by
      intro p hp
      show outP _ _ 2 (pwP (pairR c0 c1) 2 k).1 p=_
      rw [zgo,ih1]
      cases p with
      | zero =>
        rw [if_pos (by omega),if_neg (by omega),ih2 0 (by omega),zcj,zcj,f0]
        grind
      | succ p =>
        have e1:(if p+1<k+1 then (pwP (pairR c0 c1) 2 k).2 (p+1)*c0 else 0)=sg (p+1) (chs k (p+1)):=by
          split
          · rw [ih2 _ (by omega),f0]; generalize sg _ _=z; grind
          · rw [zed (by omega)]; unfold sg; simp
        have e2:(if p+1≠0/\p+1 - 1<k+1 then (pwP (pairR c0 c1) 2 k).2 (p+1 - 1)*c1 else 0)=sg (p+1) (chs k p):=by
          rw [Nat.add_sub_cancel]
          split
          · rw [ih2 _ (by omega),zlp,f1]; generalize sg _ _=z; grind
          · rw [zed (by omega)]; unfold sg; simp
        rw [e1,e2]
        show _=sg (p+1) (chs k p+chs k (p+1))
        rw [zl0]; grind
    refine ⟨?_,fun i hi=>val i (by omega)⟩
    show clen (pwP (pairR c0 c1) 2 (k+1)).2 ((pwP (pairR c0 c1) 2 k).1+2)=_
    rw [ih1]
    rw [zez (by rw [val _ (by omega),zed (by omega)]; unfold sg; simp),zfR (by rw [val _ (by omega),zee]; exact zl6 (by omega))]
theorem zlq (k:Nat):(pwP (pairR ((1:Int):Rat) (((-1:Int)):Rat)) 2 k).1=k+1/\∀ i,i<k+1->(pwP (pairR ((1:Int):Rat) (((-1:Int)):Rat)) 2 k).2 i=sg i (chs k i):=zkD rfl rfl k
theorem ziV {A B:Nat->Rat} {v mB:Nat} {U:Rat} (hA:∀ i,i<v+1->A i=if i=v then U else 0) (p:Nat):mulP A (v+1) B mB p=if v<=p/\p<v+mB then U*B (p - v) else 0:=by
 have z:∀ i,i<=v->∀ p,outP A B mB i p=0:=by
  intro i
  induction i with
  | zero=>intro _ p; rfl
  | succ i ih =>
   intro hi
   have:∀ j p,inP A B i (outP A B mB i) j p=0:=by
    intro j
    induction j with
    | zero=>intro p; exact ih (by omega) p
    | succ j ihj =>
     intro p
     show updR _ _ _ p=0
     unfold updR
     split
     ·rw [ihj,hA i (by omega),if_neg (by omega)]; grind
     ·exact ihj p
   exact this mB
 have key:∀ j p,inP A B v (outP A B mB v) j p=if v<=p/\p<v+j then U*B (p - v) else 0:=by
  intro j
  induction j with
  | zero=>intro p; rw [if_neg (by omega)]; exact z v (Nat.le_refl _) p
  | succ j ih =>
   intro p
   show updR _ _ _ p=_
   unfold updR
   by_cases e:p=v+j
   ·subst e
    rw [if_pos rfl,if_pos ⟨by omega,by omega⟩,ih,if_neg (by omega),hA v (by omega),if_pos rfl,show v+j - v=j by omega]; grind
   ·rw [if_neg e,ih]
    by_cases h:v<=p/\p<v+j
    ·rw [if_pos h,if_pos ⟨h.1,by omega⟩]
    ·rw [if_neg h,if_neg (by omega)]
 exact key mB p
theorem zkE (d:Nat) (v:Nat):powR (mkRat 1 d) v=mkRat 1 (d ^ v):=by
 induction v with
 | zero=>show (1:Rat)=mkRat 1 (d ^ 0); rw [Nat.pow_zero]; decide +kernel
 | succ v ih=>show powR _ v*_=_; rw [ih,Rat.mkRat_mul_mkRat,Nat.pow_succ]; simp
theorem zhT {d:Nat} (h:d≠0):mkRat 1 d≠0:=by
 intro e
 have:=(Rat.mkRat_eq_zero h).1 e
 omega
theorem zl7 (U:Nat) (j c:Nat):mkRat 1 U*sg j c=rv (decide (j % 2=1)) c U:=by
 unfold sg rv
 rw [<-Rat.mkRat_one,Rat.mkRat_mul_mkRat]
 simp
theorem zl1 {q n v:Nat} (hq:2<=q) (hv:v<=n) :
  clen (mulP (pwP (pairR 0 (mkRat 1 (q - 1))) 2 v).2 (pwP (pairR 0 (mkRat 1 (q - 1))) 2 v).1 (pwP (pairR ((1:Int):Rat) (((-1:Int)):Rat)) 2 (n - v)).2 (pwP (pairR ((1:Int):Rat) (((-1:Int)):Rat)) 2 (n - v)).1)
   ((pwP (pairR 0 (mkRat 1 (q - 1))) 2 v).1+(pwP (pairR ((1:Int):Rat) (((-1:Int)):Rat)) 2 (n - v)).1)=n+1 /\
  ∀ i,i<n+1->mulP (pwP (pairR 0 (mkRat 1 (q - 1))) 2 v).2 (pwP (pairR 0 (mkRat 1 (q - 1))) 2 v).1 (pwP (pairR ((1:Int):Rat) (((-1:Int)):Rat)) 2 (n - v)).2 (pwP (pairR ((1:Int):Rat) (((-1:Int)):Rat)) 2 (n - v)).1 i=patR q n v i:=by
 have hu:mkRat 1 (q - 1)≠0:=zhT (by omega)
 obtain ⟨a1,a2⟩:=zkC (mkRat 1 (q - 1)) hu v
 obtain ⟨b1,b2⟩:=zlq (n - v)
 rw [a1,b1]
 have hU:powR (mkRat 1 (q - 1)) v=mkRat 1 ((q - 1) ^ v):=zkE _ _
 have hne:mkRat 1 ((q - 1) ^ v)≠0:=zhT (by have:=Nat.pow_pos (n:=v) (show 0<q - 1 by omega); omega)
 have val:∀ i,mulP (pwP (pairR 0 (mkRat 1 (q - 1))) 2 v).2 (v+1) (pwP (pairR ((1:Int):Rat) (((-1:Int)):Rat)) 2 (n - v)).2 (n - v+1) i=if v<=i/\i<n+1 then mkRat 1 ((q - 1) ^ v)*sg (i - v) (chs (n - v) (i - v)) else 0:=by
  intro i
  rw [ziV a2,hU]
  by_cases h:v<=i/\i<n+1
  ·rw [if_pos h,if_pos ⟨h.1,by omega⟩,b2 _ (by omega)]
  ·rw [if_neg h,if_neg (by omega)]
 refine ⟨?_,fun i hi=>?_⟩
 ·rw [show v+1+(n - v+1)=n+1+1 by omega,zez (by rw [val,if_neg (by omega)]),zfR]
  rw [val,if_pos ⟨by omega,by omega⟩,zee]
  intro e
  rcases Rat.mul_eq_zero.1 e with e | e
  ·exact hne e
  ·exact zl6 (by omega) e
 ·rw [val]
  unfold patR
  by_cases h:v<=i
  ·rw [if_pos ⟨h,hi⟩,if_neg (by omega),zl7]
  ·rw [if_neg (by omega),if_pos (by omega)]
theorem ziW (rs:Nat->Rat) (m i:Nat):cutR rs (clen rs m) i=cutR rs m i:=by
 have:=zfc rs m
 unfold cutR
 by_cases h:i<clen rs m
 ·rw [if_pos h,if_pos (by omega)]
 ·rw [if_neg h]
  by_cases h2:i<m
  ·rw [if_pos h2,ziS (rs:=rs) (m:=m) (i:=i) (by omega) h2]
  ·rw [if_neg h2]
theorem ziX (a b:Nat->Rat) (m m' i:Nat):cutR (sumP a m b m') (max m m') i=cutR a m i+cutR b m' i:=by
 unfold cutR
 by_cases h:i<max m m'
 ·rw [if_pos h]; rfl
 ·rw [if_neg h,if_neg (by omega),if_neg (by omega),Rat.add_zero]
theorem zju {x:Nat} {L:Nat} (h:dl x<=L) (hL:1<=L):rsz (x:Rat) L:=by
 refine ⟨?_,?_⟩
 ·show dl (x:Int).natAbs<=L
  simpa using h
 ·show dl 1<=L
  rw [zce]; exact hL
def NatRTab (w:World) (B:Nat) (T:Option Addr) (m:Nat) (xs:Nat->Nat) (N:Nat):Prop :=
 ∀ i,i<m->∃ b off A n c,T=some ⟨b,off,none⟩/\b<B/\w.cell? ⟨b,off+i,none⟩=some (.slice A n c)/\NatRaw w B A n (xs i)/\n<=c/\c<=maxLen/\n<=N
theorem NatRTab.on {w w':World} {T:Option Addr} {m N:Nat} {xs:Nat->Nat} (h:NatRTab w w.heap.size T m xs N) (hb:Below w.heap.size w w'):NatRTab w' w'.heap.size T m xs N:=fun i hi=>by
 obtain ⟨b,off,A,n,c,e,h1,h2,h3,h4⟩:=h i hi
 exact ⟨b,off,A,n,c,e,Nat.lt_of_lt_of_le h1 hb.size,(hb.cell (p:=⟨b,_,none⟩) h1).trans h2,h3.on hb,h4⟩
def NatLens (w:World) (T:Option Addr) (m:Nat) (ln:Nat->Nat):Prop:=∀ i,i<m->∃ b off A c,T=some ⟨b,off,none⟩/\b<w.heap.size/\w.cell? ⟨b,off+i,none⟩=some (.slice A (ln i) c)/\ln i<=c/\c<=maxLen
theorem NatLens.on {w w':World} {T:Option Addr} {m:Nat} {ln:Nat->Nat} (h:NatLens w T m ln) (hb:Below w.heap.size w w'):NatLens w' T m ln:=fun i hi=>by
 obtain ⟨b,off,A,c,e,h1,h2,h3⟩:=h i hi
 exact ⟨b,off,A,c,e,Nat.lt_of_lt_of_le h1 hb.size,(hb.cell (p:=⟨b,_,none⟩) h1).trans h2,h3⟩
def largeB (ln:Nat->Nat):Nat->Bool
 | 0=>false
 | k+1=>largeB ln k || decide (8<ln k)
def cl2 (p:Nat × (Nat->Rat)) (i:Nat):Rat:=cutR p.2 p.1 i
def tmP (q n x k:Nat):Nat × (Nat->Rat):=(clen (mulP (fun _=>(x:Rat)) 1 (patR q n k) (n+1)) (1+(n+1)),mulP (fun _=>(x:Rat)) 1 (patR q n k) (n+1))
def adP (a b:Nat × (Nat->Rat)):Nat × (Nat->Rat):=(clen (sumP a.2 a.1 b.2 b.1) (max a.1 b.1),sumP a.2 a.1 b.2 b.1)
def wtP (q n:Nat) (xs:Nat->Nat):Nat->Nat × (Nat->Rat)
 | 0=>(0,fun _=>0)
 | k+1=>if xs k=0 then wtP q n xs k else adP (wtP q n xs k) (tmP q n (xs k) k)
theorem zhU {p:Nat × (Nat->Rat)} {N:Nat} (h:∀ i,rsz (cl2 p i) N):∀ i,i<p.1->rsz (p.2 i) N:=fun i hi=>by
 have:=h i
 unfold cl2 cutR at this
 rwa [if_pos hi] at this
theorem zjv {q n k:Nat} (hq:2<=q) (hq2:q<=256) (hn:n<=64) (hk:k<=64) (i:Nat):rsz (patR q n k i) 200:=by
 unfold patR
 split
 ·exact zbu.mono (by omega)
 ·exact zfK (by have:=zke (n - k) (i - k) (by omega); omega) (by have:=zjt (q:=q - 1) (n:=k) (by omega) (by omega); omega) (by omega)
theorem zlr {q n x k:Nat} (hq:2<=q) (hq2:q<=256) (hn:n<=64) (hk:k<=64) (hx:dl x<=8) (i:Nat):rsz ((tmP q n x k).2 i) 500 :=
 (zhP (N:=200) (a:=fun _=>(x:Rat)) (b:=patR q n k) (m:=1) (m':=n+1) (fun _ _=>zju (by omega) (by omega)) (fun i _=>zjv hq hq2 hn hk i) 1 (Nat.le_refl _) i).mono (by omega)
theorem zls {rs:Nat->Rat} {m N:Nat} (h:∀ i,rsz (rs i) N) (i:Nat):rsz (cutR rs m i) N:=by
 unfold cutR
 split
 ·exact h i
 ·exact zbu.mono (ze9 (h 0))
theorem zl2 {a b:Nat × (Nat->Rat)} {N M:Nat} (h1:∀ i,rsz (cl2 a i) N) (h2:∀ i,rsz (b.2 i) M) (i:Nat):rsz (cl2 (adP a b) i) (N+M+1):=by
 show rsz (cutR (sumP a.2 a.1 b.2 b.1) (clen _ _) i) _
 rw [ziW,ziX]
 exact zby (h1 i) (zls h2 i)
theorem zlt {q n:Nat} {xs:Nat->Nat} (hq:2<=q) (hq2:q<=256) (hn:n<=64) (hx:∀ k,k<=n->dl (xs k)<=8):∀ k,k<=n+1->∀ i,rsz (cl2 (wtP q n xs k) i) (1+k*501):=by
 intro k
 induction k with
 | zero=>intro _ i; show rsz (cutR _ 0 i) _; unfold cutR; rw [if_neg (by omega)]; exact zbu
 | succ k ih =>
  intro hk i
  show rsz (cl2 (if xs k=0 then _ else _) i) _
  split
  ·exact (ih (by omega) i).mono (by omega)
  ·exact (zl2 (ih (by omega)) (zlr hq hq2 hn (by omega) (hx k (by omega))) i).mono (by omega)
theorem zjw (q n:Nat) (xs:Nat->Nat) (k:Nat):(wtP q n xs k).1<=n+2:=by
 induction k with
 | zero=>exact Nat.zero_le _
 | succ k ih =>
  show (if xs k=0 then _ else _:Nat × (Nat->Rat)).1<=_
  split
  ·exact ih
  ·have h1:(tmP q n (xs k) k).1<=n+2:=by have:=zfc (mulP (fun _=>((xs k:Nat):Rat)) 1 (patR q n k) (n+1)) (1+(n+1)); show clen _ _<=_; omega
   refine Nat.le_trans (zfc _ _) ?_
   omega
theorem zhV {w:World} (T:TypeId) {s:Bool} {A A2:Option Addr} {n c k c2 N:Nat} {r:Rat} {rs:Nat->Rat} (hr:rs 0=r)
  (h:RatRaw w w.heap.size (.agg #[.bool s,.slice A n c,.slice A2 k c2]) r N) :
  RatTab (w.alloc (.cells #[.bool s,.slice A n c,.slice A2 k c2] T)) (w.alloc (.cells #[.bool s,.slice A n c,.slice A2 k c2] T)).heap.size (some ⟨w.heap.size,0,none⟩) 1 rs N:=fun i hi=>by
 obtain rfl:i=0:=by omega
 subst hr
 have hb:=zab w (.cells #[.bool s,.slice A n c,.slice A2 k c2] T)
 have hg:=heap_alloc_new w (.cells #[.bool s,.slice A n c,.slice A2 k c2] T)
 exact ⟨w.heap.size,0,s,A,n,c,A2,k,c2,rfl,by simp,by rw [cell_of_row _ _ _ _ T (0,0) hg]; rfl,by rw [cell_of_row _ _ _ _ T (0,0) hg]; rfl,by rw [cell_of_row _ _ _ _ T (0,0) hg]; rfl,h.on hb⟩
theorem zfS (q n:Nat) (T:Option Addr) (M c:Nat) (xs:Nat->Nat) (w:World) (h:NatRTab w w.heap.size T M xs 8) (hq:2<=q) (hq2:q<=256) (hn:n<=64) (hM:M=n+1) :
  Calls Tryz.prog 101 #[.int .i64 (q:Nat),.slice T M c] w (PolyPost (wtP q n xs (n+1)).1 (wtP q n xs (n+1)).2 w):=by
 have hdx:Hid (∀ k,k<=n->dl (xs k)<=8):=fun k hk=>by
  obtain ⟨b,off,A,l,d,_,_,_,h3,_,_,h5⟩:=h k (by omega)
  have:=h3.dl
  omega
 have hRS:Hid (∀ k,k<=n+1->∀ i,rsz (cl2 (wtP q n xs k) i) (1+k*501)):=zlt hq hq2 hn hdx.out
 have hMi:(M:Int) - 1=(n:Int):=by omega
 rw [<-hM]
 have hM1:M<=n+1:=by omega
 have hM2:n+1<=M:=by omega
 have HM:=hid hM
 clear hM
 go_enter Tryz.func101, Tryz.ntmps101
 go_wp2
 go_loopg [5,10] M (fun gg ov iv wx=>∃ k:Nat,∃ A d,iv=.int .i64 (k:Nat)/\k<=M/\M<=k+gg/\ov=.slice A (wtP q n xs k).1 d/\(wtP q n xs k).1<=d/\d<=maxLen/\RatList wx wx.heap.size A (wtP q n xs k).1 (wtP q n xs k).2/\Below w.heap.size w wx)
 case atStart=>exact ⟨0,none,0,rfl,by omega,by omega,rfl,Nat.le_refl 0,by unfold maxLen; omega,fun i hi=>absurd hi (Nat.not_lt_zero i),Below.refl _ _⟩
 case round =>
  obtain ⟨k,A,d,rfl,hk,hkg,rfl,hd1,hd2,hl,hB⟩:=hrel
  have hk0:(0:Int)<=(k:Int):=by omega
  have hLk:=zjw q n xs k
  have ht:=hl.tab (zhU (hRS.out k (by omega)))
  have hrk:=zhU (hRS.out k (by omega))
  by_cases hlt:k<M
  ·have hlt':(k:Int)<(M:Int):=by omega
   obtain ⟨b,off,A1,l1,d1,rfl,hb,t0,hx0,g1,g2,g3⟩:=h k hlt
   have t1:=cellS hB t0
   have hx:=hx0.on hB
   by_cases hx0':xs k=0
   ·have hnx:Hid (wtP q n xs (k+1)=wtP q n xs k):=by show (if xs k=0 then _ else _)=_; rw [if_pos hx0']
    rw [hx0'] at hx
    have hnl:nlen 0=0:=zav
    obtain ⟨L,hL⟩:∃ L,L=(wtP q n xs k).1:=⟨_,rfl⟩
    rw [<-hL]
    have HL:=hid hL
    clear ht hrk hL hx0' hx0
    go_wp2_with fail
    refine (zaG A1 l1 d1 0 _ hx g1 g2 (by omega)).mono ?_
    rintro e w1 ⟨rfl,rfl⟩
    rw [hnl];clear hnl t1 t0
    go_wp2
    go_roundg (gk - 1)
    case measure=>omega
    case rel=>exact ⟨k+1,A,d,by go_num,by omega,by omega,by rw [hnx.out,HL.out],by rw [hnx.out]; exact hd1,hd2,by rw [hnx.out]; exact hl,hB⟩
   ·have hxp:0<nlen (xs k):=Nat.pos_of_ne_zero fun e=>hx0' (zaJ.1 e)
    have hxp':(0:Int)<((nlen (xs k):Nat):Int):=by omega
    have hpo:Hid (∀ (W:World) (e:Ending) (W':World),PolyPost (clen (sumP (wtP q n xs k).2 (wtP q n xs k).1 (tmP q n (xs k) k).2 (tmP q n (xs k) k).1) (max (wtP q n xs k).1 (tmP q n (xs k) k).1)) (sumP (wtP q n xs k).2 (wtP q n xs k).1 (tmP q n (xs k) k).2 (tmP q n (xs k) k).1) W e W'->PolyPost (wtP q n xs (k+1)).1 (wtP q n xs (k+1)).2 W e W'):=fun _ _ _ h=>by
     have e:wtP q n xs (k+1)=adP (wtP q n xs k) (tmP q n (xs k) k):=by show (if xs k=0 then _ else _)=_; rw [if_neg hx0']
     rw [e]; exact h
    have hmu:Hid (∀ (W:World) (e:Ending) (W':World),PolyPost (clen (mulP (fun _=>((xs k:Nat):Rat)) 1 (patR q n k) (n+1)) (1+(n+1))) (mulP (fun _=>((xs k:Nat):Rat)) 1 (patR q n k) (n+1)) W e W'->PolyPost (tmP q n (xs k) k).1 (tmP q n (xs k) k).2 W e W'):=fun _ _ _ h=>h
    have htm:Hid (∀ i,i<(tmP q n (xs k) k).1->rsz ((tmP q n (xs k) k).2 i) 33000):=fun i _=>(zlr hq hq2 hn (by omega) (hdx.out k (by omega)) i).mono (by omega)
    have htl:(tmP q n (xs k) k).1<=n+2:=by have:=zfc (mulP (fun _=>((xs k:Nat):Rat)) 1 (patR q n k) (n+1)) (1+(n+1)); show clen _ _<=_; omega
    have hdx1:=hdx.out k (by omega)
    have hpat:Hid (∀ i,i<n+1->rsz (patR q n k i) 200):=fun i _=>zjv hq hq2 hn (by omega) i
    have hrk':Hid (∀ i,i<(wtP q n xs k).1->rsz ((wtP q n xs k).2 i) 33000):=fun i hi=>(hrk i hi).mono (by omega)
    have ht':=ht.mono (show 1+k*501<=33000 by omega)
    obtain ⟨L,hL⟩:∃ L,L=(wtP q n xs k).1:=⟨_,rfl⟩
    obtain ⟨S,hS⟩:∃ S,S=(wtP q n xs k).2:=⟨_,rfl⟩
    obtain ⟨tl,hTL⟩:∃ L,L=(tmP q n (xs k) k).1:=⟨_,rfl⟩
    obtain ⟨ts,hTS⟩:∃ S,S=(tmP q n (xs k) k).2:=⟨_,rfl⟩
    rw [<-hL] at hLk hd1;rw [<-hL,<-hS] at ht' hrk' hpo;rw [<-hTL,<-hTS] at hpo hmu htm;rw [<-hTL] at htl;rw [<-hL];clear hl ht hrk hL hS hTL hTS hx0'
    obtain ⟨x,hxe⟩:∃ x,x=xs k:=⟨_,rfl⟩
    rw [<-hxe] at hx hmu hdx1 hxp hxp';clear hxe hx0
    obtain ⟨P,hP⟩:∃ P,P=n+1:=⟨_,rfl⟩
    have hpp:Hid (∀ (W:World) (e:Ending) (W':World),PolyPost (n+1) (patR q n k) W e W'->PolyPost P (patR q n k) W e W'):=fun _ _ _ h=>by rw [hP]; exact h
    rw [<-hP] at hmu hpat
    have hP65:P<=65:=by omega
    clear hP
    have hc1:Hid (∀ i,i<1->rsz ((fun _=>(x:Rat)) i:Rat) 200):=fun i _=>zju (by omega) (by omega)
    go_wp2_with fail
    refine (zaG A1 l1 d1 x _ hx g1 g2 (by omega)).mono ?_
    rintro e w1 ⟨rfl,hw1⟩
    rw [<-hw1];clear hw1 t0
    have o1:=zaT (w:=wr) 110 (x:=1) (by omega) (by omega)
    have kb:=zab wr (.cells #[.int .u32 1] 110)
    replace hx:=hx.on kb;replace ht':=ht'.on kb;replace hB:=onS hB kb
    have hd1':=zce
    have hraw:RatRaw _ _ (.agg #[.bool false,.slice A1 l1 d1,.slice (some ⟨wr.heap.size,0,none⟩) 1 1]) (x:Rat) 200:=⟨false,A1,l1,d1,some ⟨wr.heap.size,0,none⟩,1,1,x,1,rfl,hx,by have:=o1.raw; rw [hd1'] at this; exact this,g1,g2,by omega,by unfold maxLen; omega,by omega,by omega,by rw [zlg]; rfl⟩
    have tb:=zhV 49 (rs:=fun _=>(x:Rat)) rfl hraw
    have esz:(wr.alloc (.cells #[.int .u32 1] 110)).heap.size=wr.heap.size+1:=by simp
    rw [esz] at tb;clear esz
    have kb2:=zab (wr.alloc (.cells #[.int .u32 1] 110)) (.cells #[.bool false,.slice A1 l1 d1,.slice (some ⟨wr.heap.size,0,none⟩) 1 1] 49)
    replace ht':=ht'.on kb2;replace hB:=onS hB kb2;clear kb kb2 o1 hraw hx hd1'
    go_wp2_with fail
    obtain ⟨wz,hwz⟩:∃ W,W=(wr.alloc (.cells #[.int .u32 1] 110)).alloc (.cells #[.bool false,.slice A1 l1 d1,.slice (some ⟨wr.heap.size,0,none⟩) 1 1] 49):=⟨_,rfl⟩
    obtain ⟨gz,hgz⟩:∃ g,g=wr.heap.size+1:=⟨_,rfl⟩
    rw [<-hwz] at tb ht' hB ⊢;rw [<-hgz] at tb ⊢;clear hwz hgz
    refine ((zff q n k _ hq hq2 hn (by omega)).mono (fun e W'=>hpp.out _ e W')).mono ?_
    rintro e w2 ⟨Ta,ca,rfl,p1,p2,l3,kb⟩
    replace ht':=ht'.on kb;replace tb:=tb.on kb;replace hB:=onS hB kb
    have t2:=l3.tab hpat.out
    clear kb l3 t1
    go_wp2_with fail
    refine ((zhQ _ Ta 1 1 P ca 200 401 (fun _=>(x:Rat)) (patR q n k) _ tb t2 (by omega) (by omega) (by omega) (by omega) hc1 hpat).mono (fun e W'=>hmu.out _ e W')).mono ?_
    rintro e w3 ⟨Tb,cb,rfl,q1,q2,l4,kb⟩
    replace ht':=ht'.on kb;replace hB:=onS hB kb
    have t3:=l4.tab htm.out
    clear kb tb t2 l4
    go_wp2_with fail
    refine ((zhO A Tb L d tl cb 33000 S ts _ ht' t3 (by omega) (by omega) (by omega) hrk' htm).mono (fun e W'=>hpo.out _ e W')).mono ?_
    rintro e w4 ⟨Tc,cc,rfl,s1,s2,l5,kb⟩
    replace hB:=onS hB kb
    obtain ⟨L',hL'⟩:∃ L,L=(wtP q n xs (k+1)).1:=⟨_,rfl⟩
    rw [<-hL'] at s1 l5 ⊢
    have HL:=hid hL'
    clear kb t3 ht' hL'
    go_wp2
    go_roundg (gk - 1)
    case measure=>omega
    case rel=>exact ⟨k+1,Tc,cc,by go_num,by omega,by omega,by rw [HL.out],by rw [HL.out] at s1; exact s1,s2,by rw [HL.out] at l5; exact l5,hB⟩
  ·obtain rfl:k=M:=by omega
   have hlt':¬ (k:Int)<(k:Int):=by omega
   obtain ⟨L,hL⟩:∃ L,L=(wtP q n xs k).1:=⟨_,rfl⟩
   rw [<-hL] at hd1 hl ⊢
   have HL:=hid hL
   clear hL ht hrk hlt
   go_wp2
   go_ret
   rw [<-HL.out]
   exact ⟨_,_,rfl,hd1,hd2,hl,hB⟩
end Go.Proofs.YtioagplajkoohaaGreat