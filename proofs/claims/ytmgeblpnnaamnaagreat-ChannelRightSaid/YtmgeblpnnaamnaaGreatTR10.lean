/- Merged texts of a claim: RatC, PolyA. -/
import Derived.Test.YtmgeblpnnaamnaaGreatTR1
import Derived.Test.YtmgeblpnnaamnaaGreatTR5
import Derived.Test.YtmgeblpnnaamnaaGreatTR9
namespace Go.Proofs.YtmgeblpnnaamnaaGreat
set_option maxRecDepth 100000
set_option maxHeartbeats 32000000
open Go.RowKit
theorem refSame02_any (A B A' B':Option Addr) (c d c' d':Nat) (r:Rat) (N:Nat) (w:World) (m1:NatOk w w.heap.size A r.num.natAbs) (m2:NatOk w w.heap.size B r.den) (n1:NatOk w w.heap.size A' r.num.natAbs) (n2:NatOk w w.heap.size B' r.den) (hN:N<=33554432) (hr:rsz r N) :
  Calls Tryz.prog 23 #[.agg #[.bool (rneg r),.slice A (dl r.num.natAbs) c,.slice B (dl r.den) d],.agg #[.bool (rneg r),.slice A' (dl r.num.natAbs) c',.slice B' (dl r.den) d']] w fun e w'=>e=.returned (.bool true)/\Below w.heap.size w w':=by
 have hb0:=below_one w (.cells #[.bool (rneg r),.slice A (dl r.num.natAbs) c,.slice B (dl r.den) d] 31)
 have hb1:=below_one (w.alloc (.cells #[.bool (rneg r),.slice A (dl r.num.natAbs) c,.slice B (dl r.den) d] 31)) (.cells #[.bool (rneg r),.slice A' (dl r.num.natAbs) c',.slice B' (dl r.den) d'] 31)
 have s0:(w.alloc (.cells #[.bool (rneg r),.slice A (dl r.num.natAbs) c,.slice B (dl r.den) d] 31)).heap.size=w.heap.size+1:=by simp
 have ra:=rowIs_on (box_row (w:=w) (a:=.bool (rneg r)) (b:=.slice A (dl r.num.natAbs) c) (c:=.slice B (dl r.den) d) (T := 31)) hb1
 have rb:=box_row (w:=w.alloc (.cells #[.bool (rneg r),.slice A (dl r.num.natAbs) c,.slice B (dl r.den) d] 31)) (a:=.bool (rneg r)) (b:=.slice A' (dl r.num.natAbs) c') (c:=.slice B' (dl r.den) d') (T := 31)
 rw [s0] at rb
 have hB:=onS hb0 hb1
 clear s0 hb0 hb1
 replace m1:=m1.on hB
 replace m2:=m2.on hB
 replace n1:=n1.on hB
 replace n2:=n2.on hB
 have hr1:=hr.1
 have hr2:=hr.2
 have heq:(rneg r == rneg r)=true:=by simp
 go_enter Tryz.func23, Tryz.ntmps23
 go_upto_region 1 with fail
 obtain ⟨w0,hw0⟩:∃ W,W=((w.alloc (.cells #[.bool (rneg r),.slice A (dl r.num.natAbs) c,.slice B (dl r.den) d] 31)).alloc (.cells #[.bool (rneg r),.slice A' (dl r.num.natAbs) c',.slice B' (dl r.den) d'] 31)):=⟨_,rfl⟩
 rw [<-hw0] at ra rb hB m1 m2 n1 n2 ⊢
 clear hw0
 have ea0:w0.cell? ⟨w.heap.size,0,none⟩=some (.bool (rneg (r))):=ra.cell (i:=0) (by omega)
 have ea1:w0.cell? ⟨w.heap.size,1,none⟩=some (.slice (A) (dl (r).num.natAbs) (c)):=ra.cell (i:=1) (by omega)
 have ea2:w0.cell? ⟨w.heap.size,2,none⟩=some (.slice (B) (dl (r).den) (d)):=ra.cell (i:=2) (by omega)
 have eb0:w0.cell? ⟨w.heap.size+1,0,none⟩=some (.bool (rneg (r))):=rb.cell (i:=0) (by omega)
 have eb1:w0.cell? ⟨w.heap.size+1,1,none⟩=some (.slice (A') (dl (r).num.natAbs) (c')):=rb.cell (i:=1) (by omega)
 have eb2:w0.cell? ⟨w.heap.size+1,2,none⟩=some (.slice (B') (dl (r).den) (d')):=rb.cell (i:=2) (by omega)
 go_wp2_with fail
 refine (refSame_any _ _ _ _ _ _ m1 n1 (by omega)).mono ?_
 rintro e w1 ⟨rfl,kb⟩
 have kb2:=kb
 replace m1:=m1.on kb
 replace m2:=m2.on kb
 replace n1:=n1.on kb
 replace n2:=n2.on kb
 replace ra:=rowIs_on ra kb
 replace rb:=rowIs_on rb kb
 replace hB:=onS hB kb
 clear kb
 replace ea0:=cellS kb2 ea0
 replace ea1:=cellS kb2 ea1
 replace ea2:=cellS kb2 ea2
 replace eb0:=cellS kb2 eb0
 replace eb1:=cellS kb2 eb1
 replace eb2:=cellS kb2 eb2
 clear kb2
 go_wp2_with fail
 refine (refSame_any _ _ _ _ _ _ m2 n2 (by omega)).mono ?_
 rintro e w2 ⟨rfl,kb⟩
 have kb2:=kb
 replace m1:=m1.on kb
 replace m2:=m2.on kb
 replace n1:=n1.on kb
 replace n2:=n2.on kb
 replace ra:=rowIs_on ra kb
 replace rb:=rowIs_on rb kb
 replace hB:=onS hB kb
 clear kb
 replace ea0:=cellS kb2 ea0
 replace ea1:=cellS kb2 ea1
 replace ea2:=cellS kb2 ea2
 replace eb0:=cellS kb2 eb0
 replace eb1:=cellS kb2 eb1
 replace eb2:=cellS kb2 eb2
 clear kb2
 go_wp2
 go_ret
 exact ⟨rfl,hB⟩
theorem chZero_any (w:World):Calls Tryz.prog 59 #[] w (RatPost 0 w):=by
 have hB:=below_one w (.cells #[.bool false,.slice none 0 0,.slice none 0 0] 31)
 have rz:=box_row (w:=w) (a:=.bool false) (b:=.slice none 0 0) (c:=.slice none 0 0) (T := 31)
 obtain ⟨w0,hw0⟩:∃ W,W=w.alloc (.cells #[.bool false,.slice none 0 0,.slice none 0 0] 31):=⟨_,rfl⟩
 rw [<-hw0] at hB rz
 have HD:Hid (dl (0:Rat).num.natAbs=0/\dl (0:Rat).den=1/\rneg 0=false):=⟨dl_zero,dl_one,rneg_zero⟩
 go_enter Tryz.func59, Tryz.ntmps59
 go_upto_region 1 with fail
 rw [<-hw0]
 clear hw0
 have o1:=natOk_one (w:=w0) 89 (x:=1) (by omega) (by omega)
 have kb:=below_one w0 (.cells #[.int .u32 1] 89)
 obtain ⟨w1,hw1⟩:∃ W,W=w0.alloc (.cells #[.int .u32 1] 89):=⟨_,rfl⟩
 have e1:w0.alloc (.cells #[.int .u32 ((1:Nat):Int)] 89)=w1:=hw1.symm
 rw [e1] at o1
 rw [<-hw1] at kb
 obtain ⟨g,hg⟩:∃ g,g=w0.heap.size:=⟨_,rfl⟩
 rw [<-hg] at o1
 clear e1
 replace rz:=rowIs_on rz kb
 replace hB:=onS hB kb
 clear kb
 have hsz:=hB.size
 have za0:=rz.frozen 0
 have za1:=rz.frozen 1
 have za2:=rz.frozen 2
 have ya0:w1.cell? ⟨w.heap.size,0,none⟩=some _:=rz.cell (i:=0) (by omega)
 have ya1:w1.cell? ⟨w.heap.size,1,none⟩=some _:=rz.cell (i:=1) (by omega)
 have ya2:w1.cell? ⟨w.heap.size,2,none⟩=some _:=rz.cell (i:=2) (by omega)
 rw [hw1] at za0 za1 za2 ya0 ya1 ya2
 have HW:=hid hw1
 have HG:=hid hg
 clear hw1 hg
 go_wp2
 rw [<-HW.out,<-HG.out]
 clear HW HG
 generalize hw3:World.setCell _ _ _=w2
 have hst:RatStored w1 (w.heap.size) 31 (false) (none) (0) (0) (some ⟨g,0,none⟩) (1) (1) w2:=by rw [<-hw3]; exact rat_stored rz _ _ _ _ _ _ _
 clear hw3
 replace rz:=hst.row
 replace hB:=hst.below hB (by omega) (by omega)
 replace o1:=hst.nat _ _ _ o1
 rw [<-hst.size] at o1
 clear hst
 clear hsz za0 za1 za2 ya0 ya1 ya2
 have e0:w2.cell? ⟨w.heap.size,0,none⟩=some (.bool (false)):=rz.cell (i:=0) (by omega)
 have e1:w2.cell? ⟨w.heap.size,1,none⟩=some (.slice (none) (0) (0)):=rz.cell (i:=1) (by omega)
 have e2:w2.cell? ⟨w.heap.size,2,none⟩=some (.slice (some ⟨g,0,none⟩) (1) (1)):=rz.cell (i:=2) (by omega)
 refine bodyPost_ret (v:=.agg #[.bool false,.slice none 0 0,.slice (some ⟨g,0,none⟩) 1 1]) (by simp [results,Tryz.results59, go_sem,e0,e1,e2]) rfl ?_
 exact ⟨none,0,some ⟨g,0,none⟩,1,by rw [HD.out.1,HD.out.2.1,HD.out.2.2],fun i hi=>absurd hi (by show ¬ i<dl (0:Rat).num.natAbs; rw [HD.out.1]; omega),o1,by rw [HD.out.1]; omega,by unfold maxLen; omega,by rw [HD.out.2.1]; omega,by unfold maxLen; omega,hB⟩
def RatList (w:World) (B:Nat) (T:Option Addr) (m:Nat) (rs:Nat->Rat):Prop :=
 ∀ i,i<m->∃ b off A c A2 c2,T=some ⟨b,off,none⟩/\b<B/\w.cell? ⟨b,off+i*3,none⟩=some (.bool (rneg (rs i)))/\w.cell? ⟨b,off+i*3+1,none⟩=some (.slice A (dl (rs i).num.natAbs) c)/\w.cell? ⟨b,off+i*3+2,none⟩=some (.slice A2 (dl (rs i).den) c2)/\NatOk w B A (rs i).num.natAbs/\NatOk w B A2 (rs i).den/\dl (rs i).num.natAbs<=c/\c<=maxLen/\dl (rs i).den<=c2/\c2<=maxLen
theorem RatList.on {w w':World} {T:Option Addr} {m:Nat} {rs:Nat->Rat} (h:RatList w w.heap.size T m rs) (hb:Below w.heap.size w w'):RatList w' w'.heap.size T m rs:=fun i hi=>by
 obtain ⟨b,off,A,c,A2,c2,e,h1,h2,h3,h4,h5,h6,h7⟩:=h i hi
 exact ⟨b,off,A,c,A2,c2,e,Nat.lt_of_lt_of_le h1 hb.size,(hb.cell (p:=⟨b,_,none⟩) h1).trans h2,(hb.cell (p:=⟨b,_,none⟩) h1).trans h3,(hb.cell (p:=⟨b,_,none⟩) h1).trans h4,h5.on hb,h6.on hb,h7⟩
theorem refSameList_any (T T':Option Addr) (m c c' N:Nat) (rs:Nat->Rat) (w:World) (h:RatList w w.heap.size T m rs) (h':RatList w w.heap.size T' m rs) (hm:m<=1048576) (hN:N<=33554432) (hr:Hid (∀ k,k<m->rsz (rs k) N)) :
  Calls Tryz.prog 73 #[.slice T m c,.slice T' m c'] w fun e w'=>e=.returned (.bool true)/\Below w.heap.size w w':=by
 go_enter Tryz.func73, Tryz.ntmps73
 go_wp2
 go_loopg [5] m (fun gg iv wx=>∃ k:Nat,iv=.int .i64 (k:Nat)/\k<=m/\m<=k+gg/\Below w.heap.size w wx)
 case atStart=>exact ⟨0,rfl,by omega,by omega,Below.refl _ _⟩
 case round =>
  obtain ⟨k,rfl,hk,hkg,hB⟩:=hrel
  have hk0:(0:Int)<=(k:Int):=by omega
  by_cases hlt:k<m
  ·have hlt':(k:Int)<(m:Int):=by omega
   obtain ⟨b,off,A,d,A2,d2,rfl,hb,t0,t1,t2,m1,m2,_,_,_,_⟩:=h k hlt
   obtain ⟨b',off',A',d',A2',d2',rfl,hb',u0,u1,u2,n1,n2,_,_,_,_⟩:=h' k hlt
   have HRK:=hr.out k hlt
   obtain ⟨r,hR⟩:∃ r,r=rs k:=⟨_,rfl⟩
   rw [<-hR] at t0 t1 t2 m1 m2 u0 u1 u2 n1 n2 HRK
   clear hR
   have HS:Hid (∀ w':World,Below w.heap.size w w'->w'.cell? ⟨b,off+k*3,none⟩=some (.bool (rneg (r)))/\w'.cell? ⟨b,off+k*3+1,none⟩=some (.slice (A) (dl (r).num.natAbs) (d))/\w'.cell? ⟨b,off+k*3+2,none⟩=some (.slice (A2) (dl (r).den) (d2))/\w'.cell? ⟨b',off'+k*3,none⟩=some (.bool (rneg (r)))/\w'.cell? ⟨b',off'+k*3+1,none⟩=some (.slice (A') (dl (r).num.natAbs) (d'))/\w'.cell? ⟨b',off'+k*3+2,none⟩=some (.slice (A2') (dl (r).den) (d2'))):=fun w' hb=>⟨cellS hb t0,cellS hb t1,cellS hb t2,cellS hb u0,cellS hb u1,cellS hb u2⟩
   go_upto_region 6 with fail
   clear t0 t1 t2 u0 u1 u2
   refine wp_region_held_drew (S:=fun w'=>w'.cell? ⟨b,off+k*3,none⟩=some (.bool (rneg (r)))/\w'.cell? ⟨b,off+k*3+1,none⟩=some (.slice (A) (dl (r).num.natAbs) (d))/\w'.cell? ⟨b,off+k*3+2,none⟩=some (.slice (A2) (dl (r).den) (d2))/\w'.cell? ⟨b',off'+k*3,none⟩=some (.bool (rneg (r)))/\w'.cell? ⟨b',off'+k*3+1,none⟩=some (.slice (A') (dl (r).num.natAbs) (d'))/\w'.cell? ⟨b',off'+k*3+2,none⟩=some (.slice (A2') (dl (r).den) (d2'))) (by kernel_rfl) (HS.out _ hB.drew) (fun hHeld=>?_)
   obtain ⟨w1,hw⟩:∃ W,W=World.drew wr:=⟨_,rfl⟩
   replace hB:Below w.heap.size w w1:=by rw [hw]; exact hB.drew
   rw [<-hw] at hHeld ⊢
   clear hw
   replace m1:=m1.on hB
   replace m2:=m2.on hB
   replace n1:=n1.on hB
   replace n2:=n2.on hB
   refine tkq 0 (h:=tkq 1 (h:=tkq 2 (h:=tkq 3 (h:=tkq 4 (h:=tkq 5 (h:=tkq 6 (h:=tkq 7 (h:=?_))))))))
   refine rdq 8 (h:=fun K hK=>?_)
   go_simp
   go_wp2_with fail
   refine (refSame02_any _ _ _ _ _ _ _ _ r N _ m1 m2 n1 n2 hN HRK).mono ?_
   rintro e w2 ⟨rfl,kb⟩
   replace hB:=onS hB kb
   clear kb
   refine bkq hK (HS.out _ hB) (h:=fun hHeld=>?_)
   clear hK K
   refine tkq 9 (h:=?_)
   refine wpAnyH_done (by kernel_rfl) ?_ _
   clear hHeld
   go_wp2
   go_roundg (gk - 1)
   case measure=>omega
   case rel=>exact ⟨k+1,by go_num,by omega,by omega,hB⟩
  ·have hlt':¬ (k:Int)<(m:Int):=by omega
   go_wp2
   go_ret
   exact ⟨rfl,hB⟩
theorem lawSame_any (T T':Option Addr) (m c c' N:Nat) (rs:Nat->Rat) (w:World) (h:RatList w w.heap.size T m rs) (h':RatList w w.heap.size T' m rs) (hm:m<=1048576) (hN:N<=33554432) (hr:Hid (∀ k,k<m->rsz (rs k) N)) :
  Calls Tryz.prog 27 #[.slice T m c,.slice T' m c'] w fun e w'=>e=.returned (.bool true)/\Below w.heap.size w w':=by
 go_enter Tryz.func27, Tryz.ntmps27
 go_wp2_with fail
 refine (refSameList_any T T' m c c' N rs _ h h' hm hN hr).mono ?_
 rintro e w1 ⟨rfl,hB⟩
 go_wp2
 go_ret
 exact ⟨rfl,hB⟩
def RatLens (w:World) (T:Option Addr) (m:Nat) (ln ld:Nat->Nat):Prop :=
 ∀ i,i<m->∃ b off s A c A2 c2,T=some ⟨b,off,none⟩/\b<w.heap.size/\w.cell? ⟨b,off+i*3,none⟩=some (.bool s)/\w.cell? ⟨b,off+i*3+1,none⟩=some (.slice A (ln i) c)/\w.cell? ⟨b,off+i*3+2,none⟩=some (.slice A2 (ld i) c2)
theorem RatLens.on {w w':World} {T:Option Addr} {m:Nat} {ln ld:Nat->Nat} (h:RatLens w T m ln ld) (hb:Below w.heap.size w w'):RatLens w' T m ln ld:=fun i hi=>by
 obtain ⟨b,off,s,A,c,A2,c2,e,h1,h2,h3,h4⟩:=h i hi
 exact ⟨b,off,s,A,c,A2,c2,e,Nat.lt_of_lt_of_le h1 hb.size,(hb.cell (p:=⟨b,_,none⟩) h1).trans h2,(hb.cell (p:=⟨b,_,none⟩) h1).trans h3,(hb.cell (p:=⟨b,_,none⟩) h1).trans h4⟩
structure RatRow (w:World) (g:Nat) (T:TypeId) (m:Nat) (f:Nat->Nat->Value):Prop where
 row:w.rowIs g T (m*3) (fun i=>f (i / 3) (i % 3))
 noInt:∀ i j k,f i j≠.int .u32 k
def putRat (f:Nat->Nat->Value) (k:Nat) (a b c:Value) (i j:Nat):Value:=if i=k then ratCell a b c j else f i j
structure RatPut (w:World) (g:Nat) (T:TypeId) (m:Nat) (f:Nat->Nat->Value) (k:Nat) (a b c:Value) (w3:World):Prop where
 row:RatRow w3 g T m (putRat f k a b c)
 nat:∀ B A' x,NatOk w B A' x->NatOk w3 B A' x
 rawn:∀ B A' n' x,NatRaw w B A' n' x->NatRaw w3 B A' n' x
 size:w3.heap.size=w.heap.size
 grown:w.grownBy w3 (some g)
theorem rat_put {w : World} {g : Nat} {T : TypeId} {m : Nat} {f : Nat → Nat → Value} (h : RatRow w g T m f) (k : Nat) (s : Bool) (A : Option Addr) (n c : Nat) (A2 : Option Addr) (p c2 : Nat) :
    RatPut w g T m f k (.bool s) (.slice A n c) (.slice A2 p c2) (((w.setCell ⟨g,k*3,none⟩ (.bool s)).setCell ⟨g,k*3+1,none⟩ (.slice A n c)).setCell ⟨g,k*3+2,none⟩ (.slice A2 p c2)):=by
  have r0:=NoInt.row h.row fun i hi q=>h.noInt _ _ q
  have h1:=h.row.set (k*3) (.bool s)
  have r1 := NoInt.row h1 fun i hi q => by
    first
    | (split
       · intro e; cases e
       · exact h.noInt _ _ q)
    | (simp only [Function.update]; split
       · intro e; cases e
       · exact h.noInt _ _ q)
  have h2:=h1.set (k*3+1) (.slice A n c)
  have r2:=NoInt.row h2 fun i hi q=>by
    split
    · intro e; cases e
    · split
      · intro e; cases e
      · exact h.noInt _ _ q
  have h3:=h2.set (k*3+2) (.slice A2 p c2)
  refine ⟨⟨h3.congr fun i hi=>?_,fun i j q=>?_⟩,fun B A' x hx=>((hx.set r0 _ _).set r1 _ _).set r2 _ _,fun B A' n' x hx=>((hx.set r0 _ _).set r1 _ _).set r2 _ _,by simp,grown_setCell (grown_setCell (grown_setCell (grown_refl w _) _) _) _⟩
  · unfold putRat ratCell
    by_cases e:i / 3=k
    · rw [if_pos e]
      rcases (by omega:i=k*3∨i=k*3+1∨i=k*3+2) with rfl | rfl | rfl
      · rw [if_neg (by omega),if_neg (by omega),if_pos rfl,if_pos (by omega)]
      · rw [if_neg (by omega),if_pos rfl,if_neg (by omega),if_pos (by omega)]
      · rw [if_pos rfl,if_neg (by omega),if_neg (by omega)]
    · rw [if_neg e,if_neg (by omega),if_neg (by omega),if_neg (by omega)]
  · unfold putRat ratCell
    split
    · split
      · intro e; cases e
      · split
        · intro e; cases e
        · intro e; cases e
    · exact h.noInt _ _ q
theorem RatPut.below {w w3 w0:World} {g B:Nat} {T:TypeId} {m k:Nat} {f:Nat->Nat->Value} {a b c:Value} (h:RatPut w g T m f k a b c w3) (hB:Below B w0 w) (hg:B<=g) (hs:B<=w.heap.size):Below B w0 w3 :=
 hB.grown h.grown hs (fun q e=>by injection e with e; omega)
theorem RatRow.on {w w':World} {g:Nat} {T:TypeId} {m:Nat} {f:Nat->Nat->Value} (h:RatRow w g T m f) (hb:Below w.heap.size w w'):RatRow w' g T m f:=⟨rowIs_on h.row hb,h.noInt⟩
theorem RatRow.cell {w:World} {g:Nat} {T:TypeId} {m:Nat} {f:Nat->Nat->Value} (h:RatRow w g T m f) {i j:Nat} (hi:i<m) (hj:j<3):w.cell? ⟨g,i*3+j,none⟩=some (f i j):=by
 have:=h.row.cell (i:=i*3+j) (by omega)
 rw [show (i*3+j) / 3=i by omega,show (i*3+j) % 3=j by omega] at this
 exact this
def pairR (r r':Rat) (i:Nat):Rat:=if i=0 then r else r'
theorem ratTab_pair {w:World} (T:TypeId) {s s':Bool} {A A2 A' A2':Option Addr} {n c k c2 n' c' k' c2' N:Nat} {r r':Rat}
  (h:RatRaw w w.heap.size (.agg #[.bool s,.slice A n c,.slice A2 k c2]) r N) (h':RatRaw w w.heap.size (.agg #[.bool s',.slice A' n' c',.slice A2' k' c2']) r' N) :
  RatTab (w.alloc (.cells #[.bool s,.slice A n c,.slice A2 k c2,.bool s',.slice A' n' c',.slice A2' k' c2'] T)) (w.alloc (.cells #[.bool s,.slice A n c,.slice A2 k c2,.bool s',.slice A' n' c',.slice A2' k' c2'] T)).heap.size (some ⟨w.heap.size,0,none⟩) 2 (pairR r r') N:=fun i hi=>by
 have hb:=below_one w (.cells #[.bool s,.slice A n c,.slice A2 k c2,.bool s',.slice A' n' c',.slice A2' k' c2'] T)
 have hs:w.heap.size<(w.alloc (.cells #[.bool s,.slice A n c,.slice A2 k c2,.bool s',.slice A' n' c',.slice A2' k' c2'] T)).heap.size:=by simp
 have hg:=heap_alloc_new w (.cells #[.bool s,.slice A n c,.slice A2 k c2,.bool s',.slice A' n' c',.slice A2' k' c2'] T)
 match i,hi with
 | 0,_=>exact ⟨w.heap.size,0,s,A,n,c,A2,k,c2,rfl,hs,by rw [cell_of_row _ _ _ _ T (0,0) hg]; rfl,by rw [cell_of_row _ _ _ _ T (0,0) hg]; rfl,by rw [cell_of_row _ _ _ _ T (0,0) hg]; rfl,h.on hb⟩
 | 1,_=>exact ⟨w.heap.size,0,s',A',n',c',A2',k',c2',rfl,hs,by rw [cell_of_row _ _ _ _ T (0,0) hg]; rfl,by rw [cell_of_row _ _ _ _ T (0,0) hg]; rfl,by rw [cell_of_row _ _ _ _ T (0,0) hg]; rfl,h'.on hb⟩
theorem ratMul_tab {w:World} {T:Option Addr} {r r':Rat} {N:Nat} (h:RatTab w w.heap.size T 2 (pairR r r') N) (hN:N<=33554432) (h1:1<=N) (d1:rsz r N) (d2:rsz r' N) (d3:rsz (r*r') N) :
  Calls Tryz.prog 61 #[.slice T 2 2] w (RatPost (r*r') w):=by
 have e:prodR (pairR r r') 2=r*r':=by simp [prodR,pairR]
 have e1:prodR (pairR r r') 1=r:=by simp [prodR,pairR]
 have:=ratMul_any T 2 2 N (pairR r r') w h (by omega) hN (hid fun k hk=>?_) (hid fun k hk=>?_)
 ·rwa [e] at this
 ·match k,hk with
  | 0,_=>exact ⟨by show dl 1<=N; rw [dl_one]; exact h1,by show dl 1<=N; rw [dl_one]; exact h1⟩
  | 1,_=>rw [e1]; exact d1
  | 2,_=>rw [e]; exact d3
 ·match k,hk with
  | 0,_=>exact d1
  | 1,_=>exact d2
theorem ratAdd_tab {w:World} {T:Option Addr} {r r':Rat} {N:Nat} (h:RatTab w w.heap.size T 2 (pairR r r') N) (hN:N<=33554432) (h1:1<=N) (d1:rsz r N) (d2:rsz r' N) (d3:rsz (r+r') N) :
  Calls Tryz.prog 60 #[.slice T 2 2] w (RatPost (r+r') w):=by
 have e:sumR (pairR r r') 2=r+r':=by simp [sumR,pairR,Rat.zero_add]
 have e1:sumR (pairR r r') 1=r:=by simp [sumR,pairR,Rat.zero_add]
 have:=ratAdd_any T 2 2 N (pairR r r') w h (by omega) hN (hid fun k hk=>?_) (hid fun k hk=>?_)
 ·rwa [e] at this
 ·match k,hk with
  | 0,_=>exact ⟨by show dl 0<=N; rw [dl_zero]; omega,by show dl 1<=N; rw [dl_one]; exact h1⟩
  | 1,_=>rw [e1]; exact d1
  | 2,_=>rw [e]; exact d3
 ·match k,hk with
  | 0,_=>exact d1
  | 1,_=>exact d2
theorem ratPost_raw {r:Rat} {w:World} {A c A2 c2 N} (h1:NatOk w w.heap.size A r.num.natAbs) (h2:NatOk w w.heap.size A2 r.den) (h3:dl r.num.natAbs<=c) (h4:c<=maxLen) (h5:dl r.den<=c2) (h6:c2<=maxLen) (hs:rsz r N) :
  RatRaw w w.heap.size (.agg #[.bool (rneg r),.slice A (dl r.num.natAbs) c,.slice A2 (dl r.den) c2]) r N:=RatOk.raw ⟨A,c,A2,c2,rfl,h1,h2,h3,h4,h5,h6⟩ hs
theorem RatTab.letter {w W:World} {T:Option Addr} {m N:Nat} {rs:Nat->Rat} (e:W=w) (h:RatTab w w.heap.size T m rs N):RatTab W W.heap.size T m rs N:=by rw [e]; exact h
theorem Tryz.infoRat:(Tryz.prog.info? 31).map (fun i=>(i.zero,i.size,i.bytes))=some (some (.agg #[.bool false,.slice none 0 0,.slice none 0 0]),3,56):=by kernel_rfl
theorem run_makeRat (n:Nat) (hn:n<=1048576) (w:World) :
  (Instr.makeSlice 40 (.int .i64 (n:Int)) (.int .i64 (n:Int))).run Tryz.prog w=.ok (.slice (some ⟨w.heap.size,0,none⟩) n n) (w.alloc (.cells (madeCells #[.bool false,.slice none 0 0,.slice none 0 0] (n*3)) 31)):=by
 obtain ⟨i,hi,hzz⟩:=Option.map_eq_some_iff.1 Tryz.infoRat
 simp only [Prod.mk.injEq] at hzz
 obtain ⟨hz,hs,hb⟩:=hzz
 have h:=run_make (P:=Tryz.prog) w 40 31 i _ Tryz.underlying40 hi hz .i64 .i64 (n:Int) (n:Int) (by omega) (by omega) (by rw [hb]; omega) (by omega)
 rw [hs] at h
 simp only [Int.toNat_natCast] at h
 exact h
def RowOk (w:World) (g:Nat) (M k:Nat) (rs:Nat->Rat):Prop :=
 ∃ f,RatRow w g 31 M f/\k<=M/\∀ i,i<k->∃ A c A2 c2,f i 0=.bool (rneg (rs i))/\f i 1=.slice A (dl (rs i).num.natAbs) c/\f i 2=.slice A2 (dl (rs i).den) c2/\NatOk w w.heap.size A (rs i).num.natAbs/\NatOk w w.heap.size A2 (rs i).den/\dl (rs i).num.natAbs<=c/\c<=maxLen/\dl (rs i).den<=c2/\c2<=maxLen
theorem RowOk.on {w w':World} {g M k:Nat} {rs:Nat->Rat} (h:RowOk w g M k rs) (hb:Below w.heap.size w w'):RowOk w' g M k rs:=by
 obtain ⟨f,h1,h2,h3⟩:=h
 refine ⟨f,h1.on hb,h2,fun i hi=>?_⟩
 obtain ⟨A,c,A2,c2,e0,e1,e2,n1,n2,h4⟩:=h3 i hi
 exact ⟨A,c,A2,c2,e0,e1,e2,n1.on hb,n2.on hb,h4⟩
theorem RowOk.congr {w:World} {g M k:Nat} {rs rs':Nat->Rat} (h:RowOk w g M k rs) (e:∀ i,i<k->rs i=rs' i):RowOk w g M k rs':=by
 obtain ⟨f,h1,h2,h3⟩:=h
 exact ⟨f,h1,h2,fun i hi=>by rw [<-e i hi]; exact h3 i hi⟩
theorem RowOk.lt {w:World} {g M k:Nat} {rs:Nat->Rat} (h:RowOk w g M k rs):g<w.heap.size:=by
 obtain ⟨f,h1,_⟩:=h
 exact h1.row.lt
theorem RowOk.froz {w:World} {g M k:Nat} {rs:Nat->Rat} (h:RowOk w g M k rs) (i:Nat):w.frozen? ⟨g,i,none⟩=false:=by
 obtain ⟨f,h1,_⟩:=h
 exact h1.row.frozen i
theorem RowOk.old {w:World} {g M k:Nat} {rs:Nat->Rat} (h:RowOk w g M k rs) (i:Nat) (hi:i<M):∃ a b c,w.cell? ⟨g,i*3,none⟩=some a/\w.cell? ⟨g,i*3+1,none⟩=some b/\w.cell? ⟨g,i*3+2,none⟩=some c:=by
 obtain ⟨f,h1,_⟩:=h
 exact ⟨_,_,_,h1.cell (j:=0) hi (by omega),h1.cell (j:=1) hi (by omega),h1.cell (j:=2) hi (by omega)⟩
theorem RowOk.get {w:World} {g M k:Nat} {rs:Nat->Rat} (h:RowOk w g M k rs) (i:Nat) (hi:i<k):∃ A c A2 c2,w.cell? ⟨g,i*3,none⟩=some (.bool (rneg (rs i)))/\w.cell? ⟨g,i*3+1,none⟩=some (.slice A (dl (rs i).num.natAbs) c)/\w.cell? ⟨g,i*3+2,none⟩=some (.slice A2 (dl (rs i).den) c2)/\NatOk w w.heap.size A (rs i).num.natAbs/\NatOk w w.heap.size A2 (rs i).den/\dl (rs i).num.natAbs<=c/\c<=maxLen/\dl (rs i).den<=c2/\c2<=maxLen:=by
 obtain ⟨f,h1,h2,h3⟩:=h
 obtain ⟨A,c,A2,c2,e0,e1,e2,h4⟩:=h3 i hi
 refine ⟨A,c,A2,c2,?_,?_,?_,h4⟩
 ·have:=h1.cell (i:=i) (j:=0) (by omega) (by omega); rw [e0] at this; exact this
 ·have:=h1.cell (i:=i) (j:=1) (by omega) (by omega); rw [e1] at this; exact this
 ·have:=h1.cell (i:=i) (j:=2) (by omega) (by omega); rw [e2] at this; exact this
theorem RowOk.list {w:World} {g M k:Nat} {rs:Nat->Rat} (h:RowOk w g M k rs):RatList w w.heap.size (some ⟨g,0,none⟩) k rs:=fun i hi=>by
 obtain ⟨A,c,A2,c2,h1,h2,h3,h4⟩:=h.get i hi
 exact ⟨g,0,A,c,A2,c2,rfl,h.lt,by rw [Nat.zero_add]; exact h1,by rw [Nat.zero_add]; exact h2,by rw [Nat.zero_add]; exact h3,h4⟩
theorem RatList.tab {w:World} {B m N:Nat} {T:Option Addr} {rs:Nat->Rat} (h:RatList w B T m rs) (hr:∀ i,i<m->rsz (rs i) N):RatTab w B T m rs N:=fun i hi=>by
 obtain ⟨b,off,A,c,A2,c2,e,h1,h2,h3,h4,h5,h6,h7⟩:=h i hi
 exact ⟨b,off,_,A,_,c,A2,_,c2,e,h1,h2,h3,h4,RatOk.raw ⟨A,c,A2,c2,rfl,h5,h6,h7⟩ (hr i hi)⟩
theorem RatList.congr {w:World} {B m:Nat} {T:Option Addr} {rs rs':Nat->Rat} (h:RatList w B T m rs) (e:∀ i,i<m->rs i=rs' i):RatList w B T m rs':=fun i hi=>by
 rw [<-e i hi]; exact h i hi
theorem RatList.le {w:World} {B m n:Nat} {T:Option Addr} {rs:Nat->Rat} (h:RatList w B T m rs) (hn:n<=m):RatList w B T n rs:=fun i hi=>h i (by omega)
theorem rowOk_made (w:World) (M:Nat) (rs:Nat->Rat):RowOk (w.alloc (.cells (madeCells #[.bool false,.slice none 0 0,.slice none 0 0] (M*3)) 31)) w.heap.size M 0 rs:=by
 refine ⟨fun _ j=>ratCell (.bool false) (.slice none 0 0) (.slice none 0 0) j,⟨⟨_,heap_alloc_new w _,size_madeCells _ _,fun i hi=>?_⟩,fun i j k=>?_⟩,by omega,fun i hi=>by omega⟩
 ·have:(madeCells #[Value.bool false,.slice none 0 0,.slice none 0 0] (M*3))[i]?=some (#[Value.bool false,.slice none 0 0,.slice none 0 0][i % 3]!):=by simp [madeCells,hi]
  rw [this]
  show some _=some (ratCell _ _ _ (i % 3))
  rcases (by omega:i % 3=0∨i % 3=1∨i % 3=2) with e | e | e <;> rw [e] <;> rfl
 ·unfold ratCell
  split
  ·intro e; cases e
  ·split <;> (intro e; cases e)
def updR (rs:Nat->Rat) (p:Nat) (r:Rat) (i:Nat):Rat:=if i=p then r else rs i
structure RowPut (w:World) (g M k p:Nat) (rs:Nat->Rat) (r:Rat) (w3:World):Prop where
 row:RowOk w3 g M (max k (p+1)) (updR rs p r)
 nat:∀ B A' x,NatOk w B A' x->NatOk w3 B A' x
 rawn:∀ B A' n' x,NatRaw w B A' n' x->NatRaw w3 B A' n' x
 size:w3.heap.size=w.heap.size
 grown:w.grownBy w3 (some g)
theorem rowPut {w:World} {g M k p:Nat} {rs:Nat->Rat} {r:Rat} (h:RowOk w g M k rs) (hp:p<=k) (hpM:p<M) {A A2:Option Addr} {c c2:Nat}
  (m1:NatOk w w.heap.size A r.num.natAbs) (m2:NatOk w w.heap.size A2 r.den) (m3:dl r.num.natAbs<=c) (m4:c<=maxLen) (m5:dl r.den<=c2) (m6:c2<=maxLen) :
  RowPut w g M k p rs r (((w.setCell ⟨g,p*3,none⟩ (.bool (rneg r))).setCell ⟨g,p*3+1,none⟩ (.slice A (dl r.num.natAbs) c)).setCell ⟨g,p*3+2,none⟩ (.slice A2 (dl r.den) c2)):=by
 obtain ⟨f,h1,h2,h3⟩:=h
 have st:=rat_put h1 p (rneg r) A (dl r.num.natAbs) c A2 (dl r.den) c2
 refine ⟨⟨_,st.row,by omega,fun i hi=>?_⟩,st.nat,st.rawn,st.size,st.grown⟩
 by_cases e:i=p
 ·subst e
  refine ⟨A,c,A2,c2,?_,?_,?_,?_,?_,?_,m4,?_,m6⟩
  ·simp [putRat,ratCell,updR]
  ·simp [putRat,ratCell,updR]
  ·simp [putRat,ratCell,updR]
  ·simp only [updR,if_pos]; rw [st.size]; exact st.nat _ _ _ m1
  ·simp only [updR,if_pos]; rw [st.size]; exact st.nat _ _ _ m2
  ·simp only [updR,if_pos]; exact m3
  ·simp only [updR,if_pos]; exact m5
 ·obtain ⟨A',c',A2',c2',e0,e1,e2,n1,n2,h4⟩:=h3 i (by omega)
  refine ⟨A',c',A2',c2',?_,?_,?_,?_,?_,?_⟩
  ·simp [putRat,e,updR,e0]
  ·simp [putRat,e,updR,e1]
  ·simp [putRat,e,updR,e2]
  ·simp only [updR,if_neg e]; rw [st.size]; exact st.nat _ _ _ n1
  ·simp only [updR,if_neg e]; rw [st.size]; exact st.nat _ _ _ n2
  ·simp only [updR,if_neg e]; exact h4
theorem RowPut.below {w w3 w0:World} {g M k p B:Nat} {rs:Nat->Rat} {r:Rat} (h:RowPut w g M k p rs r w3) (hB:Below B w0 w) (hg:B<=g) (hs:B<=w.heap.size):Below B w0 w3 :=
 hB.grown h.grown hs (fun q e=>by injection e with e; omega)
def RatOwn (w:World) (base:Nat) (v:Value) (k:Nat) (rs:Nat->Rat):Prop :=
 ∃ f,Own w base 31 3 v k f/\(∀ g,v.ownBlock=some g->NoInt w g)/\∀ i,i<k->∃ A c A2 c2,f i 0=.bool (rneg (rs i))/\f i 1=.slice A (dl (rs i).num.natAbs) c/\f i 2=.slice A2 (dl (rs i).den) c2/\NatOk w w.heap.size A (rs i).num.natAbs/\NatOk w w.heap.size A2 (rs i).den/\dl (rs i).num.natAbs<=c/\c<=maxLen/\dl (rs i).den<=c2/\c2<=maxLen
theorem RatOwn.nil (w:World) (base:Nat) (rs:Nat->Rat):RatOwn w base (.slice none 0 0) 0 rs:=⟨fun _ _=>undef,.inl ⟨rfl,rfl⟩,fun g h=>by simp [Value.ownBlock] at h,fun i hi=>by omega⟩
theorem RatOwn.on {w w':World} {base k:Nat} {v:Value} {rs:Nat->Rat} (h:RatOwn w base v k rs) (hb:Below w.heap.size w w'):RatOwn w' base v k rs:=by
 obtain ⟨f,h1,h2,h3⟩:=h
 refine ⟨f,h1.on hb,fun g hg j n hj=>?_,fun i hi=>?_⟩
 ·have hlt:=(h1.lt g hg).2
  exact h2 g hg j n (by rw [<-hb.cell (p:=⟨g,j,none⟩) hlt]; exact hj)
 ·obtain ⟨A,c,A2,c2,e0,e1,e2,n1,n2,h4⟩:=h3 i hi
  exact ⟨A,c,A2,c2,e0,e1,e2,n1.on hb,n2.on hb,h4⟩
theorem RatOwn.shape {w:World} {base k:Nat} {v:Value} {rs:Nat->Rat} (h:RatOwn w base v k rs):∃ A c,v=.slice A k c:=by
 obtain ⟨f,h1,_⟩:=h
 exact h1.shape
theorem RatOwn.list {w:World} {base k c:Nat} {A:Option Addr} {rs:Nat->Rat} (h:RatOwn w base (.slice A k c) k rs):RatList w w.heap.size A k rs:=fun i hi=>by
 obtain ⟨f,h1,_,h3⟩:=h
 obtain ⟨g,o,cap,e,_,hlt,_,_,hc⟩:=h1.form (by omega)
 injection e with e
 obtain ⟨A',c',A2',c2',e0,e1,e2,h4⟩:=h3 i hi
 refine ⟨g,o,A',c',A2',c2',e,hlt,?_,?_,?_,h4⟩
 ·rw [<-e0]; exact hc i hi 0 (by omega)
 ·rw [<-e1]; exact hc i hi 1 (by omega)
 ·rw [<-e2]; exact hc i hi 2 (by omega)
theorem RatOwn.cap {w:World} {base k c:Nat} {A:Option Addr} {rs:Nat->Rat} (h:RatOwn w base (.slice A k c) k rs):k<=c/\c<=maxLen/\(A=none->k=0/\c=0)/\∀ a,A=some a->∃ g o,a=⟨g,o,none⟩:=by
 obtain ⟨f,h1,_⟩:=h
 rcases h1 with ⟨e,rfl⟩ | ⟨g,o,cap,cur,e,_,_,h4,h5,_⟩
 ·injection e with e1 _ e3
  subst e1 e3
  exact ⟨by omega,by unfold maxLen; omega,fun _=>⟨rfl,rfl⟩,fun a h=>by cases h⟩
 ·injection e with e1 _ e3
  subst e1 e3
  exact ⟨h4,h5,(fun h=>by cases h),fun a h=>by injection h with h; exact ⟨g,o,h.symm⟩⟩
theorem rowIs_grownO {w w':World} {g:Nat} {t:TypeId} {n:Nat} {f:Nat->Value} {row:Option Nat} (h:w.rowIs g t n f) (hg:w.grownBy w' row) (hne:some g≠row):w'.rowIs g t n f:=h.of_block (hg.block g h.lt hne)
theorem RatRaw.grown {w w':World} {v:Value} {r:Rat} {N:Nat} {row:Option Nat} (h:RatRaw w w.heap.size v r N) (hg:w.grownBy w' row) (hni:∀ g,row=some g->NoInt w g):RatRaw w' w'.heap.size v r N:=by
 have raw:∀ A n x,NatRaw w w.heap.size A n x->NatRaw w' w'.heap.size A n x:=fun A n x ⟨f,h1,h2⟩=>by
  refine ⟨f,fun q hq=>?_,h2⟩
  obtain ⟨b',o',e,h3,h4⟩:=lims_grownO h1 (Nat.le_refl _) hg hni q hq
  exact ⟨b',o',e,Nat.lt_of_lt_of_le h3 hg.size,h4⟩
 obtain ⟨s,A,n,c,A2,m,c2,x,y,e,h1,h2,h3⟩:=h
 exact ⟨s,A,n,c,A2,m,c2,x,y,e,raw _ _ _ h1,raw _ _ _ h2,h3⟩
theorem RatOwn.lt {w:World} {base k:Nat} {v:Value} {rs:Nat->Rat} (h:RatOwn w base v k rs) (g:Nat) (hg:v.ownBlock=some g):base<=g/\g<w.heap.size:=by
 obtain ⟨f,h1,_⟩:=h
 exact h1.lt g hg
theorem run_append_rat (w:World) (ty:TypeId) (base:Nat) (v:Value) (k:Nat) (rs:Nat->Rat) (h:RatOwn w base v k rs) (hbase:base<=w.heap.size) (hk:k<=1048576)
  (b c:Nat) (A:Option Addr) (d:Nat) (A2:Option Addr) (d2:Nat) (r:Rat) (hr:rs k=r)
  (c0:w.cell? ⟨b,0,none⟩=some (.bool (rneg r))) (c1:w.cell? ⟨b,1,none⟩=some (.slice A (dl r.num.natAbs) d)) (c2:w.cell? ⟨b,2,none⟩=some (.slice A2 (dl r.den) d2))
  (m1:NatOk w w.heap.size A r.num.natAbs) (m2:NatOk w w.heap.size A2 r.den) (m3:dl r.num.natAbs<=d) (m4:d<=maxLen) (m5:dl r.den<=d2) (m6:d2<=maxLen) :
  ∃ v' w',(Builtin.append_ #[40, 40] ty #[v,.slice (some ⟨b,0,none⟩) 1 c]).run Tryz.prog w=.ok v' w'/\RatOwn w' base v' (k+1) rs/\w.grownBy w' v.ownBlock/\(∀ g,v.ownBlock=some g->base<=g/\NoInt w g):=by
 subst hr
 obtain ⟨f,hown,hni,hf⟩:=h
 obtain ⟨i,hi,hzz⟩:=Option.map_eq_some_iff.1 Tryz.infoRat
 simp only [Prod.mk.injEq] at hzz
 obtain ⟨hz,hs,hb⟩:=hzz
 let f':Nat->Nat->Value:=fun i j=>if i<k then (if j<3 then f i j else undef) else ratCell (.bool (rneg (rs k))) (.slice A (dl (rs k).num.natAbs) d) (.slice A2 (dl (rs k).den) d2) j
 have hown':Own w base 31 3 v k f':=hown.congr fun i hi j hj=>by simp [f',hi,hj]
 have add_lit':∀ j,(⟨b,0,none⟩:Addr).add j=⟨b,j,none⟩:=fun j=>by unfold Addr.add; split <;> simp_all
 have hnews:∀ j,j<3->w.cell? ((⟨b,0,none⟩:Addr).add j)=some (f' k j):=fun j hj=>by
  rw [add_lit']
  match j,hj with
  | 0,_=>simpa [f',ratCell] using c0
  | 1,_=>simpa [f',ratCell] using c1
  | 2,_=>simpa [f',ratCell] using c2
 have h1:∀ j,j<3->(f' k j).oneCell'=true:=fun j hj=>by
  match j,hj with
  | 0,_=>simp [f',ratCell]; rfl
  | 1,_=>simp [f',ratCell]; rfl
  | 2,_=>simp [f',ratCell]; rfl
 obtain ⟨v1,w1,e1,o1,g1,a1,_⟩:=run_append_one (P:=Tryz.prog) w base 40 ty 31 i _ 3 56 Tryz.underlying40 hi hz hs hb rfl (by omega) v k f' hown' ⟨b,0,none⟩ c hnews h1 (by unfold maxLen; omega) (by omega) hbase
 obtain ⟨v2,w2,e2,hcells⟩:=run_append_cells (P:=Tryz.prog) w (fun u=>∀ n,u≠.int .u32 n) base 40 ty 31 i _ 3 56 Tryz.underlying40 hi hz hs hb (by omega) v k f' hown' ⟨b,0,none⟩ c hnews h1 (by unfold maxLen; omega) (by omega)
  (fun u hu n e=>by
   have hu:u ∈ [Value.bool false,.slice none 0 0,.slice none 0 0]:=hu
   rw [e] at hu; simp at hu)
  (fun i j hi hj n=>by
   by_cases e:i<k
   ·obtain ⟨B,x,B2,x2,e0,e1,e2,_⟩:=hf i e
    match j,hj with
    | 0,_=>simp [f',e,e0]
    | 1,_=>simp [f',e,e1]
    | 2,_=>simp [f',e,e2]
   ·match j,hj with
    | 0,_=>simp [f',e,ratCell]
    | 1,_=>simp [f',e,ratCell]
    | 2,_=>simp [f',e,ratCell])
  (fun g c' e' fr hg hh=>mem_of_noInt hh (hni g hg))
 rw [e1] at e2
 injection e2 with e2 e3
 subst e2 e3
 have nat:∀ A' x,NatOk w w.heap.size A' x->NatOk w1 w1.heap.size A' x:=fun A' x hx=>by
  have:=lims_grownO hx (Nat.le_refl _) g1 (fun g hg=>hni g hg)
  intro q hq
  obtain ⟨b',o',e,h1,h2⟩:=this q hq
  exact ⟨b',o',e,Nat.lt_of_lt_of_le h1 g1.size,h2⟩
 refine ⟨v1,w1,e1,⟨f',o1,fun g hg=>?_,fun i hi=>?_⟩,g1,fun g hg=>⟨(hown.lt g hg).1,hni g hg⟩⟩
 ·obtain ⟨c',e',fr,hh,hu⟩:=hcells g hg
  exact noInt_of hh hu
 ·by_cases e:i<k
  ·obtain ⟨B,x,B2,x2,e0,e1,e2,n1,n2,h4⟩:=hf i e
   exact ⟨B,x,B2,x2,by simp [f',e,e0],by simp [f',e,e1],by simp [f',e,e2],nat _ _ n1,nat _ _ n2,h4⟩
  ·obtain rfl:i=k:=by omega
   exact ⟨A,d,A2,d2,by simp [f',ratCell],by simp [f',ratCell],by simp [f',ratCell],nat _ _ m1,nat _ _ m2,m3,m4,m5,m6⟩
theorem wpList_append_rat {w:World} {ops:Array Oper} {rest:List Oper} {o:Oper} {a:Act} {Q:Exit->Act->World->Prop} (hgd:o.guard=none) (sl x:Operand)
  (ho:o.op=.call { callee:=.builtin .append,args:=#[sl,x],argTypes:=#[40, 40] })
  (base:Nat) (v:Value) (k:Nat) (rs:Nat->Rat) (hv:a.eval sl=v) (h:RatOwn w base v k rs) (hbase:base<=w.heap.size) (hk:k<=1048576)
  (b c:Nat) (hx:a.eval x=.slice (some ⟨b,0,none⟩) 1 c) (A:Option Addr) (d:Nat) (A2:Option Addr) (d2:Nat) (r:Rat) (hr:rs k=r)
  (c0:w.cell? ⟨b,0,none⟩=some (.bool (rneg r))) (c1:w.cell? ⟨b,1,none⟩=some (.slice A (dl r.num.natAbs) d)) (c2:w.cell? ⟨b,2,none⟩=some (.slice A2 (dl r.den) d2))
  (m1:NatOk w w.heap.size A r.num.natAbs) (m2:NatOk w w.heap.size A2 r.den) (m3:dl r.num.natAbs<=d) (m4:d<=maxLen) (m5:dl r.den<=d2) (m6:d2<=maxLen)
  (hK:∀ v' w',RatOwn w' base v' (k+1) rs->w.grownBy w' v.ownBlock->(∀ g,v.ownBlock=some g->base<=g/\NoInt w g)->wpList Tryz.prog ops Q rest (a.put o.dst v') w'):wpList Tryz.prog ops Q (o :: rest) a w:=by
 refine wpList_plain hgd fun K hK'=>?_
 obtain ⟨v',w',hrun,h2,h3,h4⟩:=run_append_rat w o.type base v k rs h hbase hk b c A d A2 d2 r hr c0 c1 c2 m1 m2 m3 m4 m5 m6
 unfold Oper.wp execOp
 simp only [ho,resolve,invoke,builtin,Sem.run_bind,Sem.run_pure,Result.andThen_ok,List.map_toArray,List.map_cons,List.map_nil,hv,hx,hrun]
 exact hK' _ _ (hK v' w' h2 h3 h4)
def clen (rs:Nat->Rat):Nat->Nat
 | 0=>0
 | k+1=>if rs k=0 then clen rs k else k+1
theorem clen_le (rs:Nat->Rat) (m:Nat):clen rs m<=m:=by
 induction m with
 | zero=>exact Nat.le_refl _
 | succ m ih=>unfold clen; split <;> omega
theorem clen_congr {rs rs':Nat->Rat} {m:Nat} (h:∀ i,i<m->rs i=rs' i):clen rs m=clen rs' m:=by
 induction m with
 | zero=>rfl
 | succ m ih=>unfold clen; rw [h m (by omega),ih fun i hi=>h i (by omega)]
theorem clen_zero {rs:Nat->Rat} {m i:Nat} (h:clen rs m<=i) (hi:i<m):rs i=0:=by
 induction m with
 | zero=>omega
 | succ m ih =>
  unfold clen at h
  by_cases e:rs m=0
  ·rw [if_pos e] at h
   by_cases e2:i=m
   ·rw [e2]; exact e
   ·exact ih h (by omega)
  ·rw [if_neg e] at h; omega
def PolyPost (n:Nat) (rs:Nat->Rat) (w:World) (e:Ending) (w':World):Prop :=
 ∃ A c,e=.returned (.slice A n c)/\n<=c/\c<=maxLen/\RatList w' w'.heap.size A n rs/\Below w.heap.size w w'
theorem rsign_ne {r:Rat}:((rsign r:Int) != 0)=!(decide (r=0)):=by
 unfold rsign
 by_cases h:r.num=0
 ·have:r=0:=Rat.num_eq_zero.1 h
  rw [if_pos h,this]; rfl
 ·have h2:r≠0:=fun e=>h (Rat.num_eq_zero.2 e)
  rw [if_neg h]
  simp only [h2,decide_false,Bool.not_false,bne_iff_ne,ne_eq]
  split <;> omega
theorem chCanon_any (T:Option Addr) (m c N:Nat) (rs:Nat->Rat) (w:World) (h:RatTab w w.heap.size T m rs N) (hm:m<=1048576) (hN:N<=33554432) :
  Calls Tryz.prog 121 #[.slice T m c] w (PolyPost (clen rs m) rs w):=by
 go_enter Tryz.func121, Tryz.ntmps121
 go_wp2
 go_loopg [3,4,9] m (fun gg ov nv iv wx=>∃ k:Nat,∃ A c,iv=.int .i64 (k:Nat)/\k<=m/\m<=k+gg/\nv=.int .i64 (clen rs k:Nat)/\ov=.slice A k c/\RatOwn wx w.heap.size (.slice A k c) k rs/\Below w.heap.size w wx)
 case atStart=>exact ⟨0,none,0,rfl,by omega,by omega,rfl,rfl,RatOwn.nil _ _ _,Below.refl _ _⟩
 case round =>
  obtain ⟨k,OA,oc,rfl,hk,hkg,rfl,rfl,hown,hB⟩:=hrel
  have hk0:(0:Int)<=(k:Int):=by omega
  have hcl:=clen_le rs k
  by_cases hlt:k<m
  ·have hlt':(k:Int)<(m:Int):=by omega
   obtain ⟨b,off,s,A1,n1,c1,A2,n2,c2,rfl,hb,t0,t1,t2,hraw⟩:=h.on hB k hlt
   have hraw2:=hraw
   obtain ⟨r,hr⟩:∃ r,r=rs k:=⟨_,rfl⟩
   rw [<-hr] at hraw hraw2
   have HR:=hid hr
   clear hr
   have kb:=below_one wr (.cells #[.bool s,.slice A1 n1 c1,.slice A2 n2 c2] 31)
   have rx:=box_row (w:=wr) (a:=.bool s) (b:=.slice A1 n1 c1) (c:=.slice A2 n2 c2) (T := 31)
   have hszb:=hB.size
   replace hraw:=hraw.on kb
   have hown1:=hown.on kb
   have hB1:=onS hB kb
   obtain ⟨cl,hcle⟩:∃ cl,cl=clen rs k:=⟨_,rfl⟩
   rw [<-hcle]
   rw [<-hcle] at hcl
   have HCL:=hid hcle
   clear hcle
   go_wp2_with fail
   refine (ratTrim_any _ r N _ hraw (by omega)).mono ?_
   rintro e w1 ⟨At,ct,Bt,dt,rfl,m1,m2,m3,m4,m5,m6,kb1⟩
   have kb2:=below_one w1 (.cells #[.bool (rneg r),.slice At (dl r.num.natAbs) ct,.slice Bt (dl r.den) dt] 31)
   have ry:=box_row (w:=w1) (a:=.bool (rneg r)) (b:=.slice At (dl r.num.natAbs) ct) (c:=.slice Bt (dl r.den) dt) (T := 31)
   replace hown1:=(hown1.on kb1).on kb2
   replace hraw:=(hraw.on kb1).on kb2
   replace rx:=rowIs_on (rowIs_on rx kb1) kb2
   replace hB1:=onS (onS hB1 kb1) kb2
   have n1':=m1.on kb2
   have n2':=m2.on kb2
   have hsz1:=kb1.size
   have y0:=ry.cell (i:=0) (by omega)
   have y1:=ry.cell (i:=1) (by omega)
   have y2:=ry.cell (i:=2) (by omega)
   clear t0 t1 t2
   go_wp2_with (first | (at_builtin; (refine wpList_append_rat rfl (.tmp 14) (.tmp 17) rfl w.heap.size _ k rs rfl hown1 (by have:=hB1.size; exact this) (by omega) w1.heap.size 1 rfl At ct Bt dt r HR.out.symm y0 y1 y2 n1' n2' m3 m4 m5 m6 ?_); intro v' w3 hown3 hg3 hat3; obtain ⟨OA',oc',rfl⟩:=hown3.shape; replace rx:=rowIs_grownO rx hg3 (fun e=>by have:=(hown.lt _ e.symm).2; omega); replace hraw:=hraw.grown hg3 (fun g hg=>(hat3 g hg).2); replace hB1:=hB1.grown hg3 hB1.size (fun g hg=>(hat3 g hg).1); have x0:=rx.cell (i:=0) (by omega); have x1:=rx.cell (i:=1) (by omega); have x2:=rx.cell (i:=2) (by omega); clear y0 y1 y2 hg3 hat3))
   clear m1 m2 n1' n2'
   refine (ratSign_any _ r N _ hraw (by omega)).mono ?_
   rintro e w4 ⟨rfl,kb3⟩
   replace hown3:=hown3.on kb3
   replace hB1:=onS hB1 kb3
   clear x0 x1 x2
   have hsg:=rsign_ne (r:=r)
   have hnx:clen rs (k+1)=if r=0 then clen rs k else k+1:=by rw [HR.out]; rfl
   rw [<-HCL.out] at hnx
   by_cases hz:r=0
   ·have hsg2:((rsign r:Int) != 0)=false:=by rw [hsg]; simp [hz]
    rw [if_pos hz] at hnx
    have HNX:=hid hnx
    have hsg3:((rsign r:Int) == 0)=true:=by simpa using hsg2
    clear hsg hnx hz
    go_wp2
    go_roundg (gk - 1)
    case measure=>omega
    case rel=>exact ⟨k+1,OA',oc',by go_num,by omega,by omega,by rw [HNX.out],rfl,hown3,hB1⟩
   ·have hsg2:((rsign r:Int) != 0)=true:=by rw [hsg]; simp [hz]
    rw [if_neg hz] at hnx
    have HNX:=hid hnx
    have hsg3:((rsign r:Int) == 0)=false:=by simpa using hsg2
    clear hsg hnx hz
    go_wp2
    go_roundg (gk - 1)
    case measure=>omega
    case rel=>exact ⟨k+1,OA',oc',by go_num,by omega,by omega,by rw [HNX.out]; go_num,rfl,hown3,hB1⟩
  ·obtain rfl:k=m:=by omega
   have hlt':¬ (k:Int)<(k:Int):=by omega
   obtain ⟨hc1,hc2,hc3,hc4⟩:=hown.cap
   have hl:=hown.list.le hcl
   obtain ⟨cl,hcle⟩:∃ cl,cl=clen rs k:=⟨_,rfl⟩
   rw [<-hcle] at hcl hl ⊢
   have HCE:=hid hcle
   clear hcle hlt h
   cases OA with
   | none =>
    obtain ⟨rfl,rfl⟩:=hc3 rfl
    obtain rfl:cl=0:=by omega
    clear hc3 hc4
    go_wp2
    go_ret
    rw [<-HCE.out]
    exact ⟨_,_,rfl,by omega,hc2,hl,hB⟩
   | some a =>
    obtain ⟨g,o,rfl⟩:=hc4 a rfl
    clear hc3 hc4
    have hcl':(cl:Int)<=(oc:Int):=by omega
    go_wp2
    go_ret
    rw [<-HCE.out]
    exact ⟨_,_,rfl,by omega,hc2,hl,hB⟩
theorem refCanon55_any (T:Option Addr) (m c N:Nat) (rs:Nat->Rat) (w:World) (h:RatTab w w.heap.size T m rs N) (hm:m<=1048576) (hN:N<=33554432) :
  Calls Tryz.prog 78 #[.slice T m c] w (PolyPost (clen rs m) rs w):=by
 have hcm:=clen_le rs m
 obtain ⟨M,hM⟩:∃ M,M=clen rs m:=⟨_,rfl⟩
 rw [<-hM] at hcm ⊢
 have HM:=hid hM
 clear hM
 go_enter Tryz.func78, Tryz.ntmps78
 go_wp2
 go_loopg [3,4] m (fun gg nv iv wx=>∃ k:Nat,iv=.int .i64 (k:Nat)/\k<=m/\m<=k+gg/\nv=.int .i64 (clen rs k:Nat)/\Below w.heap.size w wx)
 case atStart=>exact ⟨0,rfl,by omega,by omega,rfl,Below.refl _ _⟩
 case round =>
  obtain ⟨k,rfl,hk,hkg,rfl,hB⟩:=hrel
  have hk0:(0:Int)<=(k:Int):=by omega
  have hcl:=clen_le rs k
  by_cases hlt:k<m
  ·have hlt':(k:Int)<(m:Int):=by omega
   obtain ⟨b,off,s,A1,n1,c1,A2,n2,c2,rfl,hb,t0,t1,t2,hraw⟩:=h.on hB k hlt
   obtain ⟨r,hr⟩:∃ r,r=rs k:=⟨_,rfl⟩
   rw [<-hr] at hraw
   have HR:=hid hr
   clear hr
   obtain ⟨cl,hcle⟩:∃ cl,cl=clen rs k:=⟨_,rfl⟩
   rw [<-hcle]
   rw [<-hcle] at hcl
   have HCL:=hid hcle
   clear hcle
   go_wp2_with fail
   refine (refSign_any _ r N _ hraw (by omega)).mono ?_
   rintro e w1 ⟨rfl,kb1⟩
   replace hB:=onS hB kb1
   clear t0 t1 t2 kb1
   have hsg:=rsign_ne (r:=r)
   have hnx:clen rs (k+1)=if r=0 then clen rs k else k+1:=by rw [HR.out]; rfl
   rw [<-HCL.out] at hnx
   by_cases hz:r=0
   ·have hsg2:((rsign r:Int) != 0)=false:=by rw [hsg]; simp [hz]
    rw [if_pos hz] at hnx
    have HNX:=hid hnx
    have hsg3:((rsign r:Int) == 0)=true:=by simpa using hsg2
    clear hsg hnx hz
    go_wp2
    go_roundg (gk - 1)
    case measure=>omega
    case rel=>exact ⟨k+1,by go_num,by omega,by omega,by rw [HNX.out],hB⟩
   ·have hsg2:((rsign r:Int) != 0)=true:=by rw [hsg]; simp [hz]
    rw [if_neg hz] at hnx
    have HNX:=hid hnx
    have hsg3:((rsign r:Int) == 0)=false:=by simpa using hsg2
    clear hsg hnx hz
    go_wp2
    go_roundg (gk - 1)
    case measure=>omega
    case rel=>exact ⟨k+1,by go_num,by omega,by omega,by rw [HNX.out]; go_num,hB⟩
  ·obtain rfl:k=m:=by omega
   have hlt':¬ (k:Int)<(k:Int):=by omega
   rw [<-HM.out]
   have hmk:=fun W=>run_makeRat M (by omega) W
   have kb1:=below_one wr (.cells (madeCells #[.bool false,.slice none 0 0,.slice none 0 0] (M*3)) 31)
   have row:=rowOk_made wr M rs
   have hgB:=hB.size
   replace hB:=onS hB kb1
   have hsz:=kb1.size
   clear hcl hlt kb1
   go_wp2
   obtain ⟨w1,hw1⟩:∃ W,W=wr.alloc (.cells (madeCells #[.bool false,.slice none 0 0,.slice none 0 0] (M*3)) 31):=⟨_,rfl⟩
   obtain ⟨g,hg⟩:∃ g,g=wr.heap.size:=⟨_,rfl⟩
   rw [<-hw1,<-hg]
   rw [<-hw1] at hB row
   rw [<-hg] at row hgB
   clear hw1 hg hsz hmk
   go_loopg [6] M (fun gg iv wx=>∃ j:Nat,iv=.int .i64 (j:Nat)/\j<=M/\M<=j+gg/\RowOk wx g M j rs/\Below w.heap.size w wx)
   case atStart=>exact ⟨0,rfl,by omega,by omega,row,hB⟩
   case round =>
    clear row hB
    obtain ⟨j,rfl,hj,hjg,row,hB⟩:=hrel
    have hj0:(0:Int)<=(j:Int):=by omega
    by_cases hlt:j<M
    ·have hlt':(j:Int)<(M:Int):=by omega
     have hlt2:(j:Int)<(k:Int):=by omega
     obtain ⟨b,off,s,A1,n1,c1,A2,n2,c2,rfl,hb,t0,t1,t2,hraw⟩:=h.on hB j (by omega)
     obtain ⟨r,hr⟩:∃ r,r=rs j:=⟨_,rfl⟩
     rw [<-hr] at hraw
     have HR:=hid hr
     clear hr
     go_wp2_with fail
     refine (refTrim02_any _ r N _ hraw (by omega)).mono ?_
     rintro e w2 ⟨At,ct,Bt,dt,rfl,m1,m2,m3,m4,m5,m6,kb1⟩
     replace row:=row.on kb1
     replace hB:=onS hB kb1
     clear t0 t1 t2 kb1
     obtain ⟨o0,o1,o2,y0,y1,y2⟩:=row.old j hlt
     have z0:=row.froz (j*3)
     have z1:=row.froz (j*3+1)
     have z2:=row.froz (j*3+2)
     have hsz:=hB.size
     go_upto_region 10 with fail
     generalize hw3:World.setCell _ _ _=w3
     have hst:RowPut w2 g M j j rs r w3:=by rw [<-hw3]; exact rowPut row (Nat.le_refl _) hlt m1 m2 m3 m4 m5 m6
     have row3:=hst.row
     replace hB:=hst.below hB hgB hsz
     rw [show max j (j+1)=j+1 by omega] at row3
     have row4:RowOk w3 g M (j+1) rs:=row3.congr fun i hi=>by unfold updR; split; (· rename_i e; rw [e,HR.out]); rfl
     clear hst hw3 row row3 y0 y1 y2 z0 z1 z2 m1 m2 hsz
     go_wp2
     go_roundg (gk - 1)
     case measure=>omega
     case rel=>exact ⟨j+1,by go_num,by omega,by omega,row4,hB⟩
    ·obtain rfl:j=M:=by omega
     have hlt':¬ (j:Int)<(j:Int):=by omega
     have hl:=row.list
     go_wp2
     go_ret
     exact ⟨_,_,rfl,Nat.le_refl _,by unfold maxLen; omega,hl,hB⟩
end Go.Proofs.YtmgeblpnnaamnaaGreat