/- Merged texts of a claim: Forward, Repeat, Proper, TrelProper, Paths, WordsMath, Rank. -/
import Derived.Test.YtgekjfpapmlndaaGreatTM2
import Derived.Test.YtgekjfpapmlndaaGreatTM6
import Derived.Test.YtgekjfpapmlndaaGreatTM9
import Derived.Laws.CopyOwn
namespace Go.Proofs.YtgekjfpapmlndaaGreat
set_option maxRecDepth 100000
set_option maxHeartbeats 32000000
open KA KB KC KE KF
open Go.RowKit
def Trel.fwdX (T:Trel) (y:Nat->Nat->Nat) (i j:Nat):Nat->Nat->Nat:=fun u v=>if u<=i then T.fwd y u v else if u=i+1 then T.fwdE y (T.fwd y i) i j v else 0
theorem Trel.fwdX_next (T:Trel) (y:Nat->Nat->Nat) (i u v:Nat):T.fwdX y i (T.el i) u v=T.fwdX y (i+1) 0 u v:=by
 simp only [Trel.fwdX]
 by_cases h:u<=i
 ·rw [if_pos h,if_pos (by omega)]
 ·rw [if_neg h]
  by_cases h2:u=i+1
  ·subst h2
   rw [if_pos rfl,if_pos (Nat.le_refl _)]
   rfl
  ·rw [if_neg h2,if_neg (by omega)]
   split
   ·rfl
   ·rfl
theorem Trel.fwdX_put (T:Trel) (y:Nat->Nat->Nat) (i j u v:Nat):upd2 (T.fwdX y i j) (i+1) (T.to i j).toNat (T.fwdE y (T.fwd y i) i j (T.to i j).toNat+T.fwd y i (T.fr i j).toNat*y i j) u v=T.fwdX y i (j+1) u v:=by
 simp only [Trel.fwdX,upd2]
 by_cases h:u<=i
 ·rw [if_pos h,if_pos h,if_neg (by omega)]
 ·rw [if_neg h,if_neg h]
  by_cases h2:u=i+1
  ·rw [if_pos h2,if_pos h2]
   show _=T.fwdE y (T.fwd y i) i j v+if (T.to i j).toNat=v then _ else 0
   by_cases h3:v=(T.to i j).toNat
   ·rw [if_pos ⟨h2,h3⟩,if_pos h3.symm,h3]
   ·rw [if_neg (fun hh=>h3 hh.2),if_neg (fun e=>h3 e.symm)]
    rfl
  ·rw [if_neg h2,if_neg h2,if_neg (by omega)]
def FwdPost (T:Trel) (x:Nat->Nat->Nat) (w:World) (e:Ending) (w':World):Prop :=
 ∃ g F,e=.returned (.tuple #[.slice (some ⟨g,0,none⟩) T.nw T.nw,.int .i64 0])/\w.heap.size<=g/\NumTab w' g (g+1) T.nw F (fun v=>(T.W v).toNat) x/\Below w.heap.size w w'
theorem zep (T:Trel) (A B V:Option Addr) (c d vc:Nat) (y:Nat->Nat->Nat) (w:World) (h:T.Reads w A B) (hs:T.shapeE=0) (hv:VTab w V T.n T.el y) (hy:∀ i,i<T.n->∀ j,j<T.el i->y i j<=1) :
  Calls Tryz.prog 139 #[.agg #[],.agg #[.slice A T.nw c,.slice B T.n d],.slice V T.n vc] w (FwdPost T (T.fwd y) w):=by
 obtain ⟨O1,hO1⟩:∃ o,o=(Obj.cells #[] 175):=⟨_,rfl⟩
 obtain ⟨O2,hO2⟩:∃ o,o=(Obj.cells #[.slice A T.nw c,.slice B T.n d] 53):=⟨_,rfl⟩
 have hB0:Below (w.heap.size+2) ((w.alloc O1).alloc O2) ((w.alloc O1).alloc O2):=Below.refl _ _
 have HS:Hid (∀ w',Below (w.heap.size+2) ((w.alloc O1).alloc O2) w'->(w'.cell? ⟨w.heap.size+1,0,none⟩=some (.slice A T.nw c)/\w'.cell? ⟨w.heap.size+1,1,none⟩=some (.slice B T.n d))/\Below w.heap.size w w'):=fun w' hB=>by
  have hB':=zeY hB
  subst hO2
  have hr:=zfQ hB
  exact ⟨⟨hr.cell (i:=0) (by simp),hr.cell (i:=1) (by simp)⟩,hB'⟩
 obtain ⟨⟨p0,p1⟩,hW⟩:=HS.out _ hB0
 have HSH:=hid (Trel.shape_of hs)
 have HSE:=hid hs
 have HR:=hid h
 have HV:=hid hv
 have HY:=hid hy
 clear h hs hv hy
 go_enter Tryz.func139, Tryz.ntmps139
 go_wp2_with fail
 rw [<-hO1,<-hO2]
 refine (zfp T A B V c d vc y _ (HR.out.on hW) HSE.out (HV.out.on hW)).mono ?_
 rintro e w1 ⟨rfl,kb⟩
 have hB1:=zjb hB0 kb
 clear p0 p1 hW kb hB0 hO1 hO2
 obtain ⟨⟨p0,p1⟩,hW⟩:=HS.out _ hB1
 go_wp2_with fail
 refine (zhv T A B c d _ (HR.out.on hW) HSH.out).mono ?_
 rintro e w2 ⟨g,F,rfl,hg,hT,kb⟩
 have hB2:=zjb hB1 kb
 have hl1:=zja hB1
 have hg2:w.heap.size+2<=g:=by omega
 have hl2:w.heap.size+2<w2.heap.size:=by have:=hT.row.lt; omega
 obtain ⟨W2,hW2⟩:∃ W,W=(w.alloc O1).alloc O2:=⟨_,rfl⟩
 have HS2:Hid (∀ w',Below (w.heap.size+2) W2 w'->(w'.cell? ⟨w.heap.size+1,0,none⟩=some (.slice A T.nw c)/\w'.cell? ⟨w.heap.size+1,1,none⟩=some (.slice B T.n d))/\Below w.heap.size w w'):=by rw [hW2]; exact HS
 rw [<-hW2] at hB2;clear p0 p1 hW kb hB1 hl1 hg hW2 HS
 have hn64:=HSH.out.n64
 have HNW:=hid HSH.out.nw
 have hnw0:0<T.nw:=by have:=HNW.out; omega
 have hnw0':(0:Int)<(T.nw:Int):=by omega
 have hw0:=HSH.out.wid (i:=0) (by omega)
 have hw0n:0<(T.W 0).toNat:=by omega
 obtain ⟨b0,o0,d0,A0,c0,hF0,hb0,hbl0,q0,_,_,_,z0,hni0⟩:=hT.at (v:=0) hnw0 (k:=0) hw0n
 obtain ⟨n0,hn0⟩:∃ n,n=(T.W 0).toNat:=⟨_,rfl⟩
 have HN0:=hid hn0
 have r0:=hT.row.cell hnw0
 rw [hF0] at r0
 change w2.cell? ⟨g,0,none⟩=some (.slice (some ⟨b0,o0,none⟩) (T.W 0).toNat d0) at r0
 rw [<-hn0] at hw0n r0
 have hw0n':(0:Int)<(n0:Int):=by omega
 clear hn0
 go_upto_region 5 with fail
 have hl:=hl2
 refine wp_region_held_drew (S:=fun w'=>w'.cell? ⟨g,0,none⟩=some (.slice (some ⟨b0,o0,none⟩) n0 d0)) (by kernel_rfl) (cellS (Below.refl _ _).drew r0) (fun hHeld=>?_)
 obtain ⟨w3,hw⟩:∃ W,W=World.drew w2:=⟨_,rfl⟩
 have kb:Below w2.heap.size w2 w3:=by rw [hw]; exact (Below.refl _ _).drew
 rw [<-hw] at hHeld ⊢;clear hw;replace hB2:=zaZ hB2 (Nat.le_of_lt hl) kb;replace hl:=Nat.lt_of_lt_of_le hl kb.size;replace hT:=hT.on kb;replace r0:=cellS kb r0;replace q0:=cellS kb q0;clear kb
 refine tkq 0 (h:=tkq 1 (h:=tkq 2 (h:=tkq 3 (h:=tkq 4 (h:=?_)))))
 refine rdq 5 (h:=fun K hK=>?_)
 go_simp
 go_wp2_with fail
 refine (zix w3).mono ?_
 rintro e w4 ⟨A1,c1,rfl,z1,z2,z3,kb⟩
 replace hB2:=zaZ hB2 (Nat.le_of_lt hl) kb;replace hl:=Nat.lt_of_lt_of_le hl kb.size;replace hT:=hT.on kb;replace r0:=cellS kb r0;replace q0:=cellS kb q0;clear kb
 refine bkq hK r0 (h:=fun hHeld=>?_)
 clear hK K
 refine tkq 6 (h:=?_)
 refine rdq 7 (h:=fun K hK=>?_)
 have zf:w4.frozen? ⟨b0,o0,none⟩=false:=by
  obtain ⟨b9,o9,d9,A9,c9,hF9,_,_,_,_,_,_,z9,_⟩:=hT.at (v:=0) hnw0 (k:=0) (by rw [<-HN0.out]; exact hw0n)
  rw [hF0] at hF9
  injection hF9 with e1 _ _
  injection e1 with e1
  injection e1 with e1 e2
  subst e1 e2
  exact z9
 rw [Nat.add_zero] at q0
 go_simp
 replace r0:=zaa (p:=⟨b0,o0,none⟩) (u:=.slice A1 (dl 1) c1) r0 (by show g≠b0; omega)
 have hT9:=hT.set (by omega) hnw0 (k:=0) (by rw [<-HN0.out]; exact hw0n) hF0 z3 z1 z2
 rw [Nat.add_zero] at hT9
 have hB9:=hB2.setCell (p:=⟨b0,o0,none⟩) (by show w.heap.size+2<=b0; omega) (.slice A1 (dl 1) c1)
 have hl9:w.heap.size+2<(World.setCell w4 ⟨b0,o0,none⟩ (.slice A1 (dl 1) c1)).heap.size:=by simp; exact hl
 refine bkq hK r0 (h:=fun hHeld=>?_)
 clear hK K
 refine wpAnyH_done (by kernel_rfl) ?_ _
 clear hHeld
 obtain ⟨w9,hw9⟩:∃ W,W=World.setCell w4 ⟨b0,o0,none⟩ (.slice A1 (dl 1) c1):=⟨_,rfl⟩
 rw [<-hw9] at hT9 hB9 hl9 ⊢;clear hw9 hT hB2 hl r0 q0 z3
 have hT0:NumTab w9 g (g+1) T.nw F (fun v=>(T.W v).toNat) (T.fwdX y 0 0):=hT9.congr (fun v _=>rfl) (fun u _ v hv=>by
  simp only [Trel.fwdX,upd2]
  by_cases e:u=0
  ·subst e
   rw [if_pos (Nat.le_refl _)]
   show _=if v=0 then 1 else 0
   by_cases e2:v=0
   ·rw [if_pos ⟨rfl,e2⟩,if_pos e2]
   ·rw [if_neg (fun h=>e2 h.2),if_neg e2]
  ·rw [if_neg (fun h=>e h.1),if_neg (by omega)]
   split <;> rfl)
 clear hT9 hw0n hw0n' z0 hni0 hbl0 z1 z2 HN0 hw0
 obtain ⟨⟨p0,p1⟩,hW⟩:=HS2.out _ hB9
 go_wp2
 go_loopg [33] T.n (fun gg iv wx=>∃ k:Nat,iv=.int .i64 (k:Nat)/\k<=T.n/\T.n<=k+gg/\NumTab wx g (g+1) T.nw F (fun v=>(T.W v).toNat) (T.fwdX y k 0)/\Below (w.heap.size+2) W2 wx/\w.heap.size+2<wx.heap.size)
 case atStart=>exact ⟨0,rfl,by omega,by omega,hT0,hB9,hl9⟩
 case round =>
  clear hW p0 p1 hT0 hB9 hl9
  obtain ⟨gK,hgK⟩:∃ g,g=gk:=⟨_,rfl⟩
  subst hgK
  obtain ⟨k,rfl,hk,hkg,hT,hB,hl⟩:=hrel
  obtain ⟨wk,hwk⟩:∃ W,W=wr:=⟨_,rfl⟩
  subst hwk
  have hk0:(0:Int)<=(k:Int):=by omega
  obtain ⟨⟨p0,p1⟩,hW⟩:=HS2.out _ hB
  by_cases hlt:k<T.n
  ·have hlt':(k:Int)<(T.n:Int):=by omega
   have hk1:k+1<T.nw:=by have:=HNW.out; omega
   have hkw:k<T.nw:=by omega
   have hk1':(k:Int)+1<(T.nw:Int):=by omega
   have hkw':(k:Int)<(T.nw:Int):=by omega
   have hk01:(0:Int)<=(k:Int)+1:=by omega
   have hwk1:IntKind.i64.wrap ((k:Int)+1)=(k:Int)+1:=IntWalk.i64_in _ (by omega)
   obtain ⟨eb,eo,E,ec,rfl,heb,x0w,he1,he2,he3,he4⟩:=HR.out.sec hlt
   obtain ⟨vb,vo,R,rc,rfl,hvb,y0w,hvt⟩:=HV.out k hlt
   have hel:=HSH.out.elb hlt
   have HE3:=hid he3
   have HVT:=hid hvt
   have HX0:=hid x0w
   have HY0:=hid y0w
   have x0:=cellS hW x0w
   clear he3 he4 he2 hvt x0w y0w
   go_wp2
   go_loopg [40] (T.el k) (fun gg jv wx=>∃ j:Nat,jv=.int .i64 (j:Nat)/\j<=T.el k/\T.el k<=j+gg/\NumTab wx g (g+1) T.nw F (fun v=>(T.W v).toNat) (T.fwdX y k j)/\Below (w.heap.size+2) W2 wx/\w.heap.size+2<wx.heap.size)
   case atStart=>exact ⟨0,rfl,by omega,by omega,hT,hB,hl⟩
   case round =>
    clear p0 p1 hT hB hl x0 hW
    obtain ⟨j,rfl,hj,hjg,hT,hB,hl⟩:=hrel
    have hj0:(0:Int)<=(j:Int):=by omega
    by_cases hltj:j<T.el k
    ·have hltj':(j:Int)<(T.el k:Int):=by omega
     have hW:=(HS2.out _ hB).2
     obtain ⟨fb,fo,rfl,hfb,e0,e1,e2⟩:=zc1 ((Rd.below HE3.out hW (Nat.le_refl _)).mono hW.size) hltj
     obtain ⟨i1,i2,i3,i4⟩:=HSH.out.ins k hlt j hltj
     obtain ⟨fn,hfn⟩:∃ n:Nat,(n:Int)=T.fr k j:=⟨(T.fr k j).toNat,by omega⟩
     obtain ⟨tn,htn⟩:∃ n:Nat,(n:Int)=T.to k j:=⟨(T.to k j).toNat,by omega⟩
     obtain ⟨lb,hlb⟩:∃ z,z=T.lb k j:=⟨_,rfl⟩
     obtain ⟨n1,hn1⟩:∃ n,n=(T.W k).toNat:=⟨_,rfl⟩
     obtain ⟨n2,hn2⟩:∃ n,n=(T.W (k+1)).toNat:=⟨_,rfl⟩
     have hfl:fn<n1:=by omega
     have htl:tn<n2:=by omega
     have hfl':(fn:Int)<(n1:Int):=by omega
     have htl':(tn:Int)<(n2:Int):=by omega
     have hf0:(0:Int)<=(fn:Int):=by omega
     have ht0:(0:Int)<=(tn:Int):=by omega
     obtain ⟨ab,ao,ad,Ap,cp,hFa,hab,habl,aq,ap1,ap2,apn,_,_⟩:=hT.at (v:=k) hkw (k:=fn) (by omega)
     obtain ⟨bb,bo,bd,Aq,cq,hFb,hbb,hbbl,bq,bq1,bq2,bqn,zq,_⟩:=hT.at (v:=k+1) hk1 (k:=tn) (by omega)
     obtain ⟨rb,ro,Av,cv,rfl,hrb,vq,vq1,vq2,vn⟩:=(HVT.out.on hW) j hltj
     have hrow1:=hT.row.cell hkw
     have hrow2:=hT.row.cell hk1
     have y0:=cellS hW HY0.out
     have hapart:=hT.apart k (k+1) hkw hk1 (by omega)
     rw [hFa] at hrow1;rw [hFb] at hrow2
     have hne:ab≠bb:=fun e=>by
      rw [hFa,hFb,e] at hapart
      simp [Value.ownBlock] at hapart
     have epv:T.fwdX y k j k fn=T.fwd y k fn:=if_pos (Nat.le_refl _)
     have eqv:T.fwdX y k j (k+1) tn=T.fwdE y (T.fwd y k) k j tn:=by
      show (if k+1<=k then _ else if k+1=k+1 then _ else 0)=_
      rw [if_neg (by omega),if_pos rfl]
     have d1:=Trel.fwd_dl HSH.out HY.out (i:=k) (by omega) fn
     have d2:=Trel.fwdE_dl HSH.out HY.out (i:=k) (j:=j) hlt hj tn
     have d3:=Trel.fwdE_dl HSH.out HY.out (i:=k) (j:=j+1) hlt hltj tn
     have hyv:=HY.out k hlt j hltj
     have hsum:T.fwdE y (T.fwd y k) k (j+1) tn=T.fwdE y (T.fwd y k) k j tn+T.fwd y k fn*y k j:=by
      show _+(if (T.to k j).toNat=tn then T.fwd y k (T.fr k j).toNat*y k j else 0)=_
      have e1:(T.fr k j).toNat=fn:=by omega
      have e2:(T.to k j).toNat=tn:=by omega
      rw [e1,e2,if_pos rfl]
     rw [epv] at aq ap1 apn;rw [eqv] at bq bq1 bqn;rw [hsum] at d3
     obtain ⟨pv,hpv⟩:∃ z,z=T.fwd y k fn:=⟨_,rfl⟩
     obtain ⟨qv,hqv⟩:∃ z,z=T.fwdE y (T.fwd y k) k j tn:=⟨_,rfl⟩
     obtain ⟨yv,hyv2⟩:∃ z,z=y k j:=⟨_,rfl⟩
     rw [<-hpv] at aq ap1 apn d1 d3;rw [<-hqv] at bq bq1 bqn d2 d3;rw [<-hyv2] at vq vq1 vn hyv d3
     have d4:dl yv<=37:=zgB (i:=0) (by omega) (by simpa using hyv)
     have d5:dl (pv*yv)<=37:=by
      refine Nat.le_trans (zi1 (y:=pv) ?_) d1
      exact Nat.le_trans (Nat.mul_le_mul_left pv hyv) (by omega)
     have HPUT:Hid (∀ u v,upd2 (T.fwdX y k j) (k+1) tn (qv+pv*yv) u v=T.fwdX y k (j+1) u v):=fun u v=>by
      have:=Trel.fwdX_put T y k j u v
      have e1:(T.fr k j).toNat=fn:=by omega
      have e2:(T.to k j).toNat=tn:=by omega
      rw [e1,e2,<-hpv,<-hqv,<-hyv2] at this
      exact this
     change wr.cell? ⟨g,k,none⟩=some (.slice (some ⟨ab,ao,none⟩) (T.W k).toNat ad) at hrow1
     change wr.cell? ⟨g,k+1,none⟩=some (.slice (some ⟨bb,bo,none⟩) (T.W (k+1)).toNat bd) at hrow2
     have x0:=cellS hW HX0.out
     rw [<-hn1] at hrow1;rw [<-hn2] at hrow2;rw [<-hfn] at e0;rw [<-hlb] at e1;rw [<-htn] at e2
     have hgbb:g≠bb:=by omega
     have hbx:wr.heap.size≠bb:=by omega
     have hvbb:vb≠bb:=by omega
     have hWs:=hW.size
     have HSET:Hid (F (k+1)=.slice (some ⟨bb,bo,none⟩) (T.W (k+1)).toNat bd):=hFb
     have HTL:Hid (tn<(T.W (k+1)).toNat):=by rw [<-hn2]; exact htl
     have hrbb:rb≠bb:=by
      obtain ⟨_,_,_,_,e8,h8,_⟩:=HVT.out j hltj
      injection e8 with e8
      injection e8 with e8
      omega
     clear hapart hFa hFb epv eqv hsum hpv hqv hyv2 hyv hfn htn hlb i1 i2 i3 i4 hn1 hn2 hW
     go_upto_region 12 with fail
     obtain ⟨OB,hOB⟩:∃ o,o=(Obj.cells #[.int .i64 (fn:Int),.int .i64 lb,.int .i64 (tn:Int)] 90):=⟨_,rfl⟩
     have hq:∀ i v,(#[Value.int .i64 (fn:Int),.int .i64 lb,.int .i64 (tn:Int)]:Array Value)[i]?=some v->(wr.alloc OB).cell? ⟨wr.heap.size,i,none⟩=some v:=fun i v hv=>by subst hOB; exact tbox (Below.refl _ _) hv
     have s0:=hq 0 _ rfl
     have s2:=hq 2 _ rfl
     have kb:Below wr.heap.size wr (wr.alloc OB):=(Below.refl _ _).alloc (Nat.le_refl _) _
     rw [<-hOB]
     obtain ⟨w50,hw50⟩:∃ W,W=wr.alloc OB:=⟨_,rfl⟩
     rw [<-hw50] at s0 s2 kb ⊢;replace hT:=hT.on kb;replace hB:=zaZ hB (Nat.le_of_lt hl) kb;replace hl:=Nat.lt_of_lt_of_le hl kb.size;replace aq:=cellS kb aq;replace bq:=cellS kb bq;replace vq:=cellS kb vq;replace y0:=cellS kb y0;replace hrow1:=cellS kb hrow1;replace hrow2:=cellS kb hrow2;replace apn:=apn.on kb;replace bqn:=bqn.on kb;replace vn:=vn.on kb
     obtain ⟨bx,hbx2⟩:∃ b,b=wr.heap.size:=⟨_,rfl⟩
     rw [<-hbx2] at s0 s2 hbx ⊢;clear hq hw50 hOB kb x0 e0 e1 e2 hbx2
     refine wp_region_held_drew (S:=fun w'=>w'.cell? ⟨g,k,none⟩=some (.slice (some ⟨ab,ao,none⟩) n1 ad)/\w'.cell? ⟨g,k+1,none⟩=some (.slice (some ⟨bb,bo,none⟩) n2 bd)/\w'.cell? ⟨bx,0,none⟩=some (.int .i64 (fn:Int))/\w'.cell? ⟨bx,2,none⟩=some (.int .i64 (tn:Int))/\w'.cell? ⟨vb,vo+k,none⟩=some (.slice (some ⟨rb,ro,none⟩) (T.el k) rc)/\w'.cell? ⟨rb,ro+j,none⟩=some (.slice Av (dl yv) cv)/\w'.cell? ⟨ab,ao+fn,none⟩=some (.slice Ap (dl pv) cp)) (by kernel_rfl) ⟨cellS (Below.refl _ _).drew hrow1,cellS (Below.refl _ _).drew hrow2,cellS (Below.refl _ _).drew s0,cellS (Below.refl _ _).drew s2,cellS (Below.refl _ _).drew y0,cellS (Below.refl _ _).drew vq,cellS (Below.refl _ _).drew aq⟩ (fun hHeld=>?_)
     obtain ⟨w51,hw⟩:∃ W,W=World.drew w50:=⟨_,rfl⟩
     have kb:Below w50.heap.size w50 w51:=by rw [hw]; exact (Below.refl _ _).drew
     rw [<-hw] at hHeld ⊢;clear hw;replace hB:=zaZ hB (Nat.le_of_lt hl) kb;replace hl:=Nat.lt_of_lt_of_le hl kb.size;replace hT:=hT.on kb;replace aq:=cellS kb aq;replace bq:=cellS kb bq;replace vq:=cellS kb vq;replace y0:=cellS kb y0;replace hrow1:=cellS kb hrow1;replace hrow2:=cellS kb hrow2;replace s0:=cellS kb s0;replace s2:=cellS kb s2;replace apn:=apn.on kb;replace bqn:=bqn.on kb;replace vn:=vn.on kb
     clear kb
     refine tkq 0 (h:=tkq 1 (h:=tkq 2 (h:=tkq 3 (h:=tkq 4 (h:=tkq 5 (h:=tkq 6 (h:=tkq 7 (h:=tkq 8 (h:=tkq 9 (h:=tkq 10 (h:=tkq 11 (h:=tkq 12 (h:=tkq 13 (h:=tkq 14 (h:=tkq 15 (h:=tkq 16 (h:=tkq 18 (h:=tkq 19 (h:=tkq 20 (h:=tkq 21 (h:=tkq 22 (h:=tkq 23 (h:=tkq 24 (h:=tkq 25 (h:=tkq 26 (h:=tkq 27 (h:=tkq 28 (h:=tkq 29 (h:=tkq 30 (h:=tkq 31 (h:=tkq 32 (h:=tkq 33 (h:=tkq 34 (h:=?_))))))))))))))))))))))))))))))))))
     refine rdq2 17 35 (h:=fun K hK=>?_) (h2:=fun K hK=>?_)
     ·go_simp
      refine bkq hK ⟨hrow1,hrow2,s0,s2,y0,vq,aq⟩ (h:=fun hHeld=>?_)
      clear hK K
      refine rdq 35 (h:=fun K hK=>?_)
      go_simp
      go_wp2_with fail
      refine (zgA Ap Av cp cv pv yv w51 apn vn ap1 ap2 vq1 vq2 (by omega) (by omega) (by omega)).mono ?_
      rintro e w52 ⟨Am,cm,rfl,m1,m2,m3,kb⟩
      replace hB:=zaZ hB (Nat.le_of_lt hl) kb;replace hl:=Nat.lt_of_lt_of_le hl kb.size;replace hT:=hT.on kb;replace aq:=cellS kb aq;replace bq:=cellS kb bq;replace vq:=cellS kb vq;replace y0:=cellS kb y0;replace hrow1:=cellS kb hrow1;replace hrow2:=cellS kb hrow2;replace s0:=cellS kb s0;replace s2:=cellS kb s2;replace apn:=apn.on kb;replace bqn:=bqn.on kb;replace vn:=vn.on kb;clear kb
      refine bkq hK ⟨hrow1,hrow2,s0,s2,y0,vq,aq⟩ (h:=fun hHeld=>?_)
      clear hK K
      refine rdq 36 (h:=fun K hK=>?_)
      go_simp
      go_wp2_with fail
      refine (zgz Aq Am cq cm qv (pv*yv) w52 bqn m3 bq1 bq2 m1 m2 (by omega) (by omega) (by omega)).mono ?_
      rintro e w53 ⟨As,cs,rfl,t1,t2,t3,kb⟩
      replace hB:=zaZ hB (Nat.le_of_lt hl) kb;replace hl:=Nat.lt_of_lt_of_le hl kb.size;replace hT:=hT.on kb;replace aq:=cellS kb aq;replace bq:=cellS kb bq;replace vq:=cellS kb vq;replace y0:=cellS kb y0;replace hrow1:=cellS kb hrow1;replace hrow2:=cellS kb hrow2;replace s0:=cellS kb s0;replace s2:=cellS kb s2;replace apn:=apn.on kb;replace bqn:=bqn.on kb;replace vn:=vn.on kb;replace m3:=m3.on kb
      clear kb
      refine bkq hK ⟨hrow1,hrow2,s0,s2,y0,vq,aq⟩ (h:=fun hHeld=>?_)
      clear hK K
      refine tkq 37 (h:=?_)
      refine rdq 38 (h:=fun K hK=>?_)
      have zf:w53.frozen? ⟨bb,bo+tn,none⟩=false:=by
       obtain ⟨b9,o9,d9,A9,c9,hF9,_,_,_,_,_,_,z9,_⟩:=hT.at (v:=k+1) hk1 (k:=tn) HTL.out
       rw [HSET.out] at hF9
       injection hF9 with e1 _ _
       injection e1 with e1
       injection e1 with e1 e2
       subst e1 e2
       exact z9
      go_simp
      replace hrow1:=zaa (p:=⟨bb,bo+tn,none⟩) (u:=(.slice As (dl (qv+pv*yv)) cs)) hrow1 (by simpa using hgbb)
      replace hrow2:=zaa (p:=⟨bb,bo+tn,none⟩) (u:=(.slice As (dl (qv+pv*yv)) cs)) hrow2 (by simpa using hgbb)
      replace s0:=zaa (p:=⟨bb,bo+tn,none⟩) (u:=(.slice As (dl (qv+pv*yv)) cs)) s0 (by simpa using hbx)
      replace s2:=zaa (p:=⟨bb,bo+tn,none⟩) (u:=(.slice As (dl (qv+pv*yv)) cs)) s2 (by simpa using hbx)
      replace y0:=zaa (p:=⟨bb,bo+tn,none⟩) (u:=(.slice As (dl (qv+pv*yv)) cs)) y0 (by simpa using hvbb)
      replace vq:=zaa (p:=⟨bb,bo+tn,none⟩) (u:=(.slice As (dl (qv+pv*yv)) cs)) vq (by simpa using hrbb)
      replace aq:=zaa (p:=⟨bb,bo+tn,none⟩) (u:=(.slice As (dl (qv+pv*yv)) cs)) aq (by simpa using hne)
      have hT9:=hT.set (by omega) hk1 (k:=tn) HTL.out HSET.out t3 t1 t2
      have hB9:=hB.setCell (p:=⟨bb,bo+tn,none⟩) (by show w.heap.size+2<=bb; omega) (.slice As (dl (qv+pv*yv)) cs)
      have hl9:w.heap.size+2<(World.setCell w53 ⟨bb,bo+tn,none⟩ (.slice As (dl (qv+pv*yv)) cs)).heap.size:=by simp; exact hl
      refine bkq hK ⟨hrow1,hrow2,s0,s2,y0,vq,aq⟩ (h:=fun hHeld=>?_)
      clear hK K
      refine wpAnyH_done (by kernel_rfl) ?_ _
      clear hHeld
      have hN:=hid (hT9.congr (x':=T.fwdX y k (j+1)) (fun v _=>rfl) (fun u _ v _=>HPUT.out u v))
      have HB9:=hid hB9
      clear hT9 hT hB9 hB bq
      go_wp2
      go_roundg (gk - 1)
      case measure=>omega
      case rel=>exact ⟨j+1,by go_num,by omega,by omega,hN.out,HB9.out,hl9⟩
     ·go_simp
      go_wp2_with fail
      refine (zgA Ap Av cp cv pv yv w51 apn vn ap1 ap2 vq1 vq2 (by omega) (by omega) (by omega)).mono ?_
      rintro e w52 ⟨Am,cm,rfl,m1,m2,m3,kb⟩
      replace hB:=zaZ hB (Nat.le_of_lt hl) kb;replace hl:=Nat.lt_of_lt_of_le hl kb.size;replace hT:=hT.on kb;replace aq:=cellS kb aq;replace bq:=cellS kb bq;replace vq:=cellS kb vq;replace y0:=cellS kb y0;replace hrow1:=cellS kb hrow1;replace hrow2:=cellS kb hrow2;replace s0:=cellS kb s0;replace s2:=cellS kb s2;replace apn:=apn.on kb;replace bqn:=bqn.on kb;replace vn:=vn.on kb;clear kb
      refine bkq hK ⟨hrow1,hrow2,s0,s2,y0,vq,aq⟩ (h:=fun hHeld=>?_)
      clear hK K
      refine rdq 17 (h:=fun K hK=>?_)
      go_simp
      refine bkq hK ⟨hrow1,hrow2,s0,s2,y0,vq,aq⟩ (h:=fun hHeld=>?_)
      clear hK K
      refine rdq 36 (h:=fun K hK=>?_)
      go_simp
      go_wp2_with fail
      refine (zgz Aq Am cq cm qv (pv*yv) w52 bqn m3 bq1 bq2 m1 m2 (by omega) (by omega) (by omega)).mono ?_
      rintro e w53 ⟨As,cs,rfl,t1,t2,t3,kb⟩
      replace hB:=zaZ hB (Nat.le_of_lt hl) kb;replace hl:=Nat.lt_of_lt_of_le hl kb.size;replace hT:=hT.on kb;replace aq:=cellS kb aq;replace bq:=cellS kb bq;replace vq:=cellS kb vq;replace y0:=cellS kb y0;replace hrow1:=cellS kb hrow1;replace hrow2:=cellS kb hrow2;replace s0:=cellS kb s0;replace s2:=cellS kb s2;replace apn:=apn.on kb;replace bqn:=bqn.on kb;replace vn:=vn.on kb;replace m3:=m3.on kb
      clear kb
      refine bkq hK ⟨hrow1,hrow2,s0,s2,y0,vq,aq⟩ (h:=fun hHeld=>?_)
      clear hK K
      refine tkq 37 (h:=?_)
      refine rdq 38 (h:=fun K hK=>?_)
      have zf:w53.frozen? ⟨bb,bo+tn,none⟩=false:=by
       obtain ⟨b9,o9,d9,A9,c9,hF9,_,_,_,_,_,_,z9,_⟩:=hT.at (v:=k+1) hk1 (k:=tn) HTL.out
       rw [HSET.out] at hF9
       injection hF9 with e1 _ _
       injection e1 with e1
       injection e1 with e1 e2
       subst e1 e2
       exact z9
      go_simp
      replace hrow1:=zaa (p:=⟨bb,bo+tn,none⟩) (u:=(.slice As (dl (qv+pv*yv)) cs)) hrow1 (by simpa using hgbb)
      replace hrow2:=zaa (p:=⟨bb,bo+tn,none⟩) (u:=(.slice As (dl (qv+pv*yv)) cs)) hrow2 (by simpa using hgbb)
      replace s0:=zaa (p:=⟨bb,bo+tn,none⟩) (u:=(.slice As (dl (qv+pv*yv)) cs)) s0 (by simpa using hbx)
      replace s2:=zaa (p:=⟨bb,bo+tn,none⟩) (u:=(.slice As (dl (qv+pv*yv)) cs)) s2 (by simpa using hbx)
      replace y0:=zaa (p:=⟨bb,bo+tn,none⟩) (u:=(.slice As (dl (qv+pv*yv)) cs)) y0 (by simpa using hvbb)
      replace vq:=zaa (p:=⟨bb,bo+tn,none⟩) (u:=(.slice As (dl (qv+pv*yv)) cs)) vq (by simpa using hrbb)
      replace aq:=zaa (p:=⟨bb,bo+tn,none⟩) (u:=(.slice As (dl (qv+pv*yv)) cs)) aq (by simpa using hne)
      have hT9:=hT.set (by omega) hk1 (k:=tn) HTL.out HSET.out t3 t1 t2
      have hB9:=hB.setCell (p:=⟨bb,bo+tn,none⟩) (by show w.heap.size+2<=bb; omega) (.slice As (dl (qv+pv*yv)) cs)
      have hl9:w.heap.size+2<(World.setCell w53 ⟨bb,bo+tn,none⟩ (.slice As (dl (qv+pv*yv)) cs)).heap.size:=by simp; exact hl
      refine bkq hK ⟨hrow1,hrow2,s0,s2,y0,vq,aq⟩ (h:=fun hHeld=>?_)
      clear hK K
      refine wpAnyH_done (by kernel_rfl) ?_ _
      clear hHeld
      have hN:=hid (hT9.congr (x':=T.fwdX y k (j+1)) (fun v _=>rfl) (fun u _ v _=>HPUT.out u v))
      have HB9:=hid hB9
      clear hT9 hT hB9 hB bq
      go_wp2
      go_roundg (gk - 1)
      case measure=>omega
      case rel=>exact ⟨j+1,by go_num,by omega,by omega,hN.out,HB9.out,hl9⟩
    ·have hltj':¬ (j:Int)<(T.el k:Int):=by omega
     have hje:j=T.el k:=by omega
     rw [hje] at hT
     have hT1:=hid (hT.congr (x':=T.fwdX y (k+1) 0) (fun v _=>rfl) (fun u _ v _=>T.fwdX_next y k u v))
     have HB:=hid hB
     clear hT hB hje
     go_wp2
     go_roundg (gK - 1)
     case measure=>omega
     case rel=>exact ⟨k+1,by go_num,by omega,by omega,hT1.out,HB.out,hl⟩
  ·have hlt':¬ (k:Int)<(T.n:Int):=by omega
   have hken:k=T.n:=by omega
   have hTf:=hid (hT.congr (x':=T.fwd y) (fun v _=>rfl) (fun u hu v _=>if_pos (by have:=HNW.out; omega)))
   clear hT hken
   go_wp2
   go_ret2
   exact ⟨g,F,rfl,by omega,hTf.out,hW⟩
theorem zgC (n:Nat) (h:n<4294967296):bits .and .u64 (n:Int) 4294967295=(n:Int):=by
 have h1:(BitVec.ofInt 64 4294967295).toNat=2 ^ 32 - 1:=by decide
 have key:(BitVec.ofInt 64 (n:Int) &&& BitVec.ofInt 64 4294967295).toNat=((n:Int) % ((2 ^ 64:Nat):Int)).toNat % 2 ^ 32:=by
  rw [BitVec.toNat_and,BitVec.toNat_ofInt,h1,Nat.and_two_pow_sub_one_eq_mod]
 show IntKind.u64.wrap ((BitVec.ofInt 64 (n:Int) &&& BitVec.ofInt 64 4294967295).toNat:Nat)=(n:Int)
 rw [key,IntKind.wrap_u64]
 omega
theorem zhw (n:Nat) (h:n<4294967296) (w:World):Calls Tryz.prog 221 #[.int .u64 1,.int .u64 (n:Nat)] w fun e w'=>e=.returned (.tuple #[.int .u64 0,.int .u64 (n:Nat)])/\w'=w:=by
 have h1:bits .and .u64 1 4294967295=1:=zgC 1 (by omega)
 have h0:bits .and .u64 0 4294967295=0:=zgC 0 (by omega)
 have hn:=zgC n h
 have hd:(n:Int) / 4294967296=0:=by omega
 have hw:IntKind.u64.wrap (n:Int)=(n:Int):=IntWalk.u64_in _ (by omega)
 go_enter Tryz.func221, Tryz.ntmps221
 go_wp2
 go_ret2
 exact ⟨rfl,rfl⟩
theorem zjc (n:Nat) (h:n<4294967296) (w:World):Calls Tryz.prog 179 #[.int .u64 1,.int .u64 (n:Nat)] w fun e w'=>e=.returned (.tuple #[.int .u64 0,.int .u64 (n:Nat)])/\w'=w:=by
 have hw:IntKind.u64.wrap (n:Int)=(n:Int):=IntWalk.u64_in _ (by omega)
 go_enter Tryz.func179, Tryz.ntmps179
 go_wp2_with fail
 refine (zhw n h w).mono ?_
 rintro e w1 ⟨rfl,rfl⟩
 go_wp2
 go_ret2
 exact ⟨rfl,rfl⟩
def filled (U Z:Value) (k n:Nat):List Value:=List.replicate k U ++ List.replicate (n - k) Z
theorem zce (U Z:Value) {k n:Nat} (h:k<=n):(filled U Z k n).length=n:=by simp [filled]; omega
theorem zd0 {U Z:Value} {k n j:Nat} (hj:j<k):(filled U Z k n)[j]?=some U:=by
 unfold filled
 rw [List.getElem?_append_left (by simpa using hj)]
 simp [hj]
theorem zcf (U Z:Value) (k m n:Nat):splice (filled U Z k n) k (List.replicate m U)=filled U Z (k+m) n:=by
 unfold splice filled
 rw [List.take_append_of_le_length (by simp),List.take_of_length_le (by simp),List.length_replicate,List.drop_append,List.drop_of_length_le (by simp),List.nil_append,List.length_replicate,List.drop_replicate,show k+m - k=m by omega,show n - k - m=n - (k+m) by omega,<-List.append_assoc,List.replicate_append_replicate]
theorem zcL (U Z:Value) (n:Nat):(madeCells #[Z] n).toList=filled U Z 0 n:=by
 apply List.ext_getElem?
 intro i
 simp only [filled,List.replicate_zero,List.nil_append,Nat.sub_zero,List.getElem?_replicate,Array.getElem?_toList]
 by_cases h:i<n
 ·rw [if_pos h]
  simp [madeCells,h]
  have:i % 1=0:=Nat.mod_one i
  simp [this]
 ·rw [if_neg h]
  simp [madeCells]
  omega
theorem zgD (b:Nat) (U:Value) (n c:Nat) (w:World) (hcell:w.cell? ⟨b,0,none⟩=some U) (hU:U.oneCell'=true) (h1:1<=n) (hn:n<=1048576) :
  Calls Tryz.prog 138 #[.slice (some ⟨b,0,none⟩) 1 c,.int .i64 (n:Nat)] w fun e w' =>
   ∃ g,e=.returned (.slice (some ⟨g,0,none⟩) n n)/\w.heap.size<=g/\w'.rowIs g 69 n (fun _=>U)/\Below w.heap.size w w':=by
 have hn0:¬ (n:Int)<0:=by omega
 have hwn:IntKind.u64.wrap (n:Int)=(n:Int):=IntWalk.u64_in _ (by omega)
 have hwi:IntKind.i64.wrap (n:Int)=(n:Int):=IntWalk.i64_in _ (by omega)
 go_enter Tryz.func138, Tryz.ntmps138
 go_wp2_with fail
 refine (zjc n (by omega) w).mono ?_
 rintro e w1 ⟨rfl,rfl⟩
 have hng:¬ (n:Int) > 9223372036854775807:=by omega
 have hng2:decide ((n:Int) > 9223372036854775807)=false:=by simp; omega
 have hng3:decide (9223372036854775807<(n:Int))=false:=by simp; omega
 have hmk:=fun W=>zah (P:=Tryz.prog) 64 69 _ 24 Tryz.underlying64 Tryz.infoNat rfl (n:Int) (by omega) (by omega) (by omega) W
 simp only [Int.toNat_natCast] at hmk
 go_upto_region 7 with fail
 obtain ⟨i0,hi0⟩:∃ i,Tryz.prog.info? 69 = some i:=by cases h:Tryz.prog.info? 69 with | none=>have:=Tryz.infoNat; simp [h] at this | some i=>exact ⟨i,rfl⟩
 have hsz:(Tryz.prog.info? 69).map (·.size)=some 1:=by
  have:=Tryz.infoNat
  rw [hi0] at this ⊢
  simp only [Option.map_some,Option.some.injEq,Prod.mk.injEq] at this ⊢
  exact this.2.1
 have hm0:(w1.alloc (Obj.cells (madeCells #[Value.slice none 0 0] n) 69)).heap[w1.heap.size]?=some (.cells (filled U (.slice none 0 0) 0 n).toArray 69 (0,0)):=by
  rw [<-zcL,Array.toArray_toList]
  exact heap_alloc_new _ _
 have hb0:Below w1.heap.size w1 (w1.alloc (Obj.cells (madeCells #[Value.slice none 0 0] n) 69)):=(Below.refl _ _).alloc (Nat.le_refl _) _
 have hc0:=cellS hb0 hcell
 obtain ⟨wm,hwm⟩:∃ W,W=w1.alloc (Obj.cells (madeCells #[Value.slice none 0 0] n) 69):=⟨_,rfl⟩
 rw [<-hwm] at hm0 hb0 hc0 ⊢
 obtain ⟨g,hg⟩:∃ g,g=w1.heap.size:=⟨_,rfl⟩
 have hgle:w1.heap.size<=g:=by omega
 rw [<-hg] at hm0 ⊢
 have HC0:=hid hc0
 clear hwm hmk hc0 hg hcell
 have HSRC:Hid (∀ j v,(List.replicate 1 U)[j]?=some v->wm.cell? ((⟨b,0,none⟩:Addr).add j)=some v):=fun j v hv=>by
  have hj:j=0:=by
   have:=(List.getElem?_eq_some_iff.1 hv).1
   simp at this; omega
  subst hj
  have:U=v:=by simpa using hv
  rw [<-this]
  exact HC0.out
 have HONE:Hid (∀ m,∀ v ∈ List.replicate m U,v.oneCell'=true):=fun m v hv=>by rw [List.eq_of_mem_replicate hv]; exact hU
 have HFIT:Hid (0+(List.replicate 1 U).length<=(filled U (.slice none 0 0) 0 n).length):=by
  show _<=_
  rw [zce _ _ (by omega)]; simp; omega
 have HLEN:Hid ((List.replicate 1 U).length=Nat.min 1 n):=by show 1=min 1 n; omega
 go_wp2_with (first | (refine wpList_copy_splice (cur:=filled U (.slice none 0 0) 0 n) (cs:=List.replicate 1 U) (B:=w1.heap.size) (w0:=w1) rfl (.tmp 31) (.tmp 32) 64 64 rfl 69 Tryz.underlying64 hsz (some ⟨g,0,none⟩) (some ⟨b,0,none⟩) n n 1 c rfl rfl g 0 69 hm0 HLEN.out (fun _=>⟨rfl,_,rfl,HSRC.out⟩) HFIT.out (HONE.out 1) hb0 hgle ?_; intro w2 hm2 hb2))
 have HM2:Hid (w2.heap[g]?=some (.cells (filled U (.slice none 0 0) 1 n).toArray 69 (0,0))):=by
  have:=hm2.out
  rwa [zcf] at this
 clear hm0 hb0 hm2 hU HLEN HFIT HSRC
 go_wp2
 go_loopg [8] n (fun gg iv wx=>∃ k:Nat,iv=.int .i64 (k:Nat)/\1<=k/\k<=n/\n<=k+gg/\Hid (wx.heap[g]?=some (.cells (filled U (.slice none 0 0) k n).toArray 69 (0,0)))/\Below w1.heap.size w1 wx)
 case atStart=>exact ⟨1,rfl,by omega,by omega,by omega,HM2,hb2⟩
 case round =>
  clear HM2 hb2
  obtain ⟨k,rfl,hk1,hk,hkg,HM,hb⟩:=hrel
  have hk0:(0:Int)<=(k:Int):=by omega
  by_cases hlt:k<n
  ·have hlt':(k:Int)<(n:Int):=by omega
   obtain ⟨m,hm⟩:∃ m,m=min k (n - k):=⟨_,rfl⟩
   have hm1:1<=m:=by omega
   have hmk:m<=k:=by omega
   have hkm:k+m<=n:=by omega
   have hle1:(k:Int)<=(n:Int):=by omega
   have hkn:k≠n:=by omega
   have hnk:¬ n=k:=by omega
   have HSRC:Hid (∀ j v,(List.replicate m U)[j]?=some v->(World.drew wr).cell? ((⟨g,0,none⟩:Addr).add j)=some v):=fun j v hv=>by
    have hj:j<m:=by
     have:=(List.getElem?_eq_some_iff.1 hv).1
     simpa using this
    have hv':U=v:=by
     rw [List.getElem?_replicate,if_pos hj] at hv
     simpa using hv
    rw [zcv,Nat.zero_add,<-hv']
    show wr.cell? ⟨g,j,none⟩=some U
    rw [cell_of_row wr g j _ _ _ HM.out,List.getElem?_toArray,zd0 (by omega)]
   have HFIT:Hid (k+(List.replicate m U).length<=(filled U (.slice none 0 0) k n).length):=by
    show _<=_
    rw [zce _ _ hk]; simp; omega
   have HLEN:Hid ((List.replicate m U).length=Nat.min k (n - k)):=by show _=_; rw [List.length_replicate]; exact hm
   clear hm
   have hwkm:IntKind.i64.wrap ((k:Int)+(m:Int))=(k:Int)+(m:Int):=IntWalk.i64_in _ (by omega)
   go_upto_region 9 with fail
   refine wp_region_held_drew (S:=fun w'=>Below w1.heap.size w1 w') (by kernel_rfl) hb.drew (fun hHeld=>?_)
   refine tkq 0 (h:=tkq 1 (h:=tkq 2 (h:=tkq 3 (h:=tkq 4 (h:=tkq 5 (h:=tkq 6 (h:=?_)))))))
   refine rdq 7 (h:=fun K hK=>?_)
   refine step_copy_splice (cur:=filled U (.slice none 0 0) k n) (cs:=List.replicate m U) (B:=w1.heap.size) (w0:=w1) (by rfl) (.tmp 41) (.tmp 44) 64 64 (by rfl) 69 Tryz.underlying64 hsz (some ⟨g,k,none⟩) (some ⟨g,0,none⟩) (n - k) (n - k) k n (by rfl) (by rfl) g k 69 HM.out HLEN.out (fun _=>⟨rfl,_,rfl,HSRC.out⟩) HFIT.out (HONE.out m) hb.drew hgle ?_
   intro w3 hm3 hb3
   refine bkq hK hb3 (h:=fun hHeld=>?_)
   clear hK K
   refine tkq 8 (h:=tkq 9 (h:=?_))
   refine wpAnyH_done (by kernel_rfl) ?_ _
   clear hHeld
   have HM3:Hid (w3.heap[g]?=some (.cells (filled U (.slice none 0 0) (k+m) n).toArray 69 (0,0))):=by
    have:=hm3.out
    rwa [zcf] at this
   clear hm3
   go_wp2
   go_roundg (gk - 1)
   case measure=>omega
   case rel=>exact ⟨k+m,by go_num,by omega,by omega,by omega,HM3,hb3⟩
  ·obtain rfl:k=n:=by omega
   have hfin:wr.rowIs g 69 k (fun _=>U):=⟨_,HM.out,by simp [filled],fun i hi=>by
    rw [List.getElem?_toArray,zd0 hi]⟩
   go_wp2
   go_ret
   exact ⟨g,rfl,hgle,hfin,hb⟩
def hitB (f:Nat->Int):Nat->Int->Bool
 | 0,_=>false
 | j+1,v=>hitB f j v || decide (f j=v)
theorem zcM {f:Nat->Int} {v:Int}:∀ {j:Nat},hitB f j v=true↔∃ i,i<j/\f i=v:=by
 intro j
 induction j with
 | zero=>simp [hitB]
 | succ j ih =>
  simp only [hitB,Bool.or_eq_true,decide_eq_true_eq,ih]
  constructor
  ·rintro (⟨i,hi,e⟩ | e)
   ·exact ⟨i,by omega,e⟩
   ·exact ⟨j,by omega,e⟩
  ·rintro ⟨i,hi,e⟩
   by_cases h:i=j
   ·subst h; exact .inr e
   ·exact .inl ⟨i,by omega,e⟩
def Trel.after (T:Trel) (i j:Nat):Prop:=T.fr i (j - 1)<T.fr i j∨T.fr i (j - 1)=T.fr i j/\T.lb i (j - 1)<T.lb i j
instance (T:Trel) (i j:Nat):Decidable (T.after i j):=by unfold Trel.after; exact inferInstance
def Trel.edgeOk (T:Trel) (i j:Nat):Prop:=0<=T.lb i j/\T.lb i j<256/\(0<j->T.after i j)
instance (T:Trel) (i j:Nat):Decidable (T.edgeOk i j):=by unfold Trel.edgeOk; exact inferInstance
def Trel.secOk (T:Trel) (i:Nat):Prop :=
 (∀ j,j<T.el i->T.edgeOk i j)/\(∀ v,v<(T.W i).toNat->hitB (T.fr i) (T.el i) (v:Nat)=true)/\(∀ v,v<(T.W (i+1)).toNat->hitB (T.to i) (T.el i) (v:Nat)=true)
instance (T:Trel) (i:Nat):Decidable (T.secOk i):=by unfold Trel.secOk; exact inferInstance
def Trel.properE (T:Trel):Int :=
 if T.shapeE≠0 then T.shapeE else if T.W 0≠1∨T.W T.n≠1 then 5 else if ∀ i,i<T.n->T.secOk i then 0 else 5
structure Trel.Proper (T:Trel):Prop where
 shape:T.Shape
 w0:T.W 0=1
 wn:T.W T.n=1
 sec:∀ i,i<T.n->T.secOk i
theorem Trel.proper_of {T:Trel} (h:T.properE=0):T.Proper:=by
 unfold Trel.properE at h
 by_cases h1:T.shapeE=0
 ·rw [if_neg (by simpa using h1)] at h
  by_cases h2:T.W 0≠1∨T.W T.n≠1
  ·rw [if_pos h2] at h; omega
  ·rw [if_neg h2] at h
   by_cases h3:∀ i,i<T.n->T.secOk i
   ·exact ⟨Trel.shape_of h1,by omega,by omega,h3⟩
   ·rw [if_neg h3] at h; omega
 ·rw [if_pos h1] at h; exact absurd h h1
theorem Trel.properE_shape {T:Trel} (h:T.shapeE≠0):T.properE=T.shapeE:=by unfold Trel.properE; rw [if_pos h]
theorem Trel.properE_end {T:Trel} (h:T.shapeE=0) (h2:T.W 0≠1∨T.W T.n≠1):T.properE=5:=by unfold Trel.properE; rw [if_neg (by simpa using h),if_pos h2]
theorem Trel.properE_sec {T:Trel} (h:T.shapeE=0) {i:Nat} (hi:i<T.n) (h2:¬ T.secOk i):T.properE=5:=by
 unfold Trel.properE
 rw [if_neg (by simpa using h)]
 split
 ·rfl
 ·rw [if_neg fun h3=>h2 (h3 i hi)]
theorem Trel.properE_ok {T:Trel} (h:T.shapeE=0) (h0:T.W 0=1) (hn:T.W T.n=1) (h2:∀ i,i<T.n->T.secOk i):T.properE=0:=by
 unfold Trel.properE
 rw [if_neg (by simpa using h),if_neg (by omega),if_pos h2]
theorem zaK {w:World} {p q:Addr} {u v:Value} (h:w.cell? q=some v) (hne:q.block≠p.block):(w.setCell p u).cell? q=some v :=
 (World.cell?_setCell_other w p q u (fun e=>hne (by rw [e]))).trans h
theorem zd1 (T:Trel) (A B:Option Addr) (c d:Nat) (w:World) (h:T.Reads w A B) :
  Calls Tryz.prog 95 #[.agg #[.slice A T.nw c,.slice B T.n d]] w fun e w'=>e=.returned (.int .i64 T.properE)/\Below w.heap.size w w':=by
 obtain ⟨RB,hRB⟩:∃ o,o=(Obj.cells #[.slice A T.nw c,.slice B T.n d] 53):=⟨_,rfl⟩
 have hB0:Below (w.heap.size+1) (w.alloc RB) (w.alloc RB):=Below.refl _ _
 have HS:Hid (∀ w',Below (w.heap.size+1) (w.alloc RB) w'->(w'.cell? ⟨w.heap.size,0,none⟩=some (.slice A T.nw c)/\w'.cell? ⟨w.heap.size,1,none⟩=some (.slice B T.n d))/\Below w.heap.size w w'):=fun w' hB=>by
  have hB':=zaO hB
  subst hRB
  exact ⟨⟨tbox hB rfl,tbox hB rfl⟩,hB'⟩
 obtain ⟨⟨p0,p1⟩,hW⟩:=HS.out _ hB0
 go_enter Tryz.func95, Tryz.ntmps95
 go_wp2_with fail
 rw [<-hRB]
 refine (zdY T A B c d _ (h.on hW)).mono ?_
 rintro e w1 ⟨rfl,hb⟩
 have hB1:=zav hB0 hb
 clear hW p0 p1 hb hB0 hRB
 obtain ⟨⟨p0,p1⟩,hW⟩:=HS.out _ hB1
 by_cases hs:T.shapeE=0
 ·have HSH:=hid (Trel.shape_of hs)
  have HS0:=hid hs
  rw [hs]
  have HR:=hid h
  have hnw:T.nw=T.n+1:=HSH.out.nw
  have HNW:=hid hnw
  have h64:T.n<=64:=HSH.out.n64
  have hnw2:T.n<T.nw:=by omega
  have hnw2':(T.n:Int)<(T.nw:Int):=by omega
  have hnw3:0<T.nw:=by omega
  have hnw3':(0:Int)<(T.nw:Int):=by omega
  have HB1:=hid hB1
  clear hs hnw h hB1
  obtain ⟨b,o,hA,hb,x0,_,_⟩:=(HR.out.on hW).width (i:=0) (by omega)
  obtain ⟨_,_,hA2,_,x1,_,_⟩:=(HR.out.on hW).width (i:=T.n) (by omega)
  subst hA
  injection hA2 with e1
  injection e1 with e1 e2
  subst e1 e2
  obtain ⟨u0,hu0⟩:∃ u,u=T.W 0:=⟨_,rfl⟩
  obtain ⟨u1,hu1⟩:∃ u,u=T.W T.n:=⟨_,rfl⟩
  rw [Nat.add_zero,<-hu0] at x0;rw [<-hu1] at x1
  have HU0:=hid hu0
  have HU1:=hid hu1
  clear hu0 hu1
  by_cases h0:u0=1
  ·have c0:(u0 != 1)=false:=by simp [h0]
   by_cases h1:u1=1
   ·have c1:(u1 != 1)=false:=by simp [h1]
    have HW0:Hid (T.W 0=1):=HU0.out.symm.trans h0
    have HWN:Hid (T.W T.n=1):=HU1.out.symm.trans h1
    clear h0 h1
    go_wp2
    go_loopg [35] T.n (fun gg iv wx=>∃ k:Nat,iv=.int .i64 (k:Nat)/\k<=T.n/\T.n<=k+gg/\(∀ i,i<k->T.secOk i)/\Below (w.heap.size+1) (w.alloc RB) wx)
    case atStart=>exact ⟨0,rfl,by omega,by omega,fun i hi=>absurd hi (by omega),HB1.out⟩
    case round =>
     clear hW p0 p1 x0 x1
     obtain ⟨gK,hgK⟩:∃ g,g=gk:=⟨_,rfl⟩
     subst hgK
     obtain ⟨k,rfl,hk,hkg,hall,hB⟩:=hrel
     obtain ⟨wk,hwk⟩:∃ W,W=wr:=⟨_,rfl⟩
     subst hwk
     have hk0:(0:Int)<=(k:Int):=by omega
     have HB:=hid hB
     have hwz:=zaS hB
     clear hB
     obtain ⟨⟨p0,p1⟩,hW⟩:=HS.out _ HB.out
     have HALL:=hid hall
     clear hall
     by_cases hlt:k<T.n
     ·have hlt':(k:Int)<(T.n:Int):=by omega
      have hk1:k+1<T.nw:=by omega
      have hk1':(k:Int)+1<(T.nw:Int):=by omega
      have hk2':(k:Int)<(T.nw:Int):=by omega
      obtain ⟨wa,wo,hA,_,y0,hy1,hy2⟩:=(HR.out.on hW).width (i:=k) (by omega)
      obtain ⟨_,_,hA2,_,y1,hy3,hy4⟩:=(HR.out.on hW).width (i:=k+1) (by omega)
      rw [hA] at hA2
      injection hA with e1
      injection e1 with e1 e2
      subst e1 e2
      injection hA2 with e1
      injection e1 with e1 e2
      subst e1 e2
      obtain ⟨eb,eo,E,ec,rfl,heb,x0,he1,he2,he3,he4⟩:=(HR.out.on hW).sec hlt
      unfold maxLen at he2
      have hwk:=HSH.out.wid (i:=k) (by omega)
      have hwk1:=HSH.out.wid (i:=k+1) (by omega)
      have hel:=HSH.out.elb hlt
      obtain ⟨n1,hn1⟩:∃ n:Nat,(n:Int)=T.W k:=⟨(T.W k).toNat,by omega⟩
      obtain ⟨n2,hn2⟩:∃ n:Nat,(n:Int)=T.W (k+1):=⟨(T.W (k+1)).toNat,by omega⟩
      rw [<-hn1] at y0 hwk;rw [<-hn2] at y1 hwk1
      have HN1:=hid hn1
      have HN2:=hid hn2
      have HE3:=hid he3
      have HE4:=hid he4
      have HX0:=hid x0
      have hmk:=fun W=>zah (P:=Tryz.prog) 185 4 _ 1 Tryz.underlying185 Tryz.infoBool rfl (n1:Int) (by omega) (by omega) (by omega) W
      have hmk2:=fun W=>zah (P:=Tryz.prog) 185 4 _ 1 Tryz.underlying185 Tryz.infoBool rfl (n2:Int) (by omega) (by omega) (by omega) W
      simp only [Int.toNat_natCast] at hmk hmk2
      clear hn1 hn2 he3 he4 hy1 hy2 hy3 hy4
      go_upto_region 12 with fail
      have hr1:=zab (World.rowIs_made wk (.bool false) n1 4) ((Below.refl _ _).alloc (Nat.le_refl _) (Obj.cells (madeCells #[Value.bool false] n2) 4))
      have hr2:=World.rowIs_made (wk.alloc (Obj.cells (madeCells #[Value.bool false] n1) 4)) (.bool false) n2 4
      have hbm:=(((Below.refl wk.heap.size wk).alloc (Nat.le_refl _) (Obj.cells (madeCells #[Value.bool false] n1) 4)).alloc (by simp) (Obj.cells (madeCells #[Value.bool false] n2) 4))
      simp only [World.size_alloc] at hr2 ⊢
      obtain ⟨wm,hwm⟩:∃ W,W=(wk.alloc (Obj.cells (madeCells #[Value.bool false] n1) 4)).alloc (Obj.cells (madeCells #[Value.bool false] n2) 4):=⟨_,rfl⟩
      rw [<-hwm] at hr1 hr2 hbm ⊢
      obtain ⟨b1,hb1⟩:∃ q,q=wk.heap.size:=⟨_,rfl⟩
      obtain ⟨b2,hb2⟩:∃ q,q=wk.heap.size+1:=⟨_,rfl⟩
      rw [<-hb1] at hr1;rw [<-hb2] at hr2;rw [<-hb2,<-hb1]
      have hne:b1≠b2:=by omega
      have hz1:wk.heap.size<=b1:=by omega
      have hz2:wk.heap.size<=b2:=by omega
      have hs1:Hid (wm.rowIs b1 4 n1 (fun v=>.bool (hitB (T.fr k) 0 (v:Nat)))):=hr1.congr fun _ _=>rfl
      have hs2:Hid (wm.rowIs b2 4 n2 (fun v=>.bool (hitB (T.to k) 0 (v:Nat)))):=hr2.congr fun _ _=>rfl
      have HBM:=hid hbm
      have HBAD:Hid (¬ T.secOk k->T.properE=5):=fun hb=>T.properE_sec HS0.out hlt hb
      clear hr1 hr2 hbm hwm hb1 hb2 hmk hmk2 p0 p1 x0 hW
      obtain ⟨⟨p0,p1⟩,hW⟩:=HS.out _ (zav HB.out HBM.out)
      have x0:=cellS HBM.out HX0.out
      go_wp2
      go_loopg [55] (T.el k) (fun gg jv wx=>∃ j:Nat,jv=.int .i64 (j:Nat)/\j<=T.el k/\T.el k<=j+gg/\(∀ i,i<j->T.edgeOk k i)/\wx.rowIs b1 4 n1 (fun v=>.bool (hitB (T.fr k) j (v:Nat)))/\wx.rowIs b2 4 n2 (fun v=>.bool (hitB (T.to k) j (v:Nat)))/\Below wk.heap.size wk wx)
      case atStart=>exact ⟨0,rfl,by omega,by omega,fun i hi=>absurd hi (by omega),hs1.out,hs2.out,HBM.out⟩
      case round =>
       clear hW p0 p1 x0 hs1 hs2 HBM y0 y1 hb
       obtain ⟨wj,hwj⟩:∃ W,W=wr:=⟨_,rfl⟩
       subst hwj
       obtain ⟨j,rfl,hj,hjg,hall,hr1,hr2,hBj⟩:=hrel
       have hj0:(0:Int)<=(j:Int):=by omega
       have HALL2:=hid hall
       obtain ⟨⟨p0,p1⟩,hW⟩:=HS.out _ (zav HB.out hBj)
       have x0:=cellS hBj HX0.out
       have HBj:=hid hBj
       have hwj1:=hr1.lt
       have hwzj:=zaS (zav HB.out hBj)
       have hwzk:wk.heap.size<=wj.heap.size:=hBj.size
       have heb2:eb<wj.heap.size:=by omega
       have hwj2:=hr2.lt
       have HR1:=hid hr1
       have HR2:=hid hr2
       clear hall
       by_cases hltj:j<T.el k
       ·have hltj':(j:Int)<(T.el k:Int):=by omega
        obtain ⟨fb,fo,rfl,hfb,e0,e1,e2⟩:=zc1 ((Rd.below HE3.out hBj (Nat.le_refl _)).mono hBj.size) hltj
        obtain ⟨i1,i2,i3,i4⟩:=HSH.out.ins k hlt j hltj
        rw [<-HN1.out] at i2;rw [<-HN2.out] at i4
        have HOK:Hid (T.edgeOk k j↔0<=T.lb k j/\T.lb k j<256/\(0<j->T.after k j)):=Iff.rfl
        have HNO:Hid (¬ T.edgeOk k j->T.properE=5):=fun hn=>HBAD.out fun hs=>hn (hs.1 j hltj)
        obtain ⟨fn,hfn⟩:∃ n:Nat,(n:Int)=T.fr k j:=⟨(T.fr k j).toNat,by omega⟩
        obtain ⟨tn,htn⟩:∃ n:Nat,(n:Int)=T.to k j:=⟨(T.to k j).toNat,by omega⟩
        obtain ⟨lb,hlb⟩:∃ x,x=T.lb k j:=⟨_,rfl⟩
        have hfl:fn<n1:=by omega
        have htl:tn<n2:=by omega
        have hfl':(fn:Int)<(n1:Int):=by omega
        have htl':(tn:Int)<(n2:Int):=by omega
        have hf0:(0:Int)<=(fn:Int):=by omega
        have ht0:(0:Int)<=(tn:Int):=by omega
        have HOKS:Hid (T.edgeOk k j->∀ i,i<j+1->T.edgeOk k i):=fun ho i hi=>by
         by_cases e:i=j
         ·subst e; exact ho
         ·exact HALL2.out i (by omega)
        have u0:=hr1.cell (i:=fn) hfl
        have u1:=hr2.cell (i:=tn) htl
        have z0:=hr1.frozen fn
        have z1:=hr2.frozen tn
        obtain ⟨v0,hv0⟩:∃ x,x=hitB (T.fr k) j (fn:Nat):=⟨_,rfl⟩
        obtain ⟨v1,hv1⟩:∃ x,x=hitB (T.to k) j (tn:Nat):=⟨_,rfl⟩
        have hne':b2≠b1:=fun e=>hne e.symm
        rw [<-hv0] at u0;rw [<-hv1] at u1;rw [<-hfn] at e0;rw [<-htn] at e2;rw [<-hlb] at e1 HOK
        have HFN:=hid hfn
        have HTN:=hid htn
        have HLB:=hid hlb
        clear hv0 hv1 hfn htn hlb hr1 hr2 hBj i1 i2 i3 i4
        have hbj:=(HBj.out.alloc hwzk (Obj.cells #[.int .i64 (fn:Int),.int .i64 lb,.int .i64 (tn:Int)] 90))
        have HC1:Hid (∀ v,v<n1->(if v=fn then Value.bool true else .bool (hitB (T.fr k) j (v:Nat)))=.bool (hitB (T.fr k) (j+1) (v:Nat))):=fun v hv=>by
         show _=Value.bool (hitB (T.fr k) j (v:Nat) || decide (T.fr k j=(v:Nat)))
         by_cases e:v=fn
         ·subst e; rw [if_pos rfl,<-HFN.out]; simp
         ·rw [if_neg e,decide_eq_false (by have:=HFN.out; omega)]; simp
        have HC2:Hid (∀ v,v<n2->(if v=tn then Value.bool true else .bool (hitB (T.to k) j (v:Nat)))=.bool (hitB (T.to k) (j+1) (v:Nat))):=fun v hv=>by
         show _=Value.bool (hitB (T.to k) j (v:Nat) || decide (T.to k j=(v:Nat)))
         by_cases e:v=tn
         ·subst e; rw [if_pos rfl,<-HTN.out]; simp
         ·rw [if_neg e,decide_eq_false (by have:=HTN.out; omega)]; simp
        go_upto_region 15 with fail
        obtain ⟨OB,hOB⟩:∃ o,o=(Obj.cells #[.int .i64 (fn:Int),.int .i64 lb,.int .i64 (tn:Int)] 90):=⟨_,rfl⟩
        have hq:∀ i v,(#[Value.int .i64 (fn:Int),.int .i64 lb,.int .i64 (tn:Int)]:Array Value)[i]?=some v->(wj.alloc OB).cell? ⟨wj.heap.size,i,none⟩=some v:=fun i v hv=>by subst hOB; exact tbox (Below.refl _ _) hv
        have q0:=hq 0 _ rfl
        have q1:=hq 1 _ rfl
        have q2:=hq 2 _ rfl
        have kbo:Below wj.heap.size wj (wj.alloc OB):=(Below.refl _ _).alloc (Nat.le_refl _) _
        rw [<-hOB] at hbj ⊢
        obtain ⟨w50,hw50⟩:∃ W,W=wj.alloc OB:=⟨_,rfl⟩
        rw [<-hw50] at hbj q0 q1 q2 kbo ⊢
        have hr1:=zab HR1.out kbo
        have hr2:=zab HR2.out kbo
        have hbx:=hbj
        have hwj50:wj.heap.size<w50.heap.size:=by rw [hw50]; simp
        have hW50:Below w.heap.size w w50:=onS hW kbo
        have hzb1:b1<wj.heap.size:=hwj1
        have hzb2:b2<wj.heap.size:=hwj2
        clear hq hw50 hOB hbj p0 p1 x0 HR1 HR2 u0 u1 z0 z1
        by_cases l1:lb<0
        ·have q3:decide (lb<0)=true:=by simpa using l1
         have hE:=hid (HNO.out fun ho=>by have:=(HOK.out.1 ho).1; omega)
         go_quiet (fail)
         go_wp2
         go_ret
         exact ⟨zas hE.out.symm,zae hW50 _⟩
        have q3:decide (lb<0)=false:=by simpa using l1
        by_cases l2:lb ≥ 256
        ·have q4:decide (lb ≥ 256)=true:=by simpa using l2
         have q5:decide (256<=lb)=true:=by simpa using l2
         have hE:=hid (HNO.out fun ho=>by have:=(HOK.out.1 ho).2.1; omega)
         go_quiet (fail)
         go_wp2
         go_ret
         exact ⟨zas hE.out.symm,zae hW50 _⟩
        have q4:decide (lb ≥ 256)=false:=by simpa using l2
        have q5:decide (256<=lb)=false:=by simpa using l2
        by_cases jz:j=0
        ·have hg:decide ((j:Int) > 0)=false:=by simp; omega
         have hg2:decide (0<(j:Int))=false:=by simp; omega
         have hg3:decide (0<j)=false:=by simp; omega
         have hok:=hid (HOK.out.2 ⟨by omega,by omega,fun h=>absurd h (by omega)⟩)
         clear jz e0 e1 e2
         go_quiet (fail)
         go_upto_region 17 with fail
         replace kbo:=zae (Below.refl w50.heap.size w50) nq;replace q0:=cellS kbo q0;replace q2:=cellS kbo q2;replace hr1:=zab hr1 kbo;replace hr2:=zab hr2 kbo;replace hbx:=onS hbx kbo
         obtain ⟨w60,hw60⟩:∃ W,W=w50.drewN nq:=⟨_,rfl⟩
         rw [<-hw60] at q0 q2 hr1 hr2 hbx ⊢;clear hw60 kbo hW50 q1
         refine wp_region_held_drew (S:=fun w'=>w'.cell? ⟨wj.heap.size,0,none⟩=some (.int .i64 fn)/\w'.cell? ⟨wj.heap.size,2,none⟩=some (.int .i64 tn)) (by kernel_rfl) ⟨cellS (Below.refl _ _).drew q0,cellS (Below.refl _ _).drew q2⟩ (fun hHeld=>?_)
         obtain ⟨w61,hw⟩:∃ W,W=World.drew w60:=⟨_,rfl⟩
         have kb:Below w60.heap.size w60 w61:=by rw [hw]; exact (Below.refl _ _).drew
         rw [<-hw] at hHeld ⊢;clear hw;replace hr1:=zab hr1 kb;replace hr2:=zab hr2 kb;replace q0:=cellS kb q0;replace q2:=cellS kb q2;replace hbx:=onS hbx kb;clear kb
         refine tkq 0 (h:=tkq 1 (h:=tkq 2 (h:=tkq 3 (h:=tkq 4 (h:=tkq 5 (h:=tkq 6 (h:=?_)))))))
         refine rdq 7 (h:=fun K hK=>?_)
         have hlx:=hr1.lt
         have u0:=hr1.cell (i:=fn) hfl
         have z0:=hr1.frozen fn
         skip
         go_simp
         replace q0:=zaK (p:=⟨b1,fn,none⟩) (u:=.bool true) q0 (by show wj.heap.size≠b1; omega)
         replace q2:=zaK (p:=⟨b1,fn,none⟩) (u:=.bool true) q2 (by show wj.heap.size≠b1; omega)
         replace hbx:=hbx.setCell (p:=⟨b1,fn,none⟩) hz1 (.bool true)
         replace hr2:=hr2.setOther (a:=⟨b1,fn,none⟩) (by simpa using hne') (.bool true)
         replace hr1:=hr1.set fn (.bool true)
         obtain ⟨w62,hw⟩:∃ W,W=World.setCell w61 ⟨b1,fn,none⟩ (.bool true):=⟨_,rfl⟩
         rw [<-hw] at q0 q2 hbx hr1 hr2 ⊢;clear hw u0 z0 hlx
         refine bkq hK ⟨q0,q2⟩ (h:=fun hHeld=>?_)
         clear hK K
         refine tkq 8 (h:=?_)
         refine rdq 9 (h:=fun K hK=>?_)
         have hlx:=hr2.lt
         have u0:=hr2.cell (i:=tn) htl
         have z0:=hr2.frozen tn
         skip
         go_simp
         replace q0:=zaK (p:=⟨b2,tn,none⟩) (u:=.bool true) q0 (by show wj.heap.size≠b2; omega)
         replace q2:=zaK (p:=⟨b2,tn,none⟩) (u:=.bool true) q2 (by show wj.heap.size≠b2; omega)
         replace hbx:=hbx.setCell (p:=⟨b2,tn,none⟩) hz2 (.bool true)
         replace hr1:=hr1.setOther (a:=⟨b2,tn,none⟩) (by simpa using hne) (.bool true)
         replace hr2:=hr2.set tn (.bool true)
         obtain ⟨w63,hw⟩:∃ W,W=World.setCell w62 ⟨b2,tn,none⟩ (.bool true):=⟨_,rfl⟩
         rw [<-hw] at q0 q2 hbx hr1 hr2 ⊢;clear hw u0 z0 hlx
         refine bkq hK ⟨q0,q2⟩ (h:=fun hHeld=>?_)
         clear hK K
         refine wpAnyH_done (by kernel_rfl) ?_ _
         clear hHeld
         have hs1:=hr1.congr (g:=fun v=>.bool (hitB (T.fr k) (j+1) (v:Nat))) (HC1.out)
         have hs2:=hr2.congr (g:=fun v=>.bool (hitB (T.to k) (j+1) (v:Nat))) (HC2.out)
         have HS1:=hid hs1
         have HS2:=hid hs2
         have HBX:=hid hbx
         clear hs1 hs2 hr1 hr2 hbx
         go_wp2
         go_roundg (gk - 1)
         case measure=>omega
         case rel=>exact ⟨j+1,by go_num,by omega,by omega,HOKS.out hok.out,HS1.out,HS2.out,HBX.out⟩
        ·obtain ⟨jp,rfl⟩:∃ jp,j=jp+1:=⟨j - 1,by omega⟩
         obtain ⟨_,_,hE2,_,g0,g1,g2⟩:=zc1 ((Rd.below HE3.out HBj.out (Nat.le_refl _)).mono HBj.out.size) (j:=jp) (by omega)
         injection hE2 with hE2; injection hE2 with hE2 hE3; subst hE2 hE3
         have HAF:Hid (T.after k (jp+1)↔T.fr k jp<T.fr k (jp+1)∨T.fr k jp=T.fr k (jp+1)/\T.lb k jp<T.lb k (jp+1)):=Iff.rfl
         rw [<-HFN.out,<-HLB.out] at HAF
         have hlj:jp<T.el k:=by omega
         have hlj':(jp:Int)<(T.el k:Int):=by omega
         have hjp0:(0:Int)<=(jp:Int):=by omega
         obtain ⟨gf,hgf⟩:∃ x,x=T.fr k jp:=⟨_,rfl⟩
         obtain ⟨gl,hgl⟩:∃ x,x=T.lb k jp:=⟨_,rfl⟩
         obtain ⟨gt,hgt⟩:∃ x,x=T.to k jp:=⟨_,rfl⟩
         rw [<-hgf] at g0 HAF;rw [<-hgl] at g1 HAF;rw [<-hgt] at g2;replace g0:=cellS kbo g0;replace g1:=cellS kbo g1;replace g2:=cellS kbo g2;clear hgf hgl hgt jz e0 e1 e2 kbo hW50
         have hg:decide ((jp:Int)+1 > 0)=true:=decide_eq_true (by omega)
         have hg2:decide (0<(jp:Int)+1)=true:=decide_eq_true (by omega)
         have hwj1:IntKind.i64.wrap (jp:Int)=(jp:Int):=IntWalk.i64_in _ (by omega)
         have hlv:Hid (lessV gf gl fn lb<0↔gf<fn∨gf=fn/\gl<lb):=zbR
         refine wp_region_held_drew (S:=fun w'=>w'.cell? ⟨wj.heap.size,0,none⟩=some (.int .i64 fn)/\w'.cell? ⟨wj.heap.size,1,none⟩=some (.int .i64 lb)/\w'.cell? ⟨wj.heap.size,2,none⟩=some (.int .i64 tn)/\w'.cell? ⟨fb,fo+jp*3,none⟩=some (.int .i64 gf)/\w'.cell? ⟨fb,fo+jp*3+1,none⟩=some (.int .i64 gl)/\w'.cell? ⟨fb,fo+jp*3+2,none⟩=some (.int .i64 gt)) (by kernel_rfl) ⟨cellS (Below.refl _ _).drew q0,cellS (Below.refl _ _).drew q1,cellS (Below.refl _ _).drew q2,cellS (Below.refl _ _).drew g0,cellS (Below.refl _ _).drew g1,cellS (Below.refl _ _).drew g2⟩ (fun hHeld=>?_)
         obtain ⟨w51,hw⟩:∃ W,W=World.drew w50:=⟨_,rfl⟩
         have kb:Below w50.heap.size w50 w51:=by rw [hw]; exact (Below.refl _ _).drew
         rw [<-hw] at hHeld ⊢;clear hw;replace hr1:=zab hr1 kb;replace hr2:=zab hr2 kb;replace q0:=cellS kb q0;replace q1:=cellS kb q1;replace q2:=cellS kb q2;replace g0:=cellS kb g0;replace g1:=cellS kb g1;replace g2:=cellS kb g2;replace hbx:=onS hbx kb;clear kb
         refine tkq 0 (h:=tkq 1 (h:=tkq 2 (h:=tkq 3 (h:=tkq 4 (h:=tkq 5 (h:=tkq 6 (h:=tkq 7 (h:=tkq 8 (h:=tkq 9 (h:=tkq 10 (h:=tkq 11 (h:=tkq 12 (h:=tkq 13 (h:=tkq 14 (h:=tkq 15 (h:=tkq 16 (h:=tkq 17 (h:=?_))))))))))))))))))
         refine rdq 18 (h:=fun K hK=>?_)
         go_simp
         go_wp2_with fail
         refine (ziw gf gl gt fn lb tn w51).mono ?_
         rintro e w52 ⟨rfl,kb⟩
         replace hr1:=zab hr1 kb;replace hr2:=zab hr2 kb;replace q0:=cellS kb q0;replace q1:=cellS kb q1;replace q2:=cellS kb q2;replace g0:=cellS kb g0;replace g1:=cellS kb g1;replace g2:=cellS kb g2;replace hbx:=onS hbx kb;clear kb
         refine bkq hK ⟨q0,q1,q2,g0,g1,g2⟩ (h:=fun hHeld=>?_)
         clear hK K
         refine tkq 19 (h:=tkq 20 (h:=tkq 21 (h:=?_)))
         refine wpAnyH_done (by kernel_rfl) ?_ _
         clear hHeld
         obtain ⟨lv,hlv2⟩:∃ x,x=lessV gf gl fn lb:=⟨_,rfl⟩
         rw [<-hlv2] at hlv ⊢;clear hlv2
         by_cases hl0:lv ≥ 0
         ·have q6:decide (lv ≥ 0)=true:=by simpa using hl0
          have q7:decide (0<=lv)=true:=by simpa using hl0
          have hE:=hid (HNO.out fun ho=>by have:=hlv.out.2 (HAF.out.1 ((HOK.out.1 ho).2.2 (by omega))); omega)
          have hWx:=zaO (zav HB.out hbx)
          go_wp2
          go_ret
          exact ⟨zas hE.out.symm,hWx⟩
         ·have q6:decide (lv ≥ 0)=false:=by simpa using hl0
          have q7:decide (0<=lv)=false:=by simpa using hl0
          have hok:=hid (HOK.out.2 ⟨by omega,by omega,fun h=>HAF.out.2 (hlv.out.1 (by omega))⟩)
          clear g0 g1 g2 q1
          go_upto_region 17 with fail
          obtain ⟨w60,hw60⟩:∃ W,W=w52:=⟨_,rfl⟩
          rw [<-hw60] at q0 q2 hr1 hr2 hbx ⊢;clear hw60
          refine wp_region_held_drew (S:=fun w'=>w'.cell? ⟨wj.heap.size,0,none⟩=some (.int .i64 fn)/\w'.cell? ⟨wj.heap.size,2,none⟩=some (.int .i64 tn)) (by kernel_rfl) ⟨cellS (Below.refl _ _).drew q0,cellS (Below.refl _ _).drew q2⟩ (fun hHeld=>?_)
          obtain ⟨w61,hw⟩:∃ W,W=World.drew w60:=⟨_,rfl⟩
          have kb:Below w60.heap.size w60 w61:=by rw [hw]; exact (Below.refl _ _).drew
          rw [<-hw] at hHeld ⊢;clear hw;replace hr1:=zab hr1 kb;replace hr2:=zab hr2 kb;replace q0:=cellS kb q0;replace q2:=cellS kb q2;replace hbx:=onS hbx kb;clear kb
          refine tkq 0 (h:=tkq 1 (h:=tkq 2 (h:=tkq 3 (h:=tkq 4 (h:=tkq 5 (h:=tkq 6 (h:=?_)))))))
          refine rdq 7 (h:=fun K hK=>?_)
          have hlx:=hr1.lt
          have u0:=hr1.cell (i:=fn) hfl
          have z0:=hr1.frozen fn
          skip
          go_simp
          replace q0:=zaK (p:=⟨b1,fn,none⟩) (u:=.bool true) q0 (by show wj.heap.size≠b1; omega)
          replace q2:=zaK (p:=⟨b1,fn,none⟩) (u:=.bool true) q2 (by show wj.heap.size≠b1; omega)
          replace hbx:=hbx.setCell (p:=⟨b1,fn,none⟩) hz1 (.bool true)
          replace hr2:=hr2.setOther (a:=⟨b1,fn,none⟩) (by simpa using hne') (.bool true)
          replace hr1:=hr1.set fn (.bool true)
          obtain ⟨w62,hw⟩:∃ W,W=World.setCell w61 ⟨b1,fn,none⟩ (.bool true):=⟨_,rfl⟩
          rw [<-hw] at q0 q2 hbx hr1 hr2 ⊢;clear hw u0 z0 hlx
          refine bkq hK ⟨q0,q2⟩ (h:=fun hHeld=>?_)
          clear hK K
          refine tkq 8 (h:=?_)
          refine rdq 9 (h:=fun K hK=>?_)
          have hlx:=hr2.lt
          have u0:=hr2.cell (i:=tn) htl
          have z0:=hr2.frozen tn
          skip
          go_simp
          replace q0:=zaK (p:=⟨b2,tn,none⟩) (u:=.bool true) q0 (by show wj.heap.size≠b2; omega)
          replace q2:=zaK (p:=⟨b2,tn,none⟩) (u:=.bool true) q2 (by show wj.heap.size≠b2; omega)
          replace hbx:=hbx.setCell (p:=⟨b2,tn,none⟩) hz2 (.bool true)
          replace hr1:=hr1.setOther (a:=⟨b2,tn,none⟩) (by simpa using hne) (.bool true)
          replace hr2:=hr2.set tn (.bool true)
          obtain ⟨w63,hw⟩:∃ W,W=World.setCell w62 ⟨b2,tn,none⟩ (.bool true):=⟨_,rfl⟩
          rw [<-hw] at q0 q2 hbx hr1 hr2 ⊢;clear hw u0 z0 hlx
          refine bkq hK ⟨q0,q2⟩ (h:=fun hHeld=>?_)
          clear hK K
          refine wpAnyH_done (by kernel_rfl) ?_ _
          clear hHeld
          have hs1:=hr1.congr (g:=fun v=>.bool (hitB (T.fr k) (jp+1+1) (v:Nat))) (HC1.out)
          have hs2:=hr2.congr (g:=fun v=>.bool (hitB (T.to k) (jp+1+1) (v:Nat))) (HC2.out)
          have HS1:=hid hs1
          have HS2:=hid hs2
          have HBX:=hid hbx
          clear hs1 hs2 hr1 hr2 hbx
          go_wp2
          go_roundg (gk - 1)
          case measure=>omega
          case rel=>exact ⟨jp+1+1,by go_num,by omega,by omega,HOKS.out hok.out,HS1.out,HS2.out,HBX.out⟩
       ·have hltj':¬ (j:Int)<(T.el k:Int):=by omega
        have hje:j=T.el k:=by omega
        have HALL3:Hid (∀ i,i<T.el k->T.edgeOk k i):=by rw [<-hje]; exact HALL2
        rw [hje] at hr1 hr2;clear HR1 HR2 HALL2
        go_wp2_with fail
        refine (zcK _ n1 n1 (fun v=>hitB (T.fr k) (T.el k) (v:Nat)) false wj (zaH hr1) (by omega)).mono ?_
        rintro e w2 ⟨⟨r1,rfl,hc1⟩,kb⟩
        replace hW:=onS hW kb;replace hr2:=zab hr2 kb
        have hb2x:=onS HBj.out kb
        clear kb hr1
        cases r1
        ·have HA1:Hid (∀ i,i<n1->hitB (T.fr k) (T.el k) (i:Nat)=true):=fun i hi=>by
          cases hv:hitB (T.fr k) (T.el k) (i:Nat)
          ·exact absurd (hc1.2 ⟨i,hi,hv⟩) (by simp)
          ·rfl
         clear hc1
         go_wp2_with fail
         refine (zcK _ n2 n2 (fun v=>hitB (T.to k) (T.el k) (v:Nat)) false w2 (zaH hr2) (by omega)).mono ?_
         rintro e w3 ⟨⟨r2,rfl,hc2⟩,kb⟩
         replace hW:=onS hW kb;replace hb2x:=onS hb2x kb;clear kb hr2
         cases r2
         ·have HN:Hid (∀ i,i<k+1->T.secOk i):=fun i hi=>by
           by_cases e:i=k
           ·subst e
            refine ⟨HALL3.out,fun v hv=>HA1.out v (by have:=HN1.out; omega),fun v hv=>?_⟩
            cases hv2:hitB (T.to i) (T.el i) (v:Nat)
            ·exact absurd (hc2.2 ⟨v,by have:=HN2.out; omega,hv2⟩) (by simp)
            ·rfl
           ·exact HALL.out i (by omega)
          have HFIN:=hid (zav HB.out hb2x)
          clear hc2
          go_wp2
          go_roundg (gK - 1)
          case measure=>omega
          case rel=>exact ⟨k+1,by go_num,by omega,by omega,HN.out,HFIN.out⟩
         ·have hE:=hid (HBAD.out fun hs=>by
           obtain ⟨i,hi,e⟩:=hc2.1 rfl
           have:=hs.2.2 i (by have:=HN2.out; omega)
           rw [e] at this
           cases this)
          clear hc2
          go_wp2
          go_ret
          exact ⟨zas hE.out.symm,hW⟩
        ·have hE:=hid (HBAD.out fun hs=>by
          obtain ⟨i,hi,e⟩:=hc1.1 rfl
          have:=hs.2.1 i (by have:=HN1.out; omega)
          rw [e] at this
          cases this)
         clear hc1
         go_wp2
         go_ret
         exact ⟨zas hE.out.symm,hW⟩
     ·have hlt':¬ (k:Int)<(T.n:Int):=by omega
      have hE:=hid (T.properE_ok HS0.out HW0.out HWN.out fun i hi=>HALL.out i (by omega))
      go_wp2
      go_ret
      exact ⟨zas hE.out.symm,hW⟩
   ·have c1:(u1 != 1)=true:=by simp [h1]
    have hE:=hid (T.properE_end HS0.out (.inr (by rw [<-HU1.out]; exact h1)))
    go_wp2
    go_ret
    exact ⟨zas hE.out.symm,hW⟩
  ·have c0:(u0 != 1)=true:=by simp [h0]
   have hE:=hid (T.properE_end HS0.out (.inl (by rw [<-HU0.out]; exact h0)))
   go_wp2
   go_ret
   exact ⟨zas hE.out.symm,hW⟩
 ·have hE:=hid (Trel.properE_shape hs)
  have hn:(T.shapeE != 0)=true:=by simpa using hs
  obtain ⟨x,hx⟩:∃ x,x=T.shapeE:=⟨_,rfl⟩
  rw [<-hx] at hE hn ⊢;clear hs hx
  go_wp2
  go_ret
  exact ⟨zas hE.out.symm,hW⟩
theorem ziy {f:Nat->Int} {j:Nat} {v:Int} (h:hitB f j v=true):0<j:=by
 obtain ⟨i,hi,_⟩:=zcM.1 h
 omega
theorem Trel.Proper.el1 {T:Trel} (h:T.Proper) {i:Nat} (hi:i<T.n):1<=T.el i:=by
 have h1:=(h.sec i hi).2.2 0 (by have:=h.shape.w1 (i+1) (by omega); omega)
 exact ziy h1
def PathsPost (T:Trel) (w:World) (e:Ending) (w':World):Prop :=
 (T.properE≠0/\e=.returned (.tuple #[.slice none 0 0,.int .i64 T.properE])/\Below w.heap.size w w') ∨
 (T.properE=0/\∃ A c,e=.returned (.tuple #[.slice A (dl (T.fwd (fun _ _=>1) T.n 0)) c,.int .i64 0])/\dl (T.fwd (fun _ _=>1) T.n 0)<=c/\c<=maxLen/\NatOk w' w'.heap.size A (T.fwd (fun _ _=>1) T.n 0)/\Below w.heap.size w w')
def OnesUpTo (T:Trel) (wx:World) (gv k:Nat) (A1:Option Addr) (c1:Nat):Prop :=
 ∃ R:Nat->Nat,wx.rowIs gv 64 T.n (fun i=>if i<k then .slice (some ⟨R i,0,none⟩) (T.el i) (T.el i) else .slice none 0 0)/\∀ i,i<k->R i≠gv/\wx.rowIs (R i) 69 (T.el i) (fun _=>.slice A1 (dl 1) c1)
theorem OnesUpTo.on {T:Trel} {w w':World} {gv k:Nat} {A1:Option Addr} {c1:Nat} (h:OnesUpTo T w gv k A1 c1) (hb:Below w.heap.size w w'):OnesUpTo T w' gv k A1 c1:=by
 obtain ⟨R,h1,h2⟩:=h
 exact ⟨R,zab h1 hb,fun i hi=>⟨(h2 i hi).1,zab (h2 i hi).2 hb⟩⟩
theorem OnesUpTo.noInt {T:Trel} {w:World} {gv k:Nat} {A1:Option Addr} {c1:Nat} (h:OnesUpTo T w gv k A1 c1):NoInt w gv:=by
 obtain ⟨R,h1,h2⟩:=h
 exact zeW h1 fun i _ u e=>by
  revert e
  show (if i<k then _ else _)=_->_
  split <;> (intro e; cases e)
theorem OnesUpTo.put {T:Trel} {w:World} {gv k r:Nat} {A1:Option Addr} {c1:Nat} (h:OnesUpTo T w gv k A1 c1) (hr:w.rowIs r 69 (T.el k) (fun _=>.slice A1 (dl 1) c1)) (hne:r≠gv) :
  OnesUpTo T (w.setCell ⟨gv,k,none⟩ (.slice (some ⟨r,0,none⟩) (T.el k) (T.el k))) gv (k+1) A1 c1:=by
 obtain ⟨R,h1,h2⟩:=h
 refine ⟨fun i=>if i=k then r else R i,(h1.set k _).congr fun i _=>?_,fun i hi=>?_⟩
 ·show (if i=k then _ else if i<k then _ else _)=if i<k+1 then Value.slice (some ⟨if i=k then r else R i,0,none⟩) (T.el i) (T.el i) else .slice none 0 0
  by_cases e:i=k
  ·subst e; rw [if_pos rfl,if_pos (by omega),if_pos rfl]
  ·rw [if_neg e,if_neg e]
   by_cases e2:i<k
   ·rw [if_pos e2,if_pos (by omega)]
   ·rw [if_neg e2,if_neg (by omega)]
 ·show (if i=k then r else R i)≠gv/\World.rowIs _ (if i=k then r else R i) _ _ _
  by_cases e:i=k
  ·subst e
   rw [if_pos rfl]
   exact ⟨hne,hr.setOther (by simpa using hne) _⟩
  ·rw [if_neg e]
   exact ⟨(h2 i (by omega)).1,(h2 i (by omega)).2.setOther (by simpa using (h2 i (by omega)).1) _⟩
theorem OnesUpTo.tab {T:Trel} {w:World} {gv:Nat} {A1:Option Addr} {c1:Nat} (h:OnesUpTo T w gv T.n A1 c1) (hn:NatOk w w.heap.size A1 1) (h1:dl 1<=c1) (h2:c1<=maxLen):VTab w (some ⟨gv,0,none⟩) T.n T.el (fun _ _=>1):=fun i hi=>by
 obtain ⟨R,k1,k2⟩:=h
 have hc:=k1.cell hi
 rw [if_pos hi] at hc
 refine ⟨gv,0,some ⟨R i,0,none⟩,T.el i,rfl,k1.lt,by rw [Nat.zero_add]; exact hc,fun j hj=>?_⟩
 exact ⟨R i,0,A1,c1,rfl,(k2 i hi).2.lt,by rw [Nat.zero_add]; exact (k2 i hi).2.cell hj,h1,h2,hn⟩
theorem zhx (T:Trel) (A B:Option Addr) (c d:Nat) (w:World) (h:T.Reads w A B) :
  Calls Tryz.prog 71 #[.agg #[.slice A T.nw c,.slice B T.n d]] w (PathsPost T w):=by
 obtain ⟨RB,hRB⟩:∃ o,o=(Obj.cells #[.slice A T.nw c,.slice B T.n d] 53):=⟨_,rfl⟩
 have hB0:Below (w.heap.size+1) (w.alloc RB) (w.alloc RB):=Below.refl _ _
 have HS:Hid (∀ w',Below (w.heap.size+1) (w.alloc RB) w'->(w'.cell? ⟨w.heap.size,0,none⟩=some (.slice A T.nw c)/\w'.cell? ⟨w.heap.size,1,none⟩=some (.slice B T.n d))/\Below w.heap.size w w'):=fun w' hB=>by
  have hB':=zaO hB
  subst hRB
  exact ⟨⟨tbox hB rfl,tbox hB rfl⟩,hB'⟩
 obtain ⟨⟨p0,p1⟩,hW⟩:=HS.out _ hB0
 go_enter Tryz.func71, Tryz.ntmps71
 go_wp2_with fail
 rw [<-hRB]
 refine (zd1 T A B c d _ (h.on hW)).mono ?_
 rintro e w1 ⟨rfl,hb⟩
 have hB1:=zav hB0 hb
 clear hW p0 p1 hb hB0 hRB
 obtain ⟨⟨p0,p1⟩,hW⟩:=HS.out _ hB1
 by_cases hp:T.properE=0
 ·have HP:=hid (Trel.proper_of hp)
  have HP0:=hid hp
  have HR:=hid h
  have HSE:Hid (T.shapeE=0):=by
   show _=_
   cases Decidable.em (T.shapeE=0) with
   | inl h=>exact h
   | inr h=>exact absurd (Trel.properE_shape h ▸ hp) h
  rw [hp];clear hp h
  go_wp2_with fail
  refine (zdg 1 _ (by omega)).mono ?_
  rintro e w2 ⟨A1,c1,rfl,g1,g2,g3,kb⟩
  have hB2:=zav hB1 kb
  clear hW p0 p1 hB1 kb
  obtain ⟨⟨p0,p1⟩,hW⟩:=HS.out _ hB2
  have hl2:=zaS hB2
  have hn64:=HP.out.shape.n64
  have hmk:=fun W=>zah (P:=Tryz.prog) 148 64 _ 24 Tryz.underlying148 Tryz.infoNats rfl (T.n:Int) (by omega) (by omega) (by omega) W
  simp only [Int.toNat_natCast] at hmk
  obtain ⟨x,hx⟩:∃ x,x=T.fwd (fun _ _=>1) T.n 0:=⟨_,rfl⟩
  have HX:=hid hx
  clear hx
  go_upto_region 6 with fail
  obtain ⟨gv,hgv⟩:∃ b,b=w2.heap.size:=⟨_,rfl⟩
  have hrv:=World.rowIs_made w2 (.slice none 0 0) T.n 64
  have kb3:Below w2.heap.size w2 (w2.alloc (Obj.cells (madeCells #[Value.slice none 0 0] T.n) 64)):=(Below.refl _ _).alloc (Nat.le_refl _) _
  obtain ⟨w3,hw3⟩:∃ W,W=w2.alloc (Obj.cells (madeCells #[Value.slice none 0 0] T.n) 64):=⟨_,rfl⟩
  rw [<-hgv] at hrv;rw [<-hw3] at hrv kb3 ⊢;rw [<-hgv]
  have hl3:w.heap.size<gv:=by omega
  have hon:OnesUpTo T w3 gv 0 A1 c1:=⟨fun _=>0,hrv.congr fun i _=>(if_neg (by omega)).symm,fun i hi=>absurd hi (by omega)⟩
  have hB3:=zav hB2 kb3
  replace g3:=g3.on kb3;clear hw3 hrv hmk p0 p1 hW hB2 kb3 hl2 hgv
  obtain ⟨⟨p0,p1⟩,hW⟩:=HS.out _ hB3
  go_wp2
  go_loopg [24] T.n (fun gg iv wx=>∃ k:Nat,iv=.int .i64 (k:Nat)/\k<=T.n/\T.n<=k+gg/\OnesUpTo T wx gv k A1 c1/\NatOk wx wx.heap.size A1 1/\Below (w.heap.size+1) (w.alloc RB) wx)
  case atStart=>exact ⟨0,rfl,by omega,by omega,hon,g3,hB3⟩
  case round =>
   clear p0 p1 hW hon g3 hB3
   obtain ⟨k,rfl,hk,hkg,hon,g3,hB⟩:=hrel
   obtain ⟨⟨p0,p1⟩,hW⟩:=HS.out _ hB
   have hk0:(0:Int)<=(k:Int):=by omega
   have hwz:=zaS hB
   have hgw:gv<wr.heap.size:=by obtain ⟨R,h1,_⟩:=hon; exact h1.lt
   by_cases hlt:k<T.n
   ·have hlt':(k:Int)<(T.n:Int):=by omega
    obtain ⟨eb,eo,E,ec,rfl,heb,x0,_,_,_,_⟩:=(HR.out.on hW).sec hlt
    have hel:=HP.out.shape.elb hlt
    have hel1:=HP.out.el1 hlt
    obtain ⟨el,hele⟩:∃ n,n=T.el k:=⟨_,rfl⟩
    rw [<-hele] at x0 hel hel1
    have HEL:=hid hele
    clear hele
    go_wp2_with fail
    have kb:Below wr.heap.size wr (wr.alloc (Obj.cells #[Value.slice A1 (dl 1) c1] 69)):=(Below.refl _ _).alloc (Nat.le_refl _) _
    have hc:(wr.alloc (Obj.cells #[Value.slice A1 (dl 1) c1] 69)).cell? ⟨wr.heap.size,0,none⟩=some (.slice A1 (dl 1) c1):=by simp
    replace hon:=hon.on kb;replace g3:=g3.on kb;replace hB:=zav hB kb
    obtain ⟨w4,hw4⟩:∃ W,W=wr.alloc (Obj.cells #[Value.slice A1 (dl 1) c1] 69):=⟨_,rfl⟩
    obtain ⟨nb,hnb⟩:∃ b,b=wr.heap.size:=⟨_,rfl⟩
    rw [<-hw4] at hon g3 hB hc kb ⊢;rw [<-hnb] at hc ⊢;clear p0 p1 hW hnb hw4 x0 heb
    refine (zgD nb (.slice A1 (dl 1) c1) el 1 w4 hc rfl hel1 (by omega)).mono ?_
    rintro e w5 ⟨r,rfl,hrz,hrr,kb2⟩
    have hgw4:gv<w4.heap.size:=by obtain ⟨R,h1,_⟩:=hon; exact h1.lt
    replace hon:=hon.on kb2;replace g3:=g3.on kb2;replace hB:=zav hB kb2
    have hni:=hon.noInt
    have hrne:r≠gv:=by omega
    have hrr2:w5.rowIs r 69 (T.el k) (fun _=>.slice A1 (dl 1) c1):=by rw [<-HEL.out]; exact hrr
    have hput:=hid (hon.put hrr2 hrne)
    rw [<-HEL.out] at hput
    have hg5:=hid (zaJ (i:=k) g3 hni (.slice (some ⟨r,0,none⟩) el el))
    have hB5:=hid (hB.setCell (p:=⟨gv,k,none⟩) (by show w.heap.size+1<=gv; omega) (.slice (some ⟨r,0,none⟩) el el))
    have q0:∃ v,w5.cell? ⟨gv,k,none⟩=some v:=by obtain ⟨R,h1,_⟩:=hon; exact ⟨_,h1.cell hlt⟩
    have z0:w5.frozen? ⟨gv,k,none⟩=false:=by obtain ⟨R,h1,_⟩:=hon; exact h1.frozen k
    obtain ⟨v0,q0⟩:=q0
    clear hc kb kb2 hon g3 hB hni hrr hrr2
    go_wp2
    go_roundg (gk - 1)
    case measure=>omega
    case rel=>exact ⟨k+1,by go_num,by omega,by omega,hput.out,hg5.out,hB5.out⟩
   ·have hlt':¬ (k:Int)<(T.n:Int):=by omega
    have hken:k=T.n:=by omega
    rw [hken] at hon
    have hvt:=hon.tab g3 g1 g2
    have hlr:=zaS hB
    clear hken hon g3
    go_wp2_with fail
    refine (zep T A B (some ⟨gv,0,none⟩) c d T.n (fun _ _=>1) wr (HR.out.on hW) HSE.out hvt (fun _ _ _ _=>Nat.le_refl _)).mono ?_
    rintro e w6 ⟨g,F,rfl,hg,hT,kb⟩
    have hB6:=zav hB kb
    clear hvt p0 p1 hW kb hB
    obtain ⟨⟨p0,p1⟩,hW⟩:=HS.out _ hB6
    have hnw:=HP.out.shape.nw
    have hnl:T.n<T.nw:=by omega
    have hnl':(T.n:Int)<(T.nw:Int):=by omega
    have hwn:=HP.out.wn
    obtain ⟨b0,o0,d0,A0,c0,hF0,hb0,hbl0,q0,q1,q2,q3,_,_⟩:=hT.at (v:=T.n) hnl (k:=0) (by show 0<(T.W T.n).toNat; omega)
    have r0:=hT.row.cell hnl
    rw [hF0] at r0
    have h1n:(T.W T.n).toNat=1:=by omega
    change w6.cell? ⟨g,T.n,none⟩=some (.slice (some ⟨b0,o0,none⟩) (T.W T.n).toNat d0) at r0
    rw [h1n] at r0;rw [Nat.add_zero,<-HX.out] at q0;rw [<-HX.out] at q1 q3
    have hXN:=HX.out
    have HFIN:Hid (∀ e,e=.returned (.tuple #[.slice A0 (dl x) c0,.int .i64 0])->PathsPost T w e w6):=fun e he=>.inr ⟨HP0.out,A0,c0,by rw [<-HX.out]; exact he,by rw [<-HX.out]; exact q1,q2,by rw [<-HX.out]; exact q3,hW⟩
    clear hnw hXN hwn h1n hT hF0 q3
    go_wp2
    go_ret2
    exact HFIN.out _ rfl
 ·have hne:(T.properE != 0)=true:=by simpa using hp
  have HP:=hid hp
  obtain ⟨x,hx⟩:∃ x,x=T.properE:=⟨_,rfl⟩
  have HX:=hid hx
  rw [<-hx] at hne ⊢;clear hp hx
  go_wp2
  go_ret2
  exact .inl ⟨HP.out,by rw [<-HX.out]; rfl,hW⟩
def rankOf (k:Nat->Nat) (n v:Nat):Nat:=(List.range n).countP fun u=>decide (k u<k v)
theorem zeZ {p q:Nat->Bool} {l:List Nat} (h:∀ x,x ∈ l->p x=true->q x=true) {y:Nat} (hy:y ∈ l) (hq:q y=true) (hp:p y=false):l.countP p<l.countP q:=by
 induction l with
 | nil=>cases hy
 | cons a l ih =>
  have hle:∀ l:List Nat,(∀ x,x ∈ l->p x=true->q x=true)->l.countP p<=l.countP q:=fun l h=>List.countP_mono_left h
  rw [List.countP_cons,List.countP_cons]
  rcases List.mem_cons.1 hy with rfl | hm
  ·rw [hp,hq]
   have:=hle l fun x hx=>h x (by simp [hx])
   simp
   omega
  ·have h1:=ih (fun x hx=>h x (by simp [hx])) hm
   have h2:(if p a=true then 1 else 0)<=if q a=true then 1 else 0:=by
    by_cases e:p a=true
    ·rw [if_pos e,if_pos (h a (by simp) e)]
     exact Nat.le_refl _
    ·rw [if_neg e]
     exact Nat.zero_le _
   omega
theorem ze0 {k:Nat->Nat} {n u v:Nat} (hu:u<n) (h:k u<k v):rankOf k n u<rankOf k n v:=by
 unfold rankOf
 exact zeZ (fun x _ hx=>by simp at hx ⊢; omega) (List.mem_range.2 hu) (by simpa using h) (by simp)
theorem zeq {k:Nat->Nat} {n v:Nat} (hv:v<n):rankOf k n v<n:=by
 have h:=zeZ (p:=fun u=>decide (k u<k v)) (q:=fun _=>true) (l:=List.range n) (fun _ _ _=>rfl) (List.mem_range.2 hv) rfl (by simp)
 unfold rankOf
 simpa using h
theorem zgE {k:Nat->Nat} {n u v:Nat} (hk:∀ a b,a<n->b<n->k a=k b->a=b) (hu:u<n) (hv:v<n) (h:rankOf k n u=rankOf k n v):u=v:=by
 rcases Nat.lt_trichotomy (k u) (k v) with h1 | h1 | h1
 ·have:=ze0 hu h1; omega
 ·exact hk u v hu hv h1
 ·have:=ze0 hv h1; omega
theorem zer {k:Nat->Nat} {n:Nat} {l:List Nat} (hp:l.Perm (List.range n)) (hs:∀ p q,p<q->q<l.length->k (l.getD p 0)<k (l.getD q 0)) {p:Nat} (h:p<l.length):rankOf k n (l.getD p 0)=p:=by
 unfold rankOf
 rw [<-hp.countP_eq]
 have key : ∀ (m : List Nat) (c : Nat), (∀ i, i < m.length → (decide (k (m.getD i 0) < k (l.getD p 0)) = true ↔ i < c)) → c ≤ m.length → m.countP (fun u => decide (k u < k (l.getD p 0))) = c := by
  intro m
  induction m with
  | nil=>intro c _ hc; simp at hc; simp [hc]
  | cons a m ih =>
   intro c h1 hc
   rw [List.countP_cons]
   have h0:=h1 0 (by simp)
   by_cases e:c=0
   ·subst e
    have ha:decide (k a<k (l.getD p 0))=false:=by
     cases hd:decide (k a<k (l.getD p 0)) with
     | false=>rfl
     | true=>exact absurd (h0.1 (by simpa using hd)) (by omega)
    rw [ih 0 (fun i hi=>by
     have:=h1 (i+1) (by simp; omega)
     constructor
     ·intro h2
      have:=this.1 (by simpa using h2)
      omega
     ·intro h2; omega) (by omega),ha]
    simp
   ·have ha:decide (k a<k (l.getD p 0))=true:=by simpa using h0.2 (by omega)
    rw [ih (c - 1) (fun i hi=>by
     have:=h1 (i+1) (by simp; omega)
     constructor
     ·intro h2
      have:=this.1 (by simpa using h2)
      omega
     ·intro h2
      have:=this.2 (by omega)
      simpa using this) (by simp at hc; omega),ha]
    simp
    omega
 refine key l p (fun i hi=>?_) (by omega)
 rw [decide_eq_true_iff]
 constructor
 ·intro h1
  rcases Nat.lt_trichotomy i p with h2 | h2 | h2
  ·exact h2
  ·subst h2; omega
  ·have:=hs p i h2 hi; omega
 ·intro h1
  exact hs i p h1 h
end Go.Proofs.YtgekjfpapmlndaaGreat