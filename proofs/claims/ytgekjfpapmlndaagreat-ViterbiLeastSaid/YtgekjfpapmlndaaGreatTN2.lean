/- Merged texts of a claim: IBack, IVals, BwdMath, VitPl, Along. -/
import Derived.Test.YtgekjfpapmlndaaGreatTM14
import Derived.Test.YtgekjfpapmlndaaGreatTN1
namespace Go.Proofs.YtgekjfpapmlndaaGreat
set_option maxRecDepth 100000
set_option maxHeartbeats 32000000
open Go.RowKit
def BwdPost (T:Trel) (x:Nat->Nat->Int) (w:World) (e:Ending) (w':World):Prop :=
 ∃ g F,e=.returned (.tuple #[.slice (some ⟨g,0,none⟩) T.nw T.nw,.int .i64 0])/\w.heap.size<=g/\IntTab w' g (g+1) T.nw F (fun v=>(T.W v).toNat) x/\Below w.heap.size w w'
theorem ya8 (T:Trel) (A B V:Option Addr) (c d vc:Nat) (y:Nat->Nat->Int) (w:World) (h:T.Reads w A B) (hs:T.shapeE=0) (hv:IntRows w V T.n T.el y) (hy:Costs T y) :
  Calls Tryz.prog 123 #[.agg #[],.agg #[.slice A T.nw c,.slice B T.n d],.slice V T.n vc] w (BwdPost T (fun u v=>T.bw y (T.n - u) v) w):=by
 obtain ⟨O1,hO1⟩:∃ o,o=(Obj.cells #[] 158):=⟨_,rfl⟩
 obtain ⟨O2,hO2⟩:∃ o,o=(Obj.cells #[.slice A T.nw c,.slice B T.n d] 53):=⟨_,rfl⟩
 have hB0:Below (w.heap.size+2) ((w.alloc O1).alloc O2) ((w.alloc O1).alloc O2):=Below.refl _ _
 have HS:Hid (∀ w',Below (w.heap.size+2) ((w.alloc O1).alloc O2) w'->(w'.cell? ⟨w.heap.size+1,0,none⟩=some (.slice A T.nw c)/\w'.cell? ⟨w.heap.size+1,1,none⟩=some (.slice B T.n d))/\Below w.heap.size w w'):=fun w' hB=>by
  have hB':=zeY hB
  subst hO2
  have hr:=zfQ hB
  exact ⟨⟨hr.cell (i:=0) (by simp),hr.cell (i:=1) (by simp)⟩,hB'⟩
 obtain ⟨⟨p0,p1⟩,hW⟩:=HS.out _ hB0
 have HSH:=hid (Trel.shape_of hs)
 have HSE:=hid hs
 have HR:=hid h
 have HV:=hid hv
 have HY:=hid hy
 clear h hs hv hy
 go_enter Tryz.func123, Tryz.ntmps123
 go_wp2_with fail
 rw [<-hO1,<-hO2]
 refine (yaM T A B V c d vc y _ (HR.out.on hW) HSE.out (HV.out.on hW)).mono ?_
 rintro e w1 ⟨rfl,kb⟩
 have hB1:=zjb hB0 kb
 clear p0 p1 hW kb hB0 hO1 hO2
 obtain ⟨⟨p0,p1⟩,hW⟩:=HS.out _ hB1
 go_wp2_with fail
 refine (ya7 T A B c d _ (HR.out.on hW) HSH.out).mono ?_
 rintro e w2 ⟨g,F,rfl,hg,hT,kb⟩
 have hB2:=zjb hB1 kb
 have hl1:=zja hB1
 have hg2:w.heap.size+2<=g:=by omega
 have hl2:w.heap.size+2<w2.heap.size:=by have:=hT.row.lt; omega
 obtain ⟨W2,hW2⟩:∃ W,W=(w.alloc O1).alloc O2:=⟨_,rfl⟩
 have HS2:Hid (∀ w',Below (w.heap.size+2) W2 w'->(w'.cell? ⟨w.heap.size+1,0,none⟩=some (.slice A T.nw c)/\w'.cell? ⟨w.heap.size+1,1,none⟩=some (.slice B T.n d))/\Below w.heap.size w w'):=by rw [hW2]; exact HS
 rw [<-hW2] at hB2;clear p0 p1 hW kb hB1 hl1 hg hW2 HS
 obtain ⟨⟨p0,p1⟩,hW⟩:=HS2.out _ hB2
 have hn64:=HSH.out.n64
 have HNW:=hid HSH.out.nw
 have hnw0:T.n<T.nw:=by have:=HNW.out; omega
 have hnw0':(T.n:Int)<(T.nw:Int):=by omega
 have hn00:(0:Int)<=(T.n:Int):=by omega
 have hw0:=HSH.out.w1 T.n (Nat.le_refl _)
 have hw0n:0<(T.W T.n).toNat:=by omega
 obtain ⟨b0,o0,d0,hF0,hb0,hbl0,q0,z0⟩:=hT.at (v:=T.n) hnw0 (k:=0) hw0n
 obtain ⟨n0,hn0⟩:∃ n,n=(T.W T.n).toNat:=⟨_,rfl⟩
 have HN0:=hid hn0
 have r0:=hT.row.cell hnw0
 rw [hF0] at r0
 change w2.cell? ⟨g,T.n,none⟩=some (.slice (some ⟨b0,o0,none⟩) (T.W T.n).toNat d0) at r0
 rw [<-hn0] at hw0n r0
 have hw0n':(0:Int)<(n0:Int):=by omega
 clear hn0
 go_upto_region 5 with fail
 have hl:=hl2
 refine wp_region_held_drew (S:=fun w'=>w'.cell? ⟨g,T.n,none⟩=some (.slice (some ⟨b0,o0,none⟩) n0 d0)/\w'.cell? ⟨w.heap.size+1,1,none⟩=some (.slice B T.n d)) (by kernel_rfl) ⟨cellS (Below.refl _ _).drew r0,cellS (Below.refl _ _).drew p1⟩ (fun hHeld=>?_)
 obtain ⟨w3,hw⟩:∃ W,W=World.drew w2:=⟨_,rfl⟩
 have kb:Below w2.heap.size w2 w3:=by rw [hw]; exact (Below.refl _ _).drew
 rw [<-hw] at hHeld ⊢;clear hw;replace hB2:=zaZ hB2 (Nat.le_of_lt hl) kb;replace hl:=Nat.lt_of_lt_of_le hl kb.size;replace hT:=hT.on kb;replace r0:=cellS kb r0;replace q0:=cellS kb q0;replace p1:=cellS kb p1;clear kb
 refine tkq 0 (h:=tkq 1 (h:=tkq 2 (h:=tkq 3 (h:=tkq 4 (h:=tkq 5 (h:=tkq 6 (h:=tkq 7 (h:=?_))))))))
 refine rdq 8 (h:=fun K hK=>?_)
 go_simp
 go_wp2_with fail
 refine (ya6 w3).mono ?_
 rintro e w4 ⟨rfl,kb⟩
 replace hB2:=zaZ hB2 (Nat.le_of_lt hl) kb;replace hl:=Nat.lt_of_lt_of_le hl kb.size;replace hT:=hT.on kb;replace r0:=cellS kb r0;replace q0:=cellS kb q0;replace p1:=cellS kb p1;clear kb
 refine bkq hK ⟨r0,p1⟩ (h:=fun hHeld=>?_)
 clear hK K
 refine tkq 9 (h:=?_)
 refine rdq 10 (h:=fun K hK=>?_)
 have zf:w4.frozen? ⟨b0,o0,none⟩=false:=by
  obtain ⟨b9,o9,d9,hF9,_,_,_,z9⟩:=hT.at (v:=T.n) hnw0 (k:=0) (by rw [<-HN0.out]; exact hw0n)
  rw [hF0] at hF9
  injection hF9 with e1 _ _
  injection e1 with e1
  injection e1 with e1 e2
  subst e1 e2
  exact z9
 rw [Nat.add_zero] at q0
 go_simp
 replace r0:=zaa (p:=⟨b0,o0,none⟩) (u:=.int .i64 0) r0 (by show g≠b0; omega)
 replace p1:=zaa (p:=⟨b0,o0,none⟩) (u:=.int .i64 0) p1 (by show w.heap.size+1≠b0; omega)
 have hT9:=hT.set (y:=0) (by omega) hnw0 (k:=0) (by rw [<-HN0.out]; exact hw0n) hF0
 rw [Nat.add_zero] at hT9
 have hB9:=hB2.setCell (p:=⟨b0,o0,none⟩) (by show w.heap.size+2<=b0; omega) (.int .i64 0)
 have hl9:w.heap.size+2<(World.setCell w4 ⟨b0,o0,none⟩ (.int .i64 0)).heap.size:=by simp; exact hl
 refine bkq hK ⟨r0,p1⟩ (h:=fun hHeld=>?_)
 clear hK K
 refine wpAnyH_done (by kernel_rfl) ?_ _
 clear hHeld
 obtain ⟨w9,hw9⟩:∃ W,W=World.setCell w4 ⟨b0,o0,none⟩ (.int .i64 0):=⟨_,rfl⟩
 rw [<-hw9] at hT9 hB9 hl9 ⊢;clear hw9 hT hB2 hl r0 q0
 have hT0:IntTab w9 g (g+1) T.nw F (fun v=>(T.W v).toNat) (fun u v=>if T.n<=u then T.bw y (T.n - u) v else 4611686018427387904):=hT9.congr (fun v _=>rfl) (fun u hu v hv=>by
  show updI _ T.n 0 0 u v=if T.n<=u then T.bw y (T.n - u) v else 4611686018427387904
  unfold updI
  by_cases e:u=T.n
  ·subst e
   rw [if_pos (Nat.le_refl _),Nat.sub_self]
   show _=if v=0 then 0 else 4611686018427387904
   by_cases e2:v=0
   ·rw [if_pos ⟨rfl,e2⟩,if_pos e2]
   ·rw [if_neg (fun h=>e2 h.2),if_neg e2]
  ·have:=HNW.out
   rw [if_neg (fun h=>e h.1),if_neg (by omega)])
 clear hT9 hw0n hw0n' z0 hbl0 HN0 hw0 p0 p1 hW
 obtain ⟨⟨p0,p1⟩,hW⟩:=HS2.out _ hB9
 go_wp2
 go_loopg [10] T.n (fun gg iv wx=>∃ i:Nat,iv=.int .i64 ((i:Int) - 1)/\i<=T.n/\i<=gg/\IntTab wx g (g+1) T.nw F (fun v=>(T.W v).toNat) (fun u v=>if i<=u then T.bw y (T.n - u) v else 4611686018427387904)/\Below (w.heap.size+2) W2 wx/\w.heap.size+2<wx.heap.size)
 case atStart=>exact ⟨T.n,by go_num,by omega,by omega,hT0,hB9,hl9⟩
 case round =>
  clear hW p0 p1 hT0 hB9 hl9
  obtain ⟨gK,hgK⟩:∃ g,g=gk:=⟨_,rfl⟩
  subst hgK
  obtain ⟨i,rfl,hk,hkg,hT,hB,hl⟩:=hrel
  obtain ⟨wk,hwk⟩:∃ W,W=wr:=⟨_,rfl⟩
  subst hwk
  obtain ⟨⟨p0,p1⟩,hW⟩:=HS2.out _ hB
  by_cases hlt0:0<i
  ·obtain ⟨k,rfl⟩:∃ k,i=k+1:=⟨i - 1,by omega⟩
   have eiv:(((k+1:Nat):Int) - 1)=(k:Int):=by omega
   rw [eiv]
   have hlt:k<T.n:=by omega
   have hk0:(0:Int)<=(k:Int):=by omega
   have hlt':(k:Int)<(T.n:Int):=by omega
   have hk1:k+1<T.nw:=by have:=HNW.out; omega
   have hkw:k<T.nw:=by omega
   have hk1':(k:Int)+1<(T.nw:Int):=by omega
   have hkw':(k:Int)<(T.nw:Int):=by omega
   have hk01:(0:Int)<=(k:Int)+1:=by omega
   have hwk1:IntKind.i64.wrap ((k:Int)+1)=(k:Int)+1:=IntWalk.i64_in _ (by omega)
   obtain ⟨eb,eo,E,ec,rfl,heb,x0w,he1,he2,he3,he4⟩:=HR.out.sec hlt
   obtain ⟨vb,vo,R,rc,rfl,hvb,y0w,hv1,hv2,hvt,hvr⟩:=HV.out k hlt
   have hel:=HSH.out.elb hlt
   have HE3:=hid he3
   have HVT:=hid hvt
   have HX0:=hid x0w
   have HY0:=hid y0w
   have x0:=cellS hW x0w
   have hT1:IntTab wk g (g+1) T.nw F (fun v=>(T.W v).toNat) (T.bwX y k 0):=hT.congr (fun v _=>rfl) (fun u _ v _=>(Trel.bwX_first u v).symm)
   clear he3 he4 he2 hvt x0w y0w eiv hT hv1 hv2 hvr
   go_wp2
   go_loopg [46] (T.el k) (fun gg jv wx=>∃ j:Nat,jv=.int .i64 (j:Nat)/\j<=T.el k/\T.el k<=j+gg/\IntTab wx g (g+1) T.nw F (fun v=>(T.W v).toNat) (T.bwX y k j)/\Below (w.heap.size+2) W2 wx/\w.heap.size+2<wx.heap.size)
   case atStart=>exact ⟨0,rfl,by omega,by omega,hT1,hB,hl⟩
   case round =>
    clear p0 p1 hT1 hB hl x0 hW
    obtain ⟨j,rfl,hj,hjg,hT,hB,hl⟩:=hrel
    have hj0:(0:Int)<=(j:Int):=by omega
    by_cases hltj:j<T.el k
    ·have hltj':(j:Int)<(T.el k:Int):=by omega
     have hW:=(HS2.out _ hB).2
     obtain ⟨fb,fo,rfl,hfb,e0,e1,e2⟩:=zc1 ((Rd.below HE3.out hW (Nat.le_refl _)).mono hW.size) hltj
     obtain ⟨i1,i2,i3,i4⟩:=HSH.out.ins k hlt j hltj
     obtain ⟨fn,hfn⟩:∃ n:Nat,(n:Int)=T.fr k j:=⟨(T.fr k j).toNat,by omega⟩
     obtain ⟨tn,htn⟩:∃ n:Nat,(n:Int)=T.to k j:=⟨(T.to k j).toNat,by omega⟩
     obtain ⟨lb,hlb⟩:∃ z,z=T.lb k j:=⟨_,rfl⟩
     obtain ⟨n1,hn1⟩:∃ n,n=(T.W k).toNat:=⟨_,rfl⟩
     obtain ⟨n2,hn2⟩:∃ n,n=(T.W (k+1)).toNat:=⟨_,rfl⟩
     have hfl:fn<n1:=by omega
     have htl:tn<n2:=by omega
     have hfl':(fn:Int)<(n1:Int):=by omega
     have htl':(tn:Int)<(n2:Int):=by omega
     have hf0:(0:Int)<=(fn:Int):=by omega
     have ht0:(0:Int)<=(tn:Int):=by omega
     obtain ⟨ab,ao,ad,hFa,hab,habl,aq,zq⟩:=hT.at (v:=k) hkw (k:=fn) (by omega)
     obtain ⟨bb,bo,bd,hFb,hbb,hbbl,bq,_⟩:=hT.at (v:=k+1) hk1 (k:=tn) (by omega)
     obtain ⟨rb,ro,rfl,hrb,vq⟩:=(HVT.out.on hW).at hltj
     have hrow1:=hT.row.cell hkw
     have hrow2:=hT.row.cell hk1
     have y0:=cellS hW HY0.out
     have hapart:=hT.apart k (k+1) hkw hk1 (by omega)
     rw [hFa] at hrow1;rw [hFb] at hrow2
     have hne:bb≠ab:=fun e=>by
      rw [hFa,hFb,e] at hapart
      simp [Value.ownBlock] at hapart
     have d1:=Trel.bwX_cost HY.out hlt hj k fn
     have d2:=Trel.bwX_cost HY.out hlt hj (k+1) tn
     have d3:=HY.out.cost hlt hltj
     have HPUT:Hid (∀ u v,updI (T.bwX y k j) k fn (min (T.bwX y k j k fn) (capI (y k j) (T.bwX y k j (k+1) tn))) u v=T.bwX y k (j+1) u v):=fun u v=>Trel.bwX_put (T:=T) (y:=y) k j u v (by omega) (by omega)
     obtain ⟨av,hav⟩:∃ z,z=T.bwX y k j k fn:=⟨_,rfl⟩
     obtain ⟨bv,hbv⟩:∃ z,z=T.bwX y k j (k+1) tn:=⟨_,rfl⟩
     obtain ⟨yv,hyv2⟩:∃ z,z=y k j:=⟨_,rfl⟩
     rw [<-hav] at aq d1 HPUT;rw [<-hbv] at bq d2 HPUT;rw [<-hyv2] at vq d3 HPUT
     have HD1:=hid d1
     have HD2:=hid d2
     have HD3:=hid d3
     have HD4:=hid (yaF d3 d2)
     change wr.cell? ⟨g,k,none⟩=some (.slice (some ⟨ab,ao,none⟩) (T.W k).toNat ad) at hrow1
     change wr.cell? ⟨g,k+1,none⟩=some (.slice (some ⟨bb,bo,none⟩) (T.W (k+1)).toNat bd) at hrow2
     have x0:=cellS hW HX0.out
     rw [<-hn1] at hrow1;rw [<-hn2] at hrow2;rw [<-hfn] at e0;rw [<-hlb] at e1;rw [<-htn] at e2
     have hgab:g≠ab:=by omega
     have hbx:wr.heap.size≠ab:=by omega
     have hvab:vb≠ab:=by omega
     have hWs:=hW.size
     have HSET:Hid (F k=.slice (some ⟨ab,ao,none⟩) (T.W k).toNat ad):=hFa
     have HTL:Hid (fn<(T.W k).toNat):=by rw [<-hn1]; exact hfl
     have hrab:rb≠ab:=by
      obtain ⟨_,_,e8,h8,_⟩:=HVT.out.at hltj
      injection e8 with e8
      injection e8 with e8
      omega
     clear hapart hFa hFb hav hbv hyv2 hfn htn hlb i1 i2 i3 i4 hn1 hn2 hW d1 d2 d3
     go_upto_region 12 with fail
     obtain ⟨OB,hOB⟩:∃ o,o=(Obj.cells #[.int .i64 (fn:Int),.int .i64 lb,.int .i64 (tn:Int)] 90):=⟨_,rfl⟩
     have hq:∀ i v,(#[Value.int .i64 (fn:Int),.int .i64 lb,.int .i64 (tn:Int)]:Array Value)[i]?=some v->(wr.alloc OB).cell? ⟨wr.heap.size,i,none⟩=some v:=fun i v hv=>by subst hOB; exact tbox (Below.refl _ _) hv
     have s0:=hq 0 _ rfl
     have s2:=hq 2 _ rfl
     have kb:Below wr.heap.size wr (wr.alloc OB):=(Below.refl _ _).alloc (Nat.le_refl _) _
     rw [<-hOB]
     obtain ⟨w50,hw50⟩:∃ W,W=wr.alloc OB:=⟨_,rfl⟩
     rw [<-hw50] at s0 s2 kb ⊢;replace hT:=hT.on kb;replace hB:=zaZ hB (Nat.le_of_lt hl) kb;replace hl:=Nat.lt_of_lt_of_le hl kb.size;replace aq:=cellS kb aq;replace bq:=cellS kb bq;replace vq:=cellS kb vq;replace y0:=cellS kb y0;replace hrow1:=cellS kb hrow1;replace hrow2:=cellS kb hrow2
     obtain ⟨bx,hbx2⟩:∃ b,b=wr.heap.size:=⟨_,rfl⟩
     rw [<-hbx2] at s0 s2 hbx ⊢;clear hq hw50 hOB kb x0 e0 e1 e2 hbx2 zq
     refine wp_region_held_drew (S:=fun w'=>w'.cell? ⟨g,k,none⟩=some (.slice (some ⟨ab,ao,none⟩) n1 ad)/\w'.cell? ⟨g,k+1,none⟩=some (.slice (some ⟨bb,bo,none⟩) n2 bd)/\w'.cell? ⟨bx,0,none⟩=some (.int .i64 (fn:Int))/\w'.cell? ⟨bx,2,none⟩=some (.int .i64 (tn:Int))/\w'.cell? ⟨vb,vo+k,none⟩=some (.slice (some ⟨rb,ro,none⟩) (T.el k) rc)/\w'.cell? ⟨rb,ro+j,none⟩=some (.int .i64 yv)/\w'.cell? ⟨bb,bo+tn,none⟩=some (.int .i64 bv)) (by kernel_rfl) ⟨cellS (Below.refl _ _).drew hrow1,cellS (Below.refl _ _).drew hrow2,cellS (Below.refl _ _).drew s0,cellS (Below.refl _ _).drew s2,cellS (Below.refl _ _).drew y0,cellS (Below.refl _ _).drew vq,cellS (Below.refl _ _).drew bq⟩ (fun hHeld=>?_)
     obtain ⟨w51,hw⟩:∃ W,W=World.drew w50:=⟨_,rfl⟩
     have kb:Below w50.heap.size w50 w51:=by rw [hw]; exact (Below.refl _ _).drew
     rw [<-hw] at hHeld ⊢;clear hw;replace hB:=zaZ hB (Nat.le_of_lt hl) kb;replace hl:=Nat.lt_of_lt_of_le hl kb.size;replace hT:=hT.on kb;replace aq:=cellS kb aq;replace bq:=cellS kb bq;replace vq:=cellS kb vq;replace y0:=cellS kb y0;replace hrow1:=cellS kb hrow1;replace hrow2:=cellS kb hrow2;replace s0:=cellS kb s0;replace s2:=cellS kb s2;clear kb
     refine tkq 0 (h:=tkq 1 (h:=tkq 2 (h:=tkq 3 (h:=tkq 4 (h:=tkq 5 (h:=tkq 6 (h:=tkq 7 (h:=tkq 8 (h:=tkq 9 (h:=tkq 10 (h:=tkq 11 (h:=tkq 12 (h:=tkq 13 (h:=tkq 14 (h:=tkq 16 (h:=tkq 17 (h:=tkq 18 (h:=tkq 19 (h:=tkq 20 (h:=tkq 21 (h:=tkq 22 (h:=tkq 23 (h:=tkq 24 (h:=tkq 25 (h:=tkq 26 (h:=tkq 27 (h:=tkq 28 (h:=tkq 29 (h:=tkq 30 (h:=tkq 31 (h:=tkq 32 (h:=tkq 33 (h:=?_)))))))))))))))))))))))))))))))))
     refine rdq2 15 34 (h:=fun K hK=>?_) (h2:=fun K hK=>?_)
     ·go_simp
      refine bkq hK ⟨hrow1,hrow2,s0,s2,y0,vq,bq⟩ (h:=fun hHeld=>?_)
      clear hK K
      refine rdq 34 (h:=fun K hK=>?_)
      go_simp
      go_wp2_with fail
      refine (yaH yv bv w51 HD3.out HD2.out).mono ?_
      rintro e w52 ⟨rfl,kb⟩
      replace hB:=zaZ hB (Nat.le_of_lt hl) kb;replace hl:=Nat.lt_of_lt_of_le hl kb.size;replace hT:=hT.on kb;replace aq:=cellS kb aq;replace bq:=cellS kb bq;replace vq:=cellS kb vq;replace y0:=cellS kb y0;replace hrow1:=cellS kb hrow1;replace hrow2:=cellS kb hrow2;replace s0:=cellS kb s0;replace s2:=cellS kb s2;clear kb
      refine bkq hK ⟨hrow1,hrow2,s0,s2,y0,vq,bq⟩ (h:=fun hHeld=>?_)
      clear hK K
      refine rdq 35 (h:=fun K hK=>?_)
      go_simp
      go_wp2_with fail
      refine (yaG av (capI yv bv) w52 HD1.out HD4.out).mono ?_
      rintro e w53 ⟨rfl,kb⟩
      replace hB:=zaZ hB (Nat.le_of_lt hl) kb;replace hl:=Nat.lt_of_lt_of_le hl kb.size;replace hT:=hT.on kb;replace aq:=cellS kb aq;replace bq:=cellS kb bq;replace vq:=cellS kb vq;replace y0:=cellS kb y0;replace hrow1:=cellS kb hrow1;replace hrow2:=cellS kb hrow2;replace s0:=cellS kb s0;replace s2:=cellS kb s2;clear kb
      refine bkq hK ⟨hrow1,hrow2,s0,s2,y0,vq,bq⟩ (h:=fun hHeld=>?_)
      clear hK K
      refine tkq 36 (h:=?_)
      refine rdq 37 (h:=fun K hK=>?_)
      have zf:w53.frozen? ⟨ab,ao+fn,none⟩=false:=by
       obtain ⟨b9,o9,d9,hF9,_,_,_,z9⟩:=hT.at (v:=k) hkw (k:=fn) HTL.out
       rw [HSET.out] at hF9
       injection hF9 with e1 _ _
       injection e1 with e1
       injection e1 with e1 e2
       subst e1 e2
       exact z9
      obtain ⟨nv,hnv⟩:∃ z,z=min av (capI yv bv):=⟨_,rfl⟩
      rw [<-hnv] at HPUT ⊢;clear hnv
      go_simp
      replace hrow1:=zaa (p:=⟨ab,ao+fn,none⟩) (u:=.int .i64 nv) hrow1 (by simpa using hgab)
      replace hrow2:=zaa (p:=⟨ab,ao+fn,none⟩) (u:=.int .i64 nv) hrow2 (by simpa using hgab)
      replace s0:=zaa (p:=⟨ab,ao+fn,none⟩) (u:=.int .i64 nv) s0 (by simpa using hbx)
      replace s2:=zaa (p:=⟨ab,ao+fn,none⟩) (u:=.int .i64 nv) s2 (by simpa using hbx)
      replace y0:=zaa (p:=⟨ab,ao+fn,none⟩) (u:=.int .i64 nv) y0 (by simpa using hvab)
      replace vq:=zaa (p:=⟨ab,ao+fn,none⟩) (u:=.int .i64 nv) vq (by simpa using hrab)
      replace bq:=zaa (p:=⟨ab,ao+fn,none⟩) (u:=.int .i64 nv) bq (by simpa using hne)
      have hT9:=hT.set (y:=nv) (by omega) hkw (k:=fn) HTL.out HSET.out
      have hB9:=hB.setCell (p:=⟨ab,ao+fn,none⟩) (by show w.heap.size+2<=ab; omega) (.int .i64 nv)
      have hl9:w.heap.size+2<(World.setCell w53 ⟨ab,ao+fn,none⟩ (.int .i64 nv)).heap.size:=by simp; exact hl
      refine bkq hK ⟨hrow1,hrow2,s0,s2,y0,vq,bq⟩ (h:=fun hHeld=>?_)
      clear hK K
      refine wpAnyH_done (by kernel_rfl) ?_ _
      clear hHeld
      have hN:=hid (hT9.congr (x':=T.bwX y k (j+1)) (fun v _=>rfl) (fun u _ v _=>HPUT.out u v))
      have HB9:=hid hB9
      clear hT9 hT hB9 hB aq
      go_wp2
      go_roundg (gk - 1)
      case measure=>omega
      case rel=>exact ⟨j+1,by go_num,by omega,by omega,hN.out,HB9.out,hl9⟩
     ·go_simp
      go_wp2_with fail
      refine (yaH yv bv w51 HD3.out HD2.out).mono ?_
      rintro e w52 ⟨rfl,kb⟩
      replace hB:=zaZ hB (Nat.le_of_lt hl) kb;replace hl:=Nat.lt_of_lt_of_le hl kb.size;replace hT:=hT.on kb;replace aq:=cellS kb aq;replace bq:=cellS kb bq;replace vq:=cellS kb vq;replace y0:=cellS kb y0;replace hrow1:=cellS kb hrow1;replace hrow2:=cellS kb hrow2;replace s0:=cellS kb s0;replace s2:=cellS kb s2;clear kb
      refine bkq hK ⟨hrow1,hrow2,s0,s2,y0,vq,bq⟩ (h:=fun hHeld=>?_)
      clear hK K
      refine rdq 15 (h:=fun K hK=>?_)
      go_simp
      refine bkq hK ⟨hrow1,hrow2,s0,s2,y0,vq,bq⟩ (h:=fun hHeld=>?_)
      clear hK K
      refine rdq 35 (h:=fun K hK=>?_)
      go_simp
      go_wp2_with fail
      refine (yaG av (capI yv bv) w52 HD1.out HD4.out).mono ?_
      rintro e w53 ⟨rfl,kb⟩
      replace hB:=zaZ hB (Nat.le_of_lt hl) kb;replace hl:=Nat.lt_of_lt_of_le hl kb.size;replace hT:=hT.on kb;replace aq:=cellS kb aq;replace bq:=cellS kb bq;replace vq:=cellS kb vq;replace y0:=cellS kb y0;replace hrow1:=cellS kb hrow1;replace hrow2:=cellS kb hrow2;replace s0:=cellS kb s0;replace s2:=cellS kb s2;clear kb
      refine bkq hK ⟨hrow1,hrow2,s0,s2,y0,vq,bq⟩ (h:=fun hHeld=>?_)
      clear hK K
      refine tkq 36 (h:=?_)
      refine rdq 37 (h:=fun K hK=>?_)
      have zf:w53.frozen? ⟨ab,ao+fn,none⟩=false:=by
       obtain ⟨b9,o9,d9,hF9,_,_,_,z9⟩:=hT.at (v:=k) hkw (k:=fn) HTL.out
       rw [HSET.out] at hF9
       injection hF9 with e1 _ _
       injection e1 with e1
       injection e1 with e1 e2
       subst e1 e2
       exact z9
      obtain ⟨nv,hnv⟩:∃ z,z=min av (capI yv bv):=⟨_,rfl⟩
      rw [<-hnv] at HPUT ⊢;clear hnv
      go_simp
      replace hrow1:=zaa (p:=⟨ab,ao+fn,none⟩) (u:=.int .i64 nv) hrow1 (by simpa using hgab)
      replace hrow2:=zaa (p:=⟨ab,ao+fn,none⟩) (u:=.int .i64 nv) hrow2 (by simpa using hgab)
      replace s0:=zaa (p:=⟨ab,ao+fn,none⟩) (u:=.int .i64 nv) s0 (by simpa using hbx)
      replace s2:=zaa (p:=⟨ab,ao+fn,none⟩) (u:=.int .i64 nv) s2 (by simpa using hbx)
      replace y0:=zaa (p:=⟨ab,ao+fn,none⟩) (u:=.int .i64 nv) y0 (by simpa using hvab)
      replace vq:=zaa (p:=⟨ab,ao+fn,none⟩) (u:=.int .i64 nv) vq (by simpa using hrab)
      replace bq:=zaa (p:=⟨ab,ao+fn,none⟩) (u:=.int .i64 nv) bq (by simpa using hne)
      have hT9:=hT.set (y:=nv) (by omega) hkw (k:=fn) HTL.out HSET.out
      have hB9:=hB.setCell (p:=⟨ab,ao+fn,none⟩) (by show w.heap.size+2<=ab; omega) (.int .i64 nv)
      have hl9:w.heap.size+2<(World.setCell w53 ⟨ab,ao+fn,none⟩ (.int .i64 nv)).heap.size:=by simp; exact hl
      refine bkq hK ⟨hrow1,hrow2,s0,s2,y0,vq,bq⟩ (h:=fun hHeld=>?_)
      clear hK K
      refine wpAnyH_done (by kernel_rfl) ?_ _
      clear hHeld
      have hN:=hid (hT9.congr (x':=T.bwX y k (j+1)) (fun v _=>rfl) (fun u _ v _=>HPUT.out u v))
      have HB9:=hid hB9
      clear hT9 hT hB9 hB aq
      go_wp2
      go_roundg (gk - 1)
      case measure=>omega
      case rel=>exact ⟨j+1,by go_num,by omega,by omega,hN.out,HB9.out,hl9⟩
    ·have hltj':¬ (j:Int)<(T.el k:Int):=by omega
     have hje:j=T.el k:=by omega
     rw [hje] at hT
     have hT1:=hid (hT.congr (x':=fun u v=>if k<=u then T.bw y (T.n - u) v else 4611686018427387904) (fun v _=>rfl) (fun u _ v _=>Trel.bwX_next hlt u v))
     have HB:=hid hB
     clear hT hB hje
     go_wp2
     go_roundg (gK - 1)
     case measure=>omega
     case rel=>exact ⟨k,by go_num,by omega,by omega,hT1.out,HB.out,hl⟩
  ·obtain rfl:i=0:=by omega
   have eiv:(((0:Nat):Int) - 1) = -1:=by omega
   rw [eiv]
   have hTf:=hid (hT.congr (x':=fun u v=>T.bw y (T.n - u) v) (fun v _=>rfl) (fun u hu v _=>if_pos (Nat.zero_le _)))
   clear hT eiv
   go_wp2
   go_ret2
   exact ⟨g,F,rfl,by omega,hTf.out,hW⟩
def Trel.yOf (T:Trel) (C:Nat->Nat->Int) (i j:Nat):Int:=C i (T.lb i j).toNat
def Trel.Fit (T:Trel) (ln:Nat->Nat):Prop:=∀ i,i<T.n->∀ j,j<T.el i->0<=T.lb i j/\T.lb i j<(ln i:Nat)
theorem yan (CA:Option Addr) (M cc cb i a:Nat) (ln:Nat->Nat) (C:Nat->Nat->Int) (w:World) (h:IntRows w CA M ln C) (hc:w.cell? ⟨cb,0,none⟩=some (.slice CA M cc)) (hi:i<M) (ha:a<ln i) :
  Calls Tryz.prog 122 #[.int .i64 (i:Nat),.int .i64 (a:Nat),.pointer (some ⟨cb,0,none⟩)] w fun e w'=>e=.returned (.int .i64 (C i a))/\Below w.heap.size w w':=by
 obtain ⟨b,o,R,rc,rfl,hb,x0,h1,h2,h3,h4⟩:=h i hi
 obtain ⟨rb,ro,rfl,hrb,x1⟩:=h3.at ha
 obtain ⟨n1,hn1⟩:∃ n,n=ln i:=⟨_,rfl⟩
 obtain ⟨v,hv⟩:∃ v,v=C i a:=⟨_,rfl⟩
 rw [<-hn1] at x0 ha;rw [<-hv] at x1
 have HV:=hid hv
 have hi0:(0:Int)<=(i:Int):=by omega
 have ha0:(0:Int)<=(a:Int):=by omega
 have hi1:(i:Int)<(M:Int):=by omega
 have ha1:(a:Int)<(n1:Int):=by omega
 clear h h3 h4 hv hn1 h1
 go_enter Tryz.func122, Tryz.ntmps122
 go_wp2
 go_ret
 exact ⟨by rw [<-HV.out]; rfl,Below.refl _ _⟩
def SecPost (T:Trel) (x:Nat->Nat->Int) (w:World) (e:Ending) (w':World):Prop :=
 ∃ g F,e=.returned (.slice (some ⟨g,0,none⟩) T.n T.n)/\w.heap.size<=g/\IntTab w' g (g+1) T.n F T.el x/\Below w.heap.size w w'
theorem ya9 (T:Trel) (A B CA:Option Addr) (c d M cc cb:Nat) (ln:Nat->Nat) (C:Nat->Nat->Int) (w:World) (h:T.Reads w A B) (hs:T.Shape) (hC:IntRows w CA M ln C) (hM:M=T.n) (hF:T.Fit ln) (hcb:w.cell? ⟨cb,0,none⟩=some (.slice CA M cc)) :
  Calls Tryz.prog 116 #[.agg #[.slice A T.nw c,.slice B T.n d],.func (.func 122) #[] #[.pointer (some ⟨cb,0,none⟩)]] w (SecPost T (T.yOf C) w):=by
 have hcf:∀ (x y p:Value) (W:World),(callFunc 122 #[x,y,p]).run Tryz.prog W=.ok (.enter 122 #[x,y,p]) W:=fun _ _ _ _=>by kernel_rfl
 obtain ⟨RB,hRB⟩:∃ o,o=(Obj.cells #[.slice A T.nw c,.slice B T.n d] 53):=⟨_,rfl⟩
 have hB0:Below (w.heap.size+1) (w.alloc RB) (w.alloc RB):=Below.refl _ _
 have HS:Hid (∀ w',Below (w.heap.size+1) (w.alloc RB) w'->(w'.cell? ⟨w.heap.size,0,none⟩=some (.slice A T.nw c)/\w'.cell? ⟨w.heap.size,1,none⟩=some (.slice B T.n d))/\Below w.heap.size w w'):=fun w' hB=>by
  have hB':=zaO hB
  subst hRB
  exact ⟨⟨tbox hB rfl,tbox hB rfl⟩,hB'⟩
 obtain ⟨⟨p0,p1⟩,hW⟩:=HS.out _ hB0
 have hn64:=hs.n64
 have hmk:=fun W=>zah (P:=Tryz.prog) 25 22 _ 24 Tryz.underlying25 Tryz.infoInts rfl (T.n:Int) (by omega) (by omega) (by omega) W
 simp only [Int.toNat_natCast] at hmk
 have HR:=hid h
 have HSH:=hid hs
 have HC:=hid hC
 have HF:=hid hF
 have HM:=hid hM
 have HCB:=hid hcb
 clear h hs hC hF hM hcb
 have hl0:w.heap.size<(w.alloc RB).heap.size:=by simp
 go_enter Tryz.func116, Tryz.ntmps116
 go_wp2_with fail
 rw [<-hRB]
 go_upto_region 2 with fail
 obtain ⟨W2,hW2⟩:∃ W,W=w.alloc RB:=⟨_,rfl⟩
 have hsz2:W2.heap.size=w.heap.size+1:=by rw [hW2]; simp
 have HS2:Hid (∀ w',Below (w.heap.size+1) W2 w'->(w'.cell? ⟨w.heap.size,0,none⟩=some (.slice A T.nw c)/\w'.cell? ⟨w.heap.size,1,none⟩=some (.slice B T.n d))/\Below w.heap.size w w'):=by rw [hW2]; exact HS
 rw [<-hW2] at hB0 ⊢
 obtain ⟨g,hg⟩:∃ g,g=w.heap.size+1:=⟨_,rfl⟩
 have hgz:g=W2.heap.size:=by omega
 have hr3:=World.rowIs_made W2 (.slice none 0 0) T.n 22
 have hB3:=zaZ hB0 (Nat.le_of_eq hsz2.symm) ((Below.refl W2.heap.size W2).alloc (Nat.le_refl _) (Obj.cells (madeCells #[Value.slice none 0 0] T.n) 22))
 have hl3:w.heap.size+1<(W2.alloc (Obj.cells (madeCells #[Value.slice none 0 0] T.n) 22)).heap.size:=by simp; omega
 obtain ⟨W3,hW3⟩:∃ W,W=W2.alloc (Obj.cells (madeCells #[Value.slice none 0 0] T.n) 22):=⟨_,rfl⟩
 rw [<-hgz] at hr3;rw [<-hW3] at hr3 hB3 hl3 ⊢;rw [<-hg]
 have hT3:IntTab W3 g (g+1) T.n (fun _=>.slice none 0 0) (fun v=>if v<0 then T.el v else 0) (T.yOf C):=(zet hr3).congr (fun v _=>(if_neg (by omega)).symm) (fun v _ k hk=>rfl)
 have hg2:w.heap.size+1<=g:=by omega
 clear hW3 hgz hg hr3 hW2 HS hB0 hmk hRB hsz2 hl0 p0 p1 hW
 obtain ⟨⟨p0,p1⟩,hW⟩:=HS2.out _ hB3
 go_wp2
 go_loopg [17] T.n (fun gg iv wx=>∃ (k:Nat) (F:Nat->Value),iv=.int .i64 (k:Nat)/\k<=T.n/\T.n<=k+gg/\IntTab wx g (g+1) T.n F (fun v=>if v<k then T.el v else 0) (T.yOf C)/\Below (w.heap.size+1) W2 wx/\w.heap.size+1<wx.heap.size)
 case atStart=>exact ⟨0,_,rfl,by omega,by omega,hT3,hB3,hl3⟩
 case round =>
  clear hW p0 p1 hT3 hB3 hl3
  obtain ⟨gK,hgK⟩:∃ g,g=gk:=⟨_,rfl⟩
  subst hgK
  obtain ⟨k,F,rfl,hk,hkg,hT,hB,hl⟩:=hrel
  obtain ⟨wk,hwk⟩:∃ W,W=wr:=⟨_,rfl⟩
  subst hwk
  have hk0:(0:Int)<=(k:Int):=by omega
  obtain ⟨⟨p0,p1⟩,hW⟩:=HS2.out _ hB
  by_cases hlt:k<T.n
  ·have hlt':(k:Int)<(T.n:Int):=by omega
   obtain ⟨eb,eo,E,ec,rfl,heb,x0w,he1,he2,he3,he4⟩:=HR.out.sec hlt
   have x0:=cellS hW x0w
   have hel:=HSH.out.elb hlt
   obtain ⟨n1,hn1⟩:∃ n:Nat,n=T.el k:=⟨_,rfl⟩
   rw [<-hn1] at x0 hel
   have HN1:=hid hn1
   have HE3:=hid he3
   have hT0:IntTab wk g (g+1) T.n F (fun v=>if v<k then T.el v else if v=k then 0 else 0) (T.yOf C):=hT.congr (fun v _=>by split <;> simp) (fun v _ q hq=>rfl)
   clear hT hn1 he3 he4 x0w he1 he2
   go_wp2
   go_loopg [24] n1 (fun gg jv wx=>∃ (j:Nat) (F:Nat->Value),jv=.int .i64 (j:Nat)/\j<=n1/\n1<=j+gg/\IntTab wx g (g+1) T.n F (fun v=>if v<k then T.el v else if v=k then j else 0) (T.yOf C)/\Below (w.heap.size+1) W2 wx/\w.heap.size+1<wx.heap.size)
   case atStart=>exact ⟨0,F,rfl,by omega,by omega,hT0,hB,hl⟩
   case round =>
    clear hW p0 p1 hT0 hB hl x0
    obtain ⟨j,F2,rfl,hj,hjg,hT,hB,hl⟩:=hrel
    have hj0:(0:Int)<=(j:Int):=by omega
    have hW:=(HS2.out _ hB).2
    by_cases hltj:j<n1
    ·have hltj':(j:Int)<(n1:Int):=by omega
     obtain ⟨fb,fo,rfl,hfb,e0,e1,e2⟩:=zc1 ((Rd.below HE3.out hW (Nat.le_refl _)).mono hW.size) (show j<T.el k by rw [<-HN1.out]; exact hltj)
     have hfit:=HF.out k hlt j (by rw [<-HN1.out]; exact hltj)
     obtain ⟨la,hla⟩:∃ n:Nat,(n:Int)=T.lb k j:=⟨(T.lb k j).toNat,by omega⟩
     have hY:Hid (C k la=T.yOf C k j):=by show C k la=C k (T.lb k j).toNat; rw [<-hla]; rfl
     have hlal:la<ln k:=by omega
     rw [<-hla] at e1
     obtain ⟨fv,hfv⟩:∃ z,z=T.fr k j:=⟨_,rfl⟩
     obtain ⟨tv,htv⟩:∃ z,z=T.to k j:=⟨_,rfl⟩
     rw [<-hfv] at e0;rw [<-htv] at e2
     obtain ⟨fk,hfk⟩:∃ v,v=F2 k:=⟨_,rfl⟩
     have q0:wr.cell? ⟨g,k,none⟩=some fk:=by rw [hfk]; exact hT.row.cell hlt
     have HFK:=hid hfk
     have hCr:=HC.out.on hW
     have hcb:=cellS hW HCB.out
     have hkM:k<M:=by rw [HM.out]; exact hlt
     clear hfk hfv htv hla hfit hW
     go_upto_region 8 with fail
     obtain ⟨OB,hOB⟩:∃ o,o=(Obj.cells #[.int .i64 fv,.int .i64 (la:Int),.int .i64 tv] 90):=⟨_,rfl⟩
     have s1:(wr.alloc OB).cell? ⟨wr.heap.size,1,none⟩=some (.int .i64 (la:Int)):=by subst hOB; exact tbox (Below.refl _ _) rfl
     have kb:Below wr.heap.size wr (wr.alloc OB):=(Below.refl _ _).alloc (Nat.le_refl _) _
     rw [<-hOB]
     obtain ⟨w50,hw50⟩:∃ W,W=wr.alloc OB:=⟨_,rfl⟩
     rw [<-hw50] at s1 kb ⊢
     have hbxl:∀ q,fk.ownBlock=some q->q<wr.heap.size:=fun q e=>by
      have:=(hT.own k hlt).lt q (by rw [<-HFK.out]; exact e)
      exact this.2
     have hxg:wr.heap.size≠g:=by have:=hT.row.lt; omega
     replace hT:=hT.on kb;replace hB:=zaZ hB (Nat.le_of_lt hl) kb;replace hl:=Nat.lt_of_lt_of_le hl kb.size;replace q0:=cellS kb q0;replace hCr:=hCr.on kb;replace hcb:=cellS kb hcb
     obtain ⟨bx,hbx2⟩:∃ b,b=wr.heap.size:=⟨_,rfl⟩
     rw [<-hbx2] at s1 hxg hbxl ⊢
     have HBXL:=hid hbxl
     clear hw50 hOB kb e0 e1 e2 hbx2 hbxl
     refine wp_region_held_drew (S:=fun w'=>w'.cell? ⟨bx,1,none⟩=some (.int .i64 (la:Int))) (by kernel_rfl) (cellS (Below.refl _ _).drew s1) (fun hHeld=>?_)
     obtain ⟨w51,hw⟩:∃ W,W=World.drew w50:=⟨_,rfl⟩
     have kb:Below w50.heap.size w50 w51:=by rw [hw]; exact (Below.refl _ _).drew
     rw [<-hw] at hHeld ⊢;clear hw;replace hB:=zaZ hB (Nat.le_of_lt hl) kb;replace hl:=Nat.lt_of_lt_of_le hl kb.size;replace hT:=hT.on kb;replace q0:=cellS kb q0;replace s1:=cellS kb s1;replace hCr:=hCr.on kb;replace hcb:=cellS kb hcb;clear kb
     refine tkq 0 (h:=tkq 1 (h:=tkq 2 (h:=tkq 3 (h:=tkq 4 (h:=tkq 6 (h:=tkq 7 (h:=tkq 8 (h:=tkq 9 (h:=?_)))))))))
     refine rdq2 5 10 (h:=fun K hK=>?_) (h2:=fun K hK=>?_)
     ·go_simp
      refine bkq hK s1 (h:=fun hHeld=>?_)
      clear hK K
      refine rdq 10 (h:=fun K hK=>?_)
      go_simp
      go_wp2_with fail
      refine (yan CA M cc cb k la ln C w51 hCr hcb hkM hlal).mono ?_
      rintro e w52 ⟨rfl,kb⟩
      replace hB:=zaZ hB (Nat.le_of_lt hl) kb;replace hl:=Nat.lt_of_lt_of_le hl kb.size;replace hT:=hT.on kb;replace q0:=cellS kb q0;replace s1:=cellS kb s1;replace hCr:=hCr.on kb;replace hcb:=cellS kb hcb;clear kb;rw [hY.out]
      obtain ⟨yv,hyv⟩:∃ z,z=T.yOf C k j:=⟨_,rfl⟩
      rw [<-hyv]
      have HYV:=hid hyv
      clear hyv
      refine bkq hK s1 (h:=fun hHeld=>?_)
      clear hK K
      refine rdq 11 (h:=fun K hK=>?_)
      go_simp
      obtain ⟨w53,hw⟩:∃ W,W=World.alloc w52 (Obj.cells #[Value.int .i64 yv] 3):=⟨_,rfl⟩
      have kb:Below w52.heap.size w52 w53:=by rw [hw]; exact (Below.refl _ _).alloc (Nat.le_refl _) _
      have n1c:w53.cell? ⟨w52.heap.size,0,none⟩=some (Value.int .i64 yv):=by rw [hw]; simp
      rw [<-hw];clear hw
      obtain ⟨nb_n1c,hnb⟩:∃ b,b=w52.heap.size:=⟨_,rfl⟩
      rw [<-hnb] at n1c ⊢;clear hnb;replace hB:=zaZ hB (Nat.le_of_lt hl) kb;replace hl:=Nat.lt_of_lt_of_le hl kb.size;replace hT:=hT.on kb;replace q0:=cellS kb q0;replace s1:=cellS kb s1;replace hCr:=hCr.on kb;replace hcb:=cellS kb hcb;clear kb
      refine bkq hK s1 (h:=fun hHeld=>?_)
      clear hK K
      refine rdq 12 (h:=fun K hK=>?_)
      have hOwn:Own w53 (g+1) 3 1 fk j (fun i _=>.int .i64 (T.yOf C k i)):=by
       have:=hT.own k hlt
       rw [if_neg (Nat.lt_irrefl k),if_pos rfl,<-HFK.out] at this
       exact this
      have hgl:g+1<=w53.heap.size:=hT.row.lt
      rw [HYV.out] at n1c
      refine yaa (by rfl) (.tmp 33) (.tmp 39) (by rfl) (g+1) fk j (fun i=>T.yOf C k i) (by rfl) hOwn hgl (by omega) nb_n1c 1 (by rfl) n1c ?_
      intro v9 w9 o1 o2 o3
      obtain ⟨A9,c9,hv9⟩:=o1.shape
      subst hv9
      have hfo:∀ q,fk.ownBlock=some q->g+1<=q:=fun q e=>(hOwn.lt q e).1
      have q9:w9.cell? ⟨g,k,none⟩=some fk:=zac q0 o2 fun e=>by have:=hfo g e; omega
      have z9:w9.frozen? ⟨g,k,none⟩=false:=by
       have:=(hT.row.of_block (o2.block g hT.row.lt fun e=>by have:=hfo g e.symm; omega)).frozen k
       exact this
      have hB9:Below (w.heap.size+1) W2 w9:=hB.grown o2 (Nat.le_of_lt hl) fun q e=>by have:=hfo q e; omega
      have hl9:w.heap.size+1<w9.heap.size:=Nat.lt_of_lt_of_le hl o2.size
      have s1:=zac s1 o2 fun e=>absurd (HBXL.out _ e) (Nat.lt_irrefl _)
      have hPut:=hid (hT.put (by omega) hlt o1 (by rw [<-HFK.out]; exact o2) (by rw [<-HFK.out]; exact o3))
      refine bkq hK s1 (h:=fun hHeld=>?_)
      clear hK K
      refine tkq 13 (h:=?_)
      refine rdq 14 (h:=fun K hK=>?_)
      go_simp
      replace s1:=zaa (p:=⟨g,k,none⟩) (u:=.slice A9 (j+1) c9) s1 hxg
      refine bkq hK s1 (h:=fun hHeld=>?_)
      clear hK K
      refine wpAnyH_done (by kernel_rfl) ?_ _
      clear hHeld
      have hN:=hPut.out.congr (n':=fun v=>if v<k then T.el v else if v=k then j+1 else 0) (x':=T.yOf C) (fun v _=>by
        by_cases e:v=k
        ·subst e; simp
        ·simp [e]) (fun v _ q hq=>by
        by_cases e:v=k
        ·rw [if_pos e,e]
        ·rw [if_neg e])
      have HN:=hid hN
      have hBf:=hB9.setCell (p:=⟨g,k,none⟩) hg2 (.slice A9 (j+1) c9)
      have hlf:w.heap.size+1<(w9.setCell ⟨g,k,none⟩ (.slice A9 (j+1) c9)).heap.size:=by simp; exact hl9
      clear hPut hN q9 z9 hB9
      go_wp2
      go_roundg (gk - 1)
      case measure=>omega
      case rel=>exact ⟨j+1,_,by go_num,by omega,by omega,HN.out,hBf,hlf⟩
     ·go_simp
      go_wp2_with fail
      refine (yan CA M cc cb k la ln C w51 hCr hcb hkM hlal).mono ?_
      rintro e w52 ⟨rfl,kb⟩
      replace hB:=zaZ hB (Nat.le_of_lt hl) kb;replace hl:=Nat.lt_of_lt_of_le hl kb.size;replace hT:=hT.on kb;replace q0:=cellS kb q0;replace s1:=cellS kb s1;replace hCr:=hCr.on kb;replace hcb:=cellS kb hcb;clear kb;rw [hY.out]
      obtain ⟨yv,hyv⟩:∃ z,z=T.yOf C k j:=⟨_,rfl⟩
      rw [<-hyv]
      have HYV:=hid hyv
      clear hyv
      refine bkq hK s1 (h:=fun hHeld=>?_)
      clear hK K
      refine rdq2 5 11 (h:=fun K hK=>?_) (h2:=fun K hK=>?_)
      ·go_simp
       refine bkq hK s1 (h:=fun hHeld=>?_)
       clear hK K
       refine rdq 11 (h:=fun K hK=>?_)
       go_simp
       obtain ⟨w53,hw⟩:∃ W,W=World.alloc w52 (Obj.cells #[Value.int .i64 yv] 3):=⟨_,rfl⟩
       have kb:Below w52.heap.size w52 w53:=by rw [hw]; exact (Below.refl _ _).alloc (Nat.le_refl _) _
       have n1c:w53.cell? ⟨w52.heap.size,0,none⟩=some (Value.int .i64 yv):=by rw [hw]; simp
       rw [<-hw];clear hw
       obtain ⟨nb_n1c,hnb⟩:∃ b,b=w52.heap.size:=⟨_,rfl⟩
       rw [<-hnb] at n1c ⊢;clear hnb;replace hB:=zaZ hB (Nat.le_of_lt hl) kb;replace hl:=Nat.lt_of_lt_of_le hl kb.size;replace hT:=hT.on kb;replace q0:=cellS kb q0;replace s1:=cellS kb s1;replace hCr:=hCr.on kb;replace hcb:=cellS kb hcb;clear kb
       refine bkq hK s1 (h:=fun hHeld=>?_)
       clear hK K
       refine rdq 12 (h:=fun K hK=>?_)
       have hOwn:Own w53 (g+1) 3 1 fk j (fun i _=>.int .i64 (T.yOf C k i)):=by
        have:=hT.own k hlt
        rw [if_neg (Nat.lt_irrefl k),if_pos rfl,<-HFK.out] at this
        exact this
       have hgl:g+1<=w53.heap.size:=hT.row.lt
       rw [HYV.out] at n1c
       refine yaa (by rfl) (.tmp 33) (.tmp 39) (by rfl) (g+1) fk j (fun i=>T.yOf C k i) (by rfl) hOwn hgl (by omega) nb_n1c 1 (by rfl) n1c ?_
       intro v9 w9 o1 o2 o3
       obtain ⟨A9,c9,hv9⟩:=o1.shape
       subst hv9
       have hfo:∀ q,fk.ownBlock=some q->g+1<=q:=fun q e=>(hOwn.lt q e).1
       have q9:w9.cell? ⟨g,k,none⟩=some fk:=zac q0 o2 fun e=>by have:=hfo g e; omega
       have z9:w9.frozen? ⟨g,k,none⟩=false:=by
        have:=(hT.row.of_block (o2.block g hT.row.lt fun e=>by have:=hfo g e.symm; omega)).frozen k
        exact this
       have hB9:Below (w.heap.size+1) W2 w9:=hB.grown o2 (Nat.le_of_lt hl) fun q e=>by have:=hfo q e; omega
       have hl9:w.heap.size+1<w9.heap.size:=Nat.lt_of_lt_of_le hl o2.size
       have s1:=zac s1 o2 fun e=>absurd (HBXL.out _ e) (Nat.lt_irrefl _)
       have hPut:=hid (hT.put (by omega) hlt o1 (by rw [<-HFK.out]; exact o2) (by rw [<-HFK.out]; exact o3))
       refine bkq hK s1 (h:=fun hHeld=>?_)
       clear hK K
       refine tkq 13 (h:=?_)
       refine rdq 14 (h:=fun K hK=>?_)
       go_simp
       replace s1:=zaa (p:=⟨g,k,none⟩) (u:=.slice A9 (j+1) c9) s1 hxg
       refine bkq hK s1 (h:=fun hHeld=>?_)
       clear hK K
       refine wpAnyH_done (by kernel_rfl) ?_ _
       clear hHeld
       have hN:=hPut.out.congr (n':=fun v=>if v<k then T.el v else if v=k then j+1 else 0) (x':=T.yOf C) (fun v _=>by
         by_cases e:v=k
         ·subst e; simp
         ·simp [e]) (fun v _ q hq=>by
         by_cases e:v=k
         ·rw [if_pos e,e]
         ·rw [if_neg e])
       have HN:=hid hN
       have hBf:=hB9.setCell (p:=⟨g,k,none⟩) hg2 (.slice A9 (j+1) c9)
       have hlf:w.heap.size+1<(w9.setCell ⟨g,k,none⟩ (.slice A9 (j+1) c9)).heap.size:=by simp; exact hl9
       clear hPut hN q9 z9 hB9
       go_wp2
       go_roundg (gk - 1)
       case measure=>omega
       case rel=>exact ⟨j+1,_,by go_num,by omega,by omega,HN.out,hBf,hlf⟩
      ·go_simp
       obtain ⟨w53,hw⟩:∃ W,W=World.alloc w52 (Obj.cells #[Value.int .i64 yv] 3):=⟨_,rfl⟩
       have kb:Below w52.heap.size w52 w53:=by rw [hw]; exact (Below.refl _ _).alloc (Nat.le_refl _) _
       have n1c:w53.cell? ⟨w52.heap.size,0,none⟩=some (Value.int .i64 yv):=by rw [hw]; simp
       rw [<-hw];clear hw
       obtain ⟨nb_n1c,hnb⟩:∃ b,b=w52.heap.size:=⟨_,rfl⟩
       rw [<-hnb] at n1c ⊢;clear hnb;replace hB:=zaZ hB (Nat.le_of_lt hl) kb;replace hl:=Nat.lt_of_lt_of_le hl kb.size;replace hT:=hT.on kb;replace q0:=cellS kb q0;replace s1:=cellS kb s1;replace hCr:=hCr.on kb;replace hcb:=cellS kb hcb;clear kb
       refine bkq hK s1 (h:=fun hHeld=>?_)
       clear hK K
       refine rdq 5 (h:=fun K hK=>?_)
       go_simp
       refine bkq hK s1 (h:=fun hHeld=>?_)
       clear hK K
       refine rdq 12 (h:=fun K hK=>?_)
       have hOwn:Own w53 (g+1) 3 1 fk j (fun i _=>.int .i64 (T.yOf C k i)):=by
        have:=hT.own k hlt
        rw [if_neg (Nat.lt_irrefl k),if_pos rfl,<-HFK.out] at this
        exact this
       have hgl:g+1<=w53.heap.size:=hT.row.lt
       rw [HYV.out] at n1c
       refine yaa (by rfl) (.tmp 33) (.tmp 39) (by rfl) (g+1) fk j (fun i=>T.yOf C k i) (by rfl) hOwn hgl (by omega) nb_n1c 1 (by rfl) n1c ?_
       intro v9 w9 o1 o2 o3
       obtain ⟨A9,c9,hv9⟩:=o1.shape
       subst hv9
       have hfo:∀ q,fk.ownBlock=some q->g+1<=q:=fun q e=>(hOwn.lt q e).1
       have q9:w9.cell? ⟨g,k,none⟩=some fk:=zac q0 o2 fun e=>by have:=hfo g e; omega
       have z9:w9.frozen? ⟨g,k,none⟩=false:=by
        have:=(hT.row.of_block (o2.block g hT.row.lt fun e=>by have:=hfo g e.symm; omega)).frozen k
        exact this
       have hB9:Below (w.heap.size+1) W2 w9:=hB.grown o2 (Nat.le_of_lt hl) fun q e=>by have:=hfo q e; omega
       have hl9:w.heap.size+1<w9.heap.size:=Nat.lt_of_lt_of_le hl o2.size
       have s1:=zac s1 o2 fun e=>absurd (HBXL.out _ e) (Nat.lt_irrefl _)
       have hPut:=hid (hT.put (by omega) hlt o1 (by rw [<-HFK.out]; exact o2) (by rw [<-HFK.out]; exact o3))
       refine bkq hK s1 (h:=fun hHeld=>?_)
       clear hK K
       refine tkq 13 (h:=?_)
       refine rdq 14 (h:=fun K hK=>?_)
       go_simp
       replace s1:=zaa (p:=⟨g,k,none⟩) (u:=.slice A9 (j+1) c9) s1 hxg
       refine bkq hK s1 (h:=fun hHeld=>?_)
       clear hK K
       refine wpAnyH_done (by kernel_rfl) ?_ _
       clear hHeld
       have hN:=hPut.out.congr (n':=fun v=>if v<k then T.el v else if v=k then j+1 else 0) (x':=T.yOf C) (fun v _=>by
         by_cases e:v=k
         ·subst e; simp
         ·simp [e]) (fun v _ q hq=>by
         by_cases e:v=k
         ·rw [if_pos e,e]
         ·rw [if_neg e])
       have HN:=hid hN
       have hBf:=hB9.setCell (p:=⟨g,k,none⟩) hg2 (.slice A9 (j+1) c9)
       have hlf:w.heap.size+1<(w9.setCell ⟨g,k,none⟩ (.slice A9 (j+1) c9)).heap.size:=by simp; exact hl9
       clear hPut hN q9 z9 hB9
       go_wp2
       go_roundg (gk - 1)
       case measure=>omega
       case rel=>exact ⟨j+1,_,by go_num,by omega,by omega,HN.out,hBf,hlf⟩
    ·have hltj':¬ (j:Int)<(n1:Int):=by omega
     have hje:j=n1:=by omega
     have hT1:Hid (IntTab wr g (g+1) T.n F2 (fun v=>if v<k+1 then T.el v else 0) (T.yOf C)):=hT.congr (fun v _=>by
      by_cases e:v<k
      ·rw [if_pos e,if_pos (by omega)]
      ·rw [if_neg e]
       by_cases e2:v=k
       ·subst e2
        rw [if_pos rfl,if_pos (by omega),hje]
        exact HN1.out
       ·rw [if_neg e2,if_neg (by omega)]) (fun v _ q hq=>rfl)
     have HB:=hid hB
     clear hT hB hje hW
     go_wp2
     go_roundg (gK - 1)
     case measure=>omega
     case rel=>exact ⟨k+1,F2,by go_num,by omega,by omega,hT1.out,HB.out,hl⟩
  ·have hlt':¬ (k:Int)<(T.n:Int):=by omega
   have hTf:Hid (IntTab wk g (g+1) T.n F T.el (T.yOf C)):=hT.congr (fun v hv=>if_pos (by omega)) (fun v _ q hq=>rfl)
   clear hT
   go_wp2
   go_ret
   exact ⟨g,F,rfl,by omega,hTf.out,hW⟩
section
variable {T:Trel} {y:Nat->Nat->Int}
theorem Trel.bwE_le {next:Nat->Int} {i:Nat} {v:Nat}:∀ j q,q<j->(T.fr i q).toNat=v->T.bwE y next i j v<=capI (y i q) (next (T.to i q).toNat):=by
 intro j
 induction j with
 | zero=>intro q hq; omega
 | succ j ih =>
  intro q hq hf
  show (if (T.fr i j).toNat=v then _ else _)<=_
  by_cases e:q=j
  ·subst e
   rw [if_pos hf]
   exact Int.min_le_right _ _
  ·have:=ih q (by omega) hf
   split
   ·exact Int.le_trans (Int.min_le_left _ _) this
   ·exact this
theorem Trel.bwE_att {next:Nat->Int} {i:Nat} {v:Nat}:∀ j,T.bwE y next i j v=4611686018427387904∨∃ q,q<j/\(T.fr i q).toNat=v/\T.bwE y next i j v=capI (y i q) (next (T.to i q).toNat):=by
 intro j
 induction j with
 | zero=>exact .inl rfl
 | succ j ih =>
  have e:T.bwE y next i (j+1) v=if (T.fr i j).toNat=v then min (T.bwE y next i j v) (capI (y i j) (next (T.to i j).toNat)) else T.bwE y next i j v:=rfl
  rw [e]
  by_cases h:(T.fr i j).toNat=v
  ·rw [if_pos h]
   by_cases h2:T.bwE y next i j v<=capI (y i j) (next (T.to i j).toNat)
   ·rw [Int.min_eq_left h2]
    rcases ih with h3 | ⟨q,h3,h4,h5⟩
    ·exact .inl h3
    ·exact .inr ⟨q,by omega,h4,h5⟩
   ·rw [Int.min_eq_right (by omega)]
    exact .inr ⟨j,by omega,h,rfl⟩
  ·rw [if_neg h]
   rcases ih with h3 | ⟨q,h3,h4,h5⟩
   ·exact .inl h3
   ·exact .inr ⟨q,by omega,h4,h5⟩
theorem Trel.bw_step (T:Trel) (y:Nat->Nat->Int) {i:Nat} (hi:i<T.n) (v:Nat):T.bw y (T.n - i) v=T.bwE y (T.bw y (T.n - (i+1))) i (T.el i) v:=by
 have e:T.n - i=(T.n - (i+1))+1:=by omega
 rw [e]
 show T.bwE y (T.bw y (T.n - (i+1))) (T.n - (T.n - (i+1)+1)) (T.el (T.n - (T.n - (i+1)+1))) v=_
 rw [show T.n - (T.n - (i+1)+1)=i by omega]
theorem Trel.bw_le (hP:T.Proper) (hy:Costs T y):∀ r,r<=T.n->∀ v:Nat,(v:Int)<T.W (T.n - r)->T.bw y r v<=(r:Int)*2147483648:=by
 intro r
 induction r with
 | zero =>
  intro _ v hv
  have:=hP.wn
  rw [Nat.sub_zero] at hv
  obtain rfl:v=0:=by omega
  show (if 0=0 then (0:Int) else _)<=_
  rw [if_pos rfl]
  omega
 | succ r ih =>
  intro hr v hv
  obtain ⟨j,hj⟩:=Trel.outs_pos hP (i:=T.n - (r+1)) (by omega) (by omega) hv
  obtain ⟨hj1,hj2⟩:=Trel.outs_mem.1 hj
  have h2:=hP.shape.ins (T.n - (r+1)) (by omega) j hj1
  unfold Trel.inside at h2
  have e:T.n - (r+1)+1=T.n - r:=by omega
  rw [e] at h2
  have h3:=ih (by omega) (T.to (T.n - (r+1)) j).toNat (by omega)
  have h4:=Trel.bwE_le (T:=T) (y:=y) (next:=T.bw y r) (i:=T.n - (r+1)) (v:=v) _ j hj1 (by omega)
  have h5:=hy (T.n - (r+1)) (by omega) j hj1
  have h6:=hP.shape.n64
  have h7:capI (y (T.n - (r+1)) j) (T.bw y r (T.to (T.n - (r+1)) j).toNat)=y (T.n - (r+1)) j+T.bw y r (T.to (T.n - (r+1)) j).toNat:=yaS (by omega)
  show T.bwE y (T.bw y r) (T.n - (r+1)) (T.el (T.n - (r+1))) v<=_
  rw [h7] at h4
  have h8:((r+1:Nat):Int)*2147483648=(r:Int)*2147483648+2147483648:=by omega
  omega
def Trel.lp (T:Trel) (y:Nat->Nat->Int) (i v j:Nat):Bool:=(T.fr i j == (v:Int)) && (y i j+T.bw y (T.n - (i+1)) (T.to i j).toNat == T.bw y (T.n - i) v)
theorem Trel.lp_ex (hP:T.Proper) (hy:Costs T y) {i v:Nat} (hi:i<T.n) (hv:(v:Int)<T.W i):∃ j,j<T.el i/\T.lp y i v j=true:=by
 have h1:=Trel.bw_le hP hy (T.n - i) (by omega) v (by rw [show T.n - (T.n - i)=i by omega]; exact hv)
 have h2:=hP.shape.n64
 rw [Trel.bw_step T y hi] at h1
 rcases Trel.bwE_att (T:=T) (y:=y) (next:=T.bw y (T.n - (i+1))) (i:=i) (v:=v) (T.el i) with h3 | ⟨q,h3,h4,h5⟩
 ·omega
 ·refine ⟨q,h3,?_⟩
  have h6:=hP.shape.ins i hi q h3
  unfold Trel.inside at h6
  unfold Trel.lp
  rw [Trel.bw_step T y hi,h5,Bool.and_eq_true,beq_iff_eq,beq_iff_eq];rw [h5] at h1
  unfold capI at h1 ⊢
  refine ⟨by omega,?_⟩
  split
  ·rename_i h7
   rw [if_pos h7] at h1
   omega
  ·rfl
def firstOf (p:Nat->Bool) (m:Nat):Nat:=((List.range m).find? p).getD m
theorem yaU {p:Nat->Bool} {m j:Nat} (hj:j<m) (hp:p j=true) (hn:∀ q,q<j->p q=false):firstOf p m=j:=by
 unfold firstOf
 have:(List.range m).find? p=some j:=by
  rw [List.find?_range_eq_some]
  exact ⟨hp,List.mem_range.2 hj,fun q hq=>by rw [hn q hq]; rfl⟩
 rw [this]
 rfl
def Trel.nd (T:Trel) (y:Nat->Nat->Int):Nat->Nat
 | 0=>0
 | i+1=>(T.to i (firstOf (T.lp y i (T.nd y i)) (T.el i))).toNat
def Trel.wd (T:Trel) (y:Nat->Nat->Int) (i:Nat):Int:=T.lb i (firstOf (T.lp y i (T.nd y i)) (T.el i))
theorem Trel.nd_step {i j:Nat} (hj:j<T.el i) (hp:T.lp y i (T.nd y i) j=true) (hn:∀ q,q<j->T.lp y i (T.nd y i) q=false):T.nd y (i+1)=(T.to i j).toNat/\T.wd y i=T.lb i j:=by
 have:=yaU hj hp hn
 exact ⟨by show (T.to i (firstOf _ _)).toNat=_; rw [this],by show T.lb i (firstOf _ _)=_; rw [this]⟩
end
def costW (C:Nat->Nat->Int) (x:Nat->Nat):Nat->Int
 | 0=>0
 | k+1=>costW C x k+C k (x k)
theorem yag {C:Nat->Nat->Int} {x x':Nat->Nat}:∀ k,(∀ t,t<k->x t=x' t)->costW C x k=costW C x' k
 | 0,_=>rfl
 | k+1,h=>by
  show costW C x k+C k (x k)=costW C x' k+C k (x' k)
  rw [yag k fun t ht=>h t (by omega),h k (by omega)]
def LexLt (f g:Nat->Int) (n:Nat):Prop:=∃ i,i<n/\(∀ t,t<i->f t=g t)/\f i<g i
section
variable {T:Trel} {C:Nat->Nat->Int}
theorem Trel.bw_path {x nd:Nat->Nat} (hp:∀ i,i<T.n->∃ j,j<T.el i/\T.fr i j=(nd i:Nat)/\T.lb i j=(x i:Nat)/\T.to i j=(nd (i+1):Nat)) (hn:nd T.n=0) :
  ∀ r,r<=T.n->T.bw (T.yOf C) r (nd (T.n - r))<=costW C x T.n - costW C x (T.n - r):=by
 intro r
 induction r with
 | zero =>
  intro _
  rw [Nat.sub_zero,hn]
  show (if 0=0 then (0:Int) else _)<=_
  rw [if_pos rfl]
  omega
 | succ r ih =>
  intro hr
  obtain ⟨j,hj,h1,h2,h3⟩:=hp (T.n - (r+1)) (by omega)
  have ih:=ih (by omega)
  have e:T.n - r=T.n - (r+1)+1:=by omega
  rw [e] at ih
  have h4:=Trel.bwE_le (T:=T) (y:=T.yOf C) (next:=T.bw (T.yOf C) r) (i:=T.n - (r+1)) (v:=nd (T.n - (r+1))) (T.el (T.n - (r+1))) j hj (by rw [h1,Int.toNat_natCast])
  rw [h3,Int.toNat_natCast] at h4
  have h5:T.yOf C (T.n - (r+1)) j=C (T.n - (r+1)) (x (T.n - (r+1))):=by unfold Trel.yOf; rw [h2,Int.toNat_natCast]
  rw [h5] at h4
  have h6:capI (C (T.n - (r+1)) (x (T.n - (r+1)))) (T.bw (T.yOf C) r (nd (T.n - (r+1)+1)))<=C (T.n - (r+1)) (x (T.n - (r+1)))+T.bw (T.yOf C) r (nd (T.n - (r+1)+1)):=by
   unfold capI
   split <;> omega
  have h7:costW C x (T.n - (r+1)+1)=costW C x (T.n - (r+1))+C (T.n - (r+1)) (x (T.n - (r+1))):=rfl
  show T.bwE (T.yOf C) (T.bw (T.yOf C) r) (T.n - (r+1)) (T.el (T.n - (r+1))) (nd (T.n - (r+1)))<=_
  omega
theorem ybl (hP:T.Proper) {x nd:Nat->Nat} (h0:nd 0=0) (hp:∀ i,i<T.n->∃ j,j<T.el i/\T.fr i j=(nd i:Nat)/\T.lb i j=(x i:Nat)/\T.to i j=(nd (i+1):Nat)):nd T.n=0:=by
 by_cases e:T.n=0
 ·rw [e]; exact h0
 ·obtain ⟨j,hj,_,_,h3⟩:=hp (T.n - 1) (by omega)
  have:=(hP.toL (i:=T.n - 1) (by omega) hj).1
  rw [h3,show T.n - 1+1=T.n by omega,hP.wn,Int.toNat_natCast] at this
  have e1:(1:Int).toNat=1:=rfl
  omega
def Trel.wdN (T:Trel) (y:Nat->Nat->Int) (i:Nat):Nat:=(T.wd y i).toNat
theorem Trel.wd_edge (hP:T.Proper) (hy:Costs T (T.yOf C)) {i:Nat} (hi:i<T.n) (hw:((T.nd (T.yOf C) i:Nat):Int)<T.W i) :
  ∃ j,j<T.el i/\T.lp (T.yOf C) i (T.nd (T.yOf C) i) j=true/\(∀ q,q<j->T.lp (T.yOf C) i (T.nd (T.yOf C) i) q=false)/\T.fr i j=(T.nd (T.yOf C) i:Nat)/\T.lb i j=(T.wdN (T.yOf C) i:Nat)/\T.to i j=(T.nd (T.yOf C) (i+1):Nat):=by
 have hex:∃ j,j<T.el i/\T.lp (T.yOf C) i (T.nd (T.yOf C) i) j=true/\∀ q,q<j->T.lp (T.yOf C) i (T.nd (T.yOf C) i) q=false:=by
  have:∀ m,m<=T.el i->(∃ j,j<m/\T.lp (T.yOf C) i (T.nd (T.yOf C) i) j=true)->∃ j,j<T.el i/\T.lp (T.yOf C) i (T.nd (T.yOf C) i) j=true/\∀ q,q<j->T.lp (T.yOf C) i (T.nd (T.yOf C) i) q=false:=by
   intro m
   induction m with
   | zero=>rintro _ ⟨j,hj,_⟩; omega
   | succ m ih =>
    rintro hm ⟨j,hj,hl⟩
    by_cases g:∃ j,j<m/\T.lp (T.yOf C) i (T.nd (T.yOf C) i) j=true
    ·exact ih (by omega) g
    ·refine ⟨j,by omega,hl,fun q hq=>?_⟩
     cases hb:T.lp (T.yOf C) i (T.nd (T.yOf C) i) q with
     | false=>rfl
     | true=>exact absurd ⟨q,by omega,hb⟩ g
  exact this (T.el i) (Nat.le_refl _) (Trel.lp_ex hP hy hi hw)
 obtain ⟨j,hj,hl,hn⟩:=hex
 obtain ⟨e1,e2⟩:=Trel.nd_step hj hl hn
 have hfr:T.fr i j=(T.nd (T.yOf C) i:Nat):=by
  unfold Trel.lp at hl
  rw [Bool.and_eq_true,beq_iff_eq] at hl
  exact hl.1
 refine ⟨j,hj,hl,hn,hfr,?_,?_⟩
 ·unfold Trel.wdN
  rw [e2,(hP.lbL hi hj).2]
 ·rw [e1,(hP.toL hi hj).2]
theorem Trel.nd_lt (hP:T.Proper) (hy:Costs T (T.yOf C)):∀ i,i<=T.n->((T.nd (T.yOf C) i:Nat):Int)<T.W i
 | 0,_=>by rw [hP.w0]; show ((0:Nat):Int)<1; omega
 | i+1,hi=>by
  obtain ⟨j,hj,_,_,_,_,h3⟩:=Trel.wd_edge hP hy (i:=i) (by omega) (Trel.nd_lt hP hy i (by omega))
  have:=(hP.toL (i:=i) (by omega) hj).1
  rw [h3] at this
  omega
theorem Trel.wd_path (hP:T.Proper) (hy:Costs T (T.yOf C)):T.PathW (T.wdN (T.yOf C)) :=
 ⟨T.nd (T.yOf C),rfl,fun i hi=>by
  obtain ⟨j,hj,_,_,h1,h2,h3⟩:=Trel.wd_edge hP hy hi (Trel.nd_lt hP hy i (by omega))
  exact ⟨j,hj,h1,h2,h3⟩⟩
theorem Trel.wd_cost (hP:T.Proper) (hy:Costs T (T.yOf C)):∀ i,i<=T.n->T.bw (T.yOf C) T.n 0=costW C (T.wdN (T.yOf C)) i+T.bw (T.yOf C) (T.n - i) (T.nd (T.yOf C) i)
 | 0,_=>by
  show T.bw (T.yOf C) T.n 0=0+T.bw (T.yOf C) (T.n - 0) 0
  rw [Nat.sub_zero]; omega
 | i+1,hi=>by
  obtain ⟨j,hj,hl,_,h1,h2,h3⟩:=Trel.wd_edge hP hy (i:=i) (by omega) (Trel.nd_lt hP hy i (by omega))
  unfold Trel.lp at hl
  rw [Bool.and_eq_true,beq_iff_eq,beq_iff_eq,h3,Int.toNat_natCast] at hl
  have h5:T.yOf C i j=C i (T.wdN (T.yOf C) i):=by show C i (T.lb i j).toNat=_; rw [h2,Int.toNat_natCast]
  rw [h5] at hl
  have ih:=Trel.wd_cost hP hy i (by omega)
  show _=costW C (T.wdN (T.yOf C)) i+C i (T.wdN (T.yOf C) i)+_
  omega
theorem Trel.wd_total (hP:T.Proper) (hy:Costs T (T.yOf C)):T.bw (T.yOf C) T.n 0=costW C (T.wdN (T.yOf C)) T.n:=by
 have h:=Trel.wd_cost hP hy T.n (Nat.le_refl _)
 have h0:=Trel.nd_lt hP hy T.n (Nat.le_refl _)
 rw [hP.wn] at h0
 have e:T.nd (T.yOf C) T.n=0:=by omega
 rw [e,Nat.sub_self] at h
 have:T.bw (T.yOf C) 0 0=0:=rfl
 omega
theorem Trel.wd_least (hP:T.Proper) (hy:Costs T (T.yOf C)) {x:Nat->Nat} (hx:T.PathW x) :
  T.bw (T.yOf C) T.n 0<=costW C x T.n/\(costW C x T.n=T.bw (T.yOf C) T.n 0->(∀ t,t<T.n->T.wdN (T.yOf C) t=x t)∨LexLt (fun t=>(T.wdN (T.yOf C) t:Int)) (fun t=>(x t:Int)) T.n):=by
 obtain ⟨nd,h0,hp⟩:=hx
 have hb:=Trel.bw_path (C:=C) hp (ybl hP h0 hp)
 refine ⟨?_,fun he=>?_⟩
 ·have:=hb T.n (Nat.le_refl _)
  rw [Nat.sub_self,h0] at this
  have e:costW C x 0=0:=rfl
  omega
 ·have key:∀ i,i<=T.n->LexLt (fun t=>(T.wdN (T.yOf C) t:Int)) (fun t=>(x t:Int)) T.n∨(∀ t,t<i->T.wdN (T.yOf C) t=x t)/\nd i=T.nd (T.yOf C) i:=by
   intro i
   induction i with
   | zero=>intro _; exact .inr ⟨fun t ht=>absurd ht (by omega),h0⟩
   | succ i ih =>
    intro hi
    rcases ih (by omega) with h | ⟨h1,h2⟩
    ·exact .inl h
    ·have hi:i<T.n:=by omega
     obtain ⟨j,hj,hl,hn,k1,k2,k3⟩:=Trel.wd_edge hP hy hi (Trel.nd_lt hP hy i (by omega))
     obtain ⟨q,hq,m1,m2,m3⟩:=hp i hi
     have hbi:=hb (T.n - (i+1)) (by omega)
     rw [show T.n - (T.n - (i+1))=i+1 by omega] at hbi
     have hc:=Trel.wd_cost hP hy i (by omega)
     have hcc:=yag (C:=C) i h1
     have h5:T.yOf C i q=C i (x i):=by unfold Trel.yOf; rw [m2,Int.toNat_natCast]
     have h7:costW C x (i+1)=costW C x i+C i (x i):=rfl
     have h4:=Trel.bwE_le (T:=T) (y:=T.yOf C) (next:=T.bw (T.yOf C) (T.n - (i+1))) (i:=i) (v:=nd i) (T.el i) q hq (by rw [m1,Int.toNat_natCast])
     rw [<-Trel.bw_step T (T.yOf C) hi,m3,Int.toNat_natCast,h5] at h4
     have h6:capI (C i (x i)) (T.bw (T.yOf C) (T.n - (i+1)) (nd (i+1)))<=C i (x i)+T.bw (T.yOf C) (T.n - (i+1)) (nd (i+1)):=by
      unfold capI
      split <;> omega
     rw [<-h2] at hc
     have hlq:T.lp (T.yOf C) i (T.nd (T.yOf C) i) q=true:=by
      unfold Trel.lp
      rw [Bool.and_eq_true,beq_iff_eq,beq_iff_eq,m1,m3,Int.toNat_natCast,h5,<-h2]
      exact ⟨rfl,by omega⟩
     rcases Nat.lt_trichotomy q j with g | g | g
     ·rw [hn q g] at hlq; cases hlq
     ·subst g
      refine .inr ⟨fun t ht=>?_,by omega⟩
      by_cases et:t=i
      ·subst et; omega
      ·exact h1 t (by omega)
     ·refine .inl ⟨i,hi,fun t ht=>by show ((T.wdN (T.yOf C) t:Nat):Int)=_; rw [h1 t ht],?_⟩
      have:=Trel.ordP (hP.sec i hi) q j g hq
      show ((T.wdN (T.yOf C) i:Nat):Int)<(x i:Nat)
      omega
  rcases key T.n (Nat.le_refl _) with h | ⟨h,_⟩
  ·exact .inr h
  ·exact .inl h
end
def AlongPost (T:Trel) (y:Nat->Nat->Int) (w:World) (e:Ending) (w':World):Prop :=
 ∃ gw,e=.returned (.tuple #[.slice (some ⟨gw,0,none⟩) T.n T.n,.int .i64 (T.bw y T.n 0)])/\w'.rowIs gw 3 T.n (fun i=>.int .i64 (T.wd y i))/\w.heap.size<=gw/\Below w.heap.size w w'
theorem Costs.of {T:Trel} {M:Nat} {ln:Nat->Nat} {C:Nat->Nat->Int} (hM:M=T.n) (hF:T.Fit ln) (hC:∀ i,i<M->∀ a,a<ln i->0<=C i a/\C i a<=2147483648):Costs T (T.yOf C):=fun i hi j hj=>by
 have:=hF i hi j hj
 exact hC i (by omega) _ (by omega)
theorem yaI (T:Trel) (A B CA:Option Addr) (c d M cc:Nat) (ln:Nat->Nat) (C:Nat->Nat->Int) (w:World) (h:T.Reads w A B) (hP:T.Proper) (hSE:T.shapeE=0) (hC:IntRows w CA M ln C) (hM:M=T.n) (hF:T.Fit ln) (hpr:∀ i,i<M->∀ a,a<ln i->0<=C i a/\C i a<=2147483648) :
  Calls Tryz.prog 59 #[.agg #[.slice A T.nw c,.slice B T.n d],.slice CA M cc] w (AlongPost T (T.yOf C) w):=by
 have HY:=hid (Costs.of hM hF hpr)
 obtain ⟨y,hy⟩:∃ y,y=T.yOf C:=⟨_,rfl⟩
 have HYC:=hid hy
 rw [<-hy] at HY ⊢
 obtain ⟨O1,hO1⟩:∃ o,o=(Obj.cells #[.slice A T.nw c,.slice B T.n d] 53):=⟨_,rfl⟩
 obtain ⟨O2,hO2⟩:∃ o,o=(Obj.cells #[.slice CA M cc] 25):=⟨_,rfl⟩
 have hB0:Below (w.heap.size+2) ((w.alloc O1).alloc O2) ((w.alloc O1).alloc O2):=Below.refl _ _
 have HS:Hid (∀ w',Below (w.heap.size+2) ((w.alloc O1).alloc O2) w'->(w'.cell? ⟨w.heap.size,0,none⟩=some (.slice A T.nw c)/\w'.cell? ⟨w.heap.size,1,none⟩=some (.slice B T.n d))/\w'.cell? ⟨w.heap.size+1,0,none⟩=some (.slice CA M cc)/\Below w.heap.size w w'):=fun w' hB=>by
  have hB':=zeY hB
  have hB1:=ybe hB
  subst hO2
  have hr:=zfQ hB
  subst hO1
  exact ⟨⟨tbox hB1 rfl,tbox hB1 rfl⟩,hr.cell (i:=0) (by simp),hB'⟩
 obtain ⟨⟨p0,p1⟩,p2,hW⟩:=HS.out _ hB0
 have HR:=hid h
 have HP:=hid hP
 have HSE:=hid hSE
 have HC:=hid hC
 have HM:=hid hM
 have HF:=hid hF
 clear h hP hSE hC hM hF hpr hy
 go_enter Tryz.func59, Tryz.ntmps59
 go_wp2_with fail
 rw [<-hO1,<-hO2]
 refine (ya9 T A B CA c d M cc (w.heap.size+1) ln C _ (HR.out.on hW) HP.out.shape (HC.out.on hW) HM.out HF.out p2).mono ?_
 rintro e w1 ⟨g1,F1,rfl,hg1,hT1,kb⟩
 have hB1:=zjb hB0 kb
 rw [<-HYC.out] at hT1;clear p0 p1 p2 hW kb hB0 hO1 hO2 hg1
 obtain ⟨⟨p0,p1⟩,p2,hW⟩:=HS.out _ hB1
 have hrows:=hT1.rows fun i hi j hj=>by have:=HY.out i hi j hj; omega
 go_wp2_with fail
 refine (ya8 T A B (some ⟨g1,0,none⟩) c d T.n y w1 (HR.out.on hW) HSE.out hrows HY.out).mono ?_
 rintro e w2 ⟨g2,F2,rfl,hg2,hT2,kb⟩
 have hB2:=zjb hB1 kb
 replace hT1:=hT1.on kb;clear p0 p1 p2 hW kb hB1 hrows hg2
 obtain ⟨⟨p0,p1⟩,p2,hW⟩:=HS.out _ hB2
 have hl2:=zja hB2
 have hn64:=HP.out.shape.n64
 have hmk:=fun W=>zah (P:=Tryz.prog) 22 3 _ 8 Tryz.underlying22 Tryz.infoInt rfl (T.n:Int) (by omega) (by omega) (by omega) W
 simp only [Int.toNat_natCast] at hmk
 have HT1:=hid hT1
 have HT2:=hid hT2
 have HP1:=hid p1
 have HW2:=hid hW
 have hl2':w.heap.size<w2.heap.size:=by omega
 clear hT1 hT2
 go_upto_region 5 with fail
 have hr3:=World.rowIs_made w2 (.int .i64 0) T.n 3
 have kb3:Below w2.heap.size w2 (w2.alloc (Obj.cells (madeCells #[Value.int .i64 0] T.n) 3)):=(Below.refl _ _).alloc (Nat.le_refl _) _
 obtain ⟨w3,hw3⟩:∃ W,W=w2.alloc (Obj.cells (madeCells #[Value.int .i64 0] T.n) 3):=⟨_,rfl⟩
 obtain ⟨gw,hgw⟩:∃ b,b=w2.heap.size:=⟨_,rfl⟩
 have HGW:=hid hgw
 rw [<-hgw] at hr3;rw [<-hw3] at hr3 kb3 ⊢;rw [<-hgw];replace p1:=cellS kb3 p1
 have hr4:w3.rowIs gw 3 T.n (fun i=>.int .i64 (if i<0 then T.wd y i else 0)):=hr3.congr fun i _=>by rw [if_neg (by omega)]
 clear hw3 hgw hmk hr3 p0 p2 hB2
 go_wp2
 go_loopg [10,32] T.n (fun gg vv iv wx=>∃ k:Nat,iv=.int .i64 (k:Nat)/\k<=T.n/\T.n<=k+gg/\vv=.int .i64 (T.nd y k:Nat)/\Hid ((T.nd y k:Int)<T.W k)/\wx.rowIs gw 3 T.n (fun i=>.int .i64 (if i<k then T.wd y i else 0))/\Below w2.heap.size w2 wx)
 case atStart=>exact ⟨0,rfl,by omega,by omega,rfl,by show (0:Int)<T.W 0; have:=HP.out.w0; omega,hr4,kb3⟩
 case round =>
  clear p1 hr4 kb3
  obtain ⟨gK,hgK⟩:∃ g,g=gk:=⟨_,rfl⟩
  subst hgK
  obtain ⟨k,rfl,hk,hkg,rfl,HV,hrow,hB⟩:=hrel
  have hk0:(0:Int)<=(k:Int):=by omega
  obtain ⟨v,hv⟩:∃ v,v=T.nd y k:=⟨_,rfl⟩
  have HVN:=hid hv
  rw [<-hv] at HV ⊢;clear hv
  by_cases hlt:k<T.n
  ·have hlt':(k:Int)<(T.n:Int):=by omega
   obtain ⟨eb,eo,E,ec,rfl,heb,x0w,he1,he2,he3,he4⟩:=HR.out.sec hlt
   have hW3:=onS HW2.out hB
   have x0:=cellS hW3 x0w
   have hel:=HP.out.shape.elb hlt
   have HEX:=hid (Trel.lp_ex HP.out HY.out hlt HV.out)
   obtain ⟨n1,hn1⟩:∃ n:Nat,n=T.el k:=⟨_,rfl⟩
   rw [<-hn1] at x0 hel
   have HN1:=hid hn1
   have HE3:=hid he3
   clear hn1 he3 he4 x0w he1 he2 hW3
   go_wp2
   go_loopg [10,39] n1 (fun gg vv jv wx=>∃ j:Nat,vv=.int .i64 (v:Nat)/\jv=.int .i64 (j:Nat)/\j<=n1/\n1<=j+gg/\Hid (∀ q,q<j->T.lp y k v q=false)/\wx.rowIs gw 3 T.n (fun i=>.int .i64 (if i<k then T.wd y i else 0))/\Below w2.heap.size w2 wx)
   case atStart=>exact ⟨0,rfl,rfl,by omega,by omega,fun q hq=>absurd hq (by omega),hrow,hB⟩
   case round =>
    clear x0 hrow hB
    obtain ⟨j,rfl,rfl,hj,hjg,HN,hrow,hB⟩:=hrel
    have hj0:(0:Int)<=(j:Int):=by omega
    by_cases hltj:j<n1
    ·have hltj':(j:Int)<(n1:Int):=by omega
     have hjel:j<T.el k:=by rw [<-HN1.out]; exact hltj
     have hW:=onS HW2.out hB
     obtain ⟨fb,fo,rfl,hfb,e0,e1,e2⟩:=zc1 ((Rd.below HE3.out hW (Nat.le_refl _)).mono hW.size) hjel
     obtain ⟨i1,i2,i3,i4⟩:=HP.out.shape.ins k hlt j hjel
     obtain ⟨fn,hfn⟩:∃ n:Nat,(n:Int)=T.fr k j:=⟨(T.fr k j).toNat,by omega⟩
     obtain ⟨tn,htn⟩:∃ n:Nat,(n:Int)=T.to k j:=⟨(T.to k j).toNat,by omega⟩
     have hkw:k<T.nw:=by have:=HP.out.shape.nw; omega
     have hk1:k+1<T.nw:=by have:=HP.out.shape.nw; omega
     obtain ⟨ab,ao,ad,hFa,hab,habl,aq,_⟩:=(HT2.out.on hB).at (v:=k) hkw (k:=v) (by have:=HV.out; omega)
     obtain ⟨bb,bo,bd,hFb,hbb,hbbl,bq,_⟩:=(HT2.out.on hB).at (v:=k+1) hk1 (k:=tn) (by omega)
     obtain ⟨cb,co,cd,hFc,hcb,hcbl,cq,_⟩:=(HT1.out.on hB).at (v:=k) hlt (k:=j) hjel
     have hrow1:=(HT2.out.on hB).row.cell hkw
     have hrow2:=(HT2.out.on hB).row.cell hk1
     have hrow3:=(HT1.out.on hB).row.cell hlt
     rw [hFa] at hrow1;rw [hFb] at hrow2;rw [hFc] at hrow3
     change wr.cell? ⟨g2,k,none⟩=some (.slice (some ⟨ab,ao,none⟩) (T.W k).toNat ad) at hrow1
     change wr.cell? ⟨g2,k+1,none⟩=some (.slice (some ⟨bb,bo,none⟩) (T.W (k+1)).toNat bd) at hrow2
     have d1:=Trel.bw_cost HY.out (T.n - k) (by omega) v
     have d2:=Trel.bw_cost HY.out (T.n - (k+1)) (by omega) tn
     have d3:=HY.out k hlt j hjel
     have HLP:Hid (T.lp y k v j=((T.fr k j == (v:Int)) && (y k j+T.bw y (T.n - (k+1)) tn == T.bw y (T.n - k) v))):=by
      show T.lp y k v j=_
      unfold Trel.lp
      rw [show (T.to k j).toNat=tn by omega]
     obtain ⟨av,hav⟩:∃ z,z=T.bw y (T.n - k) v:=⟨_,rfl⟩
     obtain ⟨bv,hbv⟩:∃ z,z=T.bw y (T.n - (k+1)) tn:=⟨_,rfl⟩
     obtain ⟨yv,hyv⟩:∃ z,z=y k j:=⟨_,rfl⟩
     obtain ⟨lb,hlb⟩:∃ z,z=T.lb k j:=⟨_,rfl⟩
     obtain ⟨n2,hn2⟩:∃ n,n=(T.W k).toNat:=⟨_,rfl⟩
     obtain ⟨n3,hn3⟩:∃ n,n=(T.W (k+1)).toNat:=⟨_,rfl⟩
     have htl:tn<n3:=by omega
     have hvl:v<n2:=by have:=HV.out; omega
     rw [<-hav] at aq d1 HLP;rw [<-hbv] at bq d2 HLP;rw [<-hyv] at cq d3 HLP;rw [<-hfn] at e0 HLP;rw [<-hlb] at e1;rw [<-htn] at e2;rw [<-hn2] at hrow1;rw [<-hn3] at hrow2;rw [<-HN1.out] at hrow3
     have HTN:Hid (tn=(T.to k j).toNat):=by show tn=_; omega
     have HLB:=hid hlb
     have HTW:Hid ((tn:Int)<T.W (k+1)):=by show (tn:Int)<_; omega
     unfold Cost at d1 d2
     have hwk1:IntKind.i64.wrap ((k:Int)+1)=(k:Int)+1:=IntWalk.i64_in _ (by omega)
     have hws:IntKind.i64.wrap (yv+bv)=yv+bv:=IntWalk.i64_in _ (by omega)
     have htl':(tn:Int)<(n3:Int):=by omega
     have hvl':(v:Int)<(n2:Int):=by omega
     have ht0:(0:Int)<=(tn:Int):=by omega
     have hv0:(0:Int)<=(v:Int):=by omega
     have hk1':(k:Int)+1<(T.nw:Int):=by omega
     have hkw':(k:Int)<(T.nw:Int):=by omega
     have hk01:(0:Int)<=(k:Int)+1:=by omega
     clear hFa hFb hFc hav hbv hyv hlb hfn htn i1 i2 i3 i4 hn2 hn3 hW d1 d2 d3
     go_upto_region 11 with fail
     obtain ⟨OB,hOB⟩:∃ o,o=(Obj.cells #[.int .i64 (fn:Int),.int .i64 lb,.int .i64 (tn:Int)] 90):=⟨_,rfl⟩
     have hq:∀ i v,(#[Value.int .i64 (fn:Int),.int .i64 lb,.int .i64 (tn:Int)]:Array Value)[i]?=some v->(wr.alloc OB).cell? ⟨wr.heap.size,i,none⟩=some v:=fun i v hv=>by subst hOB; exact tbox (Below.refl _ _) hv
     have s0:=hq 0 _ rfl
     have s1:=hq 1 _ rfl
     have s2:=hq 2 _ rfl
     have kb:Below wr.heap.size wr (wr.alloc OB):=(Below.refl _ _).alloc (Nat.le_refl _) _
     rw [<-hOB]
     obtain ⟨w50,hw50⟩:∃ W,W=wr.alloc OB:=⟨_,rfl⟩
     rw [<-hw50] at s0 s1 s2 kb ⊢
     have hxg:wr.heap.size≠gw:=by have:=hrow.lt; omega
     replace hB:=onS hB kb;replace hrow:=zab hrow kb;replace aq:=cellS kb aq;replace bq:=cellS kb bq;replace cq:=cellS kb cq;replace hrow1:=cellS kb hrow1;replace hrow2:=cellS kb hrow2;replace hrow3:=cellS kb hrow3
     obtain ⟨bx,hbx2⟩:∃ b,b=wr.heap.size:=⟨_,rfl⟩
     rw [<-hbx2] at s0 s1 s2 hxg ⊢;clear hq hw50 hOB kb e0 e1 e2 hbx2 hfb
     by_cases hfv:(fn:Int)=(v:Int)
     ·have b1:((fn:Int) == (v:Int))=true:=by simpa using hfv
      rw [b1,Bool.true_and] at HLP;clear hfv
      by_cases hsm:yv+bv=av
      ·have b2:(yv+bv == av)=true:=by simpa using hsm
       rw [b2] at HLP
       have HND:Hid (T.nd y (k+1)=tn/\T.wd y k=lb):=by
        have:=Trel.nd_step (T:=T) (y:=y) (i:=k) (j:=j) hjel (by rw [<-HVN.out]; exact HLP.out) (by rw [<-HVN.out]; exact HN.out)
        rw [<-HTN.out,<-HLB.out] at this
        exact this
       clear hsm
       go_wp2
       go_quiet (fail)
       go_upto_region 12 with fail
       obtain ⟨w51,hw51⟩:∃ W,W=w50.drewN nq:=⟨_,rfl⟩
       have kb:Below w50.heap.size w50 w51:=by rw [hw51]; exact zae (Below.refl _ _) _
       rw [<-hw51];replace hB:=onS hB kb;replace hrow:=zab hrow kb;replace s1:=cellS kb s1;replace s2:=cellS kb s2;clear kb hw51 aq bq cq hrow1 hrow2 hrow3 s0 b1 b2 hws
       refine wp_region_held_drew (S:=fun w'=>w'.cell? ⟨bx,1,none⟩=some (.int .i64 lb)/\w'.cell? ⟨bx,2,none⟩=some (.int .i64 (tn:Int))) (by kernel_rfl) ⟨cellS (Below.refl _ _).drew s1,cellS (Below.refl _ _).drew s2⟩ (fun hHeld=>?_)
       obtain ⟨w52,hw⟩:∃ W,W=World.drew w51:=⟨_,rfl⟩
       have kb:Below w51.heap.size w51 w52:=by rw [hw]; exact (Below.refl _ _).drew
       rw [<-hw] at hHeld ⊢;clear hw;replace hB:=onS hB kb;replace s1:=cellS kb s1;replace s2:=cellS kb s2;replace hrow:=zab hrow kb;clear kb
       refine tkq 0 (h:=tkq 1 (h:=tkq 2 (h:=tkq 3 (h:=tkq 4 (h:=tkq 5 (h:=tkq 6 (h:=?_)))))))
       refine rdq 7 (h:=fun K hK=>?_)
       have q0:=hrow.cell hlt
       have z0:=hrow.frozen k
       go_simp
       replace s1:=zaa (p:=⟨gw,k,none⟩) (u:=.int .i64 lb) s1 hxg;replace s2:=zaa (p:=⟨gw,k,none⟩) (u:=.int .i64 lb) s2 hxg
       have hr9:=hid (hrow.set k (.int .i64 lb))
       have hB9:=hid (hB.setCell (p:=⟨gw,k,none⟩) (by show w2.heap.size<=gw; rw [HGW.out]; exact Nat.le_refl _) (.int .i64 lb))
       clear q0 z0
       refine bkq hK ⟨s1,s2⟩ (h:=fun hHeld=>?_)
       clear hK K
       refine tkq 8 (h:=?_)
       refine wpAnyH_done (by kernel_rfl) ?_ _
       clear hHeld
       have hr10:=hid (hr9.out.congr (g:=fun i=>.int .i64 (if i<k+1 then T.wd y i else 0)) fun i _=>by
         by_cases e:i=k
         ·subst e; rw [if_pos rfl,if_pos (Nat.lt_succ_self _),HND.out.2]
         ·rw [if_neg e]
          by_cases e2:i<k
          ·rw [if_pos e2,if_pos (by omega)]
          ·rw [if_neg e2,if_neg (by omega)])
       have HVF:Hid ((T.nd y (k+1):Int)<T.W (k+1)):=by rw [HND.out.1]; exact HTW
       clear hr9 hB hrow s1 s2
       go_wp2
       go_roundg (gK - 1)
       case measure=>omega
       case rel=>exact ⟨k+1,by go_num,by omega,by omega,by rw [HND.out.1],HVF,hr10.out,hB9.out⟩
      ·have b2:(yv+bv == av)=false:=by simpa using hsm
       rw [b2] at HLP
       have HN2:Hid (∀ q,q<j+1->T.lp y k v q=false):=fun q hq=>by
        by_cases e:q=j
        ·subst e; exact HLP.out
        ·exact HN.out q (by omega)
       clear hsm
       go_wp2
       go_quiet (fail)
       go_wp2
       go_roundg (gk - 1)
       case measure=>omega
       case rel=>exact ⟨j+1,rfl,by go_num,by omega,by omega,HN2,zab hrow (zae (Below.refl _ _) _),zae hB _⟩
     ·have b1:((fn:Int) == (v:Int))=false:=by simpa using hfv
      rw [b1,Bool.false_and] at HLP
      have HN2:Hid (∀ q,q<j+1->T.lp y k v q=false):=fun q hq=>by
       by_cases e:q=j
       ·subst e; exact HLP.out
       ·exact HN.out q (by omega)
      clear hfv
      go_wp2
      go_quiet (fail)
      go_wp2
      go_roundg (gk - 1)
      case measure=>omega
      case rel=>exact ⟨j+1,rfl,by go_num,by omega,by omega,HN2,zab hrow (zae (Below.refl _ _) _),zae hB _⟩
    ·exfalso
     obtain ⟨q,hq,hq2⟩:=HEX.out
     have:=HN.out q (by have:=HN1.out; omega)
     rw [this] at hq2
     cases hq2
  ·have hlt':¬ (k:Int)<(T.n:Int):=by omega
   obtain rfl:k=T.n:=by omega
   have hnw0:0<T.nw:=by have:=HP.out.shape.nw; omega
   have hw0:=HP.out.w0
   obtain ⟨ab,ao,ad,hFa,hab,habl,aq,_⟩:=(HT2.out.on hB).at (v:=0) hnw0 (k:=0) (by show 0<(T.W 0).toNat; omega)
   have hrow1:=(HT2.out.on hB).row.cell hnw0
   rw [hFa] at hrow1
   change wr.cell? ⟨g2,0,none⟩=some (.slice (some ⟨ab,ao,none⟩) (T.W 0).toNat ad) at hrow1
   obtain ⟨n2,hn2⟩:∃ n,n=(T.W 0).toNat:=⟨_,rfl⟩
   rw [<-hn2] at hrow1;rw [Nat.add_zero,Nat.sub_zero] at aq
   obtain ⟨av,hav⟩:∃ z,z=T.bw y T.n 0:=⟨_,rfl⟩
   have HAV:=hid hav
   rw [<-hav] at aq
   have hn2':(0:Int)<(n2:Int):=by omega
   have hnw0':(0:Int)<(T.nw:Int):=by omega
   have hrowf:=hid (hrow.congr (g:=fun i=>.int .i64 (T.wd y i)) fun i hi=>by rw [if_pos hi])
   have hWf:=hid (onS HW2.out hB)
   have hgz:Hid (w.heap.size<=gw):=by show _<=gw; rw [HGW.out]; omega
   clear hFa hn2 hav hw0 hrow HVN HV
   go_wp2
   go_quiet (fail)
   go_wp2
   go_ret2
   exact ⟨gw,by rw [<-HAV.out]; rfl,zab hrowf.out (zae (Below.refl _ _) _),hgz.out,zae hWf.out _⟩
end Go.Proofs.YtgekjfpapmlndaaGreat