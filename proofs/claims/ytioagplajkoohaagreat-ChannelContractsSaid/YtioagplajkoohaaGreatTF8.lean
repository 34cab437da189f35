/- Merged texts of a claim: RatB. -/
import Derived.Test.YtioagplajkoohaaGreatTF5
import Derived.Test.YtioagplajkoohaaGreatTF7
import Derived.Deep.DeepCutAuto
namespace Go.Proofs.YtioagplajkoohaaGreat
set_option maxRecDepth 100000
set_option maxHeartbeats 32000000
open KA KB KC KE
open Go.RowKit
theorem zfd (v v':Value) (r r':Rat) (N:Nat) (w:World) (h:RatRaw w w.heap.size v r N) (h':RatRaw w w.heap.size v' r' N) (hN:N<=33554432) (hr:rsz r N) (hr':rsz r' N) :
  Calls Tryz.prog 85 #[v,v'] w (RatPost (r+r') w):=by
 have hv:∃ s A n c A2 m c2,v=.agg #[.bool s,.slice A n c,.slice A2 m c2]:=by obtain ⟨s,A,n,c,A2,m,c2,x,y,rfl,_⟩:=h; exact ⟨s,A,n,c,A2,m,c2,rfl⟩
 obtain ⟨s,A,n,c,A2,m,c2,rfl⟩:=hv
 have hv':∃ s A n c A2 m c2,v'=.agg #[.bool s,.slice A n c,.slice A2 m c2]:=by obtain ⟨s,A,n,c,A2,m,c2,x,y,rfl,_⟩:=h'; exact ⟨s,A,n,c,A2,m,c2,rfl⟩
 obtain ⟨s',A',n',c',A2',m',c2',rfl⟩:=hv'
 have hb0:=zab w (.cells #[.bool s,.slice A n c,.slice A2 m c2] 49)
 have hb1:=zab (w.alloc (.cells #[.bool s,.slice A n c,.slice A2 m c2] 49)) (.cells #[.bool s',.slice A' n' c',.slice A2' m' c2'] 49)
 have s0:(w.alloc (.cells #[.bool s,.slice A n c,.slice A2 m c2] 49)).heap.size=w.heap.size+1:=by simp
 have s1:((w.alloc (.cells #[.bool s,.slice A n c,.slice A2 m c2] 49)).alloc (.cells #[.bool s',.slice A' n' c',.slice A2' m' c2'] 49)).heap.size=w.heap.size+1+1:=by simp
 have ra:=zaa (zae (w:=w) (a:=.bool s) (b:=.slice A n c) (c:=.slice A2 m c2) (T := 49)) hb1
 have rb:=zae (w:=w.alloc (.cells #[.bool s,.slice A n c,.slice A2 m c2] 49)) (a:=.bool s') (b:=.slice A' n' c') (c:=.slice A2' m' c2') (T := 49)
 have hB:=onS hb0 hb1
 rw [s0] at rb
 have ha:=h.on hB
 have hb:=h'.on hB
 have hb2:=zab ((w.alloc (.cells #[.bool s,.slice A n c,.slice A2 m c2] 49)).alloc (.cells #[.bool s',.slice A' n' c',.slice A2' m' c2'] 49)) (.cells #[.bool false,.slice none 0 0,.slice none 0 0] 49)
 have rz:=zae (w:=(w.alloc (.cells #[.bool s,.slice A n c,.slice A2 m c2] 49)).alloc (.cells #[.bool s',.slice A' n' c',.slice A2' m' c2'] 49)) (a:=.bool false) (b:=.slice none 0 0) (c:=.slice none 0 0) (T := 49)
 rw [s1] at rz;replace ra:=zaa ra hb2;replace rb:=zaa rb hb2;replace hB:=onS hB hb2;replace ha:=ha.on hb2;replace hb:=hb.on hb2;clear hb2;clear hb0 hb1 s0 s1 h h'
 go_enter Tryz.func85, Tryz.ntmps85
 go_wp2_with fail
 refine (zbp _ r N _ ha (by omega)).mono ?_
 rintro e w0 ⟨Aa,ca,Ba,da,rfl,ma1,ma2,ma3,ma4,ma5,ma6,kb⟩
 replace ra:=zaa ra kb;replace rb:=zaa rb kb;replace rz:=zaa rz kb;replace hB:=onS hB kb;replace hb:=hb.on kb;clear kb
 have hsz:=hB.size
 have za0:=ra.frozen 0
 have za1:=ra.frozen 1
 have za2:=ra.frozen 2
 have ya0:=qc0 ra
 have ya1:=qc1 ra
 have ya2:=qc2 ra
 go_upto_region 2 with fail
 generalize hw3:World.setCell _ _ _=w1
 have hst:RatStored w0 (w.heap.size) 49 (rneg (r)) (Aa) (dl (r).num.natAbs) (ca) (Ba) (dl (r).den) (da) w1:=by rw [<-hw3]; exact zaf ra _ _ _ _ _ _ _
 clear hw3;replace ra:=hst.row
 replace rb:=zad rb hst.grown (by omega)
 replace rz:=zad rz hst.grown (by omega)
 replace hB:=hst.below hB (by omega) (by omega)
 replace hb:=hst.raw hb;rw [<-hst.size] at hb;replace ma1:=hst.nat _ _ _ ma1;rw [<-hst.size] at ma1;replace ma2:=hst.nat _ _ _ ma2;rw [<-hst.size] at ma2;clear hst;clear hsz za0 za1 za2 ya0 ya1 ya2
 have yb0:=qc0 rb
 have yb1:=qc1 rb
 have yb2:=qc2 rb
 go_wp2_with fail
 refine (zbp _ r' N _ hb (by omega)).mono ?_
 rintro e w2 ⟨Ab,cb,Bb,db,rfl,mb1,mb2,mb3,mb4,mb5,mb6,kb⟩
 replace ra:=zaa ra kb;replace rb:=zaa rb kb;replace rz:=zaa rz kb;replace hB:=onS hB kb;replace ma1:=ma1.on kb;replace ma2:=ma2.on kb;clear kb
 have hsz:=hB.size
 have za0:=rb.frozen 0
 have za1:=rb.frozen 1
 have za2:=rb.frozen 2
 have ya0:=qc0 rb
 have ya1:=qc1 rb
 have ya2:=qc2 rb
 go_upto_region 3 with fail
 generalize hw3:World.setCell _ _ _=w3
 have hst:RatStored w2 (w.heap.size+1) 49 (rneg (r')) (Ab) (dl (r').num.natAbs) (cb) (Bb) (dl (r').den) (db) w3:=by rw [<-hw3]; exact zaf rb _ _ _ _ _ _ _
 clear hw3
 replace ra:=zad ra hst.grown (by omega)
 replace rb:=hst.row
 replace rz:=zad rz hst.grown (by omega)
 replace hB:=hst.below hB (by omega) (by omega)
 replace ma1:=hst.nat _ _ _ ma1;rw [<-hst.size] at ma1;replace ma2:=hst.nat _ _ _ ma2;rw [<-hst.size] at ma2;replace mb1:=hst.nat _ _ _ mb1;rw [<-hst.size] at mb1;replace mb2:=hst.nat _ _ _ mb2;rw [<-hst.size] at mb2;clear hst;clear hsz za0 za1 za2 ya0 ya1 ya2
 have ea0:=qc0 ra
 have ea1:=qc1 ra
 have ea2:=qc2 ra
 have eb0:=qc0 rb
 have eb1:=qc1 rb
 have eb2:=qc2 rb
 have hr1:=hr.1
 have hr2:=hr.2
 have hr3:=hr'.1
 have hr4:=hr'.2
 go_wp2_with fail
 refine (zbJ Aa Bb ca db (r.num.natAbs) (r'.den) w3 ma1 mb2 (by omega) (by omega)).mono ?_
 rintro e w4 ⟨Xx,kx,rfl,ux1,ux2,ux3,kb⟩
 have kb2:=kb
 replace ra:=zaa ra kb;replace rb:=zaa rb kb;replace rz:=zaa rz kb;replace hB:=onS hB kb;replace ma1:=ma1.on kb;replace ma2:=ma2.on kb;replace mb1:=mb1.on kb;replace mb2:=mb2.on kb;clear kb;replace ea0:=cellS kb2 ea0;replace ea1:=cellS kb2 ea1;replace ea2:=cellS kb2 ea2;replace eb0:=cellS kb2 eb0;replace eb1:=cellS kb2 eb1;replace eb2:=cellS kb2 eb2;clear kb2
 go_wp2_with fail
 refine (zbJ Ab Ba cb da (r'.num.natAbs) (r.den) w4 mb1 ma2 (by omega) (by omega)).mono ?_
 rintro e w5 ⟨Xy,ky,rfl,uy1,uy2,uy3,kb⟩
 have kb2:=kb
 replace ra:=zaa ra kb;replace rb:=zaa rb kb;replace rz:=zaa rz kb;replace hB:=onS hB kb;replace ma1:=ma1.on kb;replace ma2:=ma2.on kb;replace mb1:=mb1.on kb;replace mb2:=mb2.on kb;replace ux3:=ux3.on kb;clear kb;replace ea0:=cellS kb2 ea0;replace ea1:=cellS kb2 ea1;replace ea2:=cellS kb2 ea2;replace eb0:=cellS kb2 eb0;replace eb1:=cellS kb2 eb1;replace eb2:=cellS kb2 eb2;clear kb2
 go_wp2_with fail
 refine (zbJ Ba Bb da db (r.den) (r'.den) w5 ma2 mb2 (by omega) (by omega)).mono ?_
 rintro e w6 ⟨Xz,kz,rfl,uz1,uz2,uz3,kb⟩
 have kb2:=kb
 replace ra:=zaa ra kb;replace rb:=zaa rb kb;replace rz:=zaa rz kb;replace hB:=onS hB kb;replace ma1:=ma1.on kb;replace ma2:=ma2.on kb;replace mb1:=mb1.on kb;replace mb2:=mb2.on kb;replace ux3:=ux3.on kb;replace uy3:=uy3.on kb;clear kb;replace ea0:=cellS kb2 ea0;replace ea1:=cellS kb2 ea1;replace ea2:=cellS kb2 ea2;replace eb0:=cellS kb2 eb0;replace eb1:=cellS kb2 eb1;replace eb2:=cellS kb2 eb2;clear kb2
 have hx:=dl_mul_le' (show dl r.num.natAbs<=N from hr1) (show dl r'.den<=N from hr4)
 have hy:=dl_mul_le' (show dl r'.num.natAbs<=N from hr3) (show dl r.den<=N from hr2)
 have hz:=dl_mul_le' (show dl r.den<=N from hr2) (show dl r'.den<=N from hr4)
 have HSM:Hid (rneg r=rneg r'->rv (rneg r) (r.num.natAbs*r'.den+r'.num.natAbs*r.den) (r.den*r'.den)=r+r'):=fun e=>zcJ e
 have HGE:Hid (rneg r≠rneg r'->r'.num.natAbs*r.den<=r.num.natAbs*r'.den->rv (rneg r) (r.num.natAbs*r'.den - r'.num.natAbs*r.den) (r.den*r'.den)=r+r'):=fun e e2=>zd5 e e2
 have HLT:Hid (rneg r≠rneg r'->r.num.natAbs*r'.den<r'.num.natAbs*r.den->rv (rneg r') (r'.num.natAbs*r.den - r.num.natAbs*r'.den) (r.den*r'.den)=r+r'):=fun e e2=>zd6 e e2
 obtain ⟨x,hX⟩:∃ x,x=r.num.natAbs*r'.den:=⟨_,rfl⟩
 obtain ⟨y,hY⟩:∃ x,x=r'.num.natAbs*r.den:=⟨_,rfl⟩
 obtain ⟨z,hZ⟩:∃ x,x=r.den*r'.den:=⟨_,rfl⟩
 rw [<-hX,<-hY,<-hZ] at HSM HGE HLT;rw [<-hX] at hx ux1 ux3;rw [<-hY] at hy uy1 uy3;rw [<-hZ] at hz uz1 uz3;rw [<-hX,<-hY,<-hZ];clear hX hY hZ ma1 ma2 mb1 mb2
 by_cases hs:rneg r=rneg r'
 ·have hb0:(rneg r == rneg r')=true:=by simp [hs]
  have HR:=hid (HSM.out hs)
  have hxy:=zd7 (a:=N+N) hx hy
  clear hs HSM HGE HLT
  go_wp2
  have HS:Hid (∀ w':World,w'.rowIs w.heap.size 49 3 (ratCell (.bool (rneg (r))) (.slice (Aa) (dl (r).num.natAbs) (ca)) (.slice (Ba) (dl (r).den) (da)))->w'.rowIs (w.heap.size+1) 49 3 (ratCell (.bool (rneg (r'))) (.slice (Ab) (dl (r').num.natAbs) (cb)) (.slice (Bb) (dl (r').den) (db)))->w'.cell? ⟨w.heap.size,0,none⟩=some (.bool (rneg (r)))/\w'.cell? ⟨w.heap.size,1,none⟩=some (.slice (Aa) (dl (r).num.natAbs) (ca))/\w'.cell? ⟨w.heap.size,2,none⟩=some (.slice (Ba) (dl (r).den) (da))/\w'.cell? ⟨w.heap.size+1,0,none⟩=some (.bool (rneg (r')))/\w'.cell? ⟨w.heap.size+1,1,none⟩=some (.slice (Ab) (dl (r').num.natAbs) (cb))/\w'.cell? ⟨w.heap.size+1,2,none⟩=some (.slice (Bb) (dl (r').den) (db))):=fun w' h1 h2=>⟨h1.cell (i:=0) (by omega),h1.cell (i:=1) (by omega),h1.cell (i:=2) (by omega),h2.cell (i:=0) (by omega),h2.cell (i:=1) (by omega),h2.cell (i:=2) (by omega)⟩
  refine wp_region_held_drew (S:=fun w'=>w'.cell? ⟨w.heap.size,0,none⟩=some (.bool (rneg (r)))/\w'.cell? ⟨w.heap.size,1,none⟩=some (.slice (Aa) (dl (r).num.natAbs) (ca))/\w'.cell? ⟨w.heap.size,2,none⟩=some (.slice (Ba) (dl (r).den) (da))/\w'.cell? ⟨w.heap.size+1,0,none⟩=some (.bool (rneg (r')))/\w'.cell? ⟨w.heap.size+1,1,none⟩=some (.slice (Ab) (dl (r').num.natAbs) (cb))/\w'.cell? ⟨w.heap.size+1,2,none⟩=some (.slice (Bb) (dl (r').den) (db))) (by kernel_rfl) (HS.out _ (show World.rowIs (World.drew _) _ _ _ _ from ra) (show World.rowIs (World.drew _) _ _ _ _ from rb)) (fun hHeld=>?_)
  clear ea0 ea1 ea2 eb0 eb1 eb2
  have kb:=(Below.refl w6.heap.size w6).drew
  replace ra:=zaa ra kb;replace rb:=zaa rb kb;replace rz:=zaa rz kb;replace hB:=onS hB kb;replace ux3:=ux3.on kb;replace uy3:=uy3.on kb;replace uz3:=uz3.on kb;clear kb
  refine tkq 0 (h:=tkq 1 (h:=tkq 2 (h:=tkq 3 (h:=tkq 5 (h:=?_)))))
  refine rdq 4 (h:=fun K hK=>?_)
  go_simp
  go_wp2_with fail
  refine (zda Xx Xy kx ky x y _ ux3 uy3 (by omega) (by omega)).mono ?_
  rintro e w7 ⟨Xs,ks,rfl,us1,us2,us3,kb⟩
  replace ra:=zaa ra kb;replace rb:=zaa rb kb;replace rz:=zaa rz kb;replace hB:=onS hB kb;replace ux3:=ux3.on kb;replace uy3:=uy3.on kb;replace uz3:=uz3.on kb;clear kb
  refine bkq hK (HS.out _ ra rb) (h:=fun hHeld=>?_)
  clear hK K
  refine rdq 6 (h:=fun K hK=>?_)
  go_simp
  go_wp2_with fail
  refine (zbe (rneg r) Xs Xz (dl (x+y)) ks (dl z) kz (x+y) z _ us3.raw uz3.raw us1 us2 uz1 uz2 (by omega) (by omega)).mono ?_
  rintro e w8 ⟨Am,cm,Bm,dm,rfl,mm1,mm2,mm3,mm4,mm5,mm6,kb⟩
  replace ra:=zaa ra kb;replace rb:=zaa rb kb;replace rz:=zaa rz kb;replace hB:=onS hB kb;replace ux3:=ux3.on kb;replace uy3:=uy3.on kb;replace uz3:=uz3.on kb;replace us3:=us3.on kb;clear kb;rw [HR.out] at mm1 mm2 mm3 mm5 ⊢
  obtain ⟨q,hq⟩:∃ q,q=r+r':=⟨_,rfl⟩
  rw [<-hq] at mm1 mm2 mm3 mm5 ⊢
  have HQL:=hid hq
  obtain ⟨ngq,hngq⟩:∃ b,b=rneg q:=⟨_,rfl⟩
  rw [<-hngq]
  have HNG:=hid hngq
  clear hq hngq
  refine bkq hK (HS.out _ ra rb) (h:=fun hHeld=>?_)
  clear hK K
  have hsz:=hB.size
  have za0:=rz.frozen 0
  have za1:=rz.frozen 1
  have za2:=rz.frozen 2
  have ya0:=qc0 rz
  have ya1:=qc1 rz
  have ya2:=qc2 rz
  refine rdq 7 (h:=fun K hK=>?_)
  go_simp
  generalize hw3:World.setCell _ _ _=w9
  have hst:RatStored w8 (w.heap.size+1+1) 49 (ngq) (Am) (dl q.num.natAbs) (cm) (Bm) (dl q.den) (dm) w9:=by rw [<-hw3]; exact zaf rz _ _ _ _ _ _ _
  clear hw3
  replace ra:=zad ra hst.grown (by omega)
  replace rb:=zad rb hst.grown (by omega)
  replace rz:=hst.row
  replace hB:=hst.below hB (by omega) (by omega)
  replace ux3:=hst.nat _ _ _ ux3;rw [<-hst.size] at ux3;replace uy3:=hst.nat _ _ _ uy3;rw [<-hst.size] at uy3;replace uz3:=hst.nat _ _ _ uz3;rw [<-hst.size] at uz3;replace us3:=hst.nat _ _ _ us3;rw [<-hst.size] at us3;replace mm1:=hst.nat _ _ _ mm1;rw [<-hst.size] at mm1;replace mm2:=hst.nat _ _ _ mm2;rw [<-hst.size] at mm2;clear hst
  refine bkq hK (HS.out _ ra rb) (h:=fun hHeld=>?_)
  clear hK K
  refine wpAnyH_done (by kernel_rfl) ?_ _
  clear hHeld;clear hsz za0 za1 za2 ya0 ya1 ya2
  go_wp2
  have e0:=qc0 rz
  have e1:=qc1 rz
  have e2:=qc2 rz
  refine bodyPost_ret (v:=.agg #[.bool (ngq),.slice (Am) (dl q.num.natAbs) (cm),.slice (Bm) (dl q.den) (dm)]) (by simp [results,Tryz.results85, go_sem,e0,e1,e2]) rfl ?_
  rw [<-HQL.out]
  exact ⟨Am,cm,Bm,dm,by rw [HNG.out],mm1,mm2,mm3,mm4,mm5,mm6,hB⟩
 ·have hb0:(rneg r == rneg r')=false:=by simp [hs]
  go_wp2_with fail
  refine (zeG Xx Xy kx ky x y w6 ux3 uy3 (by omega) (by omega)).mono ?_
  rintro e w9 ⟨rfl,rfl⟩
  by_cases hle:y<=x
  ·have hcm:(0:Int)<=cmpN x y:=by
    rcases Nat.lt_or_ge y x with e | e
    ·rw [zcm e]; omega
    ·rw [zcT (by omega)]; omega
   obtain ⟨cz,hcz⟩:∃ z,z=cmpN x y:=⟨_,rfl⟩
   rw [<-hcz] at hcm ⊢
   have HR:=hid (HGE.out hs hle)
   have hxy:dl (x - y)<=N+N:=Nat.le_trans (zaw (Nat.sub_le _ _)) hx
   have HLE:=hid hle
   clear hs HSM HGE HLT hcz hle
   go_wp2
   have HS:Hid (∀ w':World,w'.rowIs w.heap.size 49 3 (ratCell (.bool (rneg (r))) (.slice (Aa) (dl (r).num.natAbs) (ca)) (.slice (Ba) (dl (r).den) (da)))->w'.rowIs (w.heap.size+1) 49 3 (ratCell (.bool (rneg (r'))) (.slice (Ab) (dl (r').num.natAbs) (cb)) (.slice (Bb) (dl (r').den) (db)))->w'.cell? ⟨w.heap.size,0,none⟩=some (.bool (rneg (r)))/\w'.cell? ⟨w.heap.size,1,none⟩=some (.slice (Aa) (dl (r).num.natAbs) (ca))/\w'.cell? ⟨w.heap.size,2,none⟩=some (.slice (Ba) (dl (r).den) (da))/\w'.cell? ⟨w.heap.size+1,0,none⟩=some (.bool (rneg (r')))/\w'.cell? ⟨w.heap.size+1,1,none⟩=some (.slice (Ab) (dl (r').num.natAbs) (cb))/\w'.cell? ⟨w.heap.size+1,2,none⟩=some (.slice (Bb) (dl (r').den) (db))):=fun w' h1 h2=>⟨h1.cell (i:=0) (by omega),h1.cell (i:=1) (by omega),h1.cell (i:=2) (by omega),h2.cell (i:=0) (by omega),h2.cell (i:=1) (by omega),h2.cell (i:=2) (by omega)⟩
   refine wp_region_held_drew (S:=fun w'=>w'.cell? ⟨w.heap.size,0,none⟩=some (.bool (rneg (r)))/\w'.cell? ⟨w.heap.size,1,none⟩=some (.slice (Aa) (dl (r).num.natAbs) (ca))/\w'.cell? ⟨w.heap.size,2,none⟩=some (.slice (Ba) (dl (r).den) (da))/\w'.cell? ⟨w.heap.size+1,0,none⟩=some (.bool (rneg (r')))/\w'.cell? ⟨w.heap.size+1,1,none⟩=some (.slice (Ab) (dl (r').num.natAbs) (cb))/\w'.cell? ⟨w.heap.size+1,2,none⟩=some (.slice (Bb) (dl (r').den) (db))) (by kernel_rfl) (HS.out _ (show World.rowIs (World.drew _) _ _ _ _ from ra) (show World.rowIs (World.drew _) _ _ _ _ from rb)) (fun hHeld=>?_)
   clear ea0 ea1 ea2 eb0 eb1 eb2
   have kb:=(Below.refl w6.heap.size w6).drew
   replace ra:=zaa ra kb;replace rb:=zaa rb kb;replace rz:=zaa rz kb;replace hB:=onS hB kb;replace ux3:=ux3.on kb;replace uy3:=uy3.on kb;replace uz3:=uz3.on kb;clear kb
   refine tkq 0 (h:=tkq 1 (h:=tkq 2 (h:=tkq 3 (h:=tkq 5 (h:=?_)))))
   refine rdq 4 (h:=fun K hK=>?_)
   go_simp
   go_wp2_with fail
   refine (zde Xx Xy kx ky x y _ ux3 uy3 HLE.out (by omega)).mono ?_
   rintro e w7 ⟨Xs,ks,rfl,us1,us2,us3,kb⟩
   replace ra:=zaa ra kb;replace rb:=zaa rb kb;replace rz:=zaa rz kb;replace hB:=onS hB kb;replace ux3:=ux3.on kb;replace uy3:=uy3.on kb;replace uz3:=uz3.on kb;clear kb
   refine bkq hK (HS.out _ ra rb) (h:=fun hHeld=>?_)
   clear hK K
   refine rdq 6 (h:=fun K hK=>?_)
   go_simp
   go_wp2_with fail
   refine (zbe (rneg r) Xs Xz (dl (x - y)) ks (dl z) kz (x - y) z _ us3.raw uz3.raw us1 us2 uz1 uz2 (by omega) (by omega)).mono ?_
   rintro e w8 ⟨Am,cm,Bm,dm,rfl,mm1,mm2,mm3,mm4,mm5,mm6,kb⟩
   replace ra:=zaa ra kb;replace rb:=zaa rb kb;replace rz:=zaa rz kb;replace hB:=onS hB kb;replace ux3:=ux3.on kb;replace uy3:=uy3.on kb;replace uz3:=uz3.on kb;replace us3:=us3.on kb;clear kb;rw [HR.out] at mm1 mm2 mm3 mm5 ⊢
   obtain ⟨q,hq⟩:∃ q,q=r+r':=⟨_,rfl⟩
   rw [<-hq] at mm1 mm2 mm3 mm5 ⊢
   have HQL:=hid hq
   obtain ⟨ngq,hngq⟩:∃ b,b=rneg q:=⟨_,rfl⟩
   rw [<-hngq]
   have HNG:=hid hngq
   clear hq hngq
   refine bkq hK (HS.out _ ra rb) (h:=fun hHeld=>?_)
   clear hK K
   have hsz:=hB.size
   have za0:=rz.frozen 0
   have za1:=rz.frozen 1
   have za2:=rz.frozen 2
   have ya0:=qc0 rz
   have ya1:=qc1 rz
   have ya2:=qc2 rz
   refine rdq 7 (h:=fun K hK=>?_)
   go_simp
   generalize hw3:World.setCell _ _ _=w9
   have hst:RatStored w8 (w.heap.size+1+1) 49 (ngq) (Am) (dl q.num.natAbs) (cm) (Bm) (dl q.den) (dm) w9:=by rw [<-hw3]; exact zaf rz _ _ _ _ _ _ _
   clear hw3
   replace ra:=zad ra hst.grown (by omega)
   replace rb:=zad rb hst.grown (by omega)
   replace rz:=hst.row
   replace hB:=hst.below hB (by omega) (by omega)
   replace ux3:=hst.nat _ _ _ ux3;rw [<-hst.size] at ux3;replace uy3:=hst.nat _ _ _ uy3;rw [<-hst.size] at uy3;replace uz3:=hst.nat _ _ _ uz3;rw [<-hst.size] at uz3;replace us3:=hst.nat _ _ _ us3;rw [<-hst.size] at us3;replace mm1:=hst.nat _ _ _ mm1;rw [<-hst.size] at mm1;replace mm2:=hst.nat _ _ _ mm2;rw [<-hst.size] at mm2;clear hst
   refine bkq hK (HS.out _ ra rb) (h:=fun hHeld=>?_)
   clear hK K
   refine wpAnyH_done (by kernel_rfl) ?_ _
   clear hHeld;clear hsz za0 za1 za2 ya0 ya1 ya2
   go_wp2
   have e0:=qc0 rz
   have e1:=qc1 rz
   have e2:=qc2 rz
   refine bodyPost_ret (v:=.agg #[.bool (ngq),.slice (Am) (dl q.num.natAbs) (cm),.slice (Bm) (dl q.den) (dm)]) (by simp [results,Tryz.results85, go_sem,e0,e1,e2]) rfl ?_
   rw [<-HQL.out]
   exact ⟨Am,cm,Bm,dm,by rw [HNG.out],mm1,mm2,mm3,mm4,mm5,mm6,hB⟩
  ·have hcm:¬ (0:Int)<=cmpN x y:=by rw [zcS (by omega)]; omega
   obtain ⟨cz,hcz⟩:∃ z,z=cmpN x y:=⟨_,rfl⟩
   rw [<-hcz] at hcm ⊢
   have HR:=hid (HLT.out hs (by omega))
   have hxy:dl (y - x)<=N+N:=Nat.le_trans (zaw (Nat.sub_le _ _)) hy
   have HLE:Hid (x<=y):=by show _<=_; omega
   clear hs HSM HGE HLT hcz hle
   go_wp2
   have HS:Hid (∀ w':World,w'.rowIs w.heap.size 49 3 (ratCell (.bool (rneg (r))) (.slice (Aa) (dl (r).num.natAbs) (ca)) (.slice (Ba) (dl (r).den) (da)))->w'.rowIs (w.heap.size+1) 49 3 (ratCell (.bool (rneg (r'))) (.slice (Ab) (dl (r').num.natAbs) (cb)) (.slice (Bb) (dl (r').den) (db)))->w'.cell? ⟨w.heap.size,0,none⟩=some (.bool (rneg (r)))/\w'.cell? ⟨w.heap.size,1,none⟩=some (.slice (Aa) (dl (r).num.natAbs) (ca))/\w'.cell? ⟨w.heap.size,2,none⟩=some (.slice (Ba) (dl (r).den) (da))/\w'.cell? ⟨w.heap.size+1,0,none⟩=some (.bool (rneg (r')))/\w'.cell? ⟨w.heap.size+1,1,none⟩=some (.slice (Ab) (dl (r').num.natAbs) (cb))/\w'.cell? ⟨w.heap.size+1,2,none⟩=some (.slice (Bb) (dl (r').den) (db))):=fun w' h1 h2=>⟨h1.cell (i:=0) (by omega),h1.cell (i:=1) (by omega),h1.cell (i:=2) (by omega),h2.cell (i:=0) (by omega),h2.cell (i:=1) (by omega),h2.cell (i:=2) (by omega)⟩
   refine wp_region_held_drew (S:=fun w'=>w'.cell? ⟨w.heap.size,0,none⟩=some (.bool (rneg (r)))/\w'.cell? ⟨w.heap.size,1,none⟩=some (.slice (Aa) (dl (r).num.natAbs) (ca))/\w'.cell? ⟨w.heap.size,2,none⟩=some (.slice (Ba) (dl (r).den) (da))/\w'.cell? ⟨w.heap.size+1,0,none⟩=some (.bool (rneg (r')))/\w'.cell? ⟨w.heap.size+1,1,none⟩=some (.slice (Ab) (dl (r').num.natAbs) (cb))/\w'.cell? ⟨w.heap.size+1,2,none⟩=some (.slice (Bb) (dl (r').den) (db))) (by kernel_rfl) (HS.out _ (show World.rowIs (World.drew _) _ _ _ _ from ra) (show World.rowIs (World.drew _) _ _ _ _ from rb)) (fun hHeld=>?_)
   clear ea0 ea1 ea2 eb0 eb1 eb2
   have kb:=(Below.refl w6.heap.size w6).drew
   replace ra:=zaa ra kb;replace rb:=zaa rb kb;replace rz:=zaa rz kb;replace hB:=onS hB kb;replace ux3:=ux3.on kb;replace uy3:=uy3.on kb;replace uz3:=uz3.on kb;clear kb
   refine tkq 0 (h:=tkq 1 (h:=tkq 2 (h:=tkq 3 (h:=tkq 5 (h:=?_)))))
   refine rdq 4 (h:=fun K hK=>?_)
   go_simp
   go_wp2_with fail
   refine (zde Xy Xx ky kx y x _ uy3 ux3 HLE.out (by omega)).mono ?_
   rintro e w7 ⟨Xs,ks,rfl,us1,us2,us3,kb⟩
   replace ra:=zaa ra kb;replace rb:=zaa rb kb;replace rz:=zaa rz kb;replace hB:=onS hB kb;replace ux3:=ux3.on kb;replace uy3:=uy3.on kb;replace uz3:=uz3.on kb;clear kb
   refine bkq hK (HS.out _ ra rb) (h:=fun hHeld=>?_)
   clear hK K
   refine rdq 6 (h:=fun K hK=>?_)
   go_simp
   go_wp2_with fail
   refine (zbe (rneg r') Xs Xz (dl (y - x)) ks (dl z) kz (y - x) z _ us3.raw uz3.raw us1 us2 uz1 uz2 (by omega) (by omega)).mono ?_
   rintro e w8 ⟨Am,cm,Bm,dm,rfl,mm1,mm2,mm3,mm4,mm5,mm6,kb⟩
   replace ra:=zaa ra kb;replace rb:=zaa rb kb;replace rz:=zaa rz kb;replace hB:=onS hB kb;replace ux3:=ux3.on kb;replace uy3:=uy3.on kb;replace uz3:=uz3.on kb;replace us3:=us3.on kb;clear kb;rw [HR.out] at mm1 mm2 mm3 mm5 ⊢
   obtain ⟨q,hq⟩:∃ q,q=r+r':=⟨_,rfl⟩
   rw [<-hq] at mm1 mm2 mm3 mm5 ⊢
   have HQL:=hid hq
   obtain ⟨ngq,hngq⟩:∃ b,b=rneg q:=⟨_,rfl⟩
   rw [<-hngq]
   have HNG:=hid hngq
   clear hq hngq
   refine bkq hK (HS.out _ ra rb) (h:=fun hHeld=>?_)
   clear hK K
   have hsz:=hB.size
   have za0:=rz.frozen 0
   have za1:=rz.frozen 1
   have za2:=rz.frozen 2
   have ya0:=qc0 rz
   have ya1:=qc1 rz
   have ya2:=qc2 rz
   refine rdq 7 (h:=fun K hK=>?_)
   go_simp
   generalize hw3:World.setCell _ _ _=w9
   have hst:RatStored w8 (w.heap.size+1+1) 49 (ngq) (Am) (dl q.num.natAbs) (cm) (Bm) (dl q.den) (dm) w9:=by rw [<-hw3]; exact zaf rz _ _ _ _ _ _ _
   clear hw3
   replace ra:=zad ra hst.grown (by omega)
   replace rb:=zad rb hst.grown (by omega)
   replace rz:=hst.row
   replace hB:=hst.below hB (by omega) (by omega)
   replace ux3:=hst.nat _ _ _ ux3;rw [<-hst.size] at ux3;replace uy3:=hst.nat _ _ _ uy3;rw [<-hst.size] at uy3;replace uz3:=hst.nat _ _ _ uz3;rw [<-hst.size] at uz3;replace us3:=hst.nat _ _ _ us3;rw [<-hst.size] at us3;replace mm1:=hst.nat _ _ _ mm1;rw [<-hst.size] at mm1;replace mm2:=hst.nat _ _ _ mm2;rw [<-hst.size] at mm2;clear hst
   refine bkq hK (HS.out _ ra rb) (h:=fun hHeld=>?_)
   clear hK K
   refine wpAnyH_done (by kernel_rfl) ?_ _
   clear hHeld;clear hsz za0 za1 za2 ya0 ya1 ya2
   go_wp2
   have e0:=qc0 rz
   have e1:=qc1 rz
   have e2:=qc2 rz
   refine bodyPost_ret (v:=.agg #[.bool (ngq),.slice (Am) (dl q.num.natAbs) (cm),.slice (Bm) (dl q.den) (dm)]) (by simp [results,Tryz.results85, go_sem,e0,e1,e2]) rfl ?_
   rw [<-HQL.out]
   exact ⟨Am,cm,Bm,dm,by rw [HNG.out],mm1,mm2,mm3,mm4,mm5,mm6,hB⟩
theorem zfe (v v':Value) (r r':Rat) (N:Nat) (w:World) (h:RatRaw w w.heap.size v r N) (h':RatRaw w w.heap.size v' r' N) (hN:N<=33554432) (hr:rsz r N) (hr':rsz r' N) :
  Calls Tryz.prog 90 #[v,v'] w (RatPost (r - r') w):=by
 have hv:∃ s A n c A2 m c2,v=.agg #[.bool s,.slice A n c,.slice A2 m c2]:=by obtain ⟨s,A,n,c,A2,m,c2,x,y,rfl,_⟩:=h; exact ⟨s,A,n,c,A2,m,c2,rfl⟩
 obtain ⟨s,A,n,c,A2,m,c2,rfl⟩:=hv
 have hv':∃ s A n c A2 m c2,v'=.agg #[.bool s,.slice A n c,.slice A2 m c2]:=by obtain ⟨s,A,n,c,A2,m,c2,x,y,rfl,_⟩:=h'; exact ⟨s,A,n,c,A2,m,c2,rfl⟩
 obtain ⟨s',A',n',c',A2',m',c2',rfl⟩:=hv'
 have hb0:=zab w (.cells #[.bool s,.slice A n c,.slice A2 m c2] 49)
 have hb1:=zab (w.alloc (.cells #[.bool s,.slice A n c,.slice A2 m c2] 49)) (.cells #[.bool s',.slice A' n' c',.slice A2' m' c2'] 49)
 have s0:(w.alloc (.cells #[.bool s,.slice A n c,.slice A2 m c2] 49)).heap.size=w.heap.size+1:=by simp
 have s1:((w.alloc (.cells #[.bool s,.slice A n c,.slice A2 m c2] 49)).alloc (.cells #[.bool s',.slice A' n' c',.slice A2' m' c2'] 49)).heap.size=w.heap.size+1+1:=by simp
 have ra:=zaa (zae (w:=w) (a:=.bool s) (b:=.slice A n c) (c:=.slice A2 m c2) (T := 49)) hb1
 have rb:=zae (w:=w.alloc (.cells #[.bool s,.slice A n c,.slice A2 m c2] 49)) (a:=.bool s') (b:=.slice A' n' c') (c:=.slice A2' m' c2') (T := 49)
 have hB:=onS hb0 hb1
 rw [s0] at rb
 have ha:=h.on hB
 have hb:=h'.on hB
 have hb2:=zab ((w.alloc (.cells #[.bool s,.slice A n c,.slice A2 m c2] 49)).alloc (.cells #[.bool s',.slice A' n' c',.slice A2' m' c2'] 49)) (.cells #[.bool false,.slice none 0 0,.slice none 0 0] 49)
 have rz:=zae (w:=(w.alloc (.cells #[.bool s,.slice A n c,.slice A2 m c2] 49)).alloc (.cells #[.bool s',.slice A' n' c',.slice A2' m' c2'] 49)) (a:=.bool false) (b:=.slice none 0 0) (c:=.slice none 0 0) (T := 49)
 rw [s1] at rz;replace ra:=zaa ra hb2;replace rb:=zaa rb hb2;replace hB:=onS hB hb2;replace ha:=ha.on hb2;replace hb:=hb.on hb2;clear hb2;clear hb0 hb1 s0 s1 h h'
 go_enter Tryz.func90, Tryz.ntmps90
 go_wp2
 have HS:Hid (∀ w':World,w'.rowIs w.heap.size 49 3 (ratCell (.bool (s)) (.slice (A) (n) (c)) (.slice (A2) (m) (c2)))->w'.rowIs (w.heap.size+1) 49 3 (ratCell (.bool (s')) (.slice (A') (n') (c')) (.slice (A2') (m') (c2')))->w'.cell? ⟨w.heap.size,0,none⟩=some (.bool (s))/\w'.cell? ⟨w.heap.size,1,none⟩=some (.slice (A) (n) (c))/\w'.cell? ⟨w.heap.size,2,none⟩=some (.slice (A2) (m) (c2))/\w'.cell? ⟨w.heap.size+1,0,none⟩=some (.bool (s'))/\w'.cell? ⟨w.heap.size+1,1,none⟩=some (.slice (A') (n') (c'))/\w'.cell? ⟨w.heap.size+1,2,none⟩=some (.slice (A2') (m') (c2'))):=fun w' h1 h2=>⟨h1.cell (i:=0) (by omega),h1.cell (i:=1) (by omega),h1.cell (i:=2) (by omega),h2.cell (i:=0) (by omega),h2.cell (i:=1) (by omega),h2.cell (i:=2) (by omega)⟩
 refine wp_region_held_drew (S:=fun w'=>w'.cell? ⟨w.heap.size,0,none⟩=some (.bool (s))/\w'.cell? ⟨w.heap.size,1,none⟩=some (.slice (A) (n) (c))/\w'.cell? ⟨w.heap.size,2,none⟩=some (.slice (A2) (m) (c2))/\w'.cell? ⟨w.heap.size+1,0,none⟩=some (.bool (s'))/\w'.cell? ⟨w.heap.size+1,1,none⟩=some (.slice (A') (n') (c'))/\w'.cell? ⟨w.heap.size+1,2,none⟩=some (.slice (A2') (m') (c2'))) (by kernel_rfl) (HS.out _ (show World.rowIs (World.drew _) _ _ _ _ from ra) (show World.rowIs (World.drew _) _ _ _ _ from rb)) (fun hHeld=>?_)
 have kb:=(Below.refl (((w.alloc (.cells #[.bool s,.slice A n c,.slice A2 m c2] 49)).alloc (.cells #[.bool s',.slice A' n' c',.slice A2' m' c2'] 49)).alloc (.cells #[.bool false,.slice none 0 0,.slice none 0 0] 49)).heap.size (((w.alloc (.cells #[.bool s,.slice A n c,.slice A2 m c2] 49)).alloc (.cells #[.bool s',.slice A' n' c',.slice A2' m' c2'] 49)).alloc (.cells #[.bool false,.slice none 0 0,.slice none 0 0] 49))).drew
 replace ra:=zaa ra kb;replace rb:=zaa rb kb;replace rz:=zaa rz kb;replace hB:=onS hB kb;replace ha:=ha.on kb;replace hb:=hb.on kb;clear kb
 refine tkq 0 (h:=tkq 1 (h:=?_))
 refine rdq 2 (h:=fun K hK=>?_)
 go_simp
 go_wp2_with fail
 refine (zfc _ r' N _ hb (by omega) hr').mono ?_
 rintro e w0 ⟨At,ct,Bt,dt,rfl,mt1,mt2,mt3,mt4,mt5,mt6,kb⟩
 replace ra:=zaa ra kb;replace rb:=zaa rb kb;replace rz:=zaa rz kb;replace hB:=onS hB kb;replace ha:=ha.on kb;replace hb:=hb.on kb;clear kb
 have hrt:rsz (-r') N:=ziD hr'
 obtain ⟨tt,hq⟩:∃ q,q = -r':=⟨_,rfl⟩
 rw [<-hq] at mt1 mt2 mt3 mt5 hrt ⊢
 have HTT:=hid hq
 clear hq hb
 refine bkq hK (HS.out _ ra rb) (h:=fun hHeld=>?_)
 clear hK K
 refine rdq 3 (h:=fun K hK=>?_)
 go_simp
 go_wp2_with fail
 refine (zfd _ _ r tt N _ ha (RatOk.raw ⟨At,ct,Bt,dt,rfl,mt1,mt2,mt3,mt4,mt5,mt6⟩ hrt) hN hr hrt).mono ?_
 rintro e w1 ⟨Am,cm,Bm,dm,rfl,mm1,mm2,mm3,mm4,mm5,mm6,kb⟩
 replace ra:=zaa ra kb;replace rb:=zaa rb kb;replace rz:=zaa rz kb;replace hB:=onS hB kb;replace ha:=ha.on kb;replace mt1:=mt1.on kb;replace mt2:=mt2.on kb;clear kb
 have hsub:r+tt=r - r':=by rw [HTT.out,Rat.sub_eq_add_neg]
 rw [hsub] at mm1 mm2 mm3 mm5 ⊢;clear hsub
 obtain ⟨q,hq⟩:∃ q,q=r - r':=⟨_,rfl⟩
 rw [<-hq] at mm1 mm2 mm3 mm5 ⊢
 have HQL:=hid hq
 obtain ⟨ngq,hngq⟩:∃ b,b=rneg q:=⟨_,rfl⟩
 rw [<-hngq]
 have HNG:=hid hngq
 clear hq hngq
 refine bkq hK (HS.out _ ra rb) (h:=fun hHeld=>?_)
 clear hK K
 have hsz:=hB.size
 have za0:=rz.frozen 0
 have za1:=rz.frozen 1
 have za2:=rz.frozen 2
 have ya0:=qc0 rz
 have ya1:=qc1 rz
 have ya2:=qc2 rz
 refine rdq 4 (h:=fun K hK=>?_)
 go_simp
 generalize hw3:World.setCell _ _ _=w2
 have hst:RatStored w1 (w.heap.size+1+1) 49 (ngq) (Am) (dl q.num.natAbs) (cm) (Bm) (dl q.den) (dm) w2:=by rw [<-hw3]; exact zaf rz _ _ _ _ _ _ _
 clear hw3
 replace ra:=zad ra hst.grown (by omega)
 replace rb:=zad rb hst.grown (by omega)
 replace rz:=hst.row
 replace hB:=hst.below hB (by omega) (by omega)
 replace ha:=hst.raw ha;rw [<-hst.size] at ha;replace mt1:=hst.nat _ _ _ mt1;rw [<-hst.size] at mt1;replace mt2:=hst.nat _ _ _ mt2;rw [<-hst.size] at mt2;replace mm1:=hst.nat _ _ _ mm1;rw [<-hst.size] at mm1;replace mm2:=hst.nat _ _ _ mm2;rw [<-hst.size] at mm2;clear hst
 refine bkq hK (HS.out _ ra rb) (h:=fun hHeld=>?_)
 clear hK K
 refine wpAnyH_done (by kernel_rfl) ?_ _
 clear hHeld;clear hsz za0 za1 za2 ya0 ya1 ya2
 go_wp2
 have e0:=qc0 rz
 have e1:=qc1 rz
 have e2:=qc2 rz
 refine bodyPost_ret (v:=.agg #[.bool (ngq),.slice (Am) (dl q.num.natAbs) (cm),.slice (Bm) (dl q.den) (dm)]) (by simp [results,Tryz.results90, go_sem,e0,e1,e2]) rfl ?_
 rw [<-HQL.out]
 exact ⟨Am,cm,Bm,dm,by rw [HNG.out],mm1,mm2,mm3,mm4,mm5,mm6,hB⟩
theorem zdh (v v':Value) (r r':Rat) (N:Nat) (w:World) (h:RatRaw w w.heap.size v r N) (h':RatRaw w w.heap.size v' r' N) (hN:N<=33554432) (hr:rsz r N) (hr':rsz r' N) :
  Calls Tryz.prog 29 #[v,v'] w fun e w'=>e=.returned (.int .i64 (rsign (r - r')))/\Below w.heap.size w w':=by
 have hv:∃ s A n c A2 m c2,v=.agg #[.bool s,.slice A n c,.slice A2 m c2]:=by obtain ⟨s,A,n,c,A2,m,c2,x,y,rfl,_⟩:=h; exact ⟨s,A,n,c,A2,m,c2,rfl⟩
 obtain ⟨s,A,n,c,A2,m,c2,rfl⟩:=hv
 have hv':∃ s A n c A2 m c2,v'=.agg #[.bool s,.slice A n c,.slice A2 m c2]:=by obtain ⟨s,A,n,c,A2,m,c2,x,y,rfl,_⟩:=h'; exact ⟨s,A,n,c,A2,m,c2,rfl⟩
 obtain ⟨s',A',n',c',A2',m',c2',rfl⟩:=hv'
 have hb0:=zab w (.cells #[.bool s,.slice A n c,.slice A2 m c2] 49)
 have hb1:=zab (w.alloc (.cells #[.bool s,.slice A n c,.slice A2 m c2] 49)) (.cells #[.bool s',.slice A' n' c',.slice A2' m' c2'] 49)
 have s0:(w.alloc (.cells #[.bool s,.slice A n c,.slice A2 m c2] 49)).heap.size=w.heap.size+1:=by simp
 have s1:((w.alloc (.cells #[.bool s,.slice A n c,.slice A2 m c2] 49)).alloc (.cells #[.bool s',.slice A' n' c',.slice A2' m' c2'] 49)).heap.size=w.heap.size+1+1:=by simp
 have ra:=zaa (zae (w:=w) (a:=.bool s) (b:=.slice A n c) (c:=.slice A2 m c2) (T := 49)) hb1
 have rb:=zae (w:=w.alloc (.cells #[.bool s,.slice A n c,.slice A2 m c2] 49)) (a:=.bool s') (b:=.slice A' n' c') (c:=.slice A2' m' c2') (T := 49)
 have hB:=onS hb0 hb1
 rw [s0] at rb
 have ha:=h.on hB
 have hb:=h'.on hB
 clear hb0 hb1 s0 s1 h h' ra rb
 go_enter Tryz.func29, Tryz.ntmps29
 go_wp2_with fail
 refine (zfe _ _ r r' N _ ha hb hN hr hr').mono ?_
 rintro e w0 ⟨At,ct,Bt,dt,rfl,mt1,mt2,mt3,mt4,mt5,mt6,kb⟩
 replace hB:=onS hB kb;clear kb
 have hrt:=zkd hr hr'
 obtain ⟨tt,hq⟩:∃ q,q=r - r':=⟨_,rfl⟩
 rw [<-hq] at mt1 mt2 mt3 mt5 hrt ⊢
 have HTT:=hid hq
 clear hq ha hb
 go_wp2_with fail
 refine (zcK _ tt (N+N+1) _ (RatOk.raw ⟨At,ct,Bt,dt,rfl,mt1,mt2,mt3,mt4,mt5,mt6⟩ hrt) (by omega)).mono ?_
 rintro e w1 ⟨rfl,kb⟩
 replace hB:=onS hB kb;clear kb
 go_wp2
 go_ret
 exact ⟨by rw [<-HTT.out]; rfl,hB⟩
theorem zeL (x:Int) (w:World) (h0 : -4294967296<=x) (h1:x<=4294967296) :
  Calls Tryz.prog 97 #[.int .i64 x] w (NatPost x.natAbs w):=by
 by_cases hx:x<0
 ·obtain ⟨y,hy⟩:∃ y:Nat,-(x+1)=(y:Int):=Int.eq_ofNat_of_zero_le (by omega)
  have HA:Hid (x.natAbs=y+1):=by show _=_; omega
  have hyb:y<=4294967296:=by omega
  have hd1:dl y<=2:=zdO (by omega)
  have hone1:dl 1=1:=zb4
  have hm:((y:Int) % 18446744073709551616)=(y:Int):=by omega
  rw [HA.out]
  go_enter Tryz.func97, Tryz.ntmps97
  go_wp2_with fail
  refine (zfw y w (by omega)).mono ?_
  rintro e w1 ⟨A,c,rfl,a1,a2,a3,a4⟩
  have hb:=zcj w1 (Obj.cells #[Value.int .u32 ((1:Nat):Int)] 110)
  have hone:=zaQ (w:=w1) 110 (x:=1) (by omega) (by omega)
  have a5:=a3.on hb
  have hB:=onS a4 hb
  have HADD:=hid (zda A (some ⟨w1.heap.size,0,none⟩) c 1 y 1 _ a5 hone (by omega) (by omega))
  rw [hone1] at HADD;clear a3 a4 hb hone1 hone a5
  go_wp2_with fail
  refine HADD.out.mono ?_
  rintro e w2 ⟨A2,c2,rfl,b1,b2,b3,b4⟩
  have hB2:=onS hB b4
  clear hB b4 HADD
  go_wp2
  go_ret
  exact ⟨A2,c2,rfl,b1,b2,b3,hB2⟩
 ·obtain ⟨y,rfl⟩:=Int.eq_ofNat_of_zero_le (show 0<=x by omega)
  have HA:Hid ((y:Int).natAbs=y):=by show _=_; omega
  have hm:((y:Int) % 18446744073709551616)=(y:Int):=by omega
  rw [HA.out]
  go_enter Tryz.func97, Tryz.ntmps97
  go_wp2_with fail
  refine (zfw y w (by omega)).mono ?_
  rintro e w1 ⟨A,c,rfl,a1,a2,a3,a4⟩
  go_wp2
  go_ret
  exact ⟨A,c,rfl,a1,a2,a3,a4⟩
theorem zke (s:Bool) (x:Nat):rv s x 1=(((if s then -(x:Int) else (x:Int)):Int):Rat):=by
 unfold rv
 exact Rat.mkRat_one _
theorem zgd (a b:Int) (w:World) (h0 : -4294967296<=a) (h1:a<=4294967296) (h2 : -4294967296<=b) (h3:b<=4294967296) :
  Calls Tryz.prog 34 #[.int .i64 a,.int .i64 b] w (RatPost (rv (decide (a<0) != decide (b<0)) a.natAbs b.natAbs) w):=by
 have hB:=zab w (.cells #[.bool false,.slice none 0 0,.slice none 0 0] 49)
 have rz:=zae (w:=w) (a:=.bool false) (b:=.slice none 0 0) (c:=.slice none 0 0) (T := 49)
 have hd1:dl a.natAbs<=2:=zdO (by omega)
 have hd2:dl b.natAbs<=2:=zdO (by omega)
 obtain ⟨x,hx⟩:∃ x,x=a.natAbs:=⟨_,rfl⟩
 obtain ⟨y,hy⟩:∃ x,x=b.natAbs:=⟨_,rfl⟩
 rw [<-hx] at hd1 ⊢;rw [<-hy] at hd2 ⊢
 have HX:=hid hx
 have HY:=hid hy
 obtain ⟨sa,hsa⟩:∃ s,s=decide (a<0):=⟨_,rfl⟩
 obtain ⟨sb,hsb⟩:∃ s,s=decide (b<0):=⟨_,rfl⟩
 rw [<-hsa,<-hsb]
 have HSA:=hid hsa
 have HSB:=hid hsb
 clear hx hy hsa hsb
 go_enter Tryz.func34, Tryz.ntmps34
 go_wp2_with fail
 refine (zeL a _ h0 h1).mono ?_
 rintro e w0 ⟨Xx,kx,rfl,ux1,ux2,ux3,kb⟩
 replace rz:=zaa rz kb;replace hB:=onS hB kb;clear kb;rw [<-HX.out] at ux1 ux3 ⊢
 go_wp2_with fail
 refine (zeL b _ h2 h3).mono ?_
 rintro e w1 ⟨Xy,ky,rfl,uy1,uy2,uy3,kb⟩
 replace rz:=zaa rz kb;replace hB:=onS hB kb;replace ux3:=ux3.on kb;clear kb;rw [<-HY.out] at uy1 uy3 ⊢;rw [<-HSA.out,<-HSB.out]
 go_wp2_with fail
 refine (zbe (sa != sb) Xx Xy (dl x) kx (dl y) ky x y _ ux3.raw uy3.raw ux1 ux2 uy1 uy2 (by omega) (by omega)).mono ?_
 rintro e w2 ⟨Am,cm,Bm,dm,rfl,mm1,mm2,mm3,mm4,mm5,mm6,kb⟩
 replace rz:=zaa rz kb;replace hB:=onS hB kb;replace ux3:=ux3.on kb;replace uy3:=uy3.on kb;clear kb
 obtain ⟨q,hq⟩:∃ q,q=rv (sa != sb) x y:=⟨_,rfl⟩
 rw [<-hq] at mm1 mm2 mm3 mm5 ⊢
 have HQL:=hid hq
 obtain ⟨ngq,hngq⟩:∃ b,b=rneg q:=⟨_,rfl⟩
 rw [<-hngq]
 have HNG:=hid hngq
 clear hq hngq
 have hsz:=hB.size
 have za0:=rz.frozen 0
 have za1:=rz.frozen 1
 have za2:=rz.frozen 2
 have ya0:=qc0 rz
 have ya1:=qc1 rz
 have ya2:=qc2 rz
 go_wp2
 generalize hw3:World.setCell _ _ _=w3
 have hst:RatStored w2 (w.heap.size) 49 (ngq) (Am) (dl q.num.natAbs) (cm) (Bm) (dl q.den) (dm) w3:=by rw [<-hw3]; exact zaf rz _ _ _ _ _ _ _
 clear hw3;replace rz:=hst.row
 replace hB:=hst.below hB (by omega) (by omega)
 replace ux3:=hst.nat _ _ _ ux3;rw [<-hst.size] at ux3;replace uy3:=hst.nat _ _ _ uy3;rw [<-hst.size] at uy3;replace mm1:=hst.nat _ _ _ mm1;rw [<-hst.size] at mm1;replace mm2:=hst.nat _ _ _ mm2;rw [<-hst.size] at mm2;clear hst;clear hsz za0 za1 za2 ya0 ya1 ya2
 have e0:=qc0 rz
 have e1:=qc1 rz
 have e2:=qc2 rz
 refine bodyPost_ret (v:=.agg #[.bool (ngq),.slice (Am) (dl q.num.natAbs) (cm),.slice (Bm) (dl q.den) (dm)]) (by simp [results,Tryz.results34, go_sem,e0,e1,e2]) rfl ?_
 rw [<-HQL.out]
 exact ⟨Am,cm,Bm,dm,by rw [HNG.out],mm1,mm2,mm3,mm4,mm5,mm6,hB⟩
theorem zbi (a:Int) (w:World) (h0 : -4294967296<=a) (h1:a<=4294967296) :
  Calls Tryz.prog 24 #[.int .i64 a] w (RatPost (a:Rat) w):=by
 have hB:=zab w (.cells #[.bool false,.slice none 0 0,.slice none 0 0] 49)
 have rz:=zae (w:=w) (a:=.bool false) (b:=.slice none 0 0) (c:=.slice none 0 0) (T := 49)
 have hval:rv (decide (a<0) != decide ((1:Int)<0)) a.natAbs (1:Int).natAbs=(a:Rat):=by
  show rv _ _ 1=_
  rw [zke]
  congr 1
  by_cases h:a<0
  ·simp [h]; omega
  ·simp [h]; omega
 have HV:=hid hval
 clear hval
 go_enter Tryz.func24, Tryz.ntmps24
 go_wp2_with fail
 refine (zgd a 1 _ h0 h1 (by omega) (by omega)).mono ?_
 rintro e w0 ⟨Am,cm,Bm,dm,rfl,mm1,mm2,mm3,mm4,mm5,mm6,kb⟩
 replace rz:=zaa rz kb;replace hB:=onS hB kb;clear kb;rw [HV.out] at mm1 mm2 mm3 mm5 ⊢
 obtain ⟨q,hq⟩:∃ q,q=(a:Rat):=⟨_,rfl⟩
 rw [<-hq] at mm1 mm2 mm3 mm5 ⊢
 have HQL:=hid hq
 obtain ⟨ngq,hngq⟩:∃ b,b=rneg q:=⟨_,rfl⟩
 rw [<-hngq]
 have HNG:=hid hngq
 clear hq hngq
 have hsz:=hB.size
 have za0:=rz.frozen 0
 have za1:=rz.frozen 1
 have za2:=rz.frozen 2
 have ya0:=qc0 rz
 have ya1:=qc1 rz
 have ya2:=qc2 rz
 go_wp2
 generalize hw3:World.setCell _ _ _=w1
 have hst:RatStored w0 (w.heap.size) 49 (ngq) (Am) (dl q.num.natAbs) (cm) (Bm) (dl q.den) (dm) w1:=by rw [<-hw3]; exact zaf rz _ _ _ _ _ _ _
 clear hw3;replace rz:=hst.row
 replace hB:=hst.below hB (by omega) (by omega)
 replace mm1:=hst.nat _ _ _ mm1;rw [<-hst.size] at mm1;replace mm2:=hst.nat _ _ _ mm2;rw [<-hst.size] at mm2;clear hst;clear hsz za0 za1 za2 ya0 ya1 ya2
 have e0:=qc0 rz
 have e1:=qc1 rz
 have e2:=qc2 rz
 refine bodyPost_ret (v:=.agg #[.bool (ngq),.slice (Am) (dl q.num.natAbs) (cm),.slice (Bm) (dl q.den) (dm)]) (by simp [results,Tryz.results24, go_sem,e0,e1,e2]) rfl ?_
 rw [<-HQL.out]
 exact ⟨Am,cm,Bm,dm,by rw [HNG.out],mm1,mm2,mm3,mm4,mm5,mm6,hB⟩
def pairF (x y:Nat) (i:Nat):Nat:=if i=0 then x else y
theorem zak {w:World} {A1 A2:Option Addr} {c1 c2 x y:Nat} (T:TypeId) (h1:NatOk w w.heap.size A1 x) (h2:NatOk w w.heap.size A2 y) (k1:dl x<=c1) (k2:dl y<=c2) (m1:c1<=maxLen) (m2:c2<=maxLen) :
  NatTab (w.alloc (Obj.cells #[.slice A1 (dl x) c1,.slice A2 (dl y) c2] T)) (w.alloc (Obj.cells #[.slice A1 (dl x) c1,.slice A2 (dl y) c2] T)).heap.size (some ⟨w.heap.size,0,none⟩) 2 (pairF x y):=fun v hv=>by
 have hb:=zab w (Obj.cells #[.slice A1 (dl x) c1,.slice A2 (dl y) c2] T)
 match v,hv with
 | 0,_=>exact ⟨_,0,A1,c1,rfl,by simp,World.cell?_alloc_at _ _ _ _ rfl,k1,m1,h1.on hb⟩
 | 1,_=>exact ⟨_,0,A2,c2,rfl,by simp,World.cell?_alloc_at _ _ _ _ rfl,k2,m2,h2.on hb⟩
theorem zkS {w:World} {A1 A2:Option Addr} {c1 c2 x y:Nat} (T:TypeId) (h1:NatOk w w.heap.size A1 x) (h2:NatOk w w.heap.size A2 y) (k1:dl x<=c1) (k2:dl y<=c2) (m1:c1<=maxLen) (m2:c2<=maxLen) (d1:dl (x+y)<=536870912) :
  Calls Tryz.prog 221 #[.slice (some ⟨w.heap.size,0,none⟩) 2 2] (w.alloc (Obj.cells #[.slice A1 (dl x) c1,.slice A2 (dl y) c2] T)) (NatPost (x+y) (w.alloc (Obj.cells #[.slice A1 (dl x) c1,.slice A2 (dl y) c2] T))):=by
 have e:sumN (pairF x y) 2=x+y:=by simp [sumN,pairF]
 have:=zew (some ⟨w.heap.size,0,none⟩) 2 2 (pairF x y) _ (zak T h1 h2 k1 k2 m1 m2) (by omega) (hid fun k hk=>?_) (hid fun k hk=>?_)
 ·rwa [e] at this
 ·refine Nat.le_trans (zaw ?_) d1
  match k,hk with
  | 0,_=>simp [sumN]
  | 1,_=>simp [sumN,pairF]
  | 2,_=>rw [e]; exact Nat.le_refl _
 ·refine Nat.le_trans (zaw ?_) d1
  match k,hk with
  | 0,_=>simp [pairF]
  | 1,_=>simp [pairF]
theorem zax {w:World} {A:Option Addr} {x y:Nat} (h:NatTab w w.heap.size A 2 (pairF x y)) (d1:dl x<=536870912) (d2:dl y<=536870912) (d3:dl (x*y)<=536870912) :
  Calls Tryz.prog 168 #[.slice A 2 2] w (NatPost (x*y) w):=by
 have e:prodN (pairF x y) 2=x*y:=by simp [prodN,pairF]
 have:=zgu A 2 2 (pairF x y) _ h (by omega) (hid fun k hk=>?_) (hid fun k hk=>?_)
 ·rwa [e] at this
 ·match k,hk with
  | 0,_=>show dl 1<=_; rw [zbr (by omega) (by omega)]; omega
  | 1,_=>simp [prodN,pairF]; exact d1
  | 2,_=>rw [e]; exact d3
 ·match k,hk with
  | 0,_=>exact d1
  | 1,_=>exact d2
theorem zkf {w:World} {A:Option Addr} {x y:Nat} (h:NatTab w w.heap.size A 2 (pairF x y)) (d1:dl (x+y)<=536870912) :
  Calls Tryz.prog 221 #[.slice A 2 2] w (NatPost (x+y) w):=by
 have e:sumN (pairF x y) 2=x+y:=by simp [sumN,pairF]
 have:=zew A 2 2 (pairF x y) _ h (by omega) (hid fun k hk=>?_) (hid fun k hk=>?_)
 ·rwa [e] at this
 ·refine Nat.le_trans (zaw ?_) d1
  match k,hk with
  | 0,_=>simp [sumN]
  | 1,_=>simp [sumN,pairF]
  | 2,_=>rw [e]; exact Nat.le_refl _
 ·refine Nat.le_trans (zaw ?_) d1
  match k,hk with
  | 0,_=>simp [pairF]
  | 1,_=>simp [pairF]
theorem NatTab.letter {w W:World} {A:Option Addr} {m:Nat} {x:Nat->Nat} (e:W=w) (h:NatTab w w.heap.size A m x):NatTab W W.heap.size A m x:=by rw [e]; exact h
theorem zdF (A B A' B':Option Addr) (c d c' d':Nat) (r r':Rat) (N:Nat) (w:World) (m1:NatOk w w.heap.size A r.num.natAbs) (m2:NatOk w w.heap.size B r.den) (m3:dl r.num.natAbs<=c) (m4:c<=maxLen) (m5:dl r.den<=d) (m6:d<=maxLen)
  (n1:NatOk w w.heap.size A' r'.num.natAbs) (n2:NatOk w w.heap.size B' r'.den) (n3:dl r'.num.natAbs<=c') (n4:c'<=maxLen) (n5:dl r'.den<=d') (n6:d'<=maxLen) (hN:N<=33554432) (hr:rsz r N) (hr':rsz r' N) :
  Calls Tryz.prog 166 #[.agg #[.bool (rneg r),.slice A (dl r.num.natAbs) c,.slice B (dl r.den) d],.agg #[.bool (rneg r'),.slice A' (dl r'.num.natAbs) c',.slice B' (dl r'.den) d']] w (RatPost (r+r') w):=by
 have hb0:=zab w (.cells #[.bool (rneg r),.slice A (dl r.num.natAbs) c,.slice B (dl r.den) d] 49)
 have hb1:=zab (w.alloc (.cells #[.bool (rneg r),.slice A (dl r.num.natAbs) c,.slice B (dl r.den) d] 49)) (.cells #[.bool (rneg r'),.slice A' (dl r'.num.natAbs) c',.slice B' (dl r'.den) d'] 49)
 have hb2:=zab ((w.alloc (.cells #[.bool (rneg r),.slice A (dl r.num.natAbs) c,.slice B (dl r.den) d] 49)).alloc (.cells #[.bool (rneg r'),.slice A' (dl r'.num.natAbs) c',.slice B' (dl r'.den) d'] 49)) (.cells #[.bool false,.slice none 0 0,.slice none 0 0] 49)
 have s0:(w.alloc (.cells #[.bool (rneg r),.slice A (dl r.num.natAbs) c,.slice B (dl r.den) d] 49)).heap.size=w.heap.size+1:=by simp
 have s1:((w.alloc (.cells #[.bool (rneg r),.slice A (dl r.num.natAbs) c,.slice B (dl r.den) d] 49)).alloc (.cells #[.bool (rneg r'),.slice A' (dl r'.num.natAbs) c',.slice B' (dl r'.den) d'] 49)).heap.size=w.heap.size+1+1:=by simp
 have ra:=zaa (zaa (zae (w:=w) (a:=.bool (rneg r)) (b:=.slice A (dl r.num.natAbs) c) (c:=.slice B (dl r.den) d) (T := 49)) hb1) hb2
 have rb:=zaa (zae (w:=w.alloc (.cells #[.bool (rneg r),.slice A (dl r.num.natAbs) c,.slice B (dl r.den) d] 49)) (a:=.bool (rneg r')) (b:=.slice A' (dl r'.num.natAbs) c') (c:=.slice B' (dl r'.den) d') (T := 49)) hb2
 have rz:=zae (w:=(w.alloc (.cells #[.bool (rneg r),.slice A (dl r.num.natAbs) c,.slice B (dl r.den) d] 49)).alloc (.cells #[.bool (rneg r'),.slice A' (dl r'.num.natAbs) c',.slice B' (dl r'.den) d'] 49)) (a:=.bool false) (b:=.slice none 0 0) (c:=.slice none 0 0) (T := 49)
 rw [s0] at rb;rw [s1] at rz
 have hB:=onS (onS hb0 hb1) hb2
 clear s0 s1 hb0 hb1 hb2;replace m1:=m1.on hB;replace m2:=m2.on hB;replace n1:=n1.on hB;replace n2:=n2.on hB
 have hr1:=hr.1
 have hr2:=hr.2
 have hr3:=hr'.1
 have hr4:=hr'.2
 have hx:=dl_mul_le' (show dl r.num.natAbs<=N from hr1) (show dl r'.den<=N from hr4)
 have hy:=dl_mul_le' (show dl r'.num.natAbs<=N from hr3) (show dl r.den<=N from hr2)
 have hz:=dl_mul_le' (show dl r.den<=N from hr2) (show dl r'.den<=N from hr4)
 have HSM:Hid (rneg r=rneg r'->rv (rneg r) (r.num.natAbs*r'.den+r'.num.natAbs*r.den) (r.den*r'.den)=r+r'):=fun e=>zcJ e
 have HGE:Hid (rneg r≠rneg r'->r'.num.natAbs*r.den<=r.num.natAbs*r'.den->rv (rneg r) (r.num.natAbs*r'.den - r'.num.natAbs*r.den) (r.den*r'.den)=r+r'):=fun e e2=>zd5 e e2
 have HLT:Hid (rneg r≠rneg r'->r.num.natAbs*r'.den<r'.num.natAbs*r.den->rv (rneg r') (r'.num.natAbs*r.den - r.num.natAbs*r'.den) (r.den*r'.den)=r+r'):=fun e e2=>zd6 e e2
 go_enter Tryz.func166, Tryz.ntmps166
 go_upto_region 1 with fail
 obtain ⟨w0,hw0⟩:∃ W,W=(((w.alloc (.cells #[.bool (rneg r),.slice A (dl r.num.natAbs) c,.slice B (dl r.den) d] 49)).alloc (.cells #[.bool (rneg r'),.slice A' (dl r'.num.natAbs) c',.slice B' (dl r'.den) d'] 49)).alloc (.cells #[.bool false,.slice none 0 0,.slice none 0 0] 49)):=⟨_,rfl⟩
 rw [<-hw0] at ra rb rz hB m1 m2 n1 n2 ⊢;clear hw0
 go_cut [5,6] (fun v5 v6 wx=>∃ Xx kx Xy ky,v5=.slice Xx (dl (r.num.natAbs*r'.den)) kx/\v6=.slice Xy (dl (r'.num.natAbs*r.den)) ky/\dl (r.num.natAbs*r'.den)<=kx/\kx<=maxLen/\dl (r'.num.natAbs*r.den)<=ky/\ky<=maxLen/\NatOk wx wx.heap.size Xx (r.num.natAbs*r'.den)/\NatOk wx wx.heap.size Xy (r'.num.natAbs*r.den)/\Below w0.heap.size w0 wx)
 case first =>
  have kw:=Below.refl w0.heap.size w0
  have HS:Hid (∀ w':World,w'.rowIs w.heap.size 49 3 (ratCell (.bool (rneg (r))) (.slice (A) (dl (r).num.natAbs) (c)) (.slice (B) (dl (r).den) (d)))->w'.rowIs (w.heap.size+1) 49 3 (ratCell (.bool (rneg (r'))) (.slice (A') (dl (r').num.natAbs) (c')) (.slice (B') (dl (r').den) (d')))->w'.cell? ⟨w.heap.size,0,none⟩=some (.bool (rneg (r)))/\w'.cell? ⟨w.heap.size,1,none⟩=some (.slice (A) (dl (r).num.natAbs) (c))/\w'.cell? ⟨w.heap.size,2,none⟩=some (.slice (B) (dl (r).den) (d))/\w'.cell? ⟨w.heap.size+1,0,none⟩=some (.bool (rneg (r')))/\w'.cell? ⟨w.heap.size+1,1,none⟩=some (.slice (A') (dl (r').num.natAbs) (c'))/\w'.cell? ⟨w.heap.size+1,2,none⟩=some (.slice (B') (dl (r').den) (d'))):=fun w' h1 h2=>⟨h1.cell (i:=0) (by omega),h1.cell (i:=1) (by omega),h1.cell (i:=2) (by omega),h2.cell (i:=0) (by omega),h2.cell (i:=1) (by omega),h2.cell (i:=2) (by omega)⟩
  refine wp_region_held_drew (S:=fun w'=>w'.cell? ⟨w.heap.size,0,none⟩=some (.bool (rneg (r)))/\w'.cell? ⟨w.heap.size,1,none⟩=some (.slice (A) (dl (r).num.natAbs) (c))/\w'.cell? ⟨w.heap.size,2,none⟩=some (.slice (B) (dl (r).den) (d))/\w'.cell? ⟨w.heap.size+1,0,none⟩=some (.bool (rneg (r')))/\w'.cell? ⟨w.heap.size+1,1,none⟩=some (.slice (A') (dl (r').num.natAbs) (c'))/\w'.cell? ⟨w.heap.size+1,2,none⟩=some (.slice (B') (dl (r').den) (d'))) (by kernel_rfl) (HS.out _ (show World.rowIs (World.drew _) _ _ _ _ from ra) (show World.rowIs (World.drew _) _ _ _ _ from rb)) (fun hHeld=>?_)
  obtain ⟨w1,hw⟩:∃ W,W=World.drew w0:=⟨_,rfl⟩
  have kb:Below w0.heap.size w0 w1:=by rw [hw]; exact (Below.refl _ _).drew
  rw [<-hw] at hHeld ⊢;clear hw;replace m1:=m1.on kb;replace m2:=m2.on kb;replace n1:=n1.on kb;replace n2:=n2.on kb;replace ra:=zaa ra kb;replace rb:=zaa rb kb;replace kw:=onS kw kb;clear kb
  refine tkq 0 (h:=tkq 1 (h:=tkq 2 (h:=tkq 3 (h:=tkq 6 (h:=tkq 7 (h:=tkq 8 (h:=tkq 9 (h:=?_))))))))
  refine rdq2 4 10 (h:=fun K hK=>?_) (h2:=fun K hK=>?_)
  ·go_simp
   obtain ⟨w2,hw⟩:∃ W,W=World.alloc w1 (Obj.cells #[.slice A (dl (r.num.natAbs)) c,.slice B' (dl (r'.den)) d'] 47):=⟨_,rfl⟩
   have kb:Below w1.heap.size w1 w2:=by rw [hw]; exact zab _ _
   have tbp:NatTab w2 w2.heap.size (some ⟨w1.heap.size,0,none⟩) 2 (pairF (r.num.natAbs) (r'.den)):=NatTab.letter hw (zak 47 m1 n2 m3 n5 m4 n6)
   rw [<-hw];clear hw;replace m1:=m1.on kb;replace m2:=m2.on kb;replace n1:=n1.on kb;replace n2:=n2.on kb;replace ra:=zaa ra kb;replace rb:=zaa rb kb;replace kw:=onS kw kb;clear kb
   obtain ⟨gp,hg⟩:∃ g,g=w1.heap.size:=⟨_,rfl⟩
   rw [<-hg] at tbp ⊢;clear hg
   refine bkq hK (HS.out _ ra rb) (h:=fun hHeld=>?_)
   clear hK K
   refine rdq2 5 10 (h:=fun K hK=>?_) (h2:=fun K hK=>?_)
   ·go_simp
    go_wp2_with fail
    refine (zax (x:=r.num.natAbs) (y:=r'.den) tbp (by omega) (by omega) (by omega)).mono ?_
    rintro e w3 ⟨Xx,kx,rfl,ux1,ux2,ux3,kb⟩
    replace m1:=m1.on kb;replace m2:=m2.on kb;replace n1:=n1.on kb;replace n2:=n2.on kb;replace ra:=zaa ra kb;replace rb:=zaa rb kb;replace kw:=onS kw kb;replace tbp:=tbp.on kb;clear kb;clear tbp
    refine bkq hK (HS.out _ ra rb) (h:=fun hHeld=>?_)
    clear hK K
    refine rdq 10 (h:=fun K hK=>?_)
    go_simp
    obtain ⟨w4,hw⟩:∃ W,W=World.alloc w3 (Obj.cells #[.slice A' (dl (r'.num.natAbs)) c',.slice B (dl (r.den)) d] 47):=⟨_,rfl⟩
    have kb:Below w3.heap.size w3 w4:=by rw [hw]; exact zab _ _
    have tbq:NatTab w4 w4.heap.size (some ⟨w3.heap.size,0,none⟩) 2 (pairF (r'.num.natAbs) (r.den)):=NatTab.letter hw (zak 47 n1 m2 n3 m5 n4 m6)
    rw [<-hw];clear hw;replace m1:=m1.on kb;replace m2:=m2.on kb;replace n1:=n1.on kb;replace n2:=n2.on kb;replace ra:=zaa ra kb;replace rb:=zaa rb kb;replace kw:=onS kw kb;replace ux3:=ux3.on kb;clear kb
    obtain ⟨gq,hg⟩:∃ g,g=w3.heap.size:=⟨_,rfl⟩
    rw [<-hg] at tbq ⊢;clear hg
    refine bkq hK (HS.out _ ra rb) (h:=fun hHeld=>?_)
    clear hK K
    refine rdq 11 (h:=fun K hK=>?_)
    go_simp
    go_wp2_with fail
    refine (zax (x:=r'.num.natAbs) (y:=r.den) tbq (by omega) (by omega) (by omega)).mono ?_
    rintro e w5 ⟨Xy,ky,rfl,uy1,uy2,uy3,kb⟩
    replace m1:=m1.on kb;replace m2:=m2.on kb;replace n1:=n1.on kb;replace n2:=n2.on kb;replace ra:=zaa ra kb;replace rb:=zaa rb kb;replace kw:=onS kw kb;replace ux3:=ux3.on kb;replace tbq:=tbq.on kb;clear kb;clear tbq
    refine bkq hK (HS.out _ ra rb) (h:=fun hHeld=>?_)
    clear hK K
    refine tkq 12 (h:=tkq 13 (h:=?_))
    refine wpAnyH_done (by kernel_rfl) ?_ _
    clear hHeld
    go_wp2
    go_meet
    exact ⟨Xx,kx,Xy,ky,rfl,rfl,ux1,ux2,uy1,uy2,ux3,uy3,kw⟩
   ·go_simp
    obtain ⟨w3,hw⟩:∃ W,W=World.alloc w2 (Obj.cells #[.slice A' (dl (r'.num.natAbs)) c',.slice B (dl (r.den)) d] 47):=⟨_,rfl⟩
    have kb:Below w2.heap.size w2 w3:=by rw [hw]; exact zab _ _
    have tbq:NatTab w3 w3.heap.size (some ⟨w2.heap.size,0,none⟩) 2 (pairF (r'.num.natAbs) (r.den)):=NatTab.letter hw (zak 47 n1 m2 n3 m5 n4 m6)
    rw [<-hw];clear hw;replace m1:=m1.on kb;replace m2:=m2.on kb;replace n1:=n1.on kb;replace n2:=n2.on kb;replace ra:=zaa ra kb;replace rb:=zaa rb kb;replace kw:=onS kw kb;replace tbp:=tbp.on kb;clear kb
    obtain ⟨gq,hg⟩:∃ g,g=w2.heap.size:=⟨_,rfl⟩
    rw [<-hg] at tbq ⊢;clear hg
    refine bkq hK (HS.out _ ra rb) (h:=fun hHeld=>?_)
    clear hK K
    refine rdq 5 (h:=fun K hK=>?_)
    go_simp
    go_wp2_with fail
    refine (zax (x:=r.num.natAbs) (y:=r'.den) tbp (by omega) (by omega) (by omega)).mono ?_
    rintro e w4 ⟨Xx,kx,rfl,ux1,ux2,ux3,kb⟩
    replace m1:=m1.on kb;replace m2:=m2.on kb;replace n1:=n1.on kb;replace n2:=n2.on kb;replace ra:=zaa ra kb;replace rb:=zaa rb kb;replace kw:=onS kw kb;replace tbp:=tbp.on kb;replace tbq:=tbq.on kb;clear kb;clear tbp
    refine bkq hK (HS.out _ ra rb) (h:=fun hHeld=>?_)
    clear hK K
    refine rdq 11 (h:=fun K hK=>?_)
    go_simp
    go_wp2_with fail
    refine (zax (x:=r'.num.natAbs) (y:=r.den) tbq (by omega) (by omega) (by omega)).mono ?_
    rintro e w5 ⟨Xy,ky,rfl,uy1,uy2,uy3,kb⟩
    replace m1:=m1.on kb;replace m2:=m2.on kb;replace n1:=n1.on kb;replace n2:=n2.on kb;replace ra:=zaa ra kb;replace rb:=zaa rb kb;replace kw:=onS kw kb;replace tbq:=tbq.on kb;replace ux3:=ux3.on kb;clear kb;clear tbq
    refine bkq hK (HS.out _ ra rb) (h:=fun hHeld=>?_)
    clear hK K
    refine tkq 12 (h:=tkq 13 (h:=?_))
    refine wpAnyH_done (by kernel_rfl) ?_ _
    clear hHeld
    go_wp2
    go_meet
    exact ⟨Xx,kx,Xy,ky,rfl,rfl,ux1,ux2,uy1,uy2,ux3,uy3,kw⟩
  ·go_simp
   obtain ⟨w2,hw⟩:∃ W,W=World.alloc w1 (Obj.cells #[.slice A' (dl (r'.num.natAbs)) c',.slice B (dl (r.den)) d] 47):=⟨_,rfl⟩
   have kb:Below w1.heap.size w1 w2:=by rw [hw]; exact zab _ _
   have tbq:NatTab w2 w2.heap.size (some ⟨w1.heap.size,0,none⟩) 2 (pairF (r'.num.natAbs) (r.den)):=NatTab.letter hw (zak 47 n1 m2 n3 m5 n4 m6)
   rw [<-hw];clear hw;replace m1:=m1.on kb;replace m2:=m2.on kb;replace n1:=n1.on kb;replace n2:=n2.on kb;replace ra:=zaa ra kb;replace rb:=zaa rb kb;replace kw:=onS kw kb;clear kb
   obtain ⟨gq,hg⟩:∃ g,g=w1.heap.size:=⟨_,rfl⟩
   rw [<-hg] at tbq ⊢;clear hg
   refine bkq hK (HS.out _ ra rb) (h:=fun hHeld=>?_)
   clear hK K
   refine rdq 4 (h:=fun K hK=>?_)
   go_simp
   obtain ⟨w3,hw⟩:∃ W,W=World.alloc w2 (Obj.cells #[.slice A (dl (r.num.natAbs)) c,.slice B' (dl (r'.den)) d'] 47):=⟨_,rfl⟩
   have kb:Below w2.heap.size w2 w3:=by rw [hw]; exact zab _ _
   have tbp:NatTab w3 w3.heap.size (some ⟨w2.heap.size,0,none⟩) 2 (pairF (r.num.natAbs) (r'.den)):=NatTab.letter hw (zak 47 m1 n2 m3 n5 m4 n6)
   rw [<-hw];clear hw;replace m1:=m1.on kb;replace m2:=m2.on kb;replace n1:=n1.on kb;replace n2:=n2.on kb;replace ra:=zaa ra kb;replace rb:=zaa rb kb;replace kw:=onS kw kb;replace tbq:=tbq.on kb;clear kb
   obtain ⟨gp,hg⟩:∃ g,g=w2.heap.size:=⟨_,rfl⟩
   rw [<-hg] at tbp ⊢;clear hg
   refine bkq hK (HS.out _ ra rb) (h:=fun hHeld=>?_)
   clear hK K
   refine rdq 5 (h:=fun K hK=>?_)
   go_simp
   go_wp2_with fail
   refine (zax (x:=r.num.natAbs) (y:=r'.den) tbp (by omega) (by omega) (by omega)).mono ?_
   rintro e w4 ⟨Xx,kx,rfl,ux1,ux2,ux3,kb⟩
   replace m1:=m1.on kb;replace m2:=m2.on kb;replace n1:=n1.on kb;replace n2:=n2.on kb;replace ra:=zaa ra kb;replace rb:=zaa rb kb;replace kw:=onS kw kb;replace tbq:=tbq.on kb;replace tbp:=tbp.on kb;clear kb;clear tbp
   refine bkq hK (HS.out _ ra rb) (h:=fun hHeld=>?_)
   clear hK K
   refine rdq 11 (h:=fun K hK=>?_)
   go_simp
   go_wp2_with fail
   refine (zax (x:=r'.num.natAbs) (y:=r.den) tbq (by omega) (by omega) (by omega)).mono ?_
   rintro e w5 ⟨Xy,ky,rfl,uy1,uy2,uy3,kb⟩
   replace m1:=m1.on kb;replace m2:=m2.on kb;replace n1:=n1.on kb;replace n2:=n2.on kb;replace ra:=zaa ra kb;replace rb:=zaa rb kb;replace kw:=onS kw kb;replace tbq:=tbq.on kb;replace ux3:=ux3.on kb;clear kb;clear tbq
   refine bkq hK (HS.out _ ra rb) (h:=fun hHeld=>?_)
   clear hK K
   refine tkq 12 (h:=tkq 13 (h:=?_))
   refine wpAnyH_done (by kernel_rfl) ?_ _
   clear hHeld
   go_wp2
   go_meet
   exact ⟨Xx,kx,Xy,ky,rfl,rfl,ux1,ux2,uy1,uy2,ux3,uy3,kw⟩
 case rest =>
  obtain ⟨Xx,kx,Xy,ky,rfl,rfl,ux1,ux2,uy1,uy2,ux3,uy3,kb⟩:=hcut
  replace m1:=m1.on kb;replace m2:=m2.on kb;replace n1:=n1.on kb;replace n2:=n2.on kb;replace ra:=zaa ra kb;replace rb:=zaa rb kb;replace rz:=zaa rz kb;replace hB:=onS hB kb;clear kb
  obtain ⟨w1,hw1⟩:∃ W,W=wc:=⟨_,rfl⟩
  rw [<-hw1] at m1 m2 n1 n2 ra rb rz hB ux3 uy3 ⊢;clear hw1
  have ea0:=qc0 ra
  have ea1:=qc1 ra
  have ea2:=qc2 ra
  have eb0:=qc0 rb
  have eb1:=qc1 rb
  have eb2:=qc2 rb
  go_upto_region 2 with fail
  have kb:=zab w1 (Obj.cells #[.slice B (dl (r.den)) d,.slice B' (dl (r'.den)) d'] 47)
  have tz:=zak 47 m2 n2 m5 n5 m6 n6
  have ea0':=cellS kb ea0
  have ea1':=cellS kb ea1
  have ea2':=cellS kb ea2
  have eb0':=cellS kb eb0
  have eb1':=cellS kb eb1
  have eb2':=cellS kb eb2
  replace m1:=m1.on kb;replace m2:=m2.on kb;replace n1:=n1.on kb;replace n2:=n2.on kb;replace ra:=zaa ra kb;replace rb:=zaa rb kb;replace rz:=zaa rz kb;replace hB:=onS hB kb;replace ux3:=ux3.on kb;replace uy3:=uy3.on kb;clear kb
  go_wp2_with fail
  refine (zax (x:=r.den) (y:=r'.den) tz (by omega) (by omega) (by omega)).mono ?_
  rintro e w2 ⟨Xz,kz,rfl,uz1,uz2,uz3,kb⟩
  have kb2:=kb
  replace m1:=m1.on kb;replace m2:=m2.on kb;replace n1:=n1.on kb;replace n2:=n2.on kb;replace ra:=zaa ra kb;replace rb:=zaa rb kb;replace rz:=zaa rz kb;replace hB:=onS hB kb;replace ux3:=ux3.on kb;replace uy3:=uy3.on kb;replace tz:=tz.on kb;clear kb;replace ea0:=cellS kb2 ea0';replace ea1:=cellS kb2 ea1';replace ea2:=cellS kb2 ea2';replace eb0:=cellS kb2 eb0';replace eb1:=cellS kb2 eb1';replace eb2:=cellS kb2 eb2'
  clear kb2 tz ea0' ea1' ea2' eb0' eb1' eb2'
  obtain ⟨x,hX⟩:∃ x,x=r.num.natAbs*r'.den:=⟨_,rfl⟩
  obtain ⟨y,hY⟩:∃ x,x=r'.num.natAbs*r.den:=⟨_,rfl⟩
  obtain ⟨z,hZ⟩:∃ x,x=r.den*r'.den:=⟨_,rfl⟩
  rw [<-hX,<-hY,<-hZ] at HSM HGE HLT;rw [<-hX] at hx ux1 ux3;rw [<-hY] at hy uy1 uy3;rw [<-hZ] at hz uz1 uz3;rw [<-hX,<-hY,<-hZ];clear hX hY hZ m1 m2 n1 n2
  by_cases hs:rneg r=rneg r'
  ·have hb0:(rneg r == rneg r')=true:=by simp [hs]
   have HR:=hid (HSM.out hs)
   have hxy:=zd7 (a:=N+N) hx hy
   clear hs HSM HGE HLT
   go_wp2
   have HS:Hid (∀ w':World,w'.rowIs w.heap.size 49 3 (ratCell (.bool (rneg (r))) (.slice (A) (dl (r).num.natAbs) (c)) (.slice (B) (dl (r).den) (d)))->w'.rowIs (w.heap.size+1) 49 3 (ratCell (.bool (rneg (r'))) (.slice (A') (dl (r').num.natAbs) (c')) (.slice (B') (dl (r').den) (d')))->w'.cell? ⟨w.heap.size,0,none⟩=some (.bool (rneg (r)))/\w'.cell? ⟨w.heap.size,1,none⟩=some (.slice (A) (dl (r).num.natAbs) (c))/\w'.cell? ⟨w.heap.size,2,none⟩=some (.slice (B) (dl (r).den) (d))/\w'.cell? ⟨w.heap.size+1,0,none⟩=some (.bool (rneg (r')))/\w'.cell? ⟨w.heap.size+1,1,none⟩=some (.slice (A') (dl (r').num.natAbs) (c'))/\w'.cell? ⟨w.heap.size+1,2,none⟩=some (.slice (B') (dl (r').den) (d'))):=fun w' h1 h2=>⟨h1.cell (i:=0) (by omega),h1.cell (i:=1) (by omega),h1.cell (i:=2) (by omega),h2.cell (i:=0) (by omega),h2.cell (i:=1) (by omega),h2.cell (i:=2) (by omega)⟩
   refine wp_region_held_drew (S:=fun w'=>w'.cell? ⟨w.heap.size,0,none⟩=some (.bool (rneg (r)))/\w'.cell? ⟨w.heap.size,1,none⟩=some (.slice (A) (dl (r).num.natAbs) (c))/\w'.cell? ⟨w.heap.size,2,none⟩=some (.slice (B) (dl (r).den) (d))/\w'.cell? ⟨w.heap.size+1,0,none⟩=some (.bool (rneg (r')))/\w'.cell? ⟨w.heap.size+1,1,none⟩=some (.slice (A') (dl (r').num.natAbs) (c'))/\w'.cell? ⟨w.heap.size+1,2,none⟩=some (.slice (B') (dl (r').den) (d'))) (by kernel_rfl) (HS.out _ (show World.rowIs (World.drew _) _ _ _ _ from ra) (show World.rowIs (World.drew _) _ _ _ _ from rb)) (fun hHeld=>?_)
   clear ea0 ea1 ea2 eb0 eb1 eb2
   obtain ⟨w3,hw⟩:∃ W,W=World.drew w2:=⟨_,rfl⟩
   have kb:Below w2.heap.size w2 w3:=by rw [hw]; exact (Below.refl _ _).drew
   rw [<-hw] at hHeld ⊢;clear hw;replace ra:=zaa ra kb;replace rb:=zaa rb kb;replace rz:=zaa rz kb;replace hB:=onS hB kb;replace ux3:=ux3.on kb;replace uy3:=uy3.on kb;replace uz3:=uz3.on kb;clear kb
   refine tkq 0 (h:=tkq 1 (h:=tkq 2 (h:=tkq 3 (h:=tkq 6 (h:=?_)))))
   refine rdq 4 (h:=fun K hK=>?_)
   go_simp
   obtain ⟨w4,hw⟩:∃ W,W=World.alloc w3 (Obj.cells #[.slice Xx (dl (x)) kx,.slice Xy (dl (y)) ky] 47):=⟨_,rfl⟩
   have kb:Below w3.heap.size w3 w4:=by rw [hw]; exact zab _ _
   have tbs:NatTab w4 w4.heap.size (some ⟨w3.heap.size,0,none⟩) 2 (pairF (x) (y)):=NatTab.letter hw (zak 47 ux3 uy3 ux1 uy1 ux2 uy2)
   rw [<-hw];clear hw;replace ra:=zaa ra kb;replace rb:=zaa rb kb;replace rz:=zaa rz kb;replace hB:=onS hB kb;replace ux3:=ux3.on kb;replace uy3:=uy3.on kb;replace uz3:=uz3.on kb;clear kb
   obtain ⟨gs,hg⟩:∃ g,g=w3.heap.size:=⟨_,rfl⟩
   rw [<-hg] at tbs ⊢;clear hg
   refine bkq hK (HS.out _ ra rb) (h:=fun hHeld=>?_)
   clear hK K
   refine rdq 5 (h:=fun K hK=>?_)
   go_simp
   go_wp2_with fail
   refine (zkf (x:=x) (y:=y) tbs (by omega)).mono ?_
   rintro e w5 ⟨Xs,ks,rfl,us1,us2,us3,kb⟩
   replace ra:=zaa ra kb;replace rb:=zaa rb kb;replace rz:=zaa rz kb;replace hB:=onS hB kb;replace ux3:=ux3.on kb;replace uy3:=uy3.on kb;replace uz3:=uz3.on kb;replace tbs:=tbs.on kb;clear kb;clear tbs
   refine bkq hK (HS.out _ ra rb) (h:=fun hHeld=>?_)
   clear hK K
   refine rdq 7 (h:=fun K hK=>?_)
   go_simp
   go_wp2_with fail
   refine (zah (rneg r) Xs Xz (dl (x+y)) ks (dl z) kz (x+y) z _ us3.raw uz3.raw us1 us2 uz1 uz2 (by omega) (by omega)).mono ?_
   rintro e w6 ⟨Am,cm,Bm,dm,rfl,mm1,mm2,mm3,mm4,mm5,mm6,kb⟩
   replace ra:=zaa ra kb;replace rb:=zaa rb kb;replace rz:=zaa rz kb;replace hB:=onS hB kb;replace ux3:=ux3.on kb;replace uy3:=uy3.on kb;replace uz3:=uz3.on kb;replace us3:=us3.on kb;clear kb;rw [HR.out] at mm1 mm2 mm3 mm5 ⊢
   obtain ⟨q,hq⟩:∃ q,q=r+r':=⟨_,rfl⟩
   rw [<-hq] at mm1 mm2 mm3 mm5 ⊢
   have HQL:=hid hq
   obtain ⟨ngq,hngq⟩:∃ b,b=rneg q:=⟨_,rfl⟩
   rw [<-hngq]
   have HNG:=hid hngq
   clear hq hngq
   refine bkq hK (HS.out _ ra rb) (h:=fun hHeld=>?_)
   clear hK K
   have hsz:=hB.size
   have za0:=rz.frozen 0
   have za1:=rz.frozen 1
   have za2:=rz.frozen 2
   have ya0:=qc0 rz
   have ya1:=qc1 rz
   have ya2:=qc2 rz
   refine rdq 8 (h:=fun K hK=>?_)
   go_simp
   generalize hw3:World.setCell _ _ _=w7
   have hst:RatStored w6 (w.heap.size+1+1) 49 (ngq) (Am) (dl q.num.natAbs) (cm) (Bm) (dl q.den) (dm) w7:=by rw [<-hw3]; exact zaf rz _ _ _ _ _ _ _
   clear hw3
   replace ra:=zad ra hst.grown (by omega)
   replace rb:=zad rb hst.grown (by omega)
   replace rz:=hst.row
   replace hB:=hst.below hB (by omega) (by omega)
   replace ux3:=hst.nat _ _ _ ux3;rw [<-hst.size] at ux3;replace uy3:=hst.nat _ _ _ uy3;rw [<-hst.size] at uy3;replace uz3:=hst.nat _ _ _ uz3;rw [<-hst.size] at uz3;replace us3:=hst.nat _ _ _ us3;rw [<-hst.size] at us3;replace mm1:=hst.nat _ _ _ mm1;rw [<-hst.size] at mm1;replace mm2:=hst.nat _ _ _ mm2;rw [<-hst.size] at mm2;clear hst
   refine bkq hK (HS.out _ ra rb) (h:=fun hHeld=>?_)
   clear hK K
   refine wpAnyH_done (by kernel_rfl) ?_ _
   clear hHeld;clear hsz za0 za1 za2 ya0 ya1 ya2
   go_wp2
   have e0:=qc0 rz
   have e1:=qc1 rz
   have e2:=qc2 rz
   refine bodyPost_ret (v:=.agg #[.bool (ngq),.slice (Am) (dl q.num.natAbs) (cm),.slice (Bm) (dl q.den) (dm)]) (by simp [results,Tryz.results166, go_sem,e0,e1,e2]) rfl ?_
   rw [<-HQL.out]
   exact ⟨Am,cm,Bm,dm,by rw [HNG.out],mm1,mm2,mm3,mm4,mm5,mm6,hB⟩
  ·have hb0:(rneg r == rneg r')=false:=by simp [hs]
   go_wp2_with fail
   refine (za8 Xx Xy kx ky x y w2 ux3 uy3 ux1 ux2 uy1 uy2 (by omega)).mono ?_
   rintro e w3 ⟨rfl,kb⟩
   have kb2:=kb
   replace ra:=zaa ra kb;replace rb:=zaa rb kb;replace rz:=zaa rz kb;replace hB:=onS hB kb;replace ux3:=ux3.on kb;replace uy3:=uy3.on kb;replace uz3:=uz3.on kb;clear kb;replace ea0:=cellS kb2 ea0;replace ea1:=cellS kb2 ea1;replace ea2:=cellS kb2 ea2;replace eb0:=cellS kb2 eb0;replace eb1:=cellS kb2 eb1;replace eb2:=cellS kb2 eb2;clear kb2
   by_cases hle:y<=x
   ·have hcm:¬ cmpN x y<0:=by
     rcases Nat.lt_or_ge y x with e | e
     ·rw [zcm e]; omega
     ·rw [zcT (by omega)]; omega
    obtain ⟨cz,hcz⟩:∃ z,z=cmpN x y:=⟨_,rfl⟩
    rw [<-hcz] at hcm ⊢
    have HR:=hid (HGE.out hs hle)
    have hxy:dl (x - y)<=N+N:=Nat.le_trans (zaw (Nat.sub_le _ _)) hx
    have HLE:=hid hle
    clear hs HSM HGE HLT hcz hle ea1 ea2 eb0 eb1 eb2
    go_wp2_with fail
    refine (zfG Xx Xy kx ky x y _ ux3 uy3 ux1 ux2 uy1 uy2 HLE.out (by omega)).mono ?_
    rintro e w4 ⟨Xs,ks,rfl,us1,us2,us3,kb⟩
    have kb2:=kb
    replace ra:=zaa ra kb;replace rb:=zaa rb kb;replace rz:=zaa rz kb;replace hB:=onS hB kb;replace ux3:=ux3.on kb;replace uy3:=uy3.on kb;replace uz3:=uz3.on kb;clear kb;replace ea0:=cellS kb2 ea0;clear kb2
    go_wp2_with fail
    refine (zah (rneg r) Xs Xz (dl (x - y)) ks (dl z) kz (x - y) z _ us3.raw uz3.raw us1 us2 uz1 uz2 (by omega) (by omega)).mono ?_
    rintro e w5 ⟨Am,cm,Bm,dm,rfl,mm1,mm2,mm3,mm4,mm5,mm6,kb⟩
    replace ra:=zaa ra kb;replace rb:=zaa rb kb;replace rz:=zaa rz kb;replace hB:=onS hB kb;replace ux3:=ux3.on kb;replace uy3:=uy3.on kb;replace uz3:=uz3.on kb;replace us3:=us3.on kb;clear kb;rw [HR.out] at mm1 mm2 mm3 mm5 ⊢
    obtain ⟨q,hq⟩:∃ q,q=r+r':=⟨_,rfl⟩
    rw [<-hq] at mm1 mm2 mm3 mm5 ⊢
    have HQL:=hid hq
    obtain ⟨ngq,hngq⟩:∃ b,b=rneg q:=⟨_,rfl⟩
    rw [<-hngq]
    have HNG:=hid hngq
    clear hq hngq
    have hsz:=hB.size
    have za0:=rz.frozen 0
    have za1:=rz.frozen 1
    have za2:=rz.frozen 2
    have ya0:=qc0 rz
    have ya1:=qc1 rz
    have ya2:=qc2 rz
    go_wp2
    generalize hw3:World.setCell _ _ _=w6
    have hst:RatStored w5 (w.heap.size+1+1) 49 (ngq) (Am) (dl q.num.natAbs) (cm) (Bm) (dl q.den) (dm) w6:=by rw [<-hw3]; exact zaf rz _ _ _ _ _ _ _
    clear hw3
    replace ra:=zad ra hst.grown (by omega)
    replace rb:=zad rb hst.grown (by omega)
    replace rz:=hst.row
    replace hB:=hst.below hB (by omega) (by omega)
    replace ux3:=hst.nat _ _ _ ux3;rw [<-hst.size] at ux3;replace uy3:=hst.nat _ _ _ uy3;rw [<-hst.size] at uy3;replace uz3:=hst.nat _ _ _ uz3;rw [<-hst.size] at uz3;replace us3:=hst.nat _ _ _ us3;rw [<-hst.size] at us3;replace mm1:=hst.nat _ _ _ mm1;rw [<-hst.size] at mm1;replace mm2:=hst.nat _ _ _ mm2;rw [<-hst.size] at mm2;clear hst;clear hsz za0 za1 za2 ya0 ya1 ya2
    have e0:=qc0 rz
    have e1:=qc1 rz
    have e2:=qc2 rz
    refine bodyPost_ret (v:=.agg #[.bool (ngq),.slice (Am) (dl q.num.natAbs) (cm),.slice (Bm) (dl q.den) (dm)]) (by simp [results,Tryz.results166, go_sem,e0,e1,e2]) rfl ?_
    rw [<-HQL.out]
    exact ⟨Am,cm,Bm,dm,by rw [HNG.out],mm1,mm2,mm3,mm4,mm5,mm6,hB⟩
   ·have hcm:cmpN x y<0:=by rw [zcS (by omega)]; omega
    obtain ⟨cz,hcz⟩:∃ z,z=cmpN x y:=⟨_,rfl⟩
    rw [<-hcz] at hcm ⊢
    have HR:=hid (HLT.out hs (by omega))
    have hxy:dl (y - x)<=N+N:=Nat.le_trans (zaw (Nat.sub_le _ _)) hy
    have HLE:Hid (x<=y):=by show _<=_; omega
    clear hs HSM HGE HLT hcz hle
    go_wp2
    have HSB:Hid (∀ w':World,w'.rowIs (w.heap.size+1) 49 3 (ratCell (.bool (rneg (r'))) (.slice (A') (dl (r').num.natAbs) (c')) (.slice (B') (dl (r').den) (d')))->w'.cell? ⟨w.heap.size+1,0,none⟩=some (.bool (rneg r'))/\w'.cell? ⟨w.heap.size+1,1,none⟩=some (.slice A' (dl r'.num.natAbs) c')/\w'.cell? ⟨w.heap.size+1,2,none⟩=some (.slice B' (dl r'.den) d')):=fun w' h1=>⟨h1.cell (i:=0) (by omega),h1.cell (i:=1) (by omega),h1.cell (i:=2) (by omega)⟩
    refine wp_region_held_drew (S:=fun w'=>w'.cell? ⟨w.heap.size+1,0,none⟩=some (.bool (rneg r'))/\w'.cell? ⟨w.heap.size+1,1,none⟩=some (.slice A' (dl r'.num.natAbs) c')/\w'.cell? ⟨w.heap.size+1,2,none⟩=some (.slice B' (dl r'.den) d')) (by kernel_rfl) (HSB.out _ (show World.rowIs (World.drew _) _ _ _ _ from rb)) (fun hHeld=>?_)
    clear ea0 ea1 ea2 eb0 eb1 eb2
    obtain ⟨w4,hw⟩:∃ W,W=World.drew w3:=⟨_,rfl⟩
    have kb:Below w3.heap.size w3 w4:=by rw [hw]; exact (Below.refl _ _).drew
    rw [<-hw] at hHeld ⊢;clear hw;replace ra:=zaa ra kb;replace rb:=zaa rb kb;replace rz:=zaa rz kb;replace hB:=onS hB kb;replace ux3:=ux3.on kb;replace uy3:=uy3.on kb;replace uz3:=uz3.on kb;clear kb
    refine tkq 0 (h:=tkq 1 (h:=tkq 2 (h:=tkq 3 (h:=tkq 4 (h:=?_)))))
    have hsz:=hB.size
    have za0:=ra.frozen 0
    have za1:=ra.frozen 1
    have za2:=ra.frozen 2
    have ya0:=qc0 ra
    have ya1:=qc1 ra
    have ya2:=qc2 ra
    refine rdq 5 (h:=fun K hK=>?_)
    go_simp
    generalize hw3:World.setCell _ _ _=w5
    have hst:RatStored w4 (w.heap.size) 49 (rneg (r')) (A') (dl (r').num.natAbs) (c') (B') (dl (r').den) (d') w5:=by rw [<-hw3]; exact zaf ra _ _ _ _ _ _ _
    clear hw3;replace ra:=hst.row
    replace rb:=zad rb hst.grown (by omega)
    replace rz:=zad rz hst.grown (by omega)
    replace hB:=hst.below hB (by omega) (by omega)
    replace ux3:=hst.nat _ _ _ ux3;rw [<-hst.size] at ux3;replace uy3:=hst.nat _ _ _ uy3;rw [<-hst.size] at uy3;replace uz3:=hst.nat _ _ _ uz3;rw [<-hst.size] at uz3;clear hst
    have ea0:=qc0 ra
    have ea1:=qc1 ra
    have ea2:=qc2 ra
    clear hsz za0 za1 za2 ya0 ya1 ya2
    refine bkq hK (HSB.out _ rb) (h:=fun hHeld=>?_)
    clear hK K
    refine wpAnyH_done (by kernel_rfl) ?_ _
    clear hHeld;clear HSB
    go_wp2_with fail
    refine (zfG Xy Xx ky kx y x _ uy3 ux3 uy1 uy2 ux1 ux2 HLE.out (by omega)).mono ?_
    rintro e w6 ⟨Xs,ks,rfl,us1,us2,us3,kb⟩
    have kb2:=kb
    replace ra:=zaa ra kb;replace rb:=zaa rb kb;replace rz:=zaa rz kb;replace hB:=onS hB kb;replace ux3:=ux3.on kb;replace uy3:=uy3.on kb;replace uz3:=uz3.on kb;clear kb;replace ea0:=cellS kb2 ea0;clear kb2
    go_wp2_with fail
    refine (zah (rneg r') Xs Xz (dl (y - x)) ks (dl z) kz (y - x) z _ us3.raw uz3.raw us1 us2 uz1 uz2 (by omega) (by omega)).mono ?_
    rintro e w7 ⟨Am,cm,Bm,dm,rfl,mm1,mm2,mm3,mm4,mm5,mm6,kb⟩
    replace ra:=zaa ra kb;replace rb:=zaa rb kb;replace rz:=zaa rz kb;replace hB:=onS hB kb;replace ux3:=ux3.on kb;replace uy3:=uy3.on kb;replace uz3:=uz3.on kb;replace us3:=us3.on kb;clear kb;rw [HR.out] at mm1 mm2 mm3 mm5 ⊢
    obtain ⟨q,hq⟩:∃ q,q=r+r':=⟨_,rfl⟩
    rw [<-hq] at mm1 mm2 mm3 mm5 ⊢
    have HQL:=hid hq
    obtain ⟨ngq,hngq⟩:∃ b,b=rneg q:=⟨_,rfl⟩
    rw [<-hngq]
    have HNG:=hid hngq
    clear hq hngq
    have hsz:=hB.size
    have za0:=rz.frozen 0
    have za1:=rz.frozen 1
    have za2:=rz.frozen 2
    have ya0:=qc0 rz
    have ya1:=qc1 rz
    have ya2:=qc2 rz
    go_wp2
    generalize hw3:World.setCell _ _ _=w8
    have hst:RatStored w7 (w.heap.size+1+1) 49 (ngq) (Am) (dl q.num.natAbs) (cm) (Bm) (dl q.den) (dm) w8:=by rw [<-hw3]; exact zaf rz _ _ _ _ _ _ _
    clear hw3
    replace ra:=zad ra hst.grown (by omega)
    replace rb:=zad rb hst.grown (by omega)
    replace rz:=hst.row
    replace hB:=hst.below hB (by omega) (by omega)
    replace ux3:=hst.nat _ _ _ ux3;rw [<-hst.size] at ux3;replace uy3:=hst.nat _ _ _ uy3;rw [<-hst.size] at uy3;replace uz3:=hst.nat _ _ _ uz3;rw [<-hst.size] at uz3;replace us3:=hst.nat _ _ _ us3;rw [<-hst.size] at us3;replace mm1:=hst.nat _ _ _ mm1;rw [<-hst.size] at mm1;replace mm2:=hst.nat _ _ _ mm2;rw [<-hst.size] at mm2;clear hst;clear hsz za0 za1 za2 ya0 ya1 ya2
    have e0:=qc0 rz
    have e1:=qc1 rz
    have e2:=qc2 rz
    refine bodyPost_ret (v:=.agg #[.bool (ngq),.slice (Am) (dl q.num.natAbs) (cm),.slice (Bm) (dl q.den) (dm)]) (by simp [results,Tryz.results166, go_sem,e0,e1,e2]) rfl ?_
    rw [<-HQL.out]
    exact ⟨Am,cm,Bm,dm,by rw [HNG.out],mm1,mm2,mm3,mm4,mm5,mm6,hB⟩
def RatTab (w:World) (B:Nat) (T:Option Addr) (m:Nat) (rs:Nat->Rat) (N:Nat):Prop :=
 ∀ i,i<m->∃ b off s A n c A2 k c2,T=some ⟨b,off,none⟩/\b<B/\w.cell? ⟨b,off+i*3,none⟩=some (.bool s)/\w.cell? ⟨b,off+i*3+1,none⟩=some (.slice A n c)/\w.cell? ⟨b,off+i*3+2,none⟩=some (.slice A2 k c2)/\RatRaw w B (.agg #[.bool s,.slice A n c,.slice A2 k c2]) (rs i) N
theorem RatTab.on {w w':World} {T:Option Addr} {m N:Nat} {rs:Nat->Rat} (h:RatTab w w.heap.size T m rs N) (hb:Below w.heap.size w w'):RatTab w' w'.heap.size T m rs N:=fun i hi=>by
 obtain ⟨b,off,s,A,n,c,A2,k,c2,e,h1,h2,h3,h4,h5⟩:=h i hi
 exact ⟨b,off,s,A,n,c,A2,k,c2,e,Nat.lt_of_lt_of_le h1 hb.size,(hb.cell (p:=⟨b,_,none⟩) h1).trans h2,(hb.cell (p:=⟨b,_,none⟩) h1).trans h3,(hb.cell (p:=⟨b,_,none⟩) h1).trans h4,h5.on hb⟩
def sumR (rs:Nat->Rat):Nat->Rat
 | 0=>0
 | k+1=>sumR rs k+rs k
theorem zgY (T:Option Addr) (m c N:Nat) (rs:Nat->Rat) (w:World) (h:RatTab w w.heap.size T m rs N) (hm:m<=1048576) (hN:N<=33554432) (hs:Hid (∀ k,k<=m->rsz (sumR rs k) N)) (hr:Hid (∀ k,k<m->rsz (rs k) N)) :
  Calls Tryz.prog 88 #[.slice T m c] w (RatPost (sumR rs m) w):=by
 have hB:=zab w (.cells #[.bool false,.slice none 0 0,.slice none 0 0] 49)
 have rz:=zae (w:=w) (a:=.bool false) (b:=.slice none 0 0) (c:=.slice none 0 0) (T := 49)
 obtain ⟨w0,hw0⟩:∃ W,W=w.alloc (.cells #[.bool false,.slice none 0 0,.slice none 0 0] 49):=⟨_,rfl⟩
 have hs0:w0.heap.size=w.heap.size+1:=by rw [hw0]; simp
 rw [<-hw0] at hB rz
 go_enter Tryz.func88, Tryz.ntmps88
 go_upto_region 1 with fail
 rw [<-hw0];clear hw0
 go_wp2_with fail
 refine (zbS _).mono ?_
 rintro e w1 ⟨rfl,o1,kb⟩
 have kb0:=kb.size
 replace rz:=zaa rz kb;replace hB:=onS hB kb;clear kb
 have hd0:dl (0:Rat).num.natAbs=0:=zas
 have hd1:dl (0:Rat).den=1:=zb4
 have kb:=zab w1 (.cells #[.bool false,.slice none 0 0,.slice (some ⟨w0.heap.size,0,none⟩) 1 1] 49)
 have rg:=zae (w:=w1) (a:=.bool false) (b:=.slice none 0 0) (c:=.slice (some ⟨w0.heap.size,0,none⟩) 1 1) (T := 49)
 have hsz1:w.heap.size+1<=w1.heap.size:=by omega
 clear hs0 kb0;replace rz:=zaa rz kb;replace hB:=onS hB kb;replace o1:=o1.on kb;clear kb
 obtain ⟨w2,hw2⟩:∃ W,W=w1.alloc (.cells #[.bool false,.slice none 0 0,.slice (some ⟨w0.heap.size,0,none⟩) 1 1] 49):=⟨_,rfl⟩
 have hs2:w2.heap.size=w1.heap.size+1:=by rw [hw2]; simp
 rw [<-hw2] at rz hB o1 rg
 obtain ⟨g,hg⟩:∃ g,g=w1.heap.size:=⟨_,rfl⟩
 rw [<-hg] at rg hs2
 have hgb:w.heap.size+1<=g:=by omega
 obtain ⟨go,hgo⟩:∃ g,g=w0.heap.size:=⟨_,rfl⟩
 rw [<-hgo] at rg o1
 go_wp2
 rw [<-hg,<-hw2,<-hgo];clear hw2 hg hgo
 go_loopg [10] m (fun gg iv wx=>∃ k:Nat,∃ Sa sc Sb sd,iv=.int .i64 (k:Nat)/\k<=m/\m<=k+gg/\dl (sumR rs k).num.natAbs<=sc/\sc<=maxLen/\dl (sumR rs k).den<=sd/\sd<=maxLen/\NatOk wx wx.heap.size Sa (sumR rs k).num.natAbs/\NatOk wx wx.heap.size Sb (sumR rs k).den/\wx.rowIs g 49 3 (ratCell (.bool (rneg (sumR rs k))) (.slice Sa (dl (sumR rs k).num.natAbs) sc) (.slice Sb (dl (sumR rs k).den) sd))/\wx.rowIs w.heap.size 49 3 (ratCell (.bool false) (.slice none 0 0) (.slice none 0 0))/\Below w.heap.size w wx)
 case atStart=>exact ⟨0,none,0,some ⟨go,0,none⟩,1,rfl,by omega,by omega,by show dl (0:Rat).num.natAbs<=0; rw [hd0]; omega,by unfold maxLen; omega,by show dl (0:Rat).den<=1; rw [hd1]; omega,by unfold maxLen; omega,fun i hi=>absurd hi (by show ¬ i<dl (0:Rat).num.natAbs; rw [hd0]; omega),o1,by show World.rowIs _ _ _ _ (ratCell (.bool false) (.slice none (dl (0:Rat).num.natAbs) 0) (.slice _ (dl (0:Rat).den) 1)); rw [hd0,hd1]; exact rg,rz,hB⟩
 case round =>
  clear o1 rg rz hB hs2 hsz1
  obtain ⟨k,Sa,sc,Sb,sd,rfl,hk,hkg,c1,c2,c3,c4,s1,s2,rg,rz,hB⟩:=hrel
  have HSK:=hs.out k hk
  by_cases hlt:k<m
  ·have hlt':(k:Int)<(m:Int):=by omega
   obtain ⟨b,off,s,A,n,c',A2,n2,c2',rfl,hb,t0,t1,t2,hraw⟩:=h.on hB k hlt
   have HRK:=hr.out k hlt
   have HSK2:=hs.out (k+1) (by omega)
   obtain ⟨S,hS⟩:∃ S,S=sumR rs k:=⟨_,rfl⟩
   obtain ⟨rk,hrk⟩:∃ S,S=rs k:=⟨_,rfl⟩
   have hnext:sumR rs (k+1)=S+rk:=by rw [hS,hrk]; rfl
   rw [<-hS] at c1 c3 s1 s2 rg HSK;rw [<-hrk] at hraw HRK
   have HNX:=hid hnext
   rw [hnext] at HSK2;clear hS hrk hnext
   have kb:=zab wr (.cells #[.bool s,.slice A n c',.slice A2 n2 c2'] 49)
   have rt:=zae (w:=wr) (a:=.bool s) (b:=.slice A n c') (c:=.slice A2 n2 c2') (T := 49)
   have hgr:=rg.lt
   have hgz:=rz.lt
   replace s1:=s1.on kb;replace s2:=s2.on kb;replace rg:=zaa rg kb;replace rz:=zaa rz kb;replace hB:=onS hB kb;replace hraw:=hraw.on kb;clear kb
   obtain ⟨w4,hw4⟩:∃ W,W=wr.alloc (.cells #[.bool s,.slice A n c',.slice A2 n2 c2'] 49):=⟨_,rfl⟩
   rw [<-hw4] at s1 s2 rg rz hB hraw rt
   obtain ⟨h5,hh5⟩:∃ g,g=wr.heap.size:=⟨_,rfl⟩
   rw [<-hh5] at rt hgr hgz
   have hne:h5≠g:=by omega
   have hne:h5≠g:=by omega
   go_upto_region 5 with fail
   rw [<-hh5,<-hw4];clear hw4 hh5 t0 t1 t2
   have HS:Hid (∀ w':World,w'.rowIs h5 49 3 (ratCell (.bool (s)) (.slice (A) (n) (c')) (.slice (A2) (n2) (c2')))->w'.cell? ⟨h5,0,none⟩=some (.bool (s))/\w'.cell? ⟨h5,1,none⟩=some (.slice (A) (n) (c'))/\w'.cell? ⟨h5,2,none⟩=some (.slice (A2) (n2) (c2'))):=fun w' h2=>⟨h2.cell (i:=0) (by omega),h2.cell (i:=1) (by omega),h2.cell (i:=2) (by omega)⟩
   refine wp_region_held_drew (S:=fun w'=>w'.cell? ⟨h5,0,none⟩=some (.bool (s))/\w'.cell? ⟨h5,1,none⟩=some (.slice (A) (n) (c'))/\w'.cell? ⟨h5,2,none⟩=some (.slice (A2) (n2) (c2'))) (by kernel_rfl) (HS.out _ (show World.rowIs (World.drew _) _ _ _ _ from rt)) (fun hHeld=>?_)
   obtain ⟨w5,hw⟩:∃ W,W=World.drew w4:=⟨_,rfl⟩
   have kb:Below w4.heap.size w4 w5:=by rw [hw]; exact (Below.refl _ _).drew
   rw [<-hw] at hHeld ⊢;clear hw;replace s1:=s1.on kb;replace s2:=s2.on kb;replace rg:=zaa rg kb;replace rz:=zaa rz kb;replace hB:=onS hB kb;replace hraw:=hraw.on kb;replace rt:=zaa rt kb;clear kb
   refine tkq 1 (h:=?_)
   refine rdq2 0 2 (h:=fun K hK=>?_) (h2:=fun K hK=>?_)
   ·have lg0:=qc0 rg
    have lg1:=qc1 rg
    have lg2:=qc2 rg
    go_simp
    clear lg0 lg1 lg2
    refine bkq hK (HS.out _ rt) (h:=fun hHeld=>?_)
    clear hK K
    refine rdq 2 (h:=fun K hK=>?_)
    go_simp
    go_wp2_with fail
    refine (zbz _ rk N _ hraw (by omega)).mono ?_
    rintro e w6 ⟨Aa,ca,Ba,da,rfl,ma1,ma2,ma3,ma4,ma5,ma6,kb⟩
    replace s1:=s1.on kb;replace s2:=s2.on kb;replace rg:=zaa rg kb;replace rz:=zaa rz kb;replace hB:=onS hB kb;replace hraw:=hraw.on kb;replace rt:=zaa rt kb;clear kb;clear hraw
    refine bkq hK (HS.out _ rt) (h:=fun hHeld=>?_)
    clear hK K
    refine rdq 3 (h:=fun K hK=>?_)
    go_simp
    go_wp2_with fail
    refine (zdF Sa Sb Aa Ba sc sd ca da S rk N _ s1 s2 c1 c2 c3 c4 ma1 ma2 ma3 ma4 ma5 ma6 hN HSK HRK).mono ?_
    rintro e w7 ⟨Am,cm,Bm,dm,rfl,mm1,mm2,mm3,mm4,mm5,mm6,kb⟩
    replace s1:=s1.on kb;replace s2:=s2.on kb;replace rg:=zaa rg kb;replace rz:=zaa rz kb;replace hB:=onS hB kb;replace rt:=zaa rt kb;replace ma1:=ma1.on kb;replace ma2:=ma2.on kb;clear kb
    obtain ⟨q,hq⟩:∃ q,q=S+rk:=⟨_,rfl⟩
    rw [<-hq] at mm1 mm2 mm3 mm5 ⊢
    have HQL:=hid hq
    obtain ⟨ngq,hngq⟩:∃ b,b=rneg q:=⟨_,rfl⟩
    rw [<-hngq]
    have HNG:=hid hngq
    clear hq hngq
    refine bkq hK (HS.out _ rt) (h:=fun hHeld=>?_)
    clear hK K
    have hsz:=hB.size
    have hgs:=rg.lt
    have za0:=rg.frozen 0
    have za1:=rg.frozen 1
    have za2:=rg.frozen 2
    have ya0:=qc0 rg
    have ya1:=qc1 rg
    have ya2:=qc2 rg
    refine rdq 4 (h:=fun K hK=>?_)
    go_simp
    generalize hw3:World.setCell _ _ _=w8
    have hst:RatStored w7 (g) 49 (ngq) (Am) (dl q.num.natAbs) (cm) (Bm) (dl q.den) (dm) w8:=by rw [<-hw3]; exact zaf rg _ _ _ _ _ _ _
    clear hw3;replace s1:=hst.nat _ _ _ s1;rw [<-hst.size] at s1;replace s2:=hst.nat _ _ _ s2;rw [<-hst.size] at s2;replace rg:=hst.row
    replace rz:=zad rz hst.grown (by omega)
    replace hB:=hst.below hB (by omega) (by omega)
    replace rt:=zad rt hst.grown (by omega)
    replace ma1:=hst.nat _ _ _ ma1;rw [<-hst.size] at ma1;replace ma2:=hst.nat _ _ _ ma2;rw [<-hst.size] at ma2;replace mm1:=hst.nat _ _ _ mm1;rw [<-hst.size] at mm1;replace mm2:=hst.nat _ _ _ mm2;rw [<-hst.size] at mm2;clear hst
    refine bkq hK (HS.out _ rt) (h:=fun hHeld=>?_)
    clear hK K
    refine wpAnyH_done (by kernel_rfl) ?_ _
    clear hHeld;clear hsz hgs za0 za1 za2 ya0 ya1 ya2 HS
    go_wp2
    have HNX2:=HNX.out
    rw [<-HQL.out] at HNX2
    have HX:=hid HNX2
    clear HNX2
    go_roundg (gk - 1)
    case measure=>omega
    case rel=>exact ⟨k+1,Am,cm,Bm,dm,by go_num,by omega,by omega,by rw [HX.out]; exact mm3,mm4,by rw [HX.out]; exact mm5,mm6,by rw [HX.out]; exact mm1,by rw [HX.out]; exact mm2,by rw [HX.out,<-HNG.out]; exact rg,rz,hB⟩
   ·go_simp
    go_wp2_with fail
    refine (zbz _ rk N _ hraw (by omega)).mono ?_
    rintro e w6 ⟨Aa,ca,Ba,da,rfl,ma1,ma2,ma3,ma4,ma5,ma6,kb⟩
    replace s1:=s1.on kb;replace s2:=s2.on kb;replace rg:=zaa rg kb;replace rz:=zaa rz kb;replace hB:=onS hB kb;replace hraw:=hraw.on kb;replace rt:=zaa rt kb;clear kb;clear hraw
    refine bkq hK (HS.out _ rt) (h:=fun hHeld=>?_)
    clear hK K
    refine rdq 0 (h:=fun K hK=>?_)
    have lg0:=qc0 rg
    have lg1:=qc1 rg
    have lg2:=qc2 rg
    go_simp
    clear lg0 lg1 lg2
    refine bkq hK (HS.out _ rt) (h:=fun hHeld=>?_)
    clear hK K
    refine rdq 3 (h:=fun K hK=>?_)
    go_simp
    go_wp2_with fail
    refine (zdF Sa Sb Aa Ba sc sd ca da S rk N _ s1 s2 c1 c2 c3 c4 ma1 ma2 ma3 ma4 ma5 ma6 hN HSK HRK).mono ?_
    rintro e w7 ⟨Am,cm,Bm,dm,rfl,mm1,mm2,mm3,mm4,mm5,mm6,kb⟩
    replace s1:=s1.on kb;replace s2:=s2.on kb;replace rg:=zaa rg kb;replace rz:=zaa rz kb;replace hB:=onS hB kb;replace rt:=zaa rt kb;replace ma1:=ma1.on kb;replace ma2:=ma2.on kb;clear kb
    obtain ⟨q,hq⟩:∃ q,q=S+rk:=⟨_,rfl⟩
    rw [<-hq] at mm1 mm2 mm3 mm5 ⊢
    have HQL:=hid hq
    obtain ⟨ngq,hngq⟩:∃ b,b=rneg q:=⟨_,rfl⟩
    rw [<-hngq]
    have HNG:=hid hngq
    clear hq hngq
    refine bkq hK (HS.out _ rt) (h:=fun hHeld=>?_)
    clear hK K
    have hsz:=hB.size
    have hgs:=rg.lt
    have za0:=rg.frozen 0
    have za1:=rg.frozen 1
    have za2:=rg.frozen 2
    have ya0:=qc0 rg
    have ya1:=qc1 rg
    have ya2:=qc2 rg
    refine rdq 4 (h:=fun K hK=>?_)
    go_simp
    generalize hw3:World.setCell _ _ _=w8
    have hst:RatStored w7 (g) 49 (ngq) (Am) (dl q.num.natAbs) (cm) (Bm) (dl q.den) (dm) w8:=by rw [<-hw3]; exact zaf rg _ _ _ _ _ _ _
    clear hw3;replace s1:=hst.nat _ _ _ s1;rw [<-hst.size] at s1;replace s2:=hst.nat _ _ _ s2;rw [<-hst.size] at s2;replace rg:=hst.row
    replace rz:=zad rz hst.grown (by omega)
    replace hB:=hst.below hB (by omega) (by omega)
    replace rt:=zad rt hst.grown (by omega)
    replace ma1:=hst.nat _ _ _ ma1;rw [<-hst.size] at ma1;replace ma2:=hst.nat _ _ _ ma2;rw [<-hst.size] at ma2;replace mm1:=hst.nat _ _ _ mm1;rw [<-hst.size] at mm1;replace mm2:=hst.nat _ _ _ mm2;rw [<-hst.size] at mm2;clear hst
    refine bkq hK (HS.out _ rt) (h:=fun hHeld=>?_)
    clear hK K
    refine wpAnyH_done (by kernel_rfl) ?_ _
    clear hHeld;clear hsz hgs za0 za1 za2 ya0 ya1 ya2 HS
    go_wp2
    have HNX2:=HNX.out
    rw [<-HQL.out] at HNX2
    have HX:=hid HNX2
    clear HNX2
    go_roundg (gk - 1)
    case measure=>omega
    case rel=>exact ⟨k+1,Am,cm,Bm,dm,by go_num,by omega,by omega,by rw [HX.out]; exact mm3,mm4,by rw [HX.out]; exact mm5,mm6,by rw [HX.out]; exact mm1,by rw [HX.out]; exact mm2,by rw [HX.out,<-HNG.out]; exact rg,rz,hB⟩
  ·obtain rfl:k=m:=by omega
   have hlt':¬ (k:Int)<(k:Int):=by omega
   have eg0:=qc0 rg
   have eg1:=qc1 rg
   have eg2:=qc2 rg
   obtain ⟨w19,hw19⟩:∃ W,W=wr:=⟨_,rfl⟩
   rw [<-hw19] at s1 s2 rg rz hB eg0 eg1 eg2 ⊢;clear hw19 h
   have mm1:=s1
   have mm2:=s2
   have mm3:=c1
   have mm4:=c2
   have mm5:=c3
   have mm6:=c4
   clear s1 s2 c1 c2 c3 c4
   obtain ⟨q,hq⟩:∃ q,q=sumR rs k:=⟨_,rfl⟩
   rw [<-hq] at mm1 mm2 mm3 mm5 eg0 eg1 eg2 ⊢
   have HQL:=hid hq
   obtain ⟨ngq,hngq⟩:∃ b,b=rneg q:=⟨_,rfl⟩
   rw [<-hngq] at eg0
   have HNG:=hid hngq
   clear hq hngq rg
   have hsz:=hB.size
   have za0:=rz.frozen 0
   have za1:=rz.frozen 1
   have za2:=rz.frozen 2
   have ya0:=qc0 rz
   have ya1:=qc1 rz
   have ya2:=qc2 rz
   go_wp2
   generalize hw3:World.setCell _ _ _=w20
   have hst:RatStored w19 (w.heap.size) 49 (ngq) (Sa) (dl q.num.natAbs) (sc) (Sb) (dl q.den) (sd) w20:=by rw [<-hw3]; exact zaf rz _ _ _ _ _ _ _
   clear hw3;replace mm1:=hst.nat _ _ _ mm1;rw [<-hst.size] at mm1;replace mm2:=hst.nat _ _ _ mm2;rw [<-hst.size] at mm2;replace rz:=hst.row
   replace hB:=hst.below hB (by omega) (by omega)
   clear hst;clear hsz za0 za1 za2 ya0 ya1 ya2
   have e0:=qc0 rz
   have e1:=qc1 rz
   have e2:=qc2 rz
   refine bodyPost_ret (v:=.agg #[.bool (ngq),.slice (Sa) (dl q.num.natAbs) (sc),.slice (Sb) (dl q.den) (sd)]) (by simp [results,Tryz.results88, go_sem,e0,e1,e2]) rfl ?_
   rw [<-HQL.out]
   exact ⟨Sa,sc,Sb,sd,by rw [HNG.out],mm1,mm2,mm3,mm4,mm5,mm6,hB⟩
end Go.Proofs.YtioagplajkoohaaGreat