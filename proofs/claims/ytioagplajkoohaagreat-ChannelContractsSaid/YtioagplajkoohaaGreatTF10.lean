/- Merged texts of a claim: PolyA, PAddAll. -/
import Derived.Test.YtioagplajkoohaaGreatTF1
import Derived.Test.YtioagplajkoohaaGreatTF5
import Derived.Test.YtioagplajkoohaaGreatTF9
namespace Go.Proofs.YtioagplajkoohaaGreat
set_option maxRecDepth 100000
set_option maxHeartbeats 32000000
open KA KB KC KE
open Go.RowKit
def horR (rs:Nat->Rat) (m:Nat) (x:Rat):Nat->Rat
 | 0=>0
 | k+1=>horR rs m x k*x+rs (m - 1 - k)
theorem zaH {r:Rat} {w:World} {A c A2 c2 N} (h1:NatOk w w.heap.size A r.num.natAbs) (h2:NatOk w w.heap.size A2 r.den) (h3:dl r.num.natAbs<=c) (h4:c<=maxLen) (h5:dl r.den<=c2) (h6:c2<=maxLen) (hs:rsz r N) :
  RatRaw w w.heap.size (.agg #[.bool (rneg r),.slice A (dl r.num.natAbs) c,.slice A2 (dl r.den) c2]) r N:=RatOk.raw ⟨A,c,A2,c2,rfl,h1,h2,h3,h4,h5,h6⟩ hs
theorem RatTab.letter {w W:World} {T:Option Addr} {m N:Nat} {rs:Nat->Rat} (e:W=w) (h:RatTab w w.heap.size T m rs N):RatTab W W.heap.size T m rs N:=by rw [e]; exact h
theorem zg0 (T:Option Addr) (m c N:Nat) (rs:Nat->Rat) (v:Value) (x:Rat) (w:World) (h:RatTab w w.heap.size T m rs N) (hx:RatRaw w w.heap.size v x N) (hm:m<=1048576) (hN:N<=33554432) (h1:1<=N) (hsx:rsz x N) (hs:Hid (∀ k,k<=m->rsz (horR rs m x k) N/\rsz (horR rs m x k*x) N)) (hr:Hid (∀ k,k<m->rsz (rs k) N)) :
  Calls Tryz.prog 28 #[.slice T m c,v] w (RatPost (horR rs m x m) w):=by
 have hv:∃ s A n c A2 m c2,v=.agg #[.bool s,.slice A n c,.slice A2 m c2]:=by obtain ⟨s,A,n,c,A2,m,c2,x,y,rfl,_⟩:=hx; exact ⟨s,A,n,c,A2,m,c2,rfl⟩
 obtain ⟨s,A,n,c1,A2,n2,c2,rfl⟩:=hv
 have hb0:=zab w (.cells #[.bool s,.slice A n c1,.slice A2 n2 c2] 49)
 have hb1:=zab (w.alloc (.cells #[.bool s,.slice A n c1,.slice A2 n2 c2] 49)) (.cells #[.bool false,.slice none 0 0,.slice none 0 0] 49)
 have s0:(w.alloc (.cells #[.bool s,.slice A n c1,.slice A2 n2 c2] 49)).heap.size=w.heap.size+1:=by simp
 have ra:=zaa (zae (w:=w) (a:=.bool s) (b:=.slice A n c1) (c:=.slice A2 n2 c2) (T := 49)) hb1
 have rz:=zae (w:=w.alloc (.cells #[.bool s,.slice A n c1,.slice A2 n2 c2] 49)) (a:=.bool false) (b:=.slice none 0 0) (c:=.slice none 0 0) (T := 49)
 rw [s0] at rz
 have hB:=onS hb0 hb1
 clear s0 hb0 hb1
 obtain ⟨w0,hw0⟩:∃ W,W=((w.alloc (.cells #[.bool s,.slice A n c1,.slice A2 n2 c2] 49)).alloc (.cells #[.bool false,.slice none 0 0,.slice none 0 0] 49)):=⟨_,rfl⟩
 rw [<-hw0] at ra rz hB
 go_enter Tryz.func28, Tryz.ntmps28
 go_upto_region 1 with fail
 rw [<-hw0];clear hw0
 go_wp2_with fail
 refine (zcp _).mono ?_
 rintro e w1 ⟨Am,cm,Bm,dm,rfl,mm1,mm2,mm3,mm4,mm5,mm6,kb⟩
 replace ra:=zaa ra kb;replace rz:=zaa rz kb;replace hB:=onS hB kb;clear kb
 obtain ⟨q0,hq0⟩:∃ q:Rat,q=0:=⟨_,rfl⟩
 rw [<-hq0] at mm1 mm2 mm3 mm5 ⊢
 have HQ0:=hid hq0
 clear hq0
 have kb:=zab w1 (.cells #[.bool (rneg q0),.slice Am (dl q0.num.natAbs) cm,.slice Bm (dl q0.den) dm] 49)
 have rg:=zae (w:=w1) (a:=.bool (rneg q0)) (b:=.slice Am (dl q0.num.natAbs) cm) (c:=.slice Bm (dl q0.den) dm) (T := 49)
 have hsz1:=hB.size
 have hla:=rz.lt
 replace ra:=zaa ra kb;replace rz:=zaa rz kb;replace hB:=onS hB kb;replace mm1:=mm1.on kb;replace mm2:=mm2.on kb;clear kb
 obtain ⟨w2,hw2⟩:∃ W,W=w1.alloc (.cells #[.bool (rneg q0),.slice Am (dl q0.num.natAbs) cm,.slice Bm (dl q0.den) dm] 49):=⟨_,rfl⟩
 rw [<-hw2] at mm1 mm2 ra rz hB rg
 obtain ⟨g,hg⟩:∃ g,g=w1.heap.size:=⟨_,rfl⟩
 rw [<-hg] at rg hsz1 hla
 go_upto_region 2 with fail
 rw [<-hg,<-hw2];clear hw2 hg
 go_wp2
 go_loopg [6] m (fun gg iv wx=>∃ k:Nat,∃ Sa sc Sb sd,iv=.int .i64 ((m:Int) - 1 - (k:Nat))/\k<=m/\m<=k+gg/\dl (horR rs m x k).num.natAbs<=sc/\sc<=maxLen/\dl (horR rs m x k).den<=sd/\sd<=maxLen/\NatOk wx wx.heap.size Sa (horR rs m x k).num.natAbs/\NatOk wx wx.heap.size Sb (horR rs m x k).den/\wx.rowIs g 49 3 (ratCell (.bool (rneg ((horR rs m x k)))) (.slice (Sa) (dl ((horR rs m x k)).num.natAbs) (sc)) (.slice (Sb) (dl ((horR rs m x k)).den) (sd)))/\wx.rowIs w.heap.size 49 3 (ratCell (.bool (s)) (.slice (A) (n) (c1)) (.slice (A2) (n2) (c2)))/\wx.rowIs (w.heap.size+1) 49 3 (ratCell (.bool false) (.slice none 0 0) (.slice none 0 0))/\Below w.heap.size w wx)
 case atStart=>rw [HQ0.out] at mm1 mm2 mm3 mm5 rg; exact ⟨0,Am,cm,Bm,dm,by go_num,by omega,by omega,mm3,mm4,mm5,mm6,mm1,mm2,rg,ra,rz,hB⟩
 case round =>
  clear mm1 mm2 ra rz hB rg HQ0 mm3 mm4 mm5 mm6
  obtain ⟨k,Sa,sc,Sb,sd,rfl,hk,hkg,c3,c4,c5,c6,s1,s2,rg,ra,rz,hB⟩:=hrel
  have HSK:=(hs.out k hk).1
  have HSX:=(hs.out k hk).2
  by_cases hlt:k<m
  ·have hge:(0:Int)<=(m:Int) - 1 - (k:Int):=by omega
   obtain ⟨j,hj⟩:∃ j:Nat,j=m - 1 - k:=⟨_,rfl⟩
   have hji:(m:Int) - 1 - (k:Int)=(j:Int):=by omega
   have hjm:j<m:=by omega
   have hjm':(j:Int)<(m:Int):=by omega
   have hj0:(0:Int)<=(j:Int):=by omega
   rw [hji]
   obtain ⟨b,off,s5,A5,n5,c5',A6,n6,c6',rfl,hb,t0,t1,t2,hraw⟩:=h j hjm
   replace hraw:=hraw.on hB
   have HRK:=hr.out j hjm
   have HSK2:=(hs.out (k+1) (by omega)).1
   obtain ⟨S,hS⟩:∃ S,S=horR rs m x k:=⟨_,rfl⟩
   obtain ⟨rk,hrk⟩:∃ S,S=rs j:=⟨_,rfl⟩
   have hnext:horR rs m x (k+1)=S*x+rk:=by rw [hS,hrk,hj]; rfl
   rw [<-hS] at c3 c5 s1 s2 rg HSK HSX;rw [<-hrk] at hraw HRK
   have HNX:=hid hnext
   rw [hnext] at HSK2
   have HJ:=hid hj
   have HJI:=hid hji
   clear hS hrk hnext hj hji hge
   go_upto_region 5 with fail
   have hxr:=hx.on hB
   have HS:Hid (∀ w':World,w'.rowIs w.heap.size 49 3 (ratCell (.bool (s)) (.slice (A) (n) (c1)) (.slice (A2) (n2) (c2)))->Below w.heap.size w w'->w'.cell? ⟨w.heap.size,0,none⟩=some (.bool (s))/\w'.cell? ⟨w.heap.size,1,none⟩=some (.slice (A) (n) (c1))/\w'.cell? ⟨w.heap.size,2,none⟩=some (.slice (A2) (n2) (c2))/\w'.cell? ⟨b,off+j*3,none⟩=some (.bool (s5))/\w'.cell? ⟨b,off+j*3+1,none⟩=some (.slice (A5) (n5) (c5'))/\w'.cell? ⟨b,off+j*3+2,none⟩=some (.slice (A6) (n6) (c6'))):=fun w' h2 kb=>⟨h2.cell (i:=0) (by omega),h2.cell (i:=1) (by omega),h2.cell (i:=2) (by omega),cellS kb t0,cellS kb t1,cellS kb t2⟩
   refine wp_region_held_drew (S:=fun w'=>w'.cell? ⟨w.heap.size,0,none⟩=some (.bool (s))/\w'.cell? ⟨w.heap.size,1,none⟩=some (.slice (A) (n) (c1))/\w'.cell? ⟨w.heap.size,2,none⟩=some (.slice (A2) (n2) (c2))/\w'.cell? ⟨b,off+j*3,none⟩=some (.bool (s5))/\w'.cell? ⟨b,off+j*3+1,none⟩=some (.slice (A5) (n5) (c5'))/\w'.cell? ⟨b,off+j*3+2,none⟩=some (.slice (A6) (n6) (c6'))) (by kernel_rfl) (HS.out _ (show World.rowIs (World.drew _) _ _ _ _ from ra) hB.drew) (fun hHeld=>?_)
   clear t0 t1 t2
   obtain ⟨w3,hw⟩:∃ W,W=World.drew wr:=⟨_,rfl⟩
   have kb:Below wr.heap.size wr w3:=by rw [hw]; exact (Below.refl _ _).drew
   rw [<-hw] at hHeld ⊢;clear hw;replace s1:=s1.on kb;replace s2:=s2.on kb;replace rg:=zaa rg kb;replace ra:=zaa ra kb;replace rz:=zaa rz kb;replace hB:=onS hB kb;replace hraw:=hraw.on kb;replace hxr:=hxr.on kb;clear kb
   refine tkq 1 (h:=tkq 4 (h:=tkq 5 (h:=tkq 6 (h:=tkq 7 (h:=?_)))))
   have lg0:=qc0 rg
   have lg1:=qc1 rg
   have lg2:=qc2 rg
   refine rdq 0 (h:=fun K hK=>?_)
   go_simp
   clear lg0 lg1 lg2
   refine bkq hK (HS.out _ ra hB) (h:=fun hHeld=>?_)
   clear hK K
   refine rdq 2 (h:=fun K hK=>?_)
   go_simp
   obtain ⟨w4,hw⟩:∃ W,W=World.alloc w3 (.cells #[.bool (rneg (S)),.slice (Sa) (dl (S).num.natAbs) (sc),.slice (Sb) (dl (S).den) (sd),.bool (s),.slice (A) (n) (c1),.slice (A2) (n2) (c2)] 49):=⟨_,rfl⟩
   have kb:Below w3.heap.size w3 w4:=by rw [hw]; exact zab _ _
   have tbp:RatTab w4 w4.heap.size (some ⟨w3.heap.size,0,none⟩) 2 (pairR (S) (x)) N:=RatTab.letter hw (zaE 49 (zaH s1 s2 c3 c4 c5 c6 HSK) hxr)
   rw [<-hw];clear hw;replace s1:=s1.on kb;replace s2:=s2.on kb;replace rg:=zaa rg kb;replace ra:=zaa ra kb;replace rz:=zaa rz kb;replace hB:=onS hB kb;replace hraw:=hraw.on kb;replace hxr:=hxr.on kb;clear kb
   obtain ⟨gp,hg⟩:∃ g,g=w3.heap.size:=⟨_,rfl⟩
   rw [<-hg] at tbp ⊢;clear hg
   refine bkq hK (HS.out _ ra hB) (h:=fun hHeld=>?_)
   clear hK K
   refine rdq 3 (h:=fun K hK=>?_)
   go_simp
   go_wp2_with fail
   refine (zcq tbp hN h1 HSK hsx HSX).mono ?_
   rintro e w5 ⟨Ae,ce,Be,de,rfl,me1,me2,me3,me4,me5,me6,kb⟩
   replace s1:=s1.on kb;replace s2:=s2.on kb;replace rg:=zaa rg kb;replace ra:=zaa ra kb;replace rz:=zaa rz kb;replace hB:=onS hB kb;replace hraw:=hraw.on kb;replace hxr:=hxr.on kb;replace tbp:=tbp.on kb;clear kb;clear tbp
   obtain ⟨p,hp⟩:∃ p,p=S*x:=⟨_,rfl⟩
   rw [<-hp] at me1 me2 me3 me5 HSX HSK2 HNX ⊢;clear hp
   refine bkq hK (HS.out _ ra hB) (h:=fun hHeld=>?_)
   clear hK K
   refine rdq 8 (h:=fun K hK=>?_)
   go_simp
   obtain ⟨w6,hw⟩:∃ W,W=World.alloc w5 (.cells #[.bool (rneg (p)),.slice (Ae) (dl (p).num.natAbs) (ce),.slice (Be) (dl (p).den) (de),.bool (s5),.slice (A5) (n5) (c5'),.slice (A6) (n6) (c6')] 49):=⟨_,rfl⟩
   have kb:Below w5.heap.size w5 w6:=by rw [hw]; exact zab _ _
   have tbq:RatTab w6 w6.heap.size (some ⟨w5.heap.size,0,none⟩) 2 (pairR (p) (rk)) N:=RatTab.letter hw (zaE 49 (zaH me1 me2 me3 me4 me5 me6 HSX) hraw)
   rw [<-hw];clear hw;replace s1:=s1.on kb;replace s2:=s2.on kb;replace rg:=zaa rg kb;replace ra:=zaa ra kb;replace rz:=zaa rz kb;replace hB:=onS hB kb;replace hraw:=hraw.on kb;replace hxr:=hxr.on kb;replace me1:=me1.on kb;replace me2:=me2.on kb;clear kb
   obtain ⟨gq,hg⟩:∃ g,g=w5.heap.size:=⟨_,rfl⟩
   rw [<-hg] at tbq ⊢;clear hg
   refine bkq hK (HS.out _ ra hB) (h:=fun hHeld=>?_)
   clear hK K
   refine rdq 9 (h:=fun K hK=>?_)
   go_simp
   go_wp2_with fail
   refine (za9 tbq hN h1 HSX HRK HSK2).mono ?_
   rintro e w7 ⟨Am',cm',Bm',dm',rfl,mm1,mm2,mm3,mm4,mm5,mm6,kb⟩
   replace s1:=s1.on kb;replace s2:=s2.on kb;replace rg:=zaa rg kb;replace ra:=zaa ra kb;replace rz:=zaa rz kb;replace hB:=onS hB kb;replace hraw:=hraw.on kb;replace hxr:=hxr.on kb;replace me1:=me1.on kb;replace me2:=me2.on kb;replace tbq:=tbq.on kb;clear kb;clear tbq
   obtain ⟨q,hq⟩:∃ q,q=p+rk:=⟨_,rfl⟩
   rw [<-hq] at mm1 mm2 mm3 mm5 HNX ⊢;clear hq
   refine bkq hK (HS.out _ ra hB) (h:=fun hHeld=>?_)
   clear hK K
   have hsz:=hB.size
   have hgs:=rg.lt
   have za0:=rg.frozen 0
   have za1:=rg.frozen 1
   have za2:=rg.frozen 2
   have ya0:=qc0 rg
   have ya1:=qc1 rg
   have ya2:=qc2 rg
   refine rdq 10 (h:=fun K hK=>?_)
   go_simp
   generalize hw3:World.setCell _ _ _=w8
   have hst:RatStored w7 (g) 49 (rneg (q)) (Am') (dl (q).num.natAbs) (cm') (Bm') (dl (q).den) (dm') w8:=by rw [<-hw3]; exact zaf rg _ _ _ _ _ _ _
   clear hw3;replace s1:=hst.nat _ _ _ s1;rw [<-hst.size] at s1;replace s2:=hst.nat _ _ _ s2;rw [<-hst.size] at s2;replace rg:=hst.row
   replace ra:=zad ra hst.grown (by omega)
   replace rz:=zad rz hst.grown (by omega)
   replace hB:=hst.below hB (by omega) (by omega)
   replace hraw:=hst.raw hraw;rw [<-hst.size] at hraw;replace hxr:=hst.raw hxr;rw [<-hst.size] at hxr;replace me1:=hst.nat _ _ _ me1;rw [<-hst.size] at me1;replace me2:=hst.nat _ _ _ me2;rw [<-hst.size] at me2;replace mm1:=hst.nat _ _ _ mm1;rw [<-hst.size] at mm1;replace mm2:=hst.nat _ _ _ mm2;rw [<-hst.size] at mm2;clear hst
   refine bkq hK (HS.out _ ra hB) (h:=fun hHeld=>?_)
   clear hK K
   refine wpAnyH_done (by kernel_rfl) ?_ _
   clear hHeld;clear hsz hgs za0 za1 za2 ya0 ya1 ya2 HS;rw [<-HNX.out] at mm1 mm2 mm3 mm5 rg;clear HNX HSK2
   go_wp2
   go_roundg (gk - 1)
   case measure=>omega
   case rel=>exact ⟨k+1,Am',cm',Bm',dm',by have:=HJI.out; go_num,by omega,by omega,mm3,mm4,mm5,mm6,mm1,mm2,rg,ra,rz,hB⟩
  ·obtain rfl:k=m:=by omega
   have hge:¬ (0:Int)<=(k:Int) - 1 - (k:Int):=by omega
   have hge2:¬ (k:Int)<=(k:Int) - 1:=by omega
   obtain ⟨w19,hw19⟩:∃ W,W=wr:=⟨_,rfl⟩
   rw [<-hw19] at s1 s2 rg rz hB ⊢;clear hw19 h ra
   have mm1:=s1
   have mm2:=s2
   have mm3:=c3
   have mm4:=c4
   have mm5:=c5
   have mm6:=c6
   clear s1 s2 c3 c4 c5 c6 HSK HSX
   obtain ⟨q,hq⟩:∃ q,q=horR rs k x k:=⟨_,rfl⟩
   rw [<-hq] at mm1 mm2 mm3 mm5 rg ⊢
   have HQL:=hid hq
   obtain ⟨ngq,hngq⟩:∃ b,b=rneg q:=⟨_,rfl⟩
   rw [<-hngq] at rg
   have HNG:=hid hngq
   clear hq hngq
   have eg0:=qc0 rg
   have eg1:=qc1 rg
   have eg2:=qc2 rg
   clear rg
   have hsz:=hB.size
   have za0:=rz.frozen 0
   have za1:=rz.frozen 1
   have za2:=rz.frozen 2
   have ya0:=qc0 rz
   have ya1:=qc1 rz
   have ya2:=qc2 rz
   go_wp2
   generalize hw3:World.setCell _ _ _=w20
   have hst:RatStored w19 (w.heap.size+1) 49 (ngq) (Sa) (dl q.num.natAbs) (sc) (Sb) (dl q.den) (sd) w20:=by rw [<-hw3]; exact zaf rz _ _ _ _ _ _ _
   clear hw3;replace mm1:=hst.nat _ _ _ mm1;rw [<-hst.size] at mm1;replace mm2:=hst.nat _ _ _ mm2;rw [<-hst.size] at mm2;replace rz:=hst.row
   replace hB:=hst.below hB (by omega) (by omega)
   clear hst;clear hsz za0 za1 za2 ya0 ya1 ya2
   have e0:=qc0 rz
   have e1:=qc1 rz
   have e2:=qc2 rz
   refine bodyPost_ret (v:=.agg #[.bool (ngq),.slice (Sa) (dl q.num.natAbs) (sc),.slice (Sb) (dl q.den) (sd)]) (by simp [results,Tryz.results28, go_sem,e0,e1,e2]) rfl ?_
   rw [<-HQL.out]
   exact ⟨Sa,sc,Sb,sd,by rw [HNG.out],mm1,mm2,mm3,mm4,mm5,mm6,hB⟩
theorem Tryz.infoRat:(Tryz.prog.info? 49).map (fun i=>(i.zero,i.size,i.bytes))=some (some (.agg #[.bool false,.slice none 0 0,.slice none 0 0]),3,56):=by kernel_rfl
theorem zcL (n:Nat) (hn:n<=1048576) (w:World) :
  (Instr.makeSlice 30 (.int .i64 (n:Int)) (.int .i64 (n:Int))).run Tryz.prog w=.ok (.slice (some ⟨w.heap.size,0,none⟩) n n) (w.alloc (.cells (madeCells #[.bool false,.slice none 0 0,.slice none 0 0] (n*3)) 49)):=by
 obtain ⟨i,hi,hzz⟩:=Option.map_eq_some_iff.1 Tryz.infoRat
 simp only [Prod.mk.injEq] at hzz
 obtain ⟨hz,hs,hb⟩:=hzz
 have h:=run_make (P:=Tryz.prog) w 30 49 i _ Tryz.underlying30 hi hz .i64 .i64 (n:Int) (n:Int) (by omega) (by omega) (by rw [hb]; omega) (by omega)
 rw [hs] at h
 simp only [Int.toNat_natCast] at h
 exact h
def RowOk (w:World) (g:Nat) (M k:Nat) (rs:Nat->Rat):Prop :=
 ∃ f,RatRow w g 49 M f/\k<=M/\∀ i,i<k->∃ A c A2 c2,f i 0=.bool (rneg (rs i))/\f i 1=.slice A (dl (rs i).num.natAbs) c/\f i 2=.slice A2 (dl (rs i).den) c2/\NatOk w w.heap.size A (rs i).num.natAbs/\NatOk w w.heap.size A2 (rs i).den/\dl (rs i).num.natAbs<=c/\c<=maxLen/\dl (rs i).den<=c2/\c2<=maxLen
theorem RowOk.on {w w':World} {g M k:Nat} {rs:Nat->Rat} (h:RowOk w g M k rs) (hb:Below w.heap.size w w'):RowOk w' g M k rs:=by
 obtain ⟨f,h1,h2,h3⟩:=h
 refine ⟨f,h1.on hb,h2,fun i hi=>?_⟩
 obtain ⟨A,c,A2,c2,e0,e1,e2,n1,n2,h4⟩:=h3 i hi
 exact ⟨A,c,A2,c2,e0,e1,e2,n1.on hb,n2.on hb,h4⟩
theorem RowOk.congr {w:World} {g M k:Nat} {rs rs':Nat->Rat} (h:RowOk w g M k rs) (e:∀ i,i<k->rs i=rs' i):RowOk w g M k rs':=by
 obtain ⟨f,h1,h2,h3⟩:=h
 exact ⟨f,h1,h2,fun i hi=>by rw [<-e i hi]; exact h3 i hi⟩
theorem RowOk.lt {w:World} {g M k:Nat} {rs:Nat->Rat} (h:RowOk w g M k rs):g<w.heap.size:=by
 obtain ⟨f,h1,_⟩:=h
 exact h1.row.lt
theorem RowOk.froz {w:World} {g M k:Nat} {rs:Nat->Rat} (h:RowOk w g M k rs) (i:Nat):w.frozen? ⟨g,i,none⟩=false:=by
 obtain ⟨f,h1,_⟩:=h
 exact h1.row.frozen i
theorem RowOk.old {w:World} {g M k:Nat} {rs:Nat->Rat} (h:RowOk w g M k rs) (i:Nat) (hi:i<M):∃ a b c,w.cell? ⟨g,i*3,none⟩=some a/\w.cell? ⟨g,i*3+1,none⟩=some b/\w.cell? ⟨g,i*3+2,none⟩=some c:=by
 obtain ⟨f,h1,_⟩:=h
 exact ⟨_,_,_,h1.cell (j:=0) hi (by omega),h1.cell (j:=1) hi (by omega),h1.cell (j:=2) hi (by omega)⟩
theorem RowOk.get {w:World} {g M k:Nat} {rs:Nat->Rat} (h:RowOk w g M k rs) (i:Nat) (hi:i<k):∃ A c A2 c2,w.cell? ⟨g,i*3,none⟩=some (.bool (rneg (rs i)))/\w.cell? ⟨g,i*3+1,none⟩=some (.slice A (dl (rs i).num.natAbs) c)/\w.cell? ⟨g,i*3+2,none⟩=some (.slice A2 (dl (rs i).den) c2)/\NatOk w w.heap.size A (rs i).num.natAbs/\NatOk w w.heap.size A2 (rs i).den/\dl (rs i).num.natAbs<=c/\c<=maxLen/\dl (rs i).den<=c2/\c2<=maxLen:=by
 obtain ⟨f,h1,h2,h3⟩:=h
 obtain ⟨A,c,A2,c2,e0,e1,e2,h4⟩:=h3 i hi
 refine ⟨A,c,A2,c2,?_,?_,?_,h4⟩
 ·have:=h1.cell (i:=i) (j:=0) (by omega) (by omega); rw [e0] at this; exact this
 ·have:=h1.cell (i:=i) (j:=1) (by omega) (by omega); rw [e1] at this; exact this
 ·have:=h1.cell (i:=i) (j:=2) (by omega) (by omega); rw [e2] at this; exact this
theorem RowOk.list {w:World} {g M k:Nat} {rs:Nat->Rat} (h:RowOk w g M k rs):RatList w w.heap.size (some ⟨g,0,none⟩) k rs:=fun i hi=>by
 obtain ⟨A,c,A2,c2,h1,h2,h3,h4⟩:=h.get i hi
 exact ⟨g,0,A,c,A2,c2,rfl,h.lt,by rw [Nat.zero_add]; exact h1,by rw [Nat.zero_add]; exact h2,by rw [Nat.zero_add]; exact h3,h4⟩
theorem RatList.tab {w:World} {B m N:Nat} {T:Option Addr} {rs:Nat->Rat} (h:RatList w B T m rs) (hr:∀ i,i<m->rsz (rs i) N):RatTab w B T m rs N:=fun i hi=>by
 obtain ⟨b,off,A,c,A2,c2,e,h1,h2,h3,h4,h5,h6,h7⟩:=h i hi
 exact ⟨b,off,_,A,_,c,A2,_,c2,e,h1,h2,h3,h4,RatOk.raw ⟨A,c,A2,c2,rfl,h5,h6,h7⟩ (hr i hi)⟩
theorem RatList.le {w:World} {B m n:Nat} {T:Option Addr} {rs:Nat->Rat} (h:RatList w B T m rs) (hn:n<=m):RatList w B T n rs:=fun i hi=>h i (by omega)
theorem zdi (w:World) (M:Nat) (rs:Nat->Rat):RowOk (w.alloc (.cells (madeCells #[.bool false,.slice none 0 0,.slice none 0 0] (M*3)) 49)) w.heap.size M 0 rs:=by
 refine ⟨fun _ j=>ratCell (.bool false) (.slice none 0 0) (.slice none 0 0) j,⟨⟨_,heap_alloc_new w _,size_madeCells _ _,fun i hi=>?_⟩,fun i j k=>?_⟩,by omega,fun i hi=>by omega⟩
 ·have:(madeCells #[Value.bool false,.slice none 0 0,.slice none 0 0] (M*3))[i]?=some (#[Value.bool false,.slice none 0 0,.slice none 0 0][i % 3]!):=by simp [madeCells,hi]
  rw [this]
  show some _=some (ratCell _ _ _ (i % 3))
  rcases (by omega:i % 3=0∨i % 3=1∨i % 3=2) with e | e | e <;> rw [e] <;> rfl
 ·unfold ratCell
  split
  ·intro e; cases e
  ·split <;> (intro e; cases e)
def updR (rs:Nat->Rat) (p:Nat) (r:Rat) (i:Nat):Rat:=if i=p then r else rs i
structure RowPut (w:World) (g M k p:Nat) (rs:Nat->Rat) (r:Rat) (w3:World):Prop where
 row:RowOk w3 g M (max k (p+1)) (updR rs p r)
 nat:∀ B A' x,NatOk w B A' x->NatOk w3 B A' x
 rawn:∀ B A' n' x,NatRaw w B A' n' x->NatRaw w3 B A' n' x
 size:w3.heap.size=w.heap.size
 grown:w.grownBy w3 (some g)
theorem rowPut {w:World} {g M k p:Nat} {rs:Nat->Rat} {r:Rat} (h:RowOk w g M k rs) (hp:p<=k) (hpM:p<M) {A A2:Option Addr} {c c2:Nat}
  (m1:NatOk w w.heap.size A r.num.natAbs) (m2:NatOk w w.heap.size A2 r.den) (m3:dl r.num.natAbs<=c) (m4:c<=maxLen) (m5:dl r.den<=c2) (m6:c2<=maxLen) :
  RowPut w g M k p rs r (((w.setCell ⟨g,p*3,none⟩ (.bool (rneg r))).setCell ⟨g,p*3+1,none⟩ (.slice A (dl r.num.natAbs) c)).setCell ⟨g,p*3+2,none⟩ (.slice A2 (dl r.den) c2)):=by
 obtain ⟨f,h1,h2,h3⟩:=h
 have st:=zkg h1 p (rneg r) A (dl r.num.natAbs) c A2 (dl r.den) c2
 refine ⟨⟨_,st.row,by omega,fun i hi=>?_⟩,st.nat,st.rawn,st.size,st.grown⟩
 by_cases e:i=p
 ·subst e
  refine ⟨A,c,A2,c2,?_,?_,?_,?_,?_,?_,m4,?_,m6⟩
  ·simp [putRat,ratCell,updR]
  ·simp [putRat,ratCell,updR]
  ·simp [putRat,ratCell,updR]
  ·simp only [updR,if_pos]; rw [st.size]; exact st.nat _ _ _ m1
  ·simp only [updR,if_pos]; rw [st.size]; exact st.nat _ _ _ m2
  ·simp only [updR,if_pos]; exact m3
  ·simp only [updR,if_pos]; exact m5
 ·obtain ⟨A',c',A2',c2',e0,e1,e2,n1,n2,h4⟩:=h3 i (by omega)
  refine ⟨A',c',A2',c2',?_,?_,?_,?_,?_,?_⟩
  ·simp [putRat,e,updR,e0]
  ·simp [putRat,e,updR,e1]
  ·simp [putRat,e,updR,e2]
  ·simp only [updR,if_neg e]; rw [st.size]; exact st.nat _ _ _ n1
  ·simp only [updR,if_neg e]; rw [st.size]; exact st.nat _ _ _ n2
  ·simp only [updR,if_neg e]; exact h4
theorem RowPut.below {w w3 w0:World} {g M k p B:Nat} {rs:Nat->Rat} {r:Rat} (h:RowPut w g M k p rs r w3) (hB:Below B w0 w) (hg:B<=g) (hs:B<=w.heap.size):Below B w0 w3 :=
 hB.grown h.grown hs (fun q e=>by injection e with e; omega)
def RatOwn (w:World) (base:Nat) (v:Value) (k:Nat) (rs:Nat->Rat):Prop :=
 ∃ f,Own w base 49 3 v k f/\(∀ g,v.ownBlock=some g->NoInt w g)/\∀ i,i<k->∃ A c A2 c2,f i 0=.bool (rneg (rs i))/\f i 1=.slice A (dl (rs i).num.natAbs) c/\f i 2=.slice A2 (dl (rs i).den) c2/\NatOk w w.heap.size A (rs i).num.natAbs/\NatOk w w.heap.size A2 (rs i).den/\dl (rs i).num.natAbs<=c/\c<=maxLen/\dl (rs i).den<=c2/\c2<=maxLen
theorem RatOwn.nil (w:World) (base:Nat) (rs:Nat->Rat):RatOwn w base (.slice none 0 0) 0 rs:=⟨fun _ _=>undef,.inl ⟨rfl,rfl⟩,fun g h=>by simp [Value.ownBlock] at h,fun i hi=>by omega⟩
theorem RatOwn.on {w w':World} {base k:Nat} {v:Value} {rs:Nat->Rat} (h:RatOwn w base v k rs) (hb:Below w.heap.size w w'):RatOwn w' base v k rs:=by
 obtain ⟨f,h1,h2,h3⟩:=h
 refine ⟨f,h1.on hb,fun g hg j n hj=>?_,fun i hi=>?_⟩
 ·have hlt:=(h1.lt g hg).2
  exact h2 g hg j n (by rw [<-hb.cell (p:=⟨g,j,none⟩) hlt]; exact hj)
 ·obtain ⟨A,c,A2,c2,e0,e1,e2,n1,n2,h4⟩:=h3 i hi
  exact ⟨A,c,A2,c2,e0,e1,e2,n1.on hb,n2.on hb,h4⟩
theorem RatOwn.shape {w:World} {base k:Nat} {v:Value} {rs:Nat->Rat} (h:RatOwn w base v k rs):∃ A c,v=.slice A k c:=by
 obtain ⟨f,h1,_⟩:=h
 exact h1.shape
theorem RatOwn.list {w:World} {base k c:Nat} {A:Option Addr} {rs:Nat->Rat} (h:RatOwn w base (.slice A k c) k rs):RatList w w.heap.size A k rs:=fun i hi=>by
 obtain ⟨f,h1,_,h3⟩:=h
 obtain ⟨g,o,cap,e,_,hlt,_,_,hc⟩:=h1.form (by omega)
 injection e with e
 obtain ⟨A',c',A2',c2',e0,e1,e2,h4⟩:=h3 i hi
 refine ⟨g,o,A',c',A2',c2',e,hlt,?_,?_,?_,h4⟩
 ·rw [<-e0]; exact hc i hi 0 (by omega)
 ·rw [<-e1]; exact hc i hi 1 (by omega)
 ·rw [<-e2]; exact hc i hi 2 (by omega)
theorem RatOwn.cap {w:World} {base k c:Nat} {A:Option Addr} {rs:Nat->Rat} (h:RatOwn w base (.slice A k c) k rs):k<=c/\c<=maxLen/\(A=none->k=0/\c=0)/\∀ a,A=some a->∃ g o,a=⟨g,o,none⟩:=by
 obtain ⟨f,h1,_⟩:=h
 rcases h1 with ⟨e,rfl⟩ | ⟨g,o,cap,cur,e,_,_,h4,h5,_⟩
 ·injection e with e1 _ e3
  subst e1 e3
  exact ⟨by omega,by unfold maxLen; omega,fun _=>⟨rfl,rfl⟩,fun a h=>by cases h⟩
 ·injection e with e1 _ e3
  subst e1 e3
  exact ⟨h4,h5,(fun h=>by cases h),fun a h=>by injection h with h; exact ⟨g,o,h.symm⟩⟩
theorem zfg {w w':World} {g:Nat} {t:TypeId} {n:Nat} {f:Nat->Value} {row:Option Nat} (h:w.rowIs g t n f) (hg:w.grownBy w' row) (hne:some g≠row):w'.rowIs g t n f:=h.of_block (hg.block g h.lt hne)
theorem RatRaw.grown {w w':World} {v:Value} {r:Rat} {N:Nat} {row:Option Nat} (h:RatRaw w w.heap.size v r N) (hg:w.grownBy w' row) (hni:∀ g,row=some g->NoInt w g):RatRaw w' w'.heap.size v r N:=by
 have raw:∀ A n x,NatRaw w w.heap.size A n x->NatRaw w' w'.heap.size A n x:=fun A n x ⟨f,h1,h2⟩=>by
  refine ⟨f,fun q hq=>?_,h2⟩
  obtain ⟨b',o',e,h3,h4⟩:=zcI h1 (Nat.le_refl _) hg hni q hq
  exact ⟨b',o',e,Nat.lt_of_lt_of_le h3 hg.size,h4⟩
 obtain ⟨s,A,n,c,A2,m,c2,x,y,e,h1,h2,h3⟩:=h
 exact ⟨s,A,n,c,A2,m,c2,x,y,e,raw _ _ _ h1,raw _ _ _ h2,h3⟩
theorem RatOwn.lt {w:World} {base k:Nat} {v:Value} {rs:Nat->Rat} (h:RatOwn w base v k rs) (g:Nat) (hg:v.ownBlock=some g):base<=g/\g<w.heap.size:=by
 obtain ⟨f,h1,_⟩:=h
 exact h1.lt g hg
theorem zd9 (w:World) (ty:TypeId) (base:Nat) (v:Value) (k:Nat) (rs:Nat->Rat) (h:RatOwn w base v k rs) (hbase:base<=w.heap.size) (hk:k<=1048576)
  (b c:Nat) (A:Option Addr) (d:Nat) (A2:Option Addr) (d2:Nat) (r:Rat) (hr:rs k=r)
  (c0:w.cell? ⟨b,0,none⟩=some (.bool (rneg r))) (c1:w.cell? ⟨b,1,none⟩=some (.slice A (dl r.num.natAbs) d)) (c2:w.cell? ⟨b,2,none⟩=some (.slice A2 (dl r.den) d2))
  (m1:NatOk w w.heap.size A r.num.natAbs) (m2:NatOk w w.heap.size A2 r.den) (m3:dl r.num.natAbs<=d) (m4:d<=maxLen) (m5:dl r.den<=d2) (m6:d2<=maxLen) :
  ∃ v' w',(Builtin.append_ #[30, 30] ty #[v,.slice (some ⟨b,0,none⟩) 1 c]).run Tryz.prog w=.ok v' w'/\RatOwn w' base v' (k+1) rs/\w.grownBy w' v.ownBlock/\(∀ g,v.ownBlock=some g->base<=g/\NoInt w g):=by
 subst hr
 obtain ⟨f,hown,hni,hf⟩:=h
 obtain ⟨i,hi,hzz⟩:=Option.map_eq_some_iff.1 Tryz.infoRat
 simp only [Prod.mk.injEq] at hzz
 obtain ⟨hz,hs,hb⟩:=hzz
 let f':Nat->Nat->Value:=fun i j=>if i<k then (if j<3 then f i j else undef) else ratCell (.bool (rneg (rs k))) (.slice A (dl (rs k).num.natAbs) d) (.slice A2 (dl (rs k).den) d2) j
 have hown':Own w base 49 3 v k f':=hown.congr fun i hi j hj=>by simp [f',hi,hj]
 have add_lit':∀ j,(⟨b,0,none⟩:Addr).add j=⟨b,j,none⟩:=fun j=>by unfold Addr.add; split <;> simp_all
 have hnews:∀ j,j<3->w.cell? ((⟨b,0,none⟩:Addr).add j)=some (f' k j):=fun j hj=>by
  rw [add_lit']
  match j,hj with
  | 0,_=>simpa [f',ratCell] using c0
  | 1,_=>simpa [f',ratCell] using c1
  | 2,_=>simpa [f',ratCell] using c2
 have h1:∀ j,j<3->(f' k j).oneCell'=true:=fun j hj=>by
  match j,hj with
  | 0,_=>simp [f',ratCell]; rfl
  | 1,_=>simp [f',ratCell]; rfl
  | 2,_=>simp [f',ratCell]; rfl
 obtain ⟨v1,w1,e1,o1,g1,a1,_⟩:=zbA (P:=Tryz.prog) w base 30 ty 49 i _ 3 56 Tryz.underlying30 hi hz hs hb rfl (by omega) v k f' hown' ⟨b,0,none⟩ c hnews h1 (by unfold maxLen; omega) (by omega) hbase
 obtain ⟨v2,w2,e2,hcells⟩:=zbO (P:=Tryz.prog) w (fun u=>∀ n,u≠.int .u32 n) base 30 ty 49 i _ 3 56 Tryz.underlying30 hi hz hs hb (by omega) v k f' hown' ⟨b,0,none⟩ c hnews h1 (by unfold maxLen; omega) (by omega)
  (fun u hu n e=>by
   have hu:u ∈ [Value.bool false,.slice none 0 0,.slice none 0 0]:=hu
   rw [e] at hu; simp at hu)
  (fun i j hi hj n=>by
   by_cases e:i<k
   ·obtain ⟨B,x,B2,x2,e0,e1,e2,_⟩:=hf i e
    match j,hj with
    | 0,_=>simp [f',e,e0]
    | 1,_=>simp [f',e,e1]
    | 2,_=>simp [f',e,e2]
   ·match j,hj with
    | 0,_=>simp [f',e,ratCell]
    | 1,_=>simp [f',e,ratCell]
    | 2,_=>simp [f',e,ratCell])
  (fun g c' e' fr hg hh=>zdd hh (hni g hg))
 rw [e1] at e2
 injection e2 with e2 e3
 subst e2 e3
 have nat:∀ A' x,NatOk w w.heap.size A' x->NatOk w1 w1.heap.size A' x:=fun A' x hx=>by
  have:=zcI hx (Nat.le_refl _) g1 (fun g hg=>hni g hg)
  intro q hq
  obtain ⟨b',o',e,h1,h2⟩:=this q hq
  exact ⟨b',o',e,Nat.lt_of_lt_of_le h1 g1.size,h2⟩
 refine ⟨v1,w1,e1,⟨f',o1,fun g hg=>?_,fun i hi=>?_⟩,g1,fun g hg=>⟨(hown.lt g hg).1,hni g hg⟩⟩
 ·obtain ⟨c',e',fr,hh,hu⟩:=hcells g hg
  exact zgK hh hu
 ·by_cases e:i<k
  ·obtain ⟨B,x,B2,x2,e0,e1,e2,n1,n2,h4⟩:=hf i e
   exact ⟨B,x,B2,x2,by simp [f',e,e0],by simp [f',e,e1],by simp [f',e,e2],nat _ _ n1,nat _ _ n2,h4⟩
  ·obtain rfl:i=k:=by omega
   exact ⟨A,d,A2,d2,by simp [f',ratCell],by simp [f',ratCell],by simp [f',ratCell],nat _ _ m1,nat _ _ m2,m3,m4,m5,m6⟩
theorem zc1 {w:World} {ops:Array Oper} {rest:List Oper} {o:Oper} {a:Act} {Q:Exit->Act->World->Prop} (hgd:o.guard=none) (sl x:Operand)
  (ho:o.op=.call { callee:=.builtin .append,args:=#[sl,x],argTypes:=#[30, 30] })
  (base:Nat) (v:Value) (k:Nat) (rs:Nat->Rat) (hv:a.eval sl=v) (h:RatOwn w base v k rs) (hbase:base<=w.heap.size) (hk:k<=1048576)
  (b c:Nat) (hx:a.eval x=.slice (some ⟨b,0,none⟩) 1 c) (A:Option Addr) (d:Nat) (A2:Option Addr) (d2:Nat) (r:Rat) (hr:rs k=r)
  (c0:w.cell? ⟨b,0,none⟩=some (.bool (rneg r))) (c1:w.cell? ⟨b,1,none⟩=some (.slice A (dl r.num.natAbs) d)) (c2:w.cell? ⟨b,2,none⟩=some (.slice A2 (dl r.den) d2))
  (m1:NatOk w w.heap.size A r.num.natAbs) (m2:NatOk w w.heap.size A2 r.den) (m3:dl r.num.natAbs<=d) (m4:d<=maxLen) (m5:dl r.den<=d2) (m6:d2<=maxLen)
  (hK:∀ v' w',RatOwn w' base v' (k+1) rs->w.grownBy w' v.ownBlock->(∀ g,v.ownBlock=some g->base<=g/\NoInt w g)->wpList Tryz.prog ops Q rest (a.put o.dst v') w'):wpList Tryz.prog ops Q (o :: rest) a w:=by
 refine wpList_plain hgd fun K hK'=>?_
 obtain ⟨v',w',hrun,h2,h3,h4⟩:=zd9 w o.type base v k rs h hbase hk b c A d A2 d2 r hr c0 c1 c2 m1 m2 m3 m4 m5 m6
 unfold Oper.wp execOp
 simp only [ho,resolve,invoke,builtin,Sem.run_bind,Sem.run_pure,Result.andThen_ok,List.map_toArray,List.map_cons,List.map_nil,hv,hx,hrun]
 exact hK' _ _ (hK v' w' h2 h3 h4)
def clen (rs:Nat->Rat):Nat->Nat
 | 0=>0
 | k+1=>if rs k=0 then clen rs k else k+1
theorem zeM (rs:Nat->Rat) (m:Nat):clen rs m<=m:=by
 induction m with
 | zero=>exact Nat.le_refl _
 | succ m ih=>unfold clen; split <;> omega
theorem zh7 {rs:Nat->Rat} {m i:Nat} (h:clen rs m<=i) (hi:i<m):rs i=0:=by
 induction m with
 | zero=>omega
 | succ m ih =>
  unfold clen at h
  by_cases e:rs m=0
  ·rw [if_pos e] at h
   by_cases e2:i=m
   ·rw [e2]; exact e
   ·exact ih h (by omega)
  ·rw [if_neg e] at h; omega
def PolyPost (n:Nat) (rs:Nat->Rat) (w:World) (e:Ending) (w':World):Prop :=
 ∃ A c,e=.returned (.slice A n c)/\n<=c/\c<=maxLen/\RatList w' w'.heap.size A n rs/\Below w.heap.size w w'
theorem zjq {r:Rat}:((rsign r:Int) != 0)=!(decide (r=0)):=by
 unfold rsign
 by_cases h:r.num=0
 ·have:r=0:=Rat.num_eq_zero.1 h
  rw [if_pos h,this]; rfl
 ·have h2:r≠0:=fun e=>h (Rat.num_eq_zero.2 e)
  rw [if_neg h]
  simp only [h2,decide_false,Bool.not_false,bne_iff_ne,ne_eq]
  split <;> omega
theorem zdG (T:Option Addr) (m c N:Nat) (rs:Nat->Rat) (w:World) (h:RatTab w w.heap.size T m rs N) (hm:m<=1048576) (hN:N<=33554432) :
  Calls Tryz.prog 151 #[.slice T m c] w (PolyPost (clen rs m) rs w):=by
 go_enter Tryz.func151, Tryz.ntmps151
 go_wp2
 go_loopg [3,4,9] m (fun gg ov nv iv wx=>∃ k:Nat,∃ A c,iv=.int .i64 (k:Nat)/\k<=m/\m<=k+gg/\nv=.int .i64 (clen rs k:Nat)/\ov=.slice A k c/\RatOwn wx w.heap.size (.slice A k c) k rs/\Below w.heap.size w wx)
 case atStart=>exact ⟨0,none,0,rfl,by omega,by omega,rfl,rfl,RatOwn.nil _ _ _,Below.refl _ _⟩
 case round =>
  obtain ⟨k,OA,oc,rfl,hk,hkg,rfl,rfl,hown,hB⟩:=hrel
  have hk0:(0:Int)<=(k:Int):=by omega
  have hcl:=zeM rs k
  by_cases hlt:k<m
  ·have hlt':(k:Int)<(m:Int):=by omega
   obtain ⟨b,off,s,A1,n1,c1,A2,n2,c2,rfl,hb,t0,t1,t2,hraw⟩:=h.on hB k hlt
   have hraw2:=hraw
   obtain ⟨r,hr⟩:∃ r,r=rs k:=⟨_,rfl⟩
   rw [<-hr] at hraw hraw2
   have HR:=hid hr
   clear hr
   have kb:=zab wr (.cells #[.bool s,.slice A1 n1 c1,.slice A2 n2 c2] 49)
   have rx:=zae (w:=wr) (a:=.bool s) (b:=.slice A1 n1 c1) (c:=.slice A2 n2 c2) (T := 49)
   have hszb:=hB.size
   replace hraw:=hraw.on kb
   have hown1:=hown.on kb
   have hB1:=onS hB kb
   obtain ⟨cl,hcle⟩:∃ cl,cl=clen rs k:=⟨_,rfl⟩
   rw [<-hcle];rw [<-hcle] at hcl
   have HCL:=hid hcle
   clear hcle
   go_wp2_with fail
   refine (zbz _ r N _ hraw (by omega)).mono ?_
   rintro e w1 ⟨At,ct,Bt,dt,rfl,m1,m2,m3,m4,m5,m6,kb1⟩
   have kb2:=zab w1 (.cells #[.bool (rneg r),.slice At (dl r.num.natAbs) ct,.slice Bt (dl r.den) dt] 49)
   have ry:=zae (w:=w1) (a:=.bool (rneg r)) (b:=.slice At (dl r.num.natAbs) ct) (c:=.slice Bt (dl r.den) dt) (T := 49)
   replace hown1:=(hown1.on kb1).on kb2;replace hraw:=(hraw.on kb1).on kb2;replace rx:=zaa (zaa rx kb1) kb2;replace hB1:=onS (onS hB1 kb1) kb2
   have n1':=m1.on kb2
   have n2':=m2.on kb2
   have hsz1:=kb1.size
   have y0:=ry.cell (i:=0) (by omega)
   have y1:=ry.cell (i:=1) (by omega)
   have y2:=ry.cell (i:=2) (by omega)
   clear t0 t1 t2
   go_wp2_with (first | (at_builtin; (refine zc1 rfl (.tmp 14) (.tmp 17) rfl w.heap.size _ k rs rfl hown1 (by have:=hB1.size; exact this) (by omega) w1.heap.size 1 rfl At ct Bt dt r HR.out.symm y0 y1 y2 n1' n2' m3 m4 m5 m6 ?_); intro v' w3 hown3 hg3 hat3; obtain ⟨OA',oc',rfl⟩:=hown3.shape; replace rx:=zfg rx hg3 (fun e=>by have:=(hown.lt _ e.symm).2; omega); replace hraw:=hraw.grown hg3 (fun g hg=>(hat3 g hg).2); replace hB1:=hB1.grown hg3 hB1.size (fun g hg=>(hat3 g hg).1); have x0:=rx.cell (i:=0) (by omega); have x1:=rx.cell (i:=1) (by omega); have x2:=rx.cell (i:=2) (by omega); clear y0 y1 y2 hg3 hat3))
   clear m1 m2 n1' n2'
   refine (zgc _ r N _ hraw (by omega)).mono ?_
   rintro e w4 ⟨rfl,kb3⟩
   replace hown3:=hown3.on kb3;replace hB1:=onS hB1 kb3;clear x0 x1 x2
   have hsg:=zjq (r:=r)
   have hnx:clen rs (k+1)=if r=0 then clen rs k else k+1:=by rw [HR.out]; rfl
   rw [<-HCL.out] at hnx
   by_cases hz:r=0
   ·have hsg2:((rsign r:Int) != 0)=false:=by rw [hsg]; simp [hz]
    rw [if_pos hz] at hnx
    have HNX:=hid hnx
    have hsg3:((rsign r:Int) == 0)=true:=by simpa using hsg2
    clear hsg hnx hz
    go_wp2
    go_roundg (gk - 1)
    case measure=>omega
    case rel=>exact ⟨k+1,OA',oc',by go_num,by omega,by omega,by rw [HNX.out],rfl,hown3,hB1⟩
   ·have hsg2:((rsign r:Int) != 0)=true:=by rw [hsg]; simp [hz]
    rw [if_neg hz] at hnx
    have HNX:=hid hnx
    have hsg3:((rsign r:Int) == 0)=false:=by simpa using hsg2
    clear hsg hnx hz
    go_wp2
    go_roundg (gk - 1)
    case measure=>omega
    case rel=>exact ⟨k+1,OA',oc',by go_num,by omega,by omega,by rw [HNX.out]; go_num,rfl,hown3,hB1⟩
  ·obtain rfl:k=m:=by omega
   have hlt':¬ (k:Int)<(k:Int):=by omega
   obtain ⟨hc1,hc2,hc3,hc4⟩:=hown.cap
   have hl:=hown.list.le hcl
   obtain ⟨cl,hcle⟩:∃ cl,cl=clen rs k:=⟨_,rfl⟩
   rw [<-hcle] at hcl hl ⊢
   have HCE:=hid hcle
   clear hcle hlt h
   cases OA with
   | none =>
    obtain ⟨rfl,rfl⟩:=hc3 rfl
    obtain rfl:cl=0:=by omega
    clear hc3 hc4
    go_wp2
    go_ret
    rw [<-HCE.out]
    exact ⟨_,_,rfl,by omega,hc2,hl,hB⟩
   | some a =>
    obtain ⟨g,o,rfl⟩:=hc4 a rfl
    clear hc3 hc4
    have hcl':(cl:Int)<=(oc:Int):=by omega
    go_wp2
    go_ret
    rw [<-HCE.out]
    exact ⟨_,_,rfl,by omega,hc2,hl,hB⟩
theorem RowOk.last {w:World} {g M k p:Nat} {rs:Nat->Rat} {r:Rat} (h:RowOk w g M k (updR rs p r)) (hp:p<k):∃ A c A2 c2,w.cell? ⟨g,p*3,none⟩=some (.bool (rneg r))/\w.cell? ⟨g,p*3+1,none⟩=some (.slice A (dl r.num.natAbs) c)/\w.cell? ⟨g,p*3+2,none⟩=some (.slice A2 (dl r.den) c2)/\NatOk w w.heap.size A r.num.natAbs/\NatOk w w.heap.size A2 r.den/\dl r.num.natAbs<=c/\c<=maxLen/\dl r.den<=c2/\c2<=maxLen:=by
 have:=h.get p hp
 have e:updR rs p r p=r:=by simp [updR]
 rwa [e] at this
theorem RowOk.again {w:World} {g M k p:Nat} {rs:Nat->Rat} {r r':Rat} (h:RowOk w g M k (updR (updR rs p r) p r')):RowOk w g M k (updR rs p r'):=h.congr fun i _=>by unfold updR; split <;> simp_all
theorem RowOk.whole {w:World} {g M k p:Nat} {rs:Nat->Rat} {r:Rat} (h:RowOk w g M k (updR rs p r)) (e:r=rs p):RowOk w g M k rs:=h.congr fun i _=>by unfold updR; split <;> simp_all
theorem RatRaw.mono {w:World} {B N N2:Nat} {v:Value} {r:Rat} (h:RatRaw w B v r N) (hN:N<=N2):RatRaw w B v r N2:=by
 obtain ⟨s,A,n,c,A2,m,c2,x,y,e,h1,h2,h3,h4,h5,h6,h7,h8,h9⟩:=h
 exact ⟨s,A,n,c,A2,m,c2,x,y,e,h1,h2,h3,h4,h5,h6,by omega,by omega,h9⟩
theorem RatTab.mono {w:World} {B m N N2:Nat} {T:Option Addr} {rs:Nat->Rat} (h:RatTab w B T m rs N) (hN:N<=N2):RatTab w B T m rs N2:=fun i hi=>by
 obtain ⟨b,off,s,A,n,c,A2,k,c2,e,h1,h2,h3,h4,h5⟩:=h i hi
 exact ⟨b,off,s,A,n,c,A2,k,c2,e,h1,h2,h3,h4,h5.mono hN⟩
def cutR (a:Nat->Rat) (m i:Nat):Rat:=if i<m then a i else 0
def sumP (a:Nat->Rat) (m:Nat) (b:Nat->Rat) (m' i:Nat):Rat:=cutR a m i+cutR b m' i
theorem zh8 {a b:Nat->Rat} {m m' j:Nat} {q0 q1 q2 r1 r2:Rat} (h1:j<m) (h2:j<m') (e0:q0=0) (e1:q1=q0+r1) (e2:q2=q1+r2) (f1:r1=a j) (f2:r2=b j):q2=sumP a m b m' j:=by
 subst e0 e1 e2 f1 f2; simp [sumP,cutR,h1,h2,Rat.zero_add]
theorem zh9 {a b:Nat->Rat} {m m' j:Nat} {q0 q1 r1:Rat} (h1:j<m) (h2:¬ j<m') (e0:q0=0) (e1:q1=q0+r1) (f1:r1=a j):q1=sumP a m b m' j:=by
 subst e0 e1 f1; simp [sumP,cutR,h1,h2,Rat.zero_add,Rat.add_zero]
theorem zg1 {a b:Nat->Rat} {m m' j:Nat} {q0 q1 r1:Rat} (h1:¬ j<m) (h2:j<m') (e0:q0=0) (e1:q1=q0+r1) (f1:r1=b j):q1=sumP a m b m' j:=by
 subst e0 e1 f1; simp [sumP,cutR,h1,h2,Rat.zero_add]
theorem zjr {a b:Nat->Rat} {m m' N j:Nat} (h1:∀ k,k<m->rsz (a k) N) (h2:∀ k,k<m'->rsz (b k) N) (hN:1<=N):rsz (sumP a m b m' j) (N+N+1):=by
 unfold sumP
 refine zbo ?_ ?_
 ·unfold cutR; split
  ·exact h1 _ (by assumption)
  ·exact zba.mono hN
 ·unfold cutR; split
  ·exact h2 _ (by assumption)
  ·exact zba.mono hN
theorem zg2 (T T':Option Addr) (m c m' c' N:Nat) (a b:Nat->Rat) (w:World) (h:RatTab w w.heap.size T m a N) (h':RatTab w w.heap.size T' m' b N) (hm:m<=524288) (hm':m'<=524288) (hN:N<=8388608) (hra:Hid (∀ k,k<m->rsz (a k) N)) (hrb:Hid (∀ k,k<m'->rsz (b k) N)) :
  Calls Tryz.prog 68 #[.slice T m c,.slice T' m' c'] w (PolyPost (clen (sumP a m b m') (max m m')) (sumP a m b m') w):=by
 obtain ⟨NN,hNN⟩:∃ n,n=N+N+4:=⟨_,rfl⟩
 have hn1:NN<=N+N+4:=by omega
 have hn2:N+N+4<=NN:=by omega
 clear hNN
 replace h:=h.mono (show N<=NN by omega)
 replace h':=h'.mono (show N<=NN by omega)
 have hS:Hid (∀ j,j<max m m'->rsz (sumP a m b m' j) (N+N+1)):=fun j hj=>zjr hra.out hrb.out (by rcases (by omega:j<m∨j<m') with e | e; exact zeJ (hra.out j e); exact zeJ (hrb.out j e))
 obtain ⟨S,hSe⟩:∃ S,S=sumP a m b m':=⟨_,rfl⟩
 rw [<-hSe] at hS ⊢
 have HSE:=hid hSe
 clear hSe
 have hmx:max (m:Int) (m':Int)=((max m m':Nat):Int):=by omega
 obtain ⟨M,hM⟩:∃ M,M=max m m':=⟨_,rfl⟩
 rw [<-hM] at hmx hS ⊢
 have hmx2:max m m'=M:=hM.symm
 have hMle:M<=1048576:=by omega
 have HM:=hid hM
 clear hM
 have hmk:=fun W=>zcL M hMle W
 have kb1:=zab w (.cells (madeCells #[.bool false,.slice none 0 0,.slice none 0 0] (M*3)) 49)
 have row:=zdi w M S
 have hB:=kb1
 clear kb1
 go_enter Tryz.func68, Tryz.ntmps68
 go_wp2
 obtain ⟨w1,hw1⟩:∃ W,W=w.alloc (.cells (madeCells #[.bool false,.slice none 0 0,.slice none 0 0] (M*3)) 49):=⟨_,rfl⟩
 obtain ⟨g,hg⟩:∃ g,g=w.heap.size:=⟨_,rfl⟩
 rw [<-hw1,<-hg];rw [<-hw1] at hB row;rw [<-hg] at row
 have hgB:w.heap.size<=g:=by omega
 clear hw1 hg hmk hmx hmx2
 go_loopg [15] M (fun gg iv wx=>∃ j:Nat,iv=.int .i64 (j:Nat)/\j<=M/\M<=j+gg/\RowOk wx g M j S/\Below w.heap.size w wx)
 case atStart=>exact ⟨0,rfl,by omega,by omega,row,hB⟩
 case round =>
  clear row hB
  obtain ⟨j,rfl,hj,hjg,row,hB⟩:=hrel
  have hj0:(0:Int)<=(j:Int):=by omega
  by_cases hlt:j<M
  ·have hlt':(j:Int)<(M:Int):=by omega
   obtain ⟨w0,hw0⟩:∃ W,W=wr:=⟨_,rfl⟩
   rw [<-hw0] at row hB ⊢;clear hw0
   go_wp2_with fail
   refine (zcp _).mono ?_
   rintro e w1 ⟨Ap,cp,Bp,dp,rfl,mp1,mp2,mp3,mp4,mp5,mp6,kb⟩
   replace row:=row.on kb;replace hB:=onS hB kb;clear kb
   obtain ⟨q0,hq0⟩:∃ q:Rat,q=(0:Rat):=⟨_,rfl⟩
   rw [<-hq0] at mp1 mp2 mp3 mp5 ⊢
   replace hq0:q0=0:=hq0.trans (by rfl)
   have HQ0:=hid hq0
   have HSZq0:rsz q0 1:=by rw [hq0]; exact zba
   clear hq0
   obtain ⟨o0,o1,o2,y0,y1,y2⟩:=row.old (j) (by omega)
   have z0:=row.froz (j*3)
   have z1:=row.froz (j*3+1)
   have z2:=row.froz (j*3+2)
   have hsz:=hB.size
   go_upto_region 6 with fail
   generalize hw3:World.setCell _ _ _=w2
   have hst:RowPut w1 g M (j) (j) (S) q0 w2:=by rw [<-hw3]; exact rowPut row (by omega) (by omega) mp1 mp2 mp3 mp4 mp5 mp6
   clear hw3 mp1 mp2 mp3 mp4 mp5 mp6;replace row:=hst.row;replace hB:=hst.below hB hgB hsz;clear hst
   rw [show max j (j+1)=j+1 by omega] at row
   clear y0 y1 y2 z0 z1 z2 hsz
   by_cases h1:j<m
   ·by_cases h2:j<m'
    ·have hx:(j:Int)<(m:Int):=by omega
     have hy:(j:Int)<(m':Int):=by omega
     go_upto_region 7 with fail
     obtain ⟨bb,off,s5,A5,n5,c5,A6,n6,c6,rfl,hb,t0,t1,t2,hraw⟩:=h j (by omega)
     replace hraw:=hraw.on hB
     obtain ⟨rk,hrk⟩:∃ r,r=a j:=⟨_,rfl⟩
     rw [<-hrk] at hraw
     have HRK:=hid hrk
     have hrs:rsz rk N:=by rw [hrk]; exact hra.out j (by omega)
     clear hrk
     have HS:Hid (∀ w':World,Below w.heap.size w w'->w'.cell? ⟨bb,off+j*3,none⟩=some (.bool (s5))/\w'.cell? ⟨bb,off+j*3+1,none⟩=some (.slice (A5) (n5) (c5))/\w'.cell? ⟨bb,off+j*3+2,none⟩=some (.slice (A6) (n6) (c6))):=fun w' kb=>⟨cellS kb t0,cellS kb t1,cellS kb t2⟩
     refine wp_region_held_drew (S:=fun w'=>w'.cell? ⟨bb,off+j*3,none⟩=some (.bool (s5))/\w'.cell? ⟨bb,off+j*3+1,none⟩=some (.slice (A5) (n5) (c5))/\w'.cell? ⟨bb,off+j*3+2,none⟩=some (.slice (A6) (n6) (c6))) (by kernel_rfl) (HS.out _ hB.drew) (fun hHeld=>?_)
     clear t0 t1 t2 hb
     obtain ⟨w3,hw⟩:∃ W,W=World.drew w2:=⟨_,rfl⟩
     have kb:Below w2.heap.size w2 w3:=by rw [hw]; exact (Below.refl _ _).drew
     rw [<-hw] at hHeld ⊢;clear hw;replace row:=row.on kb;replace hB:=onS hB kb;replace hraw:=hraw.on kb;clear kb
     refine tkq 0 (h:=tkq 1 (h:=tkq 2 (h:=tkq 3 (h:=tkq 4 (h:=tkq 6 (h:=tkq 7 (h:=tkq 8 (h:=tkq 9 (h:=?_)))))))))
     obtain ⟨Ao,co,Bo,do_,g0,g1,g2,mo1,mo2,mo3,mo4,mo5,mo6⟩:=row.last (by omega)
     refine rdq 5 (h:=fun K hK=>?_)
     go_simp
     clear g0 g1 g2
     refine bkq hK (HS.out _ hB) (h:=fun hHeld=>?_)
     clear hK K
     refine rdq 10 (h:=fun K hK=>?_)
     go_simp
     obtain ⟨w4,hw⟩:∃ W,W=World.alloc w3 (.cells #[.bool (rneg (q0)),.slice (Ao) (dl (q0).num.natAbs) (co),.slice (Bo) (dl (q0).den) (do_),.bool (s5),.slice (A5) (n5) (c5),.slice (A6) (n6) (c6)] 49):=⟨_,rfl⟩
     have kb:Below w3.heap.size w3 w4:=by rw [hw]; exact zab _ _
     have tb:RatTab w4 w4.heap.size (some ⟨w3.heap.size,0,none⟩) 2 (pairR (q0) (rk)) NN:=RatTab.letter hw (zaE 49 (RatOk.raw ⟨Ao,co,Bo,do_,rfl,mo1,mo2,mo3,mo4,mo5,mo6⟩ (rsz.mono HSZq0 (by omega))) hraw)
     rw [<-hw];clear hw;replace row:=row.on kb;replace hB:=onS hB kb;replace hraw:=hraw.on kb;replace mo1:=mo1.on kb;replace mo2:=mo2.on kb;clear kb
     obtain ⟨gq,hg⟩:∃ g,g=w3.heap.size:=⟨_,rfl⟩
     rw [<-hg] at tb ⊢;clear hg
     refine bkq hK (HS.out _ hB) (h:=fun hHeld=>?_)
     clear hK K
     refine rdq 11 (h:=fun K hK=>?_)
     go_simp
     go_wp2_with fail
     refine (za9 tb (by omega) (by omega) (rsz.mono HSZq0 (by omega)) (rsz.mono hrs (by omega)) (rsz.mono (zbo HSZq0 hrs) (by omega))).mono ?_
     rintro e w5 ⟨Ap,cp,Bp,dp,rfl,mp1,mp2,mp3,mp4,mp5,mp6,kb⟩
     replace row:=row.on kb;replace hB:=onS hB kb;replace hraw:=hraw.on kb;replace mo1:=mo1.on kb;replace mo2:=mo2.on kb;replace tb:=tb.on kb;clear kb;clear tb
     obtain ⟨q1,hq⟩:∃ z,z=q0+rk:=⟨_,rfl⟩
     rw [<-hq] at mp1 mp2 mp3 mp5 ⊢
     have HQ1:=hid hq
     have HSZq1:rsz q1 (1+N+1):=by rw [hq]; exact zbo HSZq0 hrs
     clear hq;clear hraw mo1 mo2 mo3 mo4 mo5 mo6
     refine bkq hK (HS.out _ hB) (h:=fun hHeld=>?_)
     clear hK K
     refine tkq 12 (h:=?_)
     obtain ⟨o0,o1,o2,y0,y1,y2⟩:=row.old (j) (by omega)
     have z0:=row.froz (j*3)
     have z1:=row.froz (j*3+1)
     have z2:=row.froz (j*3+2)
     have hsz:=hB.size
     refine rdq 13 (h:=fun K hK=>?_)
     go_simp
     generalize hw3:World.setCell _ _ _=w6
     have hst:RowPut w5 g M (j+1) (j) (updR S j q0) q1 w6:=by rw [<-hw3]; exact rowPut row (by omega) (by omega) mp1 mp2 mp3 mp4 mp5 mp6
     clear hw3 mp1 mp2 mp3 mp4 mp5 mp6;replace row:=hst.row;replace hB:=hst.below hB hgB hsz;clear hst
     rw [show max (j+1) (j+1)=j+1 by omega] at row
     replace row:=row.again
     refine bkq hK (HS.out _ hB) (h:=fun hHeld=>?_)
     clear hK K
     refine wpAnyH_done (by kernel_rfl) ?_ _
     clear hHeld;clear y0 y1 y2 z0 z1 z2 hsz HS hrs
     have HA:=HRK
     clear HRK
     go_upto_region 9 with fail
     obtain ⟨bb,off,s5,A5,n5,c5,A6,n6,c6,rfl,hb,t0,t1,t2,hraw⟩:=h' j (by omega)
     replace hraw:=hraw.on hB
     obtain ⟨rk,hrk⟩:∃ r,r=b j:=⟨_,rfl⟩
     rw [<-hrk] at hraw
     have HRK:=hid hrk
     have hrs:rsz rk N:=by rw [hrk]; exact hrb.out j (by omega)
     clear hrk
     have HS:Hid (∀ w':World,Below w.heap.size w w'->w'.cell? ⟨bb,off+j*3,none⟩=some (.bool (s5))/\w'.cell? ⟨bb,off+j*3+1,none⟩=some (.slice (A5) (n5) (c5))/\w'.cell? ⟨bb,off+j*3+2,none⟩=some (.slice (A6) (n6) (c6))):=fun w' kb=>⟨cellS kb t0,cellS kb t1,cellS kb t2⟩
     refine wp_region_held_drew (S:=fun w'=>w'.cell? ⟨bb,off+j*3,none⟩=some (.bool (s5))/\w'.cell? ⟨bb,off+j*3+1,none⟩=some (.slice (A5) (n5) (c5))/\w'.cell? ⟨bb,off+j*3+2,none⟩=some (.slice (A6) (n6) (c6))) (by kernel_rfl) (HS.out _ hB.drew) (fun hHeld=>?_)
     clear t0 t1 t2 hb
     obtain ⟨w7,hw⟩:∃ W,W=World.drew w6:=⟨_,rfl⟩
     have kb:Below w6.heap.size w6 w7:=by rw [hw]; exact (Below.refl _ _).drew
     rw [<-hw] at hHeld ⊢;clear hw;replace row:=row.on kb;replace hB:=onS hB kb;replace hraw:=hraw.on kb;clear kb
     refine tkq 0 (h:=tkq 1 (h:=tkq 2 (h:=tkq 3 (h:=tkq 4 (h:=tkq 6 (h:=tkq 7 (h:=tkq 8 (h:=tkq 9 (h:=?_)))))))))
     obtain ⟨Ao,co,Bo,do_,g0,g1,g2,mo1,mo2,mo3,mo4,mo5,mo6⟩:=row.last (by omega)
     refine rdq 5 (h:=fun K hK=>?_)
     go_simp
     clear g0 g1 g2
     refine bkq hK (HS.out _ hB) (h:=fun hHeld=>?_)
     clear hK K
     refine rdq 10 (h:=fun K hK=>?_)
     go_simp
     obtain ⟨w8,hw⟩:∃ W,W=World.alloc w7 (.cells #[.bool (rneg (q1)),.slice (Ao) (dl (q1).num.natAbs) (co),.slice (Bo) (dl (q1).den) (do_),.bool (s5),.slice (A5) (n5) (c5),.slice (A6) (n6) (c6)] 49):=⟨_,rfl⟩
     have kb:Below w7.heap.size w7 w8:=by rw [hw]; exact zab _ _
     have tb:RatTab w8 w8.heap.size (some ⟨w7.heap.size,0,none⟩) 2 (pairR (q1) (rk)) NN:=RatTab.letter hw (zaE 49 (RatOk.raw ⟨Ao,co,Bo,do_,rfl,mo1,mo2,mo3,mo4,mo5,mo6⟩ (rsz.mono HSZq1 (by omega))) hraw)
     rw [<-hw];clear hw;replace row:=row.on kb;replace hB:=onS hB kb;replace hraw:=hraw.on kb;replace mo1:=mo1.on kb;replace mo2:=mo2.on kb;clear kb
     obtain ⟨gq,hg⟩:∃ g,g=w7.heap.size:=⟨_,rfl⟩
     rw [<-hg] at tb ⊢;clear hg
     refine bkq hK (HS.out _ hB) (h:=fun hHeld=>?_)
     clear hK K
     refine rdq 11 (h:=fun K hK=>?_)
     go_simp
     go_wp2_with fail
     refine (za9 tb (by omega) (by omega) (rsz.mono HSZq1 (by omega)) (rsz.mono hrs (by omega)) (rsz.mono (zbo HSZq1 hrs) (by omega))).mono ?_
     rintro e w9 ⟨Ap,cp,Bp,dp,rfl,mp1,mp2,mp3,mp4,mp5,mp6,kb⟩
     replace row:=row.on kb;replace hB:=onS hB kb;replace hraw:=hraw.on kb;replace mo1:=mo1.on kb;replace mo2:=mo2.on kb;replace tb:=tb.on kb;clear kb;clear tb
     obtain ⟨q2,hq⟩:∃ z,z=q1+rk:=⟨_,rfl⟩
     rw [<-hq] at mp1 mp2 mp3 mp5 ⊢
     have HQ2:=hid hq
     have HSZq2:rsz q2 (1+N+1+N+1):=by rw [hq]; exact zbo HSZq1 hrs
     clear hq;clear hraw mo1 mo2 mo3 mo4 mo5 mo6
     refine bkq hK (HS.out _ hB) (h:=fun hHeld=>?_)
     clear hK K
     refine tkq 12 (h:=?_)
     obtain ⟨o0,o1,o2,y0,y1,y2⟩:=row.old (j) (by omega)
     have z0:=row.froz (j*3)
     have z1:=row.froz (j*3+1)
     have z2:=row.froz (j*3+2)
     have hsz:=hB.size
     refine rdq 13 (h:=fun K hK=>?_)
     go_simp
     generalize hw3:World.setCell _ _ _=w10
     have hst:RowPut w9 g M (j+1) (j) (updR S j q1) q2 w10:=by rw [<-hw3]; exact rowPut row (by omega) (by omega) mp1 mp2 mp3 mp4 mp5 mp6
     clear hw3 mp1 mp2 mp3 mp4 mp5 mp6;replace row:=hst.row;replace hB:=hst.below hB hgB hsz;clear hst
     rw [show max (j+1) (j+1)=j+1 by omega] at row
     replace row:=row.again
     refine bkq hK (HS.out _ hB) (h:=fun hHeld=>?_)
     clear hK K
     refine wpAnyH_done (by kernel_rfl) ?_ _
     clear hHeld;clear y0 y1 y2 z0 z1 z2 hsz HS hrs
     have HBB:=HRK
     clear HRK
     replace row:=row.whole (show q2=S j by rw [HSE.out]; exact zh8 h1 h2 HQ0.out HQ1.out HQ2.out HA.out HBB.out)
     clear HQ0 HSZq0 HSZq1 HQ1 HA HBB HQ2 HSZq2
     go_wp2
     go_roundg (gk - 1)
     case measure=>omega
     case rel=>exact ⟨j+1,by go_num,by omega,by omega,row,hB⟩
    ·have hx:(j:Int)<(m:Int):=by omega
     have hy:¬ (j:Int)<(m':Int):=by omega
     go_upto_region 7 with fail
     obtain ⟨bb,off,s5,A5,n5,c5,A6,n6,c6,rfl,hb,t0,t1,t2,hraw⟩:=h j (by omega)
     replace hraw:=hraw.on hB
     obtain ⟨rk,hrk⟩:∃ r,r=a j:=⟨_,rfl⟩
     rw [<-hrk] at hraw
     have HRK:=hid hrk
     have hrs:rsz rk N:=by rw [hrk]; exact hra.out j (by omega)
     clear hrk
     have HS:Hid (∀ w':World,Below w.heap.size w w'->w'.cell? ⟨bb,off+j*3,none⟩=some (.bool (s5))/\w'.cell? ⟨bb,off+j*3+1,none⟩=some (.slice (A5) (n5) (c5))/\w'.cell? ⟨bb,off+j*3+2,none⟩=some (.slice (A6) (n6) (c6))):=fun w' kb=>⟨cellS kb t0,cellS kb t1,cellS kb t2⟩
     refine wp_region_held_drew (S:=fun w'=>w'.cell? ⟨bb,off+j*3,none⟩=some (.bool (s5))/\w'.cell? ⟨bb,off+j*3+1,none⟩=some (.slice (A5) (n5) (c5))/\w'.cell? ⟨bb,off+j*3+2,none⟩=some (.slice (A6) (n6) (c6))) (by kernel_rfl) (HS.out _ hB.drew) (fun hHeld=>?_)
     clear t0 t1 t2 hb
     obtain ⟨w3,hw⟩:∃ W,W=World.drew w2:=⟨_,rfl⟩
     have kb:Below w2.heap.size w2 w3:=by rw [hw]; exact (Below.refl _ _).drew
     rw [<-hw] at hHeld ⊢;clear hw;replace row:=row.on kb;replace hB:=onS hB kb;replace hraw:=hraw.on kb;clear kb
     refine tkq 0 (h:=tkq 1 (h:=tkq 2 (h:=tkq 3 (h:=tkq 4 (h:=tkq 6 (h:=tkq 7 (h:=tkq 8 (h:=tkq 9 (h:=?_)))))))))
     obtain ⟨Ao,co,Bo,do_,g0,g1,g2,mo1,mo2,mo3,mo4,mo5,mo6⟩:=row.last (by omega)
     refine rdq 5 (h:=fun K hK=>?_)
     go_simp
     clear g0 g1 g2
     refine bkq hK (HS.out _ hB) (h:=fun hHeld=>?_)
     clear hK K
     refine rdq 10 (h:=fun K hK=>?_)
     go_simp
     obtain ⟨w4,hw⟩:∃ W,W=World.alloc w3 (.cells #[.bool (rneg (q0)),.slice (Ao) (dl (q0).num.natAbs) (co),.slice (Bo) (dl (q0).den) (do_),.bool (s5),.slice (A5) (n5) (c5),.slice (A6) (n6) (c6)] 49):=⟨_,rfl⟩
     have kb:Below w3.heap.size w3 w4:=by rw [hw]; exact zab _ _
     have tb:RatTab w4 w4.heap.size (some ⟨w3.heap.size,0,none⟩) 2 (pairR (q0) (rk)) NN:=RatTab.letter hw (zaE 49 (RatOk.raw ⟨Ao,co,Bo,do_,rfl,mo1,mo2,mo3,mo4,mo5,mo6⟩ (rsz.mono HSZq0 (by omega))) hraw)
     rw [<-hw];clear hw;replace row:=row.on kb;replace hB:=onS hB kb;replace hraw:=hraw.on kb;replace mo1:=mo1.on kb;replace mo2:=mo2.on kb;clear kb
     obtain ⟨gq,hg⟩:∃ g,g=w3.heap.size:=⟨_,rfl⟩
     rw [<-hg] at tb ⊢;clear hg
     refine bkq hK (HS.out _ hB) (h:=fun hHeld=>?_)
     clear hK K
     refine rdq 11 (h:=fun K hK=>?_)
     go_simp
     go_wp2_with fail
     refine (za9 tb (by omega) (by omega) (rsz.mono HSZq0 (by omega)) (rsz.mono hrs (by omega)) (rsz.mono (zbo HSZq0 hrs) (by omega))).mono ?_
     rintro e w5 ⟨Ap,cp,Bp,dp,rfl,mp1,mp2,mp3,mp4,mp5,mp6,kb⟩
     replace row:=row.on kb;replace hB:=onS hB kb;replace hraw:=hraw.on kb;replace mo1:=mo1.on kb;replace mo2:=mo2.on kb;replace tb:=tb.on kb;clear kb;clear tb
     obtain ⟨q1,hq⟩:∃ z,z=q0+rk:=⟨_,rfl⟩
     rw [<-hq] at mp1 mp2 mp3 mp5 ⊢
     have HQ1:=hid hq
     have HSZq1:rsz q1 (1+N+1):=by rw [hq]; exact zbo HSZq0 hrs
     clear hq;clear hraw mo1 mo2 mo3 mo4 mo5 mo6
     refine bkq hK (HS.out _ hB) (h:=fun hHeld=>?_)
     clear hK K
     refine tkq 12 (h:=?_)
     obtain ⟨o0,o1,o2,y0,y1,y2⟩:=row.old (j) (by omega)
     have z0:=row.froz (j*3)
     have z1:=row.froz (j*3+1)
     have z2:=row.froz (j*3+2)
     have hsz:=hB.size
     refine rdq 13 (h:=fun K hK=>?_)
     go_simp
     generalize hw3:World.setCell _ _ _=w6
     have hst:RowPut w5 g M (j+1) (j) (updR S j q0) q1 w6:=by rw [<-hw3]; exact rowPut row (by omega) (by omega) mp1 mp2 mp3 mp4 mp5 mp6
     clear hw3 mp1 mp2 mp3 mp4 mp5 mp6;replace row:=hst.row;replace hB:=hst.below hB hgB hsz;clear hst
     rw [show max (j+1) (j+1)=j+1 by omega] at row
     replace row:=row.again
     refine bkq hK (HS.out _ hB) (h:=fun hHeld=>?_)
     clear hK K
     refine wpAnyH_done (by kernel_rfl) ?_ _
     clear hHeld;clear y0 y1 y2 z0 z1 z2 hsz HS hrs
     have HA:=HRK
     clear HRK
     replace row:=row.whole (show q1=S j by rw [HSE.out]; exact zh9 h1 h2 HQ0.out HQ1.out HA.out)
     clear HQ0 HSZq0 HSZq1 HQ1 HA
     go_wp2
     go_roundg (gk - 1)
     case measure=>omega
     case rel=>exact ⟨j+1,by go_num,by omega,by omega,row,hB⟩
   ·have h2:j<m':=by have:=HM.out; omega
    have hx:¬ (j:Int)<(m:Int):=by omega
    have hy:(j:Int)<(m':Int):=by omega
    go_upto_region 9 with fail
    obtain ⟨bb,off,s5,A5,n5,c5,A6,n6,c6,rfl,hb,t0,t1,t2,hraw⟩:=h' j (by omega)
    replace hraw:=hraw.on hB
    obtain ⟨rk,hrk⟩:∃ r,r=b j:=⟨_,rfl⟩
    rw [<-hrk] at hraw
    have HRK:=hid hrk
    have hrs:rsz rk N:=by rw [hrk]; exact hrb.out j (by omega)
    clear hrk
    have HS:Hid (∀ w':World,Below w.heap.size w w'->w'.cell? ⟨bb,off+j*3,none⟩=some (.bool (s5))/\w'.cell? ⟨bb,off+j*3+1,none⟩=some (.slice (A5) (n5) (c5))/\w'.cell? ⟨bb,off+j*3+2,none⟩=some (.slice (A6) (n6) (c6))):=fun w' kb=>⟨cellS kb t0,cellS kb t1,cellS kb t2⟩
    refine wp_region_held_drew (S:=fun w'=>w'.cell? ⟨bb,off+j*3,none⟩=some (.bool (s5))/\w'.cell? ⟨bb,off+j*3+1,none⟩=some (.slice (A5) (n5) (c5))/\w'.cell? ⟨bb,off+j*3+2,none⟩=some (.slice (A6) (n6) (c6))) (by kernel_rfl) (HS.out _ hB.drew) (fun hHeld=>?_)
    clear t0 t1 t2 hb
    obtain ⟨w3,hw⟩:∃ W,W=World.drew w2:=⟨_,rfl⟩
    have kb:Below w2.heap.size w2 w3:=by rw [hw]; exact (Below.refl _ _).drew
    rw [<-hw] at hHeld ⊢;clear hw;replace row:=row.on kb;replace hB:=onS hB kb;replace hraw:=hraw.on kb;clear kb
    refine tkq 0 (h:=tkq 1 (h:=tkq 2 (h:=tkq 3 (h:=tkq 4 (h:=tkq 6 (h:=tkq 7 (h:=tkq 8 (h:=tkq 9 (h:=?_)))))))))
    obtain ⟨Ao,co,Bo,do_,g0,g1,g2,mo1,mo2,mo3,mo4,mo5,mo6⟩:=row.last (by omega)
    refine rdq 5 (h:=fun K hK=>?_)
    go_simp
    clear g0 g1 g2
    refine bkq hK (HS.out _ hB) (h:=fun hHeld=>?_)
    clear hK K
    refine rdq 10 (h:=fun K hK=>?_)
    go_simp
    obtain ⟨w4,hw⟩:∃ W,W=World.alloc w3 (.cells #[.bool (rneg (q0)),.slice (Ao) (dl (q0).num.natAbs) (co),.slice (Bo) (dl (q0).den) (do_),.bool (s5),.slice (A5) (n5) (c5),.slice (A6) (n6) (c6)] 49):=⟨_,rfl⟩
    have kb:Below w3.heap.size w3 w4:=by rw [hw]; exact zab _ _
    have tb:RatTab w4 w4.heap.size (some ⟨w3.heap.size,0,none⟩) 2 (pairR (q0) (rk)) NN:=RatTab.letter hw (zaE 49 (RatOk.raw ⟨Ao,co,Bo,do_,rfl,mo1,mo2,mo3,mo4,mo5,mo6⟩ (rsz.mono HSZq0 (by omega))) hraw)
    rw [<-hw];clear hw;replace row:=row.on kb;replace hB:=onS hB kb;replace hraw:=hraw.on kb;replace mo1:=mo1.on kb;replace mo2:=mo2.on kb;clear kb
    obtain ⟨gq,hg⟩:∃ g,g=w3.heap.size:=⟨_,rfl⟩
    rw [<-hg] at tb ⊢;clear hg
    refine bkq hK (HS.out _ hB) (h:=fun hHeld=>?_)
    clear hK K
    refine rdq 11 (h:=fun K hK=>?_)
    go_simp
    go_wp2_with fail
    refine (za9 tb (by omega) (by omega) (rsz.mono HSZq0 (by omega)) (rsz.mono hrs (by omega)) (rsz.mono (zbo HSZq0 hrs) (by omega))).mono ?_
    rintro e w5 ⟨Ap,cp,Bp,dp,rfl,mp1,mp2,mp3,mp4,mp5,mp6,kb⟩
    replace row:=row.on kb;replace hB:=onS hB kb;replace hraw:=hraw.on kb;replace mo1:=mo1.on kb;replace mo2:=mo2.on kb;replace tb:=tb.on kb;clear kb;clear tb
    obtain ⟨q1,hq⟩:∃ z,z=q0+rk:=⟨_,rfl⟩
    rw [<-hq] at mp1 mp2 mp3 mp5 ⊢
    have HQ1:=hid hq
    have HSZq1:rsz q1 (1+N+1):=by rw [hq]; exact zbo HSZq0 hrs
    clear hq;clear hraw mo1 mo2 mo3 mo4 mo5 mo6
    refine bkq hK (HS.out _ hB) (h:=fun hHeld=>?_)
    clear hK K
    refine tkq 12 (h:=?_)
    obtain ⟨o0,o1,o2,y0,y1,y2⟩:=row.old (j) (by omega)
    have z0:=row.froz (j*3)
    have z1:=row.froz (j*3+1)
    have z2:=row.froz (j*3+2)
    have hsz:=hB.size
    refine rdq 13 (h:=fun K hK=>?_)
    go_simp
    generalize hw3:World.setCell _ _ _=w6
    have hst:RowPut w5 g M (j+1) (j) (updR S j q0) q1 w6:=by rw [<-hw3]; exact rowPut row (by omega) (by omega) mp1 mp2 mp3 mp4 mp5 mp6
    clear hw3 mp1 mp2 mp3 mp4 mp5 mp6;replace row:=hst.row;replace hB:=hst.below hB hgB hsz;clear hst
    rw [show max (j+1) (j+1)=j+1 by omega] at row
    replace row:=row.again
    refine bkq hK (HS.out _ hB) (h:=fun hHeld=>?_)
    clear hK K
    refine wpAnyH_done (by kernel_rfl) ?_ _
    clear hHeld;clear y0 y1 y2 z0 z1 z2 hsz HS hrs
    have HBB:=HRK
    clear HRK
    replace row:=row.whole (show q1=S j by rw [HSE.out]; exact zg1 h1 h2 HQ0.out HQ1.out HBB.out)
    clear HQ0 HSZq0 HSZq1 HQ1 HBB
    go_wp2
    go_roundg (gk - 1)
    case measure=>omega
    case rel=>exact ⟨j+1,by go_num,by omega,by omega,row,hB⟩
  ·obtain rfl:j=M:=by omega
   have hlt':¬ (j:Int)<(j:Int):=by omega
   have hl:=row.list.tab hS.out
   go_wp2_with fail
   refine (zdG (some ⟨g,0,none⟩) j j (N+N+1) S _ hl (by omega) (by omega)).mono ?_
   rintro e w2 ⟨Ar,cr,rfl,e1,e2,e3,kb⟩
   replace hB:=onS hB kb;clear kb hl row
   obtain ⟨cl,hcl⟩:∃ cl,cl=clen S j:=⟨_,rfl⟩
   rw [<-hcl] at e1 e3 ⊢
   have HCL:=hid hcl
   clear hcl
   go_wp2
   go_ret
   rw [<-HCL.out]
   exact ⟨_,_,rfl,e1,e2,e3,hB⟩
end Go.Proofs.YtioagplajkoohaaGreat