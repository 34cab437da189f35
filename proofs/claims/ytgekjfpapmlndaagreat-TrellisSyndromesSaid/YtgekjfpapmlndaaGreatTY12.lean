/- Merged texts of a claim: TrelProper, Paths, WordsMath, Rank, Edge, FewT, From, Accepts47, RenMath, MinPl, SynPl, PathPl, LeastTr, VisMem, RePath, PowS. -/
import Derived.Test.YtgekjfpapmlndaaGreatTY11
namespace Go.Proofs.YtgekjfpapmlndaaGreat
set_option maxRecDepth 100000
set_option maxHeartbeats 32000000
open KA KB KC KD KE KF
open Go.RowKit
theorem zaW {w:World} {p q:Addr} {u v:Value} (h:w.cell? q=some v) (hne:q.block≠p.block):(w.setCell p u).cell? q=some v :=
 (World.cell?_setCell_other w p q u (fun e=>hne (by rw [e]))).trans h
theorem zeJ (T:Trel) (A B:Option Addr) (c d:Nat) (w:World) (h:T.Reads w A B) :
  Calls Tryz.prog 95 #[.agg #[.slice A T.nw c,.slice B T.n d]] w fun e w'=>e=.returned (.int .i64 T.properE)/\Below w.heap.size w w':=by
 obtain ⟨RB,av⟩:=exx ((Obj.cells #[.slice A T.nw c,.slice B T.n d] 53))
 have ay:Below (w.heap.size+1) (w.alloc RB) (w.alloc RB):=Below.refl _ _
 have HS:Hid (∀ w',Below (w.heap.size+1) (w.alloc RB) w'->(w'.cell? ⟨w.heap.size,0,none⟩=some (.slice A T.nw c)/\w'.cell? ⟨w.heap.size,1,none⟩=some (.slice B T.n d))/\Below w.heap.size w w'):=fun w' hB=>by
  have cm:=zaL hB
  subst av
  exact ⟨⟨tbox hB rfl,tbox hB rfl⟩,cm⟩
 obtain ⟨⟨p0,p1⟩,hW⟩:=HS.out _ ay
 go_enter Tryz.func95, Tryz.ntmps95
 go_wp2_with fail
 rw [<-av]
 refine (zeG T A B c d _ (h.on hW)).mono ?_
 rintro e w1 ⟨rfl,hb⟩
 have ax:=zaD ay hb
 clear hW p0 p1 hb ay av
 obtain ⟨⟨p0,p1⟩,hW⟩:=HS.out _ ax
 by_cases hs:T.shapeE=0
 rotate_left
 ·have hE:=hid (Trel.properE_shape hs)
  have hn:(T.shapeE != 0)=true:=by simpa using hs
  obtain ⟨x,hx⟩:=exx T.shapeE
  rw [<-hx] at hE hn ⊢;clear hs hx
  go_wp2
  go_ret
  exact ⟨zaz hE.out.symm,hW⟩
 have M:=hid (Trel.shape_of hs)
 have a6:=hid hs
 rw [hs]
 have HR:=hid h
 have bj:T.nw=T.n+1:=M.out.nw
 have d7:=hid bj
 have d6:T.n<=64:=M.out.n64
 have cb:T.n<T.nw:=by omega
 have bi:(T.n:Int)<(T.nw:Int):=by omega
 have ca:0<T.nw:=by omega
 have bh:(0:Int)<(T.nw:Int):=by omega
 have cq:=hid ax
 clear hs bj h ax
 obtain ⟨b,o,hA,hb,x0,_,_⟩:=(HR.out.on hW).width (i:=0) (by omega)
 obtain ⟨_,_,a5,_,x1,_,_⟩:=(HR.out.on hW).width (i:=T.n) (by omega)
 subst hA
 injection a5 with e1
 injection e1 with e1 e2
 subst e1 e2
 obtain ⟨u0,ae⟩:=exx (T.W 0)
 obtain ⟨u1,ad⟩:=exx (T.W T.n)
 rw [Nat.add_zero,<-ae] at x0;rw [<-ad] at x1
 have bt:=hid ae
 have bs:=hid ad
 clear ae ad
 by_cases h0:u0=1
 rotate_left
 ·have c0:(u0 != 1)=true:=by simp [h0]
  have hE:=hid (T.properE_end a6.out (.inl (by rw [<-bt.out]; exact h0)))
  go_wp2
  go_ret
  exact ⟨zaz hE.out.symm,hW⟩
 have c0:(u0 != 1)=false:=by simp [h0]
 by_cases h1:u1=1
 rotate_left
 ·have c1:(u1 != 1)=true:=by simp [h1]
  have hE:=hid (T.properE_end a6.out (.inr (by rw [<-bs.out]; exact h1)))
  go_wp2
  go_ret
  exact ⟨zaz hE.out.symm,hW⟩
 have c1:(u1 != 1)=false:=by simp [h1]
 have co:Hid (T.W 0=1):=bt.out.symm.trans h0
 have cn:Hid (T.W T.n=1):=bs.out.symm.trans h1
 clear h0 h1
 go_wp2
 go_loopg [35] T.n (fun gg iv wx=>∃ k:Nat,iv=.int .i64 (k:Nat)/\k<=T.n/\T.n<=k+gg/\(∀ i,i<k->T.secOk i)/\Below (w.heap.size+1) (w.alloc RB) wx)
 case atStart=>exact ⟨0,rfl,by omega,by omega,fun i hi=>absurd hi (by omega),cq.out⟩
 clear hW p0 p1 x0 x1
 obtain ⟨gK,cg⟩:=exx gk
 subst cg
 obtain ⟨k,rfl,hk,cv,y,hB⟩:=hrel
 obtain ⟨wk,ab⟩:=exx wr
 subst ab
 have cx:(0:Int)<=(k:Int):=by omega
 have HB:=hid hB
 have cs:=za6 hB
 clear hB
 obtain ⟨⟨p0,p1⟩,hW⟩:=HS.out _ HB.out
 have a0:=hid y
 clear y
 by_cases hlt:k<T.n
 rotate_left
 ·have am:¬ (k:Int)<(T.n:Int):=by omega
  have hE:=hid (T.properE_ok a6.out co.out cn.out fun i hi=>a0.out i (by omega))
  go_wp2
  go_ret
  exact ⟨zaz hE.out.symm,hW⟩
 have am:(k:Int)<(T.n:Int):=by omega
 have cw:k+1<T.nw:=by omega
 have ce:(k:Int)+1<(T.nw:Int):=by omega
 have cd:(k:Int)<(T.nw:Int):=by omega
 obtain ⟨wa,wo,hA,_,y0,c6,c5⟩:=(HR.out.on hW).width (i:=k) (by omega)
 obtain ⟨_,_,a5,_,y1,c4,c3⟩:=(HR.out.on hW).width (i:=k+1) (by omega)
 rw [hA] at a5
 injection hA with e1
 injection e1 with e1 e2
 subst e1 e2
 injection a5 with e1
 injection e1 with e1 e2
 subst e1 e2
 obtain ⟨eb,eo,E,ec,rfl,d4,x0,d5,ck,bq,bp⟩:=(HR.out.on hW).sec hlt
 unfold maxLen at ck
 have ab:=M.out.wid (i:=k) (by omega)
 have aa:=M.out.wid (i:=k+1) (by omega)
 have d3:=M.out.elb hlt
 obtain ⟨n1,ak⟩:∃ n:Nat,(n:Int)=T.W k:=⟨(T.W k).toNat,by omega⟩
 obtain ⟨n2,aj⟩:∃ n:Nat,(n:Int)=T.W (k+1):=⟨(T.W (k+1)).toNat,by omega⟩
 rw [<-ak] at y0 ab;rw [<-aj] at y1 aa
 have b7:=hid ak
 have b6:=hid aj
 have bv:=hid bq
 have d8:=hid bp
 have br:=hid x0
 have bk:=fun W=>zaf (P:=Tryz.prog) 185 4 _ 1 Tryz.underlying185 Tryz.infoBool rfl (n1:Int) (by omega) (by omega) (by omega) W
 have R:=fun W=>zaf (P:=Tryz.prog) 185 4 _ 1 Tryz.underlying185 Tryz.infoBool rfl (n2:Int) (by omega) (by omega) (by omega) W
 simp only [Int.toNat_natCast] at bk R
 clear ak aj bq bp c6 c5 c4 c3
 go_upto_region 12 with fail
 have m:=zaa (World.rowIs_made wk (.bool false) n1 4) ((Below.refl _ _).alloc (Nat.le_refl _) (Obj.cells (madeCells #[Value.bool false] n2) 4))
 have l:=World.rowIs_made (wk.alloc (Obj.cells (madeCells #[Value.bool false] n1) 4)) (.bool false) n2 4
 have aq:=(((Below.refl wk.heap.size wk).alloc (Nat.le_refl _) (Obj.cells (madeCells #[Value.bool false] n1) 4)).alloc (by simp) (Obj.cells (madeCells #[Value.bool false] n2) 4))
 simp only [World.size_alloc] at l ⊢
 obtain ⟨wm,bd⟩:∃ W,W=(wk.alloc (Obj.cells (madeCells #[Value.bool false] n1) 4)).alloc (Obj.cells (madeCells #[Value.bool false] n2) 4):=⟨_,rfl⟩
 rw [<-bd] at m l aq ⊢
 obtain ⟨b1,au⟩:=exx wk.heap.size
 obtain ⟨b2,ar⟩:=exx (wk.heap.size+1)
 rw [<-au] at m;rw [<-ar] at l;rw [<-ar,<-au]
 have ai:b1≠b2:=by omega
 have bc:wk.heap.size<=b1:=by omega
 have bb:wk.heap.size<=b2:=by omega
 have F:Hid (wm.rowIs b1 4 n1 (fun v=>.bool (hitB (T.fr k) 0 (v:Nat)))):=m.congr fun _ _=>rfl
 have D:Hid (wm.rowIs b2 4 n2 (fun v=>.bool (hitB (T.to k) 0 (v:Nat)))):=l.congr fun _ _=>rfl
 have a8:=hid aq
 have L:Hid (¬ T.secOk k->T.properE=5):=fun hb=>T.properE_sec a6.out hlt hb
 clear m l aq bd au ar bk R p0 p1 x0 hW
 obtain ⟨⟨p0,p1⟩,hW⟩:=HS.out _ (zaD HB.out a8.out)
 have x0:=cellS a8.out br.out
 go_wp2
 go_loopg [55] (T.el k) (fun gg jv wx=>∃ j:Nat,jv=.int .i64 (j:Nat)/\j<=T.el k/\T.el k<=j+gg/\(∀ i,i<j->T.edgeOk k i)/\wx.rowIs b1 4 n1 (fun v=>.bool (hitB (T.fr k) j (v:Nat)))/\wx.rowIs b2 4 n2 (fun v=>.bool (hitB (T.to k) j (v:Nat)))/\Below wk.heap.size wk wx)
 case atStart=>exact ⟨0,rfl,by omega,by omega,fun i hi=>absurd hi (by omega),F.out,D.out,a8.out⟩
 clear hW p0 p1 x0 F D a8 y0 y1 hb
 obtain ⟨wj,c8⟩:=exx wr
 subst c8
 obtain ⟨j,rfl,hj,cy,y,m,l,G⟩:=hrel
 have cz:(0:Int)<=(j:Int):=by omega
 have z:=hid y
 obtain ⟨⟨p0,p1⟩,hW⟩:=HS.out _ (zaD HB.out G)
 have x0:=cellS G br.out
 have a7:=hid G
 have O:=m.lt
 have c7:=za6 (zaD HB.out G)
 have a9:wk.heap.size<=wj.heap.size:=G.size
 have cj:eb<wj.heap.size:=by omega
 have ac:=l.lt
 have b4:=hid m
 have b3:=hid l
 clear y
 by_cases hltj:j<T.el k
 rotate_left
 ·have V:¬ (j:Int)<(T.el k:Int):=by omega
  have bl:j=T.el k:=by omega
  have Z:Hid (∀ i,i<T.el k->T.edgeOk k i):=by rw [<-bl]; exact z
  rw [bl] at m l;clear b4 b3 z
  go_wp2_with fail
  refine (zde _ n1 n1 (fun v=>hitB (T.fr k) (T.el k) (v:Nat)) false wj (zbl m) (by omega)).mono ?_
  rintro e w2 ⟨⟨r1,rfl,a3⟩,kb⟩
  replace hW:=onS hW kb;replace l:=zaa l kb
  have J:=onS a7.out kb
  clear kb m
  cases r1
  rotate_left
  ·have hE:=hid (L.out fun hs=>by
    obtain ⟨i,hi,e⟩:=a3.1 rfl
    have:=hs.2.1 i (by have:=b7.out; omega)
    rw [e] at this
    cases this)
   clear a3
   go_wp2
   go_ret
   exact ⟨zaz hE.out.symm,hW⟩
  have cr:Hid (∀ i,i<n1->hitB (T.fr k) (T.el k) (i:Nat)=true):=fun i hi=>by
   cases hv:hitB (T.fr k) (T.el k) (i:Nat)
   ·exact absurd (a3.2 ⟨i,hi,hv⟩) (by simp)
   ·rfl
  clear a3
  go_wp2_with fail
  refine (zde _ n2 n2 (fun v=>hitB (T.to k) (T.el k) (v:Nat)) false w2 (zbl l) (by omega)).mono ?_
  rintro e w3 ⟨⟨r2,rfl,a2⟩,kb⟩
  replace hW:=onS hW kb;replace J:=onS J kb;clear kb l
  cases r2
  ·have HN:Hid (∀ i,i<k+1->T.secOk i):=fun i hi=>by
    by_cases e:i=k
    ·subst e
     refine ⟨Z.out,fun v hv=>cr.out v (by have:=b7.out; omega),fun v hv=>?_⟩
     cases hv2:hitB (T.to i) (T.el i) (v:Nat)
     ·exact absurd (a2.2 ⟨v,by have:=b6.out; omega,hv2⟩) (by simp)
     ·rfl
    ·exact a0.out i (by omega)
   have b9:=hid (zaD HB.out J)
   clear a2
   go_wp2
   go_roundg (gK - 1)
   case measure=>omega
   case rel=>exact ⟨k+1,by go_num,by omega,by omega,HN.out,b9.out⟩
  have hE:=hid (L.out fun hs=>by
   obtain ⟨i,hi,e⟩:=a2.1 rfl
   have:=hs.2.2 i (by have:=b6.out; omega)
   rw [e] at this
   cases this)
  clear a2
  go_wp2
  go_ret
  exact ⟨zaz hE.out.symm,hW⟩
 have V:(j:Int)<(T.el k:Int):=by omega
 obtain ⟨fb,fo,rfl,d1,e0,e1,e2⟩:=zdd ((Rd.below bv.out G (Nat.le_refl _)).mono G.size) hltj
 obtain ⟨i1,i2,i3,i4⟩:=M.out.ins k hlt j hltj
 rw [<-b7.out] at i2;rw [<-b6.out] at i4
 have N:Hid (T.edgeOk k j↔0<=T.lb k j/\T.lb k j<256/\(0<j->T.after k j)):=Iff.rfl
 have b5:Hid (¬ T.edgeOk k j->T.properE=5):=fun hn=>L.out fun hs=>hn (hs.1 j hltj)
 obtain ⟨fn,ao⟩:∃ n:Nat,(n:Int)=T.fr k j:=⟨(T.fr k j).toNat,by omega⟩
 obtain ⟨tn,af⟩:∃ n:Nat,(n:Int)=T.to k j:=⟨(T.to k j).toNat,by omega⟩
 obtain ⟨lb,an⟩:=exx (T.lb k j)
 have ap:fn<n1:=by omega
 have ag:tn<n2:=by omega
 have ci:(fn:Int)<(n1:Int):=by omega
 have c9:(tn:Int)<(n2:Int):=by omega
 have d2:(0:Int)<=(fn:Int):=by omega
 have ct:(0:Int)<=(tn:Int):=by omega
 have Y:Hid (T.edgeOk k j->∀ i,i<j+1->T.edgeOk k i):=fun ho i hi=>by
  by_cases e:i=j
  ·subst e; exact ho
  ·exact z.out i (by omega)
 have u0:=m.cell (i:=fn) ap
 have u1:=l.cell (i:=tn) ag
 have z0:=m.frozen fn
 have z1:=l.frozen tn
 obtain ⟨v0,bg⟩:=exx (hitB (T.fr k) j (fn:Nat))
 obtain ⟨v1,bf⟩:=exx (hitB (T.to k) j (tn:Nat))
 have Q:b2≠b1:=fun e=>ai e.symm
 rw [<-bg] at u0;rw [<-bf] at u1;rw [<-ao] at e0;rw [<-af] at e2;rw [<-an] at e1 N
 have b8:=hid ao
 have bu:=hid af
 have cp:=hid an
 clear bg bf ao af an m l G i1 i2 i3 i4
 have a4:=(a7.out.alloc a9 (Obj.cells #[.int .i64 (fn:Int),.int .i64 lb,.int .i64 (tn:Int)] 90))
 have bx:Hid (∀ v,v<n1->(if v=fn then Value.bool true else .bool (hitB (T.fr k) j (v:Nat)))=.bool (hitB (T.fr k) (j+1) (v:Nat))):=fun v hv=>by
  show _=Value.bool (hitB (T.fr k) j (v:Nat) || decide (T.fr k j=(v:Nat)))
  by_cases e:v=fn
  ·subst e; rw [if_pos rfl,<-b8.out]; simp
  ·rw [if_neg e,decide_eq_false (by have:=b8.out; omega)]; simp
 have bw:Hid (∀ v,v<n2->(if v=tn then Value.bool true else .bool (hitB (T.to k) j (v:Nat)))=.bool (hitB (T.to k) (j+1) (v:Nat))):=fun v hv=>by
  show _=Value.bool (hitB (T.to k) j (v:Nat) || decide (T.to k j=(v:Nat)))
  by_cases e:v=tn
  ·subst e; rw [if_pos rfl,<-bu.out]; simp
  ·rw [if_neg e,decide_eq_false (by have:=bu.out; omega)]; simp
 go_upto_region 15 with fail
 obtain ⟨OB,aw⟩:=exx ((Obj.cells #[.int .i64 (fn:Int),.int .i64 lb,.int .i64 (tn:Int)] 90))
 have hq:∀ i v,(#[Value.int .i64 (fn:Int),.int .i64 lb,.int .i64 (tn:Int)]:Array Value)[i]?=some v->(wj.alloc OB).cell? ⟨wj.heap.size,i,none⟩=some v:=fun i v hv=>by subst aw; exact tbox (Below.refl _ _) hv
 have q0:=hq 0 _ rfl
 have q1:=hq 1 _ rfl
 have q2:=hq 2 _ rfl
 have r:=aly wj OB
 rw [<-aw] at a4 ⊢
 obtain ⟨w50,H⟩:=exx (wj.alloc OB)
 rw [<-H] at a4 q0 q1 q2 r ⊢
 have m:=zaa b4.out r
 have l:=zaa b3.out r
 have q:=a4
 have be:wj.heap.size<w50.heap.size:=by rw [H]; simp
 have C:Below w.heap.size w w50:=onS hW r
 have c2:b1<wj.heap.size:=O
 have bz:b2<wj.heap.size:=ac
 clear hq H aw a4 p0 p1 x0 b4 b3 u0 u1 z0 z1
 by_cases l1:lb<0
 ·have q3:decide (lb<0)=true:=by simpa using l1
  have hE:=hid (b5.out fun ho=>by have:=(N.out.1 ho).1; omega)
  go_quiet (fail)
  go_wp2
  go_ret
  exact ⟨zaz hE.out.symm,zac C _⟩
 have q3:decide (lb<0)=false:=by simpa using l1
 by_cases l2:lb ≥ 256
 ·have q4:decide (lb ≥ 256)=true:=by simpa using l2
  have q5:decide (256<=lb)=true:=by simpa using l2
  have hE:=hid (b5.out fun ho=>by have:=(N.out.1 ho).2.1; omega)
  go_quiet (fail)
  go_wp2
  go_ret
  exact ⟨zaz hE.out.symm,zac C _⟩
 have q4:decide (lb ≥ 256)=false:=by simpa using l2
 have q5:decide (256<=lb)=false:=by simpa using l2
 by_cases jz:j=0
 ·have hg:decide ((j:Int) > 0)=false:=by simp; omega
  have ch:decide (0<(j:Int))=false:=by simp; omega
  have d0:decide (0<j)=false:=by simp; omega
  have ah:=hid (N.out.2 ⟨by omega,by omega,fun h=>absurd h (by omega)⟩)
  clear jz e0 e1 e2
  go_quiet (fail)
  go_upto_region 17 with fail
  replace r:=zac (Below.refl w50.heap.size w50) nq;replace q0:=cellS r q0;replace q2:=cellS r q2;replace m:=zaa m r;replace l:=zaa l r;replace q:=onS q r
  obtain ⟨w60,s⟩:=exx (w50.drewN nq)
  rw [<-s] at q0 q2 m l q ⊢;clear s r C q1
  refine wp_region_held_drew (S:=fun w'=>w'.cell? ⟨wj.heap.size,0,none⟩=some (.int .i64 fn)/\w'.cell? ⟨wj.heap.size,2,none⟩=some (.int .i64 tn)) (by kernel_rfl) ⟨cellS (Below.refl _ _).drew q0,cellS (Below.refl _ _).drew q2⟩ (fun hHeld=>?_)
  obtain ⟨w61,hw,kb⟩:=dwx w60
  rw [<-hw] at hHeld ⊢;clear hw;replace m:=zaa m kb;replace l:=zaa l kb;replace q0:=cellS kb q0;replace q2:=cellS kb q2;replace q:=onS q kb;clear kb
  refine tkq 0 (h:=tkq 1 (h:=tkq 2 (h:=tkq 3 (h:=tkq 4 (h:=tkq 5 (h:=tkq 6 (h:=?_)))))))
  refine rdq 7 (h:=fun K hK=>?_)
  have I:=m.lt
  have u0:=m.cell (i:=fn) ap
  have z0:=m.frozen fn
  skip
  go_simp
  replace q0:=zaW (p:=⟨b1,fn,none⟩) (u:=.bool true) q0 (by show wj.heap.size≠b1; omega)
  replace q2:=zaW (p:=⟨b1,fn,none⟩) (u:=.bool true) q2 (by show wj.heap.size≠b1; omega)
  replace q:=q.setCell (p:=⟨b1,fn,none⟩) bc (.bool true)
  replace l:=l.setOther (a:=⟨b1,fn,none⟩) (by simpa using Q) (.bool true)
  replace m:=m.set fn (.bool true)
  obtain ⟨w62,hw⟩:=exx (World.setCell w61 ⟨b1,fn,none⟩ (.bool true))
  rw [<-hw] at q0 q2 q m l ⊢;clear hw u0 z0 I
  refine bkq hK ⟨q0,q2⟩ (h:=fun hHeld=>?_)
  clear hK K
  refine tkq 8 (h:=?_)
  refine rdq 9 (h:=fun K hK=>?_)
  have I:=l.lt
  have u0:=l.cell (i:=tn) ag
  have z0:=l.frozen tn
  skip
  go_simp
  replace q0:=zaW (p:=⟨b2,tn,none⟩) (u:=.bool true) q0 (by show wj.heap.size≠b2; omega)
  replace q2:=zaW (p:=⟨b2,tn,none⟩) (u:=.bool true) q2 (by show wj.heap.size≠b2; omega)
  replace q:=q.setCell (p:=⟨b2,tn,none⟩) bb (.bool true)
  replace m:=m.setOther (a:=⟨b2,tn,none⟩) (by simpa using ai) (.bool true)
  replace l:=l.set tn (.bool true)
  obtain ⟨w63,hw⟩:=exx (World.setCell w62 ⟨b2,tn,none⟩ (.bool true))
  rw [<-hw] at q0 q2 q m l ⊢;clear hw u0 z0 I
  refine bkq hK ⟨q0,q2⟩ (h:=fun hHeld=>?_)
  clear hK K
  refine wpAnyH_done (by kernel_rfl) ?_ _
  clear hHeld
  have F:=m.congr (g:=fun v=>.bool (hitB (T.fr k) (j+1) (v:Nat))) (bx.out)
  have D:=l.congr (g:=fun v=>.bool (hitB (T.to k) (j+1) (v:Nat))) (bw.out)
  have b0:=hid F
  have az:=hid D
  have ba:=hid q
  clear F D m l q
  go_wp2
  go_roundg (gk - 1)
  case measure=>omega
  case rel=>exact ⟨j+1,by go_num,by omega,by omega,Y.out ah.out,b0.out,az.out,ba.out⟩
 obtain ⟨jp,rfl⟩:∃ jp,j=jp+1:=⟨j - 1,by omega⟩
 obtain ⟨_,_,X,_,g0,g1,g2⟩:=zdd ((Rd.below bv.out a7.out (Nat.le_refl _)).mono a7.out.size) (j:=jp) (by omega)
 injection X with X; injection X with X hE3; subst X hE3
 have a1:Hid (T.after k (jp+1)↔T.fr k jp<T.fr k (jp+1)∨T.fr k jp=T.fr k (jp+1)/\T.lb k jp<T.lb k (jp+1)):=Iff.rfl
 rw [<-b8.out,<-cp.out] at a1
 have cu:jp<T.el k:=by omega
 have cc:(jp:Int)<(T.el k:Int):=by omega
 have cf:(0:Int)<=(jp:Int):=by omega
 obtain ⟨gf,bo⟩:=exx (T.fr k jp)
 obtain ⟨gl,bn⟩:=exx (T.lb k jp)
 obtain ⟨gt,bm⟩:=exx (T.to k jp)
 rw [<-bo] at g0 a1;rw [<-bn] at g1 a1;rw [<-bm] at g2;replace g0:=cellS r g0;replace g1:=cellS r g1;replace g2:=cellS r g2;clear bo bn bm jz e0 e1 e2 r C
 have hg:decide ((jp:Int)+1 > 0)=true:=decide_eq_true (by omega)
 have ch:decide (0<(jp:Int)+1)=true:=decide_eq_true (by omega)
 have O:IntKind.i64.wrap (jp:Int)=(jp:Int):=IntWalk.i64_in _ (by omega)
 have al:Hid (lessV gf gl fn lb<0↔gf<fn∨gf=fn/\gl<lb):=zck
 refine wp_region_held_drew (S:=fun w'=>w'.cell? ⟨wj.heap.size,0,none⟩=some (.int .i64 fn)/\w'.cell? ⟨wj.heap.size,1,none⟩=some (.int .i64 lb)/\w'.cell? ⟨wj.heap.size,2,none⟩=some (.int .i64 tn)/\w'.cell? ⟨fb,fo+jp*3,none⟩=some (.int .i64 gf)/\w'.cell? ⟨fb,fo+jp*3+1,none⟩=some (.int .i64 gl)/\w'.cell? ⟨fb,fo+jp*3+2,none⟩=some (.int .i64 gt)) (by kernel_rfl) ⟨cellS (Below.refl _ _).drew q0,cellS (Below.refl _ _).drew q1,cellS (Below.refl _ _).drew q2,cellS (Below.refl _ _).drew g0,cellS (Below.refl _ _).drew g1,cellS (Below.refl _ _).drew g2⟩ (fun hHeld=>?_)
 obtain ⟨w51,hw,kb⟩:=dwx w50
 rw [<-hw] at hHeld ⊢;clear hw;replace m:=zaa m kb;replace l:=zaa l kb;replace q0:=cellS kb q0;replace q1:=cellS kb q1;replace q2:=cellS kb q2;replace g0:=cellS kb g0;replace g1:=cellS kb g1;replace g2:=cellS kb g2;replace q:=onS q kb;clear kb
 refine tkq 0 (h:=tkq 1 (h:=tkq 2 (h:=tkq 3 (h:=tkq 4 (h:=tkq 5 (h:=tkq 6 (h:=tkq 7 (h:=tkq 8 (h:=tkq 9 (h:=tkq 10 (h:=tkq 11 (h:=tkq 12 (h:=tkq 13 (h:=tkq 14 (h:=tkq 15 (h:=tkq 16 (h:=tkq 17 (h:=?_))))))))))))))))))
 refine rdq 18 (h:=fun K hK=>?_)
 go_simp
 go_wp2_with fail
 refine (zjP gf gl gt fn lb tn w51).mono ?_
 rintro e w52 ⟨rfl,kb⟩
 replace m:=zaa m kb;replace l:=zaa l kb;replace q0:=cellS kb q0;replace q1:=cellS kb q1;replace q2:=cellS kb q2;replace g0:=cellS kb g0;replace g1:=cellS kb g1;replace g2:=cellS kb g2;replace q:=onS q kb;clear kb
 refine bkq hK ⟨q0,q1,q2,g0,g1,g2⟩ (h:=fun hHeld=>?_)
 clear hK K
 refine tkq 19 (h:=tkq 20 (h:=tkq 21 (h:=?_)))
 refine wpAnyH_done (by kernel_rfl) ?_ _
 clear hHeld
 obtain ⟨lv,U⟩:=exx (lessV gf gl fn lb)
 rw [<-U] at al ⊢;clear U
 by_cases hl0:lv ≥ 0
 ·have q6:decide (lv ≥ 0)=true:=by simpa using hl0
  have q7:decide (0<=lv)=true:=by simpa using hl0
  have hE:=hid (b5.out fun ho=>by have:=al.out.2 (a1.out.1 ((N.out.1 ho).2.2 (by omega))); omega)
  have cl:=zaL (zaD HB.out q)
  go_wp2
  go_ret
  exact ⟨zaz hE.out.symm,cl⟩
 have q6:decide (lv ≥ 0)=false:=by simpa using hl0
 have q7:decide (0<=lv)=false:=by simpa using hl0
 have ah:=hid (N.out.2 ⟨by omega,by omega,fun h=>a1.out.2 (al.out.1 (by omega))⟩)
 clear g0 g1 g2 q1
 go_upto_region 17 with fail
 obtain ⟨w60,s⟩:=exx w52
 rw [<-s] at q0 q2 m l q ⊢;clear s
 refine wp_region_held_drew (S:=fun w'=>w'.cell? ⟨wj.heap.size,0,none⟩=some (.int .i64 fn)/\w'.cell? ⟨wj.heap.size,2,none⟩=some (.int .i64 tn)) (by kernel_rfl) ⟨cellS (Below.refl _ _).drew q0,cellS (Below.refl _ _).drew q2⟩ (fun hHeld=>?_)
 obtain ⟨w61,hw,kb⟩:=dwx w60
 rw [<-hw] at hHeld ⊢;clear hw;replace m:=zaa m kb;replace l:=zaa l kb;replace q0:=cellS kb q0;replace q2:=cellS kb q2;replace q:=onS q kb;clear kb
 refine tkq 0 (h:=tkq 1 (h:=tkq 2 (h:=tkq 3 (h:=tkq 4 (h:=tkq 5 (h:=tkq 6 (h:=?_)))))))
 refine rdq 7 (h:=fun K hK=>?_)
 have I:=m.lt
 have u0:=m.cell (i:=fn) ap
 have z0:=m.frozen fn
 skip
 go_simp
 replace q0:=zaW (p:=⟨b1,fn,none⟩) (u:=.bool true) q0 (by show wj.heap.size≠b1; omega)
 replace q2:=zaW (p:=⟨b1,fn,none⟩) (u:=.bool true) q2 (by show wj.heap.size≠b1; omega)
 replace q:=q.setCell (p:=⟨b1,fn,none⟩) bc (.bool true)
 replace l:=l.setOther (a:=⟨b1,fn,none⟩) (by simpa using Q) (.bool true)
 replace m:=m.set fn (.bool true)
 obtain ⟨w62,hw⟩:=exx (World.setCell w61 ⟨b1,fn,none⟩ (.bool true))
 rw [<-hw] at q0 q2 q m l ⊢;clear hw u0 z0 I
 refine bkq hK ⟨q0,q2⟩ (h:=fun hHeld=>?_)
 clear hK K
 refine tkq 8 (h:=?_)
 refine rdq 9 (h:=fun K hK=>?_)
 have I:=l.lt
 have u0:=l.cell (i:=tn) ag
 have z0:=l.frozen tn
 skip
 go_simp
 replace q0:=zaW (p:=⟨b2,tn,none⟩) (u:=.bool true) q0 (by show wj.heap.size≠b2; omega)
 replace q2:=zaW (p:=⟨b2,tn,none⟩) (u:=.bool true) q2 (by show wj.heap.size≠b2; omega)
 replace q:=q.setCell (p:=⟨b2,tn,none⟩) bb (.bool true)
 replace m:=m.setOther (a:=⟨b2,tn,none⟩) (by simpa using ai) (.bool true)
 replace l:=l.set tn (.bool true)
 obtain ⟨w63,hw⟩:=exx (World.setCell w62 ⟨b2,tn,none⟩ (.bool true))
 rw [<-hw] at q0 q2 q m l ⊢;clear hw u0 z0 I
 refine bkq hK ⟨q0,q2⟩ (h:=fun hHeld=>?_)
 clear hK K
 refine wpAnyH_done (by kernel_rfl) ?_ _
 clear hHeld
 have F:=m.congr (g:=fun v=>.bool (hitB (T.fr k) (jp+1+1) (v:Nat))) (bx.out)
 have D:=l.congr (g:=fun v=>.bool (hitB (T.to k) (jp+1+1) (v:Nat))) (bw.out)
 have b0:=hid F
 have az:=hid D
 have ba:=hid q
 clear F D m l q
 go_wp2
 go_roundg (gk - 1)
 case measure=>omega
 case rel=>exact ⟨jp+1+1,by go_num,by omega,by omega,Y.out ah.out,b0.out,az.out,ba.out⟩
theorem zjS {f:Nat->Int} {j:Nat} {v:Int} (h:hitB f j v=true):0<j:=by
 obtain ⟨i,hi,_⟩:=za2.1 h
 omega
theorem Trel.Proper.el1 {T:Trel} (h:T.Proper) {i:Nat} (hi:i<T.n):1<=T.el i:=by
 have h1:=(h.sec i hi).2.2 0 (by have:=h.shape.w1 (i+1) (by omega); omega)
 exact zjS h1
def PathsPost (T:Trel) (w:World) (e:Ending) (w':World):Prop :=
 (T.properE≠0/\e=.returned (.tuple #[.slice none 0 0,.int .i64 T.properE])/\Below w.heap.size w w') ∨
 (T.properE=0/\∃ A c,e=.returned (.tuple #[.slice A (dl (T.fwd (fun _ _=>1) T.n 0)) c,.int .i64 0])/\dl (T.fwd (fun _ _=>1) T.n 0)<=c/\c<=maxLen/\NatOk w' w'.heap.size A (T.fwd (fun _ _=>1) T.n 0)/\Below w.heap.size w w')
def OnesUpTo (T:Trel) (wx:World) (gv k:Nat) (A1:Option Addr) (c1:Nat):Prop :=
 ∃ R:Nat->Nat,wx.rowIs gv 64 T.n (fun i=>if i<k then .slice (some ⟨R i,0,none⟩) (T.el i) (T.el i) else .slice none 0 0)/\∀ i,i<k->R i≠gv/\wx.rowIs (R i) 69 (T.el i) (fun _=>.slice A1 (dl 1) c1)
theorem OnesUpTo.on {T:Trel} {w w':World} {gv k:Nat} {A1:Option Addr} {c1:Nat} (h:OnesUpTo T w gv k A1 c1) (hb:Below w.heap.size w w'):OnesUpTo T w' gv k A1 c1:=by
 obtain ⟨R,h1,h2⟩:=h
 exact ⟨R,zaa h1 hb,fun i hi=>⟨(h2 i hi).1,zaa (h2 i hi).2 hb⟩⟩
theorem OnesUpTo.noInt {T:Trel} {w:World} {gv k:Nat} {A1:Option Addr} {c1:Nat} (h:OnesUpTo T w gv k A1 c1):NoInt w gv:=by
 obtain ⟨R,h1,h2⟩:=h
 exact zfT h1 fun i _ u e=>by
  revert e
  show (if i<k then _ else _)=_->_
  split <;> (intro e; cases e)
theorem OnesUpTo.put {T:Trel} {w:World} {gv k r:Nat} {A1:Option Addr} {c1:Nat} (h:OnesUpTo T w gv k A1 c1) (hr:w.rowIs r 69 (T.el k) (fun _=>.slice A1 (dl 1) c1)) (hne:r≠gv) :
  OnesUpTo T (w.setCell ⟨gv,k,none⟩ (.slice (some ⟨r,0,none⟩) (T.el k) (T.el k))) gv (k+1) A1 c1:=by
 obtain ⟨R,h1,h2⟩:=h
 refine ⟨fun i=>if i=k then r else R i,(h1.set k _).congr fun i _=>?_,fun i hi=>?_⟩
 ·show (if i=k then _ else if i<k then _ else _)=if i<k+1 then Value.slice (some ⟨if i=k then r else R i,0,none⟩) (T.el i) (T.el i) else .slice none 0 0
  by_cases e:i=k
  ·subst e; rw [if_pos rfl,if_pos (by omega),if_pos rfl]
  rw [if_neg e,if_neg e]
  by_cases e2:i<k
  ·rw [if_pos e2,if_pos (by omega)]
  ·rw [if_neg e2,if_neg (by omega)]
 show (if i=k then r else R i)≠gv/\World.rowIs _ (if i=k then r else R i) _ _ _
 by_cases e:i=k
 ·subst e
  rw [if_pos rfl]
  exact ⟨hne,hr.setOther (by simpa using hne) _⟩
 ·rw [if_neg e]
  exact ⟨(h2 i (by omega)).1,(h2 i (by omega)).2.setOther (by simpa using (h2 i (by omega)).1) _⟩
theorem OnesUpTo.tab {T:Trel} {w:World} {gv:Nat} {A1:Option Addr} {c1:Nat} (h:OnesUpTo T w gv T.n A1 c1) (hn:NatOk w w.heap.size A1 1) (h1:dl 1<=c1) (h2:c1<=maxLen):VTab w (some ⟨gv,0,none⟩) T.n T.el (fun _ _=>1):=fun i hi=>by
 obtain ⟨R,k1,k2⟩:=h
 have hc:=k1.cell hi
 rw [if_pos hi] at hc
 refine ⟨gv,0,some ⟨R i,0,none⟩,T.el i,rfl,k1.lt,by rw [Nat.zero_add]; exact hc,fun j hj=>?_⟩
 exact ⟨R i,0,A1,c1,rfl,(k2 i hi).2.lt,by rw [Nat.zero_add]; exact (k2 i hi).2.cell hj,h1,h2,hn⟩
theorem ziF (T:Trel) (A B:Option Addr) (c d:Nat) (w:World) (h:T.Reads w A B) :
  Calls Tryz.prog 71 #[.agg #[.slice A T.nw c,.slice B T.n d]] w (PathsPost T w):=by
 obtain ⟨RB,G⟩:=exx ((Obj.cells #[.slice A T.nw c,.slice B T.n d] 53))
 have J:Below (w.heap.size+1) (w.alloc RB) (w.alloc RB):=Below.refl _ _
 have HS:Hid (∀ w',Below (w.heap.size+1) (w.alloc RB) w'->(w'.cell? ⟨w.heap.size,0,none⟩=some (.slice A T.nw c)/\w'.cell? ⟨w.heap.size,1,none⟩=some (.slice B T.n d))/\Below w.heap.size w w'):=fun w' hB=>by
  have ae:=zaL hB
  subst G
  exact ⟨⟨tbox hB rfl,tbox hB rfl⟩,ae⟩
 obtain ⟨⟨p0,p1⟩,hW⟩:=HS.out _ J
 go_enter Tryz.func71, Tryz.ntmps71
 go_wp2_with fail
 rw [<-G]
 refine (zeJ T A B c d _ (h.on hW)).mono ?_
 rintro e w1 ⟨rfl,hb⟩
 have I:=zaD J hb
 clear hW p0 p1 hb J G
 obtain ⟨⟨p0,p1⟩,hW⟩:=HS.out _ I
 by_cases hp:T.properE=0
 rotate_left
 ·have a3:(T.properE != 0)=true:=by simpa using hp
  have HP:=hid hp
  obtain ⟨x,hx⟩:=exx T.properE
  have HX:=hid hx
  rw [<-hx] at a3 ⊢;clear hp hx
  go_wp2
  go_ret2
  exact .inl ⟨HP.out,by rw [<-HX.out]; rfl,hW⟩
 have HP:=hid (Trel.proper_of hp)
 have ag:=hid hp
 have HR:=hid h
 have af:Hid (T.shapeE=0):=by
  show _=_
  cases Decidable.em (T.shapeE=0) with
  | inl h=>exact h
  | inr h=>exact absurd (Trel.properE_shape h ▸ hp) h
 rw [hp];clear hp h
 go_wp2_with fail
 refine (zdP 1 _ (by omega)).mono ?_
 rintro e w2 ⟨A1,c1,rfl,g1,g2,g3,kb⟩
 have y:=zaD I kb
 clear hW p0 p1 I kb
 obtain ⟨⟨p0,p1⟩,hW⟩:=HS.out _ y
 have a5:=za6 y
 have a4:=HP.out.shape.n64
 have V:=fun W=>zaf (P:=Tryz.prog) 148 64 _ 24 Tryz.underlying148 Tryz.infoNats rfl (T.n:Int) (by omega) (by omega) (by omega) W
 simp only [Int.toNat_natCast] at V
 obtain ⟨x,hx⟩:=exx (T.fwd (fun _ _=>1) T.n 0)
 have HX:=hid hx
 clear hx
 go_upto_region 6 with fail
 obtain ⟨gv,D⟩:=exx w2.heap.size
 have u:=World.rowIs_made w2 (.slice none 0 0) T.n 64
 have q:=aly w2 (Obj.cells (madeCells #[Value.slice none 0 0] T.n) 64)
 obtain ⟨w3,M⟩:=exx (w2.alloc (Obj.cells (madeCells #[Value.slice none 0 0] T.n) 64))
 rw [<-D] at u;rw [<-M] at u q ⊢;rw [<-D]
 have ak:w.heap.size<gv:=by omega
 have a:OnesUpTo T w3 gv 0 A1 c1:=⟨fun _=>0,u.congr fun i _=>(if_neg (by omega)).symm,fun i hi=>absurd hi (by omega)⟩
 have H:=zaD y q
 replace g3:=g3.on q;clear M u V p0 p1 hW y q a5 D
 obtain ⟨⟨p0,p1⟩,hW⟩:=HS.out _ H
 go_wp2
 go_loopg [24] T.n (fun gg iv wx=>∃ k:Nat,iv=.int .i64 (k:Nat)/\k<=T.n/\T.n<=k+gg/\OnesUpTo T wx gv k A1 c1/\NatOk wx wx.heap.size A1 1/\Below (w.heap.size+1) (w.alloc RB) wx)
 case atStart=>exact ⟨0,rfl,by omega,by omega,a,g3,H⟩
 clear p0 p1 hW a g3 H
 obtain ⟨k,rfl,hk,al,a,g3,hB⟩:=hrel
 obtain ⟨⟨p0,p1⟩,hW⟩:=HS.out _ hB
 have am:(0:Int)<=(k:Int):=by omega
 have ah:=za6 hB
 have an:gv<wr.heap.size:=by obtain ⟨R,h1,_⟩:=a; exact h1.lt
 by_cases hlt:k<T.n
 rotate_left
 ·have C:¬ (k:Int)<(T.n:Int):=by omega
  have m:k=T.n:=by omega
  rw [m] at a
  have N:=a.tab g3 g1 g2
  have aj:=za6 hB
  clear m a g3
  go_wp2_with fail
  refine (zfo T A B (some ⟨gv,0,none⟩) c d T.n (fun _ _=>1) wr (HR.out.on hW) af.out N (fun _ _ _ _=>Nat.le_refl _)).mono ?_
  rintro e w6 ⟨g,F,rfl,hg,hT,kb⟩
  have ac:=zaD hB kb
  clear N p0 p1 hW kb hB
  obtain ⟨⟨p0,p1⟩,hW⟩:=HS.out _ ac
  have a1:=HP.out.shape.nw
  have Q:T.n<T.nw:=by omega
  have a2:(T.n:Int)<(T.nw:Int):=by omega
  have a0:=HP.out.wn
  obtain ⟨b0,o0,d0,A0,c0,X,ao,aa,q0,q1,q2,q3,_,_⟩:=hT.at (v:=T.n) Q (k:=0) (by show 0<(T.W T.n).toNat; omega)
  have r0:=hT.row.cell Q
  rw [X] at r0
  have Y:(T.W T.n).toNat=1:=by omega
  change w6.cell? ⟨g,T.n,none⟩=some (.slice (some ⟨b0,o0,none⟩) (T.W T.n).toNat d0) at r0
  rw [Y] at r0;rw [Nat.add_zero,<-HX.out] at q0;rw [<-HX.out] at q1 q3
  have ab:=HX.out
  have K:Hid (∀ e,e=.returned (.tuple #[.slice A0 (dl x) c0,.int .i64 0])->PathsPost T w e w6):=fun e he=>.inr ⟨ag.out,A0,c0,by rw [<-HX.out]; exact he,by rw [<-HX.out]; exact q1,q2,by rw [<-HX.out]; exact q3,hW⟩
  clear a1 ab a0 Y hT X q3
  go_wp2
  go_ret2
  exact K.out _ rfl
 have C:(k:Int)<(T.n:Int):=by omega
 obtain ⟨eb,eo,E,ec,rfl,a9,x0,_,_,_,_⟩:=(HR.out.on hW).sec hlt
 have a8:=HP.out.shape.elb hlt
 have o:=HP.out.el1 hlt
 obtain ⟨el,b⟩:=exx (T.el k)
 rw [<-b] at x0 a8 o
 have Z:=hid b
 clear b
 go_wp2_with fail
 have kb:=aly wr (Obj.cells #[Value.slice A1 (dl 1) c1] 69)
 have hc:(wr.alloc (Obj.cells #[Value.slice A1 (dl 1) c1] 69)).cell? ⟨wr.heap.size,0,none⟩=some (.slice A1 (dl 1) c1):=by simp
 replace a:=a.on kb;replace g3:=g3.on kb;replace hB:=zaD hB kb
 obtain ⟨w4,L⟩:=exx (wr.alloc (Obj.cells #[Value.slice A1 (dl 1) c1] 69))
 obtain ⟨nb,U⟩:=exx wr.heap.size
 rw [<-L] at a g3 hB hc kb ⊢;rw [<-U] at hc ⊢;clear p0 p1 hW U L x0 a9
 refine (zhC nb (.slice A1 (dl 1) c1) el 1 w4 hc rfl o (by omega)).mono ?_
 rintro e w5 ⟨r,rfl,ai,O,s⟩
 have a6:gv<w4.heap.size:=by obtain ⟨R,h1,_⟩:=a; exact h1.lt
 replace a:=a.on s;replace g3:=g3.on s;replace hB:=zaD hB s
 have S:=a.noInt
 have z:r≠gv:=by omega
 have j:w5.rowIs r 69 (T.el k) (fun _=>.slice A1 (dl 1) c1):=by rw [<-Z.out]; exact O
 have l:=hid (a.put j z)
 rw [<-Z.out] at l
 have a7:=hid (zaV (i:=k) g3 S (.slice (some ⟨r,0,none⟩) el el))
 have ad:=hid (hB.setCell (p:=⟨gv,k,none⟩) (by show w.heap.size+1<=gv; omega) (.slice (some ⟨r,0,none⟩) el el))
 have q0:∃ v,w5.cell? ⟨gv,k,none⟩=some v:=by obtain ⟨R,h1,_⟩:=a; exact ⟨_,h1.cell hlt⟩
 have z0:w5.frozen? ⟨gv,k,none⟩=false:=by obtain ⟨R,h1,_⟩:=a; exact h1.frozen k
 obtain ⟨v0,q0⟩:=q0
 clear hc kb s a g3 hB S O j
 go_wp2
 go_roundg (gk - 1)
 case measure=>omega
 case rel=>exact ⟨k+1,by go_num,by omega,by omega,l.out,a7.out,ad.out⟩
def Trel.outs (T:Trel) (i:Nat) (v:Int) (m:Nat):List Nat:=(List.range m).filter fun j=>T.fr i j == v
def Trel.dn (T:Trel):Nat->Int->List (List Int)
 | 0,_=>[[]]
 | r+1,v=>(T.outs (T.n - (r+1)) v (T.el (T.n - (r+1)))).flatMap fun j=>(T.dn r (T.to (T.n - (r+1)) j)).map fun q=>T.lb (T.n - (r+1)) j :: q
def Trel.ext (T:Trel) (i m:Nat) (x:List Int × Int):List (List Int × Int):=(T.outs i x.2 m).map fun j=>(x.1 ++ [T.lb i j],T.to i j)
def Trel.lev (T:Trel):Nat->List (List Int × Int)
 | 0=>[([],0)]
 | i+1=>(T.lev i).flatMap (T.ext i (T.el i))
theorem Trel.outs_succ (T:Trel) (i:Nat) (v:Int) (m:Nat):T.outs i v (m+1)=T.outs i v m ++ if T.fr i m=v then [m] else []:=by
 unfold Trel.outs
 rw [List.range_succ,List.filter_append]
 by_cases h:T.fr i m=v
 ·simp [h]
 ·simp [h]
theorem Trel.outs_mem {T:Trel} {i m j:Nat} {v:Int}:j ∈ T.outs i v m↔j<m/\T.fr i j=v:=by
 simp [Trel.outs]
theorem Trel.ext_succ (T:Trel) (i m:Nat) (x:List Int × Int):T.ext i (m+1) x=T.ext i m x ++ if T.fr i m=x.2 then [(x.1 ++ [T.lb i m],T.to i m)] else []:=by
 unfold Trel.ext
 rw [Trel.outs_succ,List.map_append]
 congr 1
 split <;> simp
theorem Trel.lev_dn (T:Trel):∀ i,i<=T.n->(T.lev i).flatMap (fun x=>(T.dn (T.n - i) x.2).map fun q=>x.1 ++ q)=T.dn T.n 0:=by
 intro i
 induction i with
 | zero=>intro _; simp [Trel.lev]
 | succ i ih =>
  intro hi
  rw [<-ih (by omega)]
  show ((T.lev i).flatMap (T.ext i (T.el i))).flatMap _=_
  rw [List.flatMap_assoc]
  congr 1
  funext x
  have e:T.n - i=(T.n - (i+1))+1:=by omega
  rw [e]
  show _=(List.flatMap _ (T.outs _ _ _)).map _
  have e2:T.n - (T.n - (i+1)+1)=i:=by omega
  rw [e2,List.map_flatMap]
  unfold Trel.ext
  rw [List.flatMap_map]
  congr 1
  funext j
  simp [List.map_map,Function.comp_def]
theorem Trel.lev_words (T:Trel):(T.lev T.n).map (·.1)=T.dn T.n 0:=by
 rw [<-Trel.lev_dn T T.n (Nat.le_refl _)]
 have:∀ l:List (List Int × Int),l.map (·.1)=l.flatMap (fun x=>(T.dn (T.n - T.n) x.2).map fun q=>x.1 ++ q):=by
  intro l
  induction l with
  | nil=>rfl
  | cons a l ih=>rw [List.map_cons,List.flatMap_cons,ih,Nat.sub_self]; simp [Trel.dn]
 exact this _
theorem Trel.lev_in {T:Trel} (h:T.Proper):∀ i,i<=T.n->∀ x,x ∈ T.lev i->x.1.length=i/\0<=x.2/\x.2<T.W i:=by
 intro i
 induction i with
 | zero =>
  intro _ x hx
  simp [Trel.lev] at hx
  subst hx
  exact ⟨rfl,Int.le_refl _,by have:=h.w0; show (0:Int)<_; omega⟩
 | succ i ih =>
  intro hi x hx
  simp only [Trel.lev,List.mem_flatMap] at hx
  obtain ⟨y,hy,hx⟩:=hx
  unfold Trel.ext at hx
  rw [List.mem_map] at hx
  obtain ⟨j,hj,rfl⟩:=hx
  have h1:=ih (by omega) y hy
  have h2:=h.shape.ins i (by omega) j (Trel.outs_mem.1 hj).1
  unfold Trel.inside at h2
  refine ⟨by simp [h1.1],?_,?_⟩ <;> simp only <;> omega
def endsAt (l:List (List Int × Int)) (v:Nat):Nat:=l.countP fun x=>x.2.toNat == v
theorem zcA (T:Trel) (i u:Nat) (prev:Nat->Nat) (l:List (List Int × Int)) (hl:∀ x,x ∈ l->0<=x.2) (hp:∀ v,prev v=endsAt l v):∀ m,(∀ j,j<m->0<=T.fr i j)->endsAt (l.flatMap (T.ext i m)) u=T.fwdE (fun _ _=>1) prev i m u:=by
 intro m
 induction m with
 | zero =>
  intro _
  have:l.flatMap (T.ext i 0)=[]:=by
   rw [List.flatMap_eq_nil_iff]
   intro x _
   simp [Trel.ext,Trel.outs]
  rw [this]
  rfl
 | succ m ih =>
  intro hm
  show _=T.fwdE (fun _ _=>1) prev i m u+if (T.to i m).toNat=u then prev (T.fr i m).toNat*1 else 0
  rw [<-ih fun j hj=>hm j (by omega),hp]
  have h0:=hm m (by omega)
  clear hp ih hm
  unfold endsAt
  induction l with
  | nil=>simp
  | cons a l ih =>
   have ih:=ih fun x hx=>hl x (by simp [hx])
   have ha:=hl a (by simp)
   simp only [List.flatMap_cons,List.countP_append,ih,Trel.ext_succ,List.countP_cons]
   by_cases e:T.fr i m=a.2
   ·by_cases e2:(T.to i m).toNat=u
    ·simp [e,e2]; omega
    ·simp [e,e2]
   ·have e3:¬ a.2.toNat=(T.fr i m).toNat:=by omega
    by_cases e2:(T.to i m).toNat=u
    ·simp [e,e2,e3]; omega
    ·simp [e,e2]
theorem Trel.ends_fwd {T:Trel} (h:T.Proper):∀ i,i<=T.n->∀ v,T.fwd (fun _ _=>1) i v=endsAt (T.lev i) v:=by
 intro i
 induction i with
 | zero =>
  intro _ v
  show (if v=0 then 1 else 0)=_
  unfold endsAt Trel.lev
  by_cases e:v=0
  ·subst e; rfl
  ·have:¬ 0=v:=fun h=>e h.symm
   simp [e,this]
 | succ i ih =>
  intro hi v
  show T.fwdE _ _ i (T.el i) v=_
  exact (zcA T i v _ _ (fun x hx=>(Trel.lev_in h i (by omega) x hx).2.1) (ih (by omega)) _ fun j hj=>by
   have:=h.shape.ins i (by omega) j hj
   unfold Trel.inside at this
   omega).symm
theorem Trel.words_len {T:Trel} (h:T.Proper):(T.dn T.n 0).length=T.fwd (fun _ _=>1) T.n 0:=by
 rw [Trel.ends_fwd h T.n (Nat.le_refl _),<-Trel.lev_words,List.length_map]
 unfold endsAt
 refine (List.countP_eq_length.2 fun x hx=>?_).symm
 have h1:=Trel.lev_in h T.n (Nat.le_refl _) x hx
 have:=h.wn
 rw [beq_iff_eq]
 omega
def rankOf (k:Nat->Nat) (n v:Nat):Nat:=(List.range n).countP fun u=>decide (k u<k v)
theorem zfW {p q:Nat->Bool} {l:List Nat} (h:∀ x,x ∈ l->p x=true->q x=true) {y:Nat} (hy:y ∈ l) (hq:q y=true) (hp:p y=false):l.countP p<l.countP q:=by
 induction l with
 | nil=>cases hy
 | cons a l ih =>
  have b:∀ l:List Nat,(∀ x,x ∈ l->p x=true->q x=true)->l.countP p<=l.countP q:=fun l h=>List.countP_mono_left h
  rw [List.countP_cons,List.countP_cons]
  rcases List.mem_cons.1 hy with rfl | hm
  ·rw [hp,hq]
   have:=b l fun x hx=>h x (by simp [hx])
   simp
   omega
  ·have h1:=ih (fun x hx=>h x (by simp [hx])) hm
   have h2:(if p a=true then 1 else 0)<=if q a=true then 1 else 0:=by
    by_cases e:p a=true
    ·rw [if_pos e,if_pos (h a (by simp) e)]
     exact Nat.le_refl _
    ·rw [if_neg e]
     exact Nat.zero_le _
   omega
theorem zfX {k:Nat->Nat} {n u v:Nat} (hu:u<n) (h:k u<k v):rankOf k n u<rankOf k n v:=by
 unfold rankOf
 exact zfW (fun x _ hx=>by simp at hx ⊢; omega) (List.mem_range.2 hu) (by simpa using h) (by simp)
theorem zdg {k:Nat->Nat} {n v:Nat} (hv:v<n):rankOf k n v<n:=by
 have h:=zfW (p:=fun u=>decide (k u<k v)) (q:=fun _=>true) (l:=List.range n) (fun _ _ _=>rfl) (List.mem_range.2 hv) rfl (by simp)
 unfold rankOf
 simpa using h
theorem zeK {k:Nat->Nat} {n u v:Nat} (hk:∀ a b,a<n->b<n->k a=k b->a=b) (hu:u<n) (hv:v<n) (h:rankOf k n u=rankOf k n v):u=v:=by
 rcases Nat.lt_trichotomy (k u) (k v) with h1 | h1 | h1
 ·have:=zfX hu h1; omega
 ·exact hk u v hu hv h1
 ·have:=zfX hv h1; omega
theorem zb4 {k:Nat->Nat} {n:Nat} {l:List Nat} (hp:l.Perm (List.range n)) (hs:∀ p q,p<q->q<l.length->k (l.getD p 0)<k (l.getD q 0)) {p:Nat} (h:p<l.length):rankOf k n (l.getD p 0)=p:=by
 unfold rankOf
 rw [<-hp.countP_eq]
 have b : ∀ (m : List Nat) (c : Nat), (∀ i, i < m.length → (decide (k (m.getD i 0) < k (l.getD p 0)) = true ↔ i < c)) → c ≤ m.length → m.countP (fun u => decide (k u < k (l.getD p 0))) = c := by
  intro m
  induction m with
  | nil=>intro c _ hc; simp at hc; simp [hc]
  | cons a m ih =>
   intro c h1 hc
   rw [List.countP_cons]
   have h0:=h1 0 (by simp)
   by_cases e:c=0
   ·subst e
    have ha:decide (k a<k (l.getD p 0))=false:=by
     cases hd:decide (k a<k (l.getD p 0)) with
     | false=>rfl
     | true=>exact absurd (h0.1 (by simpa using hd)) (by omega)
    rw [ih 0 (fun i hi=>by
     have:=h1 (i+1) (by simp; omega)
     constructor
     ·intro h2
      have:=this.1 (by simpa using h2)
      omega
     ·intro h2; omega) (by omega),ha]
    simp
   ·have ha:decide (k a<k (l.getD p 0))=true:=by simpa using h0.2 (by omega)
    rw [ih (c - 1) (fun i hi=>by
     have:=h1 (i+1) (by simp; omega)
     constructor
     ·intro h2
      have:=this.1 (by simpa using h2)
      omega
     ·intro h2
      have:=this.2 (by omega)
      simpa using this) (by simp at hc; omega),ha]
    simp
    omega
 refine b l p (fun i hi=>?_) (by omega)
 rw [decide_eq_true_iff]
 constructor
 ·intro h1
  rcases Nat.lt_trichotomy i p with h2 | h2 | h2
  ·exact h2
  ·subst h2; omega
  ·have:=hs p i h2 hi; omega
 ·intro h1
  exact hs i p h1 h
def ltE (x y:Int × Int × Int):Prop:=x.1<y.1∨x.1=y.1/\x.2.1<y.2.1
def edgeCell (x:Nat->Int × Int × Int) (i j:Nat):Value:=if j=0 then .int .i64 (x i).1 else if j=1 then .int .i64 (x i).2.1 else .int .i64 (x i).2.2
theorem zdh (x:Nat->Int × Int × Int) (i j:Nat):(edgeCell x i j).oneCell'=true:=by
 unfold edgeCell
 split
 ·rfl
 ·split <;> rfl
theorem Tryz.infoEdge:(Tryz.prog.info? 90).map (fun i=>(i.zero,i.size,i.bytes))=some (some (.agg #[.int .i64 0,.int .i64 0,.int .i64 0]),3,24):=by kernel_rfl
theorem Tryz.infoEdges:(Tryz.prog.info? 86).map (fun i=>(i.zero,i.size,i.bytes))=some (some (.slice none 0 0),1,24):=by kernel_rfl
theorem zae {w:World} {base b n n' s:Nat} {t e:TypeId} {F:Nat->Value} {v:Value} {f:Nat->Nat->Value} (h:w.rowIs b t n F) (h':Own w base e s v n' f) (hne:t≠e):v.ownBlock≠some b:=by
 rcases h' with ⟨rfl,_⟩ | ⟨g',o',cap',cur',rfl,_,a,_⟩
 ·simp [Value.ownBlock]
 intro e1
 simp [Value.ownBlock] at e1
 subst e1
 obtain ⟨cs,h1,_⟩:=h
 rw [a] at h1
 injection h1 with h1
 injection h1 with _ h1
 exact hne h1.symm
theorem zbx {w:World} {ops:Array Oper} {rest:List Oper} {o:Oper} {a:Act} {Q:Exit->Act->World->Prop} (hgd:o.guard=none) (sl x:Operand)
  (ho:o.op=.call { callee:=.builtin .append,args:=#[sl,x],argTypes:=#[22, 22] })
  {base:Nat} {v:Value} {k:Nat} {f:Nat->Int} (h:Own w base 3 1 v k (fun i _=>.int .i64 (f i))) (hv:a.eval sl=v) {ad:Addr} {c:Nat} (hx:a.eval x=.slice (some ad) 1 c)
  (hcell:w.cell? (ad.add 0)=some (.int .i64 (f k))) (hbase:base<=w.heap.size) (hN:k<=1048576)
  (K:∀ v' w',Own w' base 3 1 v' (k+1) (fun i _=>.int .i64 (f i))->w.grownBy w' v.ownBlock->(v'.ownBlock=v.ownBlock∨v'.ownBlock=some w.heap.size)->wpList Tryz.prog ops Q rest (a.put o.dst v') w'):wpList Tryz.prog ops Q (o :: rest) a w:=by
 obtain ⟨i0,qi0,qz0,qz1,qz2⟩:=info_parts Tryz.infoInt
 refine zah w hgd sl x _ ho base 3 i0 _ 1 8 Tryz.underlying22 qi0 qz0 qz1 qz2 rfl (by omega) v k _ hv h ad c hx (fun j hj=>by
   obtain rfl:j=0:=by omega
   exact hcell) (fun _ _=>rfl) (by unfold maxLen; omega) (by omega) hbase ?_
 intro v' w3 hown3 hg3 hat3
 exact K v' w3 hown3 hg3 hat3
theorem zcB {w:World} {ops:Array Oper} {rest:List Oper} {o:Oper} {a:Act} {Q:Exit->Act->World->Prop} (hgd:o.guard=none) (sl x:Operand)
  (ho:o.op=.call { callee:=.builtin .append,args:=#[sl,x],argTypes:=#[86, 86] })
  {base:Nat} {v:Value} {k:Nat} {f:Nat->Int × Int × Int} (h:Own w base 90 3 v k (edgeCell f)) (hv:a.eval sl=v) {ad:Addr} {c:Nat} (hx:a.eval x=.slice (some ad) 1 c)
  (hcell:∀ j,j<3->w.cell? (ad.add j)=some (edgeCell f k j)) (hbase:base<=w.heap.size) (hN:k<=1048576)
  (K:∀ v' w',Own w' base 90 3 v' (k+1) (edgeCell f)->w.grownBy w' v.ownBlock->(v'.ownBlock=v.ownBlock∨v'.ownBlock=some w.heap.size)->wpList Tryz.prog ops Q rest (a.put o.dst v') w'):wpList Tryz.prog ops Q (o :: rest) a w:=by
 obtain ⟨i0,qi0,qz0,qz1,qz2⟩:=info_parts Tryz.infoEdge
 exact zah w hgd sl x _ ho base 90 i0 _ 3 24 Tryz.underlying86 qi0 qz0 qz1 qz2 rfl (by omega) v k _ hv h ad c hx hcell (fun _ _=>zdh _ _ _) (by unfold maxLen; omega) (by omega) hbase K
theorem zbN {w:World} {ops:Array Oper} {o:Oper} {a:Act} {K:Act->World->Prop} {Q:Exit->Act->World->Prop} {E:Prop} (hgd:o.guard=none) (sl x:Operand)
  (ho:o.op=.call { callee:=.builtin .append,args:=#[sl,x],argTypes:=#[86, 86] })
  {base:Nat} {v:Value} {k:Nat} {f:Nat->Int × Int × Int} (h:Own w base 90 3 v k (edgeCell f)) (hv:a.eval sl=v) {ad:Addr} {c:Nat} (hx:a.eval x=.slice (some ad) 1 c)
  (hcell:∀ j,j<3->w.cell? (ad.add j)=some (edgeCell f k j)) (hbase:base<=w.heap.size) (hN:k<=1048576)
  (K':∀ v' w',Own w' base 90 3 v' (k+1) (edgeCell f)->w.grownBy w' v.ownBlock->(v'.ownBlock=v.ownBlock∨v'.ownBlock=some w.heap.size)->K (a.put o.dst v') w') :
  if Region.wanted o (yielded ops a.tmps)=true then Oper.wp Tryz.prog o a w K Q else E:=by
 obtain ⟨i0,qi0,qz0,qz1,qz2⟩:=info_parts Tryz.infoEdge
 exact zbX w hgd sl x _ ho base 90 i0 _ 3 24 Tryz.underlying86 qi0 qz0 qz1 qz2 rfl (by omega) v k _ hv h ad c hx hcell (fun _ _=>zdh _ _ _) (by unfold maxLen; omega) (by omega) hbase K'
def ETab (w:World) (base:Nat) (v:Value) (n:Nat) (el:Nat->Nat) (y:Nat->Nat->Int × Int × Int):Prop :=
 ∃ R:Nat->Value,Own w base 86 1 v n (fun i _=>R i)/\∀ i,i<n->Own w base 90 3 (R i) (el i) (edgeCell (y i))
section
variable {w w':World} {base n:Nat} {v:Value} {el:Nat->Nat} {y:Nat->Nat->Int × Int × Int}
theorem ETab.nil (w:World) (base:Nat) (el:Nat->Nat) (y:Nat->Nat->Int × Int × Int):ETab w base (.slice none 0 0) 0 el y:=⟨fun _=>undef,Own.nil _ _ _ _ _,fun i hi=>absurd hi (by omega)⟩
theorem ETab.on (h:ETab w base v n el y) (hb:Below w.heap.size w w'):ETab w' base v n el y:=by
 obtain ⟨R,h1,h2⟩:=h
 exact ⟨R,h1.on hb,fun i hi=>(h2 i hi).on hb⟩
theorem ETab.shape (h:ETab w base v n el y):∃ A c,v=.slice A n c:=h.choose_spec.1.shape
theorem ETab.setCell (h:ETab w base v n el y) {t:TypeId} {m:Nat} {F:Nat->Value} {b i:Nat} (hr:w.rowIs b t m F) (h1:t ≠ 86) (h2:t ≠ 90) (u:Value):ETab (w.setCell ⟨b,i,none⟩ u) base v n el y:=by
 obtain ⟨R,k1,k2⟩:=h
 exact ⟨R,k1.setCell (zae hr k1 h1) u,fun i hi=>(k2 i hi).setCell (zae hr (k2 i hi) h2) u⟩
theorem ETab.congr {el':Nat->Nat} {y':Nat->Nat->Int × Int × Int} (h:ETab w base v n el y) (h1:∀ i,i<n->el i=el' i) (h2:∀ i,i<n->∀ j,j<el i->y i j=y' i j):ETab w base v n el' y':=by
 obtain ⟨R,k1,k2⟩:=h
 refine ⟨R,k1,fun i hi=>?_⟩
 rw [<-h1 i hi]
 exact (k2 i hi).congr fun j hj q _=>by unfold edgeCell; rw [h2 i hi j hj]
theorem zbI {ops:Array Oper} {rest:List Oper} {o:Oper} {a:Act} {Q:Exit->Act->World->Prop} (hgd:o.guard=none) (sl x:Operand)
  (ho:o.op=.call { callee:=.builtin .append,args:=#[sl,x],argTypes:=#[51, 51] })
  (h:ETab w base v n el y) (hv:a.eval sl=v) {ad:Addr} {c:Nat} {r:Value} (hx:a.eval x=.slice (some ad) 1 c)
  (hcell:w.cell? (ad.add 0)=some r) (h1:r.oneCell'=true) (hrow:Own w base 90 3 r (el n) (edgeCell (y n))) (hbase:base<=w.heap.size) (hN:n<=1048576)
  (K:∀ v' w',ETab w' base v' (n+1) el y->w.grownBy w' v.ownBlock->wpList Tryz.prog ops Q rest (a.put o.dst v') w'):wpList Tryz.prog ops Q (o :: rest) a w:=by
 obtain ⟨R,hA,hB⟩:=h
 obtain ⟨i0,qi0,qz0,qz1,qz2⟩:=info_parts Tryz.infoEdges
 have ne:(86 : Nat) ≠ 90 := by decide
 have b:Own w base 86 1 v n (fun i _=>if i=n then r else R i):=hA.congr fun i hi _ _=>by rw [if_neg (by omega)]
 refine zah w hgd sl x _ ho base 86 i0 _ 1 24 Tryz.underlying51 qi0 qz0 qz1 qz2 rfl (by omega) v n _ hv b ad c hx (fun j hj=>by
   obtain rfl:j=0:=by omega
   rw [if_pos rfl]
   exact hcell) (fun _ _=>by rw [if_pos rfl]; exact h1) (by unfold maxLen; omega) (by omega) hbase ?_
 intro v' w3 hown3 hg3 _
 refine K v' w3 ⟨fun i=>if i=n then r else R i,hown3,fun i hi=>?_⟩ hg3
 show Own w3 base _ 3 (if i=n then r else R i) _ _
 by_cases e:i=n
 ·subst e
  rw [if_pos rfl]
  exact hrow.kept hg3 (za4 hA hrow ne)
 ·rw [if_neg e]
  exact (hB i (by omega)).kept hg3 (za4 hA (hB i (by omega)) ne)
theorem ETab.reads {T:Trel} {wv:Value} (h:ETab w base v T.n T.el fun i j=>(T.fr i j,T.lb i j,T.to i j)) (hA:Own w base 3 1 wv T.nw (fun k _=>.int .i64 (T.W k)))
  (hW:∀ i,i<T.nw->InI64 (T.W i)) (hy:∀ i,i<T.n->∀ j,j<T.el i->InI64 (T.fr i j)/\InI64 (T.lb i j)/\InI64 (T.to i j)) (hnw:T.nw<=140737488351232) (hn:T.n<=140737488351232) (hel:∀ i,i<T.n->T.el i<=140737488351232) :
  ∃ A B c d,wv=.slice A T.nw c/\v=.slice B T.n d/\T.Reads w A B/\T.nw<=c/\c<=maxLen/\T.n<=d/\d<=maxLen:=by
 obtain ⟨R,k1,k2⟩:=h
 obtain ⟨A,c,rfl⟩:=hA.shape
 obtain ⟨B,d,rfl⟩:=k1.shape
 refine ⟨A,B,c,d,rfl,rfl,⟨hA.rd rfl,hW,fun i hi=>?_,hnw,hn,hel⟩,hA.capL.1,hA.capL.2,k1.capL.1,k1.capL.2⟩
 obtain ⟨b,off,e,hb,hc⟩:=k1.rd rfl i hi
 have a:=hc 0 (by omega)
 rw [Nat.mul_one,Nat.add_zero] at a
 have hr:=k2 i hi
 obtain ⟨E,ec,hR⟩:=hr.shape
 rw [hR] at hr
 simp only [hR] at a
 exact ⟨b,off,E,ec,e,hb,a,hr.capL.1,hr.capL.2,hr.rd rfl,hy i hi⟩
end
def twoT:Trel:=⟨2,fun _=>1,1,fun _=>2,fun _ _=>0,fun _ j=>(j:Nat),fun _ _=>0⟩
theorem zgs:twoT.properE=0:=by decide +kernel
theorem zjT:twoT.fwd (fun _ _=>1) twoT.n 0=2:=by decide +kernel
theorem zhD {w:World} {c d:Nat} {b1 b2 b3:Nat} (h1:w.cell? ⟨b1,0,none⟩=some (.int .i64 1)) (h2:w.cell? ⟨b1,1,none⟩=some (.int .i64 1))
  (h3:w.cell? ⟨b3,0,none⟩=some (.slice (some ⟨b2,0,none⟩) 2 c)) (hc:2<=c) (hc2:c<=maxLen)
  (h4:∀ j,j<2->w.cell? ⟨b2,j*3,none⟩=some (.int .i64 0)/\w.cell? ⟨b2,j*3+1,none⟩=some (.int .i64 (j:Nat))/\w.cell? ⟨b2,j*3+2,none⟩=some (.int .i64 0)) (_:d=1) :
  twoT.Reads w (some ⟨b1,0,none⟩) (some ⟨b3,0,none⟩):=by
 refine ⟨fun i hi=>⟨b1,0,rfl,World.block_lt_of_cell? _ _ h1,fun j hj=>?_⟩,fun i _=>⟨by show (-9223372036854775808:Int)<=1; omega,by show (1:Int)<=9223372036854775807; omega⟩,fun i hi=>?_,by show 2<=_; omega,by show 1<=_; omega,fun i _=>by show 2<=_; omega⟩
 ·obtain rfl:j=0:=by omega
  match i,hi with
  | 0,_=>exact h1
  | 1,_=>exact h2
 obtain rfl:i=0:=by have:i<1:=hi; omega
 refine ⟨b3,0,some ⟨b2,0,none⟩,c,rfl,World.block_lt_of_cell? _ _ h3,h3,hc,hc2,fun j hj=>⟨b2,0,rfl,World.block_lt_of_cell? _ _ (h4 0 (by omega)).1,fun q hq=>?_⟩,fun j hj=>⟨⟨by show (-9223372036854775808:Int)<=0; omega,by show (0:Int)<=9223372036854775807; omega⟩,⟨by show (-9223372036854775808:Int)<=(j:Nat); omega,by have:j<2:=hj; show ((j:Nat):Int)<=9223372036854775807; omega⟩,⟨by show (-9223372036854775808:Int)<=0; omega,by show (0:Int)<=9223372036854775807; omega⟩⟩⟩
 obtain ⟨k0,k1,k2⟩:=h4 j hj
 rw [Nat.zero_add]
 match q,hq with
 | 0,_=>exact k0
 | 1,_=>exact k1
 | 2,_=>exact k2
section
variable {w:World} {c1 c2 c3:Array Value} {t1 t2 t3:TypeId} {i:Nat} {v:Value}
theorem zfY (h:c1[i]?=some v):(((w.alloc (.cells c1 t1)).alloc (.cells c2 t2)).alloc (.cells c3 t3)).cell? ⟨w.heap.size,i,none⟩=some v:=by
 rw [World.cell?_alloc_lt _ _ _ (by simp; omega),World.cell?_alloc_lt _ _ _ (by simp),World.cell?_alloc_at _ _ _ _ rfl]
 exact h
theorem zbU (h:c2[i]?=some v):(((w.alloc (.cells c1 t1)).alloc (.cells c2 t2)).alloc (.cells c3 t3)).cell? ⟨w.heap.size+1,i,none⟩=some v:=by
 rw [World.cell?_alloc_lt _ _ _ (by simp),World.cell?_alloc_at _ _ _ _ (by simp)]
 exact h
theorem zgt (h:c3[i]?=some v):(((w.alloc (.cells c1 t1)).alloc (.cells c2 t2)).alloc (.cells c3 t3)).cell? ⟨w.heap.size+1+1,i,none⟩=some v:=by
 rw [World.cell?_alloc_at _ _ _ _ (by simp)]
 exact h
end
theorem zdC (w:World):Calls Tryz.prog 27 #[] w fun e w'=>e=.returned (.bool true)/\Below w.heap.size w w':=by
 go_enter Tryz.func27, Tryz.ntmps27
 go_wp2_with fail
 refine (ziF twoT (some ⟨w.heap.size,0,none⟩) (some ⟨w.heap.size+1+1,0,none⟩) 2 1 _ ?_).mono ?_
 ·exact zhD (d:=1) (b2:=w.heap.size+1) (c:=2) (zfY rfl) (zfY rfl) (zgt rfl) (by omega) (by unfold maxLen; omega) (fun j hj=>by
   match j,hj with
   | 0,_=>exact ⟨zbU rfl,zbU rfl,zbU rfl⟩
   | 1,_=>exact ⟨zbU rfl,zbU rfl,zbU rfl⟩) rfl
 rintro e w1 (⟨h0,_⟩ | ⟨_,A,c,rfl,h1,h2,h3,hb⟩)
 ·exact absurd zgs h0
 have hW:Below w.heap.size w w1:=onS ((((Below.refl _ _).alloc (Nat.le_refl _) _).alloc (by simp) _).alloc (by simp; omega) _) hb
 rw [zjT] at h1 h3 ⊢;clear hb
 have hd:dl 2=1:=zcZ (by omega) (by omega)
 have b:=aly w1 (Obj.cells #[Value.int .u32 2] 109)
 have a:=zf9 A (some ⟨w1.heap.size,0,none⟩) c 1 2 (w1.alloc (Obj.cells #[Value.int .u32 2] 109)) (h3.on b) (zfF (w:=w1) 109 (x:=2) (by omega) (by omega)) (by omega)
 rw [hd] at a ⊢
 have HK:=hid a
 have g:=onS hW b
 clear hd h1 h2 h3 a b
 go_wp2_with fail
 refine HK.out.mono ?_
 rintro e w2 ⟨rfl,kb⟩
 have h:=onS g kb
 clear kb g HK
 go_wp2
 go_ret
 exact ⟨rfl,h⟩
theorem Trel.ord {T:Trel} {i:Nat} (h:T.secOk i):∀ q j,j<q->q<T.el i->T.fr i j<T.fr i q∨T.fr i j=T.fr i q/\T.lb i j<T.lb i q:=by
 intro q
 induction q with
 | zero=>intro j hj; omega
 | succ q ih =>
  intro j hj hq
  have h1:T.fr i q<T.fr i (q+1)∨T.fr i q=T.fr i (q+1)/\T.lb i q<T.lb i (q+1):=(h.1 (q+1) hq).2.2 (by omega)
  by_cases e:j=q
  ·subst e; exact h1
  ·have h2:=ih j (by omega) (by omega)
   omega
def grp (g:Nat->Nat) (e u:Nat):List Nat:=(List.range u).flatMap fun a=>(List.range e).filter fun j=>g j=a
theorem zkI {g:Nat->Nat} {e u j:Nat}:j ∈ grp g e u↔j<e/\g j<u:=by
 unfold grp
 simp only [List.mem_flatMap,List.mem_range,List.mem_filter,decide_eq_true_eq]
 constructor
 ·rintro ⟨a,h1,h2,h3⟩; exact ⟨h2,by omega⟩
 ·rintro ⟨h1,h2⟩; exact ⟨g j,h2,h1,rfl⟩
theorem zb5 {g:Nat->Nat} {e u:Nat} {R:Nat->Nat->Prop} (h1:∀ a b,a<e->b<e->g a<g b->R a b) (h2:∀ a b,a<b->b<e->g a=g b->R a b):(grp g e u).Pairwise R:=by
 unfold grp
 rw [List.pairwise_flatMap]
 refine ⟨fun a _=>?_,?_⟩
 ·refine List.Pairwise.filter _ ?_ |>.imp_of_mem ?_ (R:=fun x y=>x<y)
  ·exact List.pairwise_lt_range
  intro x y hx hy hxy
  simp only [List.mem_filter,List.mem_range,decide_eq_true_eq] at hx hy
  exact h2 x y hxy hy.1 (by omega)
 refine List.pairwise_lt_range.imp ?_
 intro a b hab x hx y hy
 simp only [List.mem_filter,List.mem_range,decide_eq_true_eq] at hx hy
 exact h1 x y hx.1 hy.1 (by omega)
theorem zjU {g:Nat->Nat} {e u:Nat} (h:∀ j,j<e->g j<u):(grp g e u).Perm (List.range e):=by
 refine (List.perm_ext_iff_of_nodup ?_ List.nodup_range).2 fun j=>?_
 ·exact zb5 (fun a b _ _ h e=>by subst e; omega) (fun a b h _ _ e=>by omega)
 ·rw [zkI,List.mem_range]
  exact ⟨fun h=>h.1,fun hj=>⟨hj,h j hj⟩⟩
def firsts (l:List Nat):List Nat:=l.foldl (fun a v=>if v ∈ a then a else a ++ [v]) []
theorem zeL (l:List Nat) (v:Nat):firsts (l ++ [v])=if v ∈ firsts l then firsts l else firsts l ++ [v]:=by
 unfold firsts
 rw [List.foldl_append]
 rfl
theorem zeM {l:List Nat} {v:Nat}:v ∈ firsts l↔v ∈ l:=by
 have b : ∀ m : List Nat, v ∈ firsts m.reverse ↔ v ∈ m.reverse := by
  intro m
  induction m with
  | nil=>exact Iff.rfl
  | cons a m ih =>
   rw [List.reverse_cons,zeL,List.mem_append,<-ih]
   by_cases h:a ∈ firsts m.reverse
   ·rw [if_pos h]
    constructor
    ·exact .inl
    ·rintro (h1 | h1)
     ·exact h1
     ·obtain rfl:v=a:=by simpa using h1
      exact h
   ·rw [if_neg h,List.mem_append]
 have:=b l.reverse
 rwa [List.reverse_reverse] at this
theorem zdq {R:Nat->Nat->Prop} {f:Nat->Nat} {V:List Nat} (h:∀ A B j,V=A ++ j :: B->(∀ a,a ∈ A->f a≠f j)->∀ a,a ∈ A->R (f a) (f j)):(firsts (V.map f)).Pairwise R:=by
 have c:∀ (m B:List Nat),V=m.reverse ++ B->(firsts (m.reverse.map f)).Pairwise R:=by
  intro m
  induction m with
  | nil=>intro B _; exact List.Pairwise.nil
  | cons a m ih =>
   intro B hB
   rw [List.reverse_cons,List.append_assoc] at hB
   have h1:=ih _ hB
   rw [List.reverse_cons,List.map_append,List.map_singleton,zeL]
   by_cases hm:f a ∈ firsts (m.reverse.map f)
   ·rw [if_pos hm]; exact h1
   ·rw [if_neg hm,List.pairwise_append]
    refine ⟨h1,List.pairwise_singleton _ _,?_⟩
    intro x hx y hy
    obtain rfl:y=f a:=by simpa using hy
    rw [zeM,List.mem_map] at hx hm
    obtain ⟨q,hq,rfl⟩:=hx
    exact h m.reverse B a hB (fun b hb e=>hm ⟨b,hb,e⟩) q hq
 have:=c V.reverse [] (by simp)
 rwa [List.reverse_reverse] at this
theorem zcI:∀ {l m:List Nat},l.Nodup->(∀ x,x ∈ l->x ∈ m)->m.length<=l.length->l.Perm m:=by
 intro l
 induction l with
 | nil =>
  intro m _ _ h
  obtain rfl:m=[]:=List.length_eq_zero_iff.1 (by simpa using h)
  exact List.Perm.refl _
 | cons a l ih =>
  intro m h1 h2 h3
  have ha:=h2 a (by simp)
  rw [List.nodup_cons] at h1
  have hl:=List.length_erase_of_mem ha
  have hp:=ih (m:=m.erase a) h1.2 (fun x hx=>(List.mem_erase_of_ne (fun e:x=a=>h1.1 (by rw [<-e]; exact hx))).2 (h2 x (by simp [hx]))) (by simp at h3; omega)
  exact (hp.cons a).trans (List.perm_cons_erase ha).symm
def Trel.code (T:Trel) (f:Nat->Nat) (i j:Nat):Nat:=f (T.fr i j).toNat*256+(T.lb i j).toNat
def Trel.kt (T:Trel) (f:Nat->Nat) (i:Nat):Nat->Nat->Nat
 | 0,_=>1099511627776
 | j+1,v=>if (T.to i j).toNat=v/\T.code f i j<T.kt f i j v then T.code f i j else T.kt f i j v
def Trel.nm (T:Trel):Nat->Nat->Nat
 | 0,_=>0
 | i+1,v=>rankOf (T.kt (T.nm i) i (T.el i)) (T.W (i+1)).toNat v
def Trel.tri (T:Trel) (i j:Nat):Int × Int × Int:=((T.nm i (T.fr i j).toNat:Nat),T.lb i j,(T.nm (i+1) (T.to i j).toNat:Nat))
section
variable {T:Trel} {f:Nat->Nat} {i:Nat}
theorem Trel.kt_le:∀ {j q:Nat},q<j->T.kt f i j (T.to i q).toNat<=T.code f i q:=by
 intro j
 induction j with
 | zero=>intro q h; omega
 | succ j ih =>
  intro q h
  unfold Trel.kt
  by_cases e:q=j
  ·subst e
   split
   ·exact Nat.le_refl _
   ·rename_i h1
    simp at h1
    exact h1
  ·have h1:=ih (q:=q) (by omega)
   split
   ·omega
   ·exact h1
theorem Trel.kt_att:∀ {j v:Nat},T.kt f i j v=1099511627776∨∃ q,q<j/\(T.to i q).toNat=v/\T.kt f i j v=T.code f i q:=by
 intro j v
 induction j with
 | zero=>exact .inl rfl
 | succ j ih =>
  unfold Trel.kt
  split
  ·rename_i h
   exact .inr ⟨j,by omega,h.1,rfl⟩
  ·rcases ih with h | ⟨q,h1,h2,h3⟩
   ·exact .inl h
   ·exact .inr ⟨q,by omega,h2,h3⟩
end
section
variable {T:Trel} (h:T.Proper)
include h
theorem Trel.Proper.nm_lt {i v:Nat} (hi:i<=T.n) (hv:v<(T.W i).toNat):T.nm i v<(T.W i).toNat:=by
 match i with
 | 0=>rw [h.w0]; show 0<_; decide
 | i+1=>exact zdg hv
theorem Trel.Proper.frL {i j:Nat} (hi:i<T.n) (hj:j<T.el i):(T.fr i j).toNat<(T.W i).toNat/\(((T.fr i j).toNat:Nat):Int)=T.fr i j:=by
 have:=h.shape.ins i hi j hj
 unfold Trel.inside at this
 omega
theorem Trel.Proper.toL {i j:Nat} (hi:i<T.n) (hj:j<T.el i):(T.to i j).toNat<(T.W (i+1)).toNat/\(((T.to i j).toNat:Nat):Int)=T.to i j:=by
 have:=h.shape.ins i hi j hj
 unfold Trel.inside at this
 omega
theorem Trel.Proper.lbL {i j:Nat} (hi:i<T.n) (hj:j<T.el i):(T.lb i j).toNat<256/\(((T.lb i j).toNat:Nat):Int)=T.lb i j:=by
 have:=(h.sec i hi).1 j hj
 unfold Trel.edgeOk at this
 omega
theorem Trel.Proper.code_lt {i j:Nat} (hi:i<T.n) (hj:j<T.el i):T.code (T.nm i) i j<16777216:=by
 have h1:=h.nm_lt (by omega) (h.frL hi hj).1
 have h2:=(h.shape.wid (i:=i) (by omega)).2
 have h3:=(h.lbL hi hj).1
 unfold Trel.code
 omega
theorem Trel.Proper.kt_hit {i v:Nat} (hi:i<T.n) (hv:v<(T.W (i+1)).toNat):∃ q,q<T.el i/\(T.to i q).toNat=v/\T.kt (T.nm i) i (T.el i) v=T.code (T.nm i) i q:=by
 obtain ⟨j,hj,e⟩:=za2.1 ((h.sec i hi).2.2 v hv)
 have e2:(T.to i j).toNat=v:=by omega
 have h1:=Trel.kt_le (T:=T) (f:=T.nm i) (i:=i) hj
 have h2:=h.code_lt hi hj
 rw [e2] at h1
 rcases Trel.kt_att (T:=T) (f:=T.nm i) (i:=i) (j:=T.el i) (v:=v) with h3 | h3
 ·omega
 ·exact h3
theorem Trel.Proper.code_inj {i:Nat} (hi:i<T.n) (hn:∀ u v,u<(T.W i).toNat->v<(T.W i).toNat->T.nm i u=T.nm i v->u=v) {j q:Nat} (hj:j<T.el i) (hq:q<T.el i) (e:T.code (T.nm i) i j=T.code (T.nm i) i q):j=q:=by
 have h1:=h.lbL hi hj
 have h2:=h.lbL hi hq
 unfold Trel.code at e
 have e1:T.nm i (T.fr i j).toNat=T.nm i (T.fr i q).toNat:=by omega
 have e2:=hn _ _ (h.frL hi hj).1 (h.frL hi hq).1 e1
 have h3:=h.frL hi hj
 have h4:=h.frL hi hq
 rcases Nat.lt_trichotomy j q with h5 | h5 | h5
 ·have:=Trel.ord (h.sec i hi) q j h5 hq; omega
 ·exact h5
 ·have:=Trel.ord (h.sec i hi) j q h5 hj; omega
theorem Trel.Proper.key_inj {i:Nat} (hi:i<T.n) (hn:∀ u v,u<(T.W i).toNat->v<(T.W i).toNat->T.nm i u=T.nm i v->u=v) (u v:Nat) (hu:u<(T.W (i+1)).toNat) (hv:v<(T.W (i+1)).toNat)
  (e:T.kt (T.nm i) i (T.el i) u=T.kt (T.nm i) i (T.el i) v):u=v:=by
 obtain ⟨j,hj,e1,e2⟩:=h.kt_hit hi hu
 obtain ⟨q,hq,e3,e4⟩:=h.kt_hit hi hv
 have:=h.code_inj hi hn hj hq (by omega)
 subst this
 omega
theorem Trel.Proper.nm_inj:∀ {i:Nat},i<=T.n->∀ u v,u<(T.W i).toNat->v<(T.W i).toNat->T.nm i u=T.nm i v->u=v:=by
 intro i
 induction i with
 | zero=>intro _ u v hu hv _; rw [h.w0] at hu hv; have:(1:Int).toNat=1:=rfl; omega
 | succ i ih =>
  intro hi u v hu hv e
  exact zeK (fun a b ha hb hab=>h.key_inj (by omega) (ih (by omega)) a b ha hb hab) hu hv e
theorem Trel.Proper.keys {i:Nat} (hi:i<T.n) (u v:Nat) (hu:u<(T.W (i+1)).toNat) (hv:v<(T.W (i+1)).toNat)
  (e:T.kt (T.nm i) i (T.el i) u=T.kt (T.nm i) i (T.el i) v):u=v:=h.key_inj hi (h.nm_inj (by omega)) u v hu hv e
theorem Trel.Proper.tri_inj {i j q:Nat} (hi:i<T.n) (hj:j<T.el i) (hq:q<T.el i) (e1:(T.tri i j).1=(T.tri i q).1) (e2:(T.tri i j).2.1=(T.tri i q).2.1):j=q:=by
 have e1':T.nm i (T.fr i j).toNat=T.nm i (T.fr i q).toNat:=by
  have:((T.nm i (T.fr i j).toNat:Nat):Int)=(T.nm i (T.fr i q).toNat:Nat):=e1
  omega
 have e2':T.lb i j=T.lb i q:=e2
 refine h.code_inj hi (h.nm_inj (by omega)) hj hq ?_
 unfold Trel.code
 rw [e1',e2']
end
def SecRen (T:Trel) (i:Nat) (y:Nat->Int × Int × Int):Prop :=
 ((List.range (T.el i)).map y).Perm ((List.range (T.el i)).map (T.tri i))/\∀ p q,p<q->q<T.el i->ltE (y p) (y q)
def IsRen (T:Trel) (y:Nat->Nat->Int × Int × Int):Prop:=∀ i,i<T.n->SecRen T i (y i)
theorem zhE (x:Int × Int × Int):¬ ltE x x:=by unfold ltE; omega
theorem zfZ {x y:Int × Int × Int} (h:ltE x y):¬ ltE y x:=by unfold ltE at *; omega
theorem zag {α:Type} {R:α->α->Prop} {n:Nat} {y:Nat->α}:((List.range n).map y).Pairwise R↔∀ p q,p<q->q<n->R (y p) (y q):=by
 rw [List.pairwise_iff_getElem]
 constructor
 ·intro h p q hpq hq
  have:=h p q (by simp; omega) (by simpa using hq) hpq
  simpa using this
 intro h p q hp hq hpq
 have:=h p q hpq (by simpa using hq)
 simpa using this
theorem SecRen.unique {T:Trel} {i:Nat} {y z:Nat->Int × Int × Int} (h1:SecRen T i y) (h2:SecRen T i z) {j:Nat} (hj:j<T.el i):y j=z j:=by
 have hp:=h1.1.trans h2.1.symm
 have e:=List.Perm.eq_of_pairwise (le:=ltE) (fun a b _ _ k1 k2=>absurd k2 (zfZ k1)) (zag.2 h1.2) (zag.2 h2.2) hp
 have e2:=congrArg (fun l=>l[j]?) e
 simpa [hj] using e2
def Trel.vis (T:Trel) (i:Nat):List Nat:=grp (fun j=>T.nm i (T.fr i j).toNat) (T.el i) (T.W i).toNat
section
variable {T:Trel} (h:T.Proper)
include h
theorem Trel.Proper.vis_perm {i:Nat} (hi:i<T.n):(T.vis i).Perm (List.range (T.el i)):=zjU fun _ hj=>h.nm_lt (by omega) (h.frL hi hj).1
theorem Trel.Proper.code_mono {i:Nat} (hi:i<T.n) {a b:Nat} (ha:a<T.el i) (hb:b<T.el i) (e:T.nm i (T.fr i a).toNat<T.nm i (T.fr i b).toNat∨T.nm i (T.fr i a).toNat=T.nm i (T.fr i b).toNat/\a<b):T.code (T.nm i) i a<T.code (T.nm i) i b:=by
 have h1:=h.lbL hi ha
 have h2:=h.lbL hi hb
 unfold Trel.code
 rcases e with e | ⟨e,h3⟩
 ·omega
 have e2:=h.nm_inj (by omega) _ _ (h.frL hi ha).1 (h.frL hi hb).1 e
 have h5:=h.frL hi ha
 have h6:=h.frL hi hb
 have:=Trel.ord (h.sec i hi) b a h3 hb
 omega
theorem Trel.Proper.vis_code {i:Nat} (hi:i<T.n):(T.vis i).Pairwise fun a b=>T.code (T.nm i) i a<T.code (T.nm i) i b :=
 zb5 (fun _ _ ha hb e=>h.code_mono hi ha hb (.inl e)) (fun _ _ hab hb e=>h.code_mono hi (by omega) hb (.inr ⟨e,hab⟩))
theorem Trel.Proper.next_perm {i:Nat} (hi:i<T.n):(firsts ((T.vis i).map fun j=>(T.to i j).toNat)).Perm (List.range (T.W (i+1)).toNat) /\
  ∀ v,v<(T.W (i+1)).toNat->(firsts ((T.vis i).map fun j=>(T.to i j).toNat)).idxOf v=T.nm (i+1) v:=by
 have c:(firsts ((T.vis i).map fun j=>(T.to i j).toNat)).Pairwise fun a b=>T.kt (T.nm i) i (T.el i) a<T.kt (T.nm i) i (T.el i) b:=by
  refine zdq (f:=fun j=>(T.to i j).toNat) ?_
  intro A B j hV hne a ha
  have c:=h.vis_code hi
  have hm:∀ x,x ∈ T.vis i->x<T.el i:=fun x hx=>by simpa using (h.vis_perm hi).mem_iff.1 hx
  rw [hV] at c hm
  have m:=hm a (by simp [ha])
  have l:=hm j (by simp)
  have h1:T.kt (T.nm i) i (T.el i) (T.to i a).toNat<=T.code (T.nm i) i a:=Trel.kt_le m
  have h2:T.code (T.nm i) i a<T.code (T.nm i) i j:=(List.pairwise_append.1 c).2.2 a ha j (by simp)
  obtain ⟨q,hq,e1,e2⟩:=h.kt_hit hi (h.toL hi l).1
  have g:q ∈ A ++ j :: B:=hV ▸ (h.vis_perm hi).mem_iff.2 (List.mem_range.2 hq)
  show T.kt (T.nm i) i (T.el i) (T.to i a).toNat<T.kt (T.nm i) i (T.el i) (T.to i j).toNat
  rw [e2]
  rcases List.mem_append.1 g with hqA | hqB
  ·exact absurd e1 (hne q hqA)
  rcases List.mem_cons.1 hqB with rfl | hqB
  ·omega
  ·have h3:=(List.pairwise_cons.1 (List.pairwise_append.1 c).2.1).1 q hqB
   omega
 have hp:(firsts ((T.vis i).map fun j=>(T.to i j).toNat)).Perm (List.range (T.W (i+1)).toNat):=by
  refine (List.perm_ext_iff_of_nodup (c.imp fun {a b} hab e=>by subst e; omega) List.nodup_range).2 fun v=>?_
  rw [zeM,List.mem_map,List.mem_range]
  constructor
  ·rintro ⟨j,hj,rfl⟩
   exact (h.toL hi (by simpa using (h.vis_perm hi).mem_iff.1 hj)).1
  intro hv
  obtain ⟨j,hj,e⟩:=za2.1 ((h.sec i hi).2.2 v hv)
  exact ⟨j,(h.vis_perm hi).mem_iff.2 (List.mem_range.2 hj),by omega⟩
 refine ⟨hp,fun v hv=>?_⟩
 have hm:=hp.mem_iff.2 (List.mem_range.2 hv)
 obtain ⟨N,hN⟩:=exx (firsts ((T.vis i).map fun j=>(T.to i j).toNat))
 rw [<-hN] at hm hp c ⊢
 have d:=List.idxOf_lt_length_iff.2 hm
 have hg:N.getD (N.idxOf v) 0=v:=by
  rw [List.getD_eq_getElem?_getD,List.getElem?_eq_getElem d,List.getElem_idxOf]
  rfl
 have h1:=zb4 (k:=T.kt (T.nm i) i (T.el i)) hp (fun p q hpq hq=>by
  rw [List.getD_eq_getElem?_getD,List.getD_eq_getElem?_getD,List.getElem?_eq_getElem (by omega),List.getElem?_eq_getElem hq]
  exact List.pairwise_iff_getElem.1 c p q _ _ hpq) d
 rw [hg] at h1
 exact h1.symm
theorem Trel.Proper.vis_ren {i:Nat} (hi:i<T.n):SecRen T i fun p=>T.tri i ((T.vis i).getD p 0):=by
 have hl:(T.vis i).length=T.el i:=by have:=(h.vis_perm hi).length_eq; simpa using this
 have e:((List.range (T.el i)).map fun p=>T.tri i ((T.vis i).getD p 0))=(T.vis i).map (T.tri i):=by
  apply List.ext_getElem (by simp [hl])
  intro p h1 h2
  simp only [List.getElem_map,List.getElem_range]
  rw [List.getD_eq_getElem?_getD,List.getElem?_eq_getElem (by simpa using h2)]
  rfl
 refine ⟨?_,?_⟩
 ·rw [e]
  exact (h.vis_perm hi).map _
 refine zag.1 ?_
 rw [e,List.pairwise_map]
 refine zb5 (fun a b ha hb e=>.inl (by show ((T.nm i (T.fr i a).toNat:Nat):Int)<(T.nm i (T.fr i b).toNat:Nat); omega)) (fun a b hab hb e=>.inr ⟨by show ((T.nm i (T.fr i a).toNat:Nat):Int)=(T.nm i (T.fr i b).toNat:Nat); omega,?_⟩)
 show T.lb i a<T.lb i b
 have e2:=h.nm_inj (by omega) _ _ (h.frL hi (by omega)).1 (h.frL hi hb).1 e
 have h5:=h.frL (j:=a) hi (by omega)
 have h6:=h.frL (j:=b) hi hb
 have:=Trel.ord (h.sec i hi) b a hab hb
 omega
end
def actA (pv:Nat->Nat) (R:Nat->Nat->Nat) (N i s:Nat):Bool:=decide (pv s<i) && decide ((i:Int)<=lE (R s) N)
def actE (pv:Nat->Nat) (R:Nat->Nat->Nat) (N i s:Nat):Bool:=decide (pv s<=i) && decide ((i:Int)<=lE (R s) N)
def secE (q:Nat) (add mul:Nat->Nat->Nat) (pv:Nat->Nat) (R:Nat->Nat->Nat) (N t i:Nat) (c:Nat->Nat):Int × Int × Int :=
 (((packB q (actA pv R N i) c t:Nat):Int),((spE add mul R c t i:Nat):Int),((packB q (actA pv R N (i+1)) c t:Nat):Int))
def Trel.eD (T:Trel) (i j:Nat):Int × Int × Int:=(T.fr i j,T.lb i j,T.to i j)
structure MinT (q:Nat) (add mul:Nat->Nat->Nat) (n N:Nat) (pv:Nat->Nat) (R:Nat->Nat->Nat) (T:Trel):Prop where
 nN:T.n=N
 nw:T.nw=N+1
 w:∀ i,i<=N->T.W i=((q ^ cntB (actA pv R N i) n:Nat):Int)
 el:∀ i,i<N->T.el i=q ^ cntB (actE pv R N i) n
 out:∀ i,i<N->∀ c:Nat->Nat,(∀ s,c s<q)->∃ j,j<T.el i/\T.eD i j=secE q add mul pv R N n i c
 inn:∀ i,i<N->∀ j,j<T.el i->∃ c:Nat->Nat,(∀ s,c s<q)/\T.eD i j=secE q add mul pv R N n i c
 srt:∀ i,i<N->∀ a b,a<b->b<T.el i->ltE (T.eD i a) (T.eD i b)
section
variable {q n N:Nat} {add mul:Nat->Nat->Nat} {pv:Nat->Nat} {R:Nat->Nat->Nat}
theorem zfp (s:Nat):actA pv R N 0 s=false:=by simp [actA]
theorem zjV (s:Nat):actA pv R N N s=false:=by
 have h:=zix (u:=R s) N
 have:¬ ((N:Int)<=lE (R s) N):=by omega
 simp [actA,this]
theorem zcl {D:Nat->Bool} (h:∀ s,D s=false):∀ n,cntB D n=0
 | 0=>rfl
 | n+1=>by
  show cntB D n+(if D n then 1 else 0)=0
  rw [zcl h n,h n]
  rfl
theorem zbO (i s:Nat):actE pv R N i s=true↔pv s<=i/\(i:Int)<=lE (R s) N:=by simp [actE]
theorem zaO (i s:Nat):actA pv R N i s=true↔pv s<i/\(i:Int)<=lE (R s) N:=by simp [actA]
theorem zjW (hL:FieldLaws q add mul) (h:SpanF q n N pv R) {i:Nat} (hi:i<N) {c c':Nat->Nat} (hc:∀ s,c s<q) (hc':∀ s,c' s<q)
  (e1:(secE q add mul pv R N n i c).1=(secE q add mul pv R N n i c').1) (e2:(secE q add mul pv R N n i c).2.1=(secE q add mul pv R N n i c').2.1) :
  ∀ s,s<n->actE pv R N i s=true->c s=c' s:=by
 have e1:((packB q (actA pv R N i) c n:Nat):Int)=((packB q (actA pv R N i) c' n:Nat):Int):=e1
 have e2:((spE add mul R c n i:Nat):Int)=((spE add mul R c' n i:Nat):Int):=e2
 have a1:=zcS (D:=actA pv R N i) n (fun s _=>hc s) (fun s _=>hc' s) (by omega)
 intro s hs hA
 obtain ⟨h1,h2⟩:=(zbO i s).1 hA
 by_cases g:pv s<i
 ·exact a1 s hs ((zaO i s).2 ⟨g,h2⟩)
 obtain rfl:i=pv s:=by omega
 have a:=zeF hL (R:=R) (c:=c) (c':=c') (j:=pv s) (s:=s) n hs (fun t ht hne=>?_) (by omega)
 ·rw [h.one s hs,hL.mulOne (hc s),hL.mulOne (hc' s)] at a
  exact a
 rcases Nat.lt_trichotomy t s with g | g | g
 ·have b:=h.inc t s g hs
  by_cases k:((pv s:Nat):Int)<=lE (R t) N
  ·rw [a1 t ht ((zaO _ t).2 ⟨b,k⟩)]
  ·have:R t (pv s)=0:=zbs (n:=N) hi (by omega)
   rw [this,hL.mulZero (hc t),hL.mulZero (hc' t)]
 ·exact absurd g hne
 ·have:R t (pv s)=0:=h.low t ht _ (h.inc s t g ht)
  rw [this,hL.mulZero (hc t),hL.mulZero (hc' t)]
theorem zjX {c c':Nat->Nat} {i:Nat} (h:∀ s,s<n->actE pv R N i s=true->c s=c' s):packB q (actE pv R N i) c n=packB q (actE pv R N i) c' n:=zaU n h
variable {T:Trel}
theorem MinT.proper (hL:FieldLaws q add mul) (hq:q<=256) (hN:N<=64) (hM:MinT q add mul n N pv R T) (hW:T.sumW (N+1)<=65536) (hE:T.sumE N<=262144):T.Proper:=by
 have b:0<q:=by have:=hL.two; omega
 have d:∀ k,1<=q ^ k:=fun k=>Nat.pow_pos b
 have a:∀ i,i<N->∀ j,j<T.el i->∃ c:Nat->Nat,(∀ s,c s<q)/\T.fr i j=((packB q (actA pv R N i) c n:Nat):Int)/\T.lb i j=((spE add mul R c n i:Nat):Int)/\T.to i j=((packB q (actA pv R N (i+1)) c n:Nat):Int):=fun i hi j hj=>by
  obtain ⟨c,h1,h2⟩:=hM.inn i hi j hj
  simp only [Trel.eD,secE,Prod.mk.injEq] at h2
  exact ⟨c,h1,h2⟩
 have e:=hM.nN
 refine ⟨⟨by omega,by rw [hM.nw]; omega,fun i hi=>?_,by rw [hM.nN]; exact hW,by rw [hM.nN]; exact hE,fun i hi j hj=>?_⟩,?_,?_,fun i hi=>⟨fun j hj=>?_,fun v hv=>?_,fun v hv=>?_⟩⟩
 ·rw [hM.w i (by omega)]
  have:=d (cntB (actA pv R N i) n)
  omega
 ·obtain ⟨c,h1,h2,_,h4⟩:=a i (by omega) j hj
  have l1:=zbL (D:=actA pv R N i) n fun s _=>h1 s
  have l2:=zbL (D:=actA pv R N (i+1)) n fun s _=>h1 s
  unfold Trel.inside
  rw [h2,h4,hM.w i (by omega),hM.w (i+1) (by omega)]
  omega
 ·rw [hM.w 0 (by omega),zcl zfp]
  rfl
 ·rw [hM.nN,hM.w N (by omega),zcl zjV]
  rfl
 ·obtain ⟨c,h1,h2,h3,h4⟩:=a i (by omega) j hj
  have l1:=za0 hL (V:=R) c n i
  refine ⟨by rw [h3]; omega,by rw [h3]; omega,fun h0=>?_⟩
  exact hM.srt i (by omega) (j - 1) j (by omega) hj
 ·rw [hM.w i (by omega)] at hv
  obtain ⟨c,h1,_,h3⟩:=zaP b (D:=actA pv R N i) n v (by omega)
  obtain ⟨j,hj,e⟩:=hM.out i (by omega) c h1
  simp only [Trel.eD,secE,Prod.mk.injEq] at e
  exact za2.2 ⟨j,hj,by rw [e.1,h3]⟩
 rw [hM.w (i+1) (by omega)] at hv
 obtain ⟨c,h1,_,h3⟩:=zaP b (D:=actA pv R N (i+1)) n v (by omega)
 obtain ⟨j,hj,e⟩:=hM.out i (by omega) c h1
 simp only [Trel.eD,secE,Prod.mk.injEq] at e
 exact za2.2 ⟨j,hj,by rw [e.2.2,h3]⟩
end
section
variable {q n N:Nat} {add mul:Nat->Nat->Nat} {pv:Nat->Nat} {R:Nat->Nat->Nat} {T:Trel}
theorem MinT.edge (hM:MinT q add mul n N pv R T) {i:Nat} (hi:i<N) {c:Nat->Nat} (hc:∀ s,c s<q) :
  ∃ j,j<T.el i/\T.fr i j=((packB q (actA pv R N i) c n:Nat):Int)/\T.lb i j=((spE add mul R c n i:Nat):Int)/\T.to i j=((packB q (actA pv R N (i+1)) c n:Nat):Int):=by
 obtain ⟨j,hj,e⟩:=hM.out i hi c hc
 simp only [Trel.eD,secE,Prod.mk.injEq] at e
 exact ⟨j,hj,e⟩
end
section
variable (add mul:Nat->Nat->Nat) (H:Nat->Nat->Nat) (T:Trel)
def Trel.synv (S:Nat->Nat->Nat) (i j k:Nat):Nat:=add (S (T.fr i j).toNat k) (mul (T.lb i j).toNat (H k i))
def Trel.asg (i j v:Nat):Prop:=∃ e,e<j/\(T.to i e).toNat=v
def Trel.synL (S:Nat->Nat->Nat) (i:Nat):Nat->Nat->Nat->Nat
 | 0,_,_=>0
 | j+1,v,k=>if (T.to i j).toNat=v then T.synv add mul H S i j k else Trel.synL S i j v k
def Trel.syn:Nat->Nat->Nat->Nat
 | 0,_,_=>0
 | i+1,v,k=>T.synL add mul H (Trel.syn i) i (T.el i) v k
def Trel.agree (q a i j:Nat):Prop:=(0<=T.lb i j/\T.lb i j<q)/\(T.asg i j (T.to i j).toNat->∀ k,k<a->T.synL add mul H (T.syn add mul H i) i j (T.to i j).toNat k=T.synv add mul H (T.syn add mul H i) i j k)
def Trel.SynOk (q a:Nat):Prop:=∀ i,i<T.n->∀ j,j<T.el i->T.agree add mul H q a i j
end
section
variable {add mul:Nat->Nat->Nat} {H:Nat->Nat->Nat} {T:Trel} {q a:Nat}
theorem Trel.asg_succ {i j v:Nat}:T.asg i (j+1) v↔T.asg i j v∨(T.to i j).toNat=v:=by
 constructor
 ·rintro ⟨e,h1,h2⟩
  by_cases g:e=j
  ·exact .inr (by rw [<-g]; exact h2)
  ·exact .inl ⟨e,by omega,h2⟩
 rintro (⟨e,h1,h2⟩ | h)
 ·exact ⟨e,by omega,h2⟩
 ·exact ⟨j,by omega,h⟩
theorem Trel.asg_zero {i v:Nat}:¬ T.asg i 0 v:=fun ⟨_,h,_⟩=>absurd h (by omega)
theorem Trel.synL_lt (hL:FieldLaws q add mul) {S:Nat->Nat->Nat} {i:Nat}:∀ j v k,T.synL add mul H S i j v k<q
 | 0,_,_=>by have:=hL.two; show 0<q; omega
 | j+1,v,k=>by
  show (if (T.to i j).toNat=v then T.synv add mul H S i j k else T.synL add mul H S i j v k)<q
  split
  ·exact hL.addLt _ _
  ·exact Trel.synL_lt hL j v k
theorem Trel.syn_lt (hL:FieldLaws q add mul):∀ i v k,T.syn add mul H i v k<q
 | 0,_,_=>by have:=hL.two; show 0<q; omega
 | _+1,_,_=>Trel.synL_lt hL _ _ _
end
theorem Trel.ordP {T:Trel} {i:Nat} (h:T.secOk i):∀ q j,j<q->q<T.el i->T.fr i j<T.fr i q∨T.fr i j=T.fr i q/\T.lb i j<T.lb i q:=by
 intro q
 induction q with
 | zero=>intro j hj; omega
 | succ q ih =>
  intro j hj hq
  have h1:=(h.1 (q+1) hq).2.2 (by omega)
  unfold Trel.after at h1
  rw [Nat.add_sub_cancel] at h1
  by_cases e:j=q
  ·rw [e]; exact h1
  ·have h2:=ih j (by omega) (by omega)
   omega
theorem Trel.edge_uniq {T:Trel} {i:Nat} (h:T.secOk i) {j q:Nat} (hj:j<T.el i) (hq:q<T.el i) (e1:T.fr i j=T.fr i q) (e2:T.lb i j=T.lb i q):j=q:=by
 rcases Nat.lt_trichotomy j q with g | g | g
 ·have:=Trel.ordP h q j g hq; omega
 ·exact g
 ·have:=Trel.ordP h j q g hj; omega
section
variable {add mul:Nat->Nat->Nat} {H:Nat->Nat->Nat} {T:Trel} {q a:Nat}
theorem Trel.syn_edge {i:Nat}:∀ m,(∀ e,e<m->T.agree add mul H q a i e)->∀ e,e<m->∀ k,k<a->T.synL add mul H (T.syn add mul H i) i m (T.to i e).toNat k=T.synv add mul H (T.syn add mul H i) i e k
 | 0,_,_,he,_,_=>absurd he (by omega)
 | m + 1, hok, e, he, k, hk => by
  have ih:=Trel.syn_edge m fun e he=>hok e (by omega)
  show (if (T.to i m).toNat=(T.to i e).toNat then T.synv add mul H (T.syn add mul H i) i m k else T.synL add mul H (T.syn add mul H i) i m (T.to i e).toNat k)=_
  by_cases em:e=m
  ·rw [em,if_pos rfl]
  ·by_cases e1:(T.to i m).toNat=(T.to i e).toNat
   ·rw [if_pos e1]
    have:=(hok m (by omega)).2 ⟨e,by omega,e1.symm⟩ k hk
    rw [<-this,e1]
    exact ih e (by omega) k hk
   ·rw [if_neg e1]
    exact ih e (by omega) k hk
def symW (x:List Int) (t:Nat):Nat:=(x.getD t 0).toNat
theorem zgu {x:List Int} {v:Int} {t:Nat} (h:t<x.length):symW (x ++ [v]) t=symW x t:=by
 unfold symW
 rw [List.getD_eq_getElem?_getD,List.getD_eq_getElem?_getD,List.getElem?_append_left h]
theorem zgv {x:List Int} {v:Int} {t:Nat} (h:t=x.length):symW (x ++ [v]) t=v.toNat:=by
 subst h
 unfold symW
 simp
theorem zby {x x' y:Nat->Nat}:∀ n,(∀ i,i<n->x i=x' i)->dotN add mul x y n=dotN add mul x' y n
 | 0,_=>rfl
 | n+1,h=>by
  show add (dotN add mul x y n) (mul (x n) (y n))=add (dotN add mul x' y n) (mul (x' n) (y n))
  rw [zby n fun i hi=>h i (by omega),h n (by omega)]
theorem Trel.lev_syn (hp:T.Proper) (hok:T.SynOk add mul H q a):∀ i,i<=T.n->∀ x,x ∈ T.lev i->(∀ v,v ∈ x.1->0<=v/\v<(q:Int))/\∀ k,k<a->T.syn add mul H i x.2.toNat k=dotN add mul (symW x.1) (H k) i:=by
 intro i
 induction i with
 | zero =>
  intro _ x hx
  simp [Trel.lev] at hx
  subst hx
  exact ⟨fun v hv=>by simp at hv,fun _ _=>rfl⟩
 | succ i ih =>
  intro hi x hx
  simp only [Trel.lev,List.mem_flatMap] at hx
  obtain ⟨y,hy,hx⟩:=hx
  unfold Trel.ext at hx
  rw [List.mem_map] at hx
  obtain ⟨j,hj,rfl⟩:=hx
  obtain ⟨hj,hf⟩:=Trel.outs_mem.1 hj
  have h1:=ih (by omega) y hy
  have h2:=Trel.lev_in hp i (by omega) y hy
  refine ⟨fun v hv=>?_,fun k hk=>?_⟩
  ·rcases List.mem_append.1 hv with g | g
   ·exact h1.1 v g
   ·rw [List.mem_singleton.1 g]
    exact (hok i (by omega) j hj).1
  ·show T.synL add mul H (T.syn add mul H i) i (T.el i) (T.to i j).toNat k=add (dotN add mul (symW (y.1 ++ [T.lb i j])) (H k) i) (mul (symW (y.1 ++ [T.lb i j]) i) (H k i))
   rw [Trel.syn_edge (T.el i) (fun e he=>hok i (by omega) e he) j hj k hk,zgv h2.1.symm,zby (x':=symW y.1) i fun t ht=>zgu (by rw [h2.1]; exact ht),<-h1.2 k hk,<-hf]
   rfl
theorem Trel.lev_uniq (hp:T.Proper):∀ i,i<=T.n->(T.lev i).Nodup/\∀ x,x ∈ T.lev i->∀ y,y ∈ T.lev i->x.1=y.1->x=y:=by
 intro i
 induction i with
 | zero =>
  intro _
  refine ⟨by simp [Trel.lev],fun x hx y hy _=>?_⟩
  simp [Trel.lev] at hx hy
  rw [hx,hy]
 | succ i ih =>
  intro hi
  obtain ⟨h1,h2⟩:=ih (by omega)
  have hs:=hp.sec i (by omega)
  have a:∀ x,x ∈ T.lev i->∀ y,y ∈ T.lev i->∀ j,j ∈ T.outs i x.2 (T.el i)->∀ l,l ∈ T.outs i y.2 (T.el i)->x.1 ++ [T.lb i j]=y.1 ++ [T.lb i l]->x=y/\j=l:=fun x hx y hy j hj l hl e=>by
   obtain ⟨e1,e2⟩:=List.append_inj e (by rw [(Trel.lev_in hp i (by omega) x hx).1,(Trel.lev_in hp i (by omega) y hy).1])
   have exy:=h2 x hx y hy e1
   subst exy
   obtain ⟨j1,j2⟩:=Trel.outs_mem.1 hj
   obtain ⟨l1,l2⟩:=Trel.outs_mem.1 hl
   exact ⟨rfl,Trel.edge_uniq hs j1 l1 (j2.trans l2.symm) (by injection e2)⟩
  refine ⟨?_,fun x hx y hy e=>?_⟩
  ·show ((T.lev i).flatMap (T.ext i (T.el i))).Nodup
   rw [List.Nodup,List.pairwise_flatMap]
   refine ⟨fun x hx=>?_,?_⟩
   ·have hn:(T.outs i x.2 (T.el i)).Nodup:=List.Pairwise.filter _ List.nodup_range
    exact zaT hn fun j hj l hl e=>(a x hx x hx j hj l hl (congrArg Prod.fst e)).2
   ·refine List.Pairwise.imp_of_mem ?_ h1
    intro x y hx hy hne u hu v hv e
    unfold Trel.ext at hu hv
    obtain ⟨j,hj,rfl⟩:=List.mem_map.1 hu
    obtain ⟨l,hl,rfl⟩:=List.mem_map.1 hv
    exact hne (a x hx y hy j hj l hl (congrArg Prod.fst e)).1
  ·simp only [Trel.lev,List.mem_flatMap] at hx hy
   obtain ⟨x1,c,hx⟩:=hx
   obtain ⟨y1,b,hy⟩:=hy
   unfold Trel.ext at hx hy
   obtain ⟨j,hj,rfl⟩:=List.mem_map.1 hx
   obtain ⟨l,hl,rfl⟩:=List.mem_map.1 hy
   obtain ⟨g1,g2⟩:=a x1 c y1 b j hj l hl e
   rw [g1,g2]
end
section
variable {add mul:Nat->Nat->Nat} {neg:Nat->Nat} {H V:Nat->Nat->Nat} {T:Trel} {q a n:Nat}
theorem ziG {N:Nat} {u:Nat->Nat} (hu:InSp q add mul n N V u) {l:List Int} (hl:l.length=N) (hlu:∀ j,j<N->l.getD j 0=(u j:Int)) :
  l ∈ (List.range (q ^ n)).map fun i=>(List.range N).map fun j=>((spE add mul V (msgD q n i) n j:Nat):Int):=by
 obtain ⟨c,hc,hx⟩:=hu
 obtain ⟨i,hi,hd⟩:=zk7 hc
 refine List.mem_map.2 ⟨i,List.mem_range.2 hi,?_⟩
 refine List.ext_getElem (by simp [hl]) fun j h1 h2=>?_
 have hj:j<N:=by omega
 have h3:=hlu j hj
 rw [List.getD_eq_getElem?_getD,List.getElem?_eq_getElem h2,Option.getD_some] at h3;rw [h3,hx j hj]
 simp only [List.getElem_map,List.getElem_range]
 congr 1
 exact zbT n fun s hs=>⟨hd s hs,rfl⟩
end
section
variable {q n N a:Nat} {add mul:Nat->Nat->Nat} {neg:Nat->Nat} {pv:Nat->Nat} {R V H:Nat->Nat->Nat}
theorem zeN (hL:FieldLaws q add mul) (h:SpanF q n N pv R) {c d:Nat->Nat} (hc:∀ s,s<n->c s<q) (hd:∀ s,s<n->d s<q) {i:Nat} (he:∀ j,j<i->j<N->spE add mul R c n j=spE add mul R d n j) :
  ∀ m s,s<m->s<n->pv s<i->c s=d s:=by
 intro m
 induction m with
 | zero=>intro s hs; omega
 | succ m ih =>
  intro s hs hsn hp
  by_cases e:s<m
  ·exact ih s e hsn hp
  ·have e1:=he (pv s) hp (h.pvlt s hsn)
   have a:=zeF hL (R:=R) (c:=c) (c':=d) (j:=pv s) (s:=s) n hsn (fun t ht hne=>?_) e1
   ·rw [h.one s hsn,hL.mulOne (hc s hsn),hL.mulOne (hd s hsn)] at a
    exact a
   ·by_cases g:t<s
    ·rw [ih t (by omega) ht (by have:=h.inc t s g hsn; omega)]
    ·have:R t (pv s)=0:=h.low t ht _ (h.inc s t (by omega) ht)
     rw [this,hL.mulZero (hc t ht),hL.mulZero (hd t ht)]
theorem ziH (hL:FieldLaws q add mul) (h:SpanF q n N pv R) (hdis:∀ i j,i<j->j<n->lE (R i) N≠lE (R j) N) {c d:Nat->Nat} (hc:∀ s,s<n->c s<q) (hd:∀ s,s<n->d s<q) {i:Nat} (he:∀ j,i<=j->j<N->spE add mul R c n j=spE add mul R d n j) :
  ∀ m s,N<=(lE (R s) N).toNat+m->s<n->(i:Int)<=lE (R s) N->c s=d s:=by
 intro m
 induction m with
 | zero =>
  intro s hs hsn _
  have:=zix (u:=R s) N
  have:=h.pos hsn
  omega
 | succ m ih =>
  intro s hs hsn hp
  have h1:=zix (u:=R s) N
  have h2:=zka (u:=R s) N (lE (R s) N).toNat (by omega)
  have e1:=he (lE (R s) N).toNat (by omega) h2.1
  have a:=zeF hL (R:=R) (c:=c) (c':=d) (j:=(lE (R s) N).toNat) (s:=s) n hsn (fun t ht hne=>?_) e1
  ·exact zfS hL (hc s hsn) (hd s hsn) (h.lt s hsn _ h2.1) h2.2 a
  ·have b:lE (R t) N≠lE (R s) N:=by
    rcases Nat.lt_or_ge t s with g | g
    ·exact hdis t s g hsn
    ·exact (hdis s t (by omega) ht).symm
   by_cases g:lE (R s) N<lE (R t) N
   ·rw [ih t (by omega) ht (by omega)]
   ·have:R t (lE (R s) N).toNat=0:=zbs (n:=N) h2.1 (by omega)
    rw [this,hL.mulZero (hc t ht),hL.mulZero (hd t ht)]
def mixW (u u':Nat->Nat) (i j:Nat):Nat:=if j<i then u j else u' j
theorem zk9 (hL:FieldLaws q add mul) (hneg:∀ x,x<q->neg x<q/\add x (neg x)=0) (hV:RrefN q n N V) (hp:NullRel q add mul neg n N V a H) {u u':Nat->Nat} (hu:InSp q add mul n N V u) (hu':InSp q add mul n N V u') {i:Nat} (hi:i<=N)
  (he:∀ k,k<a->dotN add mul u (H k) i=dotN add mul u' (H k) i):InSp q add mul n N V (mixW u u' i):=by
 have c:∀ j,j<N->mixW u u' i j<q:=fun j hj=>by
  unfold mixW
  split
  ·exact hu.lt hL hj
  ·exact hu'.lt hL hj
 refine (zci hL hneg hV hp c).2 fun k hk=>?_
 have h1:=(zci hL hneg hV hp (fun j hj=>hu'.lt hL hj)).1 hu' k hk
 have b:∀ m,dotN add mul (mixW u u' i) (H k) (i+m)=dotN add mul u' (H k) (i+m):=by
  intro m
  induction m with
  | zero =>
   rw [Nat.add_zero,<-he k hk]
   exact zby i fun j hj=>by unfold mixW; rw [if_pos hj]
  | succ m ih =>
   show add (dotN add mul (mixW u u' i) (H k) (i+m)) (mul (mixW u u' i (i+m)) (H k (i+m)))=add (dotN add mul u' (H k) (i+m)) (mul (u' (i+m)) (H k (i+m)))
   rw [ih]
   unfold mixW
   rw [if_neg (by omega)]
 have:=b (N - i)
 rw [show i+(N - i)=N by omega] at this
 rw [this,h1]
theorem ziI (hL:FieldLaws q add mul) (hneg:∀ x,x<q->neg x<q/\add x (neg x)=0) (hV:RrefN q n N V) (hp:NullRel q add mul neg n N V a H) (hsp:SameSp q add mul N n n V R) (h:SpanF q n N pv R) (hdis:∀ i j,i<j->j<n->lE (R i) N≠lE (R j) N)
  {c c':Nat->Nat} (hc:∀ s,s<n->c s<q) (hc':∀ s,s<n->c' s<q) {i k:Nat} (hi:i<=N) (he:∀ t,t<a->dotN add mul (spE add mul R c n) (H t) i=dotN add mul (spE add mul R c' n) (H t) i) (hj:∀ j,i<=j->j<k->j<N->spE add mul R c n j=spE add mul R c' n j) :
  ∀ s,s<n->pv s<k->(i:Int)<=lE (R s) N->c s=c' s:=by
 have hu:InSp q add mul n N V (spE add mul R c n):=(hsp _).2 ⟨c,hc,fun _ _=>rfl⟩
 have e:InSp q add mul n N V (spE add mul R c' n):=(hsp _).2 ⟨c',hc',fun _ _=>rfl⟩
 obtain ⟨d,hd,b⟩:=(hsp _).1 (zk9 hL hneg hV hp hu e hi he)
 intro s hs h1 h2
 have e1:c s=d s:=zeN hL h hc hd (i:=k) (fun j hjk hjN=>by
  rw [<-b j hjN]
  unfold mixW
  by_cases g:j<i
  ·rw [if_pos g]
  ·rw [if_neg g]; exact hj j (by omega) hjk hjN) (s+1) s (by omega) hs h1
 have e2:d s=c' s:=ziH hL h hdis hd hc' (i:=i) (fun j hjk hjN=>by
  rw [<-b j hjN]
  unfold mixW
  rw [if_neg (by omega)]) N s (by omega) hs h2
 rw [e1,e2]
end
def Trel.re (T:Trel) (y:Nat->Nat->Int × Int × Int):Trel:=⟨T.nw,T.W,T.n,T.el,fun i j=>(y i j).1,fun i j=>(y i j).2.1,fun i j=>(y i j).2.2⟩
theorem IsRen.in64 {T:Trel} (hP:T.Proper) {y:Nat->Nat->Int × Int × Int} (h:IsRen T y) {i:Nat} (hi:i<T.n) {j:Nat} (hj:j<T.el i):InI64 (y i j).1/\InI64 (y i j).2.1/\InI64 (y i j).2.2:=by
 have hm:y i j ∈ (List.range (T.el i)).map (y i):=List.mem_map.2 ⟨j,List.mem_range.2 hj,rfl⟩
 obtain ⟨q,hq,e⟩:=List.mem_map.1 ((h i hi).1.mem_iff.1 hm)
 rw [List.mem_range] at hq;rw [<-e]
 have h1:=hP.nm_lt (by omega) (hP.frL hi hq).1
 have h2:=hP.nm_lt (i:=i+1) (by omega) (hP.toL hi hq).1
 have h3:=(hP.shape.wid (i:=i) (by omega)).2
 have h4:=(hP.shape.wid (i:=i+1) (by omega)).2
 have h5:=hP.lbL hi hq
 refine ⟨⟨?_,?_⟩,⟨?_,?_⟩,⟨?_,?_⟩⟩
 ·show (-9223372036854775808:Int)<=(T.nm i (T.fr i q).toNat:Nat); omega
 ·show ((T.nm i (T.fr i q).toNat:Nat):Int)<=9223372036854775807; omega
 ·show (-9223372036854775808:Int)<=T.lb i q; omega
 ·show T.lb i q<=(9223372036854775807:Int); omega
 ·show (-9223372036854775808:Int)<=(T.nm (i+1) (T.to i q).toNat:Nat); omega
 ·show ((T.nm (i+1) (T.to i q).toNat:Nat):Int)<=9223372036854775807; omega
theorem IsRen.reads {T:Trel} (hP:T.Proper) {y:Nat->Nat->Int × Int × Int} (h:IsRen T y) {w:World} {base:Nat} {v wv:Value} (hE:ETab w base v T.n T.el y) (hA:Own w base 3 1 wv T.nw (fun k _=>.int .i64 (T.W k))) :
  ∃ A B c d,wv=.slice A T.nw c/\v=.slice B T.n d/\(T.re y).Reads w A B/\T.nw<=c/\c<=maxLen/\T.n<=d/\d<=maxLen:=by
 have a:=hP.shape.nw
 have hn:=hP.shape.n64
 refine ETab.reads (T:=T.re y) hE hA (fun i hi=>?_) (fun i hi j hj=>h.in64 hP hi hj) (by show T.nw<=_; omega) (by show T.n<=_; omega) (fun i hi=>by have:=hP.shape.elb hi; show T.el i<=_; omega)
 have b:i<T.nw:=hi
 have:=hP.shape.wid (i:=i) (by omega)
 refine ⟨?_,?_⟩
 ·show (-9223372036854775808:Int)<=T.W i; omega
 ·show T.W i<=(9223372036854775807:Int); omega
def RenOut (T:Trel) (y:Nat->Nat->Int × Int × Int) (w:World) (A B:Option Addr) (c d:Nat):Prop:=ETab w 0 (.slice B T.n d) T.n T.el y/\Own w 0 3 1 (.slice A T.nw c) T.nw (fun k _=>.int .i64 (T.W k))
theorem RenOut.on {T:Trel} {y:Nat->Nat->Int × Int × Int} {w w':World} {A B:Option Addr} {c d:Nat} (h:RenOut T y w A B c d) (hb:Below w.heap.size w w'):RenOut T y w' A B c d:=⟨h.1.on hb,h.2.on hb⟩
theorem RenOut.setCell {T:Trel} {y:Nat->Nat->Int × Int × Int} {w:World} {A B:Option Addr} {c d:Nat} (h:RenOut T y w A B c d) {t:TypeId} {m:Nat} {F:Nat->Value} {b i:Nat} (hr:w.rowIs b t m F) (h1:t ≠ 86) (h2:t ≠ 90) (h3:t ≠ 3) (u:Value):RenOut T y (w.setCell ⟨b,i,none⟩ u) A B c d :=
 ⟨h.1.setCell hr h1 h2 u,h.2.setCell (zae hr h.2 h3) u⟩
theorem RenOut.reads {T:Trel} (hP:T.Proper) {y:Nat->Nat->Int × Int × Int} (hy:IsRen T y) {w:World} {A B:Option Addr} {c d:Nat} (h:RenOut T y w A B c d):(T.re y).Reads w A B/\T.nw<=c/\c<=maxLen/\T.n<=d/\d<=maxLen:=by
 obtain ⟨A',B',c',d',e1,e2,hR,k1,k2,k3,k4⟩:=hy.reads hP h.1 h.2
 injection e1 with e1 _ e1'
 subst e1 e1'
 injection e2 with e2 _ e2'
 subst e2 e2'
 exact ⟨hR,k1,k2,k3,k4⟩
section
variable {T:Trel} {y:Nat->Nat->Int × Int × Int}
theorem IsRen.from_old (h:IsRen T y) {i j:Nat} (hi:i<T.n) (hj:j<T.el i):∃ p,p<T.el i/\y i p=T.tri i j:=by
 have:=(h i hi).1.mem_iff.2 (List.mem_map.2 ⟨j,List.mem_range.2 hj,rfl⟩)
 obtain ⟨p,hp,e⟩:=List.mem_map.1 this
 exact ⟨p,List.mem_range.1 hp,e⟩
theorem IsRen.to_old (h:IsRen T y) {i p:Nat} (hi:i<T.n) (hp:p<T.el i):∃ j,j<T.el i/\y i p=T.tri i j:=by
 have:=(h i hi).1.mem_iff.1 (List.mem_map.2 ⟨p,List.mem_range.2 hp,rfl⟩)
 obtain ⟨j,hj,e⟩:=List.mem_map.1 this
 exact ⟨j,List.mem_range.1 hj,e.symm⟩
theorem Trel.Proper.nm_surj (hP:T.Proper) {i:Nat} (hi:i<=T.n) {t:Nat} (ht:t<(T.W i).toNat):∃ v,v<(T.W i).toNat/\T.nm i v=t:=by
 match i with
 | 0 =>
  rw [hP.w0] at ht ⊢
  have e1:(1:Int).toNat=1:=rfl
  rw [e1] at ht
  exact ⟨0,by rw [e1]; omega,by show 0=t; omega⟩
 | i+1 =>
  obtain ⟨h1,h2⟩:=hP.next_perm (i:=i) (by omega)
  have hl:=h1.length_eq
  rw [List.length_range] at hl
  have hm:(firsts ((T.vis i).map fun j=>(T.to i j).toNat))[t]'(by omega) ∈ List.range (T.W (i+1)).toNat:=h1.mem_iff.1 (List.getElem_mem _)
  have hv:=List.mem_range.1 hm
  refine ⟨_,hv,?_⟩
  rw [<-h2 _ hv]
  have a:(firsts ((T.vis i).map fun j=>(T.to i j).toNat)).Nodup:=h1.nodup_iff.2 List.nodup_range
  exact a.idxOf_getElem t (by omega)
theorem IsRen.proper (hP:T.Proper) (h:IsRen T y):(T.re y).Proper:=by
 have hs:=hP.shape
 have eW:∀ k,(T.re y).sumW k=T.sumW k:=fun k=>by
  induction k with
  | zero=>rfl
  | succ k ih=>show (T.re y).sumW k+T.W k=T.sumW k+T.W k; rw [ih]
 have eE:∀ k,(T.re y).sumE k=T.sumE k:=fun k=>by
  induction k with
  | zero=>rfl
  | succ k ih=>show (T.re y).sumE k+T.el k=T.sumE k+T.el k; rw [ih]
 have a:∀ i,i<T.n->∀ p,p<T.el i->∃ j,j<T.el i/\(y i p).1=((T.nm i (T.fr i j).toNat:Nat):Int)/\(y i p).2.1=T.lb i j/\(y i p).2.2=((T.nm (i+1) (T.to i j).toNat:Nat):Int):=fun i hi p hp=>by
  obtain ⟨j,hj,e⟩:=h.to_old hi hp
  rw [e]
  exact ⟨j,hj,rfl,rfl,rfl⟩
 refine ⟨⟨hs.n64,hs.nw,hs.w1,(eW _).symm ▸ hs.sW,(eE _).symm ▸ hs.sE,fun i hi p hp=>?_⟩,hP.w0,hP.wn,fun i hi=>⟨fun p hp=>?_,fun v hv=>?_,fun v hv=>?_⟩⟩
 ·have hi:i<T.n:=hi
  have hp:p<T.el i:=hp
  obtain ⟨j,hj,e1,_,e3⟩:=a i hi p hp
  have k1:=hP.nm_lt (i:=i) (by omega) (hP.frL hi hj).1
  have k2:=hP.nm_lt (i:=i+1) (by omega) (hP.toL hi hj).1
  show 0<=(y i p).1/\(y i p).1<T.W i/\0<=(y i p).2.2/\(y i p).2.2<T.W (i+1)
  omega
 ·have hi:i<T.n:=hi
  have hp:p<T.el i:=hp
  obtain ⟨j,hj,_,e2,_⟩:=a i hi p hp
  have k:=(hP.sec i hi).1 j hj
  refine ⟨by show 0<=(y i p).2.1; rw [e2]; exact k.1,by show (y i p).2.1<256; rw [e2]; exact k.2.1,fun h0=>?_⟩
  exact (h i hi).2 (p - 1) p (by omega) hp
 ·have hi:i<T.n:=hi
  have hv:v<(T.W i).toNat:=hv
  obtain ⟨u,hu,e⟩:=hP.nm_surj (i:=i) (by omega) hv
  obtain ⟨j,hj,e2⟩:=za2.1 ((hP.sec i hi).2.1 u hu)
  obtain ⟨p,hp,e3⟩:=h.from_old hi hj
  refine za2.2 ⟨p,hp,?_⟩
  show (y i p).1=(v:Nat)
  rw [e3]
  show ((T.nm i (T.fr i j).toNat:Nat):Int)=_
  rw [e2,Int.toNat_natCast,e]
 have hi:i<T.n:=hi
 have hv:v<(T.W (i+1)).toNat:=hv
 obtain ⟨u,hu,e⟩:=hP.nm_surj (i:=i+1) (by omega) hv
 obtain ⟨j,hj,e2⟩:=za2.1 ((hP.sec i hi).2.2 u hu)
 obtain ⟨p,hp,e3⟩:=h.from_old hi hj
 refine za2.2 ⟨p,hp,?_⟩
 show (y i p).2.2=(v:Nat)
 rw [e3]
 show ((T.nm (i+1) (T.to i j).toNat:Nat):Int)=_
 rw [e2,Int.toNat_natCast,e]
end
def powS (q:Nat) (d:Nat->Nat):Nat->Nat
 | 0=>0
 | i+1=>powS q d i+q ^ d i
theorem zcT {q:Nat} {d:Nat->Nat}:∀ i k,powS q d i<=powS q d (i+k)
 | _,0=>Nat.le_refl _
 | i,k+1=>Nat.le_trans (zcT i k) (Nat.le_add_right _ _)
theorem zbP {q:Nat} {d d':Nat->Nat}:∀ m,(∀ i,i<m->d i=d' i)->powS q d m=powS q d' m
 | 0,_=>rfl
 | m+1,h=>by
  show powS q d m+q ^ d m=powS q d' m+q ^ d' m
  rw [zbP m fun i hi=>h i (by omega),h m (by omega)]
theorem zkJ {q:Nat} {d:Nat->Nat} {m i:Nat} (h:i<m):q ^ d i<=powS q d m:=by
 have h1:=zcT (q:=q) (d:=d) (i+1) (m - (i+1))
 rw [show i+1+(m - (i+1))=m by omega] at h1
 have h2:powS q d (i+1)=powS q d i+q ^ d i:=rfl
 omega
end Go.Proofs.YtgekjfpapmlndaaGreat