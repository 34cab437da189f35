/- Merged texts of a claim: TrelProper, Paths, WordsMath, PathPl, ZeroV, ZeroR, BoundV, MaxV, Proves, SynMem, RefForward, RefPaths, Cmp11, SameN, RefIs, Check47, RefCP, Syn, TChk, CheckP, IRepeat, VPot, Spans, Edge, HasB, HasC, HasD, Rank47, RankPl, Rank, FewT, From, Accepts47, RenMath. -/
import Derived.Test.YtgekjfpapmlndaaGreatUW8
import Derived.Laws.StructEq
namespace Go.Proofs.YtgekjfpapmlndaaGreat
set_option maxRecDepth 100000
set_option maxHeartbeats 32000000
open KA KB KC KD KE KF
open Go.RowKit
theorem zaJ {w:World} {p q:Addr} {u v:Value} (h:w.cell? q=some v) (hne:q.block≠p.block):(w.setCell p u).cell? q=some v :=
 (World.cell?_setCell_other w p q u (fun e=>hne (by rw [e]))).trans h
theorem zcI (T:Trel) (A B:Option Addr) (c d:Nat) (w:World) (h:T.Reads w A B) :
  Calls Tryz.prog 95 #[.agg #[.slice A T.nw c,.slice B T.n d]] w fun e w'=>e=.returned (.int .i64 T.properE)/\Below w.heap.size w w':=by
 obtain ⟨RB,av⟩:=exx ((Obj.cells #[.slice A T.nw c,.slice B T.n d] 53))
 have ay:Below (w.heap.size+1) (w.alloc RB) (w.alloc RB):=Below.refl _ _
 have HS:Hid (∀ w',Below (w.heap.size+1) (w.alloc RB) w'->(w'.cell? ⟨w.heap.size,0,none⟩=some (.slice A T.nw c)/\w'.cell? ⟨w.heap.size,1,none⟩=some (.slice B T.n d))/\Below w.heap.size w w'):=fun w' hB=>by
  have cm:=zax hB
  subst av
  exact ⟨⟨tbox hB rfl,tbox hB rfl⟩,cm⟩
 obtain ⟨⟨p0,p1⟩,hW⟩:=HS.out _ ay
 go_enter Tryz.func95, Tryz.ntmps95
 go_wp2_with fail
 rw [<-av]
 refine (zcG T A B c d _ (h.on hW)).mono ?_
 rintro e w1 ⟨rfl,hb⟩
 have ax:=zap ay hb
 clear hW p0 p1 hb ay av
 obtain ⟨⟨p0,p1⟩,hW⟩:=HS.out _ ax
 by_cases hs:T.shapeE=0
 rotate_left
 ·have hE:=hid (Trel.properE_shape hs)
  have hn:(T.shapeE != 0)=true:=by simpa using hs
  obtain ⟨x,hx⟩:=exx T.shapeE
  rw [<-hx] at hE hn ⊢;clear hs hx
  go_wp2
  go_ret
  exact ⟨zas hE.out.symm,hW⟩
 have M:=hid (Trel.shape_of hs)
 have a6:=hid hs
 rw [hs]
 have HR:=hid h
 have bj:T.nw=T.n+1:=M.out.nw
 have d7:=hid bj
 have d6:T.n<=64:=M.out.n64
 have cb:T.n<T.nw:=by omega
 have bi:(T.n:Int)<(T.nw:Int):=by omega
 have ca:0<T.nw:=by omega
 have bh:(0:Int)<(T.nw:Int):=by omega
 have cq:=hid ax
 clear hs bj h ax
 obtain ⟨b,o,hA,hb,x0,_,_⟩:=(HR.out.on hW).width (i:=0) (by omega)
 obtain ⟨_,_,a5,_,x1,_,_⟩:=(HR.out.on hW).width (i:=T.n) (by omega)
 subst hA
 injection a5 with e1
 injection e1 with e1 e2
 subst e1 e2
 obtain ⟨u0,ae⟩:=exx (T.W 0)
 obtain ⟨u1,ad⟩:=exx (T.W T.n)
 rw [Nat.add_zero,<-ae] at x0;rw [<-ad] at x1
 have bt:=hid ae
 have bs:=hid ad
 clear ae ad
 by_cases h0:u0=1
 rotate_left
 ·have c0:(u0 != 1)=true:=by simp [h0]
  have hE:=hid (T.properE_end a6.out (.inl (by rw [<-bt.out]; exact h0)))
  go_wp2
  go_ret
  exact ⟨zas hE.out.symm,hW⟩
 have c0:(u0 != 1)=false:=by simp [h0]
 by_cases h1:u1=1
 rotate_left
 ·have c1:(u1 != 1)=true:=by simp [h1]
  have hE:=hid (T.properE_end a6.out (.inr (by rw [<-bs.out]; exact h1)))
  go_wp2
  go_ret
  exact ⟨zas hE.out.symm,hW⟩
 have c1:(u1 != 1)=false:=by simp [h1]
 have co:Hid (T.W 0=1):=bt.out.symm.trans h0
 have cn:Hid (T.W T.n=1):=bs.out.symm.trans h1
 clear h0 h1
 go_wp2
 go_loopg [35] T.n (fun gg iv wx=>∃ k:Nat,iv=.int .i64 (k:Nat)/\k<=T.n/\T.n<=k+gg/\(∀ i,i<k->T.secOk i)/\Below (w.heap.size+1) (w.alloc RB) wx)
 case atStart=>exact ⟨0,rfl,by omega,by omega,fun i hi=>absurd hi (by omega),cq.out⟩
 clear hW p0 p1 x0 x1
 obtain ⟨gK,cg⟩:=exx gk
 subst cg
 obtain ⟨k,rfl,hk,cv,y,hB⟩:=hrel
 obtain ⟨wk,ab⟩:=exx wr
 subst ab
 have cx:(0:Int)<=(k:Int):=by omega
 have HB:=hid hB
 have cs:=zaV hB
 clear hB
 obtain ⟨⟨p0,p1⟩,hW⟩:=HS.out _ HB.out
 have a0:=hid y
 clear y
 by_cases hlt:k<T.n
 rotate_left
 ·have am:¬ (k:Int)<(T.n:Int):=by omega
  have hE:=hid (T.properE_ok a6.out co.out cn.out fun i hi=>a0.out i (by omega))
  go_wp2
  go_ret
  exact ⟨zas hE.out.symm,hW⟩
 have am:(k:Int)<(T.n:Int):=by omega
 have cw:k+1<T.nw:=by omega
 have ce:(k:Int)+1<(T.nw:Int):=by omega
 have cd:(k:Int)<(T.nw:Int):=by omega
 obtain ⟨wa,wo,hA,_,y0,c6,c5⟩:=(HR.out.on hW).width (i:=k) (by omega)
 obtain ⟨_,_,a5,_,y1,c4,c3⟩:=(HR.out.on hW).width (i:=k+1) (by omega)
 rw [hA] at a5
 injection hA with e1
 injection e1 with e1 e2
 subst e1 e2
 injection a5 with e1
 injection e1 with e1 e2
 subst e1 e2
 obtain ⟨eb,eo,E,ec,rfl,d4,x0,d5,ck,bq,bp⟩:=(HR.out.on hW).sec hlt
 unfold maxLen at ck
 have ab:=M.out.wid (i:=k) (by omega)
 have aa:=M.out.wid (i:=k+1) (by omega)
 have d3:=M.out.elb hlt
 obtain ⟨n1,ak⟩:∃ n:Nat,(n:Int)=T.W k:=⟨(T.W k).toNat,by omega⟩
 obtain ⟨n2,aj⟩:∃ n:Nat,(n:Int)=T.W (k+1):=⟨(T.W (k+1)).toNat,by omega⟩
 rw [<-ak] at y0 ab;rw [<-aj] at y1 aa
 have b7:=hid ak
 have b6:=hid aj
 have bv:=hid bq
 have d8:=hid bp
 have br:=hid x0
 have bk:=fun W=>zaf (P:=Tryz.prog) 185 4 _ 1 Tryz.underlying185 Tryz.infoBool rfl (n1:Int) (by omega) (by omega) (by omega) W
 have R:=fun W=>zaf (P:=Tryz.prog) 185 4 _ 1 Tryz.underlying185 Tryz.infoBool rfl (n2:Int) (by omega) (by omega) (by omega) W
 simp only [Int.toNat_natCast] at bk R
 clear ak aj bq bp c6 c5 c4 c3
 go_upto_region 12 with fail
 have m:=zab (World.rowIs_made wk (.bool false) n1 4) ((Below.refl _ _).alloc (Nat.le_refl _) (Obj.cells (madeCells #[Value.bool false] n2) 4))
 have l:=World.rowIs_made (wk.alloc (Obj.cells (madeCells #[Value.bool false] n1) 4)) (.bool false) n2 4
 have aq:=(((Below.refl wk.heap.size wk).alloc (Nat.le_refl _) (Obj.cells (madeCells #[Value.bool false] n1) 4)).alloc (by simp) (Obj.cells (madeCells #[Value.bool false] n2) 4))
 simp only [World.size_alloc] at l ⊢
 obtain ⟨wm,bd⟩:∃ W,W=(wk.alloc (Obj.cells (madeCells #[Value.bool false] n1) 4)).alloc (Obj.cells (madeCells #[Value.bool false] n2) 4):=⟨_,rfl⟩
 rw [<-bd] at m l aq ⊢
 obtain ⟨b1,au⟩:=exx wk.heap.size
 obtain ⟨b2,ar⟩:=exx (wk.heap.size+1)
 rw [<-au] at m;rw [<-ar] at l;rw [<-ar,<-au]
 have ai:b1≠b2:=by omega
 have bc:wk.heap.size<=b1:=by omega
 have bb:wk.heap.size<=b2:=by omega
 have F:Hid (wm.rowIs b1 4 n1 (fun v=>.bool (hitB (T.fr k) 0 (v:Nat)))):=m.congr fun _ _=>rfl
 have D:Hid (wm.rowIs b2 4 n2 (fun v=>.bool (hitB (T.to k) 0 (v:Nat)))):=l.congr fun _ _=>rfl
 have a8:=hid aq
 have L:Hid (¬ T.secOk k->T.properE=5):=fun hb=>T.properE_sec a6.out hlt hb
 clear m l aq bd au ar bk R p0 p1 x0 hW
 obtain ⟨⟨p0,p1⟩,hW⟩:=HS.out _ (zap HB.out a8.out)
 have x0:=cellS a8.out br.out
 go_wp2
 go_loopg [55] (T.el k) (fun gg jv wx=>∃ j:Nat,jv=.int .i64 (j:Nat)/\j<=T.el k/\T.el k<=j+gg/\(∀ i,i<j->T.edgeOk k i)/\wx.rowIs b1 4 n1 (fun v=>.bool (hitB (T.fr k) j (v:Nat)))/\wx.rowIs b2 4 n2 (fun v=>.bool (hitB (T.to k) j (v:Nat)))/\Below wk.heap.size wk wx)
 case atStart=>exact ⟨0,rfl,by omega,by omega,fun i hi=>absurd hi (by omega),F.out,D.out,a8.out⟩
 clear hW p0 p1 x0 F D a8 y0 y1 hb
 obtain ⟨wj,c8⟩:=exx wr
 subst c8
 obtain ⟨j,rfl,hj,cy,y,m,l,G⟩:=hrel
 have cz:(0:Int)<=(j:Int):=by omega
 have z:=hid y
 obtain ⟨⟨p0,p1⟩,hW⟩:=HS.out _ (zap HB.out G)
 have x0:=cellS G br.out
 have a7:=hid G
 have O:=m.lt
 have c7:=zaV (zap HB.out G)
 have a9:wk.heap.size<=wj.heap.size:=G.size
 have cj:eb<wj.heap.size:=by omega
 have ac:=l.lt
 have b4:=hid m
 have b3:=hid l
 clear y
 by_cases hltj:j<T.el k
 rotate_left
 ·have V:¬ (j:Int)<(T.el k:Int):=by omega
  have bl:j=T.el k:=by omega
  have Z:Hid (∀ i,i<T.el k->T.edgeOk k i):=by rw [<-bl]; exact z
  rw [bl] at m l;clear b4 b3 z
  go_wp2_with fail
  refine (zcH _ n1 n1 (fun v=>hitB (T.fr k) (T.el k) (v:Nat)) false wj (zbv m) (by omega)).mono ?_
  rintro e w2 ⟨⟨r1,rfl,a3⟩,kb⟩
  replace hW:=onS hW kb;replace l:=zab l kb
  have J:=onS a7.out kb
  clear kb m
  cases r1
  rotate_left
  ·have hE:=hid (L.out fun hs=>by
    obtain ⟨i,hi,e⟩:=a3.1 rfl
    have:=hs.2.1 i (by have:=b7.out; omega)
    rw [e] at this
    cases this)
   clear a3
   go_wp2
   go_ret
   exact ⟨zas hE.out.symm,hW⟩
  have cr:Hid (∀ i,i<n1->hitB (T.fr k) (T.el k) (i:Nat)=true):=fun i hi=>by
   cases hv:hitB (T.fr k) (T.el k) (i:Nat)
   ·exact absurd (a3.2 ⟨i,hi,hv⟩) (by simp)
   ·rfl
  clear a3
  go_wp2_with fail
  refine (zcH _ n2 n2 (fun v=>hitB (T.to k) (T.el k) (v:Nat)) false w2 (zbv l) (by omega)).mono ?_
  rintro e w3 ⟨⟨r2,rfl,a2⟩,kb⟩
  replace hW:=onS hW kb;replace J:=onS J kb;clear kb l
  cases r2
  ·have HN:Hid (∀ i,i<k+1->T.secOk i):=fun i hi=>by
    by_cases e:i=k
    ·subst e
     refine ⟨Z.out,fun v hv=>cr.out v (by have:=b7.out; omega),fun v hv=>?_⟩
     cases hv2:hitB (T.to i) (T.el i) (v:Nat)
     ·exact absurd (a2.2 ⟨v,by have:=b6.out; omega,hv2⟩) (by simp)
     ·rfl
    ·exact a0.out i (by omega)
   have b9:=hid (zap HB.out J)
   clear a2
   go_wp2
   go_roundg (gK - 1)
   case measure=>omega
   case rel=>exact ⟨k+1,by go_num,by omega,by omega,HN.out,b9.out⟩
  have hE:=hid (L.out fun hs=>by
   obtain ⟨i,hi,e⟩:=a2.1 rfl
   have:=hs.2.2 i (by have:=b6.out; omega)
   rw [e] at this
   cases this)
  clear a2
  go_wp2
  go_ret
  exact ⟨zas hE.out.symm,hW⟩
 have V:(j:Int)<(T.el k:Int):=by omega
 obtain ⟨fb,fo,rfl,d1,e0,e1,e2⟩:=zbt ((Rd.below bv.out G (Nat.le_refl _)).mono G.size) hltj
 obtain ⟨i1,i2,i3,i4⟩:=M.out.ins k hlt j hltj
 rw [<-b7.out] at i2;rw [<-b6.out] at i4
 have N:Hid (T.edgeOk k j↔0<=T.lb k j/\T.lb k j<256/\(0<j->T.after k j)):=Iff.rfl
 have b5:Hid (¬ T.edgeOk k j->T.properE=5):=fun hn=>L.out fun hs=>hn (hs.1 j hltj)
 obtain ⟨fn,ao⟩:∃ n:Nat,(n:Int)=T.fr k j:=⟨(T.fr k j).toNat,by omega⟩
 obtain ⟨tn,af⟩:∃ n:Nat,(n:Int)=T.to k j:=⟨(T.to k j).toNat,by omega⟩
 obtain ⟨lb,an⟩:=exx (T.lb k j)
 have ap:fn<n1:=by omega
 have ag:tn<n2:=by omega
 have ci:(fn:Int)<(n1:Int):=by omega
 have c9:(tn:Int)<(n2:Int):=by omega
 have d2:(0:Int)<=(fn:Int):=by omega
 have ct:(0:Int)<=(tn:Int):=by omega
 have Y:Hid (T.edgeOk k j->∀ i,i<j+1->T.edgeOk k i):=fun ho i hi=>by
  by_cases e:i=j
  ·subst e; exact ho
  ·exact z.out i (by omega)
 have u0:=m.cell (i:=fn) ap
 have u1:=l.cell (i:=tn) ag
 have z0:=m.frozen fn
 have z1:=l.frozen tn
 obtain ⟨v0,bg⟩:=exx (hitB (T.fr k) j (fn:Nat))
 obtain ⟨v1,bf⟩:=exx (hitB (T.to k) j (tn:Nat))
 have Q:b2≠b1:=fun e=>ai e.symm
 rw [<-bg] at u0;rw [<-bf] at u1;rw [<-ao] at e0;rw [<-af] at e2;rw [<-an] at e1 N
 have b8:=hid ao
 have bu:=hid af
 have cp:=hid an
 clear bg bf ao af an m l G i1 i2 i3 i4
 have a4:=(a7.out.alloc a9 (Obj.cells #[.int .i64 (fn:Int),.int .i64 lb,.int .i64 (tn:Int)] 90))
 have bx:Hid (∀ v,v<n1->(if v=fn then Value.bool true else .bool (hitB (T.fr k) j (v:Nat)))=.bool (hitB (T.fr k) (j+1) (v:Nat))):=fun v hv=>by
  show _=Value.bool (hitB (T.fr k) j (v:Nat) || decide (T.fr k j=(v:Nat)))
  by_cases e:v=fn
  ·subst e; rw [if_pos rfl,<-b8.out]; simp
  ·rw [if_neg e,decide_eq_false (by have:=b8.out; omega)]; simp
 have bw:Hid (∀ v,v<n2->(if v=tn then Value.bool true else .bool (hitB (T.to k) j (v:Nat)))=.bool (hitB (T.to k) (j+1) (v:Nat))):=fun v hv=>by
  show _=Value.bool (hitB (T.to k) j (v:Nat) || decide (T.to k j=(v:Nat)))
  by_cases e:v=tn
  ·subst e; rw [if_pos rfl,<-bu.out]; simp
  ·rw [if_neg e,decide_eq_false (by have:=bu.out; omega)]; simp
 go_upto_region 15 with fail
 obtain ⟨OB,aw⟩:=exx ((Obj.cells #[.int .i64 (fn:Int),.int .i64 lb,.int .i64 (tn:Int)] 90))
 have hq:∀ i v,(#[Value.int .i64 (fn:Int),.int .i64 lb,.int .i64 (tn:Int)]:Array Value)[i]?=some v->(wj.alloc OB).cell? ⟨wj.heap.size,i,none⟩=some v:=fun i v hv=>by subst aw; exact tbox (Below.refl _ _) hv
 have q0:=hq 0 _ rfl
 have q1:=hq 1 _ rfl
 have q2:=hq 2 _ rfl
 have r:=aly wj OB
 rw [<-aw] at a4 ⊢
 obtain ⟨w50,H⟩:=exx (wj.alloc OB)
 rw [<-H] at a4 q0 q1 q2 r ⊢
 have m:=zab b4.out r
 have l:=zab b3.out r
 have q:=a4
 have be:wj.heap.size<w50.heap.size:=by rw [H]; simp
 have C:Below w.heap.size w w50:=onS hW r
 have c2:b1<wj.heap.size:=O
 have bz:b2<wj.heap.size:=ac
 clear hq H aw a4 p0 p1 x0 b4 b3 u0 u1 z0 z1
 by_cases l1:lb<0
 ·have q3:decide (lb<0)=true:=by simpa using l1
  have hE:=hid (b5.out fun ho=>by have:=(N.out.1 ho).1; omega)
  go_quiet (fail)
  go_wp2
  go_ret
  exact ⟨zas hE.out.symm,zac C _⟩
 have q3:decide (lb<0)=false:=by simpa using l1
 by_cases l2:lb ≥ 256
 ·have q4:decide (lb ≥ 256)=true:=by simpa using l2
  have q5:decide (256<=lb)=true:=by simpa using l2
  have hE:=hid (b5.out fun ho=>by have:=(N.out.1 ho).2.1; omega)
  go_quiet (fail)
  go_wp2
  go_ret
  exact ⟨zas hE.out.symm,zac C _⟩
 have q4:decide (lb ≥ 256)=false:=by simpa using l2
 have q5:decide (256<=lb)=false:=by simpa using l2
 by_cases jz:j=0
 ·have hg:decide ((j:Int) > 0)=false:=by simp; omega
  have ch:decide (0<(j:Int))=false:=by simp; omega
  have d0:decide (0<j)=false:=by simp; omega
  have ah:=hid (N.out.2 ⟨by omega,by omega,fun h=>absurd h (by omega)⟩)
  clear jz e0 e1 e2
  go_quiet (fail)
  go_upto_region 17 with fail
  replace r:=zac (Below.refl w50.heap.size w50) nq;replace q0:=cellS r q0;replace q2:=cellS r q2;replace m:=zab m r;replace l:=zab l r;replace q:=onS q r
  obtain ⟨w60,s⟩:=exx (w50.drewN nq)
  rw [<-s] at q0 q2 m l q ⊢;clear s r C q1
  refine wp_region_held_drew (S:=fun w'=>w'.cell? ⟨wj.heap.size,0,none⟩=some (.int .i64 fn)/\w'.cell? ⟨wj.heap.size,2,none⟩=some (.int .i64 tn)) (by kernel_rfl) ⟨cellS (Below.refl _ _).drew q0,cellS (Below.refl _ _).drew q2⟩ (fun hHeld=>?_)
  obtain ⟨w61,hw,kb⟩:=dwx w60
  rw [<-hw] at hHeld ⊢;clear hw;replace m:=zab m kb;replace l:=zab l kb;replace q0:=cellS kb q0;replace q2:=cellS kb q2;replace q:=onS q kb;clear kb
  refine tkq 0 (h:=tkq 1 (h:=tkq 2 (h:=tkq 3 (h:=tkq 4 (h:=tkq 5 (h:=tkq 6 (h:=?_)))))))
  refine rdq 7 (h:=fun K hK=>?_)
  have I:=m.lt
  have u0:=m.cell (i:=fn) ap
  have z0:=m.frozen fn
  skip
  go_simp
  replace q0:=zaJ (p:=⟨b1,fn,none⟩) (u:=.bool true) q0 (by show wj.heap.size≠b1; omega)
  replace q2:=zaJ (p:=⟨b1,fn,none⟩) (u:=.bool true) q2 (by show wj.heap.size≠b1; omega)
  replace q:=q.setCell (p:=⟨b1,fn,none⟩) bc (.bool true)
  replace l:=l.setOther (a:=⟨b1,fn,none⟩) (by simpa using Q) (.bool true)
  replace m:=m.set fn (.bool true)
  obtain ⟨w62,hw⟩:=exx (World.setCell w61 ⟨b1,fn,none⟩ (.bool true))
  rw [<-hw] at q0 q2 q m l ⊢;clear hw u0 z0 I
  refine bkq hK ⟨q0,q2⟩ (h:=fun hHeld=>?_)
  clear hK K
  refine tkq 8 (h:=?_)
  refine rdq 9 (h:=fun K hK=>?_)
  have I:=l.lt
  have u0:=l.cell (i:=tn) ag
  have z0:=l.frozen tn
  skip
  go_simp
  replace q0:=zaJ (p:=⟨b2,tn,none⟩) (u:=.bool true) q0 (by show wj.heap.size≠b2; omega)
  replace q2:=zaJ (p:=⟨b2,tn,none⟩) (u:=.bool true) q2 (by show wj.heap.size≠b2; omega)
  replace q:=q.setCell (p:=⟨b2,tn,none⟩) bb (.bool true)
  replace m:=m.setOther (a:=⟨b2,tn,none⟩) (by simpa using ai) (.bool true)
  replace l:=l.set tn (.bool true)
  obtain ⟨w63,hw⟩:=exx (World.setCell w62 ⟨b2,tn,none⟩ (.bool true))
  rw [<-hw] at q0 q2 q m l ⊢;clear hw u0 z0 I
  refine bkq hK ⟨q0,q2⟩ (h:=fun hHeld=>?_)
  clear hK K
  refine wpAnyH_done (by kernel_rfl) ?_ _
  clear hHeld
  have F:=m.congr (g:=fun v=>.bool (hitB (T.fr k) (j+1) (v:Nat))) (bx.out)
  have D:=l.congr (g:=fun v=>.bool (hitB (T.to k) (j+1) (v:Nat))) (bw.out)
  have b0:=hid F
  have az:=hid D
  have ba:=hid q
  clear F D m l q
  go_wp2
  go_roundg (gk - 1)
  case measure=>omega
  case rel=>exact ⟨j+1,by go_num,by omega,by omega,Y.out ah.out,b0.out,az.out,ba.out⟩
 obtain ⟨jp,rfl⟩:∃ jp,j=jp+1:=⟨j - 1,by omega⟩
 obtain ⟨_,_,X,_,g0,g1,g2⟩:=zbt ((Rd.below bv.out a7.out (Nat.le_refl _)).mono a7.out.size) (j:=jp) (by omega)
 injection X with X; injection X with X hE3; subst X hE3
 have a1:Hid (T.after k (jp+1)↔T.fr k jp<T.fr k (jp+1)∨T.fr k jp=T.fr k (jp+1)/\T.lb k jp<T.lb k (jp+1)):=Iff.rfl
 rw [<-b8.out,<-cp.out] at a1
 have cu:jp<T.el k:=by omega
 have cc:(jp:Int)<(T.el k:Int):=by omega
 have cf:(0:Int)<=(jp:Int):=by omega
 obtain ⟨gf,bo⟩:=exx (T.fr k jp)
 obtain ⟨gl,bn⟩:=exx (T.lb k jp)
 obtain ⟨gt,bm⟩:=exx (T.to k jp)
 rw [<-bo] at g0 a1;rw [<-bn] at g1 a1;rw [<-bm] at g2;replace g0:=cellS r g0;replace g1:=cellS r g1;replace g2:=cellS r g2;clear bo bn bm jz e0 e1 e2 r C
 have hg:decide ((jp:Int)+1 > 0)=true:=decide_eq_true (by omega)
 have ch:decide (0<(jp:Int)+1)=true:=decide_eq_true (by omega)
 have O:IntKind.i64.wrap (jp:Int)=(jp:Int):=IntWalk.i64_in _ (by omega)
 have al:Hid (lessV gf gl fn lb<0↔gf<fn∨gf=fn/\gl<lb):=zbM
 refine wp_region_held_drew (S:=fun w'=>w'.cell? ⟨wj.heap.size,0,none⟩=some (.int .i64 fn)/\w'.cell? ⟨wj.heap.size,1,none⟩=some (.int .i64 lb)/\w'.cell? ⟨wj.heap.size,2,none⟩=some (.int .i64 tn)/\w'.cell? ⟨fb,fo+jp*3,none⟩=some (.int .i64 gf)/\w'.cell? ⟨fb,fo+jp*3+1,none⟩=some (.int .i64 gl)/\w'.cell? ⟨fb,fo+jp*3+2,none⟩=some (.int .i64 gt)) (by kernel_rfl) ⟨cellS (Below.refl _ _).drew q0,cellS (Below.refl _ _).drew q1,cellS (Below.refl _ _).drew q2,cellS (Below.refl _ _).drew g0,cellS (Below.refl _ _).drew g1,cellS (Below.refl _ _).drew g2⟩ (fun hHeld=>?_)
 obtain ⟨w51,hw,kb⟩:=dwx w50
 rw [<-hw] at hHeld ⊢;clear hw;replace m:=zab m kb;replace l:=zab l kb;replace q0:=cellS kb q0;replace q1:=cellS kb q1;replace q2:=cellS kb q2;replace g0:=cellS kb g0;replace g1:=cellS kb g1;replace g2:=cellS kb g2;replace q:=onS q kb;clear kb
 refine tkq 0 (h:=tkq 1 (h:=tkq 2 (h:=tkq 3 (h:=tkq 4 (h:=tkq 5 (h:=tkq 6 (h:=tkq 7 (h:=tkq 8 (h:=tkq 9 (h:=tkq 10 (h:=tkq 11 (h:=tkq 12 (h:=tkq 13 (h:=tkq 14 (h:=tkq 15 (h:=tkq 16 (h:=tkq 17 (h:=?_))))))))))))))))))
 refine rdq 18 (h:=fun K hK=>?_)
 go_simp
 go_wp2_with fail
 refine (zi4 gf gl gt fn lb tn w51).mono ?_
 rintro e w52 ⟨rfl,kb⟩
 replace m:=zab m kb;replace l:=zab l kb;replace q0:=cellS kb q0;replace q1:=cellS kb q1;replace q2:=cellS kb q2;replace g0:=cellS kb g0;replace g1:=cellS kb g1;replace g2:=cellS kb g2;replace q:=onS q kb;clear kb
 refine bkq hK ⟨q0,q1,q2,g0,g1,g2⟩ (h:=fun hHeld=>?_)
 clear hK K
 refine tkq 19 (h:=tkq 20 (h:=tkq 21 (h:=?_)))
 refine wpAnyH_done (by kernel_rfl) ?_ _
 clear hHeld
 obtain ⟨lv,U⟩:=exx (lessV gf gl fn lb)
 rw [<-U] at al ⊢;clear U
 by_cases hl0:lv ≥ 0
 ·have q6:decide (lv ≥ 0)=true:=by simpa using hl0
  have q7:decide (0<=lv)=true:=by simpa using hl0
  have hE:=hid (b5.out fun ho=>by have:=al.out.2 (a1.out.1 ((N.out.1 ho).2.2 (by omega))); omega)
  have cl:=zax (zap HB.out q)
  go_wp2
  go_ret
  exact ⟨zas hE.out.symm,cl⟩
 have q6:decide (lv ≥ 0)=false:=by simpa using hl0
 have q7:decide (0<=lv)=false:=by simpa using hl0
 have ah:=hid (N.out.2 ⟨by omega,by omega,fun h=>a1.out.2 (al.out.1 (by omega))⟩)
 clear g0 g1 g2 q1
 go_upto_region 17 with fail
 obtain ⟨w60,s⟩:=exx w52
 rw [<-s] at q0 q2 m l q ⊢;clear s
 refine wp_region_held_drew (S:=fun w'=>w'.cell? ⟨wj.heap.size,0,none⟩=some (.int .i64 fn)/\w'.cell? ⟨wj.heap.size,2,none⟩=some (.int .i64 tn)) (by kernel_rfl) ⟨cellS (Below.refl _ _).drew q0,cellS (Below.refl _ _).drew q2⟩ (fun hHeld=>?_)
 obtain ⟨w61,hw,kb⟩:=dwx w60
 rw [<-hw] at hHeld ⊢;clear hw;replace m:=zab m kb;replace l:=zab l kb;replace q0:=cellS kb q0;replace q2:=cellS kb q2;replace q:=onS q kb;clear kb
 refine tkq 0 (h:=tkq 1 (h:=tkq 2 (h:=tkq 3 (h:=tkq 4 (h:=tkq 5 (h:=tkq 6 (h:=?_)))))))
 refine rdq 7 (h:=fun K hK=>?_)
 have I:=m.lt
 have u0:=m.cell (i:=fn) ap
 have z0:=m.frozen fn
 skip
 go_simp
 replace q0:=zaJ (p:=⟨b1,fn,none⟩) (u:=.bool true) q0 (by show wj.heap.size≠b1; omega)
 replace q2:=zaJ (p:=⟨b1,fn,none⟩) (u:=.bool true) q2 (by show wj.heap.size≠b1; omega)
 replace q:=q.setCell (p:=⟨b1,fn,none⟩) bc (.bool true)
 replace l:=l.setOther (a:=⟨b1,fn,none⟩) (by simpa using Q) (.bool true)
 replace m:=m.set fn (.bool true)
 obtain ⟨w62,hw⟩:=exx (World.setCell w61 ⟨b1,fn,none⟩ (.bool true))
 rw [<-hw] at q0 q2 q m l ⊢;clear hw u0 z0 I
 refine bkq hK ⟨q0,q2⟩ (h:=fun hHeld=>?_)
 clear hK K
 refine tkq 8 (h:=?_)
 refine rdq 9 (h:=fun K hK=>?_)
 have I:=l.lt
 have u0:=l.cell (i:=tn) ag
 have z0:=l.frozen tn
 skip
 go_simp
 replace q0:=zaJ (p:=⟨b2,tn,none⟩) (u:=.bool true) q0 (by show wj.heap.size≠b2; omega)
 replace q2:=zaJ (p:=⟨b2,tn,none⟩) (u:=.bool true) q2 (by show wj.heap.size≠b2; omega)
 replace q:=q.setCell (p:=⟨b2,tn,none⟩) bb (.bool true)
 replace m:=m.setOther (a:=⟨b2,tn,none⟩) (by simpa using ai) (.bool true)
 replace l:=l.set tn (.bool true)
 obtain ⟨w63,hw⟩:=exx (World.setCell w62 ⟨b2,tn,none⟩ (.bool true))
 rw [<-hw] at q0 q2 q m l ⊢;clear hw u0 z0 I
 refine bkq hK ⟨q0,q2⟩ (h:=fun hHeld=>?_)
 clear hK K
 refine wpAnyH_done (by kernel_rfl) ?_ _
 clear hHeld
 have F:=m.congr (g:=fun v=>.bool (hitB (T.fr k) (jp+1+1) (v:Nat))) (bx.out)
 have D:=l.congr (g:=fun v=>.bool (hitB (T.to k) (jp+1+1) (v:Nat))) (bw.out)
 have b0:=hid F
 have az:=hid D
 have ba:=hid q
 clear F D m l q
 go_wp2
 go_roundg (gk - 1)
 case measure=>omega
 case rel=>exact ⟨jp+1+1,by go_num,by omega,by omega,Y.out ah.out,b0.out,az.out,ba.out⟩
def Trel.outs (T:Trel) (i:Nat) (v:Int) (m:Nat):List Nat:=(List.range m).filter fun j=>T.fr i j == v
def Trel.ext (T:Trel) (i m:Nat) (x:List Int × Int):List (List Int × Int):=(T.outs i x.2 m).map fun j=>(x.1 ++ [T.lb i j],T.to i j)
def Trel.lev (T:Trel):Nat->List (List Int × Int)
 | 0=>[([],0)]
 | i+1=>(T.lev i).flatMap (T.ext i (T.el i))
theorem Trel.outs_succ (T:Trel) (i:Nat) (v:Int) (m:Nat):T.outs i v (m+1)=T.outs i v m ++ if T.fr i m=v then [m] else []:=by
 unfold Trel.outs
 rw [List.range_succ,List.filter_append]
 by_cases h:T.fr i m=v
 ·simp [h]
 ·simp [h]
theorem Trel.outs_mem {T:Trel} {i m j:Nat} {v:Int}:j ∈ T.outs i v m↔j<m/\T.fr i j=v:=by
 simp [Trel.outs]
theorem Trel.ext_succ (T:Trel) (i m:Nat) (x:List Int × Int):T.ext i (m+1) x=T.ext i m x ++ if T.fr i m=x.2 then [(x.1 ++ [T.lb i m],T.to i m)] else []:=by
 unfold Trel.ext
 rw [Trel.outs_succ,List.map_append]
 congr 1
 split <;> simp
theorem Trel.lev_in {T:Trel} (h:T.Proper):∀ i,i<=T.n->∀ x,x ∈ T.lev i->x.1.length=i/\0<=x.2/\x.2<T.W i:=by
 intro i
 induction i with
 | zero =>
  intro _ x hx
  simp [Trel.lev] at hx
  subst hx
  exact ⟨rfl,Int.le_refl _,by have:=h.w0; show (0:Int)<_; omega⟩
 | succ i ih =>
  intro hi x hx
  simp only [Trel.lev,List.mem_flatMap] at hx
  obtain ⟨y,hy,hx⟩:=hx
  unfold Trel.ext at hx
  rw [List.mem_map] at hx
  obtain ⟨j,hj,rfl⟩:=hx
  have h1:=ih (by omega) y hy
  have h2:=h.shape.ins i (by omega) j (Trel.outs_mem.1 hj).1
  unfold Trel.inside at h2
  refine ⟨by simp [h1.1],?_,?_⟩ <;> simp only <;> omega
theorem Trel.outs_pos {T:Trel} (h:T.Proper) {i:Nat} (hi:i<T.n) {v:Int} (h0:0<=v) (h1:v<T.W i):∃ j,j ∈ T.outs i v (T.el i):=by
 have h2:=(h.sec i hi).2.1 v.toNat (by omega)
 obtain ⟨j,hj,e⟩:=za8.1 h2
 exact ⟨j,Trel.outs_mem.2 ⟨hj,by omega⟩⟩
theorem Trel.ordP {T:Trel} {i:Nat} (h:T.secOk i):∀ q j,j<q->q<T.el i->T.fr i j<T.fr i q∨T.fr i j=T.fr i q/\T.lb i j<T.lb i q:=by
 intro q
 induction q with
 | zero=>intro j hj; omega
 | succ q ih =>
  intro j hj hq
  have h1:=(h.1 (q+1) hq).2.2 (by omega)
  unfold Trel.after at h1
  rw [Nat.add_sub_cancel] at h1
  by_cases e:j=q
  ·rw [e]; exact h1
  ·have h2:=ih j (by omega) (by omega)
   omega
theorem Trel.edge_uniq {T:Trel} {i:Nat} (h:T.secOk i) {j q:Nat} (hj:j<T.el i) (hq:q<T.el i) (e1:T.fr i j=T.fr i q) (e2:T.lb i j=T.lb i q):j=q:=by
 rcases Nat.lt_trichotomy j q with g | g | g
 ·have:=Trel.ordP h q j g hq; omega
 ·exact g
 ·have:=Trel.ordP h j q g hj; omega
open Go.ChangeShapes Go.WideShapes Go.ChangeAt
theorem zcJ (w:World) (B:Nat) (A:Option Addr):NatOk w B A 0:=fun i hi=>by
 rw [zaG] at hi
 omega
theorem zb3 {w:World} {base n:Nat} (hb:base<=w.heap.size) (hn:n<=maxLen) :
  NatOwn (w.alloc (Obj.cells (madeCells #[Value.slice none 0 0] n) 69)) base (.slice (some ⟨w.heap.size,0,none⟩) n n) n (fun _=>0):=by
 have hr:=World.rowIs_made w (.slice none 0 0) n 69
 refine ⟨fun _ _=>.slice none 0 0,Own.new hb (Nat.le_refl _) hn (by simp [size_madeCells]) (fun k hk j hj=>?_),fun q hq=>?_,fun i hi=>⟨none,0,by rw [zaG],zcJ _ _ _,by rw [zaG]; omega,by unfold maxLen; omega⟩⟩
 ·obtain rfl:j=0:=by omega
  have hc:=hr.cell hk
  rw [World.cell?_alloc_at _ _ _ _ rfl] at hc;rw [Nat.mul_one,Nat.add_zero]
  exact hc
 ·obtain rfl:w.heap.size=q:=by simpa [Value.ownBlock] using hq
  exact zdD hr fun i _ u e=>by cases e
theorem IntTab.fresh {w w':World} {g base m:Nat} {F:Nat->Value} {n:Nat->Nat} {x:Nat->Nat->Int} (h:IntTab w g base m F n x) (hgb:g<base) (hbw:base<=w.heap.size) (kb:Below w.heap.size w w') {v:Nat} (hv:v<m) {v':Value} {k':Nat} {y:Nat->Int} (hown:Own w' w.heap.size 3 1 v' k' (fun i _=>.int .i64 (y i))) :
  IntTab (w'.setCell ⟨g,v,none⟩ v') g base m (fun u=>if u=v then v' else F u) (fun u=>if u=v then k' else n u) (fun u=>if u=v then y else x u):=by
 have h1:=h.on kb
 refine ⟨(h1.row.set v v').congr fun u _=>by split <;> rfl,fun u hu=>?_,fun a b ha hb hab=>?_⟩
 ·by_cases e:u=v
  ·subst e
   simp only [if_true]
   exact (hown.mono hbw).setCell (fun e=>by have h5:w.heap.size<=g:=(hown.lt _ e).1; omega) _
  ·simp only [if_neg e]
   exact (h1.own u hu).setCell (fun e=>by have h5:base<=g:=((h1.own u hu).lt _ e).1; omega) _
 by_cases ea:a=v
 ·have eb:¬ b=v:=fun e=>hab (by rw [ea,e])
  simp only [if_pos ea,if_neg eb]
  cases hfa:v'.ownBlock with
  | none=>exact .inl rfl
  | some k =>
   right
   intro e2
   have h5:=(hown.lt k hfa).1
   have h6:=((h.own b hb).lt k e2.symm).2
   omega
 simp only [if_neg ea]
 by_cases eb:b=v
 rotate_left
 ·simp only [if_neg eb]; exact h.apart a b ha hb hab
 simp only [if_pos eb]
 cases hfa:(F a).ownBlock with
 | none=>exact .inl rfl
 | some k =>
  right
  intro e2
  have h5:=(hown.lt k e2.symm).1
  have h6:=((h.own a ha).lt k hfa).2
  omega
theorem zhR {w:World} {g P M:Nat} {m:Nat->Nat} (x y:Nat) (h:GF w w.heap.size g P M m) (hx:x<P ^ M) (hy:y<P ^ M) (hy0:y≠0) :
  Calls Tryz.prog 142 #[.pointer (some ⟨g,0,none⟩),.int .i64 (x:Nat),.int .i64 (y:Nat)] w fun e w'=>Below w.heap.size w w'/\∃ a:Nat,e=.returned (.tuple #[.int .i64 (a:Nat),.int .i64 0])/\a<P ^ M/\mulF P M m a y=x:=by
 have HG:=hid h
 have hL:=fieldLaws h.ok
 have HL:=hid hL
 have d:=zaj hx
 have c:=zaj hy
 have k:=hid d
 have j:=hid c
 clear h hL d c
 go_enter Tryz.func142, Tryz.ntmps142
 go_wp2_with fail
 refine (zdA (y:Int) HG.out).mono ?_
 rintro e w1 ⟨kb,hc⟩
 have HB:=hid kb
 clear kb;rw [j.out] at hc
 rcases hc with ⟨h0,_⟩ | ⟨_,v,rfl,hv,_,b⟩
 ·exact absurd h0 hy0
 have i:=zaj hv
 go_wp2_with fail
 refine (zaL (x:Int) (v:Int) (HG.out.on HB.out)).mono ?_
 rintro e w2 ⟨rfl,kb⟩
 rw [k.out,i];replace HB:=hid (onS HB.out kb)
 obtain ⟨a,ha⟩:=exx (mulF P M m x v)
 rw [<-ha]
 have HA:Hid (a<P ^ M/\mulF P M m a y=x):=hid (by
  have hL:=HL.out
  rw [ha]
  refine ⟨hL.mulLt _ _,?_⟩
  rw [hL.mulAssoc x v y hx hv hy,hL.mulComm v y hv hy,b,hL.mulOne hx])
 clear ha b hv i kb
 go_wp2
 go_ret2
 exact ⟨HB.out,a,rfl,HA.out⟩
theorem zdF (A:Option Addr) (n c:Nat) (u:Nat->Nat) (w:World) (h:IntsR w w.heap.size A n (fun j=>((u j:Nat):Int))) (hn:n<=1048576) :
  Calls Tryz.prog 141 #[.slice A n c] w fun e w'=>e=.returned (.tuple #[.int .i64 (fE u n),.int .i64 (lE u n)])/\Below w.heap.size w w':=by
 have HA:=hid h
 clear h
 go_enter Tryz.func141, Tryz.ntmps141
 go_upto_region 3 with fail
 go_loopg [4,5,10] n (fun gg fv lv iv wx=>∃ k:Nat,iv=.int .i64 (k:Nat)/\fv=.int .i64 (fE u k)/\lv=.int .i64 (lE u k)/\k<=n/\n<=k+gg/\Below w.heap.size w wx)
 case atStart=>exact ⟨0,rfl,rfl,rfl,by omega,by omega,Below.refl _ _⟩
 obtain ⟨k,rfl,rfl,rfl,hk,p,i⟩:=hrel
 have q:(0:Int)<=(k:Int):=by omega
 have HB:=hid i
 obtain ⟨w3,l⟩:=exx wr
 subst l
 clear i
 obtain ⟨F,hF⟩:=exx (fE u k)
 obtain ⟨L,hL⟩:=exx (lE u k)
 rw [<-hF,<-hL]
 by_cases hlt:k<n
 rotate_left
 ·have g:¬ (k:Int)<(n:Int):=by omega
  obtain rfl:k=n:=by omega
  have H1:=hid hF
  have H2:=hid hL
  clear hF hL
  go_wp2
  go_ret2
  exact ⟨by rw [H1.out,H2.out]; rfl,HB.out⟩
 have g:(k:Int)<(n:Int):=by omega
 obtain ⟨b,o,m,hb,e0⟩:=(HA.out.on HB.out).at hlt
 subst m
 obtain ⟨x,hx⟩:=exx (u k)
 rw [<-hx] at e0
 have a:fE u (k+1)=if x=0 then F else if F<0 then (k:Int) else F:=by rw [hx,hF]; rfl
 have d:lE u (k+1)=if x=0 then L else (k:Int):=by rw [hx,hL]; rfl
 clear hx hF hL
 by_cases hx0:x=0
 focus
  have hz:((x:Int) == 0)=true:=by simp [hx0]
  rw [if_pos hx0] at a d
 rotate_left
 focus
  have hz:((x:Int) == 0)=false:=by simp [hx0]
  rw [if_neg hx0] at a d
  by_cases hneg:F<0
  focus
   rw [if_pos hneg] at a
  rotate_left
  focus
   rw [if_neg hneg] at a
  rotate_left
 rotate_left 2
 all_goals
  have H1:=hid a
  have H2:=hid d
  clear a d hx0
  go_wp2
  go_roundg (gk - 1)
  case measure=>omega
  case rel=>exact ⟨k+1,by go_num,by rw [H1.out],by rw [H2.out],by omega,by omega,HB.out⟩
def SpansPost (P M : Int) (k : Nat) (f : Nat → Int) (N : Int) (n : Nat) (ln : Nat → Nat) (V : Nat → Nat → Int) (w : World) (e : Ending) (w' : World) : Prop :=
  Below w.heap.size w w'/\∃ u,FirstErr (CodeErrs P M k f N n ln V) u /\
    ((u≠0/\e=.returned (.tuple #[.slice none 0 0,.int .i64 u])) ∨
     (u=0/\∃ P' M' N':Nat,P=P'/\M=M'/\N=N'/\∃ g F pv R,e=.returned (.tuple #[.slice (some ⟨g,0,none⟩) n n,.int .i64 0])/\w.heap.size<=g/\IntTab w' g (g+1) n F (fun _=>N') (fun i j=>((R i j:Nat):Int)) /\
       SpanF (P' ^ M') n N' pv R/\SameSp (P' ^ M') (addF P' M') (mulF P' M' fun i=>(f i).toNat) N' n n (natT V) R/\∀ i j,i<j->j<n->lE (R i) N'≠lE (R j) N'))
theorem zhS (P M:Int) (A:Option Addr) (k c:Nat) (f:Nat->Int) (N:Int) (TC:Option Addr) (n d:Nat) (ln:Nat->Nat) (V:Nat->Nat->Int) (w:World) (hr:IntsR w w.heap.size A k f) (h:IntRows w TC n ln V) :
  Calls Tryz.prog 73 #[.agg #[.int .i64 P,.int .i64 M,.slice A k c,.int .i64 N,.slice TC n d]] w (SpansPost P M k f N n ln V w):=by
 have HI:=hid hr
 have HT:=hid h
 clear hr h
 obtain ⟨w1,bi,hB,rf⟩:=zbe w (.int .i64 P) (.int .i64 M) (.slice A k c) (.int .i64 N) (.slice TC n d) 27
 go_enter Tryz.func73, Tryz.ntmps73
 go_upto_region 1 with fail
 rw [<-bi];clear bi
 obtain ⟨b0,b8⟩:=exx w.heap.size
 rw [<-b8] at rf;rw [<-b8];clear b8
 have O:Hid (∀ X,Below w1.heap.size w1 X->(X.cell? ⟨b0,0,none⟩=some (.int .i64 P)/\X.cell? ⟨b0,1,none⟩=some (.int .i64 M)/\X.cell? ⟨b0,2,none⟩=some (.slice A k c)/\X.cell? ⟨b0,3,none⟩=some (.int .i64 N)/\X.cell? ⟨b0,4,none⟩=some (.slice TC n d))):=hid fun X hx =>
  ⟨(zab rf hx).cell (i:=0) (by omega),(zab rf hx).cell (i:=1) (by omega),(zab rf hx).cell (i:=2) (by omega),(zab rf hx).cell (i:=3) (by omega),(zab rf hx).cell (i:=4) (by omega)⟩
 have HB:=hid hB
 clear hB rf
 obtain ⟨q0,q1,q2,q3,q4⟩:=O.out _ (Below.refl _ _)
 go_wp2_with fail
 refine (zbL P M A k c f N TC n d ln V w1 (HI.out.on HB.out) (HT.out.on HB.out)).mono ?_
 rintro e w2 ⟨u,rfl,hu,kb⟩
 have HU:=hid hu
 have KB:=hid kb
 clear kb hu q0 q1 q2 q3 q4
 by_cases hu0:u=0
 rotate_left
 ·have bj:(u != 0)=true:=by simpa using hu0
  have cn:=hid hu0
  clear hu0
  go_wp2
  go_ret2
  exact ⟨onS HB.out KB.out,u,HU.out,.inl ⟨cn.out,rfl⟩⟩
 subst hu0
 have bj:((0:Int) != 0)=false:=by simp
 obtain ⟨P',M',N',rfl,rfl,rfl,hC⟩:=zdw HI.out HT.out HU.out
 have HC:=hid hC
 have cg:=hC.ln2
 have cw:=hC.n_le
 clear hC
 obtain ⟨q0,q1,q2,q3,q4⟩:=O.out _ KB.out
 go_wp2_with fail
 refine (zbw (P':Int) (M':Int) A k c f w2 (HI.out.on (onS HB.out KB.out))).mono ?_
 rintro e w3 ⟨kb,ag⟩
 rcases ag with ⟨b7,_⟩ | ⟨_,gf,P2,M2,cf,ci,rfl,_,hG⟩
 ·refine absurd ?_ b7
  rcases HU.out with ⟨_,h9⟩ | ⟨h1,_⟩
  ·cases h9
  ·exact h1
 obtain rfl:P'=P2:=by omega
 obtain rfl:M'=M2:=by omega
 have HG:=hid hG.gf
 have ar:=hid (onS HB.out (onS KB.out kb))
 replace KB:=hid (onS KB.out kb);clear kb q0 q1 q2 q3 q4 cf ci hG bj
 obtain ⟨q0,q1,q2,q3,q4⟩:=O.out _ KB.out
 have bm:=fun W=>zaf (P:=Tryz.prog) 25 22 _ 24 Tryz.underlying25 Tryz.infoInts rfl (n:Int) (by omega) (by omega) (by omega) W
 simp only [Int.toNat_natCast] at bm
 go_upto_region 6 with fail
 clear q0 q1 q2 q3 q4
 have rz:World.rowIs (World.alloc w3 (Obj.cells (madeCells #[Value.slice none 0 0] n) 22)) w3.heap.size 22 n (fun _=>.slice none 0 0):=World.rowIs_made _ (.slice none 0 0) n 22
 have kb:=aly w3 (Obj.cells (madeCells #[Value.slice none 0 0] n) 22)
 have az:(World.alloc w3 (Obj.cells (madeCells #[Value.slice none 0 0] n) 22)).heap.size=w3.heap.size+1:=by simp
 obtain ⟨w4,bh⟩:=exx (World.alloc w3 (Obj.cells (madeCells #[Value.slice none 0 0] n) 22))
 rw [<-bh] at rz kb az ⊢
 have K7:=hid kb
 have ah:w.heap.size<=w3.heap.size:=ar.out.size
 obtain ⟨lt,b2⟩:=exx w3.heap.size
 rw [<-b2] at rz az ah ⊢
 have am:Hid (lt=w3.heap.size):=hid b2
 have b:Hid (IntTab w4 lt (lt+1) n (fun _=>.slice none 0 0) (fun v=>if v<0 then N' else 0) (fun i j=>((natT V i j:Nat):Int))):=hid ((zbE (x:=fun i j=>((natT V i j:Nat):Int)) rz).congr (fun v _=>by rw [if_neg (by omega)]) fun v _ k _=>rfl)
 have E:lt+1<=w4.heap.size:=by omega
 clear rz kb az bh bm b2
 obtain ⟨q0,q1,q2,q3,q4⟩:=O.out _ (onS KB.out K7.out)
 go_upto_region 7 with fail
 clear q0 q1 q2 q3 q4
 go_loopg [38] n (fun gg iv wx=>∃ (i:Nat) (F:Nat->Value),iv=.int .i64 (i:Nat)/\i<=n/\n<=i+gg/\Hid (IntTab wx lt (lt+1) n F (fun v=>if v<i then N' else 0) (fun i j=>((natT V i j:Nat):Int)))/\lt+1<=wx.heap.size/\Below w3.heap.size w3 wx)
 case atStart=>exact ⟨0,_,rfl,by omega,by omega,b,E,K7.out⟩
 clear b K7 E
 obtain ⟨i,F,rfl,hi,bn,b,a,z⟩:=hrel
 have bp:(0:Int)<=(i:Int):=by omega
 have K7:=hid z
 obtain ⟨w8,c6⟩:=exx wr
 subst c6
 clear z
 by_cases s:i<n
 ·have a0:(i:Int)<(n:Int):=by omega
  obtain ⟨pb,po,RA,rc,ce,_,x0,cd,d1,ab,b1⟩:=HC.out.rows i s
  subst ce
  replace x0:=cellS (onS ar.out K7.out) x0
  have be:=hid ab
  clear ab b1
  go_wp2_with fail
  clear x0
  refine (zaq RA N' rc (fun j=>((natT V i j:Nat):Int)) w8 (be.out.on (onS ar.out K7.out)) cd (by omega)).mono ?_
  rintro e w9 ⟨SA,sc,rfl,hO,kb⟩
  have hn:=b.out.fresh (by omega) a kb s (y:=fun j=>((natT V i j:Nat):Int)) hO
  have r0:=(b.out.on kb).row.cell s
  have z0:=(b.out.on kb).row.frozen i
  have au:=(onS K7.out kb).setCell (p:=⟨lt,i,none⟩) (by have:=am.out; show _<=lt; omega) (.slice SA N' sc)
  have bk:lt+1<=(w9.setCell ⟨lt,i,none⟩ (.slice SA N' sc)).heap.size:=by rw [World.size_setCell]; exact Nat.le_trans a kb.size
  obtain ⟨w10,D⟩:=exx (w9.setCell ⟨lt,i,none⟩ (.slice SA N' sc))
  rw [<-D] at hn au bk
  have HN:=hid (hn.congr (n':=fun v=>if v<i+1 then N' else 0) (x':=fun i j=>((natT V i j:Nat):Int)) (fun v hv=>by
   by_cases e:v=i
   ·rw [if_pos e,if_pos (by omega)]
   ·have h1:(v<i)↔(v<i+1):=by omega
    simp only [if_neg e,h1]) fun v hv k hk=>by
   by_cases e:v=i
   ·rw [if_pos e,e]
   ·rw [if_neg e])
  have K9:=hid au
  have aj:=hid D
  clear hn kb au hO D
  go_upto_region 10 with fail
  rw [<-aj.out];clear r0 z0 aj
  go_wp2
  go_roundg (gk - 1)
  case measure=>omega
  case rel=>exact ⟨i+1,_,by go_num,by omega,by omega,HN,bk,K9.out⟩
 have a0:¬ (i:Int)<(n:Int):=by omega
 obtain rfl:i=n:=by omega
 have bw:Hid (IntTab w8 lt (lt+1) i F (fun _=>N') (fun u j=>((natT V u j:Nat):Int))):=hid (b.out.congr (fun v hv=>if_pos hv) fun v _ k _=>rfl)
 clear b s hi bn bp
 obtain ⟨n,hn⟩:=exx i
 subst hn
 obtain ⟨pv,hE⟩:=HC.out.rref
 have l:=hid hE.spanF
 have hL:=fieldLaws HC.out.fld
 have ac:∀ x,x<P' ^ M'->negF P' M' x<P' ^ M'/\addF P' M' x (negF P' M' x)=0:=fun x _=>⟨zb8 (by have:=HC.out.fld.1.1; omega),zbK (by have:=HC.out.fld.1.1; omega)⟩
 have HL:=hid hL
 have cp:=hid ac
 have B:Hid (SameSp (P' ^ M') (addF P' M') (mulF P' M' fun i=>(f i).toNat) N' n n (natT V) (natT V)):=hid fun _=>Iff.rfl
 clear hE hL ac
 go_upto_region 12 with fail
 clear a0
 go_loopg [10] (n*N'+1) (fun gg cv wx=>∃ (ch:Bool) (R:Nat->Nat->Nat),cv=.bool ch/\Hid ((ch=true/\mesL R N' n<gg)∨(ch=false/\∀ i j,i<j->j<n->lE (R i) N'≠lE (R j) N'))/\Hid (SpanF (P' ^ M') n N' pv R)/\Hid (SameSp (P' ^ M') (addF P' M') (mulF P' M' fun i=>(f i).toNat) N' n n (natT V) R)/\Hid (IntTab wx lt (lt+1) n F (fun _=>N') (fun u j=>((R u j:Nat):Int)))/\lt+1<=wx.heap.size/\Below w3.heap.size w3 wx)
 case atStart=>exact ⟨true,natT V,rfl,.inl ⟨rfl,by have:=ziu (R:=natT V) (N:=N') n; omega⟩,l,B,bw,a,K7.out⟩
 clear l B bw K7 a
 obtain ⟨ch,R,rfl,C,l,B,b,a,z⟩:=hrel
 have K7:=hid z
 obtain ⟨w9,c5⟩:=exx wr
 subst c5
 clear z
 cases ch with
 | false =>
  have HD:Hid (∀ i j,i<j->j<n->lE (R i) N'≠lE (R j) N'):=hid (C.out.elim (fun h=>(nomatch h.1)) fun h=>h.2)
  go_wp2
  go_ret2
  exact ⟨onS ar.out K7.out,0,HU.out,.inr ⟨rfl,P',M',N',rfl,rfl,rfl,lt,F,pv,R,rfl,ah,b.out,l.out,B.out,HD.out⟩⟩
 | true =>
  have c9:mesL R N' n<gk:=C.out.elim (fun h=>h.2) fun h=>(nomatch h.1)
  obtain ⟨m0,ae⟩:=exx (mesL R N' n)
  rw [<-ae] at c9
  have c1:Hid (mesL R N' n<=m0):=hid (by omega)
  clear C ae
  obtain ⟨gO,cc⟩:=exx gk
  subst cc
  go_upto_region 15 with fail
  go_loopg [10,52] n (fun gg cv jv wx=>∃ (ch:Bool) (j:Nat) (R:Nat->Nat->Nat),cv=.bool ch/\jv=.int .i64 (j:Nat)/\j<=n/\n<=j+gg/\Hid ((ch=true/\mesL R N' n<m0)∨(ch=false/\mesL R N' n<=m0/\∀ i j',i<j'->j'<j->lE (R i) N'≠lE (R j') N'))/\Hid (SpanF (P' ^ M') n N' pv R)/\Hid (SameSp (P' ^ M') (addF P' M') (mulF P' M' fun i=>(f i).toNat) N' n n (natT V) R)/\Hid (IntTab wx lt (lt+1) n F (fun _=>N') (fun u j=>((R u j:Nat):Int)))/\lt+1<=wx.heap.size/\Below w3.heap.size w3 wx)
  case atStart=>exact ⟨false,0,R,rfl,rfl,by omega,by omega,.inr ⟨rfl,c1.out,fun _ _ _ h=>absurd h (by omega)⟩,l,B,b,a,K7.out⟩
  case round =>
   clear l B b K7 a c1
   obtain ⟨ch,j,R,rfl,rfl,hj,cz,C,l,B,b,a,z⟩:=hrel
   have d0:(0:Int)<=(j:Int):=by omega
   have K7:=hid z
   obtain ⟨w10,D⟩:=exx wr
   subst D
   clear z
   by_cases hjn:j<n
   ·have b4:(j:Int)<(n:Int):=by omega
    have Y:=l.out.pos hjn
    obtain ⟨rb,ro,rd,hF,_,_,_,_⟩:=b.out.at (v:=j) hjn (k:=pv j) (l.out.pvlt j hjn)
    have c0:=b.out.row.cell hjn
    rw [hF] at c0
    have r:=b.out.own j hjn
    rw [hF] at r
    have ak:Hid (IntsR w10 w10.heap.size (some ⟨rb,ro,none⟩) N' (fun k=>((R j k:Nat):Int))):=hid (r.rd rfl)
    clear r
    go_wp2_with fail
    clear c0
    refine (zdF (some ⟨rb,ro,none⟩) N' rd (R j) w10 ak.out (by omega)).mono ?_
    rintro e w11 ⟨rfl,kb⟩
    obtain ⟨t,ht⟩:∃ t:Nat,lE (R j) N'=(t:Nat):=⟨(lE (R j) N').toNat,by omega⟩
    have ao:t<N':=(zj8 N' t ht).1
    have bq:=l.out.first hjn
    rw [ht,bq]
    have T:=hid ht
    have m:=hid (b.out.on kb)
    replace K7:=hid (onS K7.out kb)
    have g:lt+1<=w11.heap.size:=Nat.le_trans a kb.size
    have an:=hid hF
    clear kb b ak ht bq hF Y a
    obtain ⟨gP,cb⟩:=exx gk
    subst cb
    go_upto_region 19 with fail
    have q:Hid ((ch=true/\mesL R N' n<m0)∨(ch=false/\mesL R N' n<=m0/\(∀ i j',i<j'->j'<j->lE (R i) N'≠lE (R j') N')/\∀ i,i<0->lE (R i) N'≠(t:Int))):=hid (by
     rcases C.out with h | ⟨h1,h2,h3⟩
     ·exact .inl h
     ·exact .inr ⟨h1,h2,h3,fun _ h=>absurd h (by omega)⟩)
    clear C
    go_loopg [10,64] j (fun gg cv iv wx=>∃ (ch:Bool) (i:Nat) (R:Nat->Nat->Nat),cv=.bool ch/\iv=.int .i64 (i:Nat)/\i<=j/\j<=i+gg/\Hid ((ch=true/\mesL R N' n<m0)∨(ch=false/\mesL R N' n<=m0/\(∀ i j',i<j'->j'<j->lE (R i) N'≠lE (R j') N')/\∀ i',i'<i->lE (R i') N'≠(t:Int)))/\Hid (lE (R j) N'=(t:Int))/\Hid (SpanF (P' ^ M') n N' pv R)/\Hid (SameSp (P' ^ M') (addF P' M') (mulF P' M' fun i=>(f i).toNat) N' n n (natT V) R)/\Hid (IntTab wx lt (lt+1) n F (fun _=>N') (fun u j=>((R u j:Nat):Int)))/\lt+1<=wx.heap.size/\Below w3.heap.size w3 wx)
    case atStart=>exact ⟨ch,0,R,rfl,rfl,by omega,by omega,q,T,l,B,m,g,K7.out⟩
    case round =>
     clear l B m K7 g q T
     obtain ⟨ch,i,R,rfl,rfl,hi,bn,C,T,l,B,b,a,z⟩:=hrel
     have bp:(0:Int)<=(i:Int):=by omega
     have K7:=hid z
     obtain ⟨w12,ax⟩:=exx wr
     subst ax
     clear z
     by_cases hij:i<j
     ·have b5:(i:Int)<(j:Int):=by omega
      have s:i<n:=by omega
      have a0:(i:Int)<(n:Int):=by omega
      obtain ⟨ib,io,id,aq,bo,_,_,_⟩:=b.out.at (v:=i) s (k:=pv i) (l.out.pvlt i s)
      have c0:=b.out.row.cell s
      rw [aq] at c0
      have r:=b.out.own i s
      rw [aq] at r
      have ak:Hid (IntsR w12 w12.heap.size (some ⟨ib,io,none⟩) N' (fun k=>((R i k:Nat):Int))):=hid (r.rd rfl)
      clear r
      go_wp2_with fail
      clear c0
      refine (zdF (some ⟨ib,io,none⟩) N' id (R i) w12 ak.out (by omega)).mono ?_
      rintro e w13 ⟨rfl,kb⟩
      have br:=l.out.first s
      rw [br]
      have Y:=l.out.pos s
      obtain ⟨li,af⟩:=exx (lE (R i) N')
      rw [<-af]
      have m:=hid (b.out.on kb)
      replace K7:=hid (onS K7.out kb)
      have g:lt+1<=w13.heap.size:=Nat.le_trans a kb.size
      have a6:=hid aq
      clear kb b ak br aq Y a
      by_cases hlt':li=(t:Int)
      rotate_left
      ·have ad:(li != (t:Int))=true:=by simpa using hlt'
       have q:Hid ((ch=true/\mesL R N' n<m0)∨(ch=false/\mesL R N' n<=m0/\(∀ i j',i<j'->j'<j->lE (R i) N'≠lE (R j') N')/\∀ i',i'<i+1->lE (R i') N'≠(t:Int))):=hid (by
        rcases C.out with h | ⟨h1,h2,h3,h4⟩
        ·exact .inl h
        ·exact .inr ⟨h1,h2,h3,fun i' h=>by
          by_cases e:i'=i
          ·rw [e,<-af]; exact hlt'
          ·exact h4 i' (by omega)⟩)
       clear af hlt' C
       go_wp2
       go_roundg (gk - 1)
       case measure=>omega
       case rel=>exact ⟨ch,i+1,R,rfl,by go_num,by omega,by omega,q,T,l,B,m,g,K7.out⟩
      ·have ad:(li != (t:Int))=false:=by simpa using hlt'
       have c2:Hid (lE (R i) N'=(t:Int)):=hid (af.symm.trans hlt')
       subst hlt'
       have c8:Hid (mesL R N' n<=m0):=hid (by
        rcases C.out with ⟨_,h⟩ | ⟨_,h,_⟩
        ·omega
        ·exact h)
       clear af C
       have x0:=(m.out.row).cell s
       rw [a6.out] at x0
       have y0:=(m.out.row).cell hjn
       rw [an.out] at y0
       have H:=m.out.own i s
       rw [a6.out] at H
       have Z:=m.out.own j hjn
       rw [an.out] at Z
       have x1:=(show IntsR w13 w13.heap.size (some ⟨ib,io,none⟩) N' (fun k=>((R i k:Nat):Int)) from H.rd rfl).here ao
       have y1:=(show IntsR w13 w13.heap.size (some ⟨rb,ro,none⟩) N' (fun k=>((R j k:Nat):Int)) from Z.rd rfl).here ao
       clear H Z
       obtain ⟨xv,Q⟩:=exx (R i t)
       obtain ⟨yv,G⟩:=exx (R j t)
       have aa:xv<P' ^ M':=by rw [Q]; exact l.out.lt i s t ao
       have a9:yv<P' ^ M':=by rw [G]; exact l.out.lt j hjn t ao
       have bg:yv≠0:=by rw [G]; exact (zj8 N' t T.out).2
       rw [<-Q] at x1;rw [<-G] at y1
       have bv:=hid Q
       have bu:=hid G
       clear Q G
       have c7:(0:Int)<=(t:Int):=by omega
       have ay:(t:Int)<(N':Int):=by omega
       go_upto_region 23 with fail
       refine wp_region_held_drew (S:=fun X=>X.cell? ⟨lt,i,none⟩=some (.slice (some ⟨ib,io,none⟩) N' id)/\X.cell? ⟨lt,j,none⟩=some (.slice (some ⟨rb,ro,none⟩) N' rd)/\X.cell? ⟨ib,io+t,none⟩=some (.int .i64 (xv:Nat))/\X.cell? ⟨rb,ro+t,none⟩=some (.int .i64 (yv:Nat))) (by kernel_rfl) ⟨cellS (Below.refl _ _).drew x0,cellS (Below.refl _ _).drew y0,cellS (Below.refl _ _).drew x1,cellS (Below.refl _ _).drew y1⟩ (fun hHeld=>?_)
       obtain ⟨w14,hw,kb⟩:=dwx w13
       rw [<-hw] at hHeld ⊢;clear hw
       have HX:Hid (∀ X,Below w14.heap.size w14 X->X.cell? ⟨lt,i,none⟩=some (.slice (some ⟨ib,io,none⟩) N' id)/\X.cell? ⟨lt,j,none⟩=some (.slice (some ⟨rb,ro,none⟩) N' rd)/\X.cell? ⟨ib,io+t,none⟩=some (.int .i64 (xv:Nat))/\X.cell? ⟨rb,ro+t,none⟩=some (.int .i64 (yv:Nat))):=hid fun X hx=>⟨cellS hx (cellS kb x0),cellS hx (cellS kb y0),cellS hx (cellS kb x1),cellS hx (cellS kb y1)⟩
       have J:=hid (m.out.on kb)
       replace K7:=hid (onS K7.out kb)
       have o:lt+1<=w14.heap.size:=Nat.le_trans g kb.size
       clear kb x0 y0 x1 y1 m g
       refine tkq 0 (h:=tkq 1 (h:=tkq 2 (h:=tkq 3 (h:=tkq 4 (h:=tkq 5 (h:=tkq 6 (h:=tkq 7 (h:=tkq 8 (h:=tkq 9 (h:=tkq 10 (h:=tkq 11 (h:=tkq 12 (h:=tkq 13 (h:=tkq 14 (h:=?_)))))))))))))))
       clear hHeld
       refine rdq 15 (h:=fun K hK=>?_)
       go_simp
       go_wp2_with fail
       refine (zhR xv yv (HG.out.at K7.out K7.out.size) aa a9 bg).mono ?_
       rintro e w15 ⟨kb,av,rfl,bt,bs⟩
       refine bkq hK (HX.out _ kb) (h:=fun hHeld=>?_)
       clear hK K
       refine tkq 16 (h:=tkq 17 (h:=tkq 18 (h:=tkq 19 (h:=tkq 20 (h:=?_)))))
       refine wpAnyH_done (by kernel_rfl) ?_ _
       clear hHeld;replace J:=hid (J.out.on kb)
       have x0:=(HX.out _ kb).1
       replace K7:=hid (onS K7.out kb);replace o:=Nat.le_trans o kb.size
       have cu:Hid (mulF P' M' (fun i=>(f i).toNat) av (R j t)=R i t):=hid (by rw [<-bv.out,<-bu.out]; exact bs)
       clear HX kb bs bv bu aa a9 bg c7 ay ad
       obtain ⟨gQ,ca⟩:=exx gk
       subst ca
       have a8:Hid (i<n):=hid s
       have ai:Hid (j<n):=hid hjn
       obtain ⟨R1,b9⟩:∃ R1:Nat->Nat->Nat,R1=fun u kk=>if u=i then addF P' M' (R i kk) (negF P' M' (mulF P' M' (fun i=>(f i).toNat) av (R j kk))) else R u kk:=⟨_,rfl⟩
       have al:Hid (∀ kk,R1 i kk=addF P' M' (R i kk) (negF P' M' (mulF P' M' (fun i=>(f i).toNat) av (R j kk)))):=hid fun kk=>by rw [b9]; exact if_pos rfl
       have L:Hid (∀ u,u≠i->R1 u=R u):=hid fun u hu=>by rw [b9]; funext kk; exact if_neg hu
       clear b9
       have bx:Hid (IntTab w15 lt (lt+1) n F (fun _=>N') (fun u kk=>(((if u=i/\kk<0 then R1 i kk else R u kk):Nat):Int))):=hid (J.out.congr (fun _ _=>rfl) fun v _ kk _=>by rw [if_neg (fun h=>absurd h.2 (by omega))])
       go_upto_region 25 with fail
       clear x0 J
       go_loopg [102] N' (fun gg kv wx=>∃ kk:Nat,kv=.int .i64 (kk:Nat)/\kk<=N'/\N'<=kk+gg/\Hid (IntTab wx lt (lt+1) n F (fun _=>N') (fun u x=>(((if u=i/\x<kk then R1 i x else R u x):Nat):Int)))/\lt+1<=wx.heap.size/\Below w3.heap.size w3 wx)
       case atStart=>exact ⟨0,rfl,by omega,by omega,bx,o,K7.out⟩
       case round =>
        clear bx K7 o
        obtain ⟨kk,rfl,hk,cx,b,a,z⟩:=hrel
        have cy:(0:Int)<=(kk:Int):=by omega
        have K7:=hid z
        obtain ⟨w16,aw⟩:=exx wr
        subst aw
        clear z
        by_cases hkN:kk<N'
        ·have b3:(kk:Int)<(N':Int):=by omega
         have x0:=b.out.row.cell a8.out
         rw [a6.out] at x0
         have y0:=b.out.row.cell ai.out
         rw [an.out] at y0
         have H:=b.out.own i a8.out
         rw [a6.out] at H
         have Z:=b.out.own j ai.out
         rw [an.out] at Z
         have x1:=(show IntsR w16 w16.heap.size (some ⟨ib,io,none⟩) N' (fun x=>(((if i=i/\x<kk then R1 i x else R i x):Nat):Int)) from H.rd rfl).here hkN
         have y1:=(show IntsR w16 w16.heap.size (some ⟨rb,ro,none⟩) N' (fun x=>(((if j=i/\x<kk then R1 i x else R j x):Nat):Int)) from Z.rd rfl).here hkN
         rw [if_neg (fun h=>absurd h.2 (by omega))] at x1
         rw [if_neg (fun h=>absurd h.1 (by omega))] at y1
         have b6:lt+1<=ib:=(H.lt ib rfl).1
         have cl:Hid (∀ X,Below w16.heap.size w16 X->X.frozen? ⟨ib,io+kk,none⟩=false):=hid fun X hx=>(H.on hx).frozen _
         have ad:ib≠rb:=fun e=>by
          rcases b.out.apart i j a8.out ai.out (by omega) with h1 | h1
          ·rw [a6.out] at h1; cases h1
          ·rw [a6.out,an.out,e] at h1; exact h1 rfl
         have cq:Hid (lt≠ib/\rb≠ib):=hid ⟨by omega,fun e=>ad e.symm⟩
         have bf:Hid (w3.heap.size<=ib):=hid (by have:=am.out; omega)
         clear H Z ad b6
         obtain ⟨xv,Q⟩:=exx (R i kk)
         obtain ⟨yv,G⟩:=exx (R j kk)
         have aa:xv<P' ^ M':=by rw [Q]; exact l.out.lt i a8.out kk hkN
         have a9:yv<P' ^ M':=by rw [G]; exact l.out.lt j ai.out kk hkN
         have a7:=al.out kk
         rw [<-Q] at x1 a7;rw [<-G] at y1 a7
         obtain ⟨mv,ap⟩:=exx (mulF P' M' (fun i=>(f i).toNat) av yv)
         have bl:mv<P' ^ M':=by rw [ap]; exact HL.out.mulLt _ _
         rw [<-ap] at a7
         obtain ⟨zv,U⟩:=exx (addF P' M' xv (negF P' M' mv))
         rw [<-U] at a7
         have cs:=hid (zaj aa)
         have c3:=hid (zaj a9)
         have c4:=hid (zaj bt)
         have ct:=hid (zaj bl)
         have bz:=hid ap
         have ck:=hid U
         have cm:=hid a7
         clear Q G ap U a7 aa a9 bl
         have a5:Hid (∀ X,Below w16.heap.size w16 X->(X.cell? ⟨lt,i,none⟩=some (.slice (some ⟨ib,io,none⟩) N' id)/\X.cell? ⟨lt,j,none⟩=some (.slice (some ⟨rb,ro,none⟩) N' rd)/\X.cell? ⟨rb,ro+kk,none⟩=some (.int .i64 (yv:Nat)))):=hid fun X hx=>⟨cellS hx x0,cellS hx y0,cellS hx y1⟩
         have ba:Hid (∀ X,Below w16.heap.size w16 X->X.cell? ⟨ib,io+kk,none⟩=some (.int .i64 (xv:Nat))):=hid fun X hx=>cellS hx x1
         clear x0 y0 x1 y1
         go_upto_region 27 with fail
         refine wp_region_held_drew (S:=fun X=>X.cell? ⟨lt,i,none⟩=some (.slice (some ⟨ib,io,none⟩) N' id)/\X.cell? ⟨lt,j,none⟩=some (.slice (some ⟨rb,ro,none⟩) N' rd)/\X.cell? ⟨rb,ro+kk,none⟩=some (.int .i64 (yv:Nat))) (by kernel_rfl) (a5.out _ (Below.refl _ _).drew) (fun hHeld=>?_)
         obtain ⟨w17,hw,kb⟩:=dwx w16
         rw [<-hw] at hHeld ⊢;clear hw
         have K8:=hid kb
         clear kb
         refine tkq 0 (h:=tkq 1 (h:=tkq 2 (h:=tkq 3 (h:=tkq 4 (h:=tkq 5 (h:=tkq 6 (h:=tkq 7 (h:=tkq 8 (h:=tkq 9 (h:=tkq 10 (h:=tkq 11 (h:=tkq 13 (h:=tkq 14 (h:=tkq 15 (h:=tkq 16 (h:=tkq 17 (h:=tkq 18 (h:=tkq 19 (h:=tkq 20 (h:=tkq 21 (h:=?_)))))))))))))))))))))
         clear hHeld
         refine rdq2 12 22 (h:=fun K hK=>?_) (h2:=fun K hK=>?_)
         focus
          have u0:=ba.out _ K8.out
          go_simp
          clear u0
          refine bkq hK (a5.out _ K8.out) (h:=fun hHeld=>?_)
          clear hK K hHeld
          refine rdq 22 (h:=fun K hK=>?_)
          go_simp
          go_wp2_with fail
          refine (zaL (av:Int) (yv:Int) (HG.out.at (onS K7.out K8.out) (onS K7.out K8.out).size)).mono ?_
          rintro e w18 ⟨rfl,kb⟩
          rw [c4.out,c3.out,<-bz.out]
          have K9:=hid (onS K8.out kb)
          clear kb
          refine bkq hK (a5.out _ K9.out) (h:=fun hHeld=>?_)
          clear hK K hHeld K8
         rotate_left
         focus
          go_simp
          go_wp2_with fail
          refine (zaL (av:Int) (yv:Int) (HG.out.at (onS K7.out K8.out) (onS K7.out K8.out).size)).mono ?_
          rintro e w18 ⟨rfl,kb⟩
          rw [c4.out,c3.out,<-bz.out]
          have K9:=hid (onS K8.out kb)
          clear kb
          refine bkq hK (a5.out _ K9.out) (h:=fun hHeld=>?_)
          clear hK K hHeld
          refine rdq 12 (h:=fun K hK=>?_)
          have u0:=ba.out _ K9.out
          go_simp
          clear u0
          refine bkq hK (a5.out _ K9.out) (h:=fun hHeld=>?_)
          clear hK K hHeld K8
         all_goals
          refine rdq 23 (h:=fun K hK=>?_)
          go_simp
          go_wp2_with fail
          refine (zhE (xv:Int) (mv:Int) (HG.out.at (onS K7.out K9.out) (onS K7.out K9.out).size)).mono ?_
          rintro e w19 ⟨rfl,kb⟩
          rw [cs.out,ct.out,<-ck.out]
          have a4:=hid (onS K9.out kb)
          clear kb K9
          refine bkq hK (a5.out _ a4.out) (h:=fun hHeld=>?_)
          clear hK K
          refine tkq 24 (h:=?_)
          clear hHeld
          refine rdq 25 (h:=fun K hK=>?_)
          have u0:=ba.out _ a4.out
          have zf:=cl.out _ a4.out
          go_simp
          clear u0 zf
          have hn:=((b.out.on a4.out).set (v:=i) (k:=kk) (by omega) a8.out hkN a6.out (y:=((zv:Nat):Int))).congr (x':=fun u x=>(((if u=i/\x<kk+1 then R1 i x else R u x):Nat):Int)) (fun _ _=>rfl) fun v _ x _=>by
           by_cases e1:v=i/\x=kk
           ·rw [e1.1,e1.2,zjL,if_pos ⟨rfl,by omega⟩,cm.out]
           ·rw [zgH e1]
            have h1:(v=i/\x<kk)↔(v=i/\x<kk+1):=by omega
            simp only [h1]
          have kb:=(onS K7.out a4.out).setCell (p:=⟨ib,io+kk,none⟩) bf.out (.int .i64 (zv:Nat))
          obtain ⟨a1,a2,a3⟩:=a5.out _ a4.out
          obtain ⟨n1,n2⟩:=cq.out
          replace a1:=zaa (p:=⟨ib,io+kk,none⟩) (u:=.int .i64 (zv:Nat)) a1 n1;replace a2:=zaa (p:=⟨ib,io+kk,none⟩) (u:=.int .i64 (zv:Nat)) a2 n1;replace a3:=zaa (p:=⟨ib,io+kk,none⟩) (u:=.int .i64 (zv:Nat)) a3 n2
          obtain ⟨w20,hw⟩:=exx (w19.setCell ⟨ib,io+kk,none⟩ (.int .i64 (zv:Nat)))
          rw [<-hw] at hn kb a1 a2 a3 ⊢
          have I:lt+1<=w20.heap.size:=by rw [hw]; exact Nat.le_trans a (by rw [World.size_setCell]; exact a4.out.size)
          have HN:=hid hn
          have cj:=hid kb
          clear hn kb hw n1 n2
          refine bkq hK ⟨a1,a2,a3⟩ (h:=fun hHeld=>?_)
          clear hK K a1 a2 a3
          refine wpAnyH_done (by kernel_rfl) ?_ _
          clear hHeld
          go_wp2
          go_roundg (gk - 1)
          case measure=>omega
          case rel=>exact ⟨kk+1,by go_num,by omega,by omega,HN,I,cj.out⟩
        ·have b3:¬ (kk:Int)<(N':Int):=by omega
         obtain rfl:kk=N':=by omega
         obtain ⟨s1,s2,s3⟩:=l.out.step HL.out cp.out hij ai.out c2.out T.out bt cu.out (fun kk _=>al.out kk) L.out
         have bd:=hid s1
         have bc:Hid (SameSp (P' ^ M') (addF P' M') (mulF P' M' fun i=>(f i).toNat) kk n n (natT V) R1):=hid fun x=>(B.out x).trans (s2 x)
         have cr:Hid (mesL R1 kk n<m0):=hid (Nat.lt_of_lt_of_le (ziv L.out (by rw [c2.out]; exact s3) n a8.out) c8.out)
         have bb:Hid (lE (R1 j) kk=(t:Int)):=hid (by rw [L.out j (by omega)]; exact T.out)
         have co:Hid (IntTab w16 lt (lt+1) n F (fun _=>kk) (fun u x=>((R1 u x:Nat):Int))):=hid (b.out.congr (fun _ _=>rfl) fun v _ x hx=>by
          by_cases e:v=i
          ·rw [e,if_pos ⟨rfl,hx⟩]
          ·rw [if_neg (fun h=>e h.1),L.out v e])
         clear s1 s2 s3
         go_wp2
         go_roundg (gQ - 1)
         case measure=>omega
         case rel=>exact ⟨true,i+1,R1,rfl,by go_num,by omega,by omega,.inl ⟨rfl,cr.out⟩,bb,bd,bc,co,a,K7.out⟩
     ·have b5:¬ (i:Int)<(j:Int):=by omega
      obtain rfl:i=j:=by omega
      have q:Hid ((ch=true/\mesL R N' n<m0)∨(ch=false/\mesL R N' n<=m0/\∀ i1 j',i1<j'->j'<i+1->lE (R i1) N'≠lE (R j') N')):=hid (by
       rcases C.out with h | ⟨h1,h2,h3,h4⟩
       ·exact .inl h
       ·exact .inr ⟨h1,h2,fun i1 j' h5 h6=>by
         by_cases e:j'=i
         ·rw [e,T.out]; exact h4 i1 (by omega)
         ·exact h3 i1 j' h5 (by omega)⟩)
      go_wp2
      go_roundg (gP - 1)
      case measure=>omega
      case rel=>exact ⟨ch,i+1,R,rfl,by go_num,by omega,by omega,q,l,B,b,a,K7.out⟩
   ·have b4:¬ (j:Int)<(n:Int):=by omega
    obtain rfl:j=n:=by omega
    have q:Hid ((ch=true/\mesL R N' j<gO - 1)∨(ch=false/\∀ i j',i<j'->j'<j->lE (R i) N'≠lE (R j') N')):=hid (by
     rcases C.out with ⟨h,h2⟩ | ⟨h1,h2,h3⟩
     ·exact .inl ⟨h,by omega⟩
     ·exact .inr ⟨h1,h3⟩)
    go_wp2
    go_roundg (gO - 1)
    case measure=>omega
    case rel=>exact ⟨ch,R,rfl,q,l,B,b,a,K7.out⟩
def ltE (x y:Int × Int × Int):Prop:=x.1<y.1∨x.1=y.1/\x.2.1<y.2.1
def edgeCell (x:Nat->Int × Int × Int) (i j:Nat):Value:=if j=0 then .int .i64 (x i).1 else if j=1 then .int .i64 (x i).2.1 else .int .i64 (x i).2.2
theorem zcK (x:Nat->Int × Int × Int) (i j:Nat):(edgeCell x i j).oneCell'=true:=by
 unfold edgeCell
 split
 ·rfl
 ·split <;> rfl
theorem Tryz.infoEdge:(Tryz.prog.info? 90).map (fun i=>(i.zero,i.size,i.bytes))=some (some (.agg #[.int .i64 0,.int .i64 0,.int .i64 0]),3,24):=by kernel_rfl
theorem Tryz.infoEdges:(Tryz.prog.info? 86).map (fun i=>(i.zero,i.size,i.bytes))=some (some (.slice none 0 0),1,24):=by kernel_rfl
theorem zar {w:World} {base b n n' s:Nat} {t e:TypeId} {F:Nat->Value} {v:Value} {f:Nat->Nat->Value} (h:w.rowIs b t n F) (h':Own w base e s v n' f) (hne:t≠e):v.ownBlock≠some b:=by
 rcases h' with ⟨rfl,_⟩ | ⟨g',o',cap',cur',rfl,_,a,_⟩
 ·simp [Value.ownBlock]
 intro e1
 simp [Value.ownBlock] at e1
 subst e1
 obtain ⟨cs,h1,_⟩:=h
 rw [a] at h1
 injection h1 with h1
 injection h1 with _ h1
 exact hne h1.symm
theorem zba {w:World} {ops:Array Oper} {rest:List Oper} {o:Oper} {a:Act} {Q:Exit->Act->World->Prop} (hgd:o.guard=none) (sl x:Operand)
  (ho:o.op=.call { callee:=.builtin .append,args:=#[sl,x],argTypes:=#[22, 22] })
  {base:Nat} {v:Value} {k:Nat} {f:Nat->Int} (h:Own w base 3 1 v k (fun i _=>.int .i64 (f i))) (hv:a.eval sl=v) {ad:Addr} {c:Nat} (hx:a.eval x=.slice (some ad) 1 c)
  (hcell:w.cell? (ad.add 0)=some (.int .i64 (f k))) (hbase:base<=w.heap.size) (hN:k<=1048576)
  (K:∀ v' w',Own w' base 3 1 v' (k+1) (fun i _=>.int .i64 (f i))->w.grownBy w' v.ownBlock->(v'.ownBlock=v.ownBlock∨v'.ownBlock=some w.heap.size)->wpList Tryz.prog ops Q rest (a.put o.dst v') w'):wpList Tryz.prog ops Q (o :: rest) a w:=by
 obtain ⟨i0,qi0,qz0,qz1,qz2⟩:=info_parts Tryz.infoInt
 refine zal w hgd sl x _ ho base 3 i0 _ 1 8 Tryz.underlying22 qi0 qz0 qz1 qz2 rfl (by omega) v k _ hv h ad c hx (fun j hj=>by
   obtain rfl:j=0:=by omega
   exact hcell) (fun _ _=>rfl) (by unfold maxLen; omega) (by omega) hbase ?_
 intro v' w3 hown3 hg3 hat3
 exact K v' w3 hown3 hg3 hat3
theorem zb4 {w:World} {ops:Array Oper} {rest:List Oper} {o:Oper} {a:Act} {Q:Exit->Act->World->Prop} (hgd:o.guard=none) (sl x:Operand)
  (ho:o.op=.call { callee:=.builtin .append,args:=#[sl,x],argTypes:=#[86, 86] })
  {base:Nat} {v:Value} {k:Nat} {f:Nat->Int × Int × Int} (h:Own w base 90 3 v k (edgeCell f)) (hv:a.eval sl=v) {ad:Addr} {c:Nat} (hx:a.eval x=.slice (some ad) 1 c)
  (hcell:∀ j,j<3->w.cell? (ad.add j)=some (edgeCell f k j)) (hbase:base<=w.heap.size) (hN:k<=1048576)
  (K:∀ v' w',Own w' base 90 3 v' (k+1) (edgeCell f)->w.grownBy w' v.ownBlock->(v'.ownBlock=v.ownBlock∨v'.ownBlock=some w.heap.size)->wpList Tryz.prog ops Q rest (a.put o.dst v') w'):wpList Tryz.prog ops Q (o :: rest) a w:=by
 obtain ⟨i0,qi0,qz0,qz1,qz2⟩:=info_parts Tryz.infoEdge
 exact zal w hgd sl x _ ho base 90 i0 _ 3 24 Tryz.underlying86 qi0 qz0 qz1 qz2 rfl (by omega) v k _ hv h ad c hx hcell (fun _ _=>zcK _ _ _) (by unfold maxLen; omega) (by omega) hbase K
theorem zcL {w:World} {ops:Array Oper} {o:Oper} {a:Act} {K:Act->World->Prop} {Q:Exit->Act->World->Prop} {E:Prop} (hgd:o.guard=none) (sl x:Operand)
  (ho:o.op=.call { callee:=.builtin .append,args:=#[sl,x],argTypes:=#[86, 86] })
  {base:Nat} {v:Value} {k:Nat} {f:Nat->Int × Int × Int} (h:Own w base 90 3 v k (edgeCell f)) (hv:a.eval sl=v) {ad:Addr} {c:Nat} (hx:a.eval x=.slice (some ad) 1 c)
  (hcell:∀ j,j<3->w.cell? (ad.add j)=some (edgeCell f k j)) (hbase:base<=w.heap.size) (hN:k<=1048576)
  (K':∀ v' w',Own w' base 90 3 v' (k+1) (edgeCell f)->w.grownBy w' v.ownBlock->(v'.ownBlock=v.ownBlock∨v'.ownBlock=some w.heap.size)->K (a.put o.dst v') w') :
  if Region.wanted o (yielded ops a.tmps)=true then Oper.wp Tryz.prog o a w K Q else E:=by
 obtain ⟨i0,qi0,qz0,qz1,qz2⟩:=info_parts Tryz.infoEdge
 exact zbz w hgd sl x _ ho base 90 i0 _ 3 24 Tryz.underlying86 qi0 qz0 qz1 qz2 rfl (by omega) v k _ hv h ad c hx hcell (fun _ _=>zcK _ _ _) (by unfold maxLen; omega) (by omega) hbase K'
def ETab (w:World) (base:Nat) (v:Value) (n:Nat) (el:Nat->Nat) (y:Nat->Nat->Int × Int × Int):Prop :=
 ∃ R:Nat->Value,Own w base 86 1 v n (fun i _=>R i)/\∀ i,i<n->Own w base 90 3 (R i) (el i) (edgeCell (y i))
section
variable {w w':World} {base n:Nat} {v:Value} {el:Nat->Nat} {y:Nat->Nat->Int × Int × Int}
theorem ETab.nil (w:World) (base:Nat) (el:Nat->Nat) (y:Nat->Nat->Int × Int × Int):ETab w base (.slice none 0 0) 0 el y:=⟨fun _=>undef,Own.nil _ _ _ _ _,fun i hi=>absurd hi (by omega)⟩
theorem ETab.on (h:ETab w base v n el y) (hb:Below w.heap.size w w'):ETab w' base v n el y:=by
 obtain ⟨R,h1,h2⟩:=h
 exact ⟨R,h1.on hb,fun i hi=>(h2 i hi).on hb⟩
theorem ETab.shape (h:ETab w base v n el y):∃ A c,v=.slice A n c:=h.choose_spec.1.shape
theorem ETab.setCell (h:ETab w base v n el y) {t:TypeId} {m:Nat} {F:Nat->Value} {b i:Nat} (hr:w.rowIs b t m F) (h1:t ≠ 86) (h2:t ≠ 90) (u:Value):ETab (w.setCell ⟨b,i,none⟩ u) base v n el y:=by
 obtain ⟨R,k1,k2⟩:=h
 exact ⟨R,k1.setCell (zar hr k1 h1) u,fun i hi=>(k2 i hi).setCell (zar hr (k2 i hi) h2) u⟩
theorem ETab.congr {el':Nat->Nat} {y':Nat->Nat->Int × Int × Int} (h:ETab w base v n el y) (h1:∀ i,i<n->el i=el' i) (h2:∀ i,i<n->∀ j,j<el i->y i j=y' i j):ETab w base v n el' y':=by
 obtain ⟨R,k1,k2⟩:=h
 refine ⟨R,k1,fun i hi=>?_⟩
 rw [<-h1 i hi]
 exact (k2 i hi).congr fun j hj q _=>by unfold edgeCell; rw [h2 i hi j hj]
theorem zch {ops:Array Oper} {rest:List Oper} {o:Oper} {a:Act} {Q:Exit->Act->World->Prop} (hgd:o.guard=none) (sl x:Operand)
  (ho:o.op=.call { callee:=.builtin .append,args:=#[sl,x],argTypes:=#[51, 51] })
  (h:ETab w base v n el y) (hv:a.eval sl=v) {ad:Addr} {c:Nat} {r:Value} (hx:a.eval x=.slice (some ad) 1 c)
  (hcell:w.cell? (ad.add 0)=some r) (h1:r.oneCell'=true) (hrow:Own w base 90 3 r (el n) (edgeCell (y n))) (hbase:base<=w.heap.size) (hN:n<=1048576)
  (K:∀ v' w',ETab w' base v' (n+1) el y->w.grownBy w' v.ownBlock->wpList Tryz.prog ops Q rest (a.put o.dst v') w'):wpList Tryz.prog ops Q (o :: rest) a w:=by
 obtain ⟨R,hA,hB⟩:=h
 obtain ⟨i0,qi0,qz0,qz1,qz2⟩:=info_parts Tryz.infoEdges
 have ne:(86 : Nat) ≠ 90 := by decide
 have b:Own w base 86 1 v n (fun i _=>if i=n then r else R i):=hA.congr fun i hi _ _=>by rw [if_neg (by omega)]
 refine zal w hgd sl x _ ho base 86 i0 _ 1 24 Tryz.underlying51 qi0 qz0 qz1 qz2 rfl (by omega) v n _ hv b ad c hx (fun j hj=>by
   obtain rfl:j=0:=by omega
   rw [if_pos rfl]
   exact hcell) (fun _ _=>by rw [if_pos rfl]; exact h1) (by unfold maxLen; omega) (by omega) hbase ?_
 intro v' w3 hown3 hg3 _
 refine K v' w3 ⟨fun i=>if i=n then r else R i,hown3,fun i hi=>?_⟩ hg3
 show Own w3 base _ 3 (if i=n then r else R i) _ _
 by_cases e:i=n
 ·subst e
  rw [if_pos rfl]
  exact hrow.kept hg3 (zbm hA hrow ne)
 ·rw [if_neg e]
  exact (hB i (by omega)).kept hg3 (zbm hA (hB i (by omega)) ne)
theorem ETab.reads {T:Trel} {wv:Value} (h:ETab w base v T.n T.el fun i j=>(T.fr i j,T.lb i j,T.to i j)) (hA:Own w base 3 1 wv T.nw (fun k _=>.int .i64 (T.W k)))
  (hW:∀ i,i<T.nw->InI64 (T.W i)) (hy:∀ i,i<T.n->∀ j,j<T.el i->InI64 (T.fr i j)/\InI64 (T.lb i j)/\InI64 (T.to i j)) (hnw:T.nw<=140737488351232) (hn:T.n<=140737488351232) (hel:∀ i,i<T.n->T.el i<=140737488351232) :
  ∃ A B c d,wv=.slice A T.nw c/\v=.slice B T.n d/\T.Reads w A B/\T.nw<=c/\c<=maxLen/\T.n<=d/\d<=maxLen:=by
 obtain ⟨R,k1,k2⟩:=h
 obtain ⟨A,c,rfl⟩:=hA.shape
 obtain ⟨B,d,rfl⟩:=k1.shape
 refine ⟨A,B,c,d,rfl,rfl,⟨hA.rd rfl,hW,fun i hi=>?_,hnw,hn,hel⟩,hA.capL.1,hA.capL.2,k1.capL.1,k1.capL.2⟩
 obtain ⟨b,off,e,hb,hc⟩:=k1.rd rfl i hi
 have a:=hc 0 (by omega)
 rw [Nat.mul_one,Nat.add_zero] at a
 have hr:=k2 i hi
 obtain ⟨E,ec,hR⟩:=hr.shape
 rw [hR] at hr
 simp only [hR] at a
 exact ⟨b,off,E,ec,e,hb,a,hr.capL.1,hr.capL.2,hr.rd rfl,hy i hi⟩
end
def cntB (D:Nat->Bool):Nat->Nat
 | 0=>0
 | n+1=>cntB D n+if D n then 1 else 0
theorem ziy (D:Nat->Bool):∀ n,cntB D n<=n
 | 0=>Nat.le_refl _
 | n+1=>by
  have:=ziy D n
  show cntB D n+(if D n then 1 else 0)<=n+1
  split <;> omega
def packB (q:Nat) (D:Nat->Bool) (c:Nat->Nat):Nat->Nat
 | 0=>0
 | n+1=>if D n then packB q D c n*q+c n else packB q D c n
theorem zb5 {q:Nat} {D:Nat->Bool} {c:Nat->Nat}:∀ n,(∀ s,s<n->c s<q)->packB q D c n<q ^ cntB D n
 | 0,_=>by show 0<q ^ 0; simp
 | n + 1, h => by
  have ih:=zb5 (D:=D) n fun s hs=>h s (by omega)
  have h1:=h n (by omega)
  show (if D n then packB q D c n*q+c n else packB q D c n)<q ^ (cntB D n+if D n then 1 else 0)
  split
  ·rw [Nat.pow_succ]
   have:=Nat.mul_le_mul_right q (show packB q D c n+1<=q ^ cntB D n from ih)
   rw [Nat.add_mul,Nat.one_mul] at this
   omega
  ·exact ih
theorem zdG {q:Nat} {D:Nat->Bool} {c c':Nat->Nat}:∀ n,(∀ s,s<n->c s<q)->(∀ s,s<n->c' s<q)->packB q D c n=packB q D c' n->∀ s,s<n->D s=true->c s=c' s
 | 0,_,_,_,s,hs,_=>absurd hs (by omega)
 | n + 1, h, h', e, s, hs, hD => by
  have e:(if D n then packB q D c n*q+c n else packB q D c n)=if D n then packB q D c' n*q+c' n else packB q D c' n:=e
  have h1:=h n (by omega)
  have h2:=h' n (by omega)
  have ih:=zdG (D:=D) (c:=c) (c':=c') n (fun s hs=>h s (by omega)) (fun s hs=>h' s (by omega))
  by_cases hn:D n=true
  ·rw [if_pos hn,if_pos hn] at e
   have e1:c n=c' n:=by
    have:=congrArg (· % q) e
    simp only [Nat.mul_add_mod_self_right,Nat.mod_eq_of_lt h1,Nat.mod_eq_of_lt h2] at this
    exact this
   have e2:packB q D c n=packB q D c' n:=by
    rw [e1] at e
    exact Nat.eq_of_mul_eq_mul_right (show 0<q by omega) (by omega)
   by_cases en:s=n
   ·rw [en]; exact e1
   ·exact ih e2 s (by omega) hD
  ·rw [if_neg hn,if_neg hn] at e
   by_cases en:s=n
   ·rw [en] at hD; exact absurd hD hn
   ·exact ih e s (by omega) hD
theorem zb6 {q:Nat} {D:Nat->Bool} {c c':Nat->Nat}:∀ n,(∀ s,s<n->D s=true->c s=c' s)->packB q D c n=packB q D c' n
 | 0,_=>rfl
 | n+1,h=>by
  show (if D n then packB q D c n*q+c n else packB q D c n)=if D n then packB q D c' n*q+c' n else packB q D c' n
  rw [zb6 n fun s hs=>h s (by omega)]
  by_cases hn:D n=true
  ·rw [if_pos hn,if_pos hn,h n (by omega) hn]
  ·rw [if_neg hn,if_neg hn]
theorem zaU {q:Nat} (hq:0<q) {D:Nat->Bool}:∀ n y,y<q ^ cntB D n->∃ c:Nat->Nat,(∀ s,c s<q)/\(∀ s,D s=false->c s=0)/\packB q D c n=y
 | 0,y,h=>by
  have h:y<q ^ 0:=h
  rw [Nat.pow_zero] at h
  exact ⟨fun _=>0,fun _=>hq,fun _ _=>rfl,by show 0=y; omega⟩
 | n + 1, y, h => by
  have h:y<q ^ (cntB D n+if D n then 1 else 0):=h
  by_cases hn:D n=true
  ·rw [if_pos hn,Nat.pow_succ] at h
   obtain ⟨c,h1,h2,h3⟩:=zaU hq (D:=D) n (y / q) (Nat.div_lt_of_lt_mul (by rw [Nat.mul_comm]; exact h))
   refine ⟨fun s=>if s=n then y % q else c s,fun s=>?_,fun s hs=>?_,?_⟩
   ·show (if s=n then y % q else c s)<q
    split
    ·exact Nat.mod_lt _ hq
    ·exact h1 s
   ·show (if s=n then y % q else c s)=0
    rw [if_neg (fun e=>by rw [e,hn] at hs; cases hs)]
    exact h2 s hs
   ·show (if D n then packB q D (fun s=>if s=n then y % q else c s) n*q+(if n=n then y % q else c n) else _)=y
    rw [if_pos hn,if_pos rfl,zb6 (c':=c) n fun s hs _=>if_neg (by omega),h3]
    exact Nat.div_add_mod' y q
  ·rw [if_neg hn,Nat.add_zero] at h
   obtain ⟨c,h1,h2,h3⟩:=zaU hq (D:=D) n y h
   refine ⟨c,h1,h2,?_⟩
   show (if D n then packB q D c n*q+c n else packB q D c n)=y
   rw [if_neg hn]; exact h3
section
variable {q n N:Nat} {add mul:Nat->Nat->Nat}
theorem zgI (hL:FieldLaws q add mul) {x y z:Nat} (hx:x<q) (hy:y<q) (hz:z<q) (h:add x y=add x z):y=z:=by
 obtain ⟨w,hw,e⟩:=hL.neg x hx
 have h2:add w (add x y)=add w (add x z):=by rw [h]
 rw [<-hL.addAssoc w x y hw hx hy,<-hL.addAssoc w x z hw hx hz,hL.addComm w x,e,hL.zeroAdd y hy,hL.zeroAdd z hz] at h2
 exact h2
theorem ziz (hL:FieldLaws q add mul) {R:Nat->Nat->Nat} {c c':Nat->Nat} {j s:Nat}:∀ n,s<n->(∀ t,t<n->t≠s->mul (c t) (R t j)=mul (c' t) (R t j))->spE add mul R c n j=spE add mul R c' n j->mul (c s) (R s j)=mul (c' s) (R s j)
 | 0,h,_,_=>absurd h (by omega)
 | n + 1, h, ht, e => by
  have e:add (spE add mul R c n j) (mul (c n) (R n j))=add (spE add mul R c' n j) (mul (c' n) (R n j)):=e
  by_cases hn:s=n
  ·subst hn
   have h1:∀ m,m<=s->spE add mul R c m j=spE add mul R c' m j:=by
    intro m
    induction m with
    | zero=>intro _; rfl
    | succ m ih =>
     intro hm
     show add (spE add mul R c m j) (mul (c m) (R m j))=add (spE add mul R c' m j) (mul (c' m) (R m j))
     rw [ih (by omega),ht m (by omega) (by omega)]
   rw [h1 s (Nat.le_refl _)] at e
   exact zgI hL (zcw hL _ _ _) (hL.mulLt _ _) (hL.mulLt _ _) e
  ·rw [ht n (by omega) (by omega),hL.addComm _ (mul (c' n) (R n j)),hL.addComm _ (mul (c' n) (R n j))] at e
   exact ziz hL n (by omega) (fun t h1 h2=>ht t (by omega) h2) (zgI hL (hL.mulLt _ _) (zcw hL _ _ _) (zcw hL _ _ _) e)
theorem zcM {R:Nat->Nat->Nat} {c c':Nat->Nat} {j:Nat}:∀ n,(∀ t,t<n->mul (c t) (R t j)=mul (c' t) (R t j))->spE add mul R c n j=spE add mul R c' n j
 | 0,_=>rfl
 | n+1,h=>by
  show add (spE add mul R c n j) (mul (c n) (R n j))=add (spE add mul R c' n j) (mul (c' n) (R n j))
  rw [zcM n fun t ht=>h t (by omega),h n (by omega)]
end
def rankOf (k:Nat->Nat) (n v:Nat):Nat:=(List.range n).countP fun u=>decide (k u<k v)
theorem zfa {p q:Nat->Bool} {l:List Nat} (h:∀ x,x ∈ l->p x=true->q x=true) {y:Nat} (hy:y ∈ l) (hq:q y=true) (hp:p y=false):l.countP p<l.countP q:=by
 induction l with
 | nil=>cases hy
 | cons a l ih =>
  have b:∀ l:List Nat,(∀ x,x ∈ l->p x=true->q x=true)->l.countP p<=l.countP q:=fun l h=>List.countP_mono_left h
  rw [List.countP_cons,List.countP_cons]
  rcases List.mem_cons.1 hy with rfl | hm
  ·rw [hp,hq]
   have:=b l fun x hx=>h x (by simp [hx])
   simp
   omega
  ·have h1:=ih (fun x hx=>h x (by simp [hx])) hm
   have h2:(if p a=true then 1 else 0)<=if q a=true then 1 else 0:=by
    by_cases e:p a=true
    ·rw [if_pos e,if_pos (h a (by simp) e)]
     exact Nat.le_refl _
    ·rw [if_neg e]
     exact Nat.zero_le _
   omega
theorem zfb {k:Nat->Nat} {n u v:Nat} (hu:u<n) (h:k u<k v):rankOf k n u<rankOf k n v:=by
 unfold rankOf
 exact zfa (fun x _ hx=>by simp at hx ⊢; omega) (List.mem_range.2 hu) (by simpa using h) (by simp)
theorem zeC {k:Nat->Nat} {n v:Nat} (hv:v<n):rankOf k n v<n:=by
 have h:=zfa (p:=fun u=>decide (k u<k v)) (q:=fun _=>true) (l:=List.range n) (fun _ _ _=>rfl) (List.mem_range.2 hv) rfl (by simp)
 unfold rankOf
 simpa using h
theorem zgJ {k:Nat->Nat} {n u v:Nat} (hk:∀ a b,a<n->b<n->k a=k b->a=b) (hu:u<n) (hv:v<n) (h:rankOf k n u=rankOf k n v):u=v:=by
 rcases Nat.lt_trichotomy (k u) (k v) with h1 | h1 | h1
 ·have:=zfb hu h1; omega
 ·exact hk u v hu hv h1
 ·have:=zfb hv h1; omega
theorem zcN {k:Nat->Nat} {n:Nat} {l:List Nat} (hp:l.Perm (List.range n)) (hs:∀ p q,p<q->q<l.length->k (l.getD p 0)<k (l.getD q 0)) {p:Nat} (h:p<l.length):rankOf k n (l.getD p 0)=p:=by
 unfold rankOf
 rw [<-hp.countP_eq]
 have b : ∀ (m : List Nat) (c : Nat), (∀ i, i < m.length → (decide (k (m.getD i 0) < k (l.getD p 0)) = true ↔ i < c)) → c ≤ m.length → m.countP (fun u => decide (k u < k (l.getD p 0))) = c := by
  intro m
  induction m with
  | nil=>intro c _ hc; simp at hc; simp [hc]
  | cons a m ih =>
   intro c h1 hc
   rw [List.countP_cons]
   have h0:=h1 0 (by simp)
   by_cases e:c=0
   ·subst e
    have ha:decide (k a<k (l.getD p 0))=false:=by
     cases hd:decide (k a<k (l.getD p 0)) with
     | false=>rfl
     | true=>exact absurd (h0.1 (by simpa using hd)) (by omega)
    rw [ih 0 (fun i hi=>by
     have:=h1 (i+1) (by simp; omega)
     constructor
     ·intro h2
      have:=this.1 (by simpa using h2)
      omega
     ·intro h2; omega) (by omega),ha]
    simp
   ·have ha:decide (k a<k (l.getD p 0))=true:=by simpa using h0.2 (by omega)
    rw [ih (c - 1) (fun i hi=>by
     have:=h1 (i+1) (by simp; omega)
     constructor
     ·intro h2
      have:=this.1 (by simpa using h2)
      omega
     ·intro h2
      have:=this.2 (by omega)
      simpa using this) (by simp at hc; omega),ha]
    simp
    omega
 refine b l p (fun i hi=>?_) (by omega)
 rw [decide_eq_true_iff]
 constructor
 ·intro h1
  rcases Nat.lt_trichotomy i p with h2 | h2 | h2
  ·exact h2
  ·subst h2; omega
  ·have:=hs p i h2 hi; omega
 ·intro h1
  exact hs i p h1 h
theorem Trel.ord {T:Trel} {i:Nat} (h:T.secOk i):∀ q j,j<q->q<T.el i->T.fr i j<T.fr i q∨T.fr i j=T.fr i q/\T.lb i j<T.lb i q:=by
 intro q
 induction q with
 | zero=>intro j hj; omega
 | succ q ih =>
  intro j hj hq
  have h1:T.fr i q<T.fr i (q+1)∨T.fr i q=T.fr i (q+1)/\T.lb i q<T.lb i (q+1):=(h.1 (q+1) hq).2.2 (by omega)
  by_cases e:j=q
  ·subst e; exact h1
  ·have h2:=ih j (by omega) (by omega)
   omega
def grp (g:Nat->Nat) (e u:Nat):List Nat:=(List.range u).flatMap fun a=>(List.range e).filter fun j=>g j=a
theorem zjM {g:Nat->Nat} {e u j:Nat}:j ∈ grp g e u↔j<e/\g j<u:=by
 unfold grp
 simp only [List.mem_flatMap,List.mem_range,List.mem_filter,decide_eq_true_eq]
 constructor
 ·rintro ⟨a,h1,h2,h3⟩; exact ⟨h2,by omega⟩
 ·rintro ⟨h1,h2⟩; exact ⟨g j,h2,h1,rfl⟩
theorem zcO {g:Nat->Nat} {e u:Nat} {R:Nat->Nat->Prop} (h1:∀ a b,a<e->b<e->g a<g b->R a b) (h2:∀ a b,a<b->b<e->g a=g b->R a b):(grp g e u).Pairwise R:=by
 unfold grp
 rw [List.pairwise_flatMap]
 refine ⟨fun a _=>?_,?_⟩
 ·refine List.Pairwise.filter _ ?_ |>.imp_of_mem ?_ (R:=fun x y=>x<y)
  ·exact List.pairwise_lt_range
  intro x y hx hy hxy
  simp only [List.mem_filter,List.mem_range,decide_eq_true_eq] at hx hy
  exact h2 x y hxy hy.1 (by omega)
 refine List.pairwise_lt_range.imp ?_
 intro a b hab x hx y hy
 simp only [List.mem_filter,List.mem_range,decide_eq_true_eq] at hx hy
 exact h1 x y hx.1 hy.1 (by omega)
theorem zi5 {g:Nat->Nat} {e u:Nat} (h:∀ j,j<e->g j<u):(grp g e u).Perm (List.range e):=by
 refine (List.perm_ext_iff_of_nodup ?_ List.nodup_range).2 fun j=>?_
 ·exact zcO (fun a b _ _ h e=>by subst e; omega) (fun a b h _ _ e=>by omega)
 ·rw [zjM,List.mem_range]
  exact ⟨fun h=>h.1,fun hj=>⟨hj,h j hj⟩⟩
def firsts (l:List Nat):List Nat:=l.foldl (fun a v=>if v ∈ a then a else a ++ [v]) []
theorem zd4 (l:List Nat) (v:Nat):firsts (l ++ [v])=if v ∈ firsts l then firsts l else firsts l ++ [v]:=by
 unfold firsts
 rw [List.foldl_append]
 rfl
theorem zd5 {l:List Nat} {v:Nat}:v ∈ firsts l↔v ∈ l:=by
 have b : ∀ m : List Nat, v ∈ firsts m.reverse ↔ v ∈ m.reverse := by
  intro m
  induction m with
  | nil=>exact Iff.rfl
  | cons a m ih =>
   rw [List.reverse_cons,zd4,List.mem_append,<-ih]
   by_cases h:a ∈ firsts m.reverse
   ·rw [if_pos h]
    constructor
    ·exact .inl
    ·rintro (h1 | h1)
     ·exact h1
     ·obtain rfl:v=a:=by simpa using h1
      exact h
   ·rw [if_neg h,List.mem_append]
 have:=b l.reverse
 rwa [List.reverse_reverse] at this
theorem zc3 {R:Nat->Nat->Prop} {f:Nat->Nat} {V:List Nat} (h:∀ A B j,V=A ++ j :: B->(∀ a,a ∈ A->f a≠f j)->∀ a,a ∈ A->R (f a) (f j)):(firsts (V.map f)).Pairwise R:=by
 have c:∀ (m B:List Nat),V=m.reverse ++ B->(firsts (m.reverse.map f)).Pairwise R:=by
  intro m
  induction m with
  | nil=>intro B _; exact List.Pairwise.nil
  | cons a m ih =>
   intro B hB
   rw [List.reverse_cons,List.append_assoc] at hB
   have h1:=ih _ hB
   rw [List.reverse_cons,List.map_append,List.map_singleton,zd4]
   by_cases hm:f a ∈ firsts (m.reverse.map f)
   ·rw [if_pos hm]; exact h1
   ·rw [if_neg hm,List.pairwise_append]
    refine ⟨h1,List.pairwise_singleton _ _,?_⟩
    intro x hx y hy
    obtain rfl:y=f a:=by simpa using hy
    rw [zd5,List.mem_map] at hx hm
    obtain ⟨q,hq,rfl⟩:=hx
    exact h m.reverse B a hB (fun b hb e=>hm ⟨b,hb,e⟩) q hq
 have:=c V.reverse [] (by simp)
 rwa [List.reverse_reverse] at this
def Trel.code (T:Trel) (f:Nat->Nat) (i j:Nat):Nat:=f (T.fr i j).toNat*256+(T.lb i j).toNat
def Trel.kt (T:Trel) (f:Nat->Nat) (i:Nat):Nat->Nat->Nat
 | 0,_=>1099511627776
 | j+1,v=>if (T.to i j).toNat=v/\T.code f i j<T.kt f i j v then T.code f i j else T.kt f i j v
def Trel.nm (T:Trel):Nat->Nat->Nat
 | 0,_=>0
 | i+1,v=>rankOf (T.kt (T.nm i) i (T.el i)) (T.W (i+1)).toNat v
def Trel.tri (T:Trel) (i j:Nat):Int × Int × Int:=((T.nm i (T.fr i j).toNat:Nat),T.lb i j,(T.nm (i+1) (T.to i j).toNat:Nat))
section
variable {T:Trel} {f:Nat->Nat} {i:Nat}
theorem Trel.kt_le:∀ {j q:Nat},q<j->T.kt f i j (T.to i q).toNat<=T.code f i q:=by
 intro j
 induction j with
 | zero=>intro q h; omega
 | succ j ih =>
  intro q h
  unfold Trel.kt
  by_cases e:q=j
  ·subst e
   split
   ·exact Nat.le_refl _
   ·rename_i h1
    simp at h1
    exact h1
  ·have h1:=ih (q:=q) (by omega)
   split
   ·omega
   ·exact h1
theorem Trel.kt_att:∀ {j v:Nat},T.kt f i j v=1099511627776∨∃ q,q<j/\(T.to i q).toNat=v/\T.kt f i j v=T.code f i q:=by
 intro j v
 induction j with
 | zero=>exact .inl rfl
 | succ j ih =>
  unfold Trel.kt
  split
  ·rename_i h
   exact .inr ⟨j,by omega,h.1,rfl⟩
  ·rcases ih with h | ⟨q,h1,h2,h3⟩
   ·exact .inl h
   ·exact .inr ⟨q,by omega,h2,h3⟩
end
section
variable {T:Trel} (h:T.Proper)
include h
theorem Trel.Proper.nm_lt {i v:Nat} (hi:i<=T.n) (hv:v<(T.W i).toNat):T.nm i v<(T.W i).toNat:=by
 match i with
 | 0=>rw [h.w0]; show 0<_; decide
 | i+1=>exact zeC hv
theorem Trel.Proper.frL {i j:Nat} (hi:i<T.n) (hj:j<T.el i):(T.fr i j).toNat<(T.W i).toNat/\(((T.fr i j).toNat:Nat):Int)=T.fr i j:=by
 have:=h.shape.ins i hi j hj
 unfold Trel.inside at this
 omega
theorem Trel.Proper.toL {i j:Nat} (hi:i<T.n) (hj:j<T.el i):(T.to i j).toNat<(T.W (i+1)).toNat/\(((T.to i j).toNat:Nat):Int)=T.to i j:=by
 have:=h.shape.ins i hi j hj
 unfold Trel.inside at this
 omega
theorem Trel.Proper.lbL {i j:Nat} (hi:i<T.n) (hj:j<T.el i):(T.lb i j).toNat<256/\(((T.lb i j).toNat:Nat):Int)=T.lb i j:=by
 have:=(h.sec i hi).1 j hj
 unfold Trel.edgeOk at this
 omega
theorem Trel.Proper.code_lt {i j:Nat} (hi:i<T.n) (hj:j<T.el i):T.code (T.nm i) i j<16777216:=by
 have h1:=h.nm_lt (by omega) (h.frL hi hj).1
 have h2:=(h.shape.wid (i:=i) (by omega)).2
 have h3:=(h.lbL hi hj).1
 unfold Trel.code
 omega
theorem Trel.Proper.kt_hit {i v:Nat} (hi:i<T.n) (hv:v<(T.W (i+1)).toNat):∃ q,q<T.el i/\(T.to i q).toNat=v/\T.kt (T.nm i) i (T.el i) v=T.code (T.nm i) i q:=by
 obtain ⟨j,hj,e⟩:=za8.1 ((h.sec i hi).2.2 v hv)
 have e2:(T.to i j).toNat=v:=by omega
 have h1:=Trel.kt_le (T:=T) (f:=T.nm i) (i:=i) hj
 have h2:=h.code_lt hi hj
 rw [e2] at h1
 rcases Trel.kt_att (T:=T) (f:=T.nm i) (i:=i) (j:=T.el i) (v:=v) with h3 | h3
 ·omega
 ·exact h3
theorem Trel.Proper.code_inj {i:Nat} (hi:i<T.n) (hn:∀ u v,u<(T.W i).toNat->v<(T.W i).toNat->T.nm i u=T.nm i v->u=v) {j q:Nat} (hj:j<T.el i) (hq:q<T.el i) (e:T.code (T.nm i) i j=T.code (T.nm i) i q):j=q:=by
 have h1:=h.lbL hi hj
 have h2:=h.lbL hi hq
 unfold Trel.code at e
 have e1:T.nm i (T.fr i j).toNat=T.nm i (T.fr i q).toNat:=by omega
 have e2:=hn _ _ (h.frL hi hj).1 (h.frL hi hq).1 e1
 have h3:=h.frL hi hj
 have h4:=h.frL hi hq
 rcases Nat.lt_trichotomy j q with h5 | h5 | h5
 ·have:=Trel.ord (h.sec i hi) q j h5 hq; omega
 ·exact h5
 ·have:=Trel.ord (h.sec i hi) j q h5 hj; omega
theorem Trel.Proper.key_inj {i:Nat} (hi:i<T.n) (hn:∀ u v,u<(T.W i).toNat->v<(T.W i).toNat->T.nm i u=T.nm i v->u=v) (u v:Nat) (hu:u<(T.W (i+1)).toNat) (hv:v<(T.W (i+1)).toNat)
  (e:T.kt (T.nm i) i (T.el i) u=T.kt (T.nm i) i (T.el i) v):u=v:=by
 obtain ⟨j,hj,e1,e2⟩:=h.kt_hit hi hu
 obtain ⟨q,hq,e3,e4⟩:=h.kt_hit hi hv
 have:=h.code_inj hi hn hj hq (by omega)
 subst this
 omega
theorem Trel.Proper.nm_inj:∀ {i:Nat},i<=T.n->∀ u v,u<(T.W i).toNat->v<(T.W i).toNat->T.nm i u=T.nm i v->u=v:=by
 intro i
 induction i with
 | zero=>intro _ u v hu hv _; rw [h.w0] at hu hv; have:(1:Int).toNat=1:=rfl; omega
 | succ i ih =>
  intro hi u v hu hv e
  exact zgJ (fun a b ha hb hab=>h.key_inj (by omega) (ih (by omega)) a b ha hb hab) hu hv e
theorem Trel.Proper.keys {i:Nat} (hi:i<T.n) (u v:Nat) (hu:u<(T.W (i+1)).toNat) (hv:v<(T.W (i+1)).toNat)
  (e:T.kt (T.nm i) i (T.el i) u=T.kt (T.nm i) i (T.el i) v):u=v:=h.key_inj hi (h.nm_inj (by omega)) u v hu hv e
end
def SecRen (T:Trel) (i:Nat) (y:Nat->Int × Int × Int):Prop :=
 ((List.range (T.el i)).map y).Perm ((List.range (T.el i)).map (T.tri i))/\∀ p q,p<q->q<T.el i->ltE (y p) (y q)
def IsRen (T:Trel) (y:Nat->Nat->Int × Int × Int):Prop:=∀ i,i<T.n->SecRen T i (y i)
theorem zaF {α:Type} {R:α->α->Prop} {n:Nat} {y:Nat->α}:((List.range n).map y).Pairwise R↔∀ p q,p<q->q<n->R (y p) (y q):=by
 rw [List.pairwise_iff_getElem]
 constructor
 ·intro h p q hpq hq
  have:=h p q (by simp; omega) (by simpa using hq) hpq
  simpa using this
 intro h p q hp hq hpq
 have:=h p q hpq (by simpa using hq)
 simpa using this
def Trel.vis (T:Trel) (i:Nat):List Nat:=grp (fun j=>T.nm i (T.fr i j).toNat) (T.el i) (T.W i).toNat
section
variable {T:Trel} (h:T.Proper)
include h
theorem Trel.Proper.vis_perm {i:Nat} (hi:i<T.n):(T.vis i).Perm (List.range (T.el i)):=zi5 fun _ hj=>h.nm_lt (by omega) (h.frL hi hj).1
theorem Trel.Proper.code_mono {i:Nat} (hi:i<T.n) {a b:Nat} (ha:a<T.el i) (hb:b<T.el i) (e:T.nm i (T.fr i a).toNat<T.nm i (T.fr i b).toNat∨T.nm i (T.fr i a).toNat=T.nm i (T.fr i b).toNat/\a<b):T.code (T.nm i) i a<T.code (T.nm i) i b:=by
 have h1:=h.lbL hi ha
 have h2:=h.lbL hi hb
 unfold Trel.code
 rcases e with e | ⟨e,h3⟩
 ·omega
 have e2:=h.nm_inj (by omega) _ _ (h.frL hi ha).1 (h.frL hi hb).1 e
 have h5:=h.frL hi ha
 have h6:=h.frL hi hb
 have:=Trel.ord (h.sec i hi) b a h3 hb
 omega
theorem Trel.Proper.vis_code {i:Nat} (hi:i<T.n):(T.vis i).Pairwise fun a b=>T.code (T.nm i) i a<T.code (T.nm i) i b :=
 zcO (fun _ _ ha hb e=>h.code_mono hi ha hb (.inl e)) (fun _ _ hab hb e=>h.code_mono hi (by omega) hb (.inr ⟨e,hab⟩))
theorem Trel.Proper.next_perm {i:Nat} (hi:i<T.n):(firsts ((T.vis i).map fun j=>(T.to i j).toNat)).Perm (List.range (T.W (i+1)).toNat) /\
  ∀ v,v<(T.W (i+1)).toNat->(firsts ((T.vis i).map fun j=>(T.to i j).toNat)).idxOf v=T.nm (i+1) v:=by
 have c:(firsts ((T.vis i).map fun j=>(T.to i j).toNat)).Pairwise fun a b=>T.kt (T.nm i) i (T.el i) a<T.kt (T.nm i) i (T.el i) b:=by
  refine zc3 (f:=fun j=>(T.to i j).toNat) ?_
  intro A B j hV hne a ha
  have c:=h.vis_code hi
  have hm:∀ x,x ∈ T.vis i->x<T.el i:=fun x hx=>by simpa using (h.vis_perm hi).mem_iff.1 hx
  rw [hV] at c hm
  have m:=hm a (by simp [ha])
  have l:=hm j (by simp)
  have h1:T.kt (T.nm i) i (T.el i) (T.to i a).toNat<=T.code (T.nm i) i a:=Trel.kt_le m
  have h2:T.code (T.nm i) i a<T.code (T.nm i) i j:=(List.pairwise_append.1 c).2.2 a ha j (by simp)
  obtain ⟨q,hq,e1,e2⟩:=h.kt_hit hi (h.toL hi l).1
  have g:q ∈ A ++ j :: B:=hV ▸ (h.vis_perm hi).mem_iff.2 (List.mem_range.2 hq)
  show T.kt (T.nm i) i (T.el i) (T.to i a).toNat<T.kt (T.nm i) i (T.el i) (T.to i j).toNat
  rw [e2]
  rcases List.mem_append.1 g with hqA | hqB
  ·exact absurd e1 (hne q hqA)
  rcases List.mem_cons.1 hqB with rfl | hqB
  ·omega
  ·have h3:=(List.pairwise_cons.1 (List.pairwise_append.1 c).2.1).1 q hqB
   omega
 have hp:(firsts ((T.vis i).map fun j=>(T.to i j).toNat)).Perm (List.range (T.W (i+1)).toNat):=by
  refine (List.perm_ext_iff_of_nodup (c.imp fun {a b} hab e=>by subst e; omega) List.nodup_range).2 fun v=>?_
  rw [zd5,List.mem_map,List.mem_range]
  constructor
  ·rintro ⟨j,hj,rfl⟩
   exact (h.toL hi (by simpa using (h.vis_perm hi).mem_iff.1 hj)).1
  intro hv
  obtain ⟨j,hj,e⟩:=za8.1 ((h.sec i hi).2.2 v hv)
  exact ⟨j,(h.vis_perm hi).mem_iff.2 (List.mem_range.2 hj),by omega⟩
 refine ⟨hp,fun v hv=>?_⟩
 have hm:=hp.mem_iff.2 (List.mem_range.2 hv)
 obtain ⟨N,hN⟩:=exx (firsts ((T.vis i).map fun j=>(T.to i j).toNat))
 rw [<-hN] at hm hp c ⊢
 have d:=List.idxOf_lt_length_iff.2 hm
 have hg:N.getD (N.idxOf v) 0=v:=by
  rw [List.getD_eq_getElem?_getD,List.getElem?_eq_getElem d,List.getElem_idxOf]
  rfl
 have h1:=zcN (k:=T.kt (T.nm i) i (T.el i)) hp (fun p q hpq hq=>by
  rw [List.getD_eq_getElem?_getD,List.getD_eq_getElem?_getD,List.getElem?_eq_getElem (by omega),List.getElem?_eq_getElem hq]
  exact List.pairwise_iff_getElem.1 c p q _ _ hpq) d
 rw [hg] at h1
 exact h1.symm
end
end Go.Proofs.YtgekjfpapmlndaaGreat