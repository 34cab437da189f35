/- Merged texts of a claim: RefForward, RefPaths, Same11, SynPl, SynMem, Syn. -/
import Derived.Test.YtioagplajkoohaaGreatTQ2
import Derived.Test.YtioagplajkoohaaGreatTQ3
import Derived.Test.YtioagplajkoohaaGreatTQ6
import Derived.Test.YtioagplajkoohaaGreatTQ9
import Derived.Test.YtioagplajkoohaaGreatTQ10
import Derived.Test.YtioagplajkoohaaGreatTQ12
import Derived.Test.YtioagplajkoohaaGreatTQ13
namespace Go.Proofs.YtioagplajkoohaaGreat
set_option maxRecDepth 100000
set_option maxHeartbeats 32000000
open KA KB KC KD KE KF
open Go.RowKit
theorem zcq (w:World) (o:Obj) (r:Option Nat):w.grownBy (w.alloc o) r:=⟨rfl,rfl,rfl,by simp,fun k hk _=>Below.heap_alloc w o k hk⟩
theorem zg1 (w:World) (B:Nat) (A:Option Addr):NatOk w B A 0:=fun i hi=>by
 rw [zaT] at hi
 omega
theorem zde {w:World} {base n:Nat} (hb:base<=w.heap.size) (hn:n<=maxLen) :
  NatOwn (w.alloc (Obj.cells (madeCells #[Value.slice none 0 0] n) 47)) base (.slice (some ⟨w.heap.size,0,none⟩) n n) n (fun _=>0):=by
 have hr:=World.rowIs_made w (.slice none 0 0) n 47
 refine ⟨fun _ _=>.slice none 0 0,Own.new hb (Nat.le_refl _) hn (by simp [size_madeCells]) (fun k hk j hj=>?_),fun q hq=>?_,fun i hi=>⟨none,0,by rw [zaT],zg1 _ _ _,by rw [zaT]; omega,by unfold maxLen; omega⟩⟩
 ·obtain rfl:j=0:=by omega
  have hc:=hr.cell hk
  rw [World.cell?_alloc_at _ _ _ _ rfl] at hc;rw [Nat.mul_one,Nat.add_zero]
  exact hc
 ·obtain rfl:w.heap.size=q:=by simpa [Value.ownBlock] using hq
  exact zdN hr fun i _ u e=>by cases e
def RefFwdPost (T:Trel) (x:Nat->Nat->Nat) (w:World) (e:Ending) (w':World):Prop :=
 ∃ g F,e=.returned (.slice (some ⟨g,0,none⟩) T.nw T.nw)/\w.heap.size<=g/\NumTab w' g (g+1) T.nw F (fun v=>(T.W v).toNat) x/\Below w.heap.size w w'
theorem zc4 (T:Trel) (A B V:Option Addr) (c d vc:Nat) (y:Nat->Nat->Nat) (w:World) (h:T.Reads w A B) (hs:T.Shape) (hv:VTab w V T.n T.el y) (hy:∀ i,i<T.n->∀ j,j<T.el i->y i j<=1) :
  Calls Tryz.prog 235 #[.agg #[.slice A T.nw c,.slice B T.n d],.slice V T.n vc] w (RefFwdPost T (T.fwd y) w):=by
 obtain ⟨RB,hRB⟩:∃ o,o=(Obj.cells #[.slice A T.nw c,.slice B T.n d] 74):=⟨_,rfl⟩
 have hB0:Below (w.heap.size+1) (w.alloc RB) (w.alloc RB):=Below.refl _ _
 have HS:Hid (∀ w',Below (w.heap.size+1) (w.alloc RB) w'->(w'.cell? ⟨w.heap.size,0,none⟩=some (.slice A T.nw c)/\w'.cell? ⟨w.heap.size,1,none⟩=some (.slice B T.n d))/\Below w.heap.size w w'):=fun w' hB=>by
  have hB':=zay hB
  subst hRB
  exact ⟨⟨tbox hB rfl,tbox hB rfl⟩,hB'⟩
 obtain ⟨⟨p0,p1⟩,hW⟩:=HS.out _ hB0
 have HSH:=hid hs
 have HR:=hid h
 have HV:=hid hv
 have HY:=hid hy
 have hn64:=hs.n64
 have hnw65:T.nw<=65:=by have:=hs.nw; omega
 have hmk:=fun W=>zaf (P:=Tryz.prog) 196 107 _ 24 Tryz.underlying196 Tryz.infoNats rfl (T.nw:Int) (by omega) (by omega) (by omega) W
 simp only [Int.toNat_natCast] at hmk
 clear h hs hv hy
 go_enter Tryz.func235, Tryz.ntmps235
 go_wp2_with fail
 rw [<-hRB]
 go_upto_region 2 with fail
 obtain ⟨W2,hW2⟩:∃ W,W=w.alloc RB:=⟨_,rfl⟩
 have hsz2:W2.heap.size=w.heap.size+1:=by rw [hW2]; simp
 have HS2:Hid (∀ w',Below (w.heap.size+1) W2 w'->(w'.cell? ⟨w.heap.size,0,none⟩=some (.slice A T.nw c)/\w'.cell? ⟨w.heap.size,1,none⟩=some (.slice B T.n d))/\Below w.heap.size w w'):=by rw [hW2]; exact HS
 rw [<-hW2] at hB0 ⊢
 obtain ⟨g,hg⟩:∃ g,g=w.heap.size+1:=⟨_,rfl⟩
 have hgz:g=W2.heap.size:=by omega
 have hr3:=World.rowIs_made W2 (.slice none 0 0) T.nw 107
 have hB3:=zai hB0 (Nat.le_of_eq hsz2.symm) ((Below.refl W2.heap.size W2).alloc (Nat.le_refl _) (Obj.cells (madeCells #[Value.slice none 0 0] T.nw) 107))
 have hl3:w.heap.size+1<(W2.alloc (Obj.cells (madeCells #[Value.slice none 0 0] T.nw) 107)).heap.size:=by simp; omega
 obtain ⟨W3,hW3⟩:∃ W,W=W2.alloc (Obj.cells (madeCells #[Value.slice none 0 0] T.nw) 107):=⟨_,rfl⟩
 rw [<-hgz] at hr3;rw [<-hW3] at hr3 hB3 hl3 ⊢;rw [<-hg]
 have hT3:NumTab W3 g (g+1) T.nw (fun _=>.slice none 0 0) (fun v=>if v<0 then (T.W v).toNat else 0) (fun _ _=>0):=(zbQ hr3).congr (fun v _=>(if_neg (by omega)).symm) (fun v _ k hk=>rfl)
 have hg2:w.heap.size+1<=g:=by omega
 clear hW3 hgz hg hr3 hW2 HS hB0 hmk hRB hsz2 p0 p1 hW
 obtain ⟨⟨p0,p1⟩,hW⟩:=HS2.out _ hB3
 go_wp2
 go_loopg [6] T.nw (fun gg iv wx=>∃ (k:Nat) (F:Nat->Value),iv=.int .i64 (k:Nat)/\k<=T.nw/\T.nw<=k+gg/\NumTab wx g (g+1) T.nw F (fun v=>if v<k then (T.W v).toNat else 0) (fun _ _=>0)/\Hid (∀ v,k<=v->F v=.slice none 0 0)/\Below (w.heap.size+1) W2 wx/\w.heap.size+1<wx.heap.size)
 case atStart=>exact ⟨0,_,rfl,by omega,by omega,hT3,fun _ _=>rfl,hB3,hl3⟩
 case round =>
  clear hW p0 p1 hT3 hB3 hl3
  obtain ⟨k,F,rfl,hk,hkg,hT,HF,hB,hl⟩:=hrel
  have hk0:(0:Int)<=(k:Int):=by omega
  obtain ⟨⟨p0,p1⟩,hW⟩:=HS2.out _ hB
  by_cases hlt:k<T.nw
  ·have hlt':(k:Int)<(T.nw:Int):=by omega
   obtain ⟨wb,wo,rfl,hwb,y0,hy1,hy2⟩:=(HR.out.on hW).width hlt
   have hwid:=HSH.out.wid (i:=k) (by have:=HSH.out.nw; omega)
   obtain ⟨n1,hn1⟩:∃ n:Nat,(n:Int)=T.W k:=⟨(T.W k).toNat,by omega⟩
   rw [<-hn1] at y0 hwid
   have HN1:=hid hn1
   clear hn1 hy1 hy2
   have hmk1:=fun W=>zaf (P:=Tryz.prog) 107 47 _ 24 Tryz.underlying107 Tryz.infoNat rfl (n1:Int) (by omega) (by omega) (by omega) W
   simp only [Int.toNat_natCast] at hmk1
   have hgw:g<wr.heap.size:=hT.row.lt
   have kb:Below wr.heap.size wr (wr.alloc (Obj.cells (madeCells #[Value.slice none 0 0] n1) 47)):=(Below.refl _ _).alloc (Nat.le_refl _) _
   have hown:=zde (w:=wr) (base:=g+1) (n:=n1) (by omega) (by unfold maxLen; omega)
   have hput:=hT.put (by omega) hlt hown (zcq _ _ _) (.inr rfl)
   have q0:=hT.row.cell hlt
   have z0:=hT.row.frozen k
   rw [HF.out k (Nat.le_refl _)] at q0
   have hB4:=(zai hB (Nat.le_of_lt hl) kb).setCell (p:=⟨g,k,none⟩) hg2 (.slice (some ⟨wr.heap.size,0,none⟩) n1 n1)
   have hN:=hput.congr (n':=fun v=>if v<k+1 then (T.W v).toNat else 0) (x':=fun _ _=>0) (fun v _=>by
    by_cases e:v=k
    ·subst e; simp; have:=HN1.out; omega
    ·simp only [if_neg e]
     by_cases e2:v<k
     ·rw [if_pos e2,if_pos (by omega)]
     ·rw [if_neg e2,if_neg (by omega)]) (fun v _ q hq=>by split <;> rfl)
   rw [World.setCell_alloc_past _ _ _ _ hgw] at hN hB4
   have HNN:=hid hN
   have HFN:Hid (∀ v,k+1<=v->(if v=k then Value.slice (some ⟨wr.heap.size,0,none⟩) n1 n1 else F v)=.slice none 0 0):=fun v hv=>by rw [if_neg (by omega)]; exact HF.out v (by omega)
   have HB4:=hid hB4
   have hl4:w.heap.size+1<wr.heap.size+1:=by omega
   clear hT hput hown hN hB4 kb
   go_wp2
   go_roundg (gk - 1)
   case measure=>omega
   case rel =>
    exact ⟨k+1,_,by go_num,by omega,by omega,HNN.out,HFN,HB4.out,by simp; omega⟩
  ·have hlt':¬ (k:Int)<(T.nw:Int):=by omega
   have hTf:NumTab wr g (g+1) T.nw F (fun v=>(T.W v).toNat) (fun _ _=>0):=hT.congr (fun v hv=>if_pos (by omega)) (fun v _ q hq=>rfl)
   clear hT HF
   rename World=>w2
   have hT:=hTf
   have hB2:=hB
   have hl2:=hl
   clear hTf hB hl
   have HNW:=hid HSH.out.nw
   have hnw0:0<T.nw:=by have:=HNW.out; omega
   have hnw0':(0:Int)<(T.nw:Int):=by omega
   have hw0:=HSH.out.wid (i:=0) (by omega)
   have hw0n:0<(T.W 0).toNat:=by omega
   obtain ⟨b0,o0,d0,A0,c0,hF0,hb0,hbl0,q0,_,_,_,z0,hni0⟩:=hT.at (v:=0) hnw0 (k:=0) hw0n
   obtain ⟨n0,hn0⟩:∃ n,n=(T.W 0).toNat:=⟨_,rfl⟩
   have HN0:=hid hn0
   have r0:=hT.row.cell hnw0
   rw [hF0] at r0
   change w2.cell? ⟨g,0,none⟩=some (.slice (some ⟨b0,o0,none⟩) (T.W 0).toNat d0) at r0
   rw [<-hn0] at hw0n r0
   have hw0n':(0:Int)<(n0:Int):=by omega
   clear hn0 hW
   go_upto_region 6 with fail
   clear hlt hlt' hk hkg hk0
   have hl:=hl2
   refine wp_region_held_drew (S:=fun w'=>w'.cell? ⟨g,0,none⟩=some (.slice (some ⟨b0,o0,none⟩) n0 d0)) (by kernel_rfl) (cellS (Below.refl _ _).drew r0) (fun hHeld=>?_)
   obtain ⟨w3,hw⟩:∃ W,W=World.drew w2:=⟨_,rfl⟩
   have kb:Below w2.heap.size w2 w3:=by rw [hw]; exact (Below.refl _ _).drew
   rw [<-hw] at hHeld ⊢;clear hw;replace hB2:=zai hB2 (Nat.le_of_lt hl) kb;replace hl:=Nat.lt_of_lt_of_le hl kb.size;replace hT:=hT.on kb;replace r0:=cellS kb r0;replace q0:=cellS kb q0;clear kb
   refine tkq 0 (h:=tkq 1 (h:=tkq 2 (h:=?_)))
   refine rdq 3 (h:=fun K hK=>?_)
   go_simp
   go_wp2_with fail
   refine (ze6 1 w3 (by omega)).mono ?_
   rintro e w4 ⟨A1,c1,rfl,z1,z2,z3,kb⟩
   replace hB2:=zai hB2 (Nat.le_of_lt hl) kb;replace hl:=Nat.lt_of_lt_of_le hl kb.size;replace hT:=hT.on kb;replace r0:=cellS kb r0;replace q0:=cellS kb q0;clear kb
   refine bkq hK r0 (h:=fun hHeld=>?_)
   clear hK K
   refine tkq 4 (h:=?_)
   refine rdq 5 (h:=fun K hK=>?_)
   have zf:w4.frozen? ⟨b0,o0,none⟩=false:=by
    obtain ⟨b9,o9,d9,A9,c9,hF9,_,_,_,_,_,_,z9,_⟩:=hT.at (v:=0) hnw0 (k:=0) (by rw [<-HN0.out]; exact hw0n)
    rw [hF0] at hF9
    injection hF9 with e1 _ _
    injection e1 with e1
    injection e1 with e1 e2
    subst e1 e2
    exact z9
   rw [Nat.add_zero] at q0
   go_simp
   replace r0:=zab (p:=⟨b0,o0,none⟩) (u:=.slice A1 (dl 1) c1) r0 (by show g≠b0; omega)
   have hT9:=hT.set (by omega) hnw0 (k:=0) (by rw [<-HN0.out]; exact hw0n) hF0 z3 z1 z2
   rw [Nat.add_zero] at hT9
   have hB9:=hB2.setCell (p:=⟨b0,o0,none⟩) (by show w.heap.size+1<=b0; omega) (.slice A1 (dl 1) c1)
   have hl9:w.heap.size+1<(World.setCell w4 ⟨b0,o0,none⟩ (.slice A1 (dl 1) c1)).heap.size:=by simp; exact hl
   refine bkq hK r0 (h:=fun hHeld=>?_)
   clear hK K
   refine wpAnyH_done (by kernel_rfl) ?_ _
   clear hHeld
   obtain ⟨w9,hw9⟩:∃ W,W=World.setCell w4 ⟨b0,o0,none⟩ (.slice A1 (dl 1) c1):=⟨_,rfl⟩
   rw [<-hw9] at hT9 hB9 hl9 ⊢;clear hw9 hT hB2 hl r0 q0 z3
   have hT0:NumTab w9 g (g+1) T.nw F (fun v=>(T.W v).toNat) (T.fwdX y 0 0):=hT9.congr (fun v _=>rfl) (fun u _ v hv=>by
    simp only [Trel.fwdX,upd2]
    by_cases e:u=0
    ·subst e
     rw [if_pos (Nat.le_refl _)]
     show _=if v=0 then 1 else 0
     by_cases e2:v=0
     ·rw [if_pos ⟨rfl,e2⟩,if_pos e2]
     ·rw [if_neg (fun h=>e2 h.2),if_neg e2]
    ·rw [if_neg (fun h=>e h.1),if_neg (by omega)]
     split <;> rfl)
   clear hT9 hw0n hw0n' z0 hni0 hbl0 z1 z2 HN0 hw0
   obtain ⟨⟨p0,p1⟩,hW⟩:=HS2.out _ hB9
   go_wp2
   go_loopg [7] T.n (fun gg iv wx=>∃ k:Nat,iv=.int .i64 (k:Nat)/\k<=T.n/\T.n<=k+gg/\NumTab wx g (g+1) T.nw F (fun v=>(T.W v).toNat) (T.fwdX y k 0)/\Below (w.heap.size+1) W2 wx/\w.heap.size+1<wx.heap.size)
   case atStart=>exact ⟨0,rfl,by omega,by omega,hT0,hB9,hl9⟩
   case round =>
    clear hW p0 p1 hT0 hB9 hl9
    obtain ⟨gK,hgK⟩:∃ g,g=gk:=⟨_,rfl⟩
    subst hgK
    obtain ⟨k,rfl,hk,hkg,hT,hB,hl⟩:=hrel
    obtain ⟨wk,hwk⟩:∃ W,W=wr:=⟨_,rfl⟩
    subst hwk
    have hk0:(0:Int)<=(k:Int):=by omega
    obtain ⟨⟨p0,p1⟩,hW⟩:=HS2.out _ hB
    by_cases hlt:k<T.n
    ·have hlt':(k:Int)<(T.n:Int):=by omega
     have hk1:k+1<T.nw:=by have:=HNW.out; omega
     have hkw:k<T.nw:=by omega
     have hk1':(k:Int)+1<(T.nw:Int):=by omega
     have hkw':(k:Int)<(T.nw:Int):=by omega
     have hk01:(0:Int)<=(k:Int)+1:=by omega
     have hwk1:IntKind.i64.wrap ((k:Int)+1)=(k:Int)+1:=IntWalk.i64_in _ (by omega)
     obtain ⟨eb,eo,E,ec,rfl,heb,x0w,he1,he2,he3,he4⟩:=HR.out.sec hlt
     obtain ⟨vb,vo,R,rc,rfl,hvb,y0w,hvt⟩:=HV.out k hlt
     have hel:=HSH.out.elb hlt
     have HE3:=hid he3
     have HVT:=hid hvt
     have HX0:=hid x0w
     have HY0:=hid y0w
     have x0:=cellS hW x0w
     clear he3 he4 he2 hvt x0w y0w
     go_wp2
     go_loopg [8] (T.el k) (fun gg jv wx=>∃ j:Nat,jv=.int .i64 (j:Nat)/\j<=T.el k/\T.el k<=j+gg/\NumTab wx g (g+1) T.nw F (fun v=>(T.W v).toNat) (T.fwdX y k j)/\Below (w.heap.size+1) W2 wx/\w.heap.size+1<wx.heap.size)
     case atStart=>exact ⟨0,rfl,by omega,by omega,hT,hB,hl⟩
     case round =>
      clear p0 p1 hT hB hl x0 hW
      obtain ⟨j,rfl,hj,hjg,hT,hB,hl⟩:=hrel
      have hj0:(0:Int)<=(j:Int):=by omega
      by_cases hltj:j<T.el k
      ·have hltj':(j:Int)<(T.el k:Int):=by omega
       obtain ⟨⟨p0,p1⟩,hW⟩:=HS2.out _ hB
       obtain ⟨fb,fo,rfl,hfb,e0,e1,e2⟩:=zaS ((Rd.below HE3.out hW (Nat.le_refl _)).mono hW.size) hltj
       obtain ⟨i1,i2,i3,i4⟩:=HSH.out.ins k hlt j hltj
       obtain ⟨fn,hfn⟩:∃ n:Nat,(n:Int)=T.fr k j:=⟨(T.fr k j).toNat,by omega⟩
       obtain ⟨tn,htn⟩:∃ n:Nat,(n:Int)=T.to k j:=⟨(T.to k j).toNat,by omega⟩
       obtain ⟨lb,hlb⟩:∃ z,z=T.lb k j:=⟨_,rfl⟩
       obtain ⟨n1,hn1⟩:∃ n,n=(T.W k).toNat:=⟨_,rfl⟩
       obtain ⟨n2,hn2⟩:∃ n,n=(T.W (k+1)).toNat:=⟨_,rfl⟩
       have hfl:fn<n1:=by omega
       have htl:tn<n2:=by omega
       have hfl':(fn:Int)<(n1:Int):=by omega
       have htl':(tn:Int)<(n2:Int):=by omega
       have hf0:(0:Int)<=(fn:Int):=by omega
       have ht0:(0:Int)<=(tn:Int):=by omega
       obtain ⟨ab,ao,ad,Ap,cp,hFa,hab,habl,aq,ap1,ap2,apn,_,_⟩:=hT.at (v:=k) hkw (k:=fn) (by omega)
       obtain ⟨bb,bo,bd,Aq,cq,hFb,hbb,hbbl,bq,bq1,bq2,bqn,zq,_⟩:=hT.at (v:=k+1) hk1 (k:=tn) (by omega)
       obtain ⟨rb,ro,Av,cv,rfl,hrb,vq,vq1,vq2,vn⟩:=(HVT.out.on hW) j hltj
       have hrow1:=hT.row.cell hkw
       have hrow2:=hT.row.cell hk1
       have y0:=cellS hW HY0.out
       have hapart:=hT.apart k (k+1) hkw hk1 (by omega)
       rw [hFa] at hrow1;rw [hFb] at hrow2
       have hne:ab≠bb:=fun e=>by
        rw [hFa,hFb,e] at hapart
        simp [Value.ownBlock] at hapart
       have epv:T.fwdX y k j k fn=T.fwd y k fn:=if_pos (Nat.le_refl _)
       have eqv:T.fwdX y k j (k+1) tn=T.fwdE y (T.fwd y k) k j tn:=by
        show (if k+1<=k then _ else if k+1=k+1 then _ else 0)=_
        rw [if_neg (by omega),if_pos rfl]
       have d1:=Trel.fwd_dl HSH.out HY.out (i:=k) (by omega) fn
       have d2:=Trel.fwdE_dl HSH.out HY.out (i:=k) (j:=j) hlt hj tn
       have d3:=Trel.fwdE_dl HSH.out HY.out (i:=k) (j:=j+1) hlt hltj tn
       have hyv:=HY.out k hlt j hltj
       have hsum:T.fwdE y (T.fwd y k) k (j+1) tn=T.fwdE y (T.fwd y k) k j tn+T.fwd y k fn*y k j:=by
        show _+(if (T.to k j).toNat=tn then T.fwd y k (T.fr k j).toNat*y k j else 0)=_
        have e1:(T.fr k j).toNat=fn:=by omega
        have e2:(T.to k j).toNat=tn:=by omega
        rw [e1,e2,if_pos rfl]
       rw [epv] at aq ap1 apn;rw [eqv] at bq bq1 bqn;rw [hsum] at d3
       obtain ⟨pv,hpv⟩:∃ z,z=T.fwd y k fn:=⟨_,rfl⟩
       obtain ⟨qv,hqv⟩:∃ z,z=T.fwdE y (T.fwd y k) k j tn:=⟨_,rfl⟩
       obtain ⟨yv,hyv2⟩:∃ z,z=y k j:=⟨_,rfl⟩
       rw [<-hpv] at aq ap1 apn d1 d3;rw [<-hqv] at bq bq1 bqn d2 d3;rw [<-hyv2] at vq vq1 vn hyv d3
       have d4:dl yv<=37:=zfp (i:=0) (by omega) (by simpa using hyv)
       have d5:dl (pv*yv)<=37:=by
        refine Nat.le_trans (zcC (y:=pv) ?_) d1
        exact Nat.le_trans (Nat.mul_le_mul_left pv hyv) (by omega)
       have HPUT:Hid (∀ u v,upd2 (T.fwdX y k j) (k+1) tn (qv+pv*yv) u v=T.fwdX y k (j+1) u v):=fun u v=>by
        have:=Trel.fwdX_put T y k j u v
        have e1:(T.fr k j).toNat=fn:=by omega
        have e2:(T.to k j).toNat=tn:=by omega
        rw [e1,e2,<-hpv,<-hqv,<-hyv2] at this
        exact this
       change wr.cell? ⟨g,k,none⟩=some (.slice (some ⟨ab,ao,none⟩) (T.W k).toNat ad) at hrow1
       change wr.cell? ⟨g,k+1,none⟩=some (.slice (some ⟨bb,bo,none⟩) (T.W (k+1)).toNat bd) at hrow2
       have x0:=cellS hW HX0.out
       rw [<-hn1] at hrow1;rw [<-hn2] at hrow2;rw [<-hfn] at e0;rw [<-hlb] at e1;rw [<-htn] at e2
       have hgbb:g≠bb:=by omega
       have hbx:wr.heap.size≠bb:=by omega
       have hvbb:vb≠bb:=by omega
       have hWs:=hW.size
       have HSET:Hid (F (k+1)=.slice (some ⟨bb,bo,none⟩) (T.W (k+1)).toNat bd):=hFb
       have HTL:Hid (tn<(T.W (k+1)).toNat):=by rw [<-hn2]; exact htl
       have hrbb:rb≠bb:=by
        obtain ⟨_,_,_,_,e8,h8,_⟩:=HVT.out j hltj
        injection e8 with e8
        injection e8 with e8
        omega
       clear hapart hFa hFb epv eqv hsum hpv hqv hyv2 hyv hfn htn hlb i1 i2 i3 i4 hn1 hn2 hW
       go_upto_region 14 with fail
       obtain ⟨OB,hOB⟩:∃ o,o=(Obj.cells #[.int .i64 (fn:Int),.int .i64 lb,.int .i64 (tn:Int)] 148):=⟨_,rfl⟩
       have hq:∀ i v,(#[Value.int .i64 (fn:Int),.int .i64 lb,.int .i64 (tn:Int)]:Array Value)[i]?=some v->(wr.alloc OB).cell? ⟨wr.heap.size,i,none⟩=some v:=fun i v hv=>by subst hOB; exact tbox (Below.refl _ _) hv
       have s0:=hq 0 _ rfl
       have s2:=hq 2 _ rfl
       have kb:Below wr.heap.size wr (wr.alloc OB):=(Below.refl _ _).alloc (Nat.le_refl _) _
       rw [<-hOB]
       obtain ⟨w50,hw50⟩:∃ W,W=wr.alloc OB:=⟨_,rfl⟩
       rw [<-hw50] at s0 s2 kb ⊢;replace hT:=hT.on kb;replace hB:=zai hB (Nat.le_of_lt hl) kb;replace hl:=Nat.lt_of_lt_of_le hl kb.size;replace aq:=cellS kb aq;replace bq:=cellS kb bq;replace vq:=cellS kb vq;replace y0:=cellS kb y0;replace hrow1:=cellS kb hrow1;replace hrow2:=cellS kb hrow2;replace apn:=apn.on kb;replace bqn:=bqn.on kb;replace vn:=vn.on kb
       obtain ⟨bx,hbx2⟩:∃ b,b=wr.heap.size:=⟨_,rfl⟩
       rw [<-hbx2] at s0 s2 hbx ⊢;clear hq hw50 hOB kb x0 e0 e1 e2 hbx2
       refine wp_region_held_drew (S:=fun w'=>w'.cell? ⟨g,k,none⟩=some (.slice (some ⟨ab,ao,none⟩) n1 ad)/\w'.cell? ⟨g,k+1,none⟩=some (.slice (some ⟨bb,bo,none⟩) n2 bd)/\w'.cell? ⟨bx,0,none⟩=some (.int .i64 (fn:Int))/\w'.cell? ⟨bx,2,none⟩=some (.int .i64 (tn:Int))/\w'.cell? ⟨vb,vo+k,none⟩=some (.slice (some ⟨rb,ro,none⟩) (T.el k) rc)/\w'.cell? ⟨rb,ro+j,none⟩=some (.slice Av (dl yv) cv)/\w'.cell? ⟨ab,ao+fn,none⟩=some (.slice Ap (dl pv) cp)) (by kernel_rfl) ⟨cellS (Below.refl _ _).drew hrow1,cellS (Below.refl _ _).drew hrow2,cellS (Below.refl _ _).drew s0,cellS (Below.refl _ _).drew s2,cellS (Below.refl _ _).drew y0,cellS (Below.refl _ _).drew vq,cellS (Below.refl _ _).drew aq⟩ (fun hHeld=>?_)
       obtain ⟨w51,hw⟩:∃ W,W=World.drew w50:=⟨_,rfl⟩
       have kb:Below w50.heap.size w50 w51:=by rw [hw]; exact (Below.refl _ _).drew
       rw [<-hw] at hHeld ⊢;clear hw;replace hB:=zai hB (Nat.le_of_lt hl) kb;replace hl:=Nat.lt_of_lt_of_le hl kb.size;replace hT:=hT.on kb;replace aq:=cellS kb aq;replace bq:=cellS kb bq;replace vq:=cellS kb vq;replace y0:=cellS kb y0;replace hrow1:=cellS kb hrow1;replace hrow2:=cellS kb hrow2;replace s0:=cellS kb s0;replace s2:=cellS kb s2;replace apn:=apn.on kb;replace bqn:=bqn.on kb;replace vn:=vn.on kb
       clear kb
       refine tkq 0 (h:=tkq 1 (h:=tkq 2 (h:=tkq 3 (h:=tkq 4 (h:=tkq 5 (h:=tkq 6 (h:=tkq 7 (h:=tkq 8 (h:=tkq 9 (h:=tkq 10 (h:=tkq 11 (h:=tkq 12 (h:=tkq 13 (h:=tkq 14 (h:=tkq 16 (h:=tkq 17 (h:=tkq 18 (h:=tkq 19 (h:=tkq 20 (h:=tkq 21 (h:=tkq 22 (h:=tkq 23 (h:=tkq 24 (h:=tkq 25 (h:=tkq 26 (h:=tkq 27 (h:=tkq 28 (h:=tkq 29 (h:=tkq 30 (h:=?_))))))))))))))))))))))))))))))
       refine rdq2 15 31 (h:=fun K hK=>?_) (h2:=fun K hK=>?_)
       ·go_simp
        refine bkq hK ⟨hrow1,hrow2,s0,s2,y0,vq,aq⟩ (h:=fun hHeld=>?_)
        clear hK K
        refine rdq 31 (h:=fun K hK=>?_)
        go_simp
        go_wp2_with fail
        refine (zbX Ap Av cp cv pv yv w51 apn vn (by omega) (by omega)).mono ?_
        rintro e w52 ⟨Am,cm,rfl,m1,m2,m3,kb⟩
        replace hB:=zai hB (Nat.le_of_lt hl) kb;replace hl:=Nat.lt_of_lt_of_le hl kb.size;replace hT:=hT.on kb;replace aq:=cellS kb aq;replace bq:=cellS kb bq;replace vq:=cellS kb vq;replace y0:=cellS kb y0;replace hrow1:=cellS kb hrow1;replace hrow2:=cellS kb hrow2;replace s0:=cellS kb s0;replace s2:=cellS kb s2;replace apn:=apn.on kb;replace bqn:=bqn.on kb;replace vn:=vn.on kb;clear kb
        refine bkq hK ⟨hrow1,hrow2,s0,s2,y0,vq,aq⟩ (h:=fun hHeld=>?_)
        clear hK K
        refine rdq 32 (h:=fun K hK=>?_)
        go_simp
        go_wp2_with fail
        refine (zd0 Aq Am cq cm qv (pv*yv) w52 bqn m3 (by omega) (by omega)).mono ?_
        rintro e w53 ⟨As,cs,rfl,t1,t2,t3,kb⟩
        replace hB:=zai hB (Nat.le_of_lt hl) kb;replace hl:=Nat.lt_of_lt_of_le hl kb.size;replace hT:=hT.on kb;replace aq:=cellS kb aq;replace bq:=cellS kb bq;replace vq:=cellS kb vq;replace y0:=cellS kb y0;replace hrow1:=cellS kb hrow1;replace hrow2:=cellS kb hrow2;replace s0:=cellS kb s0;replace s2:=cellS kb s2;replace apn:=apn.on kb;replace bqn:=bqn.on kb;replace vn:=vn.on kb;replace m3:=m3.on kb
        clear kb
        refine bkq hK ⟨hrow1,hrow2,s0,s2,y0,vq,aq⟩ (h:=fun hHeld=>?_)
        clear hK K
        refine tkq 33 (h:=?_)
        refine rdq 34 (h:=fun K hK=>?_)
        have zf:w53.frozen? ⟨bb,bo+tn,none⟩=false:=by
         obtain ⟨b9,o9,d9,A9,c9,hF9,_,_,_,_,_,_,z9,_⟩:=hT.at (v:=k+1) hk1 (k:=tn) HTL.out
         rw [HSET.out] at hF9
         injection hF9 with e1 _ _
         injection e1 with e1
         injection e1 with e1 e2
         subst e1 e2
         exact z9
        go_simp
        replace hrow1:=zab (p:=⟨bb,bo+tn,none⟩) (u:=(.slice As (dl (qv+pv*yv)) cs)) hrow1 (by simpa using hgbb)
        replace hrow2:=zab (p:=⟨bb,bo+tn,none⟩) (u:=(.slice As (dl (qv+pv*yv)) cs)) hrow2 (by simpa using hgbb)
        replace s0:=zab (p:=⟨bb,bo+tn,none⟩) (u:=(.slice As (dl (qv+pv*yv)) cs)) s0 (by simpa using hbx)
        replace s2:=zab (p:=⟨bb,bo+tn,none⟩) (u:=(.slice As (dl (qv+pv*yv)) cs)) s2 (by simpa using hbx)
        replace y0:=zab (p:=⟨bb,bo+tn,none⟩) (u:=(.slice As (dl (qv+pv*yv)) cs)) y0 (by simpa using hvbb)
        replace vq:=zab (p:=⟨bb,bo+tn,none⟩) (u:=(.slice As (dl (qv+pv*yv)) cs)) vq (by simpa using hrbb)
        replace aq:=zab (p:=⟨bb,bo+tn,none⟩) (u:=(.slice As (dl (qv+pv*yv)) cs)) aq (by simpa using hne)
        have hT9:=hT.set (by omega) hk1 (k:=tn) HTL.out HSET.out t3 t1 t2
        have hB9:=hB.setCell (p:=⟨bb,bo+tn,none⟩) (by show w.heap.size+1<=bb; omega) (.slice As (dl (qv+pv*yv)) cs)
        have hl9:w.heap.size+1<(World.setCell w53 ⟨bb,bo+tn,none⟩ (.slice As (dl (qv+pv*yv)) cs)).heap.size:=by simp; exact hl
        refine bkq hK ⟨hrow1,hrow2,s0,s2,y0,vq,aq⟩ (h:=fun hHeld=>?_)
        clear hK K
        refine wpAnyH_done (by kernel_rfl) ?_ _
        clear hHeld
        have hN:=hid (hT9.congr (x':=T.fwdX y k (j+1)) (fun v _=>rfl) (fun u _ v _=>HPUT.out u v))
        have HB9:=hid hB9
        clear hT9 hT hB9 hB bq p0 p1
        go_wp2
        go_roundg (gk - 1)
        case measure=>omega
        case rel=>exact ⟨j+1,by go_num,by omega,by omega,hN.out,HB9.out,hl9⟩
       ·go_simp
        go_wp2_with fail
        refine (zbX Ap Av cp cv pv yv w51 apn vn (by omega) (by omega)).mono ?_
        rintro e w52 ⟨Am,cm,rfl,m1,m2,m3,kb⟩
        replace hB:=zai hB (Nat.le_of_lt hl) kb;replace hl:=Nat.lt_of_lt_of_le hl kb.size;replace hT:=hT.on kb;replace aq:=cellS kb aq;replace bq:=cellS kb bq;replace vq:=cellS kb vq;replace y0:=cellS kb y0;replace hrow1:=cellS kb hrow1;replace hrow2:=cellS kb hrow2;replace s0:=cellS kb s0;replace s2:=cellS kb s2;replace apn:=apn.on kb;replace bqn:=bqn.on kb;replace vn:=vn.on kb;clear kb
        refine bkq hK ⟨hrow1,hrow2,s0,s2,y0,vq,aq⟩ (h:=fun hHeld=>?_)
        clear hK K
        refine rdq 15 (h:=fun K hK=>?_)
        go_simp
        refine bkq hK ⟨hrow1,hrow2,s0,s2,y0,vq,aq⟩ (h:=fun hHeld=>?_)
        clear hK K
        refine rdq 32 (h:=fun K hK=>?_)
        go_simp
        go_wp2_with fail
        refine (zd0 Aq Am cq cm qv (pv*yv) w52 bqn m3 (by omega) (by omega)).mono ?_
        rintro e w53 ⟨As,cs,rfl,t1,t2,t3,kb⟩
        replace hB:=zai hB (Nat.le_of_lt hl) kb;replace hl:=Nat.lt_of_lt_of_le hl kb.size;replace hT:=hT.on kb;replace aq:=cellS kb aq;replace bq:=cellS kb bq;replace vq:=cellS kb vq;replace y0:=cellS kb y0;replace hrow1:=cellS kb hrow1;replace hrow2:=cellS kb hrow2;replace s0:=cellS kb s0;replace s2:=cellS kb s2;replace apn:=apn.on kb;replace bqn:=bqn.on kb;replace vn:=vn.on kb;replace m3:=m3.on kb
        clear kb
        refine bkq hK ⟨hrow1,hrow2,s0,s2,y0,vq,aq⟩ (h:=fun hHeld=>?_)
        clear hK K
        refine tkq 33 (h:=?_)
        refine rdq 34 (h:=fun K hK=>?_)
        have zf:w53.frozen? ⟨bb,bo+tn,none⟩=false:=by
         obtain ⟨b9,o9,d9,A9,c9,hF9,_,_,_,_,_,_,z9,_⟩:=hT.at (v:=k+1) hk1 (k:=tn) HTL.out
         rw [HSET.out] at hF9
         injection hF9 with e1 _ _
         injection e1 with e1
         injection e1 with e1 e2
         subst e1 e2
         exact z9
        go_simp
        replace hrow1:=zab (p:=⟨bb,bo+tn,none⟩) (u:=(.slice As (dl (qv+pv*yv)) cs)) hrow1 (by simpa using hgbb)
        replace hrow2:=zab (p:=⟨bb,bo+tn,none⟩) (u:=(.slice As (dl (qv+pv*yv)) cs)) hrow2 (by simpa using hgbb)
        replace s0:=zab (p:=⟨bb,bo+tn,none⟩) (u:=(.slice As (dl (qv+pv*yv)) cs)) s0 (by simpa using hbx)
        replace s2:=zab (p:=⟨bb,bo+tn,none⟩) (u:=(.slice As (dl (qv+pv*yv)) cs)) s2 (by simpa using hbx)
        replace y0:=zab (p:=⟨bb,bo+tn,none⟩) (u:=(.slice As (dl (qv+pv*yv)) cs)) y0 (by simpa using hvbb)
        replace vq:=zab (p:=⟨bb,bo+tn,none⟩) (u:=(.slice As (dl (qv+pv*yv)) cs)) vq (by simpa using hrbb)
        replace aq:=zab (p:=⟨bb,bo+tn,none⟩) (u:=(.slice As (dl (qv+pv*yv)) cs)) aq (by simpa using hne)
        have hT9:=hT.set (by omega) hk1 (k:=tn) HTL.out HSET.out t3 t1 t2
        have hB9:=hB.setCell (p:=⟨bb,bo+tn,none⟩) (by show w.heap.size+1<=bb; omega) (.slice As (dl (qv+pv*yv)) cs)
        have hl9:w.heap.size+1<(World.setCell w53 ⟨bb,bo+tn,none⟩ (.slice As (dl (qv+pv*yv)) cs)).heap.size:=by simp; exact hl
        refine bkq hK ⟨hrow1,hrow2,s0,s2,y0,vq,aq⟩ (h:=fun hHeld=>?_)
        clear hK K
        refine wpAnyH_done (by kernel_rfl) ?_ _
        clear hHeld
        have hN:=hid (hT9.congr (x':=T.fwdX y k (j+1)) (fun v _=>rfl) (fun u _ v _=>HPUT.out u v))
        have HB9:=hid hB9
        clear hT9 hT hB9 hB bq p0 p1
        go_wp2
        go_roundg (gk - 1)
        case measure=>omega
        case rel=>exact ⟨j+1,by go_num,by omega,by omega,hN.out,HB9.out,hl9⟩
      ·have hltj':¬ (j:Int)<(T.el k:Int):=by omega
       have hje:j=T.el k:=by omega
       rw [hje] at hT
       have hT1:=hid (hT.congr (x':=T.fwdX y (k+1) 0) (fun v _=>rfl) (fun u _ v _=>T.fwdX_next y k u v))
       obtain ⟨⟨p0,p1⟩,hW⟩:=HS2.out _ hB
       have x0:=cellS hW HX0.out
       have HB:=hid hB
       clear hT hB hje
       go_wp2
       go_roundg (gK - 1)
       case measure=>omega
       case rel=>exact ⟨k+1,by go_num,by omega,by omega,hT1.out,HB.out,hl⟩
    ·have hlt':¬ (k:Int)<(T.n:Int):=by omega
     have hken:k=T.n:=by omega
     have hTf:=hid (hT.congr (x':=T.fwd y) (fun v _=>rfl) (fun u hu v _=>if_pos (by have:=HNW.out; omega)))
     clear hT hken
     go_wp2
     go_ret
     exact ⟨g,F,rfl,by omega,hTf.out,hW⟩
theorem NumTab.vtab {w:World} {g base m:Nat} {F:Nat->Value} {n:Nat->Nat} {x:Nat->Nat->Nat} (h:NumTab w g base m F n x):VTab w (some ⟨g,0,none⟩) m n x:=fun i hi=>by
 obtain ⟨A,c,e,_,_,ht⟩:=(h.own i hi).tab
 have hc:=h.row.cell hi
 rw [e] at hc
 exact ⟨g,0,A,c,rfl,h.row.lt,by rw [Nat.zero_add]; exact hc,ht⟩
theorem zeY (T:Trel) (A B:Option Addr) (c d:Nat) (w:World) (h:T.Reads w A B) (hp:T.Proper) :
  Calls Tryz.prog 197 #[.agg #[.slice A T.nw c,.slice B T.n d]] w (NatPost (T.fwd (fun _ _=>1) T.n 0) w):=by
 obtain ⟨RB,hRB⟩:∃ o,o=(Obj.cells #[.slice A T.nw c,.slice B T.n d] 74):=⟨_,rfl⟩
 have hB0:Below (w.heap.size+1) (w.alloc RB) (w.alloc RB):=Below.refl _ _
 have HS:Hid (∀ w',Below (w.heap.size+1) (w.alloc RB) w'->(w'.cell? ⟨w.heap.size,0,none⟩=some (.slice A T.nw c)/\w'.cell? ⟨w.heap.size,1,none⟩=some (.slice B T.n d))/\Below w.heap.size w w'):=fun w' hB=>by
  have hB':=zay hB
  subst hRB
  exact ⟨⟨tbox hB rfl,tbox hB rfl⟩,hB'⟩
 obtain ⟨⟨p0,p1⟩,hW⟩:=HS.out _ hB0
 have HP:=hid hp
 have HR:=hid h
 have hn64:=hp.shape.n64
 have hmk:=fun W=>zaf (P:=Tryz.prog) 196 107 _ 24 Tryz.underlying196 Tryz.infoNats rfl (T.n:Int) (by omega) (by omega) (by omega) W
 simp only [Int.toNat_natCast] at hmk
 have hd1:dl 1=1:=zbK (by omega) (by omega)
 have HD1:=hid hd1
 clear h hp hd1
 go_enter Tryz.func197, Tryz.ntmps197
 go_wp2_with fail
 rw [<-hRB]
 go_upto_region 2 with fail
 obtain ⟨W2,hW2⟩:∃ W,W=w.alloc RB:=⟨_,rfl⟩
 have hsz2:W2.heap.size=w.heap.size+1:=by rw [hW2]; simp
 have HS2:Hid (∀ w',Below (w.heap.size+1) W2 w'->(w'.cell? ⟨w.heap.size,0,none⟩=some (.slice A T.nw c)/\w'.cell? ⟨w.heap.size,1,none⟩=some (.slice B T.n d))/\Below w.heap.size w w'):=by rw [hW2]; exact HS
 rw [<-hW2] at hB0 ⊢
 obtain ⟨g,hg⟩:∃ g,g=w.heap.size+1:=⟨_,rfl⟩
 have hgz:g=W2.heap.size:=by omega
 have hr3:=World.rowIs_made W2 (.slice none 0 0) T.n 107
 have hB3:=zai hB0 (Nat.le_of_eq hsz2.symm) ((Below.refl W2.heap.size W2).alloc (Nat.le_refl _) (Obj.cells (madeCells #[Value.slice none 0 0] T.n) 107))
 have hl3:w.heap.size+1<(W2.alloc (Obj.cells (madeCells #[Value.slice none 0 0] T.n) 107)).heap.size:=by simp; omega
 obtain ⟨W3,hW3⟩:∃ W,W=W2.alloc (Obj.cells (madeCells #[Value.slice none 0 0] T.n) 107):=⟨_,rfl⟩
 rw [<-hgz] at hr3;rw [<-hW3] at hr3 hB3 hl3 ⊢;rw [<-hg]
 have hT3:NumTab W3 g (g+1) T.n (fun _=>.slice none 0 0) (fun v=>if v<0 then T.el v else 0) (fun _ _=>1):=(zbQ hr3).congr (fun v _=>(if_neg (by omega)).symm) (fun v _ k hk=>rfl)
 have hg2:w.heap.size+1<=g:=by omega
 clear hW3 hgz hg hr3 hW2 HS hB0 hmk hRB hsz2 p0 p1 hW
 obtain ⟨⟨p0,p1⟩,hW⟩:=HS2.out _ hB3
 go_wp2
 go_loopg [4] T.n (fun gg iv wx=>∃ (k:Nat) (F:Nat->Value),iv=.int .i64 (k:Nat)/\k<=T.n/\T.n<=k+gg/\NumTab wx g (g+1) T.n F (fun v=>if v<k then T.el v else 0) (fun _ _=>1)/\Hid (∀ v,k<=v->F v=.slice none 0 0)/\Below (w.heap.size+1) W2 wx/\w.heap.size+1<wx.heap.size)
 case atStart=>exact ⟨0,_,rfl,by omega,by omega,hT3,fun _ _=>rfl,hB3,hl3⟩
 case round =>
  clear hW p0 p1 hT3 hB3 hl3
  obtain ⟨gK,hgK⟩:∃ g,g=gk:=⟨_,rfl⟩
  subst hgK
  obtain ⟨k,F,rfl,hk,hkg,hT,HF,hB,hl⟩:=hrel
  obtain ⟨wk,hwk⟩:∃ W,W=wr:=⟨_,rfl⟩
  subst hwk
  have hk0:(0:Int)<=(k:Int):=by omega
  obtain ⟨⟨p0,p1⟩,hW⟩:=HS2.out _ hB
  by_cases hlt:k<T.n
  ·have hlt':(k:Int)<(T.n:Int):=by omega
   obtain ⟨eb,eo,E,ec,rfl,heb,x0,_,_,_,_⟩:=(HR.out.on hW).sec hlt
   have hel:=HP.out.shape.elb hlt
   obtain ⟨n1,hn1⟩:∃ n:Nat,n=T.el k:=⟨_,rfl⟩
   rw [<-hn1] at x0 hel
   have HN1:=hid hn1
   clear hn1
   have hmk1:=fun W=>zaf (P:=Tryz.prog) 107 47 _ 24 Tryz.underlying107 Tryz.infoNat rfl (n1:Int) (by omega) (by omega) (by omega) W
   simp only [Int.toNat_natCast] at hmk1
   have hgw:g<wk.heap.size:=hT.row.lt
   have kb:Below wk.heap.size wk (wk.alloc (Obj.cells (madeCells #[Value.slice none 0 0] n1) 47)):=(Below.refl _ _).alloc (Nat.le_refl _) _
   have hown:=zde (w:=wk) (base:=g+1) (n:=n1) (by omega) (by unfold maxLen; omega)
   have hput:=hT.put (by omega) hlt hown (zcq _ _ _) (.inr rfl)
   have q0:=hT.row.cell hlt
   have z0:=hT.row.frozen k
   rw [HF.out k (Nat.le_refl _)] at q0
   have hB4:=(zai hB (Nat.le_of_lt hl) kb).setCell (p:=⟨g,k,none⟩) hg2 (.slice (some ⟨wk.heap.size,0,none⟩) n1 n1)
   have hN:=hput.congr (n':=fun v=>if v<k+1 then T.el v else 0) (x':=fun u v=>if u<k then 1 else if v<0 then 1 else 0) (fun v _=>by
    by_cases e:v=k
    ·subst e; simp; exact HN1.out
    ·simp only [if_neg e]
     by_cases e2:v<k
     ·rw [if_pos e2,if_pos (by omega)]
     ·rw [if_neg e2,if_neg (by omega)]) (fun v hv q hq=>by
    by_cases e:v=k
    ·subst e; simp
    ·simp only [if_neg e] at hq ⊢
     by_cases e2:v<k
     ·rw [if_pos e2]
     ·rw [if_neg e2] at hq; omega)
   rw [World.setCell_alloc_past _ _ _ _ hgw] at hN hB4
   obtain ⟨F2,hF2⟩:∃ F2:Nat->Value,F2=(fun u=>if u=k then Value.slice (some ⟨wk.heap.size,0,none⟩) n1 n1 else F u):=⟨_,rfl⟩
   obtain ⟨rb,hrb⟩:∃ r,r=wk.heap.size:=⟨_,rfl⟩
   have hF2k:Hid (F2 k=.slice (some ⟨rb,0,none⟩) n1 n1):=by show F2 k=_; rw [hF2,hrb]; simp
   have HFN:Hid (∀ v,k+1<=v->F2 v=.slice none 0 0):=fun v hv=>by rw [hF2]; show (if v=k then _ else _)=_; rw [if_neg (by omega)]; exact HF.out v (by omega)
   rw [<-hF2] at hN
   have hl4:w.heap.size+1<((wk.setCell ⟨g,k,none⟩ (.slice (some ⟨wk.heap.size,0,none⟩) n1 n1)).alloc (Obj.cells (madeCells #[Value.slice none 0 0] n1) 47)).heap.size:=by simp; omega
   have HNN:=hid hN
   have HB4:=hid hB4
   have HL4:=hid hl4
   have hrg:g<rb:=by omega
   clear hT hput hown hN hB4 kb hF2 HF hl4
   go_upto_region 6 with fail
   obtain ⟨w4,hw4⟩:∃ W,W=(wk.setCell ⟨g,k,none⟩ (.slice (some ⟨wk.heap.size,0,none⟩) n1 n1)).alloc (Obj.cells (madeCells #[Value.slice none 0 0] n1) 47):=⟨_,rfl⟩
   rw [<-hw4] at HNN HB4 HL4 ⊢;rw [<-hrb];clear hw4 hrb hmk1 p0 p1 hW q0 z0 x0 hB hl heb hgw
   go_wp2
   go_loopg [5] n1 (fun gg jv wx=>∃ j:Nat,jv=.int .i64 (j:Nat)/\j<=n1/\n1<=j+gg/\NumTab wx g (g+1) T.n F2 (fun v=>if v<k+1 then T.el v else 0) (fun u v=>if u<k then 1 else if v<j then 1 else 0)/\Below (w.heap.size+1) W2 wx/\w.heap.size+1<wx.heap.size)
   case atStart=>exact ⟨0,rfl,by omega,by omega,HNN.out,HB4.out,HL4.out⟩
   case round =>
    clear HNN HB4 HL4
    obtain ⟨j,rfl,hj,hjg,hT,hB,hl⟩:=hrel
    have hj0:(0:Int)<=(j:Int):=by omega
    have q0:=hT.row.cell hlt
    rw [hF2k.out] at q0
    by_cases hltj:j<n1
    ·have hltj' : (j : Int) < (n1 : Int) := by omega
     have hjn:j<(fun v=>if v<k+1 then T.el v else 0) k:=by show j<if k<k+1 then T.el k else 0; rw [if_pos (by omega),<-HN1.out]; exact hltj
     obtain ⟨b9,o9,d9,A9,c9,hF9,hb9,hl9,x9,_,_,_,z9,_⟩:=hT.at (v:=k) hlt (k:=j) hjn
     have hF9':=hF9
     rw [hF2k.out] at hF9'
     injection hF9' with e1 en1 en2
     clear en1 en2
     injection e1 with e1
     injection e1 with e1 e2
     subst e1 e2
     rw [Nat.zero_add] at x9 z9
     have kb:Below wr.heap.size wr (wr.alloc (Obj.cells #[Value.int .u32 1] 110)):=(Below.refl _ _).alloc (Nat.le_refl _) _
     have hT9:=(hT.on kb).set (by omega) hlt (k:=j) hjn hF9 (zbW (w:=wr) 110 (x:=1) (by omega) (by omega)) (c:=1) (Nat.le_of_eq HD1.out) (by unfold maxLen; omega)
     rw [Nat.zero_add,HD1.out] at hT9
     have hB9:=(zai hB (Nat.le_of_lt hl) kb).setCell (p:=⟨rb,j,none⟩) (by show w.heap.size+1<=rb; omega) (.slice (some ⟨wr.heap.size,0,none⟩) 1 1)
     have hN := hT9.congr (n' := fun v => if v < k + 1 then T.el v else 0) (x' := fun u v => if u < k then 1 else if v < j + 1 then 1 else 0) (fun _ _ => rfl) (fun u _ v hv => by
      show upd2 _ k j 1 u v=_
      by_cases e:u=k/\v=j
      ·obtain ⟨e1,e2⟩:=e
       subst e1 e2
       rw [zfn,if_neg (by omega),if_pos (by omega)]
      ·rw [zeW e]
       by_cases e2:u<k
       ·rw [if_pos e2,if_pos e2]
       ·rw [if_neg e2, if_neg e2]
        by_cases e3:v<j
        ·rw [if_pos e3,if_pos (by omega)]
        ·rw [if_neg e3]
         by_cases e4:v=j
         ·exfalso
          have:u<k+1:=by
           by_cases e5:u<k+1
           ·exact e5
           ·change v<(if u<k+1 then T.el u else 0) at hv
            rw [if_neg e5] at hv; omega
          exact e ⟨by omega,e4⟩
         ·rw [if_neg (by omega)])
     rw [World.setCell_alloc_past _ _ _ _ hl9] at hN hB9
     have HNJ:=hid hN
     have HBJ:=hid hB9
     clear hN hB9 hT9 kb hF9 hjn hT hB
     go_wp2
     go_roundg (gk - 1)
     case measure=>omega
     case rel=>exact ⟨j+1,by go_num,by omega,by omega,HNJ.out,HBJ.out,by simp; omega⟩
    ·have hltj':¬ (j:Int)<(n1:Int):=by omega
     have hje:j=n1:=by omega
     have hN:=hid (hT.congr (n':=fun v=>if v<k+1 then T.el v else 0) (x':=fun _ _=>1) (fun _ _=>rfl) (fun u _ v hv=>by
      show (if u<k then 1 else if v<j then 1 else 0)=1
      by_cases e2:u<k
      ·rw [if_pos e2]
      ·rw [if_neg e2]
       change v<(if u<k+1 then T.el u else 0) at hv
       by_cases e5:u<k+1
       ·rw [if_pos e5] at hv
        obtain rfl:u=k:=by omega
        rw [if_pos (by rw [hje,HN1.out]; exact hv)]
       ·rw [if_neg e5] at hv; omega))
     have HB:=hid hB
     clear hT hB hje
     go_wp2
     go_roundg (gK - 1)
     case measure=>omega
     case rel=>exact ⟨k+1,F2,by go_num,by omega,by omega,hN.out,HFN,HB.out,hl⟩
  ·have hlt':¬ (k:Int)<(T.n:Int):=by omega
   have hTf:=hT.congr (n':=T.el) (x':=fun _ _=>1) (fun v hv=>if_pos (by omega)) (fun _ _ _ _=>rfl)
   have hvt:=hTf.vtab
   clear hT HF hTf
   rename World=>w40
   go_upto_region 10 with fail
   refine wp_region_held_drew (S:=fun w'=>w'.cell? ⟨w.heap.size,0,none⟩=some (.slice A T.nw c)/\w'.cell? ⟨w.heap.size,1,none⟩=some (.slice B T.n d)) (by kernel_rfl) ⟨cellS (Below.refl _ _).drew p0,cellS (Below.refl _ _).drew p1⟩ (fun hHeld=>?_)
   obtain ⟨w41,hw⟩:∃ W,W=World.drew w40:=⟨_,rfl⟩
   have kb:Below w40.heap.size w40 w41:=by rw [hw]; exact (Below.refl _ _).drew
   rw [<-hw] at hHeld ⊢;clear hw;replace hW:=onS hW kb;replace p0:=cellS kb p0;replace p1:=cellS kb p1;replace hvt:=hvt.on kb;clear kb
   refine tkq 0 (h:=tkq 1 (h:=tkq 3 (h:=tkq 4 (h:=tkq 5 (h:=?_)))))
   refine rdq 2 (h:=fun K hK=>?_)
   go_simp
   go_wp2_with fail
   refine (zc4 T A B (some ⟨g,0,none⟩) c d T.n (fun _ _=>1) w41 (HR.out.on hW) HP.out.shape hvt (fun _ _ _ _=>Nat.le_refl _)).mono ?_
   rintro e w42 ⟨g7,F7,rfl,hg7,hT7,kb⟩
   replace hW:=onS hW kb;replace p0:=cellS kb p0;replace p1:=cellS kb p1;replace hvt:=hvt.on kb;clear kb
   have hnw:=HP.out.shape.nw
   have hnl:T.n<T.nw:=by omega
   have hnl':(T.n:Int)<(T.nw:Int):=by omega
   have hwn:=HP.out.wn
   obtain ⟨b0,o0,d0,A0,c0,hF0,hb0,hbl0,q0,q1,q2,q3,_,_⟩:=hT7.at (v:=T.n) hnl (k:=0) (by show 0<(T.W T.n).toNat; omega)
   have r0:=hT7.row.cell hnl
   rw [hF0] at r0
   have h1n:(T.W T.n).toNat=1:=by omega
   change World.cell? _ ⟨g7,T.n,none⟩=some (.slice (some ⟨b0,o0,none⟩) (T.W T.n).toNat d0) at r0
   rw [h1n] at r0;rw [Nat.add_zero] at q0;clear hnw hwn h1n hT7 hF0
   refine bkq hK ⟨p0,p1⟩ (h:=fun hHeld=>?_)
   clear hK K
   refine tkq 6 (h:=?_)
   refine rdq 7 (h:=fun K hK=>?_)
   go_simp
   refine bkq hK ⟨p0,p1⟩ (h:=fun hHeld=>?_)
   clear hK K
   refine tkq 8 (h:=?_)
   refine rdq 9 (h:=fun K hK=>?_)
   go_simp
   refine bkq hK ⟨p0,p1⟩ (h:=fun hHeld=>?_)
   clear hK K
   refine tkq 10 (h:=?_)
   refine wpAnyH_done (by kernel_rfl) ?_ _
   clear hHeld
   have HF:=hid (show ∀ e,e=.returned (.slice A0 (dl (T.fwd (fun _ _=>1) T.n 0)) c0)->NatPost (T.fwd (fun _ _=>1) T.n 0) w e w42 from fun e he=>⟨A0,c0,he,q1,q2,q3,hW⟩)
   clear q1 q2 q3
   obtain ⟨xx,hxx⟩:∃ x,x=T.fwd (fun _ _=>1) T.n 0:=⟨_,rfl⟩
   rw [<-hxx] at HF q0 ⊢
   have HXX:=hid hxx
   clear hxx
   go_wp2
   go_ret
   rw [<-HXX.out]
   exact HF.out _ rfl
theorem zeZ (A B:Option Addr) (n c d:Nat) (f:Nat->Int) (w:World) (ha:IntsR w w.heap.size A n f) (hb:IntsR w w.heap.size B n f) (hn:n<=1048576) :
  Calls Tryz.prog 114 #[.slice A n c,.slice B n d] w fun e w'=>e=.returned (.int .i64 0)/\Below w.heap.size w w':=by
 have HA:=hid ha
 have HB:=hid hb
 clear ha hb
 go_enter Tryz.func114, Tryz.ntmps114
 go_wp2
 go_loopg [5] n (fun g iv wx=>∃ k:Nat,iv=.int .i64 (k:Nat)/\k<=n/\n<=k+g/\Below w.heap.size w wx)
 case atStart=>exact ⟨0,rfl,by omega,by omega,Below.refl _ _⟩
 case round =>
  obtain ⟨k,rfl,hk,hkg,hW⟩:=hrel
  have hk0:(0:Int)<=(k:Int):=by omega
  by_cases hlt:k<n
  ·have hlt':(k:Int)<(n:Int):=by omega
   have hd:decide ((k:Int)<(n:Int))=true:=by simp; omega
   obtain ⟨ab,ao,rfl,hab,x0⟩:=(HA.out.on hW).at hlt
   obtain ⟨bb,bo,rfl,hbb,y0⟩:=(HB.out.on hW).at hlt
   obtain ⟨x,hx⟩:∃ x,x=f k:=⟨_,rfl⟩
   rw [<-hx] at x0 y0;clear hx
   have h1:¬ x<x:=by omega
   have h2:¬ x > x:=by omega
   go_wp2
   go_quiet (fail)
   go_wp2
   go_quiet (fail)
   go_wp2
   go_roundg (gk - 1)
   case measure=>omega
   case rel=>exact ⟨k+1,by go_num,by omega,by omega,zac hW _⟩
  ·have hlt':¬ (k:Int)<(n:Int):=by omega
   have hd:decide ((k:Int)<(n:Int))=false:=by simp; omega
   have hnn:¬ (n:Int)<(n:Int):=by omega
   obtain rfl:k=n:=by omega
   go_wp2
   go_ret
   exact ⟨rfl,hW⟩
theorem TabL.read {w:World} {b N c:Nat} {A:Option Addr} {L:List (List Int)} (h:TabL w b (.slice A N c) L) {k:Nat} (hk:k<L.length) :
  ∃ wb wo RA rc,A=some ⟨wb,wo,none⟩/\wb<w.heap.size/\w.cell? ⟨wb,wo+k,none⟩=some (.slice RA (L.getD k []).length rc)/\OwnL w b (.slice RA (L.getD k []).length rc) (L.getD k []):=by
 obtain ⟨R,hA,hB⟩:=h
 obtain ⟨A1,c1,e1⟩:=hA.shape
 injection e1 with e1 e2 e3
 subst e1 e2 e3
 obtain ⟨wb,wo,e,hb1,hc1⟩:=hA.rd rfl k hk
 have g1:=hc1 0 (by omega)
 rw [Nat.mul_one,Nat.add_zero] at g1
 have hr:=hB k hk
 obtain ⟨RA,rc,hR⟩:=Own.shape hr
 rw [hR] at hr
 exact ⟨wb,wo,RA,rc,e,hb1,by rw [g1,<-hR],hr⟩
theorem zeo (b1 b2:Nat) (v1 v2:Value) (L:List (List Int)) (w0:World) (h1:TabL w0 b1 v1 L) (h2:TabL w0 b2 v2 L) (hl:∀ l,l ∈ L->l.length<=1048576) :
  Calls Tryz.prog 136 #[v1,v2] w0 fun e w'=>e=.returned (.bool true)/\Below w0.heap.size w0 w':=by
 obtain ⟨A1,c1,rfl⟩:=h1.shape
 obtain ⟨A2,c2,rfl⟩:=h2.shape
 have H1:=hid h1
 have H2:=hid h2
 have HL:=hid hl
 obtain ⟨n,hn⟩:∃ n,n=L.length:=⟨_,rfl⟩
 have HN:=hid hn
 rw [<-hn] at H1 H2 ⊢
 have hnb:n<=9223372036854775807:=by
  obtain ⟨R,hA,_⟩:=h1
  have:=hA.len_le
  unfold maxLen at this
  omega
 clear h1 h2 hl hn
 have hnn:((n:Int) != (n:Int))=false:=by simp
 go_enter Tryz.func136, Tryz.ntmps136
 go_wp2
 go_loopg [5] n (fun g iv wx=>∃ k:Nat,iv=.int .i64 (k:Nat)/\k<=n/\n<=k+g/\Below w0.heap.size w0 wx)
 case atStart=>exact ⟨0,rfl,by omega,by omega,Below.refl _ _⟩
 case round =>
  obtain ⟨k,rfl,hk,hkg,hW⟩:=hrel
  have hk0:(0:Int)<=(k:Int):=by omega
  by_cases hlt:k<n
  ·have hlt':(k:Int)<(n:Int):=by omega
   obtain ⟨ab,ao,RA,ra,rfl,hab,x0,hx⟩:=(H1.out.on hW).read (k:=k) (by rw [<-HN.out]; exact hlt)
   obtain ⟨bb,bo,RB,rb,rfl,hbb,y0,hy⟩:=(H2.out.on hW).read (k:=k) (by rw [<-HN.out]; exact hlt)
   have hm:=HL.out (L.getD k []) (by rw [List.getD_eq_getElem?_getD,List.getElem?_eq_getElem (by rw [<-HN.out]; exact hlt)]; exact List.getElem_mem _)
   obtain ⟨l,hle⟩:∃ l,l=L.getD k []:=⟨_,rfl⟩
   rw [<-hle] at x0 y0 hx hy hm
   have hxr:IntsR wr wr.heap.size RA l.length (fun j=>l.getD j 0):=Own.rd hx rfl
   have hyr:IntsR wr wr.heap.size RB l.length (fun j=>l.getD j 0):=Own.rd hy rfl
   obtain ⟨m,hmm⟩:∃ m,m=l.length:=⟨_,rfl⟩
   rw [<-hmm] at x0 y0 hxr hyr hm;clear hle hx hy hmm
   obtain ⟨w1,hw1⟩:∃ W,W=wr:=⟨_,rfl⟩
   subst hw1
   go_upto_region 6 with fail
   refine wp_region_held_drew (S:=fun w'=>w'.cell? ⟨ab,ao+k,none⟩=some (.slice RA m ra)/\w'.cell? ⟨bb,bo+k,none⟩=some (.slice RB m rb)) (by kernel_rfl) ⟨cellS (Below.refl _ _).drew x0,cellS (Below.refl _ _).drew y0⟩ (fun hHeld=>?_)
   obtain ⟨w2,hw⟩:∃ W,W=World.drew w1:=⟨_,rfl⟩
   have kb:Below w1.heap.size w1 w2:=by rw [hw]; exact (Below.refl _ _).drew
   rw [<-hw] at hHeld ⊢;clear hw;replace hW:=onS hW kb;replace hxr:=hxr.on kb;replace hyr:=hyr.on kb;replace x0:=cellS kb x0;replace y0:=cellS kb y0;clear kb
   refine tkq 0 (h:=tkq 1 (h:=tkq 2 (h:=tkq 3 (h:=tkq 4 (h:=tkq 5 (h:=tkq 6 (h:=tkq 7 (h:=?_))))))))
   refine rdq 8 (h:=fun K hK=>?_)
   go_simp
   go_wp2_with fail
   refine (zeZ RA RB m ra rb (fun j=>l.getD j 0) w2 hxr hyr hm).mono ?_
   rintro e w3 ⟨rfl,kb⟩
   replace hW:=onS hW kb;replace hxr:=hxr.on kb;replace hyr:=hyr.on kb;replace x0:=cellS kb x0;replace y0:=cellS kb y0;clear kb
   refine bkq hK ⟨x0,y0⟩ (h:=fun hHeld=>?_)
   clear hK K
   refine tkq 9 (h:=?_)
   refine wpAnyH_done (by kernel_rfl) ?_ _
   clear hHeld;clear x0 y0 hxr hyr
   go_wp2
   go_roundg (gk - 1)
   case measure=>omega
   case rel=>exact ⟨k+1,by go_num,by omega,by omega,hW⟩
  ·have hlt':¬ (k:Int)<(n:Int):=by omega
   obtain rfl:k=n:=by omega
   go_wp2
   go_ret
   exact ⟨rfl,hW⟩
section
variable (add mul:Nat->Nat->Nat) (H:Nat->Nat->Nat) (T:Trel)
def Trel.synv (S:Nat->Nat->Nat) (i j k:Nat):Nat:=add (S (T.fr i j).toNat k) (mul (T.lb i j).toNat (H k i))
def Trel.asg (i j v:Nat):Prop:=∃ e,e<j/\(T.to i e).toNat=v
def Trel.synL (S:Nat->Nat->Nat) (i:Nat):Nat->Nat->Nat->Nat
 | 0,_,_=>0
 | j+1,v,k=>if (T.to i j).toNat=v then T.synv add mul H S i j k else Trel.synL S i j v k
def Trel.syn:Nat->Nat->Nat->Nat
 | 0,_,_=>0
 | i+1,v,k=>T.synL add mul H (Trel.syn i) i (T.el i) v k
def Trel.agree (q a i j:Nat):Prop:=(0<=T.lb i j/\T.lb i j<q)/\(T.asg i j (T.to i j).toNat->∀ k,k<a->T.synL add mul H (T.syn add mul H i) i j (T.to i j).toNat k=T.synv add mul H (T.syn add mul H i) i j k)
def Trel.SynOk (q a:Nat):Prop:=∀ i,i<T.n->∀ j,j<T.el i->T.agree add mul H q a i j
def Trel.synF (S:Nat->Nat->Nat) (i:Nat):Nat->Nat->Nat->Nat
 | 0,_,_=>0
 | j+1,v,k=>if (T.to i j).toNat=v/\¬ ∃ e,e<j/\(T.to i e).toNat=v then T.synv add mul H S i j k else Trel.synF S i j v k
end
section
variable {add mul:Nat->Nat->Nat} {H:Nat->Nat->Nat} {T:Trel} {q a:Nat}
theorem Trel.asg_succ {i j v:Nat}:T.asg i (j+1) v↔T.asg i j v∨(T.to i j).toNat=v:=by
 constructor
 ·rintro ⟨e,h1,h2⟩
  by_cases g:e=j
  ·exact .inr (by rw [<-g]; exact h2)
  ·exact .inl ⟨e,by omega,h2⟩
 ·rintro (⟨e,h1,h2⟩ | h)
  ·exact ⟨e,by omega,h2⟩
  ·exact ⟨j,by omega,h⟩
theorem Trel.asg_zero {i v:Nat}:¬ T.asg i 0 v:=fun ⟨_,h,_⟩=>absurd h (by omega)
theorem Trel.syn_first {i:Nat}:∀ j,(∀ e,e<j->T.agree add mul H q a i e)->∀ v,T.asg i j v->∀ k,k<a->T.synF add mul H (T.syn add mul H i) i j v k=T.synL add mul H (T.syn add mul H i) i j v k
 | 0,_,_,h,_,_=>absurd h Trel.asg_zero
 | j + 1, hok, v, hv, k, hk => by
  have ih:=Trel.syn_first j fun e he=>hok e (by omega)
  show (if (T.to i j).toNat=v/\¬ ∃ e,e<j/\(T.to i e).toNat=v then T.synv add mul H (T.syn add mul H i) i j k else T.synF add mul H (T.syn add mul H i) i j v k)=if (T.to i j).toNat=v then T.synv add mul H (T.syn add mul H i) i j k else T.synL add mul H (T.syn add mul H i) i j v k
  by_cases e1:(T.to i j).toNat=v
  ·rw [if_pos e1]
   by_cases e2:T.asg i j v
   ·rw [if_neg (fun g=>g.2 e2),ih v e2 k hk]
    have:=(hok j (by omega)).2
    rw [e1] at this
    exact this e2 k hk
   ·rw [if_pos ⟨e1,e2⟩]
  ·rw [if_neg e1,if_neg (fun g=>e1 g.1)]
   rcases Trel.asg_succ.1 hv with g | g
   ·exact ih v g k hk
   ·exact absurd g e1
theorem Trel.synL_lt (hL:FieldLaws q add mul) {S:Nat->Nat->Nat} {i:Nat}:∀ j v k,T.synL add mul H S i j v k<q
 | 0,_,_=>by have:=hL.two; show 0<q; omega
 | j+1,v,k=>by
  show (if (T.to i j).toNat=v then T.synv add mul H S i j k else T.synL add mul H S i j v k)<q
  split
  ·exact hL.addLt _ _
  ·exact Trel.synL_lt hL j v k
theorem Trel.syn_lt (hL:FieldLaws q add mul):∀ i v k,T.syn add mul H i v k<q
 | 0,_,_=>by have:=hL.two; show 0<q; omega
 | _+1,_,_=>Trel.synL_lt hL _ _ _
end
theorem Tryz.infoTabs:(Tryz.prog.info? 25).map (fun i=>(i.zero,i.size,i.bytes))=some (some (.slice none 0 0),1,24):=by kernel_rfl
structure LTab (w:World) (base g m a:Nat) (P:Nat->Prop) (R:Nat->Value) (S:Nat->Nat->Nat):Prop where
 ge:base<=g
 row:w.rowIs g 22 m R
 yes:∀ u,u<m->P u->Own w base 3 1 (R u) a (fun k _=>.int .i64 (S u k:Nat))
 no:∀ u,u<m->¬ P u->R u=.slice none 0 0
section
variable {w w':World} {base g m a:Nat} {P:Nat->Prop} {R:Nat->Value} {S:Nat->Nat->Nat}
theorem LTab.on (h:LTab w base g m a P R S) (hb:Below w.heap.size w w'):LTab w' base g m a P R S:=⟨h.ge,zaa h.row hb,fun u hu hp=>(h.yes u hu hp).on hb,h.no⟩
theorem LTab.congr {P':Nat->Prop} {S':Nat->Nat->Nat} (h:LTab w base g m a P R S) (e1:∀ u,u<m->(P u↔P' u)) (e2:∀ u,u<m->P u->∀ k,k<a->S u k=S' u k):LTab w base g m a P' R S' :=
 ⟨h.ge,h.row,fun u hu hp=>(h.yes u hu ((e1 u hu).2 hp)).congr fun k hk _ _=>by rw [e2 u hu ((e1 u hu).2 hp) k hk],fun u hu hp=>h.no u hu fun g=>hp ((e1 u hu).1 g)⟩
theorem LTab.set (h:LTab w base g m a P R S) {u:Nat} {v:Value} {s:Nat->Nat} (hv:Own w base 3 1 v a (fun k _=>.int .i64 (s k:Nat))) :
  LTab (w.setCell ⟨g,u,none⟩ v) base g m a (fun x=>P x∨x=u) (fun x=>if x=u then v else R x) (fun x k=>if x=u then s k else S x k):=by
 have far:∀ {y:Value} {F:Nat->Nat->Value},Own w base 3 1 y a F->Own (w.setCell ⟨g,u,none⟩ v) base 3 1 y a F:=fun hy=>hy.setCell (a:=⟨g,u,none⟩) (fun e=>(zaL h.row hy (by decide)).elim (fun h=>by rw [h] at e; cases e) fun h=>h e) _
 refine ⟨h.ge,(h.row.set u v).congr fun x _=>rfl,fun x hx hp=>?_,fun x hx hp=>?_⟩
 ·by_cases e:x=u
  ·simp only [if_pos e]
   exact far hv
  ·simp only [if_neg e]
   exact far (h.yes x hx (hp.resolve_right e))
 ·have e:x≠u:=fun e=>hp (.inr e)
  show (if x=u then v else R x)=_
  rw [if_neg e]
  exact h.no x hx fun g=>hp (.inl g)
theorem LTab.kept {b:Nat} (h:LTab w base g m a P R S) (hg:w.grownBy w' (some b)) (h1:b≠g) (h2:∀ u,u<m->P u->(R u).ownBlock≠some b):LTab w' base g m a P R S :=
 ⟨h.ge,h.row.of_block (hg.block _ h.row.lt fun e=>h1 (Option.some.inj e).symm),fun u hu hp=>(h.yes u hu hp).kept hg (.inr (h2 u hu hp)),h.no⟩
theorem LTab.made {m:Nat} (w:World) (a:Nat) (S:Nat->Nat->Nat):LTab (w.alloc (.cells (madeCells #[.slice none 0 0] m) 22)) w.heap.size w.heap.size m a (fun _=>False) (fun _=>.slice none 0 0) S :=
 ⟨Nat.le_refl _,World.rowIs_made w (.slice none 0 0) m 22, fun _ _ h=>h.elim,fun _ _ _=>rfl⟩
end
theorem rowIs_setCells_other' {b b':Nat} {t:TypeId} {n:Nat} {f:Nat->Value} {w:World} (hne:b'≠b) (v:Value) (o:Nat) (h:w.rowIs b' t n f):(w.setCell ⟨b,o,none⟩ v).rowIs b' t n f:=h.of_block ((zaO w b o v).block _ h.lt fun e=>hne (Option.some.inj e))
def TSynP (P M:Nat) (m:Nat->Nat) (T:Trel) (H:Nat->Nat->Nat) (q a:Nat) (w:World) (e:Ending) (w':World):Prop :=
 Below w.heap.size w w'/\((T.SynOk (addF P M) (mulF P M m) H q a/\∃ (go g:Nat) (R:Nat->Value),e=.returned (.tuple #[.slice (some ⟨go,0,none⟩) T.nw T.nw,.bool true])/\w'.cell? ⟨go,T.n,none⟩=some (.slice (some ⟨g,0,none⟩) (T.W T.n).toNat (T.W T.n).toNat)/\LTab w' w.heap.size g (T.W T.n).toNat a (fun _=>True) R (T.syn (addF P M) (mulF P M m) H T.n)) ∨
  (¬ T.SynOk (addF P M) (mulF P M m) H q a/\e=.returned (.tuple #[.slice none 0 0,.bool false])))
theorem zep {P M gp:Nat} {m:Nat->Nat} (T:Trel) (A B HA:Option Addr) (c d hc a q:Nat) (H:Nat->Nat->Nat) (w:World) (HQ:Hid (q=P ^ M)) (hG:GF w w.heap.size gp P M m) (hT:T.Reads w A B) (hp:T.Proper) (hH:MRows w HA a T.n H) (hHq:∀ k,k<a->∀ i,i<T.n->H k i<q) (ha:a<=64) :
  Calls Tryz.prog 117 #[.pointer (some ⟨gp,0,none⟩),.slice HA a hc,.agg #[.slice A T.nw c,.slice B T.n d]] w (TSynP P M m T H q a w):=by
 have HG:=hid hG
 have HR:=hid hT
 have HP:=hid hp
 have HSH:=hid hp.shape
 have HH:=hid hH
 have HHq:=hid hHq
 have hn64:=hp.shape.n64
 have HNW1:=hid hp.shape.nw
 have hnw65:T.nw<=65:=by have:=HNW1.out; omega
 have hnw0:0<T.nw:=by have:=HNW1.out; omega
 have HL:Hid (FieldLaws q (addF P M) (mulF P M m)):=by rw [HQ.out]; exact hid (fieldLaws hG.ok)
 have HW:Hid (∀ i,i<=T.n->1<=T.W i/\T.W i<=65536):=hid fun i hi=>hp.shape.wid hi
 clear hG hT hp hH hHq
 have HMI:∀ (z:Nat),z<=65536->∀ W,_:=fun z hz W=>zaf (P:=Tryz.prog) 22 3 _ 8 Tryz.underlying22 Tryz.infoInt rfl (z:Int) (by omega) (by omega) (by omega) W
 have HMR:∀ (z:Nat),z<=65536->∀ W,_:=fun z hz W=>zaf (P:=Tryz.prog) 25 22 _ 24 Tryz.underlying25 Tryz.infoInts rfl (z:Int) (by omega) (by omega) (by omega) W
 have HMT:∀ (z:Nat),z<=65536->∀ W,_:=fun z hz W=>zaf (P:=Tryz.prog) 155 25 _ 24 Tryz.underlying155 Tryz.infoTabs rfl (z:Int) (by omega) (by omega) (by omega) W
 simp only [Int.toNat_natCast] at HMI HMR HMT
 have HMI:=hid HMI
 have HMR:=hid HMR
 have HMT:=hid HMT
 have rb:=zae (w:=w) (a:=.slice A T.nw c) (b:=.slice B T.n d) (T := 74)
 have hB:Below w.heap.size w (w.alloc (.cells #[.slice A T.nw c,.slice B T.n d] 74)):=(Below.refl _ _).alloc (Nat.le_refl _) _
 obtain ⟨w1,hw1⟩:∃ W,W=w.alloc (.cells #[.slice A T.nw c,.slice B T.n d] 74):=⟨_,rfl⟩
 rw [<-hw1] at hB rb
 go_enter Tryz.func117, Tryz.ntmps117
 go_upto_region 1 with fail
 rw [<-hw1];clear hw1
 obtain ⟨b5,hb5⟩:∃ b,b=w.heap.size:=⟨_,rfl⟩
 have hb5w:w.heap.size<=b5:=Nat.le_of_eq hb5.symm
 rw [<-hb5] at rb;rw [<-hb5];clear hb5
 have p0:=qc0 rb
 have hmk:=HMT.out T.nw (by omega)
 go_upto_region 2 with fail
 have rz:World.rowIs (World.alloc w1 (Obj.cells (madeCells #[Value.slice none 0 0] T.nw) 25)) w1.heap.size 25 T.nw (fun _=>.slice none 0 0):=World.rowIs_made _ (.slice none 0 0) T.nw 25
 have kb:Below w1.heap.size w1 (World.alloc w1 (Obj.cells (madeCells #[Value.slice none 0 0] T.nw) 25)):=(Below.refl _ _).alloc (Nat.le_refl _) _
 obtain ⟨w2,hw2⟩:∃ W,W=World.alloc w1 (Obj.cells (madeCells #[Value.slice none 0 0] T.nw) 25):=⟨_,rfl⟩
 rw [<-hw2] at rz kb ⊢
 obtain ⟨go,hgo⟩:∃ g,g=w1.heap.size:=⟨_,rfl⟩
 have hgoB:w1.heap.size<=go:=Nat.le_of_eq hgo.symm
 have hgo2:go<w2.heap.size:=by rw [hw2,hgo]; simp
 rw [<-hgo] at rz ⊢;clear hw2 hgo hmk p0
 have hmk:=HMI.out a (by omega)
 have o0:w2.cell? ⟨go,0,none⟩=some (.slice none 0 0):=rz.cell hnw0
 have o1:=rz.frozen 0
 have hnw0':(0:Int)<(T.nw:Int):=by omega
 go_upto_region 3 with fail
 have hrow3:(w2.setCell ⟨go,0,none⟩ (.slice (some ⟨w2.heap.size+1,0,none⟩) 1 1)).rowIs go 25 T.nw (fun u=>if u=0 then .slice (some ⟨w2.heap.size+1,0,none⟩) 1 1 else .slice none 0 0):=rz.set 0 _
 have kb3:=kb.setCell (p:=⟨go,0,none⟩) hgoB (.slice (some ⟨w2.heap.size+1,0,none⟩) 1 1)
 have hs3:(w2.setCell ⟨go,0,none⟩ (.slice (some ⟨w2.heap.size+1,0,none⟩) 1 1)).heap.size=w2.heap.size:=by simp
 obtain ⟨w3,hw3⟩:∃ W,W=w2.setCell ⟨go,0,none⟩ (.slice (some ⟨w2.heap.size+1,0,none⟩) 1 1):=⟨_,rfl⟩
 rw [<-hw3] at hrow3 kb3 hs3 ⊢
 obtain ⟨gz,hgz⟩:∃ g,g=w2.heap.size:=⟨_,rfl⟩
 rw [<-hgz] at hrow3 hs3 ⊢;clear hw3 rz kb o0 o1 hmk
 have rz4:World.rowIs (World.alloc w3 (Obj.cells (madeCells #[Value.int .i64 0] a) 3)) w3.heap.size 3 a (fun _=>.int .i64 ((0:Nat):Int)):=World.rowIs_made _ (.int .i64 0) a 3
 have kb4:Below w3.heap.size w3 (World.alloc w3 (Obj.cells (madeCells #[Value.int .i64 0] a) 3)):=(Below.refl _ _).alloc (Nat.le_refl _) _
 have hs4:(World.alloc w3 (Obj.cells (madeCells #[Value.int .i64 0] a) 3)).heap.size=w3.heap.size+1:=by simp
 obtain ⟨w4,hw4⟩:∃ W,W=World.alloc w3 (Obj.cells (madeCells #[Value.int .i64 0] a) 3):=⟨_,rfl⟩
 rw [<-hw4] at rz4 kb4 hs4 ⊢
 have rb5:(w4.alloc (.cells #[.slice (some ⟨gz,0,none⟩) a a] 22)).rowIs w4.heap.size 22 1 (fun _=>.slice (some ⟨gz,0,none⟩) a a):=⟨_,zaw rfl,rfl,fun i hi=>by
  obtain rfl:i=0:=by omega
  rfl⟩
 have kb5:Below w4.heap.size w4 (w4.alloc (.cells #[.slice (some ⟨gz,0,none⟩) a a] 22)):=(Below.refl _ _).alloc (Nat.le_refl _) _
 obtain ⟨w5,hw5⟩:∃ W,W=w4.alloc (.cells #[.slice (some ⟨gz,0,none⟩) a a] 22):=⟨_,rfl⟩
 rw [<-hw5] at rb5 kb5 ⊢;rw [hs4,hs3] at rb5;rw [hs3] at rz4
 have hww:w.heap.size<=gz:=by have:=hB.size; have:=kb3.size; omega
 have hL0:LTab w5 w.heap.size (gz+1) 1 a (fun _=>True) (fun _=>.slice (some ⟨gz,0,none⟩) a a) (T.syn (addF P M) (mulF P M m) H 0) :=
  ⟨by omega,rb5,fun u _ _=>(zau (zaa rz4 kb5) hww (by unfold maxLen; omega)).congr fun k _ _ _=>rfl,fun u _ h=>absurd trivial h⟩
 have hgo5:=zaa (zaa hrow3 kb4) kb5
 have HB:=hid hB
 have hb5':∀ X,Below w1.heap.size w1 X->X.rowIs b5 74 2 (matCell (.slice A T.nw c) (.slice B T.n d)):=fun X hb=>zaa rb hb
 have HBK:=hid hb5'
 have HK1:=hid (onS (onS kb3 kb4) kb5)
 clear hs3 hs4 hw4 hw5 rb5 rz4 kb3 kb4 kb5 hrow3 rb hb5' hww hgz hgo2
 have p1:w5.cell? ⟨b5,1,none⟩=some (.slice B T.n d):=(HBK.out _ HK1.out).cell (i:=1) (by omega)
 go_upto_region 4 with fail
 go_loopg [30] T.n (fun gg iv wx=>∃ (i g:Nat) (R F:Nat->Value),iv=.int .i64 (i:Nat)/\i<=T.n/\T.n<=i+gg/\Hid (∀ i',i'<i->∀ j,j<T.el i'->T.agree (addF P M) (mulF P M m) H q a i' j)/\wx.rowIs go 25 T.nw F/\F i=.slice (some ⟨g,0,none⟩) (T.W i).toNat (T.W i).toNat/\LTab wx w.heap.size g (T.W i).toNat a (fun _=>True) R (T.syn (addF P M) (mulF P M m) H i)/\Below w1.heap.size w1 wx)
 case atStart =>
  have hw0:(T.W 0).toNat=1:=by rw [HP.out.w0]; rfl
  refine ⟨0,gz+1,fun _=>.slice (some ⟨gz,0,none⟩) a a,fun u=>if u=0 then .slice (some ⟨gz+1,0,none⟩) 1 1 else .slice none 0 0,rfl,by omega,by omega,hid fun i' h=>absurd h (by omega),hgo5,?_,?_,HK1.out⟩
  ·show (if 0=0 then Value.slice (some ⟨gz+1,0,none⟩) 1 1 else .slice none 0 0)=_
   rw [if_pos rfl,hw0]
  ·rw [hw0]; exact hL0
 case round =>
  clear hgo5 hL0 p1
  obtain ⟨i,g,R,F,rfl,hi,hig,HOK,hgo5,hF,hLT,hB⟩:=hrel
  have hi0:(0:Int)<=(i:Int):=by omega
  have HGO:=hid hgo5
  have HF:=hid hF
  have HLT:=hid hLT
  have HKB:=hid hB
  obtain ⟨w6,hw6⟩:∃ X,X=wr:=⟨_,rfl⟩
  subst hw6
  clear hgo5 hF hLT hB
  by_cases hin:i<T.n
  ·have hin':(i:Int)<(T.n:Int):=by omega
   obtain ⟨eb,eo,E,ec,hBe,heb,e0w,hec,hec2,hEd,hI64⟩:=HR.out.sec hin
   have HED:=hid hEd
   have e0:=cellS (onS HB.out HKB.out) e0w
   subst hBe
   obtain ⟨el,hel⟩:∃ x,x=T.el i:=⟨_,rfl⟩
   have hel2:el<=262144:=by rw [hel]; exact HSH.out.elb hin
   rw [<-hel] at e0 e0w HED
   have HEL:=hid hel
   clear hel hEd hI64 hec hec2 e0w
   have p0:w6.cell? ⟨b5,0,none⟩=some (.slice A T.nw c):=(HBK.out _ HKB.out).cell (i:=0) (by omega)
   have hW1:=HW.out (i+1) (by omega)
   obtain ⟨mm,hmm⟩:∃ x:Nat,x=(T.W (i+1)).toNat:=⟨_,rfl⟩
   have hWm:T.W (i+1)=(mm:Int):=by omega
   have hm65:mm<=65536:=by omega
   obtain ⟨ab,ao,hAe,_,a0,_⟩:=(HR.out.on (onS HB.out HKB.out)).width (i:=i+1) (by have:=HNW1.out; omega)
   subst hAe
   rw [hWm] at a0
   have HMM:=hid hmm
   have HWM:=hid hWm
   clear hmm hWm hW1
   have hi1w:IntKind.i64.wrap ((i:Int)+1)=((i+1:Nat):Int):=by rw [IntWalk.i64_in _ (by omega)]; rfl
   have hmk:=HMR.out mm hm65
   have hinw:((i+1:Nat):Int)<(T.nw:Int):=by have:=HNW1.out; omega
   have hinwN:i+1<T.nw:=by have:=HNW1.out; omega
   have hinw2:(i:Int)+1<(T.nw:Int):=by omega
   have hi10:(0:Int)<=((i+1:Nat):Int):=by omega
   have c0:=HGO.out.cell hinwN
   have c1:=HGO.out.frozen (i+1)
   have hgo6:=HGO.out.lt
   go_upto_region 8 with fail
   have hne:go≠g:=fun e=>(zaL HGO.out (zau HLT.out.row (Nat.zero_le _) (by have:=HW.out i (by omega); unfold maxLen; omega)) (by decide)).elim (fun h=>by cases h) (fun h=>h (by rw [e]; rfl))
   have hLT2:LTab (w6.setCell ⟨go,i+1,none⟩ (.slice (some ⟨w6.heap.size,0,none⟩) mm mm)) w.heap.size g (T.W i).toNat a (fun _=>True) R (T.syn (addF P M) (mulF P M m) H i):=HLT.out.kept (zaO w6 go (i+1) _) hne fun u hu hp e=>(zaL HGO.out (HLT.out.yes u hu hp) (by decide)).elim (fun h=>by rw [h] at e; cases e) (fun h=>h e)
   have hgo7:(w6.setCell ⟨go,i+1,none⟩ (.slice (some ⟨w6.heap.size,0,none⟩) mm mm)).rowIs go 25 T.nw (fun u=>if u=i+1 then .slice (some ⟨w6.heap.size,0,none⟩) mm mm else F u):=HGO.out.set (i+1) _
   have hk7:=HKB.out.setCell (p:=⟨go,i+1,none⟩) hgoB (.slice (some ⟨w6.heap.size,0,none⟩) mm mm)
   have hs7:(w6.setCell ⟨go,i+1,none⟩ (.slice (some ⟨w6.heap.size,0,none⟩) mm mm)).heap.size=w6.heap.size:=by simp
   obtain ⟨w7,hw7⟩:∃ W,W=w6.setCell ⟨go,i+1,none⟩ (.slice (some ⟨w6.heap.size,0,none⟩) mm mm):=⟨_,rfl⟩
   rw [<-hw7] at hLT2 hgo7 hk7 hs7 ⊢
   obtain ⟨g2,hg2⟩:∃ x,x=w6.heap.size:=⟨_,rfl⟩
   have hg2w:w.heap.size<=g2:=by have:=HB.out.size; have:=HKB.out.size; omega
   rw [<-hg2] at hgo7 hs7 ⊢
   have hmade:=LTab.made (m:=mm) w7 a (T.synL (addF P M) (mulF P M m) H (T.syn (addF P M) (mulF P M m) H i) i 0)
   have kb8:Below w7.heap.size w7 (w7.alloc (.cells (madeCells #[.slice none 0 0] mm) 22)):=(Below.refl _ _).alloc (Nat.le_refl _) _
   obtain ⟨w8,hw8⟩:∃ W,W=w7.alloc (.cells (madeCells #[.slice none 0 0] mm) 22):=⟨_,rfl⟩
   rw [<-hw8] at hmade kb8 ⊢;rw [hs7] at hmade
   have hLTn:LTab w8 w.heap.size g2 mm a (T.asg i 0) (fun _=>.slice none 0 0) (T.synL (addF P M) (mulF P M m) H (T.syn (addF P M) (mulF P M m) H i) i 0):=⟨hg2w,hmade.row,fun u _ h=>absurd h Trel.asg_zero,fun _ _ _=>rfl⟩
   have hLT8:=hLT2.on kb8
   have hgo8:=zaa hgo7 kb8
   have hk8:=onS hk7 kb8
   obtain ⟨F2,hF2⟩:∃ F2:Nat->Value,F2=fun u=>if u=i+1 then .slice (some ⟨g2,0,none⟩) mm mm else F u:=⟨_,rfl⟩
   have hFi:Hid (F2 i=.slice (some ⟨g,0,none⟩) (T.W i).toNat (T.W i).toNat):=hid (by rw [hF2]; show (if i=i+1 then _ else F i)=_; rw [if_neg (by omega)]; exact HF.out)
   have hFn:Hid (F2 (i+1)=.slice (some ⟨g2,0,none⟩) mm mm):=hid (by rw [hF2]; exact if_pos rfl)
   rw [<-hF2] at hgo8
   have hgg:Hid (g2≠g):=hid (by have:=HLT.out.row.lt; omega)
   have HG2W:Hid (w1.heap.size<=g2):=hid (by have:=HKB.out.size; omega)
   clear hmade hLT2 hgo7 hk7 hs7 hw7 hw8 kb8 hF2 hg2 HGO HF HLT c0 c1 hgo6 hne hmk a0 e0 p0
   obtain ⟨wi,hwi⟩:∃ x:Nat,x=(T.W i).toNat:=⟨_,rfl⟩
   have hWi:T.W i=(wi:Int):=by have:=HW.out i (by omega); omega
   rw [<-hwi] at hLT8 hFi
   have HWI:=hid hWi
   clear hwi hWi
   obtain ⟨gO,hgO⟩:∃ x,x=gk:=⟨_,rfl⟩
   subst hgO
   go_loopg [48] el (fun gg jv wx=>∃ (j:Nat) (R2:Nat->Value),jv=.int .i64 (j:Nat)/\j<=el/\el<=j+gg/\Hid (∀ e,e<j->T.agree (addF P M) (mulF P M m) H q a i e)/\wx.rowIs go 25 T.nw F2/\LTab wx w.heap.size g wi a (fun _=>True) R (T.syn (addF P M) (mulF P M m) H i)/\LTab wx w.heap.size g2 mm a (T.asg i j) R2 (T.synL (addF P M) (mulF P M m) H (T.syn (addF P M) (mulF P M m) H i) i j)/\Below w1.heap.size w1 wx)
   case atStart=>exact ⟨0,_,rfl,by omega,by omega,hid fun e h=>absurd h (by omega),hgo8,hLT8,hLTn,hk8⟩
   case round =>
    clear hgo8 hLT8 hLTn hk8
    obtain ⟨j,R2,rfl,hj,hjg,HOJ,hgo,hLT,hLN,hB⟩:=hrel
    have hj0:(0:Int)<=(j:Int):=by omega
    have HGO:=hid hgo
    have HLT:=hid hLT
    have HLN:=hid hLN
    have HKB:=hid hB
    obtain ⟨w9,hw9⟩:∃ X,X=wr:=⟨_,rfl⟩
    subst hw9
    clear hgo hLT hLN hB
    by_cases hjl:j<el
    ·have hjl':(j:Int)<(el:Int):=by omega
     obtain ⟨xb,xo,hEe,hxb,x0,x1,x2⟩:=zaS HED.out hjl
     subst hEe
     have hK9:=onS HB.out HKB.out
     replace x0:=cellS hK9 x0;replace x1:=cellS hK9 x1;replace x2:=cellS hK9 x2
     have hins:=HSH.out.ins i hin j (by rw [<-HEL.out]; exact hjl)
     obtain ⟨f0,f1,t0,t1⟩:=hins
     obtain ⟨fu,hfu⟩:∃ x:Nat,x=(T.fr i j).toNat:=⟨_,rfl⟩
     obtain ⟨tu,htu⟩:∃ x:Nat,x=(T.to i j).toNat:=⟨_,rfl⟩
     have hf:T.fr i j=(fu:Int):=by omega
     have ht:T.to i j=(tu:Int):=by omega
     rw [hf] at x0 f0 f1;rw [ht] at x2 t0 t1;rw [HWI.out] at f1;rw [HWM.out] at t1
     have HFU:=hid hfu
     have HTU:=hid htu
     obtain ⟨lb,hlb⟩:∃ x:Int,x=T.lb i j:=⟨_,rfl⟩
     rw [<-hlb] at x1
     have HLB:=hid hlb
     clear hf ht hfu htu hlb
     go_upto_region 10 with fail
     have rx:=zad (w:=w9) (a:=.int .i64 (fu:Nat)) (b:=.int .i64 lb) (c:=.int .i64 (tu:Nat)) (T := 148)
     have kb:Below w9.heap.size w9 (w9.alloc (.cells #[.int .i64 (fu:Nat),.int .i64 lb,.int .i64 (tu:Nat)] 148)):=(Below.refl _ _).alloc (Nat.le_refl _) _
     obtain ⟨w10,hw10⟩:∃ W,W=w9.alloc (.cells #[.int .i64 (fu:Nat),.int .i64 lb,.int .i64 (tu:Nat)] 148):=⟨_,rfl⟩
     rw [<-hw10] at rx kb ⊢;clear hw10
     obtain ⟨b12,hb12⟩:∃ b,b=w9.heap.size:=⟨_,rfl⟩
     rw [<-hb12] at rx ⊢;clear hb12 x0 x1 x2;replace HGO:=hid (zaa HGO.out kb);replace HLT:=hid (HLT.out.on kb);replace HLN:=hid (HLN.out.on kb);replace HKB:=hid (onS HKB.out kb);clear kb hK9
     have y1:=qc1 rx
     go_wp2_with fail
     refine (zeR lb (HG.out.on (onS HB.out HKB.out))).mono ?_
     rintro e w11 ⟨rfl,kb⟩
     rw [<-HQ.out]
     have HRX:=hid (zaa rx kb)
     replace HGO:=hid (zaa HGO.out kb);replace HLT:=hid (HLT.out.on kb);replace HLN:=hid (HLN.out.on kb);replace HKB:=hid (onS HKB.out kb);clear kb rx y1
     have hIS:isB q lb=true↔0<=lb/\lb<(q:Int):=by unfold isB; simp
     obtain hb | hb:=Bool.eq_false_or_eq_true (isB q lb)
     rotate_left
     ·rw [hb]
      have hno:¬ T.SynOk (addF P M) (mulF P M m) H q a:=fun h=>by
       have h1:=(h i hin j (by rw [<-HEL.out]; exact hjl)).1
       rw [<-HLB.out] at h1;rw [hIS.2 h1] at hb
       cases hb
      have hB11:=onS HB.out HKB.out
      clear hb hIS
      go_wp2
      go_ret2
      exact ⟨hB11,.inr ⟨hno,rfl⟩⟩
     have hlb:=hIS.1 hb
     rw [hb]
     obtain ⟨lu,rfl⟩:∃ x:Nat,lb=x:=⟨lb.toNat,by omega⟩
     have hlu:lu<q:=by omega
     have HLU:Hid ((T.lb i j).toNat=lu):=hid (by rw [<-HLB.out]; exact Int.toNat_natCast _)
     have HLR:Hid (0<=T.lb i j/\T.lb i j<(q:Int)):=hid (by rw [<-HLB.out]; exact hlb)
     clear hb hIS hlb
     have hi11:(0:Int)<=(i:Int)+1:=by omega
     have hfw:fu<wi:=by omega
     have htw:tu<mm:=by omega
     have hinw0:(i:Int)<(T.nw:Int):=by omega
     obtain ⟨SF,fc,hRf⟩:=(HLT.out.yes fu hfw trivial).shape
     have HRf:=hid hRf
     have hgoN:=HGO.out.cell (i:=i) (by omega)
     rw [hFi.out] at hgoN
     have hgN:=HLT.out.row.cell hfw
     rw [hRf] at hgN
     have hb0:=qc0 HRX.out
     clear hRf
     go_upto_region 12 with fail
     refine wp_region_held_drew (S:=fun w'=>w'.cell? ⟨go,i,none⟩=some (.slice (some ⟨g,0,none⟩) wi wi)/\w'.cell? ⟨g,fu,none⟩=some (.slice SF a fc)/\w'.cell? ⟨b12,0,none⟩=some (.int .i64 (fu:Nat))) (by kernel_rfl) ⟨cellS (Below.refl _ _).drew hgoN,cellS (Below.refl _ _).drew hgN,cellS (Below.refl _ _).drew hb0⟩ (fun hHeld=>?_)
     obtain ⟨w12,hw⟩:∃ W,W=World.drew w11:=⟨_,rfl⟩
     have kb:Below w11.heap.size w11 w12:=by rw [hw]; exact (Below.refl _ _).drew
     rw [<-hw] at hHeld ⊢;clear hw;replace HRX:=hid (zaa HRX.out kb);replace HGO:=hid (zaa HGO.out kb);replace HLT:=hid (HLT.out.on kb);replace HLN:=hid (HLN.out.on kb);replace HKB:=hid (onS HKB.out kb);replace hgoN:=cellS kb hgoN;replace hgN:=cellS kb hgN;replace hb0:=cellS kb hb0;clear kb
     have HSW:Hid (w.heap.size<=w12.heap.size):=hid (onS HB.out HKB.out).size
     refine tkq 0 (h:=tkq 1 (h:=tkq 2 (h:=tkq 3 (h:=tkq 4 (h:=tkq 5 (h:=tkq 6 (h:=tkq 7 (h:=?_))))))))
     clear hHeld
     refine rdq 8 (h:=fun K hK=>?_)
     go_simp
     go_wp2_with fail
     have hOf:=HLT.out.yes fu hfw trivial
     rw [HRf.out] at hOf
     have HSF:=hid (show IntsR w12 w12.heap.size SF a (fun k=>((T.syn (addF P M) (mulF P M m) H i fu k:Nat):Int)) from hOf.rd rfl)
     have hfc:=hOf.capL
     clear hOf
     refine (zbx SF a fc (fun k=>((T.syn (addF P M) (mulF P M m) H i fu k:Nat):Int)) w12 HSF.out hfc.1 (by omega)).mono ?_
     rintro e w13 ⟨SA,sc,rfl,hO,kb⟩
     have HO13:=hid hO
     have KB13:=hid kb
     refine bkq hK ⟨cellS kb hgoN,cellS kb hgN,cellS kb hb0⟩ (h:=fun hHeld=>?_)
     clear hK K hO kb hgoN hgN hb0 HSF hfc
     refine tkq 9 (h:=?_)
     refine wpAnyH_done (by kernel_rfl) ?_ _
     clear hHeld
     go_upto_region 14 with fail
     obtain ⟨gP,hgP⟩:∃ x,x=gk:=⟨_,rfl⟩
     subst hgP
     go_loopg [68] a (fun gg kv wx=>∃ k:Nat,kv=.int .i64 (k:Nat)/\k<=a/\a<=k+gg/\Own wx w12.heap.size 3 1 (.slice SA a sc) a (fun t _=>.int .i64 ((if t<k then T.synv (addF P M) (mulF P M m) H (T.syn (addF P M) (mulF P M m) H i) i j t else T.syn (addF P M) (mulF P M m) H i fu t:Nat):Int))/\Below w12.heap.size w12 wx)
     case atStart=>exact ⟨0,rfl,by omega,by omega,HO13.out.congr fun t _ _ _=>by rw [if_neg (by omega)],KB13.out⟩
     case round =>
      obtain ⟨k,rfl,hk,hkg,hO,hB⟩:=hrel
      have hk0:(0:Int)<=(k:Int):=by omega
      have HO:=hid hO
      have KB:=hid hB
      obtain ⟨w14,hw14⟩:∃ X,X=wr:=⟨_,rfl⟩
      subst hw14
      clear hO hB HO13 KB13
      by_cases hka:k<a
      ·have hka':(k:Int)<(a:Int):=by omega
       have hk1w:IntKind.i64.wrap ((k:Int)+1)=((k+1:Nat):Int):=by rw [IntWalk.i64_in _ (by omega)]; rfl
       obtain ⟨hb,ho,RA,rc,hHe,_,h0w,_,_,hrow,_⟩:=HH.out k hka
       subst hHe
       obtain ⟨rb,ro,hRe,_,r0w⟩:=hrow.at hin
       subst hRe
       have h0:=cellS (onS (onS HB.out HKB.out) KB.out) h0w
       have hin2:(i:Int)<(T.n:Int):=by omega
       obtain ⟨gs,os,sc2,hse,_,_,_,_,_⟩:=HO.out.form (by omega)
       obtain ⟨hse1,hse2⟩:SA=some ⟨gs,os,none⟩/\sc=sc2:=by injection hse with x _ y; exact ⟨x,y⟩
       subst hse1 hse2
       clear hse
       have hx0:∀ X:World,Own X w12.heap.size 3 1 (.slice (some ⟨gs,os,none⟩) a sc) a (fun t _=>.int .i64 ((if t<k then T.synv (addF P M) (mulF P M m) H (T.syn (addF P M) (mulF P M m) H i) i j t else T.syn (addF P M) (mulF P M m) H i fu t:Nat):Int))->X.cell? ⟨gs,os+k,none⟩=some (.int .i64 (T.syn (addF P M) (mulF P M m) H i fu k:Nat)):=fun X hX=>by
        obtain ⟨g',o',c',e1,_,_,_,_,hc⟩:=hX.form (by omega)
        injection e1 with e1 _ _
        injection e1 with e1
        injection e1 with e1 e2
        subst e1 e2
        have h1:=hc k hka 0 (by omega)
        rw [Nat.mul_one,Nat.add_zero,if_neg (Nat.lt_irrefl k)] at h1
        exact h1
       have hhc:∀ X,Below w12.heap.size w12 X->X.cell? ⟨rb,ro+i,none⟩=some (.int .i64 ((H k i:Nat):Int)):=fun X hb=>cellS (onS (onS HB.out HKB.out) hb) r0w
       have hix:inV (P ^ M) (T.syn (addF P M) (mulF P M m) H i fu k:Nat)=T.syn (addF P M) (mulF P M m) H i fu k:=zaE (by rw [<-HQ.out]; exact Trel.syn_lt HL.out _ _ _)
       have hiy:inV (P ^ M) (H k i:Nat)=H k i:=zaE (by rw [<-HQ.out]; exact HHq.out k hka i hin)
       have hil:inV (P ^ M) (lu:Nat)=lu:=zaE (by rw [<-HQ.out]; exact hlu)
       obtain ⟨x,hx⟩:∃ x,x=T.syn (addF P M) (mulF P M m) H i fu k:=⟨_,rfl⟩
       obtain ⟨y,hy⟩:∃ y,y=H k i:=⟨_,rfl⟩
       rw [<-hx] at hx0 hix;rw [<-hy] at hhc hiy
       have HX:=hid hx
       have HY:=hid hy
       have HIX:=hid hix
       have HIY:=hid hiy
       have HIL:=hid hil
       have HX0:=hid hx0
       have HHC:=hid hhc
       clear hx hy hix hiy hil hx0 hhc r0w h0w hrow
       go_upto_region 16 with fail
       refine wp_region_held_drew (S:=fun w'=>w'.cell? ⟨b12,1,none⟩=some (.int .i64 (lu:Nat))/\w'.cell? ⟨rb,ro+i,none⟩=some (.int .i64 (y:Nat))) (by kernel_rfl) ⟨cellS (Below.refl _ _).drew ((zaa HRX.out KB.out).cell (i:=1) (by omega)),cellS (Below.refl _ _).drew (HHC.out _ KB.out)⟩ (fun hHeld=>?_)
       obtain ⟨w15,hw⟩:∃ W,W=World.drew w14:=⟨_,rfl⟩
       have kb:Below w14.heap.size w14 w15:=by rw [hw]; exact (Below.refl _ _).drew
       rw [<-hw] at hHeld ⊢;clear hw h0;replace HO:=hid (HO.out.on kb);replace KB:=hid (onS KB.out kb);clear kb
       refine tkq 0 (h:=tkq 1 (h:=tkq 2 (h:=tkq 3 (h:=tkq 4 (h:=tkq 5 (h:=tkq 7 (h:=tkq 8 (h:=tkq 9 (h:=tkq 10 (h:=tkq 11 (h:=tkq 12 (h:=?_))))))))))))
       refine tkq 13 (h:=?_)
       clear hHeld
       refine rdq2 6 14 (h:=fun K hK=>?_) (h2:=fun K hK=>?_)
       focus
        have u0:w15.cell? ⟨gs,os+k,none⟩=some (.int .i64 (x:Nat)):=HX0.out _ HO.out
        go_simp
        clear u0
        refine bkq hK ⟨(zaa HRX.out KB.out).cell (i:=1) (by omega),HHC.out _ KB.out⟩ (h:=fun hHeld=>?_)
        clear hK K hHeld
        refine rdq 14 (h:=fun K hK=>?_)
        go_simp
        go_wp2_with fail
        refine (zbG (lu:Int) (y:Int) (HG.out.on (onS (onS HB.out HKB.out) KB.out))).mono ?_
        rintro e w16 ⟨rfl,kb⟩
        rw [HIL.out,HIY.out];replace HO:=hid (HO.out.on kb);replace KB:=hid (onS KB.out kb);clear kb
        obtain ⟨z,hz⟩:∃ z,z=mulF P M m lu y:=⟨_,rfl⟩
        rw [<-hz]
        have HZ:=hid hz
        have hiz:Hid (inV (P ^ M) (z:Nat)=z):=hid (zaE (by rw [hz,<-HQ.out]; exact HL.out.mulLt _ _))
        clear hz
        refine bkq hK ⟨(zaa HRX.out KB.out).cell (i:=1) (by omega),HHC.out _ KB.out⟩ (h:=fun hHeld=>?_)
        clear hK K hHeld
       rotate_left
       focus
        go_simp
        go_wp2_with fail
        refine (zbG (lu:Int) (y:Int) (HG.out.on (onS (onS HB.out HKB.out) KB.out))).mono ?_
        rintro e w16 ⟨rfl,kb⟩
        rw [HIL.out,HIY.out];replace HO:=hid (HO.out.on kb);replace KB:=hid (onS KB.out kb);clear kb
        obtain ⟨z,hz⟩:∃ z,z=mulF P M m lu y:=⟨_,rfl⟩
        rw [<-hz]
        have HZ:=hid hz
        have hiz:Hid (inV (P ^ M) (z:Nat)=z):=hid (zaE (by rw [hz,<-HQ.out]; exact HL.out.mulLt _ _))
        clear hz
        refine bkq hK ⟨(zaa HRX.out KB.out).cell (i:=1) (by omega),HHC.out _ KB.out⟩ (h:=fun hHeld=>?_)
        clear hK K hHeld
        refine rdq 6 (h:=fun K hK=>?_)
        have u0:w16.cell? ⟨gs,os+k,none⟩=some (.int .i64 (x:Nat)):=HX0.out _ HO.out
        go_simp
        clear u0
        refine bkq hK ⟨(zaa HRX.out KB.out).cell (i:=1) (by omega),HHC.out _ KB.out⟩ (h:=fun hHeld=>?_)
        clear hK K hHeld
       rotate_left
       all_goals
        refine rdq 15 (h:=fun K hK=>?_)
        go_simp
        go_wp2_with fail
        refine (zdG (x:Int) (z:Int) (HG.out.on (onS (onS HB.out HKB.out) KB.out))).mono ?_
        rintro e w17 ⟨rfl,kb⟩
        rw [HIX.out,hiz.out];replace HO:=hid (HO.out.on kb);replace KB:=hid (onS KB.out kb);clear kb
        obtain ⟨s,hs⟩:∃ s,s=addF P M x z:=⟨_,rfl⟩
        rw [<-hs]
        have HS:=hid hs
        clear hs
        refine bkq hK ⟨(zaa HRX.out KB.out).cell (i:=1) (by omega),HHC.out _ KB.out⟩ (h:=fun hHeld=>?_)
        clear hK K hHeld
        have hHeld:w17.cell? ⟨b12,1,none⟩=some (.int .i64 (lu:Nat))/\w17.cell? ⟨rb,ro+i,none⟩=some (.int .i64 (y:Nat)):=⟨(zaa HRX.out KB.out).cell (i:=1) (by omega),HHC.out _ KB.out⟩
        refine tkq 16 (h:=?_)
        clear hHeld
        have u0:w17.cell? ⟨gs,os+k,none⟩=some (.int .i64 (x:Nat)):=HX0.out _ HO.out
        have u1:=HO.out.frozen (os+k)
        refine rdq 17 (h:=fun K hK=>?_)
        go_simp
        have hO2:=HO.out.set (a:=k) (b:=0) hka (by omega) (.int .i64 (s:Nat))
        rw [Nat.mul_one,Nat.add_zero] at hO2
        have kb2:=KB.out.setCell (p:=⟨gs,os+k,none⟩) (HO.out.lt gs rfl).1 (.int .i64 (s:Nat))
        obtain ⟨w18,hw⟩:∃ W,W=World.setCell w17 ⟨gs,os+k,none⟩ (.int .i64 (s:Nat)):=⟨_,rfl⟩
        rw [<-hw] at hO2 kb2 ⊢;clear hw u0 u1
        have HO2:Hid (Own w18 w12.heap.size 3 1 (.slice (some ⟨gs,os,none⟩) a sc) a (fun t _=>.int .i64 ((if t<k+1 then T.synv (addF P M) (mulF P M m) H (T.syn (addF P M) (mulF P M m) H i) i j t else T.syn (addF P M) (mulF P M m) H i fu t:Nat):Int))):=hid (hO2.congr fun t _ u hu=>by
         obtain rfl:u=0:=by omega
         show (if t=k/\0=0 then Value.int .i64 (s:Nat) else .int .i64 ((if t<k then T.synv (addF P M) (mulF P M m) H (T.syn (addF P M) (mulF P M m) H i) i j t else T.syn (addF P M) (mulF P M m) H i fu t:Nat):Int))=.int .i64 ((if t<k+1 then T.synv (addF P M) (mulF P M m) H (T.syn (addF P M) (mulF P M m) H i) i j t else T.syn (addF P M) (mulF P M m) H i fu t:Nat):Int)
         by_cases e:t=k
         ·rw [if_pos ⟨e,rfl⟩,if_pos (by omega),e,HS.out,HZ.out,HX.out,HY.out,<-HLU.out]
          unfold Trel.synv
          rw [<-HFU.out]
         ·rw [if_neg fun g=>e g.1]
          by_cases e2:t<k
          ·rw [if_pos e2,if_pos (by omega)]
          ·rw [if_neg e2,if_neg (by omega)])
        replace KB:=hid kb2;clear hO2 kb2 HO
        refine bkq hK ⟨(zaa HRX.out KB.out).cell (i:=1) (by omega),HHC.out _ KB.out⟩ (h:=fun hHeld=>?_)
        clear hK K hHeld
        refine wpAnyH_done (by kernel_rfl) ?_ _
        go_wp2
        go_roundg (gk - 1)
        case measure=>omega
        case rel=>exact ⟨k+1,by go_num,by omega,by omega,HO2.out,KB.out⟩
      ·obtain rfl:a=k:=by omega
       have hka':¬ (a:Int)<(a:Int):=by omega
       have HOS:Hid (Own w14 w12.heap.size 3 1 (.slice SA a sc) a (fun t _=>.int .i64 (T.synv (addF P M) (mulF P M m) H (T.syn (addF P M) (mulF P M m) H i) i j t:Nat))):=hid (HO.out.congr fun t ht _ _=>by rw [if_pos ht])
       replace HRX:=hid (zaa HRX.out KB.out);replace HGO:=hid (zaa HGO.out KB.out);replace HLT:=hid (HLT.out.on KB.out);replace HLN:=hid (HLN.out.on KB.out);replace HKB:=hid (onS HKB.out KB.out)
       have HOS2:=hid (HOS.out.mono (show w.heap.size<=w12.heap.size from HSW.out))
       clear HO KB HOS
       have hgoM:=HGO.out.cell (i:=i+1) (by have:=HNW1.out; omega)
       rw [hFn.out] at hgoM
       have hb2:=qc2 HRX.out
       have hgM:=HLN.out.row.cell htw
       have hinw:((i+1:Nat):Int)<(T.nw:Int):=by have:=HNW1.out; omega
       have htm:(tu:Int)<(mm:Int):=by omega
       have hold:∃ OA oc on,R2 tu=.slice OA on oc/\((T.asg i j tu/\on=a/\IntsR w14 w14.heap.size OA a (fun k=>((T.synL (addF P M) (mulF P M m) H (T.syn (addF P M) (mulF P M m) H i) i j tu k:Nat):Int)))∨(¬ T.asg i j tu/\OA=none/\on=0)):=by
        by_cases hasg:T.asg i j tu
        ·have hOo:=HLN.out.yes tu htw hasg
         obtain ⟨OA,oc,e⟩:=hOo.shape
         exact ⟨OA,oc,a,e,.inl ⟨hasg,rfl,hOo.rd e⟩⟩
        ·exact ⟨none,0,0,HLN.out.no tu htw hasg,.inr ⟨hasg,rfl,rfl⟩⟩
       obtain ⟨OA,oc,on,hRo,hcase⟩:=hold
       rw [hRo] at hgM;clear hRo
       go_upto_region 18 with fail
       refine wp_region_held_drew (S:=fun w'=>w'.cell? ⟨go,i+1,none⟩=some (.slice (some ⟨g2,0,none⟩) mm mm)/\w'.cell? ⟨g2,tu,none⟩=some (.slice OA on oc)/\w'.cell? ⟨b12,2,none⟩=some (.int .i64 (tu:Nat))) (by kernel_rfl) ⟨cellS (Below.refl _ _).drew hgoM,cellS (Below.refl _ _).drew hgM,cellS (Below.refl _ _).drew hb2⟩ (fun hHeld=>?_)
       obtain ⟨w15,hw⟩:∃ W,W=World.drew w14:=⟨_,rfl⟩
       have kb:Below w14.heap.size w14 w15:=by rw [hw]; exact (Below.refl _ _).drew
       rw [<-hw] at hHeld ⊢;clear hw
       refine tkq 0 (h:=tkq 1 (h:=tkq 2 (h:=tkq 3 (h:=tkq 4 (h:=tkq 5 (h:=tkq 6 (h:=tkq 7 (h:=?_))))))))
       refine tkq 8 (h:=tkq 9 (h:=?_))
       refine wpAnyH_done (by kernel_rfl) ?_ _
       clear hHeld;replace HRX:=hid (zaa HRX.out kb);replace HGO:=hid (zaa HGO.out kb);replace HLT:=hid (HLT.out.on kb);replace HLN:=hid (HLN.out.on kb);replace HKB:=hid (onS HKB.out kb);replace HOS2:=hid (HOS2.out.on kb)
       have hcase2:=hcase.imp (fun h=>(⟨h.1,h.2.1,h.2.2.on kb⟩:T.asg i j tu/\on=a/\IntsR w15 w15.heap.size OA a (fun k=>((T.synL (addF P M) (mulF P M m) H (T.syn (addF P M) (mulF P M m) H i) i j tu k:Nat):Int)))) id
       clear kb hcase hgM hb2 hgoM
       go_upto_region 19 with fail
       go_cut [107] (fun v107 wx=>∃ bb:Bool,v107=.bool bb/\Below w15.heap.size w15 wx/\Hid (bb=true->¬ T.SynOk (addF P M) (mulF P M m) H q a)/\Hid (bb=false->T.asg i j tu->∀ k,k<a->T.synL (addF P M) (mulF P M m) H (T.syn (addF P M) (mulF P M m) H i) i j tu k=T.synv (addF P M) (mulF P M m) H (T.syn (addF P M) (mulF P M m) H i) i j k))
       case first =>
        rcases hcase2 with ⟨hasg,rfl,hI⟩ | ⟨hno,rfl,rfl⟩
        rotate_left
        ·go_wp2
         go_meet
         exact ⟨false,rfl,Below.refl _ _,hid (fun h=>nomatch h),hid fun _ h=>absurd h hno⟩
        cases OA with
        | none =>
         have HI:=hid hI
         clear hI
         go_wp2
         go_meet
         exact ⟨false,rfl,Below.refl _ _,hid (fun h=>nomatch h),hid fun _ _ k hk=>by
          obtain ⟨_,_,e,_⟩:=HI.out.at hk
          cases e⟩
        | some oad =>
         obtain ⟨ob,oo,op⟩:=oad
         have HI:=hid hI
         have HO15:=hid (show IntsR w15 w15.heap.size SA on (fun k=>((T.synv (addF P M) (mulF P M m) H (T.syn (addF P M) (mulF P M m) H i) i j k:Nat):Int)) from HOS2.out.rd rfl)
         clear hI
         have hnq:∀ W,(binOp .neq 22 (.slice (some ⟨ob,oo,op⟩) on oc) (.slice none 0 0)).run Tryz.prog W=.ok (.bool true) W:=fun _=>rfl
         go_wp2_with fail
         refine (zb4 (some ⟨ob,oo,op⟩) SA on on oc sc _ _ w15 HI.out HO15.out (by omega) (by omega)).mono ?_
         rintro e w16 ⟨v,rfl,hv,kb⟩
         cases v with
         | true =>
          have hEQ:=(hv.1 rfl).2
          clear hv
          go_wp2
          go_meet
          exact ⟨false,rfl,kb,hid (fun h=>nomatch h),hid fun _ _ k hk=>by
           have:=hEQ k hk
           exact Int.ofNat.inj this⟩
         | false =>
          have hno:¬ T.SynOk (addF P M) (mulF P M m) H q on:=fun h=>by
           have h1:=(h i hin j (by rw [<-HEL.out]; exact hjl)).2
           rw [<-HTU.out] at h1
           have h2:=hv.2 ⟨rfl,fun k hk=>congrArg (fun x:Nat=>(x:Int)) (h1 hasg k hk)⟩
           cases h2
          clear hv
          go_wp2
          go_meet
          exact ⟨true,rfl,kb,hid fun _=>hno,hid (fun h=>nomatch h)⟩
       case rest =>
        obtain ⟨bb,rfl,kb,HNO,HEQ0⟩:=hcut
        obtain ⟨w16,hw16⟩:∃ X,X=wc:=⟨_,rfl⟩
        subst hw16
        obtain hbb | hbb:=Bool.eq_false_or_eq_true bb
        ·subst hbb
         have hno:=HNO.out rfl
         have hB16:=onS (onS HB.out HKB.out) kb
         go_wp2
         go_ret2
         exact ⟨hB16,.inr ⟨hno,rfl⟩⟩
        subst hbb
        have HEQ:=hid (HEQ0.out rfl)
        replace HRX:=hid (zaa HRX.out kb);replace HGO:=hid (zaa HGO.out kb);replace HLT:=hid (HLT.out.on kb);replace HLN:=hid (HLN.out.on kb);replace HKB:=hid (onS HKB.out kb);replace HOS2:=hid (HOS2.out.on kb);clear kb hcase2
        have hgoM:=HGO.out.cell (i:=i+1) (by have:=HNW1.out; omega)
        rw [hFn.out] at hgoM
        have hb2:=qc2 HRX.out
        go_upto_region 21 with fail
        refine wp_region_held_drew (S:=fun w'=>w'.cell? ⟨go,i+1,none⟩=some (.slice (some ⟨g2,0,none⟩) mm mm)/\w'.cell? ⟨b12,2,none⟩=some (.int .i64 (tu:Nat))) (by kernel_rfl) ⟨cellS (Below.refl _ _).drew hgoM,cellS (Below.refl _ _).drew hb2⟩ (fun hHeld=>?_)
        obtain ⟨w17,hw⟩:∃ W,W=World.drew w16:=⟨_,rfl⟩
        have kb:Below w16.heap.size w16 w17:=by rw [hw]; exact (Below.refl _ _).drew
        rw [<-hw] at hHeld ⊢;clear hw hgoM hb2;replace HRX:=hid (zaa HRX.out kb);replace HGO:=hid (zaa HGO.out kb);replace HLT:=hid (HLT.out.on kb);replace HLN:=hid (HLN.out.on kb);replace HKB:=hid (onS HKB.out kb);replace HOS2:=hid (HOS2.out.on kb);clear kb
        refine tkq 0 (h:=tkq 1 (h:=tkq 2 (h:=tkq 3 (h:=tkq 4 (h:=tkq 5 (h:=tkq 6 (h:=tkq 7 (h:=?_))))))))
        refine tkq 8 (h:=?_)
        clear hHeld
        have u0:=HLN.out.row.cell htw
        have u1:=HLN.out.row.frozen tu
        refine rdq 9 (h:=fun K hK=>?_)
        go_simp
        have hLN2:=HLN.out.set (u:=tu) HOS2.out
        have hLT2:=HLT.out.kept (zaO w17 g2 tu (.slice SA a sc)) hgg.out fun u hu hp e=>(zaL HLN.out.row (HLT.out.yes u hu hp) (by decide)).elim (fun h=>by rw [h] at e; cases e) (fun h=>h e)
        have hne:go≠g2:=fun e=>(zaL HGO.out (zau HLN.out.row (Nat.zero_le _) (by unfold maxLen; omega)) (by decide)).elim (fun h=>by cases h) (fun h=>h (by rw [e]; rfl))
        have hgo2':=rowIs_setCells_other' hne (.slice SA a sc) tu HGO.out
        have hk2:=HKB.out.setCell (p:=⟨g2,tu,none⟩) HG2W.out (.slice SA a sc)
        have hne2:b12≠g2:=fun e=>(zaL HRX.out (zau HLN.out.row (Nat.zero_le _) (by unfold maxLen; omega)) (by decide)).elim (fun h=>by cases h) (fun h=>h (by rw [e]; rfl))
        have hrx18:=rowIs_setCells_other' hne2 (.slice SA a sc) tu HRX.out
        obtain ⟨w18,hw⟩:∃ W,W=World.setCell w17 ⟨g2,tu,none⟩ (.slice SA a sc):=⟨_,rfl⟩
        rw [<-hw] at hLN2 hLT2 hgo2' hk2 hrx18 ⊢
        have HRX18:=hid hrx18
        clear hw u0 u1 hne hne2 hrx18
        have HGOs:=hid hgo2'
        have HLTs:=hid hLT2
        have HKs:=hid hk2
        have HLNs:=hid (hLN2.congr (P':=T.asg i (j+1)) (S':=T.synL (addF P M) (mulF P M m) H (T.syn (addF P M) (mulF P M m) H i) i (j+1)) (fun u _=>by rw [Trel.asg_succ,<-HTU.out]; exact or_congr Iff.rfl eq_comm) fun u _ _ k _=>by
         show (if u=tu then T.synv (addF P M) (mulF P M m) H (T.syn (addF P M) (mulF P M m) H i) i j k else T.synL (addF P M) (mulF P M m) H (T.syn (addF P M) (mulF P M m) H i) i j u k)=if (T.to i j).toNat=u then T.synv (addF P M) (mulF P M m) H (T.syn (addF P M) (mulF P M m) H i) i j k else T.synL (addF P M) (mulF P M m) H (T.syn (addF P M) (mulF P M m) H i) i j u k
         rw [<-HTU.out]
         by_cases e:u=tu
         ·rw [if_pos e,if_pos e.symm]
         ·rw [if_neg e,if_neg (fun g=>e g.symm)])
        have hagr:T.agree (addF P M) (mulF P M m) H q a i j:=⟨HLR.out,by rw [<-HTU.out]; exact HEQ.out⟩
        have HAGR:=hid hagr
        clear hLN2 hLT2 hgo2' hk2 hagr
        have hSb:w18.cell? ⟨go,i+1,none⟩=some (.slice (some ⟨g2,0,none⟩) mm mm)/\w18.cell? ⟨b12,2,none⟩=some (.int .i64 (tu:Nat)):=by
         refine ⟨?_,?_⟩
         ·rw [<-hFn.out]; exact HGOs.out.cell (by have:=HNW1.out; omega)
         ·exact HRX18.out.cell (i:=2) (by omega)
        refine bkq hK hSb (h:=fun hHeld=>?_)
        clear hK K hHeld hSb
        refine wpAnyH_done (by kernel_rfl) ?_ _
        have hj1w:IntKind.i64.wrap ((j:Int)+1)=((j+1:Nat):Int):=by rw [IntWalk.i64_in _ (by omega)]; rfl
        go_wp2
        go_roundg (gP - 1)
        case measure=>omega
        case rel=>exact ⟨j+1,_,by go_num,by omega,by omega,hid fun e he=>by
         by_cases h:e=j
         ·rw [h]; exact HAGR.out
         ·exact HOJ.out e (by omega),HGOs.out,HLTs.out,HLNs.out,HKs.out⟩
    ·obtain rfl:el=j:=by omega
     have hjl':¬ (el:Int)<(el:Int):=by omega
     have hLTf:LTab w9 w.heap.size g2 (T.W (i+1)).toNat a (fun _=>True) R2 (T.syn (addF P M) (mulF P M m) H (i+1)):=by
      rw [<-HMM.out]
      refine HLN.out.congr (fun u hu=>⟨fun _=>trivial,fun _=>?_⟩) fun u _ _ k _=>by
       show _=T.synL (addF P M) (mulF P M m) H (T.syn (addF P M) (mulF P M m) H i) i (T.el i) u k
       rw [<-HEL.out]
      obtain ⟨e,he,h1⟩:=zdM.1 ((HP.out.sec i hin).2.2 u (by rw [<-HMM.out]; exact hu))
      exact ⟨e,by rw [HEL.out]; exact he,by rw [h1]; exact Int.toNat_natCast _⟩
     have HLTf:=hid hLTf
     have HFf:Hid (F2 (i+1)=.slice (some ⟨g2,0,none⟩) (T.W (i+1)).toNat (T.W (i+1)).toNat):=hid (by rw [hFn.out,HMM.out])
     have HOKf:Hid (∀ i',i'<i+1->∀ j,j<T.el i'->T.agree (addF P M) (mulF P M m) H q a i' j):=hid fun i' h' j hj=>by
      by_cases e:i'=i
      ·subst e
       exact HOJ.out j (by rw [HEL.out]; exact hj)
      ·exact HOK.out i' (by omega) j hj
     clear hLTf
     go_wp2
     go_roundg (gO - 1)
     case measure=>omega
     case rel=>exact ⟨i+1,g2,R2,F2,by go_num,by omega,by omega,HOKf,HGO.out,HFf.out,HLTf.out,HKB.out⟩
  ·have hin':¬ (i:Int)<(T.n:Int):=by omega
   have hie:i=T.n:=by omega
   have hB6:=onS HB.out HKB.out
   have hok:T.SynOk (addF P M) (mulF P M m) H q a:=fun i' h'=>HOK.out i' (by omega)
   have hcell:=HGO.out.cell (i:=i) (by have:=HNW1.out; omega)
   rw [HF.out] at hcell
   have HC:=hid hcell
   clear hcell
   go_wp2
   go_ret2
   rw [hie] at HC HLT
   exact ⟨hB6,.inl ⟨hok,go,g,R,rfl,HC.out,HLT.out⟩⟩
end Go.Proofs.YtioagplajkoohaaGreat