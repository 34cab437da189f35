/- Merged texts of a claim: Proper, TrelProper, Repeat, NumTab, Counting. -/
import Derived.Test.YtioagplajkoohaaGreatTQ2
import Derived.Test.YtioagplajkoohaaGreatTQ3
import Derived.Test.YtioagplajkoohaaGreatTQ7
import Derived.Test.YtioagplajkoohaaGreatTQ11
import Derived.Laws.CopyOwn
namespace Go.Proofs.YtioagplajkoohaaGreat
set_option maxRecDepth 100000
set_option maxHeartbeats 32000000
open KA KB KC KD KE KF
open Go.RowKit
def hitB (f:Nat->Int):Nat->Int->Bool
 | 0,_=>false
 | j+1,v=>hitB f j v || decide (f j=v)
theorem zdM {f:Nat->Int} {v:Int}:∀ {j:Nat},hitB f j v=true↔∃ i,i<j/\f i=v:=by
 intro j
 induction j with
 | zero=>simp [hitB]
 | succ j ih =>
  simp only [hitB,Bool.or_eq_true,decide_eq_true_eq,ih]
  constructor
  ·rintro (⟨i,hi,e⟩ | e)
   ·exact ⟨i,by omega,e⟩
   ·exact ⟨j,by omega,e⟩
  ·rintro ⟨i,hi,e⟩
   by_cases h:i=j
   ·subst h; exact .inr e
   ·exact .inl ⟨i,by omega,e⟩
def Trel.after (T:Trel) (i j:Nat):Prop:=T.fr i (j - 1)<T.fr i j∨T.fr i (j - 1)=T.fr i j/\T.lb i (j - 1)<T.lb i j
instance (T:Trel) (i j:Nat):Decidable (T.after i j):=by unfold Trel.after; exact inferInstance
def Trel.edgeOk (T:Trel) (i j:Nat):Prop:=0<=T.lb i j/\T.lb i j<256/\(0<j->T.after i j)
instance (T:Trel) (i j:Nat):Decidable (T.edgeOk i j):=by unfold Trel.edgeOk; exact inferInstance
def Trel.secOk (T:Trel) (i:Nat):Prop :=
 (∀ j,j<T.el i->T.edgeOk i j)/\(∀ v,v<(T.W i).toNat->hitB (T.fr i) (T.el i) (v:Nat)=true)/\(∀ v,v<(T.W (i+1)).toNat->hitB (T.to i) (T.el i) (v:Nat)=true)
instance (T:Trel) (i:Nat):Decidable (T.secOk i):=by unfold Trel.secOk; exact inferInstance
def Trel.properE (T:Trel):Int :=
 if T.shapeE≠0 then T.shapeE else if T.W 0≠1∨T.W T.n≠1 then 5 else if ∀ i,i<T.n->T.secOk i then 0 else 5
structure Trel.Proper (T:Trel):Prop where
 shape:T.Shape
 w0:T.W 0=1
 wn:T.W T.n=1
 sec:∀ i,i<T.n->T.secOk i
theorem Trel.proper_of {T:Trel} (h:T.properE=0):T.Proper:=by
 unfold Trel.properE at h
 by_cases h1:T.shapeE=0
 ·rw [if_neg (by simpa using h1)] at h
  by_cases h2:T.W 0≠1∨T.W T.n≠1
  ·rw [if_pos h2] at h; omega
  ·rw [if_neg h2] at h
   by_cases h3:∀ i,i<T.n->T.secOk i
   ·exact ⟨Trel.shape_of h1,by omega,by omega,h3⟩
   ·rw [if_neg h3] at h; omega
 ·rw [if_pos h1] at h; exact absurd h h1
theorem Trel.properE_shape {T:Trel} (h:T.shapeE≠0):T.properE=T.shapeE:=by unfold Trel.properE; rw [if_pos h]
theorem Trel.properE_end {T:Trel} (h:T.shapeE=0) (h2:T.W 0≠1∨T.W T.n≠1):T.properE=5:=by unfold Trel.properE; rw [if_neg (by simpa using h),if_pos h2]
theorem Trel.properE_sec {T:Trel} (h:T.shapeE=0) {i:Nat} (hi:i<T.n) (h2:¬ T.secOk i):T.properE=5:=by
 unfold Trel.properE
 rw [if_neg (by simpa using h)]
 split
 ·rfl
 ·rw [if_neg fun h3=>h2 (h3 i hi)]
theorem Trel.properE_ok {T:Trel} (h:T.shapeE=0) (h0:T.W 0=1) (hn:T.W T.n=1) (h2:∀ i,i<T.n->T.secOk i):T.properE=0:=by
 unfold Trel.properE
 rw [if_neg (by simpa using h),if_neg (by omega),if_pos h2]
theorem ziX {X:World} {b1 b2 n1 n2 x y:Nat} {t:TypeId} {f g f' g':Nat->Bool} (h1:X.rowIs b1 t n1 (fun v=>.bool (f v))) (h2:X.rowIs b2 t n2 (fun v=>.bool (g v))) (hne:b1≠b2)
  (hf:∀ v,v<n1->f' v=(f v || decide (v=x))) (hg:∀ v,v<n2->g' v=(g v || decide (v=y))) :
  ((X.setCell ⟨b1,x,none⟩ (.bool true)).setCell ⟨b2,y,none⟩ (.bool true)).rowIs b1 t n1 (fun v=>.bool (f' v))/\((X.setCell ⟨b1,x,none⟩ (.bool true)).setCell ⟨b2,y,none⟩ (.bool true)).rowIs b2 t n2 (fun v=>.bool (g' v)):=by
 have k1:=(h1.set x (.bool true)).setOther (a:=⟨b2,y,none⟩) (by simpa using hne) (.bool true)
 have k2:=(h2.setOther (a:=⟨b1,x,none⟩) (by simpa using fun e:b2=b1=>hne e.symm) (.bool true)).set y (.bool true)
 refine ⟨k1.congr fun v hv=>?_,k2.congr fun v hv=>?_⟩
 ·show (if v=x then Value.bool true else .bool (f v))=.bool (f' v)
  rw [hf v hv]
  by_cases e:v=x
  ·rw [if_pos e]; simp [e]
  ·rw [if_neg e]; simp [e]
 ·show (if v=y then Value.bool true else .bool (g v))=.bool (g' v)
  rw [hg v hv]
  by_cases e:v=y
  ·rw [if_pos e]; simp [e]
  ·rw [if_neg e]; simp [e]
theorem zem (T:Trel) (A B:Option Addr) (c d:Nat) (w:World) (h:T.Reads w A B) :
  Calls Tryz.prog 123 #[.agg #[.slice A T.nw c,.slice B T.n d]] w fun e w'=>e=.returned (.int .i64 T.properE)/\Below w.heap.size w w':=by
 obtain ⟨RB,hRB⟩:∃ o,o=(Obj.cells #[.slice A T.nw c,.slice B T.n d] 74):=⟨_,rfl⟩
 have hB0:Below (w.heap.size+1) (w.alloc RB) (w.alloc RB):=Below.refl _ _
 have HS:Hid (∀ w',Below (w.heap.size+1) (w.alloc RB) w'->(w'.cell? ⟨w.heap.size,0,none⟩=some (.slice A T.nw c)/\w'.cell? ⟨w.heap.size,1,none⟩=some (.slice B T.n d))/\Below w.heap.size w w'):=fun w' hB=>by
  have hB':=zay hB
  subst hRB
  exact ⟨⟨tbox hB rfl,tbox hB rfl⟩,hB'⟩
 obtain ⟨⟨p0,p1⟩,hW⟩:=HS.out _ hB0
 go_enter Tryz.func123, Tryz.ntmps123
 go_wp2_with fail
 rw [<-hRB]
 refine (zeU T A B c d _ (h.on hW)).mono ?_
 rintro e w1 ⟨rfl,hb⟩
 have hB1:=zaI hB0 hb
 clear hW p0 p1 hb hB0 hRB
 obtain ⟨⟨p0,p1⟩,hW⟩:=HS.out _ hB1
 by_cases hs:T.shapeE=0
 ·have HSH:=hid (Trel.shape_of hs)
  have HS0:=hid hs
  rw [hs]
  have HR:=hid h
  have hnw:T.nw=T.n+1:=HSH.out.nw
  have HNW:=hid hnw
  have h64:T.n<=64:=HSH.out.n64
  have hnw2:T.n<T.nw:=by omega
  have hnw2':(T.n:Int)<(T.nw:Int):=by omega
  have hnw3:0<T.nw:=by omega
  have hnw3':(0:Int)<(T.nw:Int):=by omega
  have HB1:=hid hB1
  clear hs hnw h hB1
  obtain ⟨b,o,hA,hb,x0,_,_⟩:=(HR.out.on hW).width (i:=0) (by omega)
  obtain ⟨_,_,hA2,_,x1,_,_⟩:=(HR.out.on hW).width (i:=T.n) (by omega)
  subst hA
  injection hA2 with e1
  injection e1 with e1 e2
  subst e1 e2
  obtain ⟨u0,hu0⟩:∃ u,u=T.W 0:=⟨_,rfl⟩
  obtain ⟨u1,hu1⟩:∃ u,u=T.W T.n:=⟨_,rfl⟩
  rw [Nat.add_zero,<-hu0] at x0;rw [<-hu1] at x1
  have HU0:=hid hu0
  have HU1:=hid hu1
  clear hu0 hu1
  by_cases h0:u0=1
  ·have c0:(u0 != 1)=false:=by simp [h0]
   by_cases h1:u1=1
   ·have c1:(u1 != 1)=false:=by simp [h1]
    have HW0:Hid (T.W 0=1):=HU0.out.symm.trans h0
    have HWN:Hid (T.W T.n=1):=HU1.out.symm.trans h1
    clear h0 h1
    go_wp2
    go_loopg [5] T.n (fun gg iv wx=>∃ k:Nat,iv=.int .i64 (k:Nat)/\k<=T.n/\T.n<=k+gg/\(∀ i,i<k->T.secOk i)/\Below (w.heap.size+1) (w.alloc RB) wx)
    case atStart=>exact ⟨0,rfl,by omega,by omega,fun i hi=>absurd hi (by omega),HB1.out⟩
    case round =>
     clear hW p0 p1 x0 x1
     obtain ⟨gK,hgK⟩:∃ g,g=gk:=⟨_,rfl⟩
     subst hgK
     obtain ⟨k,rfl,hk,hkg,hall,hB⟩:=hrel
     obtain ⟨wk,hwk⟩:∃ W,W=wr:=⟨_,rfl⟩
     subst hwk
     have hk0:(0:Int)<=(k:Int):=by omega
     have HB:=hid hB
     have hwz:=zaV hB
     clear hB
     obtain ⟨⟨p0,p1⟩,hW⟩:=HS.out _ HB.out
     have HALL:=hid hall
     clear hall
     by_cases hlt:k<T.n
     ·have hlt':(k:Int)<(T.n:Int):=by omega
      have hk1:k+1<T.nw:=by omega
      have hk1':(k:Int)+1<(T.nw:Int):=by omega
      have hk2':(k:Int)<(T.nw:Int):=by omega
      obtain ⟨wa,wo,hA,_,y0,hy1,hy2⟩:=(HR.out.on hW).width (i:=k) (by omega)
      obtain ⟨_,_,hA2,_,y1,hy3,hy4⟩:=(HR.out.on hW).width (i:=k+1) (by omega)
      rw [hA] at hA2
      injection hA with e1
      injection e1 with e1 e2
      subst e1 e2
      injection hA2 with e1
      injection e1 with e1 e2
      subst e1 e2
      obtain ⟨eb,eo,E,ec,rfl,heb,x0,he1,he2,he3,he4⟩:=(HR.out.on hW).sec hlt
      unfold maxLen at he2
      have hwk:=HSH.out.wid (i:=k) (by omega)
      have hwk1:=HSH.out.wid (i:=k+1) (by omega)
      have hel:=HSH.out.elb hlt
      obtain ⟨n1,hn1⟩:∃ n:Nat,(n:Int)=T.W k:=⟨(T.W k).toNat,by omega⟩
      obtain ⟨n2,hn2⟩:∃ n:Nat,(n:Int)=T.W (k+1):=⟨(T.W (k+1)).toNat,by omega⟩
      rw [<-hn1] at y0 hwk;rw [<-hn2] at y1 hwk1
      have HN1:=hid hn1
      have HN2:=hid hn2
      have HE3:=hid he3
      have HE4:=hid he4
      have HX0:=hid x0
      have hmk:=fun W=>zaf (P:=Tryz.prog) 66 4 _ 1 Tryz.underlying66 Tryz.infoBool rfl (n1:Int) (by omega) (by omega) (by omega) W
      have hmk2:=fun W=>zaf (P:=Tryz.prog) 66 4 _ 1 Tryz.underlying66 Tryz.infoBool rfl (n2:Int) (by omega) (by omega) (by omega) W
      simp only [Int.toNat_natCast] at hmk hmk2
      clear hn1 hn2 he3 he4 hy1 hy2 hy3 hy4
      go_upto_region 12 with fail
      have hr1:=zaa (World.rowIs_made wk (.bool false) n1 4) ((Below.refl _ _).alloc (Nat.le_refl _) (Obj.cells (madeCells #[Value.bool false] n2) 4))
      have hr2:=World.rowIs_made (wk.alloc (Obj.cells (madeCells #[Value.bool false] n1) 4)) (.bool false) n2 4
      have hbm:=(((Below.refl wk.heap.size wk).alloc (Nat.le_refl _) (Obj.cells (madeCells #[Value.bool false] n1) 4)).alloc (by simp) (Obj.cells (madeCells #[Value.bool false] n2) 4))
      simp only [World.size_alloc] at hr2 ⊢
      obtain ⟨wm,hwm⟩:∃ W,W=(wk.alloc (Obj.cells (madeCells #[Value.bool false] n1) 4)).alloc (Obj.cells (madeCells #[Value.bool false] n2) 4):=⟨_,rfl⟩
      rw [<-hwm] at hr1 hr2 hbm ⊢
      obtain ⟨b1,hb1⟩:∃ q,q=wk.heap.size:=⟨_,rfl⟩
      obtain ⟨b2,hb2⟩:∃ q,q=wk.heap.size+1:=⟨_,rfl⟩
      rw [<-hb1] at hr1;rw [<-hb2] at hr2;rw [<-hb2,<-hb1]
      have hne:b1≠b2:=by omega
      have hz1:wk.heap.size<=b1:=by omega
      have hz2:wk.heap.size<=b2:=by omega
      have hs1:Hid (wm.rowIs b1 4 n1 (fun v=>.bool (hitB (T.fr k) 0 (v:Nat)))):=hr1.congr fun _ _=>rfl
      have hs2:Hid (wm.rowIs b2 4 n2 (fun v=>.bool (hitB (T.to k) 0 (v:Nat)))):=hr2.congr fun _ _=>rfl
      have HBM:=hid hbm
      have HBAD:Hid (¬ T.secOk k->T.properE=5):=fun hb=>T.properE_sec HS0.out hlt hb
      clear hr1 hr2 hbm hwm hb1 hb2 hmk hmk2 p0 p1 x0 hW
      obtain ⟨⟨p0,p1⟩,hW⟩:=HS.out _ (zaI HB.out HBM.out)
      have x0:=cellS HBM.out HX0.out
      go_wp2
      go_loopg [8] (T.el k) (fun gg jv wx=>∃ j:Nat,jv=.int .i64 (j:Nat)/\j<=T.el k/\T.el k<=j+gg/\(∀ i,i<j->T.edgeOk k i)/\wx.rowIs b1 4 n1 (fun v=>.bool (hitB (T.fr k) j (v:Nat)))/\wx.rowIs b2 4 n2 (fun v=>.bool (hitB (T.to k) j (v:Nat)))/\Below wk.heap.size wk wx)
      case atStart=>exact ⟨0,rfl,by omega,by omega,fun i hi=>absurd hi (by omega),hs1.out,hs2.out,HBM.out⟩
      case round =>
       clear hW p0 p1 x0 hs1 hs2 HBM y0 y1 hb
       obtain ⟨wj,hwj⟩:∃ W,W=wr:=⟨_,rfl⟩
       subst hwj
       obtain ⟨j,rfl,hj,hjg,hall,hr1,hr2,hBj⟩:=hrel
       have hj0:(0:Int)<=(j:Int):=by omega
       have HALL2:=hid hall
       obtain ⟨⟨p0,p1⟩,hW⟩:=HS.out _ (zaI HB.out hBj)
       have x0:=cellS hBj HX0.out
       have HBj:=hid hBj
       have hwj1:=hr1.lt
       have hwzj:=zaV (zaI HB.out hBj)
       have hwzk:wk.heap.size<=wj.heap.size:=hBj.size
       have heb2:eb<wj.heap.size:=by omega
       have hwj2:=hr2.lt
       have HR1:=hid hr1
       have HR2:=hid hr2
       clear hall
       by_cases hltj:j<T.el k
       ·have hltj':(j:Int)<(T.el k:Int):=by omega
        obtain ⟨fb,fo,rfl,hfb,e0,e1,e2⟩:=zaS ((Rd.below HE3.out hBj (Nat.le_refl _)).mono hBj.size) hltj
        obtain ⟨i1,i2,i3,i4⟩:=HSH.out.ins k hlt j hltj
        rw [<-HN1.out] at i2;rw [<-HN2.out] at i4
        have HOK:Hid (T.edgeOk k j↔0<=T.lb k j/\T.lb k j<256/\(0<j->T.after k j)):=Iff.rfl
        have HNO:Hid (¬ T.edgeOk k j->T.properE=5):=fun hn=>HBAD.out fun hs=>hn (hs.1 j hltj)
        obtain ⟨fn,hfn⟩:∃ n:Nat,(n:Int)=T.fr k j:=⟨(T.fr k j).toNat,by omega⟩
        obtain ⟨tn,htn⟩:∃ n:Nat,(n:Int)=T.to k j:=⟨(T.to k j).toNat,by omega⟩
        obtain ⟨lb,hlb⟩:∃ x,x=T.lb k j:=⟨_,rfl⟩
        have hfl:fn<n1:=by omega
        have htl:tn<n2:=by omega
        have hfl':(fn:Int)<(n1:Int):=by omega
        have htl':(tn:Int)<(n2:Int):=by omega
        have hf0:(0:Int)<=(fn:Int):=by omega
        have ht0:(0:Int)<=(tn:Int):=by omega
        have HSET:Hid (∀ X,Below wj.heap.size wj X->(((X.setCell ⟨b1,fn,none⟩ (.bool true)).setCell ⟨b2,tn,none⟩ (.bool true)).rowIs b1 4 n1 (fun v=>.bool (hitB (T.fr k) (j+1) (v:Nat)))/\((X.setCell ⟨b1,fn,none⟩ (.bool true)).setCell ⟨b2,tn,none⟩ (.bool true)).rowIs b2 4 n2 (fun v=>.bool (hitB (T.to k) (j+1) (v:Nat))))/\Below wk.heap.size wk ((X.setCell ⟨b1,fn,none⟩ (.bool true)).setCell ⟨b2,tn,none⟩ (.bool true))):=fun X hX=>by
         refine ⟨ziX (zaa HR1.out hX) (zaa HR2.out hX) hne (fun v hv=>?_) (fun v hv=>?_),((onS HBj.out hX).setCell (p:=⟨b1,fn,none⟩) hz1 _).setCell (p:=⟨b2,tn,none⟩) hz2 _⟩
         ·show (hitB (T.fr k) j (v:Nat) || decide (T.fr k j=(v:Nat)))=_
          rw [<-hfn]
          congr 1
          exact decide_eq_decide.2 ⟨fun h=>by omega,fun h=>by omega⟩
         ·show (hitB (T.to k) j (v:Nat) || decide (T.to k j=(v:Nat)))=_
          rw [<-htn]
          congr 1
          exact decide_eq_decide.2 ⟨fun h=>by omega,fun h=>by omega⟩
        have HOKS:Hid (T.edgeOk k j->∀ i,i<j+1->T.edgeOk k i):=fun ho i hi=>by
         by_cases e:i=j
         ·subst e; exact ho
         ·exact HALL2.out i (by omega)
        have u0:=hr1.cell (i:=fn) hfl
        have u1:=hr2.cell (i:=tn) htl
        have z0:=hr1.frozen fn
        have z1:=hr2.frozen tn
        obtain ⟨v0,hv0⟩:∃ x,x=hitB (T.fr k) j (fn:Nat):=⟨_,rfl⟩
        obtain ⟨v1,hv1⟩:∃ x,x=hitB (T.to k) j (tn:Nat):=⟨_,rfl⟩
        have hne':b2≠b1:=fun e=>hne e.symm
        rw [<-hv0] at u0;rw [<-hv1] at u1;rw [<-hfn] at e0;rw [<-htn] at e2;rw [<-hlb] at e1 HOK
        have HFN:=hid hfn
        have HLB:=hid hlb
        clear hv0 hv1 hfn htn hlb hr1 hr2 hBj i1 i2 i3 i4
        by_cases l1:lb<0
        ·have q1:decide (lb<0)=true:=by simpa using l1
         have hE:=hid (HNO.out fun ho=>by have:=(HOK.out.1 ho).1; omega)
         go_wp2
         go_ret
         exact ⟨zah hE.out.symm,hW.alloc (by omega) _⟩
        have q1:decide (lb<0)=false:=by simpa using l1
        by_cases l2:lb ≥ 256
        ·have hE:=hid (HNO.out fun ho=>by have:=(HOK.out.1 ho).2.1; omega)
         go_wp2
         go_ret
         exact ⟨zah hE.out.symm,hW.alloc (by omega) _⟩
        by_cases jz:j=0
        ·have hg:¬ (j:Int) > 0:=by omega
         have hok:=hid (HOK.out.2 ⟨by omega,by omega,fun h=>absurd h (by omega)⟩)
         clear jz
         go_wp2
         go_roundg (gk - 1)
         case measure=>omega
         case rel=>exact ⟨j+1,by go_num,by omega,by omega,HOKS.out hok.out,zaa (HSET.out _ (Below.refl _ _)).1.1 ((Below.refl _ _).alloc (Nat.le_refl _) _),zaa (HSET.out _ (Below.refl _ _)).1.2 ((Below.refl _ _).alloc (Nat.le_refl _) _),onS (HSET.out _ (Below.refl _ _)).2 ((Below.refl _ _).alloc (Nat.le_refl _) _)⟩
        ·obtain ⟨jp,rfl⟩:∃ jp,j=jp+1:=⟨j - 1,by omega⟩
         obtain ⟨_,_,hE2,_,g0,g1,g2⟩:=zaS ((Rd.below HE3.out HBj.out (Nat.le_refl _)).mono HBj.out.size) (j:=jp) (by omega)
         injection hE2 with hE2; injection hE2 with hE2 hE3; subst hE2 hE3
         have HAF:Hid (T.after k (jp+1)↔T.fr k jp<T.fr k (jp+1)∨T.fr k jp=T.fr k (jp+1)/\T.lb k jp<T.lb k (jp+1)):=Iff.rfl
         rw [<-HFN.out,<-HLB.out] at HAF
         have hlj:jp<T.el k:=by omega
         have hlj':(jp:Int)<(T.el k:Int):=by omega
         have hjp0:(0:Int)<=(jp:Int):=by omega
         obtain ⟨gf,hgf⟩:∃ x,x=T.fr k jp:=⟨_,rfl⟩
         obtain ⟨gl,hgl⟩:∃ x,x=T.lb k jp:=⟨_,rfl⟩
         obtain ⟨gt,hgt⟩:∃ x,x=T.to k jp:=⟨_,rfl⟩
         rw [<-hgf] at g0 HAF;rw [<-hgl] at g1 HAF;rw [<-hgt] at g2;clear hgf hgl hgt jz
         have hg:(jp:Int)+1 > 0:=by omega
         by_cases f1:(fn:Int)<gf
         ·have hE:=hid (HNO.out fun ho=>by have:=HAF.out.1 ((HOK.out.1 ho).2.2 (by omega)); omega)
          go_wp2
          go_ret
          exact ⟨zah hE.out.symm,(hW.alloc (by omega) _).alloc (by simp; omega) _⟩
         by_cases f2:(fn:Int)=gf
         ·have f2':((fn:Int) == gf)=true:=by simpa using f2
          by_cases f3:lb<=gl
          ·have hE:=hid (HNO.out fun ho=>by have:=HAF.out.1 ((HOK.out.1 ho).2.2 (by omega)); omega)
           clear f2
           go_wp2
           go_ret
           exact ⟨zah hE.out.symm,(hW.alloc (by omega) _).alloc (by simp; omega) _⟩
          ·have hok:=hid (HOK.out.2 ⟨by omega,by omega,fun h=>HAF.out.2 (by omega)⟩)
           clear f2
           go_wp2
           go_roundg (gk - 1)
           case measure=>omega
           case rel=>exact ⟨jp+1+1,by go_num,by omega,by omega,HOKS.out hok.out,zaa (HSET.out _ (Below.refl _ _)).1.1 (((Below.refl _ _).alloc (Nat.le_refl _) _).alloc (by simp) _),zaa (HSET.out _ (Below.refl _ _)).1.2 (((Below.refl _ _).alloc (Nat.le_refl _) _).alloc (by simp) _),onS (HSET.out _ (Below.refl _ _)).2 (((Below.refl _ _).alloc (Nat.le_refl _) _).alloc (by simp) _)⟩
         ·have f2':((fn:Int) == gf)=false:=by simpa using f2
          have hok:=hid (HOK.out.2 ⟨by omega,by omega,fun h=>HAF.out.2 (by omega)⟩)
          go_wp2
          go_roundg (gk - 1)
          case measure=>omega
          case rel=>exact ⟨jp+1+1,by go_num,by omega,by omega,HOKS.out hok.out,zaa (HSET.out _ (Below.refl _ _)).1.1 (((Below.refl _ _).alloc (Nat.le_refl _) _).alloc (by simp) _),zaa (HSET.out _ (Below.refl _ _)).1.2 (((Below.refl _ _).alloc (Nat.le_refl _) _).alloc (by simp) _),onS (HSET.out _ (Below.refl _ _)).2 (((Below.refl _ _).alloc (Nat.le_refl _) _).alloc (by simp) _)⟩
       ·have hltj' : ¬ (j : Int) < (T.el k : Int) := by omega
        have hje:j=T.el k:=by omega
        have HALL3:Hid (∀ i,i<T.el k->T.edgeOk k i):=by rw [<-hje]; exact HALL2
        rw [hje] at hr1 hr2
        have hltj2:¬ (T.el k:Int)<(T.el k:Int):=by omega
        clear HR1 HR2 HALL2
        go_wp2
        go_loopg [11] n1 (fun gg iv wx=>∃ v:Nat,iv=.int .i64 (v:Nat)/\v<=n1/\n1<=v+gg/\(∀ i,i<v->hitB (T.fr k) (T.el k) (i:Nat)=true)/\Below wj.heap.size wj wx)
        case atStart=>exact ⟨0,rfl,by omega,by omega,fun i hi=>absurd hi (by omega),Below.refl _ _⟩
        case round =>
         obtain ⟨v,rfl,hv,hvg,hall,hBv⟩:=hrel
         have hv0:(0:Int)<=(v:Int):=by omega
         have HA:=hid hall
         clear hall
         by_cases hlv:v<n1
         ·have hlv':(v:Int)<(n1:Int):=by omega
          have u0:=(zaa hr1 hBv).cell (i:=v) hlv
          by_cases hh:hitB (T.fr k) (T.el k) (v:Nat)=true
          ·rw [hh] at u0
           have HN:Hid (∀ i,i<v+1->hitB (T.fr k) (T.el k) (i:Nat)=true):=fun i hi=>by
            by_cases e:i=v
            ·subst e; exact hh
            ·exact HA.out i (by omega)
           clear hh
           go_wp2
           go_roundg (gk - 1)
           case measure=>omega
           case rel=>exact ⟨v+1,by go_num,by omega,by omega,HN.out,hBv⟩
          ·rw [Bool.eq_false_iff.2 hh] at u0
           have hE:=hid (HBAD.out fun hs=>hh (hs.2.1 v (by have:=HN1.out; omega)))
           clear hh
           have hWv:=onS hW hBv
           go_wp2
           go_ret
           exact ⟨zah hE.out.symm,hWv⟩
         ·have hlv':¬ (v:Int)<(n1:Int):=by omega
          have HA1:Hid (∀ i,i<n1->hitB (T.fr k) (T.el k) (i:Nat)=true):=fun i hi=>HA.out i (by omega)
          have HBv:=hid hBv
          clear hBv
          go_wp2
          go_loopg [12] n2 (fun gg iv wx=>∃ v:Nat,iv=.int .i64 (v:Nat)/\v<=n2/\n2<=v+gg/\(∀ i,i<v->hitB (T.to k) (T.el k) (i:Nat)=true)/\Below wj.heap.size wj wx)
          case atStart=>exact ⟨0,rfl,by omega,by omega,fun i hi=>absurd hi (by omega),HBv.out⟩
          case round =>
           clear hv hvg hv0 hlv hlv' HBv
           obtain ⟨v2,rfl,hv,hvg,hall,hBv⟩:=hrel
           have hv0:(0:Int)<=(v2:Int):=by omega
           have HA2:=hid hall
           clear hall
           have hWv:=onS hW hBv
           by_cases hlv:v2<n2
           ·have hlv':(v2:Int)<(n2:Int):=by omega
            have u0:=(zaa hr2 hBv).cell (i:=v2) hlv
            by_cases hh:hitB (T.to k) (T.el k) (v2:Nat)=true
            ·rw [hh] at u0
             have HN:Hid (∀ i,i<v2+1->hitB (T.to k) (T.el k) (i:Nat)=true):=fun i hi=>by
              by_cases e:i=v2
              ·subst e; exact hh
              ·exact HA2.out i (by omega)
             clear hh
             go_wp2
             go_roundg (gk - 1)
             case measure=>omega
             case rel=>exact ⟨v2+1,by go_num,by omega,by omega,HN.out,hBv⟩
            ·rw [Bool.eq_false_iff.2 hh] at u0
             have hE:=hid (HBAD.out fun hs=>hh (hs.2.2 v2 (by have:=HN2.out; omega)))
             clear hh
             go_wp2
             go_ret
             exact ⟨zah hE.out.symm,hWv⟩
           ·have hlv':¬ (v2:Int)<(n2:Int):=by omega
            have HN:Hid (∀ i,i<k+1->T.secOk i):=fun i hi=>by
             by_cases e:i=k
             ·subst e; exact ⟨HALL3.out,fun v hv=>HA1.out v (by have:=HN1.out; omega),fun v hv=>HA2.out v (by have:=HN2.out; omega)⟩
             ·exact HALL.out i (by omega)
            have HFIN:=hid (zaI (zaI HB.out HBj.out) hBv)
            go_wp2
            go_roundg (gK - 1)
            case measure=>omega
            case rel=>exact ⟨k+1,by go_num,by omega,by omega,HN.out,HFIN.out⟩
     ·have hlt':¬ (k:Int)<(T.n:Int):=by omega
      have hE:=hid (T.properE_ok HS0.out HW0.out HWN.out fun i hi=>HALL.out i (by omega))
      go_wp2
      go_ret
      exact ⟨zah hE.out.symm,hW⟩
   ·have c1:(u1 != 1)=true:=by simp [h1]
    have hE:=hid (T.properE_end HS0.out (.inr (by rw [<-HU1.out]; exact h1)))
    go_wp2
    go_ret
    exact ⟨zah hE.out.symm,hW⟩
  ·have c0:(u0 != 1)=true:=by simp [h0]
   have hE:=hid (T.properE_end HS0.out (.inl (by rw [<-HU0.out]; exact h0)))
   go_wp2
   go_ret
   exact ⟨zah hE.out.symm,hW⟩
 ·have hE:=hid (Trel.properE_shape hs)
  have hn:(T.shapeE != 0)=true:=by simpa using hs
  obtain ⟨x,hx⟩:∃ x,x=T.shapeE:=⟨_,rfl⟩
  rw [<-hx] at hE hn ⊢;clear hs hx
  go_wp2
  go_ret
  exact ⟨zah hE.out.symm,hW⟩
theorem zaM {w:World} {p q:Addr} {u v:Value} (h:w.cell? q=some v) (hne:q.block≠p.block):(w.setCell p u).cell? q=some v :=
 (World.cell?_setCell_other w p q u (fun e=>hne (by rw [e]))).trans h
theorem zcX (T:Trel) (A B:Option Addr) (c d:Nat) (w:World) (h:T.Reads w A B) :
  Calls Tryz.prog 116 #[.agg #[.slice A T.nw c,.slice B T.n d]] w fun e w'=>e=.returned (.int .i64 T.properE)/\Below w.heap.size w w':=by
 obtain ⟨RB,hRB⟩:∃ o,o=(Obj.cells #[.slice A T.nw c,.slice B T.n d] 74):=⟨_,rfl⟩
 have hB0:Below (w.heap.size+1) (w.alloc RB) (w.alloc RB):=Below.refl _ _
 have HS:Hid (∀ w',Below (w.heap.size+1) (w.alloc RB) w'->(w'.cell? ⟨w.heap.size,0,none⟩=some (.slice A T.nw c)/\w'.cell? ⟨w.heap.size,1,none⟩=some (.slice B T.n d))/\Below w.heap.size w w'):=fun w' hB=>by
  have hB':=zay hB
  subst hRB
  exact ⟨⟨tbox hB rfl,tbox hB rfl⟩,hB'⟩
 obtain ⟨⟨p0,p1⟩,hW⟩:=HS.out _ hB0
 go_enter Tryz.func116, Tryz.ntmps116
 go_wp2_with fail
 rw [<-hRB]
 refine (zcV T A B c d _ (h.on hW)).mono ?_
 rintro e w1 ⟨rfl,hb⟩
 have hB1:=zaI hB0 hb
 clear hW p0 p1 hb hB0 hRB
 obtain ⟨⟨p0,p1⟩,hW⟩:=HS.out _ hB1
 by_cases hs:T.shapeE=0
 ·have HSH:=hid (Trel.shape_of hs)
  have HS0:=hid hs
  rw [hs]
  have HR:=hid h
  have hnw:T.nw=T.n+1:=HSH.out.nw
  have HNW:=hid hnw
  have h64:T.n<=64:=HSH.out.n64
  have hnw2:T.n<T.nw:=by omega
  have hnw2':(T.n:Int)<(T.nw:Int):=by omega
  have hnw3:0<T.nw:=by omega
  have hnw3':(0:Int)<(T.nw:Int):=by omega
  have HB1:=hid hB1
  clear hs hnw h hB1
  obtain ⟨b,o,hA,hb,x0,_,_⟩:=(HR.out.on hW).width (i:=0) (by omega)
  obtain ⟨_,_,hA2,_,x1,_,_⟩:=(HR.out.on hW).width (i:=T.n) (by omega)
  subst hA
  injection hA2 with e1
  injection e1 with e1 e2
  subst e1 e2
  obtain ⟨u0,hu0⟩:∃ u,u=T.W 0:=⟨_,rfl⟩
  obtain ⟨u1,hu1⟩:∃ u,u=T.W T.n:=⟨_,rfl⟩
  rw [Nat.add_zero,<-hu0] at x0;rw [<-hu1] at x1
  have HU0:=hid hu0
  have HU1:=hid hu1
  clear hu0 hu1
  by_cases h0:u0=1
  ·have c0:(u0 != 1)=false:=by simp [h0]
   by_cases h1:u1=1
   ·have c1:(u1 != 1)=false:=by simp [h1]
    have HW0:Hid (T.W 0=1):=HU0.out.symm.trans h0
    have HWN:Hid (T.W T.n=1):=HU1.out.symm.trans h1
    clear h0 h1
    go_wp2
    go_loopg [35] T.n (fun gg iv wx=>∃ k:Nat,iv=.int .i64 (k:Nat)/\k<=T.n/\T.n<=k+gg/\(∀ i,i<k->T.secOk i)/\Below (w.heap.size+1) (w.alloc RB) wx)
    case atStart=>exact ⟨0,rfl,by omega,by omega,fun i hi=>absurd hi (by omega),HB1.out⟩
    case round =>
     clear hW p0 p1 x0 x1
     obtain ⟨gK,hgK⟩:∃ g,g=gk:=⟨_,rfl⟩
     subst hgK
     obtain ⟨k,rfl,hk,hkg,hall,hB⟩:=hrel
     obtain ⟨wk,hwk⟩:∃ W,W=wr:=⟨_,rfl⟩
     subst hwk
     have hk0:(0:Int)<=(k:Int):=by omega
     have HB:=hid hB
     have hwz:=zaV hB
     clear hB
     obtain ⟨⟨p0,p1⟩,hW⟩:=HS.out _ HB.out
     have HALL:=hid hall
     clear hall
     by_cases hlt:k<T.n
     ·have hlt':(k:Int)<(T.n:Int):=by omega
      have hk1:k+1<T.nw:=by omega
      have hk1':(k:Int)+1<(T.nw:Int):=by omega
      have hk2':(k:Int)<(T.nw:Int):=by omega
      obtain ⟨wa,wo,hA,_,y0,hy1,hy2⟩:=(HR.out.on hW).width (i:=k) (by omega)
      obtain ⟨_,_,hA2,_,y1,hy3,hy4⟩:=(HR.out.on hW).width (i:=k+1) (by omega)
      rw [hA] at hA2
      injection hA with e1
      injection e1 with e1 e2
      subst e1 e2
      injection hA2 with e1
      injection e1 with e1 e2
      subst e1 e2
      obtain ⟨eb,eo,E,ec,rfl,heb,x0,he1,he2,he3,he4⟩:=(HR.out.on hW).sec hlt
      unfold maxLen at he2
      have hwk:=HSH.out.wid (i:=k) (by omega)
      have hwk1:=HSH.out.wid (i:=k+1) (by omega)
      have hel:=HSH.out.elb hlt
      obtain ⟨n1,hn1⟩:∃ n:Nat,(n:Int)=T.W k:=⟨(T.W k).toNat,by omega⟩
      obtain ⟨n2,hn2⟩:∃ n:Nat,(n:Int)=T.W (k+1):=⟨(T.W (k+1)).toNat,by omega⟩
      rw [<-hn1] at y0 hwk;rw [<-hn2] at y1 hwk1
      have HN1:=hid hn1
      have HN2:=hid hn2
      have HE3:=hid he3
      have HE4:=hid he4
      have HX0:=hid x0
      have hmk:=fun W=>zaf (P:=Tryz.prog) 66 4 _ 1 Tryz.underlying66 Tryz.infoBool rfl (n1:Int) (by omega) (by omega) (by omega) W
      have hmk2:=fun W=>zaf (P:=Tryz.prog) 66 4 _ 1 Tryz.underlying66 Tryz.infoBool rfl (n2:Int) (by omega) (by omega) (by omega) W
      simp only [Int.toNat_natCast] at hmk hmk2
      clear hn1 hn2 he3 he4 hy1 hy2 hy3 hy4
      go_upto_region 12 with fail
      have hr1:=zaa (World.rowIs_made wk (.bool false) n1 4) ((Below.refl _ _).alloc (Nat.le_refl _) (Obj.cells (madeCells #[Value.bool false] n2) 4))
      have hr2:=World.rowIs_made (wk.alloc (Obj.cells (madeCells #[Value.bool false] n1) 4)) (.bool false) n2 4
      have hbm:=(((Below.refl wk.heap.size wk).alloc (Nat.le_refl _) (Obj.cells (madeCells #[Value.bool false] n1) 4)).alloc (by simp) (Obj.cells (madeCells #[Value.bool false] n2) 4))
      simp only [World.size_alloc] at hr2 ⊢
      obtain ⟨wm,hwm⟩:∃ W,W=(wk.alloc (Obj.cells (madeCells #[Value.bool false] n1) 4)).alloc (Obj.cells (madeCells #[Value.bool false] n2) 4):=⟨_,rfl⟩
      rw [<-hwm] at hr1 hr2 hbm ⊢
      obtain ⟨b1,hb1⟩:∃ q,q=wk.heap.size:=⟨_,rfl⟩
      obtain ⟨b2,hb2⟩:∃ q,q=wk.heap.size+1:=⟨_,rfl⟩
      rw [<-hb1] at hr1;rw [<-hb2] at hr2;rw [<-hb2,<-hb1]
      have hne:b1≠b2:=by omega
      have hz1:wk.heap.size<=b1:=by omega
      have hz2:wk.heap.size<=b2:=by omega
      have hs1:Hid (wm.rowIs b1 4 n1 (fun v=>.bool (hitB (T.fr k) 0 (v:Nat)))):=hr1.congr fun _ _=>rfl
      have hs2:Hid (wm.rowIs b2 4 n2 (fun v=>.bool (hitB (T.to k) 0 (v:Nat)))):=hr2.congr fun _ _=>rfl
      have HBM:=hid hbm
      have HBAD:Hid (¬ T.secOk k->T.properE=5):=fun hb=>T.properE_sec HS0.out hlt hb
      clear hr1 hr2 hbm hwm hb1 hb2 hmk hmk2 p0 p1 x0 hW
      obtain ⟨⟨p0,p1⟩,hW⟩:=HS.out _ (zaI HB.out HBM.out)
      have x0:=cellS HBM.out HX0.out
      go_wp2
      go_loopg [55] (T.el k) (fun gg jv wx=>∃ j:Nat,jv=.int .i64 (j:Nat)/\j<=T.el k/\T.el k<=j+gg/\(∀ i,i<j->T.edgeOk k i)/\wx.rowIs b1 4 n1 (fun v=>.bool (hitB (T.fr k) j (v:Nat)))/\wx.rowIs b2 4 n2 (fun v=>.bool (hitB (T.to k) j (v:Nat)))/\Below wk.heap.size wk wx)
      case atStart=>exact ⟨0,rfl,by omega,by omega,fun i hi=>absurd hi (by omega),hs1.out,hs2.out,HBM.out⟩
      case round =>
       clear hW p0 p1 x0 hs1 hs2 HBM y0 y1 hb
       obtain ⟨wj,hwj⟩:∃ W,W=wr:=⟨_,rfl⟩
       subst hwj
       obtain ⟨j,rfl,hj,hjg,hall,hr1,hr2,hBj⟩:=hrel
       have hj0:(0:Int)<=(j:Int):=by omega
       have HALL2:=hid hall
       obtain ⟨⟨p0,p1⟩,hW⟩:=HS.out _ (zaI HB.out hBj)
       have x0:=cellS hBj HX0.out
       have HBj:=hid hBj
       have hwj1:=hr1.lt
       have hwzj:=zaV (zaI HB.out hBj)
       have hwzk:wk.heap.size<=wj.heap.size:=hBj.size
       have heb2:eb<wj.heap.size:=by omega
       have hwj2:=hr2.lt
       have HR1:=hid hr1
       have HR2:=hid hr2
       clear hall
       by_cases hltj:j<T.el k
       ·have hltj':(j:Int)<(T.el k:Int):=by omega
        obtain ⟨fb,fo,rfl,hfb,e0,e1,e2⟩:=zaS ((Rd.below HE3.out hBj (Nat.le_refl _)).mono hBj.size) hltj
        obtain ⟨i1,i2,i3,i4⟩:=HSH.out.ins k hlt j hltj
        rw [<-HN1.out] at i2;rw [<-HN2.out] at i4
        have HOK:Hid (T.edgeOk k j↔0<=T.lb k j/\T.lb k j<256/\(0<j->T.after k j)):=Iff.rfl
        have HNO:Hid (¬ T.edgeOk k j->T.properE=5):=fun hn=>HBAD.out fun hs=>hn (hs.1 j hltj)
        obtain ⟨fn,hfn⟩:∃ n:Nat,(n:Int)=T.fr k j:=⟨(T.fr k j).toNat,by omega⟩
        obtain ⟨tn,htn⟩:∃ n:Nat,(n:Int)=T.to k j:=⟨(T.to k j).toNat,by omega⟩
        obtain ⟨lb,hlb⟩:∃ x,x=T.lb k j:=⟨_,rfl⟩
        have hfl:fn<n1:=by omega
        have htl:tn<n2:=by omega
        have hfl':(fn:Int)<(n1:Int):=by omega
        have htl':(tn:Int)<(n2:Int):=by omega
        have hf0:(0:Int)<=(fn:Int):=by omega
        have ht0:(0:Int)<=(tn:Int):=by omega
        have HOKS:Hid (T.edgeOk k j->∀ i,i<j+1->T.edgeOk k i):=fun ho i hi=>by
         by_cases e:i=j
         ·subst e; exact ho
         ·exact HALL2.out i (by omega)
        have u0:=hr1.cell (i:=fn) hfl
        have u1:=hr2.cell (i:=tn) htl
        have z0:=hr1.frozen fn
        have z1:=hr2.frozen tn
        obtain ⟨v0,hv0⟩:∃ x,x=hitB (T.fr k) j (fn:Nat):=⟨_,rfl⟩
        obtain ⟨v1,hv1⟩:∃ x,x=hitB (T.to k) j (tn:Nat):=⟨_,rfl⟩
        have hne':b2≠b1:=fun e=>hne e.symm
        rw [<-hv0] at u0;rw [<-hv1] at u1;rw [<-hfn] at e0;rw [<-htn] at e2;rw [<-hlb] at e1 HOK
        have HFN:=hid hfn
        have HTN:=hid htn
        have HLB:=hid hlb
        clear hv0 hv1 hfn htn hlb hr1 hr2 hBj i1 i2 i3 i4
        have hbj:=(HBj.out.alloc hwzk (Obj.cells #[.int .i64 (fn:Int),.int .i64 lb,.int .i64 (tn:Int)] 148))
        have HC1:Hid (∀ v,v<n1->(if v=fn then Value.bool true else .bool (hitB (T.fr k) j (v:Nat)))=.bool (hitB (T.fr k) (j+1) (v:Nat))):=fun v hv=>by
         show _=Value.bool (hitB (T.fr k) j (v:Nat) || decide (T.fr k j=(v:Nat)))
         by_cases e:v=fn
         ·subst e; rw [if_pos rfl,<-HFN.out]; simp
         ·rw [if_neg e,decide_eq_false (by have:=HFN.out; omega)]; simp
        have HC2:Hid (∀ v,v<n2->(if v=tn then Value.bool true else .bool (hitB (T.to k) j (v:Nat)))=.bool (hitB (T.to k) (j+1) (v:Nat))):=fun v hv=>by
         show _=Value.bool (hitB (T.to k) j (v:Nat) || decide (T.to k j=(v:Nat)))
         by_cases e:v=tn
         ·subst e; rw [if_pos rfl,<-HTN.out]; simp
         ·rw [if_neg e,decide_eq_false (by have:=HTN.out; omega)]; simp
        go_upto_region 15 with fail
        obtain ⟨OB,hOB⟩:∃ o,o=(Obj.cells #[.int .i64 (fn:Int),.int .i64 lb,.int .i64 (tn:Int)] 148):=⟨_,rfl⟩
        have hq:∀ i v,(#[Value.int .i64 (fn:Int),.int .i64 lb,.int .i64 (tn:Int)]:Array Value)[i]?=some v->(wj.alloc OB).cell? ⟨wj.heap.size,i,none⟩=some v:=fun i v hv=>by subst hOB; exact tbox (Below.refl _ _) hv
        have q0:=hq 0 _ rfl
        have q1:=hq 1 _ rfl
        have q2:=hq 2 _ rfl
        have kbo:Below wj.heap.size wj (wj.alloc OB):=(Below.refl _ _).alloc (Nat.le_refl _) _
        rw [<-hOB] at hbj ⊢
        obtain ⟨w50,hw50⟩:∃ W,W=wj.alloc OB:=⟨_,rfl⟩
        rw [<-hw50] at hbj q0 q1 q2 kbo ⊢
        have hr1:=zaa HR1.out kbo
        have hr2:=zaa HR2.out kbo
        have hbx:=hbj
        have hwj50:wj.heap.size<w50.heap.size:=by rw [hw50]; simp
        have hW50:Below w.heap.size w w50:=onS hW kbo
        have hzb1:b1<wj.heap.size:=hwj1
        have hzb2:b2<wj.heap.size:=hwj2
        clear hq hw50 hOB hbj p0 p1 x0 HR1 HR2 u0 u1 z0 z1
        by_cases l1:lb<0
        ·have q3:decide (lb<0)=true:=by simpa using l1
         have hE:=hid (HNO.out fun ho=>by have:=(HOK.out.1 ho).1; omega)
         go_quiet (fail)
         go_wp2
         go_ret
         exact ⟨zah hE.out.symm,zac hW50 _⟩
        have q3:decide (lb<0)=false:=by simpa using l1
        by_cases l2:lb ≥ 256
        ·have q4:decide (lb ≥ 256)=true:=by simpa using l2
         have q5:decide (256<=lb)=true:=by simpa using l2
         have hE:=hid (HNO.out fun ho=>by have:=(HOK.out.1 ho).2.1; omega)
         go_quiet (fail)
         go_wp2
         go_ret
         exact ⟨zah hE.out.symm,zac hW50 _⟩
        have q4:decide (lb ≥ 256)=false:=by simpa using l2
        have q5:decide (256<=lb)=false:=by simpa using l2
        by_cases jz:j=0
        ·have hg:decide ((j:Int) > 0)=false:=by simp; omega
         have hg2:decide (0<(j:Int))=false:=by simp; omega
         have hg3:decide (0<j)=false:=by simp; omega
         have hok:=hid (HOK.out.2 ⟨by omega,by omega,fun h=>absurd h (by omega)⟩)
         clear jz e0 e1 e2
         go_quiet (fail)
         go_upto_region 17 with fail
         replace kbo:=zac (Below.refl w50.heap.size w50) nq;replace q0:=cellS kbo q0;replace q2:=cellS kbo q2;replace hr1:=zaa hr1 kbo;replace hr2:=zaa hr2 kbo;replace hbx:=onS hbx kbo
         obtain ⟨w60,hw60⟩:∃ W,W=w50.drewN nq:=⟨_,rfl⟩
         rw [<-hw60] at q0 q2 hr1 hr2 hbx ⊢;clear hw60 kbo hW50 q1
         refine wp_region_held_drew (S:=fun w'=>w'.cell? ⟨wj.heap.size,0,none⟩=some (.int .i64 fn)/\w'.cell? ⟨wj.heap.size,2,none⟩=some (.int .i64 tn)) (by kernel_rfl) ⟨cellS (Below.refl _ _).drew q0,cellS (Below.refl _ _).drew q2⟩ (fun hHeld=>?_)
         obtain ⟨w61,hw⟩:∃ W,W=World.drew w60:=⟨_,rfl⟩
         have kb:Below w60.heap.size w60 w61:=by rw [hw]; exact (Below.refl _ _).drew
         rw [<-hw] at hHeld ⊢;clear hw;replace hr1:=zaa hr1 kb;replace hr2:=zaa hr2 kb;replace q0:=cellS kb q0;replace q2:=cellS kb q2;replace hbx:=onS hbx kb;clear kb
         refine tkq 0 (h:=tkq 1 (h:=tkq 2 (h:=tkq 3 (h:=tkq 4 (h:=tkq 5 (h:=tkq 6 (h:=?_)))))))
         refine rdq 7 (h:=fun K hK=>?_)
         have hlx:=hr1.lt
         have u0:=hr1.cell (i:=fn) hfl
         have z0:=hr1.frozen fn
         skip
         go_simp
         replace q0:=zaM (p:=⟨b1,fn,none⟩) (u:=.bool true) q0 (by show wj.heap.size≠b1; omega)
         replace q2:=zaM (p:=⟨b1,fn,none⟩) (u:=.bool true) q2 (by show wj.heap.size≠b1; omega)
         replace hbx:=hbx.setCell (p:=⟨b1,fn,none⟩) hz1 (.bool true)
         replace hr2:=hr2.setOther (a:=⟨b1,fn,none⟩) (by simpa using hne') (.bool true)
         replace hr1:=hr1.set fn (.bool true)
         obtain ⟨w62,hw⟩:∃ W,W=World.setCell w61 ⟨b1,fn,none⟩ (.bool true):=⟨_,rfl⟩
         rw [<-hw] at q0 q2 hbx hr1 hr2 ⊢;clear hw u0 z0 hlx
         refine bkq hK ⟨q0,q2⟩ (h:=fun hHeld=>?_)
         clear hK K
         refine tkq 8 (h:=?_)
         refine rdq 9 (h:=fun K hK=>?_)
         have hlx:=hr2.lt
         have u0:=hr2.cell (i:=tn) htl
         have z0:=hr2.frozen tn
         skip
         go_simp
         replace q0:=zaM (p:=⟨b2,tn,none⟩) (u:=.bool true) q0 (by show wj.heap.size≠b2; omega)
         replace q2:=zaM (p:=⟨b2,tn,none⟩) (u:=.bool true) q2 (by show wj.heap.size≠b2; omega)
         replace hbx:=hbx.setCell (p:=⟨b2,tn,none⟩) hz2 (.bool true)
         replace hr1:=hr1.setOther (a:=⟨b2,tn,none⟩) (by simpa using hne) (.bool true)
         replace hr2:=hr2.set tn (.bool true)
         obtain ⟨w63,hw⟩:∃ W,W=World.setCell w62 ⟨b2,tn,none⟩ (.bool true):=⟨_,rfl⟩
         rw [<-hw] at q0 q2 hbx hr1 hr2 ⊢;clear hw u0 z0 hlx
         refine bkq hK ⟨q0,q2⟩ (h:=fun hHeld=>?_)
         clear hK K
         refine wpAnyH_done (by kernel_rfl) ?_ _
         clear hHeld
         have hs1:=hr1.congr (g:=fun v=>.bool (hitB (T.fr k) (j+1) (v:Nat))) (HC1.out)
         have hs2:=hr2.congr (g:=fun v=>.bool (hitB (T.to k) (j+1) (v:Nat))) (HC2.out)
         have HS1:=hid hs1
         have HS2:=hid hs2
         have HBX:=hid hbx
         clear hs1 hs2 hr1 hr2 hbx
         go_wp2
         go_roundg (gk - 1)
         case measure=>omega
         case rel=>exact ⟨j+1,by go_num,by omega,by omega,HOKS.out hok.out,HS1.out,HS2.out,HBX.out⟩
        ·obtain ⟨jp,rfl⟩:∃ jp,j=jp+1:=⟨j - 1,by omega⟩
         obtain ⟨_,_,hE2,_,g0,g1,g2⟩:=zaS ((Rd.below HE3.out HBj.out (Nat.le_refl _)).mono HBj.out.size) (j:=jp) (by omega)
         injection hE2 with hE2; injection hE2 with hE2 hE3; subst hE2 hE3
         have HAF:Hid (T.after k (jp+1)↔T.fr k jp<T.fr k (jp+1)∨T.fr k jp=T.fr k (jp+1)/\T.lb k jp<T.lb k (jp+1)):=Iff.rfl
         rw [<-HFN.out,<-HLB.out] at HAF
         have hlj:jp<T.el k:=by omega
         have hlj':(jp:Int)<(T.el k:Int):=by omega
         have hjp0:(0:Int)<=(jp:Int):=by omega
         obtain ⟨gf,hgf⟩:∃ x,x=T.fr k jp:=⟨_,rfl⟩
         obtain ⟨gl,hgl⟩:∃ x,x=T.lb k jp:=⟨_,rfl⟩
         obtain ⟨gt,hgt⟩:∃ x,x=T.to k jp:=⟨_,rfl⟩
         rw [<-hgf] at g0 HAF;rw [<-hgl] at g1 HAF;rw [<-hgt] at g2;replace g0:=cellS kbo g0;replace g1:=cellS kbo g1;replace g2:=cellS kbo g2;clear hgf hgl hgt jz e0 e1 e2 kbo hW50
         have hg:decide ((jp:Int)+1 > 0)=true:=decide_eq_true (by omega)
         have hg2:decide (0<(jp:Int)+1)=true:=decide_eq_true (by omega)
         have hwj1:IntKind.i64.wrap (jp:Int)=(jp:Int):=IntWalk.i64_in _ (by omega)
         have hlv:Hid (lessV gf gl fn lb<0↔gf<fn∨gf=fn/\gl<lb):=zhO
         refine wp_region_held_drew (S:=fun w'=>w'.cell? ⟨wj.heap.size,0,none⟩=some (.int .i64 fn)/\w'.cell? ⟨wj.heap.size,1,none⟩=some (.int .i64 lb)/\w'.cell? ⟨wj.heap.size,2,none⟩=some (.int .i64 tn)/\w'.cell? ⟨fb,fo+jp*3,none⟩=some (.int .i64 gf)/\w'.cell? ⟨fb,fo+jp*3+1,none⟩=some (.int .i64 gl)/\w'.cell? ⟨fb,fo+jp*3+2,none⟩=some (.int .i64 gt)) (by kernel_rfl) ⟨cellS (Below.refl _ _).drew q0,cellS (Below.refl _ _).drew q1,cellS (Below.refl _ _).drew q2,cellS (Below.refl _ _).drew g0,cellS (Below.refl _ _).drew g1,cellS (Below.refl _ _).drew g2⟩ (fun hHeld=>?_)
         obtain ⟨w51,hw⟩:∃ W,W=World.drew w50:=⟨_,rfl⟩
         have kb:Below w50.heap.size w50 w51:=by rw [hw]; exact (Below.refl _ _).drew
         rw [<-hw] at hHeld ⊢;clear hw;replace hr1:=zaa hr1 kb;replace hr2:=zaa hr2 kb;replace q0:=cellS kb q0;replace q1:=cellS kb q1;replace q2:=cellS kb q2;replace g0:=cellS kb g0;replace g1:=cellS kb g1;replace g2:=cellS kb g2;replace hbx:=onS hbx kb;clear kb
         refine tkq 0 (h:=tkq 1 (h:=tkq 2 (h:=tkq 3 (h:=tkq 4 (h:=tkq 5 (h:=tkq 6 (h:=tkq 7 (h:=tkq 8 (h:=tkq 9 (h:=tkq 10 (h:=tkq 11 (h:=tkq 12 (h:=tkq 13 (h:=tkq 14 (h:=tkq 15 (h:=tkq 16 (h:=tkq 17 (h:=?_))))))))))))))))))
         refine rdq 18 (h:=fun K hK=>?_)
         go_simp
         go_wp2_with fail
         refine (ziW gf gl gt fn lb tn w51).mono ?_
         rintro e w52 ⟨rfl,kb⟩
         replace hr1:=zaa hr1 kb;replace hr2:=zaa hr2 kb;replace q0:=cellS kb q0;replace q1:=cellS kb q1;replace q2:=cellS kb q2;replace g0:=cellS kb g0;replace g1:=cellS kb g1;replace g2:=cellS kb g2;replace hbx:=onS hbx kb;clear kb
         refine bkq hK ⟨q0,q1,q2,g0,g1,g2⟩ (h:=fun hHeld=>?_)
         clear hK K
         refine tkq 19 (h:=tkq 20 (h:=tkq 21 (h:=?_)))
         refine wpAnyH_done (by kernel_rfl) ?_ _
         clear hHeld
         obtain ⟨lv,hlv2⟩:∃ x,x=lessV gf gl fn lb:=⟨_,rfl⟩
         rw [<-hlv2] at hlv ⊢;clear hlv2
         by_cases hl0:lv ≥ 0
         ·have q6:decide (lv ≥ 0)=true:=by simpa using hl0
          have q7:decide (0<=lv)=true:=by simpa using hl0
          have hE:=hid (HNO.out fun ho=>by have:=hlv.out.2 (HAF.out.1 ((HOK.out.1 ho).2.2 (by omega))); omega)
          have hWx:=zay (zaI HB.out hbx)
          go_wp2
          go_ret
          exact ⟨zah hE.out.symm,hWx⟩
         ·have q6:decide (lv ≥ 0)=false:=by simpa using hl0
          have q7:decide (0<=lv)=false:=by simpa using hl0
          have hok:=hid (HOK.out.2 ⟨by omega,by omega,fun h=>HAF.out.2 (hlv.out.1 (by omega))⟩)
          clear g0 g1 g2 q1
          go_upto_region 17 with fail
          obtain ⟨w60,hw60⟩:∃ W,W=w52:=⟨_,rfl⟩
          rw [<-hw60] at q0 q2 hr1 hr2 hbx ⊢;clear hw60
          refine wp_region_held_drew (S:=fun w'=>w'.cell? ⟨wj.heap.size,0,none⟩=some (.int .i64 fn)/\w'.cell? ⟨wj.heap.size,2,none⟩=some (.int .i64 tn)) (by kernel_rfl) ⟨cellS (Below.refl _ _).drew q0,cellS (Below.refl _ _).drew q2⟩ (fun hHeld=>?_)
          obtain ⟨w61,hw⟩:∃ W,W=World.drew w60:=⟨_,rfl⟩
          have kb:Below w60.heap.size w60 w61:=by rw [hw]; exact (Below.refl _ _).drew
          rw [<-hw] at hHeld ⊢;clear hw;replace hr1:=zaa hr1 kb;replace hr2:=zaa hr2 kb;replace q0:=cellS kb q0;replace q2:=cellS kb q2;replace hbx:=onS hbx kb;clear kb
          refine tkq 0 (h:=tkq 1 (h:=tkq 2 (h:=tkq 3 (h:=tkq 4 (h:=tkq 5 (h:=tkq 6 (h:=?_)))))))
          refine rdq 7 (h:=fun K hK=>?_)
          have hlx:=hr1.lt
          have u0:=hr1.cell (i:=fn) hfl
          have z0:=hr1.frozen fn
          skip
          go_simp
          replace q0:=zaM (p:=⟨b1,fn,none⟩) (u:=.bool true) q0 (by show wj.heap.size≠b1; omega)
          replace q2:=zaM (p:=⟨b1,fn,none⟩) (u:=.bool true) q2 (by show wj.heap.size≠b1; omega)
          replace hbx:=hbx.setCell (p:=⟨b1,fn,none⟩) hz1 (.bool true)
          replace hr2:=hr2.setOther (a:=⟨b1,fn,none⟩) (by simpa using hne') (.bool true)
          replace hr1:=hr1.set fn (.bool true)
          obtain ⟨w62,hw⟩:∃ W,W=World.setCell w61 ⟨b1,fn,none⟩ (.bool true):=⟨_,rfl⟩
          rw [<-hw] at q0 q2 hbx hr1 hr2 ⊢;clear hw u0 z0 hlx
          refine bkq hK ⟨q0,q2⟩ (h:=fun hHeld=>?_)
          clear hK K
          refine tkq 8 (h:=?_)
          refine rdq 9 (h:=fun K hK=>?_)
          have hlx:=hr2.lt
          have u0:=hr2.cell (i:=tn) htl
          have z0:=hr2.frozen tn
          skip
          go_simp
          replace q0:=zaM (p:=⟨b2,tn,none⟩) (u:=.bool true) q0 (by show wj.heap.size≠b2; omega)
          replace q2:=zaM (p:=⟨b2,tn,none⟩) (u:=.bool true) q2 (by show wj.heap.size≠b2; omega)
          replace hbx:=hbx.setCell (p:=⟨b2,tn,none⟩) hz2 (.bool true)
          replace hr1:=hr1.setOther (a:=⟨b2,tn,none⟩) (by simpa using hne) (.bool true)
          replace hr2:=hr2.set tn (.bool true)
          obtain ⟨w63,hw⟩:∃ W,W=World.setCell w62 ⟨b2,tn,none⟩ (.bool true):=⟨_,rfl⟩
          rw [<-hw] at q0 q2 hbx hr1 hr2 ⊢;clear hw u0 z0 hlx
          refine bkq hK ⟨q0,q2⟩ (h:=fun hHeld=>?_)
          clear hK K
          refine wpAnyH_done (by kernel_rfl) ?_ _
          clear hHeld
          have hs1:=hr1.congr (g:=fun v=>.bool (hitB (T.fr k) (jp+1+1) (v:Nat))) (HC1.out)
          have hs2:=hr2.congr (g:=fun v=>.bool (hitB (T.to k) (jp+1+1) (v:Nat))) (HC2.out)
          have HS1:=hid hs1
          have HS2:=hid hs2
          have HBX:=hid hbx
          clear hs1 hs2 hr1 hr2 hbx
          go_wp2
          go_roundg (gk - 1)
          case measure=>omega
          case rel=>exact ⟨jp+1+1,by go_num,by omega,by omega,HOKS.out hok.out,HS1.out,HS2.out,HBX.out⟩
       ·have hltj':¬ (j:Int)<(T.el k:Int):=by omega
        have hje:j=T.el k:=by omega
        have HALL3:Hid (∀ i,i<T.el k->T.edgeOk k i):=by rw [<-hje]; exact HALL2
        rw [hje] at hr1 hr2;clear HR1 HR2 HALL2
        go_wp2_with fail
        refine (zcW _ n1 n1 (fun v=>hitB (T.fr k) (T.el k) (v:Nat)) false wj (zbk hr1) (by omega)).mono ?_
        rintro e w2 ⟨⟨r1,rfl,hc1⟩,kb⟩
        replace hW:=onS hW kb;replace hr2:=zaa hr2 kb
        have hb2x:=onS HBj.out kb
        clear kb hr1
        cases r1
        ·have HA1:Hid (∀ i,i<n1->hitB (T.fr k) (T.el k) (i:Nat)=true):=fun i hi=>by
          cases hv:hitB (T.fr k) (T.el k) (i:Nat)
          ·exact absurd (hc1.2 ⟨i,hi,hv⟩) (by simp)
          ·rfl
         clear hc1
         go_wp2_with fail
         refine (zcW _ n2 n2 (fun v=>hitB (T.to k) (T.el k) (v:Nat)) false w2 (zbk hr2) (by omega)).mono ?_
         rintro e w3 ⟨⟨r2,rfl,hc2⟩,kb⟩
         replace hW:=onS hW kb;replace hb2x:=onS hb2x kb;clear kb hr2
         cases r2
         ·have HN:Hid (∀ i,i<k+1->T.secOk i):=fun i hi=>by
           by_cases e:i=k
           ·subst e
            refine ⟨HALL3.out,fun v hv=>HA1.out v (by have:=HN1.out; omega),fun v hv=>?_⟩
            cases hv2:hitB (T.to i) (T.el i) (v:Nat)
            ·exact absurd (hc2.2 ⟨v,by have:=HN2.out; omega,hv2⟩) (by simp)
            ·rfl
           ·exact HALL.out i (by omega)
          have HFIN:=hid (zaI HB.out hb2x)
          clear hc2
          go_wp2
          go_roundg (gK - 1)
          case measure=>omega
          case rel=>exact ⟨k+1,by go_num,by omega,by omega,HN.out,HFIN.out⟩
         ·have hE:=hid (HBAD.out fun hs=>by
           obtain ⟨i,hi,e⟩:=hc2.1 rfl
           have:=hs.2.2 i (by have:=HN2.out; omega)
           rw [e] at this
           cases this)
          clear hc2
          go_wp2
          go_ret
          exact ⟨zah hE.out.symm,hW⟩
        ·have hE:=hid (HBAD.out fun hs=>by
          obtain ⟨i,hi,e⟩:=hc1.1 rfl
          have:=hs.2.1 i (by have:=HN1.out; omega)
          rw [e] at this
          cases this)
         clear hc1
         go_wp2
         go_ret
         exact ⟨zah hE.out.symm,hW⟩
     ·have hlt':¬ (k:Int)<(T.n:Int):=by omega
      have hE:=hid (T.properE_ok HS0.out HW0.out HWN.out fun i hi=>HALL.out i (by omega))
      go_wp2
      go_ret
      exact ⟨zah hE.out.symm,hW⟩
   ·have c1:(u1 != 1)=true:=by simp [h1]
    have hE:=hid (T.properE_end HS0.out (.inr (by rw [<-HU1.out]; exact h1)))
    go_wp2
    go_ret
    exact ⟨zah hE.out.symm,hW⟩
  ·have c0:(u0 != 1)=true:=by simp [h0]
   have hE:=hid (T.properE_end HS0.out (.inl (by rw [<-HU0.out]; exact h0)))
   go_wp2
   go_ret
   exact ⟨zah hE.out.symm,hW⟩
 ·have hE:=hid (Trel.properE_shape hs)
  have hn:(T.shapeE != 0)=true:=by simpa using hs
  obtain ⟨x,hx⟩:∃ x,x=T.shapeE:=⟨_,rfl⟩
  rw [<-hx] at hE hn ⊢;clear hs hx
  go_wp2
  go_ret
  exact ⟨zah hE.out.symm,hW⟩
theorem zgX (n:Nat) (h:n<4294967296):bits .and .u64 (n:Int) 4294967295=(n:Int):=by
 have h1:(BitVec.ofInt 64 4294967295).toNat=2 ^ 32 - 1:=by decide
 have key:(BitVec.ofInt 64 (n:Int) &&& BitVec.ofInt 64 4294967295).toNat=((n:Int) % ((2 ^ 64:Nat):Int)).toNat % 2 ^ 32:=by
  rw [BitVec.toNat_and,BitVec.toNat_ofInt,h1,Nat.and_two_pow_sub_one_eq_mod]
 show IntKind.u64.wrap ((BitVec.ofInt 64 (n:Int) &&& BitVec.ofInt 64 4294967295).toNat:Nat)=(n:Int)
 rw [key,IntKind.wrap_u64]
 omega
theorem zhP (n:Nat) (h:n<4294967296) (w:World):Calls Tryz.prog 247 #[.int .u64 1,.int .u64 (n:Nat)] w fun e w'=>e=.returned (.tuple #[.int .u64 0,.int .u64 (n:Nat)])/\w'=w:=by
 have h1:bits .and .u64 1 4294967295=1:=zgX 1 (by omega)
 have h0:bits .and .u64 0 4294967295=0:=zgX 0 (by omega)
 have hn:=zgX n h
 have hd:(n:Int) / 4294967296=0:=by omega
 have hw:IntKind.u64.wrap (n:Int)=(n:Int):=IntWalk.u64_in _ (by omega)
 go_enter Tryz.func247, Tryz.ntmps247
 go_wp2
 go_ret2
 exact ⟨rfl,rfl⟩
theorem zik (n:Nat) (h:n<4294967296) (w:World):Calls Tryz.prog 206 #[.int .u64 1,.int .u64 (n:Nat)] w fun e w'=>e=.returned (.tuple #[.int .u64 0,.int .u64 (n:Nat)])/\w'=w:=by
 have hw:IntKind.u64.wrap (n:Int)=(n:Int):=IntWalk.u64_in _ (by omega)
 go_enter Tryz.func206, Tryz.ntmps206
 go_wp2_with fail
 refine (zhP n h w).mono ?_
 rintro e w1 ⟨rfl,rfl⟩
 go_wp2
 go_ret2
 exact ⟨rfl,rfl⟩
def filled (U Z:Value) (k n:Nat):List Value:=List.replicate k U ++ List.replicate (n - k) Z
theorem zbd (U Z:Value) {k n:Nat} (h:k<=n):(filled U Z k n).length=n:=by simp [filled]; omega
theorem zb5 {U Z:Value} {k n j:Nat} (hj:j<k):(filled U Z k n)[j]?=some U:=by
 unfold filled
 rw [List.getElem?_append_left (by simpa using hj)]
 simp [hj]
theorem zbe (U Z:Value) (k m n:Nat):splice (filled U Z k n) k (List.replicate m U)=filled U Z (k+m) n:=by
 unfold splice filled
 rw [List.take_append_of_le_length (by simp),List.take_of_length_le (by simp),List.length_replicate,List.drop_append,List.drop_of_length_le (by simp),List.nil_append,List.length_replicate,List.drop_replicate,show k+m - k=m by omega,show n - k - m=n - (k+m) by omega,<-List.append_assoc,List.replicate_append_replicate]
theorem zbz (U Z:Value) (n:Nat):(madeCells #[Z] n).toList=filled U Z 0 n:=by
 apply List.ext_getElem?
 intro i
 simp only [filled,List.replicate_zero,List.nil_append,Nat.sub_zero,List.getElem?_replicate,Array.getElem?_toList]
 by_cases h:i<n
 ·rw [if_pos h]
  simp [madeCells,h]
  have:i % 1=0:=Nat.mod_one i
  simp [this]
 ·rw [if_neg h]
  simp [madeCells]
  omega
theorem zgY (b:Nat) (U:Value) (n c:Nat) (w:World) (hcell:w.cell? ⟨b,0,none⟩=some U) (hU:U.oneCell'=true) (h1:1<=n) (hn:n<=1048576) :
  Calls Tryz.prog 182 #[.slice (some ⟨b,0,none⟩) 1 c,.int .i64 (n:Nat)] w fun e w' =>
   ∃ g,e=.returned (.slice (some ⟨g,0,none⟩) n n)/\w.heap.size<=g/\w'.rowIs g 47 n (fun _=>U)/\Below w.heap.size w w':=by
 have hn0:¬ (n:Int)<0:=by omega
 have hwn:IntKind.u64.wrap (n:Int)=(n:Int):=IntWalk.u64_in _ (by omega)
 have hwi:IntKind.i64.wrap (n:Int)=(n:Int):=IntWalk.i64_in _ (by omega)
 go_enter Tryz.func182, Tryz.ntmps182
 go_wp2_with fail
 refine (zik n (by omega) w).mono ?_
 rintro e w1 ⟨rfl,rfl⟩
 have hng:¬ (n:Int) > 9223372036854775807:=by omega
 have hng2:decide ((n:Int) > 9223372036854775807)=false:=by simp; omega
 have hng3:decide (9223372036854775807<(n:Int))=false:=by simp; omega
 have hmk:=fun W=>zaf (P:=Tryz.prog) 107 47 _ 24 Tryz.underlying107 Tryz.infoNat rfl (n:Int) (by omega) (by omega) (by omega) W
 simp only [Int.toNat_natCast] at hmk
 go_upto_region 7 with fail
 obtain ⟨i0,hi0⟩:∃ i,Tryz.prog.info? 47 = some i:=by cases h:Tryz.prog.info? 47 with | none=>have:=Tryz.infoNat; simp [h] at this | some i=>exact ⟨i,rfl⟩
 have hsz:(Tryz.prog.info? 47).map (·.size)=some 1:=by
  have:=Tryz.infoNat
  rw [hi0] at this ⊢
  simp only [Option.map_some,Option.some.injEq,Prod.mk.injEq] at this ⊢
  exact this.2.1
 have hm0:(w1.alloc (Obj.cells (madeCells #[Value.slice none 0 0] n) 47)).heap[w1.heap.size]?=some (.cells (filled U (.slice none 0 0) 0 n).toArray 47 (0,0)):=by
  rw [<-zbz,Array.toArray_toList]
  exact heap_alloc_new _ _
 have hb0:Below w1.heap.size w1 (w1.alloc (Obj.cells (madeCells #[Value.slice none 0 0] n) 47)):=(Below.refl _ _).alloc (Nat.le_refl _) _
 have hc0:=cellS hb0 hcell
 obtain ⟨wm,hwm⟩:∃ W,W=w1.alloc (Obj.cells (madeCells #[Value.slice none 0 0] n) 47):=⟨_,rfl⟩
 rw [<-hwm] at hm0 hb0 hc0 ⊢
 obtain ⟨g,hg⟩:∃ g,g=w1.heap.size:=⟨_,rfl⟩
 have hgle:w1.heap.size<=g:=by omega
 rw [<-hg] at hm0 ⊢
 have HC0:=hid hc0
 clear hwm hmk hc0 hg hcell
 have HSRC:Hid (∀ j v,(List.replicate 1 U)[j]?=some v->wm.cell? ((⟨b,0,none⟩:Addr).add j)=some v):=fun j v hv=>by
  have hj:j=0:=by
   have:=(List.getElem?_eq_some_iff.1 hv).1
   simp at this; omega
  subst hj
  have:U=v:=by simpa using hv
  rw [<-this]
  exact HC0.out
 have HONE:Hid (∀ m,∀ v ∈ List.replicate m U,v.oneCell'=true):=fun m v hv=>by rw [List.eq_of_mem_replicate hv]; exact hU
 have HFIT:Hid (0+(List.replicate 1 U).length<=(filled U (.slice none 0 0) 0 n).length):=by
  show _<=_
  rw [zbd _ _ (by omega)]; simp; omega
 have HLEN:Hid ((List.replicate 1 U).length=Nat.min 1 n):=by show 1=min 1 n; omega
 go_wp2_with (first | (refine wpList_copy_splice (cur:=filled U (.slice none 0 0) 0 n) (cs:=List.replicate 1 U) (B:=w1.heap.size) (w0:=w1) rfl (.tmp 31) (.tmp 32) 107 107 rfl 47 Tryz.underlying107 hsz (some ⟨g,0,none⟩) (some ⟨b,0,none⟩) n n 1 c rfl rfl g 0 47 hm0 HLEN.out (fun _=>⟨rfl,_,rfl,HSRC.out⟩) HFIT.out (HONE.out 1) hb0 hgle ?_; intro w2 hm2 hb2))
 have HM2:Hid (w2.heap[g]?=some (.cells (filled U (.slice none 0 0) 1 n).toArray 47 (0,0))):=by
  have:=hm2.out
  rwa [zbe] at this
 clear hm0 hb0 hm2 hU HLEN HFIT HSRC
 go_wp2
 go_loopg [8] n (fun gg iv wx=>∃ k:Nat,iv=.int .i64 (k:Nat)/\1<=k/\k<=n/\n<=k+gg/\Hid (wx.heap[g]?=some (.cells (filled U (.slice none 0 0) k n).toArray 47 (0,0)))/\Below w1.heap.size w1 wx)
 case atStart=>exact ⟨1,rfl,by omega,by omega,by omega,HM2,hb2⟩
 case round =>
  clear HM2 hb2
  obtain ⟨k,rfl,hk1,hk,hkg,HM,hb⟩:=hrel
  have hk0:(0:Int)<=(k:Int):=by omega
  by_cases hlt:k<n
  ·have hlt':(k:Int)<(n:Int):=by omega
   obtain ⟨m,hm⟩:∃ m,m=min k (n - k):=⟨_,rfl⟩
   have hm1:1<=m:=by omega
   have hmk:m<=k:=by omega
   have hkm:k+m<=n:=by omega
   have hle1:(k:Int)<=(n:Int):=by omega
   have hkn:k≠n:=by omega
   have hnk:¬ n=k:=by omega
   have HSRC:Hid (∀ j v,(List.replicate m U)[j]?=some v->(World.drew wr).cell? ((⟨g,0,none⟩:Addr).add j)=some v):=fun j v hv=>by
    have hj:j<m:=by
     have:=(List.getElem?_eq_some_iff.1 hv).1
     simpa using this
    have hv':U=v:=by
     rw [List.getElem?_replicate,if_pos hj] at hv
     simpa using hv
    rw [zbj,Nat.zero_add,<-hv']
    show wr.cell? ⟨g,j,none⟩=some U
    rw [cell_of_row wr g j _ _ _ HM.out,List.getElem?_toArray,zb5 (by omega)]
   have HFIT:Hid (k+(List.replicate m U).length<=(filled U (.slice none 0 0) k n).length):=by
    show _<=_
    rw [zbd _ _ hk]; simp; omega
   have HLEN:Hid ((List.replicate m U).length=Nat.min k (n - k)):=by show _=_; rw [List.length_replicate]; exact hm
   clear hm
   have hwkm:IntKind.i64.wrap ((k:Int)+(m:Int))=(k:Int)+(m:Int):=IntWalk.i64_in _ (by omega)
   go_upto_region 9 with fail
   refine wp_region_held_drew (S:=fun w'=>Below w1.heap.size w1 w') (by kernel_rfl) hb.drew (fun hHeld=>?_)
   refine tkq 0 (h:=tkq 1 (h:=tkq 2 (h:=tkq 3 (h:=tkq 4 (h:=tkq 5 (h:=tkq 6 (h:=?_)))))))
   refine rdq 7 (h:=fun K hK=>?_)
   refine step_copy_splice (cur:=filled U (.slice none 0 0) k n) (cs:=List.replicate m U) (B:=w1.heap.size) (w0:=w1) (by rfl) (.tmp 41) (.tmp 44) 107 107 (by rfl) 47 Tryz.underlying107 hsz (some ⟨g,k,none⟩) (some ⟨g,0,none⟩) (n - k) (n - k) k n (by rfl) (by rfl) g k 47 HM.out HLEN.out (fun _=>⟨rfl,_,rfl,HSRC.out⟩) HFIT.out (HONE.out m) hb.drew hgle ?_
   intro w3 hm3 hb3
   refine bkq hK hb3 (h:=fun hHeld=>?_)
   clear hK K
   refine tkq 8 (h:=tkq 9 (h:=?_))
   refine wpAnyH_done (by kernel_rfl) ?_ _
   clear hHeld
   have HM3:Hid (w3.heap[g]?=some (.cells (filled U (.slice none 0 0) (k+m) n).toArray 47 (0,0))):=by
    have:=hm3.out
    rwa [zbe] at this
   clear hm3
   go_wp2
   go_roundg (gk - 1)
   case measure=>omega
   case rel=>exact ⟨k+m,by go_num,by omega,by omega,by omega,HM3,hb3⟩
  ·obtain rfl:k=n:=by omega
   have hfin:wr.rowIs g 47 k (fun _=>U):=⟨_,HM.out,by simp [filled],fun i hi=>by
    rw [List.getElem?_toArray,zb5 hi]⟩
   go_wp2
   go_ret
   exact ⟨g,rfl,hgle,hfin,hb⟩
theorem zdN {w:World} {b n:Nat} {t:TypeId} {f:Nat->Value} (h:w.rowIs b t n f) (hf:∀ i,i<n->∀ u,f i≠.int .u32 u):NoInt w b:=fun j u hj=>by
 obtain ⟨cur,hg,hsz,hc⟩:=h
 rw [cell_of_row w b j cur t (0,0) hg] at hj
 have hlt:j<n:=by
  have:=(Array.getElem?_eq_some_iff.1 hj).1
  omega
 have:=hc j hlt
 rw [hj] at this
 injection this with this
 exact hf j hlt u this.symm
theorem zeV {w:World} {B n b i:Nat} {A:Option Addr} {f:Nat->Nat} (h:Lims w B A n f) (hni:NoInt w b) (u:Value):Lims (w.setCell ⟨b,i,none⟩ u) B A n f:=fun k hk=>by
 obtain ⟨b',o',e,h1,h2⟩:=h k hk
 refine ⟨b',o',e,h1,fun j hj=>?_⟩
 have hc:=h2 j hj
 exact zab hc fun e=>hni _ _ (by rw [<-show b'=b from e]; exact hc)
theorem zaN {w:World} {b i x:Nat} {A:Option Addr} (h:NatOk w w.heap.size A x) (hni:NoInt w b) (u:Value):NatOk (w.setCell ⟨b,i,none⟩ u) (w.setCell ⟨b,i,none⟩ u).heap.size A x:=by
 have:=zeV (i:=i) h hni u
 simpa [NatOk] using this
theorem zbf {w:World} {b i b':Nat} {u:Value} (h:NoInt w b) (hu:∀ n,u≠.int .u32 n):NoInt (w.setCell ⟨b',i,none⟩ u) b:=fun j n hj=>by
 by_cases e:(⟨b,j,none⟩:Addr)=⟨b',i,none⟩
 ·injection e with e1 e2
  subst e1 e2
  cases hc:w.cell? ⟨b,j,none⟩ with
  | none =>
   have:(w.setCell ⟨b,j,none⟩ u).cell? ⟨b,j,none⟩=none:=by
    revert hc
    unfold World.cell? World.setCell
    intro hc
    simp only [Option.isSome_none,Bool.false_eq_true,if_false] at hc ⊢
    split at hc
    ·rename_i c e fr hb
     have hb:w.heap[b]?=some (.cells c e fr):=hb
     have hb2:(w.heap.modify b fun
       | .cells c e fr=>.cells (c.setIfInBounds j u) e fr
       | o=>o)[b]?=some (.cells (c.setIfInBounds j u) e fr):=by
      rw [Array.getElem?_modify]; simp [hb]
     simp only [Array.getElem?_eq_none_iff] at hc
     simp [Array.getElem?_modify,hb]
     omega
    ·rename_i hne
     cases ho:w.heap[b]? with
     | none=>simp [Array.getElem?_modify,ho]
     | some o =>
      cases o with
      | cells c e fr=>exact absurd ho (hne _ _ _)
      | _=>simp [Array.getElem?_modify,ho]
   rw [this] at hj
   cases hj
  | some v =>
   rw [zcs hc] at hj
   injection hj with hj
   exact hu _ hj
 ·exact h j n (by rwa [World.cell?_setCell_other w ⟨b',i,none⟩ ⟨b,j,none⟩ u (fun h=>e h.symm)] at hj)
def upd2 (x:Nat->Nat->Nat) (v k y:Nat):Nat->Nat->Nat:=fun u j=>if u=v/\j=k then y else x u j
theorem zfn (x:Nat->Nat->Nat) (v k y:Nat):upd2 x v k y v k=y:=if_pos ⟨rfl,rfl⟩
theorem zeW {x:Nat->Nat->Nat} {v k y u j:Nat} (h:¬ (u=v/\j=k)):upd2 x v k y u j=x u j:=if_neg h
structure NumTab (w:World) (g base m:Nat) (F:Nat->Value) (n:Nat->Nat) (x:Nat->Nat->Nat):Prop where
 row:w.rowIs g 107 m F
 own:∀ v,v<m->NatOwn w base (F v) (n v) (x v)
 apart:∀ v u,v<m->u<m->v≠u->(F v).ownBlock=none∨(F v).ownBlock≠(F u).ownBlock
section
variable {w w':World} {g base m:Nat} {F:Nat->Value} {n n':Nat->Nat} {x x':Nat->Nat->Nat}
theorem NatOwn.congr {v:Value} {k:Nat} {y y':Nat->Nat} (h:NatOwn w base v k y) (e:∀ i,i<k->y i=y' i):NatOwn w base v k y':=by
 obtain ⟨f,h1,h2,h3⟩:=h
 exact ⟨f,h1,h2,fun i hi=>by rw [<-e i hi]; exact h3 i hi⟩
theorem NatOwn.lt {v:Value} {k:Nat} {y:Nat->Nat} (h:NatOwn w base v k y):∀ b,v.ownBlock=some b->base<=b/\b<w.heap.size:=by
 obtain ⟨f,h1,_⟩:=h
 exact h1.lt
theorem NatOwn.isSlice {v:Value} {k:Nat} {y:Nat->Nat} (h:NatOwn w base v k y):∃ A c,v=.slice A k c:=by
 obtain ⟨f,h1,_⟩:=h
 exact h1.shape
theorem NumTab.on (h:NumTab w g base m F n x) (hb:Below w.heap.size w w'):NumTab w' g base m F n x:=⟨rowIs_on_ h.row hb,fun v hv=>(h.own v hv).on hb,h.apart⟩
where rowIs_on_ {w w':World} {b:Nat} {t:TypeId} {n:Nat} {f:Nat->Value} (h:w.rowIs b t n f) (hb:Below w.heap.size w w'):w'.rowIs b t n f:=h.of_block (hb.block b h.lt)
theorem NumTab.congr (h:NumTab w g base m F n x) (e1:∀ v,v<m->n v=n' v) (e2:∀ v,v<m->∀ k,k<n v->x v k=x' v k):NumTab w g base m F n' x' :=
 ⟨h.row,fun v hv=>by rw [<-e1 v hv]; exact (h.own v hv).congr (e2 v hv),h.apart⟩
theorem NumTab.at (h:NumTab w g base m F n x) {v k:Nat} (hv:v<m) (hk:k<n v):∃ b o d A c,F v=.slice (some ⟨b,o,none⟩) (n v) d/\base<=b/\b<w.heap.size/\w.cell? ⟨b,o+k,none⟩=some (.slice A (dl (x v k)) c) /\
  dl (x v k)<=c/\c<=maxLen/\NatOk w w.heap.size A (x v k)/\w.frozen? ⟨b,o+k,none⟩=false/\NoInt w b:=by
 obtain ⟨f,h1,h2,h3⟩:=h.own v hv
 obtain ⟨b,o,d,e,hb,hl,_,_,hc⟩:=h1.form (by omega)
 obtain ⟨A,c,e0,n1,n2,n3⟩:=h3 k hk
 have hc0:=hc k hk 0 (by omega)
 rw [Nat.mul_one,Nat.add_zero,e0] at hc0
 refine ⟨b,o,d,A,c,e,hb,hl,hc0,n2,n3,n1,?_,h2 b (by rw [e]; rfl)⟩
 rw [e] at h1
 exact h1.frozen (o+k)
theorem NumTab.set (h:NumTab w g base m F n x) (hgb:g<base) {v k b o d:Nat} (hv:v<m) (hk:k<n v) (hF:F v=.slice (some ⟨b,o,none⟩) (n v) d) {A:Option Addr} {c y:Nat} (hy:NatOk w w.heap.size A y) (h1:dl y<=c) (h2:c<=maxLen) :
  NumTab (w.setCell ⟨b,o+k,none⟩ (.slice A (dl y) c)) g base m F n (upd2 x v k y):=by
 have hob:(F v).ownBlock=some b:=by rw [hF]; rfl
 have hbb:=(h.own v hv).lt b hob
 have hni:NoInt w b:=by
  obtain ⟨f,_,k2,_⟩:=h.own v hv
  exact k2 b hob
 have hnu:∀ u:Int,(Value.slice A (dl y) c)≠.int .u32 u:=fun u e=>by cases e
 refine ⟨h.row.setOther (by simp; omega) _,fun u hu=>?_,h.apart⟩
 by_cases e:u=v
 ·subst e
  obtain ⟨f,k1,k2,k3⟩:=h.own u hu
  rw [hF] at k1 ⊢
  have ks:=k1.set (a:=k) (b:=0) hk (by omega) (.slice A (dl y) c)
  rw [Nat.mul_one,Nat.add_zero] at ks
  refine ⟨_,ks,fun q hq=>?_,fun i hi=>?_⟩
  ·obtain rfl:b=q:=by simpa [Value.ownBlock] using hq
   exact zbf hni hnu
  ·by_cases ei:i=k
   ·subst ei
    exact ⟨A,c,by rw [zfn,if_pos ⟨rfl,rfl⟩],by rw [zfn]; exact zaN hy hni _,by rw [zfn]; exact h1,h2⟩
   ·obtain ⟨A',c',e0,n1,n2,n3⟩:=k3 i hi
    have eo:upd2 x u k y u i=x u i:=zeW fun hh=>ei hh.2
    exact ⟨A',c',by rw [eo,if_neg fun hh=>ei hh.1]; exact e0,by rw [eo]; exact zaN n1 hni _,by rw [eo]; exact n2,n3⟩
 ·obtain ⟨f,k1,k2,k3⟩:=h.own u hu
  have hne:(F u).ownBlock≠some b:=fun hh=>by
   rcases h.apart u v hu hv e with h0 | h0
   ·rw [h0] at hh; cases hh
   ·rw [hob] at h0; exact h0 hh
  refine ⟨f,k1.setCell hne _,fun q hq=>zbf (k2 q hq) hnu,fun i hi=>?_⟩
  obtain ⟨A',c',e0,n1,n2,n3⟩:=k3 i hi
  have eo:upd2 x v k y u i=x u i:=zeW fun hh=>e hh.1
  exact ⟨A',c',by rw [eo]; exact e0,by rw [eo]; exact zaN n1 hni _,by rw [eo]; exact n2,n3⟩
theorem zfR {row:Option Nat} {A:Option Addr} {y:Nat} (h:NatOk w w.heap.size A y) (hg:w.grownBy w' row) (hni:∀ q,row=some q->NoInt w q):NatOk w' w'.heap.size A y:=fun q hq=>by
 obtain ⟨b',o',e,h1,h2⟩:=zdd h (Nat.le_refl _) hg hni q hq
 exact ⟨b',o',e,Nat.lt_of_lt_of_le h1 hg.size,h2⟩
theorem NumTab.put (h:NumTab w g base m F n x) (hgb:g<base) {v:Nat} (hv:v<m) {v':Value} {k':Nat} {y:Nat->Nat} (hown:NatOwn w' base v' k' y) (hg:w.grownBy w' (F v).ownBlock) (hat:v'.ownBlock=(F v).ownBlock∨v'.ownBlock=some w.heap.size) :
  NumTab (w'.setCell ⟨g,v,none⟩ v') g base m (fun u=>if u=v then v' else F u) (fun u=>if u=v then k' else n u) (fun u=>if u=v then y else x u):=by
 obtain ⟨fv,f1,f2,f3⟩:=h.own v hv
 have hlt:∀ u,u<m->∀ k,(F u).ownBlock=some k->base<=k/\k<w.heap.size:=fun u hu=>(h.own u hu).lt
 have hgw:g<w.heap.size:=h.row.lt
 have hgr:w'.rowIs g 107 m F:=h.row.of_block (hg.block g hgw (fun e=>by have:=(hlt v hv g e.symm).1; omega))
 have hnig:NoInt w' g:=zdN hgr fun i hi u e=>by
  obtain ⟨A,c,hs⟩:=(h.own i hi).isSlice
  rw [hs] at e
  cases e
 have hnr:∀ q,(F v).ownBlock=some q->NoInt w q:=f2
 have hsl:∃ A c,v'=.slice A k' c:=hown.isSlice
 have hnu:∀ u:Int,v'≠.int .u32 u:=fun u e=>by
  obtain ⟨A,c,hs⟩:=hsl
  rw [hs] at e
  cases e
 refine ⟨?_,fun u hu=>?_,fun a b ha hb hab=>?_⟩
 ·exact (hgr.set v v').congr fun u _=>by split <;> rfl
 ·by_cases e:u=v
  ·subst e
   simp only [if_true]
   obtain ⟨f',k1,k2,k3⟩:=hown
   refine ⟨f',k1.setCell (fun e=>by have:=(k1.lt _ e).1; simp at this; omega) _,fun q hq=>zbf (k2 q hq) hnu,fun i hi=>?_⟩
   obtain ⟨A,c,e0,n1,n2,n3⟩:=k3 i hi
   exact ⟨A,c,e0,zaN n1 hnig _,n2,n3⟩
  ·simp only [if_neg e]
   obtain ⟨f',k1,k2,k3⟩:=h.own u hu
   have hk:=k1.kept hg (h.apart u v hu hv e)
   refine ⟨f',hk.setCell (fun e=>by have:=(hk.lt _ e).1; simp at this; omega) _,fun q hq=>zbf (fun j z hz=>?_) hnu,fun i hi=>?_⟩
   ·have hq2:=(k1.lt q hq).2
    have hb2:=hg.block q hq2 (fun e2=>by
     rcases h.apart u v hu hv e with h0 | h0
     ·rw [h0] at hq; cases hq
     ·exact h0 (hq.trans e2))
    refine k2 q hq j z ?_
    rw [<-hz]
    simp only [World.cell?,hb2]
   ·obtain ⟨A,c,e0,n1,n2,n3⟩:=k3 i hi
    exact ⟨A,c,e0,zaN (zfR n1 hg hnr) hnig _,n2,n3⟩
 ·by_cases ea:a=v
  ·have eb:¬ b=v:=fun e=>hab (by rw [ea,e])
   simp only [if_pos ea,if_neg eb]
   subst ea
   rcases hat with h1 | h1
   ·rw [h1]; exact h.apart a b ha hb hab
   ·right
    rw [h1]
    intro e2
    have:=(hlt b hb _ e2.symm).2
    omega
  ·simp only [if_neg ea]
   by_cases eb:b=v
   ·simp only [if_pos eb]
    subst eb
    rcases hat with h1 | h1
    ·rw [h1]; exact h.apart a b ha hb hab
    ·rw [h1]
     cases hfa:(F a).ownBlock with
     | none=>exact .inl rfl
     | some k =>
      right
      intro e2
      injection e2 with e2
      have:=(hlt a ha k hfa).2
      omega
   ·simp only [if_neg eb]; exact h.apart a b ha hb hab
end
theorem zc3 (w:World) (ty:TypeId) (base:Nat) (v:Value) (k:Nat) (x:Nat->Nat) (h:NatOwn w base v k x) (hbase:base<=w.heap.size) (hk:k<=1048576)
  (b c:Nat) (A:Option Addr) (d:Nat) (c0:w.cell? ⟨b,0,none⟩=some (.slice A (dl (x k)) d)) (m1:NatOk w w.heap.size A (x k)) (m3:dl (x k)<=d) (m4:d<=maxLen) :
  ∃ v' w',(Builtin.append_ #[107, 107] ty #[v,.slice (some ⟨b,0,none⟩) 1 c]).run Tryz.prog w=.ok v' w'/\NatOwn w' base v' (k+1) x/\w.grownBy w' v.ownBlock/\(v'.ownBlock=v.ownBlock∨v'.ownBlock=some w.heap.size):=by
 obtain ⟨v',w',hrun,h2,h3,_⟩:=zdC w ty base v k x h hbase hk b c A d (x k) rfl c0 m1 m3 m4
 refine ⟨v',w',hrun,h2,h3,?_⟩
 obtain ⟨f,hown,hni,hf⟩:=h
 obtain ⟨i,hi,hzz⟩:=Option.map_eq_some_iff.1 Tryz.infoNat
 simp only [Prod.mk.injEq] at hzz
 obtain ⟨hz,hs,hb⟩:=hzz
 let f':Nat->Nat->Value:=fun i j=>if i<k then (if j<1 then f i 0 else undef) else .slice A (dl (x k)) d
 have hown':Own w base 47 1 v k f':=hown.congr fun i hi j hj=>by
  obtain rfl:j=0:=by omega
  simp [f',hi]
 have hnews:∀ j,j<1->w.cell? ((⟨b,0,none⟩:Addr).add j)=some (f' k j):=fun j hj=>by
  obtain rfl:j=0:=by omega
  have:(⟨b,0,none⟩:Addr).add 0=⟨b,0,none⟩:=by unfold Addr.add; split <;> simp_all
  rw [this]
  simpa [f'] using c0
 have h1:∀ j,j<1->(f' k j).oneCell'=true:=fun j hj=>by simp [f']; rfl
 obtain ⟨v1,w1,e1,_,_,a1,_⟩:=zaZ (P:=Tryz.prog) w base 107 ty 47 i _ 1 24 Tryz.underlying107 hi hz hs hb rfl (by omega) v k f' hown' ⟨b,0,none⟩ c hnews h1 (by unfold maxLen; omega) (by omega) hbase
 rw [hrun] at e1
 injection e1 with e1 e2
 subst e1
 exact a1
theorem za8 {ops:Array Oper} {o:Oper} {a:Act} {w:World} {K:Act->World->Prop} {Q:Exit->Act->World->Prop} {E:Prop} (hgd:o.guard=none) (sl y:Operand)
  (ho:o.op=.call { callee:=.builtin .append,args:=#[sl,y],argTypes:=#[107, 107] })
  (base:Nat) (v:Value) (k:Nat) (x:Nat->Nat) (hv:a.eval sl=v) (h:NatOwn w base v k x) (hbase:base<=w.heap.size) (hk:k<=1048576)
  (b c:Nat) (hy:a.eval y=.slice (some ⟨b,0,none⟩) 1 c) (A:Option Addr) (d:Nat) (c0:w.cell? ⟨b,0,none⟩=some (.slice A (dl (x k)) d)) (m1:NatOk w w.heap.size A (x k)) (m3:dl (x k)<=d) (m4:d<=maxLen)
  (hK:∀ v' w',NatOwn w' base v' (k+1) x->w.grownBy w' v.ownBlock->(v'.ownBlock=v.ownBlock∨v'.ownBlock=some w.heap.size)->K (a.put o.dst v') w') :
  if Region.wanted o (yielded ops a.tmps)=true then Oper.wp Tryz.prog o a w K Q else E:=by
 have hw:Region.wanted o (yielded ops a.tmps)=true:=by simp [Region.wanted,hgd]
 rw [if_pos hw]
 obtain ⟨v',w',hrun,h2,h3,h4⟩:=zc3 w o.type base v k x h hbase hk b c A d c0 m1 m3 m4
 unfold Oper.wp execOp
 simp only [ho,resolve,invoke,builtin,Sem.run_bind,Sem.run_pure,Result.andThen_ok,List.map_toArray,List.map_cons,List.map_nil,hv,hy,hrun]
 exact hK v' w' h2 h3 h4
theorem ziY (w:World):Calls Tryz.prog 286 #[.agg #[]] w (NatPost 1 w):=by
 go_enter Tryz.func286, Tryz.ntmps286
 go_wp2_with fail
 refine (zcw 1 _ (by omega)).mono ?_
 rintro e w1 ⟨A,c,rfl,h1,h2,h3,h4⟩
 have hB:=onS ((Below.refl _ _).alloc (Nat.le_refl _) _) h4
 clear h4
 go_wp2
 go_ret
 exact ⟨A,c,rfl,h1,h2,h3,hB⟩
theorem zfo (w:World):Calls Tryz.prog 287 #[.agg #[]] w (NatPost 0 w):=by
 go_enter Tryz.func287, Tryz.ntmps287
 go_wp2_with fail
 refine (zcw 0 _ (by omega)).mono ?_
 rintro e w1 ⟨A,c,rfl,h1,h2,h3,h4⟩
 have hB:=onS ((Below.refl _ _).alloc (Nat.le_refl _) _) h4
 clear h4
 go_wp2
 go_ret
 exact ⟨A,c,rfl,h1,h2,h3,hB⟩
theorem zen {w:World} {A A2:Option Addr} {c c2 x y:Nat} {T:TypeId} (h:NatOk w w.heap.size A x) (h2:NatOk w w.heap.size A2 y) (hc:dl x<=c) (hm:c<=maxLen) (hc2:dl y<=c2) (hm2:c2<=maxLen) :
  NatTab (w.alloc (Obj.cells #[Value.slice A (dl x) c,Value.slice A2 (dl y) c2] T)) (w.alloc (Obj.cells #[Value.slice A (dl x) c,Value.slice A2 (dl y) c2] T)).heap.size (some ⟨w.heap.size,0,none⟩) 2 (fun i=>if i=0 then x else y):=fun i hi=>by
 have hb:Below w.heap.size w (w.alloc (Obj.cells #[Value.slice A (dl x) c,Value.slice A2 (dl y) c2] T)):=(Below.refl _ _).alloc (Nat.le_refl _) _
 match i,hi with
 | 0,_=>exact ⟨w.heap.size,0,A,c,rfl,by simp,by simp,hc,hm,h.on hb⟩
 | 1,_=>exact ⟨w.heap.size,0,A2,c2,rfl,by simp,by simp,hc2,hm2,h2.on hb⟩
theorem zgZ (A A2:Option Addr) (c c2 x y:Nat) (w:World) (h:NatOk w w.heap.size A x) (h2:NatOk w w.heap.size A2 y) (hc:dl x<=c) (hm:c<=maxLen) (hc2:dl y<=c2) (hm2:c2<=maxLen) (hs:dl x<=1048576) (hs2:dl y<=1048576) (hs3:dl (x+y)<=1048577) :
  Calls Tryz.prog 284 #[.agg #[],.slice A (dl x) c,.slice A2 (dl y) c2] w (NatPost (x+y) w):=by
 have hb1:Below w.heap.size w (w.alloc (Obj.cells #[] 201)):=(Below.refl _ _).alloc (Nat.le_refl _) _
 have hT:=zen (T := 47) (h.on hb1) (h2.on hb1) hc hm hc2 hm2
 have hb2:=onS hb1 ((Below.refl _ _).alloc (Nat.le_refl _) (Obj.cells #[Value.slice A (dl x) c,Value.slice A2 (dl y) c2] 47))
 go_enter Tryz.func284, Tryz.ntmps284
 go_wp2_with fail
 obtain ⟨X,hX⟩:∃ X,X=w.alloc (Obj.cells #[] 201):=⟨_,rfl⟩
 have hsz:X.heap.size=w.heap.size+1:=by rw [hX]; simp
 rw [<-hX] at hT hb2 ⊢;rw [<-hsz];clear hX hsz hb1
 refine (zf5 _ 2 2 (fun i=>if i=0 then x else y) _ hT (by omega) (fun k hk=>?_) (fun k hk=>?_)).mono ?_
 ·match k,hk with
  | 0,_=>simp [sumN,zaT]
  | 1,_=>simp [sumN]; omega
  | 2,_=>simp [sumN]; omega
 ·match k,hk with
  | 0,_=>simp; omega
  | 1,_=>simp; omega
 rintro e w1 ⟨B,d,rfl,k1,k2,k3,k4⟩
 have hB:=onS hb2 k4
 have hsum:sumN (fun i=>if i=0 then x else y) 2=x+y:=by simp [sumN]
 rw [hsum] at k1 k3 ⊢;clear k4 hsum hT hb2
 go_wp2
 go_ret
 exact ⟨B,d,rfl,k1,k2,k3,hB⟩
theorem zg0 (A A2:Option Addr) (c c2 x y:Nat) (w:World) (h:NatOk w w.heap.size A x) (h2:NatOk w w.heap.size A2 y) (hc:dl x<=c) (hm:c<=maxLen) (hc2:dl y<=c2) (hm2:c2<=maxLen) (hs:dl x<=1048576) (hs2:dl y<=1048576) (hs3:dl (x*y)<=2097152) :
  Calls Tryz.prog 285 #[.agg #[],.slice A (dl x) c,.slice A2 (dl y) c2] w (NatPost (x*y) w):=by
 have hb1:Below w.heap.size w (w.alloc (Obj.cells #[] 201)):=(Below.refl _ _).alloc (Nat.le_refl _) _
 have hT:=zen (T := 47) (h.on hb1) (h2.on hb1) hc hm hc2 hm2
 have hb2:=onS hb1 ((Below.refl _ _).alloc (Nat.le_refl _) (Obj.cells #[Value.slice A (dl x) c,Value.slice A2 (dl y) c2] 47))
 go_enter Tryz.func285, Tryz.ntmps285
 go_wp2_with fail
 obtain ⟨X,hX⟩:∃ X,X=w.alloc (Obj.cells #[] 201):=⟨_,rfl⟩
 have hsz:X.heap.size=w.heap.size+1:=by rw [hX]; simp
 rw [<-hX] at hT hb2 ⊢;rw [<-hsz];clear hX hsz hb1
 refine (zf6 _ 2 2 (fun i=>if i=0 then x else y) _ hT (by omega) (fun k hk=>?_) (fun k hk=>?_)).mono ?_
 ·match k,hk with
  | 0,_=>show dl 1<=_; rw [zbK (by omega) (by omega)]; omega
  | 1,_=>simp [prodN]; omega
  | 2,_=>simp [prodN]; omega
 ·match k,hk with
  | 0,_=>simp; omega
  | 1,_=>simp; omega
 rintro e w1 ⟨B,d,rfl,k1,k2,k3,k4⟩
 have hB:=onS hb2 k4
 have hsum:prodN (fun i=>if i=0 then x else y) 2=x*y:=by simp [prodN]
 rw [hsum] at k1 k3 ⊢;clear k4 hsum hT hb2
 go_wp2
 go_ret
 exact ⟨B,d,rfl,k1,k2,k3,hB⟩
end Go.Proofs.YtioagplajkoohaaGreat