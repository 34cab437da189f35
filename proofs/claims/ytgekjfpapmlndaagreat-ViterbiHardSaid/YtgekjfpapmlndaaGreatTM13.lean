/- Merged texts of a claim: Rename. -/
import Derived.Test.YtgekjfpapmlndaaGreatTM9
import Derived.Test.YtgekjfpapmlndaaGreatTM12
namespace Go.Proofs.YtgekjfpapmlndaaGreat
set_option maxRecDepth 100000
set_option maxHeartbeats 32000000
open KA KB KC KD KE KF
open Go.RowKit
def RenPost (T:Trel) (w:World) (e:Ending) (w':World):Prop :=
 Below w.heap.size w w'/\∃ y A' B' c' d',e=.returned (.agg #[.slice A' T.nw c',.slice B' T.n d'])/\IsRen T y/\RenOut T y w' A' B' c' d'
def Sorted (T:Trel) (i:Nat) (y:Nat->Nat->Int × Int × Int):Prop:=∀ v,v<i->SecRen T v (y v)
theorem zgO (T:Trel) (A B O:Option Addr) (c d nc:Nat) (w:World) (h:T.Reads w A B) (hP:T.Proper) (hc:T.nw<=c) (hN:IntRows w O (T.n+1) (fun i=>(T.W i).toNat) (fun i k=>(T.nm i k:Nat))) :
  Calls Tryz.prog 84 #[.agg #[.slice A T.nw c,.slice B T.n d],.slice O (T.n+1) nc] w (RenPost T w):=by
 obtain ⟨RB,hRB⟩:∃ o,o=(Obj.cells #[.slice A T.nw c,.slice B T.n d] 53):=⟨_,rfl⟩
 have hB0:Below (w.heap.size+1) (w.alloc RB) (w.alloc RB):=Below.refl _ _
 have HS:Hid (∀ w',Below (w.heap.size+1) (w.alloc RB) w'->(w'.cell? ⟨w.heap.size,0,none⟩=some (.slice A T.nw c)/\w'.cell? ⟨w.heap.size,1,none⟩=some (.slice B T.n d))/\Below w.heap.size w w'):=fun w' hB=>by
  have hB':=zaO hB
  subst hRB
  exact ⟨⟨tbox hB rfl,tbox hB rfl⟩,hB'⟩
 have HP:=hid hP
 have HR:=hid h
 have HN:=hid hN
 have hn64:=hP.shape.n64
 have HNW:=hid hP.shape.nw
 have hnw2:T.nw<=65:=by have:=HNW.out; omega
 have hmk:=fun W=>zah (P:=Tryz.prog) 51 86 _ 24 Tryz.underlying51 Tryz.infoEdges rfl (T.n:Int) (by omega) (by omega) (by omega) W
 simp only [Int.toNat_natCast] at hmk
 clear h hP hN
 go_enter Tryz.func84, Tryz.ntmps84
 go_upto_region 1 with fail
 rw [<-hRB];clear hRB
 have hr0:((w.alloc RB).alloc (Obj.cells #[.slice none 0 0,.slice none 0 0] 53)).rowIs (w.alloc RB).heap.size 53 2 (fun _=>.slice none 0 0):=World.rowIs_alloc (w.alloc RB) _ _ _ (fun i hi=>by
  match i,hi with
  | 0,_=>rfl
  | 1,_=>rfl)
 have hs1:(w.alloc RB).heap.size=w.heap.size+1:=by simp
 rw [hs1] at hr0
 have kb1:Below (w.alloc RB).heap.size (w.alloc RB) ((w.alloc RB).alloc (Obj.cells #[.slice none 0 0,.slice none 0 0] 53)):=(Below.refl _ _).alloc (Nat.le_refl _) _
 have hB1:=zav hB0 kb1
 obtain ⟨w4,hw4⟩:∃ W,W=(w.alloc RB).alloc (Obj.cells #[.slice none 0 0,.slice none 0 0] 53):=⟨_,rfl⟩
 rw [<-hw4] at hr0 hB1 ⊢
 obtain ⟨rb,hrb⟩:∃ b,b=w.heap.size+1:=⟨_,rfl⟩
 rw [<-hrb] at hr0 ⊢
 have HRB:=hid hrb
 have HR0:=hid hr0
 have HB1:=hid hB1
 clear hw4 kb1 hs1 hB0 hrb hr0 hB1
 go_cut [5] (fun v5 wx=>∃ ob g WA wl,v5=.pointer (some ⟨ob,0,none⟩)/\Hid (RnSt T g wx.heap.size ob rb 0 0 (.slice WA T.nw wl) (fun _ _=>(0,0,0)) (fun _=>.slice none 0 0) wx)/\Below w4.heap.size w4 wx/\w4.heap.size<=g)
 case first =>
  obtain ⟨⟨p0,p1⟩,_⟩:=HS.out _ HB1.out
  have hb:Below w4.heap.size w4 w4:=Below.refl _ _
  have NR:Hid (∀ w',Below w4.heap.size w4 w'->IntsR w' w'.heap.size A T.nw T.W):=fun w' hb=>(HR.out.on (HS.out _ (zav HB1.out hb)).2).1
  have hlw:w.heap.size<w4.heap.size:=zaS HB1.out
  refine wp_region_held_drew (S:=fun w'=>w'.cell? ⟨w.heap.size,0,none⟩=some (.slice A T.nw c)/\w'.cell? ⟨w.heap.size,1,none⟩=some (.slice B T.n d)) (by kernel_rfl) ⟨cellS (Below.refl _ _).drew p0,cellS (Below.refl _ _).drew p1⟩ (fun hHeld=>?_)
  obtain ⟨w5,hw⟩:∃ W,W=World.drew w4:=⟨_,rfl⟩
  have kb:Below w4.heap.size w4 w5:=by rw [hw]; exact (Below.refl _ _).drew
  rw [<-hw] at hHeld ⊢;clear hw;replace hb:=onS hb kb;replace p0:=cellS kb p0;replace p1:=cellS kb p1;clear kb
  refine tkq 0 (h:=tkq 1 (h:=tkq 3 (h:=tkq 4 (h:=tkq 5 (h:=?_)))))
  refine wpAnyH_ready (rs:=[2,6,8]) (by kernel_rfl) (by simp) ?_
  refine AllReadyH.cons (by simp only [List.getElem?_toArray,List.getElem?_cons_succ,List.getElem?_cons_zero]; rfl) (fun K hK=>?_) (AllReadyH.cons (by simp only [List.getElem?_toArray,List.getElem?_cons_succ,List.getElem?_cons_zero]; rfl) (fun K hK=>?_) (AllReadyH.cons (by simp only [List.getElem?_toArray,List.getElem?_cons_succ,List.getElem?_cons_zero]; rfl) (fun K hK=>?_) AllReadyH.nil))
  ·go_simp
   go_wp2_with fail
   refine (zaA A T.nw c T.W w5 (NR.out _ hb) hc (by omega)).mono ?_
   rintro e w6 ⟨WA,wc,rfl,o2,kb⟩
   replace hb:=onS hb kb;replace p0:=cellS kb p0;replace p1:=cellS kb p1;clear kb;replace o2:=o2.mono (base':=0) (Nat.zero_le _)
   refine bkq hK ⟨p0,p1⟩ (h:=fun hHeld=>?_)
   clear hK K
   refine rdq2 6 8 (h:=fun K hK=>?_) (h2:=fun K hK=>?_)
   ·go_simp
    obtain ⟨w7,hw⟩:∃ W,W=World.alloc w6 (Obj.cells (madeCells #[Value.slice none 0 0] T.n) 86):=⟨_,rfl⟩
    have kb:Below w6.heap.size w6 w7:=by rw [hw]; exact (Below.refl _ _).alloc (Nat.le_refl _) _
    have hg:w7.rowIs w6.heap.size 86 T.n (fun _=>.slice none 0 0):=by rw [hw]; exact World.rowIs_made w6 (.slice none 0 0) T.n 86
    rw [<-hw];clear hw
    obtain ⟨g,hgb⟩:∃ b,b=w6.heap.size:=⟨_,rfl⟩
    rw [<-hgb] at hg ⊢
    have hq:=hb.size
    have hgq:w4.heap.size<=g:=by omega
    clear hgb hq;replace hb:=onS hb kb;replace p0:=cellS kb p0;replace p1:=cellS kb p1;replace o2:=o2.on kb;clear kb
    refine bkq hK ⟨p0,p1⟩ (h:=fun hHeld=>?_)
    clear hK K
    refine tkq 7 (h:=?_)
    refine rdq 8 (h:=fun K hK=>?_)
    go_simp
    obtain ⟨w8,hw⟩:∃ W,W=World.alloc w7 (Obj.cells #[.slice none 0 0,.slice none 0 0] 53):=⟨_,rfl⟩
    have kb:Below w7.heap.size w7 w8:=by rw [hw]; exact (Below.refl _ _).alloc (Nat.le_refl _) _
    have hx:w8.rowIs w7.heap.size 53 2 (fun _=>.slice none 0 0):=by rw [hw]; exact World.rowIs_alloc w7 _ _ _ (fun i hi=>by
     match i,hi with
     | 0,_=>rfl
     | 1,_=>rfl)
    have hq:=hb.size
    rw [<-hw];clear hw
    obtain ⟨ob,hbn⟩:∃ b,b=w7.heap.size:=⟨_,rfl⟩
    rw [<-hbn] at hx ⊢
    have hbq:w4.heap.size<=ob:=by omega
    clear hbn hq;replace hg:=zab hg kb;replace hb:=onS hb kb;replace p0:=cellS kb p0;replace p1:=cellS kb p1;replace o2:=o2.on kb;clear kb
    refine bkq hK ⟨p0,p1⟩ (h:=fun hHeld=>?_)
    clear hK K
    refine rdq 9 (h:=fun K hK=>?_)
    have hx1:=hx.set 0 (Value.slice WA T.nw wc)
    have hx2:=hx1.set 1 (Value.slice (some ⟨g,0,none⟩) T.n T.n)
    have c0:=hx.cell (i:=0) (by omega)
    have c1:=hx.cell (i:=1) (by omega)
    have z0:=hx.frozen 0
    have z1:=hx.frozen 1
    have d1:=hx1.cell (i:=1) (by omega)
    rw [if_neg (by omega)] at d1
    have f1:=hx1.frozen 1
    have HX2:=hid hx2
    have o8:=o2.setCell (a:=⟨ob,0,none⟩) (zag hx o2 (by decide)) (Value.slice WA T.nw wc)
    have o9:=o8.setCell (a:=⟨ob,1,none⟩) (zag hx1 o8 (by decide)) (Value.slice (some ⟨g,0,none⟩) T.n T.n)
    have hgo:=zaq hg hx (by decide)
    have g9:=(hg.setOther (a:=⟨ob,0,none⟩) (by simpa using hgo) (Value.slice WA T.nw wc)).setOther (a:=⟨ob,1,none⟩) (by simpa using hgo) (Value.slice (some ⟨g,0,none⟩) T.n T.n)
    have b9:=(hb.setCell (p:=⟨ob,0,none⟩) hbq (Value.slice WA T.nw wc)).setCell (p:=⟨ob,1,none⟩) hbq (Value.slice (some ⟨g,0,none⟩) T.n T.n)
    replace p0:=zaa (p:=⟨ob,1,none⟩) (u:=(Value.slice (some ⟨g,0,none⟩) T.n T.n)) (zaa (p:=⟨ob,0,none⟩) (u:=(Value.slice WA T.nw wc)) p0 (by show w.heap.size≠ob; omega)) (by show w.heap.size≠ob; omega)
    replace p1:=zaa (p:=⟨ob,1,none⟩) (u:=(Value.slice (some ⟨g,0,none⟩) T.n T.n)) (zaa (p:=⟨ob,0,none⟩) (u:=(Value.slice WA T.nw wc)) p1 (by show w.heap.size≠ob; omega)) (by show w.heap.size≠ob; omega)
    have HO9:=hid o9
    have HG9:=hid g9
    have HB9:=hid b9
    clear hx1 hx2 o2 o8 o9 hg g9 hb b9 hx
    go_simp
    clear c0 c1 z0 z1 d1 f1
    refine bkq hK ⟨p0,p1⟩ (h:=fun hHeld=>?_)
    clear hK K
    refine wpAnyH_done (by kernel_rfl) ?_ _
    clear hHeld
    go_wp2_with fail
    go_meet
    exact ⟨ob,g,WA,wc,rfl,RnSt.start (HR0.out.of_block (HB9.out.block rb HR0.out.lt)) (HX2.out.congr fun k hk=>by
     match k,hk with
     | 0,_=>rfl
     | 1,_=>rfl) HO9.out HG9.out,HB9.out,hgq⟩
   ·go_simp
    obtain ⟨w7,hw⟩:∃ W,W=World.alloc w6 (Obj.cells #[.slice none 0 0,.slice none 0 0] 53):=⟨_,rfl⟩
    have kb:Below w6.heap.size w6 w7:=by rw [hw]; exact (Below.refl _ _).alloc (Nat.le_refl _) _
    have hx:w7.rowIs w6.heap.size 53 2 (fun _=>.slice none 0 0):=by rw [hw]; exact World.rowIs_alloc w6 _ _ _ (fun i hi=>by
     match i,hi with
     | 0,_=>rfl
     | 1,_=>rfl)
    have hq:=hb.size
    rw [<-hw];clear hw
    obtain ⟨ob,hbn⟩:∃ b,b=w6.heap.size:=⟨_,rfl⟩
    rw [<-hbn] at hx ⊢
    have hbq:w4.heap.size<=ob:=by omega
    clear hbn hq;replace hb:=onS hb kb;replace p0:=cellS kb p0;replace p1:=cellS kb p1;replace o2:=o2.on kb;clear kb
    refine bkq hK ⟨p0,p1⟩ (h:=fun hHeld=>?_)
    clear hK K
    refine rdq 6 (h:=fun K hK=>?_)
    go_simp
    obtain ⟨w8,hw⟩:∃ W,W=World.alloc w7 (Obj.cells (madeCells #[Value.slice none 0 0] T.n) 86):=⟨_,rfl⟩
    have kb:Below w7.heap.size w7 w8:=by rw [hw]; exact (Below.refl _ _).alloc (Nat.le_refl _) _
    have hg:w8.rowIs w7.heap.size 86 T.n (fun _=>.slice none 0 0):=by rw [hw]; exact World.rowIs_made w7 (.slice none 0 0) T.n 86
    rw [<-hw];clear hw
    obtain ⟨g,hgb⟩:∃ b,b=w7.heap.size:=⟨_,rfl⟩
    rw [<-hgb] at hg ⊢
    have hq:=hb.size
    have hgq:w4.heap.size<=g:=by omega
    clear hgb hq;replace hx:=zab hx kb;replace hb:=onS hb kb;replace p0:=cellS kb p0;replace p1:=cellS kb p1;replace o2:=o2.on kb;clear kb
    refine bkq hK ⟨p0,p1⟩ (h:=fun hHeld=>?_)
    clear hK K
    refine tkq 7 (h:=?_)
    refine rdq 9 (h:=fun K hK=>?_)
    have hx1:=hx.set 0 (Value.slice WA T.nw wc)
    have hx2:=hx1.set 1 (Value.slice (some ⟨g,0,none⟩) T.n T.n)
    have c0:=hx.cell (i:=0) (by omega)
    have c1:=hx.cell (i:=1) (by omega)
    have z0:=hx.frozen 0
    have z1:=hx.frozen 1
    have d1:=hx1.cell (i:=1) (by omega)
    rw [if_neg (by omega)] at d1
    have f1:=hx1.frozen 1
    have HX2:=hid hx2
    have o8:=o2.setCell (a:=⟨ob,0,none⟩) (zag hx o2 (by decide)) (Value.slice WA T.nw wc)
    have o9:=o8.setCell (a:=⟨ob,1,none⟩) (zag hx1 o8 (by decide)) (Value.slice (some ⟨g,0,none⟩) T.n T.n)
    have hgo:=zaq hg hx (by decide)
    have g9:=(hg.setOther (a:=⟨ob,0,none⟩) (by simpa using hgo) (Value.slice WA T.nw wc)).setOther (a:=⟨ob,1,none⟩) (by simpa using hgo) (Value.slice (some ⟨g,0,none⟩) T.n T.n)
    have b9:=(hb.setCell (p:=⟨ob,0,none⟩) hbq (Value.slice WA T.nw wc)).setCell (p:=⟨ob,1,none⟩) hbq (Value.slice (some ⟨g,0,none⟩) T.n T.n)
    replace p0:=zaa (p:=⟨ob,1,none⟩) (u:=(Value.slice (some ⟨g,0,none⟩) T.n T.n)) (zaa (p:=⟨ob,0,none⟩) (u:=(Value.slice WA T.nw wc)) p0 (by show w.heap.size≠ob; omega)) (by show w.heap.size≠ob; omega)
    replace p1:=zaa (p:=⟨ob,1,none⟩) (u:=(Value.slice (some ⟨g,0,none⟩) T.n T.n)) (zaa (p:=⟨ob,0,none⟩) (u:=(Value.slice WA T.nw wc)) p1 (by show w.heap.size≠ob; omega)) (by show w.heap.size≠ob; omega)
    have HO9:=hid o9
    have HG9:=hid g9
    have HB9:=hid b9
    clear hx1 hx2 o2 o8 o9 hg g9 hb b9 hx
    go_simp
    clear c0 c1 z0 z1 d1 f1
    refine bkq hK ⟨p0,p1⟩ (h:=fun hHeld=>?_)
    clear hK K
    refine wpAnyH_done (by kernel_rfl) ?_ _
    clear hHeld
    go_wp2_with fail
    go_meet
    exact ⟨ob,g,WA,wc,rfl,RnSt.start (HR0.out.of_block (HB9.out.block rb HR0.out.lt)) (HX2.out.congr fun k hk=>by
     match k,hk with
     | 0,_=>rfl
     | 1,_=>rfl) HO9.out HG9.out,HB9.out,hgq⟩
  ·go_simp
   obtain ⟨w6,hw⟩:∃ W,W=World.alloc w5 (Obj.cells (madeCells #[Value.slice none 0 0] T.n) 86):=⟨_,rfl⟩
   have kb:Below w5.heap.size w5 w6:=by rw [hw]; exact (Below.refl _ _).alloc (Nat.le_refl _) _
   have hg:w6.rowIs w5.heap.size 86 T.n (fun _=>.slice none 0 0):=by rw [hw]; exact World.rowIs_made w5 (.slice none 0 0) T.n 86
   rw [<-hw];clear hw
   obtain ⟨g,hgb⟩:∃ b,b=w5.heap.size:=⟨_,rfl⟩
   rw [<-hgb] at hg ⊢
   have hq:=hb.size
   have hgq:w4.heap.size<=g:=by omega
   clear hgb hq;replace hb:=onS hb kb;replace p0:=cellS kb p0;replace p1:=cellS kb p1;clear kb
   refine bkq hK ⟨p0,p1⟩ (h:=fun hHeld=>?_)
   clear hK K
   refine rdq2 2 8 (h:=fun K hK=>?_) (h2:=fun K hK=>?_)
   ·go_simp
    go_wp2_with fail
    refine (zaA A T.nw c T.W w6 (NR.out _ hb) hc (by omega)).mono ?_
    rintro e w7 ⟨WA,wc,rfl,o2,kb⟩
    replace hg:=zab hg kb;replace hb:=onS hb kb;replace p0:=cellS kb p0;replace p1:=cellS kb p1;clear kb;replace o2:=o2.mono (base':=0) (Nat.zero_le _)
    refine bkq hK ⟨p0,p1⟩ (h:=fun hHeld=>?_)
    clear hK K
    refine tkq 7 (h:=?_)
    refine rdq 8 (h:=fun K hK=>?_)
    go_simp
    obtain ⟨w8,hw⟩:∃ W,W=World.alloc w7 (Obj.cells #[.slice none 0 0,.slice none 0 0] 53):=⟨_,rfl⟩
    have kb:Below w7.heap.size w7 w8:=by rw [hw]; exact (Below.refl _ _).alloc (Nat.le_refl _) _
    have hx:w8.rowIs w7.heap.size 53 2 (fun _=>.slice none 0 0):=by rw [hw]; exact World.rowIs_alloc w7 _ _ _ (fun i hi=>by
     match i,hi with
     | 0,_=>rfl
     | 1,_=>rfl)
    have hq:=hb.size
    rw [<-hw];clear hw
    obtain ⟨ob,hbn⟩:∃ b,b=w7.heap.size:=⟨_,rfl⟩
    rw [<-hbn] at hx ⊢
    have hbq:w4.heap.size<=ob:=by omega
    clear hbn hq;replace hg:=zab hg kb;replace hb:=onS hb kb;replace p0:=cellS kb p0;replace p1:=cellS kb p1;replace o2:=o2.on kb;clear kb
    refine bkq hK ⟨p0,p1⟩ (h:=fun hHeld=>?_)
    clear hK K
    refine rdq 9 (h:=fun K hK=>?_)
    have hx1:=hx.set 0 (Value.slice WA T.nw wc)
    have hx2:=hx1.set 1 (Value.slice (some ⟨g,0,none⟩) T.n T.n)
    have c0:=hx.cell (i:=0) (by omega)
    have c1:=hx.cell (i:=1) (by omega)
    have z0:=hx.frozen 0
    have z1:=hx.frozen 1
    have d1:=hx1.cell (i:=1) (by omega)
    rw [if_neg (by omega)] at d1
    have f1:=hx1.frozen 1
    have HX2:=hid hx2
    have o8:=o2.setCell (a:=⟨ob,0,none⟩) (zag hx o2 (by decide)) (Value.slice WA T.nw wc)
    have o9:=o8.setCell (a:=⟨ob,1,none⟩) (zag hx1 o8 (by decide)) (Value.slice (some ⟨g,0,none⟩) T.n T.n)
    have hgo:=zaq hg hx (by decide)
    have g9:=(hg.setOther (a:=⟨ob,0,none⟩) (by simpa using hgo) (Value.slice WA T.nw wc)).setOther (a:=⟨ob,1,none⟩) (by simpa using hgo) (Value.slice (some ⟨g,0,none⟩) T.n T.n)
    have b9:=(hb.setCell (p:=⟨ob,0,none⟩) hbq (Value.slice WA T.nw wc)).setCell (p:=⟨ob,1,none⟩) hbq (Value.slice (some ⟨g,0,none⟩) T.n T.n)
    replace p0:=zaa (p:=⟨ob,1,none⟩) (u:=(Value.slice (some ⟨g,0,none⟩) T.n T.n)) (zaa (p:=⟨ob,0,none⟩) (u:=(Value.slice WA T.nw wc)) p0 (by show w.heap.size≠ob; omega)) (by show w.heap.size≠ob; omega)
    replace p1:=zaa (p:=⟨ob,1,none⟩) (u:=(Value.slice (some ⟨g,0,none⟩) T.n T.n)) (zaa (p:=⟨ob,0,none⟩) (u:=(Value.slice WA T.nw wc)) p1 (by show w.heap.size≠ob; omega)) (by show w.heap.size≠ob; omega)
    have HO9:=hid o9
    have HG9:=hid g9
    have HB9:=hid b9
    clear hx1 hx2 o2 o8 o9 hg g9 hb b9 hx
    go_simp
    clear c0 c1 z0 z1 d1 f1
    refine bkq hK ⟨p0,p1⟩ (h:=fun hHeld=>?_)
    clear hK K
    refine wpAnyH_done (by kernel_rfl) ?_ _
    clear hHeld
    go_wp2_with fail
    go_meet
    exact ⟨ob,g,WA,wc,rfl,RnSt.start (HR0.out.of_block (HB9.out.block rb HR0.out.lt)) (HX2.out.congr fun k hk=>by
     match k,hk with
     | 0,_=>rfl
     | 1,_=>rfl) HO9.out HG9.out,HB9.out,hgq⟩
   ·go_simp
    obtain ⟨w7,hw⟩:∃ W,W=World.alloc w6 (Obj.cells #[.slice none 0 0,.slice none 0 0] 53):=⟨_,rfl⟩
    have kb:Below w6.heap.size w6 w7:=by rw [hw]; exact (Below.refl _ _).alloc (Nat.le_refl _) _
    have hx:w7.rowIs w6.heap.size 53 2 (fun _=>.slice none 0 0):=by rw [hw]; exact World.rowIs_alloc w6 _ _ _ (fun i hi=>by
     match i,hi with
     | 0,_=>rfl
     | 1,_=>rfl)
    have hq:=hb.size
    rw [<-hw];clear hw
    obtain ⟨ob,hbn⟩:∃ b,b=w6.heap.size:=⟨_,rfl⟩
    rw [<-hbn] at hx ⊢
    have hbq:w4.heap.size<=ob:=by omega
    clear hbn hq;replace hg:=zab hg kb;replace hb:=onS hb kb;replace p0:=cellS kb p0;replace p1:=cellS kb p1;clear kb
    refine bkq hK ⟨p0,p1⟩ (h:=fun hHeld=>?_)
    clear hK K
    refine rdq 2 (h:=fun K hK=>?_)
    go_simp
    go_wp2_with fail
    refine (zaA A T.nw c T.W w7 (NR.out _ hb) hc (by omega)).mono ?_
    rintro e w8 ⟨WA,wc,rfl,o2,kb⟩
    replace hg:=zab hg kb;replace hx:=zab hx kb;replace hb:=onS hb kb;replace p0:=cellS kb p0;replace p1:=cellS kb p1;clear kb;replace o2:=o2.mono (base':=0) (Nat.zero_le _)
    refine bkq hK ⟨p0,p1⟩ (h:=fun hHeld=>?_)
    clear hK K
    refine tkq 7 (h:=?_)
    refine rdq 9 (h:=fun K hK=>?_)
    have hx1:=hx.set 0 (Value.slice WA T.nw wc)
    have hx2:=hx1.set 1 (Value.slice (some ⟨g,0,none⟩) T.n T.n)
    have c0:=hx.cell (i:=0) (by omega)
    have c1:=hx.cell (i:=1) (by omega)
    have z0:=hx.frozen 0
    have z1:=hx.frozen 1
    have d1:=hx1.cell (i:=1) (by omega)
    rw [if_neg (by omega)] at d1
    have f1:=hx1.frozen 1
    have HX2:=hid hx2
    have o8:=o2.setCell (a:=⟨ob,0,none⟩) (zag hx o2 (by decide)) (Value.slice WA T.nw wc)
    have o9:=o8.setCell (a:=⟨ob,1,none⟩) (zag hx1 o8 (by decide)) (Value.slice (some ⟨g,0,none⟩) T.n T.n)
    have hgo:=zaq hg hx (by decide)
    have g9:=(hg.setOther (a:=⟨ob,0,none⟩) (by simpa using hgo) (Value.slice WA T.nw wc)).setOther (a:=⟨ob,1,none⟩) (by simpa using hgo) (Value.slice (some ⟨g,0,none⟩) T.n T.n)
    have b9:=(hb.setCell (p:=⟨ob,0,none⟩) hbq (Value.slice WA T.nw wc)).setCell (p:=⟨ob,1,none⟩) hbq (Value.slice (some ⟨g,0,none⟩) T.n T.n)
    replace p0:=zaa (p:=⟨ob,1,none⟩) (u:=(Value.slice (some ⟨g,0,none⟩) T.n T.n)) (zaa (p:=⟨ob,0,none⟩) (u:=(Value.slice WA T.nw wc)) p0 (by show w.heap.size≠ob; omega)) (by show w.heap.size≠ob; omega)
    replace p1:=zaa (p:=⟨ob,1,none⟩) (u:=(Value.slice (some ⟨g,0,none⟩) T.n T.n)) (zaa (p:=⟨ob,0,none⟩) (u:=(Value.slice WA T.nw wc)) p1 (by show w.heap.size≠ob; omega)) (by show w.heap.size≠ob; omega)
    have HO9:=hid o9
    have HG9:=hid g9
    have HB9:=hid b9
    clear hx1 hx2 o2 o8 o9 hg g9 hb b9 hx
    go_simp
    clear c0 c1 z0 z1 d1 f1
    refine bkq hK ⟨p0,p1⟩ (h:=fun hHeld=>?_)
    clear hK K
    refine wpAnyH_done (by kernel_rfl) ?_ _
    clear hHeld
    go_wp2_with fail
    go_meet
    exact ⟨ob,g,WA,wc,rfl,RnSt.start (HR0.out.of_block (HB9.out.block rb HR0.out.lt)) (HX2.out.congr fun k hk=>by
     match k,hk with
     | 0,_=>rfl
     | 1,_=>rfl) HO9.out HG9.out,HB9.out,hgq⟩
  ·go_simp
   obtain ⟨w6,hw⟩:∃ W,W=World.alloc w5 (Obj.cells #[.slice none 0 0,.slice none 0 0] 53):=⟨_,rfl⟩
   have kb:Below w5.heap.size w5 w6:=by rw [hw]; exact (Below.refl _ _).alloc (Nat.le_refl _) _
   have hx:w6.rowIs w5.heap.size 53 2 (fun _=>.slice none 0 0):=by rw [hw]; exact World.rowIs_alloc w5 _ _ _ (fun i hi=>by
    match i,hi with
    | 0,_=>rfl
    | 1,_=>rfl)
   have hq:=hb.size
   rw [<-hw];clear hw
   obtain ⟨ob,hbn⟩:∃ b,b=w5.heap.size:=⟨_,rfl⟩
   rw [<-hbn] at hx ⊢
   have hbq:w4.heap.size<=ob:=by omega
   clear hbn hq;replace hb:=onS hb kb;replace p0:=cellS kb p0;replace p1:=cellS kb p1;clear kb
   refine bkq hK ⟨p0,p1⟩ (h:=fun hHeld=>?_)
   clear hK K
   refine rdq2 2 6 (h:=fun K hK=>?_) (h2:=fun K hK=>?_)
   ·go_simp
    go_wp2_with fail
    refine (zaA A T.nw c T.W w6 (NR.out _ hb) hc (by omega)).mono ?_
    rintro e w7 ⟨WA,wc,rfl,o2,kb⟩
    replace hx:=zab hx kb;replace hb:=onS hb kb;replace p0:=cellS kb p0;replace p1:=cellS kb p1;clear kb;replace o2:=o2.mono (base':=0) (Nat.zero_le _)
    refine bkq hK ⟨p0,p1⟩ (h:=fun hHeld=>?_)
    clear hK K
    refine rdq 6 (h:=fun K hK=>?_)
    go_simp
    obtain ⟨w8,hw⟩:∃ W,W=World.alloc w7 (Obj.cells (madeCells #[Value.slice none 0 0] T.n) 86):=⟨_,rfl⟩
    have kb:Below w7.heap.size w7 w8:=by rw [hw]; exact (Below.refl _ _).alloc (Nat.le_refl _) _
    have hg:w8.rowIs w7.heap.size 86 T.n (fun _=>.slice none 0 0):=by rw [hw]; exact World.rowIs_made w7 (.slice none 0 0) T.n 86
    rw [<-hw];clear hw
    obtain ⟨g,hgb⟩:∃ b,b=w7.heap.size:=⟨_,rfl⟩
    rw [<-hgb] at hg ⊢
    have hq:=hb.size
    have hgq:w4.heap.size<=g:=by omega
    clear hgb hq;replace hx:=zab hx kb;replace hb:=onS hb kb;replace p0:=cellS kb p0;replace p1:=cellS kb p1;replace o2:=o2.on kb;clear kb
    refine bkq hK ⟨p0,p1⟩ (h:=fun hHeld=>?_)
    clear hK K
    refine tkq 7 (h:=?_)
    refine rdq 9 (h:=fun K hK=>?_)
    have hx1:=hx.set 0 (Value.slice WA T.nw wc)
    have hx2:=hx1.set 1 (Value.slice (some ⟨g,0,none⟩) T.n T.n)
    have c0:=hx.cell (i:=0) (by omega)
    have c1:=hx.cell (i:=1) (by omega)
    have z0:=hx.frozen 0
    have z1:=hx.frozen 1
    have d1:=hx1.cell (i:=1) (by omega)
    rw [if_neg (by omega)] at d1
    have f1:=hx1.frozen 1
    have HX2:=hid hx2
    have o8:=o2.setCell (a:=⟨ob,0,none⟩) (zag hx o2 (by decide)) (Value.slice WA T.nw wc)
    have o9:=o8.setCell (a:=⟨ob,1,none⟩) (zag hx1 o8 (by decide)) (Value.slice (some ⟨g,0,none⟩) T.n T.n)
    have hgo:=zaq hg hx (by decide)
    have g9:=(hg.setOther (a:=⟨ob,0,none⟩) (by simpa using hgo) (Value.slice WA T.nw wc)).setOther (a:=⟨ob,1,none⟩) (by simpa using hgo) (Value.slice (some ⟨g,0,none⟩) T.n T.n)
    have b9:=(hb.setCell (p:=⟨ob,0,none⟩) hbq (Value.slice WA T.nw wc)).setCell (p:=⟨ob,1,none⟩) hbq (Value.slice (some ⟨g,0,none⟩) T.n T.n)
    replace p0:=zaa (p:=⟨ob,1,none⟩) (u:=(Value.slice (some ⟨g,0,none⟩) T.n T.n)) (zaa (p:=⟨ob,0,none⟩) (u:=(Value.slice WA T.nw wc)) p0 (by show w.heap.size≠ob; omega)) (by show w.heap.size≠ob; omega)
    replace p1:=zaa (p:=⟨ob,1,none⟩) (u:=(Value.slice (some ⟨g,0,none⟩) T.n T.n)) (zaa (p:=⟨ob,0,none⟩) (u:=(Value.slice WA T.nw wc)) p1 (by show w.heap.size≠ob; omega)) (by show w.heap.size≠ob; omega)
    have HO9:=hid o9
    have HG9:=hid g9
    have HB9:=hid b9
    clear hx1 hx2 o2 o8 o9 hg g9 hb b9 hx
    go_simp
    clear c0 c1 z0 z1 d1 f1
    refine bkq hK ⟨p0,p1⟩ (h:=fun hHeld=>?_)
    clear hK K
    refine wpAnyH_done (by kernel_rfl) ?_ _
    clear hHeld
    go_wp2_with fail
    go_meet
    exact ⟨ob,g,WA,wc,rfl,RnSt.start (HR0.out.of_block (HB9.out.block rb HR0.out.lt)) (HX2.out.congr fun k hk=>by
     match k,hk with
     | 0,_=>rfl
     | 1,_=>rfl) HO9.out HG9.out,HB9.out,hgq⟩
   ·go_simp
    obtain ⟨w7,hw⟩:∃ W,W=World.alloc w6 (Obj.cells (madeCells #[Value.slice none 0 0] T.n) 86):=⟨_,rfl⟩
    have kb:Below w6.heap.size w6 w7:=by rw [hw]; exact (Below.refl _ _).alloc (Nat.le_refl _) _
    have hg:w7.rowIs w6.heap.size 86 T.n (fun _=>.slice none 0 0):=by rw [hw]; exact World.rowIs_made w6 (.slice none 0 0) T.n 86
    rw [<-hw];clear hw
    obtain ⟨g,hgb⟩:∃ b,b=w6.heap.size:=⟨_,rfl⟩
    rw [<-hgb] at hg ⊢
    have hq:=hb.size
    have hgq:w4.heap.size<=g:=by omega
    clear hgb hq;replace hx:=zab hx kb;replace hb:=onS hb kb;replace p0:=cellS kb p0;replace p1:=cellS kb p1;clear kb
    refine bkq hK ⟨p0,p1⟩ (h:=fun hHeld=>?_)
    clear hK K
    refine rdq 2 (h:=fun K hK=>?_)
    go_simp
    go_wp2_with fail
    refine (zaA A T.nw c T.W w7 (NR.out _ hb) hc (by omega)).mono ?_
    rintro e w8 ⟨WA,wc,rfl,o2,kb⟩
    replace hx:=zab hx kb;replace hg:=zab hg kb;replace hb:=onS hb kb;replace p0:=cellS kb p0;replace p1:=cellS kb p1;clear kb;replace o2:=o2.mono (base':=0) (Nat.zero_le _)
    refine bkq hK ⟨p0,p1⟩ (h:=fun hHeld=>?_)
    clear hK K
    refine tkq 7 (h:=?_)
    refine rdq 9 (h:=fun K hK=>?_)
    have hx1:=hx.set 0 (Value.slice WA T.nw wc)
    have hx2:=hx1.set 1 (Value.slice (some ⟨g,0,none⟩) T.n T.n)
    have c0:=hx.cell (i:=0) (by omega)
    have c1:=hx.cell (i:=1) (by omega)
    have z0:=hx.frozen 0
    have z1:=hx.frozen 1
    have d1:=hx1.cell (i:=1) (by omega)
    rw [if_neg (by omega)] at d1
    have f1:=hx1.frozen 1
    have HX2:=hid hx2
    have o8:=o2.setCell (a:=⟨ob,0,none⟩) (zag hx o2 (by decide)) (Value.slice WA T.nw wc)
    have o9:=o8.setCell (a:=⟨ob,1,none⟩) (zag hx1 o8 (by decide)) (Value.slice (some ⟨g,0,none⟩) T.n T.n)
    have hgo:=zaq hg hx (by decide)
    have g9:=(hg.setOther (a:=⟨ob,0,none⟩) (by simpa using hgo) (Value.slice WA T.nw wc)).setOther (a:=⟨ob,1,none⟩) (by simpa using hgo) (Value.slice (some ⟨g,0,none⟩) T.n T.n)
    have b9:=(hb.setCell (p:=⟨ob,0,none⟩) hbq (Value.slice WA T.nw wc)).setCell (p:=⟨ob,1,none⟩) hbq (Value.slice (some ⟨g,0,none⟩) T.n T.n)
    replace p0:=zaa (p:=⟨ob,1,none⟩) (u:=(Value.slice (some ⟨g,0,none⟩) T.n T.n)) (zaa (p:=⟨ob,0,none⟩) (u:=(Value.slice WA T.nw wc)) p0 (by show w.heap.size≠ob; omega)) (by show w.heap.size≠ob; omega)
    replace p1:=zaa (p:=⟨ob,1,none⟩) (u:=(Value.slice (some ⟨g,0,none⟩) T.n T.n)) (zaa (p:=⟨ob,0,none⟩) (u:=(Value.slice WA T.nw wc)) p1 (by show w.heap.size≠ob; omega)) (by show w.heap.size≠ob; omega)
    have HO9:=hid o9
    have HG9:=hid g9
    have HB9:=hid b9
    clear hx1 hx2 o2 o8 o9 hg g9 hb b9 hx
    go_simp
    clear c0 c1 z0 z1 d1 f1
    refine bkq hK ⟨p0,p1⟩ (h:=fun hHeld=>?_)
    clear hK K
    refine wpAnyH_done (by kernel_rfl) ?_ _
    clear hHeld
    go_wp2_with fail
    go_meet
    exact ⟨ob,g,WA,wc,rfl,RnSt.start (HR0.out.of_block (HB9.out.block rb HR0.out.lt)) (HX2.out.congr fun k hk=>by
     match k,hk with
     | 0,_=>rfl
     | 1,_=>rfl) HO9.out HG9.out,HB9.out,hgq⟩
 case rest =>
  obtain ⟨ob,g,WA,wl,rfl,HST,hBc,hg4⟩:=hcut
  have HWG:Hid (¬ g<w.heap.size):=by show ¬ _; have:=zaS HB1.out; omega
  have HWG2:Hid (w.heap.size+1<=g):=by show _<=_; have:=zaS HB1.out; omega
  have hB:=zav HB1.out hBc
  obtain ⟨bs,hbs⟩:∃ n,n=wc.heap.size:=⟨_,rfl⟩
  have hbl:bs<=wc.heap.size:=by omega
  have hwb:w.heap.size<bs:=by have:=zaS hB; omega
  rw [<-hbs] at HST
  have HS0:Hid (∃ y F,Sorted T 0 y/\RnSt T g bs ob rb 0 0 (.slice WA T.nw wl) y F wc):=⟨_,_,fun v hv=>absurd hv (by omega),HST.out⟩
  obtain ⟨⟨p0,p1⟩,hW⟩:=HS.out _ hB
  clear hmk hbs HST hBc
  go_wp2
  go_loopg [21] T.n (fun gg iv wx=>∃ i:Nat,iv=.int .i64 (i:Nat)/\i<=T.n/\T.n<=i+gg/\Hid (∃ y F,Sorted T i y/\RnSt T g bs ob rb i 0 (.slice WA T.nw wl) y F wx)/\Below (w.heap.size+1) (w.alloc RB) wx/\bs<=wx.heap.size)
  case atStart=>exact ⟨0,rfl,by omega,by omega,HS0,hB,hbl⟩
  case round =>
   clear HS0 hB hbl p0 p1 hW
   obtain ⟨gI,hgI⟩:∃ g,g=gk:=⟨_,rfl⟩
   subst hgI
   obtain ⟨i,rfl,hi,hig,HST,hB,hbl⟩:=hrel
   have hi0:(0:Int)<=(i:Int):=by omega
   obtain ⟨⟨p0,p1⟩,hW⟩:=HS.out _ hB
   by_cases hlt:i<T.n
   ·have hlt':(i:Int)<(T.n:Int):=by omega
    obtain ⟨y,F,hso,hst⟩:=HST.out
    have HSO:=hid hso
    obtain ⟨eb,eo,E,ec,heB,heb,x0,he1,he2,he3,_⟩:=HR.out.sec hlt
    obtain ⟨nb,no,Ai,ci,hO,hnb,n0,_,_,hnr,_⟩:=HN.out i (by omega)
    obtain ⟨nb2,no2,Aj,cj,hO2,_,n1,_,_,hnr2,_⟩:=HN.out (i+1) (by omega)
    subst heB hO
    injection hO2 with hO2
    injection hO2 with hO2 hO3
    subst hO2 hO3
    have hel:=HP.out.shape.elb hlt
    have HEP:=hid (HP.out.el_pos hlt)
    have x0r:=(hW.cell (p:=⟨eb,eo+i,none⟩) heb).trans x0
    obtain ⟨el,hele⟩:∃ n,n=T.el i:=⟨_,rfl⟩
    have HEL:=hid hele
    obtain ⟨Wi,hWi⟩:∃ n,n=(T.W i).toNat:=⟨_,rfl⟩
    obtain ⟨Wj,hWj⟩:∃ n,n=(T.W (i+1)).toNat:=⟨_,rfl⟩
    have HWI:=hid hWi
    have HWJ:=hid hWj
    have hwz:=hW.size
    change w.cell? _=some (Value.slice Ai (T.W i).toNat ci) at n0
    change IntsR w w.heap.size Ai (T.W i).toNat (fun k=>(T.nm i k:Nat)) at hnr
    change w.cell? _=some (Value.slice Aj (T.W (i+1)).toNat cj) at n1
    change IntsR w w.heap.size Aj (T.W (i+1)).toNat (fun k=>(T.nm (i+1) k:Nat)) at hnr2
    rw [<-hele] at x0 x0r he1 he3 hel;rw [<-hWi] at n0 hnr;rw [<-hWj] at n1 hnr2
    have HNR:=hid hnr
    have HNR2:=hid hnr2
    have HE3:=hid he3
    have HX0:=hid x0
    have HN0:=hid n0
    have HN1:=hid n1
    have HI0:Hid (∃ F,RnSt T g bs ob rb i 0 (.slice WA T.nw wl) y F wr):=⟨F,hst⟩
    have hwi1:(i:Int)+1<(T.n:Int)+1:=by omega
    have hk01:(0:Int)<=(i:Int)+1:=by omega
    have hwk1:IntKind.i64.wrap ((i:Int)+1)=(i:Int)+1:=IntWalk.i64_in _ (by omega)
    have htn1:((i:Int)+1).toNat=i+1:=by omega
    have hin1:(i:Int)<(T.n:Int)+1:=by omega
    clear hele hWi hWj hnr hnr2 he3 x0 n0 n1 hst hso p0 p1
    go_wp2
    go_loopg [28] el (fun gg jv wx=>∃ j:Nat,jv=.int .i64 (j:Nat)/\j<=el/\el<=j+gg/\Hid (∃ F,RnSt T g bs ob rb i j (.slice WA T.nw wl) y F wx)/\Below (w.heap.size+1) (w.alloc RB) wx/\bs<=wx.heap.size)
    case atStart=>exact ⟨0,rfl,by omega,by omega,HI0,hB,hbl⟩
    case round =>
     clear HI0 hB hbl hW x0r hwz
     obtain ⟨j,rfl,hj,hjg,HIN,hB,hbl⟩:=hrel
     have hj0:(0:Int)<=(j:Int):=by omega
     obtain ⟨_,hW⟩:=HS.out _ hB
     obtain ⟨F,hst⟩:=HIN.out
     by_cases hltj:j<el
     ·have hltj':(j:Int)<(el:Int):=by omega
      obtain ⟨b9,o9,rfl,hb9,y0,y1,y2⟩:=zc1 ((Rd.below HE3.out hW (Nat.le_refl _)).mono hW.size) hltj
      have hltj2:j<T.el i:=by rw [<-HEL.out]; exact hltj
      have htl:=HP.out.toL hlt hltj2
      have hfl:=HP.out.frL hlt hltj2
      obtain ⟨tn,htn⟩:∃ n,n=(T.to i j).toNat:=⟨_,rfl⟩
      obtain ⟨fn,hfn⟩:∃ n,n=(T.fr i j).toNat:=⟨_,rfl⟩
      obtain ⟨lv,hlv⟩:∃ z,z=T.lb i j:=⟨_,rfl⟩
      rw [<-htn,<-HWJ.out] at htl;rw [<-hfn,<-HWI.out] at hfl;rw [<-htl.2] at y2;rw [<-hfl.2] at y0;rw [<-hlv] at y1
      have htl1:=htl.1
      have htl1':(tn:Int)<(Wj:Int):=by omega
      have hfl1:=hfl.1
      have hfl1':(fn:Int)<(Wi:Int):=by omega
      obtain ⟨ab,ao,rfl,hab,s3⟩:=HNR.out.at hfl1
      obtain ⟨tb,tO,rfl,htb,s5⟩:=HNR2.out.at htl1
      replace s3:=(hW.cell (p:=⟨ab,ao+fn,none⟩) hab).trans s3;replace s5:=(hW.cell (p:=⟨tb,tO+tn,none⟩) htb).trans s5
      have s2:=(hW.cell (p:=⟨nb,no+i,none⟩) hnb).trans HN0.out
      have s4:=(hW.cell (p:=⟨nb,no+(i+1),none⟩) hnb).trans HN1.out
      obtain ⟨a1,ha1⟩:∃ n,n=T.nm i fn:=⟨_,rfl⟩
      obtain ⟨a2,ha2⟩:∃ n,n=T.nm (i+1) tn:=⟨_,rfl⟩
      rw [<-ha1] at s3;rw [<-ha2] at s5
      have htri:T.tri i j=(((a1:Nat):Int),lv,((a2:Nat):Int)):=by
       show (((T.nm i (T.fr i j).toNat:Nat):Int),T.lb i j,((T.nm (i+1) (T.to i j).toNat:Nat):Int))=_
       rw [<-hfn,<-htn,<-hlv,<-ha1,<-ha2]
      have HTRI:=hid htri
      have hown:=hst.row hlt
      obtain ⟨FA,fc,hFi⟩:=hown.shape
      rw [hFi] at hown
      have s1:=hst.tab.row.cell hlt
      rw [hFi] at s1
      have s0:=hst.box.cell (i:=1) (by omega)
      rw [if_neg (by omega)] at s0
      have HFI:=hid hFi
      have hob:=hst.hob
      have hgb:=hst.hg
      clear htl hfl htri htn hfn hlv ha1 ha2 hltj2 hFi
      go_upto_region 8 with fail
      obtain ⟨OB,hOB⟩:∃ o,o=(Obj.cells #[Value.int .i64 (fn:Nat),Value.int .i64 lv,Value.int .i64 (tn:Nat)] 90):=⟨_,rfl⟩
      rw [<-hOB]
      have kb:Below wr.heap.size wr (wr.alloc OB):=(Below.refl _ _).alloc (Nat.le_refl _) _
      have c0:(wr.alloc OB).cell? ⟨wr.heap.size,0,none⟩=some (.int .i64 (fn:Nat)):=by subst hOB; exact tbox (Below.refl _ _) rfl
      have c1:(wr.alloc OB).cell? ⟨wr.heap.size,1,none⟩=some (.int .i64 lv):=by subst hOB; exact tbox (Below.refl _ _) rfl
      have c2:(wr.alloc OB).cell? ⟨wr.heap.size,2,none⟩=some (.int .i64 (tn:Nat)):=by subst hOB; exact tbox (Below.refl _ _) rfl
      obtain ⟨w6,hw6⟩:∃ W,W=wr.alloc OB:=⟨_,rfl⟩
      have hpf:(Value.slice FA j fc).ownBlock≠some wr.heap.size:=fun e=>by have:=(hown.lt _ e).2; omega
      have hlf:∀ b,b<bs->(Value.slice FA j fc).ownBlock≠some b:=fun b hb e=>by have:=(hown.lt _ e).1; omega
      have hgr:=hst.tab.row.lt
      have hl6:wr.heap.size<w6.heap.size:=by rw [hw6]; simp
      obtain ⟨pb,hpb⟩:∃ b,b=wr.heap.size:=⟨_,rfl⟩
      have hsz:=hbl
      rw [<-hpb] at c0 c1 c2 hpf hgr hl6 hsz;rw [<-hw6] at kb c0 c1 c2 ⊢;rw [<-hpb]
      have hpg:pb≠g:=by omega
      have hbl6:bs<=w6.heap.size:=by omega
      have hB6:=zav hB kb
      replace hst:=hst.on kb;replace hown:=hown.on kb;replace s0:=cellS kb s0;replace s1:=cellS kb s1;replace s2:=cellS kb s2;replace s3:=cellS kb s3;replace s4:=cellS kb s4;replace s5:=cellS kb s5
      have hk:Below w6.heap.size w6 w6:=Below.refl _ _
      have HPF:=hid hpf
      have HLF:=hid hlf
      have HB6:=hid hB6
      have hog:ob≠g:=zaq hst.box hst.tab.row (by decide)
      have hw1:=hW.size
      have hwg:w.heap.size<=g:=by
       have:=hst.hg
       rcases Nat.lt_or_ge g w.heap.size with h1 | h1
       ·exact absurd h1 HWG.out
       ·exact h1
      have HEG:Hid (nb≠g/\ab≠g/\tb≠g):=by show _/\_/\_; omega
      have HEL1:Hid (nb<bs/\ab<bs/\tb<bs):=by show _/\_/\_; omega
      have HJL:Hid (j<=1048576):=by show _<=_; omega
      clear hpb hw6 hOB kb y0 y1 y2 hW hb9 hB hpf hlf hB6 hbl hgr hl6 hsz hnb hab htb heb hw1
      refine wp_region_held_drew (S:=fun w'=>w'.cell? ⟨ob,1,none⟩=some (.slice (some ⟨g,0,none⟩) T.n T.n)/\w'.cell? ⟨nb,no+i,none⟩=some (.slice (some ⟨ab,ao,none⟩) Wi ci)/\w'.cell? ⟨ab,ao+fn,none⟩=some (.int .i64 (a1:Nat))/\w'.cell? ⟨nb,no+(i+1),none⟩=some (.slice (some ⟨tb,tO,none⟩) Wj cj)/\w'.cell? ⟨tb,tO+tn,none⟩=some (.int .i64 (a2:Nat))/\w'.cell? ⟨pb,0,none⟩=some (.int .i64 (fn:Nat))/\w'.cell? ⟨pb,1,none⟩=some (.int .i64 lv)/\w'.cell? ⟨pb,2,none⟩=some (.int .i64 (tn:Nat))) (by kernel_rfl) ⟨cellS (Below.refl _ _).drew s0,cellS (Below.refl _ _).drew s2,cellS (Below.refl _ _).drew s3,cellS (Below.refl _ _).drew s4,cellS (Below.refl _ _).drew s5,cellS (Below.refl _ _).drew c0,cellS (Below.refl _ _).drew c1,cellS (Below.refl _ _).drew c2⟩ (fun hHeld=>?_)
      obtain ⟨w7,hw⟩:∃ W,W=World.drew w6:=⟨_,rfl⟩
      have kb:Below w6.heap.size w6 w7:=by rw [hw]; exact (Below.refl _ _).drew
      rw [<-hw] at hHeld ⊢;clear hw;replace hk:=onS hk kb;replace s0:=cellS kb s0;replace s2:=cellS kb s2;replace s3:=cellS kb s3;replace s4:=cellS kb s4;replace s5:=cellS kb s5;replace c0:=cellS kb c0;replace c1:=cellS kb c1;replace c2:=cellS kb c2;replace s1:=cellS kb s1;replace hst:=hst.on kb;replace hown:=hown.on kb;clear kb
      refine tkq 0 (h:=tkq 1 (h:=tkq 2 (h:=tkq 3 (h:=tkq 4 (h:=tkq 5 (h:=tkq 6 (h:=tkq 8 (h:=tkq 9 (h:=tkq 10 (h:=tkq 11 (h:=tkq 12 (h:=tkq 13 (h:=tkq 14 (h:=tkq 15 (h:=tkq 16 (h:=tkq 17 (h:=tkq 18 (h:=tkq 19 (h:=tkq 20 (h:=tkq 21 (h:=tkq 22 (h:=tkq 23 (h:=tkq 24 (h:=tkq 25 (h:=tkq 26 (h:=tkq 27 (h:=?_)))))))))))))))))))))))))))
      refine rdq2 7 28 (h:=fun K hK=>?_) (h2:=fun K hK=>?_)
      ·go_simp
       refine bkq hK ⟨s0,s2,s3,s4,s5,c0,c1,c2⟩ (h:=fun hHeld=>?_)
       clear hK K
       refine rdq 28 (h:=fun K hK=>?_)
       go_simp
       obtain ⟨w8,hw⟩:∃ W,W=World.alloc w7 (Obj.cells #[Value.int .i64 (a1:Nat),Value.int .i64 lv,Value.int .i64 (a2:Nat)] 90):=⟨_,rfl⟩
       have kb:Below w7.heap.size w7 w8:=by rw [hw]; exact (Below.refl _ _).alloc (Nat.le_refl _) _
       have HC:Hid (∀ W,Below w8.heap.size w8 W->∀ j',j'<3->W.cell? ((⟨w7.heap.size,0,none⟩:Addr).add j')=some (edgeCell (T.tri i) j j')):=fun W hb j' hj'=>by
        unfold edgeCell
        rw [HTRI.out]
        have hx:∀ q v,(#[Value.int .i64 (a1:Nat),Value.int .i64 lv,Value.int .i64 (a2:Nat)]:Array Value)[q]?=some v->W.cell? ⟨w7.heap.size,q,none⟩=some v:=fun q v hq=>cellS hb (by rw [hw]; exact tbox (Below.refl _ _) hq)
        match j',hj' with
        | 0,_=>exact hx 0 _ rfl
        | 1,_=>exact hx 1 _ rfl
        | 2,_=>exact hx 2 _ rfl
       rw [<-hw];clear hw
       obtain ⟨xb,hxb⟩:∃ b,b=w7.heap.size:=⟨_,rfl⟩
       rw [<-hxb] at HC ⊢;clear hxb
       have hk2:Below w8.heap.size w8 w8:=Below.refl _ _
       replace hk:=onS hk kb;replace s0:=cellS kb s0;replace s2:=cellS kb s2;replace s3:=cellS kb s3;replace s4:=cellS kb s4;replace s5:=cellS kb s5;replace c0:=cellS kb c0;replace c1:=cellS kb c1;replace c2:=cellS kb c2;replace s1:=cellS kb s1;replace hst:=hst.on kb;replace hown:=hown.on kb;clear kb
       refine bkq hK ⟨s0,s2,s3,s4,s5,c0,c1,c2⟩ (h:=fun hHeld=>?_)
       clear hK K
       refine rdq 29 (h:=fun K hK=>?_)
       have HK2:=hid (HC.out _ hk2)
       have hsz:=hk.size
       refine zbt (by rfl) (.tmp 39) (.tmp 60) (by rfl) hown (by rfl) (ad:=⟨xb,0,none⟩) (c:=1) (by rfl) HK2.out (Nat.le_trans hbl6 hsz) HJL.out ?_
       intro v9 w9 o1 o2 o3
       obtain ⟨A9,c9,hv9⟩:=o1.shape
       subst hv9
       rw [<-HFI.out] at o2 o3
       have h9:=hst.put hlt o1 o2 o3
       have HPUT:=hid h9
       have hrow9:=hst.tab.row.of_block (o2.block g hst.tab.row.lt fun e=>by rw [HFI.out] at e; exact HLF.out g hgb e.symm)
       have s1:=hrow9.cell hlt
       rw [HFI.out] at s1
       have z1:=hrow9.frozen i
       have hB9:=(zav HB6.out hk).grown o2 (by have:=(zav HB6.out hk).size; simpa using this) fun q e=>by rw [HFI.out] at e; have:=(hown.lt q e).1; omega
       have HB9:=hid (hB9.setCell (p:=⟨g,i,none⟩) (by show w.heap.size+1<=g; have:=HWG2.out; omega) (.slice A9 (j+1) c9))
       have hbl9:=Nat.le_trans (Nat.le_trans hbl6 hsz) o2.size
       rw [HFI.out] at o2;replace s0:=zac s0 o2 (HLF.out ob hob);replace s2:=zac s2 o2 (HLF.out nb HEL1.out.1);replace s3:=zac s3 o2 (HLF.out ab HEL1.out.2.1);replace s4:=zac s4 o2 (HLF.out nb HEL1.out.1);replace s5:=zac s5 o2 (HLF.out tb HEL1.out.2.2);replace c0:=zac c0 o2 HPF.out;replace c1:=zac c1 o2 HPF.out;replace c2:=zac c2 o2 HPF.out;clear hk hk2 hst hown o1 o2 o3 hsz hB9 h9 hrow9 HC HK2
       refine bkq hK ⟨s0,s2,s3,s4,s5,c0,c1,c2⟩ (h:=fun hHeld=>?_)
       clear hK K
       refine tkq 30 (h:=?_)
       refine rdq 31 (h:=fun K hK=>?_)
       go_simp
       obtain ⟨w10,hw10⟩:∃ W,W=w9.setCell ⟨g,i,none⟩ (.slice A9 (j+1) c9):=⟨_,rfl⟩
       rw [<-hw10] at HPUT HB9 ⊢
       have hbl10:bs<=w10.heap.size:=by rw [hw10]; simpa using hbl9
       replace s0:w10.cell? ⟨ob,1,none⟩=some (.slice (some ⟨g,0,none⟩) T.n T.n):=by rw [hw10]; exact zaa s0 hog
       replace s2:w10.cell? ⟨nb,no+i,none⟩=some (.slice (some ⟨ab,ao,none⟩) Wi ci):=by rw [hw10]; exact zaa s2 HEG.out.1
       replace s3:w10.cell? ⟨ab,ao+fn,none⟩=some (.int .i64 (a1:Nat)):=by rw [hw10]; exact zaa s3 HEG.out.2.1
       replace s4:w10.cell? ⟨nb,no+(i+1),none⟩=some (.slice (some ⟨tb,tO,none⟩) Wj cj):=by rw [hw10]; exact zaa s4 HEG.out.1
       replace s5:w10.cell? ⟨tb,tO+tn,none⟩=some (.int .i64 (a2:Nat)):=by rw [hw10]; exact zaa s5 HEG.out.2.2
       replace c0:w10.cell? ⟨pb,0,none⟩=some (.int .i64 (fn:Nat)):=by rw [hw10]; exact zaa c0 hpg
       replace c1:w10.cell? ⟨pb,1,none⟩=some (.int .i64 lv):=by rw [hw10]; exact zaa c1 hpg
       replace c2:w10.cell? ⟨pb,2,none⟩=some (.int .i64 (tn:Nat)):=by rw [hw10]; exact zaa c2 hpg
       clear s1 z1 hbl9 hw10
       refine bkq hK ⟨s0,s2,s3,s4,s5,c0,c1,c2⟩ (h:=fun hHeld=>?_)
       clear hK K
       refine wpAnyH_done (by kernel_rfl) ?_ _
       clear hHeld;clear s0 s2 s3 s4 s5 c0 c1 c2
       go_wp2
       go_roundg (gk - 1)
       case measure=>omega
       case rel=>exact ⟨j+1,by go_num,by omega,by omega,⟨_,HPUT.out⟩,HB9.out,hbl10⟩
      ·go_simp
       obtain ⟨w8,hw⟩:∃ W,W=World.alloc w7 (Obj.cells #[Value.int .i64 (a1:Nat),Value.int .i64 lv,Value.int .i64 (a2:Nat)] 90):=⟨_,rfl⟩
       have kb:Below w7.heap.size w7 w8:=by rw [hw]; exact (Below.refl _ _).alloc (Nat.le_refl _) _
       have HC:Hid (∀ W,Below w8.heap.size w8 W->∀ j',j'<3->W.cell? ((⟨w7.heap.size,0,none⟩:Addr).add j')=some (edgeCell (T.tri i) j j')):=fun W hb j' hj'=>by
        unfold edgeCell
        rw [HTRI.out]
        have hx:∀ q v,(#[Value.int .i64 (a1:Nat),Value.int .i64 lv,Value.int .i64 (a2:Nat)]:Array Value)[q]?=some v->W.cell? ⟨w7.heap.size,q,none⟩=some v:=fun q v hq=>cellS hb (by rw [hw]; exact tbox (Below.refl _ _) hq)
        match j',hj' with
        | 0,_=>exact hx 0 _ rfl
        | 1,_=>exact hx 1 _ rfl
        | 2,_=>exact hx 2 _ rfl
       rw [<-hw];clear hw
       obtain ⟨xb,hxb⟩:∃ b,b=w7.heap.size:=⟨_,rfl⟩
       rw [<-hxb] at HC ⊢;clear hxb
       have hk2:Below w8.heap.size w8 w8:=Below.refl _ _
       replace hk:=onS hk kb;replace s0:=cellS kb s0;replace s2:=cellS kb s2;replace s3:=cellS kb s3;replace s4:=cellS kb s4;replace s5:=cellS kb s5;replace c0:=cellS kb c0;replace c1:=cellS kb c1;replace c2:=cellS kb c2;replace s1:=cellS kb s1;replace hst:=hst.on kb;replace hown:=hown.on kb;clear kb
       refine bkq hK ⟨s0,s2,s3,s4,s5,c0,c1,c2⟩ (h:=fun hHeld=>?_)
       clear hK K
       refine rdq 7 (h:=fun K hK=>?_)
       go_simp
       refine bkq hK ⟨s0,s2,s3,s4,s5,c0,c1,c2⟩ (h:=fun hHeld=>?_)
       clear hK K
       refine rdq 29 (h:=fun K hK=>?_)
       have HK2:=hid (HC.out _ hk2)
       have hsz:=hk.size
       refine zbt (by rfl) (.tmp 39) (.tmp 60) (by rfl) hown (by rfl) (ad:=⟨xb,0,none⟩) (c:=1) (by rfl) HK2.out (Nat.le_trans hbl6 hsz) HJL.out ?_
       intro v9 w9 o1 o2 o3
       obtain ⟨A9,c9,hv9⟩:=o1.shape
       subst hv9
       rw [<-HFI.out] at o2 o3
       have h9:=hst.put hlt o1 o2 o3
       have HPUT:=hid h9
       have hrow9:=hst.tab.row.of_block (o2.block g hst.tab.row.lt fun e=>by rw [HFI.out] at e; exact HLF.out g hgb e.symm)
       have s1:=hrow9.cell hlt
       rw [HFI.out] at s1
       have z1:=hrow9.frozen i
       have hB9:=(zav HB6.out hk).grown o2 (by have:=(zav HB6.out hk).size; simpa using this) fun q e=>by rw [HFI.out] at e; have:=(hown.lt q e).1; omega
       have HB9:=hid (hB9.setCell (p:=⟨g,i,none⟩) (by show w.heap.size+1<=g; have:=HWG2.out; omega) (.slice A9 (j+1) c9))
       have hbl9:=Nat.le_trans (Nat.le_trans hbl6 hsz) o2.size
       rw [HFI.out] at o2;replace s0:=zac s0 o2 (HLF.out ob hob);replace s2:=zac s2 o2 (HLF.out nb HEL1.out.1);replace s3:=zac s3 o2 (HLF.out ab HEL1.out.2.1);replace s4:=zac s4 o2 (HLF.out nb HEL1.out.1);replace s5:=zac s5 o2 (HLF.out tb HEL1.out.2.2);replace c0:=zac c0 o2 HPF.out;replace c1:=zac c1 o2 HPF.out;replace c2:=zac c2 o2 HPF.out;clear hk hk2 hst hown o1 o2 o3 hsz hB9 h9 hrow9 HC HK2
       refine bkq hK ⟨s0,s2,s3,s4,s5,c0,c1,c2⟩ (h:=fun hHeld=>?_)
       clear hK K
       refine tkq 30 (h:=?_)
       refine rdq 31 (h:=fun K hK=>?_)
       go_simp
       obtain ⟨w10,hw10⟩:∃ W,W=w9.setCell ⟨g,i,none⟩ (.slice A9 (j+1) c9):=⟨_,rfl⟩
       rw [<-hw10] at HPUT HB9 ⊢
       have hbl10:bs<=w10.heap.size:=by rw [hw10]; simpa using hbl9
       replace s0:w10.cell? ⟨ob,1,none⟩=some (.slice (some ⟨g,0,none⟩) T.n T.n):=by rw [hw10]; exact zaa s0 hog
       replace s2:w10.cell? ⟨nb,no+i,none⟩=some (.slice (some ⟨ab,ao,none⟩) Wi ci):=by rw [hw10]; exact zaa s2 HEG.out.1
       replace s3:w10.cell? ⟨ab,ao+fn,none⟩=some (.int .i64 (a1:Nat)):=by rw [hw10]; exact zaa s3 HEG.out.2.1
       replace s4:w10.cell? ⟨nb,no+(i+1),none⟩=some (.slice (some ⟨tb,tO,none⟩) Wj cj):=by rw [hw10]; exact zaa s4 HEG.out.1
       replace s5:w10.cell? ⟨tb,tO+tn,none⟩=some (.int .i64 (a2:Nat)):=by rw [hw10]; exact zaa s5 HEG.out.2.2
       replace c0:w10.cell? ⟨pb,0,none⟩=some (.int .i64 (fn:Nat)):=by rw [hw10]; exact zaa c0 hpg
       replace c1:w10.cell? ⟨pb,1,none⟩=some (.int .i64 lv):=by rw [hw10]; exact zaa c1 hpg
       replace c2:w10.cell? ⟨pb,2,none⟩=some (.int .i64 (tn:Nat)):=by rw [hw10]; exact zaa c2 hpg
       clear s1 z1 hbl9 hw10
       refine bkq hK ⟨s0,s2,s3,s4,s5,c0,c1,c2⟩ (h:=fun hHeld=>?_)
       clear hK K
       refine wpAnyH_done (by kernel_rfl) ?_ _
       clear hHeld;clear s0 s2 s3 s4 s5 c0 c1 c2
       go_wp2
       go_roundg (gk - 1)
       case measure=>omega
       case rel=>exact ⟨j+1,by go_num,by omega,by omega,⟨_,HPUT.out⟩,HB9.out,hbl10⟩
     ·have hltj':¬ (j:Int)<(el:Int):=by omega
      obtain rfl:j=el:=by omega
      have hown:=hst.row hlt
      obtain ⟨FA,fc,hFi⟩:=hown.shape
      have s1:=hst.tab.row.cell hlt
      rw [hFi] at s1
      have s0:=hst.box.cell (i:=1) (by omega)
      rw [if_neg (by omega)] at s0
      have HFI:=hid hFi
      have HOW:=hid hown
      have HST2:=hid hst
      have HBJ:=hid hB
      have hj1:0<j:=by have:=HEP.out; rw [HEL.out]; exact this
      clear hown hst hFi hB
      go_wp2_with fail
      rw [<-HFI.out]
      refine (zcg j (T.tri i) wr bs (F i) HOW.out hj1 (by omega)).mono ?_
      rintro e w7 ⟨rfl,z,hz1,hz2,hz3,hz4⟩
      have hst:=HST2.out
      rw [HEL.out] at hst hz1 hz2 hz3
      have h7:=hst.sort hlt hz3 hz4
      have hsec:=SecRen.of_sort HP.out hlt hz1 hz2
      have hB7:=HBJ.out.grown hz4 (by have:=HBJ.out.size; simpa using this) fun q e=>by have:=(hst.tab.own i hlt).lt q e; omega
      have hbl7:bs<=w7.heap.size:=Nat.le_trans hbl hz4.size
      have HNX:Hid (∃ y F,Sorted T (i+1) y/\RnSt T g bs ob rb (i+1) 0 (.slice WA T.nw wl) y F w7):=⟨_,_,fun v hv=>by
       show SecRen T v (if v=i then z else y v)
       by_cases e:v=i
       ·subst e; rw [if_pos rfl]; exact hsec
       ·rw [if_neg e]; exact HSO.out v (by omega),h7⟩
      have HB7:=hid hB7
      clear hz1 hz2 hz3 hz4 h7 hsec hst hB7 s0 s1
      go_wp2
      go_roundg (gI - 1)
      case measure=>omega
      case rel=>exact ⟨i+1,by go_num,by omega,by omega,HNX,HB7.out,hbl7⟩
   ·have hlt':¬ (i:Int)<(T.n:Int):=by omega
    obtain rfl:i=T.n:=by omega
    obtain ⟨y,F,hso,hst⟩:=HST.out
    have y0:=hst.box.cell (i:=0) (by omega)
    have y1:=hst.box.cell (i:=1) (by omega)
    rw [if_pos rfl] at y0
    rw [if_neg (by omega)] at y1
    have r0:=hst.res.cell (i:=0) (by omega)
    have r1:=hst.res.cell (i:=1) (by omega)
    have z0:=hst.res.frozen 0
    have z1:=hst.res.frozen 1
    have q0:=hst.res.set 0 (.slice WA T.nw wl)
    have q1:=q0.cell (i:=1) (by omega)
    rw [if_neg (by omega)] at q1
    have q2:=q0.frozen 1
    have q3:=q0.set 1 (.slice (some ⟨g,0,none⟩) T.n T.n)
    have q4:=q3.cell (i:=0) (by omega)
    have q5:=q3.cell (i:=1) (by omega)
    rw [if_neg (by omega),if_pos rfl] at q4
    rw [if_pos rfl] at q5
    have HST2:=hid hst
    have HREN:Hid (IsRen T y):=hso
    have HBW:=hid hB
    clear hst hso hB hlt q0 q3 hW
    go_wp2
    refine bodyPost_ret (v:=.agg #[.slice WA T.nw wl,.slice (some ⟨g,0,none⟩) T.n T.n]) (by simp [results,Tryz.results84, go_sem,q4,q5]) rfl ?_
    have hE:=HST2.out.etab (by unfold maxLen; omega)
    have hr:=HST2.out.res
    have hwd:=HST2.out.wid
    have k1:=hwd.setCell (zag hr hwd (by decide)) (.slice WA T.nw wl) (a:=⟨rb,0,none⟩)
    have r1':=hr.set 0 (.slice WA T.nw wl)
    have k2:=k1.setCell (zag r1' k1 (by decide)) (.slice (some ⟨g,0,none⟩) T.n T.n) (a:=⟨rb,1,none⟩)
    have k3:=(hE.setCell (b:=rb) (i:=0) hr (by decide) (by decide) (.slice WA T.nw wl)).setCell (b:=rb) (i:=1) r1' (by decide) (by decide) (.slice (some ⟨g,0,none⟩) T.n T.n)
    refine ⟨?_,_,_,_,_,_,rfl,HREN.out,k3,k2⟩
    exact (HS.out _ ((HBW.out.setCell (p:=⟨rb,0,none⟩) (by rw [HRB.out]; exact Nat.le_refl _) _).setCell (p:=⟨rb,1,none⟩) (by rw [HRB.out]; exact Nat.le_refl _) _)).2
end Go.Proofs.YtgekjfpapmlndaaGreat