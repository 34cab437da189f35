/- Merged texts of a claim: Rename. -/
import Derived.Test.YtgekjfpapmlndaaGreatTZ11
namespace Go.Proofs.YtgekjfpapmlndaaGreat
set_option maxRecDepth 100000
set_option maxHeartbeats 32000000
open KA KB KC KD KE KF
open Go.RowKit
def RenPostN (T:Trel) (nf:Nat->Nat->Nat) (w:World) (e:Ending) (w':World):Prop :=
 Below w.heap.size w w'/\∃ y A' B' c' d',e=.returned (.agg #[.slice A' T.nw c',.slice B' T.n d'])/\IsF T nf y/\RenOut T y w' A' B' c' d'
def Sorted (T:Trel) (nf:Nat->Nat->Nat) (i:Nat) (y:Nat->Nat->Int × Int × Int):Prop:=∀ v,v<i->SecF T nf v (y v)
theorem zfa (T:Trel) (nf:Nat->Nat->Nat) (hf:∀ i,i<=T.n->∀ u v,u<(T.W i).toNat->v<(T.W i).toNat->nf i u=nf i v->u=v) (A B O:Option Addr) (c d nc:Nat) (w:World) (h:T.Reads w A B) (hP:T.Proper) (hc:T.nw<=c) (hN:IntRows w O (T.n+1) (fun i=>(T.W i).toNat) (fun i k=>(nf i k:Nat))) :
  Calls Tryz.prog 84 #[.agg #[.slice A T.nw c,.slice B T.n d],.slice O (T.n+1) nc] w (RenPostN T nf w):=by
 obtain ⟨RB,bc⟩:=exx ((Obj.cells #[.slice A T.nw c,.slice B T.n d] 53))
 have c8:Below (w.heap.size+1) (w.alloc RB) (w.alloc RB):=Below.refl _ _
 have HS:Hid (∀ w',Below (w.heap.size+1) (w.alloc RB) w'->(w'.cell? ⟨w.heap.size,0,none⟩=some (.slice A T.nw c)/\w'.cell? ⟨w.heap.size,1,none⟩=some (.slice B T.n d))/\Below w.heap.size w w'):=fun w' hB=>by
  have d2:=zaC hB
  subst bc
  exact ⟨⟨tbox hB rfl,tbox hB rfl⟩,d2⟩
 have HP:=hid hP
 have HF:=hid hf
 have HR:=hid h
 have HN:=hid hN
 have cs:=hP.shape.n64
 have db:=hid hP.shape.nw
 have cr:T.nw<=65:=by have:=db.out; omega
 have bq:=fun W=>zaf (P:=Tryz.prog) 51 86 _ 24 Tryz.underlying51 Tryz.infoEdges rfl (T.n:Int) (by omega) (by omega) (by omega) W
 simp only [Int.toNat_natCast] at bq
 clear h hP hN hf
 go_enter Tryz.func84, Tryz.ntmps84
 go_upto_region 1 with fail
 rw [<-bc];clear bc
 have a4:((w.alloc RB).alloc (Obj.cells #[.slice none 0 0,.slice none 0 0] 53)).rowIs (w.alloc RB).heap.size 53 2 (fun _=>.slice none 0 0):=World.rowIs_alloc (w.alloc RB) _ _ _ (fun i hi=>by
  match i,hi with
  | 0,_=>rfl
  | 1,_=>rfl)
 have bp:(w.alloc RB).heap.size=w.heap.size+1:=by simp
 rw [bp] at a4
 have bj:Below (w.alloc RB).heap.size (w.alloc RB) ((w.alloc RB).alloc (Obj.cells #[.slice none 0 0,.slice none 0 0] 53)):=(Below.refl _ _).alloc (Nat.le_refl _) _
 have bd:=zaF c8 bj
 obtain ⟨w4,bm⟩:=exx ((w.alloc RB).alloc (Obj.cells #[.slice none 0 0,.slice none 0 0] 53))
 rw [<-bm] at a4 bd ⊢
 obtain ⟨rb,av⟩:=exx (w.heap.size+1)
 rw [<-av] at a4 ⊢
 have cb:=hid av
 have cc:=hid a4
 have V:=hid bd
 clear bm bj bp c8 av a4 bd
 go_cut [5] (fun v5 wx=>∃ ob g WA wl,v5=.pointer (some ⟨ob,0,none⟩)/\Hid (RnSt T nf g wx.heap.size ob rb 0 0 (.slice WA T.nw wl) (fun _ _=>(0,0,0)) (fun _=>.slice none 0 0) wx)/\Below w4.heap.size w4 wx/\w4.heap.size<=g)
 case first =>
  obtain ⟨⟨p0,p1⟩,_⟩:=HS.out _ V.out
  have hb:Below w4.heap.size w4 w4:=Below.refl _ _
  have NR:Hid (∀ w',Below w4.heap.size w4 w'->IntsR w' w'.heap.size A T.nw T.W):=fun w' hb=>(HR.out.on (HS.out _ (zaF V.out hb)).2).1
  have dp:w.heap.size<w4.heap.size:=za5 V.out
  refine wp_region_held_drew (S:=fun w'=>w'.cell? ⟨w.heap.size,0,none⟩=some (.slice A T.nw c)/\w'.cell? ⟨w.heap.size,1,none⟩=some (.slice B T.n d)) (by kernel_rfl) ⟨cellS (Below.refl _ _).drew p0,cellS (Below.refl _ _).drew p1⟩ (fun hHeld=>?_)
  obtain ⟨w5,hw,kb⟩:=dwx w4
  rw [<-hw] at hHeld ⊢;clear hw;replace hb:=onS hb kb;replace p0:=cellS kb p0;replace p1:=cellS kb p1;clear kb
  refine tkq 0 (h:=tkq 1 (h:=tkq 3 (h:=tkq 4 (h:=tkq 5 (h:=?_)))))
  refine wpAnyH_ready (rs:=[2,6,8]) (by kernel_rfl) (by simp) ?_
  refine AllReadyH.cons (by simp only [List.getElem?_toArray,List.getElem?_cons_succ,List.getElem?_cons_zero]; rfl) (fun K hK=>?_) (AllReadyH.cons (by simp only [List.getElem?_toArray,List.getElem?_cons_succ,List.getElem?_cons_zero]; rfl) (fun K hK=>?_) (AllReadyH.cons (by simp only [List.getElem?_toArray,List.getElem?_cons_succ,List.getElem?_cons_zero]; rfl) (fun K hK=>?_) AllReadyH.nil))
  focus
   go_simp
   go_wp2_with fail
   refine (zaA A T.nw c T.W w5 (NR.out _ hb) hc (by omega)).mono ?_
   rintro e w6 ⟨WA,wc,rfl,o2,kb⟩
   replace hb:=onS hb kb;replace p0:=cellS kb p0;replace p1:=cellS kb p1;clear kb;replace o2:=o2.mono (base':=0) (Nat.zero_le _)
   refine bkq hK ⟨p0,p1⟩ (h:=fun hHeld=>?_)
   clear hK K
   refine rdq2 6 8 (h:=fun K hK=>?_) (h2:=fun K hK=>?_)
   focus
    go_simp
    obtain ⟨w7,hw⟩:=exx (World.alloc w6 (Obj.cells (madeCells #[Value.slice none 0 0] T.n) 86))
    have kb:=alx hw
    have hg:w7.rowIs w6.heap.size 86 T.n (fun _=>.slice none 0 0):=by rw [hw]; exact World.rowIs_made w6 (.slice none 0 0) T.n 86
    rw [<-hw];clear hw
    obtain ⟨g,r⟩:=exx w6.heap.size
    rw [<-r] at hg ⊢
    have hq:=hb.size
    have a6:w4.heap.size<=g:=by omega
    clear r hq;replace hb:=onS hb kb;replace p0:=cellS kb p0;replace p1:=cellS kb p1;replace o2:=o2.on kb;clear kb
    refine bkq hK ⟨p0,p1⟩ (h:=fun hHeld=>?_)
    clear hK K
    refine tkq 7 (h:=?_)
    refine rdq 8 (h:=fun K hK=>?_)
    go_simp
    obtain ⟨w8,hw⟩:=exx (World.alloc w7 (Obj.cells #[.slice none 0 0,.slice none 0 0] 53))
    have kb:=alx hw
    have hx:w8.rowIs w7.heap.size 53 2 (fun _=>.slice none 0 0):=by rw [hw]; exact World.rowIs_alloc w7 _ _ _ (fun i hi=>by
     match i,hi with
     | 0,_=>rfl
     | 1,_=>rfl)
    have hq:=hb.size
    rw [<-hw];clear hw
    obtain ⟨ob,s⟩:=exx w7.heap.size
    rw [<-s] at hx ⊢
    have Q:w4.heap.size<=ob:=by omega
    clear s hq;replace hg:=zab hg kb;replace hb:=onS hb kb;replace p0:=cellS kb p0;replace p1:=cellS kb p1;replace o2:=o2.on kb;clear kb
    refine bkq hK ⟨p0,p1⟩ (h:=fun hHeld=>?_)
    clear hK K
   rotate_left
   focus
    go_simp
    obtain ⟨w7,hw⟩:=exx (World.alloc w6 (Obj.cells #[.slice none 0 0,.slice none 0 0] 53))
    have kb:=alx hw
    have hx:w7.rowIs w6.heap.size 53 2 (fun _=>.slice none 0 0):=by rw [hw]; exact World.rowIs_alloc w6 _ _ _ (fun i hi=>by
     match i,hi with
     | 0,_=>rfl
     | 1,_=>rfl)
    have hq:=hb.size
    rw [<-hw];clear hw
    obtain ⟨ob,s⟩:=exx w6.heap.size
    rw [<-s] at hx ⊢
    have Q:w4.heap.size<=ob:=by omega
    clear s hq;replace hb:=onS hb kb;replace p0:=cellS kb p0;replace p1:=cellS kb p1;replace o2:=o2.on kb;clear kb
    refine bkq hK ⟨p0,p1⟩ (h:=fun hHeld=>?_)
    clear hK K
    refine rdq 6 (h:=fun K hK=>?_)
    go_simp
    obtain ⟨w8,hw⟩:=exx (World.alloc w7 (Obj.cells (madeCells #[Value.slice none 0 0] T.n) 86))
    have kb:=alx hw
    have hg:w8.rowIs w7.heap.size 86 T.n (fun _=>.slice none 0 0):=by rw [hw]; exact World.rowIs_made w7 (.slice none 0 0) T.n 86
    rw [<-hw];clear hw
    obtain ⟨g,r⟩:=exx w7.heap.size
    rw [<-r] at hg ⊢
    have hq:=hb.size
    have a6:w4.heap.size<=g:=by omega
    clear r hq;replace hx:=zab hx kb;replace hb:=onS hb kb;replace p0:=cellS kb p0;replace p1:=cellS kb p1;replace o2:=o2.on kb;clear kb
    refine bkq hK ⟨p0,p1⟩ (h:=fun hHeld=>?_)
    clear hK K
    refine tkq 7 (h:=?_)
   rotate_left
  rotate_left 2
  focus
   go_simp
   obtain ⟨w6,hw⟩:=exx (World.alloc w5 (Obj.cells (madeCells #[Value.slice none 0 0] T.n) 86))
   have kb:=alx hw
   have hg:w6.rowIs w5.heap.size 86 T.n (fun _=>.slice none 0 0):=by rw [hw]; exact World.rowIs_made w5 (.slice none 0 0) T.n 86
   rw [<-hw];clear hw
   obtain ⟨g,r⟩:=exx w5.heap.size
   rw [<-r] at hg ⊢
   have hq:=hb.size
   have a6:w4.heap.size<=g:=by omega
   clear r hq;replace hb:=onS hb kb;replace p0:=cellS kb p0;replace p1:=cellS kb p1;clear kb
   refine bkq hK ⟨p0,p1⟩ (h:=fun hHeld=>?_)
   clear hK K
   refine rdq2 2 8 (h:=fun K hK=>?_) (h2:=fun K hK=>?_)
   focus
    go_simp
    go_wp2_with fail
    refine (zaA A T.nw c T.W w6 (NR.out _ hb) hc (by omega)).mono ?_
    rintro e w7 ⟨WA,wc,rfl,o2,kb⟩
    replace hg:=zab hg kb;replace hb:=onS hb kb;replace p0:=cellS kb p0;replace p1:=cellS kb p1;clear kb;replace o2:=o2.mono (base':=0) (Nat.zero_le _)
    refine bkq hK ⟨p0,p1⟩ (h:=fun hHeld=>?_)
    clear hK K
    refine tkq 7 (h:=?_)
    refine rdq 8 (h:=fun K hK=>?_)
    go_simp
    obtain ⟨w8,hw⟩:=exx (World.alloc w7 (Obj.cells #[.slice none 0 0,.slice none 0 0] 53))
    have kb:=alx hw
    have hx:w8.rowIs w7.heap.size 53 2 (fun _=>.slice none 0 0):=by rw [hw]; exact World.rowIs_alloc w7 _ _ _ (fun i hi=>by
     match i,hi with
     | 0,_=>rfl
     | 1,_=>rfl)
    have hq:=hb.size
    rw [<-hw];clear hw
    obtain ⟨ob,s⟩:=exx w7.heap.size
    rw [<-s] at hx ⊢
    have Q:w4.heap.size<=ob:=by omega
    clear s hq;replace hg:=zab hg kb;replace hb:=onS hb kb;replace p0:=cellS kb p0;replace p1:=cellS kb p1;replace o2:=o2.on kb;clear kb
    refine bkq hK ⟨p0,p1⟩ (h:=fun hHeld=>?_)
    clear hK K
   rotate_left
   focus
    go_simp
    obtain ⟨w7,hw⟩:=exx (World.alloc w6 (Obj.cells #[.slice none 0 0,.slice none 0 0] 53))
    have kb:=alx hw
    have hx:w7.rowIs w6.heap.size 53 2 (fun _=>.slice none 0 0):=by rw [hw]; exact World.rowIs_alloc w6 _ _ _ (fun i hi=>by
     match i,hi with
     | 0,_=>rfl
     | 1,_=>rfl)
    have hq:=hb.size
    rw [<-hw];clear hw
    obtain ⟨ob,s⟩:=exx w6.heap.size
    rw [<-s] at hx ⊢
    have Q:w4.heap.size<=ob:=by omega
    clear s hq;replace hg:=zab hg kb;replace hb:=onS hb kb;replace p0:=cellS kb p0;replace p1:=cellS kb p1;clear kb
    refine bkq hK ⟨p0,p1⟩ (h:=fun hHeld=>?_)
    clear hK K
    refine rdq 2 (h:=fun K hK=>?_)
    go_simp
    go_wp2_with fail
    refine (zaA A T.nw c T.W w7 (NR.out _ hb) hc (by omega)).mono ?_
    rintro e w8 ⟨WA,wc,rfl,o2,kb⟩
    replace hg:=zab hg kb;replace hx:=zab hx kb;replace hb:=onS hb kb;replace p0:=cellS kb p0;replace p1:=cellS kb p1;clear kb;replace o2:=o2.mono (base':=0) (Nat.zero_le _)
    refine bkq hK ⟨p0,p1⟩ (h:=fun hHeld=>?_)
    clear hK K
    refine tkq 7 (h:=?_)
   rotate_left
  rotate_left 2
  focus
   go_simp
   obtain ⟨w6,hw⟩:=exx (World.alloc w5 (Obj.cells #[.slice none 0 0,.slice none 0 0] 53))
   have kb:=alx hw
   have hx:w6.rowIs w5.heap.size 53 2 (fun _=>.slice none 0 0):=by rw [hw]; exact World.rowIs_alloc w5 _ _ _ (fun i hi=>by
    match i,hi with
    | 0,_=>rfl
    | 1,_=>rfl)
   have hq:=hb.size
   rw [<-hw];clear hw
   obtain ⟨ob,s⟩:=exx w5.heap.size
   rw [<-s] at hx ⊢
   have Q:w4.heap.size<=ob:=by omega
   clear s hq;replace hb:=onS hb kb;replace p0:=cellS kb p0;replace p1:=cellS kb p1;clear kb
   refine bkq hK ⟨p0,p1⟩ (h:=fun hHeld=>?_)
   clear hK K
   refine rdq2 2 6 (h:=fun K hK=>?_) (h2:=fun K hK=>?_)
   focus
    go_simp
    go_wp2_with fail
    refine (zaA A T.nw c T.W w6 (NR.out _ hb) hc (by omega)).mono ?_
    rintro e w7 ⟨WA,wc,rfl,o2,kb⟩
    replace hx:=zab hx kb;replace hb:=onS hb kb;replace p0:=cellS kb p0;replace p1:=cellS kb p1;clear kb;replace o2:=o2.mono (base':=0) (Nat.zero_le _)
    refine bkq hK ⟨p0,p1⟩ (h:=fun hHeld=>?_)
    clear hK K
    refine rdq 6 (h:=fun K hK=>?_)
    go_simp
    obtain ⟨w8,hw⟩:=exx (World.alloc w7 (Obj.cells (madeCells #[Value.slice none 0 0] T.n) 86))
    have kb:=alx hw
    have hg:w8.rowIs w7.heap.size 86 T.n (fun _=>.slice none 0 0):=by rw [hw]; exact World.rowIs_made w7 (.slice none 0 0) T.n 86
    rw [<-hw];clear hw
    obtain ⟨g,r⟩:=exx w7.heap.size
    rw [<-r] at hg ⊢
    have hq:=hb.size
    have a6:w4.heap.size<=g:=by omega
    clear r hq;replace hx:=zab hx kb;replace hb:=onS hb kb;replace p0:=cellS kb p0;replace p1:=cellS kb p1;replace o2:=o2.on kb;clear kb
   rotate_left
   focus
    go_simp
    obtain ⟨w7,hw⟩:=exx (World.alloc w6 (Obj.cells (madeCells #[Value.slice none 0 0] T.n) 86))
    have kb:=alx hw
    have hg:w7.rowIs w6.heap.size 86 T.n (fun _=>.slice none 0 0):=by rw [hw]; exact World.rowIs_made w6 (.slice none 0 0) T.n 86
    rw [<-hw];clear hw
    obtain ⟨g,r⟩:=exx w6.heap.size
    rw [<-r] at hg ⊢
    have hq:=hb.size
    have a6:w4.heap.size<=g:=by omega
    clear r hq;replace hx:=zab hx kb;replace hb:=onS hb kb;replace p0:=cellS kb p0;replace p1:=cellS kb p1;clear kb
    refine bkq hK ⟨p0,p1⟩ (h:=fun hHeld=>?_)
    clear hK K
    refine rdq 2 (h:=fun K hK=>?_)
    go_simp
    go_wp2_with fail
    refine (zaA A T.nw c T.W w7 (NR.out _ hb) hc (by omega)).mono ?_
    rintro e w8 ⟨WA,wc,rfl,o2,kb⟩
    replace hx:=zab hx kb;replace hg:=zab hg kb;replace hb:=onS hb kb;replace p0:=cellS kb p0;replace p1:=cellS kb p1;clear kb;replace o2:=o2.mono (base':=0) (Nat.zero_le _)
   rotate_left
   all_goals
    refine bkq hK ⟨p0,p1⟩ (h:=fun hHeld=>?_)
    clear hK K
    refine tkq 7 (h:=?_)
  rotate_left 2
  all_goals
   refine rdq 9 (h:=fun K hK=>?_)
   have Y:=hx.set 0 (Value.slice WA T.nw wc)
   have bk:=Y.set 1 (Value.slice (some ⟨g,0,none⟩) T.n T.n)
   have c0:=hx.cell (i:=0) (by omega)
   have c1:=hx.cell (i:=1) (by omega)
   have z0:=hx.frozen 0
   have z1:=hx.frozen 1
   have d1:=Y.cell (i:=1) (by omega)
   rw [if_neg (by omega)] at d1
   have f1:=Y.frozen 1
   have d3:=hid bk
   have o8:=o2.setCell (a:=⟨ob,0,none⟩) (zam hx o2 (by decide)) (Value.slice WA T.nw wc)
   have o9:=o8.setCell (a:=⟨ob,1,none⟩) (zam Y o8 (by decide)) (Value.slice (some ⟨g,0,none⟩) T.n T.n)
   have bv:=zaG hg hx (by decide)
   have g9:=(hg.setOther (a:=⟨ob,0,none⟩) (by simpa using bv) (Value.slice WA T.nw wc)).setOther (a:=⟨ob,1,none⟩) (by simpa using bv) (Value.slice (some ⟨g,0,none⟩) T.n T.n)
   have b9:=(hb.setCell (p:=⟨ob,0,none⟩) Q (Value.slice WA T.nw wc)).setCell (p:=⟨ob,1,none⟩) Q (Value.slice (some ⟨g,0,none⟩) T.n T.n)
   replace p0:=zaa (p:=⟨ob,1,none⟩) (u:=(Value.slice (some ⟨g,0,none⟩) T.n T.n)) (zaa (p:=⟨ob,0,none⟩) (u:=(Value.slice WA T.nw wc)) p0 (by show w.heap.size≠ob; omega)) (by show w.heap.size≠ob; omega)
   replace p1:=zaa (p:=⟨ob,1,none⟩) (u:=(Value.slice (some ⟨g,0,none⟩) T.n T.n)) (zaa (p:=⟨ob,0,none⟩) (u:=(Value.slice WA T.nw wc)) p1 (by show w.heap.size≠ob; omega)) (by show w.heap.size≠ob; omega)
   have d9:=hid o9
   have dh:=hid g9
   have ag:=hid b9
   clear Y bk o2 o8 o9 hg g9 hb b9 hx
   go_simp
   clear c0 c1 z0 z1 d1 f1
   refine bkq hK ⟨p0,p1⟩ (h:=fun hHeld=>?_)
   clear hK K
   refine wpAnyH_done (by kernel_rfl) ?_ _
   clear hHeld
   go_wp2_with fail
   go_meet
   exact ⟨ob,g,WA,wc,rfl,RnSt.start (cc.out.of_block (ag.out.block rb cc.out.lt)) (d3.out.congr fun k hk=>by
    match k,hk with
    | 0,_=>rfl
    | 1,_=>rfl) d9.out dh.out,ag.out,a6⟩
 obtain ⟨ob,g,WA,wl,rfl,R,c4,du⟩:=hcut
 have d6:Hid (¬ g<w.heap.size):=by show ¬ _; have:=za5 V.out; omega
 have be:Hid (w.heap.size+1<=g):=by show _<=_; have:=za5 V.out; omega
 have hB:=zaF V.out c4
 obtain ⟨bs,bz⟩:=exx wc.heap.size
 have H:bs<=wc.heap.size:=by omega
 have dn:w.heap.size<bs:=by have:=za5 hB; omega
 rw [<-bz] at R
 have ca:Hid (∃ y F,Sorted T nf 0 y/\RnSt T nf g bs ob rb 0 0 (.slice WA T.nw wl) y F wc):=⟨_,_,fun v hv=>absurd hv (by omega),R.out⟩
 obtain ⟨⟨p0,p1⟩,hW⟩:=HS.out _ hB
 clear bq bz R c4
 go_wp2
 go_loopg [21] T.n (fun gg iv wx=>∃ i:Nat,iv=.int .i64 (i:Nat)/\i<=T.n/\T.n<=i+gg/\Hid (∃ y F,Sorted T nf i y/\RnSt T nf g bs ob rb i 0 (.slice WA T.nw wl) y F wx)/\Below (w.heap.size+1) (w.alloc RB) wx/\bs<=wx.heap.size)
 case atStart=>exact ⟨0,rfl,by omega,by omega,ca,hB,H⟩
 clear ca hB H p0 p1 hW
 obtain ⟨gI,cw⟩:=exx gk
 subst cw
 obtain ⟨i,rfl,hi,ds,R,hB,H⟩:=hrel
 have dt:(0:Int)<=(i:Int):=by omega
 obtain ⟨⟨p0,p1⟩,hW⟩:=HS.out _ hB
 by_cases hlt:i<T.n
 rotate_left
 ·have b1:¬ (i:Int)<(T.n:Int):=by omega
  obtain rfl:i=T.n:=by omega
  obtain ⟨y,F,a0,l⟩:=R.out
  have y0:=l.box.cell (i:=0) (by omega)
  have y1:=l.box.cell (i:=1) (by omega)
  rw [if_pos rfl] at y0
  rw [if_neg (by omega)] at y1
  have r0:=l.res.cell (i:=0) (by omega)
  have r1:=l.res.cell (i:=1) (by omega)
  have z0:=l.res.frozen 0
  have z1:=l.res.frozen 1
  have q0:=l.res.set 0 (.slice WA T.nw wl)
  have q1:=q0.cell (i:=1) (by omega)
  rw [if_neg (by omega)] at q1
  have q2:=q0.frozen 1
  have q3:=q0.set 1 (.slice (some ⟨g,0,none⟩) T.n T.n)
  have q4:=q3.cell (i:=0) (by omega)
  have q5:=q3.cell (i:=1) (by omega)
  rw [if_neg (by omega),if_pos rfl] at q4
  rw [if_pos rfl] at q5
  have D:=hid l
  have bf:Hid (IsF T nf y):=a0
  have dk:=hid hB
  clear l a0 hB hlt q0 q3 hW
  go_wp2
  refine bodyPost_ret (v:=.agg #[.slice WA T.nw wl,.slice (some ⟨g,0,none⟩) T.n T.n]) (by simp [results,Tryz.results84, go_sem,q4,q5]) rfl ?_
  have hE:=D.out.etab (by unfold maxLen; omega)
  have hr:=D.out.res
  have bl:=D.out.wid
  have k1:=bl.setCell (zam hr bl (by decide)) (.slice WA T.nw wl) (a:=⟨rb,0,none⟩)
  have r1':=hr.set 0 (.slice WA T.nw wl)
  have k2:=k1.setCell (zam r1' k1 (by decide)) (.slice (some ⟨g,0,none⟩) T.n T.n) (a:=⟨rb,1,none⟩)
  have k3:=(hE.setCell (b:=rb) (i:=0) hr (by decide) (by decide) (.slice WA T.nw wl)).setCell (b:=rb) (i:=1) r1' (by decide) (by decide) (.slice (some ⟨g,0,none⟩) T.n T.n)
  refine ⟨?_,_,_,_,_,_,rfl,bf.out,k3,k2⟩
  exact (HS.out _ ((dk.out.setCell (p:=⟨rb,0,none⟩) (by rw [cb.out]; exact Nat.le_refl _) _).setCell (p:=⟨rb,1,none⟩) (by rw [cb.out]; exact Nat.le_refl _) _)).2
 have b1:(i:Int)<(T.n:Int):=by omega
 obtain ⟨y,F,a0,l⟩:=R.out
 have d7:=hid a0
 obtain ⟨eb,eo,E,ec,cy,bx,x0,cz,dv,b5,_⟩:=HR.out.sec hlt
 obtain ⟨nb,no,Ai,ci,hO,az,n0,_,_,aj,_⟩:=HN.out i (by omega)
 obtain ⟨nb2,no2,Aj,cj,ac,_,n1,_,_,G,_⟩:=HN.out (i+1) (by omega)
 subst cy hO
 injection ac with ac
 injection ac with ac hO3
 subst ac hO3
 have cx:=HP.out.shape.elb hlt
 have di:=hid (HP.out.el_pos hlt)
 have x0r:=(hW.cell (p:=⟨eb,eo+i,none⟩) bx).trans x0
 obtain ⟨el,L⟩:=exx (T.el i)
 have bi:=hid L
 obtain ⟨Wi,bb⟩:=exx ((T.W i).toNat)
 obtain ⟨Wj,ba⟩:=exx ((T.W (i+1)).toNat)
 have d5:=hid bb
 have d4:=hid ba
 have ch:=hW.size
 change w.cell? _=some (Value.slice Ai (T.W i).toNat ci) at n0
 change IntsR w w.heap.size Ai (T.W i).toNat (fun k=>(nf i k:Nat)) at aj
 change w.cell? _=some (Value.slice Aj (T.W (i+1)).toNat cj) at n1
 change IntsR w w.heap.size Aj (T.W (i+1)).toNat (fun k=>(nf (i+1) k:Nat)) at G
 rw [<-L] at x0 x0r cz b5 cx;rw [<-bb] at n0 aj;rw [<-ba] at n1 G
 have dc:=hid aj
 have bh:=hid G
 have dj:=hid b5
 have dw:=hid x0
 have de:=hid n0
 have dd:=hid n1
 have ce:Hid (∃ F,RnSt T nf g bs ob rb i 0 (.slice WA T.nw wl) y F wr):=⟨F,l⟩
 have cl:(i:Int)+1<(T.n:Int)+1:=by omega
 have ct:(0:Int)<=(i:Int)+1:=by omega
 have ck:IntKind.i64.wrap ((i:Int)+1)=(i:Int)+1:=IntWalk.i64_in _ (by omega)
 have co:((i:Int)+1).toNat=i+1:=by omega
 have cv:(i:Int)<(T.n:Int)+1:=by omega
 clear L bb ba aj G b5 x0 n0 n1 l a0 p0 p1
 go_wp2
 go_loopg [28] el (fun gg jv wx=>∃ j:Nat,jv=.int .i64 (j:Nat)/\j<=el/\el<=j+gg/\Hid (∃ F,RnSt T nf g bs ob rb i j (.slice WA T.nw wl) y F wx)/\Below (w.heap.size+1) (w.alloc RB) wx/\bs<=wx.heap.size)
 case atStart=>exact ⟨0,rfl,by omega,by omega,ce,hB,H⟩
 clear ce hB H hW x0r ch
 obtain ⟨j,rfl,hj,dq,dg,hB,H⟩:=hrel
 have dr:(0:Int)<=(j:Int):=by omega
 obtain ⟨_,hW⟩:=HS.out _ hB
 obtain ⟨F,l⟩:=dg.out
 by_cases hltj:j<el
 rotate_left
 ·have a5:¬ (j:Int)<(el:Int):=by omega
  obtain rfl:j=el:=by omega
  have m:=l.row hlt
  obtain ⟨FA,fc,J⟩:=m.shape
  have s1:=l.tab.row.cell hlt
  rw [J] at s1
  have s0:=l.box.cell (i:=1) (by omega)
  rw [if_neg (by omega)] at s0
  have M:=hid J
  have d8:=hid m
  have D:=hid l
  have cf:=hid hB
  have cu:0<j:=by have:=di.out; rw [bi.out]; exact this
  clear m l J hB
  go_wp2_with fail
  rw [<-M.out]
  refine (zb7 j (T.triF nf i) wr bs (F i) d8.out cu (by omega)).mono ?_
  rintro e w7 ⟨rfl,z,ap,an,am,ah⟩
  have l:=D.out
  rw [bi.out] at l ap an am
  have h7:=l.sort hlt am ah
  have a3:=SecF.of_sort HP.out hlt (HF.out i (by omega)) ap an
  have c6:=cf.out.grown ah (by have:=cf.out.size; simpa using this) fun q e=>by have:=(l.tab.own i hlt).lt q e; omega
  have b6:bs<=w7.heap.size:=Nat.le_trans H ah.size
  have da:Hid (∃ y F,Sorted T nf (i+1) y/\RnSt T nf g bs ob rb (i+1) 0 (.slice WA T.nw wl) y F w7):=⟨_,_,fun v hv=>by
   show SecF T nf v (if v=i then z else y v)
   by_cases e:v=i
   ·subst e; rw [if_pos rfl]; exact a3
   ·rw [if_neg e]; exact d7.out v (by omega),h7⟩
  have dl:=hid c6
  clear ap an am ah h7 a3 l c6 s0 s1
  go_wp2
  go_roundg (gI - 1)
  case measure=>omega
  case rel=>exact ⟨i+1,by go_num,by omega,by omega,da,dl.out,b6⟩
 have a5:(j:Int)<(el:Int):=by omega
 obtain ⟨b9,o9,rfl,d0,y0,y1,y2⟩:=zba ((Rd.below dj.out hW (Nat.le_refl _)).mono hW.size) hltj
 have C:j<T.el i:=by rw [<-bi.out]; exact hltj
 have ai:=HP.out.toL hlt C
 have ak:=HP.out.frL hlt C
 obtain ⟨tn,ar⟩:=exx ((T.to i j).toNat)
 obtain ⟨fn,b3⟩:=exx ((T.fr i j).toNat)
 obtain ⟨lv,b0⟩:=exx (T.lb i j)
 rw [<-ar,<-d4.out] at ai;rw [<-b3,<-d5.out] at ak;rw [<-ai.2] at y2;rw [<-ak.2] at y0;rw [<-b0] at y1
 have au:=ai.1
 have bn:(tn:Int)<(Wj:Int):=by omega
 have b4:=ak.1
 have bw:(fn:Int)<(Wi:Int):=by omega
 obtain ⟨ab,ao,rfl,c3,s3⟩:=dc.out.at b4
 obtain ⟨tb,tO,rfl,bo,s5⟩:=bh.out.at au
 replace s3:=(hW.cell (p:=⟨ab,ao+fn,none⟩) c3).trans s3;replace s5:=(hW.cell (p:=⟨tb,tO+tn,none⟩) bo).trans s5
 have s2:=(hW.cell (p:=⟨nb,no+i,none⟩) az).trans de.out
 have s4:=(hW.cell (p:=⟨nb,no+(i+1),none⟩) az).trans dd.out
 obtain ⟨a1,b8⟩:=exx (nf i fn)
 obtain ⟨a2,b7⟩:=exx (nf (i+1) tn)
 rw [<-b8] at s3;rw [<-b7] at s5
 have Z:T.triF nf i j=(((a1:Nat):Int),lv,((a2:Nat):Int)):=by
  show (((nf i (T.fr i j).toNat:Nat):Int),T.lb i j,((nf (i+1) (T.to i j).toNat:Nat):Int))=_
  rw [<-b3,<-ar,<-b0,<-b8,<-b7]
 have ae:=hid Z
 have m:=l.row hlt
 obtain ⟨FA,fc,J⟩:=m.shape
 rw [J] at m
 have s1:=l.tab.row.cell hlt
 rw [J] at s1
 have s0:=l.box.cell (i:=1) (by omega)
 rw [if_neg (by omega)] at s0
 have M:=hid J
 have cq:=l.hob
 have r:=l.hg
 clear ai ak Z ar b3 b0 b8 b7 C J
 go_upto_region 8 with fail
 obtain ⟨OB,aa⟩:=exx ((Obj.cells #[Value.int .i64 (fn:Nat),Value.int .i64 lv,Value.int .i64 (tn:Nat)] 90))
 rw [<-aa]
 have kb:=aly wr OB
 have c0:(wr.alloc OB).cell? ⟨wr.heap.size,0,none⟩=some (.int .i64 (fn:Nat)):=by subst aa; exact tbox (Below.refl _ _) rfl
 have c1:(wr.alloc OB).cell? ⟨wr.heap.size,1,none⟩=some (.int .i64 lv):=by subst aa; exact tbox (Below.refl _ _) rfl
 have c2:(wr.alloc OB).cell? ⟨wr.heap.size,2,none⟩=some (.int .i64 (tn:Nat)):=by subst aa; exact tbox (Below.refl _ _) rfl
 obtain ⟨w6,aq⟩:=exx (wr.alloc OB)
 have ax:(Value.slice FA j fc).ownBlock≠some wr.heap.size:=fun e=>by have:=(m.lt _ e).2; omega
 have br:∀ b,b<bs->(Value.slice FA j fc).ownBlock≠some b:=fun b hb e=>by have:=(m.lt _ e).1; omega
 have bu:=l.tab.row.lt
 have bt:wr.heap.size<w6.heap.size:=by rw [aq]; simp
 obtain ⟨pb,ay⟩:=exx wr.heap.size
 have N:=H
 rw [<-ay] at c0 c1 c2 ax bu bt N;rw [<-aq] at kb c0 c1 c2 ⊢;rw [<-ay]
 have aw:pb≠g:=by omega
 have a8:bs<=w6.heap.size:=by omega
 have c7:=zaF hB kb
 replace l:=l.on kb;replace m:=m.on kb;replace s0:=cellS kb s0;replace s1:=cellS kb s1;replace s2:=cellS kb s2;replace s3:=cellS kb s3;replace s4:=cellS kb s4;replace s5:=cellS kb s5
 have hk:Below w6.heap.size w6 w6:=Below.refl _ _
 have bg:=hid ax
 have U:=hid br
 have cg:=hid c7
 have cp:ob≠g:=zaG l.box l.tab.row (by decide)
 have cm:=hW.size
 have dm:w.heap.size<=g:=by
  have:=l.hg
  rcases Nat.lt_or_ge g w.heap.size with h1 | h1
  ·exact absurd h1 d6.out
  ·exact h1
 have al:Hid (nb≠g/\ab≠g/\tb≠g):=by show _/\_/\_; omega
 have I:Hid (nb<bs/\ab<bs/\tb<bs):=by show _/\_/\_; omega
 have df:Hid (j<=1048576):=by show _<=_; omega
 clear ay aq aa kb y0 y1 y2 hW d0 hB ax br c7 H bu bt N az c3 bo bx cm
 refine wp_region_held_drew (S:=fun w'=>w'.cell? ⟨ob,1,none⟩=some (.slice (some ⟨g,0,none⟩) T.n T.n)/\w'.cell? ⟨nb,no+i,none⟩=some (.slice (some ⟨ab,ao,none⟩) Wi ci)/\w'.cell? ⟨ab,ao+fn,none⟩=some (.int .i64 (a1:Nat))/\w'.cell? ⟨nb,no+(i+1),none⟩=some (.slice (some ⟨tb,tO,none⟩) Wj cj)/\w'.cell? ⟨tb,tO+tn,none⟩=some (.int .i64 (a2:Nat))/\w'.cell? ⟨pb,0,none⟩=some (.int .i64 (fn:Nat))/\w'.cell? ⟨pb,1,none⟩=some (.int .i64 lv)/\w'.cell? ⟨pb,2,none⟩=some (.int .i64 (tn:Nat))) (by kernel_rfl) ⟨cellS (Below.refl _ _).drew s0,cellS (Below.refl _ _).drew s2,cellS (Below.refl _ _).drew s3,cellS (Below.refl _ _).drew s4,cellS (Below.refl _ _).drew s5,cellS (Below.refl _ _).drew c0,cellS (Below.refl _ _).drew c1,cellS (Below.refl _ _).drew c2⟩ (fun hHeld=>?_)
 obtain ⟨w7,hw,kb⟩:=dwx w6
 rw [<-hw] at hHeld ⊢;clear hw;replace hk:=onS hk kb;replace s0:=cellS kb s0;replace s2:=cellS kb s2;replace s3:=cellS kb s3;replace s4:=cellS kb s4;replace s5:=cellS kb s5;replace c0:=cellS kb c0;replace c1:=cellS kb c1;replace c2:=cellS kb c2;replace s1:=cellS kb s1;replace l:=l.on kb;replace m:=m.on kb;clear kb
 refine tkq 0 (h:=tkq 1 (h:=tkq 2 (h:=tkq 3 (h:=tkq 4 (h:=tkq 5 (h:=tkq 6 (h:=tkq 8 (h:=tkq 9 (h:=tkq 10 (h:=tkq 11 (h:=tkq 12 (h:=tkq 13 (h:=tkq 14 (h:=tkq 15 (h:=tkq 16 (h:=tkq 17 (h:=tkq 18 (h:=tkq 19 (h:=tkq 20 (h:=tkq 21 (h:=tkq 22 (h:=tkq 23 (h:=tkq 24 (h:=tkq 25 (h:=tkq 26 (h:=tkq 27 (h:=?_)))))))))))))))))))))))))))
 refine rdq2 7 28 (h:=fun K hK=>?_) (h2:=fun K hK=>?_)
 focus
  go_simp
  refine bkq hK ⟨s0,s2,s3,s4,s5,c0,c1,c2⟩ (h:=fun hHeld=>?_)
  clear hK K
  refine rdq 28 (h:=fun K hK=>?_)
  go_simp
  obtain ⟨w8,hw⟩:=exx (World.alloc w7 (Obj.cells #[Value.int .i64 (a1:Nat),Value.int .i64 lv,Value.int .i64 (a2:Nat)] 90))
  have kb:=alx hw
  have HC:Hid (∀ W,Below w8.heap.size w8 W->∀ j',j'<3->W.cell? ((⟨w7.heap.size,0,none⟩:Addr).add j')=some (edgeCell (T.triF nf i) j j')):=fun W hb j' hj'=>by
   unfold edgeCell
   rw [ae.out]
   have hx:∀ q v,(#[Value.int .i64 (a1:Nat),Value.int .i64 lv,Value.int .i64 (a2:Nat)]:Array Value)[q]?=some v->W.cell? ⟨w7.heap.size,q,none⟩=some v:=fun q v hq=>cellS hb (by rw [hw]; exact tbox (Below.refl _ _) hq)
   match j',hj' with
   | 0,_=>exact hx 0 _ rfl
   | 1,_=>exact hx 1 _ rfl
   | 2,_=>exact hx 2 _ rfl
  rw [<-hw];clear hw
  obtain ⟨xb,X⟩:=exx w7.heap.size
  rw [<-X] at HC ⊢;clear X
  have b2:Below w8.heap.size w8 w8:=Below.refl _ _
  replace hk:=onS hk kb;replace s0:=cellS kb s0;replace s2:=cellS kb s2;replace s3:=cellS kb s3;replace s4:=cellS kb s4;replace s5:=cellS kb s5;replace c0:=cellS kb c0;replace c1:=cellS kb c1;replace c2:=cellS kb c2;replace s1:=cellS kb s1;replace l:=l.on kb;replace m:=m.on kb;clear kb
 rotate_left
 focus
  go_simp
  obtain ⟨w8,hw⟩:=exx (World.alloc w7 (Obj.cells #[Value.int .i64 (a1:Nat),Value.int .i64 lv,Value.int .i64 (a2:Nat)] 90))
  have kb:=alx hw
  have HC:Hid (∀ W,Below w8.heap.size w8 W->∀ j',j'<3->W.cell? ((⟨w7.heap.size,0,none⟩:Addr).add j')=some (edgeCell (T.triF nf i) j j')):=fun W hb j' hj'=>by
   unfold edgeCell
   rw [ae.out]
   have hx:∀ q v,(#[Value.int .i64 (a1:Nat),Value.int .i64 lv,Value.int .i64 (a2:Nat)]:Array Value)[q]?=some v->W.cell? ⟨w7.heap.size,q,none⟩=some v:=fun q v hq=>cellS hb (by rw [hw]; exact tbox (Below.refl _ _) hq)
   match j',hj' with
   | 0,_=>exact hx 0 _ rfl
   | 1,_=>exact hx 1 _ rfl
   | 2,_=>exact hx 2 _ rfl
  rw [<-hw];clear hw
  obtain ⟨xb,X⟩:=exx w7.heap.size
  rw [<-X] at HC ⊢;clear X
  have b2:Below w8.heap.size w8 w8:=Below.refl _ _
  replace hk:=onS hk kb;replace s0:=cellS kb s0;replace s2:=cellS kb s2;replace s3:=cellS kb s3;replace s4:=cellS kb s4;replace s5:=cellS kb s5;replace c0:=cellS kb c0;replace c1:=cellS kb c1;replace c2:=cellS kb c2;replace s1:=cellS kb s1;replace l:=l.on kb;replace m:=m.on kb;clear kb
  refine bkq hK ⟨s0,s2,s3,s4,s5,c0,c1,c2⟩ (h:=fun hHeld=>?_)
  clear hK K
  refine rdq 7 (h:=fun K hK=>?_)
  go_simp
 rotate_left
 all_goals
  refine bkq hK ⟨s0,s2,s3,s4,s5,c0,c1,c2⟩ (h:=fun hHeld=>?_)
  clear hK K
  refine rdq 29 (h:=fun K hK=>?_)
  have cd:=hid (HC.out _ b2)
  have N:=hk.size
  refine zcx (by rfl) (.tmp 39) (.tmp 60) (by rfl) m (by rfl) (ad:=⟨xb,0,none⟩) (c:=1) (by rfl) cd.out (Nat.le_trans a8 N) df.out ?_
  intro v9 w9 o1 o2 o3
  obtain ⟨A9,c9,cn⟩:=o1.shape
  subst cn
  rw [<-M.out] at o2 o3
  have h9:=l.put hlt o1 o2 o3
  have af:=hid h9
  have x:=l.tab.row.of_block (o2.block g l.tab.row.lt fun e=>by rw [M.out] at e; exact U.out g r e.symm)
  have s1:=x.cell hlt
  rw [M.out] at s1
  have z1:=x.frozen i
  have c5:=(zaF cg.out hk).grown o2 (by have:=(zaF cg.out hk).size; simpa using this) fun q e=>by rw [M.out] at e; have:=(m.lt q e).1; omega
  have ag:=hid (c5.setCell (p:=⟨g,i,none⟩) (by show w.heap.size+1<=g; have:=be.out; omega) (.slice A9 (j+1) c9))
  have a7:=Nat.le_trans (Nat.le_trans a8 N) o2.size
  rw [M.out] at o2;replace s0:=zac s0 o2 (U.out ob cq);replace s2:=zac s2 o2 (U.out nb I.out.1);replace s3:=zac s3 o2 (U.out ab I.out.2.1);replace s4:=zac s4 o2 (U.out nb I.out.1);replace s5:=zac s5 o2 (U.out tb I.out.2.2);replace c0:=zac c0 o2 bg.out;replace c1:=zac c1 o2 bg.out;replace c2:=zac c2 o2 bg.out;clear hk b2 l m o1 o2 o3 N c5 h9 x HC cd
  refine bkq hK ⟨s0,s2,s3,s4,s5,c0,c1,c2⟩ (h:=fun hHeld=>?_)
  clear hK K
  refine tkq 30 (h:=?_)
  refine rdq 31 (h:=fun K hK=>?_)
  go_simp
  obtain ⟨w10,o⟩:=exx (w9.setCell ⟨g,i,none⟩ (.slice A9 (j+1) c9))
  rw [<-o] at af ag ⊢
  have a9:bs<=w10.heap.size:=by rw [o]; simpa using a7
  replace s0:w10.cell? ⟨ob,1,none⟩=some (.slice (some ⟨g,0,none⟩) T.n T.n):=by rw [o]; exact zaa s0 cp
  replace s2:w10.cell? ⟨nb,no+i,none⟩=some (.slice (some ⟨ab,ao,none⟩) Wi ci):=by rw [o]; exact zaa s2 al.out.1
  replace s3:w10.cell? ⟨ab,ao+fn,none⟩=some (.int .i64 (a1:Nat)):=by rw [o]; exact zaa s3 al.out.2.1
  replace s4:w10.cell? ⟨nb,no+(i+1),none⟩=some (.slice (some ⟨tb,tO,none⟩) Wj cj):=by rw [o]; exact zaa s4 al.out.1
  replace s5:w10.cell? ⟨tb,tO+tn,none⟩=some (.int .i64 (a2:Nat)):=by rw [o]; exact zaa s5 al.out.2.2
  replace c0:w10.cell? ⟨pb,0,none⟩=some (.int .i64 (fn:Nat)):=by rw [o]; exact zaa c0 aw
  replace c1:w10.cell? ⟨pb,1,none⟩=some (.int .i64 lv):=by rw [o]; exact zaa c1 aw
  replace c2:w10.cell? ⟨pb,2,none⟩=some (.int .i64 (tn:Nat)):=by rw [o]; exact zaa c2 aw
  clear s1 z1 a7 o
  refine bkq hK ⟨s0,s2,s3,s4,s5,c0,c1,c2⟩ (h:=fun hHeld=>?_)
  clear hK K
  refine wpAnyH_done (by kernel_rfl) ?_ _
  clear hHeld;clear s0 s2 s3 s4 s5 c0 c1 c2
  go_wp2
  go_roundg (gk - 1)
  case measure=>omega
  case rel=>exact ⟨j+1,by go_num,by omega,by omega,⟨_,af.out⟩,ag.out,a9⟩
def RenPost (T:Trel) (w:World) (e:Ending) (w':World):Prop :=
 Below w.heap.size w w'/\∃ y A' B' c' d',e=.returned (.agg #[.slice A' T.nw c',.slice B' T.n d'])/\IsRen T y/\RenOut T y w' A' B' c' d'
theorem zfY (T:Trel) (A B O:Option Addr) (c d nc:Nat) (w:World) (h:T.Reads w A B) (hP:T.Proper) (hc:T.nw<=c) (hN:IntRows w O (T.n+1) (fun i=>(T.W i).toNat) (fun i k=>(T.nm i k:Nat))) :
  Calls Tryz.prog 84 #[.agg #[.slice A T.nw c,.slice B T.n d],.slice O (T.n+1) nc] w (RenPost T w) :=
 zfa T T.nm (fun _ hi=>hP.nm_inj hi) A B O c d nc w h hP hc hN
end Go.Proofs.YtgekjfpapmlndaaGreat