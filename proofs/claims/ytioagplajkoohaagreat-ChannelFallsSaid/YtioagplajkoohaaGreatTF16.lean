/- Merged texts of a claim: FallsLaw. -/
import Derived.Test.YtioagplajkoohaaGreatTF14
import Derived.Test.YtioagplajkoohaaGreatTF15
namespace Go.Proofs.YtioagplajkoohaaGreat
set_option maxRecDepth 100000
set_option maxHeartbeats 32000000
open KA KB KC KD KE KF
open Go.RowKit Go.ChangeShapes Go.WideShapes Go.ChangeAt
theorem zjO {a b:Rat}:0<=rsign (a - b)↔b<=a:=by
 rw [zbF]
 constructor <;> intro h <;> grind
theorem zdq (P M:Int) (A:Option Addr) (k c:Nat) (f:Nat->Int) (N:Int) (T:Option Addr) (n d:Nat) (ln:Nat->Nat) (V:Nat->Nat->Int) (s:Bool) (XA:Option Addr) (xl xc:Nat) (XB:Option Addr) (yl yc:Nat) (p:Rat) (s2:Bool) (YA:Option Addr) (xl2 xc2:Nat) (YB:Option Addr) (yl2 yc2:Nat) (p':Rat) (w:World)
  (hr:IntsR w w.heap.size A k f) (h:IntRows w T n ln V) (hp:∀ L,xl<=L->yl<=L->RatRaw w w.heap.size (.agg #[.bool s,.slice XA xl xc,.slice XB yl yc]) p L) (hp':∀ L,xl2<=L->yl2<=L->RatRaw w w.heap.size (.agg #[.bool s2,.slice YA xl2 xc2,.slice YB yl2 yc2]) p' L) :
  Calls Tryz.prog 5 #[.agg #[.int .i64 P,.int .i64 M,.slice A k c,.int .i64 N,.slice T n d],.agg #[.bool s,.slice XA xl xc,.slice XB yl yc],.agg #[.bool s2,.slice YA xl2 xc2,.slice YB yl2 yc2]] w fun e w'=>e=.returned (.bool true)/\Below w.heap.size w w':=by
 have HT:=hid h
 have HR:=hid hr
 have HP:=hid hp
 have HP':=hid hp'
 clear h hr hp hp'
 have rf:=zbN (w:=w) (a:=.int .i64 P) (b:=.int .i64 M) (c:=.slice A k c) (d:=.int .i64 N) (e:=.slice T n d) (T := 27)
 have hB:Below w.heap.size w (w.alloc (.cells #[.int .i64 P,.int .i64 M,.slice A k c,.int .i64 N,.slice T n d] 27)):=(Below.refl _ _).alloc (Nat.le_refl _) _
 have hsz:(w.alloc (.cells #[.int .i64 P,.int .i64 M,.slice A k c,.int .i64 N,.slice T n d] 27)).heap.size=w.heap.size+1:=by simp
 obtain ⟨w0,hw0⟩:∃ W,W=w.alloc (.cells #[.int .i64 P,.int .i64 M,.slice A k c,.int .i64 N,.slice T n d] 27):=⟨_,rfl⟩
 have rp:=zae (w:=w0) (a:=.bool s) (b:=.slice XA xl xc) (c:=.slice XB yl yc) (T := 49)
 have kb:=zab w0 (.cells #[.bool s,.slice XA xl xc,.slice XB yl yc] 49)
 have hsz2:(w0.alloc (.cells #[.bool s,.slice XA xl xc,.slice XB yl yc] 49)).heap.size=w0.heap.size+1:=by simp
 obtain ⟨w1,hw1⟩:∃ W,W=w0.alloc (.cells #[.bool s,.slice XA xl xc,.slice XB yl yc] 49):=⟨_,rfl⟩
 have rq:=zae (w:=w1) (a:=.bool s2) (b:=.slice YA xl2 xc2) (c:=.slice YB yl2 yc2) (T := 49)
 have kb2:=zab w1 (.cells #[.bool s2,.slice YA xl2 xc2,.slice YB yl2 yc2] 49)
 obtain ⟨w2,hw2⟩:∃ W,W=w1.alloc (.cells #[.bool s2,.slice YA xl2 xc2,.slice YB yl2 yc2] 49):=⟨_,rfl⟩
 rw [<-hw0] at hB rf hsz;rw [<-hw1] at rp kb hsz2;rw [<-hw2] at rq kb2;rw [hsz] at rp hsz2;rw [hsz2] at rq;replace rf:=zaa (zaa rf kb) kb2;replace rp:=zaa rp kb2;replace hB:=onS (onS hB kb) kb2
 go_enter Tryz.func5, Tryz.ntmps5
 go_upto_region 1 with fail
 rw [<-hw0,<-hw1,<-hw2];clear hw0 hw1 hw2 kb kb2 hsz hsz2
 by_cases hN10:N > 10
 ·have hN':decide (N > 10)=true:=by simpa using hN10
  refine wp_region_held_drew (S:=fun w'=>w'.cell? ⟨w.heap.size,0,none⟩=some (.int .i64 P)/\w'.cell? ⟨w.heap.size,1,none⟩=some (.int .i64 M)/\w'.cell? ⟨w.heap.size,2,none⟩=some (.slice A k c)/\w'.cell? ⟨w.heap.size,3,none⟩=some (.int .i64 N)/\w'.cell? ⟨w.heap.size,4,none⟩=some (.slice T n d)/\w'.cell? ⟨w.heap.size+1,0,none⟩=some (.bool s)/\w'.cell? ⟨w.heap.size+1,1,none⟩=some (.slice XA xl xc)/\w'.cell? ⟨w.heap.size+1,2,none⟩=some (.slice XB yl yc)/\w'.cell? ⟨w.heap.size+1+1,0,none⟩=some (.bool s2)/\w'.cell? ⟨w.heap.size+1+1,1,none⟩=some (.slice YA xl2 xc2)/\w'.cell? ⟨w.heap.size+1+1,2,none⟩=some (.slice YB yl2 yc2)) (by kernel_rfl) ⟨(zaa rf (Below.refl _ _).drew).cell (i:=0) (by omega),(zaa rf (Below.refl _ _).drew).cell (i:=1) (by omega),(zaa rf (Below.refl _ _).drew).cell (i:=2) (by omega),(zaa rf (Below.refl _ _).drew).cell (i:=3) (by omega),(zaa rf (Below.refl _ _).drew).cell (i:=4) (by omega),(zaa rp (Below.refl _ _).drew).cell (i:=0) (by omega),(zaa rp (Below.refl _ _).drew).cell (i:=1) (by omega),(zaa rp (Below.refl _ _).drew).cell (i:=2) (by omega),(zaa rq (Below.refl _ _).drew).cell (i:=0) (by omega),(zaa rq (Below.refl _ _).drew).cell (i:=1) (by omega),(zaa rq (Below.refl _ _).drew).cell (i:=2) (by omega)⟩ (fun hHeld=>?_)
  obtain ⟨w3,hw⟩:∃ W,W=World.drew w2:=⟨_,rfl⟩
  have kb:Below w2.heap.size w2 w3:=by rw [hw]; exact (Below.refl _ _).drew
  rw [<-hw] at hHeld ⊢;clear hw;replace rf:=zaa rf kb;replace rp:=zaa rp kb;replace rq:=zaa rq kb;replace hB:=onS hB kb;clear kb
  refine tkq 0 (h:=tkq 1 (h:=tkq 2 (h:=tkq 3 (h:=tkn 4 (h:=tkn 5 (h:=tkn 6 (h:=tkq 7 (h:=tkq 8 (h:=tkn 9 (h:=tkn 10 (h:=tkn 11 (h:=tkq 12 (h:=tkq 13 (h:=tkn 14 (h:=tkn 15 (h:=tkn 16 (h:=tkq 17 (h:=tkq 18 (h:=tkn 19 (h:=tkn 20 (h:=tkn 21 (h:=tkn 22 (h:=tkq 23 (h:=tkq 24 (h:=tkn 25 (h:=tkn 26 (h:=tkn 27 (h:=tkn 28 (h:=tkq 29 (h:=?_))))))))))))))))))))))))))))))
  refine wpAnyH_done (by kernel_rfl) ?_ _
  clear hHeld
  go_wp2
  go_ret
  exact ⟨rfl,hB⟩
 have hN':decide (N > 10)=false:=by simpa using hN10
 obtain ⟨sv,hsv⟩:∃ sv,(decide (xl<=4) && decide (yl<=4))=sv:=⟨_,rfl⟩
 have HSV:=hid hsv
 obtain ⟨sw,hsw⟩:∃ sv,(decide (xl2<=4) && decide (yl2<=4))=sv:=⟨_,rfl⟩
 have HSW:=hid hsw
 clear hsv hsw
 refine wp_region_held_drew (S:=fun w'=>w'.cell? ⟨w.heap.size,0,none⟩=some (.int .i64 P)/\w'.cell? ⟨w.heap.size,1,none⟩=some (.int .i64 M)/\w'.cell? ⟨w.heap.size,2,none⟩=some (.slice A k c)/\w'.cell? ⟨w.heap.size,3,none⟩=some (.int .i64 N)/\w'.cell? ⟨w.heap.size,4,none⟩=some (.slice T n d)/\w'.cell? ⟨w.heap.size+1,0,none⟩=some (.bool s)/\w'.cell? ⟨w.heap.size+1,1,none⟩=some (.slice XA xl xc)/\w'.cell? ⟨w.heap.size+1,2,none⟩=some (.slice XB yl yc)/\w'.cell? ⟨w.heap.size+1+1,0,none⟩=some (.bool s2)/\w'.cell? ⟨w.heap.size+1+1,1,none⟩=some (.slice YA xl2 xc2)/\w'.cell? ⟨w.heap.size+1+1,2,none⟩=some (.slice YB yl2 yc2)) (by kernel_rfl) ⟨(zaa rf (Below.refl _ _).drew).cell (i:=0) (by omega),(zaa rf (Below.refl _ _).drew).cell (i:=1) (by omega),(zaa rf (Below.refl _ _).drew).cell (i:=2) (by omega),(zaa rf (Below.refl _ _).drew).cell (i:=3) (by omega),(zaa rf (Below.refl _ _).drew).cell (i:=4) (by omega),(zaa rp (Below.refl _ _).drew).cell (i:=0) (by omega),(zaa rp (Below.refl _ _).drew).cell (i:=1) (by omega),(zaa rp (Below.refl _ _).drew).cell (i:=2) (by omega),(zaa rq (Below.refl _ _).drew).cell (i:=0) (by omega),(zaa rq (Below.refl _ _).drew).cell (i:=1) (by omega),(zaa rq (Below.refl _ _).drew).cell (i:=2) (by omega)⟩ (fun hHeld=>?_)
 obtain ⟨w3,hw⟩:∃ W,W=World.drew w2:=⟨_,rfl⟩
 have kb:Below w2.heap.size w2 w3:=by rw [hw]; exact (Below.refl _ _).drew
 rw [<-hw] at hHeld ⊢;clear hw;replace rf:=zaa rf kb;replace rp:=zaa rp kb;replace rq:=zaa rq kb;replace hB:=onS hB kb;clear kb
 refine tkq 0 (h:=tkq 1 (h:=tkq 2 (h:=tkq 3 (h:=tkq 4 (h:=?_)))))
 refine rdq 5 (h:=fun K hK=>?_)
 go_simp
 go_wp2_with fail
 refine (zdH sv s XA XB xl xc yl yc w3 HSV).mono ?_
 rintro e w4 ⟨rfl,kb⟩
 replace rf:=zaa rf kb;replace rp:=zaa rp kb;replace rq:=zaa rq kb;replace hB:=onS hB kb;clear kb
 refine bkq hK ⟨qc0 rf,qc1 rf,qc2 rf,qc3 rf,qc4 rf,qc0 rp,qc1 rp,qc2 rp,qc0 rq,qc1 rq,qc2 rq⟩ (h:=fun hHeld=>?_)
 clear hK K
 cases sv
 ·refine tkq 6 (h:=tkq 7 (h:=tkq 8 (h:=tkn 9 (h:=tkn 10 (h:=tkn 11 (h:=tkq 12 (h:=tkq 13 (h:=tkn 14 (h:=tkn 15 (h:=tkn 16 (h:=tkq 17 (h:=tkq 18 (h:=tkn 19 (h:=tkn 20 (h:=tkn 21 (h:=tkn 22 (h:=tkq 23 (h:=tkq 24 (h:=tkn 25 (h:=tkn 26 (h:=tkn 27 (h:=tkn 28 (h:=tkq 29 (h:=?_))))))))))))))))))))))))
  refine wpAnyH_done (by kernel_rfl) ?_ _
  clear hHeld
  go_wp2
  go_ret
  exact ⟨rfl,hB⟩
 refine tkq 6 (h:=tkq 7 (h:=tkq 8 (h:=tkq 9 (h:=?_))))
 refine rdq 10 (h:=fun K hK=>?_)
 go_simp
 go_wp2_with fail
 refine (zdH sw s2 YA YB xl2 xc2 yl2 yc2 w4 HSW).mono ?_
 rintro e w5 ⟨rfl,kb⟩
 replace rf:=zaa rf kb;replace rp:=zaa rp kb;replace rq:=zaa rq kb;replace hB:=onS hB kb;clear kb
 refine bkq hK ⟨qc0 rf,qc1 rf,qc2 rf,qc3 rf,qc4 rf,qc0 rp,qc1 rp,qc2 rp,qc0 rq,qc1 rq,qc2 rq⟩ (h:=fun hHeld=>?_)
 clear hK K
 cases sw
 ·refine tkq 11 (h:=tkq 12 (h:=tkq 13 (h:=tkn 14 (h:=tkn 15 (h:=tkn 16 (h:=tkq 17 (h:=tkq 18 (h:=tkn 19 (h:=tkn 20 (h:=tkn 21 (h:=tkn 22 (h:=tkq 23 (h:=tkq 24 (h:=tkn 25 (h:=tkn 26 (h:=tkn 27 (h:=tkn 28 (h:=tkq 29 (h:=?_)))))))))))))))))))
  refine wpAnyH_done (by kernel_rfl) ?_ _
  clear hHeld
  go_wp2
  go_ret
  exact ⟨rfl,hB⟩
 have hsh:xl<=4/\yl<=4:=by have:=HSV.out; simpa using this
 have HPR:=hid (HP.out 4 hsh.1 hsh.2)
 have hsh2:xl2<=4/\yl2<=4:=by have:=HSW.out; simpa using this
 have HPR':=hid (HP'.out 4 hsh2.1 hsh2.2)
 clear hsh hsh2 HSV HSW HP HP'
 refine tkq 11 (h:=tkq 12 (h:=tkq 13 (h:=tkq 14 (h:=?_))))
 refine rdq 15 (h:=fun K hK=>?_)
 go_simp
 go_wp2_with fail
 refine (zf7 P M A k c f N T n d ln V w5 (HR.out.on hB) (HT.out.on hB)).mono ?_
 rintro e w6 ⟨v,rfl,hv,kb⟩
 have HV:=hid hv
 clear hv;replace rf:=zaa rf kb;replace rp:=zaa rp kb;replace rq:=zaa rq kb;replace hB:=onS hB kb;clear kb
 by_cases hv0:¬ v=0
 ·have hvn:(v != 0)=true:=by simpa using hv0
  clear hv0
  refine bkq hK ⟨qc0 rf,qc1 rf,qc2 rf,qc3 rf,qc4 rf,qc0 rp,qc1 rp,qc2 rp,qc0 rq,qc1 rq,qc2 rq⟩ (h:=fun hHeld=>?_)
  clear hK K
  refine tkq 16 (h:=tkq 17 (h:=tkq 18 (h:=tkn 19 (h:=tkn 20 (h:=tkn 21 (h:=tkn 22 (h:=tkq 23 (h:=tkq 24 (h:=tkn 25 (h:=tkn 26 (h:=tkn 27 (h:=tkn 28 (h:=tkq 29 (h:=?_))))))))))))))
  refine wpAnyH_done (by kernel_rfl) ?_ _
  clear hHeld
  go_wp2
  go_ret
  exact ⟨rfl,hB⟩
 obtain rfl:v=0:=by omega
 clear hv0
 have hsp:rsz p 4:=RatRaw.rsz HPR.out (by omega)
 have hsp':rsz p' 4:=RatRaw.rsz HPR'.out (by omega)
 obtain ⟨b1,hb1⟩:∃ b,(decide (0<=rsign p) && decide (rsign (p - p')<=0))=b:=⟨_,rfl⟩
 have HB1:=hid hb1
 obtain ⟨one,hone⟩:∃ y:Rat,y=((1:Int):Rat):=⟨_,rfl⟩
 have hs1:rsz one 10:=by rw [hone]; exact (show rsz (1:Rat) 1 from zg5).mono (by omega)
 have HONE:=hid hone
 obtain ⟨b2,hb2⟩:∃ b,(decide (0<=rsign p') && decide (rsign (p' - one)<=0))=b:=⟨_,rfl⟩
 have HB2:=hid hb2
 clear hb1 hb2 hone
 refine bkq hK ⟨qc0 rf,qc1 rf,qc2 rf,qc3 rf,qc4 rf,qc0 rp,qc1 rp,qc2 rp,qc0 rq,qc1 rq,qc2 rq⟩ (h:=fun hHeld=>?_)
 clear hK K
 refine tkq 16 (h:=tkq 17 (h:=tkq 18 (h:=tkq 19 (h:=tkq 20 (h:=?_)))))
 refine rdq 21 (h:=fun K hK=>?_)
 go_simp
 go_wp2_with fail
 refine (zcd b1 _ _ p p' 10 w6 ((HPR.out.mono (show 4<=10 by omega)).on hB) ((HPR'.out.mono (show 4<=10 by omega)).on hB) (by omega) (hsp.mono (by omega)) (hsp'.mono (by omega)) HB1).mono ?_
 rintro e w7 ⟨rfl,kb⟩
 replace rf:=zaa rf kb;replace rp:=zaa rp kb;replace rq:=zaa rq kb;replace hB:=onS hB kb;clear kb
 refine bkq hK ⟨qc0 rf,qc1 rf,qc2 rf,qc3 rf,qc4 rf,qc0 rp,qc1 rp,qc2 rp,qc0 rq,qc1 rq,qc2 rq⟩ (h:=fun hHeld=>?_)
 clear hK K
 cases b1
 ·refine tkq 22 (h:=tkq 23 (h:=tkq 24 (h:=tkn 25 (h:=tkn 26 (h:=tkn 27 (h:=tkn 28 (h:=tkq 29 (h:=?_))))))))
  refine wpAnyH_done (by kernel_rfl) ?_ _
  clear hHeld
  go_wp2
  go_ret
  exact ⟨rfl,hB⟩
 refine tkq 22 (h:=tkq 23 (h:=tkq 24 (h:=tkq 25 (h:=?_))))
 refine rdq 26 (h:=fun K hK=>?_)
 go_simp
 go_wp2_with fail
 refine (zbi 1 w7 (by omega) (by omega)).mono ?_
 rintro e w8 ⟨Aj,cj,Bj,dj,rfl,mj1,mj2,mj3,mj4,mj5,mj6,kb⟩
 rw [<-HONE.out] at mj1 mj2 mj3 mj5 ⊢
 have HJ:=hid (zaH mj1 mj2 mj3 mj4 mj5 mj6 hs1)
 clear mj1 mj2 mj3 mj4 mj5 mj6;replace rf:=zaa rf kb;replace rp:=zaa rp kb;replace rq:=zaa rq kb;replace hB:=onS hB kb;clear kb
 refine bkq hK ⟨qc0 rf,qc1 rf,qc2 rf,qc3 rf,qc4 rf,qc0 rp,qc1 rp,qc2 rp,qc0 rq,qc1 rq,qc2 rq⟩ (h:=fun hHeld=>?_)
 clear hK K
 refine rdq 27 (h:=fun K hK=>?_)
 go_simp
 go_wp2_with fail
 refine (zcd b2 _ _ p' one 10 w8 ((HPR'.out.mono (show 4<=10 by omega)).on hB) HJ.out (by omega) (hsp'.mono (by omega)) hs1 HB2).mono ?_
 rintro e w9 ⟨rfl,kb⟩
 clear HJ;replace rf:=zaa rf kb;replace rp:=zaa rp kb;replace rq:=zaa rq kb;replace hB:=onS hB kb;clear kb
 refine bkq hK ⟨qc0 rf,qc1 rf,qc2 rf,qc3 rf,qc4 rf,qc0 rp,qc1 rp,qc2 rp,qc0 rq,qc1 rq,qc2 rq⟩ (h:=fun hHeld=>?_)
 clear hK K
 cases b2
 ·refine tkq 28 (h:=tkq 29 (h:=?_))
  refine wpAnyH_done (by kernel_rfl) ?_ _
  clear hHeld
  go_wp2
  go_ret
  exact ⟨rfl,hB⟩
 refine tkq 28 (h:=tkq 29 (h:=?_))
 refine wpAnyH_done (by kernel_rfl) ?_ _
 clear hHeld
 have hrange:0<=p/\p<=p'/\p'<=1:=by
  have h1:=HB1.out
  have h2:=HB2.out
  rw [HONE.out] at h2
  simp only [Bool.and_eq_true,decide_eq_true_eq] at h1 h2
  exact ⟨zbF.1 h1.1,zen.1 h1.2,zen.1 h2.2⟩
 have HRG:=hid hrange
 clear hrange HB1 HB2
 have q0:=qc0 rf
 have q1:=qc1 rf
 have q2:=qc2 rf
 have q3:=qc3 rf
 have q4:=qc4 rf
 go_wp2_with fail
 refine (zgm P M A k c f N T n d ln V w9 (HR.out.on hB) (HT.out.on hB)).mono ?_
 rintro e w10 ⟨kb,hcase⟩
 clear q0 q1 q2 q3 q4
 obtain ⟨P,M,N,rfl,rfl,rfl,hC⟩:=zgJ HR.out HT.out HV.out
 rcases hcase with ⟨v,hv0,hv1,_⟩ | ⟨_,h16,_⟩ | ⟨_,h16,hres⟩
 ·exact absurd (FirstErr.unique hv1 HV.out) hv0
 ·exact absurd h16 (by omega)
 obtain ⟨RA,rc,rfl,hl⟩:=hres P M N rfl rfl rfl
 replace rf:=zaa rf kb;replace rp:=zaa rp kb;replace rq:=zaa rq kb;replace hB:=onS hB kb;clear kb
 have hLL:=fieldLaws hC.fld
 have hrref:=hC.rref
 have hN64:=hC.ln2
 obtain ⟨ev,hev⟩:∃ ev:Rat->Rat,ev=fun x=>evR (wtP 2 N (recC P M (fun i=>(f i).toNat) n (natT V) N) (N+1)).2 x (wtP 2 N (recC P M (fun i=>(f i).toNat) n (natT V) N) (N+1)).1:=⟨_,rfl⟩
 have hvals:=zhF hLL hrref HRG.out.1 HRG.out.2.1 HRG.out.2.2 ev (fun x=>by rw [hev])
 have hdx:∀ k,k<=N->dl (recC P M (fun i=>(f i).toNat) n (natT V) N k)<=8:=fun k _=>by
  have h1:recC P M (fun i=>(f i).toNat) n (natT V) N k<=2 ^ N:=zhz _ _ k N 0 0 _
  have h2:2 ^ N<=2 ^ 16:=Nat.pow_le_pow_right (by omega) (by omega)
  have:=zjH (x:=recC P M (fun i=>(f i).toNat) n (natT V) N k) (by omega)
  omega
 have hs:∀ i,i<(wtP 2 N (recC P M (fun i=>(f i).toNat) n (natT V) N) (N+1)).1->rsz ((wtP 2 N (recC P M (fun i=>(f i).toNat) n (natT V) N) (N+1)).2 i) 7000:=zg9 fun i=>(zkr (by omega) (by omega) hN64 hdx (N+1) (Nat.le_refl _) i).mono (by omega)
 have hwl:=ziJ 2 N (recC P M (fun i=>(f i).toNat) n (natT V) N) (N+1)
 obtain ⟨L1,hL1⟩:∃ l,l=(wtP 2 N (recC P M (fun i=>(f i).toNat) n (natT V) N) (N+1)).1:=⟨_,rfl⟩
 obtain ⟨S1,hS1⟩:∃ l,l=(wtP 2 N (recC P M (fun i=>(f i).toNat) n (natT V) N) (N+1)).2:=⟨_,rfl⟩
 rw [<-hL1,<-hS1] at hl hs hev;rw [<-hL1] at hwl ⊢
 have fit:∀ x:Rat,rsz x 4->EvalFits S1 L1 x 100000:=fun x hx=>evalFits (E:=7000) (N:=4) hs hx (by have h1:L1*4<=14*4:=Nat.mul_le_mul_right 4 (by omega); have:L1*(L1*4+7000+4+3)<=14*(14*4+7000+4+3):=Nat.mul_le_mul (by omega) (by omega); omega) (by omega)
 have HFIT:=hid fit
 have HTA:=hid (hl.tab fun i hi=>(hs i hi).mono (show 7000<=100000 by omega))
 have HVAL:=hid hvals
 have HEV:Hid (∀ x,evR S1 x L1=ev x):=fun x=>by rw [hev]
 have hL1':L1<=14:=by omega
 clear hl hs hwl hdx hvals hev fit hL1 hS1 hrref hLL hC h16 hres hN64
 have hE:=Below.refl w10.heap.size w10
 go_wp2_with fail
 refine (zbi 0 w10 (by omega) (by omega)).mono ?_
 rintro e w11 ⟨Ae,ce,Be,de,rfl,me1,me2,me3,me4,me5,me6,kb⟩
 obtain ⟨zr,hzr⟩:∃ y:Rat,y=((0:Int):Rat):=⟨_,rfl⟩
 rw [<-hzr] at me1 me2 me3 me5 ⊢
 have HZR:=hid hzr
 have hsz0:rsz zr 4:=by rw [hzr]; exact (show rsz (0:Rat) 4 from zba.mono (by omega))
 clear hzr;replace rf:=zaa rf kb;replace rp:=zaa rp kb;replace rq:=zaa rq kb;replace hB:=onS hB kb;replace hE:=onS hE kb;clear kb
 go_upto_region 7 with fail
 have kb:=zab w11 (.cells #[.bool (rneg zr),.slice Ae (dl zr.num.natAbs) ce,.slice Be (dl zr.den) de] 49)
 have re:=zae (w:=w11) (a:=.bool (rneg zr)) (b:=.slice Ae (dl zr.num.natAbs) ce) (c:=.slice Be (dl zr.den) de) (T := 49)
 obtain ⟨w12,hw12⟩:∃ W,W=w11.alloc (.cells #[.bool (rneg zr),.slice Ae (dl zr.num.natAbs) ce,.slice Be (dl zr.den) de] 49):=⟨_,rfl⟩
 obtain ⟨g9,hg9⟩:∃ g,g=w11.heap.size:=⟨_,rfl⟩
 rw [<-hw12] at kb re ⊢;rw [<-hg9] at re ⊢
 have hq9:=rq.lt
 have he9:=hE.size
 rw [<-hg9] at hq9 he9
 have HQ9:=hid hq9
 have HE9:=hid he9
 clear hw12 hg9 hq9 he9;replace me1:=me1.on kb;replace me2:=me2.on kb;replace rf:=zaa rf kb;replace rp:=zaa rp kb;replace rq:=zaa rq kb;replace hB:=onS hB kb;replace hE:=onS hE kb;clear kb
 have q4:=qc4 rf
 by_cases hn0:n=0
 focus
  have hnb:((n:Int) == 0)=true:=by simp [hn0]
  have HN1:Hid (ev 1=1):=by have:=HVAL.out.2.2.2.2.2; rw [if_pos hn0] at this; exact this
  clear hn0;clear me1 me2 me3 me4 me5 me6
  go_wp2_with fail
  refine (zbi 1 w12 (by omega) (by omega)).mono ?_
  rintro e w0 ⟨Ae,ce,Be,de,rfl,me1,me2,me3,me4,me5,me6,kb⟩
  rw [<-HONE.out] at me1 me2 me3 me5 ⊢;replace rf:=zaa rf kb;replace rp:=zaa rp kb;replace rq:=zaa rq kb;replace re:=zaa re kb;replace hB:=onS hB kb;replace hE:=onS hE kb;clear kb
  have za0:=re.frozen 0
  have za1:=re.frozen 1
  have za2:=re.frozen 2
  have ya0:=qc0 re
  have ya1:=qc1 re
  have ya2:=qc2 re
  clear q4
  go_upto_region 9 with fail
  have hq9:=HQ9.out
  have he9:=HE9.out
  have hBs:=hB.size
  have hEs:=hE.size
  generalize hw3:World.setCell _ _ _=w13
  have hst:RatStored w0 g9 49 (rneg one) Ae (dl one.num.natAbs) ce Be (dl one.den) de w13:=by rw [<-hw3]; exact zaf re _ _ _ _ _ _ _
  clear hw3;replace me1:=hst.nat _ _ _ me1;rw [<-hst.size] at me1;replace me2:=hst.nat _ _ _ me2;rw [<-hst.size] at me2;replace re:=hst.row
  replace rf:=zad rf hst.grown (by omega)
  replace rp:=zad rp hst.grown (by omega)
  replace rq:=zad rq hst.grown (by omega)
  replace hB:=hst.below hB (by omega) hBs
  replace hE:=hst.below hE he9 hEs;clear hst hq9 he9 hBs hEs za0 za1 za2 ya0 ya1 ya2
  obtain ⟨en,hen⟩:∃ q,q=one:=⟨_,rfl⟩
  have hsen:rsz en 10:=by rw [hen]; exact hs1
  have HV1:Hid (ev one=en):=by show _=_; rw [hen,HONE.out]; exact HN1.out
  rw [<-hen] at me1 me2 me3 me5 re;clear hen HN1
 rotate_left
 focus
  have hnb:((n:Int) == 0)=false:=by simp; omega
  have HN1:Hid (ev 1=0):=by have:=HVAL.out.2.2.2.2.2; rw [if_neg hn0] at this; exact this
  clear hn0
  obtain ⟨w13,hw13⟩:∃ W,W=w12:=⟨_,rfl⟩
  rw [<-hw13] at q4 rf rp rq re hB hE me1 me2 ⊢;clear hw13
  go_upto_region 9 with fail
  clear q4
  obtain ⟨en,hen⟩:∃ q,q=zr:=⟨_,rfl⟩
  have hsen:rsz en 10:=by rw [hen]; exact hsz0.mono (by omega)
  have HV1:Hid (ev one=en):=by show _=_; rw [hen,HONE.out,HZR.out]; exact HN1.out
  rw [<-hen] at me1 me2 me3 me5 re;clear hen HN1
 rotate_left
 all_goals
  have HPK:=hid ((HPR.out.mono (show 4<=100000 by omega)))
  have HPK':=hid ((HPR'.out.mono (show 4<=100000 by omega)))
  obtain ⟨X1,hX1e⟩:∃ x,x=ev p:=⟨_,rfl⟩
  obtain ⟨Y1,hY1e⟩:∃ x,x=ev p':=⟨_,rfl⟩
  have HX1:=hid hX1e
  have HY1:=hid hY1e
  have hX1:rsz X1 100000:=by rw [hX1e,<-HEV.out p]; exact ((HFIT.out p hsp).low L1 (Nat.le_refl _)).1
  have hY1:rsz Y1 100000:=by rw [hY1e,<-HEV.out p']; exact ((HFIT.out p' hsp').low L1 (Nat.le_refl _)).1
  clear hX1e hY1e
  have hs14:rsz one 4:=by rw [HONE.out]; exact (show rsz (1:Rat) 1 from zg5).mono (by omega)
  have HV0:Hid (ev zr=one):=by show _=_; rw [HZR.out,HONE.out]; exact HVAL.out.2.2.2.2.1
  go_cut [10,11] (fun v10 v11 wx=>∃ g10 g11 Ax cx Bx dx Ay cy By dy,v10=.pointer (some ⟨g10,0,none⟩)/\v11=.pointer (some ⟨g11,0,none⟩)/\wx.rowIs g10 49 3 (ratCell (.bool (rneg X1)) (.slice Ax (dl X1.num.natAbs) cx) (.slice Bx (dl X1.den) dx))/\wx.rowIs g11 49 3 (ratCell (.bool (rneg Y1)) (.slice Ay (dl Y1.num.natAbs) cy) (.slice By (dl Y1.den) dy))/\NatOk wx wx.heap.size Ax X1.num.natAbs/\NatOk wx wx.heap.size Bx X1.den/\NatOk wx wx.heap.size Ay Y1.num.natAbs/\NatOk wx wx.heap.size By Y1.den/\dl X1.num.natAbs<=cx/\cx<=maxLen/\dl X1.den<=dx/\dx<=maxLen/\dl Y1.num.natAbs<=cy/\cy<=maxLen/\dl Y1.den<=dy/\dy<=maxLen/\Below w13.heap.size w13 wx)
  case first =>
   have hD0:Below w13.heap.size w13 w13:=Below.refl _ _
   refine wp_region_held_drew (S:=fun w'=>w'.cell? ⟨w.heap.size+1,0,none⟩=some (.bool s)/\w'.cell? ⟨w.heap.size+1,1,none⟩=some (.slice XA xl xc)/\w'.cell? ⟨w.heap.size+1,2,none⟩=some (.slice XB yl yc)/\w'.cell? ⟨w.heap.size+1+1,0,none⟩=some (.bool s2)/\w'.cell? ⟨w.heap.size+1+1,1,none⟩=some (.slice YA xl2 xc2)/\w'.cell? ⟨w.heap.size+1+1,2,none⟩=some (.slice YB yl2 yc2)) (by kernel_rfl) ⟨(zaa rp hD0.drew).cell (i:=0) (by omega),(zaa rp hD0.drew).cell (i:=1) (by omega),(zaa rp hD0.drew).cell (i:=2) (by omega),(zaa rq hD0.drew).cell (i:=0) (by omega),(zaa rq hD0.drew).cell (i:=1) (by omega),(zaa rq hD0.drew).cell (i:=2) (by omega)⟩ (fun hHeld=>?_)
   obtain ⟨w14,hw⟩:∃ W,W=World.drew w13:=⟨_,rfl⟩
   have hD:Below w13.heap.size w13 w14:=by rw [hw]; exact (Below.refl _ _).drew
   rw [<-hw] at hHeld ⊢;clear hw hD0
   refine tkq 0 (h:=tkq 1 (h:=tkq 3 (h:=tkq 4 (h:=?_))))
   refine wpAnyH_ready (rs:=[2,6,7]) (by kernel_rfl) (by simp) ?_
   refine AllReadyH.cons (by simp only [List.getElem?_toArray,List.getElem?_cons_succ,List.getElem?_cons_zero]; rfl) (fun K hK=>?_) (AllReadyH.cons (by simp only [List.getElem?_toArray,List.getElem?_cons_succ,List.getElem?_cons_zero]; rfl) (fun K hK=>?_) (AllReadyH.cons (by simp only [List.getElem?_toArray,List.getElem?_cons_succ,List.getElem?_cons_zero]; rfl) (fun K hK=>?_) AllReadyH.nil))
   focus
    go_simp
    go_wp2_with fail
    refine (zat (HTA.out.on (onS hE hD)) (HPK.out.on (onS hB hD)) (by omega) (by omega) (HFIT.out p hsp)).mono ?_
    rintro e w15 ⟨Ax,cx,Bx,dx,rfl,mx1,mx2,mx3,mx4,mx5,mx6,kb⟩
    rw [HEV.out,<-HX1.out] at mx1 mx2 mx3 mx5 ⊢;replace hD:=onS hD kb;clear kb
    refine bkq hK ⟨(zaa rp hD).cell (i:=0) (by omega),(zaa rp hD).cell (i:=1) (by omega),(zaa rp hD).cell (i:=2) (by omega),(zaa rq hD).cell (i:=0) (by omega),(zaa rq hD).cell (i:=1) (by omega),(zaa rq hD).cell (i:=2) (by omega)⟩ (h:=fun hHeld=>?_)
    clear hK K
    refine wpAnyH_ready (rs:=[5,6,7]) (by kernel_rfl) (by simp) ?_
    refine AllReadyH.cons (by simp only [List.getElem?_toArray,List.getElem?_cons_succ,List.getElem?_cons_zero]; rfl) (fun K hK=>?_) (AllReadyH.cons (by simp only [List.getElem?_toArray,List.getElem?_cons_succ,List.getElem?_cons_zero]; rfl) (fun K hK=>?_) (AllReadyH.cons (by simp only [List.getElem?_toArray,List.getElem?_cons_succ,List.getElem?_cons_zero]; rfl) (fun K hK=>?_) AllReadyH.nil))
    focus
     go_simp
     go_wp2_with fail
     refine (zat (HTA.out.on (onS hE hD)) (HPK'.out.on (onS hB hD)) (by omega) (by omega) (HFIT.out p' hsp')).mono ?_
     rintro e w16 ⟨Ay,cy,By,dy,rfl,my1,my2,my3,my4,my5,my6,kb⟩
     rw [HEV.out,<-HY1.out] at my1 my2 my3 my5 ⊢;replace mx1:=mx1.on kb;replace mx2:=mx2.on kb;replace hD:=onS hD kb;clear kb
     refine bkq hK ⟨(zaa rp hD).cell (i:=0) (by omega),(zaa rp hD).cell (i:=1) (by omega),(zaa rp hD).cell (i:=2) (by omega),(zaa rq hD).cell (i:=0) (by omega),(zaa rq hD).cell (i:=1) (by omega),(zaa rq hD).cell (i:=2) (by omega)⟩ (h:=fun hHeld=>?_)
     clear hK K
     refine rdq2 6 7 (h:=fun K hK=>?_) (h2:=fun K hK=>?_)
     focus
      go_simp
      obtain ⟨w17,hw⟩:∃ W,W=World.alloc w16 (.cells #[.bool false,.slice none 0 0,.slice none 0 0] 49):=⟨_,rfl⟩
      have kb:Below w16.heap.size w16 w17:=by rw [hw]; exact zab _ _
      have r10:World.rowIs w17 w16.heap.size 49 3 (ratCell (.bool false) (.slice none 0 0) (.slice none 0 0)):=by rw [hw]; exact zae
      rw [<-hw];clear hw
      have hg10:=hD.size
      replace mx1:=mx1.on kb;replace mx2:=mx2.on kb;replace my1:=my1.on kb;replace my2:=my2.on kb;replace hD:=onS hD kb;clear kb
      obtain ⟨g10,hg⟩:∃ g,g=w16.heap.size:=⟨_,rfl⟩
      rw [<-hg] at r10 hg10 ⊢;clear hg
      refine bkq hK ⟨(zaa rp hD).cell (i:=0) (by omega),(zaa rp hD).cell (i:=1) (by omega),(zaa rp hD).cell (i:=2) (by omega),(zaa rq hD).cell (i:=0) (by omega),(zaa rq hD).cell (i:=1) (by omega),(zaa rq hD).cell (i:=2) (by omega)⟩ (h:=fun hHeld=>?_)
      clear hK K
      refine rdq 7 (h:=fun K hK=>?_)
      go_simp
      obtain ⟨w18,hw⟩:∃ W,W=World.alloc w17 (.cells #[.bool false,.slice none 0 0,.slice none 0 0] 49):=⟨_,rfl⟩
      have kb:Below w17.heap.size w17 w18:=by rw [hw]; exact zab _ _
      have r11:World.rowIs w18 w17.heap.size 49 3 (ratCell (.bool false) (.slice none 0 0) (.slice none 0 0)):=by rw [hw]; exact zae
      rw [<-hw];clear hw
      have hg11:=hD.size
      have hne:=r10.lt
      replace r10:=zaa r10 kb;replace mx1:=mx1.on kb;replace mx2:=mx2.on kb;replace my1:=my1.on kb;replace my2:=my2.on kb;replace hD:=onS hD kb;clear kb
      obtain ⟨g11,hg⟩:∃ g,g=w17.heap.size:=⟨_,rfl⟩
      rw [<-hg] at r11 hg11 hne ⊢;clear hg
      refine bkq hK ⟨(zaa rp hD).cell (i:=0) (by omega),(zaa rp hD).cell (i:=1) (by omega),(zaa rp hD).cell (i:=2) (by omega),(zaa rq hD).cell (i:=0) (by omega),(zaa rq hD).cell (i:=1) (by omega),(zaa rq hD).cell (i:=2) (by omega)⟩ (h:=fun hHeld=>?_)
      clear hK K
     rotate_left
     focus
      go_simp
      obtain ⟨w17,hw⟩:∃ W,W=World.alloc w16 (.cells #[.bool false,.slice none 0 0,.slice none 0 0] 49):=⟨_,rfl⟩
      have kb:Below w16.heap.size w16 w17:=by rw [hw]; exact zab _ _
      have r11:World.rowIs w17 w16.heap.size 49 3 (ratCell (.bool false) (.slice none 0 0) (.slice none 0 0)):=by rw [hw]; exact zae
      rw [<-hw];clear hw
      have hg11:=hD.size
      replace mx1:=mx1.on kb;replace mx2:=mx2.on kb;replace my1:=my1.on kb;replace my2:=my2.on kb;replace hD:=onS hD kb;clear kb
      obtain ⟨g11,hg⟩:∃ g,g=w16.heap.size:=⟨_,rfl⟩
      rw [<-hg] at r11 hg11 ⊢;clear hg
      refine bkq hK ⟨(zaa rp hD).cell (i:=0) (by omega),(zaa rp hD).cell (i:=1) (by omega),(zaa rp hD).cell (i:=2) (by omega),(zaa rq hD).cell (i:=0) (by omega),(zaa rq hD).cell (i:=1) (by omega),(zaa rq hD).cell (i:=2) (by omega)⟩ (h:=fun hHeld=>?_)
      clear hK K
      refine rdq 6 (h:=fun K hK=>?_)
      go_simp
      obtain ⟨w18,hw⟩:∃ W,W=World.alloc w17 (.cells #[.bool false,.slice none 0 0,.slice none 0 0] 49):=⟨_,rfl⟩
      have kb:Below w17.heap.size w17 w18:=by rw [hw]; exact zab _ _
      have r10:World.rowIs w18 w17.heap.size 49 3 (ratCell (.bool false) (.slice none 0 0) (.slice none 0 0)):=by rw [hw]; exact zae
      rw [<-hw];clear hw
      have hg10:=hD.size
      have hne:=r11.lt
      replace r11:=zaa r11 kb;replace mx1:=mx1.on kb;replace mx2:=mx2.on kb;replace my1:=my1.on kb;replace my2:=my2.on kb;replace hD:=onS hD kb;clear kb
      obtain ⟨g10,hg⟩:∃ g,g=w17.heap.size:=⟨_,rfl⟩
      rw [<-hg] at r10 hg10 hne ⊢;clear hg
      refine bkq hK ⟨(zaa rp hD).cell (i:=0) (by omega),(zaa rp hD).cell (i:=1) (by omega),(zaa rp hD).cell (i:=2) (by omega),(zaa rq hD).cell (i:=0) (by omega),(zaa rq hD).cell (i:=1) (by omega),(zaa rq hD).cell (i:=2) (by omega)⟩ (h:=fun hHeld=>?_)
      clear hK K
     rotate_left
    rotate_left 2
    focus
     go_simp
     obtain ⟨w16,hw⟩:∃ W,W=World.alloc w15 (.cells #[.bool false,.slice none 0 0,.slice none 0 0] 49):=⟨_,rfl⟩
     have kb:Below w15.heap.size w15 w16:=by rw [hw]; exact zab _ _
     have r10:World.rowIs w16 w15.heap.size 49 3 (ratCell (.bool false) (.slice none 0 0) (.slice none 0 0)):=by rw [hw]; exact zae
     rw [<-hw];clear hw
     have hg10:=hD.size
     replace mx1:=mx1.on kb;replace mx2:=mx2.on kb;replace hD:=onS hD kb;clear kb
     obtain ⟨g10,hg⟩:∃ g,g=w15.heap.size:=⟨_,rfl⟩
     rw [<-hg] at r10 hg10 ⊢;clear hg
     refine bkq hK ⟨(zaa rp hD).cell (i:=0) (by omega),(zaa rp hD).cell (i:=1) (by omega),(zaa rp hD).cell (i:=2) (by omega),(zaa rq hD).cell (i:=0) (by omega),(zaa rq hD).cell (i:=1) (by omega),(zaa rq hD).cell (i:=2) (by omega)⟩ (h:=fun hHeld=>?_)
     clear hK K
     refine rdq2 5 7 (h:=fun K hK=>?_) (h2:=fun K hK=>?_)
     focus
      go_simp
      go_wp2_with fail
      refine (zat (HTA.out.on (onS hE hD)) (HPK'.out.on (onS hB hD)) (by omega) (by omega) (HFIT.out p' hsp')).mono ?_
      rintro e w17 ⟨Ay,cy,By,dy,rfl,my1,my2,my3,my4,my5,my6,kb⟩
      rw [HEV.out,<-HY1.out] at my1 my2 my3 my5 ⊢;replace r10:=zaa r10 kb;replace mx1:=mx1.on kb;replace mx2:=mx2.on kb;replace hD:=onS hD kb;clear kb
      refine bkq hK ⟨(zaa rp hD).cell (i:=0) (by omega),(zaa rp hD).cell (i:=1) (by omega),(zaa rp hD).cell (i:=2) (by omega),(zaa rq hD).cell (i:=0) (by omega),(zaa rq hD).cell (i:=1) (by omega),(zaa rq hD).cell (i:=2) (by omega)⟩ (h:=fun hHeld=>?_)
      clear hK K
      refine rdq 7 (h:=fun K hK=>?_)
      go_simp
      obtain ⟨w18,hw⟩:∃ W,W=World.alloc w17 (.cells #[.bool false,.slice none 0 0,.slice none 0 0] 49):=⟨_,rfl⟩
      have kb:Below w17.heap.size w17 w18:=by rw [hw]; exact zab _ _
      have r11:World.rowIs w18 w17.heap.size 49 3 (ratCell (.bool false) (.slice none 0 0) (.slice none 0 0)):=by rw [hw]; exact zae
      rw [<-hw];clear hw
      have hg11:=hD.size
      have hne:=r10.lt
      replace r10:=zaa r10 kb;replace mx1:=mx1.on kb;replace mx2:=mx2.on kb;replace my1:=my1.on kb;replace my2:=my2.on kb;replace hD:=onS hD kb;clear kb
      obtain ⟨g11,hg⟩:∃ g,g=w17.heap.size:=⟨_,rfl⟩
      rw [<-hg] at r11 hg11 hne ⊢;clear hg
      refine bkq hK ⟨(zaa rp hD).cell (i:=0) (by omega),(zaa rp hD).cell (i:=1) (by omega),(zaa rp hD).cell (i:=2) (by omega),(zaa rq hD).cell (i:=0) (by omega),(zaa rq hD).cell (i:=1) (by omega),(zaa rq hD).cell (i:=2) (by omega)⟩ (h:=fun hHeld=>?_)
      clear hK K
     rotate_left
     focus
      go_simp
      obtain ⟨w17,hw⟩:∃ W,W=World.alloc w16 (.cells #[.bool false,.slice none 0 0,.slice none 0 0] 49):=⟨_,rfl⟩
      have kb:Below w16.heap.size w16 w17:=by rw [hw]; exact zab _ _
      have r11:World.rowIs w17 w16.heap.size 49 3 (ratCell (.bool false) (.slice none 0 0) (.slice none 0 0)):=by rw [hw]; exact zae
      rw [<-hw];clear hw
      have hg11:=hD.size
      have hne:=r10.lt
      replace r10:=zaa r10 kb;replace mx1:=mx1.on kb;replace mx2:=mx2.on kb;replace hD:=onS hD kb;clear kb
      obtain ⟨g11,hg⟩:∃ g,g=w16.heap.size:=⟨_,rfl⟩
      rw [<-hg] at r11 hg11 hne ⊢;clear hg
      refine bkq hK ⟨(zaa rp hD).cell (i:=0) (by omega),(zaa rp hD).cell (i:=1) (by omega),(zaa rp hD).cell (i:=2) (by omega),(zaa rq hD).cell (i:=0) (by omega),(zaa rq hD).cell (i:=1) (by omega),(zaa rq hD).cell (i:=2) (by omega)⟩ (h:=fun hHeld=>?_)
      clear hK K
      refine rdq 5 (h:=fun K hK=>?_)
      go_simp
      go_wp2_with fail
      refine (zat (HTA.out.on (onS hE hD)) (HPK'.out.on (onS hB hD)) (by omega) (by omega) (HFIT.out p' hsp')).mono ?_
      rintro e w18 ⟨Ay,cy,By,dy,rfl,my1,my2,my3,my4,my5,my6,kb⟩
      rw [HEV.out,<-HY1.out] at my1 my2 my3 my5 ⊢;replace r10:=zaa r10 kb;replace r11:=zaa r11 kb;replace mx1:=mx1.on kb;replace mx2:=mx2.on kb;replace hD:=onS hD kb;clear kb
      refine bkq hK ⟨(zaa rp hD).cell (i:=0) (by omega),(zaa rp hD).cell (i:=1) (by omega),(zaa rp hD).cell (i:=2) (by omega),(zaa rq hD).cell (i:=0) (by omega),(zaa rq hD).cell (i:=1) (by omega),(zaa rq hD).cell (i:=2) (by omega)⟩ (h:=fun hHeld=>?_)
      clear hK K
     rotate_left
    rotate_left 2
    focus
     go_simp
     obtain ⟨w16,hw⟩:∃ W,W=World.alloc w15 (.cells #[.bool false,.slice none 0 0,.slice none 0 0] 49):=⟨_,rfl⟩
     have kb:Below w15.heap.size w15 w16:=by rw [hw]; exact zab _ _
     have r11:World.rowIs w16 w15.heap.size 49 3 (ratCell (.bool false) (.slice none 0 0) (.slice none 0 0)):=by rw [hw]; exact zae
     rw [<-hw];clear hw
     have hg11:=hD.size
     replace mx1:=mx1.on kb;replace mx2:=mx2.on kb;replace hD:=onS hD kb;clear kb
     obtain ⟨g11,hg⟩:∃ g,g=w15.heap.size:=⟨_,rfl⟩
     rw [<-hg] at r11 hg11 ⊢;clear hg
     refine bkq hK ⟨(zaa rp hD).cell (i:=0) (by omega),(zaa rp hD).cell (i:=1) (by omega),(zaa rp hD).cell (i:=2) (by omega),(zaa rq hD).cell (i:=0) (by omega),(zaa rq hD).cell (i:=1) (by omega),(zaa rq hD).cell (i:=2) (by omega)⟩ (h:=fun hHeld=>?_)
     clear hK K
     refine rdq2 5 6 (h:=fun K hK=>?_) (h2:=fun K hK=>?_)
     focus
      go_simp
      go_wp2_with fail
      refine (zat (HTA.out.on (onS hE hD)) (HPK'.out.on (onS hB hD)) (by omega) (by omega) (HFIT.out p' hsp')).mono ?_
      rintro e w17 ⟨Ay,cy,By,dy,rfl,my1,my2,my3,my4,my5,my6,kb⟩
      rw [HEV.out,<-HY1.out] at my1 my2 my3 my5 ⊢;replace r11:=zaa r11 kb;replace mx1:=mx1.on kb;replace mx2:=mx2.on kb;replace hD:=onS hD kb;clear kb
      refine bkq hK ⟨(zaa rp hD).cell (i:=0) (by omega),(zaa rp hD).cell (i:=1) (by omega),(zaa rp hD).cell (i:=2) (by omega),(zaa rq hD).cell (i:=0) (by omega),(zaa rq hD).cell (i:=1) (by omega),(zaa rq hD).cell (i:=2) (by omega)⟩ (h:=fun hHeld=>?_)
      clear hK K
      refine rdq 6 (h:=fun K hK=>?_)
      go_simp
      obtain ⟨w18,hw⟩:∃ W,W=World.alloc w17 (.cells #[.bool false,.slice none 0 0,.slice none 0 0] 49):=⟨_,rfl⟩
      have kb:Below w17.heap.size w17 w18:=by rw [hw]; exact zab _ _
      have r10:World.rowIs w18 w17.heap.size 49 3 (ratCell (.bool false) (.slice none 0 0) (.slice none 0 0)):=by rw [hw]; exact zae
      rw [<-hw];clear hw
      have hg10:=hD.size
      have hne:=r11.lt
      replace r11:=zaa r11 kb;replace mx1:=mx1.on kb;replace mx2:=mx2.on kb;replace my1:=my1.on kb;replace my2:=my2.on kb;replace hD:=onS hD kb;clear kb
      obtain ⟨g10,hg⟩:∃ g,g=w17.heap.size:=⟨_,rfl⟩
      rw [<-hg] at r10 hg10 hne ⊢;clear hg
      refine bkq hK ⟨(zaa rp hD).cell (i:=0) (by omega),(zaa rp hD).cell (i:=1) (by omega),(zaa rp hD).cell (i:=2) (by omega),(zaa rq hD).cell (i:=0) (by omega),(zaa rq hD).cell (i:=1) (by omega),(zaa rq hD).cell (i:=2) (by omega)⟩ (h:=fun hHeld=>?_)
      clear hK K
     rotate_left
     focus
      go_simp
      obtain ⟨w17,hw⟩:∃ W,W=World.alloc w16 (.cells #[.bool false,.slice none 0 0,.slice none 0 0] 49):=⟨_,rfl⟩
      have kb:Below w16.heap.size w16 w17:=by rw [hw]; exact zab _ _
      have r10:World.rowIs w17 w16.heap.size 49 3 (ratCell (.bool false) (.slice none 0 0) (.slice none 0 0)):=by rw [hw]; exact zae
      rw [<-hw];clear hw
      have hg10:=hD.size
      have hne:=r11.lt
      replace r11:=zaa r11 kb;replace mx1:=mx1.on kb;replace mx2:=mx2.on kb;replace hD:=onS hD kb;clear kb
      obtain ⟨g10,hg⟩:∃ g,g=w16.heap.size:=⟨_,rfl⟩
      rw [<-hg] at r10 hg10 hne ⊢;clear hg
      refine bkq hK ⟨(zaa rp hD).cell (i:=0) (by omega),(zaa rp hD).cell (i:=1) (by omega),(zaa rp hD).cell (i:=2) (by omega),(zaa rq hD).cell (i:=0) (by omega),(zaa rq hD).cell (i:=1) (by omega),(zaa rq hD).cell (i:=2) (by omega)⟩ (h:=fun hHeld=>?_)
      clear hK K
      refine rdq 5 (h:=fun K hK=>?_)
      go_simp
      go_wp2_with fail
      refine (zat (HTA.out.on (onS hE hD)) (HPK'.out.on (onS hB hD)) (by omega) (by omega) (HFIT.out p' hsp')).mono ?_
      rintro e w18 ⟨Ay,cy,By,dy,rfl,my1,my2,my3,my4,my5,my6,kb⟩
      rw [HEV.out,<-HY1.out] at my1 my2 my3 my5 ⊢;replace r10:=zaa r10 kb;replace r11:=zaa r11 kb;replace mx1:=mx1.on kb;replace mx2:=mx2.on kb;replace hD:=onS hD kb;clear kb
      refine bkq hK ⟨(zaa rp hD).cell (i:=0) (by omega),(zaa rp hD).cell (i:=1) (by omega),(zaa rp hD).cell (i:=2) (by omega),(zaa rq hD).cell (i:=0) (by omega),(zaa rq hD).cell (i:=1) (by omega),(zaa rq hD).cell (i:=2) (by omega)⟩ (h:=fun hHeld=>?_)
      clear hK K
     rotate_left
    rotate_left 2
   rotate_left 6
   focus
    go_simp
    obtain ⟨w15,hw⟩:∃ W,W=World.alloc w14 (.cells #[.bool false,.slice none 0 0,.slice none 0 0] 49):=⟨_,rfl⟩
    have kb:Below w14.heap.size w14 w15:=by rw [hw]; exact zab _ _
    have r10:World.rowIs w15 w14.heap.size 49 3 (ratCell (.bool false) (.slice none 0 0) (.slice none 0 0)):=by rw [hw]; exact zae
    rw [<-hw];clear hw
    have hg10:=hD.size
    replace hD:=onS hD kb;clear kb
    obtain ⟨g10,hg⟩:∃ g,g=w14.heap.size:=⟨_,rfl⟩
    rw [<-hg] at r10 hg10 ⊢;clear hg
    refine bkq hK ⟨(zaa rp hD).cell (i:=0) (by omega),(zaa rp hD).cell (i:=1) (by omega),(zaa rp hD).cell (i:=2) (by omega),(zaa rq hD).cell (i:=0) (by omega),(zaa rq hD).cell (i:=1) (by omega),(zaa rq hD).cell (i:=2) (by omega)⟩ (h:=fun hHeld=>?_)
    clear hK K
    refine rdq2 2 7 (h:=fun K hK=>?_) (h2:=fun K hK=>?_)
    focus
     go_simp
     go_wp2_with fail
     refine (zat (HTA.out.on (onS hE hD)) (HPK.out.on (onS hB hD)) (by omega) (by omega) (HFIT.out p hsp)).mono ?_
     rintro e w16 ⟨Ax,cx,Bx,dx,rfl,mx1,mx2,mx3,mx4,mx5,mx6,kb⟩
     rw [HEV.out,<-HX1.out] at mx1 mx2 mx3 mx5 ⊢;replace r10:=zaa r10 kb;replace hD:=onS hD kb;clear kb
     refine bkq hK ⟨(zaa rp hD).cell (i:=0) (by omega),(zaa rp hD).cell (i:=1) (by omega),(zaa rp hD).cell (i:=2) (by omega),(zaa rq hD).cell (i:=0) (by omega),(zaa rq hD).cell (i:=1) (by omega),(zaa rq hD).cell (i:=2) (by omega)⟩ (h:=fun hHeld=>?_)
     clear hK K
     refine rdq2 5 7 (h:=fun K hK=>?_) (h2:=fun K hK=>?_)
     focus
      go_simp
      go_wp2_with fail
      refine (zat (HTA.out.on (onS hE hD)) (HPK'.out.on (onS hB hD)) (by omega) (by omega) (HFIT.out p' hsp')).mono ?_
      rintro e w17 ⟨Ay,cy,By,dy,rfl,my1,my2,my3,my4,my5,my6,kb⟩
      rw [HEV.out,<-HY1.out] at my1 my2 my3 my5 ⊢;replace r10:=zaa r10 kb;replace mx1:=mx1.on kb;replace mx2:=mx2.on kb;replace hD:=onS hD kb;clear kb
      refine bkq hK ⟨(zaa rp hD).cell (i:=0) (by omega),(zaa rp hD).cell (i:=1) (by omega),(zaa rp hD).cell (i:=2) (by omega),(zaa rq hD).cell (i:=0) (by omega),(zaa rq hD).cell (i:=1) (by omega),(zaa rq hD).cell (i:=2) (by omega)⟩ (h:=fun hHeld=>?_)
      clear hK K
      refine rdq 7 (h:=fun K hK=>?_)
      go_simp
      obtain ⟨w18,hw⟩:∃ W,W=World.alloc w17 (.cells #[.bool false,.slice none 0 0,.slice none 0 0] 49):=⟨_,rfl⟩
      have kb:Below w17.heap.size w17 w18:=by rw [hw]; exact zab _ _
      have r11:World.rowIs w18 w17.heap.size 49 3 (ratCell (.bool false) (.slice none 0 0) (.slice none 0 0)):=by rw [hw]; exact zae
      rw [<-hw];clear hw
      have hg11:=hD.size
      have hne:=r10.lt
      replace r10:=zaa r10 kb;replace mx1:=mx1.on kb;replace mx2:=mx2.on kb;replace my1:=my1.on kb;replace my2:=my2.on kb;replace hD:=onS hD kb;clear kb
      obtain ⟨g11,hg⟩:∃ g,g=w17.heap.size:=⟨_,rfl⟩
      rw [<-hg] at r11 hg11 hne ⊢;clear hg
      refine bkq hK ⟨(zaa rp hD).cell (i:=0) (by omega),(zaa rp hD).cell (i:=1) (by omega),(zaa rp hD).cell (i:=2) (by omega),(zaa rq hD).cell (i:=0) (by omega),(zaa rq hD).cell (i:=1) (by omega),(zaa rq hD).cell (i:=2) (by omega)⟩ (h:=fun hHeld=>?_)
      clear hK K
     rotate_left
     focus
      go_simp
      obtain ⟨w17,hw⟩:∃ W,W=World.alloc w16 (.cells #[.bool false,.slice none 0 0,.slice none 0 0] 49):=⟨_,rfl⟩
      have kb:Below w16.heap.size w16 w17:=by rw [hw]; exact zab _ _
      have r11:World.rowIs w17 w16.heap.size 49 3 (ratCell (.bool false) (.slice none 0 0) (.slice none 0 0)):=by rw [hw]; exact zae
      rw [<-hw];clear hw
      have hg11:=hD.size
      have hne:=r10.lt
      replace r10:=zaa r10 kb;replace mx1:=mx1.on kb;replace mx2:=mx2.on kb;replace hD:=onS hD kb;clear kb
      obtain ⟨g11,hg⟩:∃ g,g=w16.heap.size:=⟨_,rfl⟩
      rw [<-hg] at r11 hg11 hne ⊢;clear hg
      refine bkq hK ⟨(zaa rp hD).cell (i:=0) (by omega),(zaa rp hD).cell (i:=1) (by omega),(zaa rp hD).cell (i:=2) (by omega),(zaa rq hD).cell (i:=0) (by omega),(zaa rq hD).cell (i:=1) (by omega),(zaa rq hD).cell (i:=2) (by omega)⟩ (h:=fun hHeld=>?_)
      clear hK K
      refine rdq 5 (h:=fun K hK=>?_)
      go_simp
      go_wp2_with fail
      refine (zat (HTA.out.on (onS hE hD)) (HPK'.out.on (onS hB hD)) (by omega) (by omega) (HFIT.out p' hsp')).mono ?_
      rintro e w18 ⟨Ay,cy,By,dy,rfl,my1,my2,my3,my4,my5,my6,kb⟩
      rw [HEV.out,<-HY1.out] at my1 my2 my3 my5 ⊢;replace r10:=zaa r10 kb;replace r11:=zaa r11 kb;replace mx1:=mx1.on kb;replace mx2:=mx2.on kb;replace hD:=onS hD kb;clear kb
      refine bkq hK ⟨(zaa rp hD).cell (i:=0) (by omega),(zaa rp hD).cell (i:=1) (by omega),(zaa rp hD).cell (i:=2) (by omega),(zaa rq hD).cell (i:=0) (by omega),(zaa rq hD).cell (i:=1) (by omega),(zaa rq hD).cell (i:=2) (by omega)⟩ (h:=fun hHeld=>?_)
      clear hK K
     rotate_left
    rotate_left 2
    focus
     go_simp
     obtain ⟨w16,hw⟩:∃ W,W=World.alloc w15 (.cells #[.bool false,.slice none 0 0,.slice none 0 0] 49):=⟨_,rfl⟩
     have kb:Below w15.heap.size w15 w16:=by rw [hw]; exact zab _ _
     have r11:World.rowIs w16 w15.heap.size 49 3 (ratCell (.bool false) (.slice none 0 0) (.slice none 0 0)):=by rw [hw]; exact zae
     rw [<-hw];clear hw
     have hg11:=hD.size
     have hne:=r10.lt
     replace r10:=zaa r10 kb;replace hD:=onS hD kb;clear kb
     obtain ⟨g11,hg⟩:∃ g,g=w15.heap.size:=⟨_,rfl⟩
     rw [<-hg] at r11 hg11 hne ⊢;clear hg
     refine bkq hK ⟨(zaa rp hD).cell (i:=0) (by omega),(zaa rp hD).cell (i:=1) (by omega),(zaa rp hD).cell (i:=2) (by omega),(zaa rq hD).cell (i:=0) (by omega),(zaa rq hD).cell (i:=1) (by omega),(zaa rq hD).cell (i:=2) (by omega)⟩ (h:=fun hHeld=>?_)
     clear hK K
     refine rdq 2 (h:=fun K hK=>?_)
     go_simp
     go_wp2_with fail
     refine (zat (HTA.out.on (onS hE hD)) (HPK.out.on (onS hB hD)) (by omega) (by omega) (HFIT.out p hsp)).mono ?_
     rintro e w17 ⟨Ax,cx,Bx,dx,rfl,mx1,mx2,mx3,mx4,mx5,mx6,kb⟩
     rw [HEV.out,<-HX1.out] at mx1 mx2 mx3 mx5 ⊢;replace r10:=zaa r10 kb;replace r11:=zaa r11 kb;replace hD:=onS hD kb;clear kb
     refine bkq hK ⟨(zaa rp hD).cell (i:=0) (by omega),(zaa rp hD).cell (i:=1) (by omega),(zaa rp hD).cell (i:=2) (by omega),(zaa rq hD).cell (i:=0) (by omega),(zaa rq hD).cell (i:=1) (by omega),(zaa rq hD).cell (i:=2) (by omega)⟩ (h:=fun hHeld=>?_)
     clear hK K
     refine rdq 5 (h:=fun K hK=>?_)
     go_simp
     go_wp2_with fail
     refine (zat (HTA.out.on (onS hE hD)) (HPK'.out.on (onS hB hD)) (by omega) (by omega) (HFIT.out p' hsp')).mono ?_
     rintro e w18 ⟨Ay,cy,By,dy,rfl,my1,my2,my3,my4,my5,my6,kb⟩
     rw [HEV.out,<-HY1.out] at my1 my2 my3 my5 ⊢;replace r10:=zaa r10 kb;replace r11:=zaa r11 kb;replace mx1:=mx1.on kb;replace mx2:=mx2.on kb;replace hD:=onS hD kb;clear kb
     refine bkq hK ⟨(zaa rp hD).cell (i:=0) (by omega),(zaa rp hD).cell (i:=1) (by omega),(zaa rp hD).cell (i:=2) (by omega),(zaa rq hD).cell (i:=0) (by omega),(zaa rq hD).cell (i:=1) (by omega),(zaa rq hD).cell (i:=2) (by omega)⟩ (h:=fun hHeld=>?_)
     clear hK K
    rotate_left
   rotate_left 3
   focus
    go_simp
    obtain ⟨w15,hw⟩:∃ W,W=World.alloc w14 (.cells #[.bool false,.slice none 0 0,.slice none 0 0] 49):=⟨_,rfl⟩
    have kb:Below w14.heap.size w14 w15:=by rw [hw]; exact zab _ _
    have r11:World.rowIs w15 w14.heap.size 49 3 (ratCell (.bool false) (.slice none 0 0) (.slice none 0 0)):=by rw [hw]; exact zae
    rw [<-hw];clear hw
    have hg11:=hD.size
    replace hD:=onS hD kb;clear kb
    obtain ⟨g11,hg⟩:∃ g,g=w14.heap.size:=⟨_,rfl⟩
    rw [<-hg] at r11 hg11 ⊢;clear hg
    refine bkq hK ⟨(zaa rp hD).cell (i:=0) (by omega),(zaa rp hD).cell (i:=1) (by omega),(zaa rp hD).cell (i:=2) (by omega),(zaa rq hD).cell (i:=0) (by omega),(zaa rq hD).cell (i:=1) (by omega),(zaa rq hD).cell (i:=2) (by omega)⟩ (h:=fun hHeld=>?_)
    clear hK K
    refine rdq2 2 6 (h:=fun K hK=>?_) (h2:=fun K hK=>?_)
    focus
     go_simp
     go_wp2_with fail
     refine (zat (HTA.out.on (onS hE hD)) (HPK.out.on (onS hB hD)) (by omega) (by omega) (HFIT.out p hsp)).mono ?_
     rintro e w16 ⟨Ax,cx,Bx,dx,rfl,mx1,mx2,mx3,mx4,mx5,mx6,kb⟩
     rw [HEV.out,<-HX1.out] at mx1 mx2 mx3 mx5 ⊢;replace r11:=zaa r11 kb;replace hD:=onS hD kb;clear kb
     refine bkq hK ⟨(zaa rp hD).cell (i:=0) (by omega),(zaa rp hD).cell (i:=1) (by omega),(zaa rp hD).cell (i:=2) (by omega),(zaa rq hD).cell (i:=0) (by omega),(zaa rq hD).cell (i:=1) (by omega),(zaa rq hD).cell (i:=2) (by omega)⟩ (h:=fun hHeld=>?_)
     clear hK K
     refine rdq2 5 6 (h:=fun K hK=>?_) (h2:=fun K hK=>?_)
     focus
      go_simp
      go_wp2_with fail
      refine (zat (HTA.out.on (onS hE hD)) (HPK'.out.on (onS hB hD)) (by omega) (by omega) (HFIT.out p' hsp')).mono ?_
      rintro e w17 ⟨Ay,cy,By,dy,rfl,my1,my2,my3,my4,my5,my6,kb⟩
      rw [HEV.out,<-HY1.out] at my1 my2 my3 my5 ⊢;replace r11:=zaa r11 kb;replace mx1:=mx1.on kb;replace mx2:=mx2.on kb;replace hD:=onS hD kb;clear kb
      refine bkq hK ⟨(zaa rp hD).cell (i:=0) (by omega),(zaa rp hD).cell (i:=1) (by omega),(zaa rp hD).cell (i:=2) (by omega),(zaa rq hD).cell (i:=0) (by omega),(zaa rq hD).cell (i:=1) (by omega),(zaa rq hD).cell (i:=2) (by omega)⟩ (h:=fun hHeld=>?_)
      clear hK K
      refine rdq 6 (h:=fun K hK=>?_)
      go_simp
      obtain ⟨w18,hw⟩:∃ W,W=World.alloc w17 (.cells #[.bool false,.slice none 0 0,.slice none 0 0] 49):=⟨_,rfl⟩
      have kb:Below w17.heap.size w17 w18:=by rw [hw]; exact zab _ _
      have r10:World.rowIs w18 w17.heap.size 49 3 (ratCell (.bool false) (.slice none 0 0) (.slice none 0 0)):=by rw [hw]; exact zae
      rw [<-hw];clear hw
      have hg10:=hD.size
      have hne:=r11.lt
      replace r11:=zaa r11 kb;replace mx1:=mx1.on kb;replace mx2:=mx2.on kb;replace my1:=my1.on kb;replace my2:=my2.on kb;replace hD:=onS hD kb;clear kb
      obtain ⟨g10,hg⟩:∃ g,g=w17.heap.size:=⟨_,rfl⟩
      rw [<-hg] at r10 hg10 hne ⊢;clear hg
      refine bkq hK ⟨(zaa rp hD).cell (i:=0) (by omega),(zaa rp hD).cell (i:=1) (by omega),(zaa rp hD).cell (i:=2) (by omega),(zaa rq hD).cell (i:=0) (by omega),(zaa rq hD).cell (i:=1) (by omega),(zaa rq hD).cell (i:=2) (by omega)⟩ (h:=fun hHeld=>?_)
      clear hK K
     rotate_left
     focus
      go_simp
      obtain ⟨w17,hw⟩:∃ W,W=World.alloc w16 (.cells #[.bool false,.slice none 0 0,.slice none 0 0] 49):=⟨_,rfl⟩
      have kb:Below w16.heap.size w16 w17:=by rw [hw]; exact zab _ _
      have r10:World.rowIs w17 w16.heap.size 49 3 (ratCell (.bool false) (.slice none 0 0) (.slice none 0 0)):=by rw [hw]; exact zae
      rw [<-hw];clear hw
      have hg10:=hD.size
      have hne:=r11.lt
      replace r11:=zaa r11 kb;replace mx1:=mx1.on kb;replace mx2:=mx2.on kb;replace hD:=onS hD kb;clear kb
      obtain ⟨g10,hg⟩:∃ g,g=w16.heap.size:=⟨_,rfl⟩
      rw [<-hg] at r10 hg10 hne ⊢;clear hg
      refine bkq hK ⟨(zaa rp hD).cell (i:=0) (by omega),(zaa rp hD).cell (i:=1) (by omega),(zaa rp hD).cell (i:=2) (by omega),(zaa rq hD).cell (i:=0) (by omega),(zaa rq hD).cell (i:=1) (by omega),(zaa rq hD).cell (i:=2) (by omega)⟩ (h:=fun hHeld=>?_)
      clear hK K
      refine rdq 5 (h:=fun K hK=>?_)
      go_simp
      go_wp2_with fail
      refine (zat (HTA.out.on (onS hE hD)) (HPK'.out.on (onS hB hD)) (by omega) (by omega) (HFIT.out p' hsp')).mono ?_
      rintro e w18 ⟨Ay,cy,By,dy,rfl,my1,my2,my3,my4,my5,my6,kb⟩
      rw [HEV.out,<-HY1.out] at my1 my2 my3 my5 ⊢;replace r10:=zaa r10 kb;replace r11:=zaa r11 kb;replace mx1:=mx1.on kb;replace mx2:=mx2.on kb;replace hD:=onS hD kb;clear kb
      refine bkq hK ⟨(zaa rp hD).cell (i:=0) (by omega),(zaa rp hD).cell (i:=1) (by omega),(zaa rp hD).cell (i:=2) (by omega),(zaa rq hD).cell (i:=0) (by omega),(zaa rq hD).cell (i:=1) (by omega),(zaa rq hD).cell (i:=2) (by omega)⟩ (h:=fun hHeld=>?_)
      clear hK K
     rotate_left
    rotate_left 2
    focus
     go_simp
     obtain ⟨w16,hw⟩:∃ W,W=World.alloc w15 (.cells #[.bool false,.slice none 0 0,.slice none 0 0] 49):=⟨_,rfl⟩
     have kb:Below w15.heap.size w15 w16:=by rw [hw]; exact zab _ _
     have r10:World.rowIs w16 w15.heap.size 49 3 (ratCell (.bool false) (.slice none 0 0) (.slice none 0 0)):=by rw [hw]; exact zae
     rw [<-hw];clear hw
     have hg10:=hD.size
     have hne:=r11.lt
     replace r11:=zaa r11 kb;replace hD:=onS hD kb;clear kb
     obtain ⟨g10,hg⟩:∃ g,g=w15.heap.size:=⟨_,rfl⟩
     rw [<-hg] at r10 hg10 hne ⊢;clear hg
     refine bkq hK ⟨(zaa rp hD).cell (i:=0) (by omega),(zaa rp hD).cell (i:=1) (by omega),(zaa rp hD).cell (i:=2) (by omega),(zaa rq hD).cell (i:=0) (by omega),(zaa rq hD).cell (i:=1) (by omega),(zaa rq hD).cell (i:=2) (by omega)⟩ (h:=fun hHeld=>?_)
     clear hK K
     refine rdq 2 (h:=fun K hK=>?_)
     go_simp
     go_wp2_with fail
     refine (zat (HTA.out.on (onS hE hD)) (HPK.out.on (onS hB hD)) (by omega) (by omega) (HFIT.out p hsp)).mono ?_
     rintro e w17 ⟨Ax,cx,Bx,dx,rfl,mx1,mx2,mx3,mx4,mx5,mx6,kb⟩
     rw [HEV.out,<-HX1.out] at mx1 mx2 mx3 mx5 ⊢;replace r10:=zaa r10 kb;replace r11:=zaa r11 kb;replace hD:=onS hD kb;clear kb
     refine bkq hK ⟨(zaa rp hD).cell (i:=0) (by omega),(zaa rp hD).cell (i:=1) (by omega),(zaa rp hD).cell (i:=2) (by omega),(zaa rq hD).cell (i:=0) (by omega),(zaa rq hD).cell (i:=1) (by omega),(zaa rq hD).cell (i:=2) (by omega)⟩ (h:=fun hHeld=>?_)
     clear hK K
     refine rdq 5 (h:=fun K hK=>?_)
     go_simp
     go_wp2_with fail
     refine (zat (HTA.out.on (onS hE hD)) (HPK'.out.on (onS hB hD)) (by omega) (by omega) (HFIT.out p' hsp')).mono ?_
     rintro e w18 ⟨Ay,cy,By,dy,rfl,my1,my2,my3,my4,my5,my6,kb⟩
     rw [HEV.out,<-HY1.out] at my1 my2 my3 my5 ⊢;replace r10:=zaa r10 kb;replace r11:=zaa r11 kb;replace mx1:=mx1.on kb;replace mx2:=mx2.on kb;replace hD:=onS hD kb;clear kb
     refine bkq hK ⟨(zaa rp hD).cell (i:=0) (by omega),(zaa rp hD).cell (i:=1) (by omega),(zaa rp hD).cell (i:=2) (by omega),(zaa rq hD).cell (i:=0) (by omega),(zaa rq hD).cell (i:=1) (by omega),(zaa rq hD).cell (i:=2) (by omega)⟩ (h:=fun hHeld=>?_)
     clear hK K
    rotate_left
   rotate_left 3
   all_goals
    have hsz:=hD.size
    have za0:=r10.frozen 0
    have za1:=r10.frozen 1
    have za2:=r10.frozen 2
    have ya0:=qc0 r10
    have ya1:=qc1 r10
    have ya2:=qc2 r10
    refine rdq 8 (h:=fun K hK=>?_)
    go_simp
    generalize hw3:World.setCell _ _ _=w19
    have hst:RatStored w18 g10 49 (rneg X1) Ax (dl X1.num.natAbs) cx Bx (dl X1.den) dx w19:=by rw [<-hw3]; exact zaf r10 _ _ _ _ _ _ _
    clear hw3;replace mx1:=hst.nat _ _ _ mx1;rw [<-hst.size] at mx1;replace mx2:=hst.nat _ _ _ mx2;rw [<-hst.size] at mx2;replace my1:=hst.nat _ _ _ my1;rw [<-hst.size] at my1;replace my2:=hst.nat _ _ _ my2;rw [<-hst.size] at my2
    replace r11:=zad r11 hst.grown (by omega)
    replace r10:=hst.row
    replace hD:=hst.below hD (by omega) (by omega)
    clear hst hsz za0 za1 za2 ya0 ya1 ya2
    refine bkq hK ⟨(zaa rp hD).cell (i:=0) (by omega),(zaa rp hD).cell (i:=1) (by omega),(zaa rp hD).cell (i:=2) (by omega),(zaa rq hD).cell (i:=0) (by omega),(zaa rq hD).cell (i:=1) (by omega),(zaa rq hD).cell (i:=2) (by omega)⟩ (h:=fun hHeld=>?_)
    clear hK K
    have hsz:=hD.size
    have za0:=r11.frozen 0
    have za1:=r11.frozen 1
    have za2:=r11.frozen 2
    have ya0:=qc0 r11
    have ya1:=qc1 r11
    have ya2:=qc2 r11
    refine rdq 9 (h:=fun K hK=>?_)
    go_simp
    generalize hw3:World.setCell _ _ _=w20
    have hst:RatStored w19 g11 49 (rneg Y1) Ay (dl Y1.num.natAbs) cy By (dl Y1.den) dy w20:=by rw [<-hw3]; exact zaf r11 _ _ _ _ _ _ _
    clear hw3;replace mx1:=hst.nat _ _ _ mx1;rw [<-hst.size] at mx1;replace mx2:=hst.nat _ _ _ mx2;rw [<-hst.size] at mx2;replace my1:=hst.nat _ _ _ my1;rw [<-hst.size] at my1;replace my2:=hst.nat _ _ _ my2;rw [<-hst.size] at my2
    replace r10:=zad r10 hst.grown (by omega)
    replace r11:=hst.row
    replace hD:=hst.below hD (by omega) (by omega)
    clear hst hsz za0 za1 za2 ya0 ya1 ya2
    refine bkq hK ⟨(zaa rp hD).cell (i:=0) (by omega),(zaa rp hD).cell (i:=1) (by omega),(zaa rp hD).cell (i:=2) (by omega),(zaa rq hD).cell (i:=0) (by omega),(zaa rq hD).cell (i:=1) (by omega),(zaa rq hD).cell (i:=2) (by omega)⟩ (h:=fun hHeld=>?_)
    clear hK K
    refine wpAnyH_done (by kernel_rfl) ?_ _
    clear hHeld
    go_wp2
    go_meet
    exact ⟨g10,g11,Ax,cx,Bx,dx,Ay,cy,By,dy,rfl,rfl,r10,r11,mx1,mx2,my1,my2,mx3,mx4,mx5,mx6,my3,my4,my5,my6,hD⟩
  case rest =>
   obtain ⟨g10,g11,Ax,cx,Bx,dx,Ay,cy,By,dy,rfl,rfl,r10,r11,mx1,mx2,my1,my2,mx3,mx4,mx5,mx6,my3,my4,my5,my6,hD⟩:=hcut
   obtain ⟨w20,hw20⟩:∃ W,W=wc:=⟨_,rfl⟩
   rw [<-hw20] at r10 r11 mx1 mx2 my1 my2 hD ⊢;clear hw20 rf rp rq;replace re:=zaa re hD;replace me1:=me1.on hD;replace me2:=me2.on hD;replace hB:=onS hB hD;replace hE:=onS hE hD;clear hD
   have HTA2:=hid (HTA.out.on hE)
   clear HTA hE
   have HTA:=HTA2
   clear HTA2
   obtain ⟨z1,hz1⟩:∃ z,z=rsign (X1 - Y1):=⟨_,rfl⟩
   have hz1':decide (z1 ≥ 0)=true:=by rw [hz1]; exact decide_eq_true (zjO.2 (by rw [HX1.out,HY1.out]; exact HVAL.out.1))
   have HZ1:=hid hz1
   obtain ⟨z2,hz2⟩:∃ z,z=rsign Y1:=⟨_,rfl⟩
   have hz2':decide (z2 ≥ 0)=true:=by rw [hz2]; exact decide_eq_true (zbF.2 (by rw [HY1.out]; exact HVAL.out.2.2.2.1))
   have HZ2:=hid hz2
   clear hz1 hz2
   have HBT:Hid ((decide (0<=rsign X1) && decide (rsign (X1 - one)<=0))=true):=by
    show _=_
    simp only [Bool.and_eq_true,decide_eq_true_eq]
    exact ⟨zbF.2 (by rw [HX1.out]; exact HVAL.out.2.1),zen.2 (by rw [HX1.out,HONE.out]; exact HVAL.out.2.2.1)⟩
   go_wp2
   have hD0:Below w20.heap.size w20 w20:=Below.refl _ _
   refine wp_region_held_drew (S:=fun w'=>w'.cell? ⟨g10,0,none⟩=some (.bool (rneg X1))/\w'.cell? ⟨g10,1,none⟩=some (.slice Ax (dl X1.num.natAbs) cx)/\w'.cell? ⟨g10,2,none⟩=some (.slice Bx (dl X1.den) dx)/\w'.cell? ⟨g11,0,none⟩=some (.bool (rneg Y1))/\w'.cell? ⟨g11,1,none⟩=some (.slice Ay (dl Y1.num.natAbs) cy)/\w'.cell? ⟨g11,2,none⟩=some (.slice By (dl Y1.den) dy)/\w'.cell? ⟨g9,0,none⟩=some (.bool (rneg en))/\w'.cell? ⟨g9,1,none⟩=some (.slice Ae (dl en.num.natAbs) ce)/\w'.cell? ⟨g9,2,none⟩=some (.slice Be (dl en.den) de)) (by kernel_rfl) ⟨(zaa r10 hD0.drew).cell (i:=0) (by omega),(zaa r10 hD0.drew).cell (i:=1) (by omega),(zaa r10 hD0.drew).cell (i:=2) (by omega),(zaa r11 hD0.drew).cell (i:=0) (by omega),(zaa r11 hD0.drew).cell (i:=1) (by omega),(zaa r11 hD0.drew).cell (i:=2) (by omega),(zaa re hD0.drew).cell (i:=0) (by omega),(zaa re hD0.drew).cell (i:=1) (by omega),(zaa re hD0.drew).cell (i:=2) (by omega)⟩ (fun hHeld=>?_)
   obtain ⟨w21,hw⟩:∃ W,W=World.drew w20:=⟨_,rfl⟩
   have hD:Below w20.heap.size w20 w21:=by rw [hw]; exact (Below.refl _ _).drew
   rw [<-hw] at hHeld ⊢;clear hw hD0
   refine tkq 0 (h:=tkq 1 (h:=?_))
   refine rdq 2 (h:=fun K hK=>?_)
   go_simp
   go_wp2_with fail
   refine (zdh _ _ X1 Y1 100000 w21 (zaH (mx1.on hD) (mx2.on hD) mx3 mx4 mx5 mx6 hX1) (zaH (my1.on hD) (my2.on hD) my3 my4 my5 my6 hY1) (by omega) hX1 hY1).mono ?_
   rintro e w22 ⟨rfl,kb⟩
   rw [<-HZ1.out];replace hD:=onS hD kb;clear kb
   refine bkq hK ⟨(zaa r10 hD).cell (i:=0) (by omega),(zaa r10 hD).cell (i:=1) (by omega),(zaa r10 hD).cell (i:=2) (by omega),(zaa r11 hD).cell (i:=0) (by omega),(zaa r11 hD).cell (i:=1) (by omega),(zaa r11 hD).cell (i:=2) (by omega),(zaa re hD).cell (i:=0) (by omega),(zaa re hD).cell (i:=1) (by omega),(zaa re hD).cell (i:=2) (by omega)⟩ (h:=fun hHeld=>?_)
   clear hK K
   refine tkq 3 (h:=tkq 4 (h:=tkq 5 (h:=?_)))
   refine rdq 6 (h:=fun K hK=>?_)
   go_simp
   go_wp2_with fail
   refine (zbi 1 w22 (by omega) (by omega)).mono ?_
   rintro e w23 ⟨Aa,ca,Ba,da,rfl,ma1,ma2,ma3,ma4,ma5,ma6,kb⟩
   rw [<-HONE.out] at ma1 ma2 ma3 ma5 ⊢
   have HAR:=hid (zaH ma1 ma2 ma3 ma4 ma5 ma6 (hs1.mono (show 10<=100000 by omega)))
   replace hD:=onS hD kb;clear kb;clear ma1 ma2 ma3 ma4 ma5 ma6
   refine bkq hK ⟨(zaa r10 hD).cell (i:=0) (by omega),(zaa r10 hD).cell (i:=1) (by omega),(zaa r10 hD).cell (i:=2) (by omega),(zaa r11 hD).cell (i:=0) (by omega),(zaa r11 hD).cell (i:=1) (by omega),(zaa r11 hD).cell (i:=2) (by omega),(zaa re hD).cell (i:=0) (by omega),(zaa re hD).cell (i:=1) (by omega),(zaa re hD).cell (i:=2) (by omega)⟩ (h:=fun hHeld=>?_)
   clear hK K
   refine rdq 7 (h:=fun K hK=>?_)
   go_simp
   go_wp2_with fail
   refine (zcd true _ _ X1 one 100000 w23 (zaH (mx1.on hD) (mx2.on hD) mx3 mx4 mx5 mx6 hX1) HAR.out (by omega) hX1 (hs1.mono (by omega)) HBT).mono ?_
   rintro e w24 ⟨rfl,kb⟩
   replace hD:=onS hD kb;clear kb;clear HAR
   refine bkq hK ⟨(zaa r10 hD).cell (i:=0) (by omega),(zaa r10 hD).cell (i:=1) (by omega),(zaa r10 hD).cell (i:=2) (by omega),(zaa r11 hD).cell (i:=0) (by omega),(zaa r11 hD).cell (i:=1) (by omega),(zaa r11 hD).cell (i:=2) (by omega),(zaa re hD).cell (i:=0) (by omega),(zaa re hD).cell (i:=1) (by omega),(zaa re hD).cell (i:=2) (by omega)⟩ (h:=fun hHeld=>?_)
   clear hK K
   refine tkq 8 (h:=tkq 9 (h:=tkq 10 (h:=?_)))
   refine rdq 11 (h:=fun K hK=>?_)
   go_simp
   go_wp2_with fail
   refine (zcK _ Y1 100000 w24 (zaH (my1.on hD) (my2.on hD) my3 my4 my5 my6 hY1) (by omega)).mono ?_
   rintro e w25 ⟨rfl,kb⟩
   rw [<-HZ2.out];replace hD:=onS hD kb;clear kb
   refine bkq hK ⟨(zaa r10 hD).cell (i:=0) (by omega),(zaa r10 hD).cell (i:=1) (by omega),(zaa r10 hD).cell (i:=2) (by omega),(zaa r11 hD).cell (i:=0) (by omega),(zaa r11 hD).cell (i:=1) (by omega),(zaa r11 hD).cell (i:=2) (by omega),(zaa re hD).cell (i:=0) (by omega),(zaa re hD).cell (i:=1) (by omega),(zaa re hD).cell (i:=2) (by omega)⟩ (h:=fun hHeld=>?_)
   clear hK K
   refine tkq 12 (h:=tkq 13 (h:=tkq 14 (h:=tkq 15 (h:=?_))))
   refine rdq 16 (h:=fun K hK=>?_)
   go_simp
   go_wp2_with fail
   refine (zbi 0 w25 (by omega) (by omega)).mono ?_
   rintro e w26 ⟨Ab,cb,Bb,db,rfl,mb1,mb2,mb3,mb4,mb5,mb6,kb⟩
   rw [<-HZR.out] at mb1 mb2 mb3 mb5 ⊢
   have HBR:=hid (zaH mb1 mb2 mb3 mb4 mb5 mb6 (hsz0.mono (show 4<=100000 by omega)))
   replace hD:=onS hD kb;clear kb;clear mb1 mb2 mb3 mb4 mb5 mb6
   refine bkq hK ⟨(zaa r10 hD).cell (i:=0) (by omega),(zaa r10 hD).cell (i:=1) (by omega),(zaa r10 hD).cell (i:=2) (by omega),(zaa r11 hD).cell (i:=0) (by omega),(zaa r11 hD).cell (i:=1) (by omega),(zaa r11 hD).cell (i:=2) (by omega),(zaa re hD).cell (i:=0) (by omega),(zaa re hD).cell (i:=1) (by omega),(zaa re hD).cell (i:=2) (by omega)⟩ (h:=fun hHeld=>?_)
   clear hK K
   refine rdq 17 (h:=fun K hK=>?_)
   go_simp
   go_wp2_with fail
   refine (zat (HTA.out.on hD) HBR.out (by omega) (by omega) (HFIT.out zr hsz0)).mono ?_
   rintro e w27 ⟨Ac,cc,Bc,dc,rfl,mc1,mc2,mc3,mc4,mc5,mc6,kb⟩
   rw [HEV.out,HV0.out] at mc1 mc2 mc3 mc5 ⊢;replace hD:=onS hD kb;clear kb;clear HBR
   refine bkq hK ⟨(zaa r10 hD).cell (i:=0) (by omega),(zaa r10 hD).cell (i:=1) (by omega),(zaa r10 hD).cell (i:=2) (by omega),(zaa r11 hD).cell (i:=0) (by omega),(zaa r11 hD).cell (i:=1) (by omega),(zaa r11 hD).cell (i:=2) (by omega),(zaa re hD).cell (i:=0) (by omega),(zaa re hD).cell (i:=1) (by omega),(zaa re hD).cell (i:=2) (by omega)⟩ (h:=fun hHeld=>?_)
   clear hK K
   refine rdq 18 (h:=fun K hK=>?_)
   go_simp
   go_wp2_with fail
   refine (zbi 1 w27 (by omega) (by omega)).mono ?_
   rintro e w28 ⟨Au,cu,Bu,du,rfl,mu1,mu2,mu3,mu4,mu5,mu6,kb⟩
   rw [<-HONE.out] at mu1 mu2 mu3 mu5 ⊢;replace mc1:=mc1.on kb;replace mc2:=mc2.on kb;replace hD:=onS hD kb;clear kb
   refine bkq hK ⟨(zaa r10 hD).cell (i:=0) (by omega),(zaa r10 hD).cell (i:=1) (by omega),(zaa r10 hD).cell (i:=2) (by omega),(zaa r11 hD).cell (i:=0) (by omega),(zaa r11 hD).cell (i:=1) (by omega),(zaa r11 hD).cell (i:=2) (by omega),(zaa re hD).cell (i:=0) (by omega),(zaa re hD).cell (i:=1) (by omega),(zaa re hD).cell (i:=2) (by omega)⟩ (h:=fun hHeld=>?_)
   clear hK K
   refine rdq 19 (h:=fun K hK=>?_)
   go_simp
   go_wp2_with fail
   refine (zcV Ac Bc Au Bu cc dc cu du one 10 w28 mc1 mc2 mu1 mu2 (by omega) hs1).mono ?_
   rintro e w29 ⟨rfl,kb⟩
   replace hD:=onS hD kb;clear kb;clear mc1 mc2 mc3 mc4 mc5 mc6 mu1 mu2 mu3 mu4 mu5 mu6
   refine bkq hK ⟨(zaa r10 hD).cell (i:=0) (by omega),(zaa r10 hD).cell (i:=1) (by omega),(zaa r10 hD).cell (i:=2) (by omega),(zaa r11 hD).cell (i:=0) (by omega),(zaa r11 hD).cell (i:=1) (by omega),(zaa r11 hD).cell (i:=2) (by omega),(zaa re hD).cell (i:=0) (by omega),(zaa re hD).cell (i:=1) (by omega),(zaa re hD).cell (i:=2) (by omega)⟩ (h:=fun hHeld=>?_)
   clear hK K
   refine tkq 20 (h:=tkq 21 (h:=tkq 22 (h:=tkq 25 (h:=?_))))
   refine rdq 23 (h:=fun K hK=>?_)
   go_simp
   go_wp2_with fail
   refine (zbi 1 w29 (by omega) (by omega)).mono ?_
   rintro e w30 ⟨Ab,cb,Bb,db,rfl,mb1,mb2,mb3,mb4,mb5,mb6,kb⟩
   rw [<-HONE.out] at mb1 mb2 mb3 mb5 ⊢
   have HBR:=hid (zaH mb1 mb2 mb3 mb4 mb5 mb6 (hs1.mono (show 10<=100000 by omega)))
   replace hD:=onS hD kb;clear kb;clear mb1 mb2 mb3 mb4 mb5 mb6
   refine bkq hK ⟨(zaa r10 hD).cell (i:=0) (by omega),(zaa r10 hD).cell (i:=1) (by omega),(zaa r10 hD).cell (i:=2) (by omega),(zaa r11 hD).cell (i:=0) (by omega),(zaa r11 hD).cell (i:=1) (by omega),(zaa r11 hD).cell (i:=2) (by omega),(zaa re hD).cell (i:=0) (by omega),(zaa re hD).cell (i:=1) (by omega),(zaa re hD).cell (i:=2) (by omega)⟩ (h:=fun hHeld=>?_)
   clear hK K
   refine rdq 24 (h:=fun K hK=>?_)
   go_simp
   go_wp2_with fail
   refine (zat (HTA.out.on hD) HBR.out (by omega) (by omega) (HFIT.out one hs14)).mono ?_
   rintro e w31 ⟨Ac,cc,Bc,dc,rfl,mc1,mc2,mc3,mc4,mc5,mc6,kb⟩
   rw [HEV.out,HV1.out] at mc1 mc2 mc3 mc5 ⊢;replace hD:=onS hD kb;clear kb;clear HBR
   refine bkq hK ⟨(zaa r10 hD).cell (i:=0) (by omega),(zaa r10 hD).cell (i:=1) (by omega),(zaa r10 hD).cell (i:=2) (by omega),(zaa r11 hD).cell (i:=0) (by omega),(zaa r11 hD).cell (i:=1) (by omega),(zaa r11 hD).cell (i:=2) (by omega),(zaa re hD).cell (i:=0) (by omega),(zaa re hD).cell (i:=1) (by omega),(zaa re hD).cell (i:=2) (by omega)⟩ (h:=fun hHeld=>?_)
   clear hK K
   refine rdq 26 (h:=fun K hK=>?_)
   go_simp
   go_wp2_with fail
   refine (zcV Ac Bc Ae Be cc dc ce de en 10 w31 mc1 mc2 (me1.on hD) (me2.on hD) (by omega) hsen).mono ?_
   rintro e w32 ⟨rfl,kb⟩
   replace hD:=onS hD kb;clear kb;clear mc1 mc2 mc3 mc4 mc5 mc6
   refine bkq hK ⟨(zaa r10 hD).cell (i:=0) (by omega),(zaa r10 hD).cell (i:=1) (by omega),(zaa r10 hD).cell (i:=2) (by omega),(zaa r11 hD).cell (i:=0) (by omega),(zaa r11 hD).cell (i:=1) (by omega),(zaa r11 hD).cell (i:=2) (by omega),(zaa re hD).cell (i:=0) (by omega),(zaa re hD).cell (i:=1) (by omega),(zaa re hD).cell (i:=2) (by omega)⟩ (h:=fun hHeld=>?_)
   clear hK K
   refine tkq 27 (h:=tkq 28 (h:=?_))
   refine wpAnyH_done (by kernel_rfl) ?_ _
   clear hHeld
   have hBB:=onS hB hD
   clear hB hD
   go_wp2
   go_ret
   exact ⟨rfl,hBB⟩
theorem channelFalls_law {H:Type} {enc:TypeId × Value->H} {w:World} {cs cs' cs2:Array Value}
  (h:Sees enc Tryz.prog w 0 (fun _=>true) true 27 cs.toList) (hx:Sees enc Tryz.prog w 0 (fun _=>true) true 49 cs'.toList) (hp:Sees enc Tryz.prog w 0 (fun _=>true) true 49 cs2.toList) :
  Calls Tryz.prog 5 #[.agg cs,.agg cs',.agg cs2] w fun e w'=>e=.returned (.bool true)/\Below w.heap.size w w':=by
 obtain ⟨cs⟩:=cs
 obtain ⟨cs'⟩:=cs'
 obtain ⟨cs2⟩:=cs2
 obtain ⟨P,M,A,k,c1,N,T1,n,d,f,ln,V,rfl,_,_,hkc,_,_,_,hr,ht⟩:=zie h
 obtain ⟨s,XA,xl,xc,XB,yl,yc,p,rfl,hpr⟩:=zg7 hx
 obtain ⟨s2,YA,xl2,xc2,YB,yl2,yc2,p',rfl,hpr2⟩:=zg7 hp
 exact zdq P M A k c1 f N T1 n d ln V s XA xl xc XB yl yc p s2 YA xl2 xc2 YB yl2 yc2 p' w hr ht hpr hpr2
end Go.Proofs.YtioagplajkoohaaGreat