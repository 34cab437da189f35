/- Merged texts of a claim: RatA. -/
import Derived.Test.YtioagplajkoohaaGreatTF1
import Derived.Test.YtioagplajkoohaaGreatTF5
import Derived.Test.YtioagplajkoohaaGreatTF6
import Derived.Deep.RegionHeld3
namespace Go.Proofs.YtioagplajkoohaaGreat
set_option maxRecDepth 100000
set_option maxHeartbeats 32000000
open KA KB KC KE
open Go.RowKit
def NatRaw (w:World) (B:Nat) (A:Option Addr) (n x:Nat):Prop:=∃ f:Nat->Nat,Lims w B A n f/\(∀ i,i<n->f i<4294967296)/\nv f n=x
theorem NatRaw.on {w w':World} {A:Option Addr} {n x:Nat} (h:NatRaw w w.heap.size A n x) (hb:Below w.heap.size w w'):NatRaw w' w'.heap.size A n x:=by
 obtain ⟨f,h1,h2,h3⟩:=h
 exact ⟨f,h1.on hb,h2,h3⟩
theorem NatRaw.dl {w:World} {B:Nat} {A:Option Addr} {n x:Nat} (h:NatRaw w B A n x):dl x<=n:=by
 obtain ⟨f,h1,h2,rfl⟩:=h
 exact zdO (zeX h2)
theorem NatOk.raw {w:World} {B:Nat} {A:Option Addr} {x:Nat} (h:NatOk w B A x):NatRaw w B A (dl x) x:=⟨dg x,h,fun i _=>zes x i,zcg x⟩
theorem zco (A:Option Addr) (n c x:Nat) (w:World) (h:NatRaw w w.heap.size A n x) (hc:n<=c) (hm:c<=maxLen) :
  Calls Tryz.prog 149 #[.slice A n c] w fun e w'=>e=.returned (.slice A (dl x) (dl x))/\NatOk w w.heap.size A x/\w=w':=by
 obtain ⟨f,h1,h2,rfl⟩:=h
 exact zbk A n c f w h1 h2 hc hm
theorem zbZ (A:Option Addr) (n c x:Nat) (w:World) (h:NatRaw w w.heap.size A n x) (hc:n<=c) (hm:c<=maxLen) (hn:n<=1073741824) :
  Calls Tryz.prog 156 #[.slice A n c] w (NatPost x w):=by
 obtain ⟨f,h1,h2,rfl⟩:=h
 exact zaU A n c f w h1 h2 hc hm hn
theorem zaA (A:Option Addr) (n0 c x:Nat) (w:World) (hr:NatRaw w w.heap.size A n0 x) (hc0:n0<=c) (hm:c<=maxLen) (hn0':n0<=1073741824) :
  Calls Tryz.prog 67 #[.slice A n0 c] w fun e w'=>e=.returned (.int .i64 (nlen x:Nat))/\w=w':=by
 have hdr:=hr.dl
 have hn:dl x<=1073741824:=by omega
 have hc:dl x<=c:=by omega
 go_enter Tryz.func67, Tryz.ntmps67
 go_wp2_with fail
 refine (zco A n0 c x w hr hc0 hm).mono ?_
 rintro e w1 ⟨rfl,h,rfl⟩
 by_cases h0:x=0
 ·have hd:dl x=0:=by rw [h0]; exact zas
  have H:=hid (show nlen x=0 by rw [h0]; exact zar)
  rw [hd];clear h0 hd
  go_wp2
  go_ret
  exact ⟨zaF (by rw [H.out]; rfl),rfl⟩
 ·have hd:0<dl x:=by have:=mt zaL.1 h0; omega
  obtain ⟨b,o,rfl,hb,e0⟩:=Lims.at h (i:=dl x - 1) (by omega)
  have HL:=hid (zey h0)
  have hg:=zes x (dl x - 1)
  have HB:=hid (zcC (x:=dg x (dl x - 1)) (by omega))
  have hnl:=zci (x:=dg x (dl x - 1)) (k:=32) hg
  obtain ⟨n,hn'⟩:∃ n,n=dl x:=⟨_,rfl⟩
  obtain ⟨v,hv⟩:∃ v,v=dg x (dl x - 1):=⟨_,rfl⟩
  rw [<-hv] at hg HB hnl e0 HL;rw [<-hn'] at e0 hd HL hn hc hdr ⊢
  have hw2:((n:Int) - 1).toNat=n - 1:=by omega
  have hn0:((n:Int) == 0)=false:=by simp; omega
  clear hn' hv h h0 hr
  go_wp2_with fail
  refine (Tryz.bits_Len32 (v:Int) w (by omega) (by omega)).mono ?_
  rintro e w1 ⟨rfl,rfl⟩
  rw [Int.toNat_natCast,HB.out]
  go_wp2
  go_ret
  exact ⟨zaF (by rw [HL.out]; omega),rfl⟩
theorem zdE (A:Option Addr) (n0 c x:Nat) (w:World) (h:NatRaw w w.heap.size A n0 x) (hc0:n0<=c) (hm:c<=maxLen) (hn0':n0<=1073741824) :
  Calls Tryz.prog 226 #[.slice A n0 c] w fun e w'=>e=.returned (.int .i64 (nlen x:Nat))/\Below w.heap.size w w':=by
 have hdr:=h.dl
 have hn:dl x<=1073741824:=by omega
 go_enter Tryz.func226, Tryz.ntmps226
 go_wp2_with fail
 refine (zbZ A n0 c x w h hc0 hm hn0').mono ?_
 rintro e w1 ⟨A2,c2,rfl,g1,g2,g3,g4⟩
 by_cases h0:x=0
 ·have hd:dl x=0:=by rw [h0]; exact zas
  have H:=hid (show nlen x=0 by rw [h0]; exact zar)
  rw [hd];clear h0 hd g1 g3
  go_wp2
  go_ret
  exact ⟨zaF (by rw [H.out]; rfl),g4⟩
 ·have hd:0<dl x:=by have:=mt zaL.1 h0; omega
  obtain ⟨b,o,rfl,hb,e0⟩:=Lims.at g3 (i:=dl x - 1) (by omega)
  have HL:=hid (zey h0)
  have hg:=zes x (dl x - 1)
  obtain ⟨n,hn'⟩:∃ n,n=dl x:=⟨_,rfl⟩
  obtain ⟨v,hv⟩:∃ v,v=dg x (dl x - 1):=⟨_,rfl⟩
  rw [<-hv] at hg e0 HL;rw [<-hn'] at e0 hd HL hn g1 hdr ⊢
  have hw2:((n:Int) - 1).toNat=n - 1:=by omega
  have hn0:((n:Int) == 0)=false:=by simp; omega
  have hlen:=zci (x:=v) (k:=32) hg
  clear hn' hv h h0 g3
  go_wp2
  go_loopg [3,4] (nlen v) (fun gg nv tv wx=>∃ j u:Nat,nv=.int .i64 (32*((n:Int) - 1)+(j:Nat))/\tv=.int .u32 (u:Nat)/\Hid (j+nlen u=nlen v)/\nlen u<=gg/\j<=32/\u<4294967296/\w1=wx)
  case atStart=>exact ⟨0,v,by simp,rfl,hid (by omega),Nat.le_refl _,by omega,hg,rfl⟩
  case round =>
   obtain ⟨j,u,rfl,rfl,hj,hgg,hj2,hu,rfl⟩:=hrel
   by_cases hu0:u=0
   ·have HJ:Hid (j=nlen v):=by
     have:=hj.out
     rw [hu0,zar] at this
     show _=_
     omega
    subst hu0
    go_wp2
    go_ret
    exact ⟨zaF (by rw [HL.out,<-HJ.out]; omega),g4⟩
   ·have hp:=zaY hu0
    have hj3:=hj.out
    have hu1:(0:Int)<(u:Int):=by omega
    have hu2:((u:Int) / 2)=((u / 2:Nat):Int):=by omega
    have HU:=hid hu2
    have HN:Hid (j+1+nlen (u / 2)=nlen v):=by show _=_; omega
    have hgg2:nlen (u / 2)<gk:=by omega
    have hj4:j+1<=32:=by omega
    clear hu2 hp hj3
    go_wp2
    go_roundg (nlen (u / 2))
    case measure=>omega
    case rel=>exact ⟨j+1,u / 2,by congr 1 <;> omega,by rw [HU.out],HN,Nat.le_refl _,hj4,by omega,rfl⟩
theorem zcU (A A2:Option Addr) (n0 m0 c c2 x y:Nat) (w:World) (hr:NatRaw w w.heap.size A n0 x) (hr2:NatRaw w w.heap.size A2 m0 y) (hc0:n0<=c) (hm:c<=maxLen) (hc02:m0<=c2) (hm2:c2<=maxLen) (hn0:n0<=268435456) (hn02:m0<=268435456) (hy:0<y) :
  Calls Tryz.prog 224 #[.slice A n0 c,.slice A2 m0 c2] w (DivPost x y w):=by
 have hdr:=hr.dl
 have hdr2:=hr2.dl
 have hn:dl x<=268435456:=by omega
 have hn2:dl y<=268435456:=by omega
 have hdy:dl y≠0:=fun e=>by have:=zaL.1 e; omega
 have hx9:dl x<=maxLen:=by unfold maxLen; omega
 have hy9:dl y<=maxLen:=by unfold maxLen; omega
 have hdz:((dl y:Nat):Int)≠0:=by omega
 have hdb:(((dl y:Nat):Int) == 0)=false:=by simp; omega
 have HXY:=hid (show dl (x / y)<=dl x from zaw (Nat.div_le_self _ _))
 have HXM:=hid (show dl (x % y)<=dl y from zaw (Nat.le_of_lt (Nat.mod_lt _ hy)))
 go_enter Tryz.func224, Tryz.ntmps224
 go_wp2_with fail
 refine (zco A n0 c x w hr hc0 hm).mono ?_
 rintro e w1 ⟨rfl,h,rfl⟩
 go_wp2_with fail
 refine (zco A2 m0 c2 y w hr2 hc02 hm2).mono ?_
 rintro e w1 ⟨rfl,h2,rfl⟩
 clear hr hr2
 rcases Nat.lt_or_ge x y with hlt | hge
 ·have hq:x / y=0:=Nat.div_eq_of_lt hlt
  have hr:x % y=x:=Nat.mod_eq_of_lt hlt
  have HC:=hid (zcS hlt)
  have HQ:=hid hq
  have HR:=hid hr
  clear hq hr
  go_wp2_with fail
  refine (za8 A A2 (dl x) (dl y) x y w h h2 (Nat.le_refl _) hx9 (Nat.le_refl _) hy9 (by omega)).mono ?_
  rintro e w1 ⟨rfl,hb1⟩
  rw [HC.out]
  have g1:=h.on hb1
  clear h h2
  go_wp2_with fail
  refine (zcc A (dl x) x w1 g1 (Nat.le_refl _) hx9 (by omega)).mono ?_
  rintro e w2 ⟨A3,c3,rfl,k1,k2,k3,k4⟩
  have hB:=onS hb1 k4
  clear k4 hb1
  go_wp2
  go_ret3
  exact ⟨none,0,A3,c3,by rw [HQ.out,HR.out,zas]; rfl,by rw [HQ.out,zas]; omega,by unfold maxLen; omega,by rw [HR.out]; exact k1,k2,by rw [HQ.out]; exact fun i hi=>absurd hi (by rw [zas]; omega),by rw [HR.out]; exact k3,hB⟩
 ·obtain ⟨z,hz⟩:∃ z,z=cmpN x y:=⟨_,rfl⟩
  have hz0:¬ z<0:=by
   rw [hz]
   rcases Nat.lt_or_ge y x with e | e
   ·rw [zcm e]; omega
   ·rw [zcT (by omega)]; omega
  have HZ:=hid hz
  clear hz
  by_cases h1:dl y=1
  ·have hy1:y<4294967296:=by have:=zaT y; rw [h1] at this; omega
   have t0:∃ b o,A2=some ⟨b,o,none⟩/\b<w.heap.size/\w.cell? ⟨b,o,none⟩=some (.int .u32 (y:Nat)):=by
    obtain ⟨b,o,e,g1,g3⟩:=h2.at (i:=0) (by omega)
    rw [zeY hy1] at g3
    exact ⟨b,o,e,g1,g3⟩
   obtain ⟨b,o,rfl,hbw,t0⟩:=t0
   have H1:=hid h1
   have hL:Lims w w.heap.size A (dl x) (dg x):=h
   have HMD:Hid (x % y<4294967296):=by have:=Nat.mod_lt x hy; show _<_; omega
   rw [h1];clear hdz hdb hdy
   have h2':=h2
   unfold NatOk at h2'
   go_wp2_with fail
   refine (show Calls _ _ _ w fun e w'=>e=.returned (.int .i64 (cmpN x y))/\Below w.heap.size w w' from by have:=za8 A (some ⟨b,o,none⟩) (dl x) 1 x y w h h2 (Nat.le_refl _) hx9 (by omega) (by unfold maxLen; omega) (by omega); rw [h1] at this; exact this).mono ?_
   rintro e w1 ⟨rfl,hb1⟩
   rw [<-HZ.out]
   have g1:=hL.on hb1
   have t1:=(hb1.cell (p:=⟨b,o,none⟩) hbw).trans t0
   clear h h2 h2' t0 h1
   go_wp2_with fail
   refine (zd3 A (dl x) (dl x) y (dg x) w1 g1 (za7 x) (by omega) hy hy1).mono ?_
   rintro e w2 ⟨A3,c3,rfl,k1,k2,k3,k4⟩
   rw [zcg] at k1 k3 ⊢
   have hB2:=onS hb1 k4
   clear k4 hb1
   have HU:Hid ((((x % y:Nat):Int)) % 18446744073709551616=((x % y:Nat):Int)):=by have:=HMD.out; show _=_; omega
   obtain ⟨r,hr⟩:∃ r,r=x % y:=⟨_,rfl⟩
   rw [<-hr]
   have HRR:=hid hr
   have hrb:r<4294967296:=by rw [hr]; exact HMD.out
   clear hr
   go_wp2_with fail
   refine (zc4 r w2 (by omega)).mono ?_
   rintro e w3 ⟨A4,c4,rfl,m1,m2,m3,m4⟩
   rw [HRR.out] at m1 m3 ⊢
   have k5:=k3.on m4
   have hB3:=onS hB2 m4
   clear m4 k3
   go_wp2
   go_ret3
   exact ⟨A3,c3,A4,c4,rfl,k1,k2,m1,m2,k5,m3,hB3⟩
  ·have hd1:(((dl y:Nat):Int) == 1)=false:=by simp; omega
   obtain ⟨m,hm2'⟩:∃ m,dl y=m+2:=⟨dl y - 2,by omega⟩
   have HM:=hid hm2'
   clear hm2' h1
   go_wp2_with fail
   refine (za8 A A2 (dl x) (dl y) x y w h h2 (Nat.le_refl _) hx9 (Nat.le_refl _) hy9 (by omega)).mono ?_
   rintro e w1 ⟨rfl,hb1⟩
   rw [<-HZ.out]
   have g1:=h.on hb1
   have g2:=h2.on hb1
   clear h h2
   go_wp2_with fail
   refine (zgT A A2 (dl x) (dl y) x y m w1 g1 g2 HM.out hge hn).mono ?_
   rintro e w2 ⟨A3,n3,o3,A4,m4,r4,rfl,k1,k2,k3,k4,k5,k6,k7,k8,k9⟩
   have hB2:=onS hb1 k9
   have HK7:=hid k7
   have HK8:=hid k8
   have HK5:Hid (∀ i,i<n3->o3 i<4294967296):=k5
   have HK6:Hid (∀ i,i<m4->r4 i<4294967296):=k6
   clear k9 hb1 g1 g2 k7 k8 k5 k6
   go_wp2_with fail
   refine (zcz A3 n3 n3 o3 w2 k3 HK5 (Nat.le_refl _) (by unfold maxLen; omega) (by omega)).mono ?_
   rintro e w3 ⟨A5,c5,rfl,p1,p2,p3,p4⟩
   rw [HK7.out] at p1 p3 ⊢
   have k4':=k4.on p4
   have hB3:=onS hB2 p4
   clear p4 k3 k4 hB2
   go_wp2_with fail
   refine (zcz A4 m4 m4 r4 w3 k4' HK6 (Nat.le_refl _) (by unfold maxLen; omega) (by omega)).mono ?_
   rintro e w4 ⟨A6,c6,rfl,q1,q2,q3,q4⟩
   rw [HK8.out] at q1 q3 ⊢
   have p5:=p3.on q4
   have hB4:=onS hB3 q4
   clear q4 k4' hB3 p3
   go_wp2
   go_ret3
   exact ⟨A5,c5,A6,c6,rfl,p1,p2,q1,q2,p5,q3,hB4⟩
theorem zfb (A:Option Addr) (n0 c x n:Nat) (w:World) (hr:NatRaw w w.heap.size A n0 x) (hn:n<=8589934592) (hd:n0<=268435456) :
  Calls Tryz.prog 227 #[.slice A n0 c,.int .i64 (n:Nat)] w (NatPost (x*2 ^ n) w):=by
 obtain ⟨f,h,hf,hnx⟩:=hr
 have HF:=hid hf
 have HNX:=hid hnx
 clear hf hnx
 obtain ⟨i0,qi0,qz0,qz1,qz2⟩:=info_parts Tryz.infoU32
 obtain ⟨q,hq⟩:∃ q,q=n / 32:=⟨_,rfl⟩
 obtain ⟨s,hs⟩:∃ s,s=n % 32:=⟨_,rfl⟩
 have hs31:s<=31:=by omega
 have hqn:q<=268435456:=by omega
 have eq1:(n:Int) / 32=(q:Int):=by omega
 have eq2:(n:Int) % 32=(s:Int):=by omega
 have HXN:Hid (x*2 ^ s*4294967296 ^ q=x*2 ^ n):=by
  show _=_
  rw [Nat.mul_assoc,show (4294967296:Nat)=2 ^ 32 from rfl,<-Nat.pow_mul,<-Nat.pow_add]
  congr 2
  omega
 have hmk:=fun W=>zau (P:=Tryz.prog) 47 110 _ 4 Tryz.underlying47 Tryz.infoU32 rfl (q:Int) (by omega) (by omega) (by omega) W
 obtain ⟨P,hP⟩:∃ P,P=2 ^ s:=⟨_,rfl⟩
 have hP0:0<P:=by rw [hP]; exact Nat.pow_pos (by omega)
 have hP1:P<=2147483648:=by rw [hP]; exact Nat.pow_le_pow_right (n:=2) (by omega) hs31
 have HP:=hid hP
 have hO0:Own (w.alloc (.cells (madeCells #[Value.int .u32 0] q) 110)) w.heap.size 110 1 (.slice (some ⟨w.heap.size,0,none⟩) q q) q (fun i _=>.int .u32 ((fun _:Nat=>0) i:Nat)):=by
  have hr:=World.rowIs_made w (.int .u32 0) q 110
  obtain ⟨cc,g1,g2,g3⟩:=hr
  refine .inr ⟨w.heap.size,0,q,cc,rfl,Nat.le_refl _,g1,Nat.le_refl _,by unfold maxLen; omega,by omega,fun i hi j hj=>?_⟩
  obtain rfl:j=0:=by omega
  rw [Nat.zero_add,Nat.mul_one,Nat.add_zero]
  exact g3 i hi
 clear hP hq hs
 go_enter Tryz.func227, Tryz.ntmps227
 go_wp2
 go_loopg [7,5,6] (n0) (fun gg iv ov cv wx=>∃ k ca:Nat,∃ o:Nat->Nat,iv=.int .i64 (k:Nat)/\cv=.int .u64 (ca:Nat)/\n0<=k+gg/\k<=n0/\ca<P/\Below w.heap.size w wx/\Own wx w.heap.size 110 1 ov (q+k) (fun i _=>.int .u32 (o i:Nat))/\Hid (∀ i,o i<4294967296)/\Hid (∀ i,i<q->o i=0)/\Hid (nv (seg o q) k+ca*4294967296 ^ k=nv (f) k*2 ^ s))
 case atStart=>exact ⟨0,0,fun _=>0,rfl,rfl,by omega,by omega,hP0,(Below.refl _ _).alloc (Nat.le_refl _) _,hO0,hid fun _=>by show 0<_; omega,hid fun _ _=>rfl,hid (by simp [nv])⟩
 case round =>
  clear hO0 hmk
  obtain ⟨k,ca,o,rfl,rfl,hkg,hk,hca,hB,hO,HO,HZ,HV⟩:=hrel
  by_cases hlt:k<n0
  ·have hlt':(k:Int)<(n0:Int):=by omega
   obtain ⟨b1,o1,rfl,hb2,e0⟩:=(h.on hB).at (i:=k) hlt
   obtain ⟨a,ha⟩:∃ a,a=f k:=⟨_,rfl⟩
   have q1:=HF.out k hlt
   rw [<-ha] at e0 q1
   have HA:=hid ha
   have ht1:a*P+ca<4294967296*P:=by
    have:(a+1)*P<=4294967296*P:=Nat.mul_le_mul_right _ q1
    rw [Nat.add_mul,Nat.one_mul] at this
    omega
   obtain ⟨aP,haP⟩:∃ aP,aP=a*P:=⟨_,rfl⟩
   rw [<-haP] at ht1
   have hwr:(a:Int)*2 ^ s=(aP:Int):=by rw [haP,HP.out,Int.natCast_mul,Int.natCast_pow]; rfl
   have hwr2:IntKind.u64.wrap (aP:Int)=(aP:Int):=IntWalk.u64_in _ (by omega)
   have hsb:(aP:Int)+ca<=18446744073709551615:=by omega
   have s1:=ze8 (s:=aP+ca) HV.out (by rw [haP,HA.out,HP.out])
   rw [<-zcn] at s1
   have K1:=hid s1
   have hO1:Own wr w.heap.size 110 1 u5 (q+k) (fun i _=>.int .u32 (upd o (q+k) ((aP+ca) % 4294967296) i:Nat)):=hO.congr fun i hi _ _=>by rw [zap (by omega)]
   have N1:Hid (∀ z:Int,z=(((aP+ca) % 4294967296:Nat):Int)->∀ j,j<1->(wr.alloc (Obj.cells #[Value.int .u32 z] 110)).cell? ((⟨wr.heap.size,0,none⟩:Addr).add j)=some (.int .u32 (upd o (q+k) ((aP+ca) % 4294967296) (q+k):Nat))):=fun z hz j hj=>by
    obtain rfl:j=0:=by omega
    rw [zaI,hz]
    exact World.cell?_alloc_at _ _ _ _ rfl
   have N2:Hid (∀ j,j<1->(Value.int .u32 (upd o (q+k) ((aP+ca) % 4294967296) (q+k):Nat)).oneCell'=true):=fun _ _=>rfl
   have n3:Hid (q+k+1<=maxLen):=by show _<=_; unfold maxLen; omega
   have n4:Hid ((q+k+1)*4<=140737488355328):=by show _<=_; omega
   have hQb:Hid (∀ k,u5.ownBlock=some k->w.heap.size<=k):=fun k e=>(hO.lt k e).1
   have K3:Hid (∀ i,upd o (q+k) ((aP+ca) % 4294967296) i<4294967296):=fun i=>by
    unfold upd
    split
    ·omega
    ·exact HO.out i
   have K4:Hid (∀ i,i<q->upd o (q+k) ((aP+ca) % 4294967296) i=0):=fun i hi=>by rw [zap (by omega)]; exact HZ.out i hi
   have K5:Hid (((aP:Int)+ca) / 4294967296=(((aP+ca) / 4294967296:Nat):Int)):=by show _=_; omega
   have K6:Hid (((aP:Int)+ca) % 4294967296=(((aP+ca) % 4294967296:Nat):Int)):=by show _=_; omega
   have K7:Hid ((aP+ca) / 4294967296<P):=by show _<_; omega
   have hsz:=hB.size
   have hBA:=hid fun z:Int=>hB.alloc hB.size (Obj.cells #[Value.int .u32 z] 110)
   clear ha haP hO s1 ht1
   go_upto_region 7 with fail
   go_wp2_with (first | (at_builtin; (refine zao _ rfl (.tmp 28) (.tmp 32) _ rfl w.heap.size 110 i0 _ 1 4 Tryz.underlying47 qi0 qz0 qz1 qz2 rfl (by omega) u5 (q+k) _ rfl (hO1.alloc _) ⟨wr.heap.size,0,none⟩ 1 rfl (N1.out _ K6.out) N2.out n3.out n4.out (by simp; omega) ?_); intro v' w3 hown3 hg3 hat3))
   have hB3:=(hBA.out _).grown hg3 (by simp; omega) (fun q e=>hQb.out q e)
   go_roundg (gk - 1)
   case measure=>omega
   case rel=>exact ⟨k+1,(aP+ca) / 4294967296,_,by go_num,by rw [<-K5.out],by omega,by omega,K7.out,hB3,hown3,K3,K4,K1⟩
  ·obtain rfl:n0=k:=by omega
   have hcm:(ca:Int) % 4294967296=(ca:Int):=by omega
   have hO1:Own wr w.heap.size 110 1 u5 (q+n0) (fun i _=>.int .u32 (upd o (q+n0) ca i:Nat)):=hO.congr fun i hi _ _=>by rw [zap (by omega)]
   have N1:Hid (∀ z:Int,z=((ca:Nat):Int)->∀ j,j<1->(wr.alloc (Obj.cells #[Value.int .u32 z] 110)).cell? ((⟨wr.heap.size,0,none⟩:Addr).add j)=some (.int .u32 (upd o (q+n0) ca (q+n0):Nat))):=fun z hz j hj=>by
    obtain rfl:j=0:=by omega
    rw [zaI,hz]
    exact World.cell?_alloc_at _ _ _ _ rfl
   have N2:Hid (∀ j,j<1->(Value.int .u32 (upd o (q+n0) ca (q+n0):Nat)).oneCell'=true):=fun _ _=>rfl
   have n3:Hid (q+n0+1<=maxLen):=by show _<=_; unfold maxLen; omega
   have n4:Hid ((q+n0+1)*4<=140737488355328):=by show _<=_; omega
   have hQb:Hid (∀ k,u5.ownBlock=some k->w.heap.size<=k):=fun k e=>(hO.lt k e).1
   have K3:Hid (∀ i,i<q+n0+1->upd o (q+n0) ca i<4294967296):=fun i _=>by
    unfold upd
    split
    ·omega
    ·exact HO.out i
   have K1:Hid (nv (upd o (q+n0) ca) (q+n0+1)=x*2 ^ n):=by
    show _=_
    rw [show q+n0+1=q+(n0+1) by omega,ziC (fun i hi=>by rw [zap (by omega)]; exact HZ.out i hi),zcn,zbP,HV.out,HNX.out,HXN.out]
   have hsz:=hB.size
   have hBA:=hid fun z:Int=>hB.alloc hB.size (Obj.cells #[Value.int .u32 z] 110)
   clear hO
   go_wp2_with (first | (at_builtin; (refine zao _ rfl (.tmp 36) (.tmp 39) _ rfl w.heap.size 110 i0 _ 1 4 Tryz.underlying47 qi0 qz0 qz1 qz2 rfl (by omega) u5 (q+n0) _ rfl (hO1.alloc _) ⟨wr.heap.size,0,none⟩ 1 rfl (N1.out _ rfl) N2.out n3.out n4.out (by simp; omega) ?_); intro v' w3 hown3 hg3 hat3))
   have hB3:=(hBA.out _).grown hg3 (by simp; omega) (fun q e=>hQb.out q e)
   obtain ⟨oa,oc,rfl⟩:=hown3.shape
   have hcap:=hown3.cap
   have hI:Lims w3 w3.heap.size oa (q+n0+1) (upd o (q+n0) ca):=hown3.rd rfl
   clear hown3 hg3 hat3 hO1
   refine (zaU oa (q+n0+1) oc _ w3 hI K3 hcap.1 hcap.2 (by omega)).mono ?_
   rintro e w4 ⟨A',c',rfl,g1,g2,g3,g4⟩
   rw [K1.out] at g1 g3 ⊢
   have hB4:=onS hB3 g4
   clear g4 hI
   go_wp2
   go_ret
   exact ⟨A',c',rfl,g1,g2,g3,hB4⟩
theorem zbQ (A A2:Option Addr) (n0 m0 c c2 x y:Nat) (w:World) (h:NatRaw w w.heap.size A n0 x) (h2:NatRaw w w.heap.size A2 m0 y) (hc:n0<=c) (hm:c<=maxLen) (hc2:m0<=c2) (hm2:c2<=maxLen) (hn0:n0<=134217728) (hn02:m0<=134217728) (hy:0<y) :
  Calls Tryz.prog 173 #[.slice A n0 c,.slice A2 m0 c2] w (RefDivPost x y w):=by
 have hdr:=h.dl
 have hdr2:=h2.dl
 have hn:dl x<=134217728:=by omega
 have hn2:dl y<=134217728:=by omega
 have HH:=hid (zjl (x:=x) hy)
 have hxl:=zeI hn
 have hyl:=zeI hn2
 go_enter Tryz.func173, Tryz.ntmps173
 go_wp2_with fail
 refine (zbZ A n0 c x w h hc hm (by omega)).mono ?_
 rintro e w1 ⟨A3,c3,rfl,f1,f2,f3,f4⟩
 have g1:=h.on f4
 have g2:=h2.on f4
 have hB1:=onS (Below.refl _ w) f4
 clear f4 h h2
 go_wp2_with fail
 refine (zdE A n0 c x w1 g1 hc hm (by omega)).mono ?_
 rintro e w2 ⟨rfl,hb2⟩
 have f4:=f3.on hb2
 have g3:=g2.on hb2
 have hB2:=onS hB1 hb2
 clear hb2 f3 g2 g1 hB1
 go_wp2_with fail
 refine (zdE A2 m0 c2 y w2 g3 hc2 hm2 (by omega)).mono ?_
 rintro e w3 ⟨rfl,hb3⟩
 have f5:=f4.on hb3
 have g4:=g3.on hb3
 have hB3:=onS hB2 hb3
 clear hb3 f4 g3 hB2
 go_wp2
 go_loopg [7,5,4] (nlen x+1 - nlen y) (fun gg iv rv qv wx=>∃ i:Int,∃ J r Q:Nat,∃ Ar cr Aq cq,iv=.int .i64 i/\rv=.slice Ar (dl r) cr/\qv=.slice Aq (dl Q) cq/\(0<=i/\i+1=(J:Nat)∨i<0/\J=0) /\ -8589934592<=i/\J<=gg/\(J=0∨J+nlen y<=nlen x+1) /\
  dl r<=cr/\cr<=maxLen/\dl Q<=cq/\cq<=maxLen/\NatOk wx wx.heap.size Ar r/\NatOk wx wx.heap.size Aq Q/\NatRaw wx wx.heap.size A2 m0 y/\Below w.heap.size w wx/\Hid (r<y*2 ^ J)/\Hid (x=Q*y+r))
 case atStart =>
  refine ⟨_,nlen x+1 - nlen y,x,0,A3,c3,none,0,rfl,rfl,by rw [zas],by omega,by omega,by omega,by omega,f1,f2,by rw [zas]; omega,by unfold maxLen; omega,f5,fun i hi=>absurd hi (by rw [zas]; omega),g4,hB3,HH,?_⟩
  show x=0*y+x
  omega
 case round =>
  clear f5 g4 hB3
  obtain ⟨i,J,r,Q,Ar,cr,Aq,cq,rfl,rfl,rfl,hiJ,hi0,hJg,hJx,hcr,hcr2,hcq,hcq2,hR,hQ,hY,hB,HR,HE⟩:=hrel
  have hrx:r<=x:=by have:=HE.out; omega
  have hQx:Q<=x:=by
   have h1:=HE.out
   have h2:Q*1<=Q*y:=Nat.mul_le_mul_left _ hy
   omega
  have hdr:=zaw hrx
  have hdQ:=zaw hQx
  by_cases hi:0<=i
  ·obtain ⟨j,rfl⟩:=Int.eq_ofNat_of_zero_le hi
   obtain rfl:J=j+1:=by omega
   have htn:=zkQ (x:=x) (y:=y) (j:=j) (by omega)
   have htd:dl (y*2 ^ j)<=134217728:=zgU (by omega)
   clear hi
   go_wp2_with fail
   refine (zfb A2 m0 c2 y j wr hY (by omega) (by omega)).mono ?_
   rintro e w4 ⟨At,ct,rfl,k1,k2,k3,k4⟩
   obtain ⟨t,ht⟩:∃ t,t=y*2 ^ j:=⟨_,rfl⟩
   rw [<-ht] at k1 k3 htd ⊢
   have HT:=hid ht
   have hR4:=hR.on k4
   have hQ4:=hQ.on k4
   have hY4:=hY.on k4
   have hB4:=onS hB k4
   clear k4 hR hQ hY hB ht htn
   go_wp2_with fail
   refine (zeG Ar At cr ct r t w4 hR4 k3 (by omega) (by omega)).mono ?_
   rintro e w5 ⟨rfl,rfl⟩
   by_cases hle:t<=r
   ·have hc:(0:Int)<=cmpN r t:=by
     rcases Nat.lt_or_ge t r with e | e
     ·rw [zcm e]; omega
     ·rw [zcT (by omega)]; omega
    obtain ⟨z,hz⟩:∃ z,z=cmpN r t:=⟨_,rfl⟩
    rw [<-hz] at hc ⊢;clear hz
    have H1:Hid (r - t<y*2 ^ j):=by
     have h1:=HR.out
     rw [Nat.pow_succ,<-Nat.mul_assoc,<-HT.out] at h1
     show _<_
     rw [<-HT.out]
     omega
    have H2:Hid (x=(Q+1*2 ^ j)*y+(r - t)):=by
     have h1:=HE.out
     have h2:=HT.out
     show _=_
     rw [Nat.one_mul,Nat.add_mul,Nat.mul_comm (2 ^ j) y,<-h2]
     omega
    have hdq:dl (1*2 ^ j)<=134217728:=by
     refine Nat.le_trans (zaw ?_) htd
     rw [HT.out]
     exact Nat.mul_le_mul_right _ hy
    have hj5:j<=8589934592:=by omega
    go_wp2_with fail
    refine (zde Ar At cr ct r t w4 hR4 k3 hle (by omega)).mono ?_
    rintro e w6 ⟨A6,c6,rfl,m1,m2,m3,m4⟩
    have hQ6:=hQ4.on m4
    have hY6:=hY4.on m4
    have hB6:=onS hB4 m4
    clear m4 hR4 hQ4 hY4 hB4 k3
    have hone:=zaQ (w:=w6) 110 (x:=1) (by omega) (by omega)
    have hd1:dl 1=1:=zbr (by omega) (by omega)
    have hbx:=zcj w6 (Obj.cells #[Value.int .u32 ((1:Nat):Int)] 110)
    have hm7:=m3.on hbx
    have hQ7:=hQ6.on hbx
    have hY7:=hY6.on hbx
    have hB7:=onS hB6 hbx
    obtain ⟨e2,he2⟩:∃ e2,e2=1*2 ^ j:=⟨_,rfl⟩
    rw [<-he2] at hdq H2
    have HSH:=hid (fun W (h:NatOk W W.heap.size (some ⟨w6.heap.size,0,none⟩) 1)=>zfa (some ⟨w6.heap.size,0,none⟩) 1 1 j W h hj5 (by rw [hd1]; omega))
    rw [hd1,<-he2] at HSH;clear he2;clear hbx m3 hQ6 hY6 hB6 hd1
    go_wp2_with fail
    refine (HSH.out _ hone).mono ?_
    rintro e w7 ⟨A7,c7,rfl,p1,p2,p3,p4⟩
    have hm8:=hm7.on p4
    have hQ8:=hQ7.on p4
    have hY8:=hY7.on p4
    have hB8:=onS hB7 p4
    clear hm7 hQ7 hY7 hB7 p4 hone
    go_wp2_with fail
    refine (zda Aq A7 cq c7 Q e2 w7 hQ8 p3 (by omega) (by omega)).mono ?_
    rintro e w8 ⟨A8,c8,rfl,q1,q2,q3,q4⟩
    have hm9:=hm8.on q4
    have hY9:=hY8.on q4
    have hB9:=onS hB8 q4
    clear hm8 hQ8 hY8 hB8 q4 p3
    go_wp2
    go_roundg (gk - 1)
    case measure=>omega
    case rel=>exact ⟨_,j,r - t,Q+e2,A6,c6,A8,c8,rfl,rfl,rfl,by omega,by omega,by omega,by omega,m1,m2,q1,q2,hm9,q3,hY9,hB9,H1,H2⟩
   ·have hc:¬ (0:Int)<=cmpN r t:=by rw [zcS (by omega)]; omega
    obtain ⟨z,hz⟩:∃ z,z=cmpN r t:=⟨_,rfl⟩
    rw [<-hz] at hc ⊢;clear hz
    have H1:Hid (r<y*2 ^ j):=by show _<_; rw [<-HT.out]; omega
    go_wp2
    go_roundg (gk - 1)
    case measure=>omega
    case rel=>exact ⟨_,j,r,Q,Ar,cr,Aq,cq,rfl,rfl,rfl,by omega,by omega,by omega,by omega,hcr,hcr2,hcq,hcq2,hR4,hQ4,hY4,hB4,H1,HE⟩
  ·obtain rfl:J=0:=by omega
   have hry:r<y:=by simpa using HR.out
   have HD:Hid (x / y=Q/\x % y=r):=by
    have h1:=HE.out
    show _/\_
    rw [h1,Nat.mul_comm Q y]
    exact ⟨by rw [Nat.mul_add_div hy,Nat.div_eq_of_lt hry,Nat.add_zero],by rw [Nat.mul_add_mod,Nat.mod_eq_of_lt hry]⟩
   go_wp2_with fail
   refine (zcD Aq cq Q wr hQ hcq hcq2 (by omega)).mono ?_
   rintro e w4 ⟨A4,c4,rfl,k1,k2,k3,k4⟩
   have hR4:=hR.on k4
   have hB4:=onS hB k4
   clear k4 hR hQ hY hB
   go_wp2
   go_ret2
   exact ⟨A4,c4,Ar,cr,by rw [HD.out.1,HD.out.2]; rfl,by rw [HD.out.1]; exact k1,k2,by rw [HD.out.2]; exact hcr,hcr2,by rw [HD.out.1]; exact k3,by rw [HD.out.2]; exact hR4,hB4⟩
theorem zgV (A A2:Option Addr) (n m c c2 x y:Nat) (w:World) (h:NatRaw w w.heap.size A n x) (h2:NatRaw w w.heap.size A2 m y) (hc:n<=c) (hm:c<=maxLen) (hc2:m<=c2) (hm2:c2<=maxLen) (hn:n<=268435456) (hn2:m<=268435456) :
  Calls Tryz.prog 223 #[.slice A n c,.slice A2 m c2] w (NatPost (Nat.gcd x y) w):=by
 have hd1:=h.dl
 have hd2:=h2.dl
 go_enter Tryz.func223, Tryz.ntmps223
 go_wp2_with fail
 refine (zco A n c x w h hc hm).mono ?_
 rintro e w1 ⟨rfl,g1,rfl⟩
 go_wp2_with fail
 refine (zco A2 m c2 y w h2 hc2 hm2).mono ?_
 rintro e w1 ⟨rfl,g2,rfl⟩
 clear h h2
 go_wp2
 go_loopg [0,1] y (fun gg av bv wx=>∃ x' y':Nat,∃ Aa ca Ab cb,av=.slice Aa (dl x') ca/\bv=.slice Ab (dl y') cb/\y'<=gg/\dl x'<=ca/\ca<=maxLen/\dl y'<=cb/\cb<=maxLen/\dl x'<=268435456/\dl y'<=268435456/\NatOk wx wx.heap.size Aa x'/\NatOk wx wx.heap.size Ab y'/\Below w.heap.size w wx/\Hid (Nat.gcd x' y'=Nat.gcd x y))
 case atStart=>exact ⟨x,y,A,dl x,A2,dl y,rfl,rfl,by omega,by omega,by unfold maxLen; omega,by omega,by unfold maxLen; omega,by omega,by omega,g1,g2,Below.refl _ _,hid rfl⟩
 case round =>
  clear g1 g2
  obtain ⟨x',y',Aa,ca,Ab,cb,rfl,rfl,hgg,k1,k2,k3,k4,k5,k6,hA,hB2,hB,HG⟩:=hrel
  by_cases h0:0<y'
  ·have hp:dl y'≠0:=fun e=>by have:=zaL.1 e; omega
   have hp':(0:Int)<((dl y':Nat):Int):=by omega
   have hlt:=Nat.mod_lt x' h0
   have hdm:=zaw (Nat.le_of_lt hlt)
   have HG2:Hid (Nat.gcd y' (x' % y')=Nat.gcd x y):=by show _=_; rw [<-HG.out,Nat.gcd_comm x' y',Nat.gcd_rec y' x',Nat.gcd_comm]
   have hgk:x' % y'<gk:=by omega
   go_wp2_with fail
   refine (zeH Aa Ab ca cb x' y' wr hA hB2 k1 k2 k3 k4 k5 k6 h0).mono ?_
   rintro e w2 ⟨A3,c3,A4,c4,rfl,m1,m2,m3,m4,m5,m6,m7⟩
   have hb2:=hB2.on m7
   have hB3:=onS hB m7
   obtain ⟨r,hr⟩:∃ r,r=x' % y':=⟨_,rfl⟩
   rw [<-hr] at m3 m6 hdm hgk HG2 ⊢;clear hr hA hB2 hB m7 m5 hlt
   go_wp2
   go_roundg r
   case measure=>exact hgk
   case rel=>exact ⟨y',r,Ab,cb,A4,c4,rfl,rfl,Nat.le_refl _,k3,k4,m3,m4,k6,by omega,hb2,m6,hB3,HG2⟩
  ·obtain rfl:y'=0:=by omega
   have hd0:dl 0=0:=zas
   have hp':¬ (0:Int)<((dl 0:Nat):Int):=by omega
   have HX:Hid (x'=Nat.gcd x y):=by show _=_; rw [<-HG.out,Nat.gcd_zero_right]
   clear hd0
   go_wp2_with fail
   refine (zcc Aa ca x' wr hA k1 k2 (by omega)).mono ?_
   rintro e w2 ⟨A3,c3,rfl,m1,m2,m3,m4⟩
   have hB3:=onS hB m4
   clear m4 hA hB
   go_wp2
   go_ret
   rw [<-HX.out]
   exact ⟨A3,c3,rfl,m1,m2,m3,hB3⟩
theorem za3 (A:Option Addr) (n c x:Nat) (w:World) (h:NatRaw w w.heap.size A n x) (hc:n<=c) (hm:c<=maxLen) (hn:n<=1073741824) :
  Calls Tryz.prog 171 #[.slice A n c] w fun e w'=>e=.returned (.bool (decide (x=0)))/\Below w.heap.size w w':=by
 have HE:Hid ((((dl x:Nat):Int) == 0)=decide (x=0)):=by
  show _=_
  rw [Bool.eq_iff_iff]
  simp [zaL]
 go_enter Tryz.func171, Tryz.ntmps171
 go_wp2_with fail
 refine (zbZ A n c x w h hc hm hn).mono ?_
 rintro e w1 ⟨A1,c1,rfl,h1,h2,h3,h4⟩
 clear h
 go_wp2
 go_ret
 exact ⟨ziP HE.out,h4⟩
theorem zgW (A A2:Option Addr) (n m c c2 x y:Nat) (w:World) (h:NatRaw w w.heap.size A n x) (h2:NatRaw w w.heap.size A2 m y) (hc:n<=c) (hm:c<=maxLen) (hc2:m<=c2) (hm2:c2<=maxLen) (hn:n<=134217728) (hn2:m<=134217728) :
  Calls Tryz.prog 172 #[.slice A n c,.slice A2 m c2] w (NatPost (Nat.gcd x y) w):=by
 go_enter Tryz.func172, Tryz.ntmps172
 go_wp2
 go_loopg [0,1] y (fun gg av bv wx=>∃ x' y' n' m':Nat,∃ Aa ca Ab cb,av=.slice Aa n' ca/\bv=.slice Ab m' cb/\y'<=gg/\n'<=ca/\ca<=maxLen/\m'<=cb/\cb<=maxLen/\n'<=134217728/\m'<=134217728/\NatRaw wx wx.heap.size Aa n' x'/\NatRaw wx wx.heap.size Ab m' y'/\Below w.heap.size w wx/\Hid (Nat.gcd x' y'=Nat.gcd x y))
 case atStart=>exact ⟨x,y,n,m,A,c,A2,c2,rfl,rfl,by omega,hc,hm,hc2,hm2,hn,hn2,h,h2,Below.refl _ _,hid rfl⟩
 case round =>
  clear h h2
  obtain ⟨x',y',n',m',Aa,ca,Ab,cb,rfl,rfl,hgg,k1,k2,k3,k4,k5,k6,hA,hB2,hB,HG⟩:=hrel
  by_cases h0:0<y'
  ·have hz:decide (y'=0)=false:=by simp; omega
   have HZ:=hid hz
   have hlt:=Nat.mod_lt x' h0
   have hdm:=zaw (Nat.le_of_lt hlt)
   have hdy:=hB2.dl
   have HG2:Hid (Nat.gcd y' (x' % y')=Nat.gcd x y):=by show _=_; rw [<-HG.out,Nat.gcd_comm x' y',Nat.gcd_rec y' x',Nat.gcd_comm]
   have hgk:x' % y'<gk:=by omega
   clear hz
   go_wp2_with fail
   refine (za3 Ab m' cb y' wr hB2 k3 k4 (by omega)).mono ?_
   rintro e w2 ⟨rfl,hb2⟩
   rw [HZ.out]
   have hA2:=hA.on hb2
   have hB22:=hB2.on hb2
   have hBB:=onS hB hb2
   clear hb2 hA hB2 hB
   go_wp2_with fail
   refine (zbQ Aa Ab n' m' ca cb x' y' w2 hA2 hB22 k1 k2 k3 k4 k5 k6 h0).mono ?_
   rintro e w3 ⟨A3,c3,A4,c4,rfl,m1,m2,m3,m4,m5,m6,m7⟩
   have hb2:=hB22.on m7
   have hB3:=onS hBB m7
   obtain ⟨r,hr⟩:∃ r,r=x' % y':=⟨_,rfl⟩
   rw [<-hr] at m3 m6 hdm hgk HG2 ⊢
   have m8:=NatOk.raw m6
   clear hr hA2 hB22 hBB m7 m5 hlt m6
   go_wp2
   go_roundg r
   case measure=>exact hgk
   case rel=>exact ⟨y',r,m',dl r,Ab,cb,A4,c4,rfl,rfl,Nat.le_refl _,k3,k4,m3,m4,k6,by omega,hb2,m8,hB3,HG2⟩
  ·obtain rfl:y'=0:=by omega
   have HX:Hid (x'=Nat.gcd x y):=by show _=_; rw [<-HG.out,Nat.gcd_zero_right]
   go_wp2_with fail
   refine (za3 Ab m' cb 0 wr hB2 k3 k4 (by omega)).mono ?_
   rintro e w2 ⟨rfl,hb2⟩
   have hA2:=hA.on hb2
   have hBB:=onS hB hb2
   clear hb2 hA hB2 hB
   go_wp2_with fail
   refine (zbZ Aa n' ca x' w2 hA2 k1 k2 (by omega)).mono ?_
   rintro e w3 ⟨A3,c3,rfl,m1,m2,m3,m4⟩
   have hB3:=onS hBB m4
   clear m4 hA2 hBB
   go_wp2
   go_ret
   rw [<-HX.out]
   exact ⟨A3,c3,rfl,m1,m2,m3,hB3⟩
open Go
def rv (s:Bool) (x y:Nat):Rat:=mkRat (if s then -(x:Int) else x) y
def rneg (r:Rat):Bool:=decide (r.num<0)
theorem zbR {s:Bool} {x y:Nat} (hy:y≠0):(rv s x y).num.natAbs=x / Nat.gcd x y:=by
 unfold rv
 rw [Rat.num_mkRat,if_neg hy]
 have hg:(if s then -(x:Int) else (x:Int)).natAbs=x:=by cases s <;> simp
 rw [hg,Nat.gcd_comm]
 obtain ⟨k,hk⟩:=Nat.gcd_dvd_left x y
 rcases Nat.eq_zero_or_pos (Nat.gcd x y) with h0 | h0
 ·rw [h0]; simp
 ·have e1:x / Nat.gcd x y=k:=by
   conv=>lhs; lhs; rw [hk]
   exact Nat.mul_div_cancel_left k h0
  rw [e1]
  generalize Nat.gcd x y=g at *
  subst hk
  cases s
  ·simp only [Bool.false_eq_true,if_false,Int.natCast_mul]
   rw [Int.mul_ediv_cancel_left _ (by omega)]
   simp
  ·simp only [if_true,Int.natCast_mul]
   rw [<-Int.mul_neg,Int.mul_ediv_cancel_left _ (by omega)]
   simp
theorem zjm {s:Bool} {x y:Nat} (hy:y≠0):(rv s x y).den=y / Nat.gcd x y:=by
 unfold rv
 rw [Rat.den_mkRat,if_neg hy]
 have hg:(if s then -(x:Int) else (x:Int)).natAbs=x:=by cases s <;> simp
 rw [hg,Nat.gcd_comm]
theorem zfI {s:Bool} {x y:Nat} (h:x=0∨y=0):rv s x y=0:=by
 unfold rv
 rcases h with rfl | rfl
 ·cases s <;> simp [Rat.zero_mkRat]
 ·exact Rat.mkRat_zero _
theorem zjn {s:Bool} {x y:Nat} (hx:x≠0) (hy:y≠0):rneg (rv s x y)=s:=by
 have ha:=zbR (s:=s) (x:=x) hy
 unfold rneg rv at *
 rw [Rat.num_mkRat,if_neg hy] at *
 have hg:(if s then -(x:Int) else (x:Int)).natAbs=x:=by cases s <;> simp
 rw [hg] at *
 have hpos:0<Nat.gcd y x:=Nat.gcd_pos_of_pos_left _ (by omega)
 obtain ⟨k,hk⟩:=Nat.gcd_dvd_right y x
 have hk0:k≠0:=fun e=>by rw [e] at hk; omega
 generalize Nat.gcd y x=g at *
 subst hk
 cases s
 ·simp only [Bool.false_eq_true,if_false,Int.natCast_mul]
  rw [Int.mul_ediv_cancel_left _ (by omega)]
  simp
 ·simp only [if_true,Int.natCast_mul]
  rw [<-Int.mul_neg,Int.mul_ediv_cancel_left _ (by omega)]
  simp
  omega
theorem zd4:rneg 0=false:=by decide
theorem zgX (r:Rat):rv (rneg r) r.num.natAbs r.den=r:=by
 unfold rv rneg
 have h:(if decide (r.num<0)=true then -(r.num.natAbs:Int) else (r.num.natAbs:Int))=r.num:=by
  by_cases h:r.num<0
  ·simp [h]; omega
  ·simp [h]; omega
 rw [h]
 exact Rat.mkRat_self r
theorem zkR (s:Bool) (x y:Nat):rv (!s) x y = -rv s x y:=by
 unfold rv
 rw [Rat.neg_mkRat]
 cases s <;> simp
theorem zh6 (r:Rat):r.num=(if rneg r then -(r.num.natAbs:Int) else (r.num.natAbs:Int)):=by
 unfold rneg
 by_cases h:r.num<0
 ·simp [h]; omega
 ·simp [h]; omega
theorem zjo (a b:Rat):a+b=mkRat ((if rneg a then -((a.num.natAbs*b.den:Nat):Int) else ((a.num.natAbs*b.den:Nat):Int))+(if rneg b then -((b.num.natAbs*a.den:Nat):Int) else ((b.num.natAbs*a.den:Nat):Int))) (a.den*b.den):=by
 rw [Rat.add_def']
 congr 1
 conv=>lhs; rw [zh6 a,zh6 b]
 cases rneg a <;> cases rneg b <;> simp [Int.natCast_mul,Int.neg_mul]
theorem zcJ {a b:Rat} (h:rneg a=rneg b):rv (rneg a) (a.num.natAbs*b.den+b.num.natAbs*a.den) (a.den*b.den)=a+b:=by
 rw [zjo a b,<-h]
 unfold rv
 congr 1
 cases rneg a <;> simp <;> omega
theorem zd5 {a b:Rat} (h:rneg a≠rneg b) (hx:b.num.natAbs*a.den<=a.num.natAbs*b.den):rv (rneg a) (a.num.natAbs*b.den - b.num.natAbs*a.den) (a.den*b.den)=a+b:=by
 rw [zjo a b]
 unfold rv
 congr 1
 generalize a.num.natAbs*b.den=x at *
 generalize b.num.natAbs*a.den=y at *
 cases ha:rneg a <;> cases hb:rneg b
 ·rw [ha,hb] at h; exact absurd rfl h
 ·simp; omega
 ·simp; omega
 ·rw [ha,hb] at h; exact absurd rfl h
theorem zd6 {a b:Rat} (h:rneg a≠rneg b) (hx:a.num.natAbs*b.den<b.num.natAbs*a.den):rv (rneg b) (b.num.natAbs*a.den - a.num.natAbs*b.den) (a.den*b.den)=a+b:=by
 rw [zjo a b]
 unfold rv
 congr 1
 generalize a.num.natAbs*b.den=x at *
 generalize b.num.natAbs*a.den=y at *
 cases ha:rneg a <;> cases hb:rneg b
 ·rw [ha,hb] at h; exact absurd rfl h
 ·simp; omega
 ·simp; omega
 ·rw [ha,hb] at h; exact absurd rfl h
theorem zkc (a b:Rat):rv (rneg a != rneg b) (a.num.natAbs*b.num.natAbs) (a.den*b.den)=a*b:=by
 have e:a*b=mkRat (a.num*b.num) (a.den*b.den):=by
  conv=>lhs; rw [<-Rat.mkRat_self a,<-Rat.mkRat_self b]
  exact Rat.mkRat_mul_mkRat _ _ _ _
 rw [e]
 unfold rv
 congr 1
 conv=>rhs; rw [zh6 a,zh6 b]
 cases rneg a <;> cases rneg b <;> simp [Int.natCast_mul,Int.neg_mul,Int.mul_neg]
def rsz (r:Rat) (N:Nat):Prop:=dl r.num.natAbs<=N/\dl r.den<=N
theorem zb4:dl 1=1:=by rw [zdr (by omega)]; simp [zas]
theorem zgb {s:Bool} {x y N:Nat} (hx:dl x<=N) (hy:dl y<=N) (hN:1<=N):rsz (rv s x y) N:=by
 rcases Nat.eq_zero_or_pos y with h | h
 ·rw [zfI (.inr h)]
  exact ⟨by show dl 0<=N; rw [zas]; omega,by show dl 1<=N; rw [zb4]; omega⟩
 ·unfold rsz
  rw [zbR (by omega),zjm (by omega)]
  exact ⟨Nat.le_trans (zaw (Nat.div_le_self _ _)) hx,Nat.le_trans (zaw (Nat.div_le_self _ _)) hy⟩
theorem dl_mul_le' {x y a b:Nat} (hx:dl x<=a) (hy:dl y<=b):dl (x*y)<=a+b:=by
 refine zdO ?_
 have h1:x<4294967296 ^ a:=Nat.lt_of_lt_of_le (zaT x) (Nat.pow_le_pow_right (by omega) hx)
 have h2:y<4294967296 ^ b:=Nat.lt_of_lt_of_le (zaT y) (Nat.pow_le_pow_right (by omega) hy)
 rw [Nat.pow_add]
 exact Nat.mul_lt_mul_of_lt_of_le h1 (by omega) (Nat.pow_pos (by omega))
theorem zd7 {x y a:Nat} (hx:dl x<=a) (hy:dl y<=a):dl (x+y)<=a+1:=by
 refine zdO ?_
 have h1:x<4294967296 ^ a:=Nat.lt_of_lt_of_le (zaT x) (Nat.pow_le_pow_right (by omega) hx)
 have h2:y<4294967296 ^ a:=Nat.lt_of_lt_of_le (zaT y) (Nat.pow_le_pow_right (by omega) hy)
 rw [Nat.pow_succ]
 omega
theorem rsz.mono {r:Rat} {N M:Nat} (h:rsz r N) (hm:N<=M):rsz r M:=⟨Nat.le_trans h.1 hm,Nat.le_trans h.2 hm⟩
theorem zeJ {r:Rat} {N:Nat} (h:rsz r N):1<=N:=by
 have h1:=h.2
 have h2:dl r.den≠0:=fun e=>by have:=zaL.1 e; exact r.den_nz this
 omega
theorem zdg {a b:Rat} {N M:Nat} (ha:rsz a N) (hb:rsz b M):rsz (a*b) (N+M):=by
 rw [<-zkc]
 have:=zeJ ha
 exact zgb (dl_mul_le' ha.1 hb.1) (dl_mul_le' ha.2 hb.2) (by omega)
theorem zbo {a b:Rat} {N M:Nat} (ha:rsz a N) (hb:rsz b M):rsz (a+b) (N+M+1):=by
 have h1:=dl_mul_le' ha.1 hb.2
 have h2:=dl_mul_le' hb.1 ha.2
 have h3:=dl_mul_le' ha.2 hb.2
 have h4:dl (a.num.natAbs*b.den+b.num.natAbs*a.den)<=N+M+1:=zd7 h1 (by omega)
 by_cases h:rneg a=rneg b
 ·rw [<-zcJ h]; exact zgb h4 (by omega) (by omega)
 ·by_cases hx:b.num.natAbs*a.den<=a.num.natAbs*b.den
  ·rw [<-zd5 h hx]
   exact zgb (Nat.le_trans (zaw (Nat.sub_le _ _)) (by omega)) (by omega) (by omega)
  ·rw [<-zd6 h (by omega)]
   exact zgb (Nat.le_trans (zaw (Nat.sub_le _ _)) (by omega)) (by omega) (by omega)
theorem zfJ (r:Rat):(-r).num.natAbs=r.num.natAbs/\(-r).den=r.den:=by
 constructor
 ·rw [Rat.neg_num]; omega
 ·rfl
theorem ziD {a:Rat} {N:Nat} (h:rsz a N):rsz (-a) N:=by
 unfold rsz
 rw [(zfJ a).1,(zfJ a).2]
 exact h
theorem zkd {a b:Rat} {N M:Nat} (ha:rsz a N) (hb:rsz b M):rsz (a - b) (N+M+1):=by
 rw [Rat.sub_eq_add_neg]; exact zbo ha (ziD hb)
theorem zba:rsz 0 1:=⟨by show dl 0<=1; rw [zas]; omega,by show dl 1<=1; rw [zb4]; omega⟩
def rsign (r:Rat):Int:=if r.num=0 then 0 else if rneg r then -1 else 1
def RatRaw (w:World) (B:Nat) (v:Value) (r:Rat) (N:Nat):Prop:=∃ s A n c A2 m c2 x y,v=.agg #[.bool s,.slice A n c,.slice A2 m c2]/\NatRaw w B A n x/\NatRaw w B A2 m y/\n<=c/\c<=maxLen/\m<=c2/\c2<=maxLen/\n<=N/\m<=N/\r=rv s x y
def RatOk (w:World) (B:Nat) (v:Value) (r:Rat):Prop:=∃ A c A2 c2,v=.agg #[.bool (rneg r),.slice A (dl r.num.natAbs) c,.slice A2 (dl r.den) c2]/\NatOk w B A r.num.natAbs/\NatOk w B A2 r.den/\dl r.num.natAbs<=c/\c<=maxLen/\dl r.den<=c2/\c2<=maxLen
theorem RatOk.raw {w:World} {B:Nat} {v:Value} {r:Rat} {N:Nat} (h:RatOk w B v r) (hN:rsz r N):RatRaw w B v r N:=by
 obtain ⟨A,c,A2,c2,rfl,h1,h2,h3,h4,h5,h6⟩:=h
 exact ⟨_,A,_,c,A2,_,c2,_,_,rfl,h1.raw,h2.raw,h3,h4,h5,h6,hN.1,hN.2,(zgX r).symm⟩
theorem RatRaw.on {w w':World} {v:Value} {r:Rat} {N:Nat} (h:RatRaw w w.heap.size v r N) (hb:Below w.heap.size w w'):RatRaw w' w'.heap.size v r N:=by
 obtain ⟨s,A,n,c,A2,m,c2,x,y,e,h1,h2,h3⟩:=h
 exact ⟨s,A,n,c,A2,m,c2,x,y,e,h1.on hb,h2.on hb,h3⟩
def RatPost (r:Rat) (w:World) (e:Ending) (w':World):Prop :=
 ∃ A c A2 c2,e=.returned (.agg #[.bool (rneg r),.slice A (dl r.num.natAbs) c,.slice A2 (dl r.den) c2])/\NatOk w' w'.heap.size A r.num.natAbs/\NatOk w' w'.heap.size A2 r.den/\dl r.num.natAbs<=c/\c<=maxLen/\dl r.den<=c2/\c2<=maxLen/\Below w.heap.size w w'
theorem Lims.set {w:World} {B b n:Nat} {A:Option Addr} {f:Nat->Nat} (h:Lims w B A n f) (hb:NoInt w b) (i:Nat) (v:Value):Lims (w.setCell ⟨b,i,none⟩ v) B A n f:=fun k hk=>by
 obtain ⟨b',o',e,h1,h2⟩:=h k hk
 refine ⟨b',o',e,h1,fun j hj=>?_⟩
 have hc:=h2 j hj
 rw [World.cell?_setCell_other]
 ·exact hc
 ·intro e2
  injection e2 with e3 e4
  subst e3
  exact hb _ _ hc
theorem NatOk.set {w:World} {B b x:Nat} {A:Option Addr} (h:NatOk w B A x) (hb:NoInt w b) (i:Nat) (v:Value):NatOk (w.setCell ⟨b,i,none⟩ v) B A x:=Lims.set h hb i v
theorem NatRaw.set {w:World} {B b n x:Nat} {A:Option Addr} (h:NatRaw w B A n x) (hb:NoInt w b) (i:Nat) (v:Value):NatRaw (w.setCell ⟨b,i,none⟩ v) B A n x:=by
 obtain ⟨f,h1,h2⟩:=h
 exact ⟨f,h1.set hb i v,h2⟩
theorem NoInt.row {w:World} {b:Nat} {t:TypeId} {n:Nat} {f:Nat->Value} (h:w.rowIs b t n f) (hf:∀ i,i<n->∀ k,f i≠.int .u32 k):NoInt w b:=fun j k e=>by
 obtain ⟨c,h1,h2,h3⟩:=h
 have e1:w.cell? ⟨b,j,none⟩=c[j]?:=cell_of_row w b j c t (0,0) h1
 rw [e1] at e
 have hj:j<n:=by rw [<-h2]; exact (Array.getElem?_eq_some_iff.1 e).1
 rw [h3 j hj] at e
 injection e with e
 exact hf j hj k e
def ratCell (a b c:Value) (i:Nat):Value:=if i=0 then a else if i=1 then b else c
theorem zae {w:World} {a b c:Value} {T:TypeId}:(w.alloc (.cells #[a,b,c] T)).rowIs w.heap.size T 3 (ratCell a b c) :=
 ⟨_,heap_alloc_new w _,rfl,fun i hi=>by match i,hi with | 0,_=>rfl | 1,_=>rfl | 2,_=>rfl⟩
theorem zd8 {s:Bool} {A A2:Option Addr} {n c m c2:Nat} (i:Nat) (hi:i<3) (k:Int):ratCell (.bool s) (.slice A n c) (.slice A2 m c2) i≠.int .u32 k:=by
 match i,hi with
 | 0,_=>intro e; cases e
 | 1,_=>intro e; cases e
 | 2,_=>intro e; cases e
structure RatStored (w:World) (g:Nat) (T:TypeId) (s:Bool) (A:Option Addr) (n c:Nat) (A2:Option Addr) (m c2:Nat) (w3:World):Prop where
 row:w3.rowIs g T 3 (ratCell (.bool s) (.slice A n c) (.slice A2 m c2))
 nat:∀ B A' x,NatOk w B A' x->NatOk w3 B A' x
 rawn:∀ B A' n' x,NatRaw w B A' n' x->NatRaw w3 B A' n' x
 size:w3.heap.size=w.heap.size
 grown:w.grownBy w3 (some g)
theorem zaf {w:World} {g:Nat} {T:TypeId} {s0:Bool} {A0 A20:Option Addr} {n0 c0 m0 c20:Nat} (h:w.rowIs g T 3 (ratCell (.bool s0) (.slice A0 n0 c0) (.slice A20 m0 c20))) (s:Bool) (A:Option Addr) (n c:Nat) (A2:Option Addr) (m c2:Nat) :
  RatStored w g T s A n c A2 m c2 (((w.setCell ⟨g,0,none⟩ (.bool s)).setCell ⟨g,1,none⟩ (.slice A n c)).setCell ⟨g,2,none⟩ (.slice A2 m c2)):=by
 have r0:=NoInt.row h fun i hi k=>zd8 i hi k
 have h1:(w.setCell ⟨g,0,none⟩ (.bool s)).rowIs g T 3 (ratCell (.bool s) (.slice A0 n0 c0) (.slice A20 m0 c20)):=(h.set 0 _).congr fun i hi=>by match i,hi with | 0,_=>rfl | 1,_=>rfl | 2,_=>rfl
 have r1:=NoInt.row h1 fun i hi k=>zd8 i hi k
 have h2:((w.setCell ⟨g,0,none⟩ (.bool s)).setCell ⟨g,1,none⟩ (.slice A n c)).rowIs g T 3 (ratCell (.bool s) (.slice A n c) (.slice A20 m0 c20)):=(h1.set 1 _).congr fun i hi=>by match i,hi with | 0,_=>rfl | 1,_=>rfl | 2,_=>rfl
 have r2:=NoInt.row h2 fun i hi k=>zd8 i hi k
 have h3:(((w.setCell ⟨g,0,none⟩ (.bool s)).setCell ⟨g,1,none⟩ (.slice A n c)).setCell ⟨g,2,none⟩ (.slice A2 m c2)).rowIs g T 3 (ratCell (.bool s) (.slice A n c) (.slice A2 m c2)):=(h2.set 2 _).congr fun i hi=>by match i,hi with | 0,_=>rfl | 1,_=>rfl | 2,_=>rfl
 exact ⟨h3,fun B A' x hx=>((hx.set r0 _ _).set r1 _ _).set r2 _ _,fun B A' n' x hx=>((hx.set r0 _ _).set r1 _ _).set r2 _ _,by simp,zaq (zaq (zaq (zby w _) _) _) _⟩
theorem RatStored.below {w w3 w0:World} {g B:Nat} {T:TypeId} {s:Bool} {A A2:Option Addr} {n c m c2:Nat} (h:RatStored w g T s A n c A2 m c2 w3) (hB:Below B w0 w) (hg:B<=g) (hs:B<=w.heap.size):Below B w0 w3 :=
 hB.grown h.grown hs (fun q e=>by injection e with e; omega)
theorem zbS (w:World):Calls Tryz.prog 165 #[] w fun e w'=>e=.returned (.slice (some ⟨w.heap.size,0,none⟩) 1 1)/\NatOk w' w'.heap.size (some ⟨w.heap.size,0,none⟩) 1/\Below w.heap.size w w':=by
 have hone:=zaQ (w:=w) 110 (x:=1) (by omega) (by omega)
 go_enter Tryz.func165, Tryz.ntmps165
 go_wp2
 go_ret
 exact ⟨rfl,hone,zab _ _⟩
theorem zah (s:Bool) (A A2:Option Addr) (n c m c2 x y:Nat) (w:World) (h:NatRaw w w.heap.size A n x) (h2:NatRaw w w.heap.size A2 m y) (hc:n<=c) (hm:c<=maxLen) (hc2:m<=c2) (hm2:c2<=maxLen) (hn:n<=134217728) (hn2:m<=134217728) :
  Calls Tryz.prog 167 #[.bool s,.slice A n c,.slice A2 m c2] w (RatPost (rv s x y) w):=by
 have hB0:Below (w.heap.size+1) (w.alloc (.cells #[.bool false,.slice none 0 0,.slice none 0 0] 49)) (w.alloc (.cells #[.bool false,.slice none 0 0,.slice none 0 0] 49)):=Below.refl _ _
 have hrow0:=zae (w:=w) (a:=.bool false) (b:=.slice none 0 0) (c:=.slice none 0 0) (T := 49)
 have hb1:=zab w (.cells #[.bool false,.slice none 0 0,.slice none 0 0] 49)
 have g1:=h.on hb1
 have g2:=h2.on hb1
 clear h h2
 by_cases h0:x=0∨y=0
 ·have HR:=hid (zfI (s:=s) h0)
  have HD:Hid (dl (0:Rat).num.natAbs=0/\dl (0:Rat).den=1/\rneg 0=false):=⟨zas,zb4,zd4⟩
  have hway:((((nlen x:Nat):Int) == 0)=true)∨((((nlen x:Nat):Int) == 0)=false/\(((nlen y:Nat):Int) == 0)=true):=by
   rcases h0 with h0 | h0
   ·left; rw [h0,zar]; rfl
   ·by_cases hx:x=0
    ·left; rw [hx,zar]; rfl
    ·right
     have:=mt zaB.1 hx
     exact ⟨by simp; omega,by rw [h0,zar]; rfl⟩
  clear h0
  have fin:∀ (w4:World),NatOk w4 w4.heap.size (some ⟨w.heap.size+1,0,none⟩) 1->Below w.heap.size w w4->RatPost (rv s x y) w (.returned (.agg #[.bool false,.slice none 0 0,.slice (some ⟨w.heap.size+1,0,none⟩) 1 1])) w4:=fun w4 k1 k2=>by
   rw [HR.out]
   exact ⟨none,0,_,1,by rw [HD.out.1,HD.out.2.1,HD.out.2.2],fun i hi=>absurd hi (by rw [HD.out.1]; omega),k1,by rw [HD.out.1]; omega,by unfold maxLen; omega,by rw [HD.out.2.1]; omega,by unfold maxLen; omega,k2⟩
  have FIN:=hid fin
  clear fin
  rcases hway with hx | ⟨hx,hy⟩
  ·go_enter Tryz.func167, Tryz.ntmps167
   go_wp2_with fail
   refine (zaA A n c x _ g1 hc hm (by omega)).mono ?_
   rintro e w1 ⟨rfl,rfl⟩
   go_wp2_with fail
   refine (zbS _).mono ?_
   rintro e w2 ⟨rfl,k1,k2⟩
   have hrow2:=zaa hrow0 k2
   have hB2:=onS hb1 k2
   have zb0:=hrow2.frozen 0
   have zb1:=hrow2.frozen 1
   have zb2:=hrow2.frozen 2
   have yb0:=qc0 hrow2
   have yb1:=qc1 hrow2
   have yb2:=qc2 hrow2
   have hsz2:=hB2.size
   have k1':NatOk w2 w2.heap.size (some ⟨w.heap.size+1,0,none⟩) 1:=by have:=k1; simp at this; exact this
   clear k1 k2 g1 g2 hB0 hb1
   go_wp2
   generalize hw3:World.setCell _ _ _=w3
   have hst:RatStored w2 (w.heap.size) 49 (false) (none) (0) (0) (some ⟨w.heap.size+1,0,none⟩) (1) (1) w3:=by rw [<-hw3]; exact zaf hrow2 _ _ _ _ _ _ _
   clear hw3
   have e0:=qc0 hst.row
   have e1:=qc1 hst.row
   have e2:=qc2 hst.row
   refine bodyPost_ret (v:=.agg #[.bool (false),.slice (none) (0) (0),.slice (some ⟨w.heap.size+1,0,none⟩) (1) (1)]) (by simp [results,Tryz.results167, go_sem,e0,e1,e2]) rfl ?_
   exact FIN.out w3 (by rw [hst.size]; exact hst.nat _ _ _ k1') (hst.below hB2 (Nat.le_refl _) hsz2)
  ·go_enter Tryz.func167, Tryz.ntmps167
   go_wp2_with fail
   refine (zaA A n c x _ g1 hc hm (by omega)).mono ?_
   rintro e w1 ⟨rfl,rfl⟩
   go_wp2_with fail
   refine (zaA A2 m c2 y _ g2 hc2 hm2 (by omega)).mono ?_
   rintro e w1 ⟨rfl,rfl⟩
   go_wp2_with fail
   refine (zbS _).mono ?_
   rintro e w2 ⟨rfl,k1,k2⟩
   have hrow2:=zaa hrow0 k2
   have hB2:=onS hb1 k2
   have zb0:=hrow2.frozen 0
   have zb1:=hrow2.frozen 1
   have zb2:=hrow2.frozen 2
   have yb0:=qc0 hrow2
   have yb1:=qc1 hrow2
   have yb2:=qc2 hrow2
   have hsz2:=hB2.size
   have k1':NatOk w2 w2.heap.size (some ⟨w.heap.size+1,0,none⟩) 1:=by have:=k1; simp at this; exact this
   clear k1 k2 g1 g2 hB0 hb1
   go_wp2
   generalize hw3:World.setCell _ _ _=w3
   have hst:RatStored w2 (w.heap.size) 49 (false) (none) (0) (0) (some ⟨w.heap.size+1,0,none⟩) (1) (1) w3:=by rw [<-hw3]; exact zaf hrow2 _ _ _ _ _ _ _
   clear hw3
   have e0:=qc0 hst.row
   have e1:=qc1 hst.row
   have e2:=qc2 hst.row
   refine bodyPost_ret (v:=.agg #[.bool (false),.slice (none) (0) (0),.slice (some ⟨w.heap.size+1,0,none⟩) (1) (1)]) (by simp [results,Tryz.results167, go_sem,e0,e1,e2]) rfl ?_
   exact FIN.out w3 (by rw [hst.size]; exact hst.nat _ _ _ k1') (hst.below hB2 (Nat.le_refl _) hsz2)
 ·have hx0:x≠0:=fun e=>h0 (.inl e)
  have hy0:y≠0:=fun e=>h0 (.inr e)
  have hx:(((nlen x:Nat):Int) == 0)=false:=by have:=mt zaB.1 hx0; simp; omega
  have hy:(((nlen y:Nat):Int) == 0)=false:=by have:=mt zaB.1 hy0; simp; omega
  have HA:=hid (zbR (s:=s) (x:=x) hy0)
  have HD:=hid (zjm (s:=s) (x:=x) hy0)
  have HS:=hid (zjn (s:=s) hx0 hy0)
  have hg0:0<Nat.gcd x y:=Nat.gcd_pos_of_pos_left _ (by omega)
  have hd1:=g1.dl
  have hd2:=g2.dl
  have hdg:dl (Nat.gcd x y)<=134217728:=Nat.le_trans (zaw (Nat.gcd_le_left y (by omega))) (by omega)
  obtain ⟨g,hg⟩:∃ g,g=Nat.gcd x y:=⟨_,rfl⟩
  rw [<-hg] at HA HD hg0 hdg
  have HG:=hid hg
  clear h0 hg hx0 hy0
  go_enter Tryz.func167, Tryz.ntmps167
  go_wp2_with fail
  refine (zaA A n c x _ g1 hc hm (by omega)).mono ?_
  rintro e w1 ⟨rfl,rfl⟩
  go_wp2_with fail
  refine (zaA A2 m c2 y _ g2 hc2 hm2 (by omega)).mono ?_
  rintro e w1 ⟨rfl,rfl⟩
  go_wp2_with fail
  refine (zgV A A2 n m c c2 x y _ g1 g2 hc hm hc2 hm2 (by omega) (by omega)).mono ?_
  rintro e w2 ⟨A3,c3,rfl,a1,a2,a3,a4⟩
  rw [<-HG.out] at a1 a3 ⊢
  have g3:=g1.on a4
  have g4:=g2.on a4
  have hrow2:=zaa hrow0 a4
  have hB2:=onS hb1 a4
  clear g1 g2 a4 hb1 hB0 hrow0
  go_wp2_with fail
  refine (zcU A A3 n (dl g) c c3 x g w2 g3 a3.raw hc hm a1 a2 (by omega) (by omega) hg0).mono ?_
  rintro e w3 ⟨A4,c4,A5,c5,rfl,b1,b2,b3,b4,b5,b6,b7⟩
  have g5:=g4.on b7
  have a5:=a3.on b7
  have hrow3:=zaa hrow2 b7
  have hB3:=onS hB2 b7
  clear g3 g4 a3 b7 hB2 hrow2 b6 b3 b4
  go_wp2_with fail
  refine (zcU A2 A3 m (dl g) c2 c3 y g w3 g5 a5.raw hc2 hm2 a1 a2 (by omega) (by omega) hg0).mono ?_
  rintro e w4 ⟨A6,c6,A7,c7,rfl,d1,d2,d3,d4,d5,d6,d7⟩
  have b8:=b5.on d7
  have hrow4:=zaa hrow3 d7
  have hB4:=onS hB3 d7
  have hsz4:=hB4.size
  clear g5 a5 b5 d7 hB3 hrow3 d6 d3 d4
  have zb0:=hrow4.frozen 0
  have zb1:=hrow4.frozen 1
  have zb2:=hrow4.frozen 2
  have yb0:=qc0 hrow4
  have yb1:=qc1 hrow4
  have yb2:=qc2 hrow4
  go_wp2
  generalize hw3:World.setCell _ _ _=w3
  have hst:RatStored w4 (w.heap.size) 49 (s) (A4) (dl (x / g)) (c4) (A6) (dl (y / g)) (c6) w3:=by rw [<-hw3]; exact zaf hrow4 _ _ _ _ _ _ _
  clear hw3
  have e0:=qc0 hst.row
  have e1:=qc1 hst.row
  have e2:=qc2 hst.row
  refine bodyPost_ret (v:=.agg #[.bool (s),.slice (A4) (dl (x / g)) (c4),.slice (A6) (dl (y / g)) (c6)]) (by simp [results,Tryz.results167, go_sem,e0,e1,e2]) rfl ?_
  refine ⟨A4,c4,A6,c6,by rw [HA.out,HD.out,HS.out],?_,?_,by rw [HA.out]; exact b1,b2,by rw [HD.out]; exact d1,d2,hst.below hB4 (Nat.le_refl _) hsz4⟩
  ·rw [HA.out,hst.size]; exact hst.nat _ _ _ b8
  ·rw [HD.out,hst.size]; exact hst.nat _ _ _ d5
theorem zbz (v:Value) (r:Rat) (N:Nat) (w:World) (h:RatRaw w w.heap.size v r N) (hN:N<=134217728) :
  Calls Tryz.prog 153 #[v] w (RatPost (r) w):=by
 obtain ⟨s,A,n,c,A2,m,c2,x,y,rfl,h1,h2,h3,h4,h5,h6,h7,h8,rfl⟩:=h
 have HB0:=hid (zab w (.cells #[.bool s,.slice A n c,.slice A2 m c2] 49))
 have HB1:=hid (onS HB0.out (zab (w.alloc (.cells #[.bool s,.slice A n c,.slice A2 m c2] 49)) (.cells #[.bool false,.slice none 0 0,.slice none 0 0] 49)))
 have g1:=h1.on HB1.out
 have g2:=h2.on HB1.out
 have hrow:=zae (w:=w.alloc (.cells #[.bool s,.slice A n c,.slice A2 m c2] 49)) (a:=.bool false) (b:=.slice none 0 0) (c:=.slice none 0 0) (T := 49)
 have hbs:(w.alloc (.cells #[.bool s,.slice A n c,.slice A2 m c2] 49)).heap.size=w.heap.size+1:=by simp
 rw [hbs] at hrow;clear h1 h2 hbs
 go_enter Tryz.func153, Tryz.ntmps153
 go_wp2_with fail
 refine (zah s A A2 n c m c2 x y _ g1 g2 h3 h4 h5 h6 (by omega) (by omega)).mono ?_
 rintro e w2 ⟨A3,c3,A4,c4,rfl,k1,k2,k3,k4,k5,k6,k7⟩
 have hrow2:=zaa hrow k7
 have hB2:=onS HB1.out k7
 have hsz2:=hB2.size
 clear HB0 HB1 hrow g1 g2 k7
 have zb0:=hrow2.frozen 0
 have zb1:=hrow2.frozen 1
 have zb2:=hrow2.frozen 2
 have yb0:=qc0 hrow2
 have yb1:=qc1 hrow2
 have yb2:=qc2 hrow2
 obtain ⟨q,hq⟩:∃ q,q=rv s x y:=⟨_,rfl⟩
 rw [<-hq] at k1 k2 k3 k5 ⊢
 have HQ:=hid hq
 clear hq
 obtain ⟨ng,hng⟩:∃ b,b=rneg q:=⟨_,rfl⟩
 rw [<-hng]
 have HNG:=hid hng
 clear hng
 go_wp2
 generalize hw3:World.setCell _ _ _=w3
 have hst:RatStored w2 (w.heap.size+1) 49 (ng) (A3) (dl q.num.natAbs) (c3) (A4) (dl q.den) (c4) w3:=by rw [<-hw3]; exact zaf hrow2 _ _ _ _ _ _ _
 clear hw3
 have e0:=qc0 hst.row
 have e1:=qc1 hst.row
 have e2:=qc2 hst.row
 refine bodyPost_ret (v:=.agg #[.bool (ng),.slice (A3) (dl q.num.natAbs) (c3),.slice (A4) (dl q.den) (c4)]) (by simp [results,Tryz.results153, go_sem,e0,e1,e2]) rfl ?_
 rw [<-HQ.out]
 exact ⟨A3,c3,A4,c4,by rw [HNG.out],by rw [hst.size]; exact hst.nat _ _ _ k1,by rw [hst.size]; exact hst.nat _ _ _ k2,k3,k4,k5,k6,hst.below hB2 (by omega) (by omega)⟩
theorem zbe (s:Bool) (A A2:Option Addr) (n c m c2 x y:Nat) (w:World) (h:NatRaw w w.heap.size A n x) (h2:NatRaw w w.heap.size A2 m y) (hc:n<=c) (hm:c<=maxLen) (hc2:m<=c2) (hm2:c2<=maxLen) (hn:n<=134217728) (hn2:m<=134217728) :
  Calls Tryz.prog 96 #[.bool s,.slice A n c,.slice A2 m c2] w (RatPost (rv s x y) w):=by
 have hrow0:=zae (w:=w) (a:=.bool false) (b:=.slice none 0 0) (c:=.slice none 0 0) (T := 49)
 have hb1:=zab w (.cells #[.bool false,.slice none 0 0,.slice none 0 0] 49)
 have g1:=h.on hb1
 have g2:=h2.on hb1
 clear h h2
 by_cases h0:x=0∨y=0
 ·have HR:=hid (zfI (s:=s) h0)
  have HD:Hid (dl (0:Rat).num.natAbs=0/\dl (0:Rat).den=1/\rneg 0=false):=⟨zas,zb4,zd4⟩
  have hway:decide (x=0)=true∨decide (x=0)=false/\decide (y=0)=true:=by
   by_cases hx:x=0
   ·exact .inl (by simp [hx])
   ·exact .inr ⟨by simp [hx],by simp; omega⟩
  have fin:∀ (w4:World) (g g':Nat),NatOk w4 w4.heap.size (some ⟨g,0,none⟩) 1->Below w.heap.size w w4->RatPost (rv s x y) w (.returned (.agg #[.bool false,.slice (some ⟨g',0,none⟩) 0 0,.slice (some ⟨g,0,none⟩) 1 1])) w4:=fun w4 g g' k1 k2=>by
   rw [HR.out]
   exact ⟨some ⟨g',0,none⟩,0,_,1,by rw [HD.out.1,HD.out.2.1,HD.out.2.2],fun i hi=>absurd hi (by rw [HD.out.1]; omega),k1,by rw [HD.out.1]; omega,by unfold maxLen; omega,by rw [HD.out.2.1]; omega,by unfold maxLen; omega,k2⟩
  have FIN:=hid fin
  clear h0 fin
  rcases hway with hx | ⟨hx,hy⟩
  ·have HX:=hid hx
   clear hx
   go_enter Tryz.func96, Tryz.ntmps96
   go_wp2_with fail
   refine (za3 A n c x _ g1 hc hm (by omega)).mono ?_
   rintro e w1 ⟨rfl,hb2⟩
   rw [HX.out]
   have hrow1:=zaa hrow0 hb2
   have hB1:=onS hb1 hb2
   clear hb2 hb1 g1 g2 hrow0
   have hbb:=onS (zab w1 (Obj.cells #[] 110)) (zab (w1.alloc (Obj.cells #[] 110)) (Obj.cells #[Value.int .u32 1] 110))
   have hone:NatOk ((w1.alloc (Obj.cells #[] 110)).alloc (Obj.cells #[Value.int .u32 1] 110)) ((w1.alloc (Obj.cells #[] 110)).alloc (Obj.cells #[Value.int .u32 1] 110)).heap.size (some ⟨w1.heap.size+1,0,none⟩) 1:=by have:=zaQ (w:=w1.alloc (Obj.cells #[] 110)) 110 (x:=1) (by omega) (by omega); simp at this; simpa using this
   have hrow2:=zaa hrow1 hbb
   have hB2:=onS hB1 hbb
   have hsz2:=hB2.size
   clear hbb hB1 hrow1
   have zb0:=hrow2.frozen 0
   have zb1:=hrow2.frozen 1
   have zb2:=hrow2.frozen 2
   have yb0:((w1.alloc (Obj.cells #[] 110)).alloc (Obj.cells #[Value.int .u32 1] 110)).cell? ⟨w.heap.size,0,none⟩=some _:=hrow2.cell (i:=0) (by omega)
   have yb1:((w1.alloc (Obj.cells #[] 110)).alloc (Obj.cells #[Value.int .u32 1] 110)).cell? ⟨w.heap.size,1,none⟩=some _:=hrow2.cell (i:=1) (by omega)
   have yb2:((w1.alloc (Obj.cells #[] 110)).alloc (Obj.cells #[Value.int .u32 1] 110)).cell? ⟨w.heap.size,2,none⟩=some _:=hrow2.cell (i:=2) (by omega)
   go_wp2
   generalize hw3:World.setCell _ _ _=w3
   have hst:RatStored ((w1.alloc (Obj.cells #[] 110)).alloc (Obj.cells #[Value.int .u32 1] 110)) (w.heap.size) 49 (false) (some ⟨w1.heap.size,0,none⟩) (0) (0) (some ⟨w1.heap.size+1,0,none⟩) (1) (1) w3:=by rw [<-hw3]; exact zaf hrow2 _ _ _ _ _ _ _
   clear hw3
   have e0:=qc0 hst.row
   have e1:=qc1 hst.row
   have e2:=qc2 hst.row
   refine bodyPost_ret (v:=.agg #[.bool (false),.slice (some ⟨w1.heap.size,0,none⟩) (0) (0),.slice (some ⟨w1.heap.size+1,0,none⟩) (1) (1)]) (by simp [results,Tryz.results96, go_sem,e0,e1,e2]) rfl ?_
   exact FIN.out w3 _ _ (by rw [hst.size]; exact hst.nat _ _ _ hone) (hst.below hB2 (Nat.le_refl _) hsz2)
  ·have HX:=hid hx
   have HY:=hid hy
   clear hx hy
   go_enter Tryz.func96, Tryz.ntmps96
   go_wp2_with fail
   refine (za3 A n c x _ g1 hc hm (by omega)).mono ?_
   rintro e w0 ⟨rfl,hb2⟩
   rw [HX.out]
   have g3:=g2.on hb2
   have hrow1':=zaa hrow0 hb2
   have hB1':=onS hb1 hb2
   clear hb2 hb1 g1 g2 hrow0
   go_wp2_with fail
   refine (za3 A2 m c2 y _ g3 hc2 hm2 (by omega)).mono ?_
   rintro e w1 ⟨rfl,hb3⟩
   rw [HY.out]
   have hrow1:=zaa hrow1' hb3
   have hB1:=onS hB1' hb3
   clear hB1' hrow1' hb3 g3
   have hbb:=onS (zab w1 (Obj.cells #[] 110)) (zab (w1.alloc (Obj.cells #[] 110)) (Obj.cells #[Value.int .u32 1] 110))
   have hone:NatOk ((w1.alloc (Obj.cells #[] 110)).alloc (Obj.cells #[Value.int .u32 1] 110)) ((w1.alloc (Obj.cells #[] 110)).alloc (Obj.cells #[Value.int .u32 1] 110)).heap.size (some ⟨w1.heap.size+1,0,none⟩) 1:=by have:=zaQ (w:=w1.alloc (Obj.cells #[] 110)) 110 (x:=1) (by omega) (by omega); simp at this; simpa using this
   have hrow2:=zaa hrow1 hbb
   have hB2:=onS hB1 hbb
   have hsz2:=hB2.size
   clear hbb hB1 hrow1
   have zb0:=hrow2.frozen 0
   have zb1:=hrow2.frozen 1
   have zb2:=hrow2.frozen 2
   have yb0:((w1.alloc (Obj.cells #[] 110)).alloc (Obj.cells #[Value.int .u32 1] 110)).cell? ⟨w.heap.size,0,none⟩=some _:=hrow2.cell (i:=0) (by omega)
   have yb1:((w1.alloc (Obj.cells #[] 110)).alloc (Obj.cells #[Value.int .u32 1] 110)).cell? ⟨w.heap.size,1,none⟩=some _:=hrow2.cell (i:=1) (by omega)
   have yb2:((w1.alloc (Obj.cells #[] 110)).alloc (Obj.cells #[Value.int .u32 1] 110)).cell? ⟨w.heap.size,2,none⟩=some _:=hrow2.cell (i:=2) (by omega)
   go_wp2
   generalize hw3:World.setCell _ _ _=w3
   have hst:RatStored ((w1.alloc (Obj.cells #[] 110)).alloc (Obj.cells #[Value.int .u32 1] 110)) (w.heap.size) 49 (false) (some ⟨w1.heap.size,0,none⟩) (0) (0) (some ⟨w1.heap.size+1,0,none⟩) (1) (1) w3:=by rw [<-hw3]; exact zaf hrow2 _ _ _ _ _ _ _
   clear hw3
   have e0:=qc0 hst.row
   have e1:=qc1 hst.row
   have e2:=qc2 hst.row
   refine bodyPost_ret (v:=.agg #[.bool (false),.slice (some ⟨w1.heap.size,0,none⟩) (0) (0),.slice (some ⟨w1.heap.size+1,0,none⟩) (1) (1)]) (by simp [results,Tryz.results96, go_sem,e0,e1,e2]) rfl ?_
   exact FIN.out w3 _ _ (by rw [hst.size]; exact hst.nat _ _ _ hone) (hst.below hB2 (Nat.le_refl _) hsz2)
 ·have hx0:x≠0:=fun e=>h0 (.inl e)
  have hy0:y≠0:=fun e=>h0 (.inr e)
  have HX:Hid (decide (x=0)=false):=by show _=_; simp [hx0]
  have HY:Hid (decide (y=0)=false):=by show _=_; simp [hy0]
  have HA:=hid (zbR (s:=s) (x:=x) hy0)
  have HD:=hid (zjm (s:=s) (x:=x) hy0)
  have HS:=hid (zjn (s:=s) hx0 hy0)
  have hg0:0<Nat.gcd x y:=Nat.gcd_pos_of_pos_left _ (by omega)
  have hd1:=g1.dl
  have hd2:=g2.dl
  have hdg:dl (Nat.gcd x y)<=134217728:=Nat.le_trans (zaw (Nat.gcd_le_left y (by omega))) (by omega)
  obtain ⟨g,hg⟩:∃ g,g=Nat.gcd x y:=⟨_,rfl⟩
  rw [<-hg] at HA HD hg0 hdg
  have HG:=hid hg
  clear h0 hg hx0 hy0
  go_enter Tryz.func96, Tryz.ntmps96
  go_wp2_with fail
  refine (za3 A n c x _ g1 hc hm (by omega)).mono ?_
  rintro e w1 ⟨rfl,hb2⟩
  rw [HX.out]
  have g1':=g1.on hb2
  have g2':=g2.on hb2
  have hrow1:=zaa hrow0 hb2
  have hB1:=onS hb1 hb2
  clear hb2 hb1 g1 g2 hrow0
  go_wp2_with fail
  refine (za3 A2 m c2 y _ g2' hc2 hm2 (by omega)).mono ?_
  rintro e w1b ⟨rfl,hb3⟩
  rw [HY.out]
  have g1:=g1'.on hb3
  have g2:=g2'.on hb3
  have hrow1b:=zaa hrow1 hb3
  have hB1b:=onS hB1 hb3
  clear hb3 hB1 g1' g2' hrow1
  go_wp2_with fail
  refine (zgW A A2 n m c c2 x y _ g1 g2 hc hm hc2 hm2 (by omega) (by omega)).mono ?_
  rintro e w2 ⟨A3,c3,rfl,a1,a2,a3,a4⟩
  rw [<-HG.out] at a1 a3 ⊢
  have g3:=g1.on a4
  have g4:=g2.on a4
  have hrow2:=zaa hrow1b a4
  have hB2:=onS hB1b a4
  clear g1 g2 a4 hB1b hrow1b
  go_wp2_with fail
  refine (zbQ A A3 n (dl g) c c3 x g w2 g3 a3.raw hc hm a1 a2 (by omega) (by omega) hg0).mono ?_
  rintro e w3 ⟨A4,c4,A5,c5,rfl,b1,b2,b3,b4,b5,b6,b7⟩
  have g5:=g4.on b7
  have a5:=a3.on b7
  have hrow3:=zaa hrow2 b7
  have hB3:=onS hB2 b7
  clear g3 g4 a3 b7 hB2 hrow2 b6 b3 b4
  go_wp2_with fail
  refine (zbQ A2 A3 m (dl g) c2 c3 y g w3 g5 a5.raw hc2 hm2 a1 a2 (by omega) (by omega) hg0).mono ?_
  rintro e w4 ⟨A6,c6,A7,c7,rfl,d1,d2,d3,d4,d5,d6,d7⟩
  have b8:=b5.on d7
  have hrow4:=zaa hrow3 d7
  have hB4:=onS hB3 d7
  have hsz4:=hB4.size
  clear g5 a5 b5 d7 hB3 hrow3 d6 d3 d4
  have zb0:=hrow4.frozen 0
  have zb1:=hrow4.frozen 1
  have zb2:=hrow4.frozen 2
  have yb0:=qc0 hrow4
  have yb1:=qc1 hrow4
  have yb2:=qc2 hrow4
  go_wp2
  generalize hw3:World.setCell _ _ _=w3
  have hst:RatStored w4 (w.heap.size) 49 (s) (A4) (dl (x / g)) (c4) (A6) (dl (y / g)) (c6) w3:=by rw [<-hw3]; exact zaf hrow4 _ _ _ _ _ _ _
  clear hw3
  have e0:=qc0 hst.row
  have e1:=qc1 hst.row
  have e2:=qc2 hst.row
  refine bodyPost_ret (v:=.agg #[.bool (s),.slice (A4) (dl (x / g)) (c4),.slice (A6) (dl (y / g)) (c6)]) (by simp [results,Tryz.results96, go_sem,e0,e1,e2]) rfl ?_
  refine ⟨A4,c4,A6,c6,by rw [HA.out,HD.out,HS.out],?_,?_,by rw [HA.out]; exact b1,b2,by rw [HD.out]; exact d1,d2,hst.below hB4 (Nat.le_refl _) hsz4⟩
  ·rw [HA.out,hst.size]; exact hst.nat _ _ _ b8
  ·rw [HD.out,hst.size]; exact hst.nat _ _ _ d5
theorem zeK {s:Bool} {x y:Nat} (h:x=0∨y=0):rsign (rv s x y)=0:=by rw [zfI h]; rfl
theorem zjp {s:Bool} {x y:Nat} (hx:x≠0) (hy:y≠0):rsign (rv s x y)=if s then -1 else 1:=by
 unfold rsign
 rw [zjn hx hy]
 have h1:=zbR (s:=s) (x:=x) hy
 have h2:x / Nat.gcd x y≠0:=by
  have hg:0<Nat.gcd x y:=Nat.gcd_pos_of_pos_left _ (by omega)
  have:=Nat.div_pos (Nat.gcd_le_left y (by omega)) hg
  omega
 rw [if_neg (fun e=>h2 (by rw [<-h1,e]; rfl))]
theorem zgc (v:Value) (r:Rat) (N:Nat) (w:World) (h:RatRaw w w.heap.size v r N) (hN:N<=134217728) :
  Calls Tryz.prog 177 #[v] w fun e w'=>e=.returned (.int .i64 (rsign r))/\Below w.heap.size w w':=by
 obtain ⟨s,A,n,c,A2,m,c2,x,y,rfl,h1,h2,h3,h4,h5,h6,h7,h8,rfl⟩:=h
 have HB0:=hid (zab w (.cells #[.bool s,.slice A n c,.slice A2 m c2] 49))
 have g1:=h1.on HB0.out
 have g2:=h2.on HB0.out
 clear h1 h2
 by_cases hx:x=0
 ·have HR:=hid (zeK (s:=s) (y:=y) (.inl hx))
  have hz:(((nlen x:Nat):Int) == 0)=true:=by rw [hx,zar]; rfl
  clear hx
  go_enter Tryz.func177, Tryz.ntmps177
  go_wp2_with fail
  refine (zaA A n c x _ g1 h3 h4 (by omega)).mono ?_
  rintro e w1 ⟨rfl,rfl⟩
  go_wp2
  go_ret
  exact ⟨zaF HR.out.symm,HB0.out⟩
 ·have hz:(((nlen x:Nat):Int) == 0)=false:=by have:=mt zaB.1 hx; simp; omega
  by_cases hy:y=0
  ·have HR:=hid (zeK (s:=s) (x:=x) (.inr hy))
   have hz2:(((nlen y:Nat):Int) == 0)=true:=by rw [hy,zar]; rfl
   clear hx hy
   go_enter Tryz.func177, Tryz.ntmps177
   go_wp2_with fail
   refine (zaA A n c x _ g1 h3 h4 (by omega)).mono ?_
   rintro e w1 ⟨rfl,rfl⟩
   go_wp2_with fail
   refine (zaA A2 m c2 y _ g2 h5 h6 (by omega)).mono ?_
   rintro e w1 ⟨rfl,rfl⟩
   go_wp2
   go_ret
   exact ⟨zaF HR.out.symm,HB0.out⟩
  ·have HR:=hid (zjp (s:=s) hx hy)
   have hz2:(((nlen y:Nat):Int) == 0)=false:=by have:=mt zaB.1 hy; simp; omega
   clear hx hy
   go_enter Tryz.func177, Tryz.ntmps177
   go_wp2_with fail
   refine (zaA A n c x _ g1 h3 h4 (by omega)).mono ?_
   rintro e w1 ⟨rfl,rfl⟩
   go_wp2_with fail
   refine (zaA A2 m c2 y _ g2 h5 h6 (by omega)).mono ?_
   rintro e w1 ⟨rfl,rfl⟩
   cases s
   ·go_wp2
    go_ret
    exact ⟨zaF HR.out.symm,HB0.out⟩
   ·go_wp2
    go_ret
    exact ⟨zaF HR.out.symm,HB0.out⟩
theorem zbp (v:Value) (r:Rat) (N:Nat) (w:World) (h:RatRaw w w.heap.size v r N) (hN:N<=134217728) :
  Calls Tryz.prog 91 #[v] w (RatPost (r) w):=by
 obtain ⟨s,A,n,c,A2,m,c2,x,y,rfl,h1,h2,h3,h4,h5,h6,h7,h8,rfl⟩:=h
 have HB0:=hid (zab w (.cells #[.bool s,.slice A n c,.slice A2 m c2] 49))
 have HB1:=hid (onS HB0.out (zab (w.alloc (.cells #[.bool s,.slice A n c,.slice A2 m c2] 49)) (.cells #[.bool false,.slice none 0 0,.slice none 0 0] 49)))
 have g1:=h1.on HB1.out
 have g2:=h2.on HB1.out
 have hrow:=zae (w:=w.alloc (.cells #[.bool s,.slice A n c,.slice A2 m c2] 49)) (a:=.bool false) (b:=.slice none 0 0) (c:=.slice none 0 0) (T := 49)
 have hbs:(w.alloc (.cells #[.bool s,.slice A n c,.slice A2 m c2] 49)).heap.size=w.heap.size+1:=by simp
 rw [hbs] at hrow;clear h1 h2 hbs
 go_enter Tryz.func91, Tryz.ntmps91
 go_wp2_with fail
 refine (zbe s A A2 n c m c2 x y _ g1 g2 h3 h4 h5 h6 (by omega) (by omega)).mono ?_
 rintro e w2 ⟨A3,c3,A4,c4,rfl,k1,k2,k3,k4,k5,k6,k7⟩
 have hrow2:=zaa hrow k7
 have hB2:=onS HB1.out k7
 have hsz2:=hB2.size
 clear HB0 HB1 hrow g1 g2 k7
 have zb0:=hrow2.frozen 0
 have zb1:=hrow2.frozen 1
 have zb2:=hrow2.frozen 2
 have yb0:=qc0 hrow2
 have yb1:=qc1 hrow2
 have yb2:=qc2 hrow2
 obtain ⟨q,hq⟩:∃ q,q=rv s x y:=⟨_,rfl⟩
 rw [<-hq] at k1 k2 k3 k5 ⊢
 have HQ:=hid hq
 clear hq
 obtain ⟨ng,hng⟩:∃ b,b=rneg q:=⟨_,rfl⟩
 rw [<-hng]
 have HNG:=hid hng
 clear hng
 go_wp2
 generalize hw3:World.setCell _ _ _=w3
 have hst:RatStored w2 (w.heap.size+1) 49 (ng) (A3) (dl q.num.natAbs) (c3) (A4) (dl q.den) (c4) w3:=by rw [<-hw3]; exact zaf hrow2 _ _ _ _ _ _ _
 clear hw3
 have e0:=qc0 hst.row
 have e1:=qc1 hst.row
 have e2:=qc2 hst.row
 refine bodyPost_ret (v:=.agg #[.bool (ng),.slice (A3) (dl q.num.natAbs) (c3),.slice (A4) (dl q.den) (c4)]) (by simp [results,Tryz.results91, go_sem,e0,e1,e2]) rfl ?_
 rw [<-HQ.out]
 exact ⟨A3,c3,A4,c4,by rw [HNG.out],by rw [hst.size]; exact hst.nat _ _ _ k1,by rw [hst.size]; exact hst.nat _ _ _ k2,k3,k4,k5,k6,hst.below hB2 (by omega) (by omega)⟩
theorem zcK (v:Value) (r:Rat) (N:Nat) (w:World) (h:RatRaw w w.heap.size v r N) (hN:N<=134217728) :
  Calls Tryz.prog 30 #[v] w fun e w'=>e=.returned (.int .i64 (rsign r))/\Below w.heap.size w w':=by
 have hv:∃ s A n c A2 m c2,v=.agg #[.bool s,.slice A n c,.slice A2 m c2]:=by obtain ⟨s,A,n,c,A2,m,c2,x,y,rfl,_⟩:=h; exact ⟨s,A,n,c,A2,m,c2,rfl⟩
 obtain ⟨s,A,n,c,A2,m,c2,rfl⟩:=hv
 have hb0:=zab w (.cells #[.bool s,.slice A n c,.slice A2 m c2] 49)
 have h1:=h.on hb0
 clear h
 have hrow0:=zae (w:=w) (a:=.bool s) (b:=.slice A n c) (c:=.slice A2 m c2) (T := 49)
 go_enter Tryz.func30, Tryz.ntmps30
 go_wp2_with fail
 refine (zbp _ _ N _ h1 (by omega)).mono ?_
 rintro e w2a ⟨Aa,ca,Ba,da,rfl,ka1,ka2,ka3,ka4,ka5,ka6,ka7⟩
 have hrow2a:=zaa hrow0 ka7
 have hB2a:=onS hb0 ka7
 have hsz2a:=hB2a.size
 obtain ⟨q,hq⟩:∃ q,q=dl r.num.natAbs:=⟨_,rfl⟩
 obtain ⟨ng,hng⟩:∃ b,b=rneg r:=⟨_,rfl⟩
 rw [<-hq,<-hng]
 have HQ:=hid hq
 have HN:=hid hng
 clear hq hng ka1 ka2 ka3 ka4 ka5 ka6 ka7 hb0 hrow0 h1
 have zb0:=hrow2a.frozen 0
 have zb1:=hrow2a.frozen 1
 have zb2:=hrow2a.frozen 2
 have yb0:=qc0 hrow2a
 have yb1:=qc1 hrow2a
 have yb2:=qc2 hrow2a
 go_upto_region 2 with fail
 generalize hw3:World.setCell _ _ _=w3
 have hst:RatStored w2a w.heap.size 49 ng Aa q ca Ba (dl r.den) da w3:=by rw [<-hw3]; exact zaf hrow2a _ _ _ _ _ _ _
 clear hw3
 have e0:=qc0 hst.row
 have e1:=qc1 hst.row
 have hB3:=hst.below hB2a (Nat.le_refl _) hsz2a
 by_cases h0:r.num=0
 ·have hz:((q:Int) == 0)=true:=by have:=HQ.out; rw [h0] at this; rw [this]; show (((dl 0:Nat):Int) == 0)=true; rw [zas]; rfl
  have HR:Hid (rsign r=0):=by show _=_; unfold rsign; rw [if_pos h0]
  clear h0 hst
  go_wp2
  go_ret
  exact ⟨zaF HR.out.symm,hB3⟩
 ·have hz:((q:Int) == 0)=false:=by have h1:=HQ.out; have h2:dl r.num.natAbs≠0:=fun e=>h0 (by have:=zaL.1 e; omega); simp; omega
  have HR:Hid (rsign r=if ng then -1 else 1):=by show _=_; unfold rsign; rw [if_neg h0,HN.out]
  clear h0 hst
  cases ng
  ·go_wp2
   go_ret
   exact ⟨zaF HR.out.symm,hB3⟩
  ·go_wp2
   go_ret
   exact ⟨zaF HR.out.symm,hB3⟩
theorem RatStored.raw {w w3:World} {g B N:Nat} {T:TypeId} {s:Bool} {A A2:Option Addr} {n c m c2:Nat} (h:RatStored w g T s A n c A2 m c2 w3) {v:Value} {r:Rat} (hr:RatRaw w B v r N):RatRaw w3 B v r N:=by
 obtain ⟨s',A',n',c',A2',m',c2',x,y,e,h1,h2,h3⟩:=hr
 exact ⟨s',A',n',c',A2',m',c2',x,y,e,h.rawn _ _ _ _ h1,h.rawn _ _ _ _ h2,h3⟩
theorem zfc (v:Value) (r:Rat) (N:Nat) (w:World) (h:RatRaw w w.heap.size v r N) (hN:N<=67108864) (hr:rsz r N) :
  Calls Tryz.prog 169 #[v] w (RatPost (-r) w):=by
 have hv:∃ s A n c A2 m c2,v=.agg #[.bool s,.slice A n c,.slice A2 m c2]:=by obtain ⟨s,A,n,c,A2,m,c2,x,y,rfl,_⟩:=h; exact ⟨s,A,n,c,A2,m,c2,rfl⟩
 obtain ⟨s,A,n,c,A2,m,c2,rfl⟩:=hv
 have hb0:=zab w (.cells #[.bool s,.slice A n c,.slice A2 m c2] 49)
 have hb1:=zab (w.alloc (.cells #[.bool s,.slice A n c,.slice A2 m c2] 49)) (.cells #[.bool false,.slice none 0 0,.slice none 0 0] 49)
 have s0:(w.alloc (.cells #[.bool s,.slice A n c,.slice A2 m c2] 49)).heap.size=w.heap.size+1:=by simp
 have ra:=zaa (zae (w:=w) (a:=.bool s) (b:=.slice A n c) (c:=.slice A2 m c2) (T := 49)) hb1
 have rz:=zae (w:=w.alloc (.cells #[.bool s,.slice A n c,.slice A2 m c2] 49)) (a:=.bool false) (b:=.slice none 0 0) (c:=.slice none 0 0) (T := 49)
 rw [s0] at rz
 have hB:=onS hb0 hb1
 have ha:=h.on hB
 clear hb0 hb1 s0 h
 go_enter Tryz.func169, Tryz.ntmps169
 go_wp2_with fail
 refine (zbp _ r N _ ha (by omega)).mono ?_
 rintro e w0 ⟨A3,c3,A4,c4,rfl,k1,k2,k3,k4,k5,k6,kb⟩
 clear ha;replace ra:=zaa ra kb;replace rz:=zaa rz kb;replace hB:=onS hB kb;clear kb
 obtain ⟨qa,hqa⟩:∃ q,q=dl (r).num.natAbs:=⟨_,rfl⟩
 obtain ⟨pa,hpa⟩:∃ q,q=dl (r).den:=⟨_,rfl⟩
 obtain ⟨nga,hnga⟩:∃ b,b=rneg (r):=⟨_,rfl⟩
 rw [<-hqa,<-hpa,<-hnga]
 have HQa:=hid hqa
 have HPa:=hid hpa
 have HNa:=hid hnga
 have hd1:qa<=N:=by rw [hqa]; exact hr.1
 have hd2:pa<=N:=by rw [hpa]; exact hr.2
 rw [<-hqa] at k3;rw [<-hpa] at k5;clear hqa hpa hnga
 have hsz:=hB.size
 have za0:=ra.frozen 0
 have za1:=ra.frozen 1
 have za2:=ra.frozen 2
 have ya0:=qc0 ra
 have ya1:=qc1 ra
 have ya2:=qc2 ra
 go_upto_region 2 with fail
 generalize hw3:World.setCell _ _ _=w3
 have hst:RatStored w0 w.heap.size 49 nga A3 qa c3 A4 pa c4 w3:=by rw [<-hw3]; exact zaf ra _ _ _ _ _ _ _
 clear hw3;replace k1:=hst.nat _ _ _ k1;rw [<-hst.size] at k1;replace k2:=hst.nat _ _ _ k2;rw [<-hst.size] at k2
 replace rz:=zad rz hst.grown (by omega)
 replace hB:=hst.below hB (Nat.le_refl _) hsz;replace ra:=hst.row;clear hst hsz za0 za1 za2 ya0 ya1 ya2
 have e0:=qc0 ra
 have e1:=qc1 ra
 have e2:=qc2 ra
 have r1:NatRaw w3 w3.heap.size A3 qa r.num.natAbs:=by rw [HQa.out]; exact k1.raw
 have r2:NatRaw w3 w3.heap.size A4 pa r.den:=by rw [HPa.out]; exact k2.raw
 clear k1 k2
 go_wp2_with fail
 refine (zbe (!nga) A3 A4 qa c3 pa c4 r.num.natAbs r.den w3 r1 r2 k3 k4 k5 k6 (by omega) (by omega)).mono ?_
 rintro e w4 ⟨A5,c5,A6,c6,rfl,m1,m2,m3,m4,m5,m6,kb⟩
 replace rz:=zaa rz kb;replace hB:=onS hB kb;clear kb
 have hneg:rv (!nga) r.num.natAbs r.den = -r:=by rw [zkR,HNa.out,zgX]
 rw [hneg] at m1 m2 m3 m5 ⊢
 obtain ⟨p,hp⟩:∃ p,p = -r:=⟨_,rfl⟩
 rw [<-hp] at m1 m2 m3 m5 ⊢
 have HP:=hid hp
 obtain ⟨b5,hb5⟩:∃ b,b=rneg p:=⟨_,rfl⟩
 rw [<-hb5]
 have HB5:=hid hb5
 clear hp hb5 hneg r1 r2 e0 e1 e2
 have hsz4:=hB.size
 have zz0:=rz.frozen 0
 have zz1:=rz.frozen 1
 have zz2:=rz.frozen 2
 have yz0:=qc0 rz
 have yz1:=qc1 rz
 have yz2:=qc2 rz
 go_wp2
 generalize hw3:World.setCell _ _ _=w3
 have hst:RatStored w4 (w.heap.size+1) 49 (b5) (A5) (dl p.num.natAbs) (c5) (A6) (dl p.den) (c6) w3:=by rw [<-hw3]; exact zaf rz _ _ _ _ _ _ _
 clear hw3
 have e0:=qc0 hst.row
 have e1:=qc1 hst.row
 have e2:=qc2 hst.row
 refine bodyPost_ret (v:=.agg #[.bool (b5),.slice (A5) (dl p.num.natAbs) (c5),.slice (A6) (dl p.den) (c6)]) (by simp [results,Tryz.results169, go_sem,e0,e1,e2]) rfl ?_
 rw [<-HP.out]
 exact ⟨A5,c5,A6,c6,by rw [HB5.out],by rw [hst.size]; exact hst.nat _ _ _ m1,by rw [hst.size]; exact hst.nat _ _ _ m2,m3,m4,m5,m6,hst.below hB (by omega) (by omega)⟩
end Go.Proofs.YtioagplajkoohaaGreat