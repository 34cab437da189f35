/- Merged texts of a claim: BoundV, MaxV, Proves, RefCP, CheckP, SeesClaim, PotLaw, MinPlus, IntTab, Bwd, IRows, IValued, IBack. -/
import Derived.Test.YtioagplajkoohaaGreatTQ1
import Derived.Test.YtioagplajkoohaaGreatTQ3
import Derived.Test.YtioagplajkoohaaGreatTQ7
import Derived.Test.YtioagplajkoohaaGreatTQ12
import Derived.Test.YtioagplajkoohaaGreatTQ13
import Derived.Test.YtioagplajkoohaaGreatTQ15
namespace Go.Proofs.YtioagplajkoohaaGreat
set_option maxRecDepth 100000
set_option maxHeartbeats 32000000
open KA KB KC KD KE KF
open Go.RowKit
def bndV (fr lb left zero:Int):Int :=
 if lb≠0/\fr=zero then min (if lb≠0/\left<4611686018427387904 then left+1 else left) 1 else (if lb≠0/\left<4611686018427387904 then left+1 else left)
theorem zdS (fr lb t left zero:Int) (w:World) (h:InI64 left) :
  Calls Tryz.prog 132 #[.agg #[.int .i64 fr,.int .i64 lb,.int .i64 t],.int .i64 left,.int .i64 zero] w fun e w'=>e=.returned (.int .i64 (bndV fr lb left zero))/\Below w.heap.size w w':=by
 obtain ⟨h1,h2⟩:=h
 have rx:=zad (w:=w) (a:=.int .i64 fr) (b:=.int .i64 lb) (c:=.int .i64 t) (T := 148)
 have hB:Below w.heap.size w (w.alloc (.cells #[.int .i64 fr,.int .i64 lb,.int .i64 t] 148)):=(Below.refl _ _).alloc (Nat.le_refl _) _
 obtain ⟨w1,hw1⟩:∃ W,W=w.alloc (.cells #[.int .i64 fr,.int .i64 lb,.int .i64 t] 148):=⟨_,rfl⟩
 rw [<-hw1] at hB rx
 have HV:=hid (show ∀ z,z=bndV fr lb left zero->z=if lb≠0/\fr=zero then min (if lb≠0/\left<4611686018427387904 then left+1 else left) 1 else (if lb≠0/\left<4611686018427387904 then left+1 else left) from fun z h=>h)
 obtain ⟨z,hz⟩:∃ z,z=bndV fr lb left zero:=⟨_,rfl⟩
 have hz2:=HV.out z hz
 rw [<-hz]
 go_enter Tryz.func132, Tryz.ntmps132
 go_upto_region 1 with fail
 rw [<-hw1];clear hw1 HV hz
 have y0:=qc0 rx
 have y1:=qc1 rx
 clear rx
 by_cases e1:lb=0
 ·have b1:(lb != 0)=false:=by simp [e1]
  have HZ:Hid (z=left):=hid (by rw [hz2,if_neg (fun h=>h.1 e1),if_neg (fun h=>h.1 e1)])
  clear hz2 e1
  go_wp2
  go_ret
  exact ⟨by rw [HZ.out]; rfl,hB⟩
 ·have b1:(lb != 0)=true:=by simpa using e1
  by_cases e2:left<4611686018427387904
  ·have hw:IntKind.i64.wrap (left+1)=left+1:=IntWalk.i64_in _ (by omega)
   have hw64:wrap64 (left+1)=left+1:=by unfold wrap64; omega
   rw [if_pos (c:=lb≠0/\left<4611686018427387904) ⟨e1,e2⟩] at hz2
   by_cases e3:fr=zero
   ·have b3:(fr == zero)=true:=by simpa using e3
    have HZ:Hid (z=min (left+1) 1):=hid (by rw [hz2,if_pos ⟨e1,e3⟩])
    clear hz2 e1 e3
    by_cases e4:left+1<1
    ·go_wp2
     go_ret
     exact ⟨by rw [HZ.out,Int.min_eq_left (by omega)]; rfl,hB⟩
    ·go_wp2
     go_ret
     exact ⟨by rw [HZ.out,Int.min_eq_right (by omega)]; rfl,hB⟩
   ·have b3:(fr == zero)=false:=by simpa using e3
    have HZ:Hid (z=left+1):=hid (by rw [hz2,if_neg (fun h=>e3 h.2)])
    clear hz2 e1 e3
    go_wp2
    go_ret
    exact ⟨by rw [HZ.out]; rfl,hB⟩
  ·rw [if_neg (c:=lb≠0/\left<4611686018427387904) (fun h=>e2 h.2)] at hz2
   by_cases e3:fr=zero
   ·have b3:(fr == zero)=true:=by simpa using e3
    have HZ:Hid (z=min left 1):=hid (by rw [hz2,if_pos ⟨e1,e3⟩])
    clear hz2 e1 e3
    go_wp2
    go_ret
    exact ⟨by rw [HZ.out]; rfl,hB⟩
   ·have b3:(fr == zero)=false:=by simpa using e3
    have HZ:Hid (z=left):=hid (by rw [hz2,if_neg (fun h=>e3 h.2)])
    clear hz2 e1 e3
    go_wp2
    go_ret
    exact ⟨by rw [HZ.out]; rfl,hB⟩
def maxTo (f:Nat->Int):Nat->Int
 | 0=>f 0
 | n+1=>max (maxTo f n) (f (n+1))
theorem zg5 {f:Nat->Int} {b:Int}:∀ n,maxTo f n<=b↔∀ i,i<=n->f i<=b
 | 0=>⟨fun h i hi=>by rw [Nat.le_zero.1 hi]; exact h,fun h=>h 0 (Nat.le_refl _)⟩
 | n + 1 => by
  have ih:=zg5 (f:=f) (b:=b) n
  show max (maxTo f n) (f (n+1))<=b↔_
  rw [Int.max_le,ih]
  constructor
  ·rintro ⟨h1,h2⟩ i hi
   by_cases e:i=n+1
   ·rw [e]; exact h2
   ·exact h1 i (by omega)
  ·intro h
   exact ⟨fun i hi=>h i (by omega),h (n+1) (Nat.le_refl _)⟩
theorem zfW (A:Option Addr) (n c:Nat) (f:Nat->Int) (w:World) (h:IntsR w w.heap.size A n f) (hn:1<=n) (hn2:n<=1048576) :
  Calls Tryz.prog 130 #[.slice A n c] w fun e w'=>e=.returned (.int .i64 (maxTo f (n - 1)))/\w=w':=by
 have H:=hid h
 clear h
 have hb:¬ (n:Int)<1:=by omega
 have hn0:(0:Int)<(n:Int):=by omega
 obtain ⟨b,o,hA,_,x0⟩:=H.out.at (i:=0) (by omega)
 subst hA
 rw [Nat.add_zero] at x0
 obtain ⟨m0,hm0⟩:∃ x,x=f 0:=⟨_,rfl⟩
 rw [<-hm0] at x0
 have HM0:=hid hm0
 clear hm0
 go_enter Tryz.func130, Tryz.ntmps130
 go_upto_region 5 with fail
 clear hb
 go_loopg [3,4] n (fun gg mv iv wx=>∃ i:Nat,iv=.int .i64 (i+1:Nat)/\mv=.int .i64 (maxTo f i)/\i+1<=n/\n<=i+1+gg/\wx=w)
 case atStart=>exact ⟨0,rfl,by rw [HM0.out]; rfl,by omega,by omega,rfl⟩
 case round =>
  obtain ⟨i,rfl,rfl,hi,hig,hwx⟩:=hrel
  obtain rfl:w=wr:=hwx.symm
  have hi0:(0:Int)<=((i+1:Nat):Int):=by omega
  by_cases hlt:i+1<n
  ·have hlt':((i+1:Nat):Int)<(n:Int):=by omega
   have hlt2:(i:Int)+1<(n:Int):=by omega
   have hi1:(0:Int)<=(i:Int)+1:=by omega
   obtain ⟨b2,o2,hA,_,x1⟩:=H.out.at (i:=i+1) hlt
   injection hA with hA
   injection hA with e1 e2
   subst e1 e2
   obtain ⟨v,hv⟩:∃ x,x=f (i+1):=⟨_,rfl⟩
   rw [<-hv] at x1
   obtain ⟨m,hm⟩:∃ x,x=maxTo f i:=⟨_,rfl⟩
   rw [<-hm]
   have HMX:Hid (maxTo f (i+1)=max m v):=hid (by rw [hm,hv]; rfl)
   clear hm hv
   go_wp2
   go_roundg (gk - 1)
   case measure=>omega
   case rel=>exact ⟨i+1,by go_num,by rw [HMX.out],by omega,by omega,rfl⟩
  ·have hlt':¬ ((i+1:Nat):Int)<(n:Int):=by omega
   have hlt2:¬ (i:Int)+1<(n:Int):=by omega
   have hin:Hid (n - 1=i):=hid (by omega)
   go_wp2
   go_ret
   exact ⟨by rw [hin.out]; rfl,rfl⟩
open Go.ChangeShapes Go.WideShapes Go.ChangeAt
def Trel.mostR (T:Trel) (nd:Nat->Nat) (L:Nat->Nat->Int) (i j:Nat):Int :=
 if T.lb i j≠0 then (if T.fr i j=(nd i:Int) then min (L i (T.fr i j).toNat+1) 1 else L i (T.fr i j).toNat+1) else L i (T.fr i j).toNat
def Trel.rowOk (T:Trel) (ln:Nat->Nat) (L:Nat->Nat->Int) (i:Nat):Prop:=(ln i:Int)=T.W i/\∀ v,v<ln i->L i v<=4611686018427387904
def PotOk (T:Trel) (nd:Nat->Nat) (D:Int) (pn:Nat) (ln:Nat->Nat) (L:Nat->Nat->Int):Prop :=
 pn=T.nw/\(∀ i,i<pn->T.rowOk ln L i)/\(∀ i,i<T.n->∀ j,j<T.el i->L (i+1) (T.to i j).toNat<=T.mostR nd L i j)/\D<=L T.n 0
theorem TChk.zp {P M:Int} {A:Option Addr} {k:Nat} {f:Nat->Int} {N:Int} {TC:Option Addr} {n:Nat} {ln:Nat->Nat} {V:Nat->Nat->Int} {T:Trel} {w:World} (hr:IntsR w w.heap.size A k f) (h:IntRows w TC n ln V)
  (h1:TChk P M k f N n ln V T 0):T.Proper/\∃ e nd,T.ZP e nd:=by
 rcases h1 with ⟨a1,_⟩ | ⟨a1,b1⟩
 ·exact absurd rfl a1
 ·rcases b1 with ⟨c1,d1⟩ | ⟨c1,P',M',N',rfl,rfl,rfl,d1⟩
  ·exact absurd d1.symm c1
  ·have hp:=Trel.proper_of c1
   refine ⟨hp,?_⟩
   rcases d1 with ⟨_,k1⟩ | ⟨g1,a,H,k1,l1,m1⟩
   ·exact absurd k1 (by omega)
   ·obtain ⟨P3,M3,N3,x1,x2,x3,hC⟩:=zbP hr h a1
    obtain rfl:P'=P3:=by omega
    obtain rfl:M'=M3:=by omega
    obtain rfl:N'=N3:=by omega
    subst g1
    obtain ⟨i1,i2,i3⟩:=m1.1 rfl
    have hL:=fieldLaws hC.fld
    have hneg:∀ x,x<P' ^ M'->negF P' M' x<P' ^ M'/\addF P' M' x (negF P' M' x)=0:=fun x _=>⟨za7 (by have:=hC.fld.1.1; omega),zaR (by have:=hC.fld.1.1; omega)⟩
    have hz:InSp (P' ^ M') (addF P' M') (mulF P' M' fun i=>(f i).toNat) n T.n (natT V) (fun _=>0):=(zdR hL hneg hC.rref k1 (x:=fun _=>0) (fun j _=>by have:=hL.two; show 0<_; omega)).2 fun k hk=>by
     obtain ⟨p,hE⟩:=k1.rref
     have key:∀ t,t<=T.n->dotN (addF P' M') (mulF P' M' fun i=>(f i).toNat) (fun _=>0) (H k) t=0:=by
      intro t
      induction t with
      | zero=>intro _; rfl
      | succ t ih =>
       intro ht
       show addF P' M' (dotN (addF P' M') (mulF P' M' fun i=>(f i).toNat) (fun _=>0) (H k) t) (mulF P' M' (fun i=>(f i).toNat) 0 (H k t))=0
       have h2:=hL.two
       rw [ih (by omega),hL.mulComm 0 _ (by omega) (hE.lt k hk t (by omega)),hL.mulZero (hE.lt k hk t (by omega)),hL.addZero (by omega)]
     exact key T.n (Nat.le_refl _)
    obtain ⟨e,nd,n0,nn,hh⟩:=Trel.all_words hL hneg hC.rref k1 hp i1 i2 i3 hz
    have hnd:∀ t,t<=T.n->0<=nd t:=fun t ht=>by
     by_cases et:t=0
     ·rw [et,n0]; exact Int.le_refl _
     ·obtain ⟨s,rfl⟩:∃ s,t=s+1:=⟨t - 1,by omega⟩
      obtain ⟨y1,y2,y3,_⟩:=hh s (by omega)
      have:=hp.shape.ins s (by omega) (e s) y1
      unfold Trel.inside at this
      omega
    refine ⟨e,fun t=>(nd t).toNat,⟨by show (nd 0).toNat=0; rw [n0]; rfl,fun t ht=>?_⟩⟩
    obtain ⟨y1,y2,y3,y4⟩:=hh t ht
    have z1:=hnd t (by omega)
    have z2:=hnd (t+1) (by omega)
    exact ⟨y1,by rw [y2,Int.toNat_of_nonneg z1],by rw [y3,Int.toNat_of_nonneg z2],by rw [y4]; rfl⟩
theorem Trel.ZP.same {T:Trel} {e nd e' nd':Nat->Nat} (h:T.ZP e nd) (h':T.ZP e' nd') (hp:T.Proper):∀ t,t<=T.n->nd t=nd' t:=by
 intro t
 induction t with
 | zero=>intro _; rw [h.n0,h'.n0]
 | succ t ih =>
  intro ht
  have hi:=ih (by omega)
  obtain ⟨a1,a2,a3,a4⟩:=h.ok t (by omega)
  obtain ⟨b1,b2,b3,b4⟩:=h'.ok t (by omega)
  have he:e t=e' t:=Trel.edge_uniq (hp.sec t (by omega)) a1 b1 (by rw [a2,b2,hi]) (by rw [a4,b4])
  rw [he] at a3
  have:=a3.symm.trans b3
  omega
theorem PotOk.congr {T:Trel} {nd nd':Nat->Nat} {D:Int} {pn:Nat} {ln:Nat->Nat} {L:Nat->Nat->Int} (hn:∀ t,t<=T.n->nd t=nd' t) (h:PotOk T nd D pn ln L):PotOk T nd' D pn ln L:=by
 refine ⟨h.1,h.2.1,fun i hi j hj=>?_,h.2.2.2⟩
 have:=h.2.2.1 i hi j hj
 unfold Trel.mostR at this ⊢
 rwa [<-hn i (by omega)]
def PChk (P M:Int) (k:Nat) (f:Nat->Int) (N:Int) (n:Nat) (ln:Nat->Nat) (V:Nat->Nat->Int) (T:Trel) (D:Int) (pn:Nat) (lp:Nat->Nat) (L:Nat->Nat->Int) (v:Int):Prop :=
 ∃ u,TChk P M k f N n ln V T u/\((u≠0/\v=u)∨(u=0/\∃ e nd,T.ZP e nd/\(v=0∨v=13)/\(v=0↔PotOk T nd D pn lp L)))
theorem PChk.unique {P M:Int} {A:Option Addr} {k:Nat} {f:Nat->Int} {N:Int} {TC:Option Addr} {n:Nat} {ln:Nat->Nat} {V:Nat->Nat->Int} {T:Trel} {D:Int} {pn:Nat} {lp:Nat->Nat} {L:Nat->Nat->Int} {w:World} {x y:Int} (hr:IntsR w w.heap.size A k f) (h:IntRows w TC n ln V)
  (h1:PChk P M k f N n ln V T D pn lp L x) (h2:PChk P M k f N n ln V T D pn lp L y):x=y:=by
 obtain ⟨u,a1,b1⟩:=h1
 obtain ⟨u2,a2,b2⟩:=h2
 obtain rfl:u=u2:=TChk.unique hr h a1 a2
 rcases b1 with ⟨c1,d1⟩ | ⟨c1,e,nd,z1,l1,m1⟩ <;> rcases b2 with ⟨c2,d2⟩ | ⟨c2,e2,nd2,z2,l2,m2⟩
 ·rw [d1,d2]
 ·exact absurd c2 c1
 ·exact absurd c1 c2
 ·subst c1
  obtain ⟨hp,_⟩:=TChk.zp hr h a1
  have hiff:x=0↔y=0:=by
   rw [m1,m2]
   exact ⟨PotOk.congr (z1.same z2 hp),PotOk.congr (z2.same z1 hp)⟩
  rcases l1 with l1 | l1 <;> rcases l2 with l2 | l2 <;> omega
theorem zg6 {T:Trel} {nd:Nat->Nat} {L:Nat->Nat->Int} {i j:Nat} {x:Int} (hx:x<=4611686018427387904) (hl:L i (T.fr i j).toNat<=4611686018427387904) :
  x<=bndV (T.fr i j) (T.lb i j) (L i (T.fr i j).toNat) (nd i)↔x<=T.mostR nd L i j:=by
 unfold bndV Trel.mostR
 by_cases h1:T.lb i j=0
 ·rw [if_neg (fun h=>h.1 h1),if_neg (fun h=>h.1 h1),if_neg (fun h=>h h1)]
 ·by_cases h2:T.fr i j=(nd i:Int)
  ·rw [if_pos ⟨h1,h2⟩,if_pos h1,if_pos h2]
   by_cases h3:L i (T.fr i j).toNat<4611686018427387904
   ·rw [if_pos ⟨h1,h3⟩]
   ·rw [if_neg (fun h=>h3 h.2),Int.min_eq_right (by omega),Int.min_eq_right (by omega)]
  ·rw [if_neg (fun h=>h2 h.2),if_pos h1,if_neg h2]
   by_cases h3:L i (T.fr i j).toNat<4611686018427387904
   ·rw [if_pos ⟨h1,h3⟩]
   ·rw [if_neg (fun h=>h3 h.2)]
    omega
theorem zfX (P M:Int) (A:Option Addr) (k c:Nat) (f:Nat->Int) (N:Int) (TC:Option Addr) (n d:Nat) (ln:Nat->Nat) (V:Nat->Nat->Int) (T:Trel) (TA TB:Option Addr) (ca cb:Nat) (D:Int) (PA:Option Addr) (pn pc:Nat) (lp:Nat->Nat) (L:Nat->Nat->Int) (w:World) (hr:IntsR w w.heap.size A k f) (h:IntRows w TC n ln V) (hkc:k<=c) (hT:T.Reads w TA TB) (hP:IntRows w PA pn lp L) :
  Calls Tryz.prog 52 #[.agg #[.int .i64 P,.int .i64 M,.slice A k c,.int .i64 N,.slice TC n d],.agg #[.slice TA T.nw ca,.slice TB T.n cb],.agg #[.int .i64 D,.slice PA pn pc]] w fun e w'=>∃ v:Int,e=.returned (.int .i64 v)/\PChk P M k f N n ln V T D pn lp L v/\Below w.heap.size w w':=by
 have HI:=hid hr
 have HT:=hid h
 have HR:=hid hT
 have HPR:=hid hP
 clear hr h hT hP
 have rf:=zam (w:=w) (a:=.int .i64 P) (b:=.int .i64 M) (c:=.slice A k c) (d:=.int .i64 N) (e:=.slice TC n d) (T := 27)
 have hB:Below w.heap.size w (w.alloc (.cells #[.int .i64 P,.int .i64 M,.slice A k c,.int .i64 N,.slice TC n d] 27)):=(Below.refl _ _).alloc (Nat.le_refl _) _
 obtain ⟨w1,hw1⟩:∃ W,W=w.alloc (.cells #[.int .i64 P,.int .i64 M,.slice A k c,.int .i64 N,.slice TC n d] 27):=⟨_,rfl⟩
 rw [<-hw1] at hB rf
 have rt:=zae (w:=w1) (a:=.slice TA T.nw ca) (b:=.slice TB T.n cb) (T := 74)
 have kb:Below w1.heap.size w1 (w1.alloc (.cells #[.slice TA T.nw ca,.slice TB T.n cb] 74)):=(Below.refl _ _).alloc (Nat.le_refl _) _
 have hsz2:(w1.alloc (.cells #[.slice TA T.nw ca,.slice TB T.n cb] 74)).heap.size=w1.heap.size+1:=by simp
 obtain ⟨w2,hw2⟩:∃ W,W=w1.alloc (.cells #[.slice TA T.nw ca,.slice TB T.n cb] 74):=⟨_,rfl⟩
 rw [<-hw2] at kb rt hsz2;replace rf:=zaa rf kb;replace hB:=onS hB kb
 have hsz1:w1.heap.size=w.heap.size+1:=by rw [hw1]; simp
 rw [hsz1] at rt hsz2
 have rp:=zae (w:=w2) (a:=.int .i64 D) (b:=.slice PA pn pc) (T := 81)
 have kb2:Below w2.heap.size w2 (w2.alloc (.cells #[.int .i64 D,.slice PA pn pc] 81)):=(Below.refl _ _).alloc (Nat.le_refl _) _
 obtain ⟨w3,hw3⟩:∃ W,W=w2.alloc (.cells #[.int .i64 D,.slice PA pn pc] 81):=⟨_,rfl⟩
 rw [<-hw3] at kb2 rp;rw [hsz2] at rp;replace rf:=zaa rf kb2;replace rt:=zaa rt kb2;replace hB:=onS hB kb2
 go_enter Tryz.func52, Tryz.ntmps52
 go_upto_region 1 with fail
 rw [<-hw1,<-hw2,<-hw3];clear hw1 hw2 hw3 kb kb2 hsz1 hsz2
 obtain ⟨b0,hb0⟩:∃ b,b=w.heap.size:=⟨_,rfl⟩
 obtain ⟨b1,hb1⟩:∃ b,b=w.heap.size+1:=⟨_,rfl⟩
 obtain ⟨b2,hb2⟩:∃ b,b=w.heap.size+1+1:=⟨_,rfl⟩
 rw [<-hb0] at rf;rw [<-hb1] at rt;rw [<-hb2] at rp;rw [<-hb2,<-hb1,<-hb0];clear hb0 hb1 hb2
 have HBOX:Hid (∀ X,Below w3.heap.size w3 X->(X.cell? ⟨b0,0,none⟩=some (.int .i64 P)/\X.cell? ⟨b0,1,none⟩=some (.int .i64 M)/\X.cell? ⟨b0,2,none⟩=some (.slice A k c)/\X.cell? ⟨b0,3,none⟩=some (.int .i64 N)/\X.cell? ⟨b0,4,none⟩=some (.slice TC n d))/\(X.cell? ⟨b1,0,none⟩=some (.slice TA T.nw ca)/\X.cell? ⟨b1,1,none⟩=some (.slice TB T.n cb))/\X.cell? ⟨b2,0,none⟩=some (.int .i64 D)/\X.cell? ⟨b2,1,none⟩=some (.slice PA pn pc)):=hid fun X hx =>
  ⟨⟨(zaa rf hx).cell (i:=0) (by omega),(zaa rf hx).cell (i:=1) (by omega),(zaa rf hx).cell (i:=2) (by omega),(zaa rf hx).cell (i:=3) (by omega),(zaa rf hx).cell (i:=4) (by omega)⟩,⟨(zaa rt hx).cell (i:=0) (by omega),(zaa rt hx).cell (i:=1) (by omega)⟩,(zaa rp hx).cell (i:=0) (by omega),(zaa rp hx).cell (i:=1) (by omega)⟩
 have HB:=hid hB
 clear hB rf rt rp
 obtain ⟨⟨q0,q1,q2,q3,q4⟩,⟨p0,p1⟩,_,_⟩:=HBOX.out _ (Below.refl _ _)
 go_wp2_with fail
 refine (zet P M A k c f N TC n d ln V T TA TB ca cb w3 (HI.out.on HB.out) (HT.out.on HB.out) hkc (HR.out.on HB.out)).mono ?_
 rintro e w4 ⟨u,rfl,hu,kb⟩
 have HU:=hid hu
 have KB:=hid kb
 clear hu kb q0 q1 q2 q3 q4 p0 p1
 by_cases hu0:u=0
 rotate_left
 ·have hub:(u != 0)=true:=by simpa using hu0
  have HU0:=hid hu0
  clear hu0
  go_wp2
  go_ret
  exact ⟨u,rfl,⟨u,HU.out,.inl ⟨HU0.out,rfl⟩⟩,onS HB.out KB.out⟩
 subst hu0
 obtain ⟨hp,ze,nd,hz⟩:=TChk.zp HI.out HT.out HU.out
 have HP:=hid hp
 have HZ:=hid hz
 have HSH:=hid hp.shape
 have hn64:=hp.shape.n64
 have HNW1:=hid hp.shape.nw
 have hnw65:T.nw<=65:=by have:=HNW1.out; omega
 have HW:Hid (∀ i,i<=T.n->1<=T.W i/\T.W i<=65536):=hid fun i hi=>hp.shape.wid hi
 clear hp hz
 have FAIL:Hid (¬ PotOk T nd D pn lp L->∀ X,Below w4.heap.size w4 X->∃ v:Int,Ending.returned (.int .i64 13)=.returned (.int .i64 v)/\PChk P M k f N n ln V T D pn lp L v/\Below w.heap.size w X):=hid fun hno X hx =>
  ⟨13,rfl,⟨0,HU.out,.inr ⟨rfl,ze,nd,HZ.out,.inr rfl,⟨fun h=>absurd h (by omega),fun h=>absurd h hno⟩⟩⟩,onS HB.out (onS KB.out hx)⟩
 obtain ⟨_,⟨p0,p1⟩,s0,s1⟩:=HBOX.out _ KB.out
 by_cases hpn:pn=T.nw
 rotate_left
 ·have hne:((pn:Int) != (T.nw:Int))=true:=by simp; omega
  have HNO:Hid (¬ PotOk T nd D pn lp L):=hid fun h=>hpn h.1
  clear hpn
  go_wp2
  go_ret
  exact FAIL.out HNO.out _ (Below.refl _ _)
 subst hpn
 have hne:((T.nw:Int) != (T.nw:Int))=false:=by simp
 go_upto_region 7 with fail
 clear hne p0 p1 s0 s1
 go_loopg [31] T.nw (fun gg iv wx=>∃ i:Nat,iv=.int .i64 (i:Nat)/\i<=T.nw/\T.nw<=i+gg/\Hid (∀ i',i'<i->T.rowOk lp L i')/\wx=w4)
 case atStart=>exact ⟨0,rfl,by omega,by omega,hid fun i' h=>absurd h (by omega),rfl⟩
 case round =>
  obtain ⟨i,rfl,hi,hig,HOK,hwx⟩:=hrel
  obtain rfl:w4=wr:=hwx.symm
  have hi0:(0:Int)<=(i:Int):=by omega
  obtain ⟨_,⟨p0,p1⟩,s0,s1⟩:=HBOX.out _ KB.out
  by_cases hin:i<T.nw
  ·have hin':(i:Int)<(T.nw:Int):=by omega
   obtain ⟨pb,po,RA,rc,hPA,_,x0,hc1,hc2,hrow,hrng⟩:=HPR.out i hin
   subst hPA
   replace x0:=cellS (onS HB.out KB.out) x0
   have HROW:=hid (hrow.on (onS HB.out KB.out))
   obtain ⟨ab,ao,hAe,_,a0,_⟩:=(HR.out.on (onS HB.out KB.out)).width hin
   subst hAe
   obtain ⟨m,hm⟩:∃ x,x=lp i:=⟨_,rfl⟩
   rw [<-hm] at x0 hc1 HROW
   obtain ⟨wv,hwv⟩:∃ x,x=T.W i:=⟨_,rfl⟩
   rw [<-hwv] at a0
   have HM:=hid hm
   have HWV:=hid hwv
   have hwr:=HW.out i (by have:=HNW1.out; omega)
   rw [<-hwv] at hwr;clear hm hwv hrow hrng
   by_cases hmw:(m:Int)=wv
   rotate_left
   ·have hne:((m:Int) != wv)=true:=by simpa using hmw
    have HNO:Hid (¬ PotOk T nd D T.nw lp L):=hid fun h=>hmw (by rw [HM.out,HWV.out]; exact (h.2.1 i hin).1)
    clear hmw
    go_wp2
    go_ret
    exact FAIL.out HNO.out _ (Below.refl _ _)
   have hne:((m:Int) != wv)=false:=by simpa using hmw
   have HMW:=hid hmw
   have hm1:1<=m:=by omega
   have hm65:m<=65536:=by omega
   clear hmw
   go_wp2_with fail
   refine (zfW RA m rc (L i) w4 HROW.out hm1 (by omega)).mono ?_
   rintro e w5 ⟨rfl,rfl⟩
   obtain ⟨z,hz⟩:∃ z,z=maxTo (L i) (m - 1):=⟨_,rfl⟩
   have hmx:=zg5 (f:=L i) (b:=4611686018427387904) (m - 1)
   rw [<-hz] at hmx ⊢
   have HMX:=hid hmx
   clear hz hmx
   by_cases hzb:z<=4611686018427387904
   ·have hgt:¬ 4611686018427387904<z:=by omega
    have HOK2:Hid (∀ i',i'<i+1->T.rowOk lp L i'):=hid fun i' hi'=>by
     by_cases ei:i'=i
     ·rw [ei]
      exact ⟨by rw [<-HM.out,<-HWV.out]; exact HMW.out,fun v hv=>HMX.out.1 hzb v (by have:=HM.out; omega)⟩
     ·exact HOK.out i' (by omega)
    go_wp2
    go_roundg (gk - 1)
    case measure=>omega
    case rel=>exact ⟨i+1,by go_num,by omega,by omega,HOK2,rfl⟩
   ·have hgt:4611686018427387904<z:=by omega
    have HNO:Hid (¬ PotOk T nd D T.nw lp L):=hid fun h=>hzb (HMX.out.2 fun v hv=>(h.2.1 i hin).2 v (by have:=HM.out; omega))
    go_wp2
    go_ret
    exact FAIL.out HNO.out _ (Below.refl _ _)
  ·have hin':¬ (i:Int)<(T.nw:Int):=by omega
   obtain rfl:i=T.nw:=by omega
   go_upto_region 12 with fail
   have HOKA:=HOK
   have hWOK:Hid (∀ i v,i<=T.n->v<(T.W i).toNat->L i v<=4611686018427387904):=hid fun i v hi hv=>(HOKA.out i (by have:=HNW1.out; omega)).2 v (by have:=(HOKA.out i (by have:=HNW1.out; omega)).1; omega)
   clear hi0 hig
   go_wp2_with fail
   refine (zeu T ze nd TA TB ca cb w4 (HR.out.on (onS HB.out KB.out)) HP.out HZ.out).mono ?_
   rintro r w5 ⟨zb,rfl,hzb,hzr,kb⟩
   have HZR:=hid hzr
   have K5:=hid kb
   clear kb hzr p0 p1 s0 s1
   obtain ⟨_,⟨p0,p1⟩,s0,s1⟩:=HBOX.out _ (onS KB.out K5.out)
   go_upto_region 14 with fail
   clear p0 p1 s0 s1
   go_loopg [59] T.n (fun gg iv wx=>∃ i:Nat,iv=.int .i64 (i:Nat)/\i<=T.n/\T.n<=i+gg/\Hid (∀ i',i'<i->∀ j,j<T.el i'->L (i'+1) (T.to i' j).toNat<=T.mostR nd L i' j)/\Below w5.heap.size w5 wx)
   case atStart=>exact ⟨0,rfl,by omega,by omega,hid fun i' h=>absurd h (by omega),Below.refl _ _⟩
   case round =>
    obtain ⟨i,rfl,hi,hig,HED0,hB⟩:=hrel
    have hi0:(0:Int)<=(i:Int):=by omega
    have K6:=hid hB
    obtain ⟨w6,hw6⟩:∃ X,X=wr:=⟨_,rfl⟩
    subst hw6
    clear hB
    by_cases hin:i<T.n
    ·have hin':(i:Int)<(T.n:Int):=by omega
     obtain ⟨eb,eo,E,ec,hBe,heb,e0w,hec,hec2,hEd,hI64⟩:=HR.out.sec hin
     have HED:=hid hEd
     have e0:=cellS (onS HB.out (onS KB.out (onS K5.out K6.out))) e0w
     subst hBe
     obtain ⟨el,hel⟩:∃ x,x=T.el i:=⟨_,rfl⟩
     have hel2:el<=262144:=by rw [hel]; exact HSH.out.elb hin
     rw [<-hel] at e0 HED
     have HEL:=hid hel
     clear hel hEd hI64 hec hec2 e0w
     obtain ⟨pb,po,RA,rc,hPA,_,x0w,_,_,hrow,hrng⟩:=HPR.out i (by have:=HNW1.out; omega)
     subst hPA
     obtain ⟨pb2,po2,RB,rd,hPA2,_,x1w,_,_,hrow2,_⟩:=HPR.out (i+1) (by have:=HNW1.out; omega)
     injection hPA2 with hPA2
     injection hPA2 with g1 g2
     subst g1 g2
     have HX0:=hid x0w
     have HX1:=hid x1w
     have HROW:=hid hrow
     have HROW2:=hid hrow2
     have HRNG:=hid hrng
     have HLN0:=hid (HOKA.out i (by have:=HNW1.out; omega)).1
     have HLN1:=hid (HOKA.out (i+1) (by have:=HNW1.out; omega)).1
     clear x0w x1w hrow hrow2 hrng
     obtain ⟨gO,hgO⟩:∃ x,x=gk:=⟨_,rfl⟩
     subst hgO
     go_upto_region 17 with fail
     clear e0
     go_loopg [66] el (fun gg jv wx=>∃ j:Nat,jv=.int .i64 (j:Nat)/\j<=el/\el<=j+gg/\Hid (∀ j',j'<j->L (i+1) (T.to i j').toNat<=T.mostR nd L i j')/\Below w6.heap.size w6 wx)
     case atStart=>exact ⟨0,rfl,by omega,by omega,hid fun i' h=>absurd h (by omega),Below.refl _ _⟩
     case round =>
      obtain ⟨j,rfl,hj,hjg,HJ,hBx⟩:=hrel
      have hj0:(0:Int)<=(j:Int):=by omega
      have K7:=hid (onS K6.out hBx)
      have HBX:=hid hBx
      obtain ⟨w7,hw7⟩:∃ X,X=wr:=⟨_,rfl⟩
      subst hw7
      clear hBx
      have hKW:=onS HB.out (onS KB.out (onS K5.out K7.out))
      by_cases hjl:j<el
      ·have hjl':(j:Int)<(el:Int):=by omega
       obtain ⟨xb,xo,hEe,hxb,y0,y1,y2⟩:=zaS HED.out hjl
       subst hEe
       replace y0:=cellS hKW y0;replace y1:=cellS hKW y1;replace y2:=cellS hKW y2
       have hins:=HSH.out.ins i hin j (by rw [<-HEL.out]; exact hjl)
       obtain ⟨f0,f1,t0,t1⟩:=hins
       obtain ⟨fu,hfu⟩:∃ x:Nat,x=(T.fr i j).toNat:=⟨_,rfl⟩
       obtain ⟨tu,htu⟩:∃ x:Nat,x=(T.to i j).toNat:=⟨_,rfl⟩
       have hf:T.fr i j=(fu:Int):=by omega
       have ht:T.to i j=(tu:Int):=by omega
       have hfu2:fu<lp i:=by have:=HLN0.out; omega
       have htu2:tu<lp (i+1):=by have:=HLN1.out; omega
       rw [hf] at y0;rw [ht] at y2
       have HTU:=hid ht
       obtain ⟨lb,hlb⟩:∃ x:Int,x=T.lb i j:=⟨_,rfl⟩
       rw [<-hlb] at y1
       obtain ⟨fb,fo,hRA,_,l0w⟩:=HROW.out.at hfu2
       subst hRA
       obtain ⟨tb,tO,hRB,_,l1w⟩:=HROW2.out.at htu2
       subst hRB
       obtain ⟨l0,hl0⟩:∃ x,x=L i fu:=⟨_,rfl⟩
       obtain ⟨l1,hl1⟩:∃ x,x=L (i+1) tu:=⟨_,rfl⟩
       rw [<-hl0] at l0w;rw [<-hl1] at l1w
       have hl0b : -9223372036854775808<=l0/\l0<=4611686018427387904:=by
        refine ⟨by rw [hl0]; exact (HRNG.out fu hfu2).1,?_⟩
        rw [hl0]
        exact hWOK.out i fu (by omega) (by omega)
       have hl1b:l1<=4611686018427387904:=by
        rw [hl1]
        exact hWOK.out (i+1) tu (by omega) (by omega)
       obtain ⟨B0,hB0⟩:∃ x,x=bndV (fu:Int) lb l0 (nd i):=⟨_,rfl⟩
       have hbm:l1<=B0↔L (i+1) (T.to i j).toNat<=T.mostR nd L i j:=by
        have h1:=zg6 (T:=T) (nd:=nd) (L:=L) (i:=i) (j:=j) (x:=l1) hl1b (by rw [hf,Int.toNat_natCast,<-hl0]; exact hl0b.2)
        rw [hf,Int.toNat_natCast,<-hl0,<-hlb,<-hB0] at h1;rw [h1,ht,Int.toNat_natCast,hl1]
       have HBM:=hid hbm
       have HB0:=hid hB0
       have s2:=cellS hKW HX0.out
       have s3:=cellS hKW l0w
       have s4:=cellS hKW HX1.out
       have s5:=cellS hKW l1w
       have s6:w7.cell? ⟨zb,i,none⟩=some (.int .i64 (nd i:Nat)):=(zaa HZR.out K7.out).cell (by have:=HNW1.out; omega)
       obtain ⟨_,_,_,s1⟩:=HBOX.out _ (onS KB.out (onS K5.out K7.out))
       clear hf ht hfu htu hlb hl0 hl1 l0w l1w f0 f1 t0 t1 hKW hbm hB0
       go_upto_region 19 with fail
       have rx:=zad (w:=w7) (a:=.int .i64 (fu:Nat)) (b:=.int .i64 lb) (c:=.int .i64 (tu:Nat)) (T := 148)
       have kb:Below w7.heap.size w7 (w7.alloc (.cells #[.int .i64 (fu:Nat),.int .i64 lb,.int .i64 (tu:Nat)] 148)):=(Below.refl _ _).alloc (Nat.le_refl _) _
       obtain ⟨w8,hw8⟩:∃ W,W=w7.alloc (.cells #[.int .i64 (fu:Nat),.int .i64 lb,.int .i64 (tu:Nat)] 148):=⟨_,rfl⟩
       rw [<-hw8] at rx kb ⊢;clear hw8
       obtain ⟨b14,hb14⟩:∃ b,b=w7.heap.size:=⟨_,rfl⟩
       rw [<-hb14] at rx ⊢;clear hb14 y0 y1 y2
       have HSS:Hid (∀ X,Below w8.heap.size w8 X->(X.cell? ⟨b2,1,none⟩=some (.slice (some ⟨pb,po,none⟩) T.nw pc)/\X.cell? ⟨pb,po+i,none⟩=some (.slice (some ⟨fb,fo,none⟩) (lp i) rc)/\X.cell? ⟨fb,fo+fu,none⟩=some (.int .i64 l0)/\X.cell? ⟨pb,po+(i+1),none⟩=some (.slice (some ⟨tb,tO,none⟩) (lp (i+1)) rd)/\X.cell? ⟨tb,tO+tu,none⟩=some (.int .i64 l1)/\X.cell? ⟨zb,i,none⟩=some (.int .i64 (nd i:Nat))/\X.cell? ⟨b14,0,none⟩=some (.int .i64 (fu:Nat))/\X.cell? ⟨b14,1,none⟩=some (.int .i64 lb)/\X.cell? ⟨b14,2,none⟩=some (.int .i64 (tu:Nat)))):=hid fun X hx=>by
        have h7:=onS kb hx
        have hrx:=zaa rx hx
        exact ⟨cellS h7 s1,cellS h7 s2,cellS h7 s3,cellS h7 s4,cellS h7 s5,cellS h7 s6,hrx.cell (i:=0) (by omega),hrx.cell (i:=1) (by omega),hrx.cell (i:=2) (by omega)⟩
       have K8:=hid (onS HBX.out kb)
       clear s1 s2 s3 s4 s5 s6 kb rx
       have hiw:(i:Int)<(T.nw:Int):=by have:=HNW1.out; omega
       have hfi:(fu:Int)<((lp i:Nat):Int):=by omega
       have hti:(tu:Int)<((lp (i+1):Nat):Int):=by omega
       have hinw:((i+1:Nat):Int)<(T.nw:Int):=by have:=HNW1.out; omega
       have hinw2:(i:Int)+1<(T.nw:Int):=by have:=HNW1.out; omega
       have hi11:(0:Int)<=(i:Int)+1:=by omega
       have hi1w:IntKind.i64.wrap ((i:Int)+1)=(i:Int)+1:=IntWalk.i64_in _ (by omega)
       have hi1x:wrap64 ((i:Int)+1)=(i:Int)+1:=by unfold wrap64; omega
       have s1:=HSS.out _ ((Below.refl w8.heap.size w8).drew)
       refine wp_region_held_drew (S:=fun X=>X.cell? ⟨b2,1,none⟩=some (.slice (some ⟨pb,po,none⟩) T.nw pc)/\X.cell? ⟨pb,po+i,none⟩=some (.slice (some ⟨fb,fo,none⟩) (lp i) rc)/\X.cell? ⟨fb,fo+fu,none⟩=some (.int .i64 l0)/\X.cell? ⟨pb,po+(i+1),none⟩=some (.slice (some ⟨tb,tO,none⟩) (lp (i+1)) rd)/\X.cell? ⟨tb,tO+tu,none⟩=some (.int .i64 l1)/\X.cell? ⟨zb,i,none⟩=some (.int .i64 (nd i:Nat))/\X.cell? ⟨b14,0,none⟩=some (.int .i64 (fu:Nat))/\X.cell? ⟨b14,1,none⟩=some (.int .i64 lb)/\X.cell? ⟨b14,2,none⟩=some (.int .i64 (tu:Nat))) (by kernel_rfl) s1 (fun hHeld=>?_)
       obtain ⟨w9,hw⟩:∃ W,W=World.drew w8:=⟨_,rfl⟩
       have kb:Below w8.heap.size w8 w9:=by rw [hw]; exact (Below.refl _ _).drew
       rw [<-hw] at hHeld ⊢;clear hw s1
       have K9:=hid kb
       clear kb
       refine tkq 0 (h:=tkq 1 (h:=tkq 2 (h:=tkq 3 (h:=tkq 4 (h:=tkq 5 (h:=tkq 6 (h:=tkq 7 (h:=tkq 8 (h:=tkq 9 (h:=tkq 10 (h:=tkq 11 (h:=tkq 12 (h:=tkq 13 (h:=tkq 14 (h:=tkq 15 (h:=tkq 16 (h:=tkq 17 (h:=tkq 18 (h:=tkq 19 (h:=tkq 20 (h:=tkq 21 (h:=tkq 22 (h:=tkq 23 (h:=?_))))))))))))))))))))))))
       clear hHeld
       refine rdq 24 (h:=fun K hK=>?_)
       go_simp
       go_wp2_with fail
       refine (zdS (fu:Int) lb (tu:Int) l0 (nd i:Int) w9 ⟨hl0b.1,by omega⟩).mono ?_
       rintro e w10 ⟨rfl,kb⟩
       rw [<-HB0.out];replace K9:=hid (onS K9.out kb);clear kb
       refine bkq hK (HSS.out _ K9.out) (h:=fun hHeld=>?_)
       clear hK K
       by_cases hgt:B0<l1
       ·have hng:¬ l1<=B0:=by omega
        have HNO:Hid (¬ PotOk T nd D T.nw lp L):=hid fun h=>hng (HBM.out.2 (h.2.2.1 i hin j (by rw [<-HEL.out]; exact hjl)))
        refine tkq 25 (h:=?_)
        refine wpAnyH_done (by kernel_rfl) ?_ _
        clear hHeld
        go_wp2
        go_ret
        exact FAIL.out HNO.out _ (onS K5.out (onS K6.out (onS K8.out K9.out)))
       ·have hng:l1<=B0:=by omega
        have HJ2:Hid (∀ j',j'<j+1->L (i+1) (T.to i j').toNat<=T.mostR nd L i j'):=hid fun j' hj'=>by
         by_cases ej:j'=j
         ·rw [ej]; exact HBM.out.1 hng
         ·exact HJ.out j' (by omega)
        refine tkq 25 (h:=?_)
        refine wpAnyH_done (by kernel_rfl) ?_ _
        clear hHeld
        go_wp2
        go_roundg (gk - 1)
        case measure=>omega
        case rel=>exact ⟨j+1,by go_num,by omega,by omega,HJ2,onS K8.out K9.out⟩
      ·have hjl':¬ (j:Int)<(el:Int):=by omega
       obtain rfl:el=j:=by omega
       have HED2:Hid (∀ i',i'<i+1->∀ j,j<T.el i'->L (i'+1) (T.to i' j).toNat<=T.mostR nd L i' j):=hid fun i' hi' j hj=>by
        by_cases ei:i'=i
        ·subst ei; exact HJ.out j (by rw [HEL.out]; exact hj)
        ·exact HED0.out i' (by omega) j hj
       go_wp2
       go_roundg (gO - 1)
       case measure=>omega
       case rel=>exact ⟨i+1,by go_num,by omega,by omega,HED2,K7.out⟩
    ·have hin':¬ (i:Int)<(T.n:Int):=by omega
     obtain rfl:i=T.n:=by omega
     obtain ⟨pb,po,RA,rc,hPA,_,x0w,_,_,hrow,_⟩:=HPR.out T.n (by have:=HNW1.out; omega)
     subst hPA
     have hl1:lp T.n=1:=by
      have h1:=(HOKA.out T.n (by have:=HNW1.out; omega)).1
      have h2:=HP.out.wn
      omega
     obtain ⟨rb,ro,hRA,_,l0w⟩:=hrow.at (i:=0) (by omega)
     subst hRA
     rw [Nat.add_zero] at l0w;rw [hl1] at x0w
     obtain ⟨l0,hl0⟩:∃ x,x=L T.n 0:=⟨_,rfl⟩
     rw [<-hl0] at l0w
     have hKW:=onS HB.out (onS KB.out (onS K5.out K6.out))
     have s1:=cellS hKW x0w
     have s2:=cellS hKW l0w
     have HL0:=hid hl0
     have hnw':(T.n:Int)<(T.nw:Int):=by have:=HNW1.out; omega
     obtain ⟨_,⟨_,p1⟩,q0,q1⟩:=HBOX.out _ (onS KB.out (onS K5.out K6.out))
     clear hl1 x0w l0w hrow hl0
     go_upto_region 23 with fail
     refine wp_region_held_drew (S:=fun X=>X.cell? ⟨b1,1,none⟩=some (.slice TB T.n cb)/\X.cell? ⟨b2,0,none⟩=some (.int .i64 D)/\X.cell? ⟨b2,1,none⟩=some (.slice (some ⟨pb,po,none⟩) T.nw pc)/\X.cell? ⟨pb,po+T.n,none⟩=some (.slice (some ⟨rb,ro,none⟩) (1:Nat) rc)/\X.cell? ⟨rb,ro,none⟩=some (.int .i64 l0)) (by kernel_rfl) ⟨cellS (Below.refl _ _).drew p1,cellS (Below.refl _ _).drew q0,cellS (Below.refl _ _).drew q1,cellS (Below.refl _ _).drew s1,cellS (Below.refl _ _).drew s2⟩ (fun hHeld=>?_)
     obtain ⟨w7,hw⟩:∃ W,W=World.drew w6:=⟨_,rfl⟩
     have kb:Below w6.heap.size w6 w7:=by rw [hw]; exact (Below.refl _ _).drew
     rw [<-hw] at hHeld ⊢;clear hw s1 s2 p1 q0 q1
     have K7:=hid (onS K5.out (onS K6.out kb))
     clear kb hKW
     by_cases hgt:l0<D
     ·have HNO:Hid (¬ PotOk T nd D T.nw lp L):=hid fun h=>by
       have:=h.2.2.2
       rw [<-HL0.out] at this
       omega
      refine tkq 0 (h:=tkq 1 (h:=tkq 2 (h:=tkq 3 (h:=tkq 4 (h:=tkq 5 (h:=tkq 6 (h:=tkq 7 (h:=tkq 8 (h:=tkq 9 (h:=tkq 10 (h:=tkq 11 (h:=?_))))))))))))
      refine wpAnyH_done (by kernel_rfl) ?_ _
      clear hHeld
      go_wp2
      go_ret
      exact FAIL.out HNO.out _ K7.out
     ·have HYES:Hid (PotOk T nd D T.nw lp L):=hid ⟨rfl,HOKA.out,HED0.out,by rw [<-HL0.out]; omega⟩
      refine tkq 0 (h:=tkq 1 (h:=tkq 2 (h:=tkq 3 (h:=tkq 4 (h:=tkq 5 (h:=tkq 6 (h:=tkq 7 (h:=tkq 8 (h:=tkq 9 (h:=tkq 10 (h:=tkq 11 (h:=?_))))))))))))
      refine wpAnyH_done (by kernel_rfl) ?_ _
      clear hHeld
      go_wp2
      go_ret
      exact ⟨0,rfl,⟨0,HU.out,.inr ⟨rfl,ze,nd,HZ.out,.inl rfl,⟨fun _=>HYES.out,fun _=>rfl⟩⟩⟩,onS HB.out (onS KB.out K7.out)⟩
def Cost (a:Int):Prop:=0<=a/\a<=4611686018427387904
def capI (a b:Int):Int:=if 4611686018427387904<a+b then 4611686018427387904 else a+b
theorem zfs {a b:Int} (ha:Cost a) (hb:Cost b):Cost (capI a b):=by
 unfold Cost capI at *
 split <;> omega
theorem zg7 {a b:Int} (h:a+b<=4611686018427387904):capI a b=a+b:=if_neg (by omega)
theorem zi1 {a b:Int} (ha:Cost a) (hb:Cost b):Cost (min a b):=by
 unfold Cost at *
 omega
theorem zdT (a:Int) (w:World) (ha:Cost a):Calls Tryz.prog 293 #[.int .i64 a] w fun e w'=>e=.returned (.int .i64 a)/\Below w.heap.size w w':=by
 unfold Cost at ha
 have h1:max a 0=a:=by omega
 have h2:min a 4611686018427387904=a:=by omega
 go_enter Tryz.func293, Tryz.ntmps293
 go_wp2
 go_ret
 exact ⟨by first | rfl | (simp only [h1,h2]) | (rw [h1,h2]),Below.refl _ _⟩
theorem zg8 (a b:Int) (w:World) (ha:Cost a) (hb:Cost b):Calls Tryz.prog 294 #[.int .i64 a,.int .i64 b] w fun e w'=>e=.returned (.int .i64 (capI a b))/\Below w.heap.size w w':=by
 unfold Cost at ha hb
 have hw:IntKind.i64.wrap (4611686018427387904 - b)=4611686018427387904 - b:=IntWalk.i64_in _ (by omega)
 go_enter Tryz.func294, Tryz.ntmps294
 by_cases h:4611686018427387904<a+b
 ·have hd:¬ a<=4611686018427387904 - b:=by omega
  have hd2:4611686018427387904 - b<a:=by omega
  have hc:=hid (show capI a b=4611686018427387904 from if_pos h)
  clear h
  go_wp2
  go_ret
  exact ⟨by rw [hc.out]; rfl,Below.refl _ _⟩
 ·have hd:a<=4611686018427387904 - b:=by omega
  have hd2:¬ 4611686018427387904 - b<a:=by omega
  have hw2:IntKind.i64.wrap (a+b)=a+b:=IntWalk.i64_in _ (by omega)
  have hc:=hid (show capI a b=a+b from if_neg h)
  clear h
  go_wp2
  go_ret
  exact ⟨by rw [hc.out]; first | rfl | (rw [hw2]; rfl),Below.refl _ _⟩
theorem zev (w:World):Calls Tryz.prog 292 #[.agg #[]] w fun e w'=>e=.returned (.int .i64 4611686018427387904)/\Below w.heap.size w w':=by
 go_enter Tryz.func292, Tryz.ntmps292
 go_wp2
 go_ret
 exact ⟨rfl,(Below.refl _ _).alloc (Nat.le_refl _) _⟩
theorem zhV (w:World):Calls Tryz.prog 291 #[.agg #[]] w fun e w'=>e=.returned (.int .i64 0)/\Below w.heap.size w w':=by
 go_enter Tryz.func291, Tryz.ntmps291
 go_wp2
 go_ret
 exact ⟨rfl,(Below.refl _ _).alloc (Nat.le_refl _) _⟩
theorem zft (a b:Int) (w:World) (ha:Cost a) (hb:Cost b):Calls Tryz.prog 289 #[.agg #[],.int .i64 a,.int .i64 b] w fun e w'=>e=.returned (.int .i64 (min a b))/\Below w.heap.size w w':=by
 have hB0:Below w.heap.size w (w.alloc (Obj.cells #[] 250)):=(Below.refl _ _).alloc (Nat.le_refl _) _
 have HA:=hid ha
 have HB:=hid hb
 clear ha hb
 go_enter Tryz.func289, Tryz.ntmps289
 go_wp2_with fail
 refine (zdT a _ HA.out).mono ?_
 rintro e w1 ⟨rfl,hb⟩
 have hB1:=onS hB0 hb
 clear hb hB0
 go_wp2_with fail
 refine (zdT b _ HB.out).mono ?_
 rintro e w2 ⟨rfl,hb⟩
 have hB2:=onS hB1 hb
 clear hb hB1
 by_cases h:a<=b
 ·have h2:¬ b<a:=by omega
  have hm:=hid (show min a b=a by omega)
  go_wp2
  go_ret
  exact ⟨by rw [hm.out]; rfl,hB2⟩
 ·have h2:b<a:=by omega
  have hm:=hid (show min a b=b by omega)
  go_wp2
  go_ret
  exact ⟨by rw [hm.out]; rfl,hB2⟩
theorem zfu (a b:Int) (w:World) (ha:Cost a) (hb:Cost b):Calls Tryz.prog 290 #[.agg #[],.int .i64 a,.int .i64 b] w fun e w'=>e=.returned (.int .i64 (capI a b))/\Below w.heap.size w w':=by
 have hB0:Below w.heap.size w (w.alloc (Obj.cells #[] 250)):=(Below.refl _ _).alloc (Nat.le_refl _) _
 have HA:=hid ha
 have HB:=hid hb
 clear ha hb
 go_enter Tryz.func290, Tryz.ntmps290
 go_wp2_with fail
 refine (zdT a _ HA.out).mono ?_
 rintro e w1 ⟨rfl,hb⟩
 have hB1:=onS hB0 hb
 clear hb hB0
 go_wp2_with fail
 refine (zdT b _ HB.out).mono ?_
 rintro e w2 ⟨rfl,hb⟩
 have hB2:=onS hB1 hb
 clear hb hB1
 go_wp2_with fail
 refine (zg8 a b _ HA.out HB.out).mono ?_
 rintro e w3 ⟨rfl,hb⟩
 have hB3:=onS hB2 hb
 clear hb hB2
 obtain ⟨x,hx⟩:∃ x,x=capI a b:=⟨_,rfl⟩
 have HX:=hid hx
 rw [<-hx];clear hx
 go_wp2
 go_ret
 exact ⟨by rw [<-HX.out]; rfl,hB3⟩
def updI (x:Nat->Nat->Int) (v k:Nat) (y:Int):Nat->Nat->Int:=fun u j=>if u=v/\j=k then y else x u j
theorem zil (x:Nat->Nat->Int) (v k:Nat) (y:Int):updI x v k y v k=y:=if_pos ⟨rfl,rfl⟩
theorem zcY {x:Nat->Nat->Int} {v k u j:Nat} {y:Int} (h:¬ (u=v/\j=k)):updI x v k y u j=x u j:=if_neg h
def IntTab (w:World) (g base m:Nat) (F:Nat->Value) (n:Nat->Nat) (x:Nat->Nat->Int):Prop :=
 TabOwn w g base 22 3 1 m F n (fun v i _=>.int .i64 (x v i))
section
variable {w w':World} {g base m:Nat} {F:Nat->Value} {n n':Nat->Nat} {x x':Nat->Nat->Int}
theorem IntTab.on (h:IntTab w g base m F n x) (hb:Below w.heap.size w w'):IntTab w' g base m F n x:=⟨zaa h.row hb,fun v hv=>(h.own v hv).on hb,h.apart⟩
theorem IntTab.congr (h:IntTab w g base m F n x) (e1:∀ v,v<m->n v=n' v) (e2:∀ v,v<m->∀ k,k<n v->x v k=x' v k):IntTab w g base m F n' x' :=
 ⟨h.row,fun v hv=>by
  rw [<-e1 v hv]
  exact (h.own v hv).congr fun i hi j _=>by
   show Value.int .i64 (x v i)=.int .i64 (x' v i)
   rw [e2 v hv i hi],h.apart⟩
theorem IntTab.at (h:IntTab w g base m F n x) {v k:Nat} (hv:v<m) (hk:k<n v):∃ b o d,F v=.slice (some ⟨b,o,none⟩) (n v) d/\base<=b/\b<w.heap.size/\w.cell? ⟨b,o+k,none⟩=some (.int .i64 (x v k))/\w.frozen? ⟨b,o+k,none⟩=false:=by
 have h1:=h.own v hv
 obtain ⟨b,o,d,e,hb,hl,_,_,hc⟩:=h1.form (by omega)
 have hc0:=hc k hk 0 (by omega)
 rw [Nat.mul_one,Nat.add_zero] at hc0
 refine ⟨b,o,d,e,hb,hl,hc0,?_⟩
 rw [e] at h1
 exact h1.frozen (o+k)
theorem IntTab.set (h:IntTab w g base m F n x) (hgb:g<base) {v k b o d:Nat} {y:Int} (hv:v<m) (hk:k<n v) (hF:F v=.slice (some ⟨b,o,none⟩) (n v) d) :
  IntTab (w.setCell ⟨b,o+k,none⟩ (.int .i64 y)) g base m F n (updI x v k y):=by
 have hob:(F v).ownBlock=some b:=by rw [hF]; rfl
 have hbb:=(h.own v hv).lt b hob
 refine ⟨h.row.setOther (by simp; omega) _,fun u hu=>?_,h.apart⟩
 by_cases e:u=v
 ·subst e
  have k1:=h.own u hu
  rw [hF] at k1 ⊢
  have ks:=k1.set (a:=k) (b:=0) hk (by omega) (.int .i64 y)
  rw [Nat.mul_one,Nat.add_zero] at ks
  exact ks.congr fun i _ j hj=>by
   obtain rfl:j=0:=by omega
   show (if i=k/\0=0 then _ else _)=Value.int .i64 (updI x u k y u i)
   unfold updI
   by_cases ei:i=k
   ·rw [if_pos ⟨ei,rfl⟩,if_pos ⟨rfl,ei⟩]
   ·rw [if_neg fun hh=>ei hh.1,if_neg fun hh=>ei hh.2]
 ·have k1:=h.own u hu
  have hne:(F u).ownBlock≠some b:=fun hh=>by
   rcases h.apart u v hu hv e with h0 | h0
   ·rw [h0] at hh; cases hh
   ·rw [hob] at h0; exact h0 hh
  exact (k1.setCell (a:=⟨b,o+k,none⟩) hne _).congr fun i _ j _=>by
   show Value.int .i64 (x u i)=.int .i64 (updI x v k y u i)
   rw [zcY fun hh=>e hh.1]
theorem IntTab.put (h:IntTab w g base m F n x) (hgb:g<base) {v:Nat} (hv:v<m) {v':Value} {k':Nat} {y:Nat->Int} (hown:Own w' base 3 1 v' k' (fun i _=>.int .i64 (y i))) (hg:w.grownBy w' (F v).ownBlock) (hat:v'.ownBlock=(F v).ownBlock∨v'.ownBlock=some w.heap.size) :
  IntTab (w'.setCell ⟨g,v,none⟩ v') g base m (fun u=>if u=v then v' else F u) (fun u=>if u=v then k' else n u) (fun u=>if u=v then y else x u):=by
 have h1:=TabOwn.put h hgb hv hown hg hat
 refine ⟨h1.row,fun u hu=>?_,h1.apart⟩
 have h2:=h1.own u hu
 by_cases e:u=v
 ·simp only [if_pos e] at h2 ⊢
  exact h2
 ·simp only [if_neg e] at h2 ⊢
  exact h2
theorem IntTab.rows (h:IntTab w g base m F n x) (hx:∀ v,v<m->∀ k,k<n v -> -9223372036854775808<=x v k/\x v k<=9223372036854775807):IntRows w (some ⟨g,0,none⟩) m n x:=fun i hi=>by
 have h1:=h.own i hi
 obtain ⟨A,c,e⟩:=h1.shape
 have hc:=h.row.cell hi
 rw [e] at h1 hc
 exact ⟨g,0,A,c,rfl,h.row.lt,by rw [Nat.zero_add]; exact hc,h1.capL.1,h1.capL.2,h1.rd rfl,fun j hj=>hx i hi j hj⟩
end
theorem zbq {w:World} {g base m:Nat} {x:Nat->Nat->Int} (h:w.rowIs g 22 m (fun _=>.slice none 0 0)):IntTab w g base m (fun _=>.slice none 0 0) (fun _=>0) x :=
 ⟨h,fun _ _=>Own.nil _ _ _ _ _,fun _ _ _ _ _=>.inl rfl⟩
theorem zaC {ops:Array Oper} {o:Oper} {a:Act} {w:World} {K:Act->World->Prop} {Q:Exit->Act->World->Prop} {E:Prop} (hgd:o.guard=none) (sl y:Operand)
  (ho:o.op=.call { callee:=.builtin .append,args:=#[sl,y],argTypes:=#[22, 22] })
  (base:Nat) (v:Value) (k:Nat) (x:Nat->Int) (hv:a.eval sl=v) (h:Own w base 3 1 v k (fun i _=>.int .i64 (x i))) (hbase:base<=w.heap.size) (hk:k<=1048576)
  (b c:Nat) (hy:a.eval y=.slice (some ⟨b,0,none⟩) 1 c) (c0:w.cell? ⟨b,0,none⟩=some (.int .i64 (x k)))
  (hK:∀ v' w',Own w' base 3 1 v' (k+1) (fun i _=>.int .i64 (x i))->w.grownBy w' v.ownBlock->(v'.ownBlock=v.ownBlock∨v'.ownBlock=some w.heap.size)->K (a.put o.dst v') w') :
  if Region.wanted o (yielded ops a.tmps)=true then Oper.wp Tryz.prog o a w K Q else E:=by
 obtain ⟨i0,qi0,qz0,qz1,qz2⟩:=info_parts Tryz.infoInt
 exact zc0 w hgd sl y _ ho base 3 i0 _ 1 8 Tryz.underlying22 qi0 qz0 qz1 qz2 rfl (by omega) v k _ hv h ⟨b,0,none⟩ c hy (fun j hj=>by
   obtain rfl:j=0:=by omega
   exact c0) (fun _ _=>rfl) (by unfold maxLen; omega) (by omega) hbase hK
def Trel.bwE (T:Trel) (y:Nat->Nat->Int) (next:Nat->Int) (i:Nat):Nat->Nat->Int
 | 0,_=>4611686018427387904
 | j+1,v=>if (T.fr i j).toNat=v then min (T.bwE y next i j v) (capI (y i j) (next (T.to i j).toNat)) else T.bwE y next i j v
def Trel.bw (T:Trel) (y:Nat->Nat->Int):Nat->Nat->Int
 | 0,v=>if v=0 then 0 else 4611686018427387904
 | r+1,v=>T.bwE y (T.bw y r) (T.n - (r+1)) (T.el (T.n - (r+1))) v
def Trel.bwX (T:Trel) (y:Nat->Nat->Int) (i j u v:Nat):Int:=if i<u then T.bw y (T.n - u) v else if u=i then T.bwE y (T.bw y (T.n - (i+1))) i j v else 4611686018427387904
def Costs (T:Trel) (y:Nat->Nat->Int):Prop:=∀ i,i<T.n->∀ j,j<T.el i->0<=y i j/\y i j<=2147483648
section
variable {T:Trel} {y:Nat->Nat->Int}
theorem Trel.bwE_cost {next:Nat->Int} {i:Nat} (hn:∀ v,Cost (next v)):∀ j,(∀ q,q<j->Cost (y i q))->∀ v,Cost (T.bwE y next i j v):=by
 intro j
 induction j with
 | zero=>intro _ v; show Cost 4611686018427387904; unfold Cost; omega
 | succ j ih =>
  intro hy v
  have h1:=ih (fun q hq=>hy q (by omega)) v
  show Cost (if _ then _ else _)
  split
  ·exact zi1 h1 (zfs (hy j (by omega)) (hn _))
  ·exact h1
theorem Costs.cost (h:Costs T y) {i j:Nat} (hi:i<T.n) (hj:j<T.el i):Cost (y i j):=by
 have:=h i hi j hj
 unfold Cost
 omega
theorem Trel.bw_cost (h:Costs T y):∀ r,r<=T.n->∀ v,Cost (T.bw y r v):=by
 intro r
 induction r with
 | zero=>intro _ v; show Cost (if v=0 then 0 else _); unfold Cost; split <;> omega
 | succ r ih =>
  intro hr v
  exact Trel.bwE_cost (ih (by omega)) _ (fun q hq=>h.cost (by omega) hq) v
theorem Trel.bwX_cost (h:Costs T y) {i j:Nat} (hi:i<T.n) (hj:j<=T.el i) (u v:Nat):Cost (T.bwX y i j u v):=by
 unfold Trel.bwX
 split
 ·exact Trel.bw_cost h _ (by omega) _
 ·split
  ·exact Trel.bwE_cost (Trel.bw_cost h _ (by omega)) _ (fun q hq=>h.cost hi (by omega)) _
  ·unfold Cost; omega
theorem Trel.bwX_put (i j u v:Nat) {fn tn:Nat} (hf:(T.fr i j).toNat=fn) (ht:(T.to i j).toNat=tn) :
  (fun u' j'=>if u'=i/\j'=fn then min (T.bwX y i j i fn) (capI (y i j) (T.bwX y i j (i+1) tn)) else T.bwX y i j u' j') u v=T.bwX y i (j+1) u v:=by
 have e1:T.bwX y i j i fn=T.bwE y (T.bw y (T.n - (i+1))) i j fn:=by
  unfold Trel.bwX
  rw [if_neg (by omega),if_pos rfl]
 have e2:T.bwX y i j (i+1) tn=T.bw y (T.n - (i+1)) tn:=by
  unfold Trel.bwX
  rw [if_pos (by omega)]
 simp only [e1,e2]
 by_cases h:i<u
 ·rw [if_neg (by omega)]
  unfold Trel.bwX
  rw [if_pos h,if_pos h]
 ·by_cases h2:u=i
  ·subst h2
   have e3:T.bwX y u (j+1) u v=if (T.fr u j).toNat=v then min (T.bwE y (T.bw y (T.n - (u+1))) u j v) (capI (y u j) (T.bw y (T.n - (u+1)) (T.to u j).toNat)) else T.bwE y (T.bw y (T.n - (u+1))) u j v:=by
    show (if u<u then _ else if u=u then T.bwE y (T.bw y (T.n - (u+1))) u (j+1) v else _)=_
    rw [if_neg (by omega),if_pos rfl]
    rfl
   rw [e3,hf,ht]
   by_cases h3:v=fn
   ·subst h3
    rw [if_pos ⟨rfl,rfl⟩,if_pos rfl]
   ·rw [if_neg fun hh=>h3 hh.2,if_neg fun hh=>h3 hh.symm]
    unfold Trel.bwX
    rw [if_neg (by omega),if_pos rfl]
  ·rw [if_neg fun hh=>h2 hh.1]
   unfold Trel.bwX
   rw [if_neg h,if_neg h2,if_neg h,if_neg h2]
theorem Trel.bwX_next {i:Nat} (hi:i<T.n) (u v:Nat):T.bwX y i (T.el i) u v=if i<=u then T.bw y (T.n - u) v else 4611686018427387904:=by
 unfold Trel.bwX
 by_cases h:i<u
 ·rw [if_pos h,if_pos (by omega)]
 ·rw [if_neg h]
  by_cases h2:u=i
  ·subst h2
   rw [if_pos rfl,if_pos (Nat.le_refl _)]
   have e:T.n - u=(T.n - (u+1))+1:=by omega
   rw [e]
   show _=T.bwE y (T.bw y (T.n - (u+1))) (T.n - (T.n - (u+1)+1)) (T.el (T.n - (T.n - (u+1)+1))) v
   rw [show T.n - (T.n - (u+1)+1)=u by omega]
  ·rw [if_neg h2,if_neg (by omega)]
theorem Trel.bwX_first {i:Nat} (u v:Nat):T.bwX y i 0 u v=if i+1<=u then T.bw y (T.n - u) v else 4611686018427387904:=by
 unfold Trel.bwX
 by_cases h:i<u
 ·rw [if_pos h,if_pos (by omega)]
 ·rw [if_neg h,if_neg (show ¬ i+1<=u by omega)]
  split
  ·rfl
  ·rfl
end
def ITabPost (T:Trel) (x:Nat->Nat->Int) (w:World) (e:Ending) (w':World):Prop :=
 ∃ g F,e=.returned (.slice (some ⟨g,0,none⟩) T.nw T.nw)/\w.heap.size<=g/\IntTab w' g (g+1) T.nw F (fun v=>(T.W v).toNat) x/\Below w.heap.size w w'
theorem zhW (T:Trel) (A B:Option Addr) (c d:Nat) (w:World) (h:T.Reads w A B) (hs:T.Shape) :
  Calls Tryz.prog 264 #[.agg #[],.agg #[.slice A T.nw c,.slice B T.n d]] w (ITabPost T (fun _ _=>4611686018427387904) w):=by
 obtain ⟨O1,hO1⟩:∃ o,o=(Obj.cells #[] 250):=⟨_,rfl⟩
 obtain ⟨O2,hO2⟩:∃ o,o=(Obj.cells #[.slice A T.nw c,.slice B T.n d] 74):=⟨_,rfl⟩
 have hB0:Below (w.heap.size+2) ((w.alloc O1).alloc O2) ((w.alloc O1).alloc O2):=Below.refl _ _
 have HS:Hid (∀ w',Below (w.heap.size+2) ((w.alloc O1).alloc O2) w'->(w'.cell? ⟨w.heap.size+1,0,none⟩=some (.slice A T.nw c)/\w'.cell? ⟨w.heap.size+1,1,none⟩=some (.slice B T.n d))/\Below w.heap.size w w'):=fun w' hB=>by
  have hB':=zb6 hB
  subst hO2
  have hr:=zcG hB
  exact ⟨⟨hr.cell (i:=0) (by simp),hr.cell (i:=1) (by simp)⟩,hB'⟩
 obtain ⟨⟨p0,p1⟩,hW⟩:=HS.out _ hB0
 have hn64:=hs.n64
 have hnw:=hs.nw
 have hmk:=fun W=>zaf (P:=Tryz.prog) 25 22 _ 24 Tryz.underlying25 Tryz.infoInts rfl (T.nw:Int) (by omega) (by omega) (by omega) W
 simp only [Int.toNat_natCast] at hmk
 have HR:=hid h
 have HSH:=hid hs
 have hnw65:T.nw<=65:=by omega
 clear h hs hnw
 go_enter Tryz.func264, Tryz.ntmps264
 go_wp2_with fail
 rw [<-hO1,<-hO2]
 go_upto_region 2 with fail
 obtain ⟨W2,hW2⟩:∃ W,W=(w.alloc O1).alloc O2:=⟨_,rfl⟩
 have hsz2:W2.heap.size=w.heap.size+2:=by rw [hW2]; simp
 have HS2:Hid (∀ w',Below (w.heap.size+2) W2 w'->(w'.cell? ⟨w.heap.size+1,0,none⟩=some (.slice A T.nw c)/\w'.cell? ⟨w.heap.size+1,1,none⟩=some (.slice B T.n d))/\Below w.heap.size w w'):=by rw [hW2]; exact HS
 rw [<-hW2] at hB0 ⊢
 obtain ⟨g,hg⟩:∃ g,g=w.heap.size+1+1:=⟨_,rfl⟩
 have hgz:g=W2.heap.size:=by omega
 have hr3:=World.rowIs_made W2 (.slice none 0 0) T.nw 22
 have hB3:=zai hB0 (Nat.le_of_eq hsz2.symm) ((Below.refl W2.heap.size W2).alloc (Nat.le_refl _) (Obj.cells (madeCells #[Value.slice none 0 0] T.nw) 22))
 have hl3:w.heap.size+2<(W2.alloc (Obj.cells (madeCells #[Value.slice none 0 0] T.nw) 22)).heap.size:=by simp; omega
 obtain ⟨W3,hW3⟩:∃ W,W=W2.alloc (Obj.cells (madeCells #[Value.slice none 0 0] T.nw) 22):=⟨_,rfl⟩
 rw [<-hgz] at hr3;rw [<-hW3] at hr3 hB3 hl3 ⊢;rw [<-hg]
 have hT3:IntTab W3 g (g+1) T.nw (fun _=>.slice none 0 0) (fun v=>if v<0 then (T.W v).toNat else 0) (fun _ _=>4611686018427387904):=(zbq hr3).congr (fun v _=>(if_neg (by omega)).symm) (fun v _ k hk=>rfl)
 have hg2:w.heap.size+2<=g:=by omega
 clear hW3 hgz hg hr3 hW2 HS hB0 hmk hO1 hO2 hsz2
 go_loopg [15] T.nw (fun gg iv wx=>∃ (k:Nat) (F:Nat->Value),iv=.int .i64 (k:Nat)/\k<=T.nw/\T.nw<=k+gg/\IntTab wx g (g+1) T.nw F (fun v=>if v<k then (T.W v).toNat else 0) (fun _ _=>4611686018427387904)/\Below (w.heap.size+2) W2 wx/\w.heap.size+2<wx.heap.size)
 case atStart=>exact ⟨0,_,rfl,by omega,by omega,hT3,hB3,hl3⟩
 case round =>
  clear hW p0 p1 hT3 hB3 hl3
  obtain ⟨gK,hgK⟩:∃ g,g=gk:=⟨_,rfl⟩
  subst hgK
  obtain ⟨k,F,rfl,hk,hkg,hT,hB,hl⟩:=hrel
  obtain ⟨wk,hwk⟩:∃ W,W=wr:=⟨_,rfl⟩
  subst hwk
  have hk0:(0:Int)<=(k:Int):=by omega
  obtain ⟨⟨p0,p1⟩,hW⟩:=HS2.out _ hB
  by_cases hlt:k<T.nw
  ·have hlt':(k:Int)<(T.nw:Int):=by omega
   obtain ⟨wb,wo,rfl,hwb,y0,hy1,hy2⟩:=(HR.out.on hW).width hlt
   have hwid:=HSH.out.wid (i:=k) (by have:=HSH.out.nw; omega)
   obtain ⟨n1,hn1⟩:∃ n:Nat,(n:Int)=T.W k:=⟨(T.W k).toNat,by omega⟩
   rw [<-hn1] at y0 hwid
   have HN1:=hid hn1
   clear hn1 hy1 hy2
   have hT0:IntTab wk g (g+1) T.nw F (fun v=>if v<k then (T.W v).toNat else if v=k then 0 else 0) (fun _ _=>4611686018427387904):=hT.congr (fun v _=>by split <;> simp) (fun v _ q hq=>rfl)
   clear hT
   go_wp2
   go_loopg [21] n1 (fun gg jv wx=>∃ (j:Nat) (F:Nat->Value),jv=.int .i64 (j:Nat)/\j<=n1/\n1<=j+gg/\IntTab wx g (g+1) T.nw F (fun v=>if v<k then (T.W v).toNat else if v=k then j else 0) (fun _ _=>4611686018427387904)/\Below (w.heap.size+2) W2 wx/\w.heap.size+2<wx.heap.size)
   case atStart=>exact ⟨0,F,rfl,by omega,by omega,hT0,hB,hl⟩
   case round =>
    clear hW p0 p1 hT0 hB hl y0
    obtain ⟨j,F2,rfl,hj,hjg,hT,hB,hl⟩:=hrel
    have hj0:(0:Int)<=(j:Int):=by omega
    obtain ⟨⟨p0,p1⟩,hW⟩:=HS2.out _ hB
    by_cases hltj:j<n1
    ·have hltj':(j:Int)<(n1:Int):=by omega
     obtain ⟨fk,hfk⟩:∃ v,v=F2 k:=⟨_,rfl⟩
     have q0:wr.cell? ⟨g,k,none⟩=some fk:=by rw [hfk]; exact hT.row.cell hlt
     have HFK:=hid hfk
     clear hfk p0 p1 hW
     rename World=>w50
     go_upto_region 7 with fail
     refine wp_region_held_drew (S:=fun _=>True) (by kernel_rfl) trivial (fun hHeld=>?_)
     obtain ⟨w51,hw⟩:∃ W,W=World.drew w50:=⟨_,rfl⟩
     have kb:Below w50.heap.size w50 w51:=by rw [hw]; exact (Below.refl _ _).drew
     rw [<-hw];clear hw;replace hB:=zai hB (Nat.le_of_lt hl) kb;replace hl:=Nat.lt_of_lt_of_le hl kb.size;replace hT:=hT.on kb;replace q0:=cellS kb q0;clear kb
     refine tkq 0 (h:=tkq 1 (h:=tkq 2 (h:=tkq 3 (h:=tkq 4 (h:=tkq 6 (h:=tkq 7 (h:=?_)))))))
     refine rdq2 5 8 (h:=fun K hK=>?_) (h2:=fun K hK=>?_)
     ·go_simp
      refine bkq hK trivial (h:=fun hHeld=>?_)
      clear hK K
      refine rdq 8 (h:=fun K hK=>?_)
      go_simp
      go_wp2_with fail
      refine (zev w51).mono ?_
      rintro e w52 ⟨rfl,kb⟩
      replace hB:=zai hB (Nat.le_of_lt hl) kb;replace hl:=Nat.lt_of_lt_of_le hl kb.size;replace hT:=hT.on kb;replace q0:=cellS kb q0;clear kb
      refine bkq hK trivial (h:=fun hHeld=>?_)
      clear hK K
      refine rdq 9 (h:=fun K hK=>?_)
      go_simp
      obtain ⟨w53,hw⟩:∃ W,W=World.alloc w52 (Obj.cells #[Value.int .i64 4611686018427387904] 3):=⟨_,rfl⟩
      have kb:Below w52.heap.size w52 w53:=by rw [hw]; exact (Below.refl _ _).alloc (Nat.le_refl _) _
      have n1c:w53.cell? ⟨w52.heap.size,0,none⟩=some (Value.int .i64 4611686018427387904):=by rw [hw]; simp
      rw [<-hw];clear hw
      obtain ⟨nb_n1c,hnb⟩:∃ b,b=w52.heap.size:=⟨_,rfl⟩
      rw [<-hnb] at n1c ⊢;clear hnb;replace hB:=zai hB (Nat.le_of_lt hl) kb;replace hl:=Nat.lt_of_lt_of_le hl kb.size;replace hT:=hT.on kb;replace q0:=cellS kb q0;clear kb
      refine bkq hK trivial (h:=fun hHeld=>?_)
      clear hK K
      refine rdq 10 (h:=fun K hK=>?_)
      have hOwn:Own w53 (g+1) 3 1 fk j (fun _ _=>.int .i64 4611686018427387904):=by
       have:=hT.own k hlt
       rw [if_neg (Nat.lt_irrefl k),if_pos rfl,<-HFK.out] at this
       exact this
      have hgl:g+1<=w53.heap.size:=hT.row.lt
      refine zaC (by rfl) (.tmp 28) (.tmp 32) (by rfl) (g+1) fk j (fun _=>4611686018427387904) (by rfl) hOwn hgl (by omega) nb_n1c 1 (by rfl) n1c ?_
      intro v9 w9 o1 o2 o3
      obtain ⟨A9,c9,hv9⟩:=o1.shape
      subst hv9
      have hfo:∀ q,fk.ownBlock=some q->g+1<=q:=fun q e=>(hOwn.lt q e).1
      have q9:w9.cell? ⟨g,k,none⟩=some fk:=zaB q0 o2 fun e=>by have:=hfo g e; omega
      have z9:w9.frozen? ⟨g,k,none⟩=false:=by
       have:=(hT.row.of_block (o2.block g hT.row.lt fun e=>by have:=hfo g e.symm; omega)).frozen k
       exact this
      have hB9:Below (w.heap.size+2) W2 w9:=hB.grown o2 (Nat.le_of_lt hl) fun q e=>by have:=hfo q e; omega
      have hl9:w.heap.size+2<w9.heap.size:=Nat.lt_of_lt_of_le hl o2.size
      have hPut:=hid (hT.put (by omega) hlt o1 (by rw [<-HFK.out]; exact o2) (by rw [<-HFK.out]; exact o3))
      refine bkq hK trivial (h:=fun hHeld=>?_)
      clear hK K
      refine tkq 11 (h:=?_)
      refine rdq 12 (h:=fun K hK=>?_)
      go_simp
      refine bkq hK trivial (h:=fun hHeld=>?_)
      clear hK K
      refine wpAnyH_done (by kernel_rfl) ?_ _
      clear hHeld
      have hN:=hPut.out.congr (n':=fun v=>if v<k then (T.W v).toNat else if v=k then j+1 else 0) (x':=fun _ _=>4611686018427387904) (fun v _=>by
        by_cases e:v=k
        ·subst e; simp
        ·simp [e]) (fun v _ q hq=>by split <;> rfl)
      have HN:=hid hN
      have hBf:=hB9.setCell (p:=⟨g,k,none⟩) hg2 (.slice A9 (j+1) c9)
      have hlf:w.heap.size+2<(w9.setCell ⟨g,k,none⟩ (.slice A9 (j+1) c9)).heap.size:=by simp; exact hl9
      clear hPut hN q9 z9 hB9
      go_wp2
      go_roundg (gk - 1)
      case measure=>omega
      case rel=>exact ⟨j+1,_,by go_num,by omega,by omega,HN.out,hBf,hlf⟩
     ·go_simp
      go_wp2_with fail
      refine (zev w51).mono ?_
      rintro e w52 ⟨rfl,kb⟩
      replace hB:=zai hB (Nat.le_of_lt hl) kb;replace hl:=Nat.lt_of_lt_of_le hl kb.size;replace hT:=hT.on kb;replace q0:=cellS kb q0;clear kb
      refine bkq hK trivial (h:=fun hHeld=>?_)
      clear hK K
      refine rdq2 5 9 (h:=fun K hK=>?_) (h2:=fun K hK=>?_)
      ·go_simp
       refine bkq hK trivial (h:=fun hHeld=>?_)
       clear hK K
       refine rdq 9 (h:=fun K hK=>?_)
       go_simp
       obtain ⟨w53,hw⟩:∃ W,W=World.alloc w52 (Obj.cells #[Value.int .i64 4611686018427387904] 3):=⟨_,rfl⟩
       have kb:Below w52.heap.size w52 w53:=by rw [hw]; exact (Below.refl _ _).alloc (Nat.le_refl _) _
       have n1c:w53.cell? ⟨w52.heap.size,0,none⟩=some (Value.int .i64 4611686018427387904):=by rw [hw]; simp
       rw [<-hw];clear hw
       obtain ⟨nb_n1c,hnb⟩:∃ b,b=w52.heap.size:=⟨_,rfl⟩
       rw [<-hnb] at n1c ⊢;clear hnb;replace hB:=zai hB (Nat.le_of_lt hl) kb;replace hl:=Nat.lt_of_lt_of_le hl kb.size;replace hT:=hT.on kb;replace q0:=cellS kb q0;clear kb
       refine bkq hK trivial (h:=fun hHeld=>?_)
       clear hK K
       refine rdq 10 (h:=fun K hK=>?_)
       have hOwn:Own w53 (g+1) 3 1 fk j (fun _ _=>.int .i64 4611686018427387904):=by
        have:=hT.own k hlt
        rw [if_neg (Nat.lt_irrefl k),if_pos rfl,<-HFK.out] at this
        exact this
       have hgl:g+1<=w53.heap.size:=hT.row.lt
       refine zaC (by rfl) (.tmp 28) (.tmp 32) (by rfl) (g+1) fk j (fun _=>4611686018427387904) (by rfl) hOwn hgl (by omega) nb_n1c 1 (by rfl) n1c ?_
       intro v9 w9 o1 o2 o3
       obtain ⟨A9,c9,hv9⟩:=o1.shape
       subst hv9
       have hfo:∀ q,fk.ownBlock=some q->g+1<=q:=fun q e=>(hOwn.lt q e).1
       have q9:w9.cell? ⟨g,k,none⟩=some fk:=zaB q0 o2 fun e=>by have:=hfo g e; omega
       have z9:w9.frozen? ⟨g,k,none⟩=false:=by
        have:=(hT.row.of_block (o2.block g hT.row.lt fun e=>by have:=hfo g e.symm; omega)).frozen k
        exact this
       have hB9:Below (w.heap.size+2) W2 w9:=hB.grown o2 (Nat.le_of_lt hl) fun q e=>by have:=hfo q e; omega
       have hl9:w.heap.size+2<w9.heap.size:=Nat.lt_of_lt_of_le hl o2.size
       have hPut:=hid (hT.put (by omega) hlt o1 (by rw [<-HFK.out]; exact o2) (by rw [<-HFK.out]; exact o3))
       refine bkq hK trivial (h:=fun hHeld=>?_)
       clear hK K
       refine tkq 11 (h:=?_)
       refine rdq 12 (h:=fun K hK=>?_)
       go_simp
       refine bkq hK trivial (h:=fun hHeld=>?_)
       clear hK K
       refine wpAnyH_done (by kernel_rfl) ?_ _
       clear hHeld
       have hN:=hPut.out.congr (n':=fun v=>if v<k then (T.W v).toNat else if v=k then j+1 else 0) (x':=fun _ _=>4611686018427387904) (fun v _=>by
         by_cases e:v=k
         ·subst e; simp
         ·simp [e]) (fun v _ q hq=>by split <;> rfl)
       have HN:=hid hN
       have hBf:=hB9.setCell (p:=⟨g,k,none⟩) hg2 (.slice A9 (j+1) c9)
       have hlf:w.heap.size+2<(w9.setCell ⟨g,k,none⟩ (.slice A9 (j+1) c9)).heap.size:=by simp; exact hl9
       clear hPut hN q9 z9 hB9
       go_wp2
       go_roundg (gk - 1)
       case measure=>omega
       case rel=>exact ⟨j+1,_,by go_num,by omega,by omega,HN.out,hBf,hlf⟩
      ·go_simp
       obtain ⟨w53,hw⟩:∃ W,W=World.alloc w52 (Obj.cells #[Value.int .i64 4611686018427387904] 3):=⟨_,rfl⟩
       have kb:Below w52.heap.size w52 w53:=by rw [hw]; exact (Below.refl _ _).alloc (Nat.le_refl _) _
       have n1c:w53.cell? ⟨w52.heap.size,0,none⟩=some (Value.int .i64 4611686018427387904):=by rw [hw]; simp
       rw [<-hw];clear hw
       obtain ⟨nb_n1c,hnb⟩:∃ b,b=w52.heap.size:=⟨_,rfl⟩
       rw [<-hnb] at n1c ⊢;clear hnb;replace hB:=zai hB (Nat.le_of_lt hl) kb;replace hl:=Nat.lt_of_lt_of_le hl kb.size;replace hT:=hT.on kb;replace q0:=cellS kb q0;clear kb
       refine bkq hK trivial (h:=fun hHeld=>?_)
       clear hK K
       refine rdq 5 (h:=fun K hK=>?_)
       go_simp
       refine bkq hK trivial (h:=fun hHeld=>?_)
       clear hK K
       refine rdq 10 (h:=fun K hK=>?_)
       have hOwn:Own w53 (g+1) 3 1 fk j (fun _ _=>.int .i64 4611686018427387904):=by
        have:=hT.own k hlt
        rw [if_neg (Nat.lt_irrefl k),if_pos rfl,<-HFK.out] at this
        exact this
       have hgl:g+1<=w53.heap.size:=hT.row.lt
       refine zaC (by rfl) (.tmp 28) (.tmp 32) (by rfl) (g+1) fk j (fun _=>4611686018427387904) (by rfl) hOwn hgl (by omega) nb_n1c 1 (by rfl) n1c ?_
       intro v9 w9 o1 o2 o3
       obtain ⟨A9,c9,hv9⟩:=o1.shape
       subst hv9
       have hfo:∀ q,fk.ownBlock=some q->g+1<=q:=fun q e=>(hOwn.lt q e).1
       have q9:w9.cell? ⟨g,k,none⟩=some fk:=zaB q0 o2 fun e=>by have:=hfo g e; omega
       have z9:w9.frozen? ⟨g,k,none⟩=false:=by
        have:=(hT.row.of_block (o2.block g hT.row.lt fun e=>by have:=hfo g e.symm; omega)).frozen k
        exact this
       have hB9:Below (w.heap.size+2) W2 w9:=hB.grown o2 (Nat.le_of_lt hl) fun q e=>by have:=hfo q e; omega
       have hl9:w.heap.size+2<w9.heap.size:=Nat.lt_of_lt_of_le hl o2.size
       have hPut:=hid (hT.put (by omega) hlt o1 (by rw [<-HFK.out]; exact o2) (by rw [<-HFK.out]; exact o3))
       refine bkq hK trivial (h:=fun hHeld=>?_)
       clear hK K
       refine tkq 11 (h:=?_)
       refine rdq 12 (h:=fun K hK=>?_)
       go_simp
       refine bkq hK trivial (h:=fun hHeld=>?_)
       clear hK K
       refine wpAnyH_done (by kernel_rfl) ?_ _
       clear hHeld
       have hN:=hPut.out.congr (n':=fun v=>if v<k then (T.W v).toNat else if v=k then j+1 else 0) (x':=fun _ _=>4611686018427387904) (fun v _=>by
         by_cases e:v=k
         ·subst e; simp
         ·simp [e]) (fun v _ q hq=>by split <;> rfl)
       have HN:=hid hN
       have hBf:=hB9.setCell (p:=⟨g,k,none⟩) hg2 (.slice A9 (j+1) c9)
       have hlf:w.heap.size+2<(w9.setCell ⟨g,k,none⟩ (.slice A9 (j+1) c9)).heap.size:=by simp; exact hl9
       clear hPut hN q9 z9 hB9
       go_wp2
       go_roundg (gk - 1)
       case measure=>omega
       case rel=>exact ⟨j+1,_,by go_num,by omega,by omega,HN.out,hBf,hlf⟩
    ·have hltj':¬ (j:Int)<(n1:Int):=by omega
     have hje:j=n1:=by omega
     have hT1:Hid (IntTab wr g (g+1) T.nw F2 (fun v=>if v<k+1 then (T.W v).toNat else 0) (fun _ _=>4611686018427387904)):=hT.congr (fun v _=>by
      by_cases e:v<k
      ·rw [if_pos e,if_pos (by omega)]
      ·rw [if_neg e]
       by_cases e2:v=k
       ·subst e2
        rw [if_pos rfl,if_pos (by omega),hje]
        have:=HN1.out
        omega
       ·rw [if_neg e2,if_neg (by omega)]) (fun v _ q hq=>rfl)
     have HB:=hid hB
     clear hT hB hje
     go_wp2
     go_roundg (gK - 1)
     case measure=>omega
     case rel=>exact ⟨k+1,F2,by go_num,by omega,by omega,hT1.out,HB.out,hl⟩
  ·have hlt':¬ (k:Int)<(T.nw:Int):=by omega
   have hTf:Hid (IntTab wk g (g+1) T.nw F (fun v=>(T.W v).toNat) (fun _ _=>4611686018427387904)):=hT.congr (fun v hv=>if_pos (by omega)) (fun v _ q hq=>rfl)
   clear hT
   go_wp2
   go_ret
   exact ⟨g,F,rfl,by omega,hTf.out,hW⟩
theorem zfY (T:Trel) (A B V:Option Addr) (c d vc:Nat) (y:Nat->Nat->Int) (w:World) (h:T.Reads w A B) (hs:T.shapeE=0) (hv:IntRows w V T.n T.el y) :
  Calls Tryz.prog 263 #[.agg #[.slice A T.nw c,.slice B T.n d],.slice V T.n vc] w fun e w'=>e=.returned (.int .i64 0)/\Below w.heap.size w w':=by
 obtain ⟨RB,hRB⟩:∃ o,o=(Obj.cells #[.slice A T.nw c,.slice B T.n d] 74):=⟨_,rfl⟩
 have hB0:Below (w.heap.size+1) (w.alloc RB) (w.alloc RB):=Below.refl _ _
 have HS:Hid (∀ w',Below (w.heap.size+1) (w.alloc RB) w'->(w'.cell? ⟨w.heap.size,0,none⟩=some (.slice A T.nw c)/\w'.cell? ⟨w.heap.size,1,none⟩=some (.slice B T.n d))/\Below w.heap.size w w'):=fun w' hB=>by
  have hB':=zay hB
  subst hRB
  exact ⟨⟨tbox hB rfl,tbox hB rfl⟩,hB'⟩
 obtain ⟨⟨p0,p1⟩,hW⟩:=HS.out _ hB0
 go_enter Tryz.func263, Tryz.ntmps263
 go_wp2_with fail
 rw [<-hRB]
 refine (zcV T A B c d _ (h.on hW)).mono ?_
 rintro e w1 ⟨rfl,hb⟩
 have hB1:=zaI hB0 hb
 rw [hs]
 have HR:=hid h
 have HV:=hid hv
 have hn64:=(Trel.shape_of hs).n64
 clear hW p0 p1 hb hB0 hRB h hv hs
 obtain ⟨⟨p0,p1⟩,hW⟩:=HS.out _ hB1
 go_wp2
 go_loopg [22] T.n (fun gg iv wx=>∃ k:Nat,iv=.int .i64 (k:Nat)/\k<=T.n/\T.n<=k+gg/\Below w1.heap.size w1 wx)
 case atStart=>exact ⟨0,rfl,by omega,by omega,Below.refl _ _⟩
 case round =>
  obtain ⟨k,rfl,hk,hkg,hb⟩:=hrel
  have hk0:(0:Int)<=(k:Int):=by omega
  replace p0:=cellS hb p0;replace p1:=cellS hb p1
  have hWr:=onS hW hb
  clear hW
  by_cases hlt:k<T.n
  ·have hlt':(k:Int)<(T.n:Int):=by omega
   obtain ⟨b,o,E,ec,rfl,_,x0,_,_,_,_⟩:=(HR.out.on hWr).sec hlt
   obtain ⟨vb,vo,R,rc,rfl,_,x1,_,_,_,_⟩:=(HV.out.on hWr) k hlt
   have hne:((T.el k:Int) != (T.el k:Int))=false:=by simp
   go_wp2
   go_roundg (gk - 1)
   case measure=>omega
   case rel=>exact ⟨k+1,by go_num,by omega,by omega,hb⟩
  ·have hlt':¬ (k:Int)<(T.n:Int):=by omega
   go_wp2
   go_ret
   exact ⟨rfl,hWr⟩
def BwdPost (T:Trel) (x:Nat->Nat->Int) (w:World) (e:Ending) (w':World):Prop :=
 ∃ g F,e=.returned (.tuple #[.slice (some ⟨g,0,none⟩) T.nw T.nw,.int .i64 0])/\w.heap.size<=g/\IntTab w' g (g+1) T.nw F (fun v=>(T.W v).toNat) x/\Below w.heap.size w w'
theorem zhX (T:Trel) (A B V:Option Addr) (c d vc:Nat) (y:Nat->Nat->Int) (w:World) (h:T.Reads w A B) (hs:T.shapeE=0) (hv:IntRows w V T.n T.el y) (hy:Costs T y) :
  Calls Tryz.prog 245 #[.agg #[],.agg #[.slice A T.nw c,.slice B T.n d],.slice V T.n vc] w (BwdPost T (fun u v=>T.bw y (T.n - u) v) w):=by
 obtain ⟨O1,hO1⟩:∃ o,o=(Obj.cells #[] 250):=⟨_,rfl⟩
 obtain ⟨O2,hO2⟩:∃ o,o=(Obj.cells #[.slice A T.nw c,.slice B T.n d] 74):=⟨_,rfl⟩
 have hB0:Below (w.heap.size+2) ((w.alloc O1).alloc O2) ((w.alloc O1).alloc O2):=Below.refl _ _
 have HS:Hid (∀ w',Below (w.heap.size+2) ((w.alloc O1).alloc O2) w'->(w'.cell? ⟨w.heap.size+1,0,none⟩=some (.slice A T.nw c)/\w'.cell? ⟨w.heap.size+1,1,none⟩=some (.slice B T.n d))/\Below w.heap.size w w'):=fun w' hB=>by
  have hB':=zb6 hB
  subst hO2
  have hr:=zcG hB
  exact ⟨⟨hr.cell (i:=0) (by simp),hr.cell (i:=1) (by simp)⟩,hB'⟩
 obtain ⟨⟨p0,p1⟩,hW⟩:=HS.out _ hB0
 have HSH:=hid (Trel.shape_of hs)
 have HSE:=hid hs
 have HR:=hid h
 have HV:=hid hv
 have HY:=hid hy
 clear h hs hv hy
 go_enter Tryz.func245, Tryz.ntmps245
 go_wp2_with fail
 rw [<-hO1,<-hO2]
 refine (zfY T A B V c d vc y _ (HR.out.on hW) HSE.out (HV.out.on hW)).mono ?_
 rintro e w1 ⟨rfl,kb⟩
 have hB1:=zfS hB0 kb
 clear p0 p1 hW kb hB0 hO1 hO2
 obtain ⟨⟨p0,p1⟩,hW⟩:=HS.out _ hB1
 go_wp2_with fail
 refine (zhW T A B c d _ (HR.out.on hW) HSH.out).mono ?_
 rintro e w2 ⟨g,F,rfl,hg,hT,kb⟩
 have hB2:=zfS hB1 kb
 have hl1:=zhQ hB1
 have hg2:w.heap.size+2<=g:=by omega
 have hl2:w.heap.size+2<w2.heap.size:=by have:=hT.row.lt; omega
 obtain ⟨W2,hW2⟩:∃ W,W=(w.alloc O1).alloc O2:=⟨_,rfl⟩
 have HS2:Hid (∀ w',Below (w.heap.size+2) W2 w'->(w'.cell? ⟨w.heap.size+1,0,none⟩=some (.slice A T.nw c)/\w'.cell? ⟨w.heap.size+1,1,none⟩=some (.slice B T.n d))/\Below w.heap.size w w'):=by rw [hW2]; exact HS
 rw [<-hW2] at hB2;clear p0 p1 hW kb hB1 hl1 hg hW2 HS
 obtain ⟨⟨p0,p1⟩,hW⟩:=HS2.out _ hB2
 have hn64:=HSH.out.n64
 have HNW:=hid HSH.out.nw
 have hnw0:T.n<T.nw:=by have:=HNW.out; omega
 have hnw0':(T.n:Int)<(T.nw:Int):=by omega
 have hn00:(0:Int)<=(T.n:Int):=by omega
 have hw0:=HSH.out.w1 T.n (Nat.le_refl _)
 have hw0n:0<(T.W T.n).toNat:=by omega
 obtain ⟨b0,o0,d0,hF0,hb0,hbl0,q0,z0⟩:=hT.at (v:=T.n) hnw0 (k:=0) hw0n
 obtain ⟨n0,hn0⟩:∃ n,n=(T.W T.n).toNat:=⟨_,rfl⟩
 have HN0:=hid hn0
 have r0:=hT.row.cell hnw0
 rw [hF0] at r0
 change w2.cell? ⟨g,T.n,none⟩=some (.slice (some ⟨b0,o0,none⟩) (T.W T.n).toNat d0) at r0
 rw [<-hn0] at hw0n r0
 have hw0n':(0:Int)<(n0:Int):=by omega
 clear hn0
 go_upto_region 5 with fail
 have hl:=hl2
 refine wp_region_held_drew (S:=fun w'=>w'.cell? ⟨g,T.n,none⟩=some (.slice (some ⟨b0,o0,none⟩) n0 d0)/\w'.cell? ⟨w.heap.size+1,1,none⟩=some (.slice B T.n d)) (by kernel_rfl) ⟨cellS (Below.refl _ _).drew r0,cellS (Below.refl _ _).drew p1⟩ (fun hHeld=>?_)
 obtain ⟨w3,hw⟩:∃ W,W=World.drew w2:=⟨_,rfl⟩
 have kb:Below w2.heap.size w2 w3:=by rw [hw]; exact (Below.refl _ _).drew
 rw [<-hw] at hHeld ⊢;clear hw;replace hB2:=zai hB2 (Nat.le_of_lt hl) kb;replace hl:=Nat.lt_of_lt_of_le hl kb.size;replace hT:=hT.on kb;replace r0:=cellS kb r0;replace q0:=cellS kb q0;replace p1:=cellS kb p1;clear kb
 refine tkq 0 (h:=tkq 1 (h:=tkq 2 (h:=tkq 3 (h:=tkq 4 (h:=tkq 5 (h:=tkq 6 (h:=tkq 7 (h:=?_))))))))
 refine rdq 8 (h:=fun K hK=>?_)
 go_simp
 go_wp2_with fail
 refine (zhV w3).mono ?_
 rintro e w4 ⟨rfl,kb⟩
 replace hB2:=zai hB2 (Nat.le_of_lt hl) kb;replace hl:=Nat.lt_of_lt_of_le hl kb.size;replace hT:=hT.on kb;replace r0:=cellS kb r0;replace q0:=cellS kb q0;replace p1:=cellS kb p1;clear kb
 refine bkq hK ⟨r0,p1⟩ (h:=fun hHeld=>?_)
 clear hK K
 refine tkq 9 (h:=?_)
 refine rdq 10 (h:=fun K hK=>?_)
 have zf:w4.frozen? ⟨b0,o0,none⟩=false:=by
  obtain ⟨b9,o9,d9,hF9,_,_,_,z9⟩:=hT.at (v:=T.n) hnw0 (k:=0) (by rw [<-HN0.out]; exact hw0n)
  rw [hF0] at hF9
  injection hF9 with e1 _ _
  injection e1 with e1
  injection e1 with e1 e2
  subst e1 e2
  exact z9
 rw [Nat.add_zero] at q0
 go_simp
 replace r0:=zab (p:=⟨b0,o0,none⟩) (u:=.int .i64 0) r0 (by show g≠b0; omega)
 replace p1:=zab (p:=⟨b0,o0,none⟩) (u:=.int .i64 0) p1 (by show w.heap.size+1≠b0; omega)
 have hT9:=hT.set (y:=0) (by omega) hnw0 (k:=0) (by rw [<-HN0.out]; exact hw0n) hF0
 rw [Nat.add_zero] at hT9
 have hB9:=hB2.setCell (p:=⟨b0,o0,none⟩) (by show w.heap.size+2<=b0; omega) (.int .i64 0)
 have hl9:w.heap.size+2<(World.setCell w4 ⟨b0,o0,none⟩ (.int .i64 0)).heap.size:=by simp; exact hl
 refine bkq hK ⟨r0,p1⟩ (h:=fun hHeld=>?_)
 clear hK K
 refine wpAnyH_done (by kernel_rfl) ?_ _
 clear hHeld
 obtain ⟨w9,hw9⟩:∃ W,W=World.setCell w4 ⟨b0,o0,none⟩ (.int .i64 0):=⟨_,rfl⟩
 rw [<-hw9] at hT9 hB9 hl9 ⊢;clear hw9 hT hB2 hl r0 q0
 have hT0:IntTab w9 g (g+1) T.nw F (fun v=>(T.W v).toNat) (fun u v=>if T.n<=u then T.bw y (T.n - u) v else 4611686018427387904):=hT9.congr (fun v _=>rfl) (fun u hu v hv=>by
  show updI _ T.n 0 0 u v=if T.n<=u then T.bw y (T.n - u) v else 4611686018427387904
  unfold updI
  by_cases e:u=T.n
  ·subst e
   rw [if_pos (Nat.le_refl _),Nat.sub_self]
   show _=if v=0 then 0 else 4611686018427387904
   by_cases e2:v=0
   ·rw [if_pos ⟨rfl,e2⟩,if_pos e2]
   ·rw [if_neg (fun h=>e2 h.2),if_neg e2]
  ·have:=HNW.out
   rw [if_neg (fun h=>e h.1),if_neg (by omega)])
 clear hT9 hw0n hw0n' z0 hbl0 HN0 hw0 p0 p1 hW
 obtain ⟨⟨p0,p1⟩,hW⟩:=HS2.out _ hB9
 go_wp2
 go_loopg [10] T.n (fun gg iv wx=>∃ i:Nat,iv=.int .i64 ((i:Int) - 1)/\i<=T.n/\i<=gg/\IntTab wx g (g+1) T.nw F (fun v=>(T.W v).toNat) (fun u v=>if i<=u then T.bw y (T.n - u) v else 4611686018427387904)/\Below (w.heap.size+2) W2 wx/\w.heap.size+2<wx.heap.size)
 case atStart=>exact ⟨T.n,by go_num,by omega,by omega,hT0,hB9,hl9⟩
 case round =>
  clear hW p0 p1 hT0 hB9 hl9
  obtain ⟨gK,hgK⟩:∃ g,g=gk:=⟨_,rfl⟩
  subst hgK
  obtain ⟨i,rfl,hk,hkg,hT,hB,hl⟩:=hrel
  obtain ⟨wk,hwk⟩:∃ W,W=wr:=⟨_,rfl⟩
  subst hwk
  obtain ⟨⟨p0,p1⟩,hW⟩:=HS2.out _ hB
  by_cases hlt0:0<i
  ·obtain ⟨k,rfl⟩:∃ k,i=k+1:=⟨i - 1,by omega⟩
   have eiv:(((k+1:Nat):Int) - 1)=(k:Int):=by omega
   rw [eiv]
   have hlt:k<T.n:=by omega
   have hk0:(0:Int)<=(k:Int):=by omega
   have hlt':(k:Int)<(T.n:Int):=by omega
   have hk1:k+1<T.nw:=by have:=HNW.out; omega
   have hkw:k<T.nw:=by omega
   have hk1':(k:Int)+1<(T.nw:Int):=by omega
   have hkw':(k:Int)<(T.nw:Int):=by omega
   have hk01:(0:Int)<=(k:Int)+1:=by omega
   have hwk1:IntKind.i64.wrap ((k:Int)+1)=(k:Int)+1:=IntWalk.i64_in _ (by omega)
   obtain ⟨eb,eo,E,ec,rfl,heb,x0w,he1,he2,he3,he4⟩:=HR.out.sec hlt
   obtain ⟨vb,vo,R,rc,rfl,hvb,y0w,hv1,hv2,hvt,hvr⟩:=HV.out k hlt
   have hel:=HSH.out.elb hlt
   have HE3:=hid he3
   have HVT:=hid hvt
   have HX0:=hid x0w
   have HY0:=hid y0w
   have x0:=cellS hW x0w
   have hT1:IntTab wk g (g+1) T.nw F (fun v=>(T.W v).toNat) (T.bwX y k 0):=hT.congr (fun v _=>rfl) (fun u _ v _=>(Trel.bwX_first u v).symm)
   clear he3 he4 he2 hvt x0w y0w eiv hT hv1 hv2 hvr
   go_wp2
   go_loopg [46] (T.el k) (fun gg jv wx=>∃ j:Nat,jv=.int .i64 (j:Nat)/\j<=T.el k/\T.el k<=j+gg/\IntTab wx g (g+1) T.nw F (fun v=>(T.W v).toNat) (T.bwX y k j)/\Below (w.heap.size+2) W2 wx/\w.heap.size+2<wx.heap.size)
   case atStart=>exact ⟨0,rfl,by omega,by omega,hT1,hB,hl⟩
   case round =>
    clear p0 p1 hT1 hB hl x0 hW
    obtain ⟨j,rfl,hj,hjg,hT,hB,hl⟩:=hrel
    have hj0:(0:Int)<=(j:Int):=by omega
    by_cases hltj:j<T.el k
    ·have hltj':(j:Int)<(T.el k:Int):=by omega
     have hW:=(HS2.out _ hB).2
     obtain ⟨fb,fo,rfl,hfb,e0,e1,e2⟩:=zaS ((Rd.below HE3.out hW (Nat.le_refl _)).mono hW.size) hltj
     obtain ⟨i1,i2,i3,i4⟩:=HSH.out.ins k hlt j hltj
     obtain ⟨fn,hfn⟩:∃ n:Nat,(n:Int)=T.fr k j:=⟨(T.fr k j).toNat,by omega⟩
     obtain ⟨tn,htn⟩:∃ n:Nat,(n:Int)=T.to k j:=⟨(T.to k j).toNat,by omega⟩
     obtain ⟨lb,hlb⟩:∃ z,z=T.lb k j:=⟨_,rfl⟩
     obtain ⟨n1,hn1⟩:∃ n,n=(T.W k).toNat:=⟨_,rfl⟩
     obtain ⟨n2,hn2⟩:∃ n,n=(T.W (k+1)).toNat:=⟨_,rfl⟩
     have hfl:fn<n1:=by omega
     have htl:tn<n2:=by omega
     have hfl':(fn:Int)<(n1:Int):=by omega
     have htl':(tn:Int)<(n2:Int):=by omega
     have hf0:(0:Int)<=(fn:Int):=by omega
     have ht0:(0:Int)<=(tn:Int):=by omega
     obtain ⟨ab,ao,ad,hFa,hab,habl,aq,zq⟩:=hT.at (v:=k) hkw (k:=fn) (by omega)
     obtain ⟨bb,bo,bd,hFb,hbb,hbbl,bq,_⟩:=hT.at (v:=k+1) hk1 (k:=tn) (by omega)
     obtain ⟨rb,ro,rfl,hrb,vq⟩:=(HVT.out.on hW).at hltj
     have hrow1:=hT.row.cell hkw
     have hrow2:=hT.row.cell hk1
     have y0:=cellS hW HY0.out
     have hapart:=hT.apart k (k+1) hkw hk1 (by omega)
     rw [hFa] at hrow1;rw [hFb] at hrow2
     have hne:bb≠ab:=fun e=>by
      rw [hFa,hFb,e] at hapart
      simp [Value.ownBlock] at hapart
     have d1:=Trel.bwX_cost HY.out hlt hj k fn
     have d2:=Trel.bwX_cost HY.out hlt hj (k+1) tn
     have d3:=HY.out.cost hlt hltj
     have HPUT:Hid (∀ u v,updI (T.bwX y k j) k fn (min (T.bwX y k j k fn) (capI (y k j) (T.bwX y k j (k+1) tn))) u v=T.bwX y k (j+1) u v):=fun u v=>Trel.bwX_put (T:=T) (y:=y) k j u v (by omega) (by omega)
     obtain ⟨av,hav⟩:∃ z,z=T.bwX y k j k fn:=⟨_,rfl⟩
     obtain ⟨bv,hbv⟩:∃ z,z=T.bwX y k j (k+1) tn:=⟨_,rfl⟩
     obtain ⟨yv,hyv2⟩:∃ z,z=y k j:=⟨_,rfl⟩
     rw [<-hav] at aq d1 HPUT;rw [<-hbv] at bq d2 HPUT;rw [<-hyv2] at vq d3 HPUT
     have HD1:=hid d1
     have HD2:=hid d2
     have HD3:=hid d3
     have HD4:=hid (zfs d3 d2)
     change wr.cell? ⟨g,k,none⟩=some (.slice (some ⟨ab,ao,none⟩) (T.W k).toNat ad) at hrow1
     change wr.cell? ⟨g,k+1,none⟩=some (.slice (some ⟨bb,bo,none⟩) (T.W (k+1)).toNat bd) at hrow2
     have x0:=cellS hW HX0.out
     rw [<-hn1] at hrow1;rw [<-hn2] at hrow2;rw [<-hfn] at e0;rw [<-hlb] at e1;rw [<-htn] at e2
     have hgab:g≠ab:=by omega
     have hbx:wr.heap.size≠ab:=by omega
     have hvab:vb≠ab:=by omega
     have hWs:=hW.size
     have HSET:Hid (F k=.slice (some ⟨ab,ao,none⟩) (T.W k).toNat ad):=hFa
     have HTL:Hid (fn<(T.W k).toNat):=by rw [<-hn1]; exact hfl
     have hrab:rb≠ab:=by
      obtain ⟨_,_,e8,h8,_⟩:=HVT.out.at hltj
      injection e8 with e8
      injection e8 with e8
      omega
     clear hapart hFa hFb hav hbv hyv2 hfn htn hlb i1 i2 i3 i4 hn1 hn2 hW d1 d2 d3
     go_upto_region 12 with fail
     obtain ⟨OB,hOB⟩:∃ o,o=(Obj.cells #[.int .i64 (fn:Int),.int .i64 lb,.int .i64 (tn:Int)] 148):=⟨_,rfl⟩
     have hq:∀ i v,(#[Value.int .i64 (fn:Int),.int .i64 lb,.int .i64 (tn:Int)]:Array Value)[i]?=some v->(wr.alloc OB).cell? ⟨wr.heap.size,i,none⟩=some v:=fun i v hv=>by subst hOB; exact tbox (Below.refl _ _) hv
     have s0:=hq 0 _ rfl
     have s2:=hq 2 _ rfl
     have kb:Below wr.heap.size wr (wr.alloc OB):=(Below.refl _ _).alloc (Nat.le_refl _) _
     rw [<-hOB]
     obtain ⟨w50,hw50⟩:∃ W,W=wr.alloc OB:=⟨_,rfl⟩
     rw [<-hw50] at s0 s2 kb ⊢;replace hT:=hT.on kb;replace hB:=zai hB (Nat.le_of_lt hl) kb;replace hl:=Nat.lt_of_lt_of_le hl kb.size;replace aq:=cellS kb aq;replace bq:=cellS kb bq;replace vq:=cellS kb vq;replace y0:=cellS kb y0;replace hrow1:=cellS kb hrow1;replace hrow2:=cellS kb hrow2
     obtain ⟨bx,hbx2⟩:∃ b,b=wr.heap.size:=⟨_,rfl⟩
     rw [<-hbx2] at s0 s2 hbx ⊢;clear hq hw50 hOB kb x0 e0 e1 e2 hbx2 zq
     refine wp_region_held_drew (S:=fun w'=>w'.cell? ⟨g,k,none⟩=some (.slice (some ⟨ab,ao,none⟩) n1 ad)/\w'.cell? ⟨g,k+1,none⟩=some (.slice (some ⟨bb,bo,none⟩) n2 bd)/\w'.cell? ⟨bx,0,none⟩=some (.int .i64 (fn:Int))/\w'.cell? ⟨bx,2,none⟩=some (.int .i64 (tn:Int))/\w'.cell? ⟨vb,vo+k,none⟩=some (.slice (some ⟨rb,ro,none⟩) (T.el k) rc)/\w'.cell? ⟨rb,ro+j,none⟩=some (.int .i64 yv)/\w'.cell? ⟨bb,bo+tn,none⟩=some (.int .i64 bv)) (by kernel_rfl) ⟨cellS (Below.refl _ _).drew hrow1,cellS (Below.refl _ _).drew hrow2,cellS (Below.refl _ _).drew s0,cellS (Below.refl _ _).drew s2,cellS (Below.refl _ _).drew y0,cellS (Below.refl _ _).drew vq,cellS (Below.refl _ _).drew bq⟩ (fun hHeld=>?_)
     obtain ⟨w51,hw⟩:∃ W,W=World.drew w50:=⟨_,rfl⟩
     have kb:Below w50.heap.size w50 w51:=by rw [hw]; exact (Below.refl _ _).drew
     rw [<-hw] at hHeld ⊢;clear hw;replace hB:=zai hB (Nat.le_of_lt hl) kb;replace hl:=Nat.lt_of_lt_of_le hl kb.size;replace hT:=hT.on kb;replace aq:=cellS kb aq;replace bq:=cellS kb bq;replace vq:=cellS kb vq;replace y0:=cellS kb y0;replace hrow1:=cellS kb hrow1;replace hrow2:=cellS kb hrow2;replace s0:=cellS kb s0;replace s2:=cellS kb s2;clear kb
     refine tkq 0 (h:=tkq 1 (h:=tkq 2 (h:=tkq 3 (h:=tkq 4 (h:=tkq 5 (h:=tkq 6 (h:=tkq 7 (h:=tkq 8 (h:=tkq 9 (h:=tkq 10 (h:=tkq 11 (h:=tkq 12 (h:=tkq 13 (h:=tkq 14 (h:=tkq 16 (h:=tkq 17 (h:=tkq 18 (h:=tkq 19 (h:=tkq 20 (h:=tkq 21 (h:=tkq 22 (h:=tkq 23 (h:=tkq 24 (h:=tkq 25 (h:=tkq 26 (h:=tkq 27 (h:=tkq 28 (h:=tkq 29 (h:=tkq 30 (h:=tkq 31 (h:=tkq 32 (h:=tkq 33 (h:=?_)))))))))))))))))))))))))))))))))
     refine rdq2 15 34 (h:=fun K hK=>?_) (h2:=fun K hK=>?_)
     ·go_simp
      refine bkq hK ⟨hrow1,hrow2,s0,s2,y0,vq,bq⟩ (h:=fun hHeld=>?_)
      clear hK K
      refine rdq 34 (h:=fun K hK=>?_)
      go_simp
      go_wp2_with fail
      refine (zfu yv bv w51 HD3.out HD2.out).mono ?_
      rintro e w52 ⟨rfl,kb⟩
      replace hB:=zai hB (Nat.le_of_lt hl) kb;replace hl:=Nat.lt_of_lt_of_le hl kb.size;replace hT:=hT.on kb;replace aq:=cellS kb aq;replace bq:=cellS kb bq;replace vq:=cellS kb vq;replace y0:=cellS kb y0;replace hrow1:=cellS kb hrow1;replace hrow2:=cellS kb hrow2;replace s0:=cellS kb s0;replace s2:=cellS kb s2;clear kb
      refine bkq hK ⟨hrow1,hrow2,s0,s2,y0,vq,bq⟩ (h:=fun hHeld=>?_)
      clear hK K
      refine rdq 35 (h:=fun K hK=>?_)
      go_simp
      go_wp2_with fail
      refine (zft av (capI yv bv) w52 HD1.out HD4.out).mono ?_
      rintro e w53 ⟨rfl,kb⟩
      replace hB:=zai hB (Nat.le_of_lt hl) kb;replace hl:=Nat.lt_of_lt_of_le hl kb.size;replace hT:=hT.on kb;replace aq:=cellS kb aq;replace bq:=cellS kb bq;replace vq:=cellS kb vq;replace y0:=cellS kb y0;replace hrow1:=cellS kb hrow1;replace hrow2:=cellS kb hrow2;replace s0:=cellS kb s0;replace s2:=cellS kb s2;clear kb
      refine bkq hK ⟨hrow1,hrow2,s0,s2,y0,vq,bq⟩ (h:=fun hHeld=>?_)
      clear hK K
      refine tkq 36 (h:=?_)
      refine rdq 37 (h:=fun K hK=>?_)
      have zf:w53.frozen? ⟨ab,ao+fn,none⟩=false:=by
       obtain ⟨b9,o9,d9,hF9,_,_,_,z9⟩:=hT.at (v:=k) hkw (k:=fn) HTL.out
       rw [HSET.out] at hF9
       injection hF9 with e1 _ _
       injection e1 with e1
       injection e1 with e1 e2
       subst e1 e2
       exact z9
      obtain ⟨nv,hnv⟩:∃ z,z=min av (capI yv bv):=⟨_,rfl⟩
      rw [<-hnv] at HPUT ⊢;clear hnv
      go_simp
      replace hrow1:=zab (p:=⟨ab,ao+fn,none⟩) (u:=.int .i64 nv) hrow1 (by simpa using hgab)
      replace hrow2:=zab (p:=⟨ab,ao+fn,none⟩) (u:=.int .i64 nv) hrow2 (by simpa using hgab)
      replace s0:=zab (p:=⟨ab,ao+fn,none⟩) (u:=.int .i64 nv) s0 (by simpa using hbx)
      replace s2:=zab (p:=⟨ab,ao+fn,none⟩) (u:=.int .i64 nv) s2 (by simpa using hbx)
      replace y0:=zab (p:=⟨ab,ao+fn,none⟩) (u:=.int .i64 nv) y0 (by simpa using hvab)
      replace vq:=zab (p:=⟨ab,ao+fn,none⟩) (u:=.int .i64 nv) vq (by simpa using hrab)
      replace bq:=zab (p:=⟨ab,ao+fn,none⟩) (u:=.int .i64 nv) bq (by simpa using hne)
      have hT9:=hT.set (y:=nv) (by omega) hkw (k:=fn) HTL.out HSET.out
      have hB9:=hB.setCell (p:=⟨ab,ao+fn,none⟩) (by show w.heap.size+2<=ab; omega) (.int .i64 nv)
      have hl9:w.heap.size+2<(World.setCell w53 ⟨ab,ao+fn,none⟩ (.int .i64 nv)).heap.size:=by simp; exact hl
      refine bkq hK ⟨hrow1,hrow2,s0,s2,y0,vq,bq⟩ (h:=fun hHeld=>?_)
      clear hK K
      refine wpAnyH_done (by kernel_rfl) ?_ _
      clear hHeld
      have hN:=hid (hT9.congr (x':=T.bwX y k (j+1)) (fun v _=>rfl) (fun u _ v _=>HPUT.out u v))
      have HB9:=hid hB9
      clear hT9 hT hB9 hB aq
      go_wp2
      go_roundg (gk - 1)
      case measure=>omega
      case rel=>exact ⟨j+1,by go_num,by omega,by omega,hN.out,HB9.out,hl9⟩
     ·go_simp
      go_wp2_with fail
      refine (zfu yv bv w51 HD3.out HD2.out).mono ?_
      rintro e w52 ⟨rfl,kb⟩
      replace hB:=zai hB (Nat.le_of_lt hl) kb;replace hl:=Nat.lt_of_lt_of_le hl kb.size;replace hT:=hT.on kb;replace aq:=cellS kb aq;replace bq:=cellS kb bq;replace vq:=cellS kb vq;replace y0:=cellS kb y0;replace hrow1:=cellS kb hrow1;replace hrow2:=cellS kb hrow2;replace s0:=cellS kb s0;replace s2:=cellS kb s2;clear kb
      refine bkq hK ⟨hrow1,hrow2,s0,s2,y0,vq,bq⟩ (h:=fun hHeld=>?_)
      clear hK K
      refine rdq 15 (h:=fun K hK=>?_)
      go_simp
      refine bkq hK ⟨hrow1,hrow2,s0,s2,y0,vq,bq⟩ (h:=fun hHeld=>?_)
      clear hK K
      refine rdq 35 (h:=fun K hK=>?_)
      go_simp
      go_wp2_with fail
      refine (zft av (capI yv bv) w52 HD1.out HD4.out).mono ?_
      rintro e w53 ⟨rfl,kb⟩
      replace hB:=zai hB (Nat.le_of_lt hl) kb;replace hl:=Nat.lt_of_lt_of_le hl kb.size;replace hT:=hT.on kb;replace aq:=cellS kb aq;replace bq:=cellS kb bq;replace vq:=cellS kb vq;replace y0:=cellS kb y0;replace hrow1:=cellS kb hrow1;replace hrow2:=cellS kb hrow2;replace s0:=cellS kb s0;replace s2:=cellS kb s2;clear kb
      refine bkq hK ⟨hrow1,hrow2,s0,s2,y0,vq,bq⟩ (h:=fun hHeld=>?_)
      clear hK K
      refine tkq 36 (h:=?_)
      refine rdq 37 (h:=fun K hK=>?_)
      have zf:w53.frozen? ⟨ab,ao+fn,none⟩=false:=by
       obtain ⟨b9,o9,d9,hF9,_,_,_,z9⟩:=hT.at (v:=k) hkw (k:=fn) HTL.out
       rw [HSET.out] at hF9
       injection hF9 with e1 _ _
       injection e1 with e1
       injection e1 with e1 e2
       subst e1 e2
       exact z9
      obtain ⟨nv,hnv⟩:∃ z,z=min av (capI yv bv):=⟨_,rfl⟩
      rw [<-hnv] at HPUT ⊢;clear hnv
      go_simp
      replace hrow1:=zab (p:=⟨ab,ao+fn,none⟩) (u:=.int .i64 nv) hrow1 (by simpa using hgab)
      replace hrow2:=zab (p:=⟨ab,ao+fn,none⟩) (u:=.int .i64 nv) hrow2 (by simpa using hgab)
      replace s0:=zab (p:=⟨ab,ao+fn,none⟩) (u:=.int .i64 nv) s0 (by simpa using hbx)
      replace s2:=zab (p:=⟨ab,ao+fn,none⟩) (u:=.int .i64 nv) s2 (by simpa using hbx)
      replace y0:=zab (p:=⟨ab,ao+fn,none⟩) (u:=.int .i64 nv) y0 (by simpa using hvab)
      replace vq:=zab (p:=⟨ab,ao+fn,none⟩) (u:=.int .i64 nv) vq (by simpa using hrab)
      replace bq:=zab (p:=⟨ab,ao+fn,none⟩) (u:=.int .i64 nv) bq (by simpa using hne)
      have hT9:=hT.set (y:=nv) (by omega) hkw (k:=fn) HTL.out HSET.out
      have hB9:=hB.setCell (p:=⟨ab,ao+fn,none⟩) (by show w.heap.size+2<=ab; omega) (.int .i64 nv)
      have hl9:w.heap.size+2<(World.setCell w53 ⟨ab,ao+fn,none⟩ (.int .i64 nv)).heap.size:=by simp; exact hl
      refine bkq hK ⟨hrow1,hrow2,s0,s2,y0,vq,bq⟩ (h:=fun hHeld=>?_)
      clear hK K
      refine wpAnyH_done (by kernel_rfl) ?_ _
      clear hHeld
      have hN:=hid (hT9.congr (x':=T.bwX y k (j+1)) (fun v _=>rfl) (fun u _ v _=>HPUT.out u v))
      have HB9:=hid hB9
      clear hT9 hT hB9 hB aq
      go_wp2
      go_roundg (gk - 1)
      case measure=>omega
      case rel=>exact ⟨j+1,by go_num,by omega,by omega,hN.out,HB9.out,hl9⟩
    ·have hltj':¬ (j:Int)<(T.el k:Int):=by omega
     have hje:j=T.el k:=by omega
     rw [hje] at hT
     have hT1:=hid (hT.congr (x':=fun u v=>if k<=u then T.bw y (T.n - u) v else 4611686018427387904) (fun v _=>rfl) (fun u _ v _=>Trel.bwX_next hlt u v))
     have HB:=hid hB
     clear hT hB hje
     go_wp2
     go_roundg (gK - 1)
     case measure=>omega
     case rel=>exact ⟨k,by go_num,by omega,by omega,hT1.out,HB.out,hl⟩
  ·obtain rfl:i=0:=by omega
   have eiv:(((0:Nat):Int) - 1) = -1:=by omega
   rw [eiv]
   have hTf:=hid (hT.congr (x':=fun u v=>T.bw y (T.n - u) v) (fun v _=>rfl) (fun u hu v _=>if_pos (Nat.zero_le _)))
   clear hT eiv
   go_wp2
   go_ret2
   exact ⟨g,F,rfl,by omega,hTf.out,hW⟩
end Go.Proofs.YtioagplajkoohaaGreat