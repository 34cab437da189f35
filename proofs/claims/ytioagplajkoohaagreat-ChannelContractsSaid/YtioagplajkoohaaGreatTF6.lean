/- Merged texts of a claim: NatC. -/
import Derived.Test.YtioagplajkoohaaGreatTF5
import Derived.Deep.QuietTactic
import Derived.BigQuiet
import Derived.Deep.CutBlock
import Derived.Deep.DeepCutAuto
import Derived.Deep.LoopGhost
import Derived.StillTailTactics
namespace Go.Proofs.YtioagplajkoohaaGreat
set_option maxRecDepth 100000
set_option maxHeartbeats 32000000
open KA KB KC KE
open Go.RowKit
theorem zdD {w w1:World} {r:Option Nat} (h:w.grownBy w1 r) (n:Nat):w.grownBy (w1.drewN n) r:=⟨h.os,h.tape,h.output,h.size,h.block⟩
theorem zaq {w w1:World} {g i:Nat} (h:w.grownBy w1 (some g)) (v:Value):w.grownBy (w1.setCell ⟨g,i,none⟩ v) (some g):=by
 refine ⟨h.os,h.tape,h.output,by simpa using h.size,fun k hk hne=>?_⟩
 rw [<-h.block k hk hne]
 simp only [World.setCell,Array.getElem?_modify]
 rw [if_neg (fun e=>hne (by rw [e]))]
theorem zby (w:World) (r:Option Nat):w.grownBy w r:=⟨rfl,rfl,rfl,Nat.le_refl _,fun _ _ _=>rfl⟩
theorem zga {w w1:World} {g:Nat} (h:w.grownBy w1 (some g)) (hg:g<=w.heap.size):Below g w w1:=by
 refine ⟨h.os,h.tape,h.output,h.size,fun k hk=>?_⟩
 exact h.block k (by omega) (by simp; omega)
theorem zdf {w w1:World} {g n:Nat} {A:Option Addr} {f:Nat->Nat} (h:Lims w g A n f) (hg:w.grownBy w1 (some g)) (hs:g<=w.heap.size):Lims w1 g A n f :=
 Rd.below h (zga hg hs) (Nat.le_refl _)
theorem Lims.cell {w:World} {B b off n i:Nat} {f:Nat->Nat} (h:Lims w B (some ⟨b,off,none⟩) n f) (hi:i<n):w.cell? ⟨b,off+i,none⟩=some (.int .u32 (f i:Nat)):=by
 obtain ⟨b3,o3,ee,_,t0⟩:=h.at hi
 cases ee
 exact t0
def StepPost (g off k N:Nat) (f fv:Nat->Nat) (w:World) (e:Ending) (w':World):Prop :=
 ∃ f',e=.returned (.int .u32 (nv (seg f off) (k+1) / nv fv k:Nat))/\w'.rowIs g 110 N (fun i=>.int .u32 (f' i:Nat))/\(∀ i,f' i<4294967296)/\(∀ i,i<off∨off+k<i->f' i=f i) /\
  nv (seg f' off) (k+1)=nv (seg f off) (k+1) % nv fv k/\w.grownBy w' (some g)
theorem zjg (g off m N cap c2:Nat) (A2:Option Addr) (f fv:Nat->Nat) (w:World) (hrow:w.rowIs g 110 N (fun i=>.int .u32 (f i:Nat))) (hN:off+(m+2)+1<=N) (hNm:N<=1073741824)
  (hf:Hid (∀ i,f i<4294967296)) (h2:Lims w g A2 (m+2) fv) (hfv:Hid (∀ i,i<m+2->fv i<4294967296)) (htop:0<fv (m+1)) (hlt:Hid (nv (seg f off) (m+3)<nv fv (m+2)*4294967296)) :
  Calls Tryz.prog 267 #[.slice (some ⟨g,off,none⟩) (m+3) cap,.slice A2 (m+2) c2] w (StepPost g off (m+2) N f fv w):=by
 obtain ⟨b2,o2,rfl,hb2,t1⟩:=h2.at (i:=m+1) (by omega)
 have t0:=h2.cell (i:=m) (by omega)
 have y2:=hrow.cell (i:=off+(m+2)) (by omega)
 have y1:=hrow.cell (i:=off+(m+1)) (by omega)
 have y0:=hrow.cell (i:=off+m) (by omega)
 have T3:=zj7 (seg f off) m
 have T2:=zj8 fv m
 have HX:=zeX (f:=seg f off) (n:=m) fun i _=>hf.out _
 have HY:=zeX (f:=fv) (n:=m) fun i _=>hfv.out _ (by omega)
 obtain ⟨u2,hu2⟩:∃ x,x=f (off+(m+2)):=⟨_,rfl⟩
 obtain ⟨u1,hu1⟩:∃ x,x=f (off+(m+1)):=⟨_,rfl⟩
 obtain ⟨u0,hu0⟩:∃ x,x=f (off+m):=⟨_,rfl⟩
 obtain ⟨v1,hv1⟩:∃ x,x=fv (m+1):=⟨_,rfl⟩
 obtain ⟨v0,hv0⟩:∃ x,x=fv m:=⟨_,rfl⟩
 have q2:=hf.out (off+(m+2))
 have q1:=hf.out (off+(m+1))
 have q0:=hf.out (off+m)
 have p1:=hfv.out (m+1) (by omega)
 have p0:=hfv.out m (by omega)
 rw [<-hu2] at y2 q2;rw [<-hu1] at y1 q1;rw [<-hu0] at y0 q0;rw [<-hv1] at t1 p1 htop;rw [<-hv0] at t0 p0
 have hx3:nv (seg f off) (m+3)=nv (seg f off) m+u0*4294967296 ^ m+(u2*4294967296+u1)*(4294967296*4294967296 ^ m):=by rw [T3,hu0,hu1,hu2]; rfl
 have hx2:nv fv (m+2)=nv fv m+v0*4294967296 ^ m+v1*(4294967296*4294967296 ^ m):=by rw [T2,hv0,hv1]
 have hle:u2<=v1:=zkP (x0:=nv (seg f off) m) (u0:=u0) (u1:=u1) HY p0 (by rw [<-hx3,<-hx2]; exact hlt.out)
 have HQ0:Hid (∀ q,q=(u2*4294967296+u1) / v1->nv (seg f off) (m+3)<(q+1)*nv fv (m+2)):=fun q hq=>by
  rw [hx3,hx2]; exact zf8 HX q0 htop hq
 have HQ1:Hid (∀ q r,q*v1+r=u2*4294967296+u1->r*4294967296+u0<q*v0->nv (seg f off) (m+3)<q*nv fv (m+2)):=fun q r h1 h2=>by
  rw [hx3,hx2]; exact zgR HX h1 h2
 have HQ2:Hid (∀ q r,q<4294967296->q*v1+r=u2*4294967296+u1->(4294967296<=r∨q*v0<=r*4294967296+u0)->q*nv fv (m+2)<=nv (seg f off) (m+3)+nv fv (m+2)):=fun q r h0 h1 h2=>by
  rw [hx3,hx2]; exact zh1 HY p0 htop h0 h1 h2
 have HU:=hid hu2
 obtain ⟨top,ht⟩:∃ x,x=u2*4294967296+u1:=⟨_,rfl⟩
 have hor:bits .or .u64 ((u2:Int)*4294967296) (u1:Int)=(top:Int):=by rw [ht]; exact ze6 q2 q1
 have htv:top<v1*4294967296+4294967296:=by omega
 have htb:top<18446744073709551616:=by omega
 have hqq:top / v1<=8589934591:=by
  have:top / v1<8589934592:=Nat.div_lt_of_lt_mul (by rw [Nat.mul_comm]; omega)
  omega
 have hrr:top % v1<v1:=Nat.mod_lt _ htop
 have hdm:top / v1*v1+top % v1=top:=Nat.div_add_mod' _ _
 have hqs:Hid (nv (seg f off) (m+3)<(top / v1+1)*nv fv (m+2)):=HQ0.out _ (by rw [ht])
 obtain ⟨q,hq⟩:∃ q,q=top / v1:=⟨_,rfl⟩
 obtain ⟨r,hr⟩:∃ r,r=top % v1:=⟨_,rfl⟩
 have hq1:(top:Int).tdiv (v1:Int)=(q:Int):=by rw [hq,Int.tdiv_eq_ediv_of_nonneg (by omega)]; rfl
 have hr1:(top:Int).tmod (v1:Int)=(r:Int):=by rw [hr,Int.tmod_eq_emod_of_nonneg (by omega)]; rfl
 rw [<-hq] at hqq hdm hqs;rw [<-hr] at hrr hdm
 have HDM:=hid hdm
 have HT:=hid ht
 have hwq:IntKind.u64.wrap (q:Int)=(q:Int):=IntWalk.u64_in _ (by omega)
 have hvne:((v1:Int) == 0)=false:=by simp; omega
 have i2:((m:Int)+2).toNat=m+2:=by omega
 have i1:((m:Int)+2 - 1).toNat=m+1:=by omega
 have i0:((m:Int)+2 - 2).toNat=m:=by omega
 clear T3 T2 HX HY hu2 hu1 hu0 hv1 hv0 hx3 hx2 hq hr hdm ht HQ0
 go_enter Tryz.func267, Tryz.ntmps267
 go_wp2
 go_quiet (fail)
 go_upto_block 0 with fail
 go_cut [7,8] (fun v7 v8 wx=>∃ q:Nat,v7=.int .u64 (q:Nat)/\q<4294967296/\Hid (nv (seg f off) (m+3)<(q+1)*nv fv (m+2))/\Hid (q*nv fv (m+2)<=nv (seg f off) (m+3)+nv fv (m+2))/\∃ n,wx=w.drewN n)
 case first =>
  have hr0:r<8589934592:=by omega
  clear hq1 hr1 hwq hrr
  go_wp2_with fail
  go_loopg [7,8] 4294967296 (fun gg qv rv wx=>∃ q r n:Nat,qv=.int .u64 (q:Nat)/\rv=.int .u64 (r:Nat)/\4294967296<=r+gg/\q<=8589934591/\r<8589934592/\Hid (q*v1+r=top)/\Hid (nv (seg f off) (m+3)<(q+1)*nv fv (m+2))/\wx=w.drewN n)
  case atStart=>exact ⟨q,r,_,rfl,rfl,by omega,hqq,hr0,HDM,hqs,rfl⟩
  case round =>
   clear hqq hqs HDM hr0
   obtain ⟨q,r,n,rfl,rfl,hgg,hq,hr,HE,HL,rfl⟩:=hrel
   have W1:IntKind.u64.wrap ((q:Int) - 1)=(q:Int) - 1∨q=0:=by
    rcases Nat.eq_zero_or_pos q with e | e
    ·exact .inr e
    ·exact .inl (IntWalk.u64_in _ (by omega))
   by_cases hrB:r<4294967296
   ·have d1:decide ((r:Int)<4294967296)=true:=by simp; omega
    have E1:Hid (q≠0->(q - 1)*v1+(r+v1)=top):=fun hq0=>by
     have h1:=HE.out
     obtain ⟨q',rfl⟩:∃ q',q=q'+1:=⟨q - 1,by omega⟩
     rw [Nat.add_mul,Nat.one_mul] at h1;rw [Nat.add_sub_cancel]
     omega
    by_cases hqB:4294967296<=q
    ·have d2:decide ((4294967296:Int)<=(q:Int))=true:=by simp; omega
     have E2:Hid (nv (seg f off) (m+3)<(q - 1+1)*nv fv (m+2)):=by
      have h1:4294967296*nv fv (m+2)<=q*nv fv (m+2):=Nat.mul_le_mul_right _ hqB
      have h2:=hlt.out
      show _<_
      rw [Nat.sub_add_cancel (by omega)]
      omega
     have ep:((q:Int) - 1)=((q - 1:Nat):Int):=by omega
     clear W1
     go_wp2
     go_quiet (fail)
     go_wp2
     go_roundg (gk - 1)
     case measure=>omega
     case rel=>exact ⟨q - 1,r+v1,_,rfl,by go_num,by omega,by omega,by omega,E1.out (by omega),E2,rfl⟩
    ·have d2:decide ((4294967296:Int)<=(q:Int))=false:=by simp; omega
     have hpr:=zcA (show q<4294967296 by omega) p0
     obtain ⟨pr,ep⟩:∃ pr,pr=q*v0:=⟨_,rfl⟩
     have ep':(q:Int)*(v0:Int)=(pr:Int):=by rw [ep,Int.natCast_mul]
     rw [<-ep] at hpr
     obtain ⟨x,ex⟩:∃ x,x=r*4294967296+u0:=⟨_,rfl⟩
     have hor2:bits .or .u64 ((r:Int)*4294967296) (u0:Int)=(x:Int):=by rw [ex]; exact ze6 hrB q0
     have hwp:IntKind.u64.wrap (pr:Int)=(pr:Int):=IntWalk.u64_in _ (by omega)
     by_cases hc:x<pr
     ·have d3:decide ((x:Int)<(pr:Int))=true:=by simp; omega
      have hL:=HQ1.out q r (by rw [HE.out,HT.out]) (by rw [<-ex,<-ep]; exact hc)
      have hq0:0<q:=by
       rcases Nat.eq_zero_or_pos q with e | e
       ·rw [e] at hL; omega
       ·exact e
      have E2:Hid (nv (seg f off) (m+3)<(q - 1+1)*nv fv (m+2)):=by
       show _<_
       rw [Nat.sub_add_cancel hq0]
       exact hL
      have ep2:((q:Int) - 1)=((q - 1:Nat):Int):=by omega
      clear W1 hL ep ex
      go_wp2
      go_quiet (fail)
      go_wp2
      go_roundg (gk - 1)
      case measure=>omega
      case rel=>exact ⟨q - 1,r+v1,_,rfl,by go_num,by omega,by omega,by omega,E1.out (by omega),E2,rfl⟩
     ·have d3:decide ((x:Int)<(pr:Int))=false:=by simp; omega
      have E3:=hid (HQ2.out q r (by omega) (by rw [HE.out,HT.out]) (.inr (by rw [<-ex,<-ep]; omega)))
      clear W1 ep ex
      go_wp2
      go_quiet (fail)
      go_wp2
      go_meet
      exact ⟨q,rfl,by omega,HL,E3,_,World.drewN_drewN _ _ _⟩
   ·have d1:decide ((r:Int)<4294967296)=false:=by simp; omega
    have hq4:=zjd (u2:=u2) (u1:=u1) (by rw [HE.out,HT.out]) hle q1 (by omega)
    have E3:=hid (HQ2.out q r hq4 (by rw [HE.out,HT.out]) (.inl (by omega)))
    clear W1
    go_wp2
    go_quiet (fail)
    go_wp2
    go_meet
    exact ⟨q,rfl,hq4,HL,E3,_,World.drewN_drewN _ _ _⟩
 case rest =>
  obtain ⟨q,rfl,hq,HL,HE,n,rfl⟩:=hcut
  clear HQ1 HQ2 hqs HDM HT hq1 hr1 hwq hrr hqq htv htb hor hle t0 t1 y0 y1 y2
  have hgs:=hrow.lt
  have hrow0:=zaX hrow n
  have hg0:=zdD (zby w (some g)) n
  clear hrow
  go_wp2
  go_loopg [86,9,10] (m+2) (fun gg iv bv cv wx=>∃ k bo ca:Nat,∃ o:Nat->Nat,iv=.int .i64 (k:Nat)/\bv=.int .u64 (bo:Nat)/\cv=.int .u64 (ca:Nat)/\k<=m+2/\m+2<=k+gg/\bo<=1/\ca<4294967296 /\
   wx.rowIs g 110 N (fun i=>.int .u32 (o i:Nat))/\w.grownBy wx (some g)/\Hid (∀ i,o i<4294967296)/\Hid (∀ i,i<off∨off+k<=i->o i=f i)/\Hid (nv (seg o off) k+q*nv fv k=nv (seg f off) k+(ca+bo)*4294967296 ^ k))
  case atStart=>exact ⟨0,0,0,f,rfl,rfl,rfl,by omega,by omega,by omega,by omega,hrow0,hg0,hf,hid fun _ _=>rfl,hid rfl⟩
  case round =>
   clear hrow0 hg0
   obtain ⟨k,bo,ca,o,rfl,rfl,rfl,hk,hkg,hbo,hca,hrow,hgr,HO,HU2,HV⟩:=hrel
   by_cases hklt:k<m+2
   ·have t0:=(zdf h2 hgr (by omega)).cell hklt
    have y0:=hrow.cell (i:=off+k) (by omega)
    have z0:=hrow.frozen (off+k)
    have p0:=hfv.out k hklt
    have q0:=HO.out (off+k)
    obtain ⟨pv,epv⟩:∃ pv,pv=q*fv k:=⟨_,rfl⟩
    have hpv:=zcA hq p0
    rw [<-epv] at hpv
    obtain ⟨v,hv⟩:∃ v,v=fv k:=⟨_,rfl⟩
    rw [<-hv] at t0 p0
    have epv':(q:Int)*(v:Int)=(pv:Int):=by rw [epv,<-hv,Int.natCast_mul]
    obtain ⟨u,hu⟩:∃ u,u=o (off+k):=⟨_,rfl⟩
    rw [<-hu] at y0 q0
    obtain ⟨s,hs⟩:∃ s,s=u+4294967296 - (pv+ca) % 4294967296 - bo:=⟨_,rfl⟩
    have hus:seg f off k=u:=by rw [hu,HU2.out (off+k) (.inr (Nat.le_refl _))]; rfl
    obtain ⟨s1,s2,s3⟩:=zh0 (p:=pv+ca) (s:=s) HV.out (by rw [hus]; exact q0) hbo (by rw [epv]) (by rw [hus]; exact hs)
    have K1:=hid s1
    have hc2:(pv+ca) / 4294967296<4294967296:=by omega
    obtain ⟨pl,hpl⟩:∃ pl,pl=(pv+ca) % 4294967296:=⟨_,rfl⟩
    have hpl':((pv:Int)+(ca:Int)) % 4294967296=(pl:Int):=by omega
    rw [<-hpl] at hs
    have hpl2:pl<4294967296:=by omega
    obtain ⟨D1,d1,d2,d3,d4,d5⟩:=zbY ((u:Int) - pl) (by omega) (by omega)
    obtain ⟨D,e1,e2,e3,e4,e5⟩:=zbY ((u:Int) - pl - bo) (by omega) (by omega)
    have e6:=d5 bo
    rw [e1] at e6
    have K5:Hid ((D:Int) / 9223372036854775808=((1 - s / 4294967296:Nat):Int)):=by
     show _=_
     split at e4 <;> omega
    have K6:Hid ((D:Int) % 4294967296=((s % 4294967296:Nat):Int)):=by show _=_; omega
    have K7:Hid (((pv:Int)+(ca:Int)) / 4294967296=(((pv+ca) / 4294967296:Nat):Int)):=by show _=_; omega
    have K2:Hid (∀ z:Int,z=((s % 4294967296:Nat):Int)->(wr.setCell ⟨g,off+k,none⟩ (.int .u32 z)).rowIs g 110 N (fun i=>.int .u32 (upd o (off+k) (s % 4294967296) i:Nat))):=fun z hz=>by
     refine (hrow.set (off+k) _).congr fun i _=>?_
     unfold upd
     by_cases e:i=off+k
     ·rw [if_pos e,if_pos e,hz]
     ·rw [if_neg e,if_neg e]
    have K3:Hid (∀ i,upd o (off+k) (s % 4294967296) i<4294967296):=fun i=>by
     unfold upd
     split
     ·omega
     ·exact HO.out i
    have K4:Hid (∀ i,i<off∨off+(k+1)<=i->upd o (off+k) (s % 4294967296) i=f i):=fun i hi=>by rw [zap (by omega)]; exact HU2.out i (by omega)
    have K8:Hid (nv (seg (upd o (off+k) (s % 4294967296)) off) (k+1)+q*nv fv (k+1)=nv (seg f off) (k+1)+((pv+ca) / 4294967296+(1 - s / 4294967296))*4294967296 ^ (k+1)):=by rw [zcn]; exact s1
    have hD0:(0:Int)<=D:=by omega
    have hD1:(D:Int)<=18446744073709551615:=by omega
    have hki:(k:Int)<(m:Int)+2:=by omega
    clear hs hu hus s1 s2 s3 e1 d3 d4 d5 e3 e4 e5 epv hv hpl K1 hrow
    go_wp2
    go_roundg (gk - 1)
    case measure=>omega
    case rel=>exact ⟨k+1,1 - s / 4294967296,(pv+ca) / 4294967296,_,by go_num,by rw [K5.out],by rw [K7.out],by omega,by omega,by omega,hc2,K2.out _ K6.out,zaq hgr _,K3,K4,K8⟩
   ·obtain rfl:k=m+2:=by omega
    have y2:=hrow.cell (i:=off+(m+2)) (by omega)
    have z2:=hrow.frozen (off+(m+2))
    have hO2:o (off+(m+2))=u2:=by rw [HU2.out _ (.inr (Nat.le_refl _)),HU.out]
    rw [hO2] at y2
    have hU:nv (seg f off) (m+2+1)=nv (seg f off) (m+2)+u2*4294967296 ^ (m+2):=by
     show nv (seg f off) (m+2)+seg f off (m+2)*_=_
     rw [HU.out]; rfl
    have HUU:=hid hU
    obtain ⟨D1,d1,d2,d3,d4,d5⟩:=zbY ((u2:Int) - ca) (by omega) (by omega)
    obtain ⟨D,e1,e2,e3,e4,e5⟩:=zbY ((u2:Int) - ca - bo) (by omega) (by omega)
    have e6:=d5 bo
    rw [e1] at e6
    obtain ⟨s,hs⟩:∃ s,s=D % 4294967296:=⟨_,rfl⟩
    have hs':(D:Int) % 4294967296=(s:Int):=by omega
    have K2:Hid ((wr.setCell ⟨g,off+(m+2),none⟩ (.int .u32 (s:Nat))).rowIs g 110 N (fun i=>.int .u32 (upd o (off+(m+2)) s i:Nat))):=by
     refine (hrow.set (off+(m+2)) _).congr fun i _=>?_
     unfold upd
     by_cases e:i=off+(m+2)
     ·rw [if_pos e,if_pos e]
     ·rw [if_neg e,if_neg e]
    have hsb:s<4294967296:=by omega
    have K3:Hid (∀ i,upd o (off+(m+2)) s i<4294967296):=fun i=>by
     unfold upd
     split
     ·exact hsb
     ·exact HO.out i
    have hD0:(0:Int)<=D:=by omega
    have hD1:(D:Int)<=18446744073709551615:=by omega
    have hqm:(q:Int) % 4294967296=(q:Int):=by omega
    have hgr2:=zaq (i:=off+(m+2)) hgr (.int .u32 (s:Nat))
    by_cases hneg:ca+bo<=u2
    ·rw [if_neg (by omega)] at e4
     have hz:((D:Int) / 9223372036854775808 == 0)=true:=by simp; omega
     have hsv:s=u2 - (ca+bo):=by omega
     obtain ⟨g1,g2⟩:=zka HV.out hneg (by rw [<-hU]; exact HL.out)
     have G1:Hid (nv (seg f off) (m+2+1) / nv fv (m+2)=q):=by show _=_; rw [HUU.out]; exact g1
     have G2:Hid (nv (seg (upd o (off+(m+2)) s) off) (m+2+1)=nv (seg f off) (m+2+1) % nv fv (m+2)):=by
      show _=_
      rw [HUU.out,g2,zcn,zbP,hsv]
     have G3:Hid (∀ i,i<off∨off+(m+2)<i->upd o (off+(m+2)) s i=f i):=fun i hi=>by rw [zap (by omega)]; exact HU2.out i (by omega)
     clear hU hs hsv g1 g2 d3 d4 d5 e1 e3 e4 e5 hrow
     go_wp2
     go_ret
     exact ⟨_,by rw [G1.out]; rfl,K2.out,K3.out,G3.out,G2.out,hgr2⟩
    ·rw [if_pos (by omega)] at e4
     have hz:((D:Int) / 9223372036854775808 == 0)=false:=by simp; omega
     have hX:nv (seg o off) (m+2)<4294967296 ^ (m+2):=zeX fun i _=>HO.out _
     have hV:nv fv (m+2)<4294967296 ^ (m+2):=zeX hfv.out
     have hkey:∀ (o':Nat->Nat) (cc:Nat),(∀ i,o' i<4294967296)->nv (seg o' off) (m+2)+cc*4294967296 ^ (m+2)=nv (seg o off) (m+2)+nv fv (m+2) ->
       ca+bo=u2+1/\cc=1/\1<=q/\nv (seg f off) (m+2+1) / nv fv (m+2)=q - 1/\nv (seg f off) (m+2+1) % nv fv (m+2)=nv (seg o' off) (m+2):=fun o' cc h1 h2=>by
      rw [HUU.out]
      exact zh3 HV.out (by omega) hX (by rw [<-hU]; exact HE.out) h2 (zeX fun i _=>h1 _) hV
     have HKEY:=hid hkey
     obtain ⟨sd,hsd⟩:∃ t,t=(4294967296+u2 - (ca+bo)) % 4294967296:=⟨_,rfl⟩
     have hs2:s=sd:=by omega
     have HSD:=hid hsd
     have hrow2:=K2.out
     obtain ⟨W2,hW2⟩:∃ W2,W2=wr.setCell ⟨g,off+(m+2),none⟩ (.int .u32 (s:Nat)):=⟨_,rfl⟩
     have HU3:Hid (∀ i,i<off∨off+(m+2)<i->upd o (off+(m+2)) s i=f i):=fun i hi=>by rw [zap (by omega)]; exact HU2.out i (by omega)
     have HO3:Hid (∀ i,i<m+2->seg (upd o (off+(m+2)) s) off i=seg o off i):=fun i hi=>by rw [zcn]; exact zap (by omega)
     have HO4:Hid (upd o (off+(m+2)) s (off+(m+2))=s):=zaI _ _ _
     have HST:Hid (s=sd):=hs2
     clear hU hs d3 d4 d5 e1 e3 e4 e5 hrow hX hV hkey hsd hs2;rw [<-hW2] at hrow2 hgr2
     have HW2:=hid hW2
     clear hW2
     obtain ⟨o1,ho1⟩:∃ o1,o1=upd o (off+(m+2)) s:=⟨_,rfl⟩
     rw [<-ho1] at hrow2 K3 HU3 HO3 HO4;clear ho1 K2
     go_wp2
     rw [<-HW2.out];clear hgr y2 z2
     go_loopg [140,10] (m+2) (fun gg iv cv wx=>∃ k cc:Nat,∃ o':Nat->Nat,iv=.int .i64 (k:Nat)/\cv=.int .u64 (cc:Nat)/\k<=m+2/\m+2<=k+gg/\cc<=1 /\
      wx.rowIs g 110 N (fun i=>.int .u32 (o' i:Nat))/\w.grownBy wx (some g)/\Hid (∀ i,o' i<4294967296)/\Hid (∀ i,i<off∨off+k<=i->o' i=o1 i)/\Hid (nv (seg o' off) k+cc*4294967296 ^ k=nv (seg o1 off) k+nv fv k))
     case atStart=>exact ⟨0,0,o1,rfl,rfl,by omega,by omega,by omega,hrow2,hgr2,K3,hid fun _ _=>rfl,hid rfl⟩
     case round =>
      clear hrow2 hgr2
      obtain ⟨k,cc,o',rfl,rfl,hk,hkg,hcc,hrow,hgr,HO',HU',HV'⟩:=hrel
      by_cases hklt:k<m+2
      ·have t0:=(zdf h2 hgr (by omega)).cell hklt
       have y0:=hrow.cell (i:=off+k) (by omega)
       have z0:=hrow.frozen (off+k)
       have p0:=hfv.out k hklt
       have q0:=HO'.out (off+k)
       obtain ⟨v,hv⟩:∃ v,v=fv k:=⟨_,rfl⟩
       rw [<-hv] at t0 p0
       obtain ⟨u,hu⟩:∃ u,u=o' (off+k):=⟨_,rfl⟩
       rw [<-hu] at y0 q0
       have hus:seg o1 off k=u:=by rw [hu,HU'.out (off+k) (.inr (Nat.le_refl _))]; rfl
       have s1:=zjf (s:=u+v+cc) HV'.out (by rw [hus,hv])
       have K2:Hid (∀ (nq:Nat) (z:Int),z=(((u+v+cc) % 4294967296:Nat):Int)->((wr.drewN nq).setCell ⟨g,off+k,none⟩ (.int .u32 z)).rowIs g 110 N (fun i=>.int .u32 (upd o' (off+k) ((u+v+cc) % 4294967296) i:Nat))):=fun nq z hz=>by
        refine ((zaX hrow nq).set (off+k) _).congr fun i _=>?_
        unfold upd
        by_cases e:i=off+k
        ·rw [if_pos e,if_pos e,hz]
        ·rw [if_neg e,if_neg e]
       have K3':Hid (∀ i,upd o' (off+k) ((u+v+cc) % 4294967296) i<4294967296):=fun i=>by
        unfold upd
        split
        ·omega
        ·exact HO'.out i
       have K4:Hid (∀ i,i<off∨off+(k+1)<=i->upd o' (off+k) ((u+v+cc) % 4294967296) i=o1 i):=fun i hi=>by rw [zap (by omega)]; exact HU'.out i (by omega)
       have K8:Hid (nv (seg (upd o' (off+k) ((u+v+cc) % 4294967296)) off) (k+1)+(u+v+cc) / 4294967296*4294967296 ^ (k+1)=nv (seg o1 off) (k+1)+nv fv (k+1)):=by rw [zcn]; exact s1
       have K6:Hid (((u:Int)+v+cc) % 4294967296=(((u+v+cc) % 4294967296:Nat):Int)):=by show _=_; omega
       have K7:Hid (((u:Int)+v+cc) / 4294967296=(((u+v+cc) / 4294967296:Nat):Int)):=by show _=_; omega
       have hki:(k:Int)<(m:Int)+2:=by omega
       have hc2:(u+v+cc) / 4294967296<=1:=by omega
       clear hu hv hus s1 hrow
       go_wp2
       go_quiet (fail)
       go_wp2
       go_roundg (gk - 1)
       case measure=>omega
       case rel=>exact ⟨k+1,(u+v+cc) / 4294967296,_,by go_num,by rw [K7.out],by omega,by omega,hc2,K2.out _ _ K6.out,zaq (zdD hgr _) _,K3',K4,K8⟩
      ·obtain rfl:k=m+2:=by omega
       have y2:=hrow.cell (i:=off+(m+2)) (by omega)
       have z2:=hrow.frozen (off+(m+2))
       have hO2:o' (off+(m+2))=s:=by rw [HU'.out _ (.inr (Nat.le_refl _)),HO4.out]
       rw [hO2] at y2
       obtain ⟨g0,g1,g2,g3,g4⟩:=HKEY.out o' cc HO'.out (by rw [HV'.out,zbB HO3.out])
       have hsB:s=4294967295:=by rw [HST.out,HSD.out,g0]; omega
       have hw0:IntKind.u32.wrap ((s:Int)+(cc:Int))=0:=by rw [hsB,g1]; rfl
       have hcm:(cc:Int) % 4294967296=(cc:Int):=by omega
       have hq5:((q:Int) - 1) % 4294967296=((q - 1:Nat):Int):=by omega
       have hq6:((q:Int) - 1)=((q - 1:Nat):Int):=by omega
       have hq7:((q - 1:Nat):Int) % 4294967296=((q - 1:Nat):Int):=by omega
       have G1:Hid (nv (seg f off) (m+2+1) / nv fv (m+2)=q - 1):=g3
       have G2:Hid (nv (seg (upd o' (off+(m+2)) 0) off) (m+2+1)=nv (seg f off) (m+2+1) % nv fv (m+2)):=by
        show _=_
        rw [g4,zcn,zbP]
        omega
       have G3:Hid (∀ i,i<off∨off+(m+2)<i->upd o' (off+(m+2)) 0 i=f i):=fun i hi=>by rw [zap (by omega),HU'.out i (by omega)]; exact HU3.out i hi
       have K2':Hid ((wr.setCell ⟨g,off+(m+2),none⟩ (.int .u32 0)).rowIs g 110 N (fun i=>.int .u32 (upd o' (off+(m+2)) 0 i:Nat))):=by
        refine (hrow.set (off+(m+2)) _).congr fun i _=>?_
        unfold upd
        by_cases e:i=off+(m+2)
        ·rw [if_pos e,if_pos e]; rfl
        ·rw [if_neg e,if_neg e]
       have K3':Hid (∀ i,upd o' (off+(m+2)) 0 i<4294967296):=fun i=>by
        unfold upd
        split
        ·omega
        ·exact HO'.out i
       have hgr3:=zaq (i:=off+(m+2)) hgr (.int .u32 0)
       clear g0 g1 g3 g4 hsB hrow
       go_wp2
       go_ret
       exact ⟨_,by rw [G1.out]; rfl,K2'.out,K3'.out,G3.out,G2.out,hgr3⟩
theorem ze8 {f o:Nat->Nat} {k n ca s:Nat} (hv:nv o k+ca*4294967296 ^ k=nv f k*2 ^ n) (hs:s=f k*2 ^ n+ca) :
  nv (upd o k (s % 4294967296)) (k+1)+s / 4294967296*4294967296 ^ (k+1)=nv f (k+1)*2 ^ n:=by
 simp only [nv]
 rw [zbc (Nat.le_refl _),zaI]
 have hc:=zbx s k
 subst hs
 grind
theorem zjh {x n ca:Nat} (hx:x<4294967296) (hn:n<=31) (hc:ca<2 ^ n):bits .or .u64 ((x:Int)*2 ^ n) (ca:Int)=((x*2 ^ n+ca:Nat):Int):=by
 have hp:2 ^ n<=2 ^ 31:=Nat.pow_le_pow_right (by omega) hn
 have h1:x*2 ^ n<=4294967295*2 ^ 31:=Nat.mul_le_mul (by omega) hp
 have h:=bits_or_u64_nat (x*2 ^ n) ca (by omega) (by omega)
 rw [Int.natCast_mul,Int.natCast_pow] at h
 rw [show ((2:Nat):Int)=2 from rfl] at h
 rw [h]
 have e:=Nat.two_pow_add_eq_or_of_lt hc x
 rw [Nat.mul_comm] at e;rw [<-e]
def ShiftPost (n s:Nat) (f:Nat->Nat) (w:World) (e:Ending) (w':World):Prop :=
 ∃ o:Nat->Nat,e=.returned (.slice (some ⟨w.heap.size,0,none⟩) (n+1) (n+1))/\w'.rowIs w.heap.size 110 (n+1) (fun i=>.int .u32 (o i:Nat))/\(∀ i,o i<4294967296)/\nv o (n+1)=nv f n*2 ^ s/\Below w.heap.size w w'
theorem zfH (A:Option Addr) (n c s:Nat) (f:Nat->Nat) (w:World) (h:Lims w w.heap.size A n f) (hf:Hid (∀ i,i<n->f i<4294967296)) (hn:n<=536870912) (hs:s<=31) :
  Calls Tryz.prog 266 #[.slice A n c,.int .i64 (s:Nat)] w (ShiftPost n s f w):=by
 have hmk:=fun W=>zau (P:=Tryz.prog) 47 110 _ 4 Tryz.underlying47 Tryz.infoU32 rfl ((n:Int)+1) (by omega) (by omega) (by omega) W
 have e1:((n:Int)+1).toNat=n+1:=by omega
 have hrow0:=World.rowIs_made w (.int .u32 0) (n+1) 110
 obtain ⟨P,hP⟩:∃ P,P=2 ^ s:=⟨_,rfl⟩
 have hP0:0<P:=by rw [hP]; exact Nat.pow_pos (by omega)
 have hP1:P<=2147483648:=by rw [hP]; exact Nat.pow_le_pow_right (n:=2) (by omega) hs
 have HP:=hid hP
 clear hP
 go_enter Tryz.func266, Tryz.ntmps266
 go_wp2
 go_loopg [16,6] n (fun gg iv cv wx=>∃ k ca:Nat,∃ o:Nat->Nat,iv=.int .i64 (k:Nat)/\cv=.int .u64 (ca:Nat)/\k<=n/\n<=k+gg/\ca<P/\Below w.heap.size w wx/\wx.rowIs w.heap.size 110 (n+1) (fun i=>.int .u32 (o i:Nat))/\Hid (∀ i,o i<4294967296)/\Hid (nv o k+ca*4294967296 ^ k=nv f k*2 ^ s))
 case atStart=>exact ⟨0,0,fun _=>0,rfl,rfl,by omega,by omega,hP0,(Below.refl _ _).alloc (Nat.le_refl _) _,hrow0,hid fun _=>by show 0<_; omega,hid (by simp [nv])⟩
 case round =>
  clear hrow0 hmk
  obtain ⟨k,ca,o,rfl,rfl,hk,hkg,hca,hB,hrow,HO,HV⟩:=hrel
  have hz:=hrow.lt
  by_cases hlt:k<n
  ·obtain ⟨b1,o1,rfl,hb2,e0⟩:=(h.on hB).at (i:=k) (by omega)
   have q1:=hf.out k hlt
   have hlt':(k:Int)<(n:Int):=by omega
   have y0:=hrow.cell (i:=k) (by omega)
   have z0:=hrow.frozen k
   obtain ⟨x,hx⟩:∃ x,x=f k:=⟨_,rfl⟩
   rw [<-hx] at e0 q1
   have HX:=hid hx
   have ht1:x*P+ca<4294967296*P:=by
    have:(x+1)*P<=4294967296*P:=Nat.mul_le_mul_right _ q1
    rw [Nat.add_mul,Nat.one_mul] at this
    omega
   obtain ⟨t,ht⟩:∃ t,t=x*P+ca:=⟨_,rfl⟩
   rw [<-ht] at ht1
   have hwr:IntKind.u64.wrap ((x:Int)*2 ^ s)=(x:Int)*2 ^ s:=by
    refine IntWalk.u64_in _ ?_
    have e:((x:Int)*2 ^ s)=((x*P:Nat):Int):=by rw [HP.out,Int.natCast_mul,Int.natCast_pow]; rfl
    rw [e]
    omega
   have hor:bits .or .u64 (IntKind.u64.wrap ((x:Int)*2 ^ s)) (ca:Int)=(t:Int):=by
    rw [hwr,zjh q1 hs (by rw [<-HP.out]; exact hca),ht,HP.out]
   have s1:=ze8 (s:=t) HV.out (by rw [ht,hx,HP.out])
   have K2:Hid ((wr.setCell ⟨w.heap.size,k,none⟩ (.int .u32 ((t:Int) % 4294967296))).rowIs w.heap.size 110 (n+1) (fun i=>.int .u32 (upd o k (t % 4294967296) i:Nat))):=by
    refine (hrow.set k _).congr fun i _=>?_
    unfold upd
    by_cases e:i=k
    ·rw [if_pos e,if_pos e]; rfl
    ·rw [if_neg e,if_neg e]
   have K3:Hid (∀ i,upd o k (t % 4294967296) i<4294967296):=fun i=>by
    unfold upd
    split
    ·omega
    ·exact HO.out i
   have K1:=hid s1
   have K4:Hid (t / 4294967296<P):=by show _<_; omega
   have ht64:(t:Int)<=18446744073709551615:=by omega
   clear hx ht s1 hwr ht1
   go_wp2
   go_roundg (gk - 1)
   case measure=>omega
   case rel=>exact ⟨k+1,t / 4294967296,_,by go_num,rfl,by omega,by omega,K4.out,hB.setCell (Nat.le_refl _) _,K2.out,K3,K1⟩
  ·obtain rfl:k=n:=by omega
   have y0:=hrow.cell (i:=k) (by omega)
   have z0:=hrow.frozen k
   have hcm:(ca:Int) % 4294967296=(ca:Int):=by omega
   have K2:Hid ((wr.setCell ⟨w.heap.size,k,none⟩ (.int .u32 (ca:Nat))).rowIs w.heap.size 110 (k+1) (fun i=>.int .u32 (upd o k ca i:Nat))):=by
    refine (hrow.set k _).congr fun i _=>?_
    unfold upd
    by_cases e:i=k
    ·rw [if_pos e,if_pos e]
    ·rw [if_neg e,if_neg e]
   have K3:Hid (∀ i,upd o k ca i<4294967296):=fun i=>by
    unfold upd
    split
    ·omega
    ·exact HO.out i
   have K1:Hid (nv (upd o k ca) (k+1)=nv f k*2 ^ s):=by show _=_; rw [zbP]; exact HV.out
   clear hrow
   go_wp2
   go_ret
   exact ⟨_,rfl,K2.out,K3.out,K1.out,hB.setCell (Nat.le_refl _) _⟩
theorem zji {x i:Nat} (h:dl x<=i):dg x i=0:=by
 unfold dg
 rw [Nat.div_eq_of_lt (Nat.lt_of_lt_of_le (zaT x) (Nat.pow_le_pow_right (by omega) h)),Nat.zero_mod]
theorem ze9 {x n:Nat} (h:dl x<=n):nv (dg x) n=x:=by
 rw [zca h fun i hi _=>zji hi,zcg]
theorem zh4 {r x:Nat} (hr:r<4294967296) (hx:x<4294967296):bits .or .u64 (x:Int) ((r:Int)*4294967296)=((x+4294967296*r:Nat):Int):=by
 have h:=bits_or_u64_nat x (r*4294967296) (by omega) (by omega)
 rw [Int.natCast_mul] at h
 rw [show ((4294967296:Nat):Int)=4294967296 from rfl] at h
 rw [h]
 have e:=Nat.two_pow_add_eq_or_of_lt (i:=32) (b:=x) hx r
 rw [show (2:Nat) ^ 32=4294967296 from rfl,Nat.mul_comm] at e
 rw [Nat.or_comm,Nat.mul_comm] at e;rw [Nat.mul_comm r]
 congr 1
 omega
theorem zkb {y s:Nat} (h0:y≠0) (hs:s+nlen (dg y (dl y - 1))=32):y*2 ^ s<4294967296 ^ dl y:=by
 obtain ⟨k,hk⟩:∃ k,dl y=k+1:=⟨dl y - 1,by have:=zdr h0; omega⟩
 have h1:y<(dg y k+1)*4294967296 ^ k:=by
  have h2:=zcg y
  rw [hk] at h2
  have h3:=zeX (f:=dg y) (n:=k) fun i _=>zes y i
  simp only [nv] at h2
  rw [Nat.add_mul]
  omega
 have h4:dg y k+1<=2 ^ nlen (dg y k):=zbW _
 rw [hk,Nat.add_sub_cancel] at hs
 have h5:(dg y k+1)*4294967296 ^ k*2 ^ s<=2 ^ nlen (dg y k)*4294967296 ^ k*2 ^ s:=Nat.mul_le_mul_right _ (Nat.mul_le_mul_right _ h4)
 have h6:2 ^ nlen (dg y k)*4294967296 ^ k*2 ^ s=4294967296 ^ (k+1):=by
  have:(2:Nat) ^ (s+nlen (dg y k))=4294967296:=by rw [hs]
  rw [Nat.pow_succ,<-this,Nat.pow_add]
  generalize (2:Nat) ^ s=a
  generalize (2:Nat) ^ nlen (dg y k)=b
  grind
 have h7:y*2 ^ s<(dg y k+1)*4294967296 ^ k*2 ^ s:=Nat.mul_lt_mul_of_pos_right h1 (Nat.pow_pos (by omega))
 rw [hk]
 omega
theorem zjj {y s:Nat} (h0:y≠0) (hs:s+nlen (dg y (dl y - 1))=32):dl (y*2 ^ s)=dl y:=by
 have h1:=zdO (zkb h0 hs)
 have h2:=zaw (Nat.le_mul_of_pos_right y (Nat.pow_pos (n:=s) (show 0<2 by omega)))
 omega
theorem zgS {u:Nat->Nat} {x y s n k:Nat} (h0:y≠0) (hk:dl y=k) (hn:dl x=n) (hkn:k<=n) (hu:nv u (n+1)=x*2 ^ s):nv (seg u (n+1 - k)) k<y*2 ^ s:=by
 have e:n+1=n+1 - k+k:=by omega
 rw [e,zh2] at hu
 have h1:x*2 ^ s<4294967296 ^ n*2 ^ s:=Nat.mul_lt_mul_of_pos_right (by rw [<-hn]; exact zaT x) (Nat.pow_pos (by omega))
 have h2:4294967296 ^ (k - 1)<=y:=by rw [<-hk]; exact zfv h0
 have h3:4294967296 ^ (k - 1)*2 ^ s<=y*2 ^ s:=Nat.mul_le_mul_right _ h2
 have hk1:1<=k:=by rw [<-hk]; have:=zdr h0; omega
 have h4:(4294967296:Nat) ^ n=4294967296 ^ (n+1 - k)*4294967296 ^ (k - 1):=by rw [<-Nat.pow_add]; congr 1; omega
 rw [h4] at h1
 have h5:nv (seg u (n+1 - k)) k*4294967296 ^ (n+1 - k)<4294967296 ^ (n+1 - k)*(4294967296 ^ (k - 1)*2 ^ s):=by
  rw [<-Nat.mul_assoc]; omega
 rw [Nat.mul_comm] at h5
 have:=Nat.lt_of_mul_lt_mul_left h5
 omega
theorem zh5 {u u' qo:Nat->Nat} {j k L nq V X:Nat} (hjL:j+k+1<=L) (hz:∀ i,j+1+k<=i->i<L->u i=0) (hX:X=V*(hv qo (j+1) nq*4294967296 ^ (j+1))+nv u L) (hjn:j<nq)
  (he:∀ i,i<j∨j+k<i->u' i=u i) (hm:nv (seg u' j) (k+1)=nv (seg u j) (k+1) % V) (hVk:V<4294967296 ^ k) (hV:0<V) :
  (∀ i,j+k<=i->i<L->u' i=0)/\nv (seg u' j) k<V/\X=V*(hv (upd qo j (nv (seg u j) (k+1) / V)) j nq*4294967296 ^ j)+nv u' L:=by
 have hU:nv (seg u' j) (k+1)<V:=by rw [hm]; exact Nat.mod_lt _ hV
 have hU2:nv (seg u' j) (k+1)=nv (seg u' j) k+seg u' j k*4294967296 ^ k:=rfl
 have h0:seg u' j k=0:=by
  rcases Nat.eq_zero_or_pos (seg u' j k) with h | h
  ·exact h
  ·have:1*4294967296 ^ k<=seg u' j k*4294967296 ^ k:=Nat.mul_le_mul_right _ h
   omega
 have e1:nv u L=nv u j+nv (seg u j) (k+1)*4294967296 ^ j:=by
  rw [<-zh2]
  exact zca (by omega) fun i h1 h2=>hz i (by omega) h2
 have e2:nv u' L=nv u j+nv (seg u' j) (k+1)*4294967296 ^ j:=by
  rw [<-zbB (f:=u') (g:=u) (n:=j) fun i hi=>he i (.inl hi),<-zh2]
  exact zca (by omega) fun i h1 h2=>by rw [he i (.inr (by omega))]; exact hz i (by omega) h2
 refine ⟨fun i h1 h2=>?_,by rw [hU2,h0] at hU; omega,?_⟩
 ·by_cases e:i=j+k
  ·rw [e]; exact h0
  ·rw [he i (.inr (by omega))]; exact hz i (by omega) h2
 ·rw [zgr hjn,zaI,zgs (g:=qo) fun i h1 _=>zap (by omega),e2,hX,e1,hm,Nat.pow_succ]
  have:=Nat.div_add_mod (nv (seg u j) (k+1)) V
  generalize nv (seg u j) (k+1) / V=d at *
  generalize nv (seg u j) (k+1) % V=r at *
  generalize nv (seg u j) (k+1)=U at *
  generalize hv qo (j+1) nq=H at *
  generalize (4294967296:Nat) ^ j=P at *
  subst this
  grind
theorem zjk {u qo:Nat->Nat} {x y s k L nq:Nat} (hk:k<=L) (hz:∀ i,k<=i->i<L->u i=0) (hX:x*2 ^ s=y*2 ^ s*(hv qo 0 nq*4294967296 ^ 0)+nv u L) (hr:nv (seg u 0) k<y*2 ^ s) :
  nv qo nq=x / y/\nv u L / 2 ^ s=x % y/\nv u L<y*2 ^ s:=by
 have h1:nv u L=nv (seg u 0) k:=by
  rw [zca hk fun i h1 h2=>hz i h1 h2]
  exact zbB fun i _=>by unfold seg; rw [Nat.zero_add]
 rw [<-h1] at hr;rw [ziU,Nat.pow_zero,Nat.mul_one] at hX
 have hp:0<2 ^ s:=Nat.pow_pos (by omega)
 generalize 2 ^ s=P at *
 generalize nv u L=r at *
 generalize nv qo nq=q at *
 have hy:0<y:=by
  rcases Nat.eq_zero_or_pos y with h | h
  ·rw [h] at hr; omega
  ·exact h
 -- P divides r
 obtain ⟨t,ht⟩:∃ t,r=P*t:=by
  have hd:P ∣ r:=by
   have h2:P ∣ y*P*q+r:=⟨x,by rw [<-hX,Nat.mul_comm]⟩
   exact (Nat.dvd_add_right ⟨y*q,by rw [Nat.mul_comm y P,Nat.mul_assoc]⟩).1 h2
  exact hd
 subst ht
 have h3:t<y:=by
  rw [Nat.mul_comm y P] at hr
  exact Nat.lt_of_mul_lt_mul_left hr
 have h4:x=y*q+t:=by
  have:P*x=P*(y*q+t):=by
   rw [Nat.mul_comm P x,hX]
   grind
  exact Nat.eq_of_mul_eq_mul_left hp this
 subst h4
 exact ⟨by rw [Nat.mul_add_div hy,Nat.div_eq_of_lt h3,Nat.add_zero],by rw [Nat.mul_div_cancel_left _ hp,Nat.mul_add_mod,Nat.mod_eq_of_lt h3],hr⟩
def LongPost (x y:Nat) (w:World) (e:Ending) (w':World):Prop :=
 ∃ A n o A2 m r,e=.returned (.tuple #[.slice A n n,.slice A2 m m])/\n<=268435457/\m<=268435457/\Lims w' w'.heap.size A n o/\Lims w' w'.heap.size A2 m r/\(∀ i,i<n->o i<4294967296)/\(∀ i,i<m->r i<4294967296) /\
  nv o n=x / y/\nv r m=x % y/\Below w.heap.size w w'
theorem zad {w w':World} {g g2:Nat} {t:TypeId} {n:Nat} {f:Nat->Value} (h:w.rowIs g2 t n f) (hg:w.grownBy w' (some g)) (hne:g2≠g):w'.rowIs g2 t n f :=
 h.of_block (hg.block g2 h.lt (by simp; omega))
theorem zgT (A A2:Option Addr) (c c2 x y m:Nat) (w:World) (h:NatOk w w.heap.size A x) (h2:NatOk w w.heap.size A2 y) (hm:dl y=m+2) (hle:y<=x) (hn:dl x<=268435456) :
  Calls Tryz.prog 253 #[.slice A (dl x) c,.slice A2 (dl y) c2] w (LongPost x y w):=by
 have h0:y≠0:=fun e=>by rw [e,zas] at hm; omega
 have hdl:=zaw hle
 obtain ⟨top,ht⟩:∃ t,t=dg y (dl y - 1):=⟨_,rfl⟩
 have ht0:top≠0:=by rw [ht]; exact zgp h0
 have ht1:top<4294967296:=by rw [ht]; exact zes _ _
 have hb0:=zcC (x:=top) (by omega)
 have hb1:nlen top<=32:=zci (by omega)
 have hb2:=zaY ht0
 obtain ⟨s,hs⟩:∃ s,s=32 - nlen top:=⟨_,rfl⟩
 have hs31:s<=31:=by omega
 have hlz:(32 - (Lib.bitLen top:Int))=(s:Int):=by rw [hb0,hs]; omega
 have HS:Hid (s+nlen (dg y (dl y - 1))=32):=by show _=_; rw [<-ht]; omega
 have t0:∃ b o,A2=some ⟨b,o,none⟩/\b<w.heap.size/\w.cell? ⟨b,o+(m+1),none⟩=some (.int .u32 (top:Nat)):=by
  obtain ⟨b,o,e,h1,h3⟩:=h2.at (i:=dl y - 1) (by omega)
  rw [<-ht] at h3;rw [hm] at h3
  exact ⟨b,o,e,h1,h3⟩
 obtain ⟨b,o,rfl,hbw,t0⟩:=t0
 have HLZ:=hid (Tryz.bits_LeadingZeros32 (top:Int))
 have i1:((m:Int)+2 - 1).toNat=m+1:=by omega
 have hmn:m+2<=dl x:=by omega
 have HM:=hid hm
 have e64:((top:Int).toNat)=top:=by omega
 rw [hm]
 have HX0:=hid (fun (u:Nat->Nat) (hu:nv u (dl x+1)=x*2 ^ s)=>zgS (u:=u) (s:=s) h0 rfl rfl hdl hu)
 have HVk:=hid (zkb h0 HS.out)
 have HV0:Hid (0<y*2 ^ s):=Nat.mul_pos (by omega) (Nat.pow_pos (by omega))
 have HVd:=hid (ze9 (x:=y*2 ^ s) (n:=m+2) (by rw [zjj h0 HS.out,hm]; exact Nat.le_refl _))
 have HVt:Hid (0<dg (y*2 ^ s) (m+1)):=by
  have:=zgp (x:=y*2 ^ s) (by have:=HV0.out; omega)
  rw [zjj h0 HS.out,hm] at this
  exact Nat.pos_of_ne_zero this
 have HEND:=hid (fun (u qo:Nat->Nat) (nq:Nat)=>zjk (u:=u) (qo:=qo) (x:=x) (y:=y) (s:=s) (k:=m+2) (L:=dl x+1) (nq:=nq))
 rw [hm] at HX0 HVk
 obtain ⟨nq,hnq⟩:∃ nq,dl x+1=nq+(m+2):=⟨dl x+1 - (m+2),by omega⟩
 have enq:((dl x:Int)+1 - ((m:Int)+2))=(nq:Int):=by omega
 have hmk:=fun W=>zau (P:=Tryz.prog) 47 110 _ 4 Tryz.underlying47 Tryz.infoU32 rfl (nq:Int) (by omega) (by omega) (by omega) W
 have hmk2:=fun W=>zau (P:=Tryz.prog) 47 110 _ 4 Tryz.underlying47 Tryz.infoU32 rfl ((m:Int)+2) (by omega) (by omega) (by omega) W
 have em2:((m:Int)+2).toNat=m+2:=by omega
 clear ht hb0 hb1 hb2 hs hm
 go_enter Tryz.func253, Tryz.ntmps253
 go_wp2_with fail
 refine (HLZ.out _ (by omega) (by omega)).mono ?_
 rintro e w1 ⟨rfl,hw1⟩
 obtain rfl:=hw1.symm
 rw [e64,hlz];clear HLZ hlz e64 t0
 have g2:Lims w w.heap.size (some ⟨b,o,none⟩) (m+2) (dg y):=by rw [<-HM.out]; exact h2
 go_wp2_with fail
 refine (zfH (some ⟨b,o,none⟩) (m+2) c2 s (dg y) w g2 (hid fun i _=>zes y i) (by omega) hs31).mono ?_
 rintro e w1 ⟨o1,rfl,r1,r2,r3,r4⟩
 rw [ze9 (by rw [HM.out]; exact Nat.le_refl _)] at r3
 have hw1:=r1.lt
 go_wp2_with fail
 refine (zbk (some ⟨w.heap.size,0,none⟩) (m+2+1) (m+2+1) o1 w1 (zbq r1) (hid fun i _=>r2 i) (Nat.le_refl _) (by unfold maxLen; omega)).mono ?_
 rintro e w2 ⟨rfl,r5,rfl⟩
 rw [r3] at r5 ⊢
 have HD:=hid (zjj h0 HS.out)
 rw [HD.out,HM.out]
 have hV:Lims w1 (w.heap.size+1) (some ⟨w.heap.size,0,none⟩) (m+2) (dg (y*2 ^ s)):=by
  unfold NatOk at r5
  rw [HD.out,HM.out] at r5
  intro i hi
  obtain ⟨b',o',e',_,h'⟩:=r5 i hi
  injection e' with e'
  injection e' with e1 e2
  subst e1 e2
  exact ⟨_,_,rfl,by omega,h'⟩
 have hA:=h.on r4
 clear r1 r2 r3 r5 g2 h h2 hbw
 go_wp2_with fail
 refine (zfH A (dl x) c s (dg x) w1 hA (hid fun i _=>zes x i) (by omega) hs31).mono ?_
 rintro e w2 ⟨u,rfl,r1,r2,r3,r5⟩
 rw [zcg] at r3
 have hw2:=r1.lt
 obtain ⟨g,hg⟩:∃ g,g=w1.heap.size:=⟨_,rfl⟩
 have hV2:Lims w2 g (some ⟨w.heap.size,0,none⟩) (m+2) (dg (y*2 ^ s)):=by
  rw [hg]
  exact (Rd.below hV r5 (by omega)).mono (by omega)
 have hB2:=onS r4 r5
 rw [<-hg] at hw1 hw2 r1 ⊢;clear hV r4 r5 hA hg
 have hrow0:=World.rowIs_made w2 (.int .u32 0) nq 110
 have hru0:=r1.of_block (Below.heap_alloc w2 (.cells (madeCells #[Value.int .u32 0] nq) 110) g hw2)
 have hVa:=(Rd.alloc hV2 (by omega) (.cells (madeCells #[Value.int .u32 0] nq) 110))
 have hB0:=hB2.alloc (by have:=hB2.size; omega) (.cells (madeCells #[Value.int .u32 0] nq) 110)
 obtain ⟨g2,hg2⟩:∃ g2,g2=w2.heap.size:=⟨_,rfl⟩
 have HS0:=hid (HX0.out u r3)
 have HR3:=hid r3
 have HR2:=hid r2
 clear r1 hV2 hB2 r2 r3
 have hB2s:=hB0.size
 go_wp2
 rw [<-hg2] at hrow0 ⊢
 have hgg0:g<g2:=by omega
 clear hg2 hw2
 go_loopg [10] nq (fun gg jv wx=>∃ J:Nat,∃ u' qo:Nat->Nat,jv=.int .i64 ((J:Nat) - 1:Int)/\J<=nq/\J<=gg/\Below w.heap.size w wx/\wx.rowIs g 110 (dl x+1) (fun i=>.int .u32 (u' i:Nat))/\wx.rowIs g2 110 nq (fun i=>.int .u32 (qo i:Nat)) /\
  Lims wx g (some ⟨w.heap.size,0,none⟩) (m+2) (dg (y*2 ^ s))/\Hid (∀ i,u' i<4294967296)/\Hid (∀ i,qo i<4294967296)/\Hid (∀ i,J+(m+2)<=i->i<dl x+1->u' i=0)/\Hid (nv (seg u' J) (m+2)<y*2 ^ s) /\
  Hid (x*2 ^ s=y*2 ^ s*(hv qo J nq*4294967296 ^ J)+nv u' (dl x+1)))
 case atStart =>
  refine ⟨nq,u,fun _=>0,by rw [<-enq],by omega,by omega,hB0,hru0,hrow0,hVa,HR2,hid fun _=>by show 0<_; omega,hid fun i h1 h2=>by omega,?_,?_⟩
  ·have:=HS0.out
   rw [show dl x+1 - (m+2)=nq by omega] at this
   exact this
  ·show _=_
   rw [ziT,HR3.out]; omega
 case round =>
  clear hrow0 hru0 hVa hB0 hmk HS0 HR3 HR2
  obtain ⟨J,u',qo,rfl,hJ,hJg,hB,hru,hrq,hV,HU,HQ,HZ,HSG,HXX⟩:=hrel
  by_cases hJ0:0<J
  ·obtain ⟨j,rfl⟩:∃ j,J=j+1:=⟨J - 1,by omega⟩
   have ek:(((j+1:Nat):Int) - 1)=(j:Int):=by omega
   rw [ek]
   have hj0:(0:Int)<=(j:Int):=by omega
   have hpre:Hid (nv (seg u' j) (m+3)<nv (dg (y*2 ^ s)) (m+2)*4294967296):=by
    show _<_
    rw [HVd.out,show m+3=m+2+1 from rfl,zj9]
    have h1:=HSG.out
    have h2:=HU.out j
    have h3:(nv (seg u' (j+1)) (m+2)+1)*4294967296<=y*2 ^ s*4294967296:=Nat.mul_le_mul_right _ h1
    omega
   have hwj:w.heap.size<=g:=by omega
   go_wp2_with fail
   rw [show j+(m+2)+1 - j=m+3 by omega]
   refine (zjg g j m (dl x+1) (nq+(m+2) - j) (m+2) (some ⟨w.heap.size,0,none⟩) u' (dg (y*2 ^ s)) wr hru (by omega) (by omega) HU hV (hid fun i _=>zes _ i) HVt.out hpre).mono ?_
   rintro e w3 ⟨f',rfl,r1,r2,r3,r4,r5⟩
   rw [HVd.out] at r4 ⊢
   have hru3:=r1
   have hrq3:=zad hrq r5 (by omega)
   have hV3:=zdf hV r5 (by have:=hru.lt; omega)
   have hB3:Below w.heap.size w w3:=hB.grown r5 (by have:=hB.size; omega) (fun q e=>by injection e with e; omega)
   have hd1:nv (seg u' j) (m+3) / (y*2 ^ s)<4294967296:=by
    refine Nat.div_lt_of_lt_mul ?_
    have:=hpre.out
    rwa [HVd.out] at this
   obtain ⟨z1,z2,z3⟩:=zh5 (u:=u') (u':=f') (qo:=qo) (j:=j) (k:=m+2) (L:=dl x+1) (nq:=nq) (V:=y*2 ^ s) (X:=x*2 ^ s) (by omega) (fun i h1 h2=>HZ.out i h1 h2) HXX.out (by omega) r3 r4 HVk.out HV0.out
   obtain ⟨d,hd⟩:∃ d,d=nv (seg u' j) (m+3) / (y*2 ^ s):=⟨_,rfl⟩
   rw [show m+2+1=m+3 from rfl,<-hd] at z3
   rw [show m+2+1=m+3 from rfl,<-hd]
   rw [<-hd] at hd1
   have K1:=hid z1
   have K2:=hid z2
   have K3:=hid z3
   have K4:Hid (∀ i,upd qo j d i<4294967296):=fun i=>by
    unfold upd
    split
    ·exact hd1
    ·exact HQ.out i
   have K5:Hid ((w3.setCell ⟨g2,j,none⟩ (.int .u32 (d:Nat))).rowIs g2 110 nq (fun i=>.int .u32 (upd qo j d i:Nat))):=by
    refine (hrq3.set j _).congr fun i _=>?_
    unfold upd
    by_cases e:i=j
    ·rw [if_pos e,if_pos e]
    ·rw [if_neg e,if_neg e]
   have y0:=hrq3.cell (i:=j) (by omega)
   have z0:=hrq3.frozen j
   have hjn:(j:Int)<(nq:Int):=by omega
   have HU':=hid r2
   have hgg:g<g2:=by omega
   have hru4:(w3.setCell ⟨g2,j,none⟩ (.int .u32 (d:Nat))).rowIs g 110 (dl x+1) (fun i=>.int .u32 (f' i:Nat)):=zad hru3 (zaq (zby w3 (some g2)) _) (by omega)
   have hV4:=hV3.setCell (p:=⟨g2,j,none⟩) (by show g<=g2; omega) (.int .u32 (d:Nat))
   have hB4:Below w.heap.size w (w3.setCell ⟨g2,j,none⟩ (.int .u32 (d:Nat))):=hB3.setCell (by show w.heap.size<=g2; omega) _
   clear z1 z2 z3 r1 r2 r3 r4 r5 hrq hV hru hB hd hru3 hrq3 hV3 hB3 hpre
   go_wp2
   go_roundg (gk - 1)
   case measure=>omega
   case rel=>exact ⟨j,f',_,rfl,by omega,by omega,hB4,hru4,K5.out,hV4,HU',K4,K1,K2,K3⟩
  ·obtain rfl:J=0:=by omega
   obtain ⟨e1,e2,e3⟩:=HEND.out u' qo nq (by omega) (fun i h1 h2=>HZ.out i (by omega) h2) HXX.out HSG.out
   obtain ⟨Y,hY⟩:∃ Y,Y=nv u' (dl x+1):=⟨_,rfl⟩
   have HDG:Hid (∀ t,t<m+2->dg (Y / 2 ^ s) t=(u' t+4294967296*u' (t+1)) / 2 ^ s % 4294967296):=fun t ht=>by
    rw [zje _ _ _ (by omega),hY,zkH (fun i _=>HU.out i) t (by omega),zkH (fun i _=>HU.out i) (t+1) (by omega)]
   have HYd:Hid (dl (Y / 2 ^ s)<=m+2):=by
    have:Y / 2 ^ s<=Y:=Nat.div_le_self _ _
    refine zdO (Nat.lt_of_le_of_lt this ?_)
    have:=HVk.out
    omega
   rw [<-hY] at e2 e3
   have E1:=hid e1
   have E2:=hid e2
   have hrr0:=World.rowIs_made wr (.int .u32 0) (m+2) 110
   have hg3:=hru.lt
   have hg4:=hrq.lt
   have hru0:=hru.of_block (Below.heap_alloc wr (.cells (madeCells #[Value.int .u32 0] (m+2)) 110) g hg3)
   have hrq0:=hrq.of_block (Below.heap_alloc wr (.cells (madeCells #[Value.int .u32 0] (m+2)) 110) g2 hg4)
   have hB0:=hB.alloc hB.size (.cells (madeCells #[Value.int .u32 0] (m+2)) 110)
   obtain ⟨g5,hg5⟩:∃ g5,g5=wr.heap.size:=⟨_,rfl⟩
   have hB5:=hB.size
   clear e1 e2 e3 hY hru hrq hV HZ HSG HXX hB
   go_wp2
   rw [<-hg5] at hrr0 ⊢
   have hg25:g2<g5:=by omega
   have hgw5:w.heap.size<=g5:=by omega
   clear hmk2 hg5 hg3 hg4 hB5
   go_loopg [58] (m+2) (fun gg iv wx=>∃ t:Nat,∃ ro:Nat->Nat,iv=.int .i64 (t:Nat)/\t<=m+2/\m+2<=t+gg/\Below w.heap.size w wx/\wx.rowIs g 110 (dl x+1) (fun i=>.int .u32 (u' i:Nat))/\wx.rowIs g2 110 nq (fun i=>.int .u32 (qo i:Nat)) /\
    wx.rowIs g5 110 (m+2) (fun i=>.int .u32 (ro i:Nat))/\Hid (∀ i,ro i<4294967296)/\Hid (∀ i,i<t->ro i=dg (Y / 2 ^ s) i))
   case atStart=>exact ⟨0,fun _=>0,rfl,by omega,by omega,hB0,hru0,hrq0,hrr0,hid fun _=>by show 0<_; omega,hid fun i hi=>absurd hi (by omega)⟩
   case round =>
    clear hB0 hru0 hrq0 hrr0
    obtain ⟨t,ro,rfl,ht,htg,hB,hru,hrq,hrr,HRO,HRD⟩:=hrel
    by_cases hlt:t<m+2
    ·have y0:=hru.cell (i:=t) (by omega)
     have y1:=hru.cell (i:=t+1) (by omega)
     have y5:=hrr.cell (i:=t) (by omega)
     have z5:=hrr.frozen t
     have q0:=HU.out t
     have q1:=HU.out (t+1)
     have hd:=HDG.out t hlt
     obtain ⟨a,ha⟩:∃ a,a=u' t:=⟨_,rfl⟩
     obtain ⟨b,hb⟩:∃ b,b=u' (t+1):=⟨_,rfl⟩
     rw [<-ha] at y0 q0 hd;rw [<-hb] at y1 q1 hd
     obtain ⟨z,hz⟩:∃ z,z=a+4294967296*b:=⟨_,rfl⟩
     have hor:bits .or .u64 (a:Int) ((b:Int)*4294967296)=(z:Int):=by rw [hz]; exact zh4 q1 q0
     rw [<-hz] at hd
     have HD2:=hid hd
     have hti:(t:Int)<(m:Int)+2:=by omega
     have hta:(t:Int)<(nq:Int)+((m:Int)+2):=by omega
     have htx:(t:Int)+1<(nq:Int)+((m:Int)+2):=by omega
     have ht0':(0:Int)<=(t:Int):=by omega
     have ht1':(0:Int)<=(t:Int)+1:=by omega
     have htw:IntKind.i64.wrap ((t:Int)+1)=(t:Int)+1:=IntWalk.i64_in _ (by omega)
     have hbw2:IntKind.u64.wrap ((b:Int)*4294967296)=(b:Int)*4294967296:=IntWalk.u64_in _ (by omega)
     have ht1:((t:Int)+1).toNat=t+1:=by omega
     obtain ⟨d,hdd⟩:∃ d,d=z / 2 ^ s % 4294967296:=⟨_,rfl⟩
     have hdz:Hid ((z:Int) / 2 ^ s % 4294967296=(d:Int)):=by
      show _=_
      rw [hdd]
      simp [Int.natCast_pow]
     rw [<-hdd] at hd
     have HD2:=hid hd
     have hdb:d<4294967296:=by rw [hdd]; exact Nat.mod_lt _ (by omega)
     have K2:Hid ((wr.setCell ⟨g5,t,none⟩ (.int .u32 (d:Nat))).rowIs g5 110 (m+2) (fun i=>.int .u32 (upd ro t d i:Nat))):=by
      refine (hrr.set t _).congr fun i _=>?_
      unfold upd
      by_cases e:i=t
      ·rw [if_pos e,if_pos e]
      ·rw [if_neg e,if_neg e]
     have K3:Hid (∀ i,upd ro t d i<4294967296):=fun i=>by
      unfold upd
      split
      ·exact hdb
      ·exact HRO.out i
     have K4:Hid (∀ i,i<t+1->upd ro t d i=dg (Y / 2 ^ s) i):=fun i hi=>by
      unfold upd
      by_cases e:i=t
      ·rw [if_pos e,e,HD2.out]
      ·rw [if_neg e]; exact HRD.out i (by omega)
     have K5:=hid (zad hru (zaq (i:=t) (zby wr (some g5)) (.int .u32 (d:Nat))) (by omega))
     have K6:=hid (zad hrq (zaq (i:=t) (zby wr (some g5)) (.int .u32 (d:Nat))) (by omega))
     clear ha hb hz hd hdd hru hrq hrr
     go_wp2
     go_still_tail 19,(by kernel_rfl)
     change wpList _ _ _ _ _ wr.drew
     go_wp2
     rw [hdz.out]
     go_roundg (gk - 1)
     case measure=>omega
     case rel=>exact ⟨t+1,_,by go_num,by omega,by omega,(hB.setCell (by show w.heap.size<=g5; omega) _).drew,K5.out,K6.out,K2.out,K3,K4⟩
    ·obtain rfl:t=m+2:=by omega
     have HR:Hid (nv ro (m+2)=x % y):=by
      show _=_
      rw [zbB (g:=dg (Y / 2 ^ s)) HRD.out,ze9 HYd.out,E2.out]
     go_wp2
     go_ret2
     exact ⟨_,nq,qo,_,m+2,ro,rfl,by omega,by omega,zbq hrq,zbq hrr,fun i _=>HQ.out i,fun i _=>HRO.out i,E1.out,HR.out,hB⟩
def DivPost (x y:Nat) (w:World) (e:Ending) (w':World):Prop :=
 ∃ A c A2 c2,e=.returned (.tuple #[.slice A (dl (x / y)) c,.slice A2 (dl (x % y)) c2,.int .i64 0])/\dl (x / y)<=c/\c<=maxLen/\dl (x % y)<=c2/\c2<=maxLen/\NatOk w' w'.heap.size A (x / y)/\NatOk w' w'.heap.size A2 (x % y)/\Below w.heap.size w w'
theorem zeH (A A2:Option Addr) (c c2 x y:Nat) (w:World) (h:NatOk w w.heap.size A x) (h2:NatOk w w.heap.size A2 y) (hc:dl x<=c) (hm:c<=maxLen) (hc2:dl y<=c2) (hm2:c2<=maxLen) (hn:dl x<=268435456) (hn2:dl y<=268435456) (hy:0<y) :
  Calls Tryz.prog 224 #[.slice A (dl x) c,.slice A2 (dl y) c2] w (DivPost x y w):=by
 have hdy:dl y≠0:=fun e=>by have:=zaL.1 e; omega
 have hx9:dl x<=maxLen:=by unfold maxLen; omega
 have hy9:dl y<=maxLen:=by unfold maxLen; omega
 have hdz:((dl y:Nat):Int)≠0:=by omega
 have hdb:(((dl y:Nat):Int) == 0)=false:=by simp; omega
 have HXY:=hid (show dl (x / y)<=dl x from zaw (Nat.div_le_self _ _))
 have HXM:=hid (show dl (x % y)<=dl y from zaw (Nat.le_of_lt (Nat.mod_lt _ hy)))
 go_enter Tryz.func224, Tryz.ntmps224
 go_wp2_with fail
 refine (zbd A c x w h hc hm).mono ?_
 rintro e w1 ⟨rfl,rfl⟩
 go_wp2_with fail
 refine (zbd A2 c2 y w h2 hc2 hm2).mono ?_
 rintro e w1 ⟨rfl,rfl⟩
 rcases Nat.lt_or_ge x y with hlt | hge
 ·have hq:x / y=0:=Nat.div_eq_of_lt hlt
  have hr:x % y=x:=Nat.mod_eq_of_lt hlt
  have HC:=hid (zcS hlt)
  have HQ:=hid hq
  have HR:=hid hr
  clear hq hr
  go_wp2_with fail
  refine (za8 A A2 (dl x) (dl y) x y w h h2 (Nat.le_refl _) hx9 (Nat.le_refl _) hy9 (by omega)).mono ?_
  rintro e w1 ⟨rfl,hb1⟩
  rw [HC.out]
  have g1:=h.on hb1
  clear h h2
  go_wp2_with fail
  refine (zcc A (dl x) x w1 g1 (Nat.le_refl _) hx9 (by omega)).mono ?_
  rintro e w2 ⟨A3,c3,rfl,k1,k2,k3,k4⟩
  have hB:=onS hb1 k4
  clear k4 hb1
  go_wp2
  go_ret3
  exact ⟨none,0,A3,c3,by rw [HQ.out,HR.out,zas]; rfl,by rw [HQ.out,zas]; omega,by unfold maxLen; omega,by rw [HR.out]; exact k1,k2,by rw [HQ.out]; exact fun i hi=>absurd hi (by rw [zas]; omega),by rw [HR.out]; exact k3,hB⟩
 ·obtain ⟨z,hz⟩:∃ z,z=cmpN x y:=⟨_,rfl⟩
  have hz0:¬ z<0:=by
   rw [hz]
   rcases Nat.lt_or_ge y x with e | e
   ·rw [zcm e]; omega
   ·rw [zcT (by omega)]; omega
  have HZ:=hid hz
  clear hz
  by_cases h1:dl y=1
  ·have hy1:y<4294967296:=by have:=zaT y; rw [h1] at this; omega
   have t0:∃ b o,A2=some ⟨b,o,none⟩/\b<w.heap.size/\w.cell? ⟨b,o,none⟩=some (.int .u32 (y:Nat)):=by
    obtain ⟨b,o,e,g1,g3⟩:=h2.at (i:=0) (by omega)
    rw [zeY hy1] at g3
    exact ⟨b,o,e,g1,g3⟩
   obtain ⟨b,o,rfl,hbw,t0⟩:=t0
   have H1:=hid h1
   have hL:Lims w w.heap.size A (dl x) (dg x):=h
   have HMD:Hid (x % y<4294967296):=by have:=Nat.mod_lt x hy; show _<_; omega
   rw [h1];clear hdz hdb hdy
   have h2':=h2
   unfold NatOk at h2'
   go_wp2_with fail
   refine (show Calls _ _ _ w fun e w'=>e=.returned (.int .i64 (cmpN x y))/\Below w.heap.size w w' from by have:=za8 A (some ⟨b,o,none⟩) (dl x) 1 x y w h h2 (Nat.le_refl _) hx9 (by omega) (by unfold maxLen; omega) (by omega); rw [h1] at this; exact this).mono ?_
   rintro e w1 ⟨rfl,hb1⟩
   rw [<-HZ.out]
   have g1:=hL.on hb1
   have t1:=(hb1.cell (p:=⟨b,o,none⟩) hbw).trans t0
   clear h h2 h2' t0 h1
   go_wp2_with fail
   refine (zd3 A (dl x) (dl x) y (dg x) w1 g1 (za7 x) (by omega) hy hy1).mono ?_
   rintro e w2 ⟨A3,c3,rfl,k1,k2,k3,k4⟩
   rw [zcg] at k1 k3 ⊢
   have hB2:=onS hb1 k4
   clear k4 hb1
   have HU:Hid ((((x % y:Nat):Int)) % 18446744073709551616=((x % y:Nat):Int)):=by have:=HMD.out; show _=_; omega
   obtain ⟨r,hr⟩:∃ r,r=x % y:=⟨_,rfl⟩
   rw [<-hr]
   have HRR:=hid hr
   have hrb:r<4294967296:=by rw [hr]; exact HMD.out
   clear hr
   go_wp2_with fail
   refine (zc4 r w2 (by omega)).mono ?_
   rintro e w3 ⟨A4,c4,rfl,m1,m2,m3,m4⟩
   rw [HRR.out] at m1 m3 ⊢
   have k5:=k3.on m4
   have hB3:=onS hB2 m4
   clear m4 k3
   go_wp2
   go_ret3
   exact ⟨A3,c3,A4,c4,rfl,k1,k2,m1,m2,k5,m3,hB3⟩
  ·have hd1:(((dl y:Nat):Int) == 1)=false:=by simp; omega
   obtain ⟨m,hm2'⟩:∃ m,dl y=m+2:=⟨dl y - 2,by omega⟩
   have HM:=hid hm2'
   clear hm2' h1
   go_wp2_with fail
   refine (za8 A A2 (dl x) (dl y) x y w h h2 (Nat.le_refl _) hx9 (Nat.le_refl _) hy9 (by omega)).mono ?_
   rintro e w1 ⟨rfl,hb1⟩
   rw [<-HZ.out]
   have g1:=h.on hb1
   have g2:=h2.on hb1
   clear h h2
   go_wp2_with fail
   refine (zgT A A2 (dl x) (dl y) x y m w1 g1 g2 HM.out hge hn).mono ?_
   rintro e w2 ⟨A3,n3,o3,A4,m4,r4,rfl,k1,k2,k3,k4,k5,k6,k7,k8,k9⟩
   have hB2:=onS hb1 k9
   have HK7:=hid k7
   have HK8:=hid k8
   have HK5:Hid (∀ i,i<n3->o3 i<4294967296):=k5
   have HK6:Hid (∀ i,i<m4->r4 i<4294967296):=k6
   clear k9 hb1 g1 g2 k7 k8 k5 k6
   go_wp2_with fail
   refine (zcz A3 n3 n3 o3 w2 k3 HK5 (Nat.le_refl _) (by unfold maxLen; omega) (by omega)).mono ?_
   rintro e w3 ⟨A5,c5,rfl,p1,p2,p3,p4⟩
   rw [HK7.out] at p1 p3 ⊢
   have k4':=k4.on p4
   have hB3:=onS hB2 p4
   clear p4 k3 k4 hB2
   go_wp2_with fail
   refine (zcz A4 m4 m4 r4 w3 k4' HK6 (Nat.le_refl _) (by unfold maxLen; omega) (by omega)).mono ?_
   rintro e w4 ⟨A6,c6,rfl,q1,q2,q3,q4⟩
   rw [HK8.out] at q1 q3 ⊢
   have p5:=p3.on q4
   have hB4:=onS hB3 q4
   clear q4 k4' hB3 p3
   go_wp2
   go_ret3
   exact ⟨A5,c5,A6,c6,rfl,p1,p2,q1,q2,p5,q3,hB4⟩
theorem ziC {o:Nat->Nat} {q k:Nat} (h:∀ i,i<q->o i=0):nv o (q+k)=nv (seg o q) k*4294967296 ^ q:=by
 rw [zh2,zgo h,Nat.zero_add]
theorem zfa (A:Option Addr) (c x n:Nat) (w:World) (h:NatOk w w.heap.size A x) (hn:n<=8589934592) (hd:dl x<=268435456) :
  Calls Tryz.prog 227 #[.slice A (dl x) c,.int .i64 (n:Nat)] w (NatPost (x*2 ^ n) w):=by
 obtain ⟨i0,qi0,qz0,qz1,qz2⟩:=info_parts Tryz.infoU32
 obtain ⟨q,hq⟩:∃ q,q=n / 32:=⟨_,rfl⟩
 obtain ⟨s,hs⟩:∃ s,s=n % 32:=⟨_,rfl⟩
 have hs31:s<=31:=by omega
 have hqn:q<=268435456:=by omega
 have eq1:(n:Int) / 32=(q:Int):=by omega
 have eq2:(n:Int) % 32=(s:Int):=by omega
 have HXN:Hid (x*2 ^ s*4294967296 ^ q=x*2 ^ n):=by
  show _=_
  rw [Nat.mul_assoc,show (4294967296:Nat)=2 ^ 32 from rfl,<-Nat.pow_mul,<-Nat.pow_add]
  congr 2
  omega
 have hmk:=fun W=>zau (P:=Tryz.prog) 47 110 _ 4 Tryz.underlying47 Tryz.infoU32 rfl (q:Int) (by omega) (by omega) (by omega) W
 obtain ⟨P,hP⟩:∃ P,P=2 ^ s:=⟨_,rfl⟩
 have hP0:0<P:=by rw [hP]; exact Nat.pow_pos (by omega)
 have hP1:P<=2147483648:=by rw [hP]; exact Nat.pow_le_pow_right (n:=2) (by omega) hs31
 have HP:=hid hP
 have hO0:Own (w.alloc (.cells (madeCells #[Value.int .u32 0] q) 110)) w.heap.size 110 1 (.slice (some ⟨w.heap.size,0,none⟩) q q) q (fun i _=>.int .u32 ((fun _:Nat=>0) i:Nat)):=by
  have hr:=World.rowIs_made w (.int .u32 0) q 110
  obtain ⟨cc,g1,g2,g3⟩:=hr
  refine .inr ⟨w.heap.size,0,q,cc,rfl,Nat.le_refl _,g1,Nat.le_refl _,by unfold maxLen; omega,by omega,fun i hi j hj=>?_⟩
  obtain rfl:j=0:=by omega
  rw [Nat.zero_add,Nat.mul_one,Nat.add_zero]
  exact g3 i hi
 clear hP hq hs
 go_enter Tryz.func227, Tryz.ntmps227
 go_wp2
 go_loopg [7,5,6] (dl x) (fun gg iv ov cv wx=>∃ k ca:Nat,∃ o:Nat->Nat,iv=.int .i64 (k:Nat)/\cv=.int .u64 (ca:Nat)/\dl x<=k+gg/\k<=dl x/\ca<P/\Below w.heap.size w wx/\Own wx w.heap.size 110 1 ov (q+k) (fun i _=>.int .u32 (o i:Nat))/\Hid (∀ i,o i<4294967296)/\Hid (∀ i,i<q->o i=0)/\Hid (nv (seg o q) k+ca*4294967296 ^ k=nv (dg x) k*2 ^ s))
 case atStart=>exact ⟨0,0,fun _=>0,rfl,rfl,by omega,by omega,hP0,(Below.refl _ _).alloc (Nat.le_refl _) _,hO0,hid fun _=>by show 0<_; omega,hid fun _ _=>rfl,hid (by simp [nv])⟩
 case round =>
  clear hO0 hmk
  obtain ⟨k,ca,o,rfl,rfl,hkg,hk,hca,hB,hO,HO,HZ,HV⟩:=hrel
  by_cases hlt:k<dl x
  ·have hlt':(k:Int)<((dl x:Nat):Int):=by omega
   obtain ⟨b1,o1,rfl,hb2,e0⟩:=(h.on hB).at (i:=k) hlt
   obtain ⟨a,ha⟩:∃ a,a=dg x k:=⟨_,rfl⟩
   have q1:=zes x k
   rw [<-ha] at e0 q1
   have HA:=hid ha
   have ht1:a*P+ca<4294967296*P:=by
    have:(a+1)*P<=4294967296*P:=Nat.mul_le_mul_right _ q1
    rw [Nat.add_mul,Nat.one_mul] at this
    omega
   obtain ⟨aP,haP⟩:∃ aP,aP=a*P:=⟨_,rfl⟩
   rw [<-haP] at ht1
   have hwr:(a:Int)*2 ^ s=(aP:Int):=by rw [haP,HP.out,Int.natCast_mul,Int.natCast_pow]; rfl
   have hwr2:IntKind.u64.wrap (aP:Int)=(aP:Int):=IntWalk.u64_in _ (by omega)
   have hsb:(aP:Int)+ca<=18446744073709551615:=by omega
   have s1:=ze8 (s:=aP+ca) HV.out (by rw [haP,HA.out,HP.out])
   rw [<-zcn] at s1
   have K1:=hid s1
   have hO1:Own wr w.heap.size 110 1 u5 (q+k) (fun i _=>.int .u32 (upd o (q+k) ((aP+ca) % 4294967296) i:Nat)):=hO.congr fun i hi _ _=>by rw [zap (by omega)]
   have N1:Hid (∀ z:Int,z=(((aP+ca) % 4294967296:Nat):Int)->∀ j,j<1->(wr.alloc (Obj.cells #[Value.int .u32 z] 110)).cell? ((⟨wr.heap.size,0,none⟩:Addr).add j)=some (.int .u32 (upd o (q+k) ((aP+ca) % 4294967296) (q+k):Nat))):=fun z hz j hj=>by
    obtain rfl:j=0:=by omega
    rw [zaI,hz]
    exact World.cell?_alloc_at _ _ _ _ rfl
   have N2:Hid (∀ j,j<1->(Value.int .u32 (upd o (q+k) ((aP+ca) % 4294967296) (q+k):Nat)).oneCell'=true):=fun _ _=>rfl
   have n3:Hid (q+k+1<=maxLen):=by show _<=_; unfold maxLen; omega
   have n4:Hid ((q+k+1)*4<=140737488355328):=by show _<=_; omega
   have hQb:Hid (∀ k,u5.ownBlock=some k->w.heap.size<=k):=fun k e=>(hO.lt k e).1
   have K3:Hid (∀ i,upd o (q+k) ((aP+ca) % 4294967296) i<4294967296):=fun i=>by
    unfold upd
    split
    ·omega
    ·exact HO.out i
   have K4:Hid (∀ i,i<q->upd o (q+k) ((aP+ca) % 4294967296) i=0):=fun i hi=>by rw [zap (by omega)]; exact HZ.out i hi
   have K5:Hid (((aP:Int)+ca) / 4294967296=(((aP+ca) / 4294967296:Nat):Int)):=by show _=_; omega
   have K6:Hid (((aP:Int)+ca) % 4294967296=(((aP+ca) % 4294967296:Nat):Int)):=by show _=_; omega
   have K7:Hid ((aP+ca) / 4294967296<P):=by show _<_; omega
   have hsz:=hB.size
   have hBA:=hid fun z:Int=>hB.alloc hB.size (Obj.cells #[Value.int .u32 z] 110)
   clear ha haP hO s1 ht1
   go_upto_region 7 with fail
   go_wp2_with (first | (at_builtin; (refine zao _ rfl (.tmp 28) (.tmp 32) _ rfl w.heap.size 110 i0 _ 1 4 Tryz.underlying47 qi0 qz0 qz1 qz2 rfl (by omega) u5 (q+k) _ rfl (hO1.alloc _) ⟨wr.heap.size,0,none⟩ 1 rfl (N1.out _ K6.out) N2.out n3.out n4.out (by simp; omega) ?_); intro v' w3 hown3 hg3 hat3))
   have hB3:=(hBA.out _).grown hg3 (by simp; omega) (fun q e=>hQb.out q e)
   go_roundg (gk - 1)
   case measure=>omega
   case rel=>exact ⟨k+1,(aP+ca) / 4294967296,_,by go_num,by rw [<-K5.out],by omega,by omega,K7.out,hB3,hown3,K3,K4,K1⟩
  ·obtain rfl:k=dl x:=by omega
   have hcm:(ca:Int) % 4294967296=(ca:Int):=by omega
   have hO1:Own wr w.heap.size 110 1 u5 (q+dl x) (fun i _=>.int .u32 (upd o (q+dl x) ca i:Nat)):=hO.congr fun i hi _ _=>by rw [zap (by omega)]
   have N1:Hid (∀ z:Int,z=((ca:Nat):Int)->∀ j,j<1->(wr.alloc (Obj.cells #[Value.int .u32 z] 110)).cell? ((⟨wr.heap.size,0,none⟩:Addr).add j)=some (.int .u32 (upd o (q+dl x) ca (q+dl x):Nat))):=fun z hz j hj=>by
    obtain rfl:j=0:=by omega
    rw [zaI,hz]
    exact World.cell?_alloc_at _ _ _ _ rfl
   have N2:Hid (∀ j,j<1->(Value.int .u32 (upd o (q+dl x) ca (q+dl x):Nat)).oneCell'=true):=fun _ _=>rfl
   have n3:Hid (q+dl x+1<=maxLen):=by show _<=_; unfold maxLen; omega
   have n4:Hid ((q+dl x+1)*4<=140737488355328):=by show _<=_; omega
   have hQb:Hid (∀ k,u5.ownBlock=some k->w.heap.size<=k):=fun k e=>(hO.lt k e).1
   have K3:Hid (∀ i,i<q+dl x+1->upd o (q+dl x) ca i<4294967296):=fun i _=>by
    unfold upd
    split
    ·omega
    ·exact HO.out i
   have K1:Hid (nv (upd o (q+dl x) ca) (q+dl x+1)=x*2 ^ n):=by
    show _=_
    rw [show q+dl x+1=q+(dl x+1) by omega,ziC (fun i hi=>by rw [zap (by omega)]; exact HZ.out i hi),zcn,zbP,HV.out,zcg,HXN.out]
   have hsz:=hB.size
   have hBA:=hid fun z:Int=>hB.alloc hB.size (Obj.cells #[Value.int .u32 z] 110)
   clear hO
   go_wp2_with (first | (at_builtin; (refine zao _ rfl (.tmp 36) (.tmp 39) _ rfl w.heap.size 110 i0 _ 1 4 Tryz.underlying47 qi0 qz0 qz1 qz2 rfl (by omega) u5 (q+dl x) _ rfl (hO1.alloc _) ⟨wr.heap.size,0,none⟩ 1 rfl (N1.out _ rfl) N2.out n3.out n4.out (by simp; omega) ?_); intro v' w3 hown3 hg3 hat3))
   have hB3:=(hBA.out _).grown hg3 (by simp; omega) (fun q e=>hQb.out q e)
   obtain ⟨oa,oc,rfl⟩:=hown3.shape
   have hcap:=hown3.cap
   have hI:Lims w3 w3.heap.size oa (q+dl x+1) (upd o (q+dl x) ca):=hown3.rd rfl
   clear hown3 hg3 hat3 hO1
   refine (zaU oa (q+dl x+1) oc _ w3 hI K3 hcap.1 hcap.2 (by omega)).mono ?_
   rintro e w4 ⟨A',c',rfl,g1,g2,g3,g4⟩
   rw [K1.out] at g1 g3 ⊢
   have hB4:=onS hB3 g4
   clear g4 hI
   go_wp2
   go_ret
   exact ⟨A',c',rfl,g1,g2,g3,hB4⟩
def RefDivPost (x y:Nat) (w:World) (e:Ending) (w':World):Prop :=
 ∃ A c A2 c2,e=.returned (.tuple #[.slice A (dl (x / y)) c,.slice A2 (dl (x % y)) c2])/\dl (x / y)<=c/\c<=maxLen/\dl (x % y)<=c2/\c2<=maxLen/\NatOk w' w'.heap.size A (x / y)/\NatOk w' w'.heap.size A2 (x % y)/\Below w.heap.size w w'
theorem zjl {x y:Nat} (hy:0<y):x<y*2 ^ (nlen x+1 - nlen y):=by
 have h1:=zbW x
 have h2:=zfW (x:=y) (by omega)
 have h3:2 ^ nlen x<=2 ^ (nlen y - 1+(nlen x+1 - nlen y)):=Nat.pow_le_pow_right (by omega) (by have:=zaY (x:=y) (by omega); omega)
 rw [Nat.pow_add] at h3
 have h4:2 ^ (nlen y - 1)*2 ^ (nlen x+1 - nlen y)<=y*2 ^ (nlen x+1 - nlen y):=Nat.mul_le_mul_right _ h2
 omega
theorem zeI {x L:Nat} (h:dl x<=L):nlen x<=32*L:=by
 refine zci (Nat.lt_of_lt_of_le (zaT x) ?_)
 rw [show (4294967296:Nat)=2 ^ 32 from rfl,<-Nat.pow_mul]
 exact Nat.pow_le_pow_right (by omega) (by omega)
theorem zgU {x L:Nat} (h:nlen x<=32*L):dl x<=L:=by
 refine zdO (Nat.lt_of_lt_of_le (zbW x) ?_)
 rw [show (4294967296:Nat)=2 ^ 32 from rfl,<-Nat.pow_mul]
 exact Nat.pow_le_pow_right (by omega) h
theorem zkQ {x y j:Nat} (h:j+nlen y<=nlen x):nlen (y*2 ^ j)<=nlen x:=by
 refine zci ?_
 have h1:=zbW y
 have h2:y*2 ^ j<2 ^ nlen y*2 ^ j:=Nat.mul_lt_mul_of_pos_right h1 (Nat.pow_pos (by omega))
 rw [<-Nat.pow_add] at h2
 exact Nat.lt_of_lt_of_le h2 (Nat.pow_le_pow_right (by omega) (by omega))
end Go.Proofs.YtioagplajkoohaaGreat