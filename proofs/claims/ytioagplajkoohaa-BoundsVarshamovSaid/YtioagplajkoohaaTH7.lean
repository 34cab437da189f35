/- Merged texts of a claim: Chosen, PerpHv, Dist24, HeavyLaw, SeesFld, HeavyTop. -/
import Derived.Test.YtioagplajkoohaaTH1
import Derived.Test.YtioagplajkoohaaTH3
import Derived.Test.YtioagplajkoohaaTH4
import Derived.Test.YtioagplajkoohaaTH6
namespace Go.Proofs.Ytioagplajkoohaa
set_option maxRecDepth 100000
set_option maxHeartbeats 32000000
open KA KB KC KE KF
open Go.RowKit
def DRef (q u a a' u':Nat):Prop:=(1<=a'/\a'<q/\u'<u)∨(u'=u/\1<=a'/\a'<a)
structure JN (w wx:World) (gx Q cap:Nat) (O:Nat->Nat):Prop where
 own:Own wx w.heap.size 3 1 (.slice (some ⟨gx,0,none⟩) Q cap) Q (fun i _=>.int .i64 (O i:Nat))
 below:Below w.heap.size w wx
section
variable {w wx w':World} {gx Q cap:Nat} {O:Nat->Nat}
theorem JN.on (h:JN w wx gx Q cap O) (hb:Below wx.heap.size wx w'):JN w w' gx Q cap O:=⟨h.own.on hb,onS h.below hb⟩
theorem JN.lt (h:JN w wx gx Q cap O):w.heap.size<=gx/\gx<wx.heap.size:=h.own.lt gx rfl
theorem JN.setO (h:JN w wx gx Q cap O) {p:Nat} (hp:p<Q) (x:Nat):JN w (wx.setCell ⟨gx,p,none⟩ (.int .i64 (x:Nat))) gx Q cap (fun v=>if v=p then x else O v):=by
 refine ⟨?_,h.below.setCell (p:=⟨gx,p,none⟩) h.lt.1 _⟩
 have h1:=h.own.set (a:=p) (b:=0) hp (by omega) (.int .i64 (x:Nat))
 rw [Nat.mul_one,Nat.add_zero,Nat.zero_add] at h1
 refine h1.congr fun i hi j hj=>?_
 obtain rfl:j=0:=by omega
 show (if i=p/\0=0 then Value.int .i64 (x:Nat) else .int .i64 (O i:Nat))=.int .i64 ((if i=p then x else O i:Nat):Int)
 by_cases e:i=p
 ·rw [if_pos ⟨e,rfl⟩,if_pos e]
 ·rw [if_neg fun g=>e g.1,if_neg e]
theorem JN.far (h:JN w wx gx Q cap O) {g:Nat} (hg:g≠gx) (hw:w.heap.size<=g) (j:Nat) (x:Value):JN w (wx.setCell ⟨g,j,none⟩ x) gx Q cap O :=
 ⟨h.own.setCell (a:=⟨g,j,none⟩) (fun e=>hg (Option.some.inj e).symm) _,h.below.setCell (p:=⟨g,j,none⟩) hw _⟩
theorem JN.atO (h:JN w wx gx Q cap O) {p:Nat} (hp:p<Q):wx.cell? ⟨gx,p,none⟩=some (.int .i64 (O p:Nat))/\wx.frozen? ⟨gx,p,none⟩=false:=by
 refine ⟨?_,h.own.frozen p⟩
 obtain ⟨g,o,c,e,_,_,_,_,hc⟩:=h.own.form (by omega)
 injection e with e _ _
 injection e with e
 injection e with e1 e2
 subst e1 e2
 have h1:=hc p hp 0 (by omega)
 rwa [Nat.mul_one,Nat.add_zero,Nat.zero_add] at h1
end
def ChosenPost (P M:Nat) (m:Nat->Nat) (n r d q:Nat) (w:World) (e:Ending) (w':World):Prop :=
 ∃ (t:Nat) (A:Option Addr) (c:Nat) (h:Nat->Nat->Nat) (L:Nat->Nat),e=.returned (.slice A t c)/\t<=n/\RfSt q r (addF P M) (mulF P M m) d n t h L/\Below w.heap.size w w'
theorem RfSt.le {q r:Nat} {add mul:Nat->Nat->Nat} {d n:Nat} {h:Nat->Nat->Nat}:∀ t L,RfSt q r add mul d n t h L->∀ v,v<q ^ r->L v<=n+1
 | 0,L,H,v,hv=>by rw [H v hv]; split <;> omega
 | t+1,L,⟨L0,v0,h1,_,_,_,_,h6⟩,v,hv=>Nat.le_trans (h6.le v hv) (RfSt.le t L0 h1 v hv)
theorem zd1 (P M:Nat) (m:Nat->Nat) (A:Option Addr) (k c n r d Q q:Nat) (w:World) (hf:FieldOk P M m) (hmod:ModOk w P M A m) (hkM:M=1∨k=M) (HQ:Hid (q=P ^ M)) (HQr:Hid (Q=q ^ r)) (hQ2:Q<=65536) (hn:n<=64) (hr64:r<=64) (hdn:d<=64) :
  Calls Try.prog 8 #[.agg #[.int .i64 (P:Nat),.int .i64 (M:Nat),.slice A k c],.int .i64 (n:Nat),.int .i64 (r:Nat),.int .i64 (d:Nat)] w (ChosenPost P M m n r d q w):=by
 have hq256:q<=256:=by rw [HQ.out]; exact hf.1.2.2.2
 have h2q:2<=q:=by rw [HQ.out]; exact (fieldLaws hf).two
 have hQ0:0<Q:=by rw [HQr.out]; exact Nat.pow_pos (by omega)
 have HLq:Hid (FieldLaws q (addF P M) (mulF P M m)):=by rw [HQ.out]; exact hid (fieldLaws hf)
 have HFO:=hid hf
 have HMOD:=hid hmod
 have HO:=hid (zbh hf.1)
 have hvec:vecN q r=Q:=by unfold vecN; rw [<-HQr.out,if_pos hQ2]
 have HVEC:=hid hvec
 clear hf hmod hvec
 obtain ⟨i0,qi0,qz0,qz1,qz2⟩:=info_parts Try.infoInt
 obtain ⟨j0,pj0,pz0,pz1,pz2⟩:=info_parts Try.infoInts
 have hmk:=fun W=>zao (P:=Try.prog) 22 3 _ 8 Try.underlying22 Try.infoInt rfl (Q:Int) (by omega) (by omega) (by omega) W
 simp only [Int.toNat_natCast] at hmk
 have rf:=zad (w:=w) (a:=.int .i64 (P:Nat)) (b:=.int .i64 (M:Nat)) (c:=.slice A k c) (T := 24)
 have hB:Below w.heap.size w (w.alloc (.cells #[.int .i64 (P:Nat),.int .i64 (M:Nat),.slice A k c] 24)):=(Below.refl _ _).alloc (Nat.le_refl _) _
 obtain ⟨w1,hw1⟩:∃ W,W=w.alloc (.cells #[.int .i64 (P:Nat),.int .i64 (M:Nat),.slice A k c] 24):=⟨_,rfl⟩
 rw [<-hw1] at hB rf
 go_enter Try.func8, Try.ntmps8
 go_upto_region 1 with fail
 rw [<-hw1];clear hw1
 obtain ⟨b0,hb0⟩:∃ b,b=w.heap.size:=⟨_,rfl⟩
 rw [<-hb0] at rf;rw [<-hb0];clear hb0
 have q0:=qc0 rf
 have q1:=qc1 rf
 have q2:=qc2 rf
 go_wp2_with fail
 refine (za0 (P:Int) (M:Int) A k c w1).mono ?_
 rintro e w3 ⟨rfl,kb⟩
 rw [HO.out,<-HQ.out]
 have HRF:=hid (zaa rf kb)
 have HB3:=hid (onS hB kb)
 clear kb q0 q1 q2 rf hB
 go_wp2_with fail
 refine (zbg q r w3 (by omega) hq256 (by omega)).mono ?_
 rintro e w4 ⟨rfl,hw4⟩
 subst hw4
 rw [HVEC.out]
 go_upto_region 4 with fail
 have rz:World.rowIs (World.alloc w3 (Obj.cells (madeCells #[Value.int .i64 0] Q) 3)) w3.heap.size 3 Q (fun _=>.int .i64 0):=World.rowIs_made _ (.int .i64 0) Q 3
 have kb:Below w3.heap.size w3 (World.alloc w3 (Obj.cells (madeCells #[Value.int .i64 0] Q) 3)):=(Below.refl _ _).alloc (Nat.le_refl _) _
 obtain ⟨w5,hw5⟩:∃ W,W=World.alloc w3 (Obj.cells (madeCells #[Value.int .i64 0] Q) 3):=⟨_,rfl⟩
 rw [<-hw5] at rz kb ⊢
 obtain ⟨gl,hgl⟩:∃ g,g=w3.heap.size:=⟨_,rfl⟩
 have hglB:w3.heap.size<=gl:=Nat.le_of_eq hgl.symm
 rw [<-hgl] at rz ⊢;clear hw5 hgl hmk
 have HGL:=hid hglB
 obtain ⟨e1,he1⟩:∃ x:Nat,x=n+1:=⟨_,rfl⟩
 have hd1w:IntKind.i64.wrap ((n:Int)+1)=(e1:Int):=by rw [IntWalk.i64_in _ (by omega)]; omega
 have HE1:=hid he1
 clear he1
 go_loopg [11] Q (fun gg iv wx=>∃ i:Nat,iv=.int .i64 (i:Nat)/\1<=i/\i<=Q/\Q<=i+gg/\wx.rowIs gl 3 Q (fun t=>.int .i64 ((if t=0 then 0 else if t<i then e1 else 0:Nat):Int))/\Below w3.heap.size w3 wx)
 case atStart=>exact ⟨1,rfl,by omega,by omega,by omega,rz.congr fun t _=>by
  show _=Value.int .i64 ((if t=0 then 0 else if t<1 then e1 else 0:Nat):Int)
  by_cases e:t=0
  ·rw [if_pos e]; rfl
  ·rw [if_neg e,if_neg (by omega)]; rfl,kb⟩
 case round =>
  clear rz kb
  obtain ⟨i,rfl,hi1,hiQ,hig,rz,hB⟩:=hrel
  have hi0:(0:Int)<=(i:Int):=by omega
  obtain ⟨w6,hw6⟩:∃ X,X=wr:=⟨_,rfl⟩
  subst hw6
  by_cases hlt:i<Q
  ·have hlt':(i:Int)<(Q:Int):=by omega
   have hi1w:IntKind.i64.wrap ((i:Int)+1)=((i+1:Nat):Int):=by rw [IntWalk.i64_in _ (by omega)]; rfl
   have c0:=rz.cell (i:=i) hlt
   have c1:=rz.frozen i
   have rz2:=rz.set i (.int .i64 (e1:Nat))
   have hB2:=hB.setCell (p:=⟨gl,i,none⟩) HGL.out (.int .i64 (e1:Nat))
   have HRZ:=hid rz2
   have HBB:=hid hB2
   clear rz rz2 hB hB2
   go_wp2
   go_roundg (gk - 1)
   case measure=>omega
   case rel =>
    refine ⟨i+1,by go_num,by omega,by omega,by omega,HRZ.out.congr fun t ht=>?_,HBB.out⟩
    show (if t=i then Value.int .i64 (e1:Nat) else .int .i64 ((if t=0 then 0 else if t<i then e1 else 0:Nat):Int))=.int .i64 ((if t=0 then 0 else if t<i+1 then e1 else 0:Nat):Int)
    by_cases e:t=i
    ·rw [if_pos e,if_neg (by omega),if_pos (by omega)]
    ·rw [if_neg e]
     by_cases e0:t=0
     ·rw [if_pos e0,if_pos e0]
     ·rw [if_neg e0,if_neg e0]
      by_cases e2:t<i
      ·rw [if_pos e2,if_pos (by omega)]
      ·rw [if_neg e2,if_neg (by omega)]
  ·obtain rfl:Q=i:=by omega
   have hlt':¬ (Q:Int)<(Q:Int):=by omega
   obtain ⟨L0,hL0⟩:∃ L0:Nat->Nat,L0=fun t=>if t=0 then 0 else e1:=⟨_,rfl⟩
   have hrow:w6.rowIs gl 3 Q (fun t=>.int .i64 (L0 t:Nat)):=rz.congr fun t ht=>by
    rw [hL0]
    show Value.int .i64 ((if t=0 then 0 else if t<Q then e1 else 0:Nat):Int)=Value.int .i64 ((if t=0 then 0 else e1:Nat):Int)
    by_cases e:t=0
    ·rw [if_pos e,if_pos e]
    ·rw [if_neg e,if_neg e,if_pos ht]
   have HGS0:Hid (∀ h,RfSt q r (addF P M) (mulF P M m) d n 0 h L0):=hid fun h v _=>by rw [hL0,<-HE1.out]
   have HLo:Hid (Own w6 w.heap.size 3 1 (.slice (some ⟨gl,0,none⟩) Q Q) Q (fun i _=>.int .i64 (L0 i:Nat))):=hid (zaJ hrow (by have:=HB3.out.size; have:=HGL.out; omega) (by unfold maxLen; omega))
   replace HRF:=hid (zaa HRF.out hB)
   have HB6:=hid (onS HB3.out hB)
   clear hrow hB rz hL0 HB3 HGL hd1w
   go_upto_region 8 with fail
   go_loopg [10,12] n (fun gg lv ov wx=>∃ (t:Nat) (h:Nat->Nat->Nat) (L:Nat->Nat) (R:Nat->Value),t<=n/\n<=t+gg/\Own wx w.heap.size 3 1 lv Q (fun u _=>.int .i64 (L u:Nat))/\RfSt q r (addF P M) (mulF P M m) d n t h L/\Own wx w6.heap.size 22 1 ov t (fun i _=>R i)/\Below w6.heap.size w6 wx)
   case atStart=>exact ⟨0,fun _ _=>0,L0,fun _=>undef,by omega,by omega,HLo.out,HGS0.out _,Own.nil _ _ _ _ _,Below.refl _ _⟩
   case round =>
    obtain ⟨t,h,L,R,ht,htg,hO,hgs,hov,kb⟩:=hrel
    have ht0:(0:Int)<=(t:Int):=by omega
    obtain ⟨LA,lc,hlv⟩:=hO.shape
    subst hlv
    obtain ⟨OA,oc,hovs⟩:=hov.shape
    subst hovs
    have HO:=hid hO
    have HGS:=hid hgs
    have HOV:=hid hov
    have KB:=hid kb
    obtain ⟨w10,hw10⟩:∃ X,X=wr:=⟨_,rfl⟩
    subst hw10
    clear hO hgs hov kb
    by_cases htn:t<n
    ·have htn' : (t : Int) < (n : Int) := by omega
     obtain ⟨gN,hgN⟩:∃ x,x=gk:=⟨_,rfl⟩
     subst hgN
     go_upto_block 4 with fail
     go_cut [13] (fun v17 wx=>∃ v:Nat,v17=.int .i64 (v:Nat)/\v<=Q/\Hid (∀ u,u<v->2<=d/\L u<=d - 2)/\Hid (v<Q->2<=d->d - 2<L v)/\w10=wx)
     case first =>
      go_wp2_with fail
      go_loopg [13] Q (fun gg vv wx=>∃ v:Nat,vv=.int .i64 (v:Nat)/\v<=Q/\Q<=v+gg/\Hid (∀ u,u<v->2<=d/\L u<=d - 2)/\w10=wx)
      case atStart=>exact ⟨0,rfl,by omega,by omega,hid fun u hu=>absurd hu (by omega),rfl⟩
      case round =>
       obtain ⟨v,rfl,hvQ,hvg,HV,hwx⟩:=hrel
       subst hwx
       have hv0:(0:Int)<=(v:Int):=by omega
       by_cases hlt:v<Q
       ·have hlt':decide ((v:Int)<(Q:Int))=true:=decide_eq_true (by omega)
        have hltP:(v:Int)<(Q:Int):=by omega
        obtain ⟨lb,lo,rfl,_,l0⟩:=Rd.at1 (HO.out.rd rfl) hlt
        obtain ⟨y,hy⟩:∃ y,y=L v:=⟨_,rfl⟩
        rw [<-hy] at l0
        have HY:=hid hy
        clear hy
        obtain ⟨e2,he2⟩:∃ x:Int,x=(d:Int) - 2:=⟨_,rfl⟩
        have hd2w:IntKind.i64.wrap ((d:Int) - 2)=e2:=by rw [IntWalk.i64_in _ (by omega)]; omega
        have HE2:=hid he2
        clear he2
        by_cases hle:(y:Int)<=e2
        ·have hle':decide ((y:Int)<=e2)=true:=decide_eq_true hle
         have hv1w:IntKind.i64.wrap ((v:Int)+1)=((v+1:Nat):Int):=by rw [IntWalk.i64_in _ (by omega)]; rfl
         go_wp2
         go_roundg (gk - 1)
         case measure=>omega
         case rel=>exact ⟨v+1,by go_num,by omega,by omega,hid fun u hu=>by
          by_cases e:u=v
          ·have h1:=HE2.out
           rw [e,<-HY.out]
           omega
          ·exact HV.out u (by omega),rfl⟩
        ·have hle':decide ((y:Int)<=e2)=false:=decide_eq_false hle
         go_wp2
         go_meet
         exact ⟨v,rfl,hvQ,HV,hid fun _ _=>by have h1:=HE2.out; rw [<-HY.out]; omega,rfl⟩
       ·have hlt':decide ((v:Int)<(Q:Int))=false:=decide_eq_false (by omega)
        go_wp2
        go_meet
        exact ⟨v,rfl,hvQ,HV,hid fun h2=>absurd h2 hlt,rfl⟩
     case rest =>
      obtain ⟨v,rfl,hvQ,HV,HVn,hwx⟩:=hcut
      subst hwx
      by_cases hvq:v=Q
      ·subst hvq
       have hvq':((v:Int) == (v:Int))=true:=by simp
       have hB10:=onS HB6.out KB.out
       go_wp2
       go_ret
       exact ⟨t,OA,oc,h,L,rfl,ht,HGS.out,hB10⟩
      ·have hvq':((v:Int) == (Q:Int))=false:=by
        have h0:¬ (v:Int)=(Q:Int):=by omega
        simpa using h0
       have hvQ2:v<Q:=by omega
       clear hvq
       go_wp2_with fail
       refine (zbC q r v w10 (by omega) (by omega) (by omega) (by omega)).mono ?_
       rintro e w12 ⟨ge,hge,rfl,hrow,kb⟩
       obtain ⟨D,hD⟩:∃ D:Nat->Nat,D=digW q r v:=⟨_,rfl⟩
       have HDIG:=hid (show ∀ u,D u<q from fun u=>by rw [hD]; exact zc6 (by omega))
       have HD:=hid hD
       rw [<-hD] at hrow;replace HO:=hid (HO.out.on kb);replace HOV:=hid (HOV.out.on kb);replace KB:=hid (onS KB.out kb)
       have HROW:=hid hrow
       clear kb hrow hge hD
       have n3:Hid (Q<=maxLen):=by show _<=_; unfold maxLen; omega
       have n4:Hid (Q*8<=140737488355328):=by show _<=_; omega
       obtain ⟨R2,hR2⟩:∃ R2:Nat->Value,R2=fun i=>if i=t then .slice (some ⟨ge,0,none⟩) r r else R i:=⟨_,rfl⟩
       have hRt:Hid (R2 t=.slice (some ⟨ge,0,none⟩) r r):=hid (by rw [hR2]; exact if_pos rfl)
       have HOV2:Hid (∀ o,Own (w12.alloc o) w6.heap.size 22 1 (.slice OA t oc) t (fun i _=>R2 i)):=hid fun o=>(HOV.out.alloc o).congr fun i hi _ _=>by
        rw [hR2]
        exact (if_neg (show ¬ i=t by omega)).symm
       clear hR2
       have hsz6:w6.heap.size<=w12.heap.size:=KB.out.size
       have HN1:Hid (∀ j,j<1->(w12.alloc (.cells #[.slice (some ⟨ge,0,none⟩) r r] 22)).cell? ((⟨w12.heap.size,0,none⟩:Addr).add j)=some (R2 t)):=hid fun j hj=>by
        obtain rfl:j=0:=by omega
        rw [hRt.out]
        exact tbox2
       have HN2:Hid (∀ j,j<1->(R2 t).oneCell'=true):=hid fun j _=>by
        rw [hRt.out]; rfl
       have HN3:Hid (w6.heap.size<=(w12.alloc (.cells #[.slice (some ⟨ge,0,none⟩) r r] 22)).heap.size):=by show _<=_; simp; omega
       have HN4:Hid (t+1<=maxLen):=by show _<=_; unfold maxLen; omega
       have HN5:Hid ((t+1)*24<=140737488355328):=by show _<=_; omega
       go_upto_region 16 with (first | (at_builtin; (go_loud (refine zau _ rfl (.tmp 65) (.tmp 67) _ rfl w6.heap.size 22 j0 _ 1 24 Try.underlying28 pj0 pz0 pz1 pz2 rfl (by omega) (.slice OA t oc) t (fun i _=>R2 i) rfl (HOV2.out _) ⟨w12.heap.size,0,none⟩ 1 rfl HN1.out HN2.out HN4.out HN5.out HN3.out ?_)); intro v13 w13 o1 o2 o3))
       have kba:Below w12.heap.size w12 (w12.alloc (.cells #[.slice (some ⟨ge,0,none⟩) r r] 22)):=(Below.refl _ _).alloc (Nat.le_refl _) _
       have hov12:=HOV2.out (.cells #[.slice (some ⟨ge,0,none⟩) r r] 22)
       have hO13:=(HO.out.on kba).kept o2 (zbu (hov12.mono (show w.heap.size<=w6.heap.size from HB6.out.size)) (HO.out.on kba) (by decide))
       have hrow13:=(zaa HROW.out kba).of_block (o2.block _ (zaa HROW.out kba).lt fun e=>(zay (zaa HROW.out kba) hov12 (by decide)).elim (fun h=>by rw [h] at e; cases e) fun h=>h e.symm)
       have kb13:=(onS KB.out kba).grown o2 (onS KB.out kba).size (fun q e=>(hov12.lt q e).1)
       clear hov12
       have HO13:=hid hO13
       have HROW13:=hid hrow13
       have KB13:=hid kb13
       have HOV13:=hid o1
       obtain ⟨OB,ob,hov13⟩:=o1.shape
       subst hov13
       clear o1 o2 o3 hO13 hrow13 kb13 kba HO HOV HOV2 HROW KB hsz6
       have NR:Hid (∀ o1,Rd (w13.alloc o1) (w13.alloc o1).heap.size LA Q 1 (fun i _=>.int .i64 (L i:Nat))):=hid fun o1=>(HO13.out.alloc o1).rd rfl
       go_upto_region 18 with (first | (at_builtin; (refine zah rfl (.tmp 69) (.tmp 70) _ rfl 3 i0 _ 1 8 Try.underlying22 qi0 qz0 qz1 qz2 rfl (by omega) _ rfl LA Q lc (fun i _=>.int .i64 (L i:Nat)) rfl (NR.out _) hQ0 (fun _ _ _ _=>rfl) n3.out n4.out ?_); intro cap cur k1 k2 k3 k4))
       have hX:=Own.new (w:=w13.alloc (Obj.cells #[] 3)) (base:=w13.heap.size) (e := 3) (f:=fun i _=>.int .i64 (L i:Nat)) (by simp) k1 k2 k3 k4
       have hX1:=hX.drew
       have kb14:Below w13.heap.size w13 ((w13.alloc (Obj.cells #[] 3)).alloc (.cells cur 3)).drew:=(((Below.refl _ _).alloc (Nat.le_refl _) _).alloc (by simp) _).drew
       have hgx0:(w13.alloc (Obj.cells #[] 3)).heap.size=w13.heap.size+1:=by simp
       obtain ⟨w14,hw14⟩:∃ W,W=((w13.alloc (Obj.cells #[] 3)).alloc (.cells cur 3)).drew:=⟨_,rfl⟩
       rw [<-hw14] at hX1 kb14 ⊢
       obtain ⟨gx,hgx⟩:∃ g,g=(w13.alloc (Obj.cells #[] 3)).heap.size:=⟨_,rfl⟩
       rw [<-hgx] at hX1
       have hgx2:gx=w13.heap.size+1:=by rw [hgx]; exact hgx0
       first | rw [<-hgx2] | rw [<-hgx]
       have HJN:=hid (show JN w13 w14 gx Q cap L from ⟨hX1,kb14⟩)
       have HROWK:Hid (∀ W,Below w13.heap.size w13 W->W.rowIs ge 3 r (fun i=>.int .i64 (D i:Nat))):=hid fun W hb=>zaa HROW13.out hb
       have HRFK:Hid (∀ W,Below w13.heap.size w13 W->W.rowIs b0 24 3 (fldCell (.int .i64 (P:Nat)) (.int .i64 (M:Nat)) (.slice A k c))):=hid fun W hb=>zaa (zaa HRF.out KB13.out) hb
       have HLK:Hid (∀ W,Below w13.heap.size w13 W->IntsR W W.heap.size LA Q (fun i=>(L i:Nat))):=hid fun W hb=>(HO13.out.on hb).rd rfl
       have HMODK:Hid (∀ W,Below w13.heap.size w13 W->ModOk W P M A m):=hid fun W hb=>HMOD.out.imp id fun h=>⟨h.1.on (onS (onS HB6.out KB13.out) hb),h.2⟩
       have hLle:=HGS.out.le
       rw [<-HQr.out] at hLle
       have HLLE:=hid hLle
       clear hX hX1 kb14 hw14 hgx hgx0 hgx2 k1 k2 k3 k4 hLle NR
       go_loopg [16] Q (fun gg uv wx=>∃ (u:Nat) (O:Nat->Nat),uv=.int .i64 (u:Nat)/\u<=Q/\Q<=u+gg/\JN w13 wx gx Q cap O/\JoinR q r (addF P M) (mulF P M m) (DRef q u 1) D L O)
       case atStart=>exact ⟨0,L,rfl,by omega,by omega,HJN.out,JoinR.init.congr fun a' u'=>⟨False.elim,fun h=>by rcases h with ⟨_,_,_⟩ | ⟨_,_,_⟩ <;> omega⟩⟩
       case round =>
        clear HJN
        obtain ⟨u,O,rfl,hu,hug,hJN,hJ⟩:=hrel
        have hu0:(0:Int)<=(u:Int):=by omega
        have HJN:=hid hJN
        have HJ:=hid hJ
        obtain ⟨w15,hw15⟩:∃ X,X=wr:=⟨_,rfl⟩
        subst hw15
        clear hJN hJ
        by_cases huQ:u<Q
        ·have huQ' : (u : Int) < (Q : Int) := by omega
         go_upto_region 21 with fail
         obtain ⟨gU,hgU⟩:∃ x,x=gk:=⟨_,rfl⟩
         subst hgU
         go_loopg [17] q (fun gg av wx=>∃ (a:Nat) (O:Nat->Nat),av=.int .i64 (a:Nat)/\1<=a/\a<=q/\q<=a+gg/\JN w13 wx gx Q cap O/\JoinR q r (addF P M) (mulF P M m) (DRef q u a) D L O)
         case atStart=>exact ⟨1,O,rfl,by omega,by omega,by omega,HJN.out,HJ.out⟩
         case round =>
          clear HJN HJ
          obtain ⟨a,O,rfl,ha1,haq,hag,hJN,hJ⟩:=hrel
          have ha0:(0:Int)<=(a:Int):=by omega
          have HJN:=hid hJN
          have HJ:=hid hJ
          obtain ⟨w16,hw16⟩:∃ X,X=wr:=⟨_,rfl⟩
          subst hw16
          clear hJN hJ
          by_cases haQ:a<q
          ·have haQ':(a:Int)<(q:Int):=by omega
           have ha1w:IntKind.i64.wrap ((a:Int)+1)=((a+1:Nat):Int):=by rw [IntWalk.i64_in _ (by omega)]; rfl
           go_wp2_with fail
           refine (zbC q r u w16 (by omega) (by omega) (by omega) (by omega)).mono ?_
           rintro e w17 ⟨gw,hgw,rfl,hrow,kb⟩
           have hgwx:gw≠gx:=by have:=HJN.out.lt; omega
           have hgw13:w13.heap.size<=gw:=by have:=HJN.out.below.size; omega
           have hgwe:gw≠ge:=by have:=HROW13.out.lt; omega
           obtain ⟨U,hU⟩:∃ U:Nat->Nat,U=digW q r u:=⟨_,rfl⟩
           have HU:=hid hU
           have HUq:=hid (show ∀ t,U t<q from fun t=>by rw [hU]; exact zc6 (by omega))
           rw [<-hU] at hrow;replace HJN:=hid (HJN.out.on kb)
           have HROWw:=hid hrow
           clear kb hrow hgw hU
           go_upto_region 25 with fail
           obtain ⟨gA,hgA⟩:∃ x,x=gk:=⟨_,rfl⟩
           subst hgA
           go_loopg [19] r (fun gg iv wx=>∃ i:Nat,iv=.int .i64 (i:Nat)/\i<=r/\r<=i+gg/\JN w13 wx gx Q cap O/\wx.rowIs gw 3 r (fun t=>.int .i64 ((if t<i then addF P M (U t) (mulF P M m a (D t)) else U t:Nat):Int)))
           case atStart=>exact ⟨0,rfl,by omega,by omega,HJN.out,HROWw.out.congr fun t _=>by rw [if_neg (by omega)]⟩
           case round =>
            clear HJN HROWw
            obtain ⟨i,rfl,hi,hig,hJN,hrow⟩:=hrel
            have hi0:(0:Int)<=(i:Int):=by omega
            have HJN:=hid hJN
            have HROWw:=hid hrow
            obtain ⟨w18,hw18⟩:∃ X,X=wr:=⟨_,rfl⟩
            subst hw18
            clear hJN hrow
            by_cases hir:i<r
            ·have hir':(i:Int)<(r:Int):=by omega
             have hi1w:IntKind.i64.wrap ((i:Int)+1)=((i+1:Nat):Int):=by rw [IntWalk.i64_in _ (by omega)]; rfl
             have hdc:Hid (∀ W,Below w13.heap.size w13 W->W.cell? ⟨ge,i,none⟩=some (.int .i64 (D i:Nat))):=hid fun W hb=>(HROWK.out W hb).cell hir
             have hu0:Hid (∀ W:World,W.rowIs gw 3 r (fun t=>.int .i64 ((if t<i then addF P M (U t) (mulF P M m a (D t)) else U t:Nat):Int))->W.cell? ⟨gw,i,none⟩=some (.int .i64 (U i:Nat))):=hid fun W hW=>by
              have h1:=hW.cell (i:=i) hir
              rwa [if_neg (Nat.lt_irrefl i)] at h1
             have hix:inV (P ^ M) (U i:Nat)=U i:=zat (by rw [<-HQ.out]; exact HUq.out i)
             have hiy:inV (P ^ M) (D i:Nat)=D i:=zat (by rw [<-HQ.out]; exact HDIG.out i)
             have hia:inV (P ^ M) (a:Nat)=a:=zat (by rw [<-HQ.out]; exact haQ)
             obtain ⟨x,hx⟩:∃ x,x=U i:=⟨_,rfl⟩
             obtain ⟨y,hy⟩:∃ y,y=D i:=⟨_,rfl⟩
             rw [<-hx] at hu0 hix;rw [<-hy] at hdc hiy
             have HX:=hid hx
             have HY:=hid hy
             have HIX:=hid hix
             have HIY:=hid hiy
             have HIA:=hid hia
             have HDC:=hdc
             have HU0:=hu0
             clear hx hy hix hiy hia hdc hu0
             go_upto_region 27 with fail
             refine wp_region_held_drew (S:=fun w'=>w'.cell? ⟨b0,0,none⟩=some (.int .i64 (P:Nat))/\w'.cell? ⟨b0,1,none⟩=some (.int .i64 (M:Nat))/\w'.cell? ⟨b0,2,none⟩=some (.slice A k c)/\w'.cell? ⟨ge,i,none⟩=some (.int .i64 (y:Nat))) (by kernel_rfl) ⟨(HRFK.out _ HJN.out.below.drew).cell (i:=0) (by omega),(HRFK.out _ HJN.out.below.drew).cell (i:=1) (by omega),(HRFK.out _ HJN.out.below.drew).cell (i:=2) (by omega),HDC.out _ HJN.out.below.drew⟩ (fun hHeld=>?_)
             obtain ⟨w19,hw⟩:∃ W,W=World.drew w18:=⟨_,rfl⟩
             have kb:Below w18.heap.size w18 w19:=by rw [hw]; exact (Below.refl _ _).drew
             rw [<-hw] at hHeld ⊢;clear hw;replace HJN:=hid (HJN.out.on kb);replace HROWw:=hid (zaa HROWw.out kb);clear kb
             refine tkq 0 (h:=tkq 1 (h:=tkq 2 (h:=tkq 3 (h:=tkq 4 (h:=tkq 5 (h:=tkq 7 (h:=tkq 8 (h:=tkq 9 (h:=tkq 10 (h:=tkq 11 (h:=tkq 12 (h:=?_))))))))))))
             clear hHeld
             refine rdq2 6 13 (h:=fun K hK=>?_) (h2:=fun K hK=>?_)
             focus
              have u0:w19.cell? ⟨gw,i,none⟩=some (.int .i64 (x:Nat)):=HU0.out _ HROWw.out
              go_simp
              clear u0
              refine bkq hK ⟨(HRFK.out _ HJN.out.below).cell (i:=0) (by omega),(HRFK.out _ HJN.out.below).cell (i:=1) (by omega),(HRFK.out _ HJN.out.below).cell (i:=2) (by omega),HDC.out _ HJN.out.below⟩ (h:=fun hHeld=>?_)
              clear hK K hHeld
              refine rdq 13 (h:=fun K hK=>?_)
              go_simp
              go_wp2_with fail
              refine (zbl P M A k c m (a:Int) (y:Int) w19 HFO.out.1 (HMODK.out _ HJN.out.below) hkM).mono ?_
              rintro e w20 ⟨rfl,kb⟩
              rw [HIA.out,HIY.out];replace HJN:=hid (HJN.out.on kb);replace HROWw:=hid (zaa HROWw.out kb);clear kb
              obtain ⟨z,hz⟩:∃ z,z=mulF P M m a y:=⟨_,rfl⟩
              rw [<-hz]
              have HZ:=hid hz
              have hiz:Hid (inV (P ^ M) (z:Nat)=z):=hid (zat (by rw [hz,<-HQ.out]; exact HLq.out.mulLt _ _))
              clear hz
              refine bkq hK ⟨(HRFK.out _ HJN.out.below).cell (i:=0) (by omega),(HRFK.out _ HJN.out.below).cell (i:=1) (by omega),(HRFK.out _ HJN.out.below).cell (i:=2) (by omega),HDC.out _ HJN.out.below⟩ (h:=fun hHeld=>?_)
              clear hK K hHeld
             rotate_left
             focus
              go_simp
              go_wp2_with fail
              refine (zbl P M A k c m (a:Int) (y:Int) w19 HFO.out.1 (HMODK.out _ HJN.out.below) hkM).mono ?_
              rintro e w20 ⟨rfl,kb⟩
              rw [HIA.out,HIY.out];replace HJN:=hid (HJN.out.on kb);replace HROWw:=hid (zaa HROWw.out kb);clear kb
              obtain ⟨z,hz⟩:∃ z,z=mulF P M m a y:=⟨_,rfl⟩
              rw [<-hz]
              have HZ:=hid hz
              have hiz:Hid (inV (P ^ M) (z:Nat)=z):=hid (zat (by rw [hz,<-HQ.out]; exact HLq.out.mulLt _ _))
              clear hz
              refine bkq hK ⟨(HRFK.out _ HJN.out.below).cell (i:=0) (by omega),(HRFK.out _ HJN.out.below).cell (i:=1) (by omega),(HRFK.out _ HJN.out.below).cell (i:=2) (by omega),HDC.out _ HJN.out.below⟩ (h:=fun hHeld=>?_)
              clear hK K hHeld
              refine rdq 6 (h:=fun K hK=>?_)
              have u0:w20.cell? ⟨gw,i,none⟩=some (.int .i64 (x:Nat)):=HU0.out _ HROWw.out
              go_simp
              clear u0
              refine bkq hK ⟨(HRFK.out _ HJN.out.below).cell (i:=0) (by omega),(HRFK.out _ HJN.out.below).cell (i:=1) (by omega),(HRFK.out _ HJN.out.below).cell (i:=2) (by omega),HDC.out _ HJN.out.below⟩ (h:=fun hHeld=>?_)
              clear hK K hHeld
             rotate_left
             all_goals
              refine rdq 14 (h:=fun K hK=>?_)
              go_simp
              go_wp2_with fail
              refine (zcO P M A k c (x:Int) (z:Int) w20 HFO.out.1).mono ?_
              rintro e w21 ⟨rfl,kb⟩
              rw [HIX.out,hiz.out];replace HJN:=hid (HJN.out.on kb);replace HROWw:=hid (zaa HROWw.out kb);clear kb
              obtain ⟨s,hs⟩:∃ s,s=addF P M x z:=⟨_,rfl⟩
              rw [<-hs]
              have HS:=hid hs
              clear hs
              refine bkq hK ⟨(HRFK.out _ HJN.out.below).cell (i:=0) (by omega),(HRFK.out _ HJN.out.below).cell (i:=1) (by omega),(HRFK.out _ HJN.out.below).cell (i:=2) (by omega),HDC.out _ HJN.out.below⟩ (h:=fun hHeld=>?_)
              clear hK K hHeld
              have hHeld:w21.cell? ⟨b0,0,none⟩=some (.int .i64 (P:Nat))/\w21.cell? ⟨b0,1,none⟩=some (.int .i64 (M:Nat))/\w21.cell? ⟨b0,2,none⟩=some (.slice A k c)/\w21.cell? ⟨ge,i,none⟩=some (.int .i64 (y:Nat)):=⟨(HRFK.out _ HJN.out.below).cell (i:=0) (by omega),(HRFK.out _ HJN.out.below).cell (i:=1) (by omega),(HRFK.out _ HJN.out.below).cell (i:=2) (by omega),HDC.out _ HJN.out.below⟩
              refine tkq 15 (h:=?_)
              clear hHeld
              have u0:w21.cell? ⟨gw,i,none⟩=some (.int .i64 (x:Nat)):=HU0.out _ HROWw.out
              have u1:=HROWw.out.frozen i
              refine rdq 16 (h:=fun K hK=>?_)
              go_simp
              have HJN2:=hid (HJN.out.far hgwx hgw13 i (.int .i64 (s:Nat)))
              have hrow2:=HROWw.out.set i (.int .i64 (s:Nat))
              obtain ⟨w22,hw⟩:∃ W,W=World.setCell w21 ⟨gw,i,none⟩ (.int .i64 (s:Nat)):=⟨_,rfl⟩
              rw [<-hw] at HJN2 hrow2 ⊢;clear hw u0 u1 HJN
              have HROW2:Hid (w22.rowIs gw 3 r (fun t=>.int .i64 ((if t<i+1 then addF P M (U t) (mulF P M m a (D t)) else U t:Nat):Int))):=hid (hrow2.congr fun t _=>by
               show (if t=i then Value.int .i64 (s:Nat) else .int .i64 ((if t<i then addF P M (U t) (mulF P M m a (D t)) else U t:Nat):Int))=.int .i64 ((if t<i+1 then addF P M (U t) (mulF P M m a (D t)) else U t:Nat):Int)
               by_cases e:t=i
               ·rw [if_pos e,if_pos (by omega),HS.out,HZ.out,HX.out,HY.out,e]
               ·rw [if_neg e]
                by_cases e2:t<i
                ·rw [if_pos e2,if_pos (by omega)]
                ·rw [if_neg e2,if_neg (by omega)])
              have HJN:=HJN2
              clear hrow2 HROWw HJN2
              refine bkq hK ⟨(HRFK.out _ HJN.out.below).cell (i:=0) (by omega),(HRFK.out _ HJN.out.below).cell (i:=1) (by omega),(HRFK.out _ HJN.out.below).cell (i:=2) (by omega),HDC.out _ HJN.out.below⟩ (h:=fun hHeld=>?_)
              clear hK K hHeld
              refine wpAnyH_done (by kernel_rfl) ?_ _
              go_wp2
              go_roundg (gk - 1)
              case measure=>omega
              case rel=>exact ⟨i+1,by go_num,by omega,by omega,HJN.out,HROW2.out⟩
            ·obtain rfl:r=i:=by omega
             have hir':¬ (r:Int)<(r:Int):=by omega
             obtain ⟨F,hF⟩:∃ F:Nat->Nat,F=fun t=>addF P M (U t) (mulF P M m a (D t)):=⟨_,rfl⟩
             have HROWF:Hid (w18.rowIs gw 3 r (fun t=>.int .i64 (F t:Nat))):=hid (HROWw.out.congr fun t ht=>by rw [if_pos ht,hF])
             have HFq:Hid (∀ t,t<r->F t<q):=hid fun t _=>by rw [hF]; exact HLq.out.addLt _ _
             have hpp:idxW q F r=plusI q r (addF P M) (mulF P M m) D a u:=zas r fun t ht=>by
              rw [hF,<-HU.out]
             have hpQ:idxW q F r<Q:=by rw [HQr.out]; exact zcv r HFq.out
             obtain ⟨p,hp⟩:∃ p,p=idxW q F r:=⟨_,rfl⟩
             rw [<-hp] at hpp hpQ
             have HP:=hid hp
             have HPP:=hid hpp
             clear hp hpp hF HROWw
             obtain ⟨x,hx⟩:∃ x,x=O p:=⟨_,rfl⟩
             obtain ⟨y,hy⟩:∃ y,y=L u:=⟨_,rfl⟩
             have hLi:=HLLE.out u huQ
             rw [<-hy] at hLi
             have HLC:Hid (∀ W,Below w13.heap.size w13 W->∃ lb lo,LA=some ⟨lb,lo,none⟩/\W.cell? ⟨lb,lo+u,none⟩=some (.int .i64 (y:Nat))):=hid fun W hb=>by
              obtain ⟨lb,lo,e,_,l0⟩:=(HLK.out W hb).at huQ
              exact ⟨lb,lo,e,by rw [hy]; exact l0⟩
             have HX:=hid hx
             have HY:=hid hy
             clear hx hy
             obtain ⟨lb,lo,rfl,l0⟩:=HLC.out _ HJN.out.below
             have HLC2:Hid (∀ W,Below w13.heap.size w13 W->W.cell? ⟨lb,lo+u,none⟩=some (.int .i64 (y:Nat))):=hid fun W hb=>by
              obtain ⟨lb2,lo2,e,l1⟩:=HLC.out W hb
              injection e with e
              injection e with e1 e2
              subst e1 e2
              exact l1
             have hy1:IntKind.i64.wrap ((y:Int)+1)=((y+1:Nat):Int):=by rw [IntWalk.i64_in _ (by omega)]; rfl
             obtain ⟨cc,hc⟩:∃ c,c=min x (y+1):=⟨_,rfl⟩
             have hmin:min (x:Int) ((y+1:Nat):Int)=((cc:Nat):Int):=by omega
             have hmin2:min (x:Int) ((y:Int)+1)=((cc:Nat):Int):=by omega
             have HC:=hid hc
             clear hc
             have hp0:(0:Int)<=(p:Int):=by omega
             have hpQ':(p:Int)<(Q:Int):=by omega
             go_upto_region 28 with fail
             refine wp_region_held_drew (S:=fun w'=>w'.cell? ⟨lb,lo+u,none⟩=some (.int .i64 (y:Nat))) (by kernel_rfl) (HLC2.out _ HJN.out.below.drew) (fun hHeld=>?_)
             obtain ⟨w19,hw⟩:∃ W,W=World.drew w18:=⟨_,rfl⟩
             have kb:Below w18.heap.size w18 w19:=by rw [hw]; exact (Below.refl _ _).drew
             rw [<-hw] at hHeld ⊢;clear hw l0;replace HJN:=hid (HJN.out.on kb)
             have HU19:=hid (rowInts (zaa HROWF.out kb))
             clear kb HROWF
             refine tkq 0 (h:=tkq 1 (h:=tkq 2 (h:=tkq 4 (h:=tkq 5 (h:=tkq 6 (h:=tkq 10 (h:=tkq 11 (h:=tkq 12 (h:=tkq 13 (h:=tkq 14 (h:=?_)))))))))))
             clear hHeld
             refine rdq 3 (h:=fun K hK=>?_)
             go_simp
             go_wp2_with fail
             refine (zbP q r r Q (some ⟨gw,0,none⟩) F w19 HQr hQ2 (by omega) hq256 (by omega) HU19.out HFq.out).mono ?_
             rintro e w20 ⟨rfl,hw20⟩
             subst hw20
             rw [<-HP.out]
             refine bkq hK (HLC2.out _ HJN.out.below) (h:=fun hHeld=>?_)
             clear hK K hHeld
             refine rdq 7 (h:=fun K hK=>?_)
             go_simp
             go_wp2_with fail
             refine (zbP q r r Q (some ⟨gw,0,none⟩) F w19 HQr hQ2 (by omega) hq256 (by omega) HU19.out HFq.out).mono ?_
             rintro e w20 ⟨rfl,hw20⟩
             subst hw20
             rw [<-HP.out]
             refine bkq hK (HLC2.out _ HJN.out.below) (h:=fun hHeld=>?_)
             clear hK K hHeld
             have hHeld:=HLC2.out _ HJN.out.below
             refine tkq 8 (h:=?_)
             have o0:w19.cell? ⟨gx,p,none⟩=some (.int .i64 (x:Nat)):=by rw [HX.out]; exact (HJN.out.atO hpQ).1
             have o1:=(HJN.out.atO hpQ).2
             refine rdq 9 (h:=fun K hK=>?_)
             go_simp
             refine bkq hK (HLC2.out _ HJN.out.below) (h:=fun _=>?_)
             clear hK K
             refine tkq 15 (h:=tkq 16 (h:=?_))
             clear hHeld
             refine rdq 17 (h:=fun K hK=>?_)
             go_simp
             have HJN2:=hid (HJN.out.setO hpQ cc)
             obtain ⟨w20,hw⟩:∃ W,W=World.setCell w19 ⟨gx,p,none⟩ (.int .i64 (cc:Nat)):=⟨_,rfl⟩
             rw [<-hw] at HJN2 ⊢
             have HJ2:=hid ((HJ.out.step (a:=a) (u:=u) (p:=p) HLq.out HPP.out).congr (D':=DRef q u (a+1)) fun a' u'=>by
              unfold DRef
              constructor
              ·rintro ((⟨_,_,_⟩ | ⟨_,_,_⟩) | ⟨_,_⟩) <;> omega
              ·rintro (⟨h1,h2,h3⟩ | ⟨h1,h2,h3⟩)
               ·exact .inl (.inl ⟨h1,h2,h3⟩)
               ·by_cases e:a'=a
                ·exact .inr ⟨e,h1⟩
                ·exact .inl (.inr ⟨h1,h2,by omega⟩))
             obtain ⟨O2,hO2⟩:∃ O2:Nat->Nat,O2=fun v=>if v=p then cc else O v:=⟨_,rfl⟩
             rw [<-hO2] at HJN2
             have HJ3:Hid (JoinR q r (addF P M) (mulF P M m) (DRef q u (a+1)) D L O2):=by
              have h1:=HJ2.out
              rw [<-HX.out,<-HY.out,<-HC.out,<-hO2] at h1
              exact hid h1
             clear hw o0 o1 hO2 HJ2 HJ HJN
             refine bkq hK (HLC2.out _ HJN2.out.below) (h:=fun hHeld=>?_)
             clear hK K hHeld
             refine wpAnyH_done (by kernel_rfl) ?_ _
             go_wp2
             go_roundg (gA - 1)
             case measure=>omega
             case rel=>exact ⟨a+1,O2,by go_num,by omega,by omega,by omega,HJN2.out,HJ3.out⟩
          ·obtain rfl:q=a:=by omega
           have haQ':¬ (q:Int)<(q:Int):=by omega
           have hu1w:IntKind.i64.wrap ((u:Int)+1)=((u+1:Nat):Int):=by rw [IntWalk.i64_in _ (by omega)]; rfl
           have HJ3:=hid (HJ.out.congr (D':=DRef q (u+1) 1) fun a' u'=>by
            unfold DRef
            constructor
            ·rintro (⟨h1,h2,h3⟩ | ⟨h1,h2,h3⟩)
             ·exact .inl ⟨h1,h2,by omega⟩
             ·exact .inl ⟨h2,h3,by omega⟩
            ·rintro (⟨h1,h2,h3⟩ | ⟨h1,h2,h3⟩)
             ·by_cases e:u'=u
              ·exact .inr ⟨e,h1,h2⟩
              ·exact .inl ⟨h1,h2,by omega⟩
             ·omega)
           go_wp2
           go_roundg (gU - 1)
           case measure=>omega
           case rel=>exact ⟨u+1,O,by go_num,by omega,by omega,HJN.out,HJ3.out⟩
        ·obtain rfl:Q=u:=by omega
         have huQ':¬ (Q:Int)<(Q:Int):=by omega
         have HJ3:=hid (HJ.out.congr (D':=AllP q r) fun a' u'=>by
          unfold DRef AllP
          rw [<-HQr.out]
          constructor
          ·rintro (⟨h1,h2,h3⟩ | ⟨h1,h2,h3⟩)
           ·exact ⟨h1,h2,h3⟩
           ·omega
          ·rintro ⟨h1,h2,h3⟩
           exact .inl ⟨h1,h2,h3⟩)
         obtain ⟨h2,hh2⟩:∃ h2:Nat->Nat->Nat,h2=fun t' u=>if t'=t then D u else h t' u:=⟨_,rfl⟩
         have hlow:∀ t',t'<t->∀ u,u<r->h t' u=h2 t' u:=fun t' ht' u _=>by
          rw [hh2]
          show h t' u=if t'=t then D u else h t' u
          rw [if_neg (by omega)]
         have hhi:∀ u,h2 t u=D u:=fun u=>by
          rw [hh2]
          show (if t=t then D u else h t u)=D u
          rw [if_pos rfl]
         have HGS2:Hid (RfSt q r (addF P M) (mulF P M m) d n (t+1) h2 O):=hid ⟨L,v,HGS.out.ext HLq.out t hlow (fun _ _=>rfl),by rw [<-HQr.out]; exact hvQ2,HVn.out hvQ2,HV.out,fun u _=>by rw [hhi,HD.out],HJ3.out.cong (fun _ _ g=>g.2.2) HLq.out (fun u _=>(hhi u).symm) (fun _ _=>rfl) (fun _ _=>rfl)⟩
         have HOn:=hid (HJN.out.own.mono (show w.heap.size<=w13.heap.size by have:=HB6.out.size; have:=KB13.out.size; omega))
         have HOVn:=hid (HOV13.out.on HJN.out.below)
         have HKn:=hid (onS KB13.out HJN.out.below)
         clear hlow hhi hh2
         go_wp2
         go_roundg (gN - 1)
         case measure=>omega
         case rel=>exact ⟨t+1,h2,O,_,by omega,by omega,HOn.out,HGS2.out,HOVn.out,HKn.out⟩
    ·obtain rfl:n=t:=by omega
     have htn':¬ (n:Int)<(n:Int):=by omega
     have hB10:=onS HB6.out KB.out
     go_wp2
     go_ret
     exact ⟨n,OA,oc,h,L,rfl,by omega,HGS.out,hB10⟩
def msgD (q n x t:Nat):Nat:=dig q x (n - 1 - t)
theorem zd2 {q n x t:Nat} (hq:0<q):msgD q n x t<q:=zba hq x _
theorem zfg {q:Nat} (hq:0<q) {n x y:Nat} (hx:x<q ^ n) (hy:y<q ^ n) (h:∀ t,t<n->dig q x t=dig q y t):x=y:=zck hq hx hy h
section
variable {q n k:Nat} {add mul:Nat->Nat->Nat} {V:Nat->Nat->Nat}
theorem zaL {neg:Nat->Nat} {p:Nat->Nat} {W:Nat->Nat->Nat} {c j:Nat}:∀ a,(∀ s,s<a->p s≠j)->nrow neg p W c a j=if j=c then 1 else 0
 | 0,_=>rfl
 | a+1,h=>by
  unfold nrow
  rw [if_neg (fun e=>h a (by omega) e.symm)]
  exact zaL a fun s hs=>h s (by omega)
theorem zda {neg:Nat->Nat} {p:Nat->Nat} {W:Nat->Nat->Nat} {c s:Nat}:∀ a,(∀ t u,t<u->u<a->p t<p u)->s<a->nrow neg p W c a (p s)=neg (W s c)
 | 0,_,h=>absurd h (by omega)
 | a + 1, hi, hs => by
  unfold nrow
  by_cases e:s=a
  ·subst e; rw [if_pos rfl]
  ·have:=hi s a (by omega) (by omega)
   rw [if_neg (by omega)]
   exact zda a (fun t u h1 h2=>hi t u h1 (by omega)) (by omega)
theorem zcc (hL:FieldLaws q add mul) {a s j:Nat} {c:Nat->Nat} (hc:∀ i,i<a->c i<q) (hs:s<a) (h1:V s j=1) (h0:∀ t,t<a->t≠s->V t j=0):spE add mul V c a j=c s:=by
 have key:∀ t,t<=a->spE add mul V c t j=if s<t then c s else 0:=by
  intro t
  induction t with
  | zero=>intro _; rfl
  | succ t ih =>
   intro ht
   show add (spE add mul V c t j) (mul (c t) (V t j))=_
   rw [ih (by omega)]
   by_cases e:t=s
   ·subst e
    rw [if_neg (by omega),if_pos (by omega),h1,hL.mulOne (hc t hs),hL.zeroAdd _ (hc t hs)]
   ·rw [h0 t (by omega) e,hL.mulZero (hc t (by omega))]
    by_cases e2:s<t
    ·rw [if_pos e2,if_pos (by omega),hL.addZero (hc s hs)]
    ·rw [if_neg e2,if_neg (by omega),hL.addZero (by have:=hL.two; omega)]
 rw [key a (Nat.le_refl _),if_pos hs]
theorem zfh (hL:FieldLaws q add mul) {U W:Nat->Nat->Nat} {f a N:Nat} {fr p:Nat->Nat} (hf:∀ u,u<f->fr u<N) (hp:∀ s,s<a->p s<N)
  (u1:∀ s,s<f->U s (fr s)=1) (u0:∀ s,s<f->∀ t,t<f->t≠s->U t (fr s)=0) (w1:∀ s,s<a->W s (p s)=1) (w0:∀ s,s<a->∀ t,t<a->t≠s->W t (p s)=0)
  (hS:SameSp q add mul N f a U W):f<=a:=by
 have hq:=hL.two
 have hle:q ^ f<=q ^ a:=by
  refine pigeon (f:=fun i=>code q (fun s=>spE add mul U (msgD q f i) f (p s)) a) (fun i _=>zdu fun s _=>zaR hL _ _ _) fun i i' hi hi' e=>?_
  have e1:=zeF (fun s _=>zaR hL _ _ _) (fun s _=>zaR hL _ _ _) e
  have hin:∀ i,InSp q add mul a N W (spE add mul U (msgD q f i) f):=fun i=>(hS _).1 ⟨msgD q f i,fun _ _=>zd2 (by omega),fun _ _=>rfl⟩
  obtain ⟨c,hc,ec⟩:=hin i
  obtain ⟨d,hd,ed⟩:=hin i'
  have ecd:∀ s,s<a->c s=d s:=fun s hs=>by
   have:=e1 s hs
   rw [ec _ (hp s hs),ed _ (hp s hs),zcc hL hc hs (w1 s hs) (w0 s hs),zcc hL hd hs (w1 s hs) (w0 s hs)] at this
   exact this
  have em:∀ u,u<f->msgD q f i u=msgD q f i' u:=fun u hu=>by
   have h1:=zcc (V:=U) hL (fun t _=>zd2 (q:=q) (n:=f) (x:=i) (t:=t) (by omega)) hu (u1 u hu) (u0 u hu)
   have h2:=zcc (V:=U) hL (fun t _=>zd2 (q:=q) (n:=f) (x:=i') (t:=t) (by omega)) hu (u1 u hu) (u0 u hu)
   rw [<-h1,<-h2,ec _ (hf u hu),ed _ (hf u hu)]
   exact zbo a fun s hs=>⟨ecd s hs,rfl⟩
  refine zfg (by omega) hi hi' fun t ht=>?_
  have:=em (f - 1 - t) (by omega)
  unfold msgD at this
  rwa [show f - 1 - (f - 1 - t)=t by omega] at this
 exact (Nat.pow_le_pow_iff_right hq).1 hle
theorem NullRel.rows {neg:Nat->Nat} {N a2:Nat} {W2:Nat->Nat->Nat} (hL:FieldLaws q add mul) (hneg:∀ x,x<q->neg x<q/\add x (neg x)=0) (hV:∀ i,i<n->∀ j,j<N->V i j<q) (h:NullRel q add mul neg n N V a2 W2):N<=n+a2:=by
 obtain ⟨a,p,W,f,fr,Nn,p2,hE,hR,hN,hE2,hR2⟩:=h
 have hq:=hL.two
 have hle:=hE.le
 obtain ⟨hs,hWl⟩:=hR.sp hL hV
 have hNl:∀ u,u<f->∀ j,j<N->Nn u j<q:=fun u hu j hj=>by
  rw [hN.row u hu j hj]
  have hfu:=hN.lt u hu
  rcases hN.cover j hj with ⟨s,hs,e⟩ | ⟨v,hv,e⟩
  ·rw [<-e,zda a hE.inc hs]
   exact (hneg _ (hWl s (by omega) _ hfu)).1
  ·rw [zaL a fun s hs e2=>hN.ne v hv s hs (e2.trans e.symm)]
   split <;> omega
 obtain ⟨hs2,-⟩:=hR2.sp hL hNl
 have hle2:=hE2.le
 have u1:∀ s,s<f->Nn s (fr s)=1:=fun s hs=>by rw [hN.row s hs _ (hN.lt s hs),zaL a (hN.ne s hs),if_pos rfl]
 have u0:∀ s,s<f->∀ t,t<f->t≠s->Nn t (fr s)=0:=fun s hs t ht hne=>by
  rw [hN.row t ht _ (hN.lt s hs),zaL a (hN.ne s hs),if_neg]
  intro e
  rcases Nat.lt_or_gt_of_ne hne with h1 | h1
  ·have:=hN.inc t s h1 hs; omega
  ·have:=hN.inc s t h1 ht; omega
 have w0:∀ s,s<a2->∀ t,t<a2->t≠s->W2 t (p2 s)=0:=fun s hs t ht hne=>hE2.zero s hs t (by omega) hne
 have hS:SameSp q add mul N f a2 Nn W2:=fun x=>(hs2 x).trans (hE2.sp_top hL x)
 have f1:f<=a2:=zfh hL hN.lt hE2.pvlt u1 u0 hE2.one w0 hS
 have f4:N<=a+f:=by
  have hch:∀ j,∃ i,j<N->i<a+f/\(if i<a then p i else fr (i - a))=j:=fun j=>by
   by_cases hj:j<N
   ·rcases hN.cover j hj with ⟨s,hs,e⟩ | ⟨u,hu,e⟩
    ·exact ⟨s,fun _=>⟨by omega,by rw [if_pos hs]; exact e⟩⟩
    ·exact ⟨a+u,fun _=>⟨by omega,by rw [if_neg (by omega),show a+u - a=u by omega]; exact e⟩⟩
   ·exact ⟨0,fun h=>absurd h hj⟩
  obtain ⟨g,hg⟩:=Classical.skolem.1 hch
  refine pigeon (f:=g) (fun j hj=>(hg j hj).1) fun i j hi hj e=>?_
  have h1:=(hg i hi).2
  have h2:=(hg j hj).2
  rw [e] at h1
  omega
 omega
theorem zeV (hL:FieldLaws q add mul) {a b c d:Nat} (ha:a<q) (hb:b<q) (hc:c<q) (hd:d<q):add (add a b) (add c d)=add (add a c) (add b d):=by
 rw [hL.addAssoc a b _ ha hb (hL.addLt _ _),<-hL.addAssoc b c d hb hc hd,hL.addComm b c,hL.addAssoc c b d hc hb hd,<-hL.addAssoc a c _ ha hc (hL.addLt _ _)]
theorem zdb (hL:FieldLaws q add mul) {x y:Nat->Nat}:∀ n,(∀ i,i<n->x i<q/\y i<q)->dotN add mul x y n=dotN add mul y x n
 | 0,_=>rfl
 | n+1,h=>by
  show add (dotN add mul x y n) (mul (x n) (y n))=add (dotN add mul y x n) (mul (y n) (x n))
  rw [zdb hL n fun i hi=>h i (by omega),hL.mulComm _ _ (h n (by omega)).1 (h n (by omega)).2]
theorem zcd {x x' y y':Nat->Nat}:∀ n,(∀ i,i<n->x i=x' i/\y i=y' i)->dotN add mul x y n=dotN add mul x' y' n
 | 0,_=>rfl
 | n+1,h=>by
  show add (dotN add mul x y n) (mul (x n) (y n))=add (dotN add mul x' y' n) (mul (x' n) (y' n))
  rw [zcd n fun i hi=>h i (by omega),(h n (by omega)).1,(h n (by omega)).2]
theorem zdc (hL:FieldLaws q add mul) {x y z:Nat->Nat}:∀ n,(∀ i,i<n->x i<q/\y i<q/\z i<q)->dotN add mul x (fun j=>add (y j) (z j)) n=add (dotN add mul x y n) (dotN add mul x z n)
 | 0,_=>(hL.zeroAdd 0 (by have:=hL.two; omega)).symm
 | n+1,h=>by
  obtain ⟨h1,h2,h3⟩:=h n (by omega)
  show add (dotN add mul x (fun j=>add (y j) (z j)) n) (mul (x n) (add (y n) (z n)))=add (add (dotN add mul x y n) (mul (x n) (y n))) (add (dotN add mul x z n) (mul (x n) (z n)))
  rw [zdc hL n fun i hi=>h i (by omega),hL.distrib _ _ _ h1 h2 h3,zeV hL (zdO hL _ _ _) (zdO hL _ _ _) (hL.mulLt _ _) (hL.mulLt _ _)]
theorem zbQ (hL:FieldLaws q add mul) {x y:Nat->Nat} {c:Nat} (hc:c<q):∀ n,(∀ i,i<n->x i<q/\y i<q)->dotN add mul x (fun j=>mul c (y j)) n=mul c (dotN add mul x y n)
 | 0,_=>(hL.mulZero hc).symm
 | n+1,h=>by
  obtain ⟨h1,h2⟩:=h n (by omega)
  show add (dotN add mul x (fun j=>mul c (y j)) n) (mul (x n) (mul c (y n)))=mul c (add (dotN add mul x y n) (mul (x n) (y n)))
  rw [zbQ hL hc n fun i hi=>h i (by omega),hL.distrib _ _ _ hc (zdO hL _ _ _) (hL.mulLt _ _),<-hL.mulAssoc _ _ _ h1 hc h2,hL.mulComm _ _ h1 hc,hL.mulAssoc _ _ _ hc h1 h2]
theorem zcx (hL:FieldLaws q add mul) {x:Nat->Nat}:∀ n,(∀ i,i<n->x i<q)->dotN add mul x (fun _=>0) n=0
 | 0,_=>rfl
 | n+1,h=>by
  have hq:=hL.two
  show add (dotN add mul x (fun _=>0) n) (mul (x n) 0)=0
  rw [zcx hL n fun i hi=>h i (by omega),hL.mulZero (h n (by omega)),hL.zeroAdd 0 (by omega)]
theorem zce (hL:FieldLaws q add mul) {x c:Nat->Nat} {N:Nat} (hx:∀ j,j<N->x j<q) (hV:∀ i,i<n->∀ j,j<N->V i j<q) (hc:∀ i,i<n->c i<q) (h:∀ i,i<n->dotN add mul x (V i) N=0):∀ t,t<=n->dotN add mul x (spE add mul V c t) N=0
 | 0,_=>zcx hL N hx
 | t+1,ht=>by
  have hq:=hL.two
  show dotN add mul x (fun j=>add (spE add mul V c t j) (mul (c t) (V t j))) N=0
  rw [zdc hL N fun i hi=>⟨hx i hi,zaR hL _ _ _,hL.mulLt _ _⟩,zce hL hx hV hc h t (by omega),zbQ hL (hc t (by omega)) N (fun i hi=>⟨hx i hi,hV t (by omega) i hi⟩),h t (by omega),hL.mulZero (hc t (by omega)),hL.zeroAdd 0 (by omega)]
theorem zd3 (hL:FieldLaws q add mul) {x y:Nat->Nat} {i0 i1:Nat} (hne:i0≠i1):∀ n,(∀ i,i<n->x i<q/\y i<q)->(∀ i,i<n->i≠i0->i≠i1->x i=0∨y i=0)->dotN add mul x y n=add (if i0<n then mul (x i0) (y i0) else 0) (if i1<n then mul (x i1) (y i1) else 0)
 | 0,_,_=>by
  have hq:=hL.two
  rw [if_neg (by omega),if_neg (by omega)]; exact (hL.zeroAdd 0 (by omega)).symm
 | n + 1, h, h0 => by
  have hq:=hL.two
  obtain ⟨h1,h2⟩:=h n (by omega)
  have ih:=zd3 hL hne n (fun i hi=>h i (by omega)) fun i hi=>h0 i (by omega)
  show add (dotN add mul x y n) (mul (x n) (y n))=_
  rw [ih]
  have hlt:∀ (p:Prop) [Decidable p] (u:Nat),u<q->(if p then u else 0)<q:=fun p _ u hu=>by split <;> omega
  by_cases e0:n=i0
  ·subst e0
   rw [if_neg (by omega),if_pos (show n<n+1 by omega),hL.zeroAdd _ (hlt _ _ (hL.mulLt _ _)),hL.addComm]
   by_cases e1:i1<n
   ·rw [if_pos e1,if_pos (by omega)]
   ·rw [if_neg e1,if_neg (by omega)]
  ·by_cases e1:n=i1
   ·subst e1
    rw [if_neg (show ¬ n<n by omega),if_pos (show n<n+1 by omega),hL.addZero (hlt _ _ (hL.mulLt _ _))]
    by_cases e2:i0<n
    ·rw [if_pos e2,if_pos (by omega)]
    ·rw [if_neg e2,if_neg (by omega)]
   ·have hz:mul (x n) (y n)=0:=by
     rcases h0 n (by omega) e0 e1 with e | e
     ·rw [e,hL.mulComm 0 _ (by omega) h2,hL.mulZero h2]
     ·rw [e,hL.mulZero h1]
    rw [hz,hL.addZero (hL.addLt _ _)]
    have c0:(i0<n+1)=(i0<n):=propext ⟨fun _=>by omega,fun _=>by omega⟩
    have c1:(i1<n+1)=(i1<n):=propext ⟨fun _=>by omega,fun _=>by omega⟩
    simp only [c0,c1]
theorem zeW (hL:FieldLaws q add mul) {N i:Nat} (hi:i<n) (hV:∀ i,i<n->∀ j,j<N->V i j<q):InSp q add mul n N V (V i):=by
 have hq:=hL.two
 refine ⟨fun t=>if t=i then 1 else 0,fun t _=>by show (if t=i then 1 else 0)<q; split <;> omega,fun j hj=>?_⟩
 have key:∀ t,t<=n->spE add mul V (fun t=>if t=i then 1 else 0) t j=if i<t then V i j else 0:=by
  intro t
  induction t with
  | zero=>intro _; rfl
  | succ t ih =>
   intro ht
   have hvt:=hV t (by omega) j hj
   show add (spE add mul V (fun t=>if t=i then 1 else 0) t j) (mul (if t=i then 1 else 0) (V t j))=_
   rw [ih (by omega)]
   by_cases e:t=i
   ·subst e
    rw [if_neg (by omega),if_pos rfl,if_pos (by omega),hL.oneMul _ hvt,hL.zeroAdd _ hvt]
   ·rw [if_neg e,hL.mulComm 0 _ (by omega) hvt,hL.mulZero hvt]
    by_cases e2:i<t
    ·rw [if_pos e2,if_pos (by omega),hL.addZero (hV i hi j hj)]
    ·rw [if_neg e2,if_neg (by omega),hL.addZero (by omega)]
 rw [key n (Nat.le_refl _),if_pos hi]
theorem NullRel.word {neg:Nat->Nat} {N a2:Nat} {W2:Nat->Nat->Nat} (hL:FieldLaws q add mul) (hneg:∀ x,x<q->neg x<q/\add x (neg x)=0) (hV:∀ i,i<n->∀ j,j<N->V i j<q) (h:NullRel q add mul neg n N V a2 W2) {x:Nat->Nat} (hx:InSp q add mul a2 N W2 x) {i:Nat} (hi:i<n):dotN add mul x (V i) N=0:=by
 obtain ⟨a,p,W,f,fr,Nn,p2,hE,hR,hN,hE2,hR2⟩:=h
 obtain ⟨hs,hWl⟩:=hR.sp hL hV
 have hle:=hE.le
 have hq2:=hL.two
 have hNl:∀ u,u<f->∀ j,j<N->Nn u j<q:=fun u hu j hj=>by
  rw [hN.row u hu j hj]
  have hfu:=hN.lt u hu
  rcases hN.cover j hj with ⟨s,hs,e⟩ | ⟨v,hv,e⟩
  ·rw [<-e,zda a hE.inc hs]
   exact (hneg _ (hWl s (by omega) _ hfu)).1
  ·rw [zaL a fun s hs e2=>hN.ne v hv s hs (e2.trans e.symm)]
   split <;> omega
 obtain ⟨hs2,_⟩:=hR2.sp hL hNl
 have hWa:∀ s,s<a->∀ j,j<N->W s j<q:=fun s hs=>hWl s (by omega)
 have hx1:InSp q add mul f N Nn x:=(hs2 x).2 ((hE2.sp_top hL x).2 hx)
 have hy1:InSp q add mul a N W (V i):=(hE.sp_top hL _).1 ((hs _).1 (zeW hL hi hV))
 obtain ⟨c,hc,ex⟩:=hx1
 obtain ⟨d,hd,ey⟩:=hy1
 have hxl:∀ j,j<N->x j<q:=fun j hj=>by rw [ex j hj]; exact zaR hL _ _ _
 have pair:∀ s,s<a->∀ u,u<f->dotN add mul (W s) (Nn u) N=0:=fun s hs u hu=>by
  have hne:p s≠fr u:=hN.ne u hu s hs
  rw [zd3 hL hne N (fun j hj=>⟨hWa s hs j hj,hNl u hu j hj⟩) fun j hj h0 h1=>?_]
  ·rw [if_pos (hE.pvlt s hs),if_pos (hN.lt u hu),hE.one s hs,hN.row u hu _ (hE.pvlt s hs),hN.row u hu _ (hN.lt u hu),zda a hE.inc hs,zaL a (hN.ne u hu),if_pos rfl]
   obtain ⟨g1,g2⟩:=hneg _ (hWa s hs _ (hN.lt u hu))
   rw [hL.oneMul _ g1,hL.mulOne (hWa s hs _ (hN.lt u hu)),hL.addComm]
   exact g2
  ·rcases hN.cover j hj with ⟨t,ht,e⟩ | ⟨v,hv,e⟩
   ·left
    rw [<-e]
    exact hE.zero t ht s (by omega) fun e2=>h0 (by rw [<-e,e2])
   ·right
    rw [hN.row u hu j hj,zaL a fun t ht e2=>hN.ne v hv t ht (e2.trans e.symm),if_neg h1]
 have h1:∀ s,s<a->dotN add mul x (W s) N=0:=fun s hs=>by
  rw [zdb hL N fun j hj=>⟨hxl j hj,hWa s hs j hj⟩,zcd (x':=W s) (y':=spE add mul Nn c f) N fun j hj=>⟨rfl,ex j hj⟩]
  exact zce hL (hWa s hs) hNl hc (pair s hs) f (Nat.le_refl _)
 rw [zcd (x':=x) (y':=spE add mul W d a) N fun j hj=>⟨rfl,ey j hj⟩]
 exact zce hL hxl hWa hd h1 a (Nat.le_refl _)
theorem zdd {x:Nat->Nat} {h:Nat->Nat->Nat} {j:Nat}:∀ n,dotN add mul x (fun i=>h i j) n=spE add mul h x n j
 | 0=>rfl
 | n+1=>by
  show add (dotN add mul x (fun i=>h i j) n) (mul (x n) (h n j))=add (spE add mul h x n j) (mul (x n) (h n j))
  rw [zdd n]
end
def disN (f g:Nat->Int):Nat->Nat
 | 0=>0
 | k+1=>disN f g k+if f k=g k then 0 else 1
theorem zfi (f g:Nat->Int) (k:Nat):disN f g k<=k:=by
 induction k with
 | zero=>exact Nat.le_refl _
 | succ k ih=>unfold disN; split <;> omega
theorem zcM (A B:Option Addr) (n c c':Nat) (f g:Nat->Int) (w:World) (h:IntsR w w.heap.size A n f) (h':IntsR w w.heap.size B n g) (hn:n<=1048576) :
  Calls Try.prog 11 #[.slice A n c,.slice B n c'] w fun e w'=>e=.returned (.int .i64 (disN f g n:Nat))/\Below w.heap.size w w':=by
 go_enter Try.func11, Try.ntmps11
 go_wp2
 go_loopg [5,6] n (fun gg ov iv wx=>∃ k:Nat,iv=.int .i64 (k:Nat)/\ov=.int .i64 (disN f g k:Nat)/\k<=n/\n<=k+gg/\Below w.heap.size w wx)
 case atStart=>exact ⟨0,rfl,rfl,by omega,by omega,Below.refl _ _⟩
 case round =>
  obtain ⟨k,rfl,rfl,hk,hkg,hB⟩:=hrel
  have hk0:(0:Int)<=(k:Int):=by omega
  by_cases hlt:k<n
  ·obtain ⟨b,o,rfl,hb,e0⟩:=(h.on hB).at hlt
   obtain ⟨b2,o2,rfl,hb2,e2⟩:=(h'.on hB).at hlt
   have hlt':(k:Int)<(n:Int):=by omega
   have hdl:=zfi f g k
   by_cases heq:f k=g k
   ·have hnx:Hid (disN f g (k+1)=disN f g k):=by show _+_=_; rw [if_pos heq]; rfl
    obtain ⟨D,hD⟩:∃ D,D=disN f g k:=⟨_,rfl⟩
    rw [<-hD] at hnx hdl;rw [<-hD]
    obtain ⟨x,hx⟩:∃ x,x=f k:=⟨_,rfl⟩
    rw [<-heq,<-hx] at e2;rw [<-hx] at e0
    have hne:(x != x)=false:=by simp
    clear hD hx heq
    go_wp2
    go_quiet (fail)
    go_wp2
    go_roundg (gk - 1)
    case measure=>omega
    case rel=>exact ⟨k+1,by go_num,by rw [hnx.out],by omega,by omega,zai hB _⟩
   ·have hnx:Hid (disN f g (k+1)=disN f g k+1):=by show _+_=_; rw [if_neg heq]
    obtain ⟨D,hD⟩:∃ D,D=disN f g k:=⟨_,rfl⟩
    rw [<-hD] at hnx hdl;rw [<-hD]
    obtain ⟨x,hx⟩:∃ x,x=f k:=⟨_,rfl⟩
    obtain ⟨y,hy⟩:∃ x,x=g k:=⟨_,rfl⟩
    rw [<-hy] at e2 heq;rw [<-hx] at e0 heq
    have hne:(x != y)=true:=by simpa using heq
    have hne2:(x == y)=false:=by simpa using heq
    clear hD hx hy heq
    go_wp2
    go_quiet (fail)
    go_wp2
    go_roundg (gk - 1)
    case measure=>omega
    case rel=>exact ⟨k+1,by go_num,by rw [hnx.out]; go_num,by omega,by omega,zai hB _⟩
  ·obtain rfl:k=n:=by omega
   have hlt':¬ (k:Int)<(k:Int):=by omega
   go_wp2
   go_ret
   exact ⟨rfl,hB⟩
theorem zbF (P M:Int) (A:Option Addr) (k c:Nat) (f:Nat->Int) (n r d:Int) (U:Option Addr) (l uc:Nat) (g:Nat->Int) (w:World) (hr:IntsR w w.heap.size A k f) (hu:IntsR w w.heap.size U l g) (hkc:k<=c) :
  Calls Try.prog 3 #[.agg #[.int .i64 P,.int .i64 M,.slice A k c],.int .i64 n,.int .i64 r,.int .i64 d,.slice U l uc] w fun e w'=>e=.returned (.bool true)/\Below w.heap.size w w':=by
 have HR:=hid hr
 have HU:=hid hu
 clear hr hu
 have hB:Below w.heap.size w (w.alloc (.cells #[.int .i64 P,.int .i64 M,.slice A k c] 24)):=(Below.refl _ _).alloc (Nat.le_refl _) _
 have rf:=zad (w:=w) (a:=.int .i64 P) (b:=.int .i64 M) (c:=.slice A k c) (T := 24)
 obtain ⟨w1,hw1⟩:∃ W,W=w.alloc (.cells #[.int .i64 P,.int .i64 M,.slice A k c] 24):=⟨_,rfl⟩
 rw [<-hw1] at hB rf
 go_enter Try.func3, Try.ntmps3
 go_upto_region 1 with fail
 rw [<-hw1];clear hw1
 obtain ⟨b0,hb0⟩:∃ b,b=w.heap.size:=⟨_,rfl⟩
 rw [<-hb0] at rf;rw [<-hb0];clear hb0
 have q0:=qc0 rf
 have q1:=qc1 rf
 have q2:=qc2 rf
 go_wp2_with fail
 refine (zcw P M A k c f n r d w1 (HR.out.on hB)).mono ?_
 rintro e w2 ⟨kb,v,rfl,hv⟩
 replace rf:=zaa rf kb;replace hB:=onS hB kb;clear kb q0 q1 q2
 by_cases hv0:v=0
 rotate_left
 ·have hvb:(v != 0)=true:=by simpa using hv0
  clear hv hv0
  go_wp2
  go_ret
  exact ⟨rfl,hB⟩
 subst hv0
 obtain ⟨hg,n',r',d',rfl,rfl,rfl,hn1,hn64,hr16,hd1,hdn,hpow⟩:=hv rfl
 have hg2:=hg
 obtain ⟨P',M',hP,hM,hfo,hpr,hmo⟩:=hg2
 subst hP hM
 rw [Int.toNat_natCast,Int.toNat_natCast] at hpow;clear hmo hpr hv
 have HG:=hid hg
 have HFO:=hid hfo
 obtain ⟨q,hq⟩:∃ q,q=P' ^ M':=⟨_,rfl⟩
 rw [<-hq] at hpow
 have HQ:=hid hq
 clear hq hg hfo
 obtain ⟨Q,hQ⟩:∃ Q,Q=q ^ r':=⟨_,rfl⟩
 rw [<-hQ] at hpow
 have HQr:=hid hQ
 clear hQ
 have q0:=qc0 rf
 have q1:=qc1 rf
 have q2:=qc2 rf
 go_wp2_with fail
 refine (zeo P' M' A k c n' r' q (d':Int) w2 HFO.out HQ (by omega)).mono ?_
 rintro e w3 ⟨⟨b,rfl,hb⟩,kb⟩
 replace rf:=zaa rf kb;replace hB:=onS hB kb;clear kb q0 q1 q2
 obtain hbt | hbt:=Bool.eq_false_or_eq_true b
 rotate_left
 ·subst hbt
  clear hb
  go_wp2
  go_ret
  exact ⟨rfl,hB⟩
 subst hbt
 have hn16:n'<=16:=(hb.1 rfl).1
 clear hb
 obtain ⟨m,hm⟩:∃ m,m=fun i=>(f i).toNat:=⟨_,rfl⟩
 have HMm:=hid hm
 have hfld:FieldOk P' M' m:=by rw [hm]; exact HG.out.field.1
 have HFL:=hid hfld
 have hk8:k<=1048576:=by
  have h8:=HFO.out.2.2.1
  obtain ⟨P2,M2,h1,h2,h3,h4,h5⟩:=HG.out
  rcases h5 with ⟨_,e⟩ | ⟨_,e,_⟩ <;> omega
 have HKM:Hid (M'=1∨k=M'):=hid HG.out.field.2
 have HMOD:Hid (ModOk w P' M' A m):=hid (by rw [hm]; exact HG.out.mod HR.out)
 clear hm hfld
 have q0:=qc0 rf
 have q1:=qc1 rf
 have q2:=qc2 rf
 go_wp2_with fail
 refine (zdq P' M' m A k c f n' r' d' Q q w3 (HR.out.on hB) HMm hkc hk8 HG.out HQ HQr hpow hn1 hn64 (by omega) hd1 hdn).mono ?_
 rintro e w4 ⟨kb,hcase⟩
 replace rf:=zaa rf kb
 have HB4:=hid (onS hB kb)
 have HRF:=hid rf
 clear q0 q1 q2 hB rf
 rcases hcase with ⟨t,h,L,htn,hgs,hst,rfl⟩ | ⟨h,L,v,lv,a,W,hgs,rfl,hO,hM,hrel⟩
 ·have HGS:=hid hgs
  have HST:=hid hst
  clear hgs hst kb
  go_upto_region 4 with fail
  have rb:=zaT (w:=w4) (a:=.int .i64 0) (b:=.int .i64 0) (c:=.slice none 0 0) (d:=.int .i64 0) (e:=.slice none 0 0) (T := 30)
  have kb:Below w4.heap.size w4 (w4.alloc (.cells #[.int .i64 0,.int .i64 0,.slice none 0 0,.int .i64 0,.slice none 0 0] 30)):=(Below.refl _ _).alloc (Nat.le_refl _) _
  obtain ⟨w5,hw5⟩:∃ W,W=w4.alloc (.cells #[.int .i64 0,.int .i64 0,.slice none 0 0,.int .i64 0,.slice none 0 0] 30):=⟨_,rfl⟩
  rw [<-hw5] at rb kb ⊢;clear hw5
  have rf:=zaa HRF.out kb
  have hB5:=onS HB4.out kb
  have q0:=qc0 rf
  have q1:=qc1 rf
  have q2:=qc2 rf
  go_wp2_with fail
  refine (zd1 P' M' m A k c n' r' d' Q q w5 HFL.out (HMOD.out.imp id fun h=>⟨h.1.on hB5,h.2⟩) HKM.out HQ HQr hpow (by omega) (by omega) (by omega)).mono ?_
  rintro e w6 ⟨t2,A2,c2,h2,L2,rfl,ht2,hrs,kb2⟩
  have hlt:t2<n':=by
   rcases Nat.lt_or_ge t2 n' with h1 | h1
   ·exact h1
   ·exfalso
    have HL:FieldLaws q (addF P' M') (mulF P' M' m):=by rw [HQ.out]; exact fieldLaws HFL.out
    obtain ⟨L3,hL3⟩:=RfSt.prev (t2 - (t+1)) (t+1) L2 (by rw [show t+1+(t2 - (t+1))=t2 by omega]; exact hrs)
    exact zeT hdn HL HGS.out HST.out hL3
  have hlt':decide ((t2:Int)<(n':Int))=true:=decide_eq_true (by omega)
  have hB6:=onS hB5 kb2
  clear hrs
  go_wp2
  go_ret
  exact ⟨by simp,hB6⟩
 ·have HGS:=hid hgs
  have HREL:=hid hrel
  obtain ⟨VA,vc,hvs⟩:=hO.shape
  subst hvs
  obtain ⟨LA,lc,hlv⟩:=hM.shape
  subst hlv
  have HM:=hid (hM.mono (show 0<=w3.heap.size from Nat.zero_le _))
  clear hgs hrel hO hM kb
  have HLAW:Hid (FieldLaws q (addF P' M') (mulF P' M' m)):=by rw [HQ.out]; exact hid (fieldLaws HFL.out)
  have hq256:q<=256:=by rw [HQ.out]; exact HFO.out.2.2.2
  have h2q:2<=q:=HLAW.out.two
  have hltH:=HGS.out.lt (show 0<q by omega)
  have HLTH:=hid hltH
  have hneg:Hid (∀ x,x<q->negF P' M' x<q/\addF P' M' x (negF P' M' x)=0):=hid fun x _=>by
   have hP0:0<P':=by have:=HFO.out.1; omega
   rw [HQ.out]
   exact ⟨zcl hP0,zcV hP0⟩
  have hdim:n'<=r'+a:=HREL.out.rows HLAW.out hneg.out fun i hi j hj=>HLTH.out j hj i hi
  have HWL:Hid (∀ i,i<a->∀ j,j<n'->W i j<q):=by
   obtain ⟨p3,hE3⟩:=HREL.out.rref
   exact hid hE3.lt
  have haN:a<=n':=by
   obtain ⟨p3,hE3⟩:=HREL.out.rref
   exact hE3.le_c
  clear hltH
  go_upto_region 6 with fail
  have rb:=zaT (w:=w4) (a:=.int .i64 (P':Nat)) (b:=.int .i64 (M':Nat)) (c:=.slice VA k vc) (d:=.int .i64 (n':Nat)) (e:=.slice LA a lc) (T := 30)
  have kb:Below w4.heap.size w4 (w4.alloc (.cells #[.int .i64 (P':Nat),.int .i64 (M':Nat),.slice VA k vc,.int .i64 (n':Nat),.slice LA a lc] 30)):=(Below.refl _ _).alloc (Nat.le_refl _) _
  obtain ⟨w5,hw5⟩:∃ W,W=w4.alloc (.cells #[.int .i64 (P':Nat),.int .i64 (M':Nat),.slice VA k vc,.int .i64 (n':Nat),.slice LA a lc] 30):=⟨_,rfl⟩
  rw [<-hw5] at rb kb ⊢;clear hw5
  obtain ⟨b11,hb11⟩:∃ b,b=w4.heap.size:=⟨_,rfl⟩
  rw [<-hb11] at rb ⊢;clear hb11
  have HRD:=hid ((HM.out.on kb).rd hq256 HWL.out)
  have HB5:=hid (onS HB4.out kb)
  have HRF5:=hid (zaa HRF.out kb)
  have HRB5:=hid rb
  clear kb rb HM HRF
  have b3:=qc3 HRB5.out
  have b4:=qc4 HRB5.out
  have hnr:IntKind.i64.wrap ((n':Int) - (r':Int))=(n':Int) - (r':Int):=by rw [IntWalk.i64_in _ (by omega)]
  have hg1:decide ((a:Int)<(n':Int) - (r':Int))=false:=decide_eq_false (by omega)
  have hg2:¬ (a:Int)<(n':Int) - (r':Int):=by omega
  have hmk:=fun W=>zao (P:=Try.prog) 22 3 _ 8 Try.underlying22 Try.infoInt rfl (n':Int) (by omega) (by omega) (by omega) W
  simp only [Int.toNat_natCast] at hmk
  go_upto_region 9 with fail
  have rz:World.rowIs (World.alloc w5 (Obj.cells (madeCells #[Value.int .i64 0] n') 3)) w5.heap.size 3 n' (fun _=>.int .i64 ((0:Nat):Int)):=World.rowIs_made _ (.int .i64 0) n' 3
  have kb:Below w5.heap.size w5 (World.alloc w5 (Obj.cells (madeCells #[Value.int .i64 0] n') 3)):=(Below.refl _ _).alloc (Nat.le_refl _) _
  obtain ⟨w6,hw6⟩:∃ W,W=World.alloc w5 (Obj.cells (madeCells #[Value.int .i64 0] n') 3):=⟨_,rfl⟩
  rw [<-hw6] at rz kb ⊢;clear hw6
  obtain ⟨gw,hgw⟩:∃ g,g=w5.heap.size:=⟨_,rfl⟩
  have HGW:Hid (w5.heap.size<=gw):=hid (Nat.le_of_eq hgw.symm)
  rw [<-hgw] at rz ⊢;clear hgw b3 b4
  obtain ⟨cs,hcs⟩:∃ cs:Nat->Nat,cs=fun i=>inV q (g i):=⟨_,rfl⟩
  have HCS:=hid hcs
  have HCq:Hid (∀ i,cs i<q):=hid fun i=>by rw [hcs]; exact zcg (by omega) _
  clear hcs
  have HRFK:Hid (∀ X,Below w5.heap.size w5 X->X.rowIs b0 24 3 (fldCell (.int .i64 (P':Nat)) (.int .i64 (M':Nat)) (.slice A k c))):=hid fun X hb=>zaa HRF5.out hb
  have HRBK:Hid (∀ X,Below w5.heap.size w5 X->X.rowIs b11 30 5 (codCell (.int .i64 (P':Nat)) (.int .i64 (M':Nat)) (.slice VA k vc) (.int .i64 (n':Nat)) (.slice LA a lc))):=hid fun X hb=>zaa HRB5.out hb
  have HMODK:Hid (∀ X,Below w5.heap.size w5 X->ModOk X P' M' A m):=hid fun X hb=>HMOD.out.imp id fun h=>⟨h.1.on (onS HB5.out hb),h.2⟩
  have HUK:Hid (∀ X,Below w5.heap.size w5 X->IntsR X X.heap.size U l g):=hid fun X hb=>HU.out.on (onS HB5.out hb)
  go_upto_block 0 with fail
  go_cut [] (fun wx=>∃ s:Nat,s<=a/\wx.rowIs gw 3 n' (fun j=>.int .i64 (spE (addF P' M') (mulF P' M' m) W cs s j:Nat))/\Below w5.heap.size w5 wx)
  case first =>
   go_wp2_with fail
   go_loopg [14] a (fun gg iv wx=>∃ i:Nat,iv=.int .i64 (i:Nat)/\i<=a/\a<=i+gg/\wx.rowIs gw 3 n' (fun j=>.int .i64 (spE (addF P' M') (mulF P' M' m) W cs i j:Nat))/\Below w5.heap.size w5 wx)
   case atStart=>exact ⟨0,rfl,by omega,by omega,rz.congr fun j _=>rfl,kb⟩
   case round =>
    clear rz kb
    obtain ⟨i,rfl,hi,hig,hrow,kb⟩:=hrel
    have hi0:(0:Int)<=(i:Int):=by omega
    have HROW:=hid hrow
    have KB:=hid kb
    obtain ⟨w7,hw7⟩:∃ X,X=wr:=⟨_,rfl⟩
    subst hw7
    clear hrow kb
    have b4:w7.cell? ⟨b11,4,none⟩=some (.slice LA a lc):=(HRBK.out _ KB.out).cell (i:=4) (by omega)
    by_cases hia:i<a
    ·have hia':decide ((i:Int)<(a:Int))=true:=decide_eq_true (by omega)
     have hiaP:(i:Int)<(a:Int):=by omega
     by_cases hil:i<l
     ·have hil':decide ((i:Int)<(l:Int))=true:=decide_eq_true (by omega)
      have hilP:(i:Int)<(l:Int):=by omega
      have hi1w:IntKind.i64.wrap ((i:Int)+1)=((i+1:Nat):Int):=by rw [IntWalk.i64_in _ (by omega)]; rfl
      obtain ⟨tb,to0,RA,rc,rfl,htb,t0w,h1,h2',hrow0,_⟩:=HRD.out i hia
      have HT0:=hid t0w
      have t0:=cellS KB.out t0w
      have HRW:=hid hrow0
      clear t0w hrow0 h1 h2'
      have hne2:((n':Int) != (n':Int))=false:=by simp
      go_upto_region 15 with fail
      obtain ⟨gO,hgO⟩:∃ x,x=gk:=⟨_,rfl⟩
      subst hgO
      clear b4 t0
      go_loopg [15] n' (fun gg jv wx=>∃ j:Nat,jv=.int .i64 (j:Nat)/\j<=n'/\n'<=j+gg/\wx.rowIs gw 3 n' (fun t=>.int .i64 ((if t<j then spE (addF P' M') (mulF P' M' m) W cs (i+1) t else spE (addF P' M') (mulF P' M' m) W cs i t:Nat):Int))/\Below w5.heap.size w5 wx)
      case atStart=>exact ⟨0,rfl,by omega,by omega,HROW.out.congr fun t _=>by rw [if_neg (by omega)],KB.out⟩
      case round =>
       clear HROW KB
       obtain ⟨j,rfl,hj,hjg,hrow,kb⟩:=hrel
       have hj0:(0:Int)<=(j:Int):=by omega
       have HROW:=hid hrow
       have KB:=hid kb
       obtain ⟨w8,hw8⟩:∃ X,X=wr:=⟨_,rfl⟩
       subst hw8
       clear hrow kb
       by_cases hjn:j<n'
       ·have hjn':(j:Int)<(n':Int):=by omega
        have hj1w:IntKind.i64.wrap ((j:Int)+1)=((j+1:Nat):Int):=by rw [IntWalk.i64_in _ (by omega)]; rfl
        obtain ⟨rb,ro,hRe,_,e0⟩:=HRW.out.at hjn
        subst hRe
        have hTK:Hid (∀ X,Below w5.heap.size w5 X->X.cell? ⟨tb,to0+i,none⟩=some (.slice (some ⟨rb,ro,none⟩) n' rc)):=hid fun X hb=>cellS hb HT0.out
        have HTK:=hTK
        have hEK:∀ X,Below w5.heap.size w5 X->X.cell? ⟨rb,ro+j,none⟩=some (.int .i64 ((W i j:Nat):Int)):=fun X hb=>cellS hb e0
        obtain ⟨ub,uo,hUe,_,_⟩:=(HUK.out _ KB.out).at hil
        have hGK:∀ X,Below w5.heap.size w5 X->X.cell? ⟨ub,uo+i,none⟩=some (.int .i64 (g i)):=fun X hb=>by
         obtain ⟨ub2,uo2,e,_,e1⟩:=(HUK.out X hb).at hil
         rw [hUe] at e
         injection e with e
         injection e with e2 e3
         subst e2 e3
         exact e1
        have hx0:∀ X:World,X.rowIs gw 3 n' (fun t=>.int .i64 ((if t<j then spE (addF P' M') (mulF P' M' m) W cs (i+1) t else spE (addF P' M') (mulF P' M' m) W cs i t:Nat):Int))->X.cell? ⟨gw,j,none⟩=some (.int .i64 (spE (addF P' M') (mulF P' M' m) W cs i j:Nat)):=fun X hX=>by
         have h1:=hX.cell (i:=j) hjn
         rwa [if_neg (Nat.lt_irrefl j)] at h1
        have hix:inV (P' ^ M') (spE (addF P' M') (mulF P' M' m) W cs i j:Nat)=spE (addF P' M') (mulF P' M' m) W cs i j:=zat (by rw [<-HQ.out]; exact zaR HLAW.out _ _ _)
        have hiy:inV (P' ^ M') (W i j:Nat)=W i j:=zat (by rw [<-HQ.out]; exact HWL.out i hia j hjn)
        have hiz:inV (P' ^ M') (g i)=cs i:=by rw [HCS.out,<-HQ.out]
        obtain ⟨x,hx⟩:∃ x,x=spE (addF P' M') (mulF P' M' m) W cs i j:=⟨_,rfl⟩
        obtain ⟨y,hy⟩:∃ y,y=W i j:=⟨_,rfl⟩
        obtain ⟨z,hz⟩:∃ z,z=g i:=⟨_,rfl⟩
        rw [<-hx] at hx0 hix;rw [<-hy] at hEK hiy;rw [<-hz] at hGK hiz
        have HX:=hid hx
        have HY:=hid hy
        have HIX:=hid hix
        have HIY:=hid hiy
        have HIZ:=hid hiz
        have HEK:=hid hEK
        have HGK:=hid hGK
        have HX0:=hid hx0
        have HUE:=hid hUe
        subst hUe
        clear hx hy hz hix hiy hiz hEK hGK hx0 hTK e0 HUE
        go_upto_region 17 with fail
        refine wp_region_held_drew (S:=fun w'=>w'.cell? ⟨b0,0,none⟩=some (.int .i64 (P':Nat))/\w'.cell? ⟨b0,1,none⟩=some (.int .i64 (M':Nat))/\w'.cell? ⟨b0,2,none⟩=some (.slice A k c)/\w'.cell? ⟨b11,4,none⟩=some (.slice (some ⟨tb,to0,none⟩) a lc)/\w'.cell? ⟨tb,to0+i,none⟩=some (.slice (some ⟨rb,ro,none⟩) n' rc)/\w'.cell? ⟨rb,ro+j,none⟩=some (.int .i64 (y:Nat))/\w'.cell? ⟨ub,uo+i,none⟩=some (.int .i64 z)) (by kernel_rfl) ⟨(HRFK.out _ KB.out.drew).cell (i:=0) (by omega),(HRFK.out _ KB.out.drew).cell (i:=1) (by omega),(HRFK.out _ KB.out.drew).cell (i:=2) (by omega),(HRBK.out _ KB.out.drew).cell (i:=4) (by omega),HTK.out _ KB.out.drew,HEK.out _ KB.out.drew,HGK.out _ KB.out.drew⟩ (fun hHeld=>?_)
        obtain ⟨w9,hw⟩:∃ W,W=World.drew w8:=⟨_,rfl⟩
        have kb:Below w8.heap.size w8 w9:=by rw [hw]; exact (Below.refl _ _).drew
        rw [<-hw] at hHeld ⊢;clear hw;replace KB:=hid (onS KB.out kb);replace HROW:=hid (zaa HROW.out kb);clear kb
        refine tkq 0 (h:=tkq 1 (h:=tkq 2 (h:=tkq 3 (h:=tkq 4 (h:=tkq 5 (h:=tkq 7 (h:=tkq 8 (h:=tkq 9 (h:=tkq 10 (h:=tkq 11 (h:=tkq 12 (h:=?_))))))))))))
        refine tkq 13 (h:=tkq 14 (h:=tkq 15 (h:=tkq 16 (h:=tkq 17 (h:=tkq 18 (h:=tkq 19 (h:=?_)))))))
        clear hHeld
        refine rdq2 6 20 (h:=fun K hK=>?_) (h2:=fun K hK=>?_)
        focus
         have u0:w9.cell? ⟨gw,j,none⟩=some (.int .i64 (x:Nat)):=HX0.out _ HROW.out
         go_simp
         clear u0
         refine bkq hK ⟨(HRFK.out _ KB.out).cell (i:=0) (by omega),(HRFK.out _ KB.out).cell (i:=1) (by omega),(HRFK.out _ KB.out).cell (i:=2) (by omega),(HRBK.out _ KB.out).cell (i:=4) (by omega),HTK.out _ KB.out,HEK.out _ KB.out,HGK.out _ KB.out⟩ (h:=fun hHeld=>?_)
         clear hK K hHeld
         refine rdq 20 (h:=fun K hK=>?_)
         go_simp
         go_wp2_with fail
         refine (zbl P' M' A k c m z (y:Int) w9 HFO.out (HMODK.out _ KB.out) HKM.out).mono ?_
         rintro e w10 ⟨rfl,kb⟩
         rw [HIZ.out,HIY.out];replace KB:=hid (onS KB.out kb);replace HROW:=hid (zaa HROW.out kb);clear kb
         obtain ⟨p,hp⟩:∃ p,p=mulF P' M' m (cs i) y:=⟨_,rfl⟩
         rw [<-hp]
         have HPp:=hid hp
         have hip:Hid (inV (P' ^ M') (p:Nat)=p):=hid (zat (by rw [hp,<-HQ.out]; exact HLAW.out.mulLt _ _))
         clear hp
         refine bkq hK ⟨(HRFK.out _ KB.out).cell (i:=0) (by omega),(HRFK.out _ KB.out).cell (i:=1) (by omega),(HRFK.out _ KB.out).cell (i:=2) (by omega),(HRBK.out _ KB.out).cell (i:=4) (by omega),HTK.out _ KB.out,HEK.out _ KB.out,HGK.out _ KB.out⟩ (h:=fun hHeld=>?_)
         clear hK K hHeld
        rotate_left
        focus
         go_simp
         go_wp2_with fail
         refine (zbl P' M' A k c m z (y:Int) w9 HFO.out (HMODK.out _ KB.out) HKM.out).mono ?_
         rintro e w10 ⟨rfl,kb⟩
         rw [HIZ.out,HIY.out];replace KB:=hid (onS KB.out kb);replace HROW:=hid (zaa HROW.out kb);clear kb
         obtain ⟨p,hp⟩:∃ p,p=mulF P' M' m (cs i) y:=⟨_,rfl⟩
         rw [<-hp]
         have HPp:=hid hp
         have hip:Hid (inV (P' ^ M') (p:Nat)=p):=hid (zat (by rw [hp,<-HQ.out]; exact HLAW.out.mulLt _ _))
         clear hp
         refine bkq hK ⟨(HRFK.out _ KB.out).cell (i:=0) (by omega),(HRFK.out _ KB.out).cell (i:=1) (by omega),(HRFK.out _ KB.out).cell (i:=2) (by omega),(HRBK.out _ KB.out).cell (i:=4) (by omega),HTK.out _ KB.out,HEK.out _ KB.out,HGK.out _ KB.out⟩ (h:=fun hHeld=>?_)
         clear hK K hHeld
         refine rdq 6 (h:=fun K hK=>?_)
         have u0:w10.cell? ⟨gw,j,none⟩=some (.int .i64 (x:Nat)):=HX0.out _ HROW.out
         go_simp
         clear u0
         refine bkq hK ⟨(HRFK.out _ KB.out).cell (i:=0) (by omega),(HRFK.out _ KB.out).cell (i:=1) (by omega),(HRFK.out _ KB.out).cell (i:=2) (by omega),(HRBK.out _ KB.out).cell (i:=4) (by omega),HTK.out _ KB.out,HEK.out _ KB.out,HGK.out _ KB.out⟩ (h:=fun hHeld=>?_)
         clear hK K hHeld
        rotate_left
        all_goals
         refine rdq 21 (h:=fun K hK=>?_)
         go_simp
         go_wp2_with fail
         refine (zcO P' M' A k c (x:Int) (p:Int) w10 HFO.out).mono ?_
         rintro e w11 ⟨rfl,kb⟩
         rw [HIX.out,hip.out];replace KB:=hid (onS KB.out kb);replace HROW:=hid (zaa HROW.out kb);clear kb
         obtain ⟨s,hs⟩:∃ s,s=addF P' M' x p:=⟨_,rfl⟩
         rw [<-hs]
         have HS:=hid hs
         clear hs
         refine bkq hK ⟨(HRFK.out _ KB.out).cell (i:=0) (by omega),(HRFK.out _ KB.out).cell (i:=1) (by omega),(HRFK.out _ KB.out).cell (i:=2) (by omega),(HRBK.out _ KB.out).cell (i:=4) (by omega),HTK.out _ KB.out,HEK.out _ KB.out,HGK.out _ KB.out⟩ (h:=fun hHeld=>?_)
         clear hK K hHeld
         have hHeld:(fun w'=>w'.cell? ⟨b0,0,none⟩=some (.int .i64 (P':Nat))/\w'.cell? ⟨b0,1,none⟩=some (.int .i64 (M':Nat))/\w'.cell? ⟨b0,2,none⟩=some (.slice A k c)/\w'.cell? ⟨b11,4,none⟩=some (.slice (some ⟨tb,to0,none⟩) a lc)/\w'.cell? ⟨tb,to0+i,none⟩=some (.slice (some ⟨rb,ro,none⟩) n' rc)/\w'.cell? ⟨rb,ro+j,none⟩=some (.int .i64 (y:Nat))/\w'.cell? ⟨ub,uo+i,none⟩=some (.int .i64 z)) w11:=⟨(HRFK.out _ KB.out).cell (i:=0) (by omega),(HRFK.out _ KB.out).cell (i:=1) (by omega),(HRFK.out _ KB.out).cell (i:=2) (by omega),(HRBK.out _ KB.out).cell (i:=4) (by omega),HTK.out _ KB.out,HEK.out _ KB.out,HGK.out _ KB.out⟩
         dsimp only at hHeld
         refine tkq 22 (h:=?_)
         clear hHeld
         have u0:w11.cell? ⟨gw,j,none⟩=some (.int .i64 (x:Nat)):=HX0.out _ HROW.out
         have u1:=HROW.out.frozen j
         refine rdq 23 (h:=fun K hK=>?_)
         go_simp
         have hrow2:=HROW.out.set j (.int .i64 (s:Nat))
         have kb2:=KB.out.setCell (p:=⟨gw,j,none⟩) HGW.out (.int .i64 (s:Nat))
         obtain ⟨w12,hw⟩:∃ W,W=World.setCell w11 ⟨gw,j,none⟩ (.int .i64 (s:Nat)):=⟨_,rfl⟩
         rw [<-hw] at hrow2 kb2 ⊢;clear hw u0 u1
         have HROW2:Hid (w12.rowIs gw 3 n' (fun t=>.int .i64 ((if t<j+1 then spE (addF P' M') (mulF P' M' m) W cs (i+1) t else spE (addF P' M') (mulF P' M' m) W cs i t:Nat):Int))):=hid (hrow2.congr fun t _=>by
          show (if t=j then Value.int .i64 (s:Nat) else .int .i64 ((if t<j then spE (addF P' M') (mulF P' M' m) W cs (i+1) t else spE (addF P' M') (mulF P' M' m) W cs i t:Nat):Int))=.int .i64 ((if t<j+1 then spE (addF P' M') (mulF P' M' m) W cs (i+1) t else spE (addF P' M') (mulF P' M' m) W cs i t:Nat):Int)
          by_cases e:t=j
          ·rw [if_pos e,if_pos (by omega),e,HS.out,HPp.out,HX.out,HY.out]
           rfl
          ·rw [if_neg e]
           by_cases e2:t<j
           ·rw [if_pos e2,if_pos (by omega)]
           ·rw [if_neg e2,if_neg (by omega)])
         replace KB:=hid kb2;clear hrow2 kb2 HROW
         refine bkq hK ⟨(HRFK.out _ KB.out).cell (i:=0) (by omega),(HRFK.out _ KB.out).cell (i:=1) (by omega),(HRFK.out _ KB.out).cell (i:=2) (by omega),(HRBK.out _ KB.out).cell (i:=4) (by omega),HTK.out _ KB.out,HEK.out _ KB.out,HGK.out _ KB.out⟩ (h:=fun hHeld=>?_)
         clear hK K hHeld
         refine wpAnyH_done (by kernel_rfl) ?_ _
         go_wp2
         go_roundg (gk - 1)
         case measure=>omega
         case rel=>exact ⟨j+1,by go_num,by omega,by omega,HROW2.out,KB.out⟩
       ·obtain rfl:n'=j:=by omega
        have hjn':¬ (n':Int)<(n':Int):=by omega
        have HROW2:Hid (w8.rowIs gw 3 n' (fun t=>.int .i64 (spE (addF P' M') (mulF P' M' m) W cs (i+1) t:Nat))):=hid (HROW.out.congr fun t ht=>by rw [if_pos ht])
        go_wp2
        go_roundg (gO - 1)
        case measure=>omega
        case rel=>exact ⟨i+1,by go_num,by omega,by omega,HROW2.out,KB.out⟩
     ·have hil':decide ((i:Int)<(l:Int))=false:=decide_eq_false (by omega)
      have hilP:¬ (i:Int)<(l:Int):=by omega
      go_wp2
      go_meet
      exact ⟨i,hi,HROW.out,KB.out⟩
    ·have hia':decide ((i:Int)<(a:Int))=false:=decide_eq_false (by omega)
     have hiaP:¬ (i:Int)<(a:Int):=by omega
     go_wp2
     go_meet
     exact ⟨i,hi,HROW.out,KB.out⟩
  case rest =>
   obtain ⟨s,hs,hrow,kb2⟩:=hcut
   have HX:=hid (rowInts hrow)
   have KB:=hid kb2
   have hB7:=onS HB5.out kb2
   obtain ⟨w7,hw7⟩:∃ X,X=wc:=⟨_,rfl⟩
   subst hw7
   clear hrow rz kb
   obtain ⟨x,hx⟩:∃ x:Nat->Nat,x=spE (addF P' M') (mulF P' M' m) W cs s:=⟨_,rfl⟩
   rw [<-hx] at HX
   have HIN:Hid (InSp q (addF P' M') (mulF P' M' m) a n' W x):=by
    refine hid ⟨fun t=>if t<s then cs t else 0,fun t _=>by show (if t<s then cs t else 0)<q; split; exact HCq.out t; omega,fun j hj=>?_⟩
    have key:∀ t,t<=a->s<=t->spE (addF P' M') (mulF P' M' m) W (fun t=>if t<s then cs t else 0) t j=spE (addF P' M') (mulF P' M' m) W cs s j:=by
     intro t
     induction t with
     | zero =>
      intro _ h0
      obtain rfl:s=0:=by omega
      rfl
     | succ t ih =>
      intro h1 h2
      by_cases e:s=t+1
      ·rw [e]
       exact zbo _ fun u hu=>⟨if_pos (by omega),rfl⟩
      ·show addF P' M' (spE (addF P' M') (mulF P' M' m) W (fun t=>if t<s then cs t else 0) t j) (mulF P' M' m (if t<s then cs t else 0) (W t j))=_
       rw [ih (by omega) (by omega),if_neg (by omega),HLAW.out.mulComm 0 _ (by omega) (HWL.out t (by omega) j hj),HLAW.out.mulZero (HWL.out t (by omega) j hj),HLAW.out.addZero (zaR HLAW.out _ _ _)]
    rw [hx,key a (Nat.le_refl _) hs]
   clear hx
   have hxq:∀ j,j<n'->x j<q:=fun j hj=>HIN.out.lt HLAW.out hj
   have hz:∀ j,j<r'->spE (addF P' M') (mulF P' M' m) h x n' j=0:=fun j hj=>by
    rw [<-zdd]
    exact HREL.out.word HLAW.out hneg.out (fun i hi t ht=>HLTH.out t ht i hi) HIN.out hj
   have hor:=GrSt.heavy HLAW.out n' L HGS.out hxq hz
   have HOR:=hid hor
   clear hxq hz hor
   go_wp2_with fail
   obtain ⟨w8,hw8⟩:∃ W,W=World.alloc w7 (Obj.cells (madeCells #[Value.int .i64 0] n') 3):=⟨_,rfl⟩
   have rz:w8.rowIs w7.heap.size 3 n' (fun _=>.int .i64 ((0:Nat):Int)):=by rw [hw8]; exact World.rowIs_made _ (.int .i64 0) n' 3
   have kb:Below w7.heap.size w7 w8:=by rw [hw8]; exact (Below.refl _ _).alloc (Nat.le_refl _) _
   rw [<-hw8];clear hw8
   refine (zcM (some ⟨gw,0,none⟩) (some ⟨w7.heap.size,0,none⟩) n' n' n' (fun j=>(x j:Nat)) (fun _=>((0:Nat):Int)) w8 (HX.out.on kb) (rowInts rz) (by omega)).mono ?_
   rintro e w9 ⟨rfl,kb3⟩
   have hB9:=onS (onS hB7 kb) kb3
   have hdis:disN (fun j=>((x j:Nat):Int)) (fun _=>((0:Nat):Int)) n'=wtC x n':=by
    have key:∀ t,disN (fun j=>((x j:Nat):Int)) (fun _=>((0:Nat):Int)) t=wtC x t:=by
     intro t
     induction t with
     | zero=>rfl
     | succ t ih =>
      show disN _ _ t+(if ((x t:Nat):Int)=((0:Nat):Int) then 0 else 1)=wtC x t+if x t=0 then 0 else 1
      rw [ih]
      by_cases e:x t=0
      ·rw [if_pos (by omega),if_pos e]
      ·rw [if_neg (by omega),if_neg e]
    exact key n'
   rw [hdis]
   obtain ⟨dd,hdd⟩:∃ y,y=wtC x n':=⟨_,rfl⟩
   rw [<-hdd]
   have hfin:dd=0∨d'<=dd:=by
    rcases HOR.out with h1 | h1
    ·left
     rw [hdd,zc7 (s:=0) n' (Nat.zero_le _) fun i _ hi=>h1 i hi]
     rfl
    ·right; rw [hdd]; exact h1
   clear hdis hdd rz kb kb3
   by_cases hd0:dd=0
   ·subst hd0
    go_wp2
    go_ret
    exact ⟨rfl,hB9⟩
   ·have hd0':((dd:Int) == 0)=false:=by
     have h0:¬ (dd:Int)=0:=by omega
     simpa using h0
    have hge:decide ((dd:Int) ≥ (d':Int))=true:=decide_eq_true (by omega)
    have hgeP:(dd:Int) ≥ (d':Int):=by omega
    go_wp2
    go_ret
    exact ⟨by simp,hB9⟩
open Go.ChangeShapes Go.WideShapes Go.ChangeAt
section
variable {H:Type} {enc:TypeId × Value->H} {w:World} {base:Nat} {spare:Nat->Bool} {held:Bool} {cs:List Value}
theorem zd4 (h:Sees enc Try.prog w base spare held 24 cs) :
  ∃ (P M:Int) (A:Option Addr) (k c:Nat) (f:Nat->Int),cs=[.int .i64 P,.int .i64 M,.slice A k c]/\k<=c/\c<=maxLen/\IntsR w w.heap.size A k f:=by
 obtain ⟨hl,_⟩:=zbI Try.underlying24 h
 match cs,hl.trans (show Try.prog.cellsOf 24 = 3 by kernel_rfl) with
 | [c0,c1,c2],_ =>
  have hc:Try.prog.cellsOf 3 = 1:=by kernel_rfl
  have hc':Try.prog.cellsOf 22 = 1:=by kernel_rfl
  have g0:=zds Try.underlying24 h 0 3 0 1 ⟨_,rfl,rfl,rfl⟩ hc
  have g1:=zds Try.underlying24 h 1 3 1 1 ⟨_,rfl,rfl,rfl⟩ hc
  have g2:=zds Try.underlying24 h 2 22 2 1 ⟨_,rfl,rfl,rfl⟩ hc'
  obtain ⟨P,hP,_⟩:=zbS Try.underlying3 g0
  obtain ⟨M,hM,_⟩:=zbS Try.underlying3 g1
  obtain ⟨A,k,c,f,hs,k1,k2,hr,_⟩:=zcN Try.underlying22 Try.underlying3 hc g2
  simp at hP hM hs
  subst hP hM hs
  exact ⟨P,M,A,k,c,f,rfl,k1,k2,hr⟩
end
theorem boundsHeavy_law {H:Type} {enc:TypeId × Value->H} {w:World} {n r d:Int} {cs:Array Value} {T:Option Addr} {kl cl:Nat}
  (h:Sees enc Try.prog w 0 (fun _=>true) true 24 cs.toList) (_hn:(Lit.int .i64 n).wf=true) (_hr:(Lit.int .i64 r).wf=true) (_hd:(Lit.int .i64 d).wf=true) (hl:Sees enc Try.prog w 0 (fun _=>true) true 22 [.slice T kl cl]) :
  Calls Try.prog 3 #[.agg cs,.int .i64 n,.int .i64 r,.int .i64 d,.slice T kl cl] w fun e w'=>e=.returned (.bool true)/\Below w.heap.size w w':=by
 obtain ⟨cs⟩:=cs
 obtain ⟨P,M,A,k,c,f,rfl,hkc,_,hf⟩:=zd4 h
 obtain ⟨T',kl',cl',L,e,_,_,hL,_⟩:=zcN Try.underlying22 Try.underlying3 (by kernel_rfl) hl
 simp only [List.cons.injEq,Value.slice.injEq,and_true] at e
 obtain ⟨rfl,rfl,rfl⟩:=e
 exact zbF P M A k c f n r d T kl cl L w hf hL hkc
end Go.Proofs.Ytioagplajkoohaa