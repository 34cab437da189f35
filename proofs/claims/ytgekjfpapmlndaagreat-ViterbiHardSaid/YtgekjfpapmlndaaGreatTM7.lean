/- Merged texts of a claim: MAdd, MCl, MEach, MElim, MCan, MChk. -/
import Derived.Test.YtgekjfpapmlndaaGreatTM6
namespace Go.Proofs.YtgekjfpapmlndaaGreat
set_option maxRecDepth 100000
set_option maxHeartbeats 32000000
open KA KB KC KE KF
open Go.RowKit
def RowedPost (w:World) (base vb vo vc k:Nat) (x:Nat->Nat) (e:Ending) (w':World):Prop :=
 e=.returned (.tuple #[])/\w.grownBy w' (some vb)/\Own w' base 3 1 (.slice (some ⟨vb,vo,none⟩) k vc) k (fun j _=>.int .i64 (x j:Nat))
theorem zir (P M g base vb vo vc ub uo uc k a:Nat) (m:Nat->Nat) (x y:Nat->Nat) (w:World) (h:GF w base g P M m) (hbw:base<=w.heap.size)
  (hv:Own w base 3 1 (.slice (some ⟨vb,vo,none⟩) k vc) k (fun j _=>.int .i64 (x j:Nat))) (hu:IntsR w w.heap.size (some ⟨ub,uo,none⟩) k (fun j=>((y j:Nat):Int))) (hne:ub≠vb)
  (ha:a<P ^ M) (hx:∀ j,j<k->x j<P ^ M) (hy:∀ j,j<k->y j<P ^ M) (hk:k<=1048576) :
  Calls Tryz.prog 264 #[.pointer (some ⟨g,0,none⟩),.slice (some ⟨vb,vo,none⟩) k vc,.int .i64 (a:Nat),.slice (some ⟨ub,uo,none⟩) k uc] w (RowedPost w base vb vo vc k (fun j=>addF P M (x j) (mulF P M m a (y j)))):=by
 have hq:=h.ok.1.2.2.2
 have HL:=hid (fieldLaws h.ok)
 have hvl:=hv.lt _ rfl
 have HG:=hid h
 have HU:Hid (∀ j,j<k->w.cell? ⟨ub,uo+j,none⟩=some (.int .i64 (y j:Nat))):=fun j hj=>hu.here hj
 have HV:=hid (hv.congr (f':=fun j _=>.int .i64 ((if j<0 then addF P M (x j) (mulF P M m a (y j)) else x j:Nat):Int)) fun j _ _ _=>by rw [if_neg (by omega)])
 have HX:=hid hx
 have HY:=hid hy
 have HNE:=hid hne
 have HIA:=hid (zak ha)
 clear h hv hu hx hy hne
 go_enter Tryz.func264, Tryz.ntmps264
 go_wp2
 go_loopg [12] k (fun gg iv wx=>∃ j:Nat,iv=.int .i64 (j:Nat)/\j<=k/\k<=j+gg/\Hid (w.grownBy wx (some vb))/\Hid (Own wx base 3 1 (.slice (some ⟨vb,vo,none⟩) k vc) k (fun t _=>.int .i64 ((if t<j then addF P M (x t) (mulF P M m a (y t)) else x t:Nat):Int))))
 case atStart=>exact ⟨0,rfl,by omega,by omega,World.grownBy.refl _ _,HV⟩
 case round =>
  clear HV
  obtain ⟨j,rfl,hj,hjg,HGR,HV⟩:=hrel
  have hj0:(0:Int)<=(j:Int):=by omega
  by_cases hlt:j<k
  ·have hlt':(j:Int)<(k:Int):=by omega
   have y0:=zan HGR.out (HU.out j hlt) (fun e=>HNE.out (by injection e))
   have x0:=(show IntsR wr wr.heap.size (some ⟨vb,vo,none⟩) k (fun t=>((if t<j then addF P M (x t) (mulF P M m a (y t)) else x t:Nat):Int)) from HV.out.rd rfl).here hlt
   rw [if_neg (by omega)] at x0
   have z0:=HV.out.frozen (vo+j)
   obtain ⟨yj,hyj⟩:∃ t,t=y j:=⟨_,rfl⟩
   obtain ⟨xj,hxj⟩:∃ t,t=x j:=⟨_,rfl⟩
   have hyq:yj<P ^ M:=by rw [hyj]; exact HY.out j hlt
   have hxq:xj<P ^ M:=by rw [hxj]; exact HX.out j hlt
   rw [<-hyj] at y0;rw [<-hxj] at x0
   have HYJ:=hid hyj
   have HXJ:=hid hxj
   have HIX:=hid (zak hxq)
   have HIY:=hid (zak hyq)
   clear hyj hxj
   by_cases hy0:yj=0
   ·have hd:((yj:Int) != 0)=false:=by simp [hy0]
    have HV2:=hid (HV.out.congr (f':=fun t _=>.int .i64 ((if t<j+1 then addF P M (x t) (mulF P M m a (y t)) else x t:Nat):Int)) fun t _ _ _=>by
     by_cases e:t=j
     ·subst e
      rw [if_neg (by omega),if_pos (by omega),<-HYJ.out,<-HXJ.out,hy0,HL.out.mulZero ha,HL.out.addZero hxq]
     ·by_cases e2:t<j
      ·rw [if_pos e2,if_pos (by omega)]
      ·rw [if_neg e2,if_neg (by omega)])
    clear hy0 x0 z0
    go_wp2
    go_roundg (gk - 1)
    case measure=>omega
    case rel=>exact ⟨j+1,by go_num,by omega,by omega,HGR,HV2⟩
   ·have hd:((yj:Int) != 0)=true:=by simp [hy0]
    have hB:Below base w wr:=by
     have:=HGR.out
     exact ⟨this.os,this.tape,this.output,this.size,fun q hq=>this.block q (by omega) (fun e=>by injection e with e; omega)⟩
    have hG:=HG.out.at hB (Nat.le_trans hbw HGR.out.size)
    obtain ⟨w1,hw1⟩:∃ W,W=wr:=⟨_,rfl⟩
    subst hw1
    have hO:=HV.out
    clear hB hy0 HV
    go_wp2
    clear z0
    refine wp_region_held_drew (S:=fun _=>True) (by kernel_rfl) trivial (fun hHeld=>?_)
    obtain ⟨w2,hw⟩:∃ W,W=World.drew w1:=⟨_,rfl⟩
    have kb:Below w1.heap.size w1 w2:=by rw [hw]; exact (Below.refl _ _).drew
    rw [<-hw];clear hw;replace hG:=hG.on kb;replace hO:=hO.on kb;replace x0:=cellS kb x0
    have hgr:=zbs HGR.out kb
    clear kb
    refine tkq 0 (h:=tkq 1 (h:=tkq 2 (h:=tkq 3 (h:=tkq 4 (h:=tkq 5 (h:=tkq 7 (h:=tkq 8 (h:=tkq 9 (h:=?_)))))))))
    refine rdq2 6 10 (h:=fun K hK=>?_) (h2:=fun K hK=>?_)
    ·go_simp
     refine bkq hK trivial (h:=fun hHeld=>?_)
     clear hK K
     refine rdq 10 (h:=fun K hK=>?_)
     go_simp
     go_wp2_with fail
     refine (zaM (a:Int) (yj:Int) hG).mono ?_
     rintro e w3 ⟨rfl,kb⟩
     replace hG:=hG.on kb;replace hO:=hO.on kb;replace x0:=cellS kb x0;replace hgr:=zbs hgr kb;clear kb;rw [HIA.out,HIY.out]
     obtain ⟨t,ht⟩:∃ t,t=mulF P M m a yj:=⟨_,rfl⟩
     rw [<-ht]
     have HT:=hid ht
     have HIT:=hid (show inV (P ^ M) (t:Nat)=t from zak (by rw [ht]; exact HL.out.mulLt _ _))
     clear ht
     refine bkq hK trivial (h:=fun hHeld=>?_)
     clear hK K
     refine rdq 11 (h:=fun K hK=>?_)
     go_simp
     go_wp2_with fail
     refine (zby (xj:Int) (t:Int) hG).mono ?_
     rintro e w4 ⟨rfl,kb⟩
     replace hG:=hG.on kb;replace hO:=hO.on kb;replace x0:=cellS kb x0;replace hgr:=zbs hgr kb;clear kb;rw [HIX.out,HIT.out]
     obtain ⟨s,hs⟩:∃ u,u=addF P M xj t:=⟨_,rfl⟩
     rw [<-hs]
     have HS:=hid hs
     clear hs
     refine bkq hK trivial (h:=fun hHeld=>?_)
     clear hK K
     refine tkq 12 (h:=?_)
     refine rdq 13 (h:=fun K hK=>?_)
     have z1:=hO.frozen (vo+j)
     go_simp
     clear z1
     have hO2:=hO.set hlt (by omega:0<1) (.int .i64 (s:Nat))
     rw [Nat.mul_one,Nat.add_zero] at hO2;replace hgr:=zaC hgr (vo+j) (.int .i64 (s:Nat));clear hO x0
     obtain ⟨w5,hw⟩:∃ W,W=World.setCell w4 ⟨vb,vo+j,none⟩ (.int .i64 (s:Nat)):=⟨_,rfl⟩
     rw [<-hw] at hO2 hgr ⊢;clear hw
     have HGR2:=hid hgr
     have HV2:=hid (hO2.congr (f':=fun t _=>.int .i64 ((if t<j+1 then addF P M (x t) (mulF P M m a (y t)) else x t:Nat):Int)) fun t _ q hq=>by
      obtain rfl:q=0:=by omega
      by_cases e:t=j
      ·subst e
       rw [if_pos ⟨rfl,rfl⟩,if_pos (by omega),HS.out,HT.out,HXJ.out,HYJ.out]
      ·rw [if_neg (fun h=>e h.1)]
       by_cases e2:t<j
       ·rw [if_pos e2,if_pos (by omega)]
       ·rw [if_neg e2,if_neg (by omega)])
     clear hgr hO2
     refine bkq hK trivial (h:=fun hHeld=>?_)
     clear hK K
     refine wpAnyH_done (by kernel_rfl) ?_ _
     clear hHeld
     go_wp2
     go_roundg (gk - 1)
     case measure=>omega
     case rel=>exact ⟨j+1,by go_num,by omega,by omega,HGR2,HV2⟩
    ·go_simp
     go_wp2_with fail
     refine (zaM (a:Int) (yj:Int) hG).mono ?_
     rintro e w3 ⟨rfl,kb⟩
     replace hG:=hG.on kb;replace hO:=hO.on kb;replace x0:=cellS kb x0;replace hgr:=zbs hgr kb;clear kb;rw [HIA.out,HIY.out]
     obtain ⟨t,ht⟩:∃ t,t=mulF P M m a yj:=⟨_,rfl⟩
     rw [<-ht]
     have HT:=hid ht
     have HIT:=hid (show inV (P ^ M) (t:Nat)=t from zak (by rw [ht]; exact HL.out.mulLt _ _))
     clear ht
     refine bkq hK trivial (h:=fun hHeld=>?_)
     clear hK K
     refine rdq 6 (h:=fun K hK=>?_)
     go_simp
     refine bkq hK trivial (h:=fun hHeld=>?_)
     clear hK K
     refine rdq 11 (h:=fun K hK=>?_)
     go_simp
     go_wp2_with fail
     refine (zby (xj:Int) (t:Int) hG).mono ?_
     rintro e w4 ⟨rfl,kb⟩
     replace hG:=hG.on kb;replace hO:=hO.on kb;replace x0:=cellS kb x0;replace hgr:=zbs hgr kb;clear kb;rw [HIX.out,HIT.out]
     obtain ⟨s,hs⟩:∃ u,u=addF P M xj t:=⟨_,rfl⟩
     rw [<-hs]
     have HS:=hid hs
     clear hs
     refine bkq hK trivial (h:=fun hHeld=>?_)
     clear hK K
     refine tkq 12 (h:=?_)
     refine rdq 13 (h:=fun K hK=>?_)
     have z1:=hO.frozen (vo+j)
     go_simp
     clear z1
     have hO2:=hO.set hlt (by omega:0<1) (.int .i64 (s:Nat))
     rw [Nat.mul_one,Nat.add_zero] at hO2;replace hgr:=zaC hgr (vo+j) (.int .i64 (s:Nat));clear hO x0
     obtain ⟨w5,hw⟩:∃ W,W=World.setCell w4 ⟨vb,vo+j,none⟩ (.int .i64 (s:Nat)):=⟨_,rfl⟩
     rw [<-hw] at hO2 hgr ⊢;clear hw
     have HGR2:=hid hgr
     have HV2:=hid (hO2.congr (f':=fun t _=>.int .i64 ((if t<j+1 then addF P M (x t) (mulF P M m a (y t)) else x t:Nat):Int)) fun t _ q hq=>by
      obtain rfl:q=0:=by omega
      by_cases e:t=j
      ·subst e
       rw [if_pos ⟨rfl,rfl⟩,if_pos (by omega),HS.out,HT.out,HXJ.out,HYJ.out]
      ·rw [if_neg (fun h=>e h.1)]
       by_cases e2:t<j
       ·rw [if_pos e2,if_pos (by omega)]
       ·rw [if_neg e2,if_neg (by omega)])
     clear hgr hO2
     refine bkq hK trivial (h:=fun hHeld=>?_)
     clear hK K
     refine wpAnyH_done (by kernel_rfl) ?_ _
     clear hHeld
     go_wp2
     go_roundg (gk - 1)
     case measure=>omega
     case rel=>exact ⟨j+1,by go_num,by omega,by omega,HGR2,HV2⟩
  ·obtain rfl:j=k:=by omega
   have hlt':¬ (j:Int)<(j:Int):=by omega
   have HV2:=hid (HV.out.congr (f':=fun t _=>.int .i64 ((addF P M (x t) (mulF P M m a (y t)):Nat):Int)) fun t ht _ _=>by rw [if_pos ht])
   go_wp2
   refine bodyPost_ret (results_none rfl _ _ _) rfl ?_
   exact ⟨rfl,HGR.out,HV2.out⟩
theorem zgd {w:World} {base e b o n c i:Nat} {f:Nat->Nat->Value} (h:Own w base e 1 (.slice (some ⟨b,o,none⟩) n c) n f) (hi:i<n):w.cell? ⟨b,o+i,none⟩=some (f i 0):=by
 obtain ⟨b',o',e,_,h⟩:=Rd.at1 (h.rd rfl) hi
 injection e with e
 injection e with e1 e2
 subst e1 e2
 exact h
theorem GF.below' {w w':World} {B g P M:Nat} {m:Nat->Nat} (h:GF w B g P M m) (hb:Below B w w'):GF w' B g P M m:=by
 obtain ⟨A,k,c,eb,eo,ec,lb,lo,lc,x,lg,h⟩:=h
 exact ⟨A,k,c,eb,eo,ec,lb,lo,lc,x,lg,h.ok,h.km,zcS h.row hb h.lt,h.lt,Rd.below h.md hb (Nat.le_refl _),Rd.below h.ex hb (Nat.le_refl _),Rd.below h.lgr hb (Nat.le_refl _),h.x0,h.xq,h.gen,h.lgs⟩
theorem zge {w w1 w2:World} {row:Option Nat} (hb:Below w.heap.size w w1) (h:w1.grownBy w2 row):w.grownBy w2 row :=
 ⟨h.os.trans hb.os,h.tape.trans hb.tape,h.output.trans hb.output,Nat.le_trans hb.size h.size,fun k hk hne=>(h.block k (Nat.lt_of_lt_of_le hk hb.size) hne).trans (hb.block k hk)⟩
theorem endNone {P:Program} {fn:Func} {R:Ending->World->Prop} {a:Act} {w:World} (hr:fn.results=#[]) (hd:a.defers=[]) (hR:R (.returned (.tuple #[])) w):bodyPost P fn R .normal a w:=⟨hd,_,results_none hr _ _ _,hR⟩
def TabbedPost (w:World) (base tb o n c k:Nat) (r:Nat->RowAt) (W:Nat->Nat->Nat) (e:Ending) (w':World):Prop :=
 e=.returned (.tuple #[])/\w.grownBy w' (some tb)/\DTab w' base tb o n c k r W
section
variable {w:World} {base tb o n c k a t kb ab:Nat} {r:Nat->RowAt} {W:Nat->Nat->Nat}
theorem zhh (hT:DTab w base tb o n c k r W) (ha:a<n) (ht:t<n) (ck:w.cell? ⟨kb,0,none⟩=some (.int .i64 (t:Nat))) (ca:w.cell? ⟨ab,0,none⟩=some (.int .i64 (a:Nat))) (hkb:kb≠tb) (hab:ab≠tb) :
  Calls Tryz.prog 261 #[.slice (some ⟨tb,o,none⟩) n c,.pointer (some ⟨kb,0,none⟩),.pointer (some ⟨ab,0,none⟩)] w (TabbedPost w base tb o n c k (fun u=>if u=t then r a else if u=a then r t else r u) (fun u=>if u=t then W a else if u=a then W t else W u)):=by
 obtain ⟨w1,hw1⟩:∃ W,W=w:=⟨_,rfl⟩
 have HW:Hid (w1=w):=hw1
 rw [<-hw1] at hT ck ca
 have hgr0:=World.grownBy.refl w1 (some tb)
 have ha0:(0:Int)<=(a:Int):=by omega
 have ht0:(0:Int)<=(t:Int):=by omega
 have hai:(a:Int)<(n:Int):=by omega
 have hti:(t:Int)<(n:Int):=by omega
 have HKB:=hid hkb
 have HAB:=hid hab
 have x7:=hT.cell ht
 have x11:=hT.cell ha
 rw [<-hw1];clear hw1 hkb hab
 go_enter Tryz.func261, Tryz.ntmps261
 go_wp2
 refine wp_region_held_drew (S:=fun w'=>w'.cell? ⟨kb,0,none⟩=some (.int .i64 (t:Nat))/\w'.cell? ⟨ab,0,none⟩=some (.int .i64 (a:Nat))) (by kernel_rfl) ⟨cellS (Below.refl _ _).drew (ck),cellS (Below.refl _ _).drew (ca)⟩ (fun hHeld=>?_)
 obtain ⟨w2,hw⟩:∃ W,W=World.drew w1:=⟨_,rfl⟩
 have kb:Below w1.heap.size w1 w2:=by rw [hw]; exact (Below.refl _ _).drew
 rw [<-hw] at hHeld ⊢;clear hw;replace hT:=hT.on kb;replace ck:=cellS kb ck;replace ca:=cellS kb ca;replace x7:=cellS kb x7;replace x11:=cellS kb x11
 have hgr:=zbs hgr0 kb
 clear kb
 refine tkq 0 (h:=tkq 1 (h:=tkq 2 (h:=tkq 3 (h:=tkq 4 (h:=tkq 5 (h:=tkq 6 (h:=tkq 8 (h:=tkq 9 (h:=tkq 10 (h:=?_))))))))))
 refine rdq2 7 11 (h:=fun K hK=>?_) (h2:=fun K hK=>?_)
 ·go_simp
  refine bkq hK ⟨ck,ca⟩ (h:=fun hHeld=>?_)
  clear hK K
  refine rdq 11 (h:=fun K hK=>?_)
  go_simp
  refine bkq hK ⟨ck,ca⟩ (h:=fun hHeld=>?_)
  clear hK K
  refine tkq 12 (h:=?_)
  refine rdq 13 (h:=fun K hK=>?_)
  have HSW:=hid (hT.swap ha ht)
  have hO:=hT.tab.set ha (by omega:0<1) (.slice (some ⟨(r t).b,(r t).o,none⟩) k (r t).c)
  rw [Nat.mul_one,Nat.add_zero] at hO
  have z0:=hT.froz (o+a)
  replace hgr:=zaC hgr (o+a) (.slice (some ⟨(r t).b,(r t).o,none⟩) k (r t).c);replace ck:=zaa (p:=⟨tb,o+a,none⟩) (u:=(.slice (some ⟨(r t).b,(r t).o,none⟩) k (r t).c)) ck HKB.out;replace ca:=zaa (p:=⟨tb,o+a,none⟩) (u:=(.slice (some ⟨(r t).b,(r t).o,none⟩) k (r t).c)) ca HAB.out
  go_simp
  clear z0 x7 x11
  obtain ⟨w3,hw⟩:∃ W,W=World.setCell w2 ⟨tb,o+a,none⟩ (.slice (some ⟨(r t).b,(r t).o,none⟩) k (r t).c):=⟨_,rfl⟩
  rw [<-hw] at HSW hO hgr ck ca ⊢;clear hw hT
  refine bkq hK ⟨ck,ca⟩ (h:=fun hHeld=>?_)
  clear hK K
  refine tkq 14 (h:=?_)
  refine rdq 15 (h:=fun K hK=>?_)
  have z0:=hO.frozen (o+t)
  have v0:=zgd hO ht
  replace hgr:=zaC hgr (o+t) (.slice (some ⟨(r a).b,(r a).o,none⟩) k (r a).c);replace ck:=zaa (p:=⟨tb,o+t,none⟩) (u:=(.slice (some ⟨(r a).b,(r a).o,none⟩) k (r a).c)) ck HKB.out;replace ca:=zaa (p:=⟨tb,o+t,none⟩) (u:=(.slice (some ⟨(r a).b,(r a).o,none⟩) k (r a).c)) ca HAB.out
  go_simp
  clear z0 v0 hO
  obtain ⟨w4,hw⟩:∃ W,W=World.setCell w3 ⟨tb,o+t,none⟩ (.slice (some ⟨(r a).b,(r a).o,none⟩) k (r a).c):=⟨_,rfl⟩
  rw [<-hw] at HSW hgr ck ca ⊢;clear hw
  refine bkq hK ⟨ck,ca⟩ (h:=fun hHeld=>?_)
  clear hK K
  refine wpAnyH_done (by kernel_rfl) ?_ _
  clear hHeld
  go_wp2
  refine endNone rfl rfl ?_
  exact ⟨rfl,hgr,HSW.out⟩
 ·go_simp
  refine bkq hK ⟨ck,ca⟩ (h:=fun hHeld=>?_)
  clear hK K
  refine rdq 7 (h:=fun K hK=>?_)
  go_simp
  refine bkq hK ⟨ck,ca⟩ (h:=fun hHeld=>?_)
  clear hK K
  refine tkq 12 (h:=?_)
  refine rdq 13 (h:=fun K hK=>?_)
  have HSW:=hid (hT.swap ha ht)
  have hO:=hT.tab.set ha (by omega:0<1) (.slice (some ⟨(r t).b,(r t).o,none⟩) k (r t).c)
  rw [Nat.mul_one,Nat.add_zero] at hO
  have z0:=hT.froz (o+a)
  replace hgr:=zaC hgr (o+a) (.slice (some ⟨(r t).b,(r t).o,none⟩) k (r t).c);replace ck:=zaa (p:=⟨tb,o+a,none⟩) (u:=(.slice (some ⟨(r t).b,(r t).o,none⟩) k (r t).c)) ck HKB.out;replace ca:=zaa (p:=⟨tb,o+a,none⟩) (u:=(.slice (some ⟨(r t).b,(r t).o,none⟩) k (r t).c)) ca HAB.out
  go_simp
  clear z0 x7 x11
  obtain ⟨w3,hw⟩:∃ W,W=World.setCell w2 ⟨tb,o+a,none⟩ (.slice (some ⟨(r t).b,(r t).o,none⟩) k (r t).c):=⟨_,rfl⟩
  rw [<-hw] at HSW hO hgr ck ca ⊢;clear hw hT
  refine bkq hK ⟨ck,ca⟩ (h:=fun hHeld=>?_)
  clear hK K
  refine tkq 14 (h:=?_)
  refine rdq 15 (h:=fun K hK=>?_)
  have z0:=hO.frozen (o+t)
  have v0:=zgd hO ht
  replace hgr:=zaC hgr (o+t) (.slice (some ⟨(r a).b,(r a).o,none⟩) k (r a).c);replace ck:=zaa (p:=⟨tb,o+t,none⟩) (u:=(.slice (some ⟨(r a).b,(r a).o,none⟩) k (r a).c)) ck HKB.out;replace ca:=zaa (p:=⟨tb,o+t,none⟩) (u:=(.slice (some ⟨(r a).b,(r a).o,none⟩) k (r a).c)) ca HAB.out
  go_simp
  clear z0 v0 hO
  obtain ⟨w4,hw⟩:∃ W,W=World.setCell w3 ⟨tb,o+t,none⟩ (.slice (some ⟨(r a).b,(r a).o,none⟩) k (r a).c):=⟨_,rfl⟩
  rw [<-hw] at HSW hgr ck ca ⊢;clear hw
  refine bkq hK ⟨ck,ca⟩ (h:=fun hHeld=>?_)
  clear hK K
  refine wpAnyH_done (by kernel_rfl) ?_ _
  clear hHeld
  go_wp2
  refine endNone rfl rfl ?_
  exact ⟨rfl,hgr,HSW.out⟩
theorem zgf {P M g gb vb s:Nat} {m:Nat->Nat} (hG:GF w base g P M m) (hbw:base<=w.heap.size) (hT:DTab w base tb o n c k r W) (ha:a<n) (hW:∀ j,j<k->W a j<P ^ M) (hs:s<P ^ M) (hk:k<=1048576)
  (cg:w.cell? ⟨gb,0,none⟩=some (.pointer (some ⟨g,0,none⟩))) (cv:w.cell? ⟨vb,0,none⟩=some (.int .i64 (s:Nat))) (ca:w.cell? ⟨ab,0,none⟩=some (.int .i64 (a:Nat))) (hgb:gb≠tb) (hvb:vb≠tb) (hab:ab≠tb) :
  Calls Tryz.prog 262 #[.slice (some ⟨tb,o,none⟩) n c,.pointer (some ⟨gb,0,none⟩),.pointer (some ⟨vb,0,none⟩),.pointer (some ⟨ab,0,none⟩)] w fun e w'=>∃ q,w.heap.size<=q/\TabbedPost w base tb o n c k (fun u=>if u=a then ⟨q,0,k⟩ else r u) (fun u=>if u=a then fun j=>mulF P M m s (W a j) else W u) e w':=by
 obtain ⟨w1,hw1⟩:∃ W,W=w:=⟨_,rfl⟩
 have hbw0:base<=w1.heap.size:=by rw [hw1]; exact hbw
 have hG0:=hG
 rw [<-hw1] at hG0 hT cg cv ca
 have hGA:=hG0.at (Below.refl _ _) hbw0
 have hgr0:=World.grownBy.refl w1 (some tb)
 have ha0:(0:Int)<=(a:Int):=by omega
 have hai:(a:Int)<(n:Int):=by omega
 have HGB:=hid hgb
 have HVB:=hid hvb
 have HAB:=hid hab
 have HWL:=hid hW
 have x7:=hT.cell ha
 rw [<-hw1];clear hw1 hgb hvb hab hG hG0 hbw hW
 go_enter Tryz.func262, Tryz.ntmps262
 go_wp2
 refine wp_region_held_drew (S:=fun w'=>w'.cell? ⟨gb,0,none⟩=some (.pointer (some ⟨g,0,none⟩))/\w'.cell? ⟨vb,0,none⟩=some (.int .i64 (s:Nat))/\w'.cell? ⟨ab,0,none⟩=some (.int .i64 (a:Nat))) (by kernel_rfl) ⟨cellS (Below.refl _ _).drew (cg),cellS (Below.refl _ _).drew (cv),cellS (Below.refl _ _).drew (ca)⟩ (fun hHeld=>?_)
 obtain ⟨w2,hw⟩:∃ W,W=World.drew w1:=⟨_,rfl⟩
 have kb:Below w1.heap.size w1 w2:=by rw [hw]; exact (Below.refl _ _).drew
 rw [<-hw] at hHeld ⊢;clear hw;replace hT:=hT.on kb;replace hGA:=hGA.on kb;replace cg:=cellS kb cg;replace cv:=cellS kb cv;replace ca:=cellS kb ca;replace x7:=cellS kb x7
 have hgr:=zbs hgr0 kb
 clear kb
 refine tkq 0 (h:=tkq 1 (h:=tkq 2 (h:=tkq 3 (h:=tkq 4 (h:=tkq 5 (h:=tkq 6 (h:=?_)))))))
 refine rdq 7 (h:=fun K hK=>?_)
 go_simp
 refine bkq hK ⟨cg,cv,ca⟩ (h:=fun hHeld=>?_)
 clear hK K
 refine rdq 8 (h:=fun K hK=>?_)
 have hT0:∀ u,u<n->base<=(r u).b/\(r u).b<w2.heap.size:=fun u hu=>hT.lt hu
 have hTr:=hT.rd ha
 have hz8:=hgr.size
 go_simp
 go_wp2_with fail
 refine (zb6 s k _ _ _ hGA hs hTr HWL.out hk).mono ?_
 rintro e w3 ⟨q,rfl,hq,rq,kb⟩
 replace hT:=hT.on kb;replace hGA:=hGA.on kb;replace cg:=cellS kb cg;replace cv:=cellS kb cv;replace ca:=cellS kb ca;replace x7:=cellS kb x7;replace hgr:=zbs hgr kb
 have hqn:∀ u,u<n->u≠a->(r u).b≠q:=fun u hu _ e=>by have:=(hT0 u hu); omega
 have hqb:base<=q:=by have:=hT0 a ha; omega
 clear kb
 have hrO:=zbe rq hqb (show k<=maxLen by unfold maxLen; omega)
 clear rq x7
 refine bkq hK ⟨cg,cv,ca⟩ (h:=fun hHeld=>?_)
 clear hK K
 refine tkq 9 (h:=?_)
 refine rdq 10 (h:=fun K hK=>?_)
 have HPU:=hid (hT.put ha hrO hqn)
 have z0:=hT.froz (o+a)
 have v0:=hT.cell ha
 replace hgr:=zaC hgr (o+a) (.slice (some ⟨q,0,none⟩) k k);replace cg:=zaa (p:=⟨tb,o+a,none⟩) (u:=(.slice (some ⟨q,0,none⟩) k k)) cg HGB.out;replace cv:=zaa (p:=⟨tb,o+a,none⟩) (u:=(.slice (some ⟨q,0,none⟩) k k)) cv HVB.out;replace ca:=zaa (p:=⟨tb,o+a,none⟩) (u:=(.slice (some ⟨q,0,none⟩) k k)) ca HAB.out
 go_simp
 clear z0 v0 hT hrO hGA
 obtain ⟨w4,hw⟩:∃ W,W=World.setCell w3 ⟨tb,o+a,none⟩ (.slice (some ⟨q,0,none⟩) k k):=⟨_,rfl⟩
 rw [<-hw] at HPU hgr cg cv ca ⊢;clear hw
 refine bkq hK ⟨cg,cv,ca⟩ (h:=fun hHeld=>?_)
 clear hK K
 refine wpAnyH_done (by kernel_rfl) ?_ _
 clear hHeld
 go_wp2
 refine endNone rfl rfl ?_
 exact ⟨q,Nat.le_trans hz8 hq,rfl,hgr,HPU.out⟩
theorem zhi {P M g gb ib xb i x:Nat} {m:Nat->Nat} (hG:GF w base g P M m) (hbw:base<=w.heap.size) (hT:DTab w base tb o n c k r W) (ha:a<n) (hi:i<n) (hia:i≠a) (hW:∀ u,u<n->∀ j,j<k->W u j<P ^ M) (hx:x<P ^ M) (hk:k<=1048576)
  (cg:w.cell? ⟨gb,0,none⟩=some (.pointer (some ⟨g,0,none⟩))) (ci:w.cell? ⟨ib,0,none⟩=some (.int .i64 (i:Nat))) (cx:w.cell? ⟨xb,0,none⟩=some (.int .i64 (x:Nat))) (ca:w.cell? ⟨ab,0,none⟩=some (.int .i64 (a:Nat)))
  (hgb:gb≠(r i).b) (hib:ib≠(r i).b) (hxb:xb≠(r i).b) (hab:ab≠(r i).b) :
  Calls Tryz.prog 263 #[.slice (some ⟨tb,o,none⟩) n c,.pointer (some ⟨gb,0,none⟩),.pointer (some ⟨ib,0,none⟩),.pointer (some ⟨xb,0,none⟩),.pointer (some ⟨ab,0,none⟩)] w fun e w'=>e=.returned (.tuple #[])/\w.grownBy w' (some (r i).b)/\DTab w' base tb o n c k r (fun u=>if u=i then fun j=>addF P M (W i j) (mulF P M m (negF P M x) (W a j)) else W u):=by
 obtain ⟨w1,hw1⟩:∃ W,W=w:=⟨_,rfl⟩
 have hbw0:base<=w1.heap.size:=by rw [hw1]; exact hbw
 have hG0:=hG
 rw [<-hw1] at hG0 hT cg ci cx ca
 have hGA:=hG0.at (Below.refl _ _) hbw0
 have hGB:GF w1 base g P M m:=hG0
 have hGA0:=hG0
 have hP0:0<P:=by have:=hGA.ok.1.1; omega
 have ha0:(0:Int)<=(a:Int):=by omega
 have hai:(a:Int)<(n:Int):=by omega
 have hi0:(0:Int)<=(i:Int):=by omega
 have hii:(i:Int)<(n:Int):=by omega
 have HGB:=hid hgb
 have HIB:=hid hib
 have HXB:=hid hxb
 have HAB:=hid hab
 have HWL:=hid hW
 have HIX:=hid (zak hx)
 have x4:=hT.cell hi
 have x11:=hT.cell ha
 have hTi:=hT.row i hi
 have HRI:=hid (hT.rd ha)
 have HNE:=hid (hT.apart a i ha hi (fun e=>hia e.symm))
 have HIA:=hid hia
 rw [<-hw1];clear hw1 hgb hib hxb hab hG hG0 hbw hW hia
 go_enter Tryz.func263, Tryz.ntmps263
 go_wp2
 refine wp_region_held_drew (S:=fun w'=>w'.cell? ⟨gb,0,none⟩=some (.pointer (some ⟨g,0,none⟩))/\w'.cell? ⟨ib,0,none⟩=some (.int .i64 (i:Nat))/\w'.cell? ⟨xb,0,none⟩=some (.int .i64 (x:Nat))/\w'.cell? ⟨ab,0,none⟩=some (.int .i64 (a:Nat))/\w'.cell? ⟨tb,o+i,none⟩=some (.slice (some ⟨(r i).b,(r i).o,none⟩) k (r i).c)/\w'.cell? ⟨tb,o+a,none⟩=some (.slice (some ⟨(r a).b,(r a).o,none⟩) k (r a).c)) (by kernel_rfl) ⟨cellS (Below.refl _ _).drew (cg),cellS (Below.refl _ _).drew (ci),cellS (Below.refl _ _).drew (cx),cellS (Below.refl _ _).drew (ca),cellS (Below.refl _ _).drew (x4),cellS (Below.refl _ _).drew (x11)⟩ (fun hHeld=>?_)
 obtain ⟨w2,hw⟩:∃ W,W=World.drew w1:=⟨_,rfl⟩
 have kb:Below w1.heap.size w1 w2:=by rw [hw]; exact (Below.refl _ _).drew
 rw [<-hw] at hHeld ⊢;clear hw;replace hT:=hT.on kb;replace hGA:=hGA.on kb;replace cg:=cellS kb cg;replace ci:=cellS kb ci;replace cx:=cellS kb cx;replace ca:=cellS kb ca;replace x4:=cellS kb x4;replace x11:=cellS kb x11
 have HKD:=hid kb
 clear kb
 refine tkq 0 (h:=tkq 1 (h:=tkq 2 (h:=tkq 3 (h:=tkq 4 (h:=tkq 5 (h:=tkq 6 (h:=tkq 8 (h:=tkq 9 (h:=tkq 10 (h:=tkq 11 (h:=?_)))))))))))
 refine rdq 7 (h:=fun K hK=>?_)
 go_simp
 go_wp2_with fail
 refine (zdo (x:Int) hGA).mono ?_
 rintro e w3 ⟨rfl,kb⟩
 replace hT:=hT.on kb;replace hGA:=hGA.on kb;replace cg:=cellS kb cg;replace ci:=cellS kb ci;replace cx:=cellS kb cx;replace ca:=cellS kb ca;replace x4:=cellS kb x4;replace x11:=cellS kb x11
 have HKC:=hid (HKD.out.trans (kb.mono HKD.out.size))
 clear kb;rw [HIX.out]
 obtain ⟨y,hy⟩:∃ y,y=negF P M x:=⟨_,rfl⟩
 rw [<-hy]
 have hyq:y<P ^ M:=by rw [hy]; exact zbp hP0
 have HY:=hid hy
 clear hy
 refine bkq hK ⟨cg,ci,cx,ca,x4,x11⟩ (h:=fun hHeld=>?_)
 clear hK K
 refine rdq 12 (h:=fun K hK=>?_)
 have hGC:=(hGA0.at (HKC.out.mono hbw0) (Nat.le_trans hbw0 HKC.out.size))
 have hTr:=hT.row i hi
 have hTa:=hT.rd ha
 have hbc:=Nat.le_trans hbw0 HKC.out.size
 go_simp
 go_wp2_with fail
 refine (zir P M g base (r i).b (r i).o (r i).c (r a).b (r a).o (r a).c k y m (W i) (W a) w3 (hGB.below' (HKC.out.mono hbw0)) hbc hTr hTa HNE.out hyq (HWL.out i hi) (HWL.out a ha) hk).mono ?_
 rintro e w4 ⟨rfl,hg9,hO9⟩
 have HTT:=hid (hT.rowed hi hg9 hO9)
 have HGG:=hid (zge HKC.out hg9)
 replace cg:=zan hg9 cg (fun e=>HGB.out (by injection e))
 replace ci:=zan hg9 ci (fun e=>HIB.out (by injection e))
 replace cx:=zan hg9 cx (fun e=>HXB.out (by injection e))
 replace ca:=zan hg9 ca (fun e=>HAB.out (by injection e))
 have hnt:=hT.ne hi
 replace x4:=zan hg9 x4 (fun e=>hnt (by injection e with e; exact e.symm))
 replace x11:=zan hg9 x11 (fun e=>hnt (by injection e with e; exact e.symm))
 clear hg9 hO9 hT hTr hTa hGA hGC
 refine bkq hK ⟨cg,ci,cx,ca,x4,x11⟩ (h:=fun hHeld=>?_)
 clear hK K
 refine wpAnyH_done (by kernel_rfl) ?_ _
 clear hHeld
 go_wp2
 refine endNone rfl rfl ?_
 rw [HY.out] at HTT
 exact ⟨rfl,HGG.out,HTT.out⟩
end
section
variable {w:World} {base tb o n c k a t kb ab rb zb:Nat} {r:Nat->RowAt} {W:Nat->Nat->Nat}
theorem zgg (hT:DTab w base tb o n c k r W) (ha:a<n) (ht:t<n) (ck:w.cell? ⟨kb,0,none⟩=some (.int .i64 (t:Nat))) (ca:w.cell? ⟨ab,0,none⟩=some (.int .i64 (a:Nat))) (hkb:kb≠tb) (hab:ab≠tb)
  (cr:w.cell? ⟨rb,0,none⟩=some (.slice (some ⟨tb,o,none⟩) n c)) (cz:w.cell? ⟨zb,0,none⟩=some (.slice none 0 0)) (hzb:zb≠tb) :
  Calls Tryz.prog 260 #[.func (.func 261) #[] #[.pointer (some ⟨kb,0,none⟩),.pointer (some ⟨ab,0,none⟩)],.pointer (some ⟨rb,0,none⟩),.pointer (some ⟨zb,0,none⟩)] w (TabbedPost w base tb o n c k (fun u=>if u=t then r a else if u=a then r t else r u) (fun u=>if u=t then W a else if u=a then W t else W u)):=by
 have hcf:∀ (x p1 p2:Value) (W:World),(callFunc 261 #[x,p1,p2]).run Tryz.prog W=.ok (.enter 261 #[x,p1,p2]) W:=fun _ _ _ _=>by kernel_rfl
 have HZB:=hid hzb
 clear hzb
 go_enter Tryz.func260, Tryz.ntmps260
 go_wp2_with fail
 refine (zhh hT ha ht ck ca hkb hab).mono ?_
 rintro e w1 ⟨rfl,hg,hT1⟩
 have cz1:=zan hg cz (fun e=>HZB.out (by injection e))
 have HG:=hid hg
 have HT:=hid hT1
 clear hg hT1 cz cr ck ca hT hcf
 go_wp2
 refine endNone rfl rfl ?_
 exact ⟨rfl,HG.out,HT.out⟩
theorem zgh {P M g gb vb s:Nat} {m:Nat->Nat} (hG:GF w base g P M m) (hbw:base<=w.heap.size) (hT:DTab w base tb o n c k r W) (ha:a<n) (hW:∀ j,j<k->W a j<P ^ M) (hs:s<P ^ M) (hk:k<=1048576)
  (cg:w.cell? ⟨gb,0,none⟩=some (.pointer (some ⟨g,0,none⟩))) (cv:w.cell? ⟨vb,0,none⟩=some (.int .i64 (s:Nat))) (ca:w.cell? ⟨ab,0,none⟩=some (.int .i64 (a:Nat))) (hgb:gb≠tb) (hvb:vb≠tb) (hab:ab≠tb)
  (cr:w.cell? ⟨rb,0,none⟩=some (.slice (some ⟨tb,o,none⟩) n c)) (cz:w.cell? ⟨zb,0,none⟩=some (.slice none 0 0)) (hzb:zb≠tb) :
  Calls Tryz.prog 260 #[.func (.func 262) #[] #[.pointer (some ⟨gb,0,none⟩),.pointer (some ⟨vb,0,none⟩),.pointer (some ⟨ab,0,none⟩)],.pointer (some ⟨rb,0,none⟩),.pointer (some ⟨zb,0,none⟩)] w fun e w'=>∃ q,w.heap.size<=q/\TabbedPost w base tb o n c k (fun u=>if u=a then ⟨q,0,k⟩ else r u) (fun u=>if u=a then fun j=>mulF P M m s (W a j) else W u) e w':=by
 have hcf:∀ (x p1 p2 p3:Value) (W:World),(callFunc 262 #[x,p1,p2,p3]).run Tryz.prog W=.ok (.enter 262 #[x,p1,p2,p3]) W:=fun _ _ _ _ _=>by kernel_rfl
 have HZB:=hid hzb
 clear hzb
 go_enter Tryz.func260, Tryz.ntmps260
 go_wp2_with fail
 refine (zgf hG hbw hT ha hW hs hk cg cv ca hgb hvb hab).mono ?_
 rintro e w1 ⟨q,hq,rfl,hg,hT1⟩
 have cz1:=zan hg cz (fun e=>HZB.out (by injection e))
 have HG:=hid hg
 have HT:=hid hT1
 have HQ:=hid hq
 clear hg hT1 cz cr cg cv ca hT hcf hG hq
 go_wp2
 refine endNone rfl rfl ?_
 exact ⟨q,HQ.out,rfl,HG.out,HT.out⟩
theorem zgi {P M g gb ib xb i x:Nat} {m:Nat->Nat} (hG:GF w base g P M m) (hbw:base<=w.heap.size) (hT:DTab w base tb o n c k r W) (ha:a<n) (hi:i<n) (hia:i≠a) (hW:∀ u,u<n->∀ j,j<k->W u j<P ^ M) (hx:x<P ^ M) (hk:k<=1048576)
  (cg:w.cell? ⟨gb,0,none⟩=some (.pointer (some ⟨g,0,none⟩))) (ci:w.cell? ⟨ib,0,none⟩=some (.int .i64 (i:Nat))) (cx:w.cell? ⟨xb,0,none⟩=some (.int .i64 (x:Nat))) (ca:w.cell? ⟨ab,0,none⟩=some (.int .i64 (a:Nat)))
  (hgb:gb≠(r i).b) (hib:ib≠(r i).b) (hxb:xb≠(r i).b) (hab:ab≠(r i).b)
  (cr:w.cell? ⟨rb,0,none⟩=some (.slice (some ⟨tb,o,none⟩) n c)) (cz:w.cell? ⟨zb,0,none⟩=some (.slice none 0 0)) (hzb:zb≠(r i).b) :
  Calls Tryz.prog 260 #[.func (.func 263) #[] #[.pointer (some ⟨gb,0,none⟩),.pointer (some ⟨ib,0,none⟩),.pointer (some ⟨xb,0,none⟩),.pointer (some ⟨ab,0,none⟩)],.pointer (some ⟨rb,0,none⟩),.pointer (some ⟨zb,0,none⟩)] w fun e w'=>e=.returned (.tuple #[])/\w.grownBy w' (some (r i).b)/\DTab w' base tb o n c k r (fun u=>if u=i then fun j=>addF P M (W i j) (mulF P M m (negF P M x) (W a j)) else W u):=by
 have hcf:∀ (x p1 p2 p3 p4:Value) (W:World),(callFunc 263 #[x,p1,p2,p3,p4]).run Tryz.prog W=.ok (.enter 263 #[x,p1,p2,p3,p4]) W:=fun _ _ _ _ _ _=>by kernel_rfl
 have HZB:=hid hzb
 clear hzb
 go_enter Tryz.func260, Tryz.ntmps260
 go_wp2_with fail
 refine (zhi hG hbw hT ha hi hia hW hx hk cg ci cx ca hgb hib hxb hab).mono ?_
 rintro e w1 ⟨rfl,hg,hT1⟩
 have cz1:=zan hg cz (fun e=>HZB.out (by injection e))
 have HG:=hid hg
 have HT:=hid hT1
 clear hg hT1 cz cr cg ci cx ca hT hcf hG
 go_wp2
 refine endNone rfl rfl ?_
 exact ⟨rfl,HG.out,HT.out⟩
end
theorem zaD {w:World} {base e s b o n c g m:Nat} {t:TypeId} {F:Nat->Value} {f:Nat->Nat->Value} (hr:w.rowIs g t m F) (h:Own w base e s (.slice (some ⟨b,o,none⟩) n c) n f) (hne:t≠e):g≠b:=by
 rcases zbZ hr h hne with h1 | h1
 ·cases h1
 ·exact fun e=>h1 (by show some _=some _; rw [e])
structure EMem (w0 w:World) (base g tb o n c k b4 b5 b7 a:Nat) (u:Value) (r:Nat->RowAt) (W:Nat->Nat->Nat) (p:Nat->Nat):Prop where
 tab:DTab w base tb o n c k r W
 pv:Own w base 3 1 u a (fun j _=>.int .i64 (p j:Nat))
 ap:∀ i,i<n->u.ownBlock≠some (r i).b
 b4:w.rowIs b4 91 1 (fun _=>.pointer (some ⟨g,0,none⟩))
 b5:w.rowIs b5 25 1 (fun _=>.slice (some ⟨tb,o,none⟩) n c)
 b7:w.rowIs b7 25 1 (fun _=>.slice none 0 0)
 below:Below base w0 w
 base:base<=w0.heap.size
section
variable {w0 w w':World} {base g tb o n c k b4 b5 b7 a:Nat} {u:Value} {r r':Nat->RowAt} {W W':Nat->Nat->Nat} {p:Nat->Nat}
theorem EMem.on (h:EMem w0 w base g tb o n c k b4 b5 b7 a u r W p) (hb:Below w.heap.size w w'):EMem w0 w' base g tb o n c k b4 b5 b7 a u r W p :=
 ⟨h.tab.on hb,h.pv.on hb,h.ap,zab h.b4 hb,zab h.b5 hb,zab h.b7 hb,h.below.trans (hb.mono (Nat.le_trans h.base h.below.size)),h.base⟩
theorem EMem.congr (h:EMem w0 w base g tb o n c k b4 b5 b7 a u r W p) (e:∀ i,i<n->∀ j,j<k->W i j=W' i j):EMem w0 w base g tb o n c k b4 b5 b7 a u r W' p:=⟨h.tab.congr e,h.pv,h.ap,h.b4,h.b5,h.b7,h.below,h.base⟩
theorem EMem.bw (h:EMem w0 w base g tb o n c k b4 b5 b7 a u r W p):base<=w.heap.size:=Nat.le_trans h.base h.below.size
def EFar (tb n b4 b5 b7:Nat) (u:Value) (r:Nat->RowAt) (base q:Nat):Prop:=q≠tb/\(∀ i,i<n->q≠(r i).b)/\u.ownBlock≠some q/\q≠b4/\q≠b5/\q≠b7/\base<=q
theorem EMem.far {q:Nat} (h:EMem w0 w base g tb o n c k b4 b5 b7 a u r W p) (hq:w.heap.size<=q):EFar tb n b4 b5 b7 u r base q :=
 ⟨by have:=h.tab.tlt; omega,fun i hi=>by have:=h.tab.lt hi; omega,fun e=>by have:=h.pv.lt _ e; omega,by have:=h.b4.lt; omega,by have:=h.b5.lt; omega,by have:=h.b7.lt; omega,Nat.le_trans h.bw hq⟩
theorem EMem.boxed {q j:Nat} (h:EMem w0 w base g tb o n c k b4 b5 b7 a u r W p) (hf:EFar tb n b4 b5 b7 u r base q) (v:Value):EMem w0 (w.setCell ⟨q,j,none⟩ v) base g tb o n c k b4 b5 b7 a u r W p :=
 have hg:w.grownBy (w.setCell ⟨q,j,none⟩ v) (some q):=zcl w q j v
 ⟨h.tab.kept hg (fun e=>hf.1 (by injection e)) (fun i hi e=>hf.2.1 i hi (by injection e)),h.pv.kept hg (.inr fun e=>hf.2.2.1 e),h.ap,h.b4.setOther (fun e=>hf.2.2.2.1 e.symm) _,h.b5.setOther (fun e=>hf.2.2.2.2.1 e.symm) _,h.b7.setOther (fun e=>hf.2.2.2.2.2.1 e.symm) _,h.below.setCell (p:=⟨q,j,none⟩) hf.2.2.2.2.2.2 v,h.base⟩
theorem EMem.tabbed (h:EMem w0 w base g tb o n c k b4 b5 b7 a u r W p) (hg:w.grownBy w' (some tb)) (hT:DTab w' base tb o n c k r' W') (hap:∀ i,i<n->u.ownBlock≠some (r' i).b):EMem w0 w' base g tb o n c k b4 b5 b7 a u r' W' p :=
 ⟨hT,h.pv.kept hg (za0 h.tab.tab h.pv (by decide)),hap,zaw h.b4 hg (zaD h.b4 h.tab.tab (by decide)),zaw h.b5 hg (zaD h.b5 h.tab.tab (by decide)),zaw h.b7 hg (zaD h.b7 h.tab.tab (by decide)),h.below.grown hg h.bw (fun q e=>by have:=h.tab.tlt.1; injection e with e; omega),h.base⟩
theorem EMem.rowed {i:Nat} (h:EMem w0 w base g tb o n c k b4 b5 b7 a u r W p) (hi:i<n) (hg:w.grownBy w' (some (r i).b)) (hT:DTab w' base tb o n c k r W'):EMem w0 w' base g tb o n c k b4 b5 b7 a u r W' p :=
 ⟨hT,h.pv.kept hg (.inr (h.ap i hi)),h.ap,zaw h.b4 hg (zaD h.b4 (h.tab.row i hi) (by decide)),zaw h.b5 hg (zaD h.b5 (h.tab.row i hi) (by decide)),zaw h.b7 hg (zaD h.b7 (h.tab.row i hi) (by decide)),h.below.grown hg h.bw (fun q e=>by have:=(h.tab.lt hi).1; injection e with e; omega),h.base⟩
theorem EMem.pushed {u':Value} {p':Nat->Nat} (h:EMem w0 w base g tb o n c k b4 b5 b7 a u r W p) (ho:Own w' base 3 1 u' (a+1) (fun j _=>.int .i64 (p' j:Nat))) (hg:w.grownBy w' u.ownBlock) (hat:u'.ownBlock=u.ownBlock∨u'.ownBlock=some w.heap.size):EMem w0 w' base g tb o n c k b4 b5 b7 (a+1) u' r W p':=by
 have hne4:∀ {q:Nat} {t:TypeId} {F:Nat->Value},w.rowIs q t 1 F->t ≠ 3 -> w'.rowIs q t 1 F:=fun {q t F} hr hne=>hr.of_block (hg.block q hr.lt fun e=>(zbZ hr h.pv hne).elim (fun h1=>by rw [h1] at e; cases e) fun h1=>h1 e.symm)
 refine ⟨⟨h.tab.tab.kept hg (za0 h.pv h.tab.tab (by decide)),fun i hi=>(h.tab.row i hi).kept hg (.inr fun e=>h.ap i hi e.symm),h.tab.apart⟩,ho,fun i hi e=>?_,hne4 h.b4 (by decide),hne4 h.b5 (by decide),hne4 h.b7 (by decide),h.below.grown hg h.bw (fun q e=>(h.pv.lt q e).1),h.base⟩
 rcases hat with h1 | h1
 ·exact h.ap i hi (by rw [<-h1]; exact e)
 ·rw [h1] at e
  injection e with e
  have:=(h.tab.lt hi).2
  omega
end
theorem boxRow {w:World} {v:Value} {T:TypeId}:(w.alloc (.cells #[v] T)).rowIs w.heap.size T 1 (fun _=>v):=⟨_,zax rfl,rfl,fun i hi=>by
 obtain rfl:i=0:=by omega
 rfl⟩
def MElimPost (base q:Nat) (add mul:Nat->Nat->Nat) (tb o n c k cols:Nat) (V:Nat->Nat->Nat) (w:World) (e:Ending) (w':World):Prop :=
 ∃ (pv:Value) (d:Int) (a c0:Nat) (p:Nat->Nat) (r:Nat->RowAt) (W:Nat->Nat->Nat),e=.returned (.tuple #[pv,.int .i64 d])/\DTab w' base tb o n c k r W/\Own w' base 3 1 pv a (fun j _=>.int .i64 (p j:Nat))/\Below base w w' /\
  c0<=cols/\(c0=cols∨a=n)/\EchN q n k c0 a p W/\RowOps q add mul n k V W
theorem zhj (P M g base tb o n c kc cols:Nat) (m:Nat->Nat) (r0:Nat->RowAt) (V:Nat->Nat->Nat) (w:World) (hG:GF w base g P M m) (hbw:base<=w.heap.size) (hT:DTab w base tb o n c kc r0 V)
  (hV:∀ i,i<n->∀ j,j<kc->V i j<P ^ M) (hcK:cols<=kc) (hK2:kc<=1048576) (hn:n<=1048576) :
  Calls Tryz.prog 240 #[.pointer (some ⟨g,0,none⟩),.slice (some ⟨tb,o,none⟩) n c,.int .i64 (cols:Nat),.slice none 0 0] w (MElimPost base (P ^ M) (addF P M) (mulF P M m) tb o n c kc cols V w):=by
 have hL:=fieldLaws hG.ok
 have hP0:0<P:=by have:=hG.ok.1.1; omega
 have HGF:=hid hG
 have HST:=hid (EchN.start (pv:=fun _=>0) hV)
 obtain ⟨o4,ho4⟩:∃ x,x=Obj.cells #[.pointer (some ⟨g,0,none⟩)] 91 := ⟨_,rfl⟩
 obtain ⟨o5,ho5⟩:∃ x,x=Obj.cells #[.slice (some ⟨tb,o,none⟩) n c] 25 := ⟨_,rfl⟩
 obtain ⟨o7,ho7⟩:∃ x,x=Obj.cells #[.slice none 0 0] 25 := ⟨_,rfl⟩
 obtain ⟨w1,hw1⟩:∃ W,W=w.alloc o4:=⟨_,rfl⟩
 obtain ⟨w2,hw2⟩:∃ W,W=w1.alloc o5:=⟨_,rfl⟩
 obtain ⟨w3,hw3⟩:∃ W,W=w2.alloc o7:=⟨_,rfl⟩
 have r4:w1.rowIs w.heap.size 91 1 (fun _=>.pointer (some ⟨g,0,none⟩)):=by rw [hw1,ho4]; exact boxRow
 have r5:w2.rowIs w1.heap.size 25 1 (fun _=>.slice (some ⟨tb,o,none⟩) n c):=by rw [hw2,ho5]; exact boxRow
 have r7:w3.rowIs w2.heap.size 25 1 (fun _=>.slice none 0 0):=by rw [hw3,ho7]; exact boxRow
 have k1:Below w.heap.size w w1:=by rw [hw1]; exact (Below.refl _ _).alloc (Nat.le_refl _) _
 have k2:Below w1.heap.size w1 w2:=by rw [hw2]; exact (Below.refl _ _).alloc (Nat.le_refl _) _
 have k3:Below w2.heap.size w2 w3:=by rw [hw3]; exact (Below.refl _ _).alloc (Nat.le_refl _) _
 have s1:w1.heap.size=w.heap.size+1:=by rw [hw1]; simp
 have s2:w2.heap.size=w.heap.size+1+1:=by rw [hw2]; simp [s1]
 have hBb:Below base w w3:=((k1.mono hbw).trans (k2.mono (Nat.le_trans hbw k1.size))).trans (k3.mono (Nat.le_trans (Nat.le_trans hbw k1.size) k2.size))
 have HM0:EMem w w3 base g tb o n c kc w.heap.size w1.heap.size w2.heap.size 0 (.slice none 0 0) r0 V (fun _=>0) :=
  ⟨((hT.on k1).on k2).on k3,Own.nil _ _ _ _ _,(fun i _ e=>by cases e),zab (zab r4 k2) k3,zab r5 k3,r7,hBb,hbw⟩
 rw [s1,s2] at HM0
 have HMM:=hid HM0
 clear r4 r5 r7 k1 k2 k3 hBb HM0 hT hG hV
 go_enter Tryz.func240, Tryz.ntmps240
 go_upto_region 1 with fail
 rw [<-ho4,<-hw1,<-ho5,<-hw2,<-ho7,<-hw3];clear hw1 hw2 hw3 ho4 ho5 ho7 s1 s2
 obtain ⟨b4,hb4⟩:∃ b,b=w.heap.size:=⟨_,rfl⟩
 obtain ⟨b5,hb5⟩:∃ b,b=w.heap.size+1:=⟨_,rfl⟩
 obtain ⟨b7,hb7⟩:∃ b,b=w.heap.size+1+1:=⟨_,rfl⟩
 rw [<-hb7,<-hb5,<-hb4] at HMM;rw [<-hb7,<-hb5,<-hb4];clear hb4 hb5 hb7
 go_wp2
 go_loopg [10,12,13] cols (fun gg dv pv cv wx=>∃ (d:Int) (a c0 pc:Nat) (PA:Option Addr) (p:Nat->Nat) (r:Nat->RowAt) (W:Nat->Nat->Nat),dv=.int .i64 d/\pv=.slice PA a pc/\cv=.int .i64 (c0:Nat)/\c0<=cols/\cols<=c0+gg/\Hid (EchN (P ^ M) n kc c0 a p W)/\Hid (RowOps (P ^ M) (addF P M) (mulF P M m) n kc V W)/\Hid (EMem w wx base g tb o n c kc b4 b5 b7 a (.slice PA a pc) r W p))
 case atStart=>exact ⟨1,0,0,0,none,fun _=>0,r0,V,rfl,rfl,rfl,by omega,by omega,HST,hid .refl,HMM⟩
 case round =>
  clear HMM
  obtain ⟨d,a,c0,pc,PA,p,r,W,rfl,rfl,rfl,hc,hcg,HE,HR,HM⟩:=hrel
  have han:=HE.out.le
  have y5:=qc0 HM.out.b5
  by_cases hcl:c0<cols
  ·have hcl' : (c0 : Int) < (cols : Int) := by omega
   by_cases hal:a<n
   ·have hal':(a:Int)<(n:Int):=by omega
    obtain ⟨gO,hgO⟩:∃ g,g=gk:=⟨_,rfl⟩
    rw [<-hgO] at hcg
    go_upto_region 8 with fail
    have kb1:Below wr.heap.size wr (wr.alloc (Obj.cells #[Value.int .i64 (a:Nat)] 3)):=(Below.refl _ _).alloc (Nat.le_refl _) _
    obtain ⟨w4,hw4⟩:∃ W,W=wr.alloc (Obj.cells #[Value.int .i64 (a:Nat)] 3):=⟨_,rfl⟩
    have ra:w4.rowIs wr.heap.size 3 1 (fun _=>.int .i64 (a:Nat)):=by rw [hw4]; exact boxRow
    have hfa:=HM.out.far (Nat.le_refl wr.heap.size)
    rw [<-hw4] at kb1 ⊢
    have HM1:=hid (HM.out.on kb1)
    obtain ⟨ab,hab⟩:∃ b,b=wr.heap.size:=⟨_,rfl⟩
    rw [<-hab] at ra hfa ⊢
    have HFA:=hid hfa
    clear HM hw4 hab kb1 hfa y5
    have ca:=qc0 ra
    go_wp2
    have kb2:Below w4.heap.size w4 (w4.alloc (Obj.cells #[Value.int .i64 (a:Nat)] 3)):=(Below.refl _ _).alloc (Nat.le_refl _) _
    obtain ⟨w5,hw5⟩:∃ W,W=w4.alloc (Obj.cells #[Value.int .i64 (a:Nat)] 3):=⟨_,rfl⟩
    have rk:w5.rowIs w4.heap.size 3 1 (fun _=>.int .i64 (a:Nat)):=by rw [hw5]; exact boxRow
    have hfk:=HM1.out.far (Nat.le_refl w4.heap.size)
    have hak:ab≠w4.heap.size:=by have:=ra.lt; omega
    rw [<-hw5] at kb2 ⊢
    have HM2:=hid (HM1.out.on kb2)
    replace ra:=zab ra kb2
    obtain ⟨kb,hkb⟩:∃ b,b=w4.heap.size:=⟨_,rfl⟩
    rw [<-hkb] at rk hfk hak ⊢
    have HFK:=hid hfk
    have HAK:=hid hak
    clear HM1 hw5 hkb kb2 hfk hak ca
    go_loopg [] n (fun g2 wx=>∃ t:Nat,a<=t/\t<=n/\n<=t+g2/\Hid (∀ i,a<=i->i<t->W i c0=0)/\wx.rowIs kb 3 1 (fun _=>.int .i64 (t:Nat))/\wx.rowIs ab 3 1 (fun _=>.int .i64 (a:Nat))/\Hid (EMem w wx base g tb o n c kc b4 b5 b7 a (.slice PA a pc) r W p))
    case atStart=>exact ⟨a,by omega,by omega,by omega,fun i h1 h2=>absurd h2 (by omega),rk,ra,HM2⟩
    case round =>
     clear HM2 rk ra
     obtain ⟨t,hat,htn,htg,HZ,rk,ra,HM⟩:=hrel
     have ck:=qc0 rk
     have ca:=qc0 ra
     have y5:=qc0 HM.out.b5
     have ht0:(0:Int)<=(t:Int):=by omega
     have hc00:(0:Int)<=(c0:Int):=by omega
     by_cases htl:t<n
     ·have htl':(t:Int)<(n:Int):=by omega
      have hck:c0<kc:=by omega
      have hck':(c0:Int)<(kc:Int):=by omega
      have x0:=HM.out.tab.cell htl
      have y0:=HM.out.tab.entry htl hck
      obtain ⟨x,hx⟩:∃ x,x=W t c0:=⟨_,rfl⟩
      rw [<-hx] at y0
      by_cases hx0:x=0
      ·have hxz:((x:Int) == 0)=true:=by simpa using hx0
       have HZ2:Hid (∀ i,a<=i->i<t+1->W i c0=0):=fun i h1 h2=>by
        by_cases e:i=t
        ·subst e; rw [<-hx,hx0]
        ·exact HZ.out i h1 (by omega)
       have hwt:IntKind.i64.wrap ((t:Int)+1)=(t:Int)+1:=IntWalk.i64_in _ (by omega)
       have z0:=rk.frozen 0
       have HM8:=hid (HM.out.boxed (j:=0) HFK.out (.int .i64 ((t:Int)+1)))
       have RK8:=hid ((rk.set 0 (.int .i64 ((t:Int)+1))).congr (g:=fun _=>.int .i64 ((t+1:Nat):Int)) fun i hi=>by
        obtain rfl:i=0:=by omega
        rfl)
       have RA8:=hid (ra.setOther (a:=⟨kb,0,none⟩) (by simpa using HAK.out) (.int .i64 ((t:Int)+1)))
       clear hx hx0 HM rk ra
       go_wp2
       go_roundg (gk - 1)
       case measure=>omega
       case rel=>exact ⟨t+1,by omega,by omega,by omega,HZ2,RK8.out,RA8.out,HM8⟩
      ·have hxz:((x:Int) == 0)=false:=by simpa using hx0
       have hxq:x<P ^ M:=by rw [hx]; exact HE.out.lt t htl c0 hck
       have HX:=hid hx
       have HX0:=hid hx0
       have HRK:=hid rk
       have HRA:=hid ra
       clear hx hx0 rk ra
       have htn':((t:Int) == (n:Int))=false:=by simp; omega
       obtain ⟨W1,hW1⟩:∃ X,X=fun u=>if u=a then W t else if u=t then W a else W u:=⟨_,rfl⟩
       have HE1:=hid (HE.out.swap hat htl)
       have HR1:=hid (HR.out.swap hal htl)
       rw [<-hW1] at HE1 HR1
       have HXA:Hid (x=W1 a c0):=by show _=_; rw [hW1,HX.out]; simp
       have HWE:Hid (∀ u,u<n->∀ j,j<kc->(if u=t then W a else if u=a then W t else W u) j=W1 u j):=fun u _ j _=>by
        rw [hW1]
        by_cases e1:u=a
        ·subst e1
         by_cases e2:u=t
         ·subst e2; simp
         ·simp [e2]
        ·by_cases e2:u=t
         ·subst e2; simp [e1]
         ·simp [e1,e2]
       clear hW1
       go_upto_if 58 with fail
       go_cut [10] (fun v10 wx=>∃ (d1:Int) (r1:Nat->RowAt),v10=.int .i64 d1/\Hid (wx.rowIs ab 3 1 (fun _=>.int .i64 (a:Nat)))/\Hid (∀ i,i<n->ab≠(r1 i).b)/\Hid (EMem w wx base g tb o n c kc b4 b5 b7 a (.slice PA a pc) r1 W1 p))
       case first =>
        by_cases hta:t=a
        ·have hta':((t:Int) != (a:Int))=false:=by simp [hta]
         have HM8:=hid (HM.out.congr (W':=W1) fun u hu j hj=>by
          have:=HWE.out u hu j hj
          rw [<-this]
          by_cases e:u=t
          ·rw [if_pos e,<-hta,e]
          ·rw [if_neg e,if_neg (by omega)])
         clear hta
         go_wp2
         go_meet
         exact ⟨d,r,rfl,HRA,HFA.out.2.1,HM8⟩
        ·have hta':((t:Int) != (a:Int))=true:=by simp; omega
         clear hta
         have y7:=qc0 HM.out.b7
         have hT:=HM.out.tab
         go_wp2_with fail
         refine (zgg hT hal htl ck ca HFK.out.1 HFA.out.1 y5 y7 (zaD HM.out.b7 hT.tab (by decide))).mono ?_
         rintro e w6 ⟨rfl,hg,hT1⟩
         have hap:=HM.out.ap
         have HM6:=hid ((HM.out.tabbed hg hT1 (fun i hi=>by
          by_cases e1:i=t
          ·simp only [if_pos e1]; exact hap a hal
          ·by_cases e2:i=a
           ·simp only [if_neg e1,if_pos e2]; exact hap t htl
           ·simp only [if_neg e1,if_neg e2]; exact hap i hi)).congr HWE.out)
         have HRA6:=hid (zaw HRA.out hg HFA.out.1)
         have HAB6:Hid (∀ i,i<n->ab≠(if i=t then r a else if i=a then r t else r i).b):=fun i hi=>by
          by_cases e1:i=t
          ·rw [if_pos e1]; exact HFA.out.2.1 a hal
          ·rw [if_neg e1]
           by_cases e2:i=a
           ·rw [if_pos e2]; exact HFA.out.2.1 t htl
           ·rw [if_neg e2]; exact HFA.out.2.1 i hi
         clear hg hT1 hap hT y5 y7 ck ca x0 y0 HM
         have y4:=qc0 HM6.out.b4
         go_wp2_with fail
         refine (zdo d (HGF.out.at HM6.out.below HM6.out.bw)).mono ?_
         rintro e w7 ⟨rfl,kb7⟩
         have HM7:=hid (HM6.out.on kb7)
         have HRA7:=hid (zab HRA6.out kb7)
         obtain ⟨d1,hd1⟩:∃ x:Int,x=((negF P M (inV (P ^ M) d):Nat):Int):=⟨_,rfl⟩
         rw [<-hd1];clear hd1 kb7 y4 HM6 HRA6
         go_wp2
         go_meet
         exact ⟨d1,_,rfl,HRA7,HAB6,HM7⟩
       case rest =>
        clear HM HRA HRK ck ca y5 x0 y0 HE HR HWE HZ HFK HAK htg
        obtain ⟨d1,r1,rfl,HRA,HAB,HM⟩:=hcut
        have HRA0:=HRA
        obtain ⟨w6,hw6⟩:∃ W,W=wc:=⟨_,rfl⟩
        rw [<-hw6] at HRA HM ⊢;clear hw6 HRA0
        have HIX:=hid (zak hxq)
        have y4:=qc0 HM.out.b4
        have y5:=qc0 HM.out.b5
        have ca:=qc0 HRA.out
        have x5:=HM.out.tab.cell hal
        have e5:=HM.out.tab.entry hal hck
        rw [<-HXA.out] at e5
        go_wp2
        refine wp_region_held_drew (S:=fun w'=>w'.cell? ⟨b4,0,none⟩=some (.pointer (some ⟨g,0,none⟩))/\w'.cell? ⟨b5,0,none⟩=some (.slice (some ⟨tb,o,none⟩) n c)/\w'.cell? ⟨ab,0,none⟩=some (.int .i64 (a:Nat))/\w'.cell? ⟨tb,o+a,none⟩=some (.slice (some ⟨(r1 a).b,(r1 a).o,none⟩) kc (r1 a).c)/\w'.cell? ⟨(r1 a).b,(r1 a).o+c0,none⟩=some (.int .i64 (x:Nat))) (by kernel_rfl) ⟨cellS (Below.refl _ _).drew y4,cellS (Below.refl _ _).drew y5,cellS (Below.refl _ _).drew ca,cellS (Below.refl _ _).drew x5,cellS (Below.refl _ _).drew e5⟩ (fun hHeld=>?_)
        obtain ⟨w7,hw⟩:∃ W,W=World.drew w6:=⟨_,rfl⟩
        have kb7:Below w6.heap.size w6 w7:=by rw [hw]; exact (Below.refl _ _).drew
        rw [<-hw] at hHeld ⊢;clear hw
        have HM7:=hid (HM.out.on kb7)
        have HRA7:=hid (zab HRA.out kb7)
        clear kb7 y4 y5 ca x5 e5 HM HRA
        refine tkq 0 (h:=tkq 1 (h:=tkq 2 (h:=tkq 3 (h:=tkq 4 (h:=tkq 5 (h:=tkq 6 (h:=tkq 7 (h:=tkq 8 (h:=rdq 9 (h:=fun K hK=>?_))))))))))
        go_simp
        go_wp2_with fail
        refine (zaM d1 (x:Int) (HGF.out.at HM7.out.below HM7.out.bw)).mono ?_
        rintro e w8 ⟨rfl,kb8⟩
        have HM8:=hid (HM7.out.on kb8)
        have HRA8:=hid (zab HRA7.out kb8)
        obtain ⟨d2,hd2⟩:∃ z:Int,z=((mulF P M m (inV (P ^ M) d1) (inV (P ^ M) (x:Int)):Nat):Int):=⟨_,rfl⟩
        rw [<-hd2];clear hd2 kb8 HM7 HRA7
        have y4:=qc0 HM8.out.b4
        have y5:=qc0 HM8.out.b5
        have ca:=qc0 HRA8.out
        have x5:=HM8.out.tab.cell hal
        have e5:=HM8.out.tab.entry hal hck
        rw [<-HXA.out] at e5
        refine bkq hK ⟨y4,y5,ca,x5,e5⟩ (h:=fun hHeld=>?_)
        clear hK K
        refine tkq 10 (h:=?_)
        refine wpAnyH_done (by kernel_rfl) ?_ _
        clear hHeld
        go_upto_region 16 with fail
        go_cut [16,17] (fun v16 v17 wx=>∃ vb y:Nat,v16=.pointer (some ⟨vb,0,none⟩)/\v17=.int .i64 0/\y<P ^ M/\Hid (y≠0)/\Hid (mulF P M m x y=1)/\Hid (wx.rowIs vb 3 1 (fun _=>.int .i64 (y:Nat)))/\Hid (wx.rowIs ab 3 1 (fun _=>.int .i64 (a:Nat)))/\vb≠tb/\Hid (EMem w wx base g tb o n c kc b4 b5 b7 a (.slice PA a pc) r1 W1 p))
        case first =>
         have hM:=HM8.out
         have hra:=HRA8.out
         refine wp_region_held_drew (S:=fun w'=>w'.cell? ⟨b4,0,none⟩=some (.pointer (some ⟨g,0,none⟩))/\w'.cell? ⟨b5,0,none⟩=some (.slice (some ⟨tb,o,none⟩) n c)/\w'.cell? ⟨ab,0,none⟩=some (.int .i64 (a:Nat))/\w'.cell? ⟨tb,o+a,none⟩=some (.slice (some ⟨(r1 a).b,(r1 a).o,none⟩) kc (r1 a).c)/\w'.cell? ⟨(r1 a).b,(r1 a).o+c0,none⟩=some (.int .i64 (x:Nat))) (by kernel_rfl) ⟨cellS (Below.refl _ _).drew (y4),cellS (Below.refl _ _).drew (y5),cellS (Below.refl _ _).drew (ca),cellS (Below.refl _ _).drew (x5),cellS (Below.refl _ _).drew (e5)⟩ (fun hHeld=>?_)
         obtain ⟨w9,hw⟩:∃ W,W=World.drew w8:=⟨_,rfl⟩
         have kb:Below w8.heap.size w8 w9:=by rw [hw]; exact (Below.refl _ _).drew
         rw [<-hw] at hHeld ⊢;clear hw;replace hra:=zab hra kb;replace hM:=hM.on kb;replace y4:=cellS kb y4;replace y5:=cellS kb y5;replace ca:=cellS kb ca;replace x5:=cellS kb x5;replace e5:=cellS kb e5;clear kb
         refine tkq 0 (h:=tkq 1 (h:=tkq 2 (h:=tkq 3 (h:=tkq 4 (h:=tkq 5 (h:=tkq 6 (h:=tkq 7 (h:=?_))))))))
         refine rdq2 8 12 (h:=fun K hK=>?_) (h2:=fun K hK=>?_)
         ·go_simp
          go_wp2_with fail
          refine (zcq (x:Int) (HGF.out.at hM.below hM.bw)).mono ?_
          rintro e w10 ⟨kb,hcase⟩
          rw [HIX.out] at hcase
          rcases hcase with ⟨h0,_⟩ | ⟨_,y,rfl,hyq,hy0,hxy⟩
          ·exact absurd h0 HX0.out
          have HY0:=hid hy0
          have HXY:=hid hxy
          clear hy0 hxy;replace hra:=zab hra kb;replace hM:=hM.on kb;replace y4:=cellS kb y4;replace y5:=cellS kb y5;replace ca:=cellS kb ca;replace x5:=cellS kb x5;replace e5:=cellS kb e5;clear kb
          refine bkq hK ⟨y4,y5,ca,x5,e5⟩ (h:=fun hHeld=>?_)
          clear hK K
          refine tkq 9 (h:=tkq 10 (h:=tkq 11 (h:=?_)))
          refine rdq 12 (h:=fun K hK=>?_)
          go_simp
          obtain ⟨w11,hw⟩:∃ W,W=World.alloc w10 (Obj.cells #[.int .i64 0] 3):=⟨_,rfl⟩
          have kb:Below w10.heap.size w10 w11:=by rw [hw]; exact (Below.refl _ _).alloc (Nat.le_refl _) _
          have rv:w11.rowIs w10.heap.size 3 1 (fun _=>.int .i64 0):=by rw [hw]; exact boxRow
          have hfv:=hM.far (Nat.le_refl w10.heap.size)
          have hav:ab≠w10.heap.size:=by have:=hra.lt; omega
          rw [<-hw];clear hw
          obtain ⟨vb,hb⟩:∃ b,b=w10.heap.size:=⟨_,rfl⟩
          rw [<-hb] at rv hfv hav ⊢;clear hb
          have HFV:=hid hfv
          clear hfv;replace hra:=zab hra kb;replace hM:=hM.on kb;replace y4:=cellS kb y4;replace y5:=cellS kb y5;replace ca:=cellS kb ca;replace x5:=cellS kb x5;replace e5:=cellS kb e5;clear kb
          refine bkq hK ⟨y4,y5,ca,x5,e5⟩ (h:=fun hHeld=>?_)
          clear hK K
          refine rdq 13 (h:=fun K hK=>?_)
          have z0:=rv.frozen 0
          have v0:=qc0 rv
          replace hM:=hM.boxed (j:=0) HFV.out (.int .i64 (y:Nat))
          replace hra:=hra.setOther (a:=⟨vb,0,none⟩) (by simpa using hav) (.int .i64 (y:Nat))
          replace y4:=zaa (p:=⟨vb,0,none⟩) (u:=(.int .i64 (y:Nat))) y4 (fun e=>HFV.out.2.2.2.1 e.symm)
          replace y5:=zaa (p:=⟨vb,0,none⟩) (u:=(.int .i64 (y:Nat))) y5 (fun e=>HFV.out.2.2.2.2.1 e.symm)
          replace x5:=zaa (p:=⟨vb,0,none⟩) (u:=(.int .i64 (y:Nat))) x5 (fun e=>HFV.out.1 e.symm)
          replace e5:=zaa (p:=⟨vb,0,none⟩) (u:=(.int .i64 (y:Nat))) e5 (fun e=>(HFV.out.2.1 a hal) e.symm)
          replace ca:=zaa (p:=⟨vb,0,none⟩) (u:=(.int .i64 (y:Nat))) ca hav
          replace rv:=(rv.set 0 (.int .i64 (y:Nat))).congr (g:=fun _=>(.int .i64 (y:Nat))) fun i hi=>by
           obtain rfl:i=0:=by omega
           rfl
          go_simp
          clear z0 v0
          obtain ⟨w12,hw⟩:∃ W,W=World.setCell w11 ⟨vb,0,none⟩ (.int .i64 (y:Nat)):=⟨_,rfl⟩
          rw [<-hw] at hM hra rv y4 y5 ca x5 e5 ⊢;clear hw
          refine bkq hK ⟨y4,y5,ca,x5,e5⟩ (h:=fun hHeld=>?_)
          clear hK K
          refine tkq 14 (h:=?_)
          refine wpAnyH_done (by kernel_rfl) ?_ _
          clear hHeld
          go_wp2
          go_meet
          exact ⟨vb,y,rfl,rfl,hyq,HY0,HXY,hid rv,hid hra,HFV.out.1,hid hM⟩
         ·go_simp
          obtain ⟨w10,hw⟩:∃ W,W=World.alloc w9 (Obj.cells #[.int .i64 0] 3):=⟨_,rfl⟩
          have kb:Below w9.heap.size w9 w10:=by rw [hw]; exact (Below.refl _ _).alloc (Nat.le_refl _) _
          have rv:w10.rowIs w9.heap.size 3 1 (fun _=>.int .i64 0):=by rw [hw]; exact boxRow
          have hfv:=hM.far (Nat.le_refl w9.heap.size)
          have hav:ab≠w9.heap.size:=by have:=hra.lt; omega
          rw [<-hw];clear hw
          obtain ⟨vb,hb⟩:∃ b,b=w9.heap.size:=⟨_,rfl⟩
          rw [<-hb] at rv hfv hav ⊢;clear hb
          have HFV:=hid hfv
          clear hfv;replace hra:=zab hra kb;replace hM:=hM.on kb;replace y4:=cellS kb y4;replace y5:=cellS kb y5;replace ca:=cellS kb ca;replace x5:=cellS kb x5;replace e5:=cellS kb e5;clear kb
          refine bkq hK ⟨y4,y5,ca,x5,e5⟩ (h:=fun hHeld=>?_)
          clear hK K
          refine rdq 8 (h:=fun K hK=>?_)
          go_simp
          go_wp2_with fail
          refine (zcq (x:Int) (HGF.out.at hM.below hM.bw)).mono ?_
          rintro e w11 ⟨kb,hcase⟩
          rw [HIX.out] at hcase
          rcases hcase with ⟨h0,_⟩ | ⟨_,y,rfl,hyq,hy0,hxy⟩
          ·exact absurd h0 HX0.out
          have HY0:=hid hy0
          have HXY:=hid hxy
          clear hy0 hxy;replace hra:=zab hra kb;replace rv:=zab rv kb;replace hM:=hM.on kb;replace y4:=cellS kb y4;replace y5:=cellS kb y5;replace ca:=cellS kb ca;replace x5:=cellS kb x5;replace e5:=cellS kb e5;clear kb
          refine bkq hK ⟨y4,y5,ca,x5,e5⟩ (h:=fun hHeld=>?_)
          clear hK K
          refine tkq 9 (h:=tkq 10 (h:=tkq 11 (h:=?_)))
          refine rdq 13 (h:=fun K hK=>?_)
          have z0:=rv.frozen 0
          have v0:=qc0 rv
          replace hM:=hM.boxed (j:=0) HFV.out (.int .i64 (y:Nat))
          replace hra:=hra.setOther (a:=⟨vb,0,none⟩) (by simpa using hav) (.int .i64 (y:Nat))
          replace y4:=zaa (p:=⟨vb,0,none⟩) (u:=(.int .i64 (y:Nat))) y4 (fun e=>HFV.out.2.2.2.1 e.symm)
          replace y5:=zaa (p:=⟨vb,0,none⟩) (u:=(.int .i64 (y:Nat))) y5 (fun e=>HFV.out.2.2.2.2.1 e.symm)
          replace x5:=zaa (p:=⟨vb,0,none⟩) (u:=(.int .i64 (y:Nat))) x5 (fun e=>HFV.out.1 e.symm)
          replace e5:=zaa (p:=⟨vb,0,none⟩) (u:=(.int .i64 (y:Nat))) e5 (fun e=>(HFV.out.2.1 a hal) e.symm)
          replace ca:=zaa (p:=⟨vb,0,none⟩) (u:=(.int .i64 (y:Nat))) ca hav
          replace rv:=(rv.set 0 (.int .i64 (y:Nat))).congr (g:=fun _=>(.int .i64 (y:Nat))) fun i hi=>by
           obtain rfl:i=0:=by omega
           rfl
          go_simp
          clear z0 v0
          obtain ⟨w12,hw⟩:∃ W,W=World.setCell w11 ⟨vb,0,none⟩ (.int .i64 (y:Nat)):=⟨_,rfl⟩
          rw [<-hw] at hM hra rv y4 y5 ca x5 e5 ⊢;clear hw
          refine bkq hK ⟨y4,y5,ca,x5,e5⟩ (h:=fun hHeld=>?_)
          clear hK K
          refine tkq 14 (h:=?_)
          refine wpAnyH_done (by kernel_rfl) ?_ _
          clear hHeld
          go_wp2
          go_meet
          exact ⟨vb,y,rfl,rfl,hyq,HY0,HXY,hid rv,hid hra,HFV.out.1,hid hM⟩
        case rest =>
         clear y4 y5 ca x5 e5 HM8 HRA8
         obtain ⟨vb,y,rfl,rfl,hyq,HY0,HXY,HRV,HRA,hvt,HM⟩:=hcut
         have cv:=qc0 HRV.out
         go_upto_if 92 with fail
         go_cut [] (fun wx=>∃ (r2:Nat->RowAt) (W2:Nat->Nat->Nat),Hid (wx.rowIs ab 3 1 (fun _=>.int .i64 (a:Nat)))/\Hid (∀ i,i<n->ab≠(r2 i).b)/\Hid (EchP (P ^ M) n kc c0 a 0 p W2)/\Hid (RowOps (P ^ M) (addF P M) (mulF P M m) n kc V W2)/\Hid (EMem w wx base g tb o n c kc b4 b5 b7 a (.slice PA a pc) r2 W2 p))
         case first =>
          by_cases h1:y=1
          ·have hy1:((y:Int) != 1)=false:=by simp; omega
           have hW:Hid (W1 a c0=1):=by
            have:=HXY.out
            rw [h1,hL.mulOne hxq] at this
            show _=_
            rw [<-HXA.out,this]
           clear h1
           go_wp2
           go_meet
           exact ⟨r1,W1,HRA,HAB,hid (HE1.out.one_piv hal hW.out),HR1,HM⟩
          ·have hy1:((y:Int) != 1)=true:=by simp; omega
           clear h1
           have y4:=qc0 HM.out.b4
           have y5:=qc0 HM.out.b5
           have y7:=qc0 HM.out.b7
           have ca:=qc0 HRA.out
           have hyx:Hid (mulF P M m y (W1 a c0)=1):=by
            show _=_
            rw [<-HXA.out,hL.mulComm y x hyq hxq]
            exact HXY.out
           go_wp2_with fail
           refine (zgh (HGF.out.below' HM.out.below) HM.out.bw HM.out.tab hal (fun j hj=>HE1.out.lt a hal j hj) hyq hK2 y4 cv ca (zaD HM.out.b4 HM.out.tab.tab (by decide)) hvt HFA.out.1 y5 y7 (zaD HM.out.b7 HM.out.tab.tab (by decide))).mono ?_
           rintro e w10 ⟨q,hq,rfl,hg,hT2⟩
           have hap:=HM.out.ap
           have hpl:=HM.out.pv.lt
           have HM3:=hid (HM.out.tabbed hg hT2 (fun i hi=>by
            by_cases e1:i=a
            ·simp only [if_pos e1]; exact fun e=>by have:=(hpl _ e).2; omega
            ·simp only [if_neg e1]; exact hap i hi))
           have hal2:=HRA.out.lt
           have HRA3:=hid (zaw HRA.out hg HFA.out.1)
           have HAB3:Hid (∀ i,i<n->ab≠(if i=a then (⟨q,0,kc⟩:RowAt) else r1 i).b):=fun i hi=>by
            by_cases e1:i=a
            ·rw [if_pos e1]; show ab≠q; omega
            ·rw [if_neg e1]; exact HAB.out i hi
           clear hg hT2 hap hpl y4 y5 y7 ca cv hq hal2 HM HRA HRV
           go_wp2
           go_meet
           exact ⟨_,_,HRA3,HAB3,hid (HE1.out.scale hL hal hyq hyx.out),hid (HR1.out.scale hal hyq HY0.out),HM3⟩
         case rest =>
          clear HM HRA HRV cv HAB HE1 HR1 HXA hvt HXY HY0
          obtain ⟨r2,W2,HRA,HAB,HE2,HR2,HM⟩:=hcut
          have y5:=qc0 HM.out.b5
          go_wp2
          clear y5
          go_loopg [98] n (fun g3 iv wx=>∃ (i:Nat) (W3:Nat->Nat->Nat),iv=.int .i64 (i:Nat)/\i<=n/\n<=i+g3/\Hid (EchP (P ^ M) n kc c0 a i p W3)/\Hid (RowOps (P ^ M) (addF P M) (mulF P M m) n kc V W3)/\Hid (wx.rowIs ab 3 1 (fun _=>.int .i64 (a:Nat)))/\Hid (EMem w wx base g tb o n c kc b4 b5 b7 a (.slice PA a pc) r2 W3 p))
          case atStart=>exact ⟨0,W2,rfl,by omega,by omega,HE2,HR2,HRA,HM⟩
          case round =>
           clear HM HRA HE2 HR2
           obtain ⟨i,W3,rfl,hi,hig,HE3,HR3,HRA,HM⟩:=hrel
           have hi0:(0:Int)<=(i:Int):=by omega
           by_cases hil:i<n
           ·have hil':(i:Int)<(n:Int):=by omega
            go_upto_region 22 with fail
            have kb1:Below wr.heap.size wr (wr.alloc (Obj.cells #[Value.int .i64 (i:Nat)] 3)):=(Below.refl _ _).alloc (Nat.le_refl _) _
            obtain ⟨w11,hw11⟩:∃ W,W=wr.alloc (Obj.cells #[Value.int .i64 (i:Nat)] 3):=⟨_,rfl⟩
            have ri:w11.rowIs wr.heap.size 3 1 (fun _=>.int .i64 (i:Nat)):=by rw [hw11]; exact boxRow
            have hfi:=HM.out.far (Nat.le_refl wr.heap.size)
            rw [<-hw11] at kb1 ⊢
            have HM1:=hid (HM.out.on kb1)
            have HRA1:=hid (zab HRA.out kb1)
            obtain ⟨ib,hib⟩:∃ b,b=wr.heap.size:=⟨_,rfl⟩
            rw [<-hib] at ri hfi ⊢
            have HFI:=hid hfi
            clear HM HRA hw11 hib kb1 hfi
            have ci:=qc0 ri
            have y5:=qc0 HM1.out.b5
            have x6:=HM1.out.tab.cell hil
            have e6:=HM1.out.tab.entry hil hck
            obtain ⟨y2,hy2⟩:∃ y,y=W3 i c0:=⟨_,rfl⟩
            rw [<-hy2] at e6
            have hyq2:y2<P ^ M:=by rw [hy2]; exact HE3.out.ech.lt i hil c0 hck
            have HY2:=hid hy2
            clear hy2
            go_upto_region 23 with fail
            clear y5 x6 e6 ci
            have kb2:Below w11.heap.size w11 (w11.alloc (Obj.cells #[Value.int .i64 (y2:Nat)] 3)):=(Below.refl _ _).alloc (Nat.le_refl _) _
            obtain ⟨w12,hw12⟩:∃ W,W=w11.alloc (Obj.cells #[Value.int .i64 (y2:Nat)] 3):=⟨_,rfl⟩
            have rx:w12.rowIs w11.heap.size 3 1 (fun _=>.int .i64 (y2:Nat)):=by rw [hw12]; exact boxRow
            have hfx:=HM1.out.far (Nat.le_refl w11.heap.size)
            rw [<-hw12] at kb2 ⊢
            have HM2:=hid (HM1.out.on kb2)
            have HRA2:=hid (zab HRA1.out kb2)
            replace ri:=zab ri kb2
            obtain ⟨xb,hxb⟩:∃ b,b=w11.heap.size:=⟨_,rfl⟩
            rw [<-hxb] at rx hfx ⊢
            have HFX:=hid hfx
            clear HM1 HRA1 hw12 hxb kb2 hfx
            have ci:=qc0 ri
            have cx:=qc0 rx
            have ca:=qc0 HRA2.out
            clear ri rx
            by_cases hia:i=a
            ·have hia':((i:Int) != (a:Int))=false:=by simp [hia]
             have HE4:=hid (HE3.out.skip (.inl hia))
             clear hia
             go_wp2
             go_roundg (gk - 1)
             case measure=>omega
             case rel=>exact ⟨i+1,W3,by go_num,by omega,by omega,HE4,HR3,HRA2,HM2⟩
            ·have hia':((i:Int) != (a:Int))=true:=by simp; omega
             by_cases hy0:y2=0
             ·have hyz:((y2:Int) != 0)=false:=by simp [hy0]
              have HE4:=hid (HE3.out.skip (.inr (by rw [<-HY2.out,hy0])))
              clear hia hy0
              go_wp2
              go_roundg (gk - 1)
              case measure=>omega
              case rel=>exact ⟨i+1,W3,by go_num,by omega,by omega,HE4,HR3,HRA2,HM2⟩
             ·have hyz:((y2:Int) != 0)=true:=by simp; omega
              have HIA:=hid hia
              clear hia hy0
              have y4:=qc0 HM2.out.b4
              have y5:=qc0 HM2.out.b5
              have y7:=qc0 HM2.out.b7
              have HRI:=hid (HM2.out.tab.row i hil)
              go_wp2_with fail
              refine (zgi (HGF.out.below' HM2.out.below) HM2.out.bw HM2.out.tab hal hil HIA.out (fun u hu j hj=>HE3.out.ech.lt u hu j hj) hyq2 hK2 y4 ci cx ca (zaD HM2.out.b4 HRI.out (by decide)) (HFI.out.2.1 i hil) (HFX.out.2.1 i hil) (HAB.out i hil) y5 y7 (zaD HM2.out.b7 HRI.out (by decide))).mono ?_
              rintro e w13 ⟨rfl,hg,hT3⟩
              have HM3:=hid (HM2.out.rowed hil hg hT3)
              have HRA3:=hid (zaw HRA2.out hg (HAB.out i hil))
              have HE4:=hid (HE3.out.clear hL hck hil HIA.out (e:=negF P M y2) (zbp hP0) (by rw [<-HY2.out]; exact za4 hP0))
              have HR4:=hid (HR3.out.add hil hal HIA.out (e:=negF P M y2) (zbp hP0))
              clear hg hT3 y4 y5 y7 ca ci cx HM2 HRA2 HRI
              go_wp2
              go_roundg (gk - 1)
              case measure=>omega
              case rel=>exact ⟨i+1,_,by go_num,by omega,by omega,HE4,HR4,HRA3,HM3⟩
           ·have hil':¬ (i:Int)<(n:Int):=by omega
            have hin:i=n:=by omega
            have HE4:=hid (EchP.done (q:=P ^ M) (n:=n) (k:=kc) (c:=c0) (a:=a) (pv:=p) (W:=W3) (by have h:=HE3.out; rw [hin] at h; exact h))
            clear hin
            have kb:=(Below.refl wr.heap.size wr).alloc (Nat.le_refl _) (Obj.cells #[Value.int .i64 (c0:Nat)] 3)
            have HM8:=hid (HM.out.on kb)
            have HC8:Hid ((wr.alloc (Obj.cells #[Value.int .i64 (c0:Nat)] 3)).cell? ((⟨wr.heap.size,0,none⟩:Addr).add 0)=some (.int .i64 (c0:Nat))):=tbox2
            have HP8:=hid HM8.out.pv
            have HZ8:=hid HM8.out.bw
            have HAL:Hid (a<=1048576):=by show _<=_; omega
            clear kb HM
            go_wp2_with (first | (at_builtin; (refine zap rfl (.tmp 119) (.tmp 121) rfl HP8.out rfl (ad:=⟨wr.heap.size,0,none⟩) (c:=1) rfl HC8.out HZ8.out HAL.out ?_); intro v9 w9 o1 o2 o3))
            have HM9:=hid (HM8.out.pushed o1 o2 o3)
            obtain ⟨PA9,pc9,hsh⟩:=o1.shape
            subst hsh
            clear o1 o2 o3 HM8 HP8 HC8
            go_wp2
            go_roundg (gO - 1)
            case measure=>omega
            case rel=>exact ⟨d2,a+1,c0+1,pc9,PA9,_,r2,W3,rfl,rfl,by go_num,by omega,by omega,HE4,HR3,HM9⟩
     ·have htl':¬ (t:Int)<(n:Int):=by omega
      obtain rfl:t=n:=by omega
      have htn':((t:Int) == (t:Int))=true:=by simp
      have HE1:=hid (HE.out.none fun i h1 h2=>HZ.out i h1 h2)
      go_wp2
      go_roundg (gO - 1)
      case measure=>omega
      case rel=>exact ⟨d,a,c0+1,pc,PA,p,r,W,rfl,rfl,by go_num,by omega,by omega,HE1,HR,HM⟩
   ·have hal':¬ (a:Int)<(n:Int):=by omega
    have hae:a=n:=by omega
    have HAE:=hid hae
    clear hae
    go_wp2
    go_ret2
    exact ⟨_,d,a,c0,p,r,W,rfl,HM.out.tab,HM.out.pv,HM.out.below,hc,.inr HAE.out,HE.out,HR.out⟩
  ·have hcl':¬ (c0:Int)<(cols:Int):=by omega
   have hce:c0=cols:=by omega
   have HCE:=hid hce
   clear hce
   go_wp2
   go_ret2
   exact ⟨_,d,a,c0,p,r,W,rfl,HM.out.tab,HM.out.pv,HM.out.below,hc,.inl HCE.out,HE.out,HR.out⟩
theorem Tryz.infoInts':(Tryz.prog.info? 22).map (fun i=>(i.zero,i.size,i.bytes))=some (some (.slice none 0 0),1,24):=by kernel_rfl
structure RowsAt (w:World) (base n k:Nat) (r:Nat->RowAt) (W:Nat->Nat->Nat):Prop where
 row:∀ i,i<n->Own w base 3 1 (.slice (some ⟨(r i).b,(r i).o,none⟩) k (r i).c) k (fun j _=>.int .i64 (W i j:Nat))
 apart:∀ i j,i<n->j<n->i≠j->(r i).b≠(r j).b
theorem RowsAt.on {w w':World} {base n k:Nat} {r:Nat->RowAt} {W:Nat->Nat->Nat} (h:RowsAt w base n k r W) (hb:Below w.heap.size w w'):RowsAt w' base n k r W:=⟨fun i hi=>(h.row i hi).on hb,h.apart⟩
theorem RowsAt.more {w:World} {base n k:Nat} {r:Nat->RowAt} {W:Nat->Nat->Nat} {q:RowAt} (h:RowsAt w base n k r W) (hq:Own w base 3 1 (.slice (some ⟨q.b,q.o,none⟩) k q.c) k (fun j _=>.int .i64 (W n j:Nat))) (ha:∀ i,i<n->(r i).b≠q.b):RowsAt w base (n+1) k (fun u=>if u=n then q else r u) W:=by
 refine ⟨fun i hi=>?_,fun i j hi hj hne=>?_⟩
 ·by_cases e:i=n
  ·subst e; simp only [if_pos]; exact hq
  ·simp only [if_neg e]; exact h.row i (by omega)
 ·show (if i=n then q else r i).b≠(if j=n then q else r j).b
  by_cases e1:i=n
  ·rw [if_pos e1,if_neg (by omega)]; exact fun e=>ha j (by omega) e.symm
  ·rw [if_neg e1]
   by_cases e2:j=n
   ·rw [if_pos e2]; exact ha i (by omega)
   ·rw [if_neg e2]; exact h.apart i j (by omega) (by omega) hne
theorem zhk {w:World} {base e s n b o c a:Nat} {f:Nat->Nat->Value} (h:Own w base e s (.slice (some ⟨b,o,none⟩) n c) n f) (ha:a<=n):Own w base e s (.slice (some ⟨b,o,none⟩) a a) a f:=by
 rcases h with ⟨h1,_⟩ | ⟨g,o',cap,cur,h1,h3,h4,h5,h6,h7,h8⟩
 ·cases h1
 ·injection h1 with e1 e2 e3
  injection e1 with e1
  injection e1 with e1 e4
  subst e1 e4 e3
  refine .inr ⟨_,_,_,cur,rfl,h3,h4,Nat.le_refl _,by omega,?_,fun i hi=>h8 i (by omega)⟩
  have:=Nat.mul_le_mul_right s (show a<=c by omega)
  omega
def MClonePost (n k:Nat) (W:Nat->Nat->Nat) (w:World) (e:Ending) (w':World):Prop :=
 ∃ tb r,e=.returned (.slice (some ⟨tb,0,none⟩) n n)/\DTab w' w.heap.size tb 0 n n k r W/\Below w.heap.size w w'
theorem zgj (T:Option Addr) (n k c:Nat) (W:Nat->Nat->Nat) (w:World) (h:MRows w T n k W) (hk:0<k) (hk2:k<=1048576) (hn:n<=1048576) :
  Calls Tryz.prog 239 #[.slice T n c] w (MClonePost n k W w):=by
 have HR:=hid h
 clear h
 have hmk:=fun W=>zah (P:=Tryz.prog) 25 22 _ 24 Tryz.underlying25 Tryz.infoInts' rfl (n:Int) (by omega) (by omega) (by omega) W
 simp only [Int.toNat_natCast] at hmk
 go_enter Tryz.func239, Tryz.ntmps239
 go_upto_region 2 with fail
 have hB:=(Below.refl w.heap.size w).alloc (Nat.le_refl _) (Obj.cells (madeCells #[Value.slice none 0 0] n) 22)
 have rt:=World.rowIs_made w (.slice none 0 0) n 22
 obtain ⟨w1,hw1⟩:∃ W,W=w.alloc (Obj.cells (madeCells #[Value.slice none 0 0] n) 22):=⟨_,rfl⟩
 obtain ⟨tb,htb⟩:∃ b,b=w.heap.size:=⟨_,rfl⟩
 rw [<-hw1] at hB rt ⊢;rw [<-htb] at rt ⊢
 have htB:w.heap.size<=tb:=by omega
 have HTE:=hid htb
 clear hw1 htb hmk
 have HRT:=hid (rt.congr (g:=fun u=>if u<0 then Value.slice (some ⟨(⟨0,0,0⟩:RowAt).b,0,none⟩) k 0 else .slice none 0 0) fun u _=>rfl)
 clear rt
 go_wp2
 go_loopg [11] n (fun gg iv wx=>∃ (i:Nat) (r:Nat->RowAt),iv=.int .i64 (i:Nat)/\i<=n/\n<=i+gg/\Hid (wx.rowIs tb 22 n (fun u=>if u<i then Value.slice (some ⟨(r u).b,(r u).o,none⟩) k (r u).c else .slice none 0 0))/\Hid (RowsAt wx w.heap.size i k r W)/\Hid (Below w.heap.size w wx))
 case atStart=>exact ⟨0,fun _=>⟨0,0,0⟩,rfl,by omega,by omega,HRT.out.congr fun u _=>rfl,⟨fun i hi=>absurd hi (by omega),fun i j hi=>absurd hi (by omega)⟩,hB⟩
 case round =>
  clear HRT hB
  obtain ⟨i,r,rfl,hi,hig,HRT,HRO,HB⟩:=hrel
  have hi0:(0:Int)<=(i:Int):=by omega
  by_cases hlt:i<n
  ·have hlt':(i:Int)<(n:Int):=by omega
   obtain ⟨b,o,RA,rc,hT,hb,x0,hrc,_,hrow,_⟩:=(HR.out.on HB.out) i hlt
   subst hT
   have HROW:=hid hrow
   have HRC:=hid hrc
   clear hrow hrc
   go_wp2_with fail
   refine (zaA RA k rc (fun j=>((W i j:Nat):Int)) wr HROW.out HRC.out hk2).mono ?_
   rintro e w2 ⟨A,c2,rfl,hO,kb⟩
   obtain ⟨g,go,gc,hv,hg1,_⟩:=hO.form hk
   injection hv with hv e2 e3
   subst hv e3
   have hBs:=HB.out.size
   have hap:∀ u,u<i->(r u).b≠g:=fun u hu=>by have h1:(r u).b<wr.heap.size:=((HRO.out.row u hu).lt _ rfl).2; omega
   have HRO2:=hid ((HRO.out.on kb).more (q:=⟨g,go,c2⟩) (hO.mono hBs) hap)
   have HRT2:=hid (zab HRT.out kb)
   have HB2:=hid (onS HB.out kb)
   have hi0':(0:Int)<=(i:Int):=by omega
   have v0:=HRT2.out.cell hlt
   have z0:=HRT2.out.frozen i
   have HRT3:=hid ((HRT2.out.set i (.slice (some ⟨g,go,none⟩) k c2)).congr (g:=fun u=>if u<i+1 then Value.slice (some ⟨(if u=i then (⟨g,go,c2⟩:RowAt) else r u).b,(if u=i then (⟨g,go,c2⟩:RowAt) else r u).o,none⟩) k (if u=i then (⟨g,go,c2⟩:RowAt) else r u).c else .slice none 0 0) fun u hu=>by
    by_cases e:u=i
    ·subst e
     simp
    ·by_cases e2:u<i
     ·simp [e,e2,show u<i+1 by omega]
     ·simp [e,e2,show ¬ u<i+1 by omega])
   have HRO3:Hid (RowsAt (w2.setCell ⟨tb,i,none⟩ (.slice (some ⟨g,go,none⟩) k c2)) w.heap.size (i+1) k (fun u=>if u=i then ⟨g,go,c2⟩ else r u) W):=⟨fun u hu=>(HRO2.out.row u hu).setCell (fun e=>(zbZ HRT2.out (HRO2.out.row u hu) (by decide)).elim (fun h=>by rw [h] at e; cases e) fun h=>h e) _,HRO2.out.apart⟩
   have HB3:=hid (HB2.out.setCell (p:=⟨tb,i,none⟩) (by show w.heap.size<=tb; exact htB) (.slice (some ⟨g,go,none⟩) k c2))
   clear hO hap kb hg1 x0 hBs HROW HRC HB2 HRO2 HRT2 HB HRO HRT
   go_wp2
   go_roundg (gk - 1)
   case measure=>omega
   case rel=>exact ⟨i+1,_,by go_num,by omega,by omega,HRT3,HRO3,HB3⟩
  ·have hlt':¬ (i:Int)<(n:Int):=by omega
   have hin:i=n:=by omega
   have HD:Hid (DTab wr w.heap.size tb 0 n n k r W):=by
    have h1:=HRT.out
    have h2:=HRO.out
    rw [hin] at h1 h2
    exact ⟨(zbe h1 htB (by unfold maxLen; omega)).congr fun u hu _ _=>by rw [if_pos hu],h2.row,h2.apart⟩
   clear hin
   go_wp2
   go_ret
   exact ⟨tb,r,rfl,HD.out,HB.out⟩
theorem zgk (P M g:Nat) (m:Nat->Nat) (T:Option Addr) (n d kc cols:Nat) (V:Nat->Nat->Nat) (w:World) (hG:GF w w.heap.size g P M m) (h:MRows w T n kc V) (hV:∀ i,i<n->∀ j,j<kc->V i j<P ^ M) (hcK:cols<=kc) (hK:0<kc) (hK2:kc<=1048576) (hn:n<=1048576) :
  Calls Tryz.prog 205 #[.pointer (some ⟨g,0,none⟩),.slice T n d,.int .i64 (cols:Nat)] w (CanonPost (P ^ M) (addF P M) (mulF P M m) n kc cols V w):=by
 have HG:=hid hG
 have HV:=hid hV
 have HR:=hid h
 clear hG hV h
 go_enter Tryz.func205, Tryz.ntmps205
 go_wp2_with fail
 refine (zgj T n kc d V w HR.out hK hK2 hn).mono ?_
 rintro e w1 ⟨tb,r,rfl,hD,hB⟩
 go_wp2_with fail
 refine (zhj P M g w.heap.size tb 0 n n kc cols m r V w1 (HG.out.below' hB) hB.size hD HV.out hcK hK2 hn).mono ?_
 rintro e w2 ⟨pv,dd,a,c0,p,r2,W,rfl,hD2,hP,kb,hc,hca,hE,hR⟩
 have HB:=hid (hB.trans kb)
 have HE:=hid (hE.full hc hca)
 have HRO:=hid hR
 have han:=hE.le
 obtain ⟨PA,pc,hpv⟩:=hP.shape
 subst hpv
 have HP:=hid hP
 have HT:Hid (MTab w2 w.heap.size (.slice (some ⟨tb,0,none⟩) a a) a kc W):=⟨_,zhk hD2.tab han,fun i hi=>hD2.row i (by omega)⟩
 have ha0:(0:Int)<=(a:Int):=by omega
 have hal:(a:Int)<=(n:Int):=by omega
 clear hB kb hD hD2 hP hE hR hc hca
 go_wp2
 go_ret2
 exact ⟨_,_,a,p,W,rfl,HT.out,HP.out,HB.out,HE.out,HRO.out⟩
theorem zel (P M g:Nat) (m:Nat->Nat) (T:Option Addr) (n d:Nat) (f:Nat->Int) (w:World) (hG:GF w w.heap.size g P M m) (h:IntsR w w.heap.size T n f) (hn:n<=1048576) :
  Calls Tryz.prog 259 #[.pointer (some ⟨g,0,none⟩),.slice T n d] w (ErrsPost [(AllIn (P ^ M) n f,2)] w):=by
 have HG:=hid hG
 have HR:=hid h
 clear hG h
 go_enter Tryz.func259, Tryz.ntmps259
 go_wp2
 go_loopg [9] n (fun gg iv wx=>∃ i:Nat,iv=.int .i64 (i:Nat)/\i<=n/\n<=i+gg/\Hid (∀ t,t<i->0<=f t/\f t<(P ^ M:Nat))/\Hid (Below w.heap.size w wx))
 case atStart=>exact ⟨0,rfl,by omega,by omega,fun t ht=>absurd ht (by omega),Below.refl _ _⟩
 case round =>
  obtain ⟨i,rfl,hi,hig,HA,HB⟩:=hrel
  have hi0:(0:Int)<=(i:Int):=by omega
  by_cases hlt:i<n
  ·have hlt':(i:Int)<(n:Int):=by omega
   obtain ⟨b,o,rfl,_,x0⟩:=(HR.out.on HB.out).at hlt
   obtain ⟨x,hx⟩:∃ x,x=f i:=⟨_,rfl⟩
   rw [<-hx] at x0
   have HX:=hid hx
   clear hx
   have hG:=HG.out.at HB.out HB.out.size
   go_wp2_with fail
   refine (zf1 x hG).mono ?_
   rintro e w2 ⟨rfl,kb⟩
   have HB2:=hid (onS HB.out kb)
   clear kb hG x0
   by_cases hin:0<=x/\x<(P ^ M:Nat)
   ·have hd:isB (P ^ M) x=true:=by unfold isB; simpa using hin
    have HA2:Hid (∀ t,t<i+1->0<=f t/\f t<(P ^ M:Nat)):=fun t ht=>by
     by_cases e:t=i
     ·rw [e,<-HX.out]; exact hin
     ·exact HA.out t (by omega)
    rw [hd];clear hin hd
    go_wp2
    go_roundg (gk - 1)
    case measure=>omega
    case rel=>exact ⟨i+1,by go_num,by omega,by omega,HA2,HB2⟩
   ·have hd:isB (P ^ M) x=false:=by unfold isB; simpa using hin
    have hno:Hid (FirstErr [(AllIn (P ^ M) n f,2)] 2):=.inl ⟨fun h=>hin (by rw [HX.out]; exact h i hlt),rfl⟩
    rw [hd];clear hin hd
    go_wp2
    go_ret
    exact errsPost hno.out HB2.out
  ·have hlt':¬ (i:Int)<(n:Int):=by omega
   have hin:i=n:=by omega
   have hyes:Hid (FirstErr [(AllIn (P ^ M) n f,2)] 0):=.inr ⟨fun t ht=>HA.out t (by omega),rfl⟩
   clear hin
   go_wp2
   go_ret
   exact errsPost hyes.out HB.out
theorem zgl (P M g : Nat) (m : Nat → Nat) (cols : Int) (T : Option Addr) (n d : Nat) (ln : Nat → Nat) (V : Nat → Nat → Int) (w : World) (hG : GF w w.heap.size g P M m) (h : IntRows w T n ln V) :
  Calls Tryz.prog 238 #[.pointer (some ⟨g,0,none⟩),.agg #[.int .i64 cols,.slice T n d]] w (ErrsPost [(ShapeM cols n ln,3),(ElemsM (P ^ M) n ln V,2)] w):=by
 have HG:=hid hG
 have HR:=hid h
 clear hG h
 have hB:Below w.heap.size w (w.alloc (.cells #[.int .i64 cols,.slice T n d] 106)):=(Below.refl _ _).alloc (Nat.le_refl _) _
 have rm:=zaB (w:=w) (a:=.int .i64 cols) (b:=.slice T n d) (T := 106)
 obtain ⟨w0,hw0⟩:∃ W,W=w.alloc (.cells #[.int .i64 cols,.slice T n d] 106):=⟨_,rfl⟩
 rw [<-hw0] at hB rm
 go_enter Tryz.func238, Tryz.ntmps238
 go_upto_region 1 with fail
 rw [<-hw0];clear hw0
 have q0:=qc0 rm
 have q1:=qc1 rm
 have hsh:∀ {p:Prop},¬ p->∀ {c:Int} {l:List (Prop × Int)},FirstErr ((p,c) :: l) c:=fun h=>.inl ⟨h,rfl⟩
 by_cases h1:cols<0
 ·have hd:decide (cols<0)=true:=by simpa using h1
  have hno:Hid (FirstErr [(ShapeM cols n ln,3),(ElemsM (P ^ M) n ln V,2)] 3):=hsh fun h=>by have:=h.1; omega
  go_wp2
  go_ret
  exact errsPost hno.out hB
 ·have hd : decide (cols < 0) = false := by simpa using h1
  by_cases h2:256<cols
  ·have hd2:decide (256<cols)=true:=by simpa using h2
   have hno:Hid (FirstErr [(ShapeM cols n ln,3),(ElemsM (P ^ M) n ln V,2)] 3):=hsh fun h=>by have:=h.2.1; omega
   go_wp2
   go_ret
   exact errsPost hno.out hB
  ·have hd2 : decide (256 < cols) = false := by simpa using h2
   by_cases h3:256<n
   ·have hd3:decide ((256:Int)<(n:Int))=true:=by simp; omega
    have hd4:decide (256<n)=true:=by simpa using h3
    have hno:Hid (FirstErr [(ShapeM cols n ln,3),(ElemsM (P ^ M) n ln V,2)] 3):=hsh fun h=>by have:=h.2.2.1; omega
    go_wp2
    go_ret
    exact errsPost hno.out hB
   ·have hd3:decide ((256:Int)<(n:Int))=false:=by simp; omega
    have hd4:decide (256<n)=false:=by simpa using h3
    obtain ⟨C,rfl⟩:∃ C:Nat,cols=C:=⟨cols.toNat,by omega⟩
    have hC:C<=256:=by omega
    have hn:n<=256:=by omega
    clear h1 h2 h3 hsh
    go_wp2
    clear q0 q1 hd hd2 hd3 hd4
    go_loopg [27] n (fun gg iv wx=>∃ i:Nat,iv=.int .i64 (i:Nat)/\i<=n/\n<=i+gg/\Hid (∀ t,t<i->(ln t:Int)=(C:Int))/\wx=w0)
    case atStart=>exact ⟨0,rfl,by omega,by omega,fun t ht=>absurd ht (by omega),rfl⟩
    case round =>
     obtain ⟨i,rfl,hi,hig,HA,hwx⟩:=hrel
     subst hwx
     have hi0:(0:Int)<=(i:Int):=by omega
     have q0:=qc0 rm
     have q1:=qc1 rm
     by_cases hlt:i<n
     ·have hlt':(i:Int)<(n:Int):=by omega
      obtain ⟨b,o,RA,rc,rfl,hb,x0,_,_,_,_⟩:=(HR.out.on hB) i hlt
      by_cases hl:ln i=C
      ·have hl':((ln i:Int) != (C:Int))=false:=by simp [hl]
       have HA2:Hid (∀ t,t<i+1->(ln t:Int)=(C:Int)):=fun t ht=>by
        by_cases e:t=i
        ·rw [e,hl]
        ·exact HA.out t (by omega)
       clear hl
       go_wp2
       go_roundg (gk - 1)
       case measure=>omega
       case rel=>exact ⟨i+1,by go_num,by omega,by omega,HA2,rfl⟩
      ·have hl':((ln i:Int) != (C:Int))=true:=by simp; omega
       have hno:Hid (FirstErr [(ShapeM (C:Int) n ln,3),(ElemsM (P ^ M) n ln V,2)] 3):=.inl ⟨fun h=>by have:=h.2.2.2 i hlt; omega,rfl⟩
       clear hl
       go_wp2
       go_ret
       exact errsPost hno.out hB
     ·have hlt':¬ (i:Int)<(n:Int):=by omega
      have hin:i=n:=by omega
      have hsh:Hid (ShapeM (C:Int) n ln):=⟨by omega,by omega,hn,fun t ht=>HA.out t (by omega)⟩
      have hok:Hid (∀ {v:Int},FirstErr [(ElemsM (P ^ M) n ln V,2)] v->FirstErr [(ShapeM (C:Int) n ln,3),(ElemsM (P ^ M) n ln V,2)] v):=fun h=>.inr ⟨hsh.out,h⟩
      clear hin HA
      go_wp2
      clear q0 q1
      go_loopg [40] n (fun g2 iv wx=>∃ i:Nat,iv=.int .i64 (i:Nat)/\i<=n/\n<=i+g2/\Hid (∀ t,t<i->AllIn (P ^ M) (ln t) (V t))/\Hid (Below w.heap.size w wx))
      case atStart=>exact ⟨0,rfl,by omega,by omega,fun t ht=>absurd ht (by omega),hB⟩
      case round =>
       obtain ⟨j,rfl,hj,hjg,HE,HB⟩:=hrel
       have hj0:(0:Int)<=(j:Int):=by omega
       by_cases hjt:j<n
       ·have hjt':(j:Int)<(n:Int):=by omega
        obtain ⟨b,o,RA,rc,rfl,hb,x0,_,_,hrow,_⟩:=(HR.out.on HB.out) j hjt
        have HROW:=hid hrow
        have hlj:Hid (ln j<=1048576):=by show _<=_; have:=hsh.out.2.2.2 j hjt; omega
        have hG:=HG.out.at HB.out HB.out.size
        clear hrow
        go_wp2_with fail
        refine (zel P M g m RA (ln j) rc (V j) _ hG HROW.out hlj.out).mono ?_
        rintro e w2 ⟨v,rfl,hv,kb⟩
        have HB2:=hid (onS HB.out kb)
        clear kb hG x0 HROW hlj
        rcases hv with ⟨hno,hv2⟩ | ⟨hyes,hv0⟩
        ·subst hv2
         have hf:Hid (FirstErr [(ElemsM (P ^ M) n ln V,2)] 2):=.inl ⟨fun h=>hno (h j hjt),rfl⟩
         clear hno
         go_wp2
         go_ret
         exact errsPost (hok.out hf.out) HB2.out
        ·have hv0:v=0:=hv0
         subst hv0
         have HE2:Hid (∀ t,t<j+1->AllIn (P ^ M) (ln t) (V t)):=fun t ht=>by
          by_cases e:t=j
          ·rw [e]; exact hyes
          ·exact HE.out t (by omega)
         clear hyes
         go_wp2
         go_roundg (gk - 1)
         case measure=>omega
         case rel=>exact ⟨j+1,by go_num,by omega,by omega,HE2,HB2⟩
       ·have hjt':¬ (j:Int)<(n:Int):=by omega
        have hf:Hid (FirstErr [(ElemsM (P ^ M) n ln V,2)] 0):=.inr ⟨fun t ht=>HE.out t (by omega),rfl⟩
        go_wp2
        go_ret
        exact errsPost (hok.out hf.out) HB.out
end Go.Proofs.YtgekjfpapmlndaaGreat