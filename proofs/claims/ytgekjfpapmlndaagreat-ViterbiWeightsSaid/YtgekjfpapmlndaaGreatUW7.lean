/- Merged texts of a claim: DTab, MAdd, MCl, MEach, MElim, MCan. -/
import Derived.Test.YtgekjfpapmlndaaGreatUW6
namespace Go.Proofs.YtgekjfpapmlndaaGreat
set_option maxRecDepth 100000
set_option maxHeartbeats 32000000
open KA KB KC KE KF
open Go.RowKit
structure RowAt where
 b:Nat
 o:Nat
 c:Nat
structure DTab (w:World) (base tb o n c k:Nat) (r:Nat->RowAt) (W:Nat->Nat->Nat):Prop where
 tab:Own w base 22 1 (.slice (some ⟨tb,o,none⟩) n c) n (fun i _=>.slice (some ⟨(r i).b,(r i).o,none⟩) k (r i).c)
 row:∀ i,i<n->Own w base 3 1 (.slice (some ⟨(r i).b,(r i).o,none⟩) k (r i).c) k (fun j _=>.int .i64 (W i j:Nat))
 apart:∀ i j,i<n->j<n->i≠j->(r i).b≠(r j).b
theorem zbD {w w1 w2:World} {row:Option Nat} (h:w.grownBy w1 row) (hb:Below w1.heap.size w1 w2):w.grownBy w2 row :=
 ⟨hb.os.trans h.os,hb.tape.trans h.tape,hb.output.trans h.output,Nat.le_trans h.size hb.size,fun k hk hne=>(hb.block k (Nat.lt_of_lt_of_le hk h.size)).trans (h.block k hk hne)⟩
theorem zan {w w':World} {row:Option Nat} {p:Addr} {v:Value} (hg:w.grownBy w' row) (h:w.cell? p=some v) (hne:some p.block≠row):w'.cell? p=some v :=
 (World.cell?_of_block (w:=w) (hg.block p.block (World.block_lt_of_cell? w p h) hne)).trans h
section
variable {w w':World} {base tb o n c k i:Nat} {r:Nat->RowAt} {W W':Nat->Nat->Nat}
theorem DTab.on (h:DTab w base tb o n c k r W) (hb:Below w.heap.size w w'):DTab w' base tb o n c k r W:=⟨h.tab.on hb,fun i hi=>(h.row i hi).on hb,h.apart⟩
theorem DTab.congr (h:DTab w base tb o n c k r W) (e:∀ i,i<n->∀ j,j<k->W i j=W' i j):DTab w base tb o n c k r W':=⟨h.tab,fun i hi=>(h.row i hi).congr fun j hj _ _=>by rw [e i hi j hj],h.apart⟩
theorem DTab.cell (h:DTab w base tb o n c k r W) (hi:i<n):w.cell? ⟨tb,o+i,none⟩=some (.slice (some ⟨(r i).b,(r i).o,none⟩) k (r i).c):=by
 obtain ⟨b,off,e,_,h1⟩:=Rd.at1 (h.tab.rd rfl) hi
 injection e with e
 injection e with e1 e2
 subst e1 e2
 exact h1
theorem DTab.froz (h:DTab w base tb o n c k r W) (j:Nat):w.frozen? ⟨tb,j,none⟩=false:=h.tab.frozen j
theorem DTab.lt (h:DTab w base tb o n c k r W) (hi:i<n):base<=(r i).b/\(r i).b<w.heap.size:=(h.row i hi).lt _ rfl
theorem DTab.tlt (h:DTab w base tb o n c k r W):base<=tb/\tb<w.heap.size:=h.tab.lt _ rfl
theorem DTab.ne (h:DTab w base tb o n c k r W) (hi:i<n):(r i).b≠tb:=by
 rcases zbm h.tab (h.row i hi) (by decide) with h1 | h1
 ·cases h1
 ·exact fun e=>h1 (by show some _=some _; rw [e])
theorem DTab.rd (h:DTab w base tb o n c k r W) (hi:i<n):IntsR w w.heap.size (some ⟨(r i).b,(r i).o,none⟩) k (fun j=>((W i j:Nat):Int)):=(h.row i hi).rd rfl
theorem DTab.entry {j:Nat} (h:DTab w base tb o n c k r W) (hi:i<n) (hj:j<k):w.cell? ⟨(r i).b,(r i).o+j,none⟩=some (.int .i64 (W i j:Nat)):=(h.rd hi).here hj
theorem DTab.kept {row:Option Nat} (h:DTab w base tb o n c k r W) (hg:w.grownBy w' row) (h1:row≠some tb) (h2:∀ i,i<n->row≠some (r i).b):DTab w' base tb o n c k r W :=
 ⟨h.tab.kept hg (.inr fun e=>h1 e.symm),fun i hi=>(h.row i hi).kept hg (.inr fun e=>h2 i hi e.symm),h.apart⟩
theorem DTab.swap {a t:Nat} (h:DTab w base tb o n c k r W) (ha:a<n) (ht:t<n) :
  DTab ((w.setCell ⟨tb,o+a,none⟩ (.slice (some ⟨(r t).b,(r t).o,none⟩) k (r t).c)).setCell ⟨tb,o+t,none⟩ (.slice (some ⟨(r a).b,(r a).o,none⟩) k (r a).c)) base tb o n c k (fun u=>if u=t then r a else if u=a then r t else r u) (fun u=>if u=t then W a else if u=a then W t else W u):=by
 have h1:=h.tab.set ha (by omega:0<1) (.slice (some ⟨(r t).b,(r t).o,none⟩) k (r t).c)
 rw [Nat.mul_one,Nat.add_zero] at h1
 have h2:=h1.set ht (by omega:0<1) (.slice (some ⟨(r a).b,(r a).o,none⟩) k (r a).c)
 rw [Nat.mul_one,Nat.add_zero] at h2
 refine ⟨h2.congr fun u hu q hq=>?_,fun u hu=>?_,fun i j hi hj hne=>?_⟩
 ·obtain rfl:q=0:=by omega
  by_cases e1:u=t
  ·simp [e1]
  by_cases e2:u=a
  ·have e3:¬ a=t:=fun h=>e1 (e2.trans h)
   simp [e2,e3]
  ·simp [e1,e2]
 ·have d:∀ v,v<n->Own ((w.setCell ⟨tb,o+a,none⟩ (.slice (some ⟨(r t).b,(r t).o,none⟩) k (r t).c)).setCell ⟨tb,o+t,none⟩ (.slice (some ⟨(r a).b,(r a).o,none⟩) k (r a).c)) base 3 1 (.slice (some ⟨(r v).b,(r v).o,none⟩) k (r v).c) k (fun j _=>.int .i64 (W v j:Nat)):=fun v hv =>
   ((h.row v hv).setCell (fun e=>h.ne hv (by injection e)) _).setCell (fun e=>h.ne hv (by injection e)) _
  by_cases e1:u=t
  ·simp only [if_pos e1]; exact d a ha
  by_cases e2:u=a
  ·simp only [if_neg e1,if_pos e2]; exact d t ht
  ·simp only [if_neg e1,if_neg e2]; exact d u hu
 have ap:=h.apart
 show (if i=t then r a else if i=a then r t else r i).b≠(if j=t then r a else if j=a then r t else r j).b
 by_cases e1:i=t
 ·rw [if_pos e1]
  rw [if_neg (by omega)]
  by_cases e3:j=a
  ·rw [if_pos e3]; exact ap a t ha ht (by omega)
  ·rw [if_neg e3]; exact ap a j ha hj (by omega)
 rw [if_neg e1]
 by_cases e2:i=a
 ·rw [if_pos e2]
  by_cases e3:j=t
  ·rw [if_pos e3]; exact ap t a ht ha (by omega)
  ·rw [if_neg e3,if_neg (by omega)]; exact ap t j ht hj (by omega)
 rw [if_neg e2]
 by_cases e3:j=t
 ·rw [if_pos e3]; exact ap i a hi ha e2
 rw [if_neg e3]
 by_cases e4:j=a
 ·rw [if_pos e4]; exact ap i t hi ht e1
 ·rw [if_neg e4]; exact ap i j hi hj hne
theorem DTab.put {g go gc:Nat} {x:Nat->Nat} (h:DTab w base tb o n c k r W) (hi:i<n) (hr:Own w base 3 1 (.slice (some ⟨g,go,none⟩) k gc) k (fun j _=>.int .i64 (x j:Nat))) (hg:∀ u,u<n->u≠i->(r u).b≠g) :
  DTab (w.setCell ⟨tb,o+i,none⟩ (.slice (some ⟨g,go,none⟩) k gc)) base tb o n c k (fun u=>if u=i then ⟨g,go,gc⟩ else r u) (fun u=>if u=i then x else W u):=by
 have h1:=h.tab.set hi (by omega:0<1) (.slice (some ⟨g,go,none⟩) k gc)
 rw [Nat.mul_one,Nat.add_zero] at h1
 have d:g≠tb:=by
  rcases zbm h.tab hr (by decide) with h1 | h1
  ·cases h1
  ·exact fun e=>h1 (by show some _=some _; rw [e])
 refine ⟨h1.congr fun u hu q hq=>?_,fun u hu=>?_,fun a b ha hb hab=>?_⟩
 ·obtain rfl:q=0:=by omega
  by_cases e:u=i
  ·simp [e]
  ·simp [e]
 ·by_cases e:u=i
  ·simp only [if_pos e]
   exact hr.setCell (fun e=>d (by injection e)) _
  ·simp only [if_neg e]
   exact (h.row u hu).setCell (fun e=>h.ne hu (by injection e)) _
 show (if a=i then (⟨g,go,gc⟩:RowAt) else r a).b≠(if b=i then (⟨g,go,gc⟩:RowAt) else r b).b
 by_cases e1:a=i
 ·rw [if_pos e1,if_neg (by omega)]; exact fun e=>hg b hb (by omega) e.symm
 rw [if_neg e1]
 by_cases e2:b=i
 ·rw [if_pos e2]; exact hg a ha e1
 ·rw [if_neg e2]; exact h.apart a b ha hb hab
theorem DTab.rowed {x:Nat->Nat} (h:DTab w base tb o n c k r W) (hi:i<n) (hg:w.grownBy w' (some (r i).b)) (hr:Own w' base 3 1 (.slice (some ⟨(r i).b,(r i).o,none⟩) k (r i).c) k (fun j _=>.int .i64 (x j:Nat))) :
  DTab w' base tb o n c k r (fun u=>if u=i then x else W u) :=
 ⟨h.tab.kept hg (.inr fun e=>h.ne hi (by injection e with e; exact e.symm)),fun u hu=>by
  by_cases e:u=i
  ·subst e; simp only [if_pos]; exact hr
  ·simp only [if_neg e]
   exact (h.row u hu).kept hg (.inr fun e2=>h.apart u i hu hi e (by injection e2)),h.apart⟩
end
def RowedPost (w:World) (base vb vo vc k:Nat) (x:Nat->Nat) (e:Ending) (w':World):Prop :=
 e=.returned (.tuple #[])/\w.grownBy w' (some vb)/\Own w' base 3 1 (.slice (some ⟨vb,vo,none⟩) k vc) k (fun j _=>.int .i64 (x j:Nat))
theorem ziY (P M g base vb vo vc ub uo uc k a:Nat) (m:Nat->Nat) (x y:Nat->Nat) (w:World) (h:GF w base g P M m) (hbw:base<=w.heap.size)
  (hv:Own w base 3 1 (.slice (some ⟨vb,vo,none⟩) k vc) k (fun j _=>.int .i64 (x j:Nat))) (hu:IntsR w w.heap.size (some ⟨ub,uo,none⟩) k (fun j=>((y j:Nat):Int))) (hne:ub≠vb)
  (ha:a<P ^ M) (hx:∀ j,j<k->x j<P ^ M) (hy:∀ j,j<k->y j<P ^ M) (hk:k<=1048576) :
  Calls Tryz.prog 264 #[.pointer (some ⟨g,0,none⟩),.slice (some ⟨vb,vo,none⟩) k vc,.int .i64 (a:Nat),.slice (some ⟨ub,uo,none⟩) k uc] w (RowedPost w base vb vo vc k (fun j=>addF P M (x j) (mulF P M m a (y j)))):=by
 have hq:=h.ok.1.2.2.2
 have HL:=hid (fieldLaws h.ok)
 have H:=hv.lt _ rfl
 have HG:=hid h
 have HU:Hid (∀ j,j<k->w.cell? ⟨ub,uo+j,none⟩=some (.int .i64 (y j:Nat))):=fun j hj=>hu.here hj
 have HV:=hid (hv.congr (f':=fun j _=>.int .i64 ((if j<0 then addF P M (x j) (mulF P M m a (y j)) else x j:Nat):Int)) fun j _ _ _=>by rw [if_neg (by omega)])
 have HX:=hid hx
 have HY:=hid hy
 have F:=hid hne
 have C:=hid (zaj ha)
 clear h hv hu hx hy hne
 go_enter Tryz.func264, Tryz.ntmps264
 go_wp2
 go_loopg [12] k (fun gg iv wx=>∃ j:Nat,iv=.int .i64 (j:Nat)/\j<=k/\k<=j+gg/\Hid (w.grownBy wx (some vb))/\Hid (Own wx base 3 1 (.slice (some ⟨vb,vo,none⟩) k vc) k (fun t _=>.int .i64 ((if t<j then addF P M (x t) (mulF P M m a (y t)) else x t:Nat):Int))))
 case atStart=>exact ⟨0,rfl,by omega,by omega,World.grownBy.refl _ _,HV⟩
 clear HV
 obtain ⟨j,rfl,hj,I,c,HV⟩:=hrel
 have J:(0:Int)<=(j:Int):=by omega
 by_cases hlt:j<k
 rotate_left
 ·obtain rfl:j=k:=by omega
  have o:¬ (j:Int)<(j:Int):=by omega
  have d:=hid (HV.out.congr (f':=fun t _=>.int .i64 ((addF P M (x t) (mulF P M m a (y t)):Nat):Int)) fun t ht _ _=>by rw [if_pos ht])
  go_wp2
  refine bodyPost_ret (results_none rfl _ _ _) rfl ?_
  exact ⟨rfl,c.out,d.out⟩
 have o:(j:Int)<(k:Int):=by omega
 have y0:=zan c.out (HU.out j hlt) (fun e=>F.out (by injection e))
 have x0:=(show IntsR wr wr.heap.size (some ⟨vb,vo,none⟩) k (fun t=>((if t<j then addF P M (x t) (mulF P M m a (y t)) else x t:Nat):Int)) from HV.out.rd rfl).here hlt
 rw [if_neg (by omega)] at x0
 have z0:=HV.out.frozen (vo+j)
 obtain ⟨yj,i⟩:=exx (y j)
 obtain ⟨xj,l⟩:=exx (x j)
 have D:yj<P ^ M:=by rw [i]; exact HY.out j hlt
 have r:xj<P ^ M:=by rw [l]; exact HX.out j hlt
 rw [<-i] at y0;rw [<-l] at x0
 have u:=hid i
 have v:=hid l
 have G:=hid (zaj r)
 have z:=hid (zaj D)
 clear i l
 by_cases hy0:yj=0
 ·have hd:((yj:Int) != 0)=false:=by simp [hy0]
  have d:=hid (HV.out.congr (f':=fun t _=>.int .i64 ((if t<j+1 then addF P M (x t) (mulF P M m a (y t)) else x t:Nat):Int)) fun t _ _ _=>by
   by_cases e:t=j
   ·subst e
    rw [if_neg (by omega),if_pos (by omega),<-u.out,<-v.out,hy0,HL.out.mulZero ha,HL.out.addZero r]
   by_cases e2:t<j
   ·rw [if_pos e2,if_pos (by omega)]
   ·rw [if_neg e2,if_neg (by omega)])
  clear hy0 x0 z0
  go_wp2
  go_roundg (gk - 1)
  case measure=>omega
  case rel=>exact ⟨j+1,by go_num,by omega,by omega,c,d⟩
 have hd:((yj:Int) != 0)=true:=by simp [hy0]
 have hB:Below base w wr:=by
  have:=c.out
  exact ⟨this.os,this.tape,this.output,this.size,fun q hq=>this.block q (by omega) (fun e=>by injection e with e; omega)⟩
 have hG:=HG.out.at hB (Nat.le_trans hbw c.out.size)
 obtain ⟨w1,E⟩:=exx wr
 subst E
 have hO:=HV.out
 clear hB hy0 HV
 go_wp2
 clear z0
 refine wp_region_held_drew (S:=fun _=>True) (by kernel_rfl) trivial (fun hHeld=>?_)
 obtain ⟨w2,hw,kb⟩:=dwx w1
 rw [<-hw];clear hw;replace hG:=hG.on kb;replace hO:=hO.on kb;replace x0:=cellS kb x0
 have b:=zbD c.out kb
 clear kb
 refine tkq 0 (h:=tkq 1 (h:=tkq 2 (h:=tkq 3 (h:=tkq 4 (h:=tkq 5 (h:=tkq 7 (h:=tkq 8 (h:=tkq 9 (h:=?_)))))))))
 refine rdq2 6 10 (h:=fun K hK=>?_) (h2:=fun K hK=>?_)
 focus
  go_simp
  refine bkq hK trivial (h:=fun hHeld=>?_)
  clear hK K
  refine rdq 10 (h:=fun K hK=>?_)
  go_simp
  go_wp2_with fail
  refine (zaL (a:Int) (yj:Int) hG).mono ?_
  rintro e w3 ⟨rfl,kb⟩
  replace hG:=hG.on kb;replace hO:=hO.on kb;replace x0:=cellS kb x0;replace b:=zbD b kb;clear kb;rw [C.out,z.out]
  obtain ⟨t,ht⟩:=exx (mulF P M m a yj)
  rw [<-ht]
  have HT:=hid ht
  have B:=hid (show inV (P ^ M) (t:Nat)=t from zaj (by rw [ht]; exact HL.out.mulLt _ _))
  clear ht
 rotate_left
 focus
  go_simp
  go_wp2_with fail
  refine (zaL (a:Int) (yj:Int) hG).mono ?_
  rintro e w3 ⟨rfl,kb⟩
  replace hG:=hG.on kb;replace hO:=hO.on kb;replace x0:=cellS kb x0;replace b:=zbD b kb;clear kb;rw [C.out,z.out]
  obtain ⟨t,ht⟩:=exx (mulF P M m a yj)
  rw [<-ht]
  have HT:=hid ht
  have B:=hid (show inV (P ^ M) (t:Nat)=t from zaj (by rw [ht]; exact HL.out.mulLt _ _))
  clear ht
  refine bkq hK trivial (h:=fun hHeld=>?_)
  clear hK K
  refine rdq 6 (h:=fun K hK=>?_)
  go_simp
 rotate_left
 all_goals
  refine bkq hK trivial (h:=fun hHeld=>?_)
  clear hK K
  refine rdq 11 (h:=fun K hK=>?_)
  go_simp
  go_wp2_with fail
  refine (zbf (xj:Int) (t:Int) hG).mono ?_
  rintro e w4 ⟨rfl,kb⟩
  replace hG:=hG.on kb;replace hO:=hO.on kb;replace x0:=cellS kb x0;replace b:=zbD b kb;clear kb;rw [G.out,B.out]
  obtain ⟨s,hs⟩:=exx (addF P M xj t)
  rw [<-hs]
  have HS:=hid hs
  clear hs
  refine bkq hK trivial (h:=fun hHeld=>?_)
  clear hK K
  refine tkq 12 (h:=?_)
  refine rdq 13 (h:=fun K hK=>?_)
  have z1:=hO.frozen (vo+j)
  go_simp
  clear z1
  have n:=hO.set hlt (by omega:0<1) (.int .i64 (s:Nat))
  rw [Nat.mul_one,Nat.add_zero] at n;replace b:=zaS b (vo+j) (.int .i64 (s:Nat));clear hO x0
  obtain ⟨w5,hw⟩:=exx (World.setCell w4 ⟨vb,vo+j,none⟩ (.int .i64 (s:Nat)))
  rw [<-hw] at n b ⊢;clear hw
  have p:=hid b
  have d:=hid (n.congr (f':=fun t _=>.int .i64 ((if t<j+1 then addF P M (x t) (mulF P M m a (y t)) else x t:Nat):Int)) fun t _ q hq=>by
   obtain rfl:q=0:=by omega
   by_cases e:t=j
   ·subst e
    rw [if_pos ⟨rfl,rfl⟩,if_pos (by omega),HS.out,HT.out,v.out,u.out]
   rw [if_neg (fun h=>e h.1)]
   by_cases e2:t<j
   ·rw [if_pos e2,if_pos (by omega)]
   ·rw [if_neg e2,if_neg (by omega)])
  clear b n
  refine bkq hK trivial (h:=fun hHeld=>?_)
  clear hK K
  refine wpAnyH_done (by kernel_rfl) ?_ _
  clear hHeld
  go_wp2
  go_roundg (gk - 1)
  case measure=>omega
  case rel=>exact ⟨j+1,by go_num,by omega,by omega,p,d⟩
theorem ziZ {w:World} {base e b o n c i:Nat} {f:Nat->Nat->Value} (h:Own w base e 1 (.slice (some ⟨b,o,none⟩) n c) n f) (hi:i<n):w.cell? ⟨b,o+i,none⟩=some (f i 0):=by
 obtain ⟨b',o',e,_,h⟩:=Rd.at1 (h.rd rfl) hi
 injection e with e
 injection e with e1 e2
 subst e1 e2
 exact h
theorem GF.below' {w w':World} {B g P M:Nat} {m:Nat->Nat} (h:GF w B g P M m) (hb:Below B w w'):GF w' B g P M m:=by
 obtain ⟨A,k,c,eb,eo,ec,lb,lo,lc,x,lg,h⟩:=h
 exact ⟨A,k,c,eb,eo,ec,lb,lo,lc,x,lg,h.ok,h.km,zc7 h.row hb h.lt,h.lt,Rd.below h.md hb (Nat.le_refl _),Rd.below h.ex hb (Nat.le_refl _),Rd.below h.lgr hb (Nat.le_refl _),h.x0,h.xq,h.gen,h.lgs⟩
theorem zgt {w w1 w2:World} {row:Option Nat} (hb:Below w.heap.size w w1) (h:w1.grownBy w2 row):w.grownBy w2 row :=
 ⟨h.os.trans hb.os,h.tape.trans hb.tape,h.output.trans hb.output,Nat.le_trans hb.size h.size,fun k hk hne=>(h.block k (Nat.lt_of_lt_of_le hk hb.size) hne).trans (hb.block k hk)⟩
theorem endNone {P:Program} {fn:Func} {R:Ending->World->Prop} {a:Act} {w:World} (hr:fn.results=#[]) (hd:a.defers=[]) (hR:R (.returned (.tuple #[])) w):bodyPost P fn R .normal a w:=⟨hd,_,results_none hr _ _ _,hR⟩
def TabbedPost (w:World) (base tb o n c k:Nat) (r:Nat->RowAt) (W:Nat->Nat->Nat) (e:Ending) (w':World):Prop :=
 e=.returned (.tuple #[])/\w.grownBy w' (some tb)/\DTab w' base tb o n c k r W
section
variable {w:World} {base tb o n c k a t kb ab:Nat} {r:Nat->RowAt} {W:Nat->Nat->Nat}
theorem zhH (hT:DTab w base tb o n c k r W) (ha:a<n) (ht:t<n) (ck:w.cell? ⟨kb,0,none⟩=some (.int .i64 (t:Nat))) (ca:w.cell? ⟨ab,0,none⟩=some (.int .i64 (a:Nat))) (hkb:kb≠tb) (hab:ab≠tb) :
  Calls Tryz.prog 261 #[.slice (some ⟨tb,o,none⟩) n c,.pointer (some ⟨kb,0,none⟩),.pointer (some ⟨ab,0,none⟩)] w (TabbedPost w base tb o n c k (fun u=>if u=t then r a else if u=a then r t else r u) (fun u=>if u=t then W a else if u=a then W t else W u)):=by
 obtain ⟨w1,e⟩:=exx w
 have HW:Hid (w1=w):=e
 rw [<-e] at hT ck ca
 have g:=World.grownBy.refl w1 (some tb)
 have v:(0:Int)<=(a:Int):=by omega
 have q:(0:Int)<=(t:Int):=by omega
 have s:(a:Int)<(n:Int):=by omega
 have m:(t:Int)<(n:Int):=by omega
 have j:=hid hkb
 have l:=hid hab
 have x7:=hT.cell ht
 have x11:=hT.cell ha
 rw [<-e];clear e hkb hab
 go_enter Tryz.func261, Tryz.ntmps261
 go_wp2
 refine wp_region_held_drew (S:=fun w'=>w'.cell? ⟨kb,0,none⟩=some (.int .i64 (t:Nat))/\w'.cell? ⟨ab,0,none⟩=some (.int .i64 (a:Nat))) (by kernel_rfl) ⟨cellS (Below.refl _ _).drew (ck),cellS (Below.refl _ _).drew (ca)⟩ (fun hHeld=>?_)
 obtain ⟨w2,hw,kb⟩:=dwx w1
 rw [<-hw] at hHeld ⊢;clear hw;replace hT:=hT.on kb;replace ck:=cellS kb ck;replace ca:=cellS kb ca;replace x7:=cellS kb x7;replace x11:=cellS kb x11
 have d:=zbD g kb
 clear kb
 refine tkq 0 (h:=tkq 1 (h:=tkq 2 (h:=tkq 3 (h:=tkq 4 (h:=tkq 5 (h:=tkq 6 (h:=tkq 8 (h:=tkq 9 (h:=tkq 10 (h:=?_))))))))))
 refine rdq2 7 11 (h:=fun K hK=>?_) (h2:=fun K hK=>?_)
 focus
  go_simp
  refine bkq hK ⟨ck,ca⟩ (h:=fun hHeld=>?_)
  clear hK K
  refine rdq 11 (h:=fun K hK=>?_)
 rotate_left
 focus
  go_simp
  refine bkq hK ⟨ck,ca⟩ (h:=fun hHeld=>?_)
  clear hK K
  refine rdq 7 (h:=fun K hK=>?_)
 rotate_left
 all_goals
  go_simp
  refine bkq hK ⟨ck,ca⟩ (h:=fun hHeld=>?_)
  clear hK K
  refine tkq 12 (h:=?_)
  refine rdq 13 (h:=fun K hK=>?_)
  have i:=hid (hT.swap ha ht)
  have hO:=hT.tab.set ha (by omega:0<1) (.slice (some ⟨(r t).b,(r t).o,none⟩) k (r t).c)
  rw [Nat.mul_one,Nat.add_zero] at hO
  have z0:=hT.froz (o+a)
  replace d:=zaS d (o+a) (.slice (some ⟨(r t).b,(r t).o,none⟩) k (r t).c);replace ck:=zaa (p:=⟨tb,o+a,none⟩) (u:=(.slice (some ⟨(r t).b,(r t).o,none⟩) k (r t).c)) ck j.out;replace ca:=zaa (p:=⟨tb,o+a,none⟩) (u:=(.slice (some ⟨(r t).b,(r t).o,none⟩) k (r t).c)) ca l.out
  go_simp
  clear z0 x7 x11
  obtain ⟨w3,hw⟩:=exx (World.setCell w2 ⟨tb,o+a,none⟩ (.slice (some ⟨(r t).b,(r t).o,none⟩) k (r t).c))
  rw [<-hw] at i hO d ck ca ⊢;clear hw hT
  refine bkq hK ⟨ck,ca⟩ (h:=fun hHeld=>?_)
  clear hK K
  refine tkq 14 (h:=?_)
  refine rdq 15 (h:=fun K hK=>?_)
  have z0:=hO.frozen (o+t)
  have v0:=ziZ hO ht
  replace d:=zaS d (o+t) (.slice (some ⟨(r a).b,(r a).o,none⟩) k (r a).c);replace ck:=zaa (p:=⟨tb,o+t,none⟩) (u:=(.slice (some ⟨(r a).b,(r a).o,none⟩) k (r a).c)) ck j.out;replace ca:=zaa (p:=⟨tb,o+t,none⟩) (u:=(.slice (some ⟨(r a).b,(r a).o,none⟩) k (r a).c)) ca l.out
  go_simp
  clear z0 v0 hO
  obtain ⟨w4,hw⟩:=exx (World.setCell w3 ⟨tb,o+t,none⟩ (.slice (some ⟨(r a).b,(r a).o,none⟩) k (r a).c))
  rw [<-hw] at i d ck ca ⊢;clear hw
  refine bkq hK ⟨ck,ca⟩ (h:=fun hHeld=>?_)
  clear hK K
  refine wpAnyH_done (by kernel_rfl) ?_ _
  clear hHeld
  go_wp2
  refine endNone rfl rfl ?_
  exact ⟨rfl,d,i.out⟩
theorem zgu {P M g gb vb s:Nat} {m:Nat->Nat} (hG:GF w base g P M m) (hbw:base<=w.heap.size) (hT:DTab w base tb o n c k r W) (ha:a<n) (hW:∀ j,j<k->W a j<P ^ M) (hs:s<P ^ M) (hk:k<=1048576)
  (cg:w.cell? ⟨gb,0,none⟩=some (.pointer (some ⟨g,0,none⟩))) (cv:w.cell? ⟨vb,0,none⟩=some (.int .i64 (s:Nat))) (ca:w.cell? ⟨ab,0,none⟩=some (.int .i64 (a:Nat))) (hgb:gb≠tb) (hvb:vb≠tb) (hab:ab≠tb) :
  Calls Tryz.prog 262 #[.slice (some ⟨tb,o,none⟩) n c,.pointer (some ⟨gb,0,none⟩),.pointer (some ⟨vb,0,none⟩),.pointer (some ⟨ab,0,none⟩)] w fun e w'=>∃ q,w.heap.size<=q/\TabbedPost w base tb o n c k (fun u=>if u=a then ⟨q,0,k⟩ else r u) (fun u=>if u=a then fun j=>mulF P M m s (W a j) else W u) e w':=by
 obtain ⟨w1,l⟩:=exx w
 have v:base<=w1.heap.size:=by rw [l]; exact hbw
 have x:=hG
 rw [<-l] at x hT cg cv ca
 have i:=x.at (Below.refl _ _) v
 have t:=World.grownBy.refl w1 (some tb)
 have N:(0:Int)<=(a:Int):=by omega
 have L:(a:Int)<(n:Int):=by omega
 have I:=hid hgb
 have H:=hid hvb
 have J:=hid hab
 have G:=hid hW
 have x7:=hT.cell ha
 rw [<-l];clear l hgb hvb hab hG x hbw hW
 go_enter Tryz.func262, Tryz.ntmps262
 go_wp2
 refine wp_region_held_drew (S:=fun w'=>w'.cell? ⟨gb,0,none⟩=some (.pointer (some ⟨g,0,none⟩))/\w'.cell? ⟨vb,0,none⟩=some (.int .i64 (s:Nat))/\w'.cell? ⟨ab,0,none⟩=some (.int .i64 (a:Nat))) (by kernel_rfl) ⟨cellS (Below.refl _ _).drew (cg),cellS (Below.refl _ _).drew (cv),cellS (Below.refl _ _).drew (ca)⟩ (fun hHeld=>?_)
 obtain ⟨w2,hw,kb⟩:=dwx w1
 rw [<-hw] at hHeld ⊢;clear hw;replace hT:=hT.on kb;replace i:=i.on kb;replace cg:=cellS kb cg;replace cv:=cellS kb cv;replace ca:=cellS kb ca;replace x7:=cellS kb x7
 have d:=zbD t kb
 clear kb
 refine tkq 0 (h:=tkq 1 (h:=tkq 2 (h:=tkq 3 (h:=tkq 4 (h:=tkq 5 (h:=tkq 6 (h:=?_)))))))
 refine rdq 7 (h:=fun K hK=>?_)
 go_simp
 refine bkq hK ⟨cg,cv,ca⟩ (h:=fun hHeld=>?_)
 clear hK K
 refine rdq 8 (h:=fun K hK=>?_)
 have z:∀ u,u<n->base<=(r u).b/\(r u).b<w2.heap.size:=fun u hu=>hT.lt hu
 have F:=hT.rd ha
 have C:=d.size
 go_simp
 go_wp2_with fail
 refine (zfB s k _ _ _ i hs F G.out hk).mono ?_
 rintro e w3 ⟨q,rfl,hq,rq,kb⟩
 replace hT:=hT.on kb;replace i:=i.on kb;replace cg:=cellS kb cg;replace cv:=cellS kb cv;replace ca:=cellS kb ca;replace x7:=cellS kb x7;replace d:=zbD d kb
 have D:∀ u,u<n->u≠a->(r u).b≠q:=fun u hu _ e=>by have:=(z u hu); omega
 have E:base<=q:=by have:=z a ha; omega
 clear kb
 have y:=zbW rq E (show k<=maxLen by unfold maxLen; omega)
 clear rq x7
 refine bkq hK ⟨cg,cv,ca⟩ (h:=fun hHeld=>?_)
 clear hK K
 refine tkq 9 (h:=?_)
 refine rdq 10 (h:=fun K hK=>?_)
 have B:=hid (hT.put ha y D)
 have z0:=hT.froz (o+a)
 have v0:=hT.cell ha
 replace d:=zaS d (o+a) (.slice (some ⟨q,0,none⟩) k k);replace cg:=zaa (p:=⟨tb,o+a,none⟩) (u:=(.slice (some ⟨q,0,none⟩) k k)) cg I.out;replace cv:=zaa (p:=⟨tb,o+a,none⟩) (u:=(.slice (some ⟨q,0,none⟩) k k)) cv H.out;replace ca:=zaa (p:=⟨tb,o+a,none⟩) (u:=(.slice (some ⟨q,0,none⟩) k k)) ca J.out
 go_simp
 clear z0 v0 hT y i
 obtain ⟨w4,hw⟩:=exx (World.setCell w3 ⟨tb,o+a,none⟩ (.slice (some ⟨q,0,none⟩) k k))
 rw [<-hw] at B d cg cv ca ⊢;clear hw
 refine bkq hK ⟨cg,cv,ca⟩ (h:=fun hHeld=>?_)
 clear hK K
 refine wpAnyH_done (by kernel_rfl) ?_ _
 clear hHeld
 go_wp2
 refine endNone rfl rfl ?_
 exact ⟨q,Nat.le_trans C hq,rfl,d,B.out⟩
theorem zhI {P M g gb ib xb i x:Nat} {m:Nat->Nat} (hG:GF w base g P M m) (hbw:base<=w.heap.size) (hT:DTab w base tb o n c k r W) (ha:a<n) (hi:i<n) (hia:i≠a) (hW:∀ u,u<n->∀ j,j<k->W u j<P ^ M) (hx:x<P ^ M) (hk:k<=1048576)
  (cg:w.cell? ⟨gb,0,none⟩=some (.pointer (some ⟨g,0,none⟩))) (ci:w.cell? ⟨ib,0,none⟩=some (.int .i64 (i:Nat))) (cx:w.cell? ⟨xb,0,none⟩=some (.int .i64 (x:Nat))) (ca:w.cell? ⟨ab,0,none⟩=some (.int .i64 (a:Nat)))
  (hgb:gb≠(r i).b) (hib:ib≠(r i).b) (hxb:xb≠(r i).b) (hab:ab≠(r i).b) :
  Calls Tryz.prog 263 #[.slice (some ⟨tb,o,none⟩) n c,.pointer (some ⟨gb,0,none⟩),.pointer (some ⟨ib,0,none⟩),.pointer (some ⟨xb,0,none⟩),.pointer (some ⟨ab,0,none⟩)] w fun e w'=>e=.returned (.tuple #[])/\w.grownBy w' (some (r i).b)/\DTab w' base tb o n c k r (fun u=>if u=i then fun j=>addF P M (W i j) (mulF P M m (negF P M x) (W a j)) else W u):=by
 obtain ⟨w1,t⟩:=exx w
 have d:base<=w1.heap.size:=by rw [t]; exact hbw
 have q:=hG
 rw [<-t] at q hT cg ci cx ca
 have p:=q.at (Below.refl _ _) d
 have N:GF w1 base g P M m:=q
 have v:=q
 have J:0<P:=by have:=p.ok.1.1; omega
 have a1:(0:Int)<=(a:Int):=by omega
 have a0:(a:Int)<(n:Int):=by omega
 have Z:(0:Int)<=(i:Int):=by omega
 have Y:(i:Int)<(n:Int):=by omega
 have V:=hid hgb
 have T:=hid hib
 have O:=hid hxb
 have X:=hid hab
 have E:=hid hW
 have R:=hid (zaj hx)
 have x4:=hT.cell hi
 have x11:=hT.cell ha
 have a2:=hT.row i hi
 have a3:=hid (hT.rd ha)
 have Q:=hid (hT.apart a i ha hi (fun e=>hia e.symm))
 have a4:=hid hia
 rw [<-t];clear t hgb hib hxb hab hG q hbw hW hia
 go_enter Tryz.func263, Tryz.ntmps263
 go_wp2
 refine wp_region_held_drew (S:=fun w'=>w'.cell? ⟨gb,0,none⟩=some (.pointer (some ⟨g,0,none⟩))/\w'.cell? ⟨ib,0,none⟩=some (.int .i64 (i:Nat))/\w'.cell? ⟨xb,0,none⟩=some (.int .i64 (x:Nat))/\w'.cell? ⟨ab,0,none⟩=some (.int .i64 (a:Nat))/\w'.cell? ⟨tb,o+i,none⟩=some (.slice (some ⟨(r i).b,(r i).o,none⟩) k (r i).c)/\w'.cell? ⟨tb,o+a,none⟩=some (.slice (some ⟨(r a).b,(r a).o,none⟩) k (r a).c)) (by kernel_rfl) ⟨cellS (Below.refl _ _).drew (cg),cellS (Below.refl _ _).drew (ci),cellS (Below.refl _ _).drew (cx),cellS (Below.refl _ _).drew (ca),cellS (Below.refl _ _).drew (x4),cellS (Below.refl _ _).drew (x11)⟩ (fun hHeld=>?_)
 obtain ⟨w2,hw,kb⟩:=dwx w1
 rw [<-hw] at hHeld ⊢;clear hw;replace hT:=hT.on kb;replace p:=p.on kb;replace cg:=cellS kb cg;replace ci:=cellS kb ci;replace cx:=cellS kb cx;replace ca:=cellS kb ca;replace x4:=cellS kb x4;replace x11:=cellS kb x11
 have G:=hid kb
 clear kb
 refine tkq 0 (h:=tkq 1 (h:=tkq 2 (h:=tkq 3 (h:=tkq 4 (h:=tkq 5 (h:=tkq 6 (h:=tkq 8 (h:=tkq 9 (h:=tkq 10 (h:=tkq 11 (h:=?_)))))))))))
 refine rdq 7 (h:=fun K hK=>?_)
 go_simp
 go_wp2_with fail
 refine (zdz (x:Int) p).mono ?_
 rintro e w3 ⟨rfl,kb⟩
 replace hT:=hT.on kb;replace p:=p.on kb;replace cg:=cellS kb cg;replace ci:=cellS kb ci;replace cx:=cellS kb cx;replace ca:=cellS kb ca;replace x4:=cellS kb x4;replace x11:=cellS kb x11
 have s:=hid (G.out.trans (kb.mono G.out.size))
 clear kb;rw [R.out]
 obtain ⟨y,hy⟩:=exx (negF P M x)
 rw [<-hy]
 have H:y<P ^ M:=by rw [hy]; exact zb8 J
 have HY:=hid hy
 clear hy
 refine bkq hK ⟨cg,ci,cx,ca,x4,x11⟩ (h:=fun hHeld=>?_)
 clear hK K
 refine rdq 12 (h:=fun K hK=>?_)
 have L:=(v.at (s.out.mono d) (Nat.le_trans d s.out.size))
 have B:=hT.row i hi
 have C:=hT.rd ha
 have I:=Nat.le_trans d s.out.size
 go_simp
 go_wp2_with fail
 refine (ziY P M g base (r i).b (r i).o (r i).c (r a).b (r a).o (r a).c k y m (W i) (W a) w3 (N.below' (s.out.mono d)) I B C Q.out H (E.out i hi) (E.out a ha) hk).mono ?_
 rintro e w4 ⟨rfl,l,D⟩
 have F:=hid (hT.rowed hi l D)
 have U:=hid (zgt s.out l)
 replace cg:=zan l cg (fun e=>V.out (by injection e))
 replace ci:=zan l ci (fun e=>T.out (by injection e))
 replace cx:=zan l cx (fun e=>O.out (by injection e))
 replace ca:=zan l ca (fun e=>X.out (by injection e))
 have z:=hT.ne hi
 replace x4:=zan l x4 (fun e=>z (by injection e with e; exact e.symm))
 replace x11:=zan l x11 (fun e=>z (by injection e with e; exact e.symm))
 clear l D hT B C p L
 refine bkq hK ⟨cg,ci,cx,ca,x4,x11⟩ (h:=fun hHeld=>?_)
 clear hK K
 refine wpAnyH_done (by kernel_rfl) ?_ _
 clear hHeld
 go_wp2
 refine endNone rfl rfl ?_
 rw [HY.out] at F
 exact ⟨rfl,U.out,F.out⟩
end
section
variable {w:World} {base tb o n c k a t kb ab rb zb:Nat} {r:Nat->RowAt} {W:Nat->Nat->Nat}
theorem zgv (hT:DTab w base tb o n c k r W) (ha:a<n) (ht:t<n) (ck:w.cell? ⟨kb,0,none⟩=some (.int .i64 (t:Nat))) (ca:w.cell? ⟨ab,0,none⟩=some (.int .i64 (a:Nat))) (hkb:kb≠tb) (hab:ab≠tb)
  (cr:w.cell? ⟨rb,0,none⟩=some (.slice (some ⟨tb,o,none⟩) n c)) (cz:w.cell? ⟨zb,0,none⟩=some (.slice none 0 0)) (hzb:zb≠tb) :
  Calls Tryz.prog 260 #[.func (.func 261) #[] #[.pointer (some ⟨kb,0,none⟩),.pointer (some ⟨ab,0,none⟩)],.pointer (some ⟨rb,0,none⟩),.pointer (some ⟨zb,0,none⟩)] w (TabbedPost w base tb o n c k (fun u=>if u=t then r a else if u=a then r t else r u) (fun u=>if u=t then W a else if u=a then W t else W u)):=by
 have d:∀ (x p1 p2:Value) (W:World),(callFunc 261 #[x,p1,p2]).run Tryz.prog W=.ok (.enter 261 #[x,p1,p2]) W:=fun _ _ _ _=>by kernel_rfl
 have g:=hid hzb
 clear hzb
 go_enter Tryz.func260, Tryz.ntmps260
 go_wp2_with fail
 refine (zhH hT ha ht ck ca hkb hab).mono ?_
 rintro e w1 ⟨rfl,hg,b⟩
 have cz1:=zan hg cz (fun e=>g.out (by injection e))
 have HG:=hid hg
 have HT:=hid b
 clear hg b cz cr ck ca hT d
 go_wp2
 refine endNone rfl rfl ?_
 exact ⟨rfl,HG.out,HT.out⟩
theorem zgw {P M g gb vb s:Nat} {m:Nat->Nat} (hG:GF w base g P M m) (hbw:base<=w.heap.size) (hT:DTab w base tb o n c k r W) (ha:a<n) (hW:∀ j,j<k->W a j<P ^ M) (hs:s<P ^ M) (hk:k<=1048576)
  (cg:w.cell? ⟨gb,0,none⟩=some (.pointer (some ⟨g,0,none⟩))) (cv:w.cell? ⟨vb,0,none⟩=some (.int .i64 (s:Nat))) (ca:w.cell? ⟨ab,0,none⟩=some (.int .i64 (a:Nat))) (hgb:gb≠tb) (hvb:vb≠tb) (hab:ab≠tb)
  (cr:w.cell? ⟨rb,0,none⟩=some (.slice (some ⟨tb,o,none⟩) n c)) (cz:w.cell? ⟨zb,0,none⟩=some (.slice none 0 0)) (hzb:zb≠tb) :
  Calls Tryz.prog 260 #[.func (.func 262) #[] #[.pointer (some ⟨gb,0,none⟩),.pointer (some ⟨vb,0,none⟩),.pointer (some ⟨ab,0,none⟩)],.pointer (some ⟨rb,0,none⟩),.pointer (some ⟨zb,0,none⟩)] w fun e w'=>∃ q,w.heap.size<=q/\TabbedPost w base tb o n c k (fun u=>if u=a then ⟨q,0,k⟩ else r u) (fun u=>if u=a then fun j=>mulF P M m s (W a j) else W u) e w':=by
 have d:∀ (x p1 p2 p3:Value) (W:World),(callFunc 262 #[x,p1,p2,p3]).run Tryz.prog W=.ok (.enter 262 #[x,p1,p2,p3]) W:=fun _ _ _ _ _=>by kernel_rfl
 have h:=hid hzb
 clear hzb
 go_enter Tryz.func260, Tryz.ntmps260
 go_wp2_with fail
 refine (zgu hG hbw hT ha hW hs hk cg cv ca hgb hvb hab).mono ?_
 rintro e w1 ⟨q,hq,rfl,hg,b⟩
 have cz1:=zan hg cz (fun e=>h.out (by injection e))
 have HG:=hid hg
 have HT:=hid b
 have HQ:=hid hq
 clear hg b cz cr cg cv ca hT d hG hq
 go_wp2
 refine endNone rfl rfl ?_
 exact ⟨q,HQ.out,rfl,HG.out,HT.out⟩
theorem zgx {P M g gb ib xb i x:Nat} {m:Nat->Nat} (hG:GF w base g P M m) (hbw:base<=w.heap.size) (hT:DTab w base tb o n c k r W) (ha:a<n) (hi:i<n) (hia:i≠a) (hW:∀ u,u<n->∀ j,j<k->W u j<P ^ M) (hx:x<P ^ M) (hk:k<=1048576)
  (cg:w.cell? ⟨gb,0,none⟩=some (.pointer (some ⟨g,0,none⟩))) (ci:w.cell? ⟨ib,0,none⟩=some (.int .i64 (i:Nat))) (cx:w.cell? ⟨xb,0,none⟩=some (.int .i64 (x:Nat))) (ca:w.cell? ⟨ab,0,none⟩=some (.int .i64 (a:Nat)))
  (hgb:gb≠(r i).b) (hib:ib≠(r i).b) (hxb:xb≠(r i).b) (hab:ab≠(r i).b)
  (cr:w.cell? ⟨rb,0,none⟩=some (.slice (some ⟨tb,o,none⟩) n c)) (cz:w.cell? ⟨zb,0,none⟩=some (.slice none 0 0)) (hzb:zb≠(r i).b) :
  Calls Tryz.prog 260 #[.func (.func 263) #[] #[.pointer (some ⟨gb,0,none⟩),.pointer (some ⟨ib,0,none⟩),.pointer (some ⟨xb,0,none⟩),.pointer (some ⟨ab,0,none⟩)],.pointer (some ⟨rb,0,none⟩),.pointer (some ⟨zb,0,none⟩)] w fun e w'=>e=.returned (.tuple #[])/\w.grownBy w' (some (r i).b)/\DTab w' base tb o n c k r (fun u=>if u=i then fun j=>addF P M (W i j) (mulF P M m (negF P M x) (W a j)) else W u):=by
 have h:∀ (x p1 p2 p3 p4:Value) (W:World),(callFunc 263 #[x,p1,p2,p3,p4]).run Tryz.prog W=.ok (.enter 263 #[x,p1,p2,p3,p4]) W:=fun _ _ _ _ _ _=>by kernel_rfl
 have l:=hid hzb
 clear hzb
 go_enter Tryz.func260, Tryz.ntmps260
 go_wp2_with fail
 refine (zhI hG hbw hT ha hi hia hW hx hk cg ci cx ca hgb hib hxb hab).mono ?_
 rintro e w1 ⟨rfl,hg,d⟩
 have cz1:=zan hg cz (fun e=>l.out (by injection e))
 have HG:=hid hg
 have HT:=hid d
 clear hg d cz cr cg ci cx ca hT h hG
 go_wp2
 refine endNone rfl rfl ?_
 exact ⟨rfl,HG.out,HT.out⟩
end
theorem zaC {w:World} {base e s b o n c g m:Nat} {t:TypeId} {F:Nat->Value} {f:Nat->Nat->Value} (hr:w.rowIs g t m F) (h:Own w base e s (.slice (some ⟨b,o,none⟩) n c) n f) (hne:t≠e):g≠b:=by
 rcases zb0 hr h hne with h1 | h1
 ·cases h1
 ·exact fun e=>h1 (by show some _=some _; rw [e])
structure EMem (w0 w:World) (base g tb o n c k b4 b5 b7 a:Nat) (u:Value) (r:Nat->RowAt) (W:Nat->Nat->Nat) (p:Nat->Nat):Prop where
 tab:DTab w base tb o n c k r W
 pv:Own w base 3 1 u a (fun j _=>.int .i64 (p j:Nat))
 ap:∀ i,i<n->u.ownBlock≠some (r i).b
 b4:w.rowIs b4 91 1 (fun _=>.pointer (some ⟨g,0,none⟩))
 b5:w.rowIs b5 25 1 (fun _=>.slice (some ⟨tb,o,none⟩) n c)
 b7:w.rowIs b7 25 1 (fun _=>.slice none 0 0)
 below:Below base w0 w
 base:base<=w0.heap.size
section
variable {w0 w w':World} {base g tb o n c k b4 b5 b7 a:Nat} {u:Value} {r r':Nat->RowAt} {W W':Nat->Nat->Nat} {p:Nat->Nat}
theorem EMem.on (h:EMem w0 w base g tb o n c k b4 b5 b7 a u r W p) (hb:Below w.heap.size w w'):EMem w0 w' base g tb o n c k b4 b5 b7 a u r W p :=
 ⟨h.tab.on hb,h.pv.on hb,h.ap,zab h.b4 hb,zab h.b5 hb,zab h.b7 hb,h.below.trans (hb.mono (Nat.le_trans h.base h.below.size)),h.base⟩
theorem EMem.congr (h:EMem w0 w base g tb o n c k b4 b5 b7 a u r W p) (e:∀ i,i<n->∀ j,j<k->W i j=W' i j):EMem w0 w base g tb o n c k b4 b5 b7 a u r W' p:=⟨h.tab.congr e,h.pv,h.ap,h.b4,h.b5,h.b7,h.below,h.base⟩
theorem EMem.bw (h:EMem w0 w base g tb o n c k b4 b5 b7 a u r W p):base<=w.heap.size:=Nat.le_trans h.base h.below.size
def EFar (tb n b4 b5 b7:Nat) (u:Value) (r:Nat->RowAt) (base q:Nat):Prop:=q≠tb/\(∀ i,i<n->q≠(r i).b)/\u.ownBlock≠some q/\q≠b4/\q≠b5/\q≠b7/\base<=q
theorem EMem.far {q:Nat} (h:EMem w0 w base g tb o n c k b4 b5 b7 a u r W p) (hq:w.heap.size<=q):EFar tb n b4 b5 b7 u r base q :=
 ⟨by have:=h.tab.tlt; omega,fun i hi=>by have:=h.tab.lt hi; omega,fun e=>by have:=h.pv.lt _ e; omega,by have:=h.b4.lt; omega,by have:=h.b5.lt; omega,by have:=h.b7.lt; omega,Nat.le_trans h.bw hq⟩
theorem EMem.boxed {q j:Nat} (h:EMem w0 w base g tb o n c k b4 b5 b7 a u r W p) (hf:EFar tb n b4 b5 b7 u r base q) (v:Value):EMem w0 (w.setCell ⟨q,j,none⟩ v) base g tb o n c k b4 b5 b7 a u r W p :=
 have hg:w.grownBy (w.setCell ⟨q,j,none⟩ v) (some q):=zcl w q j v
 ⟨h.tab.kept hg (fun e=>hf.1 (by injection e)) (fun i hi e=>hf.2.1 i hi (by injection e)),h.pv.kept hg (.inr fun e=>hf.2.2.1 e),h.ap,h.b4.setOther (fun e=>hf.2.2.2.1 e.symm) _,h.b5.setOther (fun e=>hf.2.2.2.2.1 e.symm) _,h.b7.setOther (fun e=>hf.2.2.2.2.2.1 e.symm) _,h.below.setCell (p:=⟨q,j,none⟩) hf.2.2.2.2.2.2 v,h.base⟩
theorem EMem.tabbed (h:EMem w0 w base g tb o n c k b4 b5 b7 a u r W p) (hg:w.grownBy w' (some tb)) (hT:DTab w' base tb o n c k r' W') (hap:∀ i,i<n->u.ownBlock≠some (r' i).b):EMem w0 w' base g tb o n c k b4 b5 b7 a u r' W' p :=
 ⟨hT,h.pv.kept hg (zbm h.tab.tab h.pv (by decide)),hap,zay h.b4 hg (zaC h.b4 h.tab.tab (by decide)),zay h.b5 hg (zaC h.b5 h.tab.tab (by decide)),zay h.b7 hg (zaC h.b7 h.tab.tab (by decide)),h.below.grown hg h.bw (fun q e=>by have:=h.tab.tlt.1; injection e with e; omega),h.base⟩
theorem EMem.rowed {i:Nat} (h:EMem w0 w base g tb o n c k b4 b5 b7 a u r W p) (hi:i<n) (hg:w.grownBy w' (some (r i).b)) (hT:DTab w' base tb o n c k r W'):EMem w0 w' base g tb o n c k b4 b5 b7 a u r W' p :=
 ⟨hT,h.pv.kept hg (.inr (h.ap i hi)),h.ap,zay h.b4 hg (zaC h.b4 (h.tab.row i hi) (by decide)),zay h.b5 hg (zaC h.b5 (h.tab.row i hi) (by decide)),zay h.b7 hg (zaC h.b7 (h.tab.row i hi) (by decide)),h.below.grown hg h.bw (fun q e=>by have:=(h.tab.lt hi).1; injection e with e; omega),h.base⟩
theorem EMem.pushed {u':Value} {p':Nat->Nat} (h:EMem w0 w base g tb o n c k b4 b5 b7 a u r W p) (ho:Own w' base 3 1 u' (a+1) (fun j _=>.int .i64 (p' j:Nat))) (hg:w.grownBy w' u.ownBlock) (hat:u'.ownBlock=u.ownBlock∨u'.ownBlock=some w.heap.size):EMem w0 w' base g tb o n c k b4 b5 b7 (a+1) u' r W p':=by
 have b:∀ {q:Nat} {t:TypeId} {F:Nat->Value},w.rowIs q t 1 F->t ≠ 3 -> w'.rowIs q t 1 F:=fun {q t F} hr hne=>hr.of_block (hg.block q hr.lt fun e=>(zb0 hr h.pv hne).elim (fun h1=>by rw [h1] at e; cases e) fun h1=>h1 e.symm)
 refine ⟨⟨h.tab.tab.kept hg (zbm h.pv h.tab.tab (by decide)),fun i hi=>(h.tab.row i hi).kept hg (.inr fun e=>h.ap i hi e.symm),h.tab.apart⟩,ho,fun i hi e=>?_,b h.b4 (by decide),b h.b5 (by decide),b h.b7 (by decide),h.below.grown hg h.bw (fun q e=>(h.pv.lt q e).1),h.base⟩
 rcases hat with h1 | h1
 ·exact h.ap i hi (by rw [<-h1]; exact e)
 rw [h1] at e
 injection e with e
 have:=(h.tab.lt hi).2
 omega
end
theorem boxRow {w:World} {v:Value} {T:TypeId}:(w.alloc (.cells #[v] T)).rowIs w.heap.size T 1 (fun _=>v):=⟨_,zah rfl,rfl,fun i hi=>by
 obtain rfl:i=0:=by omega
 rfl⟩
def MElimPost (base q:Nat) (add mul:Nat->Nat->Nat) (tb o n c k cols:Nat) (V:Nat->Nat->Nat) (w:World) (e:Ending) (w':World):Prop :=
 ∃ (pv:Value) (d:Int) (a c0:Nat) (p:Nat->Nat) (r:Nat->RowAt) (W:Nat->Nat->Nat),e=.returned (.tuple #[pv,.int .i64 d])/\DTab w' base tb o n c k r W/\Own w' base 3 1 pv a (fun j _=>.int .i64 (p j:Nat))/\Below base w w' /\
  c0<=cols/\(c0=cols∨a=n)/\EchN q n k c0 a p W/\RowOps q add mul n k V W
theorem zhJ (P M g base tb o n c kc cols:Nat) (m:Nat->Nat) (r0:Nat->RowAt) (V:Nat->Nat->Nat) (w:World) (hG:GF w base g P M m) (hbw:base<=w.heap.size) (hT:DTab w base tb o n c kc r0 V)
  (hV:∀ i,i<n->∀ j,j<kc->V i j<P ^ M) (hcK:cols<=kc) (hK2:kc<=1048576) (hn:n<=1048576) :
  Calls Tryz.prog 240 #[.pointer (some ⟨g,0,none⟩),.slice (some ⟨tb,o,none⟩) n c,.int .i64 (cols:Nat),.slice none 0 0] w (MElimPost base (P ^ M) (addF P M) (mulF P M m) tb o n c kc cols V w):=by
 have hL:=fieldLaws hG.ok
 have bi:0<P:=by have:=hG.ok.1.1; omega
 have a5:=hid hG
 have d5:=hid (EchN.start (pv:=fun _=>0) hV)
 obtain ⟨o4,b1⟩:=exx (Obj.cells #[.pointer (some ⟨g,0,none⟩)] 91)
 obtain ⟨o5,b0⟩:=exx (Obj.cells #[.slice (some ⟨tb,o,none⟩) n c] 25)
 obtain ⟨o7,az⟩:=exx (Obj.cells #[.slice none 0 0] 25)
 obtain ⟨w1,aa⟩:=exx (w.alloc o4)
 obtain ⟨w2,a9⟩:=exx (w1.alloc o5)
 obtain ⟨w3,ak⟩:=exx (w2.alloc o7)
 have r4:w1.rowIs w.heap.size 91 1 (fun _=>.pointer (some ⟨g,0,none⟩)):=by rw [aa,b1]; exact boxRow
 have r5:w2.rowIs w1.heap.size 25 1 (fun _=>.slice (some ⟨tb,o,none⟩) n c):=by rw [a9,b0]; exact boxRow
 have r7:w3.rowIs w2.heap.size 25 1 (fun _=>.slice none 0 0):=by rw [ak,az]; exact boxRow
 have k1:=alx aa
 have k2:=alx a9
 have k3:=alx ak
 have s1:w1.heap.size=w.heap.size+1:=by rw [aa]; simp
 have s2:w2.heap.size=w.heap.size+1+1:=by rw [a9]; simp [s1]
 have cd:Below base w w3:=((k1.mono hbw).trans (k2.mono (Nat.le_trans hbw k1.size))).trans (k3.mono (Nat.le_trans (Nat.le_trans hbw k1.size) k2.size))
 have bp:EMem w w3 base g tb o n c kc w.heap.size w1.heap.size w2.heap.size 0 (.slice none 0 0) r0 V (fun _=>0) :=
  ⟨((hT.on k1).on k2).on k3,Own.nil _ _ _ _ _,(fun i _ e=>by cases e),zab (zab r4 k2) k3,zab r5 k3,r7,cd,hbw⟩
 rw [s1,s2] at bp
 have bn:=hid bp
 clear r4 r5 r7 k1 k2 k3 cd bp hT hG hV
 go_enter Tryz.func240, Tryz.ntmps240
 go_upto_region 1 with fail
 rw [<-b1,<-aa,<-b0,<-a9,<-az,<-ak];clear aa a9 ak b1 b0 az s1 s2
 obtain ⟨b4,be⟩:=exx w.heap.size
 obtain ⟨b5,bd⟩:=exx (w.heap.size+1)
 obtain ⟨b7,bc⟩:=exx (w.heap.size+1+1)
 rw [<-bc,<-bd,<-be] at bn;rw [<-bc,<-bd,<-be];clear be bd bc
 go_wp2
 go_loopg [10,12,13] cols (fun gg dv pv cv wx=>∃ (d:Int) (a c0 pc:Nat) (PA:Option Addr) (p:Nat->Nat) (r:Nat->RowAt) (W:Nat->Nat->Nat),dv=.int .i64 d/\pv=.slice PA a pc/\cv=.int .i64 (c0:Nat)/\c0<=cols/\cols<=c0+gg/\Hid (EchN (P ^ M) n kc c0 a p W)/\Hid (RowOps (P ^ M) (addF P M) (mulF P M m) n kc V W)/\Hid (EMem w wx base g tb o n c kc b4 b5 b7 a (.slice PA a pc) r W p))
 case atStart=>exact ⟨1,0,0,0,none,fun _=>0,r0,V,rfl,rfl,rfl,by omega,by omega,d5,hid .refl,bn⟩
 clear bn
 obtain ⟨d,a,c0,pc,PA,p,r,W,rfl,rfl,rfl,hc,cy,HE,HR,HM⟩:=hrel
 have dj:=HE.out.le
 have y5:=qc0 HM.out.b5
 by_cases hcl:c0<cols
 rotate_left
 ·have bb:¬ (c0:Int)<(cols:Int):=by omega
  have c6:c0=cols:=by omega
  have db:=hid c6
  clear c6
  go_wp2
  go_ret2
  exact ⟨_,d,a,c0,p,r,W,rfl,HM.out.tab,HM.out.pv,HM.out.below,hc,.inl db.out,HE.out,HR.out⟩
 have bb:(c0:Int)<(cols:Int):=by omega
 by_cases hal:a<n
 rotate_left
 ·have bg:¬ (a:Int)<(n:Int):=by omega
  have c7:a=n:=by omega
  have dd:=hid c7
  clear c7
  go_wp2
  go_ret2
  exact ⟨_,d,a,c0,p,r,W,rfl,HM.out.tab,HM.out.pv,HM.out.below,hc,.inr dd.out,HE.out,HR.out⟩
 have bg:(a:Int)<(n:Int):=by omega
 obtain ⟨gO,cu⟩:=exx gk
 rw [<-cu] at cy
 go_upto_region 8 with fail
 have I:=aly wr (Obj.cells #[Value.int .i64 (a:Nat)] 3)
 obtain ⟨w4,av⟩:=exx (wr.alloc (Obj.cells #[Value.int .i64 (a:Nat)] 3))
 have ra:w4.rowIs wr.heap.size 3 1 (fun _=>.int .i64 (a:Nat)):=by rw [av]; exact boxRow
 have ba:=HM.out.far (Nat.le_refl wr.heap.size)
 rw [<-av] at I ⊢
 have G:=hid (HM.out.on I)
 obtain ⟨ab,c8⟩:=exx wr.heap.size
 rw [<-c8] at ra ba ⊢
 have J:=hid ba
 clear HM av c8 I ba y5
 have ca:=qc0 ra
 go_wp2
 have E:=aly w4 (Obj.cells #[Value.int .i64 (a:Nat)] 3)
 obtain ⟨w5,au⟩:=exx (w4.alloc (Obj.cells #[Value.int .i64 (a:Nat)] 3))
 have rk:w5.rowIs w4.heap.size 3 1 (fun _=>.int .i64 (a:Nat)):=by rw [au]; exact boxRow
 have b8:=G.out.far (Nat.le_refl w4.heap.size)
 have bh:ab≠w4.heap.size:=by have:=ra.lt; omega
 rw [<-au] at E ⊢
 have B:=hid (G.out.on E)
 replace ra:=zab ra E
 obtain ⟨kb,c1⟩:=exx w4.heap.size
 rw [<-c1] at rk b8 bh ⊢
 have br:=hid b8
 have cn:=hid bh
 clear G au c1 E b8 bh ca
 go_loopg [] n (fun g2 wx=>∃ t:Nat,a<=t/\t<=n/\n<=t+g2/\Hid (∀ i,a<=i->i<t->W i c0=0)/\wx.rowIs kb 3 1 (fun _=>.int .i64 (t:Nat))/\wx.rowIs ab 3 1 (fun _=>.int .i64 (a:Nat))/\Hid (EMem w wx base g tb o n c kc b4 b5 b7 a (.slice PA a pc) r W p))
 case atStart=>exact ⟨a,by omega,by omega,by omega,fun i h1 h2=>absurd h2 (by omega),rk,ra,B⟩
 clear B rk ra
 obtain ⟨t,d0,df,cs,HZ,rk,ra,HM⟩:=hrel
 have ck:=qc0 rk
 have ca:=qc0 ra
 have y5:=qc0 HM.out.b5
 have dg:(0:Int)<=(t:Int):=by omega
 have cz:(0:Int)<=(c0:Int):=by omega
 by_cases htl:t<n
 rotate_left
 ·have ax:¬ (t:Int)<(n:Int):=by omega
  obtain rfl:t=n:=by omega
  have aw:((t:Int) == (t:Int))=true:=by simp
  have a2:=hid (HE.out.none fun i h1 h2=>HZ.out i h1 h2)
  go_wp2
  go_roundg (gO - 1)
  case measure=>omega
  case rel=>exact ⟨d,a,c0+1,pc,PA,p,r,W,rfl,rfl,by go_num,by omega,by omega,a2,HR,HM⟩
 have ax:(t:Int)<(n:Int):=by omega
 have T:c0<kc:=by omega
 have cw:(c0:Int)<(kc:Int):=by omega
 have x0:=HM.out.tab.cell htl
 have y0:=HM.out.tab.entry htl T
 obtain ⟨x,hx⟩:=exx (W t c0)
 rw [<-hx] at y0
 by_cases hx0:x=0
 ·have cr:((x:Int) == 0)=true:=by simpa using hx0
  have d4:Hid (∀ i,a<=i->i<t+1->W i c0=0):=fun i h1 h2=>by
   by_cases e:i=t
   ·subst e; rw [<-hx,hx0]
   ·exact HZ.out i h1 (by omega)
  have de:IntKind.i64.wrap ((t:Int)+1)=(t:Int)+1:=IntWalk.i64_in _ (by omega)
  have z0:=rk.frozen 0
  have C:=hid (HM.out.boxed (j:=0) br.out (.int .i64 ((t:Int)+1)))
  have RK8:=hid ((rk.set 0 (.int .i64 ((t:Int)+1))).congr (g:=fun _=>.int .i64 ((t+1:Nat):Int)) fun i hi=>by
   obtain rfl:i=0:=by omega
   rfl)
  have RA8:=hid (ra.setOther (a:=⟨kb,0,none⟩) (by simpa using cn.out) (.int .i64 ((t:Int)+1)))
  clear hx hx0 HM rk ra
  go_wp2
  go_roundg (gk - 1)
  case measure=>omega
  case rel=>exact ⟨t+1,by omega,by omega,by omega,d4,RK8.out,RA8.out,C⟩
 have cr:((x:Int) == 0)=false:=by simpa using hx0
 have ar:x<P ^ M:=by rw [hx]; exact HE.out.lt t htl c0 T
 have HX:=hid hx
 have cf:=hid hx0
 have d6:=hid rk
 have l:=hid ra
 clear hx hx0 rk ra
 have aw:((t:Int) == (n:Int))=false:=by simp; omega
 obtain ⟨W1,al⟩:∃ X,X=fun u=>if u=a then W t else if u=t then W a else W u:=⟨_,rfl⟩
 have a2:=hid (HE.out.swap d0 htl)
 have an:=hid (HR.out.swap hal htl)
 rw [<-al] at a2 an
 have af:Hid (x=W1 a c0):=by show _=_; rw [al,HX.out]; simp
 have bj:Hid (∀ u,u<n->∀ j,j<kc->(if u=t then W a else if u=a then W t else W u) j=W1 u j):=fun u _ j _=>by
  rw [al]
  by_cases e1:u=a
  ·subst e1
   by_cases e2:u=t
   ·subst e2; simp
   ·simp [e2]
  by_cases e2:u=t
  ·subst e2; simp [e1]
  ·simp [e1,e2]
 clear al
 go_upto_if 58 with fail
 go_cut [10] (fun v10 wx=>∃ (d1:Int) (r1:Nat->RowAt),v10=.int .i64 d1/\Hid (wx.rowIs ab 3 1 (fun _=>.int .i64 (a:Nat)))/\Hid (∀ i,i<n->ab≠(r1 i).b)/\Hid (EMem w wx base g tb o n c kc b4 b5 b7 a (.slice PA a pc) r1 W1 p))
 case first =>
  by_cases hta:t=a
  ·have ay:((t:Int) != (a:Int))=false:=by simp [hta]
   have C:=hid (HM.out.congr (W':=W1) fun u hu j hj=>by
    have:=bj.out u hu j hj
    rw [<-this]
    by_cases e:u=t
    ·rw [if_pos e,<-hta,e]
    ·rw [if_neg e,if_neg (by omega)])
   clear hta
   go_wp2
   go_meet
   exact ⟨d,r,rfl,l,J.out.2.1,C⟩
  have ay:((t:Int) != (a:Int))=true:=by simp; omega
  clear hta
  have y7:=qc0 HM.out.b7
  have hT:=HM.out.tab
  go_wp2_with fail
  refine (zgv hT hal htl ck ca br.out.1 J.out.1 y5 y7 (zaC HM.out.b7 hT.tab (by decide))).mono ?_
  rintro e w6 ⟨rfl,hg,cc⟩
  have U:=HM.out.ap
  have ai:=hid ((HM.out.tabbed hg cc (fun i hi=>by
   by_cases e1:i=t
   ·simp only [if_pos e1]; exact U a hal
   by_cases e2:i=a
   ·simp only [if_neg e1,if_pos e2]; exact U t htl
   ·simp only [if_neg e1,if_neg e2]; exact U i hi)).congr bj.out)
  have ag:=hid (zay l.out hg J.out.1)
  have bs:Hid (∀ i,i<n->ab≠(if i=t then r a else if i=a then r t else r i).b):=fun i hi=>by
   by_cases e1:i=t
   ·rw [if_pos e1]; exact J.out.2.1 a hal
   rw [if_neg e1]
   by_cases e2:i=a
   ·rw [if_pos e2]; exact J.out.2.1 t htl
   ·rw [if_neg e2]; exact J.out.2.1 i hi
  clear hg cc U hT y5 y7 ck ca x0 y0 HM
  have y4:=qc0 ai.out.b4
  go_wp2_with fail
  refine (zdz d (a5.out.at ai.out.below ai.out.bw)).mono ?_
  rintro e w7 ⟨rfl,L⟩
  have a4:=hid (ai.out.on L)
  have H:=hid (zab ag.out L)
  obtain ⟨d1,c5⟩:∃ x:Int,x=((negF P M (inV (P ^ M) d):Nat):Int):=⟨_,rfl⟩
  rw [<-c5];clear c5 L y4 ai ag
  go_wp2
  go_meet
  exact ⟨d1,_,rfl,H,bs,a4⟩
 clear HM l d6 ck ca y5 x0 y0 HE HR bj HZ br cn cs
 obtain ⟨d1,r1,rfl,l,a7,HM⟩:=hcut
 have bm:=l
 obtain ⟨w6,bv⟩:=exx wc
 rw [<-bv] at l HM ⊢;clear bv bm
 have cj:=hid (zaj ar)
 have y4:=qc0 HM.out.b4
 have y5:=qc0 HM.out.b5
 have ca:=qc0 l.out
 have x5:=HM.out.tab.cell hal
 have e5:=HM.out.tab.entry hal T
 rw [<-af.out] at e5
 go_wp2
 refine wp_region_held_drew (S:=fun w'=>w'.cell? ⟨b4,0,none⟩=some (.pointer (some ⟨g,0,none⟩))/\w'.cell? ⟨b5,0,none⟩=some (.slice (some ⟨tb,o,none⟩) n c)/\w'.cell? ⟨ab,0,none⟩=some (.int .i64 (a:Nat))/\w'.cell? ⟨tb,o+a,none⟩=some (.slice (some ⟨(r1 a).b,(r1 a).o,none⟩) kc (r1 a).c)/\w'.cell? ⟨(r1 a).b,(r1 a).o+c0,none⟩=some (.int .i64 (x:Nat))) (by kernel_rfl) ⟨cellS (Below.refl _ _).drew y4,cellS (Below.refl _ _).drew y5,cellS (Below.refl _ _).drew ca,cellS (Below.refl _ _).drew x5,cellS (Below.refl _ _).drew e5⟩ (fun hHeld=>?_)
 obtain ⟨w7,hw,L⟩:=dwx w6
 rw [<-hw] at hHeld ⊢;clear hw
 have a4:=hid (HM.out.on L)
 have H:=hid (zab l.out L)
 clear L y4 y5 ca x5 e5 HM l
 refine tkq 0 (h:=tkq 1 (h:=tkq 2 (h:=tkq 3 (h:=tkq 4 (h:=tkq 5 (h:=tkq 6 (h:=tkq 7 (h:=tkq 8 (h:=rdq 9 (h:=fun K hK=>?_))))))))))
 go_simp
 go_wp2_with fail
 refine (zaL d1 (x:Int) (a5.out.at a4.out.below a4.out.bw)).mono ?_
 rintro e w8 ⟨rfl,ao⟩
 have C:=hid (a4.out.on ao)
 have Y:=hid (zab H.out ao)
 obtain ⟨d2,c4⟩:∃ z:Int,z=((mulF P M m (inV (P ^ M) d1) (inV (P ^ M) (x:Int)):Nat):Int):=⟨_,rfl⟩
 rw [<-c4];clear c4 ao a4 H
 have y4:=qc0 C.out.b4
 have y5:=qc0 C.out.b5
 have ca:=qc0 Y.out
 have x5:=C.out.tab.cell hal
 have e5:=C.out.tab.entry hal T
 rw [<-af.out] at e5
 refine bkq hK ⟨y4,y5,ca,x5,e5⟩ (h:=fun hHeld=>?_)
 clear hK K
 refine tkq 10 (h:=?_)
 refine wpAnyH_done (by kernel_rfl) ?_ _
 clear hHeld
 go_upto_region 16 with fail
 go_cut [16,17] (fun v16 v17 wx=>∃ vb y:Nat,v16=.pointer (some ⟨vb,0,none⟩)/\v17=.int .i64 0/\y<P ^ M/\Hid (y≠0)/\Hid (mulF P M m x y=1)/\Hid (wx.rowIs vb 3 1 (fun _=>.int .i64 (y:Nat)))/\Hid (wx.rowIs ab 3 1 (fun _=>.int .i64 (a:Nat)))/\vb≠tb/\Hid (EMem w wx base g tb o n c kc b4 b5 b7 a (.slice PA a pc) r1 W1 p))
 case first =>
  have hM:=C.out
  have v:=Y.out
  refine wp_region_held_drew (S:=fun w'=>w'.cell? ⟨b4,0,none⟩=some (.pointer (some ⟨g,0,none⟩))/\w'.cell? ⟨b5,0,none⟩=some (.slice (some ⟨tb,o,none⟩) n c)/\w'.cell? ⟨ab,0,none⟩=some (.int .i64 (a:Nat))/\w'.cell? ⟨tb,o+a,none⟩=some (.slice (some ⟨(r1 a).b,(r1 a).o,none⟩) kc (r1 a).c)/\w'.cell? ⟨(r1 a).b,(r1 a).o+c0,none⟩=some (.int .i64 (x:Nat))) (by kernel_rfl) ⟨cellS (Below.refl _ _).drew (y4),cellS (Below.refl _ _).drew (y5),cellS (Below.refl _ _).drew (ca),cellS (Below.refl _ _).drew (x5),cellS (Below.refl _ _).drew (e5)⟩ (fun hHeld=>?_)
  obtain ⟨w9,hw,kb⟩:=dwx w8
  rw [<-hw] at hHeld ⊢;clear hw;replace v:=zab v kb;replace hM:=hM.on kb;replace y4:=cellS kb y4;replace y5:=cellS kb y5;replace ca:=cellS kb ca;replace x5:=cellS kb x5;replace e5:=cellS kb e5;clear kb
  refine tkq 0 (h:=tkq 1 (h:=tkq 2 (h:=tkq 3 (h:=tkq 4 (h:=tkq 5 (h:=tkq 6 (h:=tkq 7 (h:=?_))))))))
  refine rdq2 8 12 (h:=fun K hK=>?_) (h2:=fun K hK=>?_)
  focus
   go_simp
   go_wp2_with fail
   refine (zdA (x:Int) (a5.out.at hM.below hM.bw)).mono ?_
   rintro e w10 ⟨kb,s⟩
   rw [cj.out] at s
   rcases s with ⟨h0,_⟩ | ⟨_,y,rfl,N,F,a8⟩
   ·exact absurd h0 cf.out
   have ae:=hid F
   have a3:=hid a8
   clear F a8;replace v:=zab v kb;replace hM:=hM.on kb;replace y4:=cellS kb y4;replace y5:=cellS kb y5;replace ca:=cellS kb ca;replace x5:=cellS kb x5;replace e5:=cellS kb e5;clear kb
   refine bkq hK ⟨y4,y5,ca,x5,e5⟩ (h:=fun hHeld=>?_)
   clear hK K
   refine tkq 9 (h:=tkq 10 (h:=tkq 11 (h:=?_)))
   refine rdq 12 (h:=fun K hK=>?_)
   go_simp
   obtain ⟨w11,hw⟩:=exx (World.alloc w10 (Obj.cells #[.int .i64 0] 3))
   have kb:=alx hw
   have rv:w11.rowIs w10.heap.size 3 1 (fun _=>.int .i64 0):=by rw [hw]; exact boxRow
   have R:=hM.far (Nat.le_refl w10.heap.size)
   have ac:ab≠w10.heap.size:=by have:=v.lt; omega
   rw [<-hw];clear hw
   obtain ⟨vb,hb⟩:=exx w10.heap.size
   rw [<-hb] at rv R ac ⊢;clear hb
   have a0:=hid R
   clear R;replace v:=zab v kb;replace hM:=hM.on kb;replace y4:=cellS kb y4;replace y5:=cellS kb y5;replace ca:=cellS kb ca;replace x5:=cellS kb x5;replace e5:=cellS kb e5;clear kb
   refine bkq hK ⟨y4,y5,ca,x5,e5⟩ (h:=fun hHeld=>?_)
   clear hK K
  rotate_left
  focus
   go_simp
   obtain ⟨w10,hw⟩:=exx (World.alloc w9 (Obj.cells #[.int .i64 0] 3))
   have kb:=alx hw
   have rv:w10.rowIs w9.heap.size 3 1 (fun _=>.int .i64 0):=by rw [hw]; exact boxRow
   have R:=hM.far (Nat.le_refl w9.heap.size)
   have ac:ab≠w9.heap.size:=by have:=v.lt; omega
   rw [<-hw];clear hw
   obtain ⟨vb,hb⟩:=exx w9.heap.size
   rw [<-hb] at rv R ac ⊢;clear hb
   have a0:=hid R
   clear R;replace v:=zab v kb;replace hM:=hM.on kb;replace y4:=cellS kb y4;replace y5:=cellS kb y5;replace ca:=cellS kb ca;replace x5:=cellS kb x5;replace e5:=cellS kb e5;clear kb
   refine bkq hK ⟨y4,y5,ca,x5,e5⟩ (h:=fun hHeld=>?_)
   clear hK K
   refine rdq 8 (h:=fun K hK=>?_)
   go_simp
   go_wp2_with fail
   refine (zdA (x:Int) (a5.out.at hM.below hM.bw)).mono ?_
   rintro e w11 ⟨kb,s⟩
   rw [cj.out] at s
   rcases s with ⟨h0,_⟩ | ⟨_,y,rfl,N,F,a8⟩
   ·exact absurd h0 cf.out
   have ae:=hid F
   have a3:=hid a8
   clear F a8;replace v:=zab v kb;replace rv:=zab rv kb;replace hM:=hM.on kb;replace y4:=cellS kb y4;replace y5:=cellS kb y5;replace ca:=cellS kb ca;replace x5:=cellS kb x5;replace e5:=cellS kb e5;clear kb
   refine bkq hK ⟨y4,y5,ca,x5,e5⟩ (h:=fun hHeld=>?_)
   clear hK K
   refine tkq 9 (h:=tkq 10 (h:=tkq 11 (h:=?_)))
  rotate_left
  all_goals
   refine rdq 13 (h:=fun K hK=>?_)
   have z0:=rv.frozen 0
   have v0:=qc0 rv
   replace hM:=hM.boxed (j:=0) a0.out (.int .i64 (y:Nat))
   replace v:=v.setOther (a:=⟨vb,0,none⟩) (by simpa using ac) (.int .i64 (y:Nat))
   replace y4:=zaa (p:=⟨vb,0,none⟩) (u:=(.int .i64 (y:Nat))) y4 (fun e=>a0.out.2.2.2.1 e.symm)
   replace y5:=zaa (p:=⟨vb,0,none⟩) (u:=(.int .i64 (y:Nat))) y5 (fun e=>a0.out.2.2.2.2.1 e.symm)
   replace x5:=zaa (p:=⟨vb,0,none⟩) (u:=(.int .i64 (y:Nat))) x5 (fun e=>a0.out.1 e.symm)
   replace e5:=zaa (p:=⟨vb,0,none⟩) (u:=(.int .i64 (y:Nat))) e5 (fun e=>(a0.out.2.1 a hal) e.symm)
   replace ca:=zaa (p:=⟨vb,0,none⟩) (u:=(.int .i64 (y:Nat))) ca ac
   replace rv:=(rv.set 0 (.int .i64 (y:Nat))).congr (g:=fun _=>(.int .i64 (y:Nat))) fun i hi=>by
    obtain rfl:i=0:=by omega
    rfl
   go_simp
   clear z0 v0
   obtain ⟨w12,hw⟩:=exx (World.setCell w11 ⟨vb,0,none⟩ (.int .i64 (y:Nat)))
   rw [<-hw] at hM v rv y4 y5 ca x5 e5 ⊢;clear hw
   refine bkq hK ⟨y4,y5,ca,x5,e5⟩ (h:=fun hHeld=>?_)
   clear hK K
   refine tkq 14 (h:=?_)
   refine wpAnyH_done (by kernel_rfl) ?_ _
   clear hHeld
   go_wp2
   go_meet
   exact ⟨vb,y,rfl,rfl,N,ae,a3,hid rv,hid v,a0.out.1,hid hM⟩
 clear y4 y5 ca x5 e5 C Y
 obtain ⟨vb,y,rfl,rfl,N,ae,a3,bk,l,bx,HM⟩:=hcut
 have cv:=qc0 bk.out
 go_upto_if 92 with fail
 go_cut [] (fun wx=>∃ (r2:Nat->RowAt) (W2:Nat->Nat->Nat),Hid (wx.rowIs ab 3 1 (fun _=>.int .i64 (a:Nat)))/\Hid (∀ i,i<n->ab≠(r2 i).b)/\Hid (EchP (P ^ M) n kc c0 a 0 p W2)/\Hid (RowOps (P ^ M) (addF P M) (mulF P M m) n kc V W2)/\Hid (EMem w wx base g tb o n c kc b4 b5 b7 a (.slice PA a pc) r2 W2 p))
 case first =>
  by_cases h1:y=1
  ·have cq:((y:Int) != 1)=false:=by simp; omega
   have hW:Hid (W1 a c0=1):=by
    have:=a3.out
    rw [h1,hL.mulOne ar] at this
    show _=_
    rw [<-af.out,this]
   clear h1
   go_wp2
   go_meet
   exact ⟨r1,W1,l,a7,hid (a2.out.one_piv hal hW.out),an,HM⟩
  have cq:((y:Int) != 1)=true:=by simp; omega
  clear h1
  have y4:=qc0 HM.out.b4
  have y5:=qc0 HM.out.b5
  have y7:=qc0 HM.out.b7
  have ca:=qc0 l.out
  have cp:Hid (mulF P M m y (W1 a c0)=1):=by
   show _=_
   rw [<-af.out,hL.mulComm y x N ar]
   exact a3.out
  go_wp2_with fail
  refine (zgw (a5.out.below' HM.out.below) HM.out.bw HM.out.tab hal (fun j hj=>a2.out.lt a hal j hj) N hK2 y4 cv ca (zaC HM.out.b4 HM.out.tab.tab (by decide)) bx J.out.1 y5 y7 (zaC HM.out.b7 HM.out.tab.tab (by decide))).mono ?_
  rintro e w10 ⟨q,hq,rfl,hg,cb⟩
  have U:=HM.out.ap
  have bz:=HM.out.pv.lt
  have bo:=hid (HM.out.tabbed hg cb (fun i hi=>by
   by_cases e1:i=a
   ·simp only [if_pos e1]; exact fun e=>by have:=(bz _ e).2; omega
   ·simp only [if_neg e1]; exact U i hi))
  have bf:=l.out.lt
  have Z:=hid (zay l.out hg J.out.1)
  have bt:Hid (∀ i,i<n->ab≠(if i=a then (⟨q,0,kc⟩:RowAt) else r1 i).b):=fun i hi=>by
   by_cases e1:i=a
   ·rw [if_pos e1]; show ab≠q; omega
   ·rw [if_neg e1]; exact a7.out i hi
  clear hg cb U bz y4 y5 y7 ca cv hq bf HM l bk
  go_wp2
  go_meet
  exact ⟨_,_,Z,bt,hid (a2.out.scale hL hal N cp.out),hid (an.out.scale hal N ae.out),bo⟩
 clear HM l bk cv a7 a2 an af bx a3 ae
 obtain ⟨r2,W2,l,a7,cl,cg,HM⟩:=hcut
 have y5:=qc0 HM.out.b5
 go_wp2
 clear y5
 go_loopg [98] n (fun g3 iv wx=>∃ (i:Nat) (W3:Nat->Nat->Nat),iv=.int .i64 (i:Nat)/\i<=n/\n<=i+g3/\Hid (EchP (P ^ M) n kc c0 a i p W3)/\Hid (RowOps (P ^ M) (addF P M) (mulF P M m) n kc V W3)/\Hid (wx.rowIs ab 3 1 (fun _=>.int .i64 (a:Nat)))/\Hid (EMem w wx base g tb o n c kc b4 b5 b7 a (.slice PA a pc) r2 W3 p))
 case atStart=>exact ⟨0,W2,rfl,by omega,by omega,cl,cg,l,HM⟩
 clear HM l cl cg
 obtain ⟨i,W3,rfl,hi,dh,a6,am,l,HM⟩:=hrel
 have di:(0:Int)<=(i:Int):=by omega
 by_cases hil:i<n
 rotate_left
 ·have b2:¬ (i:Int)<(n:Int):=by omega
  have c2:i=n:=by omega
  have a1:=hid (EchP.done (q:=P ^ M) (n:=n) (k:=kc) (c:=c0) (a:=a) (pv:=p) (W:=W3) (by have h:=a6.out; rw [c2] at h; exact h))
  clear c2
  have kb:=(Below.refl wr.heap.size wr).alloc (Nat.le_refl _) (Obj.cells #[Value.int .i64 (c0:Nat)] 3)
  have C:=hid (HM.out.on kb)
  have cm:Hid ((wr.alloc (Obj.cells #[Value.int .i64 (c0:Nat)] 3)).cell? ((⟨wr.heap.size,0,none⟩:Addr).add 0)=some (.int .i64 (c0:Nat))):=tbox2
  have ch:=hid C.out.pv
  have d3:=hid C.out.bw
  have dc:Hid (a<=1048576):=by show _<=_; omega
  clear kb HM
  go_wp2_with (first | (at_builtin; (refine zaP rfl (.tmp 119) (.tmp 121) rfl ch.out rfl (ad:=⟨wr.heap.size,0,none⟩) (c:=1) rfl cm.out d3.out dc.out ?_); intro v9 w9 o1 o2 o3))
  have d8:=hid (C.out.pushed o1 o2 o3)
  obtain ⟨PA9,pc9,ct⟩:=o1.shape
  subst ct
  clear o1 o2 o3 C ch cm
  go_wp2
  go_roundg (gO - 1)
  case measure=>omega
  case rel=>exact ⟨d2,a+1,c0+1,pc9,PA9,_,r2,W3,rfl,rfl,by go_num,by omega,by omega,a1,am,d8⟩
 have b2:(i:Int)<(n:Int):=by omega
 go_upto_region 22 with fail
 have I:=aly wr (Obj.cells #[Value.int .i64 (i:Nat)] 3)
 obtain ⟨w11,Q⟩:=exx (wr.alloc (Obj.cells #[Value.int .i64 (i:Nat)] 3))
 have ri:w11.rowIs wr.heap.size 3 1 (fun _=>.int .i64 (i:Nat)):=by rw [Q]; exact boxRow
 have b9:=HM.out.far (Nat.le_refl wr.heap.size)
 rw [<-Q] at I ⊢
 have G:=hid (HM.out.on I)
 have ah:=hid (zab l.out I)
 obtain ⟨ib,c3⟩:=exx wr.heap.size
 rw [<-c3] at ri b9 ⊢
 have da:=hid b9
 clear HM l Q c3 I b9
 have ci:=qc0 ri
 have y5:=qc0 G.out.b5
 have x6:=G.out.tab.cell hil
 have e6:=G.out.tab.entry hil T
 obtain ⟨y2,aj⟩:=exx (W3 i c0)
 rw [<-aj] at e6
 have aq:y2<P ^ M:=by rw [aj]; exact a6.out.ech.lt i hil c0 T
 have ce:=hid aj
 clear aj
 go_upto_region 23 with fail
 clear y5 x6 e6 ci
 have E:=aly w11 (Obj.cells #[Value.int .i64 (y2:Nat)] 3)
 obtain ⟨w12,O⟩:=exx (w11.alloc (Obj.cells #[Value.int .i64 (y2:Nat)] 3))
 have rx:w12.rowIs w11.heap.size 3 1 (fun _=>.int .i64 (y2:Nat)):=by rw [O]; exact boxRow
 have b6:=G.out.far (Nat.le_refl w11.heap.size)
 rw [<-O] at E ⊢
 have B:=hid (G.out.on E)
 have D:=hid (zab ah.out E)
 replace ri:=zab ri E
 obtain ⟨xb,bu⟩:=exx w11.heap.size
 rw [<-bu] at rx b6 ⊢
 have d9:=hid b6
 clear G ah O bu E b6
 have ci:=qc0 ri
 have cx:=qc0 rx
 have ca:=qc0 D.out
 clear ri rx
 by_cases hia:i=a
 ·have b3:((i:Int) != (a:Int))=false:=by simp [hia]
  have a1:=hid (a6.out.skip (.inl hia))
  clear hia
  go_wp2
  go_roundg (gk - 1)
  case measure=>omega
  case rel=>exact ⟨i+1,W3,by go_num,by omega,by omega,a1,am,D,B⟩
 have b3:((i:Int) != (a:Int))=true:=by simp; omega
 by_cases F:y2=0
 ·have co:((y2:Int) != 0)=false:=by simp [F]
  have a1:=hid (a6.out.skip (.inr (by rw [<-ce.out,F])))
  clear hia F
  go_wp2
  go_roundg (gk - 1)
  case measure=>omega
  case rel=>exact ⟨i+1,W3,by go_num,by omega,by omega,a1,am,D,B⟩
 have co:((y2:Int) != 0)=true:=by simp; omega
 have bq:=hid hia
 clear hia F
 have y4:=qc0 B.out.b4
 have y5:=qc0 B.out.b5
 have y7:=qc0 B.out.b7
 have bl:=hid (B.out.tab.row i hil)
 go_wp2_with fail
 refine (zgx (a5.out.below' B.out.below) B.out.bw B.out.tab hal hil bq.out (fun u hu j hj=>a6.out.ech.lt u hu j hj) aq hK2 y4 ci cx ca (zaC B.out.b4 bl.out (by decide)) (da.out.2.1 i hil) (d9.out.2.1 i hil) (a7.out i hil) y5 y7 (zaC B.out.b7 bl.out (by decide))).mono ?_
 rintro e w13 ⟨rfl,hg,c9⟩
 have bo:=hid (B.out.rowed hil hg c9)
 have Z:=hid (zay D.out hg (a7.out i hil))
 have a1:=hid (a6.out.clear hL T hil bq.out (e:=negF P M y2) (zb8 bi) (by rw [<-ce.out]; exact zbK bi))
 have d7:=hid (am.out.add hil hal bq.out (e:=negF P M y2) (zb8 bi))
 clear hg c9 y4 y5 y7 ca ci cx B D bl
 go_wp2
 go_roundg (gk - 1)
 case measure=>omega
 case rel=>exact ⟨i+1,_,by go_num,by omega,by omega,a1,d7,Z,bo⟩
theorem Tryz.infoInts':(Tryz.prog.info? 22).map (fun i=>(i.zero,i.size,i.bytes))=some (some (.slice none 0 0),1,24):=by kernel_rfl
structure RowsAt (w:World) (base n k:Nat) (r:Nat->RowAt) (W:Nat->Nat->Nat):Prop where
 row:∀ i,i<n->Own w base 3 1 (.slice (some ⟨(r i).b,(r i).o,none⟩) k (r i).c) k (fun j _=>.int .i64 (W i j:Nat))
 apart:∀ i j,i<n->j<n->i≠j->(r i).b≠(r j).b
theorem RowsAt.on {w w':World} {base n k:Nat} {r:Nat->RowAt} {W:Nat->Nat->Nat} (h:RowsAt w base n k r W) (hb:Below w.heap.size w w'):RowsAt w' base n k r W:=⟨fun i hi=>(h.row i hi).on hb,h.apart⟩
theorem RowsAt.more {w:World} {base n k:Nat} {r:Nat->RowAt} {W:Nat->Nat->Nat} {q:RowAt} (h:RowsAt w base n k r W) (hq:Own w base 3 1 (.slice (some ⟨q.b,q.o,none⟩) k q.c) k (fun j _=>.int .i64 (W n j:Nat))) (ha:∀ i,i<n->(r i).b≠q.b):RowsAt w base (n+1) k (fun u=>if u=n then q else r u) W:=by
 refine ⟨fun i hi=>?_,fun i j hi hj hne=>?_⟩
 ·by_cases e:i=n
  ·subst e; simp only [if_pos]; exact hq
  ·simp only [if_neg e]; exact h.row i (by omega)
 show (if i=n then q else r i).b≠(if j=n then q else r j).b
 by_cases e1:i=n
 ·rw [if_pos e1,if_neg (by omega)]; exact fun e=>ha j (by omega) e.symm
 rw [if_neg e1]
 by_cases e2:j=n
 ·rw [if_pos e2]; exact ha i (by omega)
 ·rw [if_neg e2]; exact h.apart i j (by omega) (by omega) hne
theorem zhK {w:World} {base e s n b o c a:Nat} {f:Nat->Nat->Value} (h:Own w base e s (.slice (some ⟨b,o,none⟩) n c) n f) (ha:a<=n):Own w base e s (.slice (some ⟨b,o,none⟩) a a) a f:=by
 rcases h with ⟨h1,_⟩ | ⟨g,o',cap,cur,h1,h3,h4,h5,h6,h7,h8⟩
 ·cases h1
 injection h1 with e1 e2 e3
 injection e1 with e1
 injection e1 with e1 e4
 subst e1 e4 e3
 refine .inr ⟨_,_,_,cur,rfl,h3,h4,Nat.le_refl _,by omega,?_,fun i hi=>h8 i (by omega)⟩
 have:=Nat.mul_le_mul_right s (show a<=c by omega)
 omega
def MClonePost (n k:Nat) (W:Nat->Nat->Nat) (w:World) (e:Ending) (w':World):Prop :=
 ∃ tb r,e=.returned (.slice (some ⟨tb,0,none⟩) n n)/\DTab w' w.heap.size tb 0 n n k r W/\Below w.heap.size w w'
theorem zgy (T:Option Addr) (n k c:Nat) (W:Nat->Nat->Nat) (w:World) (h:MRows w T n k W) (hk:0<k) (hk2:k<=1048576) (hn:n<=1048576) :
  Calls Tryz.prog 239 #[.slice T n c] w (MClonePost n k W w):=by
 have HR:=hid h
 clear h
 have F:=fun W=>zaf (P:=Tryz.prog) 25 22 _ 24 Tryz.underlying25 Tryz.infoInts' rfl (n:Int) (by omega) (by omega) (by omega) W
 simp only [Int.toNat_natCast] at F
 go_enter Tryz.func239, Tryz.ntmps239
 go_upto_region 2 with fail
 have hB:=(Below.refl w.heap.size w).alloc (Nat.le_refl _) (Obj.cells (madeCells #[Value.slice none 0 0] n) 22)
 have rt:=World.rowIs_made w (.slice none 0 0) n 22
 obtain ⟨w1,C⟩:=exx (w.alloc (Obj.cells (madeCells #[Value.slice none 0 0] n) 22))
 obtain ⟨tb,x⟩:=exx w.heap.size
 rw [<-C] at hB rt ⊢;rw [<-x] at rt ⊢
 have D:w.heap.size<=tb:=by omega
 have R:=hid x
 clear C x F
 have l:=hid (rt.congr (g:=fun u=>if u<0 then Value.slice (some ⟨(⟨0,0,0⟩:RowAt).b,0,none⟩) k 0 else .slice none 0 0) fun u _=>rfl)
 clear rt
 go_wp2
 go_loopg [11] n (fun gg iv wx=>∃ (i:Nat) (r:Nat->RowAt),iv=.int .i64 (i:Nat)/\i<=n/\n<=i+gg/\Hid (wx.rowIs tb 22 n (fun u=>if u<i then Value.slice (some ⟨(r u).b,(r u).o,none⟩) k (r u).c else .slice none 0 0))/\Hid (RowsAt wx w.heap.size i k r W)/\Hid (Below w.heap.size w wx))
 case atStart=>exact ⟨0,fun _=>⟨0,0,0⟩,rfl,by omega,by omega,l.out.congr fun u _=>rfl,⟨fun i hi=>absurd hi (by omega),fun i j hi=>absurd hi (by omega)⟩,hB⟩
 clear l hB
 obtain ⟨i,r,rfl,hi,O,l,v,HB⟩:=hrel
 have Q:(0:Int)<=(i:Int):=by omega
 by_cases hlt:i<n
 rotate_left
 ·have y:¬ (i:Int)<(n:Int):=by omega
  have G:i=n:=by omega
  have HD:Hid (DTab wr w.heap.size tb 0 n n k r W):=by
   have h1:=l.out
   have h2:=v.out
   rw [G] at h1 h2
   exact ⟨(zbW h1 D (by unfold maxLen; omega)).congr fun u hu _ _=>by rw [if_pos hu],h2.row,h2.apart⟩
  clear G
  go_wp2
  go_ret
  exact ⟨tb,r,rfl,HD.out,HB.out⟩
 have y:(i:Int)<(n:Int):=by omega
 obtain ⟨b,o,RA,rc,hT,hb,x0,E,_,m,_⟩:=(HR.out.on HB.out) i hlt
 subst hT
 have s:=hid m
 have J:=hid E
 clear m E
 go_wp2_with fail
 refine (zaq RA k rc (fun j=>((W i j:Nat):Int)) wr s.out J.out hk2).mono ?_
 rintro e w2 ⟨A,c2,rfl,hO,kb⟩
 obtain ⟨g,go,gc,hv,M,_⟩:=hO.form hk
 injection hv with hv e2 e3
 subst hv e3
 have I:=HB.out.size
 have H:∀ u,u<i->(r u).b≠g:=fun u hu=>by have h1:(r u).b<wr.heap.size:=((v.out.row u hu).lt _ rfl).2; omega
 have d:=hid ((v.out.on kb).more (q:=⟨g,go,c2⟩) (hO.mono I) H)
 have a:=hid (zab l.out kb)
 have K:=hid (onS HB.out kb)
 have L:(0:Int)<=(i:Int):=by omega
 have v0:=a.out.cell hlt
 have z0:=a.out.frozen i
 have z:=hid ((a.out.set i (.slice (some ⟨g,go,none⟩) k c2)).congr (g:=fun u=>if u<i+1 then Value.slice (some ⟨(if u=i then (⟨g,go,c2⟩:RowAt) else r u).b,(if u=i then (⟨g,go,c2⟩:RowAt) else r u).o,none⟩) k (if u=i then (⟨g,go,c2⟩:RowAt) else r u).c else .slice none 0 0) fun u hu=>by
  by_cases e:u=i
  ·subst e
   simp
  by_cases e2:u<i
  ·simp [e,e2,show u<i+1 by omega]
  ·simp [e,e2,show ¬ u<i+1 by omega])
 have B:Hid (RowsAt (w2.setCell ⟨tb,i,none⟩ (.slice (some ⟨g,go,none⟩) k c2)) w.heap.size (i+1) k (fun u=>if u=i then ⟨g,go,c2⟩ else r u) W):=⟨fun u hu=>(d.out.row u hu).setCell (fun e=>(zb0 a.out (d.out.row u hu) (by decide)).elim (fun h=>by rw [h] at e; cases e) fun h=>h e) _,d.out.apart⟩
 have N:=hid (K.out.setCell (p:=⟨tb,i,none⟩) (by show w.heap.size<=tb; exact D) (.slice (some ⟨g,go,none⟩) k c2))
 clear hO H kb M x0 I s J K d a HB v l
 go_wp2
 go_roundg (gk - 1)
 case measure=>omega
 case rel=>exact ⟨i+1,_,by go_num,by omega,by omega,z,B,N⟩
theorem zgz (P M g:Nat) (m:Nat->Nat) (T:Option Addr) (n d kc cols:Nat) (V:Nat->Nat->Nat) (w:World) (hG:GF w w.heap.size g P M m) (h:MRows w T n kc V) (hV:∀ i,i<n->∀ j,j<kc->V i j<P ^ M) (hcK:cols<=kc) (hK:0<kc) (hK2:kc<=1048576) (hn:n<=1048576) :
  Calls Tryz.prog 205 #[.pointer (some ⟨g,0,none⟩),.slice T n d,.int .i64 (cols:Nat)] w (CanonPost (P ^ M) (addF P M) (mulF P M m) n kc cols V w):=by
 have HG:=hid hG
 have HV:=hid hV
 have HR:=hid h
 clear hG hV h
 go_enter Tryz.func205, Tryz.ntmps205
 go_wp2_with fail
 refine (zgy T n kc d V w HR.out hK hK2 hn).mono ?_
 rintro e w1 ⟨tb,r,rfl,hD,hB⟩
 go_wp2_with fail
 refine (zhJ P M g w.heap.size tb 0 n n kc cols m r V w1 (HG.out.below' hB) hB.size hD HV.out hcK hK2 hn).mono ?_
 rintro e w2 ⟨pv,dd,a,c0,p,r2,W,rfl,b,hP,kb,hc,c,hE,hR⟩
 have HB:=hid (hB.trans kb)
 have HE:=hid (hE.full hc c)
 have o:=hid hR
 have l:=hE.le
 obtain ⟨PA,pc,k⟩:=hP.shape
 subst k
 have HP:=hid hP
 have HT:Hid (MTab w2 w.heap.size (.slice (some ⟨tb,0,none⟩) a a) a kc W):=⟨_,zhK b.tab l,fun i hi=>b.row i (by omega)⟩
 have s:(0:Int)<=(a:Int):=by omega
 have q:(a:Int)<=(n:Int):=by omega
 clear hB kb hD b hP hE hR hc c
 go_wp2
 go_ret2
 exact ⟨_,_,a,p,W,rfl,HT.out,HP.out,HB.out,HE.out,o.out⟩
end Go.Proofs.YtgekjfpapmlndaaGreat