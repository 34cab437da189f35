/- Merged texts of a claim: TabRow, TabAll, Gf3, Gf4, ElAll, Cyc. -/
import Derived.Test.YtgekjfpapmlndaaGreatTZ2
namespace Go.Proofs.YtgekjfpapmlndaaGreat
set_option maxRecDepth 100000
set_option maxHeartbeats 32000000
open KB KE
open Go.RowKit
theorem zcE {w:World} {p q:Addr} {u v:Value} (h:w.cell? q=some v) (hne:q≠p):(w.setCell p u).cell? q=some v :=
 (World.cell?_setCell_other w p q u (fun e=>hne (by rw [e]))).trans h
theorem zaa {w:World} {p q:Addr} {u v:Value} (h:w.cell? q=some v) (hne:q.block≠p.block):(w.setCell p u).cell? q=some v :=
 (World.cell?_setCell_other w p q u (fun e=>hne (by rw [e]))).trans h
theorem zhj {w wr:World} {o1 o2:Obj} (h:Below (w.heap.size+2) ((w.alloc o1).alloc o2) wr):Below (w.heap.size+1) (w.alloc o1) wr:=((Below.refl _ _).alloc (by simp) _).trans (h.mono (by omega))
theorem zdY {w wr:World} {o1:Obj} {cs:Array Value} {T:TypeId} (h:Below (w.heap.size+2) ((w.alloc o1).alloc (.cells cs T)) wr):wr.rowIs (w.heap.size+1) T cs.size (fun i=>cs.getD i undef):=by
 have h1:=World.rowIs_alloc (w.alloc o1) cs T (fun i=>cs.getD i undef) (fun i hi=>by simp [hi])
 simp only [World.size_alloc] at h1
 exact h1.of_block (h.block _ (by omega))
structure TabOwn (w:World) (g base te e s m:Nat) (F:Nat->Value) (n:Nat->Nat) (f:Nat->Nat->Nat->Value):Prop where
 row:w.rowIs g te m F
 own:∀ v,v<m->Own w base e s (F v) (n v) (f v)
 apart:∀ v u,v<m->u<m->v≠u->(F v).ownBlock=none∨(F v).ownBlock≠(F u).ownBlock
section
variable {w w':World} {g base te e s m:Nat} {F:Nat->Value} {n:Nat->Nat} {f:Nat->Nat->Nat->Value}
theorem TabOwn.put (h:TabOwn w g base te e s m F n f) (hgb:g<base) {v:Nat} (hv:v<m) {v':Value} {n':Nat} {f':Nat->Nat->Value} (hown:Own w' base e s v' n' f') (hg:w.grownBy w' (F v).ownBlock) (hat:v'.ownBlock=(F v).ownBlock∨v'.ownBlock=some w.heap.size) :
  TabOwn (w'.setCell ⟨g,v,none⟩ v') g base te e s m (fun u=>if u=v then v' else F u) (fun u=>if u=v then n' else n u) (fun u=>if u=v then f' else f u):=by
 have c:∀ u,u<m->∀ k,(F u).ownBlock=some k->base<=k/\k<w.heap.size:=fun u hu=>(h.own u hu).lt
 have d:g<w.heap.size:=h.row.lt
 refine ⟨?_,fun u hu=>?_,fun a b ha hb hab=>?_⟩
 ·have:w'.rowIs g te m F:=h.row.of_block (hg.block g d (fun e=>by have:=(c v hv g e.symm).1; omega))
  exact (this.set v v').congr fun u _=>by split <;> rfl
 ·by_cases e:u=v
  ·subst e
   simp only [if_true]
   exact hown.setCell (fun e=>by have:=(hown.lt _ e).1; simp at this; omega) _
  simp only [if_neg e]
  have hk:Own w' base _ s (F u) (n u) (f u):=(h.own u hu).kept hg (h.apart u v hu hv e)
  exact hk.setCell (fun e=>by have:=(hk.lt _ e).1; simp at this; omega) _
 by_cases ea:a=v
 ·have eb:¬ b=v:=fun e=>hab (by rw [ea,e])
  simp only [if_pos ea,if_neg eb]
  subst ea
  rcases hat with h1 | h1
  ·rw [h1]; exact h.apart a b ha hb hab
  right
  rw [h1]
  intro e2
  have:=(c b hb _ e2.symm).2
  omega
 simp only [if_neg ea]
 by_cases eb:b=v
 rotate_left
 ·simp only [if_neg eb]; exact h.apart a b ha hb hab
 simp only [if_pos eb]
 subst eb
 rcases hat with h1 | h1
 ·rw [h1]; exact h.apart a b ha hb hab
 rw [h1]
 cases hfa:(F a).ownBlock with
 | none=>exact .inl rfl
 | some k =>
  right
  intro e2
  injection e2 with e2
  have:=(c a ha k hfa).2
  omega
end
def atF (P M:Nat) (m:Nat->Nat) (a:Nat) (v u:Nat->Nat) (t:Nat):Nat:=if u t=0 then v t else addF P M (v t) (mulF P M m a (u t))
theorem zgh (P M:Nat) (A:Option Addr) (k c:Nat) (m:Nat->Nat) (a:Nat) (V:Option Addr) (n d:Nat) (v:Nat->Nat) (w:World) (hf:FldOk P M) (hm:ModOk w P M A m) (hkM:M=1∨k=M) (ha:a<P ^ M)
  (h:IntsR w w.heap.size V n (fun i=>(v i:Nat))) (hv:∀ i,i<n->v i<P ^ M) (hn:n<=1048576) :
  Calls Tryz.prog 225 #[.agg #[.int .i64 (P:Nat),.int .i64 (M:Nat),.slice A k c],.int .i64 (a:Nat),.slice V n d] w (RowPost n (fun i=>.int .i64 (mulF P M m a (v i):Nat)) w):=by
 obtain ⟨w0,o,hB,rf⟩:=zaj w (.int .i64 (P:Nat)) (.int .i64 (M:Nat)) (.slice A k c) 24
 have q:=fun W=>zaf (P:=Tryz.prog) 22 3 _ 8 Tryz.underlying22 Tryz.infoInt rfl (n:Int) (by omega) (by omega) (by omega) W
 simp only [Int.toNat_natCast] at q
 go_enter Tryz.func225, Tryz.ntmps225
 go_upto_region 1 with fail
 rw [<-o];clear o
 go_upto_region 2 with fail
 have kb:=(Below.refl w0.heap.size w0).alloc (Nat.le_refl _) (Obj.cells (madeCells #[Value.int .i64 0] n) 3)
 have ra:=World.rowIs_made w0 (.int .i64 0) n 3
 have y:=rf.lt
 have F:=hB.size
 obtain ⟨w1,b⟩:=exx (w0.alloc (Obj.cells (madeCells #[Value.int .i64 0] n) 3))
 obtain ⟨g,hg⟩:=exx w0.heap.size
 rw [<-b] at kb ra ⊢;rw [<-hg] at ra y F ⊢;replace rf:=zab rf kb;replace hB:=onS hB kb
 have j:w.heap.size≠g:=by omega
 have s:w.heap.size<=g:=by omega
 clear kb b hg q y
 have E:=zal ha
 have HV:=hid h
 have L:=hid hv
 clear h hv
 go_wp2
 go_loopg [8] n (fun gg iv wx=>∃ i:Nat,iv=.int .i64 (i:Nat)/\i<=n/\n<=i+gg/\wx.rowIs g 3 n (fun t=>.int .i64 ((if t<i then mulF P M m a (v t) else 0:Nat):Int))/\wx.rowIs w.heap.size 24 3 (fldCell (.int .i64 (P:Nat)) (.int .i64 (M:Nat)) (.slice A k c))/\Below w.heap.size w wx)
 case atStart=>exact ⟨0,rfl,by omega,by omega,ra.congr fun t _=>by rw [if_neg (by omega)]; rfl,rf,hB⟩
 clear ra rf hB
 obtain ⟨i,rfl,hi,O,ra,rf,hB⟩:=hrel
 have Q:(0:Int)<=(i:Int):=by omega
 by_cases hlt:i<n
 rotate_left
 ·have l:¬ (i:Int)<(n:Int):=by omega
  obtain rfl:i=n:=by omega
  have hr:=ra.congr (g:=fun t=>.int .i64 (mulF P M m a (v t):Nat)) fun t ht=>by rw [if_pos ht]
  clear ra
  go_wp2
  go_ret
  exact ⟨g,rfl,s,hr,hB⟩
 have l:(i:Int)<(n:Int):=by omega
 obtain ⟨vb,vo,rfl,C,x0⟩:=HV.out.at hlt
 have B:vb≠g:=by omega
 replace x0:=(hB.cell (p:=⟨vb,vo+i,none⟩) C).trans x0
 obtain ⟨x,hx⟩:=exx (v i)
 have D:inV (P ^ M) (x:Nat)=x:=by rw [hx]; exact zal (L.out i hlt)
 rw [<-hx] at x0
 have HX:=hid hx
 clear hx
 have q0:=qc0 rf
 have q1:=qc1 rf
 have q2:=qc2 rf
 obtain ⟨w1,b⟩:=exx wr
 subst b
 go_wp2
 refine wp_region_held_drew (S:=fun w'=>w'.cell? ⟨w.heap.size,0,none⟩=some (.int .i64 (P:Nat))/\w'.cell? ⟨w.heap.size,1,none⟩=some (.int .i64 (M:Nat))/\w'.cell? ⟨w.heap.size,2,none⟩=some (.slice A k c)/\w'.cell? ⟨vb,vo+i,none⟩=some (.int .i64 (x:Nat))) (by kernel_rfl) ⟨cellS (Below.refl _ _).drew q0,cellS (Below.refl _ _).drew q1,cellS (Below.refl _ _).drew q2,cellS (Below.refl _ _).drew x0⟩ (fun hHeld=>?_)
 obtain ⟨w2,hw,kb⟩:=dwx w1
 rw [<-hw] at hHeld ⊢;clear hw;replace ra:=zab ra kb;replace rf:=zab rf kb;replace hB:=onS hB kb;replace q0:=cellS kb q0;replace q1:=cellS kb q1;replace q2:=cellS kb q2;replace x0:=cellS kb x0;clear kb
 refine tkq 0 (h:=tkq 1 (h:=tkq 2 (h:=tkq 3 (h:=tkq 4 (h:=tkq 5 (h:=tkq 6 (h:=tkq 7 (h:=?_))))))))
 refine rdq 8 (h:=fun K hK=>?_)
 go_simp
 go_wp2_with fail
 refine (zcQ P M A k c m (a:Nat) (x:Nat) w2 hf (zaL hm hB) hkM).mono ?_
 rintro e w3 ⟨rfl,kb⟩
 replace ra:=zab ra kb;replace rf:=zab rf kb;replace hB:=onS hB kb;replace q0:=cellS kb q0;replace q1:=cellS kb q1;replace q2:=cellS kb q2;replace x0:=cellS kb x0;clear kb;rw [E,D]
 obtain ⟨r,hr⟩:=exx (mulF P M m a x)
 rw [<-hr]
 have HR:=hid hr
 clear hr
 refine bkq hK ⟨q0,q1,q2,x0⟩ (h:=fun hHeld=>?_)
 clear hK K
 refine tkq 9 (h:=?_)
 refine rdq 10 (h:=fun K hK=>?_)
 have y0:=ra.cell hlt
 have z0:=ra.frozen i
 have ra9:=ra.set i (.int .i64 (r:Nat))
 have rf9:=rf.setOther (a:=⟨g,i,none⟩) (by simpa using j) (.int .i64 (r:Nat))
 have z:=hB.setCell (p:=⟨g,i,none⟩) s (.int .i64 (r:Nat))
 have q09:=zaa (p:=⟨g,i,none⟩) (u:=.int .i64 (r:Nat)) q0 j
 have q19:=zaa (p:=⟨g,i,none⟩) (u:=.int .i64 (r:Nat)) q1 j
 have q29:=zaa (p:=⟨g,i,none⟩) (u:=.int .i64 (r:Nat)) q2 j
 have x09:=zaa (p:=⟨g,i,none⟩) (u:=.int .i64 (r:Nat)) x0 B
 have RA:=hid ra9
 have RF:=hid rf9
 have N:=hid z
 have J:=hid q09
 have I:=hid q19
 have H:=hid q29
 have G:=hid x09
 clear ra rf hB ra9 rf9 z q0 q1 q2 x0 q09 q19 q29 x09
 go_simp
 clear y0 z0
 refine bkq hK ⟨J.out,I.out,H.out,G.out⟩ (h:=fun hHeld=>?_)
 clear hK K
 refine wpAnyH_done (by kernel_rfl) ?_ _
 clear hHeld
 go_wp2
 go_roundg (gk - 1)
 case measure=>omega
 refine ⟨i+1,by go_num,by omega,by omega,RA.out.congr fun t ht=>?_,RF.out,N.out⟩
 show (if t=i then Value.int .i64 (r:Nat) else .int .i64 ((if t<i then mulF P M m a (v t) else 0:Nat):Int))=.int .i64 ((if t<i+1 then mulF P M m a (v t) else 0:Nat):Int)
 by_cases e:t=i
 ·subst e; rw [if_pos rfl,if_pos (by omega),HR.out,HX.out]
 rw [if_neg e]
 by_cases e2:t<i
 ·rw [if_pos e2,if_pos (by omega)]
 ·rw [if_neg e2,if_neg (by omega)]
theorem zer (P M:Nat) (A:Option Addr) (k c:Nat) (m:Nat->Nat) (a:Nat) (V U:Option Addr) (n d n' d':Nat) (v u:Nat->Nat) (w:World) (hf:FldOk P M) (hm:ModOk w P M A m) (hkM:M=1∨k=M) (ha:a<P ^ M)
  (h:IntsR w w.heap.size V n (fun i=>(v i:Nat))) (hv:∀ i,i<n->v i<P ^ M) (h2:IntsR w w.heap.size U n' (fun i=>(u i:Nat))) (hu:∀ i,i<n->u i<P ^ M) (hnn:n<=n') (hn:n<=1048576) :
  Calls Tryz.prog 89 #[.agg #[.int .i64 (P:Nat),.int .i64 (M:Nat),.slice A k c],.slice V n d,.int .i64 (a:Nat),.slice U n' d'] w (RowPost n (fun i=>.int .i64 (atF P M m a v u i:Nat)) w):=by
 obtain ⟨w0,B,hB,rf⟩:=zaj w (.int .i64 (P:Nat)) (.int .i64 (M:Nat)) (.slice A k c) 24
 have F:=fun W=>zaf (P:=Tryz.prog) 22 3 _ 8 Tryz.underlying22 Tryz.infoInt rfl (n:Int) (by omega) (by omega) (by omega) W
 simp only [Int.toNat_natCast] at F
 go_enter Tryz.func89, Tryz.ntmps89
 go_upto_region 1 with fail
 rw [<-B];clear B
 go_upto_region 2 with fail
 have kb:=(Below.refl w0.heap.size w0).alloc (Nat.le_refl _) (Obj.cells (madeCells #[Value.int .i64 0] n) 3)
 have ra:=World.rowIs_made w0 (.int .i64 0) n 3
 have G:=rf.lt
 have R:=hB.size
 obtain ⟨w1,z⟩:=exx (w0.alloc (Obj.cells (madeCells #[Value.int .i64 0] n) 3))
 obtain ⟨g,hg⟩:=exx w0.heap.size
 rw [<-z] at kb ra ⊢;rw [<-hg] at ra G R ⊢;replace rf:=zab rf kb;replace hB:=onS hB kb
 have b:w.heap.size≠g:=by omega
 have l:w.heap.size<=g:=by omega
 clear kb z hg F G
 have Q:=zal ha
 have HV:=hid h
 have a2:=hid hv
 have HU:=hid h2
 have a3:=hid hu
 clear h hv h2 hu
 go_wp2
 go_loopg [10] n (fun gg iv wx=>∃ i:Nat,iv=.int .i64 (i:Nat)/\i<=n/\n<=i+gg/\wx.rowIs g 3 n (fun t=>.int .i64 ((if t<i then atF P M m a v u t else 0:Nat):Int))/\wx.rowIs w.heap.size 24 3 (fldCell (.int .i64 (P:Nat)) (.int .i64 (M:Nat)) (.slice A k c))/\Below w.heap.size w wx)
 case atStart=>exact ⟨0,rfl,by omega,by omega,ra.congr fun t _=>by rw [if_neg (by omega)]; rfl,rf,hB⟩
 clear ra rf hB
 obtain ⟨i,rfl,hi,a6,ra,rf,hB⟩:=hrel
 have a7:(0:Int)<=(i:Int):=by omega
 by_cases hlt:i<n
 rotate_left
 ·have j:¬ (i:Int)<(n:Int):=by omega
  obtain rfl:i=n:=by omega
  have hr:=ra.congr (g:=fun t=>.int .i64 (atF P M m a v u t:Nat)) fun t ht=>by rw [if_pos ht]
  clear ra
  go_wp2
  go_ret
  exact ⟨g,rfl,l,hr,hB⟩
 have j:(i:Int)<(n:Int):=by omega
 have L:(i:Int)<(n':Int):=by omega
 obtain ⟨vb,vo,rfl,I,x0⟩:=HV.out.at hlt
 obtain ⟨ub,uo,rfl,J,u0⟩:=HU.out.at (i:=i) (by omega)
 have C:vb≠g:=by omega
 have D:ub≠g:=by omega
 replace x0:=(hB.cell (p:=⟨vb,vo+i,none⟩) I).trans x0;replace u0:=(hB.cell (p:=⟨ub,uo+i,none⟩) J).trans u0
 obtain ⟨x,hx⟩:=exx (v i)
 have O:inV (P ^ M) (x:Nat)=x:=by rw [hx]; exact zal (a2.out i hlt)
 rw [<-hx] at x0
 have HX:=hid hx
 obtain ⟨y,hy⟩:=exx (u i)
 have N:inV (P ^ M) (y:Nat)=y:=by rw [hy]; exact zal (a3.out i hlt)
 rw [<-hy] at u0
 have HY:=hid hy
 clear hx hy
 have y9:=ra.cell hlt
 have z9:=ra.frozen i
 go_upto_region 6 with fail
 have ra2:=ra.set i (.int .i64 (x:Nat))
 have rf2:=rf.setOther (a:=⟨g,i,none⟩) (by simpa using b) (.int .i64 (x:Nat))
 have o:=hB.setCell (p:=⟨g,i,none⟩) l (.int .i64 (x:Nat))
 have x2:=zaa (p:=⟨g,i,none⟩) (u:=.int .i64 (x:Nat)) x0 C
 have u2:=zaa (p:=⟨g,i,none⟩) (u:=.int .i64 (x:Nat)) u0 D
 obtain ⟨w2,q⟩:=exx (wr.setCell ⟨g,i,none⟩ (.int .i64 (x:Nat)))
 rw [<-q] at ra2 rf2 o x2 u2 ⊢;clear q ra rf hB x0 u0 y9 z9
 have ra:=ra2
 have rf:=rf2
 have hB:=o
 have x0:=x2
 have u0:=u2
 clear ra2 rf2 o x2 u2
 by_cases hy0:y=0
 ·have hc:((y:Int) != 0)=false:=by simp [hy0]
  have a1:=hid hy0
  have RA:=hid ra
  clear hy0 ra
  go_wp2
  go_roundg (gk - 1)
  case measure=>omega
  refine ⟨i+1,by go_num,by omega,by omega,RA.out.congr fun t ht=>?_,rf,hB⟩
  by_cases e:t=i
  ·subst e; rw [if_pos rfl,if_pos (by omega)]; show _=Value.int .i64 ((atF P M m a v u t:Nat):Int); unfold atF; rw [if_pos (by rw [<-HY.out]; exact a1.out),HX.out]
  rw [if_neg e]
  by_cases e2:t<i
  ·rw [if_pos e2,if_pos (by omega)]
  ·rw [if_neg e2,if_neg (by omega)]
 have hc:((y:Int) != 0)=true:=by simp; omega
 have q0:=qc0 rf
 have q1:=qc1 rf
 have q2:=qc2 rf
 go_wp2
 refine wp_region_held_drew (S:=fun w'=>w'.cell? ⟨w.heap.size,0,none⟩=some (.int .i64 (P:Nat))/\w'.cell? ⟨w.heap.size,1,none⟩=some (.int .i64 (M:Nat))/\w'.cell? ⟨w.heap.size,2,none⟩=some (.slice A k c)/\w'.cell? ⟨vb,vo+i,none⟩=some (.int .i64 (x:Nat))/\w'.cell? ⟨ub,uo+i,none⟩=some (.int .i64 (y:Nat))) (by kernel_rfl) ⟨cellS (Below.refl _ _).drew q0,cellS (Below.refl _ _).drew q1,cellS (Below.refl _ _).drew q2,cellS (Below.refl _ _).drew x0,cellS (Below.refl _ _).drew u0⟩ (fun hHeld=>?_)
 obtain ⟨w3,hw,kb⟩:=dwx w2
 rw [<-hw] at hHeld ⊢;clear hw;replace ra:=zab ra kb;replace rf:=zab rf kb;replace hB:=onS hB kb;replace q0:=cellS kb q0;replace q1:=cellS kb q1;replace q2:=cellS kb q2;replace x0:=cellS kb x0;replace u0:=cellS kb u0;clear kb
 refine tkq 0 (h:=tkq 1 (h:=tkq 2 (h:=tkq 3 (h:=tkq 4 (h:=tkq 5 (h:=tkq 6 (h:=tkq 7 (h:=tkq 8 (h:=tkq 9 (h:=tkq 10 (h:=tkq 11 (h:=tkq 12 (h:=?_)))))))))))))
 refine rdq 13 (h:=fun K hK=>?_)
 go_simp
 go_wp2_with fail
 refine (zcQ P M A k c m (a:Nat) (y:Nat) w3 hf (zaL hm hB) hkM).mono ?_
 rintro e w4 ⟨rfl,kb⟩
 replace ra:=zab ra kb;replace rf:=zab rf kb;replace hB:=onS hB kb;replace q0:=cellS kb q0;replace q1:=cellS kb q1;replace q2:=cellS kb q2;replace x0:=cellS kb x0;replace u0:=cellS kb u0;clear kb;rw [Q,N]
 obtain ⟨r,hr⟩:=exx (mulF P M m a y)
 have E:inV (P ^ M) (r:Nat)=r:=by rw [hr]; exact zal (zaO (by have:=hf.1; omega) _ _)
 rw [<-hr]
 have HR:=hid hr
 clear hr
 refine bkq hK ⟨q0,q1,q2,x0,u0⟩ (h:=fun hHeld=>?_)
 clear hK K
 refine rdq 14 (h:=fun K hK=>?_)
 go_simp
 go_wp2_with fail
 refine (zf9 P M A k c (x:Nat) (r:Nat) w4 hf).mono ?_
 rintro e w5 ⟨rfl,kb⟩
 replace ra:=zab ra kb;replace rf:=zab rf kb;replace hB:=onS hB kb;replace q0:=cellS kb q0;replace q1:=cellS kb q1;replace q2:=cellS kb q2;replace x0:=cellS kb x0;replace u0:=cellS kb u0;clear kb;rw [O,E]
 obtain ⟨s,hs⟩:=exx (addF P M x r)
 rw [<-hs]
 have a4:=hid hs
 clear hs E
 refine bkq hK ⟨q0,q1,q2,x0,u0⟩ (h:=fun hHeld=>?_)
 clear hK K
 refine tkq 15 (h:=?_)
 refine rdq 16 (h:=fun K hK=>?_)
 have y0:=ra.cell hlt
 have z0:=ra.frozen i
 have ra9:=ra.set i (.int .i64 (s:Nat))
 have rf9:=rf.setOther (a:=⟨g,i,none⟩) (by simpa using b) (.int .i64 (s:Nat))
 have H:=hB.setCell (p:=⟨g,i,none⟩) l (.int .i64 (s:Nat))
 have q09:=zaa (p:=⟨g,i,none⟩) (u:=.int .i64 (s:Nat)) q0 b
 have q19:=zaa (p:=⟨g,i,none⟩) (u:=.int .i64 (s:Nat)) q1 b
 have q29:=zaa (p:=⟨g,i,none⟩) (u:=.int .i64 (s:Nat)) q2 b
 have x09:=zaa (p:=⟨g,i,none⟩) (u:=.int .i64 (s:Nat)) x0 C
 have u09:=zaa (p:=⟨g,i,none⟩) (u:=.int .i64 (s:Nat)) u0 D
 have RA:=hid ra9
 have RF:=hid rf9
 have a5:=hid H
 have a0:=hid q09
 have Z:=hid q19
 have Y:=hid q29
 have T:=hid x09
 have X:=hid u09
 clear ra rf hB ra9 rf9 H q0 q1 q2 x0 u0 q09 q19 q29 x09 u09
 go_simp
 clear y0 z0
 refine bkq hK ⟨a0.out,Z.out,Y.out,T.out,X.out⟩ (h:=fun hHeld=>?_)
 clear hK K
 refine wpAnyH_done (by kernel_rfl) ?_ _
 clear hHeld
 go_wp2
 go_roundg (gk - 1)
 case measure=>omega
 refine ⟨i+1,by go_num,by omega,by omega,RA.out.congr fun t ht=>?_,RF.out,a5.out⟩
 by_cases e:t=i
 ·subst e; rw [if_pos rfl,if_pos (by omega)]; show _=Value.int .i64 ((atF P M m a v u t:Nat):Int); unfold atF; rw [if_neg (by rw [<-HY.out]; omega),a4.out,HR.out,HX.out,HY.out]
 rw [if_neg e]
 by_cases e2:t<i
 ·rw [if_neg e,if_pos e2,if_pos (by omega)]
 ·rw [if_neg e,if_neg e2,if_neg (by omega)]
theorem Tryz.infoInts:(Tryz.prog.info? 22).map (fun i=>(i.zero,i.size,i.bytes))=some (some (.slice none 0 0),1,24):=by kernel_rfl
def listCell (l:List Int) (k _j:Nat):Value:=.int .i64 (l.getD k 0)
def OwnL (w:World) (base:Nat) (R:Value) (l:List Int):Prop:=Own w base 3 1 R l.length (listCell l)
def TabL (w:World) (base:Nat) (v:Value) (L:List (List Int)):Prop :=
 ∃ R:Nat->Value,Own w base 22 1 v L.length (fun i _=>R i)/\∀ i,i<L.length->OwnL w base (R i) (L.getD i [])
theorem OwnL.on {w w':World} {base:Nat} {R:Value} {l:List Int} (h:OwnL w base R l) (hb:Below w.heap.size w w'):OwnL w' base R l:=Own.on h hb
theorem TabL.on {w w':World} {base:Nat} {v:Value} {L:List (List Int)} (h:TabL w base v L) (hb:Below w.heap.size w w'):TabL w' base v L:=by
 obtain ⟨R,h1,h2⟩:=h
 exact ⟨R,h1.on hb,fun i hi=>(h2 i hi).on hb⟩
theorem TabL.shape {w:World} {base:Nat} {v:Value} {L:List (List Int)} (h:TabL w base v L):∃ A c,v=.slice A L.length c:=h.choose_spec.1.shape
theorem Own.capL {w:World} {base e s n c:Nat} {A:Option Addr} {f:Nat->Nat->Value} (h:Own w base e s (.slice A n c) n f):n<=c/\c<=maxLen:=by
 rcases h with ⟨h,_⟩ | ⟨g,o,cap,cur,h1,_,_,h4,h5,_⟩
 ·injection h with h1 h2 h3
  subst h2 h3
  exact ⟨Nat.le_refl _,by unfold maxLen; omega⟩
 injection h1 with h1 h2 h3
 subst h3
 exact ⟨h4,h5⟩
theorem zbn {w:World} {base e e' s s' n n':Nat} {v v':Value} {f f':Nat->Nat->Value} (h:Own w base e s v n f) (h':Own w base e' s' v' n' f') (hne:e≠e'):v'.ownBlock=none∨v'.ownBlock≠v.ownBlock:=by
 rcases h' with ⟨rfl,_⟩ | ⟨g',o',cap',cur',rfl,_,a,_⟩
 ·exact .inl rfl
 refine .inr fun e1=>?_
 rcases h with ⟨rfl,_⟩ | ⟨g,o,cap,cur,rfl,_,hg,_⟩
 ·simp [Value.ownBlock] at e1
 simp [Value.ownBlock] at e1
 subst e1
 rw [hg] at a
 injection a with h1
 injection h1 with _ h1
 exact hne h1
theorem TabL.rows {w:World} {base:Nat} {v:Value} {L:List (List Int)} (h:TabL w base v L) (hi:∀ l,l ∈ L->∀ x,x ∈ l -> -9223372036854775808<=x/\x<=9223372036854775807) :
  ∃ O c,v=.slice O L.length c/\L.length<=c/\c<=maxLen/\IntRows w O L.length (fun i=>(L.getD i []).length) (fun i k=>(L.getD i []).getD k 0):=by
 obtain ⟨R,h1,h2⟩:=h
 obtain ⟨O,c,rfl⟩:=h1.shape
 have hc:=h1.capL
 refine ⟨O,c,rfl,hc.1,hc.2,fun i hi'=>?_⟩
 obtain ⟨b,off,e,hb,a⟩:=h1.rd rfl i hi'
 have d:=a 0 (by omega)
 rw [Nat.mul_one,Nat.add_zero] at d
 have h3:=h2 i hi'
 obtain ⟨A,cc,hR⟩:=h3.shape
 unfold OwnL at h3
 simp only [hR] at h3 d
 refine ⟨b,off,A,cc,e,hb,d,h3.capL.1,h3.capL.2,h3.rd rfl,fun j hj=>?_⟩
 refine hi (L.getD i []) ?_ _ ?_
 ·rw [List.getD_eq_getElem?_getD,List.getElem?_eq_getElem hi']; exact List.getElem_mem hi'
 ·show ((L.getD i []).getD j 0) ∈ _
  rw [List.getD_eq_getElem?_getD (l:=L.getD i []),List.getElem?_eq_getElem hj]; exact List.getElem_mem hj
theorem TabL.put {w w':World} {base:Nat} {v v':Value} {L:List (List Int)} {R:Nat->Value} {r:Value} {l:List Int} (h2:∀ i,i<L.length->OwnL w base (R i) (L.getD i [])) (hr:OwnL w base r l) (hv:Own w base 22 1 v L.length (fun i _=>R i))
  (hown:Own w' base 22 1 v' (L.length+1) (fun i _=>if i=L.length then r else R i)) (hg:w.grownBy w' v.ownBlock):TabL w' base v' (L ++ [l]):=by
 have ne:(22 : Nat) ≠ 3 := by decide
 refine ⟨fun i=>if i=L.length then r else R i,by rw [List.length_append]; exact hown,fun i hi=>?_⟩
 show OwnL w' base (if i=L.length then r else R i) _
 by_cases e:i=L.length
 ·subst e
  rw [if_pos rfl]
  have:(L ++ [l]).getD L.length []=l:=by simp [List.getD_eq_getElem?_getD]
  rw [this]
  exact hr.kept hg (zbn hv hr ne)
 have a:i<L.length:=by rw [List.length_append] at hi; simp at hi; omega
 rw [if_neg e]
 have:(L ++ [l]).getD i []=L.getD i []:=by rw [List.getD_eq_getElem?_getD,List.getD_eq_getElem?_getD,List.getElem?_append_left a]
 rw [this]
 exact (h2 i a).kept hg (zbn hv (h2 i a) ne)
theorem zbS {w:World} {ops:Array Oper} {rest:List Oper} {o:Oper} {a:Act} {Q:Exit->Act->World->Prop} (hgd:o.guard=none) (sl x:Operand)
  (ho:o.op=.call { callee:=.builtin .append,args:=#[sl,x],argTypes:=#[25, 25] })
  {base:Nat} {v:Value} {L:List (List Int)} (h:TabL w base v L) (hv:a.eval sl=v) {ad:Addr} {c:Nat} {r:Value} {l:List Int} (hx:a.eval x=.slice (some ad) 1 c)
  (hcell:w.cell? (ad.add 0)=some r) (h1:r.oneCell'=true) (hrow:OwnL w base r l) (hbase:base<=w.heap.size) (hN:L.length<=1048576)
  (K:∀ v' w',TabL w' base v' (L ++ [l])->w.grownBy w' v.ownBlock->wpList Tryz.prog ops Q rest (a.put o.dst v') w'):wpList Tryz.prog ops Q (o :: rest) a w:=by
 obtain ⟨R,hA,hB⟩:=h
 obtain ⟨i0,qi0,qz0,qz1,qz2⟩:=info_parts Tryz.infoInts
 have b:Own w base 22 1 v L.length (fun i _=>if i=L.length then r else R i):=hA.congr fun i hi _ _=>by rw [if_neg (by omega)]
 refine zag w hgd sl x _ ho base 22 i0 _ 1 24 Tryz.underlying25 qi0 qz0 qz1 qz2 rfl (by omega) v L.length _ hv b ad c hx (fun j hj=>by
   obtain rfl:j=0:=by omega
   rw [if_pos rfl]
   exact hcell) (fun _ _=>by rw [if_pos rfl]; exact h1) (by unfold maxLen; omega) (by omega) hbase ?_
 intro v' w3 hown3 hg3 _
 exact K v' w3 (TabL.put hB hrow hA hown3 hg3) hg3
theorem zaw {w:World} {o:Obj} {k:Nat} (h:k=w.heap.size):(w.alloc o).heap[k]?=some o:=by subst h; exact heap_alloc_new w o
def Cloned (e:TypeId) (s n:Nat) (f:Nat->Nat->Value) (w:World) (E:Ending) (w':World):Prop :=
 ∃ A c,E=.returned (.slice A n c)/\Own w' w.heap.size e s (.slice A n c) n f/\Below w.heap.size w w'
theorem zaA (A:Option Addr) (nn c:Nat) (f:Nat->Int) (w:World) (h:IntsR w w.heap.size A nn f) (hc:nn<=c) (hn:nn<=1048576) :
  Calls Tryz.prog 140 #[.slice A nn c] w (Cloned 3 1 nn (fun i _=>.int .i64 (f i)) w):=by
 obtain ⟨i0,qi0,qz0,qz1,qz2⟩:=info_parts Tryz.infoInt
 have hq:=fun (W:World) (a:Option Addr)=>Lib.run_eql_slice_nil (P:=Tryz.prog) W 22 3 a nn c 0 0 Tryz.underlying22
 cases A with
 | none =>
  have h0:nn=0:=by
   rcases Nat.eq_zero_or_pos nn with h0 | h0
   ·exact h0
   ·obtain ⟨b,o,e,_⟩:=h.at h0; cases e
  have H0:=hid h0
  clear h0
  go_enter Tryz.func140, Tryz.ntmps140
  go_wp2
  go_ret
  exact ⟨none,0,by rw [H0.out]; rfl,by rw [H0.out]; exact Own.nil _ _ _ _ _,Below.refl _ _⟩
 | some a =>
  obtain ⟨ab,ao,ap⟩:=a
  rcases Nat.eq_zero_or_pos nn with h0 | h0
  ·have H0:=hid h0
   obtain ⟨n,d⟩:∃ n,n=nn:=⟨_,rfl⟩
   have HN:=hid d
   rw [<-d] at h0 hc hn hq ⊢;clear d h
   subst h0
   go_enter Tryz.func140, Tryz.ntmps140
   go_wp2_with (first | (at_builtin; (refine zbm rfl (.tmp 5) (.tmp 6) _ rfl 3 i0 Tryz.underlying22 qi0 w.heap.size 0 rfl (some ⟨ab,ao,ap⟩) c rfl ?_)))
   go_ret
   exact ⟨_,_,rfl,.inr ⟨_,0,0,#[],rfl,Nat.le_refl _,zaw rfl,Nat.le_refl _,by unfold maxLen; omega,by simp,fun i hi=>absurd hi (by omega)⟩,(Below.refl _ _).alloc (Nat.le_refl _) _⟩
  ·have n3:Hid (nn<=maxLen):=by show _<=_; unfold maxLen; omega
   have n4:Hid (nn*8<=140737488355328):=by show _<=_; omega
   have NR:Hid (∀ o1,Rd (w.alloc o1) (w.alloc o1).heap.size (some ⟨ab,ao,ap⟩) nn 1 (fun i _=>.int .i64 (f i))):=fun o1=>(Rd.alloc h (Nat.le_refl _) o1).mono (by simp)
   go_enter Tryz.func140, Tryz.ntmps140
   go_wp2_with (first | (at_builtin; (refine zax rfl (.tmp 5) (.tmp 6) _ rfl 3 i0 _ 1 8 Tryz.underlying22 qi0 qz0 qz1 qz2 rfl (by omega) _ rfl (some ⟨ab,ao,ap⟩) nn c (fun i _=>.int .i64 (f i)) rfl (NR.out _) h0 (fun _ _ _ _=>rfl) n3.out n4.out ?_); intro cap cur k1 k2 k3 k4))
   go_ret
   have hO:=Own.new (w:=w.alloc (Obj.cells #[] 3)) (base:=w.heap.size) (e := 3) (by simp) k1 k2 k3 k4
   simp only [World.size_alloc] at hO
   exact ⟨_,_,rfl,hO.drew,(((Below.refl _ _).alloc (Nat.le_refl _) _).alloc (by simp) _).drew⟩
def MTab (w:World) (base:Nat) (v:Value) (n k:Nat) (W:Nat->Nat->Nat):Prop :=
 ∃ R:Nat->Value,Own w base 22 1 v n (fun i _=>R i)/\∀ i,i<n->Own w base 3 1 (R i) k (fun j _=>.int .i64 (W i j:Nat))
section
variable {w w':World} {base n k:Nat} {v:Value} {W W':Nat->Nat->Nat}
theorem MTab.nil (w:World) (base k:Nat) (W:Nat->Nat->Nat):MTab w base (.slice none 0 0) 0 k W:=⟨fun _=>undef,Own.nil _ _ _ _ _,fun i hi=>absurd hi (by omega)⟩
theorem MTab.on (h:MTab w base v n k W) (hb:Below w.heap.size w w'):MTab w' base v n k W:=by
 obtain ⟨R,h1,h2⟩:=h
 exact ⟨R,h1.on hb,fun i hi=>(h2 i hi).on hb⟩
theorem MTab.mono {b':Nat} (h:MTab w base v n k W) (hb:b'<=base):MTab w b' v n k W:=by
 obtain ⟨R,h1,h2⟩:=h
 exact ⟨R,h1.mono hb,fun i hi=>(h2 i hi).mono hb⟩
theorem MTab.shape (h:MTab w base v n k W):∃ A c,v=.slice A n c:=h.choose_spec.1.shape
theorem MTab.congr (h:MTab w base v n k W) (e:∀ i,i<n->∀ j,j<k->W i j=W' i j):MTab w base v n k W':=by
 obtain ⟨R,h1,h2⟩:=h
 exact ⟨R,h1,fun i hi=>(h2 i hi).congr fun j hj _ _=>by rw [e i hi j hj]⟩
theorem MTab.row {A:Option Addr} {N c i:Nat} (h:MTab w base (.slice A N c) n k W) (hi:i<n):∃ b o RA rc,A=some ⟨b,o,none⟩/\base<=b/\b<w.heap.size/\w.cell? ⟨b,o+i,none⟩=some (.slice RA k rc)/\w.frozen? ⟨b,o+i,none⟩=false/\Own w base 3 1 (.slice RA k rc) k (fun j _=>.int .i64 (W i j:Nat)):=by
 obtain ⟨R,h1,h2⟩:=h
 obtain ⟨A1,c1,e1⟩:=h1.shape
 injection e1 with e1 e2 e3
 subst e1 e2 e3
 obtain ⟨g,o,cap,e,d,a,_,_,hc⟩:=h1.form (by omega)
 injection e with e e3 e4
 subst e e4
 have g1:=hc i hi 0 (by omega)
 rw [Nat.mul_one,Nat.add_zero] at g1
 have hr:=h2 i hi
 obtain ⟨RA,rc,hR⟩:=hr.shape
 rw [hR] at hr
 exact ⟨g,o,RA,rc,rfl,d,a,by rw [g1,<-hR],h1.frozen _,hr⟩
theorem MTab.set {b o c i:Nat} {r:Value} {x:Nat->Nat} (h:MTab w base (.slice (some ⟨b,o,none⟩) n c) n k W) (hi:i<n) (hr:Own w base 3 1 r k (fun j _=>.int .i64 (x j:Nat))) :
  MTab (w.setCell ⟨b,o+i,none⟩ r) base (.slice (some ⟨b,o,none⟩) n c) n k (fun u=>if u=i then x else W u):=by
 obtain ⟨R,h1,h2⟩:=h
 have hs:=h1.set hi (by omega:0<1) r
 rw [Nat.mul_one,Nat.add_zero] at hs
 have a:∀ v f,Own w base 3 1 v k f->v.ownBlock≠some b:=fun v f hv e=>by
  rcases zbn h1 hv (by decide) with h3 | h3
  ·rw [h3] at e; cases e
  ·exact h3 (by rw [e]; rfl)
 refine ⟨fun u=>if u=i then r else R u,hs.congr fun u _ q hq=>?_,fun u hu=>?_⟩
 ·show (if u=i/\q=0 then r else R u)=if u=i then r else R u
  by_cases e:u=i
  ·rw [if_pos ⟨e,by omega⟩,if_pos e]
  ·rw [if_neg (fun h=>e h.1),if_neg e]
 show Own _ base _ 1 (if u=i then r else R u) k _
 by_cases e:u=i
 ·rw [if_pos e]
  simp only [if_pos e]
  exact hr.setCell (a _ _ hr) r
 rw [if_neg e]
 simp only [if_neg e]
 exact (h2 u hu).setCell (a _ _ (h2 u hu)) r
theorem za9 {ops:Array Oper} {rest:List Oper} {o:Oper} {a:Act} {Q:Exit->Act->World->Prop} (hgd:o.guard=none) (sl x:Operand)
  (ho:o.op=.call { callee:=.builtin .append,args:=#[sl,x],argTypes:=#[25, 25] })
  (h:MTab w base v n k W) (hv:a.eval sl=v) {ad:Addr} {c:Nat} {r:Value} {y:Nat->Nat} (hx:a.eval x=.slice (some ad) 1 c)
  (hcell:w.cell? (ad.add 0)=some r) (h1:r.oneCell'=true) (hrow:Own w base 3 1 r k (fun j _=>.int .i64 (y j:Nat))) (hbase:base<=w.heap.size) (hN:n<=1048576)
  (K:∀ v' w',MTab w' base v' (n+1) k (fun u=>if u=n then y else W u)->w.grownBy w' v.ownBlock->(∀ q,v.ownBlock=some q->base<=q)->wpList Tryz.prog ops Q rest (a.put o.dst v') w'):wpList Tryz.prog ops Q (o :: rest) a w:=by
 obtain ⟨R,hA,hB⟩:=h
 obtain ⟨i0,qi0,qz0,qz1,qz2⟩:=info_parts Tryz.infoInts
 have b:Own w base 22 1 v n (fun i _=>if i=n then r else R i):=hA.congr fun i hi _ _=>by rw [if_neg (by omega)]
 refine zag w hgd sl x _ ho base 22 i0 _ 1 24 Tryz.underlying25 qi0 qz0 qz1 qz2 rfl (by omega) v n _ hv b ad c hx (fun j hj=>by
   obtain rfl:j=0:=by omega
   rw [if_pos rfl]
   exact hcell) (fun _ _=>by rw [if_pos rfl]; exact h1) (by unfold maxLen; omega) (by omega) hbase ?_
 intro v' w3 hown3 hg3 _
 have ne:(22 : Nat) ≠ 3 := by decide
 refine K v' w3 ⟨fun i=>if i=n then r else R i,hown3,fun i hi=>?_⟩ hg3 (fun q e=>(hA.lt q e).1)
 show Own w3 base _ 1 (if i=n then r else R i) k _
 by_cases e:i=n
 ·rw [if_pos e]
  simp only [if_pos e]
  exact hrow.kept hg3 (zbn hA hrow ne)
 rw [if_neg e]
 simp only [if_neg e]
 exact (hB i (by omega)).kept hg3 (zbn hA (hB i (by omega)) ne)
end
theorem tbox2 {w:World} {v:Value} {t:TypeId}:(w.alloc (Obj.cells #[v] t)).cell? ((⟨w.heap.size,0,none⟩:Addr).add 0)=some v:=by
 show (w.alloc (Obj.cells #[v] t)).cell? ⟨w.heap.size,0,none⟩=some v
 simp
def MRows (w:World) (T:Option Addr) (n k:Nat) (W:Nat->Nat->Nat):Prop:=IntRows w T n (fun _=>k) (fun i j=>(W i j:Nat))
def MPost (n k:Nat) (W:Nat->Nat->Nat) (w:World) (e:Ending) (w':World):Prop:=∃ v,e=.returned v/\MTab w' w.heap.size v n k W/\Below w.heap.size w w'
theorem zfh (T:Option Addr) (n k c:Nat) (W:Nat->Nat->Nat) (w:World) (h:MRows w T n k W) (hk:0<k) (hk2:k<=1048576) (hn:n<=1048576) :
  Calls Tryz.prog 224 #[.slice T n c] w (MPost n k W w):=by
 have HR:=hid h
 have H0:=hid (MTab.nil w w.heap.size k W)
 obtain ⟨i0,qi0,qz0,qz1,qz2⟩:=info_parts Tryz.infoInt
 have n3:Hid (k<=maxLen):=by show _<=_; unfold maxLen; omega
 have n4:Hid (k*8<=140737488355328):=by show _<=_; omega
 clear h
 go_enter Tryz.func224, Tryz.ntmps224
 go_wp2
 obtain ⟨nv,y⟩:∃ x:Value,x=.slice none 0 0:=⟨_,rfl⟩
 rw [<-y] at H0 ⊢;clear y
 go_loopg [3,4] n (fun gg mv iv wx=>∃ i:Nat,iv=.int .i64 (i:Nat)/\i<=n/\n<=i+gg/\Hid (MTab wx w.heap.size mv i k W)/\Below w.heap.size w wx)
 case atStart=>exact ⟨0,rfl,by omega,by omega,H0,Below.refl _ _⟩
 clear H0
 obtain ⟨i,rfl,hi,K,HM,hB⟩:=hrel
 have L:(0:Int)<=(i:Int):=by omega
 by_cases hlt:i<n
 rotate_left
 ·have m:¬ (i:Int)<(n:Int):=by omega
  obtain rfl:i=n:=by omega
  go_wp2
  go_ret
  exact ⟨_,rfl,HM.out,hB⟩
 have m:(i:Int)<(n:Int):=by omega
 obtain ⟨b,o,RA,rc,hT,hb,x0,_,_,a,_⟩:=HR.out i hlt
 subst hT
 have q:=aly wr (Obj.cells #[] 3)
 have z:=onS hB q
 have x1:=(z.cell (p:=⟨b,o+i,none⟩) hb).trans x0
 have v:Rd (wr.alloc (Obj.cells #[] 3)) (wr.alloc (Obj.cells #[] 3)).heap.size RA k 1 (fun j _=>.int .i64 (W i j:Nat)):=a.on z
 have D:=hid v
 have x2:=(hB.cell (p:=⟨b,o+i,none⟩) hb).trans x0
 clear v a x0 q
 have HL:Hid (i<=1048576):=by show _<=_; omega
 have J:=hB.size
 go_upto_region 4 with (first | (at_builtin; (refine zax rfl (.tmp 12) (.tmp 16) _ rfl 3 i0 _ 1 8 Tryz.underlying22 qi0 qz0 qz1 qz2 rfl (by omega) _ rfl RA k rc (fun j _=>.int .i64 (W i j:Nat)) rfl D.out hk (fun _ _ _ _=>rfl) n3.out n4.out ?_); intro cap cur k1 k2 k3 k4; obtain ⟨w2,g⟩:∃ W',W'=(wr.alloc (Obj.cells #[] 3)).drew.alloc (Obj.cells cur 3):=⟨_,rfl⟩; rw [<-g]; have hO:=Own.new (w:=(wr.alloc (Obj.cells #[] 3)).drew) (base:=w.heap.size) (e := 3) (s:=1) (f:=fun j _=>.int .i64 (W i j:Nat)) (by simp; omega) k1 k2 k3 k4; have r:(wr.alloc (Obj.cells #[] 3)).drew.heap.size=wr.heap.size+1:=(by show (wr.alloc (Obj.cells #[] 3)).heap.size=_; simp); rw [<-g,r] at hO; have l:Below wr.heap.size wr w2:=(by rw [g]; exact (((Below.refl wr.heap.size wr).alloc (Nat.le_refl _) _).drew).alloc (by simp) _); have d:Below w2.heap.size w2 (w2.alloc (Obj.cells #[.slice (some ⟨wr.heap.size+1,0,none⟩) k cap] 22)):=(Below.refl _ _).alloc (Nat.le_refl _) _; have E:=hid (hO.on d); have G:=hid ((HM.out.on l).on d); have C:=hid (onS (onS hB l) d); have B:=hid C.out.size; have H:Hid ((w2.alloc (Obj.cells #[.slice (some ⟨wr.heap.size+1,0,none⟩) k cap] 22)).cell? ((⟨w2.heap.size,0,none⟩:Addr).add 0)=some (.slice (some ⟨wr.heap.size+1,0,none⟩) k cap)):=tbox2 ; clear hO l d g r) | (at_builtin; (refine za9 rfl (.tmp 11) (.tmp 18) rfl G.out rfl (ad:=⟨w2.heap.size,0,none⟩) (c:=1) rfl H.out rfl E.out B.out HL.out ?_); intro v9 w9 o1 o2 o3))
 have F:=hid (o1.congr (W':=W) fun u hu j _=>by
  by_cases e:u=i
  ·subst e; rw [if_pos rfl]
  ·rw [if_neg e])
 have I:=hid (C.out.grown o2 B.out o3)
 clear o1 o2 o3
 go_wp2
 go_roundg (gk - 1)
 case measure=>omega
 case rel=>exact ⟨i+1,by go_num,by omega,by omega,F,I.out⟩
theorem zbe {w:World} {b n base:Nat} {t:TypeId} {F:Nat->Value} (h:w.rowIs b t n F) (hb:base<=b) (hn:n<=maxLen):Own w base t 1 (.slice (some ⟨b,0,none⟩) n n) n (fun i _=>F i):=by
 obtain ⟨cs,h1,h2,h3⟩:=h
 refine .inr ⟨b,0,n,cs,rfl,hb,h1,Nat.le_refl _,hn,by omega,fun i hi j hj=>?_⟩
 obtain rfl:j=0:=by omega
 have h4:=h3 i hi
 rw [show 0+i*1+0=i by omega]
 rw [h4]
def MTabX (w:World) (base:Nat) (v:Value) (n k:Nat) (W:Nat->Nat->Nat) (z:Value):Prop :=
 ∃ R:Nat->Value,Own w base 22 1 v n (fun i _=>R i)/\∀ i,i<n->Own w base 3 1 (R i) k (fun j _=>.int .i64 (W i j:Nat))/\((R i).ownBlock=none∨(R i).ownBlock≠z.ownBlock)
section
variable {w w':World} {base n k:Nat} {v z:Value} {W W':Nat->Nat->Nat}
theorem MTab.x (h:MTab w base v n k W) (hz:z.ownBlock=none):MTabX w base v n k W z:=by
 obtain ⟨R,h1,h2⟩:=h
 refine ⟨R,h1,fun i hi=>⟨h2 i hi,?_⟩⟩
 rw [hz]
 cases e:(R i).ownBlock with
 | none=>exact .inl rfl
 | some q=>exact .inr (by simp)
theorem MTabX.tab (h:MTabX w base v n k W z):MTab w base v n k W:=by
 obtain ⟨R,h1,h2⟩:=h
 exact ⟨R,h1,fun i hi=>(h2 i hi).1⟩
theorem MTabX.on (h:MTabX w base v n k W z) (hb:Below w.heap.size w w'):MTabX w' base v n k W z:=by
 obtain ⟨R,h1,h2⟩:=h
 exact ⟨R,h1.on hb,fun i hi=>⟨(h2 i hi).1.on hb,(h2 i hi).2⟩⟩
theorem MTabX.mono {b':Nat} (h:MTabX w base v n k W z) (hb:b'<=base):MTabX w b' v n k W z:=by
 obtain ⟨R,h1,h2⟩:=h
 exact ⟨R,h1.mono hb,fun i hi=>⟨(h2 i hi).1.mono hb,(h2 i hi).2⟩⟩
theorem MTabX.congr (h:MTabX w base v n k W z) (e:∀ i,i<n->∀ j,j<k->W i j=W' i j):MTabX w base v n k W' z:=by
 obtain ⟨R,h1,h2⟩:=h
 exact ⟨R,h1,fun i hi=>⟨(h2 i hi).1.congr fun j hj _ _=>by rw [e i hi j hj],(h2 i hi).2⟩⟩
theorem MTabX.row {A:Option Addr} {N c i:Nat} (h:MTabX w base (.slice A N c) n k W z) (hi:i<n):∃ b o RA rc,A=some ⟨b,o,none⟩/\base<=b/\b<w.heap.size/\w.cell? ⟨b,o+i,none⟩=some (.slice RA k rc)/\w.frozen? ⟨b,o+i,none⟩=false /\
  Own w base 3 1 (.slice RA k rc) k (fun j _=>.int .i64 (W i j:Nat))/\((Value.slice RA k rc).ownBlock=none∨(Value.slice RA k rc).ownBlock≠z.ownBlock):=by
 obtain ⟨R,h1,h2⟩:=h
 obtain ⟨A1,c1,e1⟩:=h1.shape
 injection e1 with e1 e2 e3
 subst e1 e2 e3
 obtain ⟨g,o,cap,e,d,a,_,_,hc⟩:=h1.form (by omega)
 injection e with e e3 e4
 subst e e4
 have g1:=hc i hi 0 (by omega)
 rw [Nat.mul_one,Nat.add_zero] at g1
 have hr:=h2 i hi
 obtain ⟨RA,rc,hR⟩:=hr.1.shape
 rw [hR] at hr
 exact ⟨g,o,RA,rc,rfl,d,a,by rw [g1,<-hR],h1.frozen _,hr.1,hr.2⟩
theorem MTabX.keep {b o c i m:Nat} {r u:Value} {f:Nat->Nat->Value} (h:MTabX w base (.slice (some ⟨b,o,none⟩) n c) n k W z) (hu:Own w base 3 1 u m f):Own (w.setCell ⟨b,o+i,none⟩ r) base 3 1 u m f:=by
 obtain ⟨R,h1,_⟩:=h
 refine hu.setCell (fun e=>?_) r
 rcases zbn h1 hu (by decide) with h3 | h3
 ·rw [h3] at e; cases e
 ·exact h3 (by rw [e]; rfl)
theorem MTabX.set {b o c i:Nat} {r:Value} {x:Nat->Nat} (h:MTabX w base (.slice (some ⟨b,o,none⟩) n c) n k W z) (hi:i<n) (hr:Own w base 3 1 r k (fun j _=>.int .i64 (x j:Nat))) (hz:r.ownBlock=none∨r.ownBlock≠z.ownBlock) :
  MTabX (w.setCell ⟨b,o+i,none⟩ r) base (.slice (some ⟨b,o,none⟩) n c) n k (fun u=>if u=i then x else W u) z:=by
 have hk:=h
 obtain ⟨R,h1,h2⟩:=h
 have hs:=h1.set hi (by omega:0<1) r
 rw [Nat.mul_one,Nat.add_zero] at hs
 refine ⟨fun u=>if u=i then r else R u,hs.congr fun u _ q hq=>?_,fun u hu=>⟨?_,?_⟩⟩
 ·show (if u=i/\q=0 then r else R u)=if u=i then r else R u
  by_cases e:u=i
  ·rw [if_pos ⟨e,by omega⟩,if_pos e]
  ·rw [if_neg (fun h=>e h.1),if_neg e]
 ·show Own _ base _ 1 (if u=i then r else R u) k _
  by_cases e:u=i
  ·rw [if_pos e]
   simp only [if_pos e]
   exact hk.keep hr
  rw [if_neg e]
  simp only [if_neg e]
  exact hk.keep (h2 u hu).1
 show (if u=i then r else R u).ownBlock=none∨(if u=i then r else R u).ownBlock≠z.ownBlock
 split
 ·exact hz
 ·exact (h2 u hu).2
theorem MTabX.grown {z':Value} {m:Nat} {f:Nat->Nat->Value} (h:MTabX w base v n k W z) (hz:Own w base 3 1 z m f) (hg:w.grownBy w' z.ownBlock) (ha:z'.ownBlock=z.ownBlock∨z'.ownBlock=some w.heap.size):MTabX w' base v n k W z':=by
 obtain ⟨R,h1,h2⟩:=h
 have a:v.ownBlock=none∨v.ownBlock≠z.ownBlock:=zbn hz h1 (by decide)
 refine ⟨R,h1.kept hg a,fun i hi=>⟨(h2 i hi).1.kept hg (h2 i hi).2,?_⟩⟩
 rcases ha with ha | ha
 ·rw [ha]; exact (h2 i hi).2
 cases e:(R i).ownBlock with
 | none=>exact .inl rfl
 | some q =>
  refine .inr ?_
  rw [ha]
  intro e2
  injection e2 with e2
  have:=((h2 i hi).1.lt q e).2
  omega
theorem zes {w:World} {base m g n:Nat} {f:Nat->Nat->Value} (hz:Own w base 3 1 z m f) (hg:w.heap.size<=g):(Value.slice (some ⟨g,0,none⟩) n n).ownBlock=none∨(Value.slice (some ⟨g,0,none⟩) n n).ownBlock≠z.ownBlock:=by
 refine .inr fun e=>?_
 have:=(hz.lt g e.symm).2
 omega
end
theorem zaP {w:World} {ops:Array Oper} {rest:List Oper} {o:Oper} {a:Act} {Q:Exit->Act->World->Prop} (hgd:o.guard=none) (sl x:Operand)
  (ho:o.op=.call { callee:=.builtin .append,args:=#[sl,x],argTypes:=#[22, 22] })
  {base n:Nat} {v:Value} {p:Nat->Nat} (h:Own w base 3 1 v n (fun j _=>.int .i64 (p j:Nat))) (hv:a.eval sl=v) {ad:Addr} {c:Nat} {r:Nat} (hx:a.eval x=.slice (some ad) 1 c)
  (hcell:w.cell? (ad.add 0)=some (.int .i64 (r:Nat))) (hbase:base<=w.heap.size) (hN:n<=1048576)
  (K:∀ v' w',Own w' base 3 1 v' (n+1) (fun j _=>.int .i64 ((if j=n then r else p j:Nat):Nat))->w.grownBy w' v.ownBlock->(v'.ownBlock=v.ownBlock∨v'.ownBlock=some w.heap.size)->wpList Tryz.prog ops Q rest (a.put o.dst v') w'):wpList Tryz.prog ops Q (o :: rest) a w:=by
 obtain ⟨i0,qi0,qz0,qz1,qz2⟩:=info_parts Tryz.infoInt
 refine zag w hgd sl x _ ho base 3 i0 _ 1 8 Tryz.underlying22 qi0 qz0 qz1 qz2 rfl (by omega) v n _ hv (h.congr fun i hi j _=>by rw [if_neg (by omega)]) ad c hx (fun j hj=>by
   obtain rfl:j=0:=by omega
   rw [if_pos rfl]
   exact hcell) (fun _ _=>rfl) (by unfold maxLen; omega) (by omega) hbase K
theorem zbT {w:World} {base g m n s:Nat} {t e:TypeId} {F:Nat->Value} {v:Value} {f:Nat->Nat->Value} (hr:w.rowIs g t m F) (h:Own w base e s v n f) (hne:t≠e):v.ownBlock=none∨v.ownBlock≠some g:=by
 rcases h with ⟨rfl,_⟩ | ⟨b,o,cap,cur,rfl,_,hg,_⟩
 ·exact .inl rfl
 refine .inr fun e1=>?_
 obtain ⟨cs,h1,_⟩:=hr
 simp [Value.ownBlock] at e1
 subst e1
 rw [hg] at h1
 injection h1 with h1
 injection h1 with _ h1
 exact hne h1.symm
def pwG (mul:Nat->Nat->Nat) (x:Nat):Nat->Nat
 | 0=>1
 | 1=>x
 | n+2=>mul (pwG mul x (n+1)) x
theorem zhk (mul:Nat->Nat->Nat) (x:Nat) {n:Nat} (h:1<=n):pwG mul x (n+1)=mul (pwG mul x n) x:=by
 obtain ⟨k,rfl⟩:∃ k,n=k+1:=⟨n - 1,by omega⟩
 rfl
def seenB (p:Nat->Nat):Nat->Nat->Bool
 | 0,_=>false
 | n+1,t=>if t=p n then true else seenB p n t
theorem zc1 (p:Nat->Nat) (t:Nat):∀ n,seenB p n t=true↔∃ i,i<n/\p i=t
 | 0=>⟨(fun h=>by cases h),(fun ⟨i,hi,_⟩=>by omega)⟩
 | n + 1 => by
  have ih:=zc1 p t n
  show (if t=p n then true else seenB p n t)=true↔_
  by_cases e:t=p n
  ·rw [if_pos e]
   exact ⟨fun _=>⟨n,by omega,e.symm⟩,fun _=>rfl⟩
  ·rw [if_neg e,ih]
   constructor
   ·rintro ⟨i,hi,h⟩; exact ⟨i,by omega,h⟩
   ·rintro ⟨i,hi,h⟩
    by_cases e2:i=n
    ·subst e2; exact absurd h.symm e
    ·exact ⟨i,by omega,h⟩
structure PwOk (q:Nat) (p:Nat->Nat) (n:Nat):Prop where
 ne:∀ i,i<n->p i≠0
 lt:∀ i,i<n->p i<q
 inj:∀ i j,i<j->j<n->p i≠p j
theorem PwOk.le {q n:Nat} {p:Nat->Nat} (h:PwOk q p n) (hq:1<=q):n<=q - 1 :=
 pigeon (f:=fun i=>p i - 1) (fun i hi=>by have:=h.ne i hi; have:=h.lt i hi; show p i - 1<q - 1; omega) fun i k hi hk e=>by
  have:=h.ne i hi
  have:=h.ne k hk
  have e2:p i=p k:=by have e':p i - 1=p k - 1:=e; omega
  rcases Nat.lt_trichotomy i k with h1 | h1 | h1
  ·exact absurd e2 (h.inj i k h1 hk)
  ·exact h1
  ·exact absurd e2.symm (h.inj k i h1 hi)
theorem PwOk.next {q n:Nat} {p:Nat->Nat} (h:PwOk q p n) (h1:p n≠0) (h2:p n<q) (h3:seenB p n (p n)=false):PwOk q p (n+1):=by
 have hs:∀ i,i<n->p i≠p n:=fun i hi e=>by
  have:=(zc1 p (p n) n).2 ⟨i,hi,e⟩
  rw [h3] at this
  cases this
 refine ⟨fun i hi=>?_,fun i hi=>?_,fun i j hij hj=>?_⟩
 ·by_cases e:i=n
  ·subst e; exact h1
  ·exact h.ne i (by omega)
 ·by_cases e:i=n
  ·subst e; exact h2
  ·exact h.lt i (by omega)
 by_cases e:j=n
 ·subst e; exact hs i hij
 ·exact h.inj i j hij (by omega)
def PowersPost (q:Nat) (p:Nat->Nat) (w:World) (e:Ending) (w':World):Prop :=
 ∃ lv L,e=.returned lv/\1<=L/\Own w' w.heap.size 3 1 lv L (fun i _=>.int .i64 (p i:Nat))/\Below w.heap.size w w'/\PwOk q p L/\(p L=0∨seenB p L (p L)=true)
theorem zfi (P M:Nat) (A:Option Addr) (k c:Nat) (m:Nat->Nat) (q x:Nat) (w:World) (hf:FldOk P M) (hm:ModOk w P M A m) (hkM:M=1∨k=M) (hq:q=P ^ M) (hx1:1<=x) (hx:x<q) :
    Calls Tryz.prog 199 #[.agg #[.int .i64 (P:Nat),.int .i64 (M:Nat),.slice A k c],.int .i64 (q:Nat),.int .i64 (x:Nat)] w (PowersPost q (pwG (mulF P M m) x) w):=by
  have ak:0<P:=by have:=hf.1; omega
  have ar:q<=256:=by rw [hq]; exact hf.2.2.2
  have ai:2<=q:=by omega
  have V:Hid (∀ a,mulF P M m a x<q):=fun a=>by rw [hq]; exact zaO ak a x
  have HQ:=hid hq
  clear hq
  obtain ⟨w0,a4,hB,rf⟩:=zaj w (.int .i64 (P:Nat)) (.int .i64 (M:Nat)) (.slice A k c) 24
  have a8:=fun W=>zaf (P:=Tryz.prog) 185 4 _ 1 Tryz.underlying185 Tryz.infoBool rfl (q:Int) (by omega) (by omega) (by omega) W
  simp only [Int.toNat_natCast] at a8
  go_enter Tryz.func199, Tryz.ntmps199
  go_upto_region 1 with fail
  rw [<-a4];clear a4
  have a9:=rf.lt
  go_upto_region 2 with fail
  have kb:=(Below.refl w0.heap.size w0).alloc (Nat.le_refl _) (Obj.cells #[Value.int .i64 1] 3)
  have r1:(w0.alloc (Obj.cells #[Value.int .i64 1] 3)).rowIs w0.heap.size 3 1 (fun i=>.int .i64 (pwG (mulF P M m) x i:Nat)):=⟨_,zaw rfl,rfl,fun i hi=>by
    obtain rfl:i=0:=by omega
    rfl⟩
  have hO:=zbe r1 (show w.heap.size+1<=w0.heap.size from a9) (by unfold maxLen; omega)
  obtain ⟨w1,a3⟩:=exx (w0.alloc (Obj.cells #[Value.int .i64 1] 3))
  obtain ⟨b1,aa⟩:=exx w0.heap.size
  rw [<-a3] at kb hO ⊢;rw [<-aa] at hO ⊢;replace rf:=zab rf kb;replace hB:=onS hB kb
  have Q:=rf.lt
  clear kb r1 a3 aa a9
  go_upto_region 3 with fail
  have kb:=(Below.refl w1.heap.size w1).alloc (Nat.le_refl _) (Obj.cells (madeCells #[Value.bool false] q) 4)
  have rs:=World.rowIs_made w1 (.bool false) q 4
  obtain ⟨w2,a2⟩:=exx (w1.alloc (Obj.cells (madeCells #[Value.bool false] q) 4))
  obtain ⟨g,hg⟩:=exx w1.heap.size
  rw [<-a2] at kb rs ⊢;rw [<-hg] at rs ⊢
  have av:w.heap.size+1<=g:=by omega
  replace rf:=zab rf kb;replace hB:=onS hB kb;replace hO:=hO.on kb;clear kb a2 hg a8 Q
  have y0:=rs.cell (i:=1) (by omega)
  have z0:=rs.frozen 1
  have aj:(1:Int)<(q:Int):=by omega
  have d:=hid ((rs.set 1 (.bool true)).congr (g:=fun t=>.bool (seenB (pwG (mulF P M m) x) 1 t)) fun t _=>by
    show (if t=1 then Value.bool true else .bool false)=.bool (if t=1 then true else false)
    split <;> rfl)
  have B:=hid (rf.setOther (a:=⟨g,1,none⟩) (by simp; omega) (.bool true))
  have Y:=hid (hB.setCell (p:=⟨g,1,none⟩) (by show w.heap.size<=g; omega) (.bool true))
  have r:=hid (hO.setCell (a:=⟨g,1,none⟩) (fun e=>(zbT rs hO (by decide)).elim (fun h=>by rw [h] at e; cases e) fun h=>h e) (.bool true))
  clear rs rf hB hO
  go_wp2
  clear y0 z0
  obtain ⟨w3,a1⟩:=exx (w2.setCell ⟨g,1,none⟩ (.bool true))
  rw [<-a1] at d B Y r ⊢;clear a1
  obtain ⟨p,hp⟩:=exx (pwG (mulF P M m) x)
  have a6:p 1=x:=by rw [hp]; rfl
  have a5:∀ n,1<=n->p (n+1)=mulF P M m (p n) x:=fun n hn=>by rw [hp]; exact zhk _ _ hn
  have a7:PwOk q p 1:=by
    rw [hp]
    exact ⟨fun i hi => by obtain rfl : i = 0 := by omega
                          exact Nat.one_ne_zero, fun i hi => by obtain rfl : i = 0 := by omega
                                                                exact ai,fun i j h1 h2=>by omega⟩
  rw [<-hp] at d r ⊢
  have an:=hid a5
  have C:=hid a7
  have ao:=hid a6
  have ac:=hid hp
  clear hp a6 a5 a7
  go_loopg [7,9] q (fun gg ov yv wx=>∃ L y:Nat,yv=.int .i64 (y:Nat)/\1<=L/\L<q/\q<=L+gg/\y<q/\Hid (y=p L)/\Hid (PwOk q p L)/\Hid (Own wx (w.heap.size+1) 3 1 ov L (fun i _=>.int .i64 (p i:Nat)))/\Hid (wx.rowIs g 4 q (fun t=>.bool (seenB p L t)))/\Hid (wx.rowIs w.heap.size 24 3 (fldCell (.int .i64 (P:Nat)) (.int .i64 (M:Nat)) (.slice A k c)))/\Hid (Below w.heap.size w wx))
  case atStart=>exact ⟨1,x,rfl,by omega,by omega,by omega,hx,ao.out.symm,C,r,d,B,Y⟩
  clear r d B Y C
  obtain ⟨L,y,rfl,S,aw,au,N,HY,C,HO,d,B,J⟩:=hrel
  have aq:(0:Int)<=(y:Int):=by omega
  have ah:(y:Int)<(q:Int):=by omega
  by_cases hyz:y=0
  · have hz:((y:Int) != 0)=false:=by simp [hyz]
    have v:Hid (p L=0∨seenB p L (p L)=true):=.inl (by rw [<-HY.out]; exact hyz)
    clear hyz
    go_wp2
    go_ret
    have e:=ac.out
    subst e
    exact ⟨_,L,rfl,S,HO.out.mono (Nat.le_succ _),J.out,C.out,v.out⟩
  have hz:((y:Int) != 0)=true:=by simp; omega
  have s0:=d.out.cell (i:=y) N
  obtain ⟨sb,O⟩:=exx (seenB p L y)
  rw [<-O] at s0
  have ab:=hid O
  have al:=hid hyz
  clear O hyz
  cases sb
  rotate_left
  · have v:Hid (p L=0∨seenB p L (p L)=true):=.inr (by rw [<-HY.out]; exact ab.out.symm)
    go_wp2
    go_ret
    have e:=ac.out
    subst e
    exact ⟨_,L,rfl,S,HO.out.mono (Nat.le_succ _),J.out,C.out,v.out⟩
  have G:=hid (C.out.next (by rw [<-HY.out]; exact al.out) (by rw [<-HY.out]; exact N) (by rw [<-HY.out]; exact ab.out.symm))
  have R:L+1<q:=by have:=G.out.le (by omega); omega
  have z0:=d.out.frozen y
  have rs:=d.out.set y (.bool true)
  have s:=hid (rs.congr (g:=fun t=>.bool (seenB p (L+1) t)) fun t _=>by
    show (if t=y then Value.bool true else .bool (seenB p L t))=.bool (if t=p L then true else seenB p L t)
    rw [<-HY.out]
    split <;> rfl)
  have u:=hid (B.out.setOther (a:=⟨g,y,none⟩) (by simp; omega) (.bool true))
  have z:=hid (J.out.setCell (p:=⟨g,y,none⟩) (by show w.heap.size<=g; omega) (.bool true))
  have r:=hid (HO.out.setCell (a:=⟨g,y,none⟩) (fun e=>(zbT d.out HO.out (by decide)).elim (fun h=>by rw [h] at e; cases e) fun h=>h e) (.bool true))
  clear rs d B J HO
  go_upto_region 8 with fail
  clear z0 s0
  obtain ⟨w4,a0⟩:=exx (wr.setCell ⟨g,y,none⟩ (.bool true))
  rw [<-a0] at s u z r ⊢;clear a0
  have kb:=(Below.refl w4.heap.size w4).alloc (Nat.le_refl _) (Obj.cells #[Value.int .i64 (y:Nat)] 3)
  have H:=hid (r.out.on kb)
  have l:=hid (zab s.out kb)
  have o:=hid (zab u.out kb)
  have ag:=hid (onS z.out kb)
  have af:Hid ((w4.alloc (Obj.cells #[Value.int .i64 (y:Nat)] 3)).cell? ((⟨w4.heap.size,0,none⟩:Addr).add 0)=some (.int .i64 (y:Nat))):=tbox2
  have T:Hid (w.heap.size+1<=(w4.alloc (Obj.cells #[Value.int .i64 (y:Nat)] 3)).heap.size):=o.out.lt
  have ap:Hid (L<=1048576):=by show _<=_; omega
  clear kb r s u z
  go_upto_region 6 with (first | (at_builtin; (refine zaP rfl (.tmp 32) (.tmp 34) rfl H.out rfl (ad:=⟨w4.heap.size,0,none⟩) (c:=1) rfl af.out T.out ap.out ?_); intro v9 w9 o1 o2 o3))
  have ae:=hid (o1.congr (f':=fun i _=>.int .i64 (p i:Nat)) fun i _ _ _=>by
    by_cases e:i=L
    · subst e; rw [if_pos rfl,HY.out]
    · rw [if_neg e])
  have D:=hid (l.out.of_block (o2.block _ l.out.lt fun e=>(zbT l.out H.out (by decide)).elim (fun h=>by rw [h] at e; cases e) fun h=>h e.symm))
  have b:=hid (o.out.of_block (o2.block _ o.out.lt fun e=>by have:=(H.out.lt _ e.symm).1; omega))
  have X:=hid (ag.out.grown o2 (Nat.le_of_succ_le T.out) fun q e=>by have:=(H.out.lt q e).1; omega)
  clear o1 o2 o3 H l o ag af T
  have q0:=qc0 b.out
  have q1:=qc1 b.out
  have q2:=qc2 b.out
  go_wp2_with fail
  refine (zcn P M A k c m y x w9 hf (zaL hm X.out) hkM (by rw [<-HQ.out]; exact N) (by rw [<-HQ.out]; exact hx)).mono ?_
  rintro e w10 ⟨rfl,kb⟩
  obtain ⟨y',I⟩:∃ y',y'=mulF P M m y x:=⟨_,rfl⟩
  rw [<-I]
  have K:y'<q:=by rw [I]; exact V.out y
  have am:Hid (y'=p (L+1)):=by show _=_; rw [I,an.out L S,<-HY.out]
  have U:=hid (ae.out.on kb)
  have E:=hid (zab D.out kb)
  have F:=hid (zab b.out kb)
  have Z:=hid (onS X.out kb)
  clear kb q0 q1 q2 I ae D b X
  go_wp2
  go_roundg (gk - 1)
  case measure=>omega
  case rel=>exact ⟨L+1,y',rfl,by omega,R,by omega,K,am,G,U,E,F,Z⟩
def GenX (q:Nat) (mul:Nat->Nat->Nat) (x:Nat):Prop:=PwOk q (pwG mul x) (q - 1)/\mul (pwG mul x (q - 2)) x=1
theorem zfj {q L:Nat} {p:Nat->Nat} (hq:1<=q) (h:PwOk q p L) (hs:p L=0∨seenB p L (p L)=true) (hg:PwOk q p (q - 1)):L=q - 1:=by
 have h1:=h.le hq
 refine Classical.byContradiction fun hne=>?_
 have a:L<q - 1:=by omega
 rcases hs with hs | hs
 ·exact hg.ne L a hs
 ·obtain ⟨i,hi,e⟩:=(zc1 p (p L) L).1 hs
  exact hg.inj i L hi a e
def GenrPost (q:Nat) (mul:Nat->Nat->Nat) (w:World) (e:Ending) (w':World):Prop :=
 Below w.heap.size w w'/\((e=.returned (.slice none 0 0)/\∀ x,1<=x->x<q->¬ GenX q mul x) ∨
  ∃ lv x,e=.returned lv/\1<=x/\x<q/\GenX q mul x/\Own w' w.heap.size 3 1 lv (q - 1) (fun i _=>.int .i64 (pwG mul x i:Nat)))
theorem zb3 (P M:Nat) (A:Option Addr) (k c:Nat) (m:Nat->Nat) (q:Nat) (w:World) (hf:FldOk P M) (hm:ModOk w P M A m) (hkM:M=1∨k=M) (hq:q=P ^ M) :
  Calls Tryz.prog 147 #[.agg #[.int .i64 (P:Nat),.int .i64 (M:Nat),.slice A k c],.int .i64 (q:Nat)] w (GenrPost q (mulF P M m) w):=by
 have O:0<P:=by have:=hf.1; omega
 have Y:q<=256:=by rw [hq]; exact hf.2.2.2
 have Z:2<=q:=by
  have h1:=hf.1
  have h2:=Nat.pow_le_pow_right O hf.2.1
  rw [Nat.pow_one] at h2
  omega
 obtain ⟨Q1,D⟩:=exx (q - 1)
 obtain ⟨Q2,C⟩:=exx (q - 2)
 have N:(q:Int) - 1=(Q1:Int):=by omega
 have I:(q:Int) - 2=(Q2:Int):=by omega
 have b:Q2<Q1:=by omega
 have n:=hid D
 have E:=hid C
 have HQ:=hid hq
 clear hq D C
 obtain ⟨w0,v,hB,rf⟩:=zaj w (.int .i64 (P:Nat)) (.int .i64 (M:Nat)) (.slice A k c) 24
 go_enter Tryz.func147, Tryz.ntmps147
 go_upto_region 1 with fail
 rw [<-v];clear v
 go_wp2
 go_loopg [5,6] q (fun gg xv _ wx=>∃ x:Nat,xv=.int .i64 (x:Nat)/\1<=x/\x<=q/\q<=x+gg/\Hid (∀ y,1<=y->y<x->¬ GenX q (mulF P M m) y)/\wx.rowIs w.heap.size 24 3 (fldCell (.int .i64 (P:Nat)) (.int .i64 (M:Nat)) (.slice A k c))/\Below w.heap.size w wx)
 case atStart=>exact ⟨1,rfl,by omega,by omega,by omega,fun y h1 h2=>absurd h1 (by omega),rf,hB⟩
 clear rf hB
 obtain ⟨x,rfl,u,W,X,r,rf,hB⟩:=hrel
 by_cases hlt:x<q
 rotate_left
 ·have l:¬ (x:Int)<(q:Int):=by omega
  obtain rfl:x=q:=by omega
  go_wp2
  go_ret
  exact ⟨hB,.inl ⟨rfl,r.out⟩⟩
 have l:(x:Int)<(q:Int):=by omega
 have q0:=qc0 rf
 have q1:=qc1 rf
 have q2:=qc2 rf
 go_wp2_with fail
 refine (zfi P M A k c m q x wr hf (zaL hm hB) hkM HQ.out u hlt).mono ?_
 rintro e w1 ⟨lv,L,rfl,a2,hO,kb,j,a⟩
 have HO:=hid (hO.mono hB.size)
 replace rf:=zab rf kb;replace hB:=onS hB kb
 have o:=hid j
 have s:=hid a
 have a1:=j.le (by omega)
 clear kb q0 q1 q2 hO j a
 obtain ⟨LA,lc,H⟩:=HO.out.shape
 subst H
 by_cases hL:L=Q1
 rotate_left
 ·have Q:((L:Int) == (Q1:Int))=false:=by simp; omega
  have g:IntKind.i64.wrap (Q1:Int)=(Q1:Int):=IntWalk.i64_in _ (by omega)
  have p:Hid (∀ y,1<=y->y<x+1->¬ GenX q (mulF P M m) y):=fun y h1 h2 hg=>by
   by_cases e:y=x
   ·subst e
    exact hL (by rw [n.out]; exact zfj (by omega) o.out s.out hg.1)
   ·exact r.out y h1 (by omega) hg
  clear hL
  go_wp2
  go_quiet (fail)
  go_wp2
  go_roundg (gk - 1)
  case measure=>omega
  case rel=>exact ⟨x+1,by go_num,by omega,by omega,by omega,p,za8 rf _,zad hB _⟩
 have Q:((L:Int) == (Q1:Int))=true:=by simp [hL]
 subst hL
 obtain ⟨pb,po,R,a0,x0⟩:=(show IntsR w1 w1.heap.size LA L (fun i=>((pwG (mulF P M m) x i:Nat):Int)) from HO.out.rd rfl).at (i:=Q2) b
 subst R
 obtain ⟨z,hz⟩:=exx (pwG (mulF P M m) x Q2)
 rw [<-hz] at x0
 have F:z<q:=by rw [hz]; exact o.out.lt Q2 b
 have HZ:=hid hz
 clear hz
 have B:(Q2:Int)<(L:Int):=by omega
 have J:(0:Int)<=(Q2:Int):=by omega
 have g:IntKind.i64.wrap (L:Int)=(L:Int):=IntWalk.i64_in _ (by omega)
 have G:IntKind.i64.wrap (Q2:Int)=(Q2:Int):=IntWalk.i64_in _ (by omega)
 go_wp2
 refine wp_region_held_drew (S:=fun w'=>w'.cell? ⟨w.heap.size,0,none⟩=some (.int .i64 (P:Nat))/\w'.cell? ⟨w.heap.size,1,none⟩=some (.int .i64 (M:Nat))/\w'.cell? ⟨w.heap.size,2,none⟩=some (.slice A k c)/\w'.cell? ⟨pb,po+Q2,none⟩=some (.int .i64 (z:Nat))) (by kernel_rfl) ⟨cellS (Below.refl _ _).drew (rf.cell (i:=0) (by omega)),cellS (Below.refl _ _).drew (rf.cell (i:=1) (by omega)),cellS (Below.refl _ _).drew (rf.cell (i:=2) (by omega)),cellS (Below.refl _ _).drew (x0)⟩ (fun hHeld=>?_)
 obtain ⟨w2,hw,kb⟩:=dwx w1
 rw [<-hw] at hHeld ⊢;clear hw;replace rf:=zab rf kb;replace hB:=onS hB kb;replace x0:=cellS kb x0
 have V:=hid kb
 clear kb
 refine tkq 0 (h:=tkq 1 (h:=tkq 2 (h:=tkq 3 (h:=tkq 4 (h:=tkq 5 (h:=tkq 6 (h:=tkq 7 (h:=tkq 8 (h:=tkq 9 (h:=tkq 10 (h:=tkq 11 (h:=tkq 12 (h:=?_)))))))))))))
 refine rdq 13 (h:=fun K hK=>?_)
 go_simp
 go_wp2_with fail
 refine (zcn P M A k c m z x w2 hf (zaL hm hB) hkM (by rw [<-HQ.out]; exact F) (by rw [<-HQ.out]; exact hlt)).mono ?_
 rintro e w3 ⟨rfl,kb⟩
 replace rf:=zab rf kb;replace hB:=onS hB kb;replace x0:=cellS kb x0
 have U:=hid (onS V.out kb)
 clear kb
 obtain ⟨y,hy⟩:=exx (mulF P M m z x)
 rw [<-hy]
 have HY:=hid hy
 have a3:=hid True.intro
 clear hy
 refine bkq hK ⟨qc0 rf,qc1 rf,qc2 rf,x0⟩ (h:=fun hHeld=>?_)
 clear hK K
 refine tkq 14 (h:=tkq 15 (h:=?_))
 refine wpAnyH_done (by kernel_rfl) ?_ _
 clear hHeld
 by_cases hy1:y=1
 ·have d:((y:Int) == 1)=true:=by simp [hy1]
  have HG:Hid (GenX q (mulF P M m) x):=⟨by rw [<-n.out]; exact o.out,by rw [<-E.out,<-HZ.out,<-HY.out]; exact hy1⟩
  have T:=hid (HO.out.on U.out)
  clear hy1 x0
  go_wp2
  go_ret
  exact ⟨hB,.inr ⟨_,x,rfl,u,hlt,HG.out,by rw [<-n.out]; exact T.out⟩⟩
 have d:((y:Int) == 1)=false:=by simp; omega
 have p:Hid (∀ y',1<=y'->y'<x+1->¬ GenX q (mulF P M m) y'):=fun y' h1 h2 hg=>by
  by_cases e:y'=x
  ·subst e
   exact hy1 (by rw [HY.out,HZ.out,E.out]; exact hg.2)
  ·exact r.out y' h1 (by omega) hg
 clear hy1 x0
 go_wp2
 go_roundg (gk - 1)
 case measure=>omega
 case rel=>exact ⟨x+1,by go_num,by omega,by omega,by omega,p,rf,hB⟩
structure Fie (K:Type) [Add K] [Mul K] [Neg K] [Zero K] [One K]:Prop where
 addA:∀ x y z:K,x+y+z=x+(y+z)
 addC:∀ x y:K,x+y=y+x
 zeroA:∀ x:K,0+x=x
 negA:∀ x:K,-x+x=0
 mulA:∀ x y z:K,x*y*z=x*(y*z)
 mulC:∀ x y:K,x*y=y*x
 oneM:∀ x:K,1*x=x
 dist:∀ x y z:K,x*(y+z)=x*y+x*z
 inv:∀ x:K,x≠0->∃ y,x*y=1
 ne:(1:K)≠0
namespace Fie
variable {K:Type} [Add K] [Mul K] [Neg K] [Zero K] [One K] (F:Fie K)
include F
theorem addZ (x:K):x+0=x:=by rw [F.addC,F.zeroA]
theorem addN (x:K):x + -x=0:=by rw [F.addC,F.negA]
theorem cancel {x y z:K} (h:x+y=x+z):y=z:=by
 have : -x+(x+y) = -x+(x+z):=by rw [h]
 rwa [<-F.addA,<-F.addA,F.negA,F.zeroA,F.zeroA] at this
theorem mulZ (x:K):x*0=0:=F.cancel (x:=x*0) (by rw [<-F.dist,F.zeroA,F.addZ])
theorem zMul (x:K):0*x=0:=by rw [F.mulC,F.mulZ]
theorem distR (x y z:K):(x+y)*z=x*z+y*z:=by rw [F.mulC,F.dist,F.mulC z,F.mulC z]
theorem mulOne (x:K):x*1=x:=by rw [F.mulC,F.oneM]
theorem negOf {x y:K} (h:x+y=0):y = -x:=F.cancel (x:=x) (by rw [h,F.addN])
theorem mulNeg (x y:K):x * -y = -(x*y):=F.negOf (by rw [<-F.dist,F.addN,F.mulZ])
theorem negMul (x y:K) : -x*y = -(x*y):=by rw [F.mulC,F.mulNeg,F.mulC]
theorem negNeg (x:K) : - -x=x:=(F.negOf (F.negA x)).symm
theorem subEq {x y:K} (h:x + -y=0):x=y:=by
 have:=F.negOf h
 rw [<-F.negNeg y,this,F.negNeg]
theorem addL (x y z:K):x+(y+z)=y+(x+z):=by rw [<-F.addA,F.addC x,F.addA]
theorem mulL (x y z:K):x*(y*z)=y*(x*z):=by rw [<-F.mulA,F.mulC x,F.mulA]
theorem zeroOr {x y:K} (h:x*y=0) (hx:x≠0):y=0:=by
 obtain ⟨z,hz⟩:=F.inv x hx
 have:z*(x*y)=y:=by rw [<-F.mulA,F.mulC z,hz,F.oneM]
 rw [<-this,h,F.mulZ]
end Fie
def addW {K:Type} [Add K] (x y:List K):List K:=List.zipWith (·+·) x y
def smulW {K:Type} [Mul K] (a:K) (x:List K):List K:=x.map (a*·)
theorem zc2 {K:Type} [Mul K] (c:K) (x:List K):(smulW c x).length=x.length:=by simp [smulW]
theorem zfk {K:Type} [Add K] {x y:List K} (h:x.length=y.length):(addW x y).length=x.length:=by simp [addW]; omega
section
variable {K:Type} [Add K] [Mul K] [Neg K] [Zero K] [One K]
variable (F:Fie K)
include F
theorem zhl (c:K):∀ x y:List K,x.length=y.length->addW (addW x (smulW c y)) (smulW (-c) y)=x:=by
 intro x
 induction x with
 | nil=>intro y _; cases y <;> rfl
 | cons a x ih =>
  intro y h
  cases y with
  | nil=>simp at h
  | cons b y =>
   show (a+c*b + -c*b) :: addW (addW x (smulW c y)) (smulW (-c) y)=a :: x
   rw [ih y (by simpa using h),F.addA,F.negMul,F.addN,F.addZ]
end
section
variable {K:Type} [Add K] [Mul K] [Neg K] [Zero K] [One K]
inductive Gen (k n:Nat) (r:Nat->List K):List K->Prop
 | zero:Gen k n r (List.replicate k 0)
 | row (i:Nat) (hi:i<n):Gen k n r (r i)
 | add {x y:List K}:Gen k n r x->Gen k n r y->Gen k n r (addW x y)
 | smul (a:K) {x:List K}:Gen k n r x->Gen k n r (smulW a x)
end
theorem Gen.sub {K:Type} [Add K] [Mul K] [Zero K] {k n n':Nat} {r r':Nat->List K} (h:∀ i,i<n->Gen k n' r' (r i)):∀ x,Gen k n r x->Gen k n' r' x:=by
 intro x hx
 induction hx with
 | zero=>exact .zero
 | row i hi=>exact h i hi
 | add _ _ h1 h2=>exact .add h1 h2
 | smul a _ h=>exact .smul a h
theorem Gen.congr {K:Type} [Add K] [Mul K] [Zero K] {k n:Nat} {r r':Nat->List K} (h:∀ i,i<n->r i=r' i) (x:List K):Gen k n r x↔Gen k n r' x :=
 ⟨Gen.sub (fun i hi=>by rw [h i hi]; exact .row i hi) x,Gen.sub (fun i hi=>by rw [<-h i hi]; exact .row i hi) x⟩
theorem Gen.swap {K:Type} [Add K] [Mul K] [Zero K] {k n i j:Nat} {r:Nat->List K} (hi:i<n) (hj:j<n) (x:List K):Gen k n (fun t=>if t=i then r j else if t=j then r i else r t) x↔Gen k n r x:=by
 constructor
 ·refine Gen.sub (fun t ht=>?_) x
  show Gen k n r (if t=i then r j else if t=j then r i else r t)
  split
  ·exact .row j hj
  split
  ·exact .row i hi
  ·exact .row t ht
 refine Gen.sub (fun t ht=>?_) x
 have a:∀ u,u<n->Gen k n (fun t=>if t=i then r j else if t=j then r i else r t) (if u=i then r j else if u=j then r i else r u):=fun u hu=>.row u hu
 by_cases e1:t=i
 ·subst e1
  have:=a j hj
  by_cases e2:j=t
  ·subst e2; simpa using this
  ·rwa [if_neg e2,if_pos rfl] at this
 by_cases e2:t=j
 ·subst e2
  have:=a i hi
  rwa [if_pos rfl] at this
 ·have:=a t ht
  rwa [if_neg e1,if_neg e2] at this
section
variable {K:Type} [Add K] [Mul K] [Neg K] [Zero K] [One K] (F:Fie K)
include F
theorem zgi (a b:K) (x:List K):smulW a (smulW b x)=smulW (a*b) x:=by
 unfold smulW
 rw [List.map_map]
 exact List.map_congr_left fun c _=>(F.mulA a b c).symm
theorem zhm (x:List K):smulW (1:K) x=x:=by
 induction x with
 | nil=>rfl
 | cons a x ih=>show 1*a :: smulW 1 x=a :: x; rw [F.oneM,ih]
theorem Gen.scale {k n i:Nat} {r:Nat->List K} {c:K} (hc:c≠0) (hi:i<n) (x:List K):Gen k n (fun t=>if t=i then smulW c (r i) else r t) x↔Gen k n r x:=by
 constructor
 ·refine Gen.sub (fun t ht=>?_) x
  show Gen k n r (if t=i then smulW c (r i) else r t)
  split
  ·exact .smul c (.row i hi)
  ·exact .row t ht
 refine Gen.sub (fun t ht=>?_) x
 have a:∀ u,u<n->Gen k n (fun t=>if t=i then smulW c (r i) else r t) (if u=i then smulW c (r i) else r u):=fun u hu=>.row u hu
 by_cases e:t=i
 ·subst e
  obtain ⟨d,hd⟩:=F.inv c hc
  have h1:=a t ht
  rw [if_pos rfl] at h1
  have h2:=Gen.smul d h1
  rwa [zgi F,F.mulC,hd,zhm F] at h2
 ·have:=a t ht
  rwa [if_neg e] at this
theorem Gen.addTo {k n i t:Nat} {r:Nat->List K} {a:K} (hi:i<n) (ht:t<n) (hit:t≠i) (hl:∀ u,u<n->(r u).length=k) (x:List K):Gen k n (fun u=>if u=i then addW (r i) (smulW a (r t)) else r u) x↔Gen k n r x:=by
 constructor
 ·refine Gen.sub (fun u hu=>?_) x
  show Gen k n r (if u=i then addW (r i) (smulW a (r t)) else r u)
  split
  ·exact .add (.row i hi) (.smul a (.row t ht))
  ·exact .row u hu
 refine Gen.sub (fun u hu=>?_) x
 have b:∀ u,u<n->Gen k n (fun u=>if u=i then addW (r i) (smulW a (r t)) else r u) (if u=i then addW (r i) (smulW a (r t)) else r u):=fun u hu=>.row u hu
 by_cases e:u=i
 ·subst e
  have h1:=b u hu
  rw [if_pos rfl] at h1
  have h2:=b t ht
  rw [if_neg hit] at h2
  have h3:=Gen.add h1 (.smul (-a) h2)
  rwa [zhl F a _ _ (by rw [hl u hu,hl t ht])] at h3
 ·have:=b u hu
  rwa [if_neg e] at this
end
structure EchN (q n k c a:Nat) (pv:Nat->Nat) (W:Nat->Nat->Nat):Prop where
 le:a<=n
 lt:∀ i,i<n->∀ j,j<k->W i j<q
 inc:∀ s t,s<t->t<a->pv s<pv t
 pvlt:∀ s,s<a->pv s<c
 one:∀ s,s<a->W s (pv s)=1
 zero:∀ s,s<a->∀ i,i<n->i≠s->W i (pv s)=0
 lead:∀ s,s<a->∀ j,j<pv s->W s j=0
 below:∀ i,a<=i->i<n->∀ j,j<c->W i j=0
section
variable {q n k c a:Nat} {pv:Nat->Nat} {W:Nat->Nat->Nat}
theorem EchN.start (h:∀ i,i<n->∀ j,j<k->W i j<q):EchN q n k 0 0 pv W :=
 ⟨Nat.zero_le _,h,fun _ _ _ h=>absurd h (by omega),fun _ h=>absurd h (by omega),fun _ h=>absurd h (by omega),fun _ h=>absurd h (by omega),fun _ h=>absurd h (by omega),fun _ _ _ _ h=>absurd h (by omega)⟩
theorem EchN.none (h:EchN q n k c a pv W) (hz:∀ i,a<=i->i<n->W i c=0):EchN q n k (c+1) a pv W :=
 ⟨h.le,h.lt,h.inc,fun s hs=>Nat.lt_succ_of_lt (h.pvlt s hs),h.one,h.zero,h.lead,fun i h1 h2 j hj=>by
  by_cases e:j=c
  ·subst e; exact hz i h1 h2
  ·exact h.below i h1 h2 j (by omega)⟩
theorem EchN.swap (h:EchN q n k c a pv W) {t:Nat} (h1:a<=t) (h2:t<n):EchN q n k c a pv (fun u=>if u=a then W t else if u=t then W a else W u):=by
 have ha:a<n:=by omega
 refine ⟨h.le,fun i hi j hj=>?_,h.inc,h.pvlt,fun s hs=>?_,fun s hs i hi hne=>?_,fun s hs j hj=>?_,fun i hi1 hi2 j hj=>?_⟩
 ·show (if i=a then W t else if i=t then W a else W i) j<q
  split
  ·exact h.lt t h2 j hj
  split
  ·exact h.lt a ha j hj
  ·exact h.lt i hi j hj
 ·show (if s=a then W t else if s=t then W a else W s) (pv s)=1
  rw [if_neg (by omega),if_neg (by omega)]
  exact h.one s hs
 ·show (if i=a then W t else if i=t then W a else W i) (pv s)=0
  split
  ·exact h.zero s hs t h2 (by omega)
  split
  ·exact h.zero s hs a ha (by omega)
  ·exact h.zero s hs i hi hne
 ·show (if s=a then W t else if s=t then W a else W s) j=0
  rw [if_neg (by omega),if_neg (by omega)]
  exact h.lead s hs j hj
 show (if i=a then W t else if i=t then W a else W i) j=0
 split
 ·exact h.below t h1 h2 j hj
 split
 ·exact h.below a (Nat.le_refl _) ha j hj
 ·exact h.below i hi1 hi2 j hj
variable {add mul:Nat->Nat->Nat}
theorem FieldLaws.addZero (h:FieldLaws q add mul) {x:Nat} (hx:x<q):add x 0=x:=by rw [h.addComm,h.zeroAdd x hx]
theorem FieldLaws.mulZero (h:FieldLaws q add mul) {x:Nat} (hx:x<q):mul x 0=0:=by
 have h2:=h.two
 have hz:=h.mulLt x 0
 have e:=h.distrib x 0 0 hx (by omega) (by omega)
 rw [h.zeroAdd 0 (by omega)] at e
 obtain ⟨y,hy,e1⟩:=h.neg _ hz
 have e2:=h.addAssoc _ _ _ hz hz hy
 rw [<-e,e1,h.addZero hz] at e2
 exact e2.symm
theorem FieldLaws.mulOne (h:FieldLaws q add mul) {x:Nat} (hx:x<q):mul x 1=x:=by
 have:=h.two
 rw [h.mulComm x 1 hx (by omega),h.oneMul x hx]
structure EchP (q n k c a i:Nat) (pv:Nat->Nat) (W:Nat->Nat->Nat):Prop where
 ech:EchN q n k c a pv W
 lt:a<n
 piv:W a c=1
 clr:∀ t,t<i->t<n->t≠a->W t c=0
theorem EchN.scale (h:EchN q n k c a pv W) (hF:FieldLaws q add mul) (ha:a<n) {d:Nat} (hd:d<q) (h1:mul d (W a c)=1):EchP q n k c a 0 pv (fun u=>if u=a then fun j=>mul d (W a j) else W u):=by
 refine ⟨⟨h.le,fun i hi j hj=>?_,h.inc,h.pvlt,fun s hs=>?_,fun s hs i hi hne=>?_,fun s hs j hj=>?_,fun i hi1 hi2 j hj=>?_⟩,ha,?_,fun t ht=>absurd ht (by omega)⟩
 ·show (if i=a then fun j=>mul d (W a j) else W i) j<q
  split
  ·exact hF.mulLt _ _
  ·exact h.lt i hi j hj
 ·show (if s=a then fun j=>mul d (W a j) else W s) (pv s)=1
  rw [if_neg (by omega)]
  exact h.one s hs
 ·show (if i=a then fun j=>mul d (W a j) else W i) (pv s)=0
  split
  ·show mul d (W a (pv s))=0
   rw [h.zero s hs a ha (by omega),hF.mulZero hd]
  ·exact h.zero s hs i hi hne
 ·show (if s=a then fun j=>mul d (W a j) else W s) j=0
  rw [if_neg (by omega)]
  exact h.lead s hs j hj
 ·show (if i=a then fun j=>mul d (W a j) else W i) j=0
  split
  ·show mul d (W a j)=0
   rw [h.below a (Nat.le_refl _) ha j hj,hF.mulZero hd]
  ·exact h.below i hi1 hi2 j hj
 show (if a=a then fun j=>mul d (W a j) else W a) c=1
 rw [if_pos rfl]
 exact h1
theorem EchN.one_piv (h:EchN q n k c a pv W) (ha:a<n) (h1:W a c=1):EchP q n k c a 0 pv W:=⟨h,ha,h1,fun t ht=>absurd ht (by omega)⟩
theorem EchP.skip {i:Nat} (h:EchP q n k c a i pv W) (hi:i=a∨W i c=0):EchP q n k c a (i+1) pv W :=
 ⟨h.ech,h.lt,h.piv,fun t ht htn hne=>by
  by_cases e:t=i
  ·subst e
   rcases hi with hi | hi
   ·exact absurd hi hne
   ·exact hi
  ·exact h.clr t (by omega) htn hne⟩
theorem EchP.clear {i:Nat} (h:EchP q n k c a i pv W) (hF:FieldLaws q add mul) (hck:c<k) (hi:i<n) (hia:i≠a) {e:Nat} (he:e<q) (h0:add (W i c) e=0):EchP q n k c a (i+1) pv (fun u=>if u=i then fun j=>add (W i j) (mul e (W a j)) else W u):=by
 have hE:=h.ech
 have ha:=h.lt
 have hq:=hF.two
 have b:∀ j,j<k->W a j=0->add (W i j) (mul e (W a j))=W i j:=fun j hj hz=>by
  rw [hz,hF.mulZero he,hF.addZero (hE.lt i hi j hj)]
 have d:∀ s,s<a->pv s<k:=fun s hs=>by have:=hE.pvlt s hs; omega
 refine ⟨⟨hE.le,fun t ht j hj=>?_,hE.inc,hE.pvlt,fun s hs=>?_,fun s hs t ht hne=>?_,fun s hs j hj=>?_,fun t ht1 ht2 j hj=>?_⟩,ha,?_,fun t ht htn hne=>?_⟩
 ·show (if t=i then fun j=>add (W i j) (mul e (W a j)) else W t) j<q
  split
  ·exact hF.addLt _ _
  ·exact hE.lt t ht j hj
 ·show (if s=i then fun j=>add (W i j) (mul e (W a j)) else W s) (pv s)=1
  split
  ·rename_i hsi
   subst hsi
   show add (W s (pv s)) (mul e (W a (pv s)))=1
   rw [b _ (d s hs) (hE.zero s hs a ha (by omega))]
   exact hE.one s hs
  ·exact hE.one s hs
 ·show (if t=i then fun j=>add (W i j) (mul e (W a j)) else W t) (pv s)=0
  split
  ·rename_i hti
   subst hti
   show add (W t (pv s)) (mul e (W a (pv s)))=0
   rw [b _ (d s hs) (hE.zero s hs a ha (by omega))]
   exact hE.zero s hs t ht hne
  ·exact hE.zero s hs t ht hne
 ·show (if s=i then fun j=>add (W i j) (mul e (W a j)) else W s) j=0
  have f:j<c:=by have:=hE.pvlt s hs; omega
  split
  ·rename_i hsi
   subst hsi
   show add (W s j) (mul e (W a j))=0
   rw [b j (by omega) (hE.below a (Nat.le_refl _) ha j f)]
   exact hE.lead s hs j hj
  ·exact hE.lead s hs j hj
 ·show (if t=i then fun j=>add (W i j) (mul e (W a j)) else W t) j=0
  split
  ·rename_i hti
   subst hti
   show add (W t j) (mul e (W a j))=0
   rw [b j (by omega) (hE.below a (Nat.le_refl _) ha j hj)]
   exact hE.below t ht1 ht2 j hj
  ·exact hE.below t ht1 ht2 j hj
 ·show (if a=i then fun j=>add (W i j) (mul e (W a j)) else W a) c=1
  rw [if_neg (fun e=>hia e.symm)]
  exact h.piv
 show (if t=i then fun j=>add (W i j) (mul e (W a j)) else W t) c=0
 split
 ·show add (W i c) (mul e (W a c))=0
  rw [h.piv,hF.mulOne he,h0]
 ·exact h.clr t (by omega) htn hne
theorem EchP.done (h:EchP q n k c a n pv W):EchN q n k (c+1) (a+1) (fun s=>if s=a then c else pv s) W:=by
 have hE:=h.ech
 have ha:=h.lt
 refine ⟨by omega,hE.lt,fun s t hst ht=>?_,fun s hs=>?_,fun s hs=>?_,fun s hs i hi hne=>?_,fun s hs j hj=>?_,fun i hi1 hi2 j hj=>?_⟩
 ·show (if s=a then c else pv s)<if t=a then c else pv t
  rw [if_neg (by omega)]
  split
  ·exact hE.pvlt s (by omega)
  ·exact hE.inc s t hst (by omega)
 ·show (if s=a then c else pv s)<c+1
  split
  ·omega
  ·have:=hE.pvlt s (by omega); omega
 ·show W s (if s=a then c else pv s)=1
  by_cases e:s=a
  ·subst e; rw [if_pos rfl]; exact h.piv
  ·rw [if_neg e]; exact hE.one s (by omega)
 ·show W i (if s=a then c else pv s)=0
  by_cases e:s=a
  ·subst e; rw [if_pos rfl]; exact h.clr i hi hi hne
  ·rw [if_neg e]; exact hE.zero s (by omega) i hi hne
 ·have hj:j<if s=a then c else pv s:=hj
  by_cases e:s=a
  ·subst e
   rw [if_pos rfl] at hj
   exact hE.below s (Nat.le_refl _) ha j hj
  ·rw [if_neg e] at hj
   exact hE.lead s (by omega) j hj
 by_cases e:j=c
 ·subst e; exact h.clr i hi2 hi2 (by omega)
 ·exact hE.below i (by omega) hi2 j (by omega)
end
inductive RowOps (q:Nat) (add mul:Nat->Nat->Nat) (n k:Nat) (V:Nat->Nat->Nat):(Nat->Nat->Nat)->Prop
 | refl:RowOps q add mul n k V V
 | swap {W:Nat->Nat->Nat} (h:RowOps q add mul n k V W) {a t:Nat} (ha:a<n) (ht:t<n):RowOps q add mul n k V (fun u=>if u=a then W t else if u=t then W a else W u)
 | scale {W:Nat->Nat->Nat} (h:RowOps q add mul n k V W) {a d:Nat} (ha:a<n) (hd:d<q) (hd0:d≠0):RowOps q add mul n k V (fun u=>if u=a then fun j=>mul d (W a j) else W u)
 | add {W:Nat->Nat->Nat} (h:RowOps q add mul n k V W) {i a e:Nat} (hi:i<n) (ha:a<n) (hne:i≠a) (he:e<q):RowOps q add mul n k V (fun u=>if u=i then fun j=>add (W i j) (mul e (W a j)) else W u)
 | eq {W W':Nat->Nat->Nat} (h:RowOps q add mul n k V W) (e:∀ i,i<n->∀ j,j<k->W i j=W' i j):RowOps q add mul n k V W'
theorem EchN.congr {q n k c a:Nat} {pv:Nat->Nat} {W W':Nat->Nat->Nat} (h:EchN q n k c a pv W) (hck:c<=k) (e:∀ i,i<n->∀ j,j<k->W i j=W' i j):EchN q n k c a pv W':=by
 have hp:∀ s,s<a->pv s<k:=fun s hs=>by have:=h.pvlt s hs; omega
 have b:=h.le
 refine ⟨h.le,fun i hi j hj=>by rw [<-e i hi j hj]; exact h.lt i hi j hj,h.inc,h.pvlt,fun s hs=>by rw [<-e s (by omega) _ (hp s hs)]; exact h.one s hs,fun s hs i hi hne=>by rw [<-e i hi _ (hp s hs)]; exact h.zero s hs i hi hne,fun s hs j hj=>by rw [<-e s (by omega) j (by have:=hp s hs; omega)]; exact h.lead s hs j hj,fun i h1 h2 j hj=>by rw [<-e i h2 j (by omega)]; exact h.below i h1 h2 j hj⟩
structure El (q:Nat) where
 val:Nat
 lt:val<q
theorem El.ext' {q:Nat} {x y:El q} (h:x.val=y.val):x=y:=by
 cases x; cases y
 simp only at h
 subst h
 rfl
theorem zhn {q:Nat} {add mul:Nat->Nat->Nat} (h:FieldLaws q add mul):∃ (_:Add (El q)) (_:Mul (El q)) (_:Neg (El q)) (_:Zero (El q)) (_:One (El q)),
  Fie (El q)/\(∀ x y:El q,(x+y).val=add x.val y.val)/\(∀ x y:El q,(x*y).val=mul x.val y.val)/\(0:El q).val=0/\(1:El q).val=1:=by
 have hn:∀ x:El q,∃ y:El q,add x.val y.val=0:=fun x=>by
  obtain ⟨y,hy,e⟩:=h.neg x.val x.lt
  exact ⟨⟨y,hy⟩,e⟩
 obtain ⟨ng,a⟩:=Classical.axiomOfChoice hn
 have h2:=h.two
 let iA:Add (El q):=⟨fun x y=>⟨add x.val y.val,h.addLt _ _⟩⟩
 let iM:Mul (El q):=⟨fun x y=>⟨mul x.val y.val,h.mulLt _ _⟩⟩
 let iN:Neg (El q):=⟨ng⟩
 let i0:Zero (El q):=⟨⟨0,by omega⟩⟩
 let i1:One (El q):=⟨⟨1,by omega⟩⟩
 refine ⟨iA,iM,iN,i0,i1,?_,fun _ _=>rfl,fun _ _=>rfl,rfl,rfl⟩
 refine ⟨fun x y z=>El.ext' ?_,fun x y=>El.ext' ?_,fun x=>El.ext' ?_,fun x=>El.ext' ?_,fun x y z=>El.ext' ?_,fun x y=>El.ext' ?_,fun x=>El.ext' ?_,fun x y z=>El.ext' ?_,fun x hx=>?_,fun he=>?_⟩
 ·exact h.addAssoc _ _ _ x.lt y.lt z.lt
 ·exact h.addComm _ _
 ·exact h.zeroAdd _ x.lt
 ·show add (ng x).val x.val=0
  rw [h.addComm]; exact a x
 ·exact h.mulAssoc _ _ _ x.lt y.lt z.lt
 ·exact h.mulComm _ _ x.lt y.lt
 ·exact h.oneMul _ x.lt
 ·exact h.distrib _ _ _ x.lt y.lt z.lt
 ·obtain ⟨y,hy,e⟩:=h.inv x.val x.lt (fun e=>hx (El.ext' e))
  exact ⟨⟨y,hy⟩,El.ext' e⟩
 have:=congrArg El.val he
 have h1:(1:Nat)=0:=this
 omega
def toEl (q:Nat) (hq:0<q) (x:Nat):El q:=⟨x % q,Nat.mod_lt _ hq⟩
theorem zas {q x:Nat} (hq:0<q) (h:x<q):(toEl q hq x).val=x:=Nat.mod_eq_of_lt h
theorem zdZ {q x y:Nat} (hq:0<q) (hx:x<q) (hy:y<q) (h:toEl q hq x=toEl q hq y):x=y:=by
 rw [<-zas hq hx,<-zas hq hy,h]
theorem zho {q:Nat} (hq:0<q) (x:El q):∃ a,a<q/\toEl q hq a=x:=⟨x.val,x.lt,El.ext' (zas hq x.lt)⟩
def wordK (q:Nat) (hq:0<q) (k:Nat) (x:Nat->Nat):List (El q):=(List.range k).map fun j=>toEl q hq (x j)
theorem zc3 {q:Nat} (hq:0<q) (k:Nat) (x:Nat->Nat):(wordK q hq k x).length=k:=by simp [wordK]
theorem zeQ {q:Nat} (hq:0<q) {k:Nat} {x y:Nat->Nat} (h:∀ j,j<k->x j=y j):wordK q hq k x=wordK q hq k y :=
 List.map_congr_left fun j hj=>by rw [h j (List.mem_range.1 hj)]
theorem zgj {q:Nat} (hq:0<q) {add mul:Nat->Nat->Nat} [iA:Add (El q)] (hF:FieldLaws q add mul) (ha:∀ x y:El q,(x+y).val=add x.val y.val) {k:Nat} {x y:Nat->Nat} (hx:∀ j,j<k->x j<q) (hy:∀ j,j<k->y j<q) :
  wordK q hq k (fun j=>add (x j) (y j))=addW (wordK q hq k x) (wordK q hq k y):=by
 unfold wordK addW
 rw [List.zipWith_map,List.zipWith_self]
 refine List.map_congr_left fun j hj=>El.ext' ?_
 rw [List.mem_range] at hj;rw [ha,zas hq (hF.addLt _ _),zas hq (hx j hj),zas hq (hy j hj)]
theorem zdr {q:Nat} (hq:0<q) {add mul:Nat->Nat->Nat} [iM:Mul (El q)] (hF:FieldLaws q add mul) (hm:∀ x y:El q,(x*y).val=mul x.val y.val) {k d:Nat} {x:Nat->Nat} (hd:d<q) (hx:∀ j,j<k->x j<q) :
  wordK q hq k (fun j=>mul d (x j))=smulW (toEl q hq d) (wordK q hq k x):=by
 unfold wordK smulW
 rw [List.map_map]
 refine List.map_congr_left fun j hj=>El.ext' ?_
 rw [List.mem_range] at hj
 show (toEl q hq (mul d (x j))).val=(toEl q hq d*toEl q hq (x j)).val
 rw [hm,zas hq (hF.mulLt _ _),zas hq hd,zas hq (hx j hj)]
theorem RowOps.gen {q:Nat} (hq:0<q) {add mul:Nat->Nat->Nat} [iA:Add (El q)] [iM:Mul (El q)] [iN:Neg (El q)] [i0:Zero (El q)] [i1:One (El q)] (F:Fie (El q)) (hF:FieldLaws q add mul) (ha:∀ x y:El q,(x+y).val=add x.val y.val) (hm:∀ x y:El q,(x*y).val=mul x.val y.val) (h0:(0:El q).val=0) {n k:Nat} {V W:Nat->Nat->Nat}
  (hV:∀ i,i<n->∀ j,j<k->V i j<q) (h:RowOps q add mul n k V W):(∀ i,i<n->∀ j,j<k->W i j<q)/\∀ x,Gen k n (fun i=>wordK q hq k (W i)) x↔Gen k n (fun i=>wordK q hq k (V i)) x:=by
 induction h with
 | refl=>exact ⟨hV,fun _=>Iff.rfl⟩
 | @swap W h a t hx ht ih =>
  refine ⟨fun i hi j hj=>?_,fun x=>?_⟩
  ·show (if i=a then W t else if i=t then W a else W i) j<q
   split
   ·exact ih.1 t ht j hj
   ·split
    ·exact ih.1 a hx j hj
    ·exact ih.1 i hi j hj
  ·refine (Gen.congr (fun i _=>?_) x).trans ((Gen.swap hx ht x).trans (ih.2 x))
   show wordK q hq k (if i=a then W t else if i=t then W a else W i)=if i=a then wordK q hq k (W t) else if i=t then wordK q hq k (W a) else wordK q hq k (W i)
   split
   ·rfl
   ·split <;> rfl
 | @scale W h a d hx hd hd0 ih =>
  refine ⟨fun i hi j hj=>?_,fun x=>?_⟩
  ·show (if i=a then fun j=>mul d (W a j) else W i) j<q
   split
   ·exact hF.mulLt _ _
   ·exact ih.1 i hi j hj
  ·have b:toEl q hq d≠0:=fun e=>hd0 (by
    have:=congrArg El.val e
    rwa [zas hq hd,h0] at this)
   refine (Gen.congr (fun i _=>?_) x).trans ((Gen.scale F b hx x).trans (ih.2 x))
   show wordK q hq k (if i=a then fun j=>mul d (W a j) else W i)=if i=a then smulW (toEl q hq d) (wordK q hq k (W a)) else wordK q hq k (W i)
   split
   ·exact zdr hq hF hm hd (ih.1 a hx)
   ·rfl
 | @add W h i a e hi hx b he ih =>
  refine ⟨fun u hu j hj=>?_,fun x=>?_⟩
  ·show (if u=i then fun j=>add (W i j) (mul e (W a j)) else W u) j<q
   split
   ·exact hF.addLt _ _
   ·exact ih.1 u hu j hj
  ·refine (Gen.congr (fun u _=>?_) x).trans ((Gen.addTo F (a:=toEl q hq e) hi hx (fun e=>b e.symm) (fun u _=>zc3 hq k (W u)) x).trans (ih.2 x))
   show wordK q hq k (if u=i then fun j=>add (W i j) (mul e (W a j)) else W u)=if u=i then addW (wordK q hq k (W i)) (smulW (toEl q hq e) (wordK q hq k (W a))) else wordK q hq k (W u)
   split
   ·rw [zgj hq hF ha (ih.1 i hi) (fun j _=>hF.mulLt _ _),zdr hq hF hm he (ih.1 a hx)]
   ·rfl
 | @eq W W' h e ih =>
  refine ⟨fun i hi j hj=>by rw [<-e i hi j hj]; exact ih.1 i hi j hj,fun x=>?_⟩
  rw [<-ih.2]
  exact Gen.congr (fun i hi=>zeQ hq fun j hj=>(e i hi j hj).symm) x
theorem zgk {p:Nat->Prop} (h:∃ n,p n):∃ n,p n/\∀ k,k<n->¬ p k:=by
 obtain ⟨n,hn⟩:=h
 induction n using Nat.strongRecOn with
 | ind n ih =>
  by_cases h:∃ k,k<n/\p k
  ·obtain ⟨k,h1,h2⟩:=h
   exact ih k h1 h2
  ·exact ⟨n,hn,fun k h1 h2=>h ⟨k,h1,h2⟩⟩
section
variable {K:Type} [Add K] [Mul K]
def evA:K->List K->K->K
 | a,[],_=>a
 | a,c :: l,x=>evA (a*x+c) l x
def qtA:K->List K->K->List K
 | _,[],_=>[]
 | a,c :: l,r=>a :: qtA (a*r+c) l r
theorem zg5 (r:K):∀ (l:List K) (a:K),(qtA a l r).length=l.length
 | [],_=>rfl
 | c :: l,a=>by show (qtA (a*r+c) l r).length+1=l.length+1; rw [zg5 r l]
end
section
variable {K:Type} [Mul K] [One K]
def pwK (x:K):Nat->K
 | 0=>1
 | n+1=>pwK x n*x
def IsOrd (x:K) (n:Nat):Prop:=1<=n/\pwK x n=1/\∀ k,1<=k->k<n->pwK x k≠1
theorem zfl {x:K} {n:Nat} (h1:1<=n) (h2:pwK x n=1) (h3:∀ k,pwK x k=1->n ∣ k):IsOrd x n :=
 ⟨h1,h2,fun k hk1 hk2 e=>by have:=Nat.le_of_dvd (by omega) (h3 k e); omega⟩
end
section
variable {K:Type} [Add K] [Mul K] [Neg K] [Zero K] [One K]
variable (F:Fie K)
include F
theorem zh7 (x r:K):∀ (l:List K) (a b:K),evA (b*(x + -r)+a) l x=(x + -r)*evA b (qtA a l r) x+evA a l r
 | [],a,b=>by show b*(x + -r)+a=(x + -r)*b+a; rw [F.mulC]
 | c :: l,a,b=>by
  have ih:=zh7 x r l (a*r+c) (b*x+a)
  show evA ((b*(x + -r)+a)*x+c) l x=(x + -r)*evA (b*x+a) (qtA (a*r+c) l r) x+evA (a*r+c) l r
  rw [<-ih]
  congr 1
  have h1:(b*(x + -r)+a)*x=b*x*(x + -r)+a*x:=by rw [F.distR,F.mulA,F.mulC (x + -r),<-F.mulA]
  have h2:(b*x+a)*(x + -r)=b*x*(x + -r)+(a*x + -(a*r)):=by rw [F.distR,F.dist a,F.mulNeg]
  rw [h1,h2,F.addA,F.addA,F.addA]
  congr 2
  rw [<-F.addA,F.negA,F.zeroA]
theorem zfm:∀ (n:Nat) (l rs:List K),l.length=n->rs.Nodup->(∀ r,r ∈ rs->evA 1 l r=0)->rs.length<=n
 | 0,l,rs,hl,_,hr=>by
  rw [List.length_eq_zero_iff] at hl
  subst hl
  cases rs with
  | nil=>exact Nat.le_refl _
  | cons r rs=>exact absurd (hr r (by simp)) F.ne
 | n+1,[],rs,hl,_,_=>by simp at hl
 | n + 1, c :: l, rs, hl, hn, hr => by
  cases rs with
  | nil=>exact Nat.zero_le _
  | cons r rs =>
   rw [List.nodup_cons] at hn
   have ih:=zfm n (qtA (1*r+c) l r) rs (by rw [zg5]; simpa using hl) hn.2 fun s hs=>by
    have h1:=zh7 F s r (c :: l) 1 0
    rw [F.zMul,F.zeroA,hr s (by simp [hs]),hr r (by simp),F.addZ] at h1
    have h2:evA 0 (qtA 1 (c :: l) r) s=evA 1 (qtA (1*r+c) l r) s:=by
     show evA (0*s+1) (qtA (1*r+c) l r) s=_
     rw [F.zMul,F.zeroA]
    rw [h2] at h1
    refine F.zeroOr h1.symm fun e=>hn.1 ?_
    rw [<-F.subEq e]
    exact hs
   simp only [List.length_cons]
   omega
theorem zet (x:K):∀ (n:Nat) (a:K),evA a (List.replicate n 0 ++ [-1]) x=a*pwK x (n+1) + -1
 | 0,a=>by show a*x + -1=a*(1*x) + -1; rw [F.oneM]
 | n+1,a=>by
  show evA (a*x+0) (List.replicate n 0 ++ [-1]) x=_
  rw [zet x n,F.addZ,F.mulA]
  congr 2
  have:∀ k,x*pwK x k=pwK x (k+1):=fun k=>by show x*pwK x k=pwK x k*x; rw [F.mulC]
  exact this _
theorem zfn (x:K) (a:Nat):∀ b,pwK x (a+b)=pwK x a*pwK x b
 | 0=>by show pwK x a=pwK x a*1; rw [F.mulOne]
 | b+1=>by show pwK x (a+b)*x=pwK x a*(pwK x b*x); rw [zfn x a b,F.mulA]
theorem zds (n:Nat):pwK (1:K) n=1:=by
 induction n with
 | zero=>rfl
 | succ n ih=>show pwK 1 n*1=1; rw [ih,F.oneM]
theorem zbU (x:K) (a:Nat):∀ b,pwK x (a*b)=pwK (pwK x a) b
 | 0=>rfl
 | b+1=>by rw [Nat.mul_succ,zfn F,zbU x a b]; rfl
theorem zdt (x y:K):∀ n,pwK (x*y) n=pwK x n*pwK y n
 | 0=>by show (1:K)=1*1; rw [F.oneM]
 | n+1=>by
  show pwK (x*y) n*(x*y)=pwK x n*x*(pwK y n*y)
  rw [zdt x y n,F.mulA,F.mulA,F.mulL (pwK y n)]
theorem zh8 {x:K} (hx:x≠0):∀ n,pwK x n≠0
 | 0=>F.ne
 | n+1=>fun h=>hx (F.zeroOr h (zh8 hx n))
theorem IsOrd.dvd {x:K} {n k:Nat} (h:IsOrd x n) (hk:pwK x k=1):n ∣ k:=by
 obtain ⟨h1,h2,h3⟩:=h
 have e:pwK x (k % n)=1:=by
  have:=Nat.div_add_mod k n
  rw [<-this,zfn F,zbU F,h2,zds F,F.oneM] at hk
  exact hk
 have a:=Nat.mod_lt k (show n > 0 by omega)
 refine Nat.dvd_of_mod_eq_zero (Classical.byContradiction fun hne=>h3 (k % n) (by omega) a e)
theorem IsOrd.power {x:K} {d e:Nat} (h:IsOrd x (d*e)) (hd:1<=d):IsOrd (pwK x d) e:=by
 have he:1<=e:=by
  have:=h.1
  rcases Nat.eq_zero_or_pos e with h0 | h0
  ·rw [h0] at this; omega
  ·exact h0
 refine zfl he (by rw [<-zbU F]; exact h.2.1) fun k hk=>?_
 rw [<-zbU F] at hk
 exact Nat.dvd_of_mul_dvd_mul_left hd (h.dvd F hk)
theorem IsOrd.prod {x y:K} {a b:Nat} (h:IsOrd x a) (h':IsOrd y b) (hc:Nat.Coprime a b):IsOrd (x*y) (a*b):=by
 refine zfl (Nat.mul_pos h.1 h'.1) ?_ fun k hk=>?_
 ·rw [zdt F,zbU F,h.2.1,zds F,Nat.mul_comm,zbU F,h'.2.1,zds F,F.oneM]
 rw [zdt F] at hk
 have hb:b ∣ k:=by
  have h1:pwK y (k*a)=1:=by
   have h2:pwK (pwK x k*pwK y k) a=1:=by rw [hk,zds F]
   rw [zdt F,<-zbU F,<-zbU F,Nat.mul_comm k a,zbU F x,h.2.1,zds F,F.oneM,Nat.mul_comm a k] at h2
   exact h2
  exact (Nat.Coprime.dvd_of_dvd_mul_right hc.symm (h'.dvd F h1))
 have ha:a ∣ k:=by
  have h1:pwK x (k*b)=1:=by
   have h2:pwK (pwK x k*pwK y k) b=1:=by rw [hk,zds F]
   rw [zdt F,<-zbU F,<-zbU F,Nat.mul_comm k b,zbU F y,h'.2.1,zds F,F.mulOne,Nat.mul_comm b k] at h2
   exact h2
  exact (Nat.Coprime.dvd_of_dvd_mul_right hc (h.dvd F h1))
 exact Nat.Coprime.mul_dvd_of_dvd_of_dvd hc ha hb
end
def PrimeN (p:Nat):Prop:=2<=p/\∀ d,d ∣ p->d=1∨d=p
theorem zb4 {p a:Nat} (hp:PrimeN p) (ha:¬ p ∣ a):Nat.Coprime p a:=by
 rcases hp.2 _ (Nat.gcd_dvd_left p a) with h | h
 ·exact h
 ·exact absurd (h ▸ Nat.gcd_dvd_right p a) ha
theorem zd0:∀ b,2<=b->∃ p,PrimeN p/\p ∣ b:=by
 intro b
 induction b using Nat.strongRecOn with
 | ind b ih =>
  intro hb
  by_cases h:∃ d,d ∣ b/\d≠1/\d≠b
  ·obtain ⟨d,h1,h2,h3⟩:=h
   have c:=Nat.le_of_dvd (by omega) h1
   have h0:d≠0:=fun e=>by rw [e,Nat.zero_dvd] at h1; omega
   obtain ⟨p,hp,a⟩:=ih d (by omega) (by omega)
   exact ⟨p,hp,Nat.dvd_trans a h1⟩
  ·exact ⟨b,⟨hb,fun d hd=>Classical.byContradiction fun hn=>h ⟨d,hd,fun e=>hn (.inl e),fun e=>hn (.inr e)⟩⟩,Nat.dvd_refl b⟩
theorem zeu {p:Nat} (hp:2<=p):∀ b,1<=b->∃ v c,b=p ^ v*c/\¬ p ∣ c:=by
 intro b
 induction b using Nat.strongRecOn with
 | ind b ih =>
  intro hb
  by_cases h:p ∣ b
  ·obtain ⟨c,rfl⟩:=h
   have hc:1<=c:=by
    rcases Nat.eq_zero_or_pos c with e | e
    ·rw [e] at hb; omega
    ·exact e
   have a:c<p*c:=by
    have:=Nat.mul_le_mul_right c hp
    omega
   obtain ⟨v,d,e,hd⟩:=ih c a hc
   refine ⟨v+1,d,?_,hd⟩
   rw [Nat.pow_succ,Nat.mul_comm (p ^ v) p,Nat.mul_assoc,<-e]
  ·exact ⟨0,b,by simp,h⟩
theorem zeR {a:Nat}:∀ b,1<=b->¬ b ∣ a->∃ p k,PrimeN p/\p ^ k ∣ b/\¬ p ^ k ∣ a:=by
 intro b
 induction b using Nat.strongRecOn with
 | ind b ih =>
  intro hb hn
  have l:2<=b:=by
   rcases (show b=1∨2<=b by omega) with e | e
   ·exact absurd (by rw [e]; exact Nat.one_dvd a) hn
   ·exact e
  obtain ⟨p,hp,g⟩:=zd0 b l
  obtain ⟨v,c,e,hc⟩:=zeu hp.1 b hb
  by_cases h:p ^ v ∣ a
  ·have d:Nat.Coprime (p ^ v) c:=Nat.Coprime.pow_left v (zb4 hp hc)
   have f:¬ c ∣ a:=fun f=>hn (by rw [e]; exact Nat.Coprime.mul_dvd_of_dvd_of_dvd d h f)
   have hv:v≠0:=fun h0=>by
    rw [h0,Nat.pow_zero,Nat.one_mul] at e;rw [e] at g
    exact hc g
   have j:1<=c:=by
    rcases Nat.eq_zero_or_pos c with h0 | h0
    ·rw [h0] at e; omega
    ·exact h0
   have i:c<b:=by
    have h1:2<=p ^ v:=Nat.le_trans hp.1 (by
     have:=Nat.pow_le_pow_right (show 0<p by have:=hp.1; omega) (show 1<=v by omega)
     simpa using this)
    have:=Nat.mul_le_mul_right c h1
    omega
   obtain ⟨p',k,h1,h2,h3⟩:=ih c i j f
   exact ⟨p',k,h1,by rw [e]; exact Nat.dvd_trans h2 (Nat.dvd_mul_left c _),h3⟩
  ·exact ⟨p,v,hp,by rw [e]; exact Nat.dvd_mul_right _ _,h⟩
section
variable {K:Type} [Add K] [Mul K] [Neg K] [Zero K] [One K] (F:Fie K)
include F
theorem zdu {x y:K} {a b:Nat} (hx:IsOrd x a) (hy:IsOrd y b) (h:¬ b ∣ a):∃ (z:K) (n:Nat),IsOrd z n/\a<n:=by
 obtain ⟨p,k,hp,h1,h2⟩:=zeR b hy.1 h
 obtain ⟨v,c,e,hc⟩:=zeu hp.1 a hx.1
 have i:0<p:=by have:=hp.1; omega
 have g:v<k:=Classical.byContradiction fun hn=>h2 (by
  rw [e]
  exact Nat.dvd_trans (Nat.pow_dvd_pow p (by omega)) (Nat.dvd_mul_right _ _))
 obtain ⟨d,hd⟩:=h1
 have j:1<=d:=by
  have:=hy.1
  rcases Nat.eq_zero_or_pos d with h0 | h0
  ·rw [h0] at hd; omega
  ·exact h0
 have o1:IsOrd (pwK x (p ^ v)) c:=IsOrd.power F (by rw [<-e]; exact hx) (Nat.pow_pos i)
 have o2:IsOrd (pwK y d) (p ^ k):=IsOrd.power F (by rw [Nat.mul_comm,<-hd]; exact hy) j
 have f:Nat.Coprime c (p ^ k):=(Nat.Coprime.pow_left k (zb4 hp hc)).symm
 refine ⟨_,_,o1.prod F o2 f,?_⟩
 rw [e,Nat.mul_comm c]
 exact Nat.mul_lt_mul_of_pos_right (Nat.pow_lt_pow_right hp.1 g) o1.1
theorem zco {L:List K} (hn:L.Nodup) (hc:∀ a,a ∈ L):∃ x:K,x≠0/\IsOrd x (L.length - 1):=by
 classical
 have f:∀ {l m:List K},l.Nodup->(∀ x,x ∈ l->x ∈ m)->l.length<=m.length:=by
  intro l
  induction l with
  | nil=>intro m _ _; exact Nat.zero_le _
  | cons a l ih =>
   intro m h1 h2
   have ha:=h2 a (by simp)
   rw [List.nodup_cons] at h1
   have hl:=List.length_erase_of_mem ha
   have hp:=ih (m:=m.erase a) h1.2 fun x hx=>(List.mem_erase_of_ne (fun e:x=a=>h1.1 (by rw [<-e]; exact hx))).2 (h2 x (by simp [hx]))
   have A:=List.length_pos_of_mem ha
   simp only [List.length_cons]
   omega
 have hU:(L.erase 0).length=L.length - 1:=List.length_erase_of_mem (hc 0)
 have E:∀ x:K,x≠0->x ∈ L.erase 0:=fun x hx=>(List.mem_erase_of_ne hx).2 (hc x)
 have p:∀ (x:K) (n:Nat),x≠0->(∀ k,1<=k->k<n->pwK x k≠1)->((List.range n).map (pwK x)).Nodup:=by
  intro x n hx hk
  rw [List.Nodup,List.pairwise_map]
  have u:∀ i j,i<j->j<n->pwK x i≠pwK x j:=fun i j hij hj e=>by
   refine hk (j - i) (by omega) (by omega) ?_
   rw [show j=i+(j - i) by omega,zfn F] at e
   have h1:pwK x i*pwK x (j - i)=pwK x i*1:=by rw [<-e,F.mulOne]
   obtain ⟨y,hy⟩:=F.inv _ (zh8 F hx i)
   have h2:y*(pwK x i*pwK x (j - i))=y*(pwK x i*1):=by rw [h1]
   rwa [<-F.mulA,<-F.mulA,F.mulC y,hy,F.oneM,F.oneM] at h2
  refine List.Pairwise.imp_of_mem (R:=fun a b=>a<b) (fun {a b} ha hb hab=>u a b hab (List.mem_range.1 hb)) List.pairwise_lt_range
 have o:∀ (x:K) (n:Nat),x≠0->(∀ k,1<=k->k<n->pwK x k≠1)->n<=L.length - 1:=fun x n hx hk=>by
  have:=f (p x n hx hk) (m:=L.erase 0) fun z hz=>by
   obtain ⟨i,_,rfl⟩:=List.mem_map.1 hz
   exact E _ (zh8 F hx i)
  rw [hU] at this
  simpa using this
 have d:∀ x:K,x≠0->∃ n,IsOrd x n:=fun x hx=>by
  have C:∃ n,1<=n/\pwK x n=1:=Classical.byContradiction fun hno=>by
   have:=o x (L.length+1) hx fun k h1 _ e=>hno ⟨k,h1,e⟩
   omega
  obtain ⟨n,h1,h2⟩:=zgk C
  exact ⟨n,h1.1,h1.2,fun k h3 h4 e=>h2 k h4 ⟨h3,e⟩⟩
 have g:∃ x n,x≠(0:K)/\IsOrd x n/\∀ y m,y≠(0:K)->IsOrd y m->m<=n:=by
  refine Classical.byContradiction fun hno=>?_
  have step:∀ t,∃ x n,x≠(0:K)/\IsOrd x n/\t<=n:=by
   intro t
   induction t with
   | zero =>
    obtain ⟨n,h⟩:=d 1 F.ne
    exact ⟨1,n,F.ne,h,Nat.zero_le _⟩
   | succ t ih =>
    obtain ⟨x,n,h1,h2,h3⟩:=ih
    refine Classical.byContradiction fun hn2=>hno ⟨x,n,h1,h2,fun y m hy hm=>?_⟩
    refine Classical.byContradiction fun B=>hn2 ⟨y,m,hy,hm,by omega⟩
  obtain ⟨x,n,h1,h2,h3⟩:=step (L.length+1)
  have:=o x n h1 h2.2.2
  omega
 obtain ⟨x,e,hx,he,q⟩:=g
 refine ⟨x,hx,?_⟩
 have h1:=o x e hx he.2.2
 have s:∀ y:K,y≠0->pwK y e=1:=fun y hy=>by
  obtain ⟨m,hm⟩:=d y hy
  have D:m ∣ e:=Classical.byContradiction fun hnd=>by
   obtain ⟨z,n,hz,B⟩:=zdu F he hm hnd
   have v:z≠0:=fun e0=>by
    have h2:=hz.2.1
    rw [e0] at h2
    have h3:=hz.1
    obtain ⟨k,rfl⟩:∃ k,n=k+1:=⟨n - 1,by omega⟩
    rw [show pwK (0:K) (k+1)=pwK 0 k*0 from rfl,F.mulZ] at h2
    exact F.ne h2.symm
   have:=q z n v hz
   omega
  obtain ⟨k,rfl⟩:=D
  rw [zbU F,hm.2.1,zds F]
 have c:=zfm F e (List.replicate (e - 1) 0 ++ [-1]) (L.erase 0) (by have:=he.1; simp; omega) (hn.erase 0) fun r hr=>by
  have w:r≠0:=fun e0=>by rw [e0] at hr; exact (List.Nodup.mem_erase_iff hn).1 hr |>.1 rfl
  rw [zet F,F.oneM,show e - 1+1=e by have:=he.1; omega,s r w,F.addN]
 rw [hU] at c
 obtain rfl:e=L.length - 1:=by omega
 exact he
end
end Go.Proofs.YtgekjfpapmlndaaGreat