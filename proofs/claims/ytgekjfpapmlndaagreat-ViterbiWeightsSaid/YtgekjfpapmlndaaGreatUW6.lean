/- Merged texts of a claim: Gf3, Gf4, Cyc, GfLaw, Gf5, GfObj, GfMul, GfDot, GfChk, GfNew. -/
import Derived.Test.YtgekjfpapmlndaaGreatUW5
namespace Go.Proofs.YtgekjfpapmlndaaGreat
set_option maxRecDepth 100000
set_option maxHeartbeats 32000000
open KA KB KC KE
open Go.RowKit
theorem zb0 {w:World} {base g m n s:Nat} {t e:TypeId} {F:Nat->Value} {v:Value} {f:Nat->Nat->Value} (hr:w.rowIs g t m F) (h:Own w base e s v n f) (hne:t≠e):v.ownBlock=none∨v.ownBlock≠some g:=by
 rcases h with ⟨rfl,_⟩ | ⟨b,o,cap,cur,rfl,_,hg,_⟩
 ·exact .inl rfl
 refine .inr fun e1=>?_
 obtain ⟨cs,h1,_⟩:=hr
 simp [Value.ownBlock] at e1
 subst e1
 rw [hg] at h1
 injection h1 with h1
 injection h1 with _ h1
 exact hne h1.symm
def pwG (mul:Nat->Nat->Nat) (x:Nat):Nat->Nat
 | 0=>1
 | 1=>x
 | n+2=>mul (pwG mul x (n+1)) x
theorem ziW (mul:Nat->Nat->Nat) (x:Nat) {n:Nat} (h:1<=n):pwG mul x (n+1)=mul (pwG mul x n) x:=by
 obtain ⟨k,rfl⟩:∃ k,n=k+1:=⟨n - 1,by omega⟩
 rfl
def seenB (p:Nat->Nat):Nat->Nat->Bool
 | 0,_=>false
 | n+1,t=>if t=p n then true else seenB p n t
theorem zdy (p:Nat->Nat) (t:Nat):∀ n,seenB p n t=true↔∃ i,i<n/\p i=t
 | 0=>⟨(fun h=>by cases h),(fun ⟨i,hi,_⟩=>by omega)⟩
 | n + 1 => by
  have ih:=zdy p t n
  show (if t=p n then true else seenB p n t)=true↔_
  by_cases e:t=p n
  ·rw [if_pos e]
   exact ⟨fun _=>⟨n,by omega,e.symm⟩,fun _=>rfl⟩
  ·rw [if_neg e,ih]
   constructor
   ·rintro ⟨i,hi,h⟩; exact ⟨i,by omega,h⟩
   ·rintro ⟨i,hi,h⟩
    by_cases e2:i=n
    ·subst e2; exact absurd h.symm e
    ·exact ⟨i,by omega,h⟩
structure PwOk (q:Nat) (p:Nat->Nat) (n:Nat):Prop where
 ne:∀ i,i<n->p i≠0
 lt:∀ i,i<n->p i<q
 inj:∀ i j,i<j->j<n->p i≠p j
theorem PwOk.le {q n:Nat} {p:Nat->Nat} (h:PwOk q p n) (hq:1<=q):n<=q - 1 :=
 pigeon (f:=fun i=>p i - 1) (fun i hi=>by have:=h.ne i hi; have:=h.lt i hi; show p i - 1<q - 1; omega) fun i k hi hk e=>by
  have:=h.ne i hi
  have:=h.ne k hk
  have e2:p i=p k:=by have e':p i - 1=p k - 1:=e; omega
  rcases Nat.lt_trichotomy i k with h1 | h1 | h1
  ·exact absurd e2 (h.inj i k h1 hk)
  ·exact h1
  ·exact absurd e2.symm (h.inj k i h1 hi)
theorem PwOk.next {q n:Nat} {p:Nat->Nat} (h:PwOk q p n) (h1:p n≠0) (h2:p n<q) (h3:seenB p n (p n)=false):PwOk q p (n+1):=by
 have hs:∀ i,i<n->p i≠p n:=fun i hi e=>by
  have:=(zdy p (p n) n).2 ⟨i,hi,e⟩
  rw [h3] at this
  cases this
 refine ⟨fun i hi=>?_,fun i hi=>?_,fun i j hij hj=>?_⟩
 ·by_cases e:i=n
  ·subst e; exact h1
  ·exact h.ne i (by omega)
 ·by_cases e:i=n
  ·subst e; exact h2
  ·exact h.lt i (by omega)
 by_cases e:j=n
 ·subst e; exact hs i hij
 ·exact h.inj i j hij (by omega)
def PowersPost (q:Nat) (p:Nat->Nat) (w:World) (e:Ending) (w':World):Prop :=
 ∃ lv L,e=.returned lv/\1<=L/\Own w' w.heap.size 3 1 lv L (fun i _=>.int .i64 (p i:Nat))/\Below w.heap.size w w'/\PwOk q p L/\(p L=0∨seenB p L (p L)=true)
theorem zgl (P M:Nat) (A:Option Addr) (k c:Nat) (m:Nat->Nat) (q x:Nat) (w:World) (hf:FldOk P M) (hm:ModOk w P M A m) (hkM:M=1∨k=M) (hq:q=P ^ M) (hx1:1<=x) (hx:x<q) :
    Calls Tryz.prog 199 #[.agg #[.int .i64 (P:Nat),.int .i64 (M:Nat),.slice A k c],.int .i64 (q:Nat),.int .i64 (x:Nat)] w (PowersPost q (pwG (mulF P M m) x) w):=by
  have ak:0<P:=by have:=hf.1; omega
  have ar:q<=256:=by rw [hq]; exact hf.2.2.2
  have ai:2<=q:=by omega
  have V:Hid (∀ a,mulF P M m a x<q):=fun a=>by rw [hq]; exact zaN ak a x
  have HQ:=hid hq
  clear hq
  obtain ⟨w0,a4,hB,rf⟩:=zaz w (.int .i64 (P:Nat)) (.int .i64 (M:Nat)) (.slice A k c) 24
  have a8:=fun W=>zaf (P:=Tryz.prog) 185 4 _ 1 Tryz.underlying185 Tryz.infoBool rfl (q:Int) (by omega) (by omega) (by omega) W
  simp only [Int.toNat_natCast] at a8
  go_enter Tryz.func199, Tryz.ntmps199
  go_upto_region 1 with fail
  rw [<-a4];clear a4
  have a9:=rf.lt
  go_upto_region 2 with fail
  have kb:=(Below.refl w0.heap.size w0).alloc (Nat.le_refl _) (Obj.cells #[Value.int .i64 1] 3)
  have r1:(w0.alloc (Obj.cells #[Value.int .i64 1] 3)).rowIs w0.heap.size 3 1 (fun i=>.int .i64 (pwG (mulF P M m) x i:Nat)):=⟨_,zah rfl,rfl,fun i hi=>by
    obtain rfl:i=0:=by omega
    rfl⟩
  have hO:=zbW r1 (show w.heap.size+1<=w0.heap.size from a9) (by unfold maxLen; omega)
  obtain ⟨w1,a3⟩:=exx (w0.alloc (Obj.cells #[Value.int .i64 1] 3))
  obtain ⟨b1,aa⟩:=exx w0.heap.size
  rw [<-a3] at kb hO ⊢;rw [<-aa] at hO ⊢;replace rf:=zab rf kb;replace hB:=onS hB kb
  have Q:=rf.lt
  clear kb r1 a3 aa a9
  go_upto_region 3 with fail
  have kb:=(Below.refl w1.heap.size w1).alloc (Nat.le_refl _) (Obj.cells (madeCells #[Value.bool false] q) 4)
  have rs:=World.rowIs_made w1 (.bool false) q 4
  obtain ⟨w2,a2⟩:=exx (w1.alloc (Obj.cells (madeCells #[Value.bool false] q) 4))
  obtain ⟨g,hg⟩:=exx w1.heap.size
  rw [<-a2] at kb rs ⊢;rw [<-hg] at rs ⊢
  have av:w.heap.size+1<=g:=by omega
  replace rf:=zab rf kb;replace hB:=onS hB kb;replace hO:=hO.on kb;clear kb a2 hg a8 Q
  have y0:=rs.cell (i:=1) (by omega)
  have z0:=rs.frozen 1
  have aj:(1:Int)<(q:Int):=by omega
  have d:=hid ((rs.set 1 (.bool true)).congr (g:=fun t=>.bool (seenB (pwG (mulF P M m) x) 1 t)) fun t _=>by
    show (if t=1 then Value.bool true else .bool false)=.bool (if t=1 then true else false)
    split <;> rfl)
  have B:=hid (rf.setOther (a:=⟨g,1,none⟩) (by simp; omega) (.bool true))
  have Y:=hid (hB.setCell (p:=⟨g,1,none⟩) (by show w.heap.size<=g; omega) (.bool true))
  have r:=hid (hO.setCell (a:=⟨g,1,none⟩) (fun e=>(zb0 rs hO (by decide)).elim (fun h=>by rw [h] at e; cases e) fun h=>h e) (.bool true))
  clear rs rf hB hO
  go_wp2
  clear y0 z0
  obtain ⟨w3,a1⟩:=exx (w2.setCell ⟨g,1,none⟩ (.bool true))
  rw [<-a1] at d B Y r ⊢;clear a1
  obtain ⟨p,hp⟩:=exx (pwG (mulF P M m) x)
  have a6:p 1=x:=by rw [hp]; rfl
  have a5:∀ n,1<=n->p (n+1)=mulF P M m (p n) x:=fun n hn=>by rw [hp]; exact ziW _ _ hn
  have a7:PwOk q p 1:=by
    rw [hp]
    exact ⟨fun i hi => by obtain rfl : i = 0 := by omega
                          exact Nat.one_ne_zero, fun i hi => by obtain rfl : i = 0 := by omega
                                                                exact ai,fun i j h1 h2=>by omega⟩
  rw [<-hp] at d r ⊢
  have an:=hid a5
  have C:=hid a7
  have ao:=hid a6
  have ac:=hid hp
  clear hp a6 a5 a7
  go_loopg [7,9] q (fun gg ov yv wx=>∃ L y:Nat,yv=.int .i64 (y:Nat)/\1<=L/\L<q/\q<=L+gg/\y<q/\Hid (y=p L)/\Hid (PwOk q p L)/\Hid (Own wx (w.heap.size+1) 3 1 ov L (fun i _=>.int .i64 (p i:Nat)))/\Hid (wx.rowIs g 4 q (fun t=>.bool (seenB p L t)))/\Hid (wx.rowIs w.heap.size 24 3 (fldCell (.int .i64 (P:Nat)) (.int .i64 (M:Nat)) (.slice A k c)))/\Hid (Below w.heap.size w wx))
  case atStart=>exact ⟨1,x,rfl,by omega,by omega,by omega,hx,ao.out.symm,C,r,d,B,Y⟩
  clear r d B Y C
  obtain ⟨L,y,rfl,S,aw,au,N,HY,C,HO,d,B,J⟩:=hrel
  have aq:(0:Int)<=(y:Int):=by omega
  have ah:(y:Int)<(q:Int):=by omega
  by_cases hyz:y=0
  · have hz:((y:Int) != 0)=false:=by simp [hyz]
    have v:Hid (p L=0∨seenB p L (p L)=true):=.inl (by rw [<-HY.out]; exact hyz)
    clear hyz
    go_wp2
    go_ret
    have e:=ac.out
    subst e
    exact ⟨_,L,rfl,S,HO.out.mono (Nat.le_succ _),J.out,C.out,v.out⟩
  have hz:((y:Int) != 0)=true:=by simp; omega
  have s0:=d.out.cell (i:=y) N
  obtain ⟨sb,O⟩:=exx (seenB p L y)
  rw [<-O] at s0
  have ab:=hid O
  have al:=hid hyz
  clear O hyz
  cases sb
  rotate_left
  · have v:Hid (p L=0∨seenB p L (p L)=true):=.inr (by rw [<-HY.out]; exact ab.out.symm)
    go_wp2
    go_ret
    have e:=ac.out
    subst e
    exact ⟨_,L,rfl,S,HO.out.mono (Nat.le_succ _),J.out,C.out,v.out⟩
  have G:=hid (C.out.next (by rw [<-HY.out]; exact al.out) (by rw [<-HY.out]; exact N) (by rw [<-HY.out]; exact ab.out.symm))
  have R:L+1<q:=by have:=G.out.le (by omega); omega
  have z0:=d.out.frozen y
  have rs:=d.out.set y (.bool true)
  have s:=hid (rs.congr (g:=fun t=>.bool (seenB p (L+1) t)) fun t _=>by
    show (if t=y then Value.bool true else .bool (seenB p L t))=.bool (if t=p L then true else seenB p L t)
    rw [<-HY.out]
    split <;> rfl)
  have u:=hid (B.out.setOther (a:=⟨g,y,none⟩) (by simp; omega) (.bool true))
  have z:=hid (J.out.setCell (p:=⟨g,y,none⟩) (by show w.heap.size<=g; omega) (.bool true))
  have r:=hid (HO.out.setCell (a:=⟨g,y,none⟩) (fun e=>(zb0 d.out HO.out (by decide)).elim (fun h=>by rw [h] at e; cases e) fun h=>h e) (.bool true))
  clear rs d B J HO
  go_upto_region 8 with fail
  clear z0 s0
  obtain ⟨w4,a0⟩:=exx (wr.setCell ⟨g,y,none⟩ (.bool true))
  rw [<-a0] at s u z r ⊢;clear a0
  have kb:=(Below.refl w4.heap.size w4).alloc (Nat.le_refl _) (Obj.cells #[Value.int .i64 (y:Nat)] 3)
  have H:=hid (r.out.on kb)
  have l:=hid (zab s.out kb)
  have o:=hid (zab u.out kb)
  have ag:=hid (onS z.out kb)
  have af:Hid ((w4.alloc (Obj.cells #[Value.int .i64 (y:Nat)] 3)).cell? ((⟨w4.heap.size,0,none⟩:Addr).add 0)=some (.int .i64 (y:Nat))):=tbox2
  have T:Hid (w.heap.size+1<=(w4.alloc (Obj.cells #[Value.int .i64 (y:Nat)] 3)).heap.size):=o.out.lt
  have ap:Hid (L<=1048576):=by show _<=_; omega
  clear kb r s u z
  go_upto_region 6 with (first | (at_builtin; (refine zaP rfl (.tmp 32) (.tmp 34) rfl H.out rfl (ad:=⟨w4.heap.size,0,none⟩) (c:=1) rfl af.out T.out ap.out ?_); intro v9 w9 o1 o2 o3))
  have ae:=hid (o1.congr (f':=fun i _=>.int .i64 (p i:Nat)) fun i _ _ _=>by
    by_cases e:i=L
    · subst e; rw [if_pos rfl,HY.out]
    · rw [if_neg e])
  have D:=hid (l.out.of_block (o2.block _ l.out.lt fun e=>(zb0 l.out H.out (by decide)).elim (fun h=>by rw [h] at e; cases e) fun h=>h e.symm))
  have b:=hid (o.out.of_block (o2.block _ o.out.lt fun e=>by have:=(H.out.lt _ e.symm).1; omega))
  have X:=hid (ag.out.grown o2 (Nat.le_of_succ_le T.out) fun q e=>by have:=(H.out.lt q e).1; omega)
  clear o1 o2 o3 H l o ag af T
  have q0:=qc0 b.out
  have q1:=qc1 b.out
  have q2:=qc2 b.out
  go_wp2_with fail
  refine (zcB P M A k c m y x w9 hf (zaO hm X.out) hkM (by rw [<-HQ.out]; exact N) (by rw [<-HQ.out]; exact hx)).mono ?_
  rintro e w10 ⟨rfl,kb⟩
  obtain ⟨y',I⟩:∃ y',y'=mulF P M m y x:=⟨_,rfl⟩
  rw [<-I]
  have K:y'<q:=by rw [I]; exact V.out y
  have am:Hid (y'=p (L+1)):=by show _=_; rw [I,an.out L S,<-HY.out]
  have U:=hid (ae.out.on kb)
  have E:=hid (zab D.out kb)
  have F:=hid (zab b.out kb)
  have Z:=hid (onS X.out kb)
  clear kb q0 q1 q2 I ae D b X
  go_wp2
  go_roundg (gk - 1)
  case measure=>omega
  case rel=>exact ⟨L+1,y',rfl,by omega,R,by omega,K,am,G,U,E,F,Z⟩
def GenX (q:Nat) (mul:Nat->Nat->Nat) (x:Nat):Prop:=PwOk q (pwG mul x) (q - 1)/\mul (pwG mul x (q - 2)) x=1
theorem zgm {q L:Nat} {p:Nat->Nat} (hq:1<=q) (h:PwOk q p L) (hs:p L=0∨seenB p L (p L)=true) (hg:PwOk q p (q - 1)):L=q - 1:=by
 have h1:=h.le hq
 refine Classical.byContradiction fun hne=>?_
 have a:L<q - 1:=by omega
 rcases hs with hs | hs
 ·exact hg.ne L a hs
 ·obtain ⟨i,hi,e⟩:=(zdy p (p L) L).1 hs
  exact hg.inj i L hi a e
def GenrPost (q:Nat) (mul:Nat->Nat->Nat) (w:World) (e:Ending) (w':World):Prop :=
 Below w.heap.size w w'/\((e=.returned (.slice none 0 0)/\∀ x,1<=x->x<q->¬ GenX q mul x) ∨
  ∃ lv x,e=.returned lv/\1<=x/\x<q/\GenX q mul x/\Own w' w.heap.size 3 1 lv (q - 1) (fun i _=>.int .i64 (pwG mul x i:Nat)))
theorem zb9 (P M:Nat) (A:Option Addr) (k c:Nat) (m:Nat->Nat) (q:Nat) (w:World) (hf:FldOk P M) (hm:ModOk w P M A m) (hkM:M=1∨k=M) (hq:q=P ^ M) :
  Calls Tryz.prog 147 #[.agg #[.int .i64 (P:Nat),.int .i64 (M:Nat),.slice A k c],.int .i64 (q:Nat)] w (GenrPost q (mulF P M m) w):=by
 have O:0<P:=by have:=hf.1; omega
 have Y:q<=256:=by rw [hq]; exact hf.2.2.2
 have Z:2<=q:=by
  have h1:=hf.1
  have h2:=Nat.pow_le_pow_right O hf.2.1
  rw [Nat.pow_one] at h2
  omega
 obtain ⟨Q1,D⟩:=exx (q - 1)
 obtain ⟨Q2,C⟩:=exx (q - 2)
 have N:(q:Int) - 1=(Q1:Int):=by omega
 have I:(q:Int) - 2=(Q2:Int):=by omega
 have b:Q2<Q1:=by omega
 have n:=hid D
 have E:=hid C
 have HQ:=hid hq
 clear hq D C
 obtain ⟨w0,v,hB,rf⟩:=zaz w (.int .i64 (P:Nat)) (.int .i64 (M:Nat)) (.slice A k c) 24
 go_enter Tryz.func147, Tryz.ntmps147
 go_upto_region 1 with fail
 rw [<-v];clear v
 go_wp2
 go_loopg [5,6] q (fun gg xv _ wx=>∃ x:Nat,xv=.int .i64 (x:Nat)/\1<=x/\x<=q/\q<=x+gg/\Hid (∀ y,1<=y->y<x->¬ GenX q (mulF P M m) y)/\wx.rowIs w.heap.size 24 3 (fldCell (.int .i64 (P:Nat)) (.int .i64 (M:Nat)) (.slice A k c))/\Below w.heap.size w wx)
 case atStart=>exact ⟨1,rfl,by omega,by omega,by omega,fun y h1 h2=>absurd h1 (by omega),rf,hB⟩
 clear rf hB
 obtain ⟨x,rfl,u,W,X,r,rf,hB⟩:=hrel
 by_cases hlt:x<q
 rotate_left
 ·have l:¬ (x:Int)<(q:Int):=by omega
  obtain rfl:x=q:=by omega
  go_wp2
  go_ret
  exact ⟨hB,.inl ⟨rfl,r.out⟩⟩
 have l:(x:Int)<(q:Int):=by omega
 have q0:=qc0 rf
 have q1:=qc1 rf
 have q2:=qc2 rf
 go_wp2_with fail
 refine (zgl P M A k c m q x wr hf (zaO hm hB) hkM HQ.out u hlt).mono ?_
 rintro e w1 ⟨lv,L,rfl,a2,hO,kb,j,a⟩
 have HO:=hid (hO.mono hB.size)
 replace rf:=zab rf kb;replace hB:=onS hB kb
 have o:=hid j
 have s:=hid a
 have a1:=j.le (by omega)
 clear kb q0 q1 q2 hO j a
 obtain ⟨LA,lc,H⟩:=HO.out.shape
 subst H
 by_cases hL:L=Q1
 rotate_left
 ·have Q:((L:Int) == (Q1:Int))=false:=by simp; omega
  have g:IntKind.i64.wrap (Q1:Int)=(Q1:Int):=IntWalk.i64_in _ (by omega)
  have p:Hid (∀ y,1<=y->y<x+1->¬ GenX q (mulF P M m) y):=fun y h1 h2 hg=>by
   by_cases e:y=x
   ·subst e
    exact hL (by rw [n.out]; exact zgm (by omega) o.out s.out hg.1)
   ·exact r.out y h1 (by omega) hg
  clear hL
  go_wp2
  go_quiet (fail)
  go_wp2
  go_roundg (gk - 1)
  case measure=>omega
  case rel=>exact ⟨x+1,by go_num,by omega,by omega,by omega,p,za9 rf _,zac hB _⟩
 have Q:((L:Int) == (Q1:Int))=true:=by simp [hL]
 subst hL
 obtain ⟨pb,po,R,a0,x0⟩:=(show IntsR w1 w1.heap.size LA L (fun i=>((pwG (mulF P M m) x i:Nat):Int)) from HO.out.rd rfl).at (i:=Q2) b
 subst R
 obtain ⟨z,hz⟩:=exx (pwG (mulF P M m) x Q2)
 rw [<-hz] at x0
 have F:z<q:=by rw [hz]; exact o.out.lt Q2 b
 have HZ:=hid hz
 clear hz
 have B:(Q2:Int)<(L:Int):=by omega
 have J:(0:Int)<=(Q2:Int):=by omega
 have g:IntKind.i64.wrap (L:Int)=(L:Int):=IntWalk.i64_in _ (by omega)
 have G:IntKind.i64.wrap (Q2:Int)=(Q2:Int):=IntWalk.i64_in _ (by omega)
 go_wp2
 refine wp_region_held_drew (S:=fun w'=>w'.cell? ⟨w.heap.size,0,none⟩=some (.int .i64 (P:Nat))/\w'.cell? ⟨w.heap.size,1,none⟩=some (.int .i64 (M:Nat))/\w'.cell? ⟨w.heap.size,2,none⟩=some (.slice A k c)/\w'.cell? ⟨pb,po+Q2,none⟩=some (.int .i64 (z:Nat))) (by kernel_rfl) ⟨cellS (Below.refl _ _).drew (rf.cell (i:=0) (by omega)),cellS (Below.refl _ _).drew (rf.cell (i:=1) (by omega)),cellS (Below.refl _ _).drew (rf.cell (i:=2) (by omega)),cellS (Below.refl _ _).drew (x0)⟩ (fun hHeld=>?_)
 obtain ⟨w2,hw,kb⟩:=dwx w1
 rw [<-hw] at hHeld ⊢;clear hw;replace rf:=zab rf kb;replace hB:=onS hB kb;replace x0:=cellS kb x0
 have V:=hid kb
 clear kb
 refine tkq 0 (h:=tkq 1 (h:=tkq 2 (h:=tkq 3 (h:=tkq 4 (h:=tkq 5 (h:=tkq 6 (h:=tkq 7 (h:=tkq 8 (h:=tkq 9 (h:=tkq 10 (h:=tkq 11 (h:=tkq 12 (h:=?_)))))))))))))
 refine rdq 13 (h:=fun K hK=>?_)
 go_simp
 go_wp2_with fail
 refine (zcB P M A k c m z x w2 hf (zaO hm hB) hkM (by rw [<-HQ.out]; exact F) (by rw [<-HQ.out]; exact hlt)).mono ?_
 rintro e w3 ⟨rfl,kb⟩
 replace rf:=zab rf kb;replace hB:=onS hB kb;replace x0:=cellS kb x0
 have U:=hid (onS V.out kb)
 clear kb
 obtain ⟨y,hy⟩:=exx (mulF P M m z x)
 rw [<-hy]
 have HY:=hid hy
 have a3:=hid True.intro
 clear hy
 refine bkq hK ⟨qc0 rf,qc1 rf,qc2 rf,x0⟩ (h:=fun hHeld=>?_)
 clear hK K
 refine tkq 14 (h:=tkq 15 (h:=?_))
 refine wpAnyH_done (by kernel_rfl) ?_ _
 clear hHeld
 by_cases hy1:y=1
 ·have d:((y:Int) == 1)=true:=by simp [hy1]
  have HG:Hid (GenX q (mulF P M m) x):=⟨by rw [<-n.out]; exact o.out,by rw [<-E.out,<-HZ.out,<-HY.out]; exact hy1⟩
  have T:=hid (HO.out.on U.out)
  clear hy1 x0
  go_wp2
  go_ret
  exact ⟨hB,.inr ⟨_,x,rfl,u,hlt,HG.out,by rw [<-n.out]; exact T.out⟩⟩
 have d:((y:Int) == 1)=false:=by simp; omega
 have p:Hid (∀ y',1<=y'->y'<x+1->¬ GenX q (mulF P M m) y'):=fun y' h1 h2 hg=>by
  by_cases e:y'=x
  ·subst e
   exact hy1 (by rw [HY.out,HZ.out,E.out]; exact hg.2)
  ·exact r.out y' h1 (by omega) hg
 clear hy1 x0
 go_wp2
 go_roundg (gk - 1)
 case measure=>omega
 case rel=>exact ⟨x+1,by go_num,by omega,by omega,by omega,p,rf,hB⟩
theorem zhD {p:Nat->Prop} (h:∃ n,p n):∃ n,p n/\∀ k,k<n->¬ p k:=by
 obtain ⟨n,hn⟩:=h
 induction n using Nat.strongRecOn with
 | ind n ih =>
  by_cases h:∃ k,k<n/\p k
  ·obtain ⟨k,h1,h2⟩:=h
   exact ih k h1 h2
  ·exact ⟨n,hn,fun k h1 h2=>h ⟨k,h1,h2⟩⟩
section
variable {K:Type} [Add K] [Mul K]
def evA:K->List K->K->K
 | a,[],_=>a
 | a,c :: l,x=>evA (a*x+c) l x
def qtA:K->List K->K->List K
 | _,[],_=>[]
 | a,c :: l,r=>a :: qtA (a*r+c) l r
theorem zis (r:K):∀ (l:List K) (a:K),(qtA a l r).length=l.length
 | [],_=>rfl
 | c :: l,a=>by show (qtA (a*r+c) l r).length+1=l.length+1; rw [zis r l]
end
section
variable {K:Type} [Mul K] [One K]
def pwK (x:K):Nat->K
 | 0=>1
 | n+1=>pwK x n*x
def IsOrd (x:K) (n:Nat):Prop:=1<=n/\pwK x n=1/\∀ k,1<=k->k<n->pwK x k≠1
theorem zgn {x:K} {n:Nat} (h1:1<=n) (h2:pwK x n=1) (h3:∀ k,pwK x k=1->n ∣ k):IsOrd x n :=
 ⟨h1,h2,fun k hk1 hk2 e=>by have:=Nat.le_of_dvd (by omega) (h3 k e); omega⟩
end
section
variable {K:Type} [Add K] [Mul K] [Neg K] [Zero K] [One K]
variable (F:Fie K)
include F
theorem zjF (x r:K):∀ (l:List K) (a b:K),evA (b*(x + -r)+a) l x=(x + -r)*evA b (qtA a l r) x+evA a l r
 | [],a,b=>by show b*(x + -r)+a=(x + -r)*b+a; rw [F.mulC]
 | c :: l,a,b=>by
  have ih:=zjF x r l (a*r+c) (b*x+a)
  show evA ((b*(x + -r)+a)*x+c) l x=(x + -r)*evA (b*x+a) (qtA (a*r+c) l r) x+evA (a*r+c) l r
  rw [<-ih]
  congr 1
  have h1:(b*(x + -r)+a)*x=b*x*(x + -r)+a*x:=by rw [F.distR,F.mulA,F.mulC (x + -r),<-F.mulA]
  have h2:(b*x+a)*(x + -r)=b*x*(x + -r)+(a*x + -(a*r)):=by rw [F.distR,F.dist a,F.mulNeg]
  rw [h1,h2,F.addA,F.addA,F.addA]
  congr 2
  rw [<-F.addA,F.negA,F.zeroA]
theorem zgo:∀ (n:Nat) (l rs:List K),l.length=n->rs.Nodup->(∀ r,r ∈ rs->evA 1 l r=0)->rs.length<=n
 | 0,l,rs,hl,_,hr=>by
  rw [List.length_eq_zero_iff] at hl
  subst hl
  cases rs with
  | nil=>exact Nat.le_refl _
  | cons r rs=>exact absurd (hr r (by simp)) F.ne
 | n+1,[],rs,hl,_,_=>by simp at hl
 | n + 1, c :: l, rs, hl, hn, hr => by
  cases rs with
  | nil=>exact Nat.zero_le _
  | cons r rs =>
   rw [List.nodup_cons] at hn
   have ih:=zgo n (qtA (1*r+c) l r) rs (by rw [zis]; simpa using hl) hn.2 fun s hs=>by
    have h1:=zjF F s r (c :: l) 1 0
    rw [F.zMul,F.zeroA,hr s (by simp [hs]),hr r (by simp),F.addZ] at h1
    have h2:evA 0 (qtA 1 (c :: l) r) s=evA 1 (qtA (1*r+c) l r) s:=by
     show evA (0*s+1) (qtA (1*r+c) l r) s=_
     rw [F.zMul,F.zeroA]
    rw [h2] at h1
    refine F.zeroOr h1.symm fun e=>hn.1 ?_
    rw [<-F.subEq e]
    exact hs
   simp only [List.length_cons]
   omega
theorem ze4 (x:K):∀ (n:Nat) (a:K),evA a (List.replicate n 0 ++ [-1]) x=a*pwK x (n+1) + -1
 | 0,a=>by show a*x + -1=a*(1*x) + -1; rw [F.oneM]
 | n+1,a=>by
  show evA (a*x+0) (List.replicate n 0 ++ [-1]) x=_
  rw [ze4 x n,F.addZ,F.mulA]
  congr 2
  have:∀ k,x*pwK x k=pwK x (k+1):=fun k=>by show x*pwK x k=pwK x k*x; rw [F.mulC]
  exact this _
theorem zgp (x:K) (a:Nat):∀ b,pwK x (a+b)=pwK x a*pwK x b
 | 0=>by show pwK x a=pwK x a*1; rw [F.mulOne]
 | b+1=>by show pwK x (a+b)*x=pwK x a*(pwK x b*x); rw [zgp x a b,F.mulA]
theorem zdX (n:Nat):pwK (1:K) n=1:=by
 induction n with
 | zero=>rfl
 | succ n ih=>show pwK 1 n*1=1; rw [ih,F.oneM]
theorem zb1 (x:K) (a:Nat):∀ b,pwK x (a*b)=pwK (pwK x a) b
 | 0=>rfl
 | b+1=>by rw [Nat.mul_succ,zgp F,zb1 x a b]; rfl
theorem zdY (x y:K):∀ n,pwK (x*y) n=pwK x n*pwK y n
 | 0=>by show (1:K)=1*1; rw [F.oneM]
 | n+1=>by
  show pwK (x*y) n*(x*y)=pwK x n*x*(pwK y n*y)
  rw [zdY x y n,F.mulA,F.mulA,F.mulL (pwK y n)]
theorem zjG {x:K} (hx:x≠0):∀ n,pwK x n≠0
 | 0=>F.ne
 | n+1=>fun h=>hx (F.zeroOr h (zjG hx n))
theorem IsOrd.dvd {x:K} {n k:Nat} (h:IsOrd x n) (hk:pwK x k=1):n ∣ k:=by
 obtain ⟨h1,h2,h3⟩:=h
 have e:pwK x (k % n)=1:=by
  have:=Nat.div_add_mod k n
  rw [<-this,zgp F,zb1 F,h2,zdX F,F.oneM] at hk
  exact hk
 have a:=Nat.mod_lt k (show n > 0 by omega)
 refine Nat.dvd_of_mod_eq_zero (Classical.byContradiction fun hne=>h3 (k % n) (by omega) a e)
theorem IsOrd.power {x:K} {d e:Nat} (h:IsOrd x (d*e)) (hd:1<=d):IsOrd (pwK x d) e:=by
 have he:1<=e:=by
  have:=h.1
  rcases Nat.eq_zero_or_pos e with h0 | h0
  ·rw [h0] at this; omega
  ·exact h0
 refine zgn he (by rw [<-zb1 F]; exact h.2.1) fun k hk=>?_
 rw [<-zb1 F] at hk
 exact Nat.dvd_of_mul_dvd_mul_left hd (h.dvd F hk)
theorem IsOrd.prod {x y:K} {a b:Nat} (h:IsOrd x a) (h':IsOrd y b) (hc:Nat.Coprime a b):IsOrd (x*y) (a*b):=by
 refine zgn (Nat.mul_pos h.1 h'.1) ?_ fun k hk=>?_
 ·rw [zdY F,zb1 F,h.2.1,zdX F,Nat.mul_comm,zb1 F,h'.2.1,zdX F,F.oneM]
 rw [zdY F] at hk
 have hb:b ∣ k:=by
  have h1:pwK y (k*a)=1:=by
   have h2:pwK (pwK x k*pwK y k) a=1:=by rw [hk,zdX F]
   rw [zdY F,<-zb1 F,<-zb1 F,Nat.mul_comm k a,zb1 F x,h.2.1,zdX F,F.oneM,Nat.mul_comm a k] at h2
   exact h2
  exact (Nat.Coprime.dvd_of_dvd_mul_right hc.symm (h'.dvd F h1))
 have ha:a ∣ k:=by
  have h1:pwK x (k*b)=1:=by
   have h2:pwK (pwK x k*pwK y k) b=1:=by rw [hk,zdX F]
   rw [zdY F,<-zb1 F,<-zb1 F,Nat.mul_comm k b,zb1 F y,h'.2.1,zdX F,F.mulOne,Nat.mul_comm b k] at h2
   exact h2
  exact (Nat.Coprime.dvd_of_dvd_mul_right hc (h.dvd F h1))
 exact Nat.Coprime.mul_dvd_of_dvd_of_dvd hc ha hb
end
def PrimeN (p:Nat):Prop:=2<=p/\∀ d,d ∣ p->d=1∨d=p
theorem zca {p a:Nat} (hp:PrimeN p) (ha:¬ p ∣ a):Nat.Coprime p a:=by
 rcases hp.2 _ (Nat.gcd_dvd_left p a) with h | h
 ·exact h
 ·exact absurd (h ▸ Nat.gcd_dvd_right p a) ha
theorem zew:∀ b,2<=b->∃ p,PrimeN p/\p ∣ b:=by
 intro b
 induction b using Nat.strongRecOn with
 | ind b ih =>
  intro hb
  by_cases h:∃ d,d ∣ b/\d≠1/\d≠b
  ·obtain ⟨d,h1,h2,h3⟩:=h
   have c:=Nat.le_of_dvd (by omega) h1
   have h0:d≠0:=fun e=>by rw [e,Nat.zero_dvd] at h1; omega
   obtain ⟨p,hp,a⟩:=ih d (by omega) (by omega)
   exact ⟨p,hp,Nat.dvd_trans a h1⟩
  ·exact ⟨b,⟨hb,fun d hd=>Classical.byContradiction fun hn=>h ⟨d,hd,fun e=>hn (.inl e),fun e=>hn (.inr e)⟩⟩,Nat.dvd_refl b⟩
theorem ze5 {p:Nat} (hp:2<=p):∀ b,1<=b->∃ v c,b=p ^ v*c/\¬ p ∣ c:=by
 intro b
 induction b using Nat.strongRecOn with
 | ind b ih =>
  intro hb
  by_cases h:p ∣ b
  ·obtain ⟨c,rfl⟩:=h
   have hc:1<=c:=by
    rcases Nat.eq_zero_or_pos c with e | e
    ·rw [e] at hb; omega
    ·exact e
   have a:c<p*c:=by
    have:=Nat.mul_le_mul_right c hp
    omega
   obtain ⟨v,d,e,hd⟩:=ih c a hc
   refine ⟨v+1,d,?_,hd⟩
   rw [Nat.pow_succ,Nat.mul_comm (p ^ v) p,Nat.mul_assoc,<-e]
  ·exact ⟨0,b,by simp,h⟩
theorem zfA {a:Nat}:∀ b,1<=b->¬ b ∣ a->∃ p k,PrimeN p/\p ^ k ∣ b/\¬ p ^ k ∣ a:=by
 intro b
 induction b using Nat.strongRecOn with
 | ind b ih =>
  intro hb hn
  have l:2<=b:=by
   rcases (show b=1∨2<=b by omega) with e | e
   ·exact absurd (by rw [e]; exact Nat.one_dvd a) hn
   ·exact e
  obtain ⟨p,hp,g⟩:=zew b l
  obtain ⟨v,c,e,hc⟩:=ze5 hp.1 b hb
  by_cases h:p ^ v ∣ a
  ·have d:Nat.Coprime (p ^ v) c:=Nat.Coprime.pow_left v (zca hp hc)
   have f:¬ c ∣ a:=fun f=>hn (by rw [e]; exact Nat.Coprime.mul_dvd_of_dvd_of_dvd d h f)
   have hv:v≠0:=fun h0=>by
    rw [h0,Nat.pow_zero,Nat.one_mul] at e;rw [e] at g
    exact hc g
   have j:1<=c:=by
    rcases Nat.eq_zero_or_pos c with h0 | h0
    ·rw [h0] at e; omega
    ·exact h0
   have i:c<b:=by
    have h1:2<=p ^ v:=Nat.le_trans hp.1 (by
     have:=Nat.pow_le_pow_right (show 0<p by have:=hp.1; omega) (show 1<=v by omega)
     simpa using this)
    have:=Nat.mul_le_mul_right c h1
    omega
   obtain ⟨p',k,h1,h2,h3⟩:=ih c i j f
   exact ⟨p',k,h1,by rw [e]; exact Nat.dvd_trans h2 (Nat.dvd_mul_left c _),h3⟩
  ·exact ⟨p,v,hp,by rw [e]; exact Nat.dvd_mul_right _ _,h⟩
section
variable {K:Type} [Add K] [Mul K] [Neg K] [Zero K] [One K] (F:Fie K)
include F
theorem zdZ {x y:K} {a b:Nat} (hx:IsOrd x a) (hy:IsOrd y b) (h:¬ b ∣ a):∃ (z:K) (n:Nat),IsOrd z n/\a<n:=by
 obtain ⟨p,k,hp,h1,h2⟩:=zfA b hy.1 h
 obtain ⟨v,c,e,hc⟩:=ze5 hp.1 a hx.1
 have i:0<p:=by have:=hp.1; omega
 have g:v<k:=Classical.byContradiction fun hn=>h2 (by
  rw [e]
  exact Nat.dvd_trans (Nat.pow_dvd_pow p (by omega)) (Nat.dvd_mul_right _ _))
 obtain ⟨d,hd⟩:=h1
 have j:1<=d:=by
  have:=hy.1
  rcases Nat.eq_zero_or_pos d with h0 | h0
  ·rw [h0] at hd; omega
  ·exact h0
 have o1:IsOrd (pwK x (p ^ v)) c:=IsOrd.power F (by rw [<-e]; exact hx) (Nat.pow_pos i)
 have o2:IsOrd (pwK y d) (p ^ k):=IsOrd.power F (by rw [Nat.mul_comm,<-hd]; exact hy) j
 have f:Nat.Coprime c (p ^ k):=(Nat.Coprime.pow_left k (zca hp hc)).symm
 refine ⟨_,_,o1.prod F o2 f,?_⟩
 rw [e,Nat.mul_comm c]
 exact Nat.mul_lt_mul_of_pos_right (Nat.pow_lt_pow_right hp.1 g) o1.1
theorem zcC {L:List K} (hn:L.Nodup) (hc:∀ a,a ∈ L):∃ x:K,x≠0/\IsOrd x (L.length - 1):=by
 classical
 have f:∀ {l m:List K},l.Nodup->(∀ x,x ∈ l->x ∈ m)->l.length<=m.length:=by
  intro l
  induction l with
  | nil=>intro m _ _; exact Nat.zero_le _
  | cons a l ih =>
   intro m h1 h2
   have ha:=h2 a (by simp)
   rw [List.nodup_cons] at h1
   have hl:=List.length_erase_of_mem ha
   have hp:=ih (m:=m.erase a) h1.2 fun x hx=>(List.mem_erase_of_ne (fun e:x=a=>h1.1 (by rw [<-e]; exact hx))).2 (h2 x (by simp [hx]))
   have A:=List.length_pos_of_mem ha
   simp only [List.length_cons]
   omega
 have hU:(L.erase 0).length=L.length - 1:=List.length_erase_of_mem (hc 0)
 have E:∀ x:K,x≠0->x ∈ L.erase 0:=fun x hx=>(List.mem_erase_of_ne hx).2 (hc x)
 have p:∀ (x:K) (n:Nat),x≠0->(∀ k,1<=k->k<n->pwK x k≠1)->((List.range n).map (pwK x)).Nodup:=by
  intro x n hx hk
  rw [List.Nodup,List.pairwise_map]
  have u:∀ i j,i<j->j<n->pwK x i≠pwK x j:=fun i j hij hj e=>by
   refine hk (j - i) (by omega) (by omega) ?_
   rw [show j=i+(j - i) by omega,zgp F] at e
   have h1:pwK x i*pwK x (j - i)=pwK x i*1:=by rw [<-e,F.mulOne]
   obtain ⟨y,hy⟩:=F.inv _ (zjG F hx i)
   have h2:y*(pwK x i*pwK x (j - i))=y*(pwK x i*1):=by rw [h1]
   rwa [<-F.mulA,<-F.mulA,F.mulC y,hy,F.oneM,F.oneM] at h2
  refine List.Pairwise.imp_of_mem (R:=fun a b=>a<b) (fun {a b} ha hb hab=>u a b hab (List.mem_range.1 hb)) List.pairwise_lt_range
 have o:∀ (x:K) (n:Nat),x≠0->(∀ k,1<=k->k<n->pwK x k≠1)->n<=L.length - 1:=fun x n hx hk=>by
  have:=f (p x n hx hk) (m:=L.erase 0) fun z hz=>by
   obtain ⟨i,_,rfl⟩:=List.mem_map.1 hz
   exact E _ (zjG F hx i)
  rw [hU] at this
  simpa using this
 have d:∀ x:K,x≠0->∃ n,IsOrd x n:=fun x hx=>by
  have C:∃ n,1<=n/\pwK x n=1:=Classical.byContradiction fun hno=>by
   have:=o x (L.length+1) hx fun k h1 _ e=>hno ⟨k,h1,e⟩
   omega
  obtain ⟨n,h1,h2⟩:=zhD C
  exact ⟨n,h1.1,h1.2,fun k h3 h4 e=>h2 k h4 ⟨h3,e⟩⟩
 have g:∃ x n,x≠(0:K)/\IsOrd x n/\∀ y m,y≠(0:K)->IsOrd y m->m<=n:=by
  refine Classical.byContradiction fun hno=>?_
  have step:∀ t,∃ x n,x≠(0:K)/\IsOrd x n/\t<=n:=by
   intro t
   induction t with
   | zero =>
    obtain ⟨n,h⟩:=d 1 F.ne
    exact ⟨1,n,F.ne,h,Nat.zero_le _⟩
   | succ t ih =>
    obtain ⟨x,n,h1,h2,h3⟩:=ih
    refine Classical.byContradiction fun hn2=>hno ⟨x,n,h1,h2,fun y m hy hm=>?_⟩
    refine Classical.byContradiction fun B=>hn2 ⟨y,m,hy,hm,by omega⟩
  obtain ⟨x,n,h1,h2,h3⟩:=step (L.length+1)
  have:=o x n h1 h2.2.2
  omega
 obtain ⟨x,e,hx,he,q⟩:=g
 refine ⟨x,hx,?_⟩
 have h1:=o x e hx he.2.2
 have s:∀ y:K,y≠0->pwK y e=1:=fun y hy=>by
  obtain ⟨m,hm⟩:=d y hy
  have D:m ∣ e:=Classical.byContradiction fun hnd=>by
   obtain ⟨z,n,hz,B⟩:=zdZ F he hm hnd
   have v:z≠0:=fun e0=>by
    have h2:=hz.2.1
    rw [e0] at h2
    have h3:=hz.1
    obtain ⟨k,rfl⟩:∃ k,n=k+1:=⟨n - 1,by omega⟩
    rw [show pwK (0:K) (k+1)=pwK 0 k*0 from rfl,F.mulZ] at h2
    exact F.ne h2.symm
   have:=q z n v hz
   omega
  obtain ⟨k,rfl⟩:=D
  rw [zb1 F,hm.2.1,zdX F]
 have c:=zgo F e (List.replicate (e - 1) 0 ++ [-1]) (L.erase 0) (by have:=he.1; simp; omega) (hn.erase 0) fun r hr=>by
  have w:r≠0:=fun e0=>by rw [e0] at hr; exact (List.Nodup.mem_erase_iff hn).1 hr |>.1 rfl
  rw [ze4 F,F.oneM,show e - 1+1=e by have:=he.1; omega,s r w,F.addN]
 rw [hU] at c
 obtain rfl:e=L.length - 1:=by omega
 exact he
end
structure RingM (q:Nat) (mul:Nat->Nat->Nat):Prop where
 two:2<=q
 lt:∀ x y,mul x y<q
 comm:∀ x y,x<q->y<q->mul x y=mul y x
 assoc:∀ x y z,x<q->y<q->z<q->mul (mul x y) z=mul x (mul y z)
 one:∀ x,x<q->mul 1 x=x
theorem ringM {P M:Nat} (m:Nat->Nat) (h:FldOk P M):RingM (P ^ M) (mulF P M m):=by
 obtain ⟨b,hM,_,_⟩:=h
 have a:0<P:=by omega
 have hq:P<=P ^ M:=by
  have:=Nat.pow_le_pow_right a hM
  simpa using this
 have one:∀ j,dgt P 1 j=one0 j:=fun j=>by
  unfold dgt one0
  cases j with
  | zero=>rw [zbH,Nat.mod_eq_of_lt (by omega)]; rfl
  | succ j=>rw [zcu,Nat.div_eq_of_lt (by omega),zbp]; rfl
 have mD:=fun (x y j:Nat) (hj:j<M)=>zdp (P:=P) (m:=m) a hM x y hj
 refine ⟨by omega,fun x y=>zaN a x y,fun x y hx hy=>?_,fun x y z hx hy hz=>?_,fun x hx=>?_⟩
 ·refine zbk a (zaN a _ _) (zaN a _ _) fun j hj=>?_
  exact (mD _ _ j hj).trans ((zby (by rw [zaR])).trans (mD _ _ j hj).symm)
 ·refine zbk a (zaN a _ _) (zaN a _ _) fun j hj=>?_
  refine (mD _ _ j hj).trans ((zbq (fun i hi=>mD _ _ i hi) (fun i _=>zam _) j).trans ?_)
  rw [zbJ hM]
  exact ((mD _ _ j hj).trans (zbq (fun i _=>zam _) (fun i hi=>mD _ _ i hi) j)).symm
 refine zbk a (zaN a _ _) hx fun j hj=>?_
 refine (mD _ _ j hj).trans (zby ?_)
 rw [show dgt P 1=one0 from funext one,zdo _ hj]
section
variable {q x:Nat} {mul:Nat->Nat->Nat}
theorem zgq (hR:RingM q mul) (hx:x<q) (h:GenX q mul x) {n:Nat} (hn:n<q - 1):mul (pwG mul x n) x=pwG mul x ((n+1) % (q - 1)):=by
 have h2:=hR.two
 by_cases e:n+1=q - 1
 ·rw [e,Nat.mod_self]
  have:n=q - 2:=by omega
  rw [this]
  exact h.2
 rw [Nat.mod_eq_of_lt (by omega)]
 cases n with
 | zero=>exact hR.one x hx
 | succ n=>rfl
theorem ze6 (hR:RingM q mul) (hx:x<q) (h:GenX q mul x) {i:Nat} (hi:i<q - 1):∀ j,j<q - 1->mul (pwG mul x i) (pwG mul x j)=pwG mul x ((i+j) % (q - 1))
 | 0,_=>by
  have h2:=hR.two
  rw [Nat.add_zero,Nat.mod_eq_of_lt hi]
  show mul (pwG mul x i) 1=_
  rw [hR.comm _ _ (h.1.lt i hi) (by omega),hR.one _ (h.1.lt i hi)]
 | j + 1, hj => by
  have h2:=hR.two
  have e:pwG mul x (j+1)=mul (pwG mul x j) x:=by
   rw [zgq hR hx h (by omega),Nat.mod_eq_of_lt hj]
  rw [e,<-hR.assoc _ _ _ (h.1.lt i hi) (h.1.lt j (by omega)) hx,ze6 hR hx h hi j (by omega),zgq hR hx h (Nat.mod_lt _ (by omega)),Nat.mod_add_mod]
  rfl
theorem zd0 (h2:2<=q) (h:PwOk q (pwG mul x) (q - 1)) {y:Nat} (hy0:y≠0) (hy:y<q):∃ i,i<q - 1/\pwG mul x i=y:=by
 refine Classical.byContradiction fun hno=>?_
 have a:∀ i,i<q - 1->pwG mul x i≠y:=fun i hi e=>hno ⟨i,hi,e⟩
 have:=pigeon (M:=q) (N:=q - 1) (f:=fun i=>if i<q - 1 then pwG mul x i - 1 else y - 1) (fun i hi=>by
  show (if i<q - 1 then pwG mul x i - 1 else y - 1)<q - 1
  split
  ·rename_i h1
   have:=h.lt i h1
   have:=h.ne i h1
   omega
  ·omega) (fun i k hi hk e=>by
  have e:(if i<q - 1 then pwG mul x i - 1 else y - 1)=(if k<q - 1 then pwG mul x k - 1 else y - 1):=e
  by_cases h1:i<q - 1 <;> by_cases h3:k<q - 1
  ·rw [if_pos h1,if_pos h3] at e
   have a1:=h.ne i h1
   have a2:=h.ne k h3
   rcases Nat.lt_trichotomy i k with c | c | c
   ·exact absurd (show pwG mul x i=pwG mul x k by omega) (h.inj i k c h3)
   ·exact c
   ·exact absurd (show pwG mul x k=pwG mul x i by omega) (h.inj k i c h1)
  ·rw [if_pos h1,if_neg h3] at e
   have a1:=h.ne i h1
   exact absurd (show pwG mul x i=y by omega) (a i h1)
  ·rw [if_neg h1,if_pos h3] at e
   have a1:=h.ne k h3
   exact absurd (show pwG mul x k=y by omega) (a k h3)
  ·omega)
 omega
theorem zd1 (hR:RingM q mul) (hx:x<q) (h:GenX q mul x) {y z:Nat} (hy0:y≠0) (hy:y<q) (hz0:z≠0) (hz:z<q):mul y z≠0:=by
 obtain ⟨i,hi,rfl⟩:=zd0 hR.two h.1 hy0 hy
 obtain ⟨j,hj,rfl⟩:=zd0 hR.two h.1 hz0 hz
 rw [ze6 hR hx h hi j hj]
 exact h.1.ne _ (Nat.mod_lt _ (by have:=hR.two; omega))
end
theorem zex {q:Nat} {add mul:Nat->Nat->Nat} (hF:FieldLaws q add mul):∃ x,1<=x/\x<q/\GenX q mul x:=by
 obtain ⟨iA,iM,iN,i0,i1,F,ha,hm,h0,h1⟩:=ziO hF
 have hq:0<q:=by have:=hF.two; omega
 have h:((List.range q).map (toEl q hq)).Nodup:=by
  rw [List.Nodup,List.pairwise_map]
  refine List.Pairwise.imp_of_mem (R:=fun a b=>a<b) (fun {a b} ha hb hab e=>?_) List.pairwise_lt_range
  have:=zeo hq (List.mem_range.1 ha) (List.mem_range.1 hb) e
  omega
 obtain ⟨g,d,hg⟩:=zcC F h fun a=>by
  obtain ⟨b,hb,e⟩:=ziP hq a
  exact List.mem_map.2 ⟨b,List.mem_range.2 hb,e⟩
 rw [List.length_map,List.length_range] at hg
 have c:∀ n,pwG mul g.val n=(pwK g n).val:=fun n=>by
  induction n with
  | zero=>exact h1.symm
  | succ n ih =>
   show _=(pwK g n*g).val
   rw [hm,<-ih]
   cases n with
   | zero=>exact (hF.oneMul _ g.lt).symm
   | succ n=>rfl
 have f:∀ z:El q,z≠0->z.val≠0:=fun z hz e=>hz (El.ext' (by rw [e,h0]))
 have h2:=hF.two
 refine ⟨g.val,by have:=f g d; omega,g.lt,⟨fun i _=>by rw [c]; exact f _ (zjG F d i),fun i _=>by rw [c]; exact (pwK g i).lt,fun i j hij hj e=>?_⟩,?_⟩
 ·rw [c,c] at e
  have e:=El.ext' e
  refine hg.2.2 (j - i) (by omega) (by omega) ?_
  rw [show j=i+(j - i) by omega,zgp F] at e
  have h1:pwK g i*pwK g (j - i)=pwK g i*1:=by rw [<-e,F.mulOne]
  obtain ⟨y,hy⟩:=F.inv _ (zjG F d i)
  have h2:y*(pwK g i*pwK g (j - i))=y*(pwK g i*1):=by rw [h1]
  rwa [<-F.mulA,<-F.mulA,F.mulC y,hy,F.oneM,F.oneM] at h2
 rw [c,<-hm]
 have e:pwK g (q - 1)=pwK g (q - 2)*g:=by
  obtain ⟨r,hr⟩:∃ r,q=r+2:=⟨q - 2,by omega⟩
  subst hr
  rfl
 rw [<-e,hg.2.1,h1]
theorem zgr {P M x:Nat} {m:Nat->Nat} (hf:FldOk P M) (hm:M=1∨∀ t,t<M->m t<P) (hx:x<P ^ M) (h:GenX (P ^ M) (mulF P M m) x):IrrB P M m:=by
 intro d hd1 hd2 v hv hdiv
 have hR:=ringM m hf
 obtain ⟨k,hM,_,_⟩:=hf
 have c:0<P:=by omega
 have hm:∀ t,t<M->m t<P:=by
  rcases hm with e | e
  ·omega
  ·exact e
 have hl:∀ (B:Nat->Int) j,(((B j) % P).toNat:Int)=B j % P:=fun B j=>by
  have:=Int.emod_nonneg (B j) (show (P:Int)≠0 by omega)
  omega
 have g:∀ (B:Nat->Int) j,((B j) % P).toNat<P:=fun B j=>by
  have:=Int.emod_lt_of_pos (B j) (show (0:Int)<P by omega)
  have:=hl B j; omega
 have val:∀ B:Nat->Int,∃ y,y<P ^ M/\∀ j,j<M->cg P (dgt P y j) (B j):=fun B=>by
  refine ⟨valN P (fun j=>((B j) % P).toNat) M,za4 fun i _=>g B i,fun j hj=>?_⟩
  unfold dgt
  rw [za1 (fun i _=>g B i) j hj,hl B]
  exact zfo _
 obtain ⟨a,ha,hA⟩:=val (hD P d (dig P v) M (modR M m) (M+1 - d))
 obtain ⟨b,hb,hB⟩:=val (lead d (dig P v))
 have f:∀ {y j:Nat},j<M->cg P (dgt P y j) 1->y≠0:=fun {y j} hj e e0=>by
  subst e0
  unfold dgt at e
  rw [zbp] at e
  exact absurd (zga (P:=P) (a:=0) (b:=1) e c (by omega)) (by omega)
 refine zd1 hR hx h (y:=a) (z:=b) ?_ ha ?_ hb ?_
 ·refine f (j:=M - d) (by omega) ((hA _ (by omega)).trans (zby ?_))
  obtain ⟨s,hs⟩:∃ s,M+1 - d=s+1:=⟨M - d,by omega⟩
  rw [hs]
  exact zjC (by omega) s (by omega)
 ·refine f (j:=d) (by omega) ((hB _ (by omega)).trans (zby ?_))
  unfold lead
  rw [if_neg (by omega),if_pos rfl]
 refine zbk c (zaN c _ _) (Nat.pow_pos c) fun j hj=>?_
 refine (zdp (P:=P) (m:=m) c hM a b hj).trans ((zbq (fun i hi=>hA i hi) (fun i hi=>hB i hi) j).trans ?_)
 refine (ziq (by omega) hm hd1 (by omega) hj).trans (zby ?_)
 rw [hdiv j (by omega)]
 unfold dgt
 rw [zbp]
 rfl
theorem zjH {P M:Nat} {m:Nat->Nat} (hf:FldOk P M) (hp:PrimeB P) (hm:M=1∨∀ t,t<M->m t<P):(∃ x,1<=x/\x<P ^ M/\GenX (P ^ M) (mulF P M m) x)↔FieldOk P M m:=by
 constructor
 ·rintro ⟨x,_,hx,h⟩
  exact ⟨hf,hp,hm,zgr hf hm hx h⟩
 ·intro h
  exact zex (fieldLaws h)
def ShapeF (P M:Int) (k:Nat) (f:Nat->Int):Prop :=
 ∃ P' M':Nat,P=P'/\M=M'/\FldOk P' M'/\PrimeB P'/\((M'=1/\k=0)∨(2<=M'/\k=M'/\∀ i,i<M'->0<=f i/\f i<P'))
theorem GoodF.shape {P M:Int} {k:Nat} {f:Nat->Int} (h:GoodF P M k f):ShapeF P M k f:=by
 obtain ⟨P',M',h1,h2,h3,h4,h5⟩:=h
 refine ⟨P',M',h1,h2,h3,h4,?_⟩
 rcases h5 with h | ⟨a,b,c,_⟩
 ·exact .inl h
 ·exact .inr ⟨a,b,c⟩
theorem ShapeF.good {P M:Nat} {k:Nat} {f:Nat->Int} (h:ShapeF (P:Int) (M:Int) k f):GoodF (P:Int) (M:Int) k f↔∃ x,1<=x/\x<P ^ M/\GenX (P ^ M) (mulF P M fun i=>(f i).toNat) x:=by
 obtain ⟨P',M',h1,h2,h3,h4,h5⟩:=h
 obtain rfl:P=P':=by omega
 obtain rfl:M=M':=by omega
 rw [zjH h3 h4 (by
  rcases h5 with ⟨e,_⟩ | ⟨_,_,c⟩
  ·exact .inl e
  ·exact .inr fun t ht=>by have:=c t ht; show (f t).toNat<P; omega)]
 refine ⟨fun h=>h.field.1,fun h=>⟨P,M,rfl,rfl,h3,h4,?_⟩⟩
 rcases h5 with e | ⟨a,b,c⟩
 ·exact .inl e
 ·exact .inr ⟨a,b,c,h.2.2.2⟩
theorem ShapeF.fld {P M:Int} {k:Nat} {f:Nat->Int} (h:ShapeF P M k f):∃ P' M':Nat,P=P'/\M=M'/\FldOk P' M'/\(M'=1∨k=M'):=by
 obtain ⟨P',M',h1,h2,h3,h4,h5⟩:=h
 refine ⟨P',M',h1,h2,h3,?_⟩
 rcases h5 with ⟨a,b⟩ | ⟨a,b,c⟩
 ·exact .inl a
 ·exact .inr b
theorem ShapeF.mod {P M:Nat} {k:Nat} {f:Nat->Int} {w:World} {A:Option Addr} (h:ShapeF (P:Int) (M:Int) k f) (hr:IntsR w w.heap.size A k f):ModOk w P M A (fun i=>(f i).toNat):=by
 obtain ⟨P',M',h1,h2,h3,h4,h5⟩:=h
 obtain rfl:P=P':=by omega
 obtain rfl:M=M':=by omega
 rcases h5 with ⟨e,_⟩ | ⟨e1,rfl,e3⟩
 ·exact .inl e
 ·exact .inr ⟨hr.congr fun i hi=>by have:=e3 i hi; show f i=((f i).toNat:Int); omega,fun i hi=>by have:=e3 i hi; show (f i).toNat<P; omega⟩
theorem ze7 (P M:Int) (A:Option Addr) (k c:Nat) (f:Nat->Int) (w:World) (hr:IntsR w w.heap.size A k f) :
  Calls Tryz.prog 145 #[.agg #[.int .i64 P,.int .i64 M,.slice A k c]] w (IffPost (ShapeF P M k f) w):=by
 obtain ⟨w0,l,hB,rf⟩:=zaz w (.int .i64 P) (.int .i64 M) (.slice A k c) 24
 go_enter Tryz.func145, Tryz.ntmps145
 go_upto_region 1 with fail
 rw [<-l];clear l
 have q0:=qc0 rf
 have q1:=qc1 rf
 have q2:=qc2 rf
 go_wp2_with fail
 refine (zbZ P M _).mono ?_
 rintro e w1 ⟨rfl,kb⟩
 replace rf:=zab rf kb;replace hB:=onS hB kb;clear kb q0 q1 q2
 by_cases h0:ordV P M=0
 ·have a:Hid (¬ ShapeF P M k f):=by
   rintro ⟨P',M',rfl,rfl,h3,_⟩
   rw [zct h3] at h0
   have:=Nat.pow_pos (n:=M') (show 0<P' by have:=h3.1; omega)
   omega
  rw [h0];clear h0 rf
  go_wp2
  go_ret
  exact zat a.out hB
 obtain ⟨P,M,rfl,rfl,hf⟩:=zii h0
 obtain ⟨v,hv⟩:=exx (ordV (P:Int) (M:Int))
 rw [<-hv] at h0;rw [<-hv]
 have m:(v == 0)=false:=by simpa using h0
 have B:=hf.1
 have z:=hf.P_le
 have G:=hf.2.1
 have F:=hf.2.2.1
 have hq:=hf.2.2.2
 have HF:=hid hf
 clear hv hf
 have q0:=qc0 rf
 have q1:=qc1 rf
 have q2:=qc2 rf
 go_wp2_with fail
 refine (zfy P _ B z).mono ?_
 rintro e w2 ⟨b,rfl,hb,rfl⟩
 have j:=hid hb
 clear hb h0 m
 cases b
 ·have a:Hid (¬ ShapeF (P:Int) (M:Int) k f):=by
   rintro ⟨P',M',e1,e2,h3,h4,_⟩
   obtain rfl:P=P':=by omega
   have:=j.out.2 h4
   cases this
  go_wp2
  go_ret
  exact zat a.out hB
 have hp:Hid (PrimeB P):=j.out.1 rfl
 clear j
 by_cases hM:M=1
 ·subst hM
  by_cases hk0:k=0
  ·subst hk0
   have d:Hid (ShapeF (P:Int) ((1:Nat):Int) 0 f):=⟨P,1,rfl,rfl,HF.out,hp.out,.inl ⟨rfl,rfl⟩⟩
   go_wp2
   go_ret
   exact za5 d.out hB
  have u:((k:Int) == 0)=false:=by simp; omega
  have a:Hid (¬ ShapeF (P:Int) ((1:Nat):Int) k f):=by
   rintro ⟨P',M',e1,e2,h3,h4,⟨e3,e4⟩ | ⟨e3,_⟩⟩
   ·exact hk0 e4
   ·omega
  go_wp2
  go_ret
  exact zat a.out hB
 have C:((M:Int) == 1)=false:=by simp; omega
 by_cases hkM:k=M
 rotate_left
 ·have r:((k:Int) != (M:Int))=true:=by simp; omega
  have a:Hid (¬ ShapeF (P:Int) (M:Int) k f):=by
   rintro ⟨P',M',e1,e2,h3,h4,⟨e3,e4⟩ | ⟨e3,e4,_⟩⟩
   ·omega
   ·omega
  go_wp2
  go_ret
  exact zat a.out hB
 subst hkM
 have q:((k:Int) != (k:Int))=false:=by simp
 have s:2<=k:=by omega
 go_wp2
 clear q0 q1 q2 C q
 go_loopg [33] k (fun gg iv wx=>∃ i:Nat,iv=.int .i64 (i:Nat)/\i<=k/\k<=i+gg/\(∀ i',i'<i->0<=f i'/\f i'<P)/\wx.rowIs w.heap.size 24 3 (fldCell (.int .i64 (P:Nat)) (.int .i64 (k:Nat)) (.slice A k c))/\Below w.heap.size w wx)
 case atStart=>exact ⟨0,rfl,by omega,by omega,fun i' h=>by omega,rf,hB⟩
 clear rf hB
 obtain ⟨i,rfl,hi,D,hg,rf,hB⟩:=hrel
 have HG:=hid hg
 clear hg
 have E:(0:Int)<=(i:Int):=by omega
 have q0:=qc0 rf
 have q1:=qc1 rf
 have q2:=qc2 rf
 by_cases hlt:i<k
 rotate_left
 ·obtain rfl:i=k:=by omega
  have g:¬ (i:Int)<(i:Int):=by omega
  have d:Hid (ShapeF (P:Int) (i:Int) i f):=⟨P,i,rfl,rfl,HF.out,hp.out,.inr ⟨s,rfl,HG.out⟩⟩
  go_wp2
  go_ret
  exact za5 d.out hB
 have g:(i:Int)<(k:Int):=by omega
 obtain ⟨b,o,rfl,hb,e0⟩:=(hr.on hB).at hlt
 obtain ⟨x,hx⟩:=exx (f i)
 rw [<-hx] at e0
 have HX:=hid hx
 clear hx
 have a:Hid (x<0∨(P:Int)<=x->¬ ShapeF (P:Int) (k:Int) k f):=by
  rintro hc ⟨P',M',e1,e2,h3,h4,⟨e3,e4⟩ | ⟨e3,e4,e5⟩⟩
  ·omega
  have:=e5 i (by omega)
  rw [<-HX.out] at this
  omega
 by_cases hx0:x<0
 ·have hd:decide (x<0)=true:=by simpa using hx0
  go_wp2
  go_ret
  exact zat (a.out (.inl hx0)) hB
 have hd:decide (x<0)=false:=by simpa using hx0
 by_cases hxP:(P:Int)<=x
 ·have y:decide ((P:Int)<=x)=true:=by simpa using hxP
  go_wp2
  go_ret
  exact zat (a.out (.inr hxP)) hB
 have y:decide ((P:Int)<=x)=false:=by simpa using hxP
 have p:Hid (∀ i',i'<i+1->0<=f i'/\f i'<P):=fun i' h=>by
  by_cases e:i'=i
  ·rw [e,<-HX.out]; omega
  ·exact HG.out i' (by omega)
 clear a
 go_wp2
 go_roundg (gk - 1)
 case measure=>omega
 case rel=>exact ⟨i+1,by go_num,by omega,by omega,p.out,rf,hB⟩
theorem zcn {p:Nat}:∀ (n:Nat) (f:Nat->Nat),valN p f (n+1)=valN p f n+p ^ n*f n
 | 0,f=>by show f 0+p*0=0+p ^ 0*f 0; simp
 | n+1,f=>by
  show f 0+p*valN p (fun i=>f (i+1)) (n+1)=f 0+p*valN p (fun i=>f (i+1)) n+p ^ (n+1)*f (n+1)
  rw [zcn n]
  show f 0+p*(valN p (fun i=>f (i+1)) n+p ^ n*f (n+1))=_
  rw [Nat.mul_add,Nat.pow_succ,Nat.mul_comm (p ^ n) p,Nat.mul_assoc,Nat.add_assoc]
theorem zey {p k:Nat} {f:Nat->Nat}:∀ n,(∀ i,k<=i->i<n->f i=0)->k<=n->valN p f n=valN p f k
  | 0, _, h => by obtain rfl : k = 0 := by omega
                  rfl
  | n + 1, h, hk => by
    by_cases e:k=n+1
    · rw [e]
    · rw [zcn,h n (by omega) (by omega),Nat.mul_zero,Nat.add_zero,zey n (fun i h1 h2=>h i h1 (by omega)) (by omega)]
theorem zez {p x i j:Nat} (h:x / p ^ i=0) (hij:i<=j):dig p x j=0:=by
 unfold dig
 obtain ⟨r,rfl⟩:∃ r,j=i+r:=⟨j - i,by omega⟩
 rw [Nat.pow_add,<-Nat.div_div_eq_div_mul,h,Nat.zero_div,Nat.zero_mod]
theorem ziX {M x y:Nat} (hx:x<2 ^ M) (hy:y<2 ^ M):addF 2 M x y=x ^^^ y:=by
 refine zeY (p:=2) (M:=M) (by omega) (zdd (by omega) _ _) (Nat.xor_lt_two_pow hx hy) fun j hj=>?_
 unfold addF
 rw [za1 (fun i _=>Nat.mod_lt _ (by omega)) j hj]
 have h:=Nat.testBit_xor x y j
 simp only [Nat.testBit_eq_decide_div_mod_eq] at h
 unfold dig
 have a1:=Nat.mod_two_eq_zero_or_one (x / 2 ^ j)
 have a2:=Nat.mod_two_eq_zero_or_one (y / 2 ^ j)
 have a3:=Nat.mod_two_eq_zero_or_one ((x ^^^ y) / 2 ^ j)
 rcases a1 with a1 | a1 <;> rcases a2 with a2 | a2 <;> rcases a3 with a3 | a3 <;> simp [a1,a2,a3] at h ⊢
theorem zjI {x y:Nat} (hx:x<256) (hy:y<256):bits .xor .i64 (x:Int) (y:Int)=((x ^^^ y:Nat):Int):=by
 show IntKind.i64.wrap ((BitVec.ofInt 64 (x:Int) ^^^ BitVec.ofInt 64 (y:Int)).toNat:Nat)=_
 have k1:(BitVec.ofInt 64 (x:Int)).toNat=x:=by rw [BitVec.toNat_ofInt]; omega
 have k2:(BitVec.ofInt 64 (y:Int)).toNat=y:=by rw [BitVec.toNat_ofInt]; omega
 have h:x ^^^ y<2 ^ 8:=Nat.xor_lt_two_pow (n:=8) hx hy
 rw [BitVec.toNat_xor,k1,k2]
 exact IntWalk.i64_in _ (by omega)
def gfCell (a b c d e f:Value) (i:Nat):Value:=if i=0 then a else if i=1 then b else if i=2 then c else if i=3 then d else if i=4 then e else f
theorem KF.qc0 {w:World} {g:Nat} {T:TypeId} {a b c d e f:Value} (h:w.rowIs g T 6 (gfCell a b c d e f)) : w.cell? ⟨g,0,none⟩=some a:=h.cell (i:=0) (by decide)
theorem KF.qc1 {w:World} {g:Nat} {T:TypeId} {a b c d e f:Value} (h:w.rowIs g T 6 (gfCell a b c d e f)) : w.cell? ⟨g,1,none⟩=some b:=h.cell (i:=1) (by decide)
theorem KF.qc2 {w:World} {g:Nat} {T:TypeId} {a b c d e f:Value} (h:w.rowIs g T 6 (gfCell a b c d e f)) : w.cell? ⟨g,2,none⟩=some c:=h.cell (i:=2) (by decide)
theorem KF.qc3 {w:World} {g:Nat} {T:TypeId} {a b c d e f:Value} (h:w.rowIs g T 6 (gfCell a b c d e f)) : w.cell? ⟨g,3,none⟩=some d:=h.cell (i:=3) (by decide)
theorem KF.qc4 {w:World} {g:Nat} {T:TypeId} {a b c d e f:Value} (h:w.rowIs g T 6 (gfCell a b c d e f)) : w.cell? ⟨g,4,none⟩=some e:=h.cell (i:=4) (by decide)
theorem KF.qc5 {w:World} {g:Nat} {T:TypeId} {a b c d e f:Value} (h:w.rowIs g T 6 (gfCell a b c d e f)) : w.cell? ⟨g,5,none⟩=some f:=h.cell (i:=5) (by decide)
open KF
structure GFr (w:World) (B g P M:Nat) (m:Nat->Nat) (A:Option Addr) (k c eb eo ec lb lo lc x:Nat) (lg:Nat->Nat):Prop where
 ok:FieldOk P M m
 km:(M=1/\k=0)∨(2<=M/\k=M)
 row:w.rowIs g 182 6 (gfCell (.int .i64 (P:Nat)) (.int .i64 (M:Nat)) (.slice A k c) (.int .i64 (P ^ M:Nat)) (.slice (some ⟨eb,eo,none⟩) (P ^ M - 1) ec) (.slice (some ⟨lb,lo,none⟩) (P ^ M) lc))
 lt:g<B
 md:IntsR w B A k (fun i=>(m i:Nat))
 ex:IntsR w B (some ⟨eb,eo,none⟩) (P ^ M - 1) (fun i=>(pwG (mulF P M m) x i:Nat))
 lgr:IntsR w B (some ⟨lb,lo,none⟩) (P ^ M) (fun i=>(lg i:Nat))
 x0:1<=x
 xq:x<P ^ M
 gen:GenX (P ^ M) (mulF P M m) x
 lgs:∀ i,i<P ^ M - 1->lg (pwG (mulF P M m) x i)=i
def GF (w:World) (B g P M:Nat) (m:Nat->Nat):Prop:=∃ A k c eb eo ec lb lo lc x lg,GFr w B g P M m A k c eb eo ec lb lo lc x lg
theorem GF.ok {w:World} {B g P M:Nat} {m:Nat->Nat} (h:GF w B g P M m):FieldOk P M m:=by
 obtain ⟨_,_,_,_,_,_,_,_,_,_,_,h⟩:=h
 exact h.ok
theorem GF.at {w w':World} {B g P M:Nat} {m:Nat->Nat} (h:GF w B g P M m) (hb:Below B w w') (hB:B<=w'.heap.size):GF w' w'.heap.size g P M m:=by
 obtain ⟨A,k,c,eb,eo,ec,lb,lo,lc,x,lg,h⟩:=h
 exact ⟨A,k,c,eb,eo,ec,lb,lo,lc,x,lg,h.ok,h.km,zc7 h.row hb h.lt,Nat.lt_of_lt_of_le h.lt hB,(Rd.below h.md hb (Nat.le_refl _)).mono hB,(Rd.below h.ex hb (Nat.le_refl _)).mono hB,(Rd.below h.lgr hb (Nat.le_refl _)).mono hB,h.x0,h.xq,h.gen,h.lgs⟩
theorem GF.on {w w':World} {g P M:Nat} {m:Nat->Nat} (h:GF w w.heap.size g P M m) (hb:Below w.heap.size w w'):GF w' w'.heap.size g P M m:=h.at hb hb.size
section
variable {P M g:Nat} {m:Nat->Nat} {w:World}
theorem zco (h:GF w w.heap.size g P M m) :
  Calls Tryz.prog 76 #[.pointer (some ⟨g,0,none⟩)] w fun e w'=>e=.returned (.int .i64 (P ^ M:Nat))/\Below w.heap.size w w':=by
 obtain ⟨A,k,c,eb,eo,ec,lb,lo,lc,x,lg,h⟩:=h
 obtain ⟨Q,hQ⟩:=exx (P ^ M)
 have c3:w.cell? ⟨g,3,none⟩=some (.int .i64 (Q:Nat)):=by rw [hQ]; exact h.row.cell (i:=3) (by omega)
 rw [<-hQ]
 have HQ:=hid hQ
 clear hQ h
 go_enter Tryz.func76, Tryz.ntmps76
 go_wp2
 go_ret
 exact ⟨rfl,Below.refl _ _⟩
theorem zgs (x:Int) (h:GF w w.heap.size g P M m) :
  Calls Tryz.prog 155 #[.pointer (some ⟨g,0,none⟩),.int .i64 x] w fun e w'=>e=.returned (.bool (isB (P ^ M) x))/\Below w.heap.size w w':=by
 obtain ⟨A,k,c,eb,eo,ec,lb,lo,lc,y,lg,h⟩:=h
 obtain ⟨Q,hQ⟩:=exx (P ^ M)
 have c3:w.cell? ⟨g,3,none⟩=some (.int .i64 (Q:Nat)):=by rw [hQ]; exact h.row.cell (i:=3) (by omega)
 rw [<-hQ];clear hQ h
 by_cases h0:0<=x
 focus
  have hv:Hid (isB Q x=decide (x<(Q:Int))):=by show _=_; simp [isB,h0]
  have hd:decide (0<=x)=true:=by simpa using h0
 rotate_left
 focus
  have hv:Hid (isB Q x=false):=by show _=_; simp [isB]; omega
  have hd:decide (0<=x)=false:=by simpa using h0
 rotate_left
 all_goals
  go_enter Tryz.func155, Tryz.ntmps155
  go_wp2
  go_ret
  exact ⟨by rw [hv.out]; rfl,Below.refl _ _⟩
theorem zb2 (x:Int) (h:GF w w.heap.size g P M m) :
  Calls Tryz.prog 197 #[.pointer (some ⟨g,0,none⟩),.int .i64 x] w fun e w'=>e=.returned (.int .i64 (inV (P ^ M) x:Nat))/\Below w.heap.size w w':=by
 go_enter Tryz.func197, Tryz.ntmps197
 go_wp2_with fail
 refine (zgs x h).mono ?_
 rintro e w1 ⟨rfl,hB⟩
 by_cases hx:0<=x/\x<(P ^ M:Nat)
 ·have hv:Hid ((inV (P ^ M) x:Int)=x):=by show _=_; unfold inV; rw [if_pos hx]; omega
  have hd:isB (P ^ M) x=true:=by unfold isB; simpa using hx
  rw [hd];clear hx hd h
  go_wp2
  go_ret
  exact ⟨by rw [hv.out]; rfl,hB⟩
 have hv:Hid (inV (P ^ M) x=0):=by show _=_; unfold inV; rw [if_neg hx]
 have hd:isB (P ^ M) x=false:=by unfold isB; simpa using hx
 rw [hd];clear hx hd h
 go_wp2
 go_ret
 exact ⟨by rw [hv.out]; rfl,hB⟩
theorem zbf (x y:Int) (h:GF w w.heap.size g P M m) :
  Calls Tryz.prog 149 #[.pointer (some ⟨g,0,none⟩),.int .i64 x,.int .i64 y] w fun e w'=>e=.returned (.int .i64 (addF P M (inV (P ^ M) x) (inV (P ^ M) y):Nat))/\Below w.heap.size w w':=by
 have b:=h.ok.1
 have ac:=b.1
 have ab:=b.P_le
 have ae:=b.2.1
 have hq:=b.2.2.2
 have G:Hid (∀ i,i<=M->P ^ i<=256):=fun i hi=>b.pow_le hi
 have af:=hid b
 clear b
 have hX:=zem (Nat.pow_pos (n:=M) (show 0<P by omega)) x
 have hY:=zem (Nat.pow_pos (n:=M) (show 0<P by omega)) y
 go_enter Tryz.func149, Tryz.ntmps149
 go_wp2_with fail
 refine (zb2 x h).mono ?_
 rintro e w1 ⟨rfl,hB⟩
 have h1:=h.on hB
 go_wp2_with fail
 refine (zb2 y h1).mono ?_
 rintro e w2 ⟨rfl,kb⟩
 have h2:=h1.on kb
 replace hB:=onS hB kb;clear kb h1 h
 obtain ⟨A,k,c,eb,eo,ec,lb,lo,lc,gx,lg,h⟩:=h2
 have c0:=qc0 h.row
 clear h
 obtain ⟨X,D⟩:=exx (inV (P ^ M) x)
 obtain ⟨Y,C⟩:=exx (inV (P ^ M) y)
 rw [<-D] at hX;rw [<-C] at hY;rw [<-D,<-C]
 have J:=hid D
 have I:=hid C
 clear D C
 by_cases hP:P=2
 ·have H:((P:Int) == 2)=true:=by simp; omega
  have K:Hid (addF P M X Y=X ^^^ Y):=by
   subst hP
   exact ziX hX hY
  have a0:=zjI (x:=X) (y:=Y) (by omega) (by omega)
  clear hP hX hY
  go_wp2
  go_ret
  exact ⟨by rw [<-J.out,<-I.out,K.out]; rfl,hB⟩
 have H:((P:Int) == 2)=false:=by simp; omega
 have a9:X<256:=by omega
 have a8:Y<256:=by omega
 have T:Hid (X<P ^ M):=hX
 have S:Hid (Y<P ^ M):=hY
 clear hX hY hq hP
 go_wp2
 clear H
 go_loopg [7,8,1,2] M (fun gg sv pv xv yv wx=>∃ i s p u v:Nat,sv=.int .i64 (s:Nat)/\pv=.int .i64 (p:Nat)/\xv=.int .i64 (u:Nat)/\yv=.int .i64 (v:Nat)/\i<=M/\M<=i+gg/\Hid (u=X / P ^ i)/\Hid (v=Y / P ^ i)/\Hid (p=P ^ i)/\Hid (s=valN P (fun i=>(dig P X i+dig P Y i) % P) i)/\wx.cell? ⟨g,0,none⟩=some (.int .i64 (P:Nat))/\Below w.heap.size w wx)
 case atStart=>exact ⟨0,0,1,X,Y,rfl,rfl,rfl,rfl,by omega,by omega,by show _=_; simp,by show _=_; simp,by show _=_; simp,rfl,c0,hB⟩
 clear c0 hB
 obtain ⟨i,s,p,u,v,rfl,rfl,rfl,rfl,hi,a7,HU,HV,E,HS,c0,hB⟩:=hrel
 have a3:u<=X:=by rw [HU.out]; exact Nat.div_le_self _ _
 have a1:v<=Y:=by rw [HV.out]; exact Nat.div_le_self _ _
 by_cases hend:u=0/\v=0
 ·have F:Hid (addF P M X Y=s):=by
   show _=_
   rw [HS.out]
   unfold addF
   exact zey M (fun j h1 _=>by rw [zez (by rw [<-HU.out]; exact hend.1) h1,zez (by rw [<-HV.out]; exact hend.2) h1]; simp) hi
  obtain ⟨rfl,rfl⟩:=hend
  go_wp2
  go_ret
  exact ⟨by rw [<-J.out,<-I.out,F.out]; rfl,hB⟩
 have N:i<M:=by
  refine Classical.byContradiction fun hn=>hend ?_
  obtain rfl:i=M:=by omega
  exact ⟨by rw [HU.out]; exact Nat.div_eq_of_lt T.out,by rw [HV.out]; exact Nat.div_eq_of_lt S.out⟩
 obtain ⟨du,o⟩:=exx (u % P)
 obtain ⟨dv,l⟩:=exx (v % P)
 obtain ⟨qu,z⟩:=exx (u / P)
 obtain ⟨qv,r⟩:=exx (v / P)
 obtain ⟨ds,q⟩:∃ d,d=(du+dv) % P:=⟨_,rfl⟩
 obtain ⟨t,ht⟩:=exx (ds*p)
 obtain ⟨p2,B⟩:=exx (p*P)
 have Q:du<P:=by rw [o]; exact Nat.mod_lt _ (by omega)
 have O:dv<P:=by rw [l]; exact Nat.mod_lt _ (by omega)
 have R:ds<P:=by rw [q]; exact Nat.mod_lt _ (by omega)
 have a6:p<=256:=by rw [E.out]; exact G.out i hi
 have a:p2=P ^ (i+1):=by rw [B,E.out,Nat.pow_succ]
 have L:p2<=256:=by rw [a]; exact G.out (i+1) N
 have a4:t<=256:=by
  have:t<=p2:=by rw [ht,B,Nat.mul_comm]; exact Nat.mul_le_mul_left p (by omega)
  omega
 have a5:s<=256:=by
  have:=za4 (p:=P) (n:=i) (f:=fun i=>(dig P X i+dig P Y i) % P) fun _ _=>Nat.mod_lt _ (by omega)
  rw [<-HS.out] at this
  have:=G.out i hi
  omega
 have W:Hid (s+t=valN P (fun i=>(dig P X i+dig P Y i) % P) (i+1)):=by
  show _=_
  rw [zcn,<-HS.out,ht,q,o,l,HU.out,HV.out,E.out,Nat.mul_comm]
  rfl
 have V:Hid (qu=X / P ^ (i+1)):=by show _=_; rw [z,HU.out,Nat.pow_succ,Nat.div_div_eq_div_mul]
 have U:Hid (qv=Y / P ^ (i+1)):=by show _=_; rw [r,HV.out,Nat.pow_succ,Nat.div_div_eq_div_mul]
 have Z:=hid a
 have m1:(u:Int).tmod (P:Int)=(du:Int):=by rw [o,Int.tmod_eq_emod_of_nonneg (by omega)]; simp
 have m2:(v:Int).tmod (P:Int)=(dv:Int):=by rw [l,Int.tmod_eq_emod_of_nonneg (by omega)]; simp
 have m3:((du:Int)+(dv:Int)).tmod (P:Int)=(ds:Int):=by rw [q,Int.tmod_eq_emod_of_nonneg (by omega)]; simp
 have e1:(u:Int) % (P:Int)=(du:Int):=by rw [o]; simp
 have e2:(v:Int) % (P:Int)=(dv:Int):=by rw [l]; simp
 have e3:((du:Int)+(dv:Int)) % (P:Int)=(ds:Int):=by rw [q]; simp
 have e4:(ds:Int)*(p:Int)=(t:Int):=by rw [ht]; simp
 have e5:(p:Int)*(P:Int)=(p2:Int):=by rw [B]; simp
 have d1:(u:Int).tdiv (P:Int)=(qu:Int):=by rw [z,Int.tdiv_eq_ediv_of_nonneg (by omega)]; rfl
 have d2:(v:Int).tdiv (P:Int)=(qv:Int):=by rw [r,Int.tdiv_eq_ediv_of_nonneg (by omega)]; rfl
 have d3:(u:Int) / (P:Int)=(qu:Int):=by rw [z]; rfl
 have d4:(v:Int) / (P:Int)=(qv:Int):=by rw [r]; rfl
 have qu6:qu<=256:=by have:u / P<=u:=Nat.div_le_self _ _; omega
 have qv6:qv<=256:=by have:v / P<=v:=Nat.div_le_self _ _; omega
 have w1':IntKind.i64.wrap ((du:Int)+(dv:Int))=(du:Int)+(dv:Int):=IntWalk.i64_in _ (by omega)
 have w2':IntKind.i64.wrap (du:Int)=(du:Int):=IntWalk.i64_in _ (by omega)
 have w3':IntKind.i64.wrap (dv:Int)=(dv:Int):=IntWalk.i64_in _ (by omega)
 have w4':IntKind.i64.wrap (ds:Int)=(ds:Int):=IntWalk.i64_in _ (by omega)
 have w5':IntKind.i64.wrap (t:Int)=(t:Int):=IntWalk.i64_in _ (by omega)
 have w6':IntKind.i64.wrap (p2:Int)=(p2:Int):=IntWalk.i64_in _ (by omega)
 have w7':IntKind.i64.wrap ((s:Int)+(t:Int))=(s:Int)+(t:Int):=IntWalk.i64_in _ (by omega)
 have w8':IntKind.i64.wrap (qu:Int)=(qu:Int):=IntWalk.i64_in _ (by omega)
 have w9':IntKind.i64.wrap (qv:Int)=(qv:Int):=IntWalk.i64_in _ (by omega)
 have ad:¬ (P:Int)=0:=by omega
 have aa:¬ P=0:=by omega
 clear o l z r q ht B a HU HV E HS
 by_cases hu0:u=0
 focus
  have a2:0<v:=by omega
  have g1:decide ((0:Int)<(u:Int))=false:=by simp; omega
  have g2:decide ((0:Int)<(v:Int))=true:=by simp; omega
  have g1':decide (0<u)=false:=by simp; omega
  have g2':decide (0<v)=true:=by simp; omega
 rotate_left
 focus
  have g1:decide ((0:Int)<(u:Int))=true:=by simp; omega
  have g1':decide (0<u)=true:=by simp; omega
 rotate_left
 all_goals
  clear hend hu0
  go_wp2
  go_quiet (fail)
  go_wp2
  go_roundg (gk - 1)
  case measure=>omega
  case rel=>exact ⟨i+1,s+t,p2,qu,qv,by go_num,rfl,rfl,rfl,by omega,by omega,V,U,Z,W,c0,zac hB _⟩
end
theorem IntsR.here {w:World} {B b o n i:Nat} {f:Nat->Int} (h:IntsR w B (some ⟨b,o,none⟩) n f) (hi:i<n):w.cell? ⟨b,o+i,none⟩=some (.int .i64 (f i)):=by
 obtain ⟨b',o',e,_,h⟩:=h.at hi
 injection e with e
 injection e with e1 e2
 subst e1 e2
 exact h
section
variable {P M g:Nat} {m:Nat->Nat} {w:World}
theorem zdz (x:Int) (h:GF w w.heap.size g P M m) :
  Calls Tryz.prog 196 #[.pointer (some ⟨g,0,none⟩),.int .i64 x] w fun e w'=>e=.returned (.int .i64 (negF P M (inV (P ^ M) x):Nat))/\Below w.heap.size w w':=by
 have l:=h.ok.1
 have Z:=l.1
 have Y:=l.P_le
 have a1:=l.2.1
 have hq:=l.2.2.2
 have C:Hid (∀ i,i<=M->P ^ i<=256):=fun i hi=>l.pow_le hi
 clear l
 have hX:=zem (Nat.pow_pos (n:=M) (show 0<P by omega)) x
 go_enter Tryz.func196, Tryz.ntmps196
 go_wp2_with fail
 refine (zb2 x h).mono ?_
 rintro e w2 ⟨rfl,hB⟩
 have h2:=h.on hB
 clear h
 obtain ⟨A,k,c,eb,eo,ec,lb,lo,lc,gx,lg,h⟩:=h2
 have c0:=qc0 h.row
 clear h
 obtain ⟨X,y⟩:=exx (inV (P ^ M) x)
 rw [<-y] at hX;rw [<-y]
 have J:=hid y
 clear y
 have V:X<256:=by omega
 have I:Hid (X<P ^ M):=hX
 clear hX hq
 go_wp2
 go_loopg [5,6,1] M (fun gg sv pv xv wx=>∃ i s p u:Nat,sv=.int .i64 (s:Nat)/\pv=.int .i64 (p:Nat)/\xv=.int .i64 (u:Nat)/\i<=M/\M<=i+gg/\Hid (u=X / P ^ i)/\Hid (p=P ^ i)/\Hid (s=valN P (fun i=>(P - dig P X i) % P) i)/\wx.cell? ⟨g,0,none⟩=some (.int .i64 (P:Nat))/\Below w.heap.size w wx)
 case atStart=>exact ⟨0,0,1,X,rfl,rfl,rfl,by omega,by omega,by show _=_; simp,by show _=_; simp,rfl,c0,hB⟩
 clear c0 hB
 obtain ⟨i,s,p,u,rfl,rfl,rfl,hi,U,HU,z,HS,c0,hB⟩:=hrel
 have O:u<=X:=by rw [HU.out]; exact Nat.div_le_self _ _
 by_cases hend:u=0
 ·have B:Hid (negF P M X=s):=by
   show _=_
   rw [HS.out]
   unfold negF
   exact zey M (fun j h1 _=>by rw [zez (by rw [<-HU.out]; exact hend) h1]; simp) hi
  subst hend
  go_wp2
  go_ret
  exact ⟨by rw [<-J.out,B.out]; rfl,hB⟩
 have F:i<M:=by
  refine Classical.byContradiction fun hn=>hend ?_
  obtain rfl:i=M:=by omega
  rw [HU.out]; exact Nat.div_eq_of_lt I.out
 obtain ⟨du,o⟩:=exx (u % P)
 obtain ⟨qu,q⟩:=exx (u / P)
 obtain ⟨ds,v⟩:∃ d,d=(P - du) % P:=⟨_,rfl⟩
 obtain ⟨t,ht⟩:=exx (ds*p)
 obtain ⟨p2,r⟩:=exx (p*P)
 have G:du<P:=by rw [o]; exact Nat.mod_lt _ (by omega)
 have H:ds<P:=by rw [v]; exact Nat.mod_lt _ (by omega)
 have T:p<=256:=by rw [z.out]; exact C.out i hi
 have b:p2=P ^ (i+1):=by rw [r,z.out,Nat.pow_succ]
 have E:p2<=256:=by rw [b]; exact C.out (i+1) F
 have R:t<=256:=by
  have:t<=p2:=by rw [ht,r,Nat.mul_comm]; exact Nat.mul_le_mul_left p (by omega)
  omega
 have S:s<=256:=by
  have:=za4 (p:=P) (n:=i) (f:=fun i=>(P - dig P X i) % P) fun _ _=>Nat.mod_lt _ (by omega)
  rw [<-HS.out] at this
  have:=C.out i hi
  omega
 have L:Hid (s+t=valN P (fun i=>(P - dig P X i) % P) (i+1)):=by
  show _=_
  rw [zcn,<-HS.out,ht,v,o,HU.out,z.out,Nat.mul_comm]
  rfl
 have K:Hid (qu=X / P ^ (i+1)):=by show _=_; rw [q,HU.out,Nat.pow_succ,Nat.div_div_eq_div_mul]
 have N:=hid b
 have m1:(u:Int).tmod (P:Int)=(du:Int):=by rw [o,Int.tmod_eq_emod_of_nonneg (by omega)]; simp
 have e1:(u:Int) % (P:Int)=(du:Int):=by rw [o]; simp
 have a:((P:Int) - (du:Int))=((P - du:Nat):Int):=by omega
 have e3:((P:Int) - (du:Int)) % (P:Int)=(ds:Int):=by rw [v,a]; rfl
 have m3:((P:Int) - (du:Int)).tmod (P:Int)=(ds:Int):=by rw [Int.tmod_eq_emod_of_nonneg (by omega)]; exact e3
 have e4:(ds:Int)*(p:Int)=(t:Int):=by rw [ht]; simp
 have e5:(p:Int)*(P:Int)=(p2:Int):=by rw [r]; simp
 have d1:(u:Int).tdiv (P:Int)=(qu:Int):=by rw [q,Int.tdiv_eq_ediv_of_nonneg (by omega)]; rfl
 have d3:(u:Int) / (P:Int)=(qu:Int):=by rw [q]; rfl
 have qu6:qu<=256:=by have:u / P<=u:=Nat.div_le_self _ _; omega
 have w1':IntKind.i64.wrap ((P:Int) - (du:Int))=(P:Int) - (du:Int):=IntWalk.i64_in _ (by omega)
 have w2':IntKind.i64.wrap (du:Int)=(du:Int):=IntWalk.i64_in _ (by omega)
 have w4':IntKind.i64.wrap (ds:Int)=(ds:Int):=IntWalk.i64_in _ (by omega)
 have w5':IntKind.i64.wrap (t:Int)=(t:Int):=IntWalk.i64_in _ (by omega)
 have w6':IntKind.i64.wrap (p2:Int)=(p2:Int):=IntWalk.i64_in _ (by omega)
 have w7':IntKind.i64.wrap ((s:Int)+(t:Int))=(s:Int)+(t:Int):=IntWalk.i64_in _ (by omega)
 have w8':IntKind.i64.wrap (qu:Int)=(qu:Int):=IntWalk.i64_in _ (by omega)
 have a0:¬ (P:Int)=0:=by omega
 have W:¬ P=0:=by omega
 have Q:(0:Int)<(u:Int):=by omega
 have D:0<u:=by omega
 clear o q v ht r b HU z HS a hend
 go_wp2
 go_quiet (fail)
 go_wp2
 go_roundg (gk - 1)
 case measure=>omega
 case rel=>exact ⟨i+1,s+t,p2,qu,by go_num,rfl,rfl,by omega,by omega,K,N,L,c0,zac hB _⟩
theorem zhE (x y:Int) (h:GF w w.heap.size g P M m) :
  Calls Tryz.prog 143 #[.pointer (some ⟨g,0,none⟩),.int .i64 x,.int .i64 y] w fun e w'=>e=.returned (.int .i64 (addF P M (inV (P ^ M) x) (negF P M (inV (P ^ M) y)):Nat))/\Below w.heap.size w w':=by
 have a:0<P:=by have:=h.ok.1.1; omega
 go_enter Tryz.func143, Tryz.ntmps143
 go_wp2_with fail
 refine (zdz y h).mono ?_
 rintro e w1 ⟨rfl,hB⟩
 have h1:=h.on hB
 clear h
 have hn:Hid (inV (P ^ M) ((negF P M (inV (P ^ M) y):Nat):Int)=negF P M (inV (P ^ M) y)):=zaj (zb8 a)
 obtain ⟨Y,hY⟩:=exx (negF P M (inV (P ^ M) y))
 rw [<-hY] at hn;rw [<-hY]
 have HY:=hid hY
 clear hY
 go_wp2_with fail
 refine (zbf x (Y:Int) h1).mono ?_
 rintro e w2 ⟨rfl,kb⟩
 rw [hn.out];replace hB:=onS hB kb;clear kb h1 hn
 obtain ⟨Z,hZ⟩:=exx (addF P M (inV (P ^ M) x) Y)
 rw [<-hZ]
 have HZ:=hid hZ
 clear hZ
 go_wp2
 go_ret
 exact ⟨by rw [HZ.out,HY.out]; rfl,hB⟩
theorem zaL (x y:Int) (h:GF w w.heap.size g P M m) :
  Calls Tryz.prog 144 #[.pointer (some ⟨g,0,none⟩),.int .i64 x,.int .i64 y] w fun e w'=>e=.returned (.int .i64 (mulF P M m (inV (P ^ M) x) (inV (P ^ M) y):Nat))/\Below w.heap.size w w':=by
 have b:=h.ok
 have hL:=fieldLaws b
 have K:=b.1.1
 have hq:=b.1.2.2.2
 have p:=hL.two
 have hX:=zem (Nat.pow_pos (n:=M) (show 0<P by omega)) x
 have hY:=zem (Nat.pow_pos (n:=M) (show 0<P by omega)) y
 have HR:=hid (ringM m b.1)
 go_enter Tryz.func144, Tryz.ntmps144
 go_wp2_with fail
 refine (zb2 x h).mono ?_
 rintro e w1 ⟨rfl,hB⟩
 have h1:=h.on hB
 go_wp2_with fail
 refine (zb2 y h1).mono ?_
 rintro e w2 ⟨rfl,kb⟩
 have h2:=h1.on kb
 replace hB:=onS hB kb;clear kb h1 h
 obtain ⟨X,l⟩:=exx (inV (P ^ M) x)
 obtain ⟨Y,d⟩:=exx (inV (P ^ M) y)
 rw [<-l] at hX;rw [<-d] at hY;rw [<-l,<-d]
 have u:=hid l
 have t:=hid d
 clear l d
 have HL:=hid hL
 clear hL b
 by_cases hX0:X=0
 ·have hv:Hid (mulF P M m X Y=0):=by
   show _=_
   rw [HL.out.mulComm X Y hX hY,hX0]
   exact HL.out.mulZero hY
  have hd:((X:Int) == 0)=true:=by simp [hX0]
  clear hX0 h2
  go_wp2
  go_ret
  exact ⟨by rw [<-u.out,<-t.out,hv.out]; rfl,hB⟩
 have hd:((X:Int) == 0)=false:=by simp [hX0]
 by_cases hY0:Y=0
 ·have hv:Hid (mulF P M m X Y=0):=by
   show _=_
   rw [hY0]
   exact HL.out.mulZero hX
  have C:((Y:Int) == 0)=true:=by simp [hY0]
  clear hX0 hY0 h2
  go_wp2
  go_ret
  exact ⟨by rw [<-u.out,<-t.out,hv.out]; rfl,hB⟩
 have C:((Y:Int) == 0)=false:=by simp [hY0]
 obtain ⟨A,k,c,eb,eo,ec,lb,lo,lc,gx,lg,h⟩:=h2
 obtain ⟨i,hi,s⟩:=zd0 p h.gen.1 hX0 hX
 obtain ⟨j,hj,q⟩:=zd0 p h.gen.1 hY0 hY
 have z:lg X=i:=by rw [<-s]; exact h.lgs i hi
 have v:lg Y=j:=by rw [<-q]; exact h.lgs j hj
 have c3:=qc3 h.row
 have c4:=qc4 h.row
 have c5:=qc5 h.row
 have l1:=h.lgr.here hX
 have l2:=h.lgr.here hY
 rw [z] at l1;rw [v] at l2
 obtain ⟨r,hr⟩:∃ r,r=(i+j) % (P ^ M - 1):=⟨_,rfl⟩
 have o:r<P ^ M - 1:=by rw [hr]; exact Nat.mod_lt _ (by omega)
 have l3:=h.ex.here o
 have a:pwG (mulF P M m) gx r=mulF P M m X Y:=by rw [hr,<-s,<-q,ze6 HR.out h.xq h.gen hi j hj]
 rw [a] at l3
 obtain ⟨Z,hZ⟩:=exx (mulF P M m X Y)
 rw [<-hZ] at l3
 have HZ:=hid hZ
 obtain ⟨Q,hQ⟩:=exx (P ^ M)
 rw [<-hQ] at hX hY hi hj c3 c4 c5 o hr hq p
 obtain ⟨Q1,B⟩:=exx (Q - 1)
 rw [<-B] at hi hj c4 o hr
 have E:(Q:Int) - 1=(Q1:Int):=by omega
 have F:¬ (Q1:Int)=0:=by omega
 have D:¬ Q1=0:=by omega
 have J:Q1<=256:=by omega
 have s0:(0:Int)<=(i:Int)+(j:Int):=by omega
 have m1:((i:Int)+(j:Int)) % (Q1:Int)=(r:Int):=by rw [hr]; simp
 have m2:((i:Int)+(j:Int)).tmod (Q1:Int)=(r:Int):=by rw [Int.tmod_eq_emod_of_nonneg s0]; exact m1
 have ws:IntKind.i64.wrap ((i:Int)+(j:Int))=(i:Int)+(j:Int):=IntWalk.i64_in _ (by omega)
 have wr':IntKind.i64.wrap (r:Int)=(r:Int):=IntWalk.i64_in _ (by omega)
 have wq:IntKind.i64.wrap (Q1:Int)=(Q1:Int):=IntWalk.i64_in _ (by omega)
 have I:(X:Int)<(Q:Int):=by omega
 have H:(Y:Int)<(Q:Int):=by omega
 have G:(r:Int)<(Q1:Int):=by omega
 clear h hZ hQ B hr a s q z v hX0 hY0 HR HL
 go_wp2
 go_quiet (fail)
 go_wp2
 go_ret
 exact ⟨by rw [<-u.out,<-t.out,<-HZ.out]; rfl,zac hB _⟩
theorem zdA (x:Int) (h:GF w w.heap.size g P M m) :
  Calls Tryz.prog 195 #[.pointer (some ⟨g,0,none⟩),.int .i64 x] w fun e w'=>Below w.heap.size w w'/\((inV (P ^ M) x=0/\e=.returned (.tuple #[.int .i64 0,.int .i64 7]))∨(inV (P ^ M) x≠0/\∃ y:Nat,e=.returned (.tuple #[.int .i64 (y:Nat),.int .i64 0])/\y<P ^ M/\y≠0/\mulF P M m (inV (P ^ M) x) y=1)):=by
 have b:=h.ok
 have hL:=fieldLaws b
 have G:=b.1.1
 have hq:=b.1.2.2.2
 have s:=hL.two
 have hX:=zem (Nat.pow_pos (n:=M) (show 0<P by omega)) x
 have HR:=hid (ringM m b.1)
 go_enter Tryz.func195, Tryz.ntmps195
 go_wp2_with fail
 refine (zb2 x h).mono ?_
 rintro e w2 ⟨rfl,hB⟩
 have h2:=h.on hB
 clear h
 obtain ⟨X,l⟩:=exx (inV (P ^ M) x)
 rw [<-l] at hX;rw [<-l]
 have p:=hid l
 clear l hL b
 by_cases hX0:X=0
 ·have q:=hid hX0
  have hd:((X:Int) == 0)=true:=by simp [hX0]
  clear hX0 h2
  go_wp2
  go_ret2
  exact ⟨hB,.inl ⟨by rw [<-p.out]; exact q.out,rfl⟩⟩
 have q:=hid hX0
 have hd:((X:Int) == 0)=false:=by simp [hX0]
 obtain ⟨A,k,c,eb,eo,ec,lb,lo,lc,gx,lg,h⟩:=h2
 obtain ⟨i,hi,o⟩:=zd0 s h.gen.1 hX0 hX
 have t:lg X=i:=by rw [<-o]; exact h.lgs i hi
 have c3:=qc3 h.row
 have c4:=qc4 h.row
 have c5:=qc5 h.row
 have l1:=h.lgr.here hX
 rw [t] at l1
 obtain ⟨d,j⟩:=exx (P ^ M - 1 - i)
 obtain ⟨r,hr⟩:=exx (d % (P ^ M - 1))
 have a:r<P ^ M - 1:=by rw [hr]; exact Nat.mod_lt _ (by omega)
 have l3:=h.ex.here a
 obtain ⟨Z,hZ⟩:=exx (pwG (mulF P M m) gx r)
 rw [<-hZ] at l3
 have HV:Hid (Z<P ^ M/\Z≠0/\mulF P M m X Z=1):=by
  refine ⟨by rw [hZ]; exact h.gen.1.lt r a,by rw [hZ]; exact h.gen.1.ne r a,?_⟩
  rw [hZ,<-o,ze6 HR.out h.xq h.gen hi r a,hr,Nat.add_mod_mod,j,show i+(P ^ M - 1 - i)=P ^ M - 1 by omega,Nat.mod_self]
  rfl
 obtain ⟨Q,hQ⟩:=exx (P ^ M)
 rw [<-hQ] at hX hi c3 c4 c5 a hr hq s j HV
 have HQ:=hid hQ
 obtain ⟨Q1,u⟩:=exx (Q - 1)
 rw [<-u] at hi c4 a hr j
 have z:(Q:Int) - 1=(Q1:Int):=by omega
 have B:¬ (Q1:Int)=0:=by omega
 have v:¬ Q1=0:=by omega
 have F:Q1<=256:=by omega
 have D:(Q1:Int) - (i:Int)=(d:Int):=by omega
 have m1:(d:Int) % (Q1:Int)=(r:Int):=by rw [hr]; simp
 have m2:(d:Int).tmod (Q1:Int)=(r:Int):=by rw [Int.tmod_eq_emod_of_nonneg (by omega)]; exact m1
 have wd:IntKind.i64.wrap (d:Int)=(d:Int):=IntWalk.i64_in _ (by omega)
 have wr':IntKind.i64.wrap (r:Int)=(r:Int):=IntWalk.i64_in _ (by omega)
 have wq:IntKind.i64.wrap (Q1:Int)=(Q1:Int):=IntWalk.i64_in _ (by omega)
 have E:(X:Int)<(Q:Int):=by omega
 have C:(r:Int)<(Q1:Int):=by omega
 clear h hZ hQ u hr o t hX0 HR j
 go_wp2
 go_quiet (fail)
 go_wp2
 go_ret2
 refine ⟨zac hB _,.inr ⟨by rw [<-p.out]; exact q.out,Z,rfl,?_⟩⟩
 rw [<-p.out,<-HQ.out]
 exact HV.out
end
section
variable {P M g:Nat} {m:Nat->Nat} {w:World}
theorem zfB (a n:Nat) (V:Option Addr) (d:Nat) (v:Nat->Nat) (h:GF w w.heap.size g P M m) (ha:a<P ^ M) (hv:IntsR w w.heap.size V n (fun i=>(v i:Nat))) (hvq:∀ i,i<n->v i<P ^ M) (hn:n<=1048576) :
  Calls Tryz.prog 253 #[.pointer (some ⟨g,0,none⟩),.int .i64 (a:Nat),.slice V n d] w (RowPost n (fun i=>.int .i64 (mulF P M m a (v i):Nat)) w):=by
 have hq:=h.ok.1.2.2.2
 have HG:=hid h
 have HV:=hid hv
 have s:=hid hvq
 have y:=hid (zaj ha)
 clear h hv hvq
 have l:=fun W=>zaf (P:=Tryz.prog) 22 3 _ 8 Tryz.underlying22 Tryz.infoInt rfl (n:Int) (by omega) (by omega) (by omega) W
 simp only [Int.toNat_natCast] at l
 go_enter Tryz.func253, Tryz.ntmps253
 go_upto_region 2 with fail
 have hB:=(Below.refl w.heap.size w).alloc (Nat.le_refl _) (Obj.cells (madeCells #[Value.int .i64 0] n) 3)
 have ra:=World.rowIs_made w (.int .i64 0) n 3
 obtain ⟨w1,j⟩:=exx (w.alloc (Obj.cells (madeCells #[Value.int .i64 0] n) 3))
 obtain ⟨r,hr⟩:=exx w.heap.size
 rw [<-j] at hB ra ⊢;rw [<-hr] at ra ⊢
 have k:w.heap.size<=r:=by omega
 have F:=hid hr
 clear j hr l
 go_wp2
 go_loopg [15] n (fun gg iv wx=>∃ i:Nat,iv=.int .i64 (i:Nat)/\i<=n/\n<=i+gg/\wx.rowIs r 3 n (fun t=>.int .i64 ((if t<i then mulF P M m a (v t) else 0:Nat):Int))/\Below w.heap.size w wx)
 case atStart=>exact ⟨0,rfl,by omega,by omega,ra.congr fun t _=>by rw [if_neg (by omega)]; rfl,hB⟩
 clear ra hB
 obtain ⟨i,rfl,hi,D,ra,hB⟩:=hrel
 have E:(0:Int)<=(i:Int):=by omega
 by_cases hlt:i<n
 rotate_left
 ·obtain rfl:i=n:=by omega
  have c:¬ (i:Int)<(i:Int):=by omega
  have b:Hid (wr.rowIs r 3 i (fun t=>.int .i64 (mulF P M m a (v t):Nat))):=ra.congr fun t ht=>by rw [if_pos ht]
  clear ra
  go_wp2
  go_ret
  exact ⟨r,rfl,k,b.out,hB⟩
 have c:(i:Int)<(n:Int):=by omega
 obtain ⟨vb,vo,rfl,q,x0⟩:=HV.out.at hlt
 have C:vb≠r:=by omega
 replace x0:=(hB.cell (p:=⟨vb,vo+i,none⟩) q).trans x0
 obtain ⟨x,hx⟩:=exx (v i)
 have o:inV (P ^ M) (x:Nat)=x:=by rw [hx]; exact zaj (s.out i hlt)
 rw [<-hx] at x0
 have HX:=hid hx
 have u:=hid o
 clear hx o
 have hG:=HG.out.at hB hB.size
 go_wp2_with fail
 refine (zaL (a:Int) (x:Int) hG).mono ?_
 rintro e w2 ⟨rfl,kb⟩
 rw [y.out,u.out];replace ra:=zab ra kb;replace hB:=onS hB kb;clear kb hG x0
 obtain ⟨z,hz⟩:=exx (mulF P M m a x)
 rw [<-hz]
 have ra2:(w2.setCell ⟨r,i,none⟩ (.int .i64 (z:Int))).rowIs r 3 n (fun t=>.int .i64 ((if t<i+1 then mulF P M m a (v t) else 0:Nat):Int)):=(ra.set i _).congr fun t ht=>by
  by_cases e:t=i
  ·subst e
   rw [if_pos rfl,if_pos (by omega),hz,HX.out]
  rw [if_neg e]
  by_cases e2:t<i
  ·rw [if_pos e2,if_pos (by omega)]
  ·rw [if_neg e2,if_neg (by omega)]
 have RA:=hid ra2
 have B:Hid (Below w.heap.size w (w2.setCell ⟨r,i,none⟩ (.int .i64 (z:Int)))):=hB.setCell k _
 have c0:=ra.cell hlt
 have z0:=ra.frozen i
 clear hz ra2 ra hB
 go_wp2
 clear c0 z0
 go_roundg (gk - 1)
 case measure=>omega
 case rel=>exact ⟨i+1,by go_num,by omega,by omega,RA.out,B.out⟩
end
theorem zfC (P M:Int) (A:Option Addr) (k c:Nat) (f:Nat->Int) (w:World) (hr:IntsR w w.heap.size A k f) :
  Calls Tryz.prog 128 #[.agg #[.int .i64 P,.int .i64 M,.slice A k c]] w (CheckPost (GoodF P M k f) w):=by
 obtain ⟨w0,l,hB,rf⟩:=zaz w (.int .i64 P) (.int .i64 M) (.slice A k c) 24
 go_enter Tryz.func128, Tryz.ntmps128
 go_upto_region 1 with fail
 rw [<-l];clear l
 have q0:=qc0 rf
 have q1:=qc1 rf
 have q2:=qc2 rf
 refine wp_region_held_drew (S:=fun w'=>w'.cell? ⟨w.heap.size,0,none⟩=some (.int .i64 P)/\w'.cell? ⟨w.heap.size,1,none⟩=some (.int .i64 M)/\w'.cell? ⟨w.heap.size,2,none⟩=some (.slice A k c)) (by kernel_rfl) ⟨cellS (Below.refl _ _).drew q0,cellS (Below.refl _ _).drew q1,cellS (Below.refl _ _).drew q2⟩ (fun hHeld=>?_)
 obtain ⟨w1,hw,kb⟩:=dwx w0
 rw [<-hw] at hHeld ⊢;clear hw;replace hB:=onS hB kb;replace rf:=zab rf kb;clear kb q0 q1 q2
 refine tkq 0 (h:=rdq 1 (h:=fun K hK=>?_))
 go_simp
 go_wp2_with fail
 refine (ze7 P M A k c f w1 (hr.on hB)).mono ?_
 rintro e w2 ⟨b,rfl,hb,kb⟩
 replace hB:=onS hB kb;replace rf:=zab rf kb
 have g:=hid hb
 clear kb hb
 have q0:=qc0 rf
 have q1:=qc1 rf
 have q2:=qc2 rf
 cases b
 ·have a:Hid (¬ GoodF P M k f):=fun h=>by have:=g.out.2 h.shape; cases this
  refine bkq hK ⟨q0,q1,q2⟩ (h:=fun hHeld=>?_)
  clear hK K
  refine tkq 2 (h:=tkq 3 (h:=tkn 4 (h:=tkn 5 (h:=tkn 6 (h:=tkn 7 (h:=tkn 8 (h:=tkn 9 (h:=tkn 10 (h:=tkn 11 (h:=tkq 12 (h:=?_)))))))))))
  refine wpAnyH_done (by kernel_rfl) ?_ _
  clear hHeld
  go_wp2
  go_ret
  exact zaE a.out hB
 have hs:=g.out.1 rfl
 clear g
 obtain ⟨P,M,rfl,rfl,hf,m⟩:=hs.fld
 have HS:=hid hs
 have HF:=hid hf
 have r:Hid (M=1∨k=M):=m
 have p:=hid (zct hf)
 clear hs hf m
 refine bkq hK ⟨q0,q1,q2⟩ (h:=fun hHeld=>?_)
 clear hK K
 refine tkq 2 (h:=tkq 3 (h:=tkq 4 (h:=tkq 5 (h:=tkq 6 (h:=tkq 7 (h:=tkq 8 (h:=rdq 9 (h:=fun K hK=>?_))))))))
 go_simp
 go_wp2_with fail
 refine (zbZ (P:Int) (M:Int) _).mono ?_
 rintro e w3 ⟨rfl,kb⟩
 rw [p.out];replace hB:=onS hB kb;replace rf:=zab rf kb;clear kb q0 q1 q2
 refine bkq hK ⟨qc0 rf,qc1 rf,qc2 rf⟩ (h:=fun hHeld=>?_)
 clear hK K
 refine rdq 10 (h:=fun K hK=>?_)
 go_simp
 go_wp2_with fail
 refine (zb9 P M A k c (fun i=>(f i).toNat) (P ^ M) w3 HF.out (HS.out.mod (hr.on hB)) r.out rfl).mono ?_
 rintro e w4 ⟨kb,hg⟩
 have HG:=hid hg
 replace hB:=onS hB kb;replace rf:=zab rf kb;clear kb hg
 rcases HG.out with ⟨rfl,a⟩ | ⟨lv,x,rfl,o,j,n,hO⟩
 ·have a:Hid (¬ GoodF (P:Int) (M:Int) k f):=fun h=>by
   obtain ⟨x,h1,h2,h3⟩:=HS.out.good.1 h
   exact a x h1 h2 h3
  refine bkq hK ⟨qc0 rf,qc1 rf,qc2 rf⟩ (h:=fun hHeld=>?_)
  clear hK K
  have he:∀ w:World,(binOp .eql 22 (.slice none 0 0) (.slice none 0 0)).run Tryz.prog w=.ok (.bool true) w:=fun _=>rfl
  refine tkq 11 (h:=tkq 12 (h:=?_))
  refine wpAnyH_done (by kernel_rfl) ?_ _
  clear hHeld
  go_wp2
  go_ret
  exact zaE a.out hB
 have d:Hid (GoodF (P:Int) (M:Int) k f):=HS.out.good.2 ⟨x,o,j,n⟩
 have q:P ^ M - 1≠0:=by omega
 obtain ⟨lb,lo,lc,rfl,_⟩:=hO.form (by omega)
 obtain ⟨L,hL⟩:=exx (P ^ M - 1)
 rw [<-hL];clear q hO j hL n HG
 refine bkq hK ⟨qc0 rf,qc1 rf,qc2 rf⟩ (h:=fun hHeld=>?_)
 clear hK K
 have he:∀ w:World,(binOp .eql 22 (.slice (some ⟨lb,lo,none⟩) L lc) (.slice none 0 0)).run Tryz.prog w=.ok (.bool false) w:=fun _=>rfl
 refine tkq 11 (h:=tkq 12 (h:=?_))
 refine wpAnyH_done (by kernel_rfl) ?_ _
 clear hHeld
 go_wp2
 go_ret
 exact zbS d.out hB
def lgP (p:Nat->Nat):Nat->Nat->Nat
 | 0,_=>0
 | n+1,t=>if t=p n then n else lgP p n t
theorem zjJ {q:Nat} {p:Nat->Nat} {N i:Nat} (h:PwOk q p N):∀ n,n<=N->i<n->lgP p n (p i)=i
 | 0,_,hi=>by omega
 | n + 1, hn, hi => by
  show (if p i=p n then n else lgP p n (p i))=i
  by_cases e:i=n
  ·subst e; rw [if_pos rfl]
  ·rw [if_neg (h.inj i n (by omega) (by omega))]
   exact zjJ h n (by omega) (by omega)
theorem zhF {w:World} {a b c d e f:Value} {T:TypeId}:(w.alloc (.cells #[a,b,c,d,e,f] T)).rowIs w.heap.size T 6 (gfCell a b c d e f) :=
 ⟨_,zah rfl,rfl,fun i hi=>by
  match i,hi with
  | 0,_=>rfl
  | 1,_=>rfl
  | 2,_=>rfl
  | 3,_=>rfl
  | 4,_=>rfl
  | 5,_=>rfl⟩
theorem zhG {w:World} {base e s n:Nat} {v:Value} {f:Nat->Nat->Value} (h:Own w base e s v n f):v.ownBlock=none∨v.ownBlock≠some w.heap.size:=.inr fun e=>by have:=(h.lt _ e).2; omega
def GFU (w:World) (base B g P M:Nat) (m:Nat->Nat):Prop:=∃ A k c eb eo ec lb lo lc x lg,GFr w B g P M m A k c eb eo ec lb lo lc x lg/\base<=g/\base<=eb/\base<=lb/\∀ ad,A=some ad->base<=ad.block
theorem GFU.gf {w:World} {base B g P M:Nat} {m:Nat->Nat} (h:GFU w base B g P M m):GF w B g P M m:=by
 obtain ⟨A,k,c,eb,eo,ec,lb,lo,lc,x,lg,h,_⟩:=h
 exact ⟨A,k,c,eb,eo,ec,lb,lo,lc,x,lg,h⟩
theorem GFU.grown {w w':World} {base g P M b:Nat} {m:Nat->Nat} (h:GFU w base w.heap.size g P M m) (hg:w.grownBy w' (some b)) (hb:b<base):GFU w' base w'.heap.size g P M m:=by
 obtain ⟨A,k,c,eb,eo,ec,lb,lo,lc,x,lg,h,h1,h2,h3,h4⟩:=h
 have d:∀ {ad:Option Addr} {n:Nat} {f:Nat->Int},IntsR w w.heap.size ad n f->(∀ a,ad=some a->base<=a.block)->IntsR w' w'.heap.size ad n f:=fun {ad n f} hr ha i hi=>by
  obtain ⟨q,o,e,hq,hc⟩:=hr i hi
  refine ⟨q,o,e,Nat.lt_of_lt_of_le hq hg.size,fun j hj=>?_⟩
  have l:base<=q:=ha _ e
  exact (World.cell?_of_block (w:=w) (a:=⟨q,o+i*1+j,none⟩) (hg.block q hq (by intro e; injection e with e; omega))).trans (hc j hj)
 exact ⟨A,k,c,eb,eo,ec,lb,lo,lc,x,lg,⟨h.ok,h.km,h.row.of_block (hg.block g h.row.lt (by intro e; injection e with e; omega)),Nat.lt_of_lt_of_le h.lt hg.size,d h.md h4,d h.ex (fun a e=>by injection e with e; subst e; exact h2),d h.lgr (fun a e=>by injection e with e; subst e; exact h3),h.x0,h.xq,h.gen,h.lgs⟩,h1,h2,h3,h4⟩
def NewPost (P M:Int) (k:Nat) (f:Nat->Int) (w:World) (e:Ending) (w':World):Prop :=
 Below w.heap.size w w'/\((¬ GoodF P M k f/\e=.returned (.tuple #[.pointer none,.int .i64 1])) ∨
  (GoodF P M k f/\∃ g P' M',P=(P':Nat)/\M=(M':Nat)/\e=.returned (.tuple #[.pointer (some ⟨g,0,none⟩),.int .i64 0])/\w.heap.size<=g/\GFU w' w.heap.size w'.heap.size g P' M' (fun i=>(f i).toNat)))
theorem zbw (P M:Int) (A:Option Addr) (k c:Nat) (f:Nat->Int) (w:World) (hr:IntsR w w.heap.size A k f) :
  Calls Tryz.prog 74 #[.agg #[.int .i64 P,.int .i64 M,.slice A k c]] w (NewPost P M k f w):=by
 obtain ⟨w0,a5,hB,rf⟩:=zaz w (.int .i64 P) (.int .i64 M) (.slice A k c) 24
 go_enter Tryz.func74, Tryz.ntmps74
 go_upto_region 1 with fail
 rw [<-a5];clear a5
 have q0:=qc0 rf
 have q1:=qc1 rf
 have q2:=qc2 rf
 go_wp2_with fail
 refine (ze7 P M A k c f w0 (hr.on hB)).mono ?_
 rintro e w1 ⟨b,rfl,hb,kb⟩
 replace hB:=onS hB kb;replace rf:=zab rf kb
 have a3:=hid hb
 clear kb hb q0 q1 q2
 cases b
 ·have F:Hid (¬ GoodF P M k f):=fun h=>by have:=a3.out.2 h.shape; cases this
  go_wp2
  go_ret2
  exact ⟨hB,.inl ⟨F.out,rfl⟩⟩
 have hs:=a3.out.1 rfl
 clear a3
 obtain ⟨P,M,rfl,rfl,hf,a9⟩:=hs.fld
 have ac:Hid ((M=1/\k=0)∨(2<=M/\k=M)):=by
  obtain ⟨P',M',h1,h2,_,_,h5⟩:=hs
  obtain rfl:M=M':=by omega
  rcases h5 with h | ⟨a,b,_⟩
  ·exact .inl h
  ·exact .inr ⟨a,b⟩
 have HS:=hid hs
 have HF:=hid hf
 have am:Hid (M=1∨k=M):=a9
 have af:=hf.2.2.2
 have aw:=hf.2.2.1
 have ar:k<=8:=by rcases ac.out with h | h <;> omega
 obtain ⟨Q,hQ⟩:=exx (P ^ M)
 have ah:Hid (ordV (P:Int) (M:Int)=(Q:Int)):=by show _=_; rw [zct hf,hQ]
 rw [<-hQ] at af
 have HQ:=hid hQ
 clear hs hf a9 hQ
 have q0:=qc0 rf
 have q1:=qc1 rf
 have q2:=qc2 rf
 go_wp2_with fail
 refine (zbZ (P:Int) (M:Int) _).mono ?_
 rintro e w2 ⟨rfl,kb⟩
 rw [ah.out];replace hB:=onS hB kb;replace rf:=zab rf kb;clear kb q0 q1 q2
 have q0:=qc0 rf
 have q1:=qc1 rf
 have q2:=qc2 rf
 go_wp2_with fail
 refine (zb9 P M A k c (fun i=>(f i).toNat) Q w2 HF.out (HS.out.mod (hr.on hB)) am.out HQ.out).mono ?_
 rintro e w3 ⟨kb,hg⟩
 have HG:=hid hg
 have aa:=hB.size
 replace hB:=onS hB kb;replace rf:=zab rf kb;clear kb hg q0 q1 q2
 rcases HG.out with ⟨rfl,F⟩ | ⟨lv,x,rfl,O,N,J,hO⟩
 ·have F:Hid (¬ GoodF (P:Int) (M:Int) k f):=fun h=>by
   obtain ⟨x,h1,h2,h3⟩:=HS.out.good.1 h
   exact F x h1 (by rw [HQ.out]; exact h2) (by rw [HQ.out]; exact h3)
  have he:∀ w:World,(binOp .eql 22 (.slice none 0 0) (.slice none 0 0)).run Tryz.prog w=.ok (.bool true) w:=fun _=>rfl
  go_wp2
  go_ret2
  exact ⟨hB,.inl ⟨F.out,rfl⟩⟩
 have z:Hid (GoodF (P:Int) (M:Int) k f):=HS.out.good.2 ⟨x,O,by rw [<-HQ.out]; exact N,by rw [<-HQ.out]; exact J⟩
 obtain ⟨lb,lo,lc,rfl,_⟩:=hO.form (by omega)
 obtain ⟨L,hL⟩:=exx (Q - 1)
 obtain ⟨p,hp⟩:=exx (pwG (mulF P M fun i=>(f i).toNat) x)
 have E:PwOk Q p L:=by rw [hL,hp]; exact J.1
 have ab:=hid E
 have an:=hid J
 have HL:=hid hL
 have aj:=hid hp
 rw [<-hL,<-hp] at hO;rw [<-hL]
 have ay:0<L:=by omega
 have ax:L+1=Q:=by omega
 have HX:Hid (1<=x/\x<Q):=⟨O,N⟩
 clear hL J HG E hp O N
 have he:∀ w:World,(binOp .eql 22 (.slice (some ⟨lb,lo,none⟩) L lc) (.slice none 0 0)).run Tryz.prog w=.ok (.bool false) w:=fun _=>rfl
 go_wp2
 clear he
 have d:=hO.mono aa
 clear hO aa
 have X:=hid hr
 obtain ⟨w1,a4⟩:=exx w3
 rw [<-a4] at d hB rf ⊢;clear a4 hr
 have q0:=qc0 rf
 have q1:=qc1 rf
 have q2:=qc2 rf
 have a7:=fun W=>zaf (P:=Tryz.prog) 22 3 _ 8 Tryz.underlying22 Tryz.infoInt rfl (Q:Int) (by omega) (by omega) (by omega) W
 simp only [Int.toNat_natCast] at a7
 go_cut [6] (fun v6 wx=>∃ gg A7 c7 gl,v6=.pointer (some ⟨gg,0,none⟩)/\w.heap.size<=gg/\wx.rowIs gg 182 6 (gfCell (.int .i64 (P:Nat)) (.int .i64 (M:Nat)) (.slice A7 k c7) (.int .i64 (Q:Nat)) (.slice (some ⟨lb,lo,none⟩) L lc) (.slice (some ⟨gl,0,none⟩) Q Q))/\wx.rowIs gl 3 Q (fun _=>.int .i64 0)/\Own wx w.heap.size 3 1 (.slice A7 k c7) k (fun j _=>.int .i64 (f j))/\((Value.slice A7 k c7).ownBlock=none∨(Value.slice A7 k c7).ownBlock≠some gl)/\lb≠gl/\Own wx w.heap.size 3 1 (.slice (some ⟨lb,lo,none⟩) L lc) L (fun i _=>.int .i64 (p i:Nat))/\w.heap.size<=gl/\Below w.heap.size w wx)
 case rest =>
  obtain ⟨gg,A7,c7,gl,rfl,I,rg,rl,a8,m,G,hO,r,hB⟩:=hcut
  clear d rf q0 q1 q2 a7
  have B:=hid a8
  have al:=hid m
  have ak:=hid G
  have v:=hid hO
  have u:=hid rg
  have H:gl≠gg:=fun e=>by
   obtain ⟨cs,h1,_⟩:=rl
   obtain ⟨cs',h2,_⟩:=rg
   rw [e,h2] at h1
   injection h1 with h1
   injection h1 with _ h1
   exact absurd h1 (by decide)
  have ao:=hid H
  have HB:=hid hB
  have s:=hid (rl.congr (g:=fun t=>.int .i64 (lgP p 0 t:Nat)) fun t _=>rfl)
  clear a8 m G hO rg H hB rl
  go_wp2
  go_loopg [39] L (fun g2 iv wx=>∃ i:Nat,iv=.int .i64 (i:Nat)/\i<=L/\L<=i+g2/\Hid (wx.rowIs gl 3 Q (fun t=>.int .i64 (lgP p i t:Nat)))/\Hid (wx.rowIs gg 182 6 (gfCell (.int .i64 (P:Nat)) (.int .i64 (M:Nat)) (.slice A7 k c7) (.int .i64 (Q:Nat)) (.slice (some ⟨lb,lo,none⟩) L lc) (.slice (some ⟨gl,0,none⟩) Q Q)))/\Hid (Own wx w.heap.size 3 1 (.slice A7 k c7) k (fun j _=>.int .i64 (f j)))/\Hid (Own wx w.heap.size 3 1 (.slice (some ⟨lb,lo,none⟩) L lc) L (fun i _=>.int .i64 (p i:Nat)))/\Hid (Below w.heap.size w wx))
  case atStart=>exact ⟨0,rfl,by omega,by omega,s,u,B,v,HB⟩
  clear s u B v HB
  obtain ⟨i,rfl,hi,au,s,u,B,v,HB⟩:=hrel
  have av:(0:Int)<=(i:Int):=by omega
  by_cases hlt:i<L
  ·have R:(i:Int)<(L:Int):=by omega
   have a6:=ab.out.lt i hlt
   have x0:=(show IntsR wr wr.heap.size (some ⟨lb,lo,none⟩) L (fun i=>((p i:Nat):Int)) from v.out.rd rfl).here hlt
   obtain ⟨y,hy⟩:=exx (p i)
   rw [<-hy] at x0 a6
   have aq:(y:Int)<(Q:Int):=by omega
   have g5:=qc5 u.out
   have y0:=s.out.cell (i:=y) a6
   have z0:=s.out.frozen y
   have Y:=hid ((s.out.set y (.int .i64 (i:Nat))).congr (g:=fun t=>.int .i64 (lgP p (i+1) t:Nat)) fun t _=>by
    show (if t=y then Value.int .i64 (i:Nat) else .int .i64 (lgP p i t:Nat))=.int .i64 ((if t=p i then i else lgP p i t:Nat):Int)
    rw [<-hy]
    split <;> rfl)
   have Z:=hid (u.out.setOther (a:=⟨gl,y,none⟩) (by simpa using fun e=>ao.out e.symm) (.int .i64 (i:Nat)))
   have a1:=hid (B.out.setCell (a:=⟨gl,y,none⟩) (fun e=>al.out.elim (fun h=>by rw [h] at e; cases e) fun h=>h e) (.int .i64 (i:Nat)))
   have a0:=hid (v.out.setCell (a:=⟨gl,y,none⟩) (fun e=>ak.out (by injection e)) (.int .i64 (i:Nat)))
   have ap:=hid (HB.out.setCell (p:=⟨gl,y,none⟩) (by show w.heap.size<=gl; exact r) (.int .i64 (i:Nat)))
   clear hy s u B v HB
   go_wp2
   go_roundg (gk - 1)
   case measure=>omega
   case rel=>exact ⟨i+1,by go_num,by omega,by omega,Y,Z,a1,a0,ap⟩
  obtain rfl:i=L:=by omega
  have R:¬ (i:Int)<(i:Int):=by omega
  have a2:Hid (GFU wr w.heap.size wr.heap.size gg P M (fun i=>(f i).toNat)):=by
   have ag:=aj.out
   subst ag
   have ae:=HQ.out
   subst ae
   have U:=HL.out
   have ai:=z.out.field.1
   refine ⟨A7,k,c7,lb,lo,lc,gl,0,P ^ M,x,lgP (pwG (mulF P M fun i=>(f i).toNat) x) i,⟨ai,ac.out,?_,u.out.lt,?_,?_,?_,HX.out.1,HX.out.2,an.out,fun t ht=>?_⟩,I,(v.out.lt lb rfl).1,r,fun ad e=>(B.out.lt ad.block (by rw [e]; rfl)).1⟩
   ·rw [<-U]; exact u.out
   ·refine IntsR.congr (show IntsR wr wr.heap.size A7 k f from B.out.rd rfl) fun t ht=>?_
    obtain ⟨P',M',h1,h2,h3,h4,h5⟩:=z.out
    obtain rfl:M=M':=by omega
    rcases h5 with ⟨_,e⟩ | ⟨_,e,h,_⟩
    ·omega
    ·have:=h t (by omega); show f t=((f t).toNat:Int); omega
   ·rw [<-U]; exact v.out.rd rfl
   ·exact zbv s.out
   ·rw [<-U] at ht
    exact zjJ ab.out i (Nat.le_refl _) ht
  go_wp2
  go_ret2
  exact ⟨HB.out,.inr ⟨z.out,gg,P,M,rfl,rfl,rfl,I,a2.out⟩⟩
 refine wp_region_held_drew (S:=fun w'=>w'.cell? ⟨w.heap.size,0,none⟩=some (.int .i64 (P:Nat))/\w'.cell? ⟨w.heap.size,1,none⟩=some (.int .i64 (M:Nat))/\w'.cell? ⟨w.heap.size,2,none⟩=some (.slice A k c)) (by kernel_rfl) ⟨cellS (Below.refl _ _).drew (q0),cellS (Below.refl _ _).drew (q1),cellS (Below.refl _ _).drew (q2)⟩ (fun hHeld=>?_)
 obtain ⟨w2,hw,kb⟩:=dwx w1
 rw [<-hw] at hHeld ⊢;clear hw;replace rf:=zab rf kb;replace hB:=onS hB kb;replace d:=d.on kb;replace q0:=cellS kb q0;replace q1:=cellS kb q1;replace q2:=cellS kb q2;clear kb
 refine tkq 0 (h:=tkq 1 (h:=tkq 2 (h:=tkq 3 (h:=tkq 5 (h:=tkq 6 (h:=tkq 9 (h:=tkq 10 (h:=tkq 11 (h:=?_)))))))))
 refine rdq2 4 12 (h:=fun K hK=>?_) (h2:=fun K hK=>?_)
 focus
  go_simp
  obtain ⟨w3,hw⟩:=exx (World.alloc w2 (Obj.cells #[] 3))
  have kb:=alx hw
  have n0:w3.rowIs w2.heap.size 3 0 (fun _=>undef):=by rw [hw]; exact ⟨_,zah rfl,rfl,fun i hi=>absurd hi (by omega)⟩
  have q:w.heap.size<=w2.heap.size:=hB.size
  rw [<-hw];clear hw
  obtain ⟨b0,hb⟩:=exx w2.heap.size
  rw [<-hb] at n0 q ⊢;clear hb;replace rf:=zab rf kb;replace hB:=onS hB kb;replace d:=d.on kb;replace q0:=cellS kb q0;replace q1:=cellS kb q1;replace q2:=cellS kb q2;clear kb
  refine bkq hK ⟨q0,q1,q2⟩ (h:=fun hHeld=>?_)
  clear hK K
  refine rdq2 7 12 (h:=fun K hK=>?_) (h2:=fun K hK=>?_)
  focus
   have l:=X.out.on hB
   refine zbd (by rfl) (.tmp 26) (.tmp 28) (by rfl) (b0:=b0) (base:=w.heap.size) (by rfl) n0 q (A:=A) (c:=c) (n:=k) (f:=f) (by rfl) l (by omega) ?_
   intro v7 w4 o kb hat7
   clear hat7 l n0 q;replace rf:=zab rf kb;replace hB:=onS hB kb;replace d:=d.on kb;replace q0:=cellS kb q0;replace q1:=cellS kb q1;replace q2:=cellS kb q2;clear kb
   obtain ⟨A7,c7,D⟩:=Own.shape o
   subst D
   refine bkq hK ⟨q0,q1,q2⟩ (h:=fun hHeld=>?_)
   clear hK K
   refine tkq 8 (h:=?_)
   refine rdq 12 (h:=fun K hK=>?_)
   go_simp
   obtain ⟨w5,hw⟩:=exx (World.alloc w4 (Obj.cells (madeCells #[.int .i64 0] Q) 3))
   have kb:=alx hw
   have rl:w5.rowIs w4.heap.size 3 Q (fun _=>.int .i64 0):=by rw [hw]; exact World.rowIs_made w4 (.int .i64 0) Q 3
   have r:w.heap.size<=w4.heap.size:=hB.size
   have C:lb≠w4.heap.size:=by have:=(d.lt lb rfl).2; omega
   have m:(Value.slice A7 k c7).ownBlock=none∨(Value.slice A7 k c7).ownBlock≠some w4.heap.size:=zhG o
   rw [<-hw];clear hw
   obtain ⟨gl,hb⟩:=exx w4.heap.size
   rw [<-hb] at rl r C m ⊢;clear hb;replace rf:=zab rf kb;replace hB:=onS hB kb;replace d:=d.on kb;replace q0:=cellS kb q0;replace q1:=cellS kb q1;replace q2:=cellS kb q2;replace o:=o.on kb;clear kb
   refine bkq hK ⟨q0,q1,q2⟩ (h:=fun hHeld=>?_)
   clear hK K
   refine tkq 13 (h:=?_)
  rotate_left
  focus
   go_simp
   obtain ⟨w4,hw⟩:=exx (World.alloc w3 (Obj.cells (madeCells #[.int .i64 0] Q) 3))
   have kb:=alx hw
   have rl:w4.rowIs w3.heap.size 3 Q (fun _=>.int .i64 0):=by rw [hw]; exact World.rowIs_made w3 (.int .i64 0) Q 3
   have r:w.heap.size<=w3.heap.size:=hB.size
   have C:lb≠w3.heap.size:=by have:=(d.lt lb rfl).2; omega
   have V:b0≠w3.heap.size:=by have:=n0.lt; omega
   rw [<-hw];clear hw
   obtain ⟨gl,hb⟩:=exx w3.heap.size
   rw [<-hb] at rl r C V ⊢;clear hb;replace rf:=zab rf kb;replace n0:=zab n0 kb;replace hB:=onS hB kb;replace d:=d.on kb;replace q0:=cellS kb q0;replace q1:=cellS kb q1;replace q2:=cellS kb q2;clear kb
   refine bkq hK ⟨q0,q1,q2⟩ (h:=fun hHeld=>?_)
   clear hK K
   refine rdq 7 (h:=fun K hK=>?_)
   have l:=X.out.on hB
   have T:=rl.lt
   refine zbd (by rfl) (.tmp 26) (.tmp 28) (by rfl) (b0:=b0) (base:=w.heap.size) (by rfl) n0 q (A:=A) (c:=c) (n:=k) (f:=f) (by rfl) l (by omega) ?_
   intro v7 w5 o kb hat7
   have m:v7.ownBlock=none∨v7.ownBlock≠some gl:=.inr fun e=>by
    rcases hat7 with h | h <;> (rw [h] at e; injection e with e; omega)
   clear T;clear hat7 l n0 q;replace rf:=zab rf kb;replace rl:=zab rl kb;replace hB:=onS hB kb;replace d:=d.on kb;replace q0:=cellS kb q0;replace q1:=cellS kb q1;replace q2:=cellS kb q2;clear kb
   obtain ⟨A7,c7,D⟩:=Own.shape o
   subst D
   refine bkq hK ⟨q0,q1,q2⟩ (h:=fun hHeld=>?_)
   clear hK K
   refine tkq 8 (h:=tkq 13 (h:=?_))
  rotate_left
 rotate_left 2
 focus
  go_simp
  obtain ⟨w3,hw⟩:=exx (World.alloc w2 (Obj.cells (madeCells #[.int .i64 0] Q) 3))
  have kb:=alx hw
  have rl:w3.rowIs w2.heap.size 3 Q (fun _=>.int .i64 0):=by rw [hw]; exact World.rowIs_made w2 (.int .i64 0) Q 3
  have r:w.heap.size<=w2.heap.size:=hB.size
  have C:lb≠w2.heap.size:=by have:=(d.lt lb rfl).2; omega
  rw [<-hw];clear hw
  obtain ⟨gl,hb⟩:=exx w2.heap.size
  rw [<-hb] at rl r C ⊢;clear hb;replace rf:=zab rf kb;replace hB:=onS hB kb;replace d:=d.on kb;replace q0:=cellS kb q0;replace q1:=cellS kb q1;replace q2:=cellS kb q2;clear kb
  refine bkq hK ⟨q0,q1,q2⟩ (h:=fun hHeld=>?_)
  clear hK K
  refine rdq 4 (h:=fun K hK=>?_)
  go_simp
  obtain ⟨w4,hw⟩:=exx (World.alloc w3 (Obj.cells #[] 3))
  have kb:=alx hw
  have n0:w4.rowIs w3.heap.size 3 0 (fun _=>undef):=by rw [hw]; exact ⟨_,zah rfl,rfl,fun i hi=>absurd hi (by omega)⟩
  have q:w.heap.size<=w3.heap.size:=hB.size
  have V:w3.heap.size≠gl:=by have:=rl.lt; omega
  rw [<-hw];clear hw
  obtain ⟨b0,hb⟩:=exx w3.heap.size
  rw [<-hb] at n0 q V ⊢;clear hb;replace rf:=zab rf kb;replace rl:=zab rl kb;replace hB:=onS hB kb;replace d:=d.on kb;replace q0:=cellS kb q0;replace q1:=cellS kb q1;replace q2:=cellS kb q2;clear kb
  refine bkq hK ⟨q0,q1,q2⟩ (h:=fun hHeld=>?_)
  clear hK K
  refine rdq 7 (h:=fun K hK=>?_)
  have l:=X.out.on hB
  have T:=rl.lt
  refine zbd (by rfl) (.tmp 26) (.tmp 28) (by rfl) (b0:=b0) (base:=w.heap.size) (by rfl) n0 q (A:=A) (c:=c) (n:=k) (f:=f) (by rfl) l (by omega) ?_
  intro v7 w5 o kb hat7
  have m:v7.ownBlock=none∨v7.ownBlock≠some gl:=.inr fun e=>by
   rcases hat7 with h | h <;> (rw [h] at e; injection e with e; omega)
  clear T;clear hat7 l n0 q;replace rf:=zab rf kb;replace rl:=zab rl kb;replace hB:=onS hB kb;replace d:=d.on kb;replace q0:=cellS kb q0;replace q1:=cellS kb q1;replace q2:=cellS kb q2;clear kb
  obtain ⟨A7,c7,D⟩:=Own.shape o
  subst D
  refine bkq hK ⟨q0,q1,q2⟩ (h:=fun hHeld=>?_)
  clear hK K
  refine tkq 8 (h:=tkq 13 (h:=?_))
 rotate_left
 all_goals
  refine rdq 14 (h:=fun K hK=>?_)
  go_simp
  obtain ⟨w6,hw⟩:=exx (World.alloc w5 (Obj.cells #[.int .i64 (P:Nat),.int .i64 (M:Nat),.slice A7 k c7,.int .i64 (Q:Nat),.slice (some ⟨lb,lo,none⟩) L lc,.slice (some ⟨gl,0,none⟩) Q Q] 182))
  have kb:=alx hw
  have rg:w6.rowIs w5.heap.size 182 6 (gfCell (.int .i64 (P:Nat)) (.int .i64 (M:Nat)) (.slice A7 k c7) (.int .i64 (Q:Nat)) (.slice (some ⟨lb,lo,none⟩) L lc) (.slice (some ⟨gl,0,none⟩) Q Q)):=by rw [hw]; exact zhF
  have I:w.heap.size<=w5.heap.size:=hB.size
  rw [<-hw];clear hw
  obtain ⟨gg,hb⟩:=exx w5.heap.size
  rw [<-hb] at rg I ⊢;clear hb;replace rf:=zab rf kb;replace rl:=zab rl kb;replace hB:=onS hB kb;replace d:=d.on kb;replace q0:=cellS kb q0;replace q1:=cellS kb q1;replace q2:=cellS kb q2;replace o:=o.on kb;clear kb
  refine bkq hK ⟨q0,q1,q2⟩ (h:=fun hHeld=>?_)
  clear hK K
  refine tkq 15 (h:=?_)
  refine wpAnyH_done (by kernel_rfl) ?_ _
  clear hHeld
  go_wp2
  go_meet
  exact ⟨gg,A7,c7,gl,rfl,I,rg,rl,o,m,C,d,r,hB⟩
end Go.Proofs.YtgekjfpapmlndaaGreat