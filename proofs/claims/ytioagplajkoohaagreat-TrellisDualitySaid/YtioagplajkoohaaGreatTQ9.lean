/- Merged texts of a claim: GfNew, DTab, MAdd, MCl, MEach. -/
import Derived.Test.YtioagplajkoohaaGreatTQ1
import Derived.Test.YtioagplajkoohaaGreatTQ5
import Derived.Test.YtioagplajkoohaaGreatTQ6
import Derived.Test.YtioagplajkoohaaGreatTQ8
namespace Go.Proofs.YtioagplajkoohaaGreat
set_option maxRecDepth 100000
set_option maxHeartbeats 32000000
open KA KB KC KE KF
open Go.RowKit
def lgP (p:Nat->Nat):Nat->Nat->Nat
 | 0,_=>0
 | n+1,t=>if t=p n then n else lgP p n t
theorem zjx {q:Nat} {p:Nat->Nat} {N i:Nat} (h:PwOk q p N):∀ n,n<=N->i<n->lgP p n (p i)=i
 | 0,_,hi=>by omega
 | n + 1, hn, hi => by
  show (if p i=p n then n else lgP p n (p i))=i
  by_cases e:i=n
  ·subst e; rw [if_pos rfl]
  ·rw [if_neg (h.inj i n (by omega) (by omega))]
   exact zjx h n (by omega) (by omega)
theorem zdI {w:World} {a b c d e f:Value} {T:TypeId}:(w.alloc (.cells #[a,b,c,d,e,f] T)).rowIs w.heap.size T 6 (gfCell a b c d e f) :=
 ⟨_,zaw rfl,rfl,fun i hi=>by
  match i,hi with
  | 0,_=>rfl
  | 1,_=>rfl
  | 2,_=>rfl
  | 3,_=>rfl
  | 4,_=>rfl
  | 5,_=>rfl⟩
theorem zhC {w:World} {base e s n:Nat} {v:Value} {f:Nat->Nat->Value} (h:Own w base e s v n f):v.ownBlock=none∨v.ownBlock≠some w.heap.size:=.inr fun e=>by have:=(h.lt _ e).2; omega
def GFU (w:World) (base B g P M:Nat) (m:Nat->Nat):Prop:=∃ A k c eb eo ec lb lo lc x lg,GFr w B g P M m A k c eb eo ec lb lo lc x lg/\base<=g/\base<=eb/\base<=lb/\∀ ad,A=some ad->base<=ad.block
theorem GFU.gf {w:World} {base B g P M:Nat} {m:Nat->Nat} (h:GFU w base B g P M m):GF w B g P M m:=by
 obtain ⟨A,k,c,eb,eo,ec,lb,lo,lc,x,lg,h,_⟩:=h
 exact ⟨A,k,c,eb,eo,ec,lb,lo,lc,x,lg,h⟩
theorem GFU.grown {w w':World} {base g P M b:Nat} {m:Nat->Nat} (h:GFU w base w.heap.size g P M m) (hg:w.grownBy w' (some b)) (hb:b<base):GFU w' base w'.heap.size g P M m:=by
 obtain ⟨A,k,c,eb,eo,ec,lb,lo,lc,x,lg,h,h1,h2,h3,h4⟩:=h
 have key:∀ {ad:Option Addr} {n:Nat} {f:Nat->Int},IntsR w w.heap.size ad n f->(∀ a,ad=some a->base<=a.block)->IntsR w' w'.heap.size ad n f:=fun {ad n f} hr ha i hi=>by
  obtain ⟨q,o,e,hq,hc⟩:=hr i hi
  refine ⟨q,o,e,Nat.lt_of_lt_of_le hq hg.size,fun j hj=>?_⟩
  have hq2:base<=q:=ha _ e
  exact (World.cell?_of_block (w:=w) (a:=⟨q,o+i*1+j,none⟩) (hg.block q hq (by intro e; injection e with e; omega))).trans (hc j hj)
 exact ⟨A,k,c,eb,eo,ec,lb,lo,lc,x,lg,⟨h.ok,h.km,h.row.of_block (hg.block g h.row.lt (by intro e; injection e with e; omega)),Nat.lt_of_lt_of_le h.lt hg.size,key h.md h4,key h.ex (fun a e=>by injection e with e; subst e; exact h2),key h.lgr (fun a e=>by injection e with e; subst e; exact h3),h.x0,h.xq,h.gen,h.lgs⟩,h1,h2,h3,h4⟩
def NewPost (P M:Int) (k:Nat) (f:Nat->Int) (w:World) (e:Ending) (w':World):Prop :=
 Below w.heap.size w w'/\((¬ GoodF P M k f/\e=.returned (.tuple #[.pointer none,.int .i64 1])) ∨
  (GoodF P M k f/\∃ g P' M',P=(P':Nat)/\M=(M':Nat)/\e=.returned (.tuple #[.pointer (some ⟨g,0,none⟩),.int .i64 0])/\w.heap.size<=g/\GFU w' w.heap.size w'.heap.size g P' M' (fun i=>(f i).toNat)))
theorem zdJ (P M:Int) (A:Option Addr) (k c:Nat) (f:Nat->Int) (w:World) (hr:IntsR w w.heap.size A k f) :
  Calls Tryz.prog 64 #[.agg #[.int .i64 P,.int .i64 M,.slice A k c]] w (NewPost P M k f w):=by
 have hB:Below w.heap.size w (w.alloc (.cells #[.int .i64 P,.int .i64 M,.slice A k c] 24)):=(Below.refl _ _).alloc (Nat.le_refl _) _
 have rf:=zad (w:=w) (a:=.int .i64 P) (b:=.int .i64 M) (c:=.slice A k c) (T := 24)
 obtain ⟨w0,hw0⟩:∃ W,W=w.alloc (.cells #[.int .i64 P,.int .i64 M,.slice A k c] 24):=⟨_,rfl⟩
 rw [<-hw0] at hB rf
 go_enter Tryz.func64, Tryz.ntmps64
 go_upto_region 1 with fail
 rw [<-hw0];clear hw0
 have q0:=qc0 rf
 have q1:=qc1 rf
 have q2:=qc2 rf
 go_wp2_with fail
 refine (zfk P M A k c f w0 (hr.on hB)).mono ?_
 rintro e w1 ⟨b,rfl,hb,kb⟩
 replace hB:=onS hB kb;replace rf:=zaa rf kb
 have HBS:=hid hb
 clear kb hb q0 q1 q2
 cases b
 ·have hno:Hid (¬ GoodF P M k f):=fun h=>by have:=HBS.out.2 h.shape; cases this
  go_wp2
  go_ret2
  exact ⟨hB,.inl ⟨hno.out,rfl⟩⟩
 ·have hs:=HBS.out.1 rfl
  clear HBS
  obtain ⟨P,M,rfl,rfl,hf,hkM⟩:=hs.fld
  have HKE:Hid ((M=1/\k=0)∨(2<=M/\k=M)):=by
   obtain ⟨P',M',h1,h2,_,_,h5⟩:=hs
   obtain rfl:M=M':=by omega
   rcases h5 with h | ⟨a,b,_⟩
   ·exact .inl h
   ·exact .inr ⟨a,b⟩
  have HS:=hid hs
  have HF:=hid hf
  have HKM:Hid (M=1∨k=M):=hkM
  have hq6:=hf.2.2.2
  have hM8:=hf.2.2.1
  have hk8:k<=8:=by rcases HKE.out with h | h <;> omega
  obtain ⟨Q,hQ⟩:∃ Q,Q=P ^ M:=⟨_,rfl⟩
  have hov:Hid (ordV (P:Int) (M:Int)=(Q:Int)):=by show _=_; rw [zbS hf,hQ]
  rw [<-hQ] at hq6
  have HQ:=hid hQ
  clear hs hf hkM hQ
  have q0:=qc0 rf
  have q1:=qc1 rf
  have q2:=qc2 rf
  go_wp2_with fail
  refine (zcj (P:Int) (M:Int) _).mono ?_
  rintro e w2 ⟨rfl,kb⟩
  rw [hov.out];replace hB:=onS hB kb;replace rf:=zaa rf kb;clear kb q0 q1 q2
  have q0:=qc0 rf
  have q1:=qc1 rf
  have q2:=qc2 rf
  go_wp2_with fail
  refine (zcp P M A k c (fun i=>(f i).toNat) Q w2 HF.out (HS.out.mod (hr.on hB)) HKM.out HQ.out).mono ?_
  rintro e w3 ⟨kb,hg⟩
  have HG:=hid hg
  have hB2:=hB.size
  replace hB:=onS hB kb;replace rf:=zaa rf kb;clear kb hg q0 q1 q2
  rcases HG.out with ⟨rfl,hno⟩ | ⟨lv,x,rfl,hx1,hxq,hgx,hO⟩
  ·have hno:Hid (¬ GoodF (P:Int) (M:Int) k f):=fun h=>by
    obtain ⟨x,h1,h2,h3⟩:=HS.out.good.1 h
    exact hno x h1 (by rw [HQ.out]; exact h2) (by rw [HQ.out]; exact h3)
   have he:∀ w:World,(binOp .eql 22 (.slice none 0 0) (.slice none 0 0)).run Tryz.prog w=.ok (.bool true) w:=fun _=>rfl
   go_wp2
   go_ret2
   exact ⟨hB,.inl ⟨hno.out,rfl⟩⟩
  ·have hyes:Hid (GoodF (P:Int) (M:Int) k f):=HS.out.good.2 ⟨x,hx1,by rw [<-HQ.out]; exact hxq,by rw [<-HQ.out]; exact hgx⟩
   obtain ⟨lb,lo,lc,rfl,_⟩:=hO.form (by omega)
   obtain ⟨L,hL⟩:∃ L,L=Q - 1:=⟨_,rfl⟩
   obtain ⟨p,hp⟩:∃ p,p=pwG (mulF P M fun i=>(f i).toNat) x:=⟨_,rfl⟩
   have hpok:PwOk Q p L:=by rw [hL,hp]; exact hgx.1
   have HPK:=hid hpok
   have HGX:=hid hgx
   have HL:=hid hL
   have HPE:=hid hp
   rw [<-hL,<-hp] at hO;rw [<-hL]
   have hL0:0<L:=by omega
   have hLQ:L+1=Q:=by omega
   have HX:Hid (1<=x/\x<Q):=⟨hx1,hxq⟩
   clear hL hgx HG hpok hp hx1 hxq
   have he:∀ w:World,(binOp .eql 22 (.slice (some ⟨lb,lo,none⟩) L lc) (.slice none 0 0)).run Tryz.prog w=.ok (.bool false) w:=fun _=>rfl
   go_wp2
   clear he
   have hO3:=hO.mono hB2
   clear hO hB2
   have HRR:=hid hr
   obtain ⟨w1,hw1⟩:∃ W,W=w3:=⟨_,rfl⟩
   rw [<-hw1] at hO3 hB rf ⊢;clear hw1 hr
   have q0:=qc0 rf
   have q1:=qc1 rf
   have q2:=qc2 rf
   have hmk:=fun W=>zaf (P:=Tryz.prog) 22 3 _ 8 Tryz.underlying22 Tryz.infoInt rfl (Q:Int) (by omega) (by omega) (by omega) W
   simp only [Int.toNat_natCast] at hmk
   go_cut [6] (fun v6 wx=>∃ gg A7 c7 gl,v6=.pointer (some ⟨gg,0,none⟩)/\w.heap.size<=gg/\wx.rowIs gg 178 6 (gfCell (.int .i64 (P:Nat)) (.int .i64 (M:Nat)) (.slice A7 k c7) (.int .i64 (Q:Nat)) (.slice (some ⟨lb,lo,none⟩) L lc) (.slice (some ⟨gl,0,none⟩) Q Q))/\wx.rowIs gl 3 Q (fun _=>.int .i64 0)/\Own wx w.heap.size 3 1 (.slice A7 k c7) k (fun j _=>.int .i64 (f j))/\((Value.slice A7 k c7).ownBlock=none∨(Value.slice A7 k c7).ownBlock≠some gl)/\lb≠gl/\Own wx w.heap.size 3 1 (.slice (some ⟨lb,lo,none⟩) L lc) L (fun i _=>.int .i64 (p i:Nat))/\w.heap.size<=gl/\Below w.heap.size w wx)
   case first =>
    refine wp_region_held_drew (S:=fun w'=>w'.cell? ⟨w.heap.size,0,none⟩=some (.int .i64 (P:Nat))/\w'.cell? ⟨w.heap.size,1,none⟩=some (.int .i64 (M:Nat))/\w'.cell? ⟨w.heap.size,2,none⟩=some (.slice A k c)) (by kernel_rfl) ⟨cellS (Below.refl _ _).drew (q0),cellS (Below.refl _ _).drew (q1),cellS (Below.refl _ _).drew (q2)⟩ (fun hHeld=>?_)
    obtain ⟨w2,hw⟩:∃ W,W=World.drew w1:=⟨_,rfl⟩
    have kb:Below w1.heap.size w1 w2:=by rw [hw]; exact (Below.refl _ _).drew
    rw [<-hw] at hHeld ⊢;clear hw;replace rf:=zaa rf kb;replace hB:=onS hB kb;replace hO3:=hO3.on kb;replace q0:=cellS kb q0;replace q1:=cellS kb q1;replace q2:=cellS kb q2;clear kb
    refine tkq 0 (h:=tkq 1 (h:=tkq 2 (h:=tkq 3 (h:=tkq 5 (h:=tkq 6 (h:=tkq 9 (h:=tkq 10 (h:=tkq 11 (h:=?_)))))))))
    refine rdq2 4 12 (h:=fun K hK=>?_) (h2:=fun K hK=>?_)
    ·go_simp
     obtain ⟨w3,hw⟩:∃ W,W=World.alloc w2 (Obj.cells #[] 3):=⟨_,rfl⟩
     have kb:Below w2.heap.size w2 w3:=by rw [hw]; exact (Below.refl _ _).alloc (Nat.le_refl _) _
     have n0:w3.rowIs w2.heap.size 3 0 (fun _=>undef):=by rw [hw]; exact ⟨_,zaw rfl,rfl,fun i hi=>absurd hi (by omega)⟩
     have hn0:w.heap.size<=w2.heap.size:=hB.size
     rw [<-hw];clear hw
     obtain ⟨b0,hb⟩:∃ b,b=w2.heap.size:=⟨_,rfl⟩
     rw [<-hb] at n0 hn0 ⊢;clear hb;replace rf:=zaa rf kb;replace hB:=onS hB kb;replace hO3:=hO3.on kb;replace q0:=cellS kb q0;replace q1:=cellS kb q1;replace q2:=cellS kb q2;clear kb
     refine bkq hK ⟨q0,q1,q2⟩ (h:=fun hHeld=>?_)
     clear hK K
     refine rdq2 7 12 (h:=fun K hK=>?_) (h2:=fun K hK=>?_)
     ·have hsrc:=HRR.out.on hB
      refine zbo (by rfl) (.tmp 26) (.tmp 28) (by rfl) (b0:=b0) (base:=w.heap.size) (by rfl) n0 hn0 (A:=A) (c:=c) (n:=k) (f:=f) (by rfl) hsrc (by omega) ?_
      intro v7 w4 hv7 kb hat7
      clear hat7 hsrc n0 hn0;replace rf:=zaa rf kb;replace hB:=onS hB kb;replace hO3:=hO3.on kb;replace q0:=cellS kb q0;replace q1:=cellS kb q1;replace q2:=cellS kb q2;clear kb
      obtain ⟨A7,c7,hsh⟩:=Own.shape hv7
      subst hsh
      refine bkq hK ⟨q0,q1,q2⟩ (h:=fun hHeld=>?_)
      clear hK K
      refine tkq 8 (h:=?_)
      refine rdq 12 (h:=fun K hK=>?_)
      go_simp
      obtain ⟨w5,hw⟩:∃ W,W=World.alloc w4 (Obj.cells (madeCells #[.int .i64 0] Q) 3):=⟨_,rfl⟩
      have kb:Below w4.heap.size w4 w5:=by rw [hw]; exact (Below.refl _ _).alloc (Nat.le_refl _) _
      have rl:w5.rowIs w4.heap.size 3 Q (fun _=>.int .i64 0):=by rw [hw]; exact World.rowIs_made w4 (.int .i64 0) Q 3
      have hgl:w.heap.size<=w4.heap.size:=hB.size
      have hel:lb≠w4.heap.size:=by have:=(hO3.lt lb rfl).2; omega
      have hne7:(Value.slice A7 k c7).ownBlock=none∨(Value.slice A7 k c7).ownBlock≠some w4.heap.size:=zhC hv7
      rw [<-hw];clear hw
      obtain ⟨gl,hb⟩:∃ b,b=w4.heap.size:=⟨_,rfl⟩
      rw [<-hb] at rl hgl hel hne7 ⊢;clear hb;replace rf:=zaa rf kb;replace hB:=onS hB kb;replace hO3:=hO3.on kb;replace q0:=cellS kb q0;replace q1:=cellS kb q1;replace q2:=cellS kb q2;replace hv7:=hv7.on kb;clear kb
      refine bkq hK ⟨q0,q1,q2⟩ (h:=fun hHeld=>?_)
      clear hK K
      refine tkq 13 (h:=?_)
      refine rdq 14 (h:=fun K hK=>?_)
      go_simp
      obtain ⟨w6,hw⟩:∃ W,W=World.alloc w5 (Obj.cells #[.int .i64 (P:Nat),.int .i64 (M:Nat),.slice A7 k c7,.int .i64 (Q:Nat),.slice (some ⟨lb,lo,none⟩) L lc,.slice (some ⟨gl,0,none⟩) Q Q] 178):=⟨_,rfl⟩
      have kb:Below w5.heap.size w5 w6:=by rw [hw]; exact (Below.refl _ _).alloc (Nat.le_refl _) _
      have rg:w6.rowIs w5.heap.size 178 6 (gfCell (.int .i64 (P:Nat)) (.int .i64 (M:Nat)) (.slice A7 k c7) (.int .i64 (Q:Nat)) (.slice (some ⟨lb,lo,none⟩) L lc) (.slice (some ⟨gl,0,none⟩) Q Q)):=by rw [hw]; exact zdI
      have hgg:w.heap.size<=w5.heap.size:=hB.size
      rw [<-hw];clear hw
      obtain ⟨gg,hb⟩:∃ b,b=w5.heap.size:=⟨_,rfl⟩
      rw [<-hb] at rg hgg ⊢;clear hb;replace rf:=zaa rf kb;replace rl:=zaa rl kb;replace hB:=onS hB kb;replace hO3:=hO3.on kb;replace q0:=cellS kb q0;replace q1:=cellS kb q1;replace q2:=cellS kb q2;replace hv7:=hv7.on kb;clear kb
      refine bkq hK ⟨q0,q1,q2⟩ (h:=fun hHeld=>?_)
      clear hK K
      refine tkq 15 (h:=?_)
      refine wpAnyH_done (by kernel_rfl) ?_ _
      clear hHeld
      go_wp2
      go_meet
      exact ⟨gg,A7,c7,gl,rfl,hgg,rg,rl,hv7,hne7,hel,hO3,hgl,hB⟩
     ·go_simp
      obtain ⟨w4,hw⟩:∃ W,W=World.alloc w3 (Obj.cells (madeCells #[.int .i64 0] Q) 3):=⟨_,rfl⟩
      have kb:Below w3.heap.size w3 w4:=by rw [hw]; exact (Below.refl _ _).alloc (Nat.le_refl _) _
      have rl:w4.rowIs w3.heap.size 3 Q (fun _=>.int .i64 0):=by rw [hw]; exact World.rowIs_made w3 (.int .i64 0) Q 3
      have hgl:w.heap.size<=w3.heap.size:=hB.size
      have hel:lb≠w3.heap.size:=by have:=(hO3.lt lb rfl).2; omega
      have hbl:b0≠w3.heap.size:=by have:=n0.lt; omega
      rw [<-hw];clear hw
      obtain ⟨gl,hb⟩:∃ b,b=w3.heap.size:=⟨_,rfl⟩
      rw [<-hb] at rl hgl hel hbl ⊢;clear hb;replace rf:=zaa rf kb;replace n0:=zaa n0 kb;replace hB:=onS hB kb;replace hO3:=hO3.on kb;replace q0:=cellS kb q0;replace q1:=cellS kb q1;replace q2:=cellS kb q2;clear kb
      refine bkq hK ⟨q0,q1,q2⟩ (h:=fun hHeld=>?_)
      clear hK K
      refine rdq 7 (h:=fun K hK=>?_)
      have hsrc:=HRR.out.on hB
      have hll:=rl.lt
      refine zbo (by rfl) (.tmp 26) (.tmp 28) (by rfl) (b0:=b0) (base:=w.heap.size) (by rfl) n0 hn0 (A:=A) (c:=c) (n:=k) (f:=f) (by rfl) hsrc (by omega) ?_
      intro v7 w5 hv7 kb hat7
      have hne7:v7.ownBlock=none∨v7.ownBlock≠some gl:=.inr fun e=>by
       rcases hat7 with h | h <;> (rw [h] at e; injection e with e; omega)
      clear hll;clear hat7 hsrc n0 hn0;replace rf:=zaa rf kb;replace rl:=zaa rl kb;replace hB:=onS hB kb;replace hO3:=hO3.on kb;replace q0:=cellS kb q0;replace q1:=cellS kb q1;replace q2:=cellS kb q2;clear kb
      obtain ⟨A7,c7,hsh⟩:=Own.shape hv7
      subst hsh
      refine bkq hK ⟨q0,q1,q2⟩ (h:=fun hHeld=>?_)
      clear hK K
      refine tkq 8 (h:=tkq 13 (h:=?_))
      refine rdq 14 (h:=fun K hK=>?_)
      go_simp
      obtain ⟨w6,hw⟩:∃ W,W=World.alloc w5 (Obj.cells #[.int .i64 (P:Nat),.int .i64 (M:Nat),.slice A7 k c7,.int .i64 (Q:Nat),.slice (some ⟨lb,lo,none⟩) L lc,.slice (some ⟨gl,0,none⟩) Q Q] 178):=⟨_,rfl⟩
      have kb:Below w5.heap.size w5 w6:=by rw [hw]; exact (Below.refl _ _).alloc (Nat.le_refl _) _
      have rg:w6.rowIs w5.heap.size 178 6 (gfCell (.int .i64 (P:Nat)) (.int .i64 (M:Nat)) (.slice A7 k c7) (.int .i64 (Q:Nat)) (.slice (some ⟨lb,lo,none⟩) L lc) (.slice (some ⟨gl,0,none⟩) Q Q)):=by rw [hw]; exact zdI
      have hgg:w.heap.size<=w5.heap.size:=hB.size
      rw [<-hw];clear hw
      obtain ⟨gg,hb⟩:∃ b,b=w5.heap.size:=⟨_,rfl⟩
      rw [<-hb] at rg hgg ⊢;clear hb;replace rf:=zaa rf kb;replace rl:=zaa rl kb;replace hB:=onS hB kb;replace hO3:=hO3.on kb;replace q0:=cellS kb q0;replace q1:=cellS kb q1;replace q2:=cellS kb q2;replace hv7:=hv7.on kb;clear kb
      refine bkq hK ⟨q0,q1,q2⟩ (h:=fun hHeld=>?_)
      clear hK K
      refine tkq 15 (h:=?_)
      refine wpAnyH_done (by kernel_rfl) ?_ _
      clear hHeld
      go_wp2
      go_meet
      exact ⟨gg,A7,c7,gl,rfl,hgg,rg,rl,hv7,hne7,hel,hO3,hgl,hB⟩
    ·go_simp
     obtain ⟨w3,hw⟩:∃ W,W=World.alloc w2 (Obj.cells (madeCells #[.int .i64 0] Q) 3):=⟨_,rfl⟩
     have kb:Below w2.heap.size w2 w3:=by rw [hw]; exact (Below.refl _ _).alloc (Nat.le_refl _) _
     have rl:w3.rowIs w2.heap.size 3 Q (fun _=>.int .i64 0):=by rw [hw]; exact World.rowIs_made w2 (.int .i64 0) Q 3
     have hgl:w.heap.size<=w2.heap.size:=hB.size
     have hel:lb≠w2.heap.size:=by have:=(hO3.lt lb rfl).2; omega
     rw [<-hw];clear hw
     obtain ⟨gl,hb⟩:∃ b,b=w2.heap.size:=⟨_,rfl⟩
     rw [<-hb] at rl hgl hel ⊢;clear hb;replace rf:=zaa rf kb;replace hB:=onS hB kb;replace hO3:=hO3.on kb;replace q0:=cellS kb q0;replace q1:=cellS kb q1;replace q2:=cellS kb q2;clear kb
     refine bkq hK ⟨q0,q1,q2⟩ (h:=fun hHeld=>?_)
     clear hK K
     refine rdq 4 (h:=fun K hK=>?_)
     go_simp
     obtain ⟨w4,hw⟩:∃ W,W=World.alloc w3 (Obj.cells #[] 3):=⟨_,rfl⟩
     have kb:Below w3.heap.size w3 w4:=by rw [hw]; exact (Below.refl _ _).alloc (Nat.le_refl _) _
     have n0:w4.rowIs w3.heap.size 3 0 (fun _=>undef):=by rw [hw]; exact ⟨_,zaw rfl,rfl,fun i hi=>absurd hi (by omega)⟩
     have hn0:w.heap.size<=w3.heap.size:=hB.size
     have hbl:w3.heap.size≠gl:=by have:=rl.lt; omega
     rw [<-hw];clear hw
     obtain ⟨b0,hb⟩:∃ b,b=w3.heap.size:=⟨_,rfl⟩
     rw [<-hb] at n0 hn0 hbl ⊢;clear hb;replace rf:=zaa rf kb;replace rl:=zaa rl kb;replace hB:=onS hB kb;replace hO3:=hO3.on kb;replace q0:=cellS kb q0;replace q1:=cellS kb q1;replace q2:=cellS kb q2;clear kb
     refine bkq hK ⟨q0,q1,q2⟩ (h:=fun hHeld=>?_)
     clear hK K
     refine rdq 7 (h:=fun K hK=>?_)
     have hsrc:=HRR.out.on hB
     have hll:=rl.lt
     refine zbo (by rfl) (.tmp 26) (.tmp 28) (by rfl) (b0:=b0) (base:=w.heap.size) (by rfl) n0 hn0 (A:=A) (c:=c) (n:=k) (f:=f) (by rfl) hsrc (by omega) ?_
     intro v7 w5 hv7 kb hat7
     have hne7:v7.ownBlock=none∨v7.ownBlock≠some gl:=.inr fun e=>by
      rcases hat7 with h | h <;> (rw [h] at e; injection e with e; omega)
     clear hll;clear hat7 hsrc n0 hn0;replace rf:=zaa rf kb;replace rl:=zaa rl kb;replace hB:=onS hB kb;replace hO3:=hO3.on kb;replace q0:=cellS kb q0;replace q1:=cellS kb q1;replace q2:=cellS kb q2;clear kb
     obtain ⟨A7,c7,hsh⟩:=Own.shape hv7
     subst hsh
     refine bkq hK ⟨q0,q1,q2⟩ (h:=fun hHeld=>?_)
     clear hK K
     refine tkq 8 (h:=tkq 13 (h:=?_))
     refine rdq 14 (h:=fun K hK=>?_)
     go_simp
     obtain ⟨w6,hw⟩:∃ W,W=World.alloc w5 (Obj.cells #[.int .i64 (P:Nat),.int .i64 (M:Nat),.slice A7 k c7,.int .i64 (Q:Nat),.slice (some ⟨lb,lo,none⟩) L lc,.slice (some ⟨gl,0,none⟩) Q Q] 178):=⟨_,rfl⟩
     have kb:Below w5.heap.size w5 w6:=by rw [hw]; exact (Below.refl _ _).alloc (Nat.le_refl _) _
     have rg:w6.rowIs w5.heap.size 178 6 (gfCell (.int .i64 (P:Nat)) (.int .i64 (M:Nat)) (.slice A7 k c7) (.int .i64 (Q:Nat)) (.slice (some ⟨lb,lo,none⟩) L lc) (.slice (some ⟨gl,0,none⟩) Q Q)):=by rw [hw]; exact zdI
     have hgg:w.heap.size<=w5.heap.size:=hB.size
     rw [<-hw];clear hw
     obtain ⟨gg,hb⟩:∃ b,b=w5.heap.size:=⟨_,rfl⟩
     rw [<-hb] at rg hgg ⊢;clear hb;replace rf:=zaa rf kb;replace rl:=zaa rl kb;replace hB:=onS hB kb;replace hO3:=hO3.on kb;replace q0:=cellS kb q0;replace q1:=cellS kb q1;replace q2:=cellS kb q2;replace hv7:=hv7.on kb;clear kb
     refine bkq hK ⟨q0,q1,q2⟩ (h:=fun hHeld=>?_)
     clear hK K
     refine tkq 15 (h:=?_)
     refine wpAnyH_done (by kernel_rfl) ?_ _
     clear hHeld
     go_wp2
     go_meet
     exact ⟨gg,A7,c7,gl,rfl,hgg,rg,rl,hv7,hne7,hel,hO3,hgl,hB⟩
   case rest =>
    obtain ⟨gg,A7,c7,gl,rfl,hgg,rg,rl,hm7,hne7,hnel,hO,hgl,hB⟩:=hcut
    clear hO3 rf q0 q1 q2 hmk
    have HM7:=hid hm7
    have HNE:=hid hne7
    have HNL:=hid hnel
    have HOE:=hid hO
    have HRG:=hid rg
    have hglg:gl≠gg:=fun e=>by
     obtain ⟨cs,h1,_⟩:=rl
     obtain ⟨cs',h2,_⟩:=rg
     rw [e,h2] at h1
     injection h1 with h1
     injection h1 with _ h1
     exact absurd h1 (by decide)
    have HGL:=hid hglg
    have HB:=hid hB
    have HRL:=hid (rl.congr (g:=fun t=>.int .i64 (lgP p 0 t:Nat)) fun t _=>rfl)
    clear hm7 hne7 hnel hO rg hglg hB rl
    go_wp2
    go_loopg [39] L (fun g2 iv wx=>∃ i:Nat,iv=.int .i64 (i:Nat)/\i<=L/\L<=i+g2/\Hid (wx.rowIs gl 3 Q (fun t=>.int .i64 (lgP p i t:Nat)))/\Hid (wx.rowIs gg 178 6 (gfCell (.int .i64 (P:Nat)) (.int .i64 (M:Nat)) (.slice A7 k c7) (.int .i64 (Q:Nat)) (.slice (some ⟨lb,lo,none⟩) L lc) (.slice (some ⟨gl,0,none⟩) Q Q)))/\Hid (Own wx w.heap.size 3 1 (.slice A7 k c7) k (fun j _=>.int .i64 (f j)))/\Hid (Own wx w.heap.size 3 1 (.slice (some ⟨lb,lo,none⟩) L lc) L (fun i _=>.int .i64 (p i:Nat)))/\Hid (Below w.heap.size w wx))
    case atStart=>exact ⟨0,rfl,by omega,by omega,HRL,HRG,HM7,HOE,HB⟩
    case round =>
     clear HRL HRG HM7 HOE HB
     obtain ⟨i,rfl,hi,hig,HRL,HRG,HM7,HOE,HB⟩:=hrel
     have hi0:(0:Int)<=(i:Int):=by omega
     by_cases hlt:i<L
     ·have hlt':(i:Int)<(L:Int):=by omega
      have hpq:=HPK.out.lt i hlt
      have x0:=(show IntsR wr wr.heap.size (some ⟨lb,lo,none⟩) L (fun i=>((p i:Nat):Int)) from HOE.out.rd rfl).here hlt
      obtain ⟨y,hy⟩:∃ y,y=p i:=⟨_,rfl⟩
      rw [<-hy] at x0 hpq
      have hyq:(y:Int)<(Q:Int):=by omega
      have g5:=qc5 HRG.out
      have y0:=HRL.out.cell (i:=y) hpq
      have z0:=HRL.out.frozen y
      have HRL2:=hid ((HRL.out.set y (.int .i64 (i:Nat))).congr (g:=fun t=>.int .i64 (lgP p (i+1) t:Nat)) fun t _=>by
       show (if t=y then Value.int .i64 (i:Nat) else .int .i64 (lgP p i t:Nat))=.int .i64 ((if t=p i then i else lgP p i t:Nat):Int)
       rw [<-hy]
       split <;> rfl)
      have HRG2:=hid (HRG.out.setOther (a:=⟨gl,y,none⟩) (by simpa using fun e=>HGL.out e.symm) (.int .i64 (i:Nat)))
      have HM72:=hid (HM7.out.setCell (a:=⟨gl,y,none⟩) (fun e=>HNE.out.elim (fun h=>by rw [h] at e; cases e) fun h=>h e) (.int .i64 (i:Nat)))
      have HOE2:=hid (HOE.out.setCell (a:=⟨gl,y,none⟩) (fun e=>HNL.out (by injection e)) (.int .i64 (i:Nat)))
      have HB2:=hid (HB.out.setCell (p:=⟨gl,y,none⟩) (by show w.heap.size<=gl; exact hgl) (.int .i64 (i:Nat)))
      clear hy HRL HRG HM7 HOE HB
      go_wp2
      go_roundg (gk - 1)
      case measure=>omega
      case rel=>exact ⟨i+1,by go_num,by omega,by omega,HRL2,HRG2,HM72,HOE2,HB2⟩
     ·obtain rfl:i=L:=by omega
      have hlt':¬ (i:Int)<(i:Int):=by omega
      have HEND:Hid (GFU wr w.heap.size wr.heap.size gg P M (fun i=>(f i).toNat)):=by
       have hpe:=HPE.out
       subst hpe
       have hqe:=HQ.out
       subst hqe
       have hle:=HL.out
       have hok:=hyes.out.field.1
       refine ⟨A7,k,c7,lb,lo,lc,gl,0,P ^ M,x,lgP (pwG (mulF P M fun i=>(f i).toNat) x) i,⟨hok,HKE.out,?_,HRG.out.lt,?_,?_,?_,HX.out.1,HX.out.2,HGX.out,fun t ht=>?_⟩,hgg,(HOE.out.lt lb rfl).1,hgl,fun ad e=>(HM7.out.lt ad.block (by rw [e]; rfl)).1⟩
       ·rw [<-hle]; exact HRG.out
       ·refine IntsR.congr (show IntsR wr wr.heap.size A7 k f from HM7.out.rd rfl) fun t ht=>?_
        obtain ⟨P',M',h1,h2,h3,h4,h5⟩:=hyes.out
        obtain rfl:M=M':=by omega
        rcases h5 with ⟨_,e⟩ | ⟨_,e,h,_⟩
        ·omega
        ·have:=h t (by omega); show f t=((f t).toNat:Int); omega
       ·rw [<-hle]; exact HOE.out.rd rfl
       ·exact zbk HRL.out
       ·rw [<-hle] at ht
        exact zjx HPK.out i (Nat.le_refl _) ht
      go_wp2
      go_ret2
      exact ⟨HB.out,.inr ⟨hyes.out,gg,P,M,rfl,rfl,rfl,hgg,HEND.out⟩⟩
structure RowAt where
 b:Nat
 o:Nat
 c:Nat
structure DTab (w:World) (base tb o n c k:Nat) (r:Nat->RowAt) (W:Nat->Nat->Nat):Prop where
 tab:Own w base 22 1 (.slice (some ⟨tb,o,none⟩) n c) n (fun i _=>.slice (some ⟨(r i).b,(r i).o,none⟩) k (r i).c)
 row:∀ i,i<n->Own w base 3 1 (.slice (some ⟨(r i).b,(r i).o,none⟩) k (r i).c) k (fun j _=>.int .i64 (W i j:Nat))
 apart:∀ i j,i<n->j<n->i≠j->(r i).b≠(r j).b
theorem zby {w w1 w2:World} {row:Option Nat} (h:w.grownBy w1 row) (hb:Below w1.heap.size w1 w2):w.grownBy w2 row :=
 ⟨hb.os.trans h.os,hb.tape.trans h.tape,hb.output.trans h.output,Nat.le_trans h.size hb.size,fun k hk hne=>(hb.block k (Nat.lt_of_lt_of_le hk h.size)).trans (h.block k hk hne)⟩
theorem zas {w w':World} {row:Option Nat} {p:Addr} {v:Value} (hg:w.grownBy w' row) (h:w.cell? p=some v) (hne:some p.block≠row):w'.cell? p=some v :=
 (World.cell?_of_block (w:=w) (hg.block p.block (World.block_lt_of_cell? w p h) hne)).trans h
section
variable {w w':World} {base tb o n c k i:Nat} {r:Nat->RowAt} {W W':Nat->Nat->Nat}
theorem DTab.on (h:DTab w base tb o n c k r W) (hb:Below w.heap.size w w'):DTab w' base tb o n c k r W:=⟨h.tab.on hb,fun i hi=>(h.row i hi).on hb,h.apart⟩
theorem DTab.congr (h:DTab w base tb o n c k r W) (e:∀ i,i<n->∀ j,j<k->W i j=W' i j):DTab w base tb o n c k r W':=⟨h.tab,fun i hi=>(h.row i hi).congr fun j hj _ _=>by rw [e i hi j hj],h.apart⟩
theorem DTab.cell (h:DTab w base tb o n c k r W) (hi:i<n):w.cell? ⟨tb,o+i,none⟩=some (.slice (some ⟨(r i).b,(r i).o,none⟩) k (r i).c):=by
 obtain ⟨b,off,e,_,h1⟩:=Rd.at1 (h.tab.rd rfl) hi
 injection e with e
 injection e with e1 e2
 subst e1 e2
 exact h1
theorem DTab.froz (h:DTab w base tb o n c k r W) (j:Nat):w.frozen? ⟨tb,j,none⟩=false:=h.tab.frozen j
theorem DTab.lt (h:DTab w base tb o n c k r W) (hi:i<n):base<=(r i).b/\(r i).b<w.heap.size:=(h.row i hi).lt _ rfl
theorem DTab.tlt (h:DTab w base tb o n c k r W):base<=tb/\tb<w.heap.size:=h.tab.lt _ rfl
theorem DTab.ne (h:DTab w base tb o n c k r W) (hi:i<n):(r i).b≠tb:=by
 rcases zc2 h.tab (h.row i hi) (by decide) with h1 | h1
 ·cases h1
 ·exact fun e=>h1 (by show some _=some _; rw [e])
theorem DTab.rd (h:DTab w base tb o n c k r W) (hi:i<n):IntsR w w.heap.size (some ⟨(r i).b,(r i).o,none⟩) k (fun j=>((W i j:Nat):Int)):=(h.row i hi).rd rfl
theorem DTab.entry {j:Nat} (h:DTab w base tb o n c k r W) (hi:i<n) (hj:j<k):w.cell? ⟨(r i).b,(r i).o+j,none⟩=some (.int .i64 (W i j:Nat)):=(h.rd hi).here hj
theorem DTab.kept {row:Option Nat} (h:DTab w base tb o n c k r W) (hg:w.grownBy w' row) (h1:row≠some tb) (h2:∀ i,i<n->row≠some (r i).b):DTab w' base tb o n c k r W :=
 ⟨h.tab.kept hg (.inr fun e=>h1 e.symm),fun i hi=>(h.row i hi).kept hg (.inr fun e=>h2 i hi e.symm),h.apart⟩
theorem DTab.swap {a t:Nat} (h:DTab w base tb o n c k r W) (ha:a<n) (ht:t<n) :
  DTab ((w.setCell ⟨tb,o+a,none⟩ (.slice (some ⟨(r t).b,(r t).o,none⟩) k (r t).c)).setCell ⟨tb,o+t,none⟩ (.slice (some ⟨(r a).b,(r a).o,none⟩) k (r a).c)) base tb o n c k (fun u=>if u=t then r a else if u=a then r t else r u) (fun u=>if u=t then W a else if u=a then W t else W u):=by
 have h1:=h.tab.set ha (by omega:0<1) (.slice (some ⟨(r t).b,(r t).o,none⟩) k (r t).c)
 rw [Nat.mul_one,Nat.add_zero] at h1
 have h2:=h1.set ht (by omega:0<1) (.slice (some ⟨(r a).b,(r a).o,none⟩) k (r a).c)
 rw [Nat.mul_one,Nat.add_zero] at h2
 refine ⟨h2.congr fun u hu q hq=>?_,fun u hu=>?_,fun i j hi hj hne=>?_⟩
 ·obtain rfl:q=0:=by omega
  by_cases e1:u=t
  ·simp [e1]
  ·by_cases e2:u=a
   ·have e3:¬ a=t:=fun h=>e1 (e2.trans h)
    simp [e2,e3]
   ·simp [e1,e2]
 ·have key:∀ v,v<n->Own ((w.setCell ⟨tb,o+a,none⟩ (.slice (some ⟨(r t).b,(r t).o,none⟩) k (r t).c)).setCell ⟨tb,o+t,none⟩ (.slice (some ⟨(r a).b,(r a).o,none⟩) k (r a).c)) base 3 1 (.slice (some ⟨(r v).b,(r v).o,none⟩) k (r v).c) k (fun j _=>.int .i64 (W v j:Nat)):=fun v hv =>
   ((h.row v hv).setCell (fun e=>h.ne hv (by injection e)) _).setCell (fun e=>h.ne hv (by injection e)) _
  by_cases e1:u=t
  ·simp only [if_pos e1]; exact key a ha
  ·by_cases e2:u=a
   ·simp only [if_neg e1,if_pos e2]; exact key t ht
   ·simp only [if_neg e1,if_neg e2]; exact key u hu
 ·have ap:=h.apart
  show (if i=t then r a else if i=a then r t else r i).b≠(if j=t then r a else if j=a then r t else r j).b
  by_cases e1:i=t
  ·rw [if_pos e1]
   rw [if_neg (by omega)]
   by_cases e3:j=a
   ·rw [if_pos e3]; exact ap a t ha ht (by omega)
   ·rw [if_neg e3]; exact ap a j ha hj (by omega)
  ·rw [if_neg e1]
   by_cases e2:i=a
   ·rw [if_pos e2]
    by_cases e3:j=t
    ·rw [if_pos e3]; exact ap t a ht ha (by omega)
    ·rw [if_neg e3,if_neg (by omega)]; exact ap t j ht hj (by omega)
   ·rw [if_neg e2]
    by_cases e3:j=t
    ·rw [if_pos e3]; exact ap i a hi ha e2
    ·rw [if_neg e3]
     by_cases e4:j=a
     ·rw [if_pos e4]; exact ap i t hi ht e1
     ·rw [if_neg e4]; exact ap i j hi hj hne
theorem DTab.put {g go gc:Nat} {x:Nat->Nat} (h:DTab w base tb o n c k r W) (hi:i<n) (hr:Own w base 3 1 (.slice (some ⟨g,go,none⟩) k gc) k (fun j _=>.int .i64 (x j:Nat))) (hg:∀ u,u<n->u≠i->(r u).b≠g) :
  DTab (w.setCell ⟨tb,o+i,none⟩ (.slice (some ⟨g,go,none⟩) k gc)) base tb o n c k (fun u=>if u=i then ⟨g,go,gc⟩ else r u) (fun u=>if u=i then x else W u):=by
 have h1:=h.tab.set hi (by omega:0<1) (.slice (some ⟨g,go,none⟩) k gc)
 rw [Nat.mul_one,Nat.add_zero] at h1
 have hne:g≠tb:=by
  rcases zc2 h.tab hr (by decide) with h1 | h1
  ·cases h1
  ·exact fun e=>h1 (by show some _=some _; rw [e])
 refine ⟨h1.congr fun u hu q hq=>?_,fun u hu=>?_,fun a b ha hb hab=>?_⟩
 ·obtain rfl:q=0:=by omega
  by_cases e:u=i
  ·simp [e]
  ·simp [e]
 ·by_cases e:u=i
  ·simp only [if_pos e]
   exact hr.setCell (fun e=>hne (by injection e)) _
  ·simp only [if_neg e]
   exact (h.row u hu).setCell (fun e=>h.ne hu (by injection e)) _
 ·show (if a=i then (⟨g,go,gc⟩:RowAt) else r a).b≠(if b=i then (⟨g,go,gc⟩:RowAt) else r b).b
  by_cases e1:a=i
  ·rw [if_pos e1,if_neg (by omega)]; exact fun e=>hg b hb (by omega) e.symm
  ·rw [if_neg e1]
   by_cases e2:b=i
   ·rw [if_pos e2]; exact hg a ha e1
   ·rw [if_neg e2]; exact h.apart a b ha hb hab
theorem DTab.rowed {x:Nat->Nat} (h:DTab w base tb o n c k r W) (hi:i<n) (hg:w.grownBy w' (some (r i).b)) (hr:Own w' base 3 1 (.slice (some ⟨(r i).b,(r i).o,none⟩) k (r i).c) k (fun j _=>.int .i64 (x j:Nat))) :
  DTab w' base tb o n c k r (fun u=>if u=i then x else W u) :=
 ⟨h.tab.kept hg (.inr fun e=>h.ne hi (by injection e with e; exact e.symm)),fun u hu=>by
  by_cases e:u=i
  ·subst e; simp only [if_pos]; exact hr
  ·simp only [if_neg e]
   exact (h.row u hu).kept hg (.inr fun e2=>h.apart u i hu hi e (by injection e2)),h.apart⟩
end
def RowedPost (w:World) (base vb vo vc k:Nat) (x:Nat->Nat) (e:Ending) (w':World):Prop :=
 e=.returned (.tuple #[])/\w.grownBy w' (some vb)/\Own w' base 3 1 (.slice (some ⟨vb,vo,none⟩) k vc) k (fun j _=>.int .i64 (x j:Nat))
theorem ziT (P M g base vb vo vc ub uo uc k a:Nat) (m:Nat->Nat) (x y:Nat->Nat) (w:World) (h:GF w base g P M m) (hbw:base<=w.heap.size)
  (hv:Own w base 3 1 (.slice (some ⟨vb,vo,none⟩) k vc) k (fun j _=>.int .i64 (x j:Nat))) (hu:IntsR w w.heap.size (some ⟨ub,uo,none⟩) k (fun j=>((y j:Nat):Int))) (hne:ub≠vb)
  (ha:a<P ^ M) (hx:∀ j,j<k->x j<P ^ M) (hy:∀ j,j<k->y j<P ^ M) (hk:k<=1048576) :
  Calls Tryz.prog 262 #[.pointer (some ⟨g,0,none⟩),.slice (some ⟨vb,vo,none⟩) k vc,.int .i64 (a:Nat),.slice (some ⟨ub,uo,none⟩) k uc] w (RowedPost w base vb vo vc k (fun j=>addF P M (x j) (mulF P M m a (y j)))):=by
 have hq:=h.ok.1.2.2.2
 have HL:=hid (fieldLaws h.ok)
 have hvl:=hv.lt _ rfl
 have HG:=hid h
 have HU:Hid (∀ j,j<k->w.cell? ⟨ub,uo+j,none⟩=some (.int .i64 (y j:Nat))):=fun j hj=>hu.here hj
 have HV:=hid (hv.congr (f':=fun j _=>.int .i64 ((if j<0 then addF P M (x j) (mulF P M m a (y j)) else x j:Nat):Int)) fun j _ _ _=>by rw [if_neg (by omega)])
 have HX:=hid hx
 have HY:=hid hy
 have HNE:=hid hne
 have HIA:=hid (zaE ha)
 clear h hv hu hx hy hne
 go_enter Tryz.func262, Tryz.ntmps262
 go_wp2
 go_loopg [12] k (fun gg iv wx=>∃ j:Nat,iv=.int .i64 (j:Nat)/\j<=k/\k<=j+gg/\Hid (w.grownBy wx (some vb))/\Hid (Own wx base 3 1 (.slice (some ⟨vb,vo,none⟩) k vc) k (fun t _=>.int .i64 ((if t<j then addF P M (x t) (mulF P M m a (y t)) else x t:Nat):Int))))
 case atStart=>exact ⟨0,rfl,by omega,by omega,World.grownBy.refl _ _,HV⟩
 case round =>
  clear HV
  obtain ⟨j,rfl,hj,hjg,HGR,HV⟩:=hrel
  have hj0:(0:Int)<=(j:Int):=by omega
  by_cases hlt:j<k
  ·have hlt':(j:Int)<(k:Int):=by omega
   have y0:=zas HGR.out (HU.out j hlt) (fun e=>HNE.out (by injection e))
   have x0:=(show IntsR wr wr.heap.size (some ⟨vb,vo,none⟩) k (fun t=>((if t<j then addF P M (x t) (mulF P M m a (y t)) else x t:Nat):Int)) from HV.out.rd rfl).here hlt
   rw [if_neg (by omega)] at x0
   have z0:=HV.out.frozen (vo+j)
   obtain ⟨yj,hyj⟩:∃ t,t=y j:=⟨_,rfl⟩
   obtain ⟨xj,hxj⟩:∃ t,t=x j:=⟨_,rfl⟩
   have hyq:yj<P ^ M:=by rw [hyj]; exact HY.out j hlt
   have hxq:xj<P ^ M:=by rw [hxj]; exact HX.out j hlt
   rw [<-hyj] at y0;rw [<-hxj] at x0
   have HYJ:=hid hyj
   have HXJ:=hid hxj
   have HIX:=hid (zaE hxq)
   have HIY:=hid (zaE hyq)
   clear hyj hxj
   by_cases hy0:yj=0
   ·have hd:((yj:Int) != 0)=false:=by simp [hy0]
    have HV2:=hid (HV.out.congr (f':=fun t _=>.int .i64 ((if t<j+1 then addF P M (x t) (mulF P M m a (y t)) else x t:Nat):Int)) fun t _ _ _=>by
     by_cases e:t=j
     ·subst e
      rw [if_neg (by omega),if_pos (by omega),<-HYJ.out,<-HXJ.out,hy0,HL.out.mulZero ha,HL.out.addZero hxq]
     ·by_cases e2:t<j
      ·rw [if_pos e2,if_pos (by omega)]
      ·rw [if_neg e2,if_neg (by omega)])
    clear hy0 x0 z0
    go_wp2
    go_roundg (gk - 1)
    case measure=>omega
    case rel=>exact ⟨j+1,by go_num,by omega,by omega,HGR,HV2⟩
   ·have hd:((yj:Int) != 0)=true:=by simp [hy0]
    have hB:Below base w wr:=by
     have:=HGR.out
     exact ⟨this.os,this.tape,this.output,this.size,fun q hq=>this.block q (by omega) (fun e=>by injection e with e; omega)⟩
    have hG:=HG.out.at hB (Nat.le_trans hbw HGR.out.size)
    obtain ⟨w1,hw1⟩:∃ W,W=wr:=⟨_,rfl⟩
    subst hw1
    have hO:=HV.out
    clear hB hy0 HV
    go_wp2
    clear z0
    refine wp_region_held_drew (S:=fun _=>True) (by kernel_rfl) trivial (fun hHeld=>?_)
    obtain ⟨w2,hw⟩:∃ W,W=World.drew w1:=⟨_,rfl⟩
    have kb:Below w1.heap.size w1 w2:=by rw [hw]; exact (Below.refl _ _).drew
    rw [<-hw];clear hw;replace hG:=hG.on kb;replace hO:=hO.on kb;replace x0:=cellS kb x0
    have hgr:=zby HGR.out kb
    clear kb
    refine tkq 0 (h:=tkq 1 (h:=tkq 2 (h:=tkq 3 (h:=tkq 4 (h:=tkq 5 (h:=tkq 7 (h:=tkq 8 (h:=tkq 9 (h:=?_)))))))))
    refine rdq2 6 10 (h:=fun K hK=>?_) (h2:=fun K hK=>?_)
    ·go_simp
     refine bkq hK trivial (h:=fun hHeld=>?_)
     clear hK K
     refine rdq 10 (h:=fun K hK=>?_)
     go_simp
     go_wp2_with fail
     refine (zbG (a:Int) (yj:Int) hG).mono ?_
     rintro e w3 ⟨rfl,kb⟩
     replace hG:=hG.on kb;replace hO:=hO.on kb;replace x0:=cellS kb x0;replace hgr:=zby hgr kb;clear kb;rw [HIA.out,HIY.out]
     obtain ⟨t,ht⟩:∃ t,t=mulF P M m a yj:=⟨_,rfl⟩
     rw [<-ht]
     have HT:=hid ht
     have HIT:=hid (show inV (P ^ M) (t:Nat)=t from zaE (by rw [ht]; exact HL.out.mulLt _ _))
     clear ht
     refine bkq hK trivial (h:=fun hHeld=>?_)
     clear hK K
     refine rdq 11 (h:=fun K hK=>?_)
     go_simp
     go_wp2_with fail
     refine (zdG (xj:Int) (t:Int) hG).mono ?_
     rintro e w4 ⟨rfl,kb⟩
     replace hG:=hG.on kb;replace hO:=hO.on kb;replace x0:=cellS kb x0;replace hgr:=zby hgr kb;clear kb;rw [HIX.out,HIT.out]
     obtain ⟨s,hs⟩:∃ u,u=addF P M xj t:=⟨_,rfl⟩
     rw [<-hs]
     have HS:=hid hs
     clear hs
     refine bkq hK trivial (h:=fun hHeld=>?_)
     clear hK K
     refine tkq 12 (h:=?_)
     refine rdq 13 (h:=fun K hK=>?_)
     have z1:=hO.frozen (vo+j)
     go_simp
     clear z1
     have hO2:=hO.set hlt (by omega:0<1) (.int .i64 (s:Nat))
     rw [Nat.mul_one,Nat.add_zero] at hO2;replace hgr:=zan hgr (vo+j) (.int .i64 (s:Nat));clear hO x0
     obtain ⟨w5,hw⟩:∃ W,W=World.setCell w4 ⟨vb,vo+j,none⟩ (.int .i64 (s:Nat)):=⟨_,rfl⟩
     rw [<-hw] at hO2 hgr ⊢;clear hw
     have HGR2:=hid hgr
     have HV2:=hid (hO2.congr (f':=fun t _=>.int .i64 ((if t<j+1 then addF P M (x t) (mulF P M m a (y t)) else x t:Nat):Int)) fun t _ q hq=>by
      obtain rfl:q=0:=by omega
      by_cases e:t=j
      ·subst e
       rw [if_pos ⟨rfl,rfl⟩,if_pos (by omega),HS.out,HT.out,HXJ.out,HYJ.out]
      ·rw [if_neg (fun h=>e h.1)]
       by_cases e2:t<j
       ·rw [if_pos e2,if_pos (by omega)]
       ·rw [if_neg e2,if_neg (by omega)])
     clear hgr hO2
     refine bkq hK trivial (h:=fun hHeld=>?_)
     clear hK K
     refine wpAnyH_done (by kernel_rfl) ?_ _
     clear hHeld
     go_wp2
     go_roundg (gk - 1)
     case measure=>omega
     case rel=>exact ⟨j+1,by go_num,by omega,by omega,HGR2,HV2⟩
    ·go_simp
     go_wp2_with fail
     refine (zbG (a:Int) (yj:Int) hG).mono ?_
     rintro e w3 ⟨rfl,kb⟩
     replace hG:=hG.on kb;replace hO:=hO.on kb;replace x0:=cellS kb x0;replace hgr:=zby hgr kb;clear kb;rw [HIA.out,HIY.out]
     obtain ⟨t,ht⟩:∃ t,t=mulF P M m a yj:=⟨_,rfl⟩
     rw [<-ht]
     have HT:=hid ht
     have HIT:=hid (show inV (P ^ M) (t:Nat)=t from zaE (by rw [ht]; exact HL.out.mulLt _ _))
     clear ht
     refine bkq hK trivial (h:=fun hHeld=>?_)
     clear hK K
     refine rdq 6 (h:=fun K hK=>?_)
     go_simp
     refine bkq hK trivial (h:=fun hHeld=>?_)
     clear hK K
     refine rdq 11 (h:=fun K hK=>?_)
     go_simp
     go_wp2_with fail
     refine (zdG (xj:Int) (t:Int) hG).mono ?_
     rintro e w4 ⟨rfl,kb⟩
     replace hG:=hG.on kb;replace hO:=hO.on kb;replace x0:=cellS kb x0;replace hgr:=zby hgr kb;clear kb;rw [HIX.out,HIT.out]
     obtain ⟨s,hs⟩:∃ u,u=addF P M xj t:=⟨_,rfl⟩
     rw [<-hs]
     have HS:=hid hs
     clear hs
     refine bkq hK trivial (h:=fun hHeld=>?_)
     clear hK K
     refine tkq 12 (h:=?_)
     refine rdq 13 (h:=fun K hK=>?_)
     have z1:=hO.frozen (vo+j)
     go_simp
     clear z1
     have hO2:=hO.set hlt (by omega:0<1) (.int .i64 (s:Nat))
     rw [Nat.mul_one,Nat.add_zero] at hO2;replace hgr:=zan hgr (vo+j) (.int .i64 (s:Nat));clear hO x0
     obtain ⟨w5,hw⟩:∃ W,W=World.setCell w4 ⟨vb,vo+j,none⟩ (.int .i64 (s:Nat)):=⟨_,rfl⟩
     rw [<-hw] at hO2 hgr ⊢;clear hw
     have HGR2:=hid hgr
     have HV2:=hid (hO2.congr (f':=fun t _=>.int .i64 ((if t<j+1 then addF P M (x t) (mulF P M m a (y t)) else x t:Nat):Int)) fun t _ q hq=>by
      obtain rfl:q=0:=by omega
      by_cases e:t=j
      ·subst e
       rw [if_pos ⟨rfl,rfl⟩,if_pos (by omega),HS.out,HT.out,HXJ.out,HYJ.out]
      ·rw [if_neg (fun h=>e h.1)]
       by_cases e2:t<j
       ·rw [if_pos e2,if_pos (by omega)]
       ·rw [if_neg e2,if_neg (by omega)])
     clear hgr hO2
     refine bkq hK trivial (h:=fun hHeld=>?_)
     clear hK K
     refine wpAnyH_done (by kernel_rfl) ?_ _
     clear hHeld
     go_wp2
     go_roundg (gk - 1)
     case measure=>omega
     case rel=>exact ⟨j+1,by go_num,by omega,by omega,HGR2,HV2⟩
  ·obtain rfl:j=k:=by omega
   have hlt':¬ (j:Int)<(j:Int):=by omega
   have HV2:=hid (HV.out.congr (f':=fun t _=>.int .i64 ((addF P M (x t) (mulF P M m a (y t)):Nat):Int)) fun t ht _ _=>by rw [if_pos ht])
   go_wp2
   refine bodyPost_ret (results_none rfl _ _ _) rfl ?_
   exact ⟨rfl,HGR.out,HV2.out⟩
theorem zgJ {w:World} {base e b o n c i:Nat} {f:Nat->Nat->Value} (h:Own w base e 1 (.slice (some ⟨b,o,none⟩) n c) n f) (hi:i<n):w.cell? ⟨b,o+i,none⟩=some (f i 0):=by
 obtain ⟨b',o',e,_,h⟩:=Rd.at1 (h.rd rfl) hi
 injection e with e
 injection e with e1 e2
 subst e1 e2
 exact h
theorem GF.below' {w w':World} {B g P M:Nat} {m:Nat->Nat} (h:GF w B g P M m) (hb:Below B w w'):GF w' B g P M m:=by
 obtain ⟨A,k,c,eb,eo,ec,lb,lo,lc,x,lg,h⟩:=h
 exact ⟨A,k,c,eb,eo,ec,lb,lo,lc,x,lg,h.ok,h.km,zc6 h.row hb h.lt,h.lt,Rd.below h.md hb (Nat.le_refl _),Rd.below h.ex hb (Nat.le_refl _),Rd.below h.lgr hb (Nat.le_refl _),h.x0,h.xq,h.gen,h.lgs⟩
theorem zgK {w w1 w2:World} {row:Option Nat} (hb:Below w.heap.size w w1) (h:w1.grownBy w2 row):w.grownBy w2 row :=
 ⟨h.os.trans hb.os,h.tape.trans hb.tape,h.output.trans hb.output,Nat.le_trans hb.size h.size,fun k hk hne=>(h.block k (Nat.lt_of_lt_of_le hk hb.size) hne).trans (hb.block k hk)⟩
theorem endNone {P:Program} {fn:Func} {R:Ending->World->Prop} {a:Act} {w:World} (hr:fn.results=#[]) (hd:a.defers=[]) (hR:R (.returned (.tuple #[])) w):bodyPost P fn R .normal a w:=⟨hd,_,results_none hr _ _ _,hR⟩
def TabbedPost (w:World) (base tb o n c k:Nat) (r:Nat->RowAt) (W:Nat->Nat->Nat) (e:Ending) (w':World):Prop :=
 e=.returned (.tuple #[])/\w.grownBy w' (some tb)/\DTab w' base tb o n c k r W
section
variable {w:World} {base tb o n c k a t kb ab:Nat} {r:Nat->RowAt} {W:Nat->Nat->Nat}
theorem zhD (hT:DTab w base tb o n c k r W) (ha:a<n) (ht:t<n) (ck:w.cell? ⟨kb,0,none⟩=some (.int .i64 (t:Nat))) (ca:w.cell? ⟨ab,0,none⟩=some (.int .i64 (a:Nat))) (hkb:kb≠tb) (hab:ab≠tb) :
  Calls Tryz.prog 259 #[.slice (some ⟨tb,o,none⟩) n c,.pointer (some ⟨kb,0,none⟩),.pointer (some ⟨ab,0,none⟩)] w (TabbedPost w base tb o n c k (fun u=>if u=t then r a else if u=a then r t else r u) (fun u=>if u=t then W a else if u=a then W t else W u)):=by
 obtain ⟨w1,hw1⟩:∃ W,W=w:=⟨_,rfl⟩
 have HW:Hid (w1=w):=hw1
 rw [<-hw1] at hT ck ca
 have hgr0:=World.grownBy.refl w1 (some tb)
 have ha0:(0:Int)<=(a:Int):=by omega
 have ht0:(0:Int)<=(t:Int):=by omega
 have hai:(a:Int)<(n:Int):=by omega
 have hti:(t:Int)<(n:Int):=by omega
 have HKB:=hid hkb
 have HAB:=hid hab
 have x7:=hT.cell ht
 have x11:=hT.cell ha
 rw [<-hw1];clear hw1 hkb hab
 go_enter Tryz.func259, Tryz.ntmps259
 go_wp2
 refine wp_region_held_drew (S:=fun w'=>w'.cell? ⟨kb,0,none⟩=some (.int .i64 (t:Nat))/\w'.cell? ⟨ab,0,none⟩=some (.int .i64 (a:Nat))) (by kernel_rfl) ⟨cellS (Below.refl _ _).drew (ck),cellS (Below.refl _ _).drew (ca)⟩ (fun hHeld=>?_)
 obtain ⟨w2,hw⟩:∃ W,W=World.drew w1:=⟨_,rfl⟩
 have kb:Below w1.heap.size w1 w2:=by rw [hw]; exact (Below.refl _ _).drew
 rw [<-hw] at hHeld ⊢;clear hw;replace hT:=hT.on kb;replace ck:=cellS kb ck;replace ca:=cellS kb ca;replace x7:=cellS kb x7;replace x11:=cellS kb x11
 have hgr:=zby hgr0 kb
 clear kb
 refine tkq 0 (h:=tkq 1 (h:=tkq 2 (h:=tkq 3 (h:=tkq 4 (h:=tkq 5 (h:=tkq 6 (h:=tkq 8 (h:=tkq 9 (h:=tkq 10 (h:=?_))))))))))
 refine rdq2 7 11 (h:=fun K hK=>?_) (h2:=fun K hK=>?_)
 ·go_simp
  refine bkq hK ⟨ck,ca⟩ (h:=fun hHeld=>?_)
  clear hK K
  refine rdq 11 (h:=fun K hK=>?_)
  go_simp
  refine bkq hK ⟨ck,ca⟩ (h:=fun hHeld=>?_)
  clear hK K
  refine tkq 12 (h:=?_)
  refine rdq 13 (h:=fun K hK=>?_)
  have HSW:=hid (hT.swap ha ht)
  have hO:=hT.tab.set ha (by omega:0<1) (.slice (some ⟨(r t).b,(r t).o,none⟩) k (r t).c)
  rw [Nat.mul_one,Nat.add_zero] at hO
  have z0:=hT.froz (o+a)
  replace hgr:=zan hgr (o+a) (.slice (some ⟨(r t).b,(r t).o,none⟩) k (r t).c);replace ck:=zab (p:=⟨tb,o+a,none⟩) (u:=(.slice (some ⟨(r t).b,(r t).o,none⟩) k (r t).c)) ck HKB.out;replace ca:=zab (p:=⟨tb,o+a,none⟩) (u:=(.slice (some ⟨(r t).b,(r t).o,none⟩) k (r t).c)) ca HAB.out
  go_simp
  clear z0 x7 x11
  obtain ⟨w3,hw⟩:∃ W,W=World.setCell w2 ⟨tb,o+a,none⟩ (.slice (some ⟨(r t).b,(r t).o,none⟩) k (r t).c):=⟨_,rfl⟩
  rw [<-hw] at HSW hO hgr ck ca ⊢;clear hw hT
  refine bkq hK ⟨ck,ca⟩ (h:=fun hHeld=>?_)
  clear hK K
  refine tkq 14 (h:=?_)
  refine rdq 15 (h:=fun K hK=>?_)
  have z0:=hO.frozen (o+t)
  have v0:=zgJ hO ht
  replace hgr:=zan hgr (o+t) (.slice (some ⟨(r a).b,(r a).o,none⟩) k (r a).c);replace ck:=zab (p:=⟨tb,o+t,none⟩) (u:=(.slice (some ⟨(r a).b,(r a).o,none⟩) k (r a).c)) ck HKB.out;replace ca:=zab (p:=⟨tb,o+t,none⟩) (u:=(.slice (some ⟨(r a).b,(r a).o,none⟩) k (r a).c)) ca HAB.out
  go_simp
  clear z0 v0 hO
  obtain ⟨w4,hw⟩:∃ W,W=World.setCell w3 ⟨tb,o+t,none⟩ (.slice (some ⟨(r a).b,(r a).o,none⟩) k (r a).c):=⟨_,rfl⟩
  rw [<-hw] at HSW hgr ck ca ⊢;clear hw
  refine bkq hK ⟨ck,ca⟩ (h:=fun hHeld=>?_)
  clear hK K
  refine wpAnyH_done (by kernel_rfl) ?_ _
  clear hHeld
  go_wp2
  refine endNone rfl rfl ?_
  exact ⟨rfl,hgr,HSW.out⟩
 ·go_simp
  refine bkq hK ⟨ck,ca⟩ (h:=fun hHeld=>?_)
  clear hK K
  refine rdq 7 (h:=fun K hK=>?_)
  go_simp
  refine bkq hK ⟨ck,ca⟩ (h:=fun hHeld=>?_)
  clear hK K
  refine tkq 12 (h:=?_)
  refine rdq 13 (h:=fun K hK=>?_)
  have HSW:=hid (hT.swap ha ht)
  have hO:=hT.tab.set ha (by omega:0<1) (.slice (some ⟨(r t).b,(r t).o,none⟩) k (r t).c)
  rw [Nat.mul_one,Nat.add_zero] at hO
  have z0:=hT.froz (o+a)
  replace hgr:=zan hgr (o+a) (.slice (some ⟨(r t).b,(r t).o,none⟩) k (r t).c);replace ck:=zab (p:=⟨tb,o+a,none⟩) (u:=(.slice (some ⟨(r t).b,(r t).o,none⟩) k (r t).c)) ck HKB.out;replace ca:=zab (p:=⟨tb,o+a,none⟩) (u:=(.slice (some ⟨(r t).b,(r t).o,none⟩) k (r t).c)) ca HAB.out
  go_simp
  clear z0 x7 x11
  obtain ⟨w3,hw⟩:∃ W,W=World.setCell w2 ⟨tb,o+a,none⟩ (.slice (some ⟨(r t).b,(r t).o,none⟩) k (r t).c):=⟨_,rfl⟩
  rw [<-hw] at HSW hO hgr ck ca ⊢;clear hw hT
  refine bkq hK ⟨ck,ca⟩ (h:=fun hHeld=>?_)
  clear hK K
  refine tkq 14 (h:=?_)
  refine rdq 15 (h:=fun K hK=>?_)
  have z0:=hO.frozen (o+t)
  have v0:=zgJ hO ht
  replace hgr:=zan hgr (o+t) (.slice (some ⟨(r a).b,(r a).o,none⟩) k (r a).c);replace ck:=zab (p:=⟨tb,o+t,none⟩) (u:=(.slice (some ⟨(r a).b,(r a).o,none⟩) k (r a).c)) ck HKB.out;replace ca:=zab (p:=⟨tb,o+t,none⟩) (u:=(.slice (some ⟨(r a).b,(r a).o,none⟩) k (r a).c)) ca HAB.out
  go_simp
  clear z0 v0 hO
  obtain ⟨w4,hw⟩:∃ W,W=World.setCell w3 ⟨tb,o+t,none⟩ (.slice (some ⟨(r a).b,(r a).o,none⟩) k (r a).c):=⟨_,rfl⟩
  rw [<-hw] at HSW hgr ck ca ⊢;clear hw
  refine bkq hK ⟨ck,ca⟩ (h:=fun hHeld=>?_)
  clear hK K
  refine wpAnyH_done (by kernel_rfl) ?_ _
  clear hHeld
  go_wp2
  refine endNone rfl rfl ?_
  exact ⟨rfl,hgr,HSW.out⟩
theorem zgL {P M g gb vb s:Nat} {m:Nat->Nat} (hG:GF w base g P M m) (hbw:base<=w.heap.size) (hT:DTab w base tb o n c k r W) (ha:a<n) (hW:∀ j,j<k->W a j<P ^ M) (hs:s<P ^ M) (hk:k<=1048576)
  (cg:w.cell? ⟨gb,0,none⟩=some (.pointer (some ⟨g,0,none⟩))) (cv:w.cell? ⟨vb,0,none⟩=some (.int .i64 (s:Nat))) (ca:w.cell? ⟨ab,0,none⟩=some (.int .i64 (a:Nat))) (hgb:gb≠tb) (hvb:vb≠tb) (hab:ab≠tb) :
  Calls Tryz.prog 260 #[.slice (some ⟨tb,o,none⟩) n c,.pointer (some ⟨gb,0,none⟩),.pointer (some ⟨vb,0,none⟩),.pointer (some ⟨ab,0,none⟩)] w fun e w'=>∃ q,w.heap.size<=q/\TabbedPost w base tb o n c k (fun u=>if u=a then ⟨q,0,k⟩ else r u) (fun u=>if u=a then fun j=>mulF P M m s (W a j) else W u) e w':=by
 obtain ⟨w1,hw1⟩:∃ W,W=w:=⟨_,rfl⟩
 have hbw0:base<=w1.heap.size:=by rw [hw1]; exact hbw
 have hG0:=hG
 rw [<-hw1] at hG0 hT cg cv ca
 have hGA:=hG0.at (Below.refl _ _) hbw0
 have hgr0:=World.grownBy.refl w1 (some tb)
 have ha0:(0:Int)<=(a:Int):=by omega
 have hai:(a:Int)<(n:Int):=by omega
 have HGB:=hid hgb
 have HVB:=hid hvb
 have HAB:=hid hab
 have HWL:=hid hW
 have x7:=hT.cell ha
 rw [<-hw1];clear hw1 hgb hvb hab hG hG0 hbw hW
 go_enter Tryz.func260, Tryz.ntmps260
 go_wp2
 refine wp_region_held_drew (S:=fun w'=>w'.cell? ⟨gb,0,none⟩=some (.pointer (some ⟨g,0,none⟩))/\w'.cell? ⟨vb,0,none⟩=some (.int .i64 (s:Nat))/\w'.cell? ⟨ab,0,none⟩=some (.int .i64 (a:Nat))) (by kernel_rfl) ⟨cellS (Below.refl _ _).drew (cg),cellS (Below.refl _ _).drew (cv),cellS (Below.refl _ _).drew (ca)⟩ (fun hHeld=>?_)
 obtain ⟨w2,hw⟩:∃ W,W=World.drew w1:=⟨_,rfl⟩
 have kb:Below w1.heap.size w1 w2:=by rw [hw]; exact (Below.refl _ _).drew
 rw [<-hw] at hHeld ⊢;clear hw;replace hT:=hT.on kb;replace hGA:=hGA.on kb;replace cg:=cellS kb cg;replace cv:=cellS kb cv;replace ca:=cellS kb ca;replace x7:=cellS kb x7
 have hgr:=zby hgr0 kb
 clear kb
 refine tkq 0 (h:=tkq 1 (h:=tkq 2 (h:=tkq 3 (h:=tkq 4 (h:=tkq 5 (h:=tkq 6 (h:=?_)))))))
 refine rdq 7 (h:=fun K hK=>?_)
 go_simp
 refine bkq hK ⟨cg,cv,ca⟩ (h:=fun hHeld=>?_)
 clear hK K
 refine rdq 8 (h:=fun K hK=>?_)
 have hT0:∀ u,u<n->base<=(r u).b/\(r u).b<w2.heap.size:=fun u hu=>hT.lt hu
 have hTr:=hT.rd ha
 have hz8:=hgr.size
 go_simp
 go_wp2_with fail
 refine (zfM s k _ _ _ hGA hs hTr HWL.out hk).mono ?_
 rintro e w3 ⟨q,rfl,hq,rq,kb⟩
 replace hT:=hT.on kb;replace hGA:=hGA.on kb;replace cg:=cellS kb cg;replace cv:=cellS kb cv;replace ca:=cellS kb ca;replace x7:=cellS kb x7;replace hgr:=zby hgr kb
 have hqn:∀ u,u<n->u≠a->(r u).b≠q:=fun u hu _ e=>by have:=(hT0 u hu); omega
 have hqb:base<=q:=by have:=hT0 a ha; omega
 clear kb
 have hrO:=zau rq hqb (show k<=maxLen by unfold maxLen; omega)
 clear rq x7
 refine bkq hK ⟨cg,cv,ca⟩ (h:=fun hHeld=>?_)
 clear hK K
 refine tkq 9 (h:=?_)
 refine rdq 10 (h:=fun K hK=>?_)
 have HPU:=hid (hT.put ha hrO hqn)
 have z0:=hT.froz (o+a)
 have v0:=hT.cell ha
 replace hgr:=zan hgr (o+a) (.slice (some ⟨q,0,none⟩) k k);replace cg:=zab (p:=⟨tb,o+a,none⟩) (u:=(.slice (some ⟨q,0,none⟩) k k)) cg HGB.out;replace cv:=zab (p:=⟨tb,o+a,none⟩) (u:=(.slice (some ⟨q,0,none⟩) k k)) cv HVB.out;replace ca:=zab (p:=⟨tb,o+a,none⟩) (u:=(.slice (some ⟨q,0,none⟩) k k)) ca HAB.out
 go_simp
 clear z0 v0 hT hrO hGA
 obtain ⟨w4,hw⟩:∃ W,W=World.setCell w3 ⟨tb,o+a,none⟩ (.slice (some ⟨q,0,none⟩) k k):=⟨_,rfl⟩
 rw [<-hw] at HPU hgr cg cv ca ⊢;clear hw
 refine bkq hK ⟨cg,cv,ca⟩ (h:=fun hHeld=>?_)
 clear hK K
 refine wpAnyH_done (by kernel_rfl) ?_ _
 clear hHeld
 go_wp2
 refine endNone rfl rfl ?_
 exact ⟨q,Nat.le_trans hz8 hq,rfl,hgr,HPU.out⟩
theorem zhE {P M g gb ib xb i x:Nat} {m:Nat->Nat} (hG:GF w base g P M m) (hbw:base<=w.heap.size) (hT:DTab w base tb o n c k r W) (ha:a<n) (hi:i<n) (hia:i≠a) (hW:∀ u,u<n->∀ j,j<k->W u j<P ^ M) (hx:x<P ^ M) (hk:k<=1048576)
  (cg:w.cell? ⟨gb,0,none⟩=some (.pointer (some ⟨g,0,none⟩))) (ci:w.cell? ⟨ib,0,none⟩=some (.int .i64 (i:Nat))) (cx:w.cell? ⟨xb,0,none⟩=some (.int .i64 (x:Nat))) (ca:w.cell? ⟨ab,0,none⟩=some (.int .i64 (a:Nat)))
  (hgb:gb≠(r i).b) (hib:ib≠(r i).b) (hxb:xb≠(r i).b) (hab:ab≠(r i).b) :
  Calls Tryz.prog 261 #[.slice (some ⟨tb,o,none⟩) n c,.pointer (some ⟨gb,0,none⟩),.pointer (some ⟨ib,0,none⟩),.pointer (some ⟨xb,0,none⟩),.pointer (some ⟨ab,0,none⟩)] w fun e w'=>e=.returned (.tuple #[])/\w.grownBy w' (some (r i).b)/\DTab w' base tb o n c k r (fun u=>if u=i then fun j=>addF P M (W i j) (mulF P M m (negF P M x) (W a j)) else W u):=by
 obtain ⟨w1,hw1⟩:∃ W,W=w:=⟨_,rfl⟩
 have hbw0:base<=w1.heap.size:=by rw [hw1]; exact hbw
 have hG0:=hG
 rw [<-hw1] at hG0 hT cg ci cx ca
 have hGA:=hG0.at (Below.refl _ _) hbw0
 have hGB:GF w1 base g P M m:=hG0
 have hGA0:=hG0
 have hP0:0<P:=by have:=hGA.ok.1.1; omega
 have ha0:(0:Int)<=(a:Int):=by omega
 have hai:(a:Int)<(n:Int):=by omega
 have hi0:(0:Int)<=(i:Int):=by omega
 have hii:(i:Int)<(n:Int):=by omega
 have HGB:=hid hgb
 have HIB:=hid hib
 have HXB:=hid hxb
 have HAB:=hid hab
 have HWL:=hid hW
 have HIX:=hid (zaE hx)
 have x4:=hT.cell hi
 have x11:=hT.cell ha
 have hTi:=hT.row i hi
 have HRI:=hid (hT.rd ha)
 have HNE:=hid (hT.apart a i ha hi (fun e=>hia e.symm))
 have HIA:=hid hia
 rw [<-hw1];clear hw1 hgb hib hxb hab hG hG0 hbw hW hia
 go_enter Tryz.func261, Tryz.ntmps261
 go_wp2
 refine wp_region_held_drew (S:=fun w'=>w'.cell? ⟨gb,0,none⟩=some (.pointer (some ⟨g,0,none⟩))/\w'.cell? ⟨ib,0,none⟩=some (.int .i64 (i:Nat))/\w'.cell? ⟨xb,0,none⟩=some (.int .i64 (x:Nat))/\w'.cell? ⟨ab,0,none⟩=some (.int .i64 (a:Nat))/\w'.cell? ⟨tb,o+i,none⟩=some (.slice (some ⟨(r i).b,(r i).o,none⟩) k (r i).c)/\w'.cell? ⟨tb,o+a,none⟩=some (.slice (some ⟨(r a).b,(r a).o,none⟩) k (r a).c)) (by kernel_rfl) ⟨cellS (Below.refl _ _).drew (cg),cellS (Below.refl _ _).drew (ci),cellS (Below.refl _ _).drew (cx),cellS (Below.refl _ _).drew (ca),cellS (Below.refl _ _).drew (x4),cellS (Below.refl _ _).drew (x11)⟩ (fun hHeld=>?_)
 obtain ⟨w2,hw⟩:∃ W,W=World.drew w1:=⟨_,rfl⟩
 have kb:Below w1.heap.size w1 w2:=by rw [hw]; exact (Below.refl _ _).drew
 rw [<-hw] at hHeld ⊢;clear hw;replace hT:=hT.on kb;replace hGA:=hGA.on kb;replace cg:=cellS kb cg;replace ci:=cellS kb ci;replace cx:=cellS kb cx;replace ca:=cellS kb ca;replace x4:=cellS kb x4;replace x11:=cellS kb x11
 have HKD:=hid kb
 clear kb
 refine tkq 0 (h:=tkq 1 (h:=tkq 2 (h:=tkq 3 (h:=tkq 4 (h:=tkq 5 (h:=tkq 6 (h:=tkq 8 (h:=tkq 9 (h:=tkq 10 (h:=tkq 11 (h:=?_)))))))))))
 refine rdq 7 (h:=fun K hK=>?_)
 go_simp
 go_wp2_with fail
 refine (zdH (x:Int) hGA).mono ?_
 rintro e w3 ⟨rfl,kb⟩
 replace hT:=hT.on kb;replace hGA:=hGA.on kb;replace cg:=cellS kb cg;replace ci:=cellS kb ci;replace cx:=cellS kb cx;replace ca:=cellS kb ca;replace x4:=cellS kb x4;replace x11:=cellS kb x11
 have HKC:=hid (HKD.out.trans (kb.mono HKD.out.size))
 clear kb;rw [HIX.out]
 obtain ⟨y,hy⟩:∃ y,y=negF P M x:=⟨_,rfl⟩
 rw [<-hy]
 have hyq:y<P ^ M:=by rw [hy]; exact za7 hP0
 have HY:=hid hy
 clear hy
 refine bkq hK ⟨cg,ci,cx,ca,x4,x11⟩ (h:=fun hHeld=>?_)
 clear hK K
 refine rdq 12 (h:=fun K hK=>?_)
 have hGC:=(hGA0.at (HKC.out.mono hbw0) (Nat.le_trans hbw0 HKC.out.size))
 have hTr:=hT.row i hi
 have hTa:=hT.rd ha
 have hbc:=Nat.le_trans hbw0 HKC.out.size
 go_simp
 go_wp2_with fail
 refine (ziT P M g base (r i).b (r i).o (r i).c (r a).b (r a).o (r a).c k y m (W i) (W a) w3 (hGB.below' (HKC.out.mono hbw0)) hbc hTr hTa HNE.out hyq (HWL.out i hi) (HWL.out a ha) hk).mono ?_
 rintro e w4 ⟨rfl,hg9,hO9⟩
 have HTT:=hid (hT.rowed hi hg9 hO9)
 have HGG:=hid (zgK HKC.out hg9)
 replace cg:=zas hg9 cg (fun e=>HGB.out (by injection e))
 replace ci:=zas hg9 ci (fun e=>HIB.out (by injection e))
 replace cx:=zas hg9 cx (fun e=>HXB.out (by injection e))
 replace ca:=zas hg9 ca (fun e=>HAB.out (by injection e))
 have hnt:=hT.ne hi
 replace x4:=zas hg9 x4 (fun e=>hnt (by injection e with e; exact e.symm))
 replace x11:=zas hg9 x11 (fun e=>hnt (by injection e with e; exact e.symm))
 clear hg9 hO9 hT hTr hTa hGA hGC
 refine bkq hK ⟨cg,ci,cx,ca,x4,x11⟩ (h:=fun hHeld=>?_)
 clear hK K
 refine wpAnyH_done (by kernel_rfl) ?_ _
 clear hHeld
 go_wp2
 refine endNone rfl rfl ?_
 rw [HY.out] at HTT
 exact ⟨rfl,HGG.out,HTT.out⟩
end
section
variable {w:World} {base tb o n c k a t kb ab rb zb:Nat} {r:Nat->RowAt} {W:Nat->Nat->Nat}
theorem zgM (hT:DTab w base tb o n c k r W) (ha:a<n) (ht:t<n) (ck:w.cell? ⟨kb,0,none⟩=some (.int .i64 (t:Nat))) (ca:w.cell? ⟨ab,0,none⟩=some (.int .i64 (a:Nat))) (hkb:kb≠tb) (hab:ab≠tb)
  (cr:w.cell? ⟨rb,0,none⟩=some (.slice (some ⟨tb,o,none⟩) n c)) (cz:w.cell? ⟨zb,0,none⟩=some (.slice none 0 0)) (hzb:zb≠tb) :
  Calls Tryz.prog 258 #[.func (.func 259) #[] #[.pointer (some ⟨kb,0,none⟩),.pointer (some ⟨ab,0,none⟩)],.pointer (some ⟨rb,0,none⟩),.pointer (some ⟨zb,0,none⟩)] w (TabbedPost w base tb o n c k (fun u=>if u=t then r a else if u=a then r t else r u) (fun u=>if u=t then W a else if u=a then W t else W u)):=by
 have hcf:∀ (x p1 p2:Value) (W:World),(callFunc 259 #[x,p1,p2]).run Tryz.prog W=.ok (.enter 259 #[x,p1,p2]) W:=fun _ _ _ _=>by kernel_rfl
 have HZB:=hid hzb
 clear hzb
 go_enter Tryz.func258, Tryz.ntmps258
 go_wp2_with fail
 refine (zhD hT ha ht ck ca hkb hab).mono ?_
 rintro e w1 ⟨rfl,hg,hT1⟩
 have cz1:=zas hg cz (fun e=>HZB.out (by injection e))
 have HG:=hid hg
 have HT:=hid hT1
 clear hg hT1 cz cr ck ca hT hcf
 go_wp2
 refine endNone rfl rfl ?_
 exact ⟨rfl,HG.out,HT.out⟩
theorem zgN {P M g gb vb s:Nat} {m:Nat->Nat} (hG:GF w base g P M m) (hbw:base<=w.heap.size) (hT:DTab w base tb o n c k r W) (ha:a<n) (hW:∀ j,j<k->W a j<P ^ M) (hs:s<P ^ M) (hk:k<=1048576)
  (cg:w.cell? ⟨gb,0,none⟩=some (.pointer (some ⟨g,0,none⟩))) (cv:w.cell? ⟨vb,0,none⟩=some (.int .i64 (s:Nat))) (ca:w.cell? ⟨ab,0,none⟩=some (.int .i64 (a:Nat))) (hgb:gb≠tb) (hvb:vb≠tb) (hab:ab≠tb)
  (cr:w.cell? ⟨rb,0,none⟩=some (.slice (some ⟨tb,o,none⟩) n c)) (cz:w.cell? ⟨zb,0,none⟩=some (.slice none 0 0)) (hzb:zb≠tb) :
  Calls Tryz.prog 258 #[.func (.func 260) #[] #[.pointer (some ⟨gb,0,none⟩),.pointer (some ⟨vb,0,none⟩),.pointer (some ⟨ab,0,none⟩)],.pointer (some ⟨rb,0,none⟩),.pointer (some ⟨zb,0,none⟩)] w fun e w'=>∃ q,w.heap.size<=q/\TabbedPost w base tb o n c k (fun u=>if u=a then ⟨q,0,k⟩ else r u) (fun u=>if u=a then fun j=>mulF P M m s (W a j) else W u) e w':=by
 have hcf:∀ (x p1 p2 p3:Value) (W:World),(callFunc 260 #[x,p1,p2,p3]).run Tryz.prog W=.ok (.enter 260 #[x,p1,p2,p3]) W:=fun _ _ _ _ _=>by kernel_rfl
 have HZB:=hid hzb
 clear hzb
 go_enter Tryz.func258, Tryz.ntmps258
 go_wp2_with fail
 refine (zgL hG hbw hT ha hW hs hk cg cv ca hgb hvb hab).mono ?_
 rintro e w1 ⟨q,hq,rfl,hg,hT1⟩
 have cz1:=zas hg cz (fun e=>HZB.out (by injection e))
 have HG:=hid hg
 have HT:=hid hT1
 have HQ:=hid hq
 clear hg hT1 cz cr cg cv ca hT hcf hG hq
 go_wp2
 refine endNone rfl rfl ?_
 exact ⟨q,HQ.out,rfl,HG.out,HT.out⟩
theorem zgO {P M g gb ib xb i x:Nat} {m:Nat->Nat} (hG:GF w base g P M m) (hbw:base<=w.heap.size) (hT:DTab w base tb o n c k r W) (ha:a<n) (hi:i<n) (hia:i≠a) (hW:∀ u,u<n->∀ j,j<k->W u j<P ^ M) (hx:x<P ^ M) (hk:k<=1048576)
  (cg:w.cell? ⟨gb,0,none⟩=some (.pointer (some ⟨g,0,none⟩))) (ci:w.cell? ⟨ib,0,none⟩=some (.int .i64 (i:Nat))) (cx:w.cell? ⟨xb,0,none⟩=some (.int .i64 (x:Nat))) (ca:w.cell? ⟨ab,0,none⟩=some (.int .i64 (a:Nat)))
  (hgb:gb≠(r i).b) (hib:ib≠(r i).b) (hxb:xb≠(r i).b) (hab:ab≠(r i).b)
  (cr:w.cell? ⟨rb,0,none⟩=some (.slice (some ⟨tb,o,none⟩) n c)) (cz:w.cell? ⟨zb,0,none⟩=some (.slice none 0 0)) (hzb:zb≠(r i).b) :
  Calls Tryz.prog 258 #[.func (.func 261) #[] #[.pointer (some ⟨gb,0,none⟩),.pointer (some ⟨ib,0,none⟩),.pointer (some ⟨xb,0,none⟩),.pointer (some ⟨ab,0,none⟩)],.pointer (some ⟨rb,0,none⟩),.pointer (some ⟨zb,0,none⟩)] w fun e w'=>e=.returned (.tuple #[])/\w.grownBy w' (some (r i).b)/\DTab w' base tb o n c k r (fun u=>if u=i then fun j=>addF P M (W i j) (mulF P M m (negF P M x) (W a j)) else W u):=by
 have hcf:∀ (x p1 p2 p3 p4:Value) (W:World),(callFunc 261 #[x,p1,p2,p3,p4]).run Tryz.prog W=.ok (.enter 261 #[x,p1,p2,p3,p4]) W:=fun _ _ _ _ _ _=>by kernel_rfl
 have HZB:=hid hzb
 clear hzb
 go_enter Tryz.func258, Tryz.ntmps258
 go_wp2_with fail
 refine (zhE hG hbw hT ha hi hia hW hx hk cg ci cx ca hgb hib hxb hab).mono ?_
 rintro e w1 ⟨rfl,hg,hT1⟩
 have cz1:=zas hg cz (fun e=>HZB.out (by injection e))
 have HG:=hid hg
 have HT:=hid hT1
 clear hg hT1 cz cr cg ci cx ca hT hcf hG
 go_wp2
 refine endNone rfl rfl ?_
 exact ⟨rfl,HG.out,HT.out⟩
end
theorem zaH {w:World} {base e s b o n c g m:Nat} {t:TypeId} {F:Nat->Value} {f:Nat->Nat->Value} (hr:w.rowIs g t m F) (h:Own w base e s (.slice (some ⟨b,o,none⟩) n c) n f) (hne:t≠e):g≠b:=by
 rcases zaL hr h hne with h1 | h1
 ·cases h1
 ·exact fun e=>h1 (by show some _=some _; rw [e])
structure EMem (w0 w:World) (base g tb o n c k b4 b5 b7 a:Nat) (u:Value) (r:Nat->RowAt) (W:Nat->Nat->Nat) (p:Nat->Nat):Prop where
 tab:DTab w base tb o n c k r W
 pv:Own w base 3 1 u a (fun j _=>.int .i64 (p j:Nat))
 ap:∀ i,i<n->u.ownBlock≠some (r i).b
 b4:w.rowIs b4 100 1 (fun _=>.pointer (some ⟨g,0,none⟩))
 b5:w.rowIs b5 25 1 (fun _=>.slice (some ⟨tb,o,none⟩) n c)
 b7:w.rowIs b7 25 1 (fun _=>.slice none 0 0)
 below:Below base w0 w
 base:base<=w0.heap.size
section
variable {w0 w w':World} {base g tb o n c k b4 b5 b7 a:Nat} {u:Value} {r r':Nat->RowAt} {W W':Nat->Nat->Nat} {p:Nat->Nat}
theorem EMem.on (h:EMem w0 w base g tb o n c k b4 b5 b7 a u r W p) (hb:Below w.heap.size w w'):EMem w0 w' base g tb o n c k b4 b5 b7 a u r W p :=
 ⟨h.tab.on hb,h.pv.on hb,h.ap,zaa h.b4 hb,zaa h.b5 hb,zaa h.b7 hb,h.below.trans (hb.mono (Nat.le_trans h.base h.below.size)),h.base⟩
theorem EMem.congr (h:EMem w0 w base g tb o n c k b4 b5 b7 a u r W p) (e:∀ i,i<n->∀ j,j<k->W i j=W' i j):EMem w0 w base g tb o n c k b4 b5 b7 a u r W' p:=⟨h.tab.congr e,h.pv,h.ap,h.b4,h.b5,h.b7,h.below,h.base⟩
theorem EMem.bw (h:EMem w0 w base g tb o n c k b4 b5 b7 a u r W p):base<=w.heap.size:=Nat.le_trans h.base h.below.size
def EFar (tb n b4 b5 b7:Nat) (u:Value) (r:Nat->RowAt) (base q:Nat):Prop:=q≠tb/\(∀ i,i<n->q≠(r i).b)/\u.ownBlock≠some q/\q≠b4/\q≠b5/\q≠b7/\base<=q
theorem EMem.far {q:Nat} (h:EMem w0 w base g tb o n c k b4 b5 b7 a u r W p) (hq:w.heap.size<=q):EFar tb n b4 b5 b7 u r base q :=
 ⟨by have:=h.tab.tlt; omega,fun i hi=>by have:=h.tab.lt hi; omega,fun e=>by have:=h.pv.lt _ e; omega,by have:=h.b4.lt; omega,by have:=h.b5.lt; omega,by have:=h.b7.lt; omega,Nat.le_trans h.bw hq⟩
theorem EMem.boxed {q j:Nat} (h:EMem w0 w base g tb o n c k b4 b5 b7 a u r W p) (hf:EFar tb n b4 b5 b7 u r base q) (v:Value):EMem w0 (w.setCell ⟨q,j,none⟩ v) base g tb o n c k b4 b5 b7 a u r W p :=
 have hg:w.grownBy (w.setCell ⟨q,j,none⟩ v) (some q):=zaO w q j v
 ⟨h.tab.kept hg (fun e=>hf.1 (by injection e)) (fun i hi e=>hf.2.1 i hi (by injection e)),h.pv.kept hg (.inr fun e=>hf.2.2.1 e),h.ap,h.b4.setOther (fun e=>hf.2.2.2.1 e.symm) _,h.b5.setOther (fun e=>hf.2.2.2.2.1 e.symm) _,h.b7.setOther (fun e=>hf.2.2.2.2.2.1 e.symm) _,h.below.setCell (p:=⟨q,j,none⟩) hf.2.2.2.2.2.2 v,h.base⟩
theorem EMem.tabbed (h:EMem w0 w base g tb o n c k b4 b5 b7 a u r W p) (hg:w.grownBy w' (some tb)) (hT:DTab w' base tb o n c k r' W') (hap:∀ i,i<n->u.ownBlock≠some (r' i).b):EMem w0 w' base g tb o n c k b4 b5 b7 a u r' W' p :=
 ⟨hT,h.pv.kept hg (zc2 h.tab.tab h.pv (by decide)),hap,zaj h.b4 hg (zaH h.b4 h.tab.tab (by decide)),zaj h.b5 hg (zaH h.b5 h.tab.tab (by decide)),zaj h.b7 hg (zaH h.b7 h.tab.tab (by decide)),h.below.grown hg h.bw (fun q e=>by have:=h.tab.tlt.1; injection e with e; omega),h.base⟩
theorem EMem.rowed {i:Nat} (h:EMem w0 w base g tb o n c k b4 b5 b7 a u r W p) (hi:i<n) (hg:w.grownBy w' (some (r i).b)) (hT:DTab w' base tb o n c k r W'):EMem w0 w' base g tb o n c k b4 b5 b7 a u r W' p :=
 ⟨hT,h.pv.kept hg (.inr (h.ap i hi)),h.ap,zaj h.b4 hg (zaH h.b4 (h.tab.row i hi) (by decide)),zaj h.b5 hg (zaH h.b5 (h.tab.row i hi) (by decide)),zaj h.b7 hg (zaH h.b7 (h.tab.row i hi) (by decide)),h.below.grown hg h.bw (fun q e=>by have:=(h.tab.lt hi).1; injection e with e; omega),h.base⟩
theorem EMem.pushed {u':Value} {p':Nat->Nat} (h:EMem w0 w base g tb o n c k b4 b5 b7 a u r W p) (ho:Own w' base 3 1 u' (a+1) (fun j _=>.int .i64 (p' j:Nat))) (hg:w.grownBy w' u.ownBlock) (hat:u'.ownBlock=u.ownBlock∨u'.ownBlock=some w.heap.size):EMem w0 w' base g tb o n c k b4 b5 b7 (a+1) u' r W p':=by
 have hne4:∀ {q:Nat} {t:TypeId} {F:Nat->Value},w.rowIs q t 1 F->t ≠ 3 -> w'.rowIs q t 1 F:=fun {q t F} hr hne=>hr.of_block (hg.block q hr.lt fun e=>(zaL hr h.pv hne).elim (fun h1=>by rw [h1] at e; cases e) fun h1=>h1 e.symm)
 refine ⟨⟨h.tab.tab.kept hg (zc2 h.pv h.tab.tab (by decide)),fun i hi=>(h.tab.row i hi).kept hg (.inr fun e=>h.ap i hi e.symm),h.tab.apart⟩,ho,fun i hi e=>?_,hne4 h.b4 (by decide),hne4 h.b5 (by decide),hne4 h.b7 (by decide),h.below.grown hg h.bw (fun q e=>(h.pv.lt q e).1),h.base⟩
 rcases hat with h1 | h1
 ·exact h.ap i hi (by rw [<-h1]; exact e)
 ·rw [h1] at e
  injection e with e
  have:=(h.tab.lt hi).2
  omega
end
end Go.Proofs.YtioagplajkoohaaGreat