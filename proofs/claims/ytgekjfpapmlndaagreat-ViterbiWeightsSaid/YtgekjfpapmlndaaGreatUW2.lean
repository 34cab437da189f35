/- Merged texts of a claim: FldP, PolW, FldLaw. -/
import Derived.Test.YtgekjfpapmlndaaGreatUW1
import Derived.Deep.RegionHeld3
import Derived.StillTailTactics
namespace Go.Proofs.YtgekjfpapmlndaaGreat
set_option maxRecDepth 100000
set_option maxHeartbeats 32000000
open KE
open Go.RowKit
def FldOk (P M:Nat):Prop:=2<=P/\1<=M/\M<=8/\P ^ M<=256
theorem FldOk.pow_le {P M i:Nat} (h:FldOk P M) (hi:i<=M):P ^ i<=256:=Nat.le_trans (Nat.pow_le_pow_right (by have:=h.1; omega) hi) h.2.2.2
theorem FldOk.P_le {P M:Nat} (h:FldOk P M):P<=256:=by
 have:=h.pow_le (i:=1) h.2.1
 simpa using this
theorem fieldBox {w:World} {P M:Int} {A:Option Addr} {k c:Nat} (T:TypeId) :
  (w.alloc (.cells #[.int .i64 P,.int .i64 M,.slice A k c] T)).cell? ⟨w.heap.size,0,none⟩=some (.int .i64 P)/\(w.alloc (.cells #[.int .i64 P,.int .i64 M,.slice A k c] T)).cell? ⟨w.heap.size,1,none⟩=some (.int .i64 M)/\(w.alloc (.cells #[.int .i64 P,.int .i64 M,.slice A k c] T)).cell? ⟨w.heap.size,2,none⟩=some (.slice A k c):=by
 have hg:=heap_alloc_new w (.cells #[.int .i64 P,.int .i64 M,.slice A k c] T)
 exact ⟨by rw [cell_of_row _ _ _ _ T (0,0) hg]; rfl,by rw [cell_of_row _ _ _ _ T (0,0) hg]; rfl,by rw [cell_of_row _ _ _ _ T (0,0) hg]; rfl⟩
def ordV (P M:Int):Int:=if 2<=P/\1<=M/\M<=8/\P.toNat ^ M.toNat<=256 then ((P.toNat ^ M.toNat:Nat):Int) else 0
theorem zct {P M:Nat} (h:FldOk P M):ordV (P:Int) (M:Int)=((P ^ M:Nat):Int):=by
 obtain ⟨h1,h2,h3,h4⟩:=h
 unfold ordV
 rw [if_pos ⟨by omega,by omega,by omega,by simpa using h4⟩]
 simp
theorem zii {P M:Int} (h:ordV P M≠0):∃ P' M':Nat,P=P'/\M=M'/\FldOk P' M':=by
 unfold ordV at h
 by_cases e:2<=P/\1<=M/\M<=8/\P.toNat ^ M.toNat<=256
 ·exact ⟨P.toNat,M.toNat,by omega,by omega,by omega,by omega,by omega,e.2.2.2⟩
 ·rw [if_neg e] at h; exact absurd rfl h
theorem zdc {P M:Int} (h:P<2∨M<1∨8<M):ordV P M=0:=by unfold ordV; rw [if_neg (by omega)]
def OrderPost (P M:Int) (w:World) (e:Ending) (w':World):Prop:=e=.returned (.int .i64 (ordV P M))/\Below w.heap.size w w'
theorem zaB {P M:Int} {w w':World} (h:ordV P M=0) (hB:Below w.heap.size w w'):OrderPost P M w (.returned (.int .i64 0)) w':=⟨by rw [h],hB⟩
theorem zck (P M:Int) (A:Option Addr) (k c:Nat) (w:World) :
  Calls Tryz.prog 31 #[.agg #[.int .i64 P,.int .i64 M,.slice A k c]] w (OrderPost P M w):=by
 have hB:=aly w (.cells #[.int .i64 P,.int .i64 M,.slice A k c] 24)
 obtain ⟨f0,f1,f2⟩:=fieldBox (w:=w) (P:=P) (M:=M) (A:=A) (k:=k) (c:=c) 24
 obtain ⟨w0,a⟩:=exx (w.alloc (.cells #[.int .i64 P,.int .i64 M,.slice A k c] 24))
 rw [<-a] at hB f0 f1 f2
 by_cases h1:P<2
 ·go_enter Tryz.func31, Tryz.ntmps31
  go_upto_region 1 with fail
  rw [<-a];clear a
  go_wp2
  go_ret
  exact zaB (zdc (.inl h1)) hB
 by_cases h2:M<1
 ·have j:¬ P<2:=h1
  go_enter Tryz.func31, Tryz.ntmps31
  go_upto_region 1 with fail
  rw [<-a];clear a
  go_wp2
  go_ret
  exact zaB (zdc (.inr (.inl h2))) hB
 by_cases h3:8<M
 ·have j:¬ P<2:=h1
  have x:¬ M<1:=h2
  go_enter Tryz.func31, Tryz.ntmps31
  go_upto_region 1 with fail
  rw [<-a];clear a
  go_wp2
  go_ret
  exact zaB (zdc (.inr (.inr h3))) hB
 obtain ⟨P,rfl⟩:=Int.eq_ofNat_of_zero_le (show 0<=P by omega)
 obtain ⟨M,rfl⟩:=Int.eq_ofNat_of_zero_le (show 0<=M by omega)
 have r:(2:Int)<=(P:Int):=by omega
 have v:(1:Int)<=(M:Int):=by omega
 have u:(M:Int)<=8:=by omega
 have s:¬ (P:Int)=0:=by omega
 have d1:decide ((P:Int)<2)=false:=by simp; omega
 have d2:decide ((M:Int)<1)=false:=by simp; omega
 have d3:decide ((8:Int)<(M:Int))=false:=by simp; omega
 clear h1 h2 h3
 go_enter Tryz.func31, Tryz.ntmps31
 go_upto_region 1 with fail
 rw [<-a];clear a
 go_wp2
 go_loop [3,4] (fun qv iv=>∃ i:Nat,iv=.int .i64 (i:Nat)/\i<=M/\qv=.int .i64 (P ^ i:Nat)/\P ^ i<=256) (fun _ iv=>M - (intOf iv).toNat)
 case atStart=>exact ⟨0,rfl,by omega,rfl,by simp⟩
 obtain ⟨i,rfl,hi,rfl,hq⟩:=hrel
 have q:(0:Int)<=(i:Int):=by omega
 obtain ⟨Q,hQ⟩:=exx (P ^ i)
 rw [<-hQ] at hq;rw [<-hQ]
 have HQ:=hid hQ
 clear hQ
 by_cases hlt:i<M
 rotate_left
 ·obtain rfl:i=M:=by omega
  have d:¬ (i:Int)<(i:Int):=by omega
  go_wp2
  go_ret
  exact ⟨by rw [zct ⟨by omega,by omega,by omega,by rw [<-HQ.out]; exact hq⟩,<-HQ.out]; rfl,hB⟩
 have d:(i:Int)<(M:Int):=by omega
 have o:(0:Int)<=(Q:Int):=by omega
 have n:(Q:Int)<=256:=by omega
 by_cases hbig:(256:Int) / (P:Int)<(Q:Int)
 ·have e:ordV (P:Int) (M:Int)=0:=by
   unfold ordV
   rw [if_neg]
   intro hc
   have h1:(256:Int) / (P:Int)=((256 / P:Nat):Int):=by simp
   rw [h1] at hbig
   have h2:¬ Q*P<=256:=fun h=>by
    have:=(Nat.le_div_iff_mul_le (show 0<P by omega)).2 h
    omega
   have h3:P ^ (i+1)<=P ^ M:=Nat.pow_le_pow_right (by omega) (by omega)
   have h4:=hc.2.2.2
   simp only [Int.toNat_natCast] at h4
   rw [Nat.pow_succ,<-HQ.out] at h3
   omega
  have l:=hid e
  clear e
  go_wp2
  go_ret
  exact zaB l.out hB
 have p:¬ (256:Int) / (P:Int)<(Q:Int):=hbig
 have g:Q*P<=256:=by
  have h1:(256:Int) / (P:Int)=((256 / P:Nat):Int):=by simp
  rw [h1] at hbig
  have h2:Q<=256 / P:=by omega
  exact (Nat.le_div_iff_mul_le (by omega)).1 h2
 have b:(Q:Int)*(P:Int)=((Q*P:Nat):Int):=by simp
 obtain ⟨R,hR⟩:=exx (Q*P)
 rw [<-hR] at g b
 have HR:Hid (R=P ^ (i+1)):=by rw [hR,HQ.out,Nat.pow_succ]; rfl
 have m:IntKind.i64.wrap ((Q:Int)*(P:Int))=(R:Int):=by rw [b]; exact IntWalk.i64_in _ (by omega)
 clear hR hbig
 go_wp2
 go_round
 case rel=>exact ⟨i+1,by go_num,by omega,by rw [<-HR.out],by rw [<-HR.out]; exact g⟩
 case measure=>simp [intOf]; omega
def PrimeB (P:Nat):Prop:=∀ d,2<=d->d<P->P % d≠0
def PrimePost (P:Nat) (w:World) (e:Ending) (w':World):Prop:=∃ v:Bool,e=.returned (.bool v)/\(v=true↔PrimeB P)/\w=w'
theorem zhm (P:Nat) (w:World) (hP:P<=256) :
  Calls Tryz.prog 133 #[.int .i64 (P:Nat)] w (PrimePost P w):=by
 go_enter Tryz.func133, Tryz.ntmps133
 go_wp2
 go_loop [3] (fun iv=>∃ d:Nat,iv=.int .i64 (d:Nat)/\2<=d/\d<=P+2/\∀ d',2<=d'->d'<d->P % d'≠0) (fun iv=>P+2 - (intOf iv).toNat)
 case atStart=>exact ⟨2,rfl,by omega,by omega,fun d' h1 h2=>by omega⟩
 obtain ⟨d,rfl,h2,hd,hg⟩:=hrel
 have HG:=hid hg
 clear hg
 have g:(2:Int)<=(d:Int):=by omega
 have i:¬ (d:Int)=0:=by omega
 have j:(0:Int)<=(P:Int):=by omega
 by_cases hlt:d<P
 rotate_left
 ·have b:¬ (d:Int)<(P:Int):=by omega
  go_wp2
  go_ret
  exact ⟨true,rfl,⟨fun _ d' e1 e2=>HG.out d' e1 (by omega),fun _=>rfl⟩,rfl⟩
 have b:(d:Int)<(P:Int):=by omega
 have a:(P:Int) % (d:Int)=((P % d:Nat):Int):=by simp
 obtain ⟨r,hr⟩:=exx (P % d)
 rw [<-hr] at a
 have HR:=hid hr
 clear hr
 by_cases h0:r=0
 ·subst h0
  go_wp2
  go_ret
  exact ⟨false,rfl,⟨(fun h=>by cases h),fun h=>absurd HR.out.symm (h d h2 hlt)⟩,rfl⟩
 have hb:((r:Int) == 0)=false:=by simp; omega
 have c:Hid (∀ d',2<=d'->d'<d+1->P % d'≠0):=fun d' e1 e2=>by
  by_cases e:d'=d
  ·rw [e,<-HR.out]; exact h0
  ·exact HG.out d' e1 (by omega)
 go_wp2
 go_round
 case rel=>exact ⟨d+1,by go_num,by omega,by omega,c.out⟩
 case measure=>simp [intOf]; omega
def dig (p x i:Nat):Nat:=x / p ^ i % p
theorem zdN (x p n:Nat) (w:World) (hx:x<=1048576) (hp:1<=p) (hp2:p<=256) (hn:n<=64) :
  Calls Tryz.prog 190 #[.int .i64 (x:Nat),.int .i64 (p:Nat),.int .i64 (n:Nat)] w fun e w'=>e=.returned (.slice (some ⟨w.heap.size,0,none⟩) n n)/\w'.rowIs w.heap.size 3 n (fun i=>.int .i64 (dig p x i:Nat))/\Below w.heap.size w w':=by
 have o:=fun W=>zaf (P:=Tryz.prog) 22 3 _ 8 Tryz.underlying22 Tryz.infoInt rfl (n:Int) (by omega) (by omega) (by omega) W
 simp only [Int.toNat_natCast] at o
 have row:=World.rowIs_made w (.int .i64 0) n 3
 have hB:=aly w (.cells (madeCells #[.int .i64 0] n) 3)
 have I:(1:Int)<=(p:Int):=by omega
 have J:¬ (p:Int)=0:=by omega
 have H:(p:Int)<=256:=by omega
 go_enter Tryz.func190, Tryz.ntmps190
 go_wp2
 obtain ⟨w1,b⟩:=exx (w.alloc (.cells (madeCells #[.int .i64 0] n) 3))
 obtain ⟨g,hg⟩:=exx w.heap.size
 rw [<-b,<-hg];rw [<-b] at hB row;rw [<-hg] at row
 have u:w.heap.size<=g:=by omega
 have q:=hid hg
 clear b hg o
 go_loopg [0,8] n (fun gg xv iv wx=>∃ i:Nat,iv=.int .i64 (i:Nat)/\xv=.int .i64 (x / p ^ i:Nat)/\i<=n/\n<=i+gg/\wx.rowIs g 3 n (fun j=>.int .i64 (if j<i then (dig p x j:Nat) else 0:Int))/\Below w.heap.size w wx)
 case atStart=>exact ⟨0,rfl,by simp,by omega,by omega,row.congr fun i _=>rfl,hB⟩
 clear row hB
 obtain ⟨i,rfl,rfl,hi,K,row,hB⟩:=hrel
 have L:(0:Int)<=(i:Int):=by omega
 have s:x / p ^ i<=x:=Nat.div_le_self _ _
 have c:x / p ^ (i+1)=x / p ^ i / p:=by rw [Nat.pow_succ,Nat.div_div_eq_div_mul]
 have m:dig p x i=x / p ^ i % p:=rfl
 obtain ⟨y,hy⟩:=exx (x / p ^ i)
 rw [<-hy] at s c m;rw [<-hy]
 have v:=hid c
 have B:=hid m
 clear hy c m
 by_cases hlt:i<n
 rotate_left
 ·obtain rfl:i=n:=by omega
  have k:¬ (i:Int)<(i:Int):=by omega
  have d:Hid (wr.rowIs g 3 i (fun j=>.int .i64 (dig p x j:Nat))):=row.congr fun j hj=>by rw [if_pos hj]
  clear row
  go_wp2
  go_ret
  exact ⟨by rw [q.out]; rfl,by rw [<-q.out]; exact d.out,hB⟩
 have k:(i:Int)<(n:Int):=by omega
 have G:(0:Int)<=(y:Int):=by omega
 have F:(y:Int)<=1048576:=by omega
 have h:(y:Int) % (p:Int)=((y % p:Nat):Int):=by simp
 have l:(y:Int) / (p:Int)=((y / p:Nat):Int):=by simp
 obtain ⟨r,hr⟩:=exx (y % p)
 obtain ⟨z,hz⟩:=exx (y / p)
 rw [<-hr] at h;rw [<-hz] at l
 have E:(0:Int)<=(z:Int):=by omega
 have D:(z:Int)<=1048576:=by have:y / p<=y:=Nat.div_le_self _ _; omega
 have HR:=hid hr
 have HZ:=hid hz
 clear hr hz
 have c0:=row.cell hlt
 have z0:=row.frozen i
 have row2:(wr.setCell ⟨g,i,none⟩ (.int .i64 (r:Int))).rowIs g 3 n (fun j=>.int .i64 (if j<i+1 then (dig p x j:Nat) else 0:Int)):=(row.set i _).congr fun j hj=>by
  by_cases e:j=i
  ·subst e
   rw [if_pos rfl,if_pos (by omega),B.out,HR.out]
  rw [if_neg e]
  by_cases e2:j<i
  ·rw [if_pos e2,if_pos (by omega)]
  ·rw [if_neg e2,if_neg (by omega)]
 have C:Hid (Below w.heap.size w (wr.setCell ⟨g,i,none⟩ (.int .i64 (r:Int)))):=hB.setCell u _
 have a:=hid row2
 clear row2
 go_wp2
 go_roundg (gk - 1)
 case measure=>omega
 case rel=>exact ⟨i+1,by go_num,by rw [v.out,HZ.out],by omega,by omega,a.out,C.out⟩
def fldCell (a b c:Value) (i:Nat):Value:=if i=0 then a else if i=1 then b else c
theorem KB.qc0 {w:World} {g:Nat} {T:TypeId} {a b c:Value} (h:w.rowIs g T 3 (fldCell a b c)) : w.cell? ⟨g,0,none⟩=some a:=h.cell (i:=0) (by decide)
theorem KB.qc1 {w:World} {g:Nat} {T:TypeId} {a b c:Value} (h:w.rowIs g T 3 (fldCell a b c)) : w.cell? ⟨g,1,none⟩=some b:=h.cell (i:=1) (by decide)
theorem KB.qc2 {w:World} {g:Nat} {T:TypeId} {a b c:Value} (h:w.rowIs g T 3 (fldCell a b c)) : w.cell? ⟨g,2,none⟩=some c:=h.cell (i:=2) (by decide)
open KB
theorem zau {w:World} {a b c:Value} {T:TypeId}:(w.alloc (.cells #[a,b,c] T)).rowIs w.heap.size T 3 (fldCell a b c) :=
 ⟨_,heap_alloc_new w _,rfl,fun i hi=>by match i,hi with | 0,_=>rfl | 1,_=>rfl | 2,_=>rfl⟩
theorem zay {w w':World} {g g2:Nat} {t:TypeId} {n:Nat} {f:Nat->Value} (h:w.rowIs g2 t n f) (hg:w.grownBy w' (some g)) (hne:g2≠g):w'.rowIs g2 t n f:=h.of_block (hg.block g2 h.lt (by simp; omega))
theorem zcl (w:World) (g i:Nat) (v:Value):w.grownBy (w.setCell ⟨g,i,none⟩ v) (some g):=by
 refine ⟨rfl,rfl,rfl,by simp,fun k hk hne=>?_⟩
 simp only [World.setCell,Array.getElem?_modify]
 rw [if_neg (fun e=>hne (by rw [e]))]
def isB (q:Nat) (x:Int):Bool:=decide (0<=x/\x<q)
def inV (q:Nat) (x:Int):Nat:=if 0<=x/\x<q then x.toNat else 0
theorem zem {q:Nat} (hq:0<q) (x:Int):inV q x<q:=by unfold inV; split <;> omega
theorem zaj {q x:Nat} (h:x<q):inV q (x:Int)=x:=by unfold inV; rw [if_pos ⟨by omega,by omega⟩]; simp
theorem zf8 (P M:Nat) (A:Option Addr) (k c:Nat) (x:Int) (w:World) (hf:FldOk P M) :
  Calls Tryz.prog 185 #[.agg #[.int .i64 (P:Nat),.int .i64 (M:Nat),.slice A k c],.int .i64 x] w fun e w'=>e=.returned (.bool (isB (P ^ M) x))/\Below w.heap.size w w':=by
 by_cases h0:0<=x
 rotate_left
 ·have hv:Hid (isB (P ^ M) x=false):=by show _=_; simp [isB]; omega
  have hB:=aly w (.cells #[.int .i64 (P:Nat),.int .i64 (M:Nat),.slice A k c] 24)
  have rf:=zau (w:=w) (a:=.int .i64 (P:Nat)) (b:=.int .i64 (M:Nat)) (c:=.slice A k c) (T := 24)
  obtain ⟨w0,d⟩:=exx (w.alloc (.cells #[.int .i64 (P:Nat),.int .i64 (M:Nat),.slice A k c] 24))
  rw [<-d] at hB rf
  go_enter Tryz.func185, Tryz.ntmps185
  go_upto_region 1 with fail
  rw [<-d];clear d
  go_wp2
  go_ret
  exact ⟨by rw [hv.out]; rfl,hB⟩
 have hv:Hid (isB (P ^ M) x=decide (x<(P ^ M:Nat))):=by show _=_; simp [isB,h0]
 have ho:=hid (zct hf)
 have hB:=aly w (.cells #[.int .i64 (P:Nat),.int .i64 (M:Nat),.slice A k c] 24)
 have rf:=zau (w:=w) (a:=.int .i64 (P:Nat)) (b:=.int .i64 (M:Nat)) (c:=.slice A k c) (T := 24)
 obtain ⟨w0,d⟩:=exx (w.alloc (.cells #[.int .i64 (P:Nat),.int .i64 (M:Nat),.slice A k c] 24))
 rw [<-d] at hB rf
 go_enter Tryz.func185, Tryz.ntmps185
 go_upto_region 1 with fail
 rw [<-d];clear d
 have q0:=qc0 rf
 have q1:=qc1 rf
 have q2:=qc2 rf
 go_wp2_with fail
 refine (zck (P:Int) (M:Int) A k c _).mono ?_
 rintro e w1 ⟨rfl,kb⟩
 rw [ho.out];replace hB:=onS hB kb;clear kb q0 q1 q2
 obtain ⟨Q,hQ⟩:=exx (P ^ M)
 rw [<-hQ] at hv;rw [<-hQ]
 have HQ:=hid hQ
 clear hQ
 go_wp2
 go_ret
 exact ⟨by rw [<-HQ.out,hv.out]; rfl,hB⟩
theorem ziG (P M:Nat) (A:Option Addr) (k c:Nat) (x:Int) (w:World) (hf:FldOk P M) :
  Calls Tryz.prog 250 #[.agg #[.int .i64 (P:Nat),.int .i64 (M:Nat),.slice A k c],.int .i64 x] w fun e w'=>e=.returned (.int .i64 (inV (P ^ M) x:Nat))/\Below w.heap.size w w':=by
 have hB:=aly w (.cells #[.int .i64 (P:Nat),.int .i64 (M:Nat),.slice A k c] 24)
 have rf:=zau (w:=w) (a:=.int .i64 (P:Nat)) (b:=.int .i64 (M:Nat)) (c:=.slice A k c) (T := 24)
 obtain ⟨w0,d⟩:=exx (w.alloc (.cells #[.int .i64 (P:Nat),.int .i64 (M:Nat),.slice A k c] 24))
 rw [<-d] at hB rf
 go_enter Tryz.func250, Tryz.ntmps250
 go_upto_region 1 with fail
 rw [<-d];clear d
 have q0:=qc0 rf
 have q1:=qc1 rf
 have q2:=qc2 rf
 go_wp2_with fail
 refine (zf8 P M A k c x _ hf).mono ?_
 rintro e w1 ⟨rfl,kb⟩
 replace hB:=onS hB kb;clear kb q0 q1 q2
 by_cases hx:0<=x/\x<(P ^ M:Nat)
 ·have hv:Hid ((inV (P ^ M) x:Int)=x):=by show _=_; unfold inV; rw [if_pos hx]; omega
  have hd:isB (P ^ M) x=true:=by unfold isB; simpa using hx
  rw [hd];clear hx hd
  go_wp2
  go_ret
  exact ⟨by rw [hv.out]; rfl,hB⟩
 have hv:Hid (inV (P ^ M) x=0):=by show _=_; unfold inV; rw [if_neg hx]
 have hd:isB (P ^ M) x=false:=by unfold isB; simpa using hx
 rw [hd];clear hx hd
 go_wp2
 go_ret
 exact ⟨by rw [hv.out]; rfl,hB⟩
def RowPost (n:Nat) (f:Nat->Value) (w:World) (e:Ending) (w':World):Prop:=∃ g,e=.returned (.slice (some ⟨g,0,none⟩) n n)/\w.heap.size<=g/\w'.rowIs g 3 n f/\Below w.heap.size w w'
theorem za0 (P M:Nat) (A:Option Addr) (k c:Nat) (x:Int) (w:World) (hf:FldOk P M) :
  Calls Tryz.prog 210 #[.agg #[.int .i64 (P:Nat),.int .i64 (M:Nat),.slice A k c],.int .i64 x] w (RowPost M (fun i=>.int .i64 (dig P (inV (P ^ M) x) i:Nat)) w):=by
 have m:=hf.1
 have hP:=hf.P_le
 have n:=hf.2.2.1
 have l:=zem (q:=P ^ M) (Nat.pow_pos (by omega)) x
 have hq:=hf.2.2.2
 have hB:=aly w (.cells #[.int .i64 (P:Nat),.int .i64 (M:Nat),.slice A k c] 24)
 have rf:=zau (w:=w) (a:=.int .i64 (P:Nat)) (b:=.int .i64 (M:Nat)) (c:=.slice A k c) (T := 24)
 obtain ⟨w0,d⟩:=exx (w.alloc (.cells #[.int .i64 (P:Nat),.int .i64 (M:Nat),.slice A k c] 24))
 rw [<-d] at hB rf
 go_enter Tryz.func210, Tryz.ntmps210
 go_upto_region 1 with fail
 rw [<-d];clear d
 have HS:Hid (∀ w':World,w'.rowIs w.heap.size 24 3 (fldCell (.int .i64 (P:Nat)) (.int .i64 (M:Nat)) (.slice A k c))->w'.cell? ⟨w.heap.size,0,none⟩=some (.int .i64 (P:Nat))/\w'.cell? ⟨w.heap.size,1,none⟩=some (.int .i64 (M:Nat))/\w'.cell? ⟨w.heap.size,2,none⟩=some (.slice A k c)):=fun w' hf  => ⟨hf.cell (i:=0) (by omega),hf.cell (i:=1) (by omega),hf.cell (i:=2) (by omega)⟩
 refine wp_region_held_drew (S:=fun w'=>w'.cell? ⟨w.heap.size,0,none⟩=some (.int .i64 (P:Nat))/\w'.cell? ⟨w.heap.size,1,none⟩=some (.int .i64 (M:Nat))/\w'.cell? ⟨w.heap.size,2,none⟩=some (.slice A k c)) (by kernel_rfl) (HS.out _ (show World.rowIs (World.drew _) _ _ _ _ from rf)) (fun hHeld=>?_)
 obtain ⟨w1,hw,kb⟩:=dwx w0
 rw [<-hw] at hHeld ⊢;clear hw;replace rf:=zab rf kb;replace hB:=onS hB kb;clear kb
 refine tkq 0 (h:=tkq 1 (h:=tkq 3 (h:=tkq 4 (h:=tkq 5 (h:=tkq 6 (h:=?_))))))
 refine rdq 2 (h:=fun K hK=>?_)
 go_simp
 go_wp2_with fail
 refine (ziG P M A k c x _ hf).mono ?_
 rintro e w2 ⟨rfl,kb⟩
 replace rf:=zab rf kb;replace hB:=onS hB kb;clear kb
 obtain ⟨y,hy⟩:=exx (inV (P ^ M) x)
 rw [<-hy] at l;rw [<-hy]
 have HY:=hid hy
 clear hy
 refine bkq hK (HS.out _ rf) (h:=fun hHeld=>?_)
 clear hK K
 refine rdq 7 (h:=fun K hK=>?_)
 go_simp
 go_wp2_with fail
 refine (zdN y P M _ (by omega) (by omega) (by omega) (by omega)).mono ?_
 have j:=hB.size
 obtain ⟨g,hg⟩:=exx w2.heap.size
 rw [<-hg] at j ⊢
 rintro e w3 ⟨rfl,rd,kb⟩
 rw [hg] at kb;replace rf:=zab rf kb;replace hB:=onS hB kb;clear kb;clear hg
 refine bkq hK (HS.out _ rf) (h:=fun hHeld=>?_)
 clear hK K
 refine tkq 8 (h:=?_)
 refine wpAnyH_done (by kernel_rfl) ?_ _
 clear hHeld;clear HS
 go_wp2
 go_ret
 exact ⟨g,rfl,j,by rw [<-HY.out]; exact rd,hB⟩
def valN (p:Nat) (f:Nat->Nat):Nat->Nat
 | 0=>0
 | n+1=>f 0+p*valN p (fun i=>f (i+1)) n
theorem za4 {p:Nat}:∀ {n:Nat} {f:Nat->Nat},(∀ i,i<n->f i<p)->valN p f n<p ^ n
 | 0,_,_=>by show 0<1; omega
 | n+1,f,h=>by
  have h1:=za4 (p:=p) (n:=n) (f:=fun i=>f (i+1)) fun i hi=>h (i+1) (by omega)
  have h0:=h 0 (by omega)
  show f 0+p*_<p ^ (n+1)
  have h2:p*(valN p (fun i=>f (i+1)) n+1)<=p*p ^ n:=Nat.mul_le_mul_left p h1
  rw [Nat.mul_add,Nat.mul_one] at h2;rw [Nat.pow_succ,Nat.mul_comm (p ^ n) p]
  omega
theorem zaK {p:Nat}:∀ {n:Nat} {f g:Nat->Nat},(∀ i,i<n->f i=g i)->valN p f n=valN p g n
 | 0,_,_,_=>rfl
 | n+1,f,g,h=>by
  show f 0+p*_=g 0+p*_
  rw [h 0 (by omega),zaK fun i hi=>h (i+1) (by omega)]
theorem zbR (P M:Nat) (A:Option Addr) (k c:Nat) (T:Option Addr) (n d:Nat) (f:Nat->Nat) (w:World) (hP2:2<=P) (hP:P<=256) (h:IntsR w w.heap.size T n (fun i=>(f i:Nat))) (hd:Hid (∀ i,i<n->f i<P)) (hn:P ^ n<=256) (hn8:n<=8) :
  Calls Tryz.prog 211 #[.agg #[.int .i64 (P:Nat),.int .i64 (M:Nat),.slice A k c],.slice T n d] w fun e w'=>e=.returned (.int .i64 (valN P f n:Nat))/\Below w.heap.size w w':=by
 have hB:=aly w (.cells #[.int .i64 (P:Nat),.int .i64 (M:Nat),.slice A k c] 24)
 have rf:=zau (w:=w) (a:=.int .i64 (P:Nat)) (b:=.int .i64 (M:Nat)) (c:=.slice A k c) (T := 24)
 obtain ⟨w0,m⟩:=exx (w.alloc (.cells #[.int .i64 (P:Nat),.int .i64 (M:Nat),.slice A k c] 24))
 rw [<-m] at hB rf
 go_enter Tryz.func211, Tryz.ntmps211
 go_upto_region 1 with fail
 rw [<-m];clear m
 go_wp2
 go_loopg [5,6] n (fun gg xv iv wx=>∃ j:Nat,iv=.int .i64 ((n:Int) - 1 - (j:Nat))/\xv=.int .i64 (valN P (fun i=>f (n - j+i)) j:Nat)/\j<=n/\n<=j+gg/\wx.rowIs w.heap.size 24 3 (fldCell (.int .i64 (P:Nat)) (.int .i64 (M:Nat)) (.slice A k c))/\Below w.heap.size w wx)
 case atStart=>exact ⟨0,by go_num,rfl,by omega,by omega,rf,hB⟩
 clear rf hB
 obtain ⟨j,rfl,rfl,hj,I,rf,hB⟩:=hrel
 have q:=za4 (p:=P) (n:=j) (f:=fun i=>f (n - j+i)) (fun i hi=>hd.out _ (by omega))
 have H:P ^ j<=P ^ n:=Nat.pow_le_pow_right (by omega) hj
 by_cases hlt:j<n
 rotate_left
 ·obtain rfl:j=n:=by omega
  have u:¬ (0:Int)<=(j:Int) - 1 - (j:Int):=by omega
  have x:¬ (j:Int)<=(j:Int) - 1:=by omega
  have hv:valN P (fun i=>f (j - j+i)) j=valN P f j:=zaK fun i _=>by rw [show j - j+i=i by omega]
  rw [hv] at q ⊢
  obtain ⟨V,hV⟩:=exx (valN P f j)
  rw [<-hV] at q ⊢
  have HV:=hid hV
  clear hV hv rf
  go_wp2
  go_ret
  exact ⟨by rw [HV.out]; rfl,hB⟩
 have u:(0:Int)<=(n:Int) - 1 - (j:Int):=by omega
 obtain ⟨i,hi⟩:∃ i:Nat,i=n - 1 - j:=⟨_,rfl⟩
 have r:(n:Int) - 1 - (j:Int)=(i:Int):=by omega
 have s:i<n:=by omega
 have v:(i:Int)<(n:Int):=by omega
 have J:(0:Int)<=(i:Int):=by omega
 rw [r]
 obtain ⟨b,o,rfl,hb,e0⟩:=(h.on hB).at s
 have y:=hd.out i s
 have l:valN P (fun t=>f (n - (j+1)+t)) (j+1)=f i+P*valN P (fun t=>f (n - j+t)) j:=by
  show f (n - (j+1)+0)+P*valN P (fun t=>f (n - (j+1)+(t+1))) j=_
  rw [show n - (j+1)+0=i by omega]
  congr 2
  exact zaK fun t _=>by rw [show n - (j+1)+(t+1)=n - j+t by omega]
 obtain ⟨V,hV⟩:=exx (valN P (fun t=>f (n - j+t)) j)
 obtain ⟨D,hD⟩:=exx (f i)
 rw [<-hV] at q l;rw [<-hD] at e0 y l;rw [<-hV]
 have B:=hid l
 have HI:=hid hi
 have C:=hid r
 clear hV hD l hi r u
 have L:(0:Int)<=(V:Int):=by omega
 have K:(V:Int)<=256:=by omega
 have O:(0:Int)<=(D:Int):=by omega
 have N:(D:Int)<=256:=by omega
 have z:V*P<=256*256:=Nat.mul_le_mul (by omega) hP
 have g:(V:Int)*(P:Int)=((V*P:Nat):Int):=by simp
 obtain ⟨R,hR⟩:=exx (V*P)
 rw [<-hR] at z g
 have HR:=hid hR
 clear hR
 have G:IntKind.i64.wrap ((V:Int)*(P:Int))=(R:Int):=by rw [g]; exact IntWalk.i64_in _ (by omega)
 have F:IntKind.i64.wrap ((R:Int)+(D:Int))=(R:Int)+(D:Int):=IntWalk.i64_in _ (by omega)
 have E:IntKind.i64.wrap (R:Int)=(R:Int):=IntWalk.i64_in _ (by omega)
 have q0:=qc0 rf
 have q1:=qc1 rf
 have q2:=qc2 rf
 go_wp2
 go_quiet (fail)
 clear q0 q1 q2
 go_wp2
 go_roundg (gk - 1)
 case measure=>omega
 case rel=>exact ⟨j+1,by have:=C.out; go_num,by rw [B.out,Nat.mul_comm P V,<-HR.out]; go_num,by omega,by omega,za9 rf _,zac hB _⟩
def addF (P M x y:Nat):Nat:=valN P (fun i=>(dig P x i+dig P y i) % P) M
theorem zbG {p:Nat} (hp:0<p) (x i:Nat):dig p x i<p:=Nat.mod_lt _ hp
theorem zdd {P M:Nat} (hP:0<P) (x y:Nat):addF P M x y<P ^ M:=za4 fun _ _=>Nat.mod_lt _ hP
theorem rowInts {w:World} {g n:Nat} {f:Nat->Nat} (h:w.rowIs g 3 n (fun i=>.int .i64 (f i:Nat))):IntsR w w.heap.size (some ⟨g,0,none⟩) n (fun i=>(f i:Nat)):=zbv h
theorem zhn (P M:Nat) (A:Option Addr) (k c:Nat) (x y:Int) (w:World) (hf:FldOk P M) :
  Calls Tryz.prog 159 #[.agg #[.int .i64 (P:Nat),.int .i64 (M:Nat),.slice A k c],.int .i64 x,.int .i64 y] w fun e w'=>e=.returned (.int .i64 (addF P M (inV (P ^ M) x) (inV (P ^ M) y):Nat))/\Below w.heap.size w w':=by
 have K:=hf.1
 have hP:=hf.P_le
 have L:=hf.2.2.1
 have hq:=hf.2.2.2
 have hB:=aly w (.cells #[.int .i64 (P:Nat),.int .i64 (M:Nat),.slice A k c] 24)
 have rf:=zau (w:=w) (a:=.int .i64 (P:Nat)) (b:=.int .i64 (M:Nat)) (c:=.slice A k c) (T := 24)
 obtain ⟨w0,d⟩:=exx (w.alloc (.cells #[.int .i64 (P:Nat),.int .i64 (M:Nat),.slice A k c] 24))
 rw [<-d] at hB rf
 go_enter Tryz.func159, Tryz.ntmps159
 go_upto_region 1 with fail
 rw [<-d];clear d
 have d:=rf.lt
 have q0:=qc0 rf
 have q1:=qc1 rf
 have q2:=qc2 rf
 go_wp2_with fail
 refine (za0 P M A k c x _ hf).mono ?_
 rintro e w1 ⟨ga,rfl,F,ra,kb⟩
 replace rf:=zab rf kb
 have s:=hB.size
 replace hB:=onS hB kb;clear kb q0 q1 q2
 have J:=ra.lt
 have q0:=qc0 rf
 have q1:=qc1 rf
 have q2:=qc2 rf
 go_wp2_with fail
 refine (za0 P M A k c y _ hf).mono ?_
 rintro e w2 ⟨gb,rfl,C,rb,kb⟩
 replace rf:=zab rf kb;replace ra:=zab ra kb;replace hB:=onS hB kb;clear kb q0 q1 q2
 obtain ⟨X,hX⟩:=exx (inV (P ^ M) x)
 obtain ⟨Y,hY⟩:=exx (inV (P ^ M) y)
 rw [<-hX] at ra;rw [<-hY] at rb
 have HX:=hid hX
 have HY:=hid hY
 clear hX hY
 have q:ga≠gb:=by omega
 have o:w.heap.size≠ga:=by omega
 have r:w.heap.size<=ga:=by omega
 clear F C J s d
 go_wp2
 go_loopg [9] M (fun gg iv wx=>∃ i:Nat,iv=.int .i64 (i:Nat)/\i<=M/\M<=i+gg/\wx.rowIs ga 3 M (fun t=>.int .i64 (if t<i then ((dig P X t+dig P Y t) % P:Nat) else (dig P X t:Nat):Nat))/\wx.rowIs gb 3 M (fun t=>.int .i64 (dig P Y t:Nat))/\wx.rowIs w.heap.size 24 3 (fldCell (.int .i64 (P:Nat)) (.int .i64 (M:Nat)) (.slice A k c))/\Below w.heap.size w wx)
 case atStart=>exact ⟨0,rfl,by omega,by omega,ra.congr fun t _=>rfl,rb,rf,hB⟩
 clear ra rb rf hB
 obtain ⟨i,rfl,hi,N,ra,rb,rf,hB⟩:=hrel
 have O:(0:Int)<=(i:Int):=by omega
 by_cases hlt:i<M
 rotate_left
 ·obtain rfl:M=i:=by omega
  have n:¬ (M:Int)<(M:Int):=by omega
  have hr:wr.rowIs ga 3 M (fun t=>.int .i64 ((dig P X t+dig P Y t) % P:Nat)):=ra.congr fun t ht=>by rw [if_pos ht]
  have j:=rowInts hr
  have l:Hid (valN P (fun t=>(dig P X t+dig P Y t) % P) M=addF P M (inV (P ^ M) x) (inV (P ^ M) y)):=by rw [HX.out,HY.out]; rfl
  have m:Hid (∀ t,t<M->(dig P X t+dig P Y t) % P<P):=fun t _=>Nat.mod_lt _ (by omega)
  clear ra rb hr
  have q0:=qc0 rf
  have q1:=qc1 rf
  have q2:=qc2 rf
  go_wp2_with fail
  refine (zbR P M A k c (some ⟨ga,0,none⟩) M M _ _ K hP j m hq L).mono ?_
  rintro e w3 ⟨rfl,kb⟩
  replace hB:=onS hB kb;clear kb q0 q1 q2 rf;rw [l.out]
  obtain ⟨R,hR⟩:=exx (addF P M (inV (P ^ M) x) (inV (P ^ M) y))
  rw [<-hR]
  have HR:=hid hR
  clear hR j
  go_wp2
  go_ret
  exact ⟨by rw [HR.out]; rfl,hB⟩
 have n:(i:Int)<(M:Int):=by omega
 have I:=zbG (p:=P) (by omega) X i
 have H:=zbG (p:=P) (by omega) Y i
 have ca:wr.cell? ⟨ga,i,none⟩=some (.int .i64 (dig P X i:Nat)):=by have:=ra.cell hlt; simpa using this
 have cb:wr.cell? ⟨gb,i,none⟩=some (.int .i64 (dig P Y i:Nat)):=rb.cell hlt
 have q0:=qc0 rf
 have q1:=qc1 rf
 have q2:=qc2 rf
 have za:=ra.frozen i
 obtain ⟨R,hR⟩:∃ R,R=(dig P X i+dig P Y i) % P:=⟨_,rfl⟩
 have Q:R<P:=by rw [hR]; exact Nat.mod_lt _ (by omega)
 have ra2:(wr.setCell ⟨ga,i,none⟩ (.int .i64 (R:Int))).rowIs ga 3 M (fun t=>.int .i64 (if t<i+1 then ((dig P X t+dig P Y t) % P:Nat) else (dig P X t:Nat):Nat)):=(ra.set i _).congr fun t ht=>by
  by_cases e:t=i
  ·subst e
   rw [if_pos rfl,if_pos (by omega),hR]
  rw [if_neg e]
  by_cases e2:t<i
  ·rw [if_pos e2,if_pos (by omega)]
  ·rw [if_neg e2,if_neg (by omega)]
 have rb2:=rb.setOther (a:=⟨ga,i,none⟩) (by simpa using fun h=>q h.symm) (.int .i64 (R:Int))
 have rf2:=rf.setOther (a:=⟨ga,i,none⟩) (by simpa using o) (.int .i64 (R:Int))
 have u:Below w.heap.size w (wr.setCell ⟨ga,i,none⟩ (.int .i64 (R:Int))):=hB.setCell r _
 have RA:=hid ra2
 have RB:=hid rb2
 have RF:=hid rf2
 have HB:=hid u
 obtain ⟨D,hD⟩:=exx (dig P X i)
 obtain ⟨E,hE⟩:=exx (dig P Y i)
 rw [<-hD] at ca I hR;rw [<-hE] at cb H hR;clear ra2 rb2 rf2 u hD hE ra rb rf hB
 have Z:¬ (P:Int)=0:=by omega
 have V:(2:Int)<=(P:Int):=by omega
 have U:(0:Int)<=(R:Int):=by omega
 have S:(R:Int)<=256:=by omega
 have a1:(0:Int)<=(D:Int):=by omega
 have a0:(0:Int)<=(E:Int):=by omega
 have g:(0:Int)<=(D:Int)+(E:Int):=by omega
 have B:((D:Int)+(E:Int)).tmod (P:Int)=(R:Int):=by rw [Int.tmod_eq_emod_of_nonneg g,hR]; simp
 have v:IntKind.i64.wrap ((D:Int)+(E:Int))=(D:Int)+(E:Int):=IntWalk.i64_in _ (by omega)
 have z:IntKind.i64.wrap (R:Int)=(R:Int):=IntWalk.i64_in _ (by omega)
 have G:((D:Int)+(E:Int)) % (P:Int)=(R:Int):=by rw [hR]; simp
 have W:¬ P=0:=by omega
 clear hR
 go_wp2
 go_still_tail 14,(by kernel_rfl)
 change wpList _ _ _ _ _ wr.drew
 go_wp2
 clear B v z G
 go_roundg (gk - 1)
 case measure=>omega
 case rel=>exact ⟨i+1,by go_num,by omega,by omega,RA.out,RB.out,RF.out,HB.out.drew⟩
def mIn (P:Nat) (a b:Nat->Nat) (i:Nat) (c:Nat->Nat):Nat->Nat->Nat
 | 0=>c
 | j+1=>fun t=>if t=i+j then (mIn P a b i c j (i+j)+a i*b j) % P else mIn P a b i c j t
def mOut (P:Nat) (a b:Nat->Nat) (M:Nat):Nat->Nat->Nat
 | 0=>fun _=>0
 | i+1=>mIn P a b i (mOut P a b M i) M
def rIn (P M:Nat) (m:Nat->Nat) (i:Nat) (c:Nat->Nat):Nat->Nat->Nat
 | 0=>c
 | j+1=>fun t=>if t=i - M+j then (rIn P M m i c j (i - M+j)+(P - rIn P M m i c j i)*m j) % P else rIn P M m i c j t
def rOut (P M:Nat) (m:Nat->Nat) (c:Nat->Nat):Nat->Nat->Nat
 | 0=>c
 | s+1=>rIn P M m (2*M - 2 - s) (rOut P M m c s) M
def mulF (P M:Nat) (m:Nat->Nat) (x y:Nat):Nat:=valN P (rOut P M m (mOut P (dig P x) (dig P y) M M) (M - 1)) M
theorem zju {P:Nat} (hP:0<P) {a b c:Nat->Nat} {i:Nat} (hc:∀ t,c t<P):∀ j t,mIn P a b i c j t<P:=by
 intro j
 induction j with
 | zero=>exact hc
 | succ j ih =>
  intro t
  show (if t=i+j then _ else _)<P
  split
  ·exact Nat.mod_lt _ hP
  ·exact ih t
theorem zeU {P:Nat} (hP:0<P) {a b:Nat->Nat} {M:Nat}:∀ i t,mOut P a b M i t<P:=by
 intro i
 induction i with
 | zero=>exact fun _=>hP
 | succ i ih=>exact zju hP ih M
theorem ziH {P M:Nat} (hP:0<P) {m c:Nat->Nat} {i:Nat} (hc:∀ t,c t<P):∀ j t,rIn P M m i c j t<P:=by
 intro j
 induction j with
 | zero=>exact hc
 | succ j ih =>
  intro t
  show (if t=i - M+j then _ else _)<P
  split
  ·exact Nat.mod_lt _ hP
  ·exact ih t
theorem zdO {P M:Nat} (hP:0<P) {m c:Nat->Nat} (hc:∀ t,c t<P):∀ s t,rOut P M m c s t<P:=by
 intro s
 induction s with
 | zero=>exact hc
 | succ s ih=>exact ziH hP ih M
def ModOk (w:World) (P M:Nat) (A:Option Addr) (m:Nat->Nat):Prop:=M=1∨(IntsR w w.heap.size A M (fun i=>(m i:Nat))/\∀ i,i<M->m i<P)
theorem zdl (P M:Nat) (A:Option Addr) (k c:Nat) (m:Nat->Nat) (x y:Int) (w:World) (hf:FldOk P M) (hm:ModOk w P M A m) (hkM:M=1∨k=M) :
  Calls Tryz.prog 160 #[.agg #[.int .i64 (P:Nat),.int .i64 (M:Nat),.slice A k c],.int .i64 x,.int .i64 y] w fun e w'=>e=.returned (.int .i64 (mulF P M m (inV (P ^ M) x) (inV (P ^ M) y):Nat))/\Below w.heap.size w w':=by
 have b3:=hf.1
 have hP:=hf.P_le
 have bb:=hf.2.2.1
 have bq:=hf.2.1
 have hq:=hf.2.2.2
 have hB:=aly w (.cells #[.int .i64 (P:Nat),.int .i64 (M:Nat),.slice A k c] 24)
 have rf:=zau (w:=w) (a:=.int .i64 (P:Nat)) (b:=.int .i64 (M:Nat)) (c:=.slice A k c) (T := 24)
 obtain ⟨w0,o⟩:=exx (w.alloc (.cells #[.int .i64 (P:Nat),.int .i64 (M:Nat),.slice A k c] 24))
 rw [<-o] at hB rf
 go_enter Tryz.func160, Tryz.ntmps160
 go_upto_region 1 with fail
 rw [<-o];clear o
 have o:=rf.lt
 have q0:=qc0 rf
 have q1:=qc1 rf
 have q2:=qc2 rf
 go_wp2_with fail
 refine (za0 P M A k c x _ hf).mono ?_
 rintro e w1 ⟨ga,rfl,ao,ra,kb⟩
 replace rf:=zab rf kb
 have a3:=hB.size
 replace hB:=onS hB kb;clear kb q0 q1 q2
 have au:=ra.lt
 have q0:=qc0 rf
 have q1:=qc1 rf
 have q2:=qc2 rf
 go_wp2_with fail
 refine (za0 P M A k c y _ hf).mono ?_
 rintro e w2 ⟨gb,rfl,an,rb,kb⟩
 replace rf:=zab rf kb;replace ra:=zab ra kb;replace hB:=onS hB kb;clear kb q0 q1 q2
 have ag:=rb.lt
 obtain ⟨X,hX⟩:=exx (inV (P ^ M) x)
 obtain ⟨Y,hY⟩:=exx (inV (P ^ M) y)
 rw [<-hX] at ra;rw [<-hY] at rb
 have HX:=hid hX
 have HY:=hid hY
 clear hX hY
 obtain ⟨N1,b8⟩:∃ N,N=2*M - 1:=⟨_,rfl⟩
 have b5:2*(M:Int) - 1=(N1:Int):=by omega
 have b7:2*M<=N1+1:=by omega
 have b6:N1+1<=2*M:=by omega
 clear b8
 have ae:=fun W=>zaf (P:=Tryz.prog) 22 3 _ 8 Tryz.underlying22 Tryz.infoInt rfl (N1:Int) (by omega) (by omega) (by omega) W
 simp only [Int.toNat_natCast] at ae
 have rc:=World.rowIs_made w2 (.int .i64 0) N1 3
 have kb:=aly w2 (.cells (madeCells #[.int .i64 0] N1) 3)
 have q0:=qc0 rf
 have q1:=qc1 rf
 have q2:=qc2 rf
 replace ra:=zab ra kb;replace rb:=zab rb kb;replace rf:=zab rf kb;replace hB:=onS hB kb;clear kb
 have bn:(1:Int)<=(M:Int):=by omega
 have b9:(M:Int)<=8:=by omega
 go_wp2
 clear q0 q1 q2 ae
 obtain ⟨w3,K⟩:=exx (w2.alloc (.cells (madeCells #[.int .i64 0] N1) 3))
 obtain ⟨gc,a2⟩:=exx w2.heap.size
 rw [<-K,<-a2];rw [<-K] at ra rb rf rc hB;rw [<-a2] at rc ag
 have U:ga≠gc:=by omega
 have S:gb≠gc:=by omega
 have r:w.heap.size≠gc:=by omega
 have z:w.heap.size<=gc:=by omega
 clear K a2 ao an au a3 o ag
 replace rc:w3.rowIs gc 3 N1 (fun t=>.int .i64 (mOut P (dig P X) (dig P Y) M 0 t:Nat)):=rc
 go_loopg [10] M (fun gg iv wx=>∃ i:Nat,iv=.int .i64 (i:Nat)/\i<=M/\M<=i+gg/\wx.rowIs gc 3 N1 (fun t=>.int .i64 (mOut P (dig P X) (dig P Y) M i t:Nat))/\wx.rowIs ga 3 M (fun t=>.int .i64 (dig P X t:Nat))/\wx.rowIs gb 3 M (fun t=>.int .i64 (dig P Y t:Nat))/\wx.rowIs w.heap.size 24 3 (fldCell (.int .i64 (P:Nat)) (.int .i64 (M:Nat)) (.slice A k c))/\Below w.heap.size w wx)
 case atStart=>exact ⟨0,rfl,by omega,by omega,rc,ra,rb,rf,hB⟩
 clear ra rb rc rf hB
 obtain ⟨i,rfl,hi,bk,rc,ra,rb,rf,hB⟩:=hrel
 have bl:(0:Int)<=(i:Int):=by omega
 have q0:=qc0 rf
 have q1:=qc1 rf
 have q2:=qc2 rf
 by_cases hlt:i<M
 ·have a0:(i:Int)<(M:Int):=by omega
  go_wp2
  clear q0 q1 q2
  obtain ⟨gI,rfl⟩:∃ gK:Nat,gK=gk:=⟨_,rfl⟩
  obtain ⟨C0,g⟩:=exx (mOut P (dig P X) (dig P Y) M i)
  have h:∀ t,C0 t<P:=by rw [g]; exact zeU (by omega) i
  rw [<-g] at rc
  have aa:=hid g
  have J:=hid h
  clear g h
  go_loopg [11] M (fun gg jv wx=>∃ j:Nat,jv=.int .i64 (j:Nat)/\j<=M/\M<=j+gg/\wx.rowIs gc 3 N1 (fun t=>.int .i64 (mIn P (dig P X) (dig P Y) i C0 j t:Nat))/\wx.rowIs ga 3 M (fun t=>.int .i64 (dig P X t:Nat))/\wx.rowIs gb 3 M (fun t=>.int .i64 (dig P Y t:Nat))/\wx.rowIs w.heap.size 24 3 (fldCell (.int .i64 (P:Nat)) (.int .i64 (M:Nat)) (.slice A k c))/\Below w.heap.size w wx)
  case atStart=>exact ⟨0,rfl,by omega,by omega,rc,ra,rb,rf,hB⟩
  clear ra rb rc rf hB
  obtain ⟨j,rfl,hj,al,rc,ra,rb,rf,hB⟩:=hrel
  have am:(0:Int)<=(j:Int):=by omega
  have q0:=qc0 rf
  have q1:=qc1 rf
  have q2:=qc2 rf
  by_cases hlj:j<M
  rotate_left
  ·obtain rfl:M=j:=by omega
   have n:¬ (M:Int)<(M:Int):=by omega
   replace rc:wr.rowIs gc 3 N1 (fun t=>.int .i64 (mOut P (dig P X) (dig P Y) M (i+1) t:Nat)):=rc.congr fun t _=>by rw [aa.out]; rfl
   go_wp2
   go_roundg (gI - 1)
   case measure=>omega
   case rel=>exact ⟨i+1,by go_num,by omega,by omega,rc,ra,rb,rf,hB⟩
  have n:(j:Int)<(M:Int):=by omega
  have B:=zju (P:=P) (by omega) (a:=dig P X) (b:=dig P Y) (i:=i) J.out j (i+j)
  have ar:=zbG (p:=P) (by omega) X i
  have aq:=zbG (p:=P) (by omega) Y j
  obtain ⟨Q,hQ⟩:=exx (i+j)
  have a6:Q<N1:=by omega
  have cc:=rc.cell (i:=Q) a6
  have zc:=rc.frozen Q
  have ca:=ra.cell (i:=i) hlt
  have cb:=rb.cell (i:=j) hlj
  have q:∀ t,mIn P (dig P X) (dig P Y) i C0 (j+1) t=if t=Q then (mIn P (dig P X) (dig P Y) i C0 j Q+dig P X i*dig P Y j) % P else mIn P (dig P X) (dig P Y) i C0 j t:=fun t=>by rw [hQ]; rfl
  obtain ⟨R,hR⟩:∃ R,R=(mIn P (dig P X) (dig P Y) i C0 j Q+dig P X i*dig P Y j) % P:=⟨_,rfl⟩
  have aw:R<P:=by rw [hR]; exact Nat.mod_lt _ (by omega)
  rw [<-hQ] at B
  have rc2:(wr.setCell ⟨gc,Q,none⟩ (.int .i64 (R:Int))).rowIs gc 3 N1 (fun t=>.int .i64 (mIn P (dig P X) (dig P Y) i C0 (j+1) t:Nat)):=(rc.set Q _).congr fun t ht=>by
   rw [q t,<-hR]
   by_cases e:t=Q
   ·rw [if_pos e,if_pos e]
   ·rw [if_neg e,if_neg e]
  have ra2:=ra.setOther (a:=⟨gc,Q,none⟩) (by simpa using U) (.int .i64 (R:Int))
  have rb2:=rb.setOther (a:=⟨gc,Q,none⟩) (by simpa using S) (.int .i64 (R:Int))
  have rf2:=rf.setOther (a:=⟨gc,Q,none⟩) (by simpa using r) (.int .i64 (R:Int))
  have C:Below w.heap.size w (wr.setCell ⟨gc,Q,none⟩ (.int .i64 (R:Int))):=hB.setCell z _
  have RC:=hid rc2
  have RA:=hid ra2
  have RB:=hid rb2
  have RF:=hid rf2
  have HB:=hid C
  clear rc2 ra2 rb2 rf2 C
  obtain ⟨D,hD⟩:=exx (mIn P (dig P X) (dig P Y) i C0 j Q)
  obtain ⟨E,hE⟩:=exx (dig P X i)
  obtain ⟨G,hG⟩:=exx (dig P Y j)
  rw [<-hD] at cc B hR;rw [<-hE] at ca ar hR;rw [<-hG] at cb aq hR
  have a9:E*G<=256*256:=Nat.mul_le_mul (by omega) (by omega)
  obtain ⟨Hh,hH⟩:=exx (E*G)
  rw [<-hH] at hR a9
  have a1:(i:Int)+(j:Int)=(Q:Int):=by omega
  have l:(E:Int)*(G:Int)=(Hh:Int):=by rw [hH]; simp
  clear hD hE hG hH q ra rb rc rf hB hQ
  have b0:(0:Int)<=(Q:Int):=by omega
  have az:(Q:Int)<(N1:Int):=by omega
  have b4:¬ (P:Int)=0:=by omega
  have b1:(2:Int)<=(P:Int):=by omega
  have ay:(0:Int)<=(R:Int):=by omega
  have ax:(R:Int)<=256:=by omega
  have bh:(0:Int)<=(D:Int):=by omega
  have bg:(0:Int)<=(Hh:Int):=by omega
  have d:(0:Int)<=(D:Int)+(Hh:Int):=by omega
  have b2:¬ P=0:=by omega
  have w1:IntKind.i64.wrap (Q:Int)=(Q:Int):=IntWalk.i64_in _ (by omega)
  have w2:IntKind.i64.wrap (Hh:Int)=(Hh:Int):=IntWalk.i64_in _ (by omega)
  have w3:IntKind.i64.wrap ((D:Int)+(Hh:Int))=(D:Int)+(Hh:Int):=IntWalk.i64_in _ (by omega)
  have w4:IntKind.i64.wrap (R:Int)=(R:Int):=IntWalk.i64_in _ (by omega)
  have O:((D:Int)+(Hh:Int)).tmod (P:Int)=(R:Int):=by rw [Int.tmod_eq_emod_of_nonneg d,hR]; simp
  have a4:((D:Int)+(Hh:Int)) % (P:Int)=(R:Int):=by rw [hR]; simp
  clear hR
  go_wp2
  go_still_tail 23,(by kernel_rfl)
  change wpList _ _ _ _ _ wr.drew
  go_wp2
  clear w1 w2 w3 w4 O a4 a1 l
  go_roundg (gk - 1)
  case measure=>omega
  case rel=>exact ⟨j+1,by go_num,by omega,by omega,RC.out,RA.out,RB.out,RF.out,HB.out.drew⟩
 obtain rfl:M=i:=by omega
 have a0:¬ (M:Int)<(M:Int):=by omega
 have bp:(0:Int)<=2*(M:Int):=by omega
 have bc:2*(M:Int)<=16:=by omega
 go_wp2
 clear q0 q1 q2
 obtain ⟨C1,H⟩:=exx (mOut P (dig P X) (dig P Y) M M)
 have h:∀ t,C1 t<P:=by rw [H]; exact zeU (by omega) M
 rw [<-H] at rc
 have bi:=hid H
 have J:=hid h
 clear H h
 go_loopg [12] (M - 1) (fun gg iv wx=>∃ s:Nat,iv=.int .i64 (2*(M:Int) - 2 - (s:Int))/\s+1<=M/\M<=s+1+gg/\wx.rowIs gc 3 N1 (fun t=>.int .i64 (rOut P M m C1 s t:Nat))/\wx.rowIs w.heap.size 24 3 (fldCell (.int .i64 (P:Nat)) (.int .i64 (M:Nat)) (.slice A k c))/\Below w.heap.size w wx)
 case atStart=>exact ⟨0,by go_num,by omega,by omega,rc,rf,hB⟩
 clear ra rb rc rf hB
 obtain ⟨s,rfl,hs,ak,rc,rf,hB⟩:=hrel
 have q0:=qc0 rf
 have q1:=qc1 rf
 have q2:=qc2 rf
 by_cases hlt2:s+1<M
 rotate_left
 ·obtain ⟨s2,ab⟩:∃ t,t=M - 1:=⟨_,rfl⟩
  obtain rfl:s=s2:=by omega
  obtain ⟨I,hI⟩:=exx (M - 1)
  have u:2*(M:Int) - 2 - (s:Int)=(I:Int):=by omega
  rw [u]
  have be:¬ M<=I:=by omega
  have a7:¬ (M:Int)<=(I:Int):=by omega
  have a8:(I:Int)<=16:=by omega
  have bf:(0:Int)<=(I:Int):=by omega
  have bo:M<=N1:=by omega
  have ba:(M:Int)<=(N1:Int):=by omega
  have v:IntsR wr.drew wr.drew.heap.size (some ⟨gc,0,none⟩) M (fun t=>(rOut P M m C1 s t:Nat)):=fun i hi=>rowInts rc i (by omega)
  have L:Hid (valN P (rOut P M m C1 s) M=mulF P M m (inV (P ^ M) x) (inV (P ^ M) y)):=by rw [bi.out,HX.out,HY.out,ab]; rfl
  have V:Hid (∀ t,t<M->rOut P M m C1 s t<P):=fun t _=>zdO (by omega) J.out s t
  clear rc ab hI u hs ak
  go_wp2
  go_still_tail 5,(by kernel_rfl)
  change wpList _ _ _ _ _ wr.drew
  go_wp2_with fail
  refine (zbR P M A k c (some ⟨gc,0,none⟩) M N1 _ _ b3 hP v V hq bb).mono ?_
  rintro e w5 ⟨rfl,kb⟩
  replace hB:=onS hB.drew kb;clear kb q0 q1 q2 rf;rw [L.out]
  obtain ⟨R,hR⟩:=exx (mulF P M m (inV (P ^ M) x) (inV (P ^ M) y))
  rw [<-hR]
  have HR:=hid hR
  clear hR v
  go_wp2
  go_ret
  exact ⟨by rw [HR.out]; rfl,hB⟩
 obtain ⟨I,hI⟩:∃ I,I=2*M - 2 - s:=⟨_,rfl⟩
 have u:2*(M:Int) - 2 - (s:Int)=(I:Int):=by omega
 rw [u]
 have be:M<=I:=by omega
 have a7:(M:Int)<=(I:Int):=by omega
 have a8:(I:Int)<=16:=by omega
 have bd:I<N1:=by omega
 have bf:(0:Int)<=(I:Int):=by omega
 have HI:=hid hI
 clear hI u
 go_wp2
 clear q0 q1 q2
 obtain ⟨gI,rfl⟩:∃ gK:Nat,gK=gk:=⟨_,rfl⟩
 obtain ⟨C0,g⟩:=exx (rOut P M m C1 s)
 have h:∀ t,C0 t<P:=by rw [g]; exact zdO (by omega) J.out s
 rw [<-g] at rc
 have aa:=hid g
 have F:=hid h
 clear g h
 obtain ⟨ac,ad⟩:IntsR w w.heap.size A M (fun i=>(m i:Nat))/\∀ i,i<M->m i<P:=hm.resolve_left (by omega)
 obtain rfl:k=M:=hkM.resolve_left (by omega)
 go_loopg [13] k (fun gg jv wx=>∃ j:Nat,jv=.int .i64 (j:Nat)/\j<=k/\k<=j+gg/\wx.rowIs gc 3 N1 (fun t=>.int .i64 (rIn P k m I C0 j t:Nat))/\wx.rowIs w.heap.size 24 3 (fldCell (.int .i64 (P:Nat)) (.int .i64 (k:Nat)) (.slice A k c))/\Below w.heap.size w wx)
 case atStart=>exact ⟨0,rfl,by omega,by omega,rc,rf,hB⟩
 clear rc rf hB
 obtain ⟨j,rfl,hj,al,rc,rf,hB⟩:=hrel
 have am:(0:Int)<=(j:Int):=by omega
 have q0:=qc0 rf
 have q1:=qc1 rf
 have q2:=qc2 rf
 by_cases hlj:j<k
 rotate_left
 ·obtain rfl:k=j:=by omega
  have n:¬ (k:Int)<(k:Int):=by omega
  replace rc:wr.rowIs gc 3 N1 (fun t=>.int .i64 (rOut P k m C1 (s+1) t:Nat)):=rc.congr fun t _=>by rw [aa.out,HI.out]; rfl
  have ah:=HI.out
  clear HI
  go_wp2
  go_roundg (gI - 1)
  case measure=>omega
  case rel=>exact ⟨s+1,by go_num,by omega,by omega,rc,rf,hB⟩
 have n:(j:Int)<(k:Int):=by omega
 have B:=ziH (P:=P) (M:=k) (m:=m) (i:=I) (by omega) F.out j (I - k+j)
 have a5:=ziH (P:=P) (M:=k) (m:=m) (i:=I) (by omega) F.out j I
 have ap:=ad j hlj
 obtain ⟨mb,mo,rfl,bj,af⟩:=ac.at hlj
 have cm:=cellS hB af
 obtain ⟨Z,hZ⟩:=exx (I - k)
 have br:(I:Int) - (k:Int)=(Z:Int):=by omega
 have av:Z<=16:=by omega
 obtain ⟨Q,hQ⟩:=exx (I - k+j)
 have ah:=HI.out
 have a6:Q<N1:=by omega
 have cc:=rc.cell (i:=Q) a6
 have zc:=rc.frozen Q
 have ci:=rc.cell (i:=I) bd
 have q:∀ t,rIn P k m I C0 (j+1) t=if t=Q then (rIn P k m I C0 j Q+(P - rIn P k m I C0 j I)*m j) % P else rIn P k m I C0 j t:=fun t=>by rw [hQ]; rfl
 obtain ⟨R,hR⟩:∃ R,R=(rIn P k m I C0 j Q+(P - rIn P k m I C0 j I)*m j) % P:=⟨_,rfl⟩
 have aw:R<P:=by rw [hR]; exact Nat.mod_lt _ (by omega)
 rw [<-hQ] at B
 have rc2:(wr.setCell ⟨gc,Q,none⟩ (.int .i64 (R:Int))).rowIs gc 3 N1 (fun t=>.int .i64 (rIn P k m I C0 (j+1) t:Nat)):=(rc.set Q _).congr fun t ht=>by
  rw [q t,<-hR]
  by_cases e:t=Q
  ·rw [if_pos e,if_pos e]
  ·rw [if_neg e,if_neg e]
 have rf2:=rf.setOther (a:=⟨gc,Q,none⟩) (by simpa using r) (.int .i64 (R:Int))
 have C:Below w.heap.size w (wr.setCell ⟨gc,Q,none⟩ (.int .i64 (R:Int))):=hB.setCell z _
 have RC:=hid rc2
 have RF:=hid rf2
 have HB:=hid C
 clear rc2 rf2 C
 obtain ⟨D,hD⟩:=exx (rIn P k m I C0 j Q)
 obtain ⟨D2,aj⟩:=exx (rIn P k m I C0 j I)
 obtain ⟨G,hG⟩:=exx (m j)
 rw [<-hD] at cc B hR;rw [<-aj] at ci a5 hR;rw [<-hG] at cm ap hR
 obtain ⟨E,hE⟩:=exx (P - D2)
 rw [<-hE] at hR
 have bm:(P:Int) - (D2:Int)=(E:Int):=by omega
 have a9:E*G<=256*256:=Nat.mul_le_mul (by omega) (by omega)
 obtain ⟨Hh,hH⟩:=exx (E*G)
 rw [<-hH] at hR a9
 have a1:(Z:Int)+(j:Int)=(Q:Int):=by omega
 have l:(E:Int)*(G:Int)=(Hh:Int):=by rw [hH]; simp
 have ai:E<=256:=by omega
 clear hD aj hE hG hH q rc rf hB hQ hZ ah ac ad af
 have b0:(0:Int)<=(Q:Int):=by omega
 have az:(Q:Int)<(N1:Int):=by omega
 have bs:(I:Int)<(N1:Int):=by omega
 have b4:¬ (P:Int)=0:=by omega
 have b1:(2:Int)<=(P:Int):=by omega
 have ay:(0:Int)<=(R:Int):=by omega
 have ax:(R:Int)<=256:=by omega
 have bh:(0:Int)<=(D:Int):=by omega
 have bg:(0:Int)<=(Hh:Int):=by omega
 have d:(0:Int)<=(D:Int)+(Hh:Int):=by omega
 have b2:¬ P=0:=by omega
 have w1:IntKind.i64.wrap (Q:Int)=(Q:Int):=IntWalk.i64_in _ (by omega)
 have w2:IntKind.i64.wrap (Hh:Int)=(Hh:Int):=IntWalk.i64_in _ (by omega)
 have w3:IntKind.i64.wrap ((D:Int)+(Hh:Int))=(D:Int)+(Hh:Int):=IntWalk.i64_in _ (by omega)
 have w4:IntKind.i64.wrap (R:Int)=(R:Int):=IntWalk.i64_in _ (by omega)
 have w5:IntKind.i64.wrap (Z:Int)=(Z:Int):=IntWalk.i64_in _ (by omega)
 have w6:IntKind.i64.wrap (E:Int)=(E:Int):=IntWalk.i64_in _ (by omega)
 have O:((D:Int)+(Hh:Int)).tmod (P:Int)=(R:Int):=by rw [Int.tmod_eq_emod_of_nonneg d,hR]; simp
 have a4:((D:Int)+(Hh:Int)) % (P:Int)=(R:Int):=by rw [hR]; simp
 clear hR
 go_wp2
 go_still_tail 33,(by kernel_rfl)
 change wpList _ _ _ _ _ wr.drew
 go_wp2
 clear w1 w2 w3 w4 w5 w6 O a4 a1 l
 go_roundg (gk - 1)
 case measure=>omega
 case rel=>exact ⟨j+1,by go_num,by omega,by omega,RC.out,RF.out,HB.out.drew⟩
theorem zbp (p i:Nat):dig p 0 i=0:=by simp [dig]
theorem zbH (p x:Nat):dig p x 0=x % p:=by simp [dig]
theorem zcu (p x i:Nat):dig p x (i+1)=dig p (x / p) i:=by
 unfold dig
 rw [Nat.pow_succ',Nat.div_div_eq_div_mul]
theorem zen {p:Nat} (hp:0<p):∀ (n x:Nat),x<p ^ n->valN p (dig p x) n=x:=by
 intro n
 induction n with
 | zero =>
  intro x hx
  have:x<1:=by simpa using hx
  have:x=0:=by omega
  subst this
  rfl
 | succ n ih =>
  intro x hx
  have h1:x / p<p ^ n:=by
   rw [Nat.div_lt_iff_lt_mul hp,<-Nat.pow_succ]
   exact hx
  show dig p x 0+p*valN p (fun i=>dig p x (i+1)) n=x
  have h2:valN p (fun i=>dig p x (i+1)) n=valN p (dig p (x / p)) n:=zaK fun i _=>zcu p x i
  rw [h2,ih _ h1,zbH]
  exact Nat.mod_add_div x p
theorem zho {P M x:Nat} (hP:0<P) (hx:x<P ^ M):addF P M 0 x=x:=by
 have h:addF P M 0 x=valN P (dig P x) M:=zaK fun i _=>by
  rw [zbp,Nat.zero_add]
  exact Nat.mod_eq_of_lt (zbG hP x i)
 rw [h,zen hP M x hx]
theorem zhp (P M x y:Nat):addF P M x y=addF P M y x:=zaK fun i _=>by rw [Nat.add_comm]
def sig:Nat->(Nat->Int)->Int
 | 0,_=>0
 | n+1,f=>sig n f+f n
theorem zad {n:Nat} {f g:Nat->Int} (h:∀ i,i<n->f i=g i):sig n f=sig n g:=by
 induction n with
 | zero=>rfl
 | succ n ih=>show sig n f+f n=sig n g+g n; rw [ih fun i hi=>h i (by omega),h n (by omega)]
theorem zdP (n:Nat) (f g:Nat->Int):sig n (fun i=>f i+g i)=sig n f+sig n g:=by
 induction n with
 | zero=>rfl
 | succ n ih=>show sig n _+(f n+g n)=sig n f+f n+(sig n g+g n); rw [ih]; omega
theorem zcv (n:Nat) (c:Int) (f:Nat->Int):sig n (fun i=>c*f i)=c*sig n f:=by
 induction n with
 | zero=>show (0:Int)=c*0; omega
 | succ n ih=>show sig n _+_=c*(sig n f+f n); rw [ih,Int.mul_add]
theorem zdm (n:Nat) (c:Int):sig n (fun _=>c)=n*c:=by
 induction n with
 | zero=>show (0:Int)=((0:Nat):Int)*c; simp
 | succ n ih=>show sig n _+c=_; rw [ih]; grind
theorem za7 (n:Nat):sig n (fun _=>0)=0:=by rw [zdm]; simp
theorem zjY {n:Nat} {f g:Nat->Int} (h:∀ i,i<n->f i<=g i):sig n f<=sig n g:=by
 induction n with
 | zero=>exact Int.le_refl _
 | succ n ih=>show sig n f+f n<=sig n g+g n; have:=ih fun i hi=>h i (by omega); have:=h n (by omega); omega
theorem zf9 (n m:Nat) (f:Nat->Nat->Int):sig n (fun i=>sig m (fun j=>f i j))=sig m (fun j=>sig n (fun i=>f i j)):=by
 induction n with
 | zero=>show (0:Int)=sig m (fun j=>0); rw [za7]
 | succ n ih=>show sig n _+sig m _=sig m (fun j=>sig n _+f n j); rw [ih,zdP]
theorem zbA {n:Nat} {f:Nat->Int} {k:Nat} (hk:k<n) (h:∀ i,i<n->i≠k->f i=0):sig n f=f k:=by
 induction n with
 | zero=>omega
 | succ n ih =>
  show sig n f+f n=f k
  by_cases e:k=n
  ·subst e
   have:sig k f=0:=by rw [zad (g:=fun _=>0) fun i hi=>h i (by omega) (by omega),za7]
   rw [this]; omega
  ·rw [ih (by omega) fun i hi hne=>h i (by omega) hne,h n (by omega) (by omega)]; omega
def ind (p:Prop) [Decidable p]:Int:=if p then 1 else 0
theorem ziI {n:Nat} {p:Nat->Prop} [∀ i,Decidable (p i)] (h:∀ i k,i<n->k<n->p i->p k->i=k):sig n (fun i=>ind (p i))<=1:=by
 by_cases e:∃ k,k<n/\p k
 ·obtain ⟨k,hk,hp⟩:=e
  rw [zbA hk fun i hi hne=>by unfold ind; rw [if_neg fun hpi=>hne (h i k hi hk hpi hp)]]
  unfold ind; split <;> omega
 ·rw [zad (g:=fun _=>0) fun i hi=>by unfold ind; rw [if_neg fun hp=>e ⟨i,hi,hp⟩],za7]; omega
theorem pigeon {M N:Nat} {f:Nat->Nat} (hf:∀ i,i<M->f i<N) (hi:∀ i k,i<M->k<M->f i=f k->i=k):M<=N:=by
 have h1:sig N (fun v=>sig M (fun i=>ind (f i=v)))<=sig N (fun _=>1):=zjY fun v _=>ziI fun i k h1 h2 e1 e2=>hi i k h1 h2 (e1.trans e2.symm)
 rw [zf9,zdm,zad (g:=fun _=>1) fun i hi'=>by
  rw [zbA (hf i hi') fun v _ hne=>by unfold ind; rw [if_neg fun e=>hne e.symm]]
  unfold ind; rw [if_pos rfl],zdm] at h1
 omega
theorem zhq (a b:Nat) (f:Nat->Int):sig (a+b) f=sig a f+sig b (fun j=>f (a+j)):=by
 induction b with
 | zero=>show sig a f=sig a f+0; omega
 | succ b ih=>show sig (a+b) f+f (a+b)=sig a f+(sig b _+f (a+b)); rw [ih]; omega
def cg (P:Nat) (a b:Int):Prop:=∃ k:Int,a=b+P*k
section
variable {P:Nat} {a b c d:Int}
theorem zam (a:Int):cg P a a:=⟨0,by simp⟩
theorem zby (h:a=b):cg P a b:=h ▸ zam a
theorem cg.symm (h:cg P a b):cg P b a:=by obtain ⟨k,rfl⟩:=h; exact ⟨-k,by rw [Int.mul_neg]; omega⟩
theorem cg.trans (h:cg P a b) (g:cg P b c):cg P a c:=by obtain ⟨k,rfl⟩:=h; obtain ⟨l,rfl⟩:=g; exact ⟨l+k,by rw [Int.mul_add]; omega⟩
theorem cg.add (h:cg P a b) (g:cg P c d):cg P (a+c) (b+d):=by obtain ⟨k,rfl⟩:=h; obtain ⟨l,rfl⟩:=g; exact ⟨k+l,by rw [Int.mul_add]; omega⟩
theorem cg.neg (h:cg P a b):cg P (-a) (-b):=by obtain ⟨k,rfl⟩:=h; exact ⟨-k,by rw [Int.mul_neg]; omega⟩
theorem cg.mul (h:cg P a b) (g:cg P c d):cg P (a*c) (b*d):=by
 obtain ⟨k,rfl⟩:=h; obtain ⟨l,rfl⟩:=g
 exact ⟨b*l+k*d+P*k*l,by grind⟩
theorem cg.mulL (x:Int) (g:cg P c d):cg P (x*c) (x*d):=(zam x).mul g
theorem zfo (a:Int):cg P (a % P) a:=⟨-(a / P),by have:=Int.emod_add_mul_ediv a P; rw [Int.mul_neg]; omega⟩
theorem zdQ (a:Nat):cg P ((a % P:Nat):Int) a:=by rw [Int.natCast_emod]; exact zfo _
theorem zga {a b:Nat} (h:cg P a b) (ha:a<P) (hb:b<P):a=b:=by
 obtain ⟨k,hk⟩:=h
 have h1:k=0:=by
  rcases Int.lt_trichotomy k 0 with h | h | h
  ·have:(P:Int)*k<=P*(-1):=Int.mul_le_mul_of_nonneg_left (by omega) (by omega)
   omega
  ·exact h
  ·have:(P:Int)*1<=P*k:=Int.mul_le_mul_of_nonneg_left (by omega) (by omega)
   omega
 subst h1
 omega
theorem zjv {n:Nat} {f g:Nat->Int} (h:∀ i,i<n->cg P (f i) (g i)):cg P (sig n f) (sig n g):=by
 induction n with
 | zero=>exact zam _
 | succ n ih=>exact (ih fun i hi=>h i (by omega)).add (h n (by omega))
end
theorem zeV (n:Nat) (f g:Nat->Int):sig n (fun i=>f i - g i)=sig n f - sig n g:=by
 induction n with
 | zero=>rfl
 | succ n ih=>show sig n _+(f n - g n)=sig n f+f n - (sig n g+g n); rw [ih]; omega
theorem zij (n:Nat) (f:Nat->Int):sig n (fun i => - f i) = - sig n f:=by
 induction n with
 | zero=>rfl
 | succ n ih=>show sig n _+(- f n) = - (sig n f+f n); rw [ih]; omega
theorem zik {n k:Nat} {f:Nat->Int} (hk:k<=n) (h:∀ i,k<=i->i<n->f i=0):sig n f=sig k f:=by
  induction n with
  | zero => have : k = 0 := by omega
            subst this; rfl
  | succ n ih =>
    by_cases e:k=n+1
    · subst e; rfl
    · show sig n f+f n=_
      rw [ih (by omega) fun i h1 h2=>h i h1 (by omega),h n (by omega) (by omega)]; omega
theorem zbI (n k:Nat) (x y:Nat->Int) (F:Nat->Nat->Int):sig n (fun i=>x i*sig k (fun j=>y j*F i j))=sig k (fun j=>y j*sig n (fun i=>x i*F i j)):=by
 have h1:sig n (fun i=>x i*sig k (fun j=>y j*F i j))=sig n (fun i=>sig k (fun j=>x i*(y j*F i j))):=zad fun i _=>(zcv _ _ _).symm
 have h2:sig k (fun j=>y j*sig n (fun i=>x i*F i j))=sig k (fun j=>sig n (fun i=>y j*(x i*F i j))):=zad fun i _=>(zcv _ _ _).symm
 rw [h1,h2,zf9]
 exact zad fun j _=>zad fun i _=>by rw [<-Int.mul_assoc,<-Int.mul_assoc,Int.mul_comm (x i)]
theorem zil (n k:Nat) (x:Nat->Int) (W:Nat->Nat->Int) (F:Nat->Int):sig n (fun a=>sig k (fun i=>x i*W i a)*F a)=sig k (fun i=>x i*sig n (fun a=>W i a*F a)):=by
 have h1:sig n (fun a=>sig k (fun i=>x i*W i a)*F a)=sig n (fun a=>F a*sig k (fun i=>x i*W i a)):=zad fun a _=>Int.mul_comm _ _
 rw [h1,zbI]
 exact zad fun i _=>by congr 1; exact zad fun a _=>Int.mul_comm _ _
def pwX (M:Nat) (m:Nat->Nat):Nat->Nat->Int
 | 0,j=>if j=0 then 1 else 0
 | n+1,j=>if j<M then (if j=0 then 0 else pwX M m n (j - 1)) - m j*pwX M m n (M - 1) else 0
def one0 (j:Nat):Int:=if j=0 then 1 else 0
section
variable {M:Nat} {m:Nat->Nat}
theorem zjw (hM:1<=M) {n j:Nat} (hj:M<=j):pwX M m n j=0:=by
 cases n with
 | zero=>show (if j=0 then (1:Int) else 0)=0; rw [if_neg (by omega)]
 | succ n=>show (if j<M then _ else (0:Int))=0; rw [if_neg (by omega)]
theorem zbj:∀ {t:Nat},t<M->∀ j,pwX M m t j=if j=t then 1 else 0:=by
 intro t
 induction t with
 | zero=>exact fun _ _=>rfl
 | succ t ih =>
  intro ht j
  show (if j<M then (if j=0 then 0 else pwX M m t (j - 1)) - m j*pwX M m t (M - 1) else 0)=_
  rw [ih (by omega),ih (by omega),if_neg (show ¬ M - 1=t by omega)]
  by_cases e:j=t+1
  ·rw [if_pos e,if_pos (by omega),if_neg (by omega),if_pos (by omega)]; omega
  ·rw [if_neg e]
   by_cases e1:j<M
   ·rw [if_pos e1]
    by_cases e2:j=0
    ·rw [if_pos e2]; omega
    ·rw [if_neg e2,if_neg (by omega)]; omega
   ·rw [if_neg e1]
theorem zjx (hM:1<=M) (j:Nat):pwX M m M j=if j<M then -(m j:Int) else 0:=by
 obtain ⟨k,rfl⟩:∃ k,M=k+1:=⟨M - 1,by omega⟩
 show (if j<k+1 then (if j=0 then 0 else pwX (k+1) m k (j - 1)) - m j*pwX (k+1) m k (k+1 - 1) else 0)=_
 rw [zbj (by omega),zbj (by omega),if_pos (show k+1 - 1=k by omega)]
 by_cases e1:j<k+1
 ·rw [if_pos e1,if_pos e1]
  by_cases e2:j=0
  ·rw [if_pos e2]; omega
  ·rw [if_neg e2,if_neg (by omega)]; omega
 ·rw [if_neg e1,if_neg e1]
theorem zim (hM:1<=M):∀ b n j,sig M (fun a=>pwX M m n a*pwX M m (a+b) j)=pwX M m (n+b) j:=by
 intro b
 induction b with
 | zero =>
  intro n j
  by_cases e:j<M
  ·rw [zbA e fun i hi hne=>by rw [Nat.add_zero,zbj hi,if_neg (by omega)]; omega,Nat.add_zero,zbj e,if_pos rfl,Nat.add_zero]; omega
  ·rw [zad (g:=fun _=>0) fun i hi=>by rw [zjw hM (show M<=j by omega)]; omega,za7,zjw hM (by omega)]
 | succ b ih =>
  intro n j
  show sig M (fun a=>pwX M m n a*(if j<M then (if j=0 then 0 else pwX M m (a+b) (j - 1)) - m j*pwX M m (a+b) (M - 1) else 0))=(if j<M then (if j=0 then 0 else pwX M m (n+b) (j - 1)) - m j*pwX M m (n+b) (M - 1) else 0)
  by_cases e:j<M
  ·simp only [if_pos e]
   have h1:∀ a,pwX M m n a*((if j=0 then 0 else pwX M m (a+b) (j - 1)) - m j*pwX M m (a+b) (M - 1))=(if j=0 then 0 else pwX M m n a*pwX M m (a+b) (j - 1)) - m j*(pwX M m n a*pwX M m (a+b) (M - 1)):=fun a=>by
    split <;> grind
   rw [zad fun a _=>h1 a,zeV,zcv,ih]
   by_cases e2:j=0
   ·simp only [if_pos e2]; rw [za7]
   ·simp only [if_neg e2]; rw [ih]
  ·simp only [if_neg e]
   rw [zad (g:=fun _=>0) fun i hi=>by omega,za7]
theorem zin (hM:1<=M) {i:Nat} (hi:M<=i) (q:Nat):pwX M m i q = - sig M (fun k=>m k*pwX M m (i - M+k) q):=by
 have h:=zim (m:=m) hM (i - M) M q
 rw [show M+(i - M)=i by omega] at h
 rw [<-h,<-zij]
 exact zad fun k hk=>by
  rw [zjx hM,if_pos hk,Int.neg_mul,show k+(i - M)=i - M+k by omega]
end
def mulI (M:Nat) (m:Nat->Nat) (x y:Nat->Int) (j:Nat):Int:=sig M fun i=>x i*sig M fun k=>y k*pwX M m (i+k) j
section
variable {M P:Nat} {m:Nat->Nat} {x y z x' y':Nat->Int}
theorem zaR (x y:Nat->Int):mulI M m x y=mulI M m y x:=funext fun j=>by
 show sig M (fun i=>x i*sig M fun k=>y k*pwX M m (i+k) j)=sig M (fun i=>y i*sig M fun k=>x k*pwX M m (i+k) j)
 rw [zbI]
 exact zad fun k _=>by congr 1; exact zad fun i _=>by rw [Nat.add_comm]
theorem zbq (hx:∀ i,i<M->cg P (x i) (x' i)) (hy:∀ i,i<M->cg P (y i) (y' i)) (j:Nat):cg P (mulI M m x y j) (mulI M m x' y' j) :=
 zjv fun i hi=>(hx i hi).mul (zjv fun k hk=>(hy k hk).mul (zam _))
def mul3 (M:Nat) (m:Nat->Nat) (x y z:Nat->Int) (j:Nat):Int:=sig M fun i=>x i*sig M fun k=>y k*sig M fun l=>z l*pwX M m (i+k+l) j
theorem zeW (hM:1<=M) (x y z:Nat->Int) (j:Nat):mulI M m (mulI M m x y) z j=mul3 M m x y z j:=by
 show sig M (fun a=>sig M (fun i=>x i*sig M fun k=>y k*pwX M m (i+k) a)*sig M fun l=>z l*pwX M m (a+l) j)=_
 rw [zil]
 refine zad fun i _=>?_
 congr 1
 rw [zil]
 refine zad fun k _=>?_
 congr 1
 rw [zbI]
 exact zad fun l _=>by rw [zim hM]
theorem zhr (x y z:Nat->Int) (j:Nat):mul3 M m x y z j=mul3 M m y z x j:=by
 show sig M (fun i=>x i*sig M fun k=>y k*sig M fun l=>z l*pwX M m (i+k+l) j)=sig M (fun k=>y k*sig M fun l=>z l*sig M fun i=>x i*pwX M m (k+l+i) j)
 rw [zbI]
 refine zad fun k _=>?_
 congr 1
 rw [zbI]
 refine zad fun l _=>?_
 congr 1
 exact zad fun i _=>by rw [show i+k+l=k+l+i by omega]
theorem zbJ (hM:1<=M) (x y z:Nat->Int):mulI M m (mulI M m x y) z=mulI M m x (mulI M m y z):=funext fun j=>by
 rw [zaR x (mulI M m y z),zeW hM,zeW hM,zhr]
theorem zhs (x y z:Nat->Int) (j:Nat):mulI M m x (fun k=>y k+z k) j=mulI M m x y j+mulI M m x z j:=by
 unfold mulI
 rw [<-zdP]
 refine zad fun i _=>?_
 rw [<-Int.mul_add,<-zdP]
 congr 1
 exact zad fun k _=>by rw [Int.add_mul]
theorem zdn (c:Int) (x y:Nat->Int) (j:Nat):mulI M m (fun k=>c*x k) y j=c*mulI M m x y j:=by
 unfold mulI
 rw [<-zcv]
 exact zad fun i _=>by rw [Int.mul_assoc]
theorem zdo (x:Nat->Int) {j:Nat} (hj:j<M):mulI M m one0 x j=x j:=by
 unfold mulI
 rw [zbA (k:=0) (by omega) fun i _ hne=>by unfold one0; rw [if_neg hne]; omega]
 rw [zbA (k:=j) hj fun i hi hne=>by rw [Nat.zero_add,zbj hi,if_neg (by omega)]; omega]
 rw [Nat.zero_add,zbj hj,if_pos rfl]
 unfold one0
 rw [if_pos rfl]; omega
end
def evX (M:Nat) (m:Nat->Nat) (N:Nat) (c:Nat->Nat) (q:Nat):Int:=sig N fun t=>(c t:Int)*pwX M m t q
theorem zeX {M N s v q:Nat} {m c:Nat->Nat} (hs:s<N):evX M m N (fun t=>if t=s then v else c t) q=evX M m N c q+((v:Int) - c s)*pwX M m s q:=by
 have h:sig N (fun t=>if t=s then ((v:Int) - c s)*pwX M m s q else 0)=((v:Int) - c s)*pwX M m s q:=by
  rw [zbA hs fun i _ hne=>by rw [if_neg hne],if_pos rfl]
 rw [<-h]
 unfold evX
 rw [<-zdP]
 refine zad fun t _=>?_
 simp only
 by_cases e:t=s
 ·subst e; rw [if_pos rfl,if_pos rfl]; grind
 ·rw [if_neg e,if_neg e]; omega
theorem za1 {p:Nat}:∀ {n:Nat} {f:Nat->Nat},(∀ i,i<n->f i<p)->∀ j,j<n->dig p (valN p f n) j=f j
 | 0,_,_,j,hj=>by omega
 | n + 1, f, h, j, hj => by
  have h0:=h 0 (by omega)
  show dig p (f 0+p*valN p (fun i=>f (i+1)) n) j=f j
  cases j with
  | zero=>rw [zbH,Nat.add_mul_mod_self_left]; exact Nat.mod_eq_of_lt h0
  | succ j =>
   rw [zcu,Nat.add_mul_div_left _ _ (by omega),Nat.div_eq_of_lt h0,Nat.zero_add]
   exact za1 (fun i hi=>h (i+1) (by omega)) j (by omega)
theorem zeY {p M x y:Nat} (hp:0<p) (hx:x<p ^ M) (hy:y<p ^ M) (h:∀ j,j<M->dig p x j=dig p y j):x=y:=by
 rw [<-zen hp M x hx,<-zen hp M y hy]
 exact zaK h
def dgt (p x j:Nat):Int:=(dig p x j:Nat)
theorem zbk {p M x y:Nat} (hp:0<p) (hx:x<p ^ M) (hy:y<p ^ M) (h:∀ j,j<M->cg p (dgt p x j) (dgt p y j)):x=y :=
 zeY hp hx hy fun j hj=>zga (h j hj) (zbG hp _ _) (zbG hp _ _)
theorem ziJ {P M:Nat} (hP:0<P) (x y:Nat) {j:Nat} (hj:j<M):cg P (dgt P (addF P M x y) j) (dgt P x j+dgt P y j):=by
 unfold dgt addF
 rw [za1 (fun _ _=>Nat.mod_lt _ hP) j hj]
 exact (zdQ _).trans (zby (by simp))
section
variable {P M:Nat} {m:Nat->Nat} {a b c:Nat->Nat}
theorem zjZ {N i:Nat} (q:Nat):∀ j,j<M+1->i+j<N+1->cg P (evX M m N (mIn P a b i c j) q) (evX M m N c q+a i*sig j fun k=>b k*pwX M m (i+k) q):=by
 intro j
 induction j with
 | zero=>intro _ _; exact zby (by show evX M m N c q=evX M m N c q+a i*0; omega)
 | succ j ih =>
  intro hj hjN
  have h1:evX M m N (mIn P a b i c (j+1)) q=evX M m N (mIn P a b i c j) q+((((mIn P a b i c j (i+j)+a i*b j) % P:Nat):Int) - mIn P a b i c j (i+j))*pwX M m (i+j) q:=zeX (by omega)
  rw [h1]
  refine ((ih (by omega) (by omega)).add ((((zdQ _).add (zam _))).mul (zam _))).trans (zby ?_)
  show _=_+(a i:Int)*(sig j (fun k=>b k*pwX M m (i+k) q)+b j*pwX M m (i+j) q)
  simp only [Int.natCast_add,Int.natCast_mul]
  grind
theorem zjy (hM:1<=M) (q:Nat):∀ i,i<M+1->cg P (evX M m (2*M - 1) (mOut P a b M i) q) (sig i fun i=>a i*sig M fun k=>b k*pwX M m (i+k) q):=by
 intro i
 induction i with
 | zero =>
  intro _
  refine zby ?_
  show sig _ (fun t=>(((0:Nat):Int))*_)=0
  rw [zad (g:=fun _=>0) fun t _=>by simp,za7]
 | succ i ih =>
  intro hi
  exact (zjZ q M (by omega) (by omega)).trans ((ih (by omega)).add (zam _))
theorem zj0 (i j t:Nat) (h:t<i - M∨i - M+j<=t):rIn P M m i c j t=c t:=by
 induction j with
 | zero=>rfl
 | succ j ih =>
  show (if t=i - M+j then _ else _)=_
  rw [if_neg (by omega)]
  exact ih (by omega)
theorem zj1 {i:Nat} (hM:M<=i) (hc:c i<=P) (q:Nat):∀ j,j<M+1->cg P (evX M m i (rIn P M m i c j) q) (evX M m i c q - c i*sig j fun k=>m k*pwX M m (i - M+k) q):=by
 intro j
 induction j with
 | zero=>intro _; exact zby (by show evX M m i c q=evX M m i c q - c i*0; omega)
 | succ j ih =>
  intro hj
  have h1:evX M m i (rIn P M m i c (j+1)) q=evX M m i (rIn P M m i c j) q+((((rIn P M m i c j (i - M+j)+(P - rIn P M m i c j i)*m j) % P:Nat):Int) - rIn P M m i c j (i - M+j))*pwX M m (i - M+j) q:=zeX (by omega)
  rw [h1,zj0 i j i (by omega)]
  refine ((ih (by omega)).add ((((zdQ _).add (zam _))).mul (zam _))).trans ?_
  show cg P _ (_ - (c i:Int)*(sig j (fun k=>m k*pwX M m (i - M+k) q)+m j*pwX M m (i - M+j) q))
  refine ⟨m j*pwX M m (i - M+j) q,?_⟩
  simp only [Int.natCast_add,Int.natCast_mul,Int.natCast_sub hc]
  grind
theorem zjz (hP:0<P) (hM:1<=M) (hc:∀ t,c t<P) (q:Nat):∀ s,s+1<=M->cg P (evX M m (2*M - 1 - s) (rOut P M m c s) q) (evX M m (2*M - 1) c q):=by
 intro s
 induction s with
 | zero=>intro _; exact zam _
 | succ s ih =>
  intro hs
  have hl:=zdO (M:=M) (m:=m) hP hc s (2*M - 2 - s)
  refine Go.Proofs.YtgekjfpapmlndaaGreat.cg.trans ?_ (ih (by omega))
  have e1:2*M - 1 - s=(2*M - 2 - s)+1:=by omega
  have e2:2*M - 1 - (s+1)=2*M - 2 - s:=by omega
  rw [e1,e2]
  have h:=zj1 (P:=P) (m:=m) (i:=2*M - 2 - s) (c:=rOut P M m c s) (show M<=2*M - 2 - s by omega) (by omega) q M (by omega)
  refine h.trans (zby ?_)
  show _=evX M m (2*M - 2 - s) (rOut P M m c s) q+(rOut P M m c s (2*M - 2 - s):Int)*pwX M m (2*M - 2 - s) q
  rw [zin hM (show M<=2*M - 2 - s by omega),Int.mul_neg]
  omega
theorem zdp (hP:0<P) (hM:1<=M) (x y:Nat) {j:Nat} (hj:j<M):cg P (dgt P (mulF P M m x y) j) (mulI M m (dgt P x) (dgt P y) j):=by
 have hl:=zeU (a:=dig P x) (b:=dig P y) (M:=M) hP M
 unfold dgt mulF
 rw [za1 (fun i _=>zdO hP hl (M - 1) i) j hj]
 have h1:evX M m M (rOut P M m (mOut P (dig P x) (dig P y) M M) (M - 1)) j=(rOut P M m (mOut P (dig P x) (dig P y) M M) (M - 1) j:Nat):=by
  unfold evX
  rw [zbA hj fun t ht hne=>by rw [zbj ht,if_neg (by omega)]; omega,zbj hj,if_pos rfl]
  omega
 rw [<-h1]
 have h2:=zjz (m:=m) hP hM hl j (M - 1) (by omega)
 rw [show 2*M - 1 - (M - 1)=M by omega] at h2
 exact h2.trans (zjy hM j M (by omega))
theorem zaN (hP:0<P) (x y:Nat):mulF P M m x y<P ^ M:=za4 fun _ _=>zdO hP (zeU hP M) _ _
end
def dIn (P d:Nat) (low:Nat->Nat) (i c:Nat) (r:Nat->Nat):Nat->Nat->Nat
 | 0=>r
 | j+1=>fun t=>if t=i - d+j then (dIn P d low i c r j (i - d+j)+(P - c)*low j) % P else dIn P d low i c r j t
def dOut (P d:Nat) (low:Nat->Nat) (M:Nat) (r:Nat->Nat):Nat->Nat->Nat
 | 0=>r
 | s+1=>fun t=>if t=M - s then 0 else dIn P d low (M - s) (dOut P d low M r s (M - s)) (dOut P d low M r s) d t
def modR (M:Nat) (m:Nat->Nat) (t:Nat):Nat:=if t<M then m t else 1
def DivB (P M:Nat) (m:Nat->Nat) (d:Nat) (low:Nat->Nat):Prop:=∀ t,t<M+1->dOut P d low M (modR M m) (M+1 - d) t=0
def IrrB (P M:Nat) (m:Nat->Nat):Prop:=∀ d,1<=d->2*d<=M->∀ v,v<P ^ d->¬ DivB P M m d (dig P v)
theorem zjA {P d:Nat} (hP:0<P) {low r:Nat->Nat} {i c:Nat} (hr:∀ t,r t<P):∀ j t,dIn P d low i c r j t<P:=by
 intro j
 induction j with
 | zero=>exact hr
 | succ j ih =>
  intro t
  show (if t=i - d+j then _ else _)<P
  split
  ·exact Nat.mod_lt _ hP
  ·exact ih t
theorem zeZ {P d M:Nat} (hP:0<P) {low r:Nat->Nat} (hr:∀ t,r t<P):∀ s t,dOut P d low M r s t<P:=by
 intro s
 induction s with
 | zero=>exact hr
 | succ s ih =>
  intro t
  show (if t=M - s then 0 else _)<P
  split
  ·exact hP
  ·exact zjA hP ih d t
theorem zjB {P d:Nat} {low r:Nat->Nat} {i c:Nat} (j t:Nat) (h:t<i - d∨i - d+j<=t):dIn P d low i c r j t=r t:=by
 induction j with
 | zero=>rfl
 | succ j ih =>
  show (if t=i - d+j then _ else _)=_
  rw [if_neg (by omega)]
  exact ih (by omega)
theorem ze0 {P d M:Nat} {low r:Nat->Nat} (hd:d<=M):∀ s,s<=M+1 - d->∀ t,M<t+s->t<=M->dOut P d low M r s t=0:=by
 intro s
 induction s with
 | zero=>intro _ t h1 h2; omega
 | succ s ih =>
  intro hs t h1 h2
  show (if t=M - s then 0 else _)=0
  by_cases e:t=M - s
  ·rw [if_pos e]
  ·rw [if_neg e,zjB d t (by omega)]
   exact ih (by omega) t (by omega) h2
def hD (P d:Nat) (low:Nat->Nat) (M:Nat) (r:Nat->Nat):Nat->Nat->Int
 | 0=>fun _=>0
 | s+1=>fun t=>if t=M - s - d then (dOut P d low M r s (M - s):Nat) else hD P d low M r s t
def lead (d:Nat) (low:Nat->Nat) (k:Nat):Int:=if k<d then (low k:Nat) else if k=d then 1 else 0
section
variable {P M d:Nat} {m low:Nat->Nat}
theorem zj2 (hd:d<=M):∀ s,s<=M+1 - d->∀ t,t+s<=M - d->hD P d low M (modR M m) s t=0:=by
 intro s
 induction s with
 | zero=>exact fun _ _ _=>rfl
 | succ s ih =>
  intro hs t ht
  show (if t=M - s - d then _ else _)=(0:Int)
  rw [if_neg (by omega)]
  exact ih (by omega) t (by omega)
theorem zio (hd:d<=M):∀ s,s<=M+1 - d->∀ t,M - d<t->hD P d low M (modR M m) s t=0:=by
 intro s
 induction s with
 | zero=>exact fun _ _ _=>rfl
 | succ s ih =>
  intro hs t ht
  show (if t=M - s - d then _ else _)=(0:Int)
  rw [if_neg (by omega)]
  exact ih (by omega) t ht
theorem zjC (hd:d<=M):∀ s,s+1<=M+1 - d->hD P d low M (modR M m) (s+1) (M - d)=1:=by
 intro s
 induction s with
 | zero =>
  intro _
  show (if M - d=M - 0 - d then ((modR M m (M - 0):Nat):Int) else _)=1
  rw [if_pos (by omega)]
  unfold modR
  rw [if_neg (by omega)]; rfl
 | succ s ih =>
  intro hs
  show (if M - d=M - (s+1) - d then _ else _)=(1:Int)
  rw [if_neg (by omega)]
  exact ih (by omega)
theorem zj3 {i c:Nat} {r:Nat->Nat} (hid:d<=i) (hiM:i<=M) (hc:c<=P) (q:Nat):∀ j,j<d+1->cg P (evX M m (M+1) (dIn P d low i c r j) q) (evX M m (M+1) r q - c*sig j fun k=>low k*pwX M m (i - d+k) q):=by
 intro j
 induction j with
 | zero=>intro _; exact zby (by show evX M m (M+1) r q=evX M m (M+1) r q - c*0; omega)
 | succ j ih =>
  intro hj
  have h1:evX M m (M+1) (dIn P d low i c r (j+1)) q=evX M m (M+1) (dIn P d low i c r j) q+((((dIn P d low i c r j (i - d+j)+(P - c)*low j) % P:Nat):Int) - dIn P d low i c r j (i - d+j))*pwX M m (i - d+j) q:=zeX (by omega)
  rw [h1]
  refine ((ih (by omega)).add ((((zdQ _).add (zam _))).mul (zam _))).trans ?_
  show cg P _ (_ - (c:Int)*(sig j (fun k=>low k*pwX M m (i - d+k) q)+low j*pwX M m (i - d+j) q))
  refine ⟨low j*pwX M m (i - d+j) q,?_⟩
  simp only [Int.natCast_add,Int.natCast_mul,Int.natCast_sub hc]
  grind
theorem ziK (t q:Nat):sig (d+1) (fun k=>lead d low k*pwX M m (t+k) q)=sig d (fun k=>low k*pwX M m (t+k) q)+pwX M m (t+d) q:=by
 show sig d _+_=_
 have h1:sig d (fun k=>lead d low k*pwX M m (t+k) q)=sig d (fun k=>low k*pwX M m (t+k) q):=zad fun k hk=>by unfold lead; rw [if_pos hk]
 have h2:lead d low d=1:=by unfold lead; rw [if_neg (by omega),if_pos rfl]
 rw [h1]
 show _+lead d low d*pwX M m (t+d) q=_
 rw [h2]; omega
theorem zjD (hP:0<P) (hP1:1<P) (hm:∀ t,t<M->m t<P) (hM:1<=M) (hd:d<=M) (q:Nat):∀ s,s<=M+1 - d->cg P (evX M m (M+1) (dOut P d low M (modR M m) s) q) (- sig (M+1) fun t=>hD P d low M (modR M m) s t*sig (d+1) fun k=>lead d low k*pwX M m (t+k) q):=by
 intro s
 have hr:∀ t,modR M m t<P:=fun t=>by unfold modR; split; exact hm t (by assumption); exact hP1
 induction s with
 | zero =>
  intro _
  refine zby ?_
  show sig M (fun t=>((modR M m t:Nat):Int)*pwX M m t q)+((modR M m M:Nat):Int)*pwX M m M q = - sig (M+1) (fun t=>0*_)
  rw [zad (n:=M+1) (g:=fun _=>0) fun t _=>by rw [Int.zero_mul],za7]
  rw [zad (n:=M) (g:=fun t=>(m t:Int)*pwX M m t q) fun t ht=>by unfold modR; rw [if_pos ht]]
  unfold modR
  rw [if_neg (by omega),zin hM (Nat.le_refl M),Nat.sub_self]
  simp only [Nat.zero_add]
  omega
 | succ s ih =>
  intro hs
  obtain ⟨c,a⟩:=exx (dOut P d low M (modR M m) s (M - s))
  have hc:c<P:=by rw [a]; exact zeZ hP hr s _
  have h0:=zj2 (P:=P) (m:=m) (low:=low) hd s (by omega) (M - s - d) (by omega)
  have h1:evX M m (M+1) (dOut P d low M (modR M m) (s+1)) q=evX M m (M+1) (dIn P d low (M - s) c (dOut P d low M (modR M m) s) d) q+(((0:Nat):Int) - dIn P d low (M - s) c (dOut P d low M (modR M m) s) d (M - s))*pwX M m (M - s) q:=by
   rw [a]; exact zeX (by omega)
  have h2:=zj3 (P:=P) (M:=M) (m:=m) (low:=low) (i:=M - s) (c:=c) (r:=dOut P d low M (modR M m) s) (show d<=M - s by omega) (by omega) (by omega) q d (by omega)
  rw [h1,zjB d (M - s) (by omega),<-a]
  refine (h2.add (zam _)).trans ?_
  refine (((ih (by omega)).add (zam _)).add (zam _)).trans (zby ?_)
  have h3:sig (M+1) (fun t=>hD P d low M (modR M m) (s+1) t*sig (d+1) fun k=>lead d low k*pwX M m (t+k) q)=sig (M+1) (fun t=>hD P d low M (modR M m) s t*sig (d+1) fun k=>lead d low k*pwX M m (t+k) q)+sig (M+1) (fun t=>if t=M - s - d then (c:Int)*sig (d+1) (fun k=>lead d low k*pwX M m (t+k) q) else 0):=by
   rw [<-zdP]
   refine zad fun t _=>?_
   show (if t=M - s - d then ((dOut P d low M (modR M m) s (M - s):Nat):Int) else hD P d low M (modR M m) s t)*_=_
   rw [<-a]
   by_cases e:t=M - s - d
   ·rw [if_pos e,if_pos e,e,h0]; omega
   ·rw [if_neg e,if_neg e]; omega
  have h4:sig (M+1) (fun t=>if t=M - s - d then (c:Int)*sig (d+1) (fun k=>lead d low k*pwX M m (t+k) q) else 0)=(c:Int)*sig (d+1) (fun k=>lead d low k*pwX M m (M - s - d+k) q):=by
   rw [zbA (k:=M - s - d) (by omega) fun t _ hne=>by rw [if_neg hne],if_pos rfl]
  rw [h3,h4,ziK,show M - s - d+d=M - s by omega]
  grind
theorem ziq (hP1:1<P) (hm:∀ t,t<M->m t<P) (hd1:1<=d) (hd:d<M) {q:Nat} (hq:q<M):cg P (mulI M m (hD P d low M (modR M m) (M+1 - d)) (lead d low) q) (- (dOut P d low M (modR M m) (M+1 - d) q:Nat)):=by
 have h:=zjD (low:=low) (by omega) hP1 hm (by omega) (show d<=M by omega) q (M+1 - d) (Nat.le_refl _)
 have hz:=ze0 (P:=P) (low:=low) (r:=modR M m) (show d<=M by omega) (M+1 - d) (Nat.le_refl _)
 have h1:evX M m (M+1) (dOut P d low M (modR M m) (M+1 - d)) q=(dOut P d low M (modR M m) (M+1 - d) q:Nat):=by
  unfold evX
  rw [zbA (k:=q) (by omega) fun t ht hne=>by
   by_cases e:t<M
   ·rw [zbj e,if_neg (by omega)]; omega
   ·rw [hz t (by omega) (by omega)]; omega]
  rw [zbj hq,if_pos rfl]; omega
 rw [h1] at h
 have h2:mulI M m (hD P d low M (modR M m) (M+1 - d)) (lead d low) q=sig (M+1) fun t=>hD P d low M (modR M m) (M+1 - d) t*sig (d+1) fun k=>lead d low k*pwX M m (t+k) q:=by
  unfold mulI
  rw [zik (n:=M+1) (k:=M) (by omega) fun t h1 h2=>by rw [zio (by omega) _ (Nat.le_refl _) t (by omega)]; omega]
  refine zad fun t _=>?_
  congr 1
  exact zik (by omega) fun k h1 h2=>by unfold lead; rw [if_neg (by omega),if_neg (by omega)]; omega
 rw [h2]
 have:=h.neg
 exact (zby (by omega)).trans this.symm
end
theorem zht {P:Nat} (hP:PrimeB P):∀ c,0<c->c<P->∃ u:Int,cg P (u*c) 1:=by
 intro c
 induction c using Nat.strongRecOn with
 | ind c ih =>
  intro h0 hc
  by_cases h1:c=1
  ·exact ⟨1,zby (by rw [h1]; rfl)⟩
  ·have hr:P % c≠0:=hP c (by omega) hc
   have hl:P % c<c:=Nat.mod_lt _ h0
   obtain ⟨u,k,hu⟩:=ih (P % c) hl (by omega) (by omega)
   have a:((P % c:Nat):Int)=P - c*(P / c:Nat):=by
    have:=Nat.mod_add_div P c
    have h2:((P % c+c*(P / c):Nat):Int)=P:=by rw [this]
    rw [Int.natCast_add,Int.natCast_mul] at h2
    omega
   rw [a] at hu
   refine ⟨-u*(P / c:Nat),k - u,?_⟩
   grind
section
variable {P M:Nat} {m:Nat->Nat}
theorem zjE (hP1:1<P) (hp:PrimeB P) (hM:1<=M) (hm:M=1∨∀ t,t<M->m t<P) (hi:IrrB P M m):∀ d,d<M->∀ A:Nat->Int,(∀ k,d<k->k<M->cg P (A k) 0)->¬ cg P (A d) 0->∃ B:Nat->Int,∀ j,j<M->cg P (mulI M m A B j) (one0 j):=by
 have o:∀ x:Int,¬ cg P x 0->∃ u:Int,cg P (u*x) 1:=fun x hx=>by
  have h0:0<=x % P:=Int.emod_nonneg _ (by omega)
  have h1:x % P<P:=Int.emod_lt_of_pos _ (by omega)
  obtain ⟨c,hc⟩:=Int.eq_ofNat_of_zero_le h0
  have L:c≠0:=fun e=>hx (((zfo x).symm).trans (zby (by rw [hc,e]; rfl)))
  obtain ⟨u,hu⟩:=zht hp c (by omega) (by omega)
  refine ⟨u,(Go.Proofs.YtgekjfpapmlndaaGreat.cg.mulL u ?_).trans hu⟩
  rw [<-hc]
  exact (zfo x).symm
 have p:¬ cg P 1 0:=fun h=>by
  have:=zga (P:=P) (a:=1) (b:=0) h (by omega) (by omega)
  omega
 intro d
 induction d using Nat.strongRecOn with
 | ind d ih =>
  intro hd A hA hAd
  obtain ⟨u,hu⟩:=o _ hAd
  by_cases hd0:d=0
  ·subst hd0
   refine ⟨fun k=>u*one0 k,fun j hj=>?_⟩
   rw [zaR,zdn]
   have h1:cg P (mulI M m one0 A j) (A j):=zby (zdo A hj)
   refine (Go.Proofs.YtgekjfpapmlndaaGreat.cg.mulL u h1).trans ?_
   unfold one0
   by_cases e:j=0
   ·subst e; rw [if_pos rfl]; exact hu
   ·rw [if_neg e]
    exact (Go.Proofs.YtgekjfpapmlndaaGreat.cg.mulL u (hA j (by omega) hj)).trans (zby (by omega))
  ·have C:∀ t,t<M->m t<P:=hm.resolve_left (by omega)
   obtain ⟨low,w⟩:∃ low:Nat->Nat,low=fun k=>((u*A k) % P).toNat:=⟨_,rfl⟩
   have E:∀ k,(low k:Int)=(u*A k) % P:=fun k=>by
    rw [w]
    have:=Int.emod_nonneg (u*A k) (show (P:Int)≠0 by omega)
    simp only; omega
   have D:∀ k,low k<P:=fun k=>by
    have:=Int.emod_lt_of_pos (u*A k) (show (0:Int)<P by omega)
    have:=E k; omega
   obtain ⟨low',f⟩:∃ l,l=dig P (valN P low d):=⟨_,rfl⟩
   have J:∀ k,k<d->low' k=low k:=fun k hk=>by rw [f]; exact za1 (fun i _=>D i) k hk
   have v:∀ k,k<M->cg P (lead d low' k) (u*A k):=fun k hk=>by
    unfold lead
    by_cases e:k<d
    ·rw [if_pos e,J k e,E]; exact zfo _
    ·rw [if_neg e]
     by_cases e2:k=d
     ·rw [if_pos e2,e2]; exact hu.symm
     ·rw [if_neg e2]
      exact ((Go.Proofs.YtgekjfpapmlndaaGreat.cg.mulL u (hA k (by omega) hk)).trans (zby (by omega))).symm
   obtain ⟨h,hh⟩:=exx (hD P d low' M (modR M m) (M+1 - d))
   obtain ⟨r,hr⟩:=exx (dOut P d low' M (modR M m) (M+1 - d))
   have s:∀ q,q<M->cg P (mulI M m h (lead d low') q) (- (r q:Nat)):=fun q hq=>by
    rw [hh,hr]; exact ziq hP1 C (by omega) hd hq
   have H:∀ t,r t<P:=fun t=>by
    rw [hr]
    exact zeZ (by omega) (fun t=>by unfold modR; split; exact C t (by assumption); exact hP1) _ t
   have y:∀ t,d<=t->t<=M->r t=0:=fun t h1 h2=>by rw [hr]; exact ze0 (by omega) _ (Nat.le_refl _) t (by omega) h2
   have F:∀ X:Nat->Int,(∀ j,j<M->cg P (mulI M m (lead d low') X j) (one0 j))->∃ B:Nat->Int,∀ j,j<M->cg P (mulI M m A B j) (one0 j):=fun X hX=>by
    refine ⟨fun k=>u*X k,fun j hj=>?_⟩
    refine Go.Proofs.YtgekjfpapmlndaaGreat.cg.trans ?_ (hX j hj)
    rw [zaR A,zdn,zaR X,<-zdn]
    exact zbq (fun i hi=>(v i hi).symm) (fun i _=>zam _) j
   by_cases hz:∀ t,t<d->r t=0
   ·have z:∀ t,t<M+1->r t=0:=fun t ht=>by
     by_cases e:t<d
     ·exact hz t e
     ·exact y t (by omega) (by omega)
    by_cases h2d:2*d<=M
    ·exact absurd (show DivB P M m d (dig P (valN P low d)) by rw [<-f]; unfold DivB; rw [<-hr]; exact z) (hi d (by omega) h2d _ (za4 fun i _=>D i))
    ·obtain ⟨B,hB⟩:=ih (M - d) (by omega) (by omega) h (fun k h1 h2=>by rw [hh,zio (by omega) _ (Nat.le_refl _) k h1]; exact zam _) (by rw [hh,show M+1 - d=(M - d)+1 by omega,zjC (by omega) (M - d) (by omega)]; exact p)
     exfalso
     apply p
     have e1:lead d low' d=1:=by unfold lead; rw [if_neg (by omega),if_pos rfl]
     rw [<-e1]
     have h1:cg P (mulI M m one0 (lead d low') d) (mulI M m (mulI M m h B) (lead d low') d):=zbq (fun i hi=>(hB i hi).symm) (fun i _=>zam _) d
     have h2:mulI M m (mulI M m h B) (lead d low')=mulI M m (mulI M m h (lead d low')) B:=by rw [zaR h B,zbJ hM,zaR B]
     have h3:cg P (mulI M m (mulI M m h (lead d low')) B d) (mulI M m (fun _=>0) B d):=zbq (fun i hi'=>(s i hi').trans (zby (by rw [z i (by omega)]; rfl))) (fun i _=>zam _) d
     have h4:mulI M m (fun _=>0) B d=0:=by
      unfold mulI
      rw [zad (g:=fun _=>0) fun i _=>by rw [Int.zero_mul],za7]
     rw [zdo _ hd,h2] at h1
     exact h1.trans (h3.trans (zby h4))
   ·-- the greatest index with a remainder that is not 0
    have K:∃ t,t<d/\r t≠0/\∀ k,t<k->k<d->r k=0:=by
     have : ∀ n, n ≤ d → (∀ t, n ≤ t → t < d → r t = 0) ∨ ∃ t, n ≤ t ∧ t < d ∧ r t ≠ 0 ∧ ∀ k, t < k → k < d → r k = 0 := by
      intro n
      induction hk:d - n generalizing n with
      | zero=>intro hn; exact .inl fun t h1 h2=>by omega
      | succ k ihk =>
       intro hn
       rcases ihk (n+1) (by omega) (by omega) with h | ⟨t,h1,h2,h3,h4⟩
       ·by_cases e:r n=0
        ·exact .inl fun t h1 h2=>by
          by_cases e2:t=n
          ·rw [e2]; exact e
          ·exact h t (by omega) h2
        ·exact .inr ⟨n,Nat.le_refl _,by omega,e,fun k h1 h2=>h k (by omega) h2⟩
       ·exact .inr ⟨t,by omega,h2,h3,h4⟩
     rcases this 0 (by omega) with h | ⟨t,_,h2,h3,h4⟩
     ·exact absurd (fun t ht=>h t (by omega) ht) hz
     ·exact ⟨t,h2,h3,h4⟩
    obtain ⟨t,ht,G,I⟩:=K
    obtain ⟨B,hB⟩:=ih t ht (by omega) (fun k => - (r k:Int)) (fun k h1 h2=>by
     have:r k=0:=by
      by_cases e:k<d
      ·exact I k h1 e
      ·exact y k (by omega) (by omega)
     exact zby (by rw [this]; rfl)) (fun h=>by
     have h':=h.neg
     rw [Int.neg_neg] at h'
     exact G (zga (P:=P) (a:=r t) (b:=0) (h'.trans (zby rfl)) (H t) (by omega)))
    refine F (mulI M m h B) fun j hj=>?_
    have e1:mulI M m (lead d low') (mulI M m h B)=mulI M m (mulI M m h (lead d low')) B:=by rw [<-zbJ hM,zaR (lead d low') h]
    rw [e1]
    exact (zbq (fun i hi'=>s i hi') (fun i _=>zam _) j).trans (hB j hj)
end
structure FieldLaws (q:Nat) (add mul:Nat->Nat->Nat):Prop where
 two:2<=q
 addLt:∀ x y,add x y<q
 mulLt:∀ x y,mul x y<q
 addComm:∀ x y,add x y=add y x
 addAssoc:∀ x y z,x<q->y<q->z<q->add (add x y) z=add x (add y z)
 zeroAdd:∀ x,x<q->add 0 x=x
 neg:∀ x,x<q->∃ y,y<q/\add x y=0
 mulComm:∀ x y,x<q->y<q->mul x y=mul y x
 mulAssoc:∀ x y z,x<q->y<q->z<q->mul (mul x y) z=mul x (mul y z)
 oneMul:∀ x,x<q->mul 1 x=x
 distrib:∀ x y z,x<q->y<q->z<q->mul x (add y z)=add (mul x y) (mul x z)
 inv:∀ x,x<q->x≠0->∃ y,y<q/\mul x y=1
def FieldOk (P M:Nat) (m:Nat->Nat):Prop:=FldOk P M/\PrimeB P/\(M=1∨∀ t,t<M->m t<P)/\IrrB P M m
theorem fieldLaws {P M:Nat} {m:Nat->Nat} (h:FieldOk P M m):FieldLaws (P ^ M) (addF P M) (mulF P M m):=by
 obtain ⟨⟨o,hM,_,_⟩,hp,hm,hi⟩:=h
 have a:0<P:=by omega
 have hq:P<=P ^ M:=by
  have:=Nat.pow_le_pow_right a hM
  simpa using this
 have one:∀ j,dgt P 1 j=one0 j:=fun j=>by
  unfold dgt one0
  cases j with
  | zero=>rw [zbH,Nat.mod_eq_of_lt (by omega)]; rfl
  | succ j=>rw [zcu,Nat.div_eq_of_lt (by omega),zbp]; rfl
 have aD:=fun (x y j:Nat) (hj:j<M)=>ziJ (P:=P) a x y hj
 have mD:=fun (x y j:Nat) (hj:j<M)=>zdp (P:=P) (m:=m) a hM x y hj
 have val:∀ B:Nat->Int,∃ y,y<P ^ M/\∀ j,j<M->cg P (dgt P y j) (B j):=fun B=>by
  have hl:∀ j,(((B j) % P).toNat:Int)=B j % P:=fun j=>by
   have:=Int.emod_nonneg (B j) (show (P:Int)≠0 by omega)
   omega
  have c:∀ j,((B j) % P).toNat<P:=fun j=>by
   have:=Int.emod_lt_of_pos (B j) (show (0:Int)<P by omega)
   have:=hl j; omega
  refine ⟨valN P (fun j=>((B j) % P).toNat) M,za4 fun i _=>c i,fun j hj=>?_⟩
  unfold dgt
  rw [za1 (fun i _=>c i) j hj,hl]
  exact zfo _
 refine ⟨by omega,fun x y=>zdd a x y,fun x y=>zaN a x y,zhp P M,fun x y z hx hy hz=>?_,fun x hx=>zho a hx,fun x hx=>?_,fun x y hx hy=>?_,fun x y z hx hy hz=>?_,fun x hx=>?_,fun x y z hx hy hz=>?_,fun x hx h0=>?_⟩
 ·refine zbk a (zdd a _ _) (zdd a _ _) fun j hj=>?_
  refine (aD _ _ j hj).trans (((aD _ _ j hj).add (zam _)).trans ?_)
  exact (zby (by omega)).trans ((aD _ _ j hj).trans ((zam _).add (aD _ _ j hj))).symm
 ·obtain ⟨y,hy,hB⟩:=val fun j => - dgt P x j
  refine ⟨y,hy,zbk a (zdd a _ _) (Nat.pow_pos a) fun j hj=>?_⟩
  refine (aD _ _ j hj).trans (((zam _).add (hB j hj)).trans (zby ?_))
  unfold dgt; rw [zbp]; omega
 ·refine zbk a (zaN a _ _) (zaN a _ _) fun j hj=>?_
  exact (mD _ _ j hj).trans ((zby (by rw [zaR])).trans (mD _ _ j hj).symm)
 ·refine zbk a (zaN a _ _) (zaN a _ _) fun j hj=>?_
  refine (mD _ _ j hj).trans ((zbq (fun i hi=>mD _ _ i hi) (fun i _=>zam _) j).trans ?_)
  rw [zbJ hM]
  exact ((mD _ _ j hj).trans (zbq (fun i _=>zam _) (fun i hi=>mD _ _ i hi) j)).symm
 ·refine zbk a (zaN a _ _) hx fun j hj=>?_
  refine (mD _ _ j hj).trans (zby ?_)
  rw [show dgt P 1=one0 from funext one,zdo _ hj]
 ·refine zbk a (zaN a _ _) (zdd a _ _) fun j hj=>?_
  refine (mD _ _ j hj).trans ((zbq (fun i _=>zam _) (fun i hi=>aD _ _ i hi) j).trans ?_)
  rw [zhs]
  exact ((aD _ _ j hj).trans ((mD _ _ j hj).add (mD _ _ j hj))).symm
 -- the leading digit
 have l:∃ d,d<M/\dig P x d≠0/\∀ k,d<k->k<M->dig P x k=0:=by
  have : ∀ n, n ≤ M → (∀ t, n ≤ t → t < M → dig P x t = 0) ∨ ∃ t, n ≤ t ∧ t < M ∧ dig P x t ≠ 0 ∧ ∀ k, t < k → k < M → dig P x k = 0 := by
   intro n
   induction hk:M - n generalizing n with
   | zero=>intro hn; exact .inl fun t h1 h2=>by omega
   | succ k ihk =>
    intro hn
    rcases ihk (n+1) (by omega) (by omega) with h | ⟨t,h1,h2,h3,h4⟩
    ·by_cases e:dig P x n=0
     ·exact .inl fun t h1 h2=>by
       by_cases e2:t=n
       ·rw [e2]; exact e
       ·exact h t (by omega) h2
     ·exact .inr ⟨n,Nat.le_refl _,by omega,e,fun k h1 h2=>h k (by omega) h2⟩
    ·exact .inr ⟨t,by omega,h2,h3,h4⟩
  rcases this 0 (by omega) with h | ⟨t,_,h2,h3,h4⟩
  ·exact absurd (zeY a hx (Nat.pow_pos a) fun j hj=>by rw [h j (by omega) hj,zbp]) h0
  ·exact ⟨t,h2,h3,h4⟩
 obtain ⟨d,hd,g,hk⟩:=l
 obtain ⟨B,hB⟩:=zjE (by omega) hp hM hm hi d hd (dgt P x) (fun k h1 h2=>zby (by unfold dgt; rw [hk k h1 h2]; rfl)) (fun h=>g (zga (P:=P) (b:=0) h (zbG a _ _) a))
 obtain ⟨y,hy,f⟩:=val B
 refine ⟨y,hy,zbk a (zaN a _ _) (by omega) fun j hj=>?_⟩
 refine (mD _ _ j hj).trans ((zbq (fun i _=>zam _) (fun i hi'=>f i hi') j).trans ((hB j hj).trans (zby (one j).symm)))
theorem zaz (w:World) (a b c:Value) (T:TypeId):∃ W,W=w.alloc (.cells #[a,b,c] T)/\Below w.heap.size w W/\W.rowIs w.heap.size T 3 (fldCell a b c):=⟨_,rfl,(Below.refl _ _).alloc (Nat.le_refl _) _,zau⟩
end Go.Proofs.YtgekjfpapmlndaaGreat
