/- Merged texts of a claim: PolN, Enumer, EAdd, MulMath, EMul, PolTab, PolPath. -/
import Derived.Test.YtgekjfpapmlndaaGreatUW9
namespace Go.Proofs.YtgekjfpapmlndaaGreat
set_option maxRecDepth 100000
set_option maxHeartbeats 32000000
open KA KB KC KD KE KF
open Go.RowKit
def plen (x:Nat->Nat):Nat->Nat
 | 0=>0
 | n+1=>if x n≠0 then n+1 else plen x n
theorem zgV (x:Nat->Nat) (n:Nat):plen x n<=n:=by
 induction n with
 | zero=>exact Nat.le_refl _
 | succ n ih =>
  show (if x n≠0 then n+1 else plen x n)<=n+1
  split <;> omega
theorem zgW {x:Nat->Nat} {n k:Nat} (h:plen x n<=k) (hk:k<n):x k=0:=by
 induction n with
 | zero=>omega
 | succ n ih =>
  have e:plen x (n+1)=if x n≠0 then n+1 else plen x n:=rfl
  rw [e] at h
  by_cases h0:x n=0
  ·rw [if_neg (by simpa using h0)] at h
   by_cases e2:k=n
   ·subst e2; exact h0
   ·exact ih h (by omega)
  ·rw [if_pos h0] at h
   omega
theorem zfe {x:Nat->Nat} {n m:Nat} (hnm:n<=m) (h:∀ k,n<=k->k<m->x k=0):plen x m=plen x n:=by
  induction m with
  | zero => obtain rfl : n = 0 := by omega
            rfl
  | succ m ih =>
    by_cases e:n=m+1
    · subst e; rfl
    · have e2:plen x (m+1)=if x m≠0 then m+1 else plen x m:=rfl
      rw [e2,if_neg (by simpa using h m (by omega) (by omega))]
      exact ih (by omega) fun k h1 h2=>h k h1 (by omega)
def updN (x:Nat->Nat) (i y:Nat):Nat->Nat:=fun k=>if k=i then y else x k
section
variable {w w':World} {base g o n c:Nat} {x:Nat->Nat}
theorem NatOwn.rd (h:NatOwn w base (.slice (some ⟨g,o,none⟩) n c) n x) {i:Nat} (hi:i<n) :
  ∃ A d,w.cell? ⟨g,o+i,none⟩=some (.slice A (dl (x i)) d)/\dl (x i)<=d/\d<=maxLen/\NatOk w w.heap.size A (x i)/\w.frozen? ⟨g,o+i,none⟩=false:=by
 obtain ⟨f,h1,h2,h3⟩:=h
 obtain ⟨A,d,e0,n1,n2,n3⟩:=h3 i hi
 obtain ⟨b9,o9,e9,_,hc⟩:=h1.rd rfl i hi
 injection e9 with e9
 injection e9 with e8 e9
 subst e8 e9
 have a:=hc 0 (by omega)
 rw [Nat.mul_one,Nat.add_zero,e0] at a
 exact ⟨A,d,a,n2,n3,n1,h1.frozen (o+i)⟩
theorem NatOwn.set (h:NatOwn w base (.slice (some ⟨g,o,none⟩) n c) n x) {i:Nat} (hi:i<n) {A:Option Addr} {d y:Nat} (hy:NatOk w w.heap.size A y) (h1:dl y<=d) (h2:d<=maxLen) :
  NatOwn (w.setCell ⟨g,o+i,none⟩ (.slice A (dl y) d)) base (.slice (some ⟨g,o,none⟩) n c) n (updN x i y):=by
 obtain ⟨f,k1,k2,k3⟩:=h
 have j:NoInt w g:=k2 g rfl
 have l:∀ u:Int,(Value.slice A (dl y) d)≠.int .u32 u:=fun u e=>by cases e
 have ks:=k1.set (a:=i) (b:=0) hi (by omega) (.slice A (dl y) d)
 rw [Nat.mul_one,Nat.add_zero] at ks
 refine ⟨_,ks,fun q hq=>?_,fun k hk=>?_⟩
 ·obtain rfl:g=q:=by simpa [Value.ownBlock] using hq
  exact zaD j l
 by_cases e:k=i
 ·subst e
  exact ⟨A,d,by rw [if_pos ⟨rfl,rfl⟩]; unfold updN; rw [if_pos rfl],by unfold updN; rw [if_pos rfl]; exact zaT hy j _,by unfold updN; rw [if_pos rfl]; exact h1,h2⟩
 ·obtain ⟨A',c',e0,n1,n2,n3⟩:=k3 k hk
  exact ⟨A',c',by rw [if_neg fun hh=>e hh.1]; unfold updN; rw [if_neg e]; exact e0,by unfold updN; rw [if_neg e]; exact zaT n1 j _,by unfold updN; rw [if_neg e]; exact n2,n3⟩
theorem NatOwn.cut (h:NatOwn w base (.slice (some ⟨g,o,none⟩) n c) n x) {d:Nat} (hd:d<=n):NatOwn w base (.slice (some ⟨g,o,none⟩) d d) d x:=by
 obtain ⟨f,k1,k2,k3⟩:=h
 refine ⟨f,?_,fun q hq=>k2 q (by simpa [Value.ownBlock] using hq),fun i hi=>k3 i (by omega)⟩
 rcases k1 with ⟨h,_⟩ | ⟨g',o',cap,cur,h1,h2,h3,h4,h5,h6,h7⟩
 ·cases h
 injection h1 with h1 _ h8
 injection h1 with h1
 injection h1 with h1 h9
 subst h1 h9 h8
 exact .inr ⟨g,o,d,cur,rfl,h2,h3,Nat.le_refl _,by omega,by omega,fun i hi j hj=>h7 i (by omega) j hj⟩
theorem NatOwn.monoB {v:Value} {b':Nat} (h:NatOwn w base v n x) (hb:b'<=base):NatOwn w b' v n x:=by
 obtain ⟨f,k1,k2,k3⟩:=h
 exact ⟨f,k1.mono hb,k2,k3⟩
theorem NatOwn.setFar {v:Value} (h:NatOwn w base v n x) {b k:Nat} (hne:v.ownBlock≠some b) (hni:NoInt w b) {u:Value} (hu:∀ z,u≠.int .u32 z):NatOwn (w.setCell ⟨b,k,none⟩ u) base v n x:=by
 obtain ⟨f,k1,k2,k3⟩:=h
 refine ⟨f,k1.setCell (a:=⟨b,k,none⟩) hne _,fun q hq=>zaD (k2 q hq) hu,fun i hi=>?_⟩
 obtain ⟨A',c',e0,n1,n2,n3⟩:=k3 i hi
 exact ⟨A',c',e0,zaT n1 hni _,n2,n3⟩
end
theorem zbb (tb:Nat) (x y:Nat) (A A2:Option Addr) (c c2:Nat) (w:World) (c0:w.cell? ⟨tb,0,none⟩=some (.slice A (dl x) c)) (c1:w.cell? ⟨tb,1,none⟩=some (.slice A2 (dl y) c2)) (h:NatOk w w.heap.size A x) (h2:NatOk w w.heap.size A2 y) (hc:dl x<=c) (hm:c<=maxLen) (hc2:dl y<=c2) (hm2:c2<=maxLen) (hs:dl x<=1048576) (hs2:dl y<=1048576) (hs3:dl (x+y)<=1048576) :
  Calls Tryz.prog 288 #[.slice (some ⟨tb,0,none⟩) 2 2] w (NatPost (x+y) w):=by
 have hl:=World.block_lt_of_cell? _ _ c0
 have hT:NatTab w w.heap.size (some ⟨tb,0,none⟩) 2 (fun i=>if i=0 then x else y):=fun i hi=>by
  match i,hi with
  | 0,_=>exact ⟨tb,0,A,c,rfl,hl,c0,hc,hm,h⟩
  | 1,_=>exact ⟨tb,0,A2,c2,rfl,hl,c1,hc2,hm2,h2⟩
 have a:sumN (fun i=>if i=0 then x else y) 2=x+y:=by simp [sumN]
 have:=zf4 (some ⟨tb,0,none⟩) 2 2 (fun i=>if i=0 then x else y) w hT (by omega) (fun k hk=>by
  match k,hk with
  | 0,_=>simp [sumN,zaG]
  | 1,_=>simp [sumN]; omega
  | 2,_=>simp [sumN]; omega) (fun k hk=>by
  match k,hk with
  | 0,_=>simp; omega
  | 1,_=>simp; omega)
 rwa [a] at this
theorem zcS (tb:Nat) (x y:Nat) (A A2:Option Addr) (c c2:Nat) (w:World) (c0:w.cell? ⟨tb,0,none⟩=some (.slice A (dl x) c)) (c1:w.cell? ⟨tb,1,none⟩=some (.slice A2 (dl y) c2)) (h:NatOk w w.heap.size A x) (h2:NatOk w w.heap.size A2 y) (hc:dl x<=c) (hm:c<=maxLen) (hc2:dl y<=c2) (hm2:c2<=maxLen) (hs:dl x<=1048576) (hs2:dl y<=1048576) (hs3:dl (x*y)<=1048576) :
  Calls Tryz.prog 290 #[.slice (some ⟨tb,0,none⟩) 2 2] w (NatPost (x*y) w):=by
 have hl:=World.block_lt_of_cell? _ _ c0
 have hT:NatTab w w.heap.size (some ⟨tb,0,none⟩) 2 (fun i=>if i=0 then x else y):=fun i hi=>by
  match i,hi with
  | 0,_=>exact ⟨tb,0,A,c,rfl,hl,c0,hc,hm,h⟩
  | 1,_=>exact ⟨tb,0,A2,c2,rfl,hl,c1,hc2,hm2,h2⟩
 have a:prodN (fun i=>if i=0 then x else y) 2=x*y:=by simp [prodN]
 have:=zf7 (some ⟨tb,0,none⟩) 2 2 (fun i=>if i=0 then x else y) w hT (by omega) (fun k hk=>by
  match k,hk with
  | 0,_=>show dl 1<=_; rw [zbQ (by omega) (by omega)]; omega
  | 1,_=>simp [prodN]; omega
  | 2,_=>simp [prodN]; omega) (fun k hk=>by
  match k,hk with
  | 0,_=>simp; omega
  | 1,_=>simp; omega)
 rwa [a] at this
theorem zfR (A:Option Addr) (c x:Nat) (w:World) (h:NatOk w w.heap.size A x) (hc:dl x<=c) (hm:c<=maxLen) (hs:dl x<=1048576) :
  Calls Tryz.prog 169 #[.slice A (dl x) c] w (NatPost x w):=by
 have:=zek A (dl x) c (dg x) w h (zel x) hc hm (by omega)
 rwa [zhe] at this
def PolPost (d:Nat) (x:Nat->Nat) (w:World) (e:Ending) (w':World):Prop:=∃ v,e=.returned v/\NatOwn w' w.heap.size v d x/\Below w.heap.size w w'
theorem zaW (A:Option Addr) (n c:Nat) (x:Nat->Nat) (w:World) (h:NatTab w w.heap.size A n x) (hn:n<=4096) (hx:Hid (∀ k,k<n->dl (x k)<=1048576)) :
  Calls Tryz.prog 289 #[.slice A n c] w (PolPost (plen x n) x w):=by
 have s:=fun W=>zaf (P:=Tryz.prog) 64 69 _ 24 Tryz.underlying64 Tryz.infoNat rfl (n:Int) (by omega) (by omega) (by omega) W
 simp only [Int.toNat_natCast] at s
 have HT:=hid h
 clear h
 go_enter Tryz.func289, Tryz.ntmps289
 go_upto_region 2 with fail
 have hO:=zb3 (w:=w) (base:=w.heap.size) (n:=n) (Nat.le_refl _) (by unfold maxLen; omega)
 have hB:=(Below.refl w.heap.size w).alloc (Nat.le_refl _) (Obj.cells (madeCells #[Value.slice none 0 0] n) 69)
 obtain ⟨w1,q⟩:=exx (w.alloc (Obj.cells (madeCells #[Value.slice none 0 0] n) 69))
 obtain ⟨g,hg⟩:=exx w.heap.size
 have HG:=hid hg
 rw [<-q] at hO hB ⊢;rw [<-hg];rw [<-hg] at hO
 have z:NatOwn w1 g (.slice (some ⟨g,0,none⟩) n n) n (fun k=>if k<0 then x k else 0):=hO.congr fun i _=>(if_neg (by omega)).symm
 clear q hO s hg
 go_wp2
 go_loopg [4,12] n (fun gg nv iv wx=>∃ k:Nat,iv=.int .i64 (k:Nat)/\k<=n/\n<=k+gg/\nv=.int .i64 (plen x k:Nat)/\NatOwn wx g (.slice (some ⟨g,0,none⟩) n n) n (fun i=>if i<k then x i else 0)/\Below w.heap.size w wx)
 case atStart=>exact ⟨0,rfl,by omega,by omega,rfl,z,hB⟩
 clear z hB
 obtain ⟨k,rfl,hk,D,rfl,hO,hB⟩:=hrel
 have E:(0:Int)<=(k:Int):=by omega
 by_cases hlt:k<n
 rotate_left
 ·have b:¬ (k:Int)<(n:Int):=by omega
  obtain rfl:k=n:=by omega
  have r:=zgV x k
  have v:=hid ((hO.cut r).congr (y':=x) fun i hi=>if_pos (by omega))
  obtain ⟨d,hd⟩:=exx (plen x k)
  rw [<-hd] at v r ⊢
  have HD:=hid hd
  have G:(d:Int)<=(k:Int):=by omega
  have F:(0:Int)<=(d:Int):=by omega
  clear hO hd
  go_wp2
  go_ret
  exact ⟨_,rfl,by rw [<-HG.out,<-HD.out]; exact v.out,hB⟩
 have b:(k:Int)<(n:Int):=by omega
 obtain ⟨tb,to',A2,c2,rfl,C,x0,x1,x2,x3⟩:=HT.out.on hB k hlt
 have u:=hx.out k hlt
 have a:plen x (k+1)=if x k≠0 then k+1 else plen x k:=rfl
 obtain ⟨y,hy⟩:=exx (x k)
 rw [<-hy] at x0 x1 x3 u a
 have HY:=hid hy
 have B:=hid a
 clear hy a
 go_wp2_with fail
 refine (zfR A2 c2 y wr x3 x1 x2 (by omega)).mono ?_
 rintro e w2 ⟨A3,c3,rfl,y1,y2,y3,kb⟩
 replace hO:=hO.on kb;replace hB:=onS hB kb
 obtain ⟨A9,d9,q0,_,_,_,z0⟩:=hO.rd hlt
 have l:=hO.set hlt y3 y1 y2
 have m:=hB.setCell (p:=⟨g,0+k,none⟩) (by show w.heap.size<=g; rw [HG.out]; exact Nat.le_refl _) (.slice A3 (dl y) c3)
 rw [Nat.zero_add] at l m q0 z0
 have j:=hid (l.congr (y':=fun i=>if i<k+1 then x i else 0) fun i _=>by
  show updN (fun i=>if i<k then x i else 0) k y i=if i<k+1 then x i else 0
  unfold updN
  by_cases e:i=k
  ·subst e; rw [if_pos rfl,if_pos (Nat.lt_succ_self _),HY.out]
  rw [if_neg e]
  show (if i<k then x i else 0)=_
  by_cases e2:i<k
  ·rw [if_pos e2,if_pos (by omega)]
  ·rw [if_neg e2,if_neg (by omega)])
 have o:=hid m
 clear hO hB l m kb x0 x1 x2 x3 y3
 by_cases h0:y=0
 ·have e0:dl y=0:=zaZ.2 h0
  have HP:Hid (plen x (k+1)=plen x k):=by rw [B.out,if_neg (by simpa using h0)]; exact hid rfl
  rw [e0] at j o ⊢;clear h0 u
  go_wp2
  go_roundg (gk - 1)
  case measure=>omega
  case rel=>exact ⟨k+1,by go_num,by omega,by omega,by rw [HP.out],j.out,o.out⟩
 have e0:0<dl y:=by
  rcases Nat.eq_zero_or_pos (dl y) with h | h
  ·exact absurd (zaZ.1 h) h0
  ·exact h
 have e1:(0:Int)<(dl y:Int):=by omega
 have HP:Hid (plen x (k+1)=k+1):=by rw [B.out,if_pos h0]; exact hid rfl
 clear h0
 go_wp2
 go_roundg (gk - 1)
 case measure=>omega
 case rel=>exact ⟨k+1,by go_num,by omega,by omega,by rw [HP.out]; go_num,j.out,o.out⟩
def addP (a b:Nat) (p q:Nat->Nat) (k:Nat):Nat:=(if k<a then p k else 0)+if k<b then q k else 0
theorem zbO {w:World} {A:Option Addr} {n:Nat} {x:Nat->Nat} (h:NatTab w w.heap.size A n x) {i:Nat} (hi:i<n):∃ b o A' c,A=some ⟨b,o,none⟩/\b<w.heap.size/\w.cell? ⟨b,o+i,none⟩=some (.slice A' (dl (x i)) c)/\dl (x i)<=c/\c<=maxLen/\NatOk w w.heap.size A' (x i):=h i hi
theorem zjf (A A2:Option Addr) (a b c c2:Nat) (p q:Nat->Nat) (w:World) (h:NatTab w w.heap.size A a p) (h2:NatTab w w.heap.size A2 b q) (ha:a<=2048) (hb:b<=2048)
  (hp:Hid (∀ k,k<a->dl (p k)<=1000000)) (hq:Hid (∀ k,k<b->dl (q k)<=1000000)) (hs:Hid (∀ k,dl (addP a b p q k)<=1000000)) :
  Calls Tryz.prog 285 #[.agg #[],.slice A a c,.slice A2 b c2] w (PolPost (plen (addP a b p q) (max a b)) (addP a b p q) w):=by
 have ad:=hid h
 have Q:=hid h2
 obtain ⟨m,hm⟩:=exx (max a b)
 have ap:a<=m:=by omega
 have ao:b<=m:=by omega
 have al:max (a:Int) (b:Int)=(m:Int):=by omega
 have af:m<=2048:=by omega
 rw [<-hm]
 have a7:=fun W=>zaf (P:=Tryz.prog) 64 69 _ 24 Tryz.underlying64 Tryz.infoNat rfl (m:Int) (by omega) (by omega) (by omega) W
 simp only [Int.toNat_natCast] at a7
 clear h h2 hm
 go_enter Tryz.func285, Tryz.ntmps285
 obtain ⟨RB,aa⟩:=exx ((Obj.cells #[] 141))
 have O:=aly w RB
 go_wp2_with fail
 rw [<-aa]
 obtain ⟨w0,R⟩:=exx (w.alloc RB)
 have a4:w0.heap.size=w.heap.size+1:=by rw [R]; simp
 rw [<-R] at O ⊢;rw [<-a4];clear aa R
 have hO:=zb3 (w:=w0) (base:=w.heap.size) (n:=m) O.size (by unfold maxLen; omega)
 have hB:=onS O ((Below.refl w0.heap.size w0).alloc (Nat.le_refl _) (Obj.cells (madeCells #[Value.slice none 0 0] m) 69))
 go_upto_region 2 with fail
 obtain ⟨w1,a3⟩:=exx (w0.alloc (Obj.cells (madeCells #[Value.slice none 0 0] m) 69))
 obtain ⟨g,hg⟩:=exx w0.heap.size
 have HG:Hid (w.heap.size<=g):=by show _<=g; omega
 rw [<-a3] at hO hB ⊢;rw [<-hg]
 have ab:NatOwn w1 w.heap.size (.slice (some ⟨g,0,none⟩) m m) m (fun k=>if k<0 then addP a b p q k else 0):=by
  rw [hg]
  exact hO.congr fun i _=>(if_neg (by omega)).symm
 clear a3 hO a7 hg O a4
 go_wp2
 go_loopg [17] m (fun gg iv wx=>∃ i:Nat,iv=.int .i64 (i:Nat)/\i<=m/\m<=i+gg/\NatOwn wx w.heap.size (.slice (some ⟨g,0,none⟩) m m) m (fun k=>if k<i then addP a b p q k else 0)/\Below w.heap.size w wx)
 case atStart=>exact ⟨0,rfl,by omega,by omega,ab,hB⟩
 clear ab hB
 obtain ⟨i,rfl,hi,am,hO,hB⟩:=hrel
 have an:(0:Int)<=(i:Int):=by omega
 obtain ⟨w2,L⟩:=exx wr
 subst L
 by_cases hlt:i<m
 rotate_left
 ·have Y:¬ (i:Int)<(m:Int):=by omega
  obtain rfl:i=m:=by omega
  have ai:=hid (hO.congr (y':=addP a b p q) fun k hk=>if_pos hk)
  clear hO
  obtain ⟨A9,c9,T,ah,ag,a9⟩:=ai.out.tab
  injection T with T _ M
  subst T M
  go_wp2_with fail
  refine (zaW (some ⟨g,0,none⟩) i i (addP a b p q) w2 a9 (by omega) fun k hk=>by have:=hs.out k; omega).mono ?_
  rintro e w3 ⟨v,rfl,hv,kb⟩
  have aj:=onS hB kb
  have U:=hv.monoB hB.size
  have a5:=hid U
  obtain ⟨A8,c8,M⟩:=U.isSlice
  obtain ⟨d,hd⟩:=exx (plen (addP a b p q) i)
  have HD:=hid hd
  rw [<-hd] at M a5
  subst M
  clear hv U a9 kb hB hd ah ag
  go_wp2
  go_ret
  exact ⟨_,rfl,by rw [<-HD.out]; exact a5.out,aj⟩
 have Y:(i:Int)<(m:Int):=by omega
 have D:Hid (∀ (W:World) (X:Nat->Nat),NatOwn W w.heap.size (.slice (some ⟨g,0,none⟩) m m) m X->X i=addP a b p q i->(∀ k,k≠i->X k=if k<i then addP a b p q k else 0)->NatOwn W w.heap.size (.slice (some ⟨g,0,none⟩) m m) m (fun k=>if k<i+1 then addP a b p q k else 0)):=fun W X h1 h2 h3=>h1.congr fun k _=>by
  by_cases e:k=i
  ·rw [e,h2,if_pos (Nat.lt_succ_self _)]
  rw [h3 k e]
  by_cases e2:k<i
  ·rw [if_pos e2,if_pos (by omega)]
  ·rw [if_neg e2,if_neg (by omega)]
 have ae:=hs.out i
 by_cases hia:i<a
 focus
  have Z:(i:Int)<(a:Int):=by omega
  obtain ⟨sb,so,As,ds,rfl,a6,y0,y1,y2,y3⟩:=zbO (ad.out.on hB) hia
  have E:sb≠g:=by
   obtain ⟨b9,o9,A9,c9,e9,h9,_⟩:=ad.out i hia
   injection e9 with e9
   injection e9 with e9
   have:=HG.out
   omega
  have y:=hp.out i hia
  obtain ⟨v,hv⟩:=exx (p i)
  have HV:=hid hv
  rw [<-hv] at y0 y1 y3 y;clear hv
  obtain ⟨X,hX⟩:∃ X:Nat->Nat,X=fun k=>if k<i then addP a b p q k else 0:=⟨_,rfl⟩
  have B:Hid (∀ k,k≠i->X k=if k<i then addP a b p q k else 0):=by rw [hX]; exact hid fun _ _=>rfl
  have o:Hid (X i=0):=by rw [hX]; exact hid (if_neg (Nat.lt_irrefl i))
  rw [<-hX] at hO
  obtain ⟨u,hu⟩:=exx (X i)
  have HU:=hid hu
  have V:dl u<=1000000:=by rw [hu,o.out,zaG]; omega
  have N:dl (u+v)<=1000000:=by rw [hu,o.out,Nat.zero_add]; exact y
  have I:Hid (u=0):=by rw [hu]; exact o
  clear hX hu
  go_upto_region 6 with fail
  refine wp_region_held_drew (S:=fun w'=>w'.cell? ⟨sb,so+i,none⟩=some (.slice As (dl v) ds)) (by kernel_rfl) (cellS (Below.refl _ _).drew y0) (fun hHeld=>?_)
  obtain ⟨w3,hw,kb⟩:=dwx w2
  rw [<-hw] at hHeld ⊢;clear hw;replace hO:=hO.on kb;replace hB:=onS hB kb;replace y0:=cellS kb y0;replace y3:=y3.on kb;clear kb
  refine tkq 0 (h:=tkq 1 (h:=tkq 2 (h:=tkq 3 (h:=tkq 4 (h:=tkq 6 (h:=tkq 7 (h:=tkq 8 (h:=tkq 9 (h:=?_)))))))))
  refine rdq 5 (h:=fun K hK=>?_)
  obtain ⟨Au,du,q0,u1,u2,u3,_⟩:=hO.rd hlt
  rw [Nat.zero_add,<-HU.out] at q0;rw [<-HU.out] at u1 u3
  go_simp
  clear q0
  refine bkq hK y0 (h:=fun hHeld=>?_)
  clear hK K
  refine rdq 10 (h:=fun K hK=>?_)
  go_simp
  obtain ⟨w4,hw⟩:=exx (World.alloc w3 (Obj.cells #[Value.slice Au (dl u) du,Value.slice As (dl v) ds] 69))
  have kb:=alx hw
  have t0:w4.cell? ⟨w3.heap.size,0,none⟩=some (.slice Au (dl u) du):=by rw [hw]; simp
  have t1:w4.cell? ⟨w3.heap.size,1,none⟩=some (.slice As (dl v) ds):=by rw [hw]; simp
  rw [<-hw];clear hw
  obtain ⟨tb,x⟩:=exx w3.heap.size
  rw [<-x] at t0 t1 ⊢;clear x;replace hO:=hO.on kb;replace hB:=onS hB kb;replace y0:=cellS kb y0;replace y3:=y3.on kb;replace u3:=u3.on kb;clear kb
  refine bkq hK y0 (h:=fun hHeld=>?_)
  clear hK K
  refine rdq 11 (h:=fun K hK=>?_)
  go_simp
  go_wp2_with fail
  refine (zbb tb u v Au As du ds w4 t0 t1 u3 y3 u1 u2 y1 y2 (by omega) (by omega) (by omega)).mono ?_
  rintro e w5 ⟨Ar,dr,rfl,r1,r2,r3,kb⟩
  replace hO:=hO.on kb;replace hB:=onS hB kb;replace y0:=cellS kb y0;replace y3:=y3.on kb;replace u3:=u3.on kb;replace t0:=cellS kb t0;replace t1:=cellS kb t1;clear kb
  refine bkq hK y0 (h:=fun hHeld=>?_)
  clear hK K
  refine tkq 12 (h:=?_)
  refine rdq 13 (h:=fun K hK=>?_)
  obtain ⟨A7,d7,q0,_,_,_,z0⟩:=hO.rd hlt
  have j:=hO.set hlt r3 r1 r2
  have l:=hB.setCell (p:=⟨g,0+i,none⟩) HG.out (.slice Ar (dl (u+v)) dr)
  rw [Nat.zero_add] at j l q0 z0
  go_simp
  replace y0:=zaa (p:=⟨g,i,none⟩) (u:=.slice Ar (dl (u+v)) dr) y0 E
  have s:=hid j
  have F:=hid l
  clear hO hB j l q0 z0
  refine bkq hK y0 (h:=fun hHeld=>?_)
  clear hK K
  refine wpAnyH_done (by kernel_rfl) ?_ _
  clear hHeld
  by_cases r:i<b
  focus
   have H:(i:Int)<(b:Int):=by omega
   have ac:=HV
   obtain ⟨v1,G⟩:=exx (u+v)
   have ak:Hid (v1=p i):=by rw [G,I.out,Nat.zero_add]; exact ac
   obtain ⟨w2,L⟩:=exx (World.setCell w5 ⟨g,i,none⟩ (.slice Ar (dl (u+v)) dr))
   rw [<-L] at s F ⊢
   have hO:=s.out
   have hB:=F.out
   have z:Hid (∀ k,k≠i->updN X i (u+v) k=if k<i then addP a b p q k else 0):=fun k e=>by unfold updN; rw [if_neg e]; exact B.out k e
   have C:Hid (updN X i (u+v) i=v1):=by unfold updN; rw [if_pos rfl,G]; exact hid rfl
   have a0:dl v1<=1000000:=by rw [G]; exact N
   rw [<-G];clear L G y0 y1 y2 r1 r2 E y V N s F o B HU HV
   obtain ⟨X1,a8⟩:=exx (updN X i (u+v))
   rw [<-a8] at hO z C;clear a8;clear I ac
   have a1:True:=trivial
   obtain ⟨sb,so,As,ds,rfl,a6,y0,y1,y2,y3⟩:=zbO (Q.out.on hB) r
   have E:sb≠g:=by
    obtain ⟨b9,o9,A9,c9,e9,h9,_⟩:=Q.out i r
    injection e9 with e9
    injection e9 with e9
    have:=HG.out
    omega
   have y:=hq.out i r
   obtain ⟨v,hv⟩:=exx (q i)
   have a2:=hid hv
   rw [<-hv] at y0 y1 y3 y;clear hv
   have B:=z
   have o:=C
   obtain ⟨u,hu⟩:=exx (X1 i)
   have HU:=hid hu
   have V:dl u<=1000000:=by rw [hu,o.out]; exact a0
   have J:Hid (u+v=addP a b p q i):=by
    show _=(if i<a then p i else 0)+if i<b then q i else 0
    rw [if_pos hia,if_pos r,hu,o.out,ak.out,a2.out]
   have N:dl (u+v)<=1000000:=by rw [J.out]; exact ae
   clear hu C z a1
   go_upto_region 8 with fail
   refine wp_region_held_drew (S:=fun w'=>w'.cell? ⟨sb,so+i,none⟩=some (.slice As (dl v) ds)) (by kernel_rfl) (cellS (Below.refl _ _).drew y0) (fun hHeld=>?_)
   obtain ⟨w3,hw,kb⟩:=dwx w2
   rw [<-hw] at hHeld ⊢;clear hw;replace hO:=hO.on kb;replace hB:=onS hB kb;replace y0:=cellS kb y0;replace y3:=y3.on kb;clear kb
   refine tkq 0 (h:=tkq 1 (h:=tkq 2 (h:=tkq 3 (h:=tkq 4 (h:=tkq 6 (h:=tkq 7 (h:=tkq 8 (h:=tkq 9 (h:=?_)))))))))
   refine rdq 5 (h:=fun K hK=>?_)
   obtain ⟨Au,du,q0,u1,u2,u3,_⟩:=hO.rd hlt
   rw [Nat.zero_add,<-HU.out] at q0;rw [<-HU.out] at u1 u3
   go_simp
   clear q0
   refine bkq hK y0 (h:=fun hHeld=>?_)
   clear hK K
   refine rdq 10 (h:=fun K hK=>?_)
   go_simp
   obtain ⟨w4,hw⟩:=exx (World.alloc w3 (Obj.cells #[Value.slice Au (dl u) du,Value.slice As (dl v) ds] 69))
   have kb:=alx hw
   have t0:w4.cell? ⟨w3.heap.size,0,none⟩=some (.slice Au (dl u) du):=by rw [hw]; simp
   have t1:w4.cell? ⟨w3.heap.size,1,none⟩=some (.slice As (dl v) ds):=by rw [hw]; simp
   rw [<-hw];clear hw
   obtain ⟨tb,x⟩:=exx w3.heap.size
   rw [<-x] at t0 t1 ⊢;clear x;replace hO:=hO.on kb;replace hB:=onS hB kb;replace y0:=cellS kb y0;replace y3:=y3.on kb;replace u3:=u3.on kb;clear kb
   refine bkq hK y0 (h:=fun hHeld=>?_)
   clear hK K
   refine rdq 11 (h:=fun K hK=>?_)
   go_simp
   go_wp2_with fail
   refine (zbb tb u v Au As du ds w4 t0 t1 u3 y3 u1 u2 y1 y2 (by omega) (by omega) (by omega)).mono ?_
   rintro e w5 ⟨Ar,dr,rfl,r1,r2,r3,kb⟩
   replace hO:=hO.on kb;replace hB:=onS hB kb;replace y0:=cellS kb y0;replace y3:=y3.on kb;replace u3:=u3.on kb;replace t0:=cellS kb t0;replace t1:=cellS kb t1;clear kb
   refine bkq hK y0 (h:=fun hHeld=>?_)
   clear hK K
   refine tkq 12 (h:=?_)
   refine rdq 13 (h:=fun K hK=>?_)
   obtain ⟨A7,d7,q0,_,_,_,z0⟩:=hO.rd hlt
   have j:=hO.set hlt r3 r1 r2
   have l:=hB.setCell (p:=⟨g,0+i,none⟩) HG.out (.slice Ar (dl (u+v)) dr)
   rw [Nat.zero_add] at j l q0 z0
   go_simp
   replace y0:=zaa (p:=⟨g,i,none⟩) (u:=.slice Ar (dl (u+v)) dr) y0 E
   have s:=hid j
   have F:=hid l
   clear hO hB j l q0 z0
   refine bkq hK y0 (h:=fun hHeld=>?_)
   clear hK K
   refine wpAnyH_done (by kernel_rfl) ?_ _
   clear hHeld
   have HN:=hid (D.out _ _ s.out (by unfold updN; rw [if_pos rfl]; exact J.out) fun k e=>by unfold updN; rw [if_neg e]; exact B.out k e)
  rotate_left
  focus
   have H:¬ (i:Int)<(b:Int):=by omega
   have HN:=hid (D.out _ _ s.out (by unfold updN; rw [if_pos rfl]; exact by unfold addP; rw [if_pos hia,if_neg r,I.out,HV.out]; omega) fun k e=>by unfold updN; rw [if_neg e]; exact B.out k e)
  rotate_left
 rotate_left 2
 focus
  have Z:¬ (i:Int)<(a:Int):=by omega
  have r:i<b:=by omega
  have H:(i:Int)<(b:Int):=by omega
  obtain ⟨sb,so,As,ds,rfl,a6,y0,y1,y2,y3⟩:=zbO (Q.out.on hB) r
  have E:sb≠g:=by
   obtain ⟨b9,o9,A9,c9,e9,h9,_⟩:=Q.out i r
   injection e9 with e9
   injection e9 with e9
   have:=HG.out
   omega
  have y:=hq.out i r
  obtain ⟨v,hv⟩:=exx (q i)
  have a2:=hid hv
  rw [<-hv] at y0 y1 y3 y;clear hv
  obtain ⟨X,hX⟩:∃ X:Nat->Nat,X=fun k=>if k<i then addP a b p q k else 0:=⟨_,rfl⟩
  have B:Hid (∀ k,k≠i->X k=if k<i then addP a b p q k else 0):=by rw [hX]; exact hid fun _ _=>rfl
  have o:Hid (X i=0):=by rw [hX]; exact hid (if_neg (Nat.lt_irrefl i))
  rw [<-hX] at hO
  obtain ⟨u,hu⟩:=exx (X i)
  have HU:=hid hu
  have V:dl u<=1000000:=by rw [hu,o.out,zaG]; omega
  have N:dl (u+v)<=1000000:=by rw [hu,o.out,Nat.zero_add]; exact y
  have I:Hid (u=0):=by rw [hu]; exact o
  clear hX hu
  go_upto_region 8 with fail
  refine wp_region_held_drew (S:=fun w'=>w'.cell? ⟨sb,so+i,none⟩=some (.slice As (dl v) ds)) (by kernel_rfl) (cellS (Below.refl _ _).drew y0) (fun hHeld=>?_)
  obtain ⟨w3,hw,kb⟩:=dwx w2
  rw [<-hw] at hHeld ⊢;clear hw;replace hO:=hO.on kb;replace hB:=onS hB kb;replace y0:=cellS kb y0;replace y3:=y3.on kb;clear kb
  refine tkq 0 (h:=tkq 1 (h:=tkq 2 (h:=tkq 3 (h:=tkq 4 (h:=tkq 6 (h:=tkq 7 (h:=tkq 8 (h:=tkq 9 (h:=?_)))))))))
  refine rdq 5 (h:=fun K hK=>?_)
  obtain ⟨Au,du,q0,u1,u2,u3,_⟩:=hO.rd hlt
  rw [Nat.zero_add,<-HU.out] at q0;rw [<-HU.out] at u1 u3
  go_simp
  clear q0
  refine bkq hK y0 (h:=fun hHeld=>?_)
  clear hK K
  refine rdq 10 (h:=fun K hK=>?_)
  go_simp
  obtain ⟨w4,hw⟩:=exx (World.alloc w3 (Obj.cells #[Value.slice Au (dl u) du,Value.slice As (dl v) ds] 69))
  have kb:=alx hw
  have t0:w4.cell? ⟨w3.heap.size,0,none⟩=some (.slice Au (dl u) du):=by rw [hw]; simp
  have t1:w4.cell? ⟨w3.heap.size,1,none⟩=some (.slice As (dl v) ds):=by rw [hw]; simp
  rw [<-hw];clear hw
  obtain ⟨tb,x⟩:=exx w3.heap.size
  rw [<-x] at t0 t1 ⊢;clear x;replace hO:=hO.on kb;replace hB:=onS hB kb;replace y0:=cellS kb y0;replace y3:=y3.on kb;replace u3:=u3.on kb;clear kb
  refine bkq hK y0 (h:=fun hHeld=>?_)
  clear hK K
  refine rdq 11 (h:=fun K hK=>?_)
  go_simp
  go_wp2_with fail
  refine (zbb tb u v Au As du ds w4 t0 t1 u3 y3 u1 u2 y1 y2 (by omega) (by omega) (by omega)).mono ?_
  rintro e w5 ⟨Ar,dr,rfl,r1,r2,r3,kb⟩
  replace hO:=hO.on kb;replace hB:=onS hB kb;replace y0:=cellS kb y0;replace y3:=y3.on kb;replace u3:=u3.on kb;replace t0:=cellS kb t0;replace t1:=cellS kb t1;clear kb
  refine bkq hK y0 (h:=fun hHeld=>?_)
  clear hK K
  refine tkq 12 (h:=?_)
  refine rdq 13 (h:=fun K hK=>?_)
  obtain ⟨A7,d7,q0,_,_,_,z0⟩:=hO.rd hlt
  have j:=hO.set hlt r3 r1 r2
  have l:=hB.setCell (p:=⟨g,0+i,none⟩) HG.out (.slice Ar (dl (u+v)) dr)
  rw [Nat.zero_add] at j l q0 z0
  go_simp
  replace y0:=zaa (p:=⟨g,i,none⟩) (u:=.slice Ar (dl (u+v)) dr) y0 E
  have s:=hid j
  have F:=hid l
  clear hO hB j l q0 z0
  refine bkq hK y0 (h:=fun hHeld=>?_)
  clear hK K
  refine wpAnyH_done (by kernel_rfl) ?_ _
  clear hHeld
  have HN:=hid (D.out _ _ s.out (by unfold updN; rw [if_pos rfl]; exact by unfold addP; rw [if_neg hia,if_pos r,I.out,a2.out]) fun k e=>by unfold updN; rw [if_neg e]; exact B.out k e)
 rotate_left
 all_goals
  clear s y0
  go_wp2
  go_roundg (gk - 1)
  case measure=>omega
  case rel=>exact ⟨i+1,by go_num,by omega,by omega,HN.out,F.out⟩
def mulRow (p q:Nat->Nat) (b i k:Nat):Nat:=if i<=k/\k - i<b then p i*q (k - i) else 0
def mulS (p q:Nat->Nat) (b:Nat):Nat->Nat->Nat
 | 0,_=>0
 | i+1,k=>mulS p q b i k+mulRow p q b i k
def mulT (p q:Nat->Nat) (b i j k:Nat):Nat:=mulS p q b i k+mulRow p q j i k
section
variable {p q:Nat->Nat} {b:Nat}
theorem zh6 (i k:Nat):mulT p q b i 0 k=mulS p q b i k:=by
 unfold mulT mulRow
 rw [if_neg (by omega),Nat.add_zero]
theorem zjg (i k:Nat):mulT p q b i b k=mulS p q b (i+1) k:=rfl
theorem zgX (i j k:Nat):updN (mulT p q b i j) (i+j) (mulT p q b i j (i+j)+p i*q j) k=mulT p q b i (j+1) k:=by
 unfold updN mulT mulRow
 by_cases e:k=i+j
 ·subst e
  rw [if_pos rfl,if_neg (by omega),if_pos (by omega),Nat.add_sub_cancel_left,Nat.add_zero]
 rw [if_neg e]
 by_cases h:i<=k/\k - i<j
 ·rw [if_pos h,if_pos (by omega)]
 ·rw [if_neg h,if_neg (by omega)]
theorem zfS {j j':Nat} (h:j<=j') (i k:Nat):mulRow p q j i k<=mulRow p q j' i k:=by
 unfold mulRow
 by_cases h1:i<=k/\k - i<j
 ·rw [if_pos h1,if_pos (by omega)]
  exact Nat.le_refl _
 ·rw [if_neg h1]
  exact Nat.zero_le _
theorem zh7 {i a:Nat} (h:i<=a) (k:Nat):mulS p q b i k<=mulS p q b a k:=by
  induction a with
  | zero => obtain rfl : i = 0 := by omega
            exact Nat.le_refl _
  | succ a ih =>
    by_cases e:i=a+1
    · subst e; exact Nat.le_refl _
    · have:=ih (by omega)
      show _<=mulS p q b a k+mulRow p q b a k
      omega
theorem zgY {i j a:Nat} (hi:i<a) (hj:j<=b) (k:Nat):mulT p q b i j k<=mulS p q b a k:=by
 have h1:=zfS (p:=p) (q:=q) hj i k
 have h2:=zh7 (p:=p) (q:=q) (b:=b) (i:=i+1) (a:=a) (by omega) k
 have h3:mulS p q b (i+1) k=mulS p q b i k+mulRow p q b i k:=rfl
 unfold mulT
 omega
theorem zfT {i j a:Nat} (hi:i<a) (hj:j<b):p i*q j<=mulS p q b a (i+j):=by
 have h1:=zgY (p:=p) (q:=q) (b:=b) (i:=i) (j:=j+1) (a:=a) hi hj (i+j)
 have h2:mulRow p q (j+1) i (i+j)=p i*q j:=by
  unfold mulRow
  rw [if_pos (by omega),Nat.add_sub_cancel_left]
 unfold mulT at h1
 omega
theorem zjh {a k:Nat} (h:a+b<=k+1):mulS p q b a k=0:=by
 have c:∀ i,i<=a->mulS p q b i k=0:=by
  intro i
  induction i with
  | zero=>intro _; rfl
  | succ i ih =>
   intro hi
   show mulS p q b i k+mulRow p q b i k=0
   rw [ih (by omega)]
   unfold mulRow
   rw [if_neg (by omega)]
 exact c a (Nat.le_refl _)
theorem zh8 {i:Nat} (h:p i=0) (k:Nat):mulS p q b (i+1) k=mulS p q b i k:=by
 show mulS p q b i k+mulRow p q b i k=_
 unfold mulRow
 rw [h]
 split <;> simp
theorem zh9 {a:Nat} (h:a=0∨b=0) (k:Nat):mulS p q b a k=0:=by
 rcases h with rfl | rfl
 ·rfl
 induction a with
 | zero=>rfl
 | succ a ih =>
  show mulS p q 0 a k+mulRow p q 0 a k=0
  rw [ih]
  unfold mulRow
  rw [if_neg (by omega)]
end
def emulP (n1 n2:Nat) (p q:Nat->Nat) (k:Nat):Nat:=mulS p q (plen q n2) (plen p n1) k
theorem zji (A A2:Option Addr) (n1 n2 c c2:Nat) (p q:Nat->Nat) (w:World) (h:NatTab w w.heap.size A n1 p) (h2:NatTab w w.heap.size A2 n2 q) (hn1:n1<=1024) (hn2:n2<=1024)
  (hp:Hid (∀ k,k<n1->dl (p k)<=1000000)) (hq:Hid (∀ k,k<n2->dl (q k)<=1000000)) (hs:Hid (∀ k,dl (emulP n1 n2 p q k)<=1000000)) :
  Calls Tryz.prog 286 #[.agg #[],.slice A n1 c,.slice A2 n2 c2] w (PolPost (plen (emulP n1 n2 p q) (n1+n2)) (emulP n1 n2 p q) w):=by
 have HM:Hid (∀ k,emulP n1 n2 p q k=mulS p q (plen q n2) (plen p n1) k):=fun _=>rfl
 obtain ⟨M,hM⟩:=exx (emulP n1 n2 p q)
 rw [<-hM] at HM hs ⊢;clear hM
 obtain ⟨RB,aa⟩:=exx ((Obj.cells #[] 141))
 have F:=aly w RB
 go_enter Tryz.func286, Tryz.ntmps286
 go_wp2_with fail
 rw [<-aa]
 refine (zaW A n1 c p _ (h.on F) (by omega) (fun k hk=>by have:=hp.out k hk; omega)).mono ?_
 rintro e w1 ⟨v1,rfl,a3,kb⟩
 have V:=onS F kb
 have b8:=hid (show w.heap.size<=(w.alloc RB).heap.size from F.size)
 clear F kb aa
 obtain ⟨A1,d1,e1,f1,f2,C⟩:=a3.tab
 subst e1
 have HQ:=hid h2
 clear a3 h h2
 go_wp2_with fail
 refine (zaW A2 n2 c2 q w1 (HQ.out.on V) (by omega) (fun k hk=>by have:=hq.out k hk; omega)).mono ?_
 rintro e w2 ⟨v2,rfl,a2,kb⟩
 have o:=onS V kb
 replace C:=C.on kb
 obtain ⟨A3,d3,e3,f3,f4,U⟩:=a2.tab
 subst e3
 have ag:=zgV p n1
 have af:=zgV q n2
 have HP:Hid (∀ k,k<plen p n1->dl (p k)<=1000000):=fun k hk=>hp.out k (by omega)
 have ae:Hid (∀ k,k<plen q n2->dl (q k)<=1000000):=fun k hk=>hq.out k (by omega)
 obtain ⟨a,ha⟩:=exx (plen p n1)
 obtain ⟨b,hb⟩:=exx (plen q n2)
 rw [<-ha] at ag f1 C HP HM ⊢;rw [<-hb] at af f3 U ae HM ⊢
 have aw:=hid C
 have av:=hid U
 have G:Hid (∀ (W:World) (r:Value) (d:Nat),NatOwn W w.heap.size r (plen M d) M->(∀ k,d<=k->M k=0)->d<=n1+n2->Below w.heap.size w W->∀ e,e=.returned r->PolPost (plen M (n1+n2)) M w e W):=fun W r d h1 h2 h3 h4 e he=>by
  rw [zfe h3 fun k a1 _=>h2 k a1]
  exact ⟨r,he,h1,h4⟩
 clear a2 kb V ha hb C U hp hq
 by_cases h0:a=0∨b=0
 ·have hz:Hid (∀ k,M k=0):=fun k=>by rw [HM.out k]; exact zh9 h0 k
  have B:Hid (∀ (W:World) (x:Nat),w.heap.size<=x->W.heap[x]?=some (.cells #[] 69 (0,0))->Below w.heap.size w W->∀ e,e=.returned (.slice (some ⟨x,0,none⟩) 0 0)->PolPost (plen M (n1+n2)) M w e W):=fun W x hx hc hB e he=>by
   refine G.out W _ 0 ?_ (fun k _=>hz.out k) (Nat.zero_le _) hB e he
   refine ⟨fun _ _=>undef,.inr ⟨x,0,0,#[],rfl,hx,hc,Nat.le_refl _,by unfold maxLen; omega,by simp,fun i hi=>absurd hi (Nat.not_lt_zero i)⟩,fun g hg=>?_,fun i hi=>absurd hi (Nat.not_lt_zero i)⟩
   obtain rfl:x=g:=by simpa [Value.ownBlock] using hg
   exact zcy hc fun u hu=>by simp at hu
  have E:=hid (o.alloc o.size (Obj.cells #[] 69))
  have a4:=hid o.size
  by_cases ha0:a=0
  ·have ea:((a:Int) == 0)=true:=by simp [ha0]
   have ea2:(a == 0)=true:=by simp [ha0]
   clear h0 ha0 o G
   go_wp2
   go_ret
   exact B.out _ _ a4.out (zah rfl) E.out _ rfl
  have T:b=0:=by omega
  have ea:((a:Int) == 0)=false:=by rw [beq_eq_false_iff_ne]; omega
  have ea2:(a == 0)=false:=by rw [beq_eq_false_iff_ne]; omega
  have eb:((b:Int) == 0)=true:=by simp [T]
  have eb2:(b == 0)=true:=by simp [T]
  clear h0 ha0 T o G
  go_wp2
  go_ret
  exact B.out _ _ a4.out (zah rfl) E.out _ rfl
 have b7:1<=a:=by omega
 have b6:1<=b:=by omega
 have ea:((a:Int) == 0)=false:=by rw [beq_eq_false_iff_ne]; omega
 have ea2:(a == 0)=false:=by rw [beq_eq_false_iff_ne]; omega
 have eb:((b:Int) == 0)=false:=by rw [beq_eq_false_iff_ne]; omega
 have eb2:(b == 0)=false:=by rw [beq_eq_false_iff_ne]; omega
 obtain ⟨m,hm⟩:=exx (a+b - 1)
 have b1:(a:Int)+(b:Int) - 1=(m:Int):=by omega
 have ah:a+b=m+1:=by omega
 have a7:=fun W=>zaf (P:=Tryz.prog) 64 69 _ 24 Tryz.underlying64 Tryz.infoNat rfl (m:Int) (by omega) (by omega) (by omega) W
 simp only [Int.toNat_natCast] at a7
 have hO:=zb3 (w:=w2) (base:=w2.heap.size) (n:=m) (Nat.le_refl _) (by unfold maxLen; omega)
 have H:=aly w2 (Obj.cells (madeCells #[Value.slice none 0 0] m) 69)
 clear h0 hm
 go_upto_region 5 with fail
 obtain ⟨w3,a0⟩:=exx (w2.alloc (Obj.cells (madeCells #[Value.slice none 0 0] m) 69))
 obtain ⟨g,hg⟩:=exx w2.heap.size
 have HG:=hid hg
 have ad:=hid o
 rw [<-a0] at hO H ⊢;rw [<-hg]
 have ac:NatOwn w3 w2.heap.size (.slice (some ⟨g,0,none⟩) m m) m (mulS p q b 0):=by
  rw [hg]
  exact hO
 clear a0 hO a7 hg o
 go_wp2
 go_loopg [36] a (fun gg iv wx=>∃ i:Nat,iv=.int .i64 (i:Nat)/\i<=a/\a<=i+gg/\NatOwn wx w2.heap.size (.slice (some ⟨g,0,none⟩) m m) m (mulS p q b i)/\Below w2.heap.size w2 wx)
 case atStart=>exact ⟨0,rfl,by omega,by omega,ac,H⟩
 clear ac H
 obtain ⟨gK,am⟩:=exx gk
 subst am
 obtain ⟨i,rfl,hi,b4,hO,hB⟩:=hrel
 have b5:(0:Int)<=(i:Int):=by omega
 by_cases hlt:i<a
 rotate_left
 ·have R:¬ (i:Int)<(a:Int):=by omega
  obtain rfl:i=a:=by omega
  have ar:=hid (hO.congr (y':=M) fun k _=>(HM.out k).symm)
  clear hO
  obtain ⟨A9,c9,J,aq,ap,a9⟩:=ar.out.tab
  injection J with J _ D
  subst J D
  go_wp2_with fail
  refine (zaW (some ⟨g,0,none⟩) m m M wr a9 (by omega) fun k hk=>by have:=hs.out k; omega).mono ?_
  rintro e w5 ⟨v,rfl,hv,kb⟩
  have E:=hid (onS ad.out (onS hB kb))
  have L:=hv.monoB (show w.heap.size<=wr.heap.size from Nat.le_trans ad.out.size hB.size)
  have a5:=hid L
  obtain ⟨A8,c8,D⟩:=L.isSlice
  obtain ⟨d,hd⟩:=exx (plen M m)
  have HD:=hid hd
  rw [<-hd] at D a5
  subst D
  have Z:Hid (∀ k,m<=k->M k=0):=fun k hk=>by rw [HM.out k]; exact zjh (by omega)
  clear hv L a9 kb hB hd aq ap
  go_wp2
  go_ret
  exact G.out _ _ m (by rw [<-HD.out]; exact a5.out) Z.out (by omega) E.out _ rfl
 have R:(i:Int)<(a:Int):=by omega
 obtain ⟨pb,po,Ap,cp,rfl,b0,x0,x1,x2,x3⟩:=zbO aw.out hlt
 have y0:=cellS hB x0
 have a8:=HP.out i hlt
 obtain ⟨pv,Q⟩:=exx (p i)
 have X:=hid Q
 rw [<-Q] at y0 x1 x3 a8
 have au:=hid x3
 clear Q x0 x3
 by_cases hp0:pv=0
 ·have e0:dl pv=0:=zaZ.2 hp0
  have s:=hid (hO.congr (y':=mulS p q b (i+1)) fun k _=>(zh8 (by rw [<-X.out]; exact hp0) k).symm)
  rw [e0] at y0;clear hO hp0 a8
  go_wp2
  go_roundg (gK - 1)
  case measure=>omega
  case rel=>exact ⟨i+1,by go_num,by omega,by omega,s.out,hB⟩
 have e0:dl pv≠0:=fun h=>hp0 (zaZ.1 h)
 have e1:((dl pv:Int) == 0)=false:=by rw [beq_eq_false_iff_ne]; omega
 have e2:(dl pv == 0)=false:=by rw [beq_eq_false_iff_ne]; omega
 have ab:=hO.congr (y':=mulT p q b i 0) fun k _=>(zh6 i k).symm
 clear hO hp0 e0
 go_wp2
 go_loopg [46] b (fun gg jv wx=>∃ j:Nat,jv=.int .i64 (j:Nat)/\j<=b/\b<=j+gg/\NatOwn wx w2.heap.size (.slice (some ⟨g,0,none⟩) m m) m (mulT p q b i j)/\Below w2.heap.size w2 wx)
 case atStart=>exact ⟨0,rfl,by omega,by omega,ab,hB⟩
 clear ab hB y0
 obtain ⟨j,rfl,hj,b2,hO,hB⟩:=hrel
 have b3:(0:Int)<=(j:Int):=by omega
 obtain ⟨w40,I⟩:=exx wr
 subst I
 by_cases hltj:j<b
 rotate_left
 ·have y:¬ (j:Int)<(b:Int):=by omega
  obtain rfl:j=b:=by omega
  have s:=hid (hO.congr (y':=mulS p q j (i+1)) fun k _=>zjg i k)
  clear hO
  go_wp2
  go_roundg (gK - 1)
  case measure=>omega
  case rel=>exact ⟨i+1,by go_num,by omega,by omega,s.out,hB⟩
 have y:(j:Int)<(b:Int):=by omega
 obtain ⟨qb,qo,Aq,cq,rfl,az,z0,z1,z2,z3⟩:=zbO (av.out.on hB) hltj
 have an:=ae.out j hltj
 have a6:dl (p i*q j)<=1000000:=Nat.le_trans (zf1 (by rw [HM.out]; exact zfT hlt hltj)) (hs.out (i+j))
 have ao:dl (mulT p q b i j (i+j))<=1000000:=Nat.le_trans (zf1 (by rw [HM.out]; exact zgY hlt hj (i+j))) (hs.out (i+j))
 have N:dl (mulT p q b i j (i+j)+p i*q j)<=1000000:=by
  have h1:=zgX (p:=p) (q:=q) (b:=b) i j (i+j)
  unfold updN at h1
  rw [if_pos rfl] at h1;rw [h1]
  exact Nat.le_trans (zf1 (by rw [HM.out]; exact zgY hlt hltj (i+j))) (hs.out (i+j))
 obtain ⟨qv,O⟩:=exx (q j)
 obtain ⟨u,hu⟩:=exx (mulT p q b i j (i+j))
 have HU:=hid hu
 have Y:Hid (∀ k,updN (mulT p q b i j) (i+j) (u+pv*qv) k=mulT p q b i (j+1) k):=fun k=>by
  rw [hu,X.out,O]
  exact zgX i j k
 rw [<-O] at z0 z1 z3 an a6 N;rw [<-X.out] at a6 N;rw [<-hu] at ao N
 have z:i+j<m:=by omega
 have al:(i:Int)+(j:Int)<(m:Int):=by omega
 have ak:(0:Int)<=(i:Int)+(j:Int):=by omega
 have ai:IntKind.i64.wrap ((i:Int)+(j:Int))=(i:Int)+(j:Int):=IntWalk.i64_in _ (by omega)
 have aj:((i:Int)+(j:Int)).toNat=i+j:=by omega
 have x3:=au.out.on hB
 clear hu O
 go_upto_region 12 with fail
 refine wp_region_held_drew (S:=fun _=>True) (by kernel_rfl) trivial (fun hHeld=>?_)
 obtain ⟨w41,hw,kb⟩:=dwx w40
 rw [<-hw];clear hw;replace hO:=hO.on kb;replace hB:=onS hB kb;replace x3:=x3.on kb;replace z3:=z3.on kb;clear kb
 refine tkq 0 (h:=tkq 1 (h:=tkq 2 (h:=tkq 3 (h:=tkq 4 (h:=tkq 5 (h:=tkq 6 (h:=tkq 7 (h:=tkq 8 (h:=tkq 10 (h:=tkq 11 (h:=?_)))))))))))
 refine rdq2 9 12 (h:=fun K hK=>?_) (h2:=fun K hK=>?_)
 focus
  obtain ⟨Au,du,q0,u1,u2,u3,_⟩:=hO.rd z
  rw [Nat.zero_add,<-HU.out] at q0;rw [<-HU.out] at u1 u3
  go_simp
  clear q0
  refine bkq hK trivial (h:=fun hHeld=>?_)
  clear hK K
  refine rdq 12 (h:=fun K hK=>?_)
  go_simp
  obtain ⟨w42,hw⟩:=exx (World.alloc w41 (Obj.cells #[Value.slice Ap (dl pv) cp,Value.slice Aq (dl (qv)) cq] 69))
  have kb:=alx hw
  have t0:w42.cell? ⟨w41.heap.size,0,none⟩=some (Value.slice Ap (dl pv) cp):=by rw [hw]; simp
  have t1:w42.cell? ⟨w41.heap.size,1,none⟩=some (Value.slice Aq (dl (qv)) cq):=by rw [hw]; simp
  rw [<-hw];clear hw
  obtain ⟨tb,l⟩:=exx w41.heap.size
  rw [<-l] at t0 t1 ⊢;clear l;replace hO:=hO.on kb;replace hB:=onS hB kb;replace x3:=x3.on kb;replace z3:=z3.on kb;replace u3:=u3.on kb;clear kb
  refine bkq hK trivial (h:=fun hHeld=>?_)
  clear hK K
  refine rdq 13 (h:=fun K hK=>?_)
  go_simp
  go_wp2_with fail
  refine (zcS tb pv qv Ap Aq cp cq w42 t0 t1 x3 z3 x1 x2 z1 z2 (by omega) (by omega) (by omega)).mono ?_
  rintro e w43 ⟨Ar,dr,rfl,r1,r2,r3,kb⟩
  replace hO:=hO.on kb;replace hB:=onS hB kb;replace x3:=x3.on kb;replace z3:=z3.on kb;replace u3:=u3.on kb;replace t0:=cellS kb t0;replace t1:=cellS kb t1;clear kb
  refine bkq hK trivial (h:=fun hHeld=>?_)
  clear hK K
  refine rdq 14 (h:=fun K hK=>?_)
  go_simp
  obtain ⟨w44,hw⟩:=exx (World.alloc w43 (Obj.cells #[Value.slice Au (dl u) du,Value.slice Ar (dl (pv*qv)) dr] 69))
  have kb:=alx hw
  have t2:w44.cell? ⟨w43.heap.size,0,none⟩=some (Value.slice Au (dl u) du):=by rw [hw]; simp
  have t3:w44.cell? ⟨w43.heap.size,1,none⟩=some (Value.slice Ar (dl (pv*qv)) dr):=by rw [hw]; simp
  rw [<-hw];clear hw
  obtain ⟨tc,l⟩:=exx w43.heap.size
  rw [<-l] at t2 t3 ⊢;clear l;replace hO:=hO.on kb;replace hB:=onS hB kb;replace x3:=x3.on kb;replace z3:=z3.on kb;replace u3:=u3.on kb;replace t0:=cellS kb t0;replace t1:=cellS kb t1;replace r3:=r3.on kb;clear kb
  refine bkq hK trivial (h:=fun hHeld=>?_)
  clear hK K
  refine rdq 15 (h:=fun K hK=>?_)
  go_simp
  go_wp2_with fail
  refine (zbb tc u (pv*qv) Au Ar du dr w44 t2 t3 u3 r3 u1 u2 r1 r2 (by omega) (by omega) (by omega)).mono ?_
  rintro e w45 ⟨As,ds,rfl,s1,s2,s3,kb⟩
  replace hO:=hO.on kb;replace hB:=onS hB kb;replace x3:=x3.on kb;replace z3:=z3.on kb;replace u3:=u3.on kb;replace t0:=cellS kb t0;replace t1:=cellS kb t1;replace r3:=r3.on kb
 rotate_left
 focus
  go_simp
  obtain ⟨w42,hw⟩:=exx (World.alloc w41 (Obj.cells #[Value.slice Ap (dl pv) cp,Value.slice Aq (dl (qv)) cq] 69))
  have kb:=alx hw
  have t0:w42.cell? ⟨w41.heap.size,0,none⟩=some (Value.slice Ap (dl pv) cp):=by rw [hw]; simp
  have t1:w42.cell? ⟨w41.heap.size,1,none⟩=some (Value.slice Aq (dl (qv)) cq):=by rw [hw]; simp
  rw [<-hw];clear hw
  obtain ⟨tb,l⟩:=exx w41.heap.size
  rw [<-l] at t0 t1 ⊢;clear l;replace hO:=hO.on kb;replace hB:=onS hB kb;replace x3:=x3.on kb;replace z3:=z3.on kb;clear kb
  refine bkq hK trivial (h:=fun hHeld=>?_)
  clear hK K
  refine rdq2 9 13 (h:=fun K hK=>?_) (h2:=fun K hK=>?_)
  focus
   obtain ⟨Au,du,q0,u1,u2,u3,_⟩:=hO.rd z
   rw [Nat.zero_add,<-HU.out] at q0;rw [<-HU.out] at u1 u3
   go_simp
   clear q0
   refine bkq hK trivial (h:=fun hHeld=>?_)
   clear hK K
   refine rdq 13 (h:=fun K hK=>?_)
   go_simp
   go_wp2_with fail
   refine (zcS tb pv qv Ap Aq cp cq w42 t0 t1 x3 z3 x1 x2 z1 z2 (by omega) (by omega) (by omega)).mono ?_
   rintro e w43 ⟨Ar,dr,rfl,r1,r2,r3,kb⟩
   replace hO:=hO.on kb;replace hB:=onS hB kb;replace x3:=x3.on kb;replace z3:=z3.on kb;replace t0:=cellS kb t0;replace t1:=cellS kb t1;replace u3:=u3.on kb;clear kb
   refine bkq hK trivial (h:=fun hHeld=>?_)
   clear hK K
   refine rdq 14 (h:=fun K hK=>?_)
   go_simp
   obtain ⟨w44,hw⟩:=exx (World.alloc w43 (Obj.cells #[Value.slice Au (dl u) du,Value.slice Ar (dl (pv*qv)) dr] 69))
   have kb:=alx hw
   have t2:w44.cell? ⟨w43.heap.size,0,none⟩=some (Value.slice Au (dl u) du):=by rw [hw]; simp
   have t3:w44.cell? ⟨w43.heap.size,1,none⟩=some (Value.slice Ar (dl (pv*qv)) dr):=by rw [hw]; simp
   rw [<-hw];clear hw
   obtain ⟨tc,l⟩:=exx w43.heap.size
   rw [<-l] at t2 t3 ⊢;clear l;replace hO:=hO.on kb;replace hB:=onS hB kb;replace x3:=x3.on kb;replace z3:=z3.on kb;replace t0:=cellS kb t0;replace t1:=cellS kb t1;replace u3:=u3.on kb;replace r3:=r3.on kb;clear kb
   refine bkq hK trivial (h:=fun hHeld=>?_)
   clear hK K
   refine rdq 15 (h:=fun K hK=>?_)
   go_simp
   go_wp2_with fail
   refine (zbb tc u (pv*qv) Au Ar du dr w44 t2 t3 u3 r3 u1 u2 r1 r2 (by omega) (by omega) (by omega)).mono ?_
   rintro e w45 ⟨As,ds,rfl,s1,s2,s3,kb⟩
   replace hO:=hO.on kb;replace hB:=onS hB kb;replace x3:=x3.on kb;replace z3:=z3.on kb;replace t0:=cellS kb t0;replace t1:=cellS kb t1;replace u3:=u3.on kb;replace r3:=r3.on kb
  rotate_left
  focus
   go_simp
   go_wp2_with fail
   refine (zcS tb pv qv Ap Aq cp cq w42 t0 t1 x3 z3 x1 x2 z1 z2 (by omega) (by omega) (by omega)).mono ?_
   rintro e w43 ⟨Ar,dr,rfl,r1,r2,r3,kb⟩
   replace hO:=hO.on kb;replace hB:=onS hB kb;replace x3:=x3.on kb;replace z3:=z3.on kb;replace t0:=cellS kb t0;replace t1:=cellS kb t1;clear kb
   refine bkq hK trivial (h:=fun hHeld=>?_)
   clear hK K
   refine rdq 9 (h:=fun K hK=>?_)
   obtain ⟨Au,du,q0,u1,u2,u3,_⟩:=hO.rd z
   rw [Nat.zero_add,<-HU.out] at q0;rw [<-HU.out] at u1 u3
   go_simp
   clear q0
   refine bkq hK trivial (h:=fun hHeld=>?_)
   clear hK K
   refine rdq 14 (h:=fun K hK=>?_)
   go_simp
   obtain ⟨w44,hw⟩:=exx (World.alloc w43 (Obj.cells #[Value.slice Au (dl u) du,Value.slice Ar (dl (pv*qv)) dr] 69))
   have kb:=alx hw
   have t2:w44.cell? ⟨w43.heap.size,0,none⟩=some (Value.slice Au (dl u) du):=by rw [hw]; simp
   have t3:w44.cell? ⟨w43.heap.size,1,none⟩=some (Value.slice Ar (dl (pv*qv)) dr):=by rw [hw]; simp
   rw [<-hw];clear hw
   obtain ⟨tc,l⟩:=exx w43.heap.size
   rw [<-l] at t2 t3 ⊢;clear l;replace hO:=hO.on kb;replace hB:=onS hB kb;replace x3:=x3.on kb;replace z3:=z3.on kb;replace t0:=cellS kb t0;replace t1:=cellS kb t1;replace r3:=r3.on kb;replace u3:=u3.on kb;clear kb
   refine bkq hK trivial (h:=fun hHeld=>?_)
   clear hK K
   refine rdq 15 (h:=fun K hK=>?_)
   go_simp
   go_wp2_with fail
   refine (zbb tc u (pv*qv) Au Ar du dr w44 t2 t3 u3 r3 u1 u2 r1 r2 (by omega) (by omega) (by omega)).mono ?_
   rintro e w45 ⟨As,ds,rfl,s1,s2,s3,kb⟩
   replace hO:=hO.on kb;replace hB:=onS hB kb;replace x3:=x3.on kb;replace z3:=z3.on kb;replace t0:=cellS kb t0;replace t1:=cellS kb t1;replace r3:=r3.on kb;replace u3:=u3.on kb
  rotate_left
 rotate_left 2
 all_goals
  replace t2:=cellS kb t2;replace t3:=cellS kb t3;clear kb
  refine bkq hK trivial (h:=fun hHeld=>?_)
  clear hK K
  refine tkq 16 (h:=?_)
  refine rdq 17 (h:=fun K hK=>?_)
  obtain ⟨A7,d7,q0,_,_,_,y9⟩:=hO.rd z
  have s:=hO.set z s3 s1 s2
  have o:=hB.setCell (p:=⟨g,0+(i+j),none⟩) (by show w2.heap.size<=g; rw [HG.out]; exact Nat.le_refl _) (.slice As (dl (u+pv*qv)) ds)
  rw [Nat.zero_add] at s o q0 y9
  go_simp
  have ax:=hid (s.congr fun k _=>Y.out k)
  have ay:=hid o
  clear hO hB s o q0 y9
  refine bkq hK trivial (h:=fun hHeld=>?_)
  clear hK K
  refine wpAnyH_done (by kernel_rfl) ?_ _
  clear hHeld
  go_wp2
  go_roundg (gk - 1)
  case measure=>omega
  case rel=>exact ⟨j+1,by go_num,by omega,by omega,ax.out,ay.out⟩
def PolV (w:World) (V:Value) (x:Nat->Nat):Prop:=∃ d,NatOwn w 0 V d x/\d<=66/\(∀ t,d<=t->x t=0)/\∀ D,(∀ t,D<=t->x t=0)->d<=D
def PolOwn (w:World) (base:Nat) (v:Value) (k:Nat) (x:Nat->Nat->Nat):Prop :=
 ∃ P:Nat->Value,Own w base 64 1 v k (fun i _=>P i)/\(∀ g,v.ownBlock=some g->NoInt w g)/\∀ i,i<k->PolV w (P i) (x i)
theorem Tryz.infoPol:(Tryz.prog.info? 64).map (fun i=>(i.zero,i.size,i.bytes))=some (some (.slice none 0 0),1,24):=by kernel_rfl
section
variable {w w':World} {base k:Nat} {v V:Value} {x y:Nat->Nat}
theorem PolV.on (h:PolV w V x) (hb:Below w.heap.size w w'):PolV w' V x:=by
 obtain ⟨d,h1,h2⟩:=h
 exact ⟨d,h1.on hb,h2⟩
theorem PolV.isSlice (h:PolV w V x):∃ A n c,V=.slice A n c:=by
 obtain ⟨d,h1,_⟩:=h
 obtain ⟨A,c,e⟩:=h1.isSlice
 exact ⟨A,d,c,e⟩
theorem PolV.congr (h:PolV w V x) (e:∀ t,x t=y t):PolV w V y:=by
 obtain ⟨d,h1,h2,h3,h4⟩:=h
 exact ⟨d,h1.congr fun t _=>e t,h2,fun t ht=>by rw [<-e]; exact h3 t ht,fun D hD=>h4 D fun t ht=>by rw [e]; exact hD t ht⟩
theorem zeG {row:Option Nat} {n:Nat} (h:NatOwn w base V n x) (hg:w.grownBy w' row) (hne:V.ownBlock=none∨V.ownBlock≠row) (hni:∀ q,row=some q->NoInt w q):NatOwn w' base V n x:=by
 obtain ⟨f,k1,k2,k3⟩:=h
 refine ⟨f,k1.kept hg hne,fun q hq j z hz=>?_,fun i hi=>?_⟩
 ·have a:=(k1.lt q hq).2
  have b:=hg.block q a (fun e2=>by
   rcases hne with h0 | h0
   ·rw [h0] at hq; cases hq
   ·exact h0 (hq.trans e2))
  refine k2 q hq j z ?_
  rw [<-hz]
  simp only [World.cell?,b]
 ·obtain ⟨A,c,e0,n1,n2,n3⟩:=k3 i hi
  exact ⟨A,c,e0,zfG n1 hg hni,n2,n3⟩
end
section
variable {w w':World} {base k:Nat} {v V:Value} {x:Nat->Nat->Nat} {X:Nat->Nat}
theorem zkb:(64 : Nat) ≠ 69 := by decide
theorem PolV.ne (h:PolV w V X) {s n:Nat} {r:Value} {f:Nat->Nat->Value} (hr:Own w base 64 s r n f):V.ownBlock=none∨V.ownBlock≠r.ownBlock:=by
 obtain ⟨d,⟨g,k1,_⟩,_⟩:=h
 exact zbm (hr.mono (Nat.zero_le base)) k1 zkb
theorem PolV.grown (h:PolV w V X) {row:Option Nat} (hg:w.grownBy w' row) (hne:V.ownBlock=none∨V.ownBlock≠row) (hni:∀ q,row=some q->NoInt w q):PolV w' V X:=by
 obtain ⟨d,h1,h2⟩:=h
 exact ⟨d,zeG h1 hg hne hni,h2⟩
theorem PolV.setFar (h:PolV w V X) {b j:Nat} (hne:V.ownBlock≠some b) (hni:NoInt w b) {u:Value} (hu:∀ z,u≠.int .u32 z):PolV (w.setCell ⟨b,j,none⟩ u) V X:=by
 obtain ⟨d,h1,h2⟩:=h
 exact ⟨d,h1.setFar hne hni hu,h2⟩
theorem PolOwn.on (h:PolOwn w base v k x) (hb:Below w.heap.size w w'):PolOwn w' base v k x:=by
 obtain ⟨P,h1,h2,h3⟩:=h
 exact ⟨P,h1.on hb,fun g hg=>zi2 (h2 g hg) hb (h1.lt g hg).2,fun i hi=>(h3 i hi).on hb⟩
theorem PolOwn.isSlice (h:PolOwn w base v k x):∃ A c,v=.slice A k c:=by
 obtain ⟨P,h1,_⟩:=h
 exact h1.shape
theorem PolOwn.lt (h:PolOwn w base v k x):∀ b,v.ownBlock=some b->base<=b/\b<w.heap.size:=by
 obtain ⟨P,h1,_⟩:=h
 exact h1.lt
theorem PolOwn.nil (w:World) (base:Nat) (x:Nat->Nat->Nat):PolOwn w base (.slice none 0 0) 0 x:=⟨fun _=>undef,.inl ⟨rfl,rfl⟩,fun g h=>by simp [Value.ownBlock] at h,fun i hi=>by omega⟩
theorem zdI (w:World) (ty:TypeId) (base:Nat) (v:Value) (k:Nat) (x:Nat->Nat->Nat) (h:PolOwn w base v k x) (hbase:base<=w.heap.size) (hk:k<=1048576)
  (b c:Nat) (V:Value) (c0:w.cell? ⟨b,0,none⟩=some V) (hV:PolV w V (x k)) :
  ∃ v' w',(Builtin.append_ #[148, 148] ty #[v,.slice (some ⟨b,0,none⟩) 1 c]).run Tryz.prog w=.ok v' w'/\PolOwn w' base v' (k+1) x/\w.grownBy w' v.ownBlock/\(v'.ownBlock=v.ownBlock∨v'.ownBlock=some w.heap.size):=by
 obtain ⟨P,f,m,hP⟩:=h
 obtain ⟨i,hi,o⟩:=Option.map_eq_some_iff.1 Tryz.infoPol
 simp only [Prod.mk.injEq] at o
 obtain ⟨hz,hs,hb⟩:=o
 obtain ⟨VA,vn,vc,p⟩:=hV.isSlice
 have a:Own w base 64 1 v k (fun i _=>if i=k then V else P i):=f.congr fun i hi _ _=>by rw [if_neg (by omega)]
 have d:∀ j,j<1->w.cell? ((⟨b,0,none⟩:Addr).add j)=some ((fun i (_:Nat)=>if i=k then V else P i) k j):=fun j hj=>by
  obtain rfl:j=0:=by omega
  have:(⟨b,0,none⟩:Addr).add 0=⟨b,0,none⟩:=by unfold Addr.add; split <;> simp_all
  rw [this]
  show _=some (if k=k then V else P k)
  rw [if_pos rfl]
  exact c0
 have h1:∀ j,j<1->((fun i (_:Nat)=>if i=k then V else P i) k j).oneCell'=true:=fun j hj=>by
  show (if k=k then V else P k).oneCell'=true
  rw [if_pos rfl,p]
  rfl
 obtain ⟨v1,w1,e1,o1,g1,a1,_⟩:=zbc (P:=Tryz.prog) w base 148 ty 64 i _ 1 24 Tryz.underlying148 hi hz hs hb rfl (by omega) v k _ a ⟨b,0,none⟩ c d h1 (by unfold maxLen; omega) (by omega) hbase
 obtain ⟨v2,w2,e2,l⟩:=zcz (P:=Tryz.prog) w (fun u=>∀ n,u≠.int .u32 n) base 148 ty 64 i _ 1 24 Tryz.underlying148 hi hz hs hb (by omega) v k _ a ⟨b,0,none⟩ c d h1 (by unfold maxLen; omega) (by omega)
  (fun u hu n e=>by
   have hu:u ∈ [Value.slice none 0 0]:=hu
   rw [e] at hu; simp at hu)
  (fun i j hi hj n=>by
   show (if i=k then V else P i)≠_
   by_cases e:i=k
   ·rw [if_pos e,p]
    exact fun h=>by cases h
   ·rw [if_neg e]
    obtain ⟨A',n',c',e'⟩:=(hP i (by omega)).isSlice
    rw [e']
    exact fun h=>by cases h)
  (fun g c' e' fr hg hh=>zev hh (m g hg))
 rw [e1] at e2
 injection e2 with e2 e3
 subst e2 e3
 refine ⟨v1,w1,e1,⟨fun i=>if i=k then V else P i,o1,fun g hg=>?_,fun i hi=>?_⟩,g1,a1⟩
 ·obtain ⟨c',e',fr,hh,hu⟩:=l g hg
  exact zcy hh hu
 show PolV w1 (if i=k then V else P i) (x i)
 by_cases e:i=k
 ·rw [if_pos e,e]
  exact hV.grown g1 (hV.ne f) m
 ·rw [if_neg e]
  exact (hP i (by omega)).grown g1 ((hP i (by omega)).ne f) m
theorem zbC {ops:Array Oper} {o:Oper} {a:Act} {w:World} {K:Act->World->Prop} {Q:Exit->Act->World->Prop} {E:Prop} (hgd:o.guard=none) (sl y:Operand)
  (ho:o.op=.call { callee:=.builtin .append,args:=#[sl,y],argTypes:=#[148, 148] })
  (base:Nat) (v:Value) (k:Nat) (x:Nat->Nat->Nat) (hv:a.eval sl=v) (h:PolOwn w base v k x) (hbase:base<=w.heap.size) (hk:k<=1048576)
  (b c:Nat) (hy:a.eval y=.slice (some ⟨b,0,none⟩) 1 c) (V:Value) (c0:w.cell? ⟨b,0,none⟩=some V) (hV:PolV w V (x k))
  (hK:∀ v' w',PolOwn w' base v' (k+1) x->w.grownBy w' v.ownBlock->(v'.ownBlock=v.ownBlock∨v'.ownBlock=some w.heap.size)->K (a.put o.dst v') w') :
  if Region.wanted o (yielded ops a.tmps)=true then Oper.wp Tryz.prog o a w K Q else E:=by
 have hw:Region.wanted o (yielded ops a.tmps)=true:=by simp [Region.wanted,hgd]
 rw [if_pos hw]
 obtain ⟨v',w',d,h2,h3,h4⟩:=zdI w o.type base v k x h hbase hk b c V c0 hV
 unfold Oper.wp execOp
 simp only [ho,resolve,invoke,builtin,Sem.run_bind,Sem.run_pure,Result.andThen_ok,List.map_toArray,List.map_cons,List.map_nil,hv,hy,d]
 exact hK v' w' h2 h3 h4
end
structure PolTab (w:World) (g base m:Nat) (F:Nat->Value) (n:Nat->Nat) (x:Nat->Nat->Nat->Nat):Prop where
 row:w.rowIs g 148 m F
 own:∀ v,v<m->PolOwn w base (F v) (n v) (x v)
 apart:∀ v u,v<m->u<m->v≠u->(F v).ownBlock=none∨(F v).ownBlock≠(F u).ownBlock
def updP (x:Nat->Nat->Nat->Nat) (v k:Nat) (y:Nat->Nat):Nat->Nat->Nat->Nat:=fun u j=>if u=v/\j=k then y else x u j
section
variable {w w':World} {g base m:Nat} {F:Nat->Value} {n n':Nat->Nat} {x x':Nat->Nat->Nat->Nat}
theorem PolOwn.congr {v:Value} {k:Nat} {y y':Nat->Nat->Nat} (h:PolOwn w base v k y) (e:∀ i,i<k->∀ t,y i t=y' i t):PolOwn w base v k y':=by
 obtain ⟨P,h1,h2,h3⟩:=h
 exact ⟨P,h1,h2,fun i hi=>(h3 i hi).congr (e i hi)⟩
theorem PolTab.on (h:PolTab w g base m F n x) (hb:Below w.heap.size w w'):PolTab w' g base m F n x:=⟨zab h.row hb,fun v hv=>(h.own v hv).on hb,h.apart⟩
theorem PolTab.congr (h:PolTab w g base m F n x) (e1:∀ v,v<m->n v=n' v) (e2:∀ v,v<m->∀ k,k<n v->∀ t,x v k t=x' v k t):PolTab w g base m F n' x' :=
 ⟨h.row,fun v hv=>by rw [<-e1 v hv]; exact (h.own v hv).congr (e2 v hv),h.apart⟩
theorem PolTab.at (h:PolTab w g base m F n x) {v k:Nat} (hv:v<m) (hk:k<n v):∃ b o d V,F v=.slice (some ⟨b,o,none⟩) (n v) d/\base<=b/\b<w.heap.size/\w.cell? ⟨b,o+k,none⟩=some V/\PolV w V (x v k)/\w.frozen? ⟨b,o+k,none⟩=false:=by
 obtain ⟨P,h1,h2,h3⟩:=h.own v hv
 obtain ⟨b,o,d,e,hb,hl,_,_,hc⟩:=h1.form (by omega)
 have a:=hc k hk 0 (by omega)
 rw [Nat.mul_one,Nat.add_zero] at a
 refine ⟨b,o,d,P k,e,hb,hl,a,h3 k hk,?_⟩
 rw [e] at h1
 exact h1.frozen (o+k)
theorem PolTab.set (h:PolTab w g base m F n x) (hgb:g<base) {v k b o d:Nat} (hv:v<m) (hk:k<n v) (hF:F v=.slice (some ⟨b,o,none⟩) (n v) d) {V:Value} {y:Nat->Nat} (hy:PolV w V y) :
  PolTab (w.setCell ⟨b,o+k,none⟩ V) g base m F n (updP x v k y):=by
 obtain ⟨P,k1,k2,k3⟩:=h.own v hv
 have f:(F v).ownBlock=some b:=by rw [hF]; rfl
 have t:=k1.lt b f
 have p:NoInt w b:=k2 b f
 obtain ⟨VA,vn,vc,s⟩:=hy.isSlice
 have l:∀ u:Int,V≠.int .u32 u:=fun u e=>by rw [s] at e; cases e
 have c:∀ {U:Value} {z:Nat->Nat},PolV w U z->PolV (w.setCell ⟨b,o+k,none⟩ V) U z:=fun hU=>by
  refine hU.setFar ?_ p l
  rcases hU.ne k1 with h0 | h0
  ·rw [h0]; exact fun e=>by cases e
  ·rwa [f] at h0
 refine ⟨h.row.setOther (by simp; omega) _,fun u hu=>?_,h.apart⟩
 by_cases e:u=v
 rotate_left
 ·obtain ⟨P',j1,j2,j3⟩:=h.own u hu
  have r:(F u).ownBlock≠some b:=fun hh=>by
   rcases h.apart u v hu hv e with h0 | h0
   ·rw [h0] at hh; cases hh
   ·rw [f] at h0; exact h0 hh
  refine ⟨P',j1.setCell (a:=⟨b,o+k,none⟩) r _,fun q hq=>zaD (j2 q hq) l,fun i hi=>?_⟩
  show PolV _ (P' i) (updP x v k y u i)
  unfold updP
  rw [if_neg fun hh=>e hh.1]
  exact c (j3 i hi)
 subst e
 rw [hF] at k1 ⊢
 have ks:=k1.set (a:=k) (b:=0) hk (by omega) V
 rw [Nat.mul_one,Nat.add_zero] at ks
 refine ⟨fun i=>if i=k then V else P i,ks.congr fun i _ j hj=>?_,fun q hq=>?_,fun i hi=>?_⟩
 ·obtain rfl:j=0:=by omega
  show (if i=k/\0=0 then V else P i)=if i=k then V else P i
  by_cases ei:i=k
  ·rw [if_pos ⟨ei,rfl⟩,if_pos ei]
  ·rw [if_neg fun hh=>ei hh.1,if_neg ei]
 ·obtain rfl:b=q:=by simpa [Value.ownBlock] using hq
  exact zaD p l
 show PolV _ (if i=k then V else P i) (updP x u k y u i)
 unfold updP
 by_cases ei:i=k
 ·rw [if_pos ei,if_pos ⟨rfl,ei⟩]
  exact c hy
 ·rw [if_neg ei,if_neg fun hh=>ei hh.2]
  exact c (k3 i hi)
theorem PolTab.put (h:PolTab w g base m F n x) (hgb:g<base) {v:Nat} (hv:v<m) {v':Value} {k':Nat} {y:Nat->Nat->Nat} (hown:PolOwn w' base v' k' y) (hg:w.grownBy w' (F v).ownBlock) (hat:v'.ownBlock=(F v).ownBlock∨v'.ownBlock=some w.heap.size) :
  PolTab (w'.setCell ⟨g,v,none⟩ v') g base m (fun u=>if u=v then v' else F u) (fun u=>if u=v then k' else n u) (fun u=>if u=v then y else x u):=by
 obtain ⟨Pv,f1,f2,f3⟩:=h.own v hv
 have r:∀ u,u<m->∀ k,(F u).ownBlock=some k->base<=k/\k<w.heap.size:=fun u hu=>(h.own u hu).lt
 have D:g<w.heap.size:=h.row.lt
 have s:w'.rowIs g 148 m F:=h.row.of_block (hg.block g D (fun e=>by have:=(r v hv g e.symm).1; omega))
 have p:NoInt w' g:=zdD s fun i hi u e=>by
  obtain ⟨A,c,hs⟩:=(h.own i hi).isSlice
  rw [hs] at e
  cases e
 have B:∃ A c,v'=.slice A k' c:=hown.isSlice
 have o:∀ u:Int,v'≠.int .u32 u:=fun u e=>by
  obtain ⟨A,c,hs⟩:=B
  rw [hs] at e
  cases e
 have l:∀ {U:Value} {z:Nat->Nat},PolV w' U z->PolV (w'.setCell ⟨g,v,none⟩ v') U z:=fun {U z} hU=>by
  refine hU.setFar (fun e=>?_) p o
  obtain ⟨d,⟨f,q1,_⟩,_⟩:=hU
  rcases q1 with ⟨rfl,_⟩ | ⟨g',o',cap',cur',rfl,_,q2,_⟩
  ·simp [Value.ownBlock] at e
  simp [Value.ownBlock] at e
  subst e
  obtain ⟨cs,c1,_⟩:=s
  rw [q2] at c1
  injection c1 with c1
  injection c1 with _ c1
  exact absurd c1 (by decide)
 refine ⟨?_,fun u hu=>?_,fun a b ha hb hab=>?_⟩
 ·exact (s.set v v').congr fun u _=>by split <;> rfl
 ·by_cases e:u=v
  ·subst e
   simp only [if_true]
   obtain ⟨P',k1,k2,k3⟩:=hown
   exact ⟨P',k1.setCell (fun e=>by have:=(k1.lt _ e).1; simp at this; omega) _,fun q hq=>zaD (k2 q hq) o,fun i hi=>l (k3 i hi)⟩
  simp only [if_neg e]
  obtain ⟨P',k1,k2,k3⟩:=h.own u hu
  have hk:=k1.kept hg (h.apart u v hu hv e)
  refine ⟨P',hk.setCell (fun e=>by have:=(hk.lt _ e).1; simp at this; omega) _,fun q hq=>zaD (fun j z hz=>?_) o,fun i hi=>l ((k3 i hi).grown hg ((k3 i hi).ne f1) f2)⟩
  have C:=(k1.lt q hq).2
  have E:=hg.block q C (fun e2=>by
   rcases h.apart u v hu hv e with h0 | h0
   ·rw [h0] at hq; cases hq
   ·exact h0 (hq.trans e2))
  refine k2 q hq j z ?_
  rw [<-hz]
  simp only [World.cell?,E]
 by_cases ea:a=v
 ·have eb:¬ b=v:=fun e=>hab (by rw [ea,e])
  simp only [if_pos ea,if_neg eb]
  subst ea
  rcases hat with h1 | h1
  ·rw [h1]; exact h.apart a b ha hb hab
  right
  rw [h1]
  intro e2
  have:=(r b hb _ e2.symm).2
  omega
 simp only [if_neg ea]
 by_cases eb:b=v
 rotate_left
 ·simp only [if_neg eb]; exact h.apart a b ha hb hab
 simp only [if_pos eb]
 subst eb
 rcases hat with h1 | h1
 ·rw [h1]; exact h.apart a b ha hb hab
 rw [h1]
 cases hfa:(F a).ownBlock with
 | none=>exact .inl rfl
 | some k =>
  right
  intro e2
  injection e2 with e2
  have:=(r a ha k hfa).2
  omega
end
theorem zcT {w:World} {g base m:Nat} {x:Nat->Nat->Nat->Nat} (h:w.rowIs g 148 m (fun _=>.slice none 0 0)):PolTab w g base m (fun _=>.slice none 0 0) (fun _=>0) x :=
 ⟨h,fun _ _=>PolOwn.nil _ _ _,fun _ _ _ _ _=>.inl rfl⟩
def PolRet (x:Nat->Nat) (w:World) (e:Ending) (w':World):Prop:=∃ A n c,e=.returned (.slice A n c)/\PolV w' (.slice A n c) x/\Below w.heap.size w w'
theorem zeb {x:Nat->Nat} {D:Nat} (h:∀ t,D<=t->x t=0) (n:Nat):plen x n<=D:=by
 induction n with
 | zero=>exact Nat.zero_le _
 | succ n ih =>
  show (if x n≠0 then n+1 else plen x n)<=D
  by_cases h0:x n=0
  ·rw [if_neg (by simpa using h0)]; exact ih
  ·rw [if_pos h0]
   by_cases h1:D<=n
   ·exact absurd (h n h1) h0
   ·omega
theorem zff {x y:Nat->Nat} {n:Nat} {w w':World} {e:Ending} (h:PolPost (plen x n) x w e w') (h1:∀ t,n<=t->x t=0) (h2:∀ t,66<=t->x t=0) (h3:∀ t,x t=y t):PolRet y w e w':=by
 obtain ⟨v,rfl,hv,hB⟩:=h
 obtain ⟨A,c,rfl⟩:=hv.isSlice
 refine ⟨A,_,c,rfl,PolV.congr ⟨_,hv.monoB (Nat.zero_le _),zeb h2 n,fun t ht=>?_,fun D hD=>zeb hD n⟩ h3,hB⟩
 by_cases h4:t<n
 ·exact zgW ht h4
 ·exact h1 t (by omega)
theorem PolV.tab {w:World} {A:Option Addr} {n c:Nat} {x:Nat->Nat} (h:PolV w (.slice A n c) x):NatTab w w.heap.size A n x/\n<=66/\(∀ t,n<=t->x t=0)/\n<=c/\c<=maxLen:=by
 obtain ⟨d,h1,h2,h3,_⟩:=h
 obtain ⟨A',c',e,k1,k2,k3⟩:=h1.tab
 injection e with e1 e2 e4
 subst e1 e2 e4
 exact ⟨k3,h2,h3,k1,k2⟩
theorem zec {e D:Nat} (hD:∀ t,D<=t->(if t=e then 1 else 0)=0):e+1<=D:=by
 by_cases h:D<=e
 ·have:=hD e h
  rw [if_pos rfl] at this
  omega
 ·omega
theorem zia {a b:Nat} {p q:Nat->Nat} (hp:∀ t,a<=t->p t=0) (hq:∀ t,b<=t->q t=0) (t:Nat):addP a b p q t=p t+q t:=by
 unfold addP
 by_cases h1:t<a
 ·rw [if_pos h1]
  by_cases h2:t<b
  ·rw [if_pos h2]
  ·rw [if_neg h2,hq t (by omega)]
 rw [if_neg h1,hp t (by omega)]
 by_cases h2:t<b
 ·rw [if_pos h2]
 ·rw [if_neg h2,hq t (by omega)]
theorem zjS {P:Program} {F:Nat} {ags:List Value} {A A2:Option Addr} {a b c c2:Nat} {p q:Nat->Nat} {w:World} (h:PolV w (.slice A a c) p) (h2:PolV w (.slice A2 b c2) q)
  (hc:NatTab w w.heap.size A a p->NatTab w w.heap.size A2 b q->a<=2048->b<=2048->(∀ t,addP a b p q t=p t+q t)->Calls P F ags.toArray w (PolPost (plen (addP a b p q) (max a b)) (addP a b p q) w)) :
  Calls P F ags.toArray w (PolRet (fun t=>p t+q t) w):=by
 obtain ⟨t1,a1,a2,_⟩:=h.tab
 obtain ⟨t2,b1,b2,_⟩:=h2.tab
 have hf:=zia a2 b2
 refine (hc t1 t2 (by omega) (by omega) hf).mono fun e w' hh=>zff hh (fun t ht=>?_) (fun t ht=>?_) hf
 ·rw [hf,a2 t (by omega),b2 t (by omega)]
 ·rw [hf,a2 t (by omega),b2 t (by omega)]
theorem zjj (A A2:Option Addr) (a b c c2:Nat) (p q:Nat->Nat) (w:World) (h:PolV w (.slice A a c) p) (h2:PolV w (.slice A2 b c2) q) (hp:Hid (∀ t,dl (p t)<=1000000)) (hq:Hid (∀ t,dl (q t)<=1000000)) (hs:Hid (∀ t,dl (p t+q t)<=1000000)) :
  Calls Tryz.prog 285 #[.agg #[],.slice A a c,.slice A2 b c2] w (PolRet (fun t=>p t+q t) w) :=
 zjS (ags:=[.agg #[],.slice A a c,.slice A2 b c2]) h h2 fun t1 t2 a1 b1 hf=>zjf A A2 a b c c2 p q w t1 t2 a1 b1 (fun k _=>hp.out k) (fun k _=>hq.out k) (fun k=>by rw [hf]; exact hs.out k)
def mono (e t:Nat):Nat:=if t=e then 1 else 0
def shiftP (e:Nat) (p:Nat->Nat) (t:Nat):Nat:=if e<=t then p (t - e) else 0
theorem zib {e d:Nat} (h:e<d):plen (mono e) d=e+1:=by
 rw [zfe (x:=mono e) (n:=e+1) (m:=d) (by omega) fun k h1 _=>show mono e k=0 from if_neg (by omega)]
 show (if mono e e≠0 then e+1 else plen (mono e) e)=e+1
 rw [if_pos (by unfold mono; rw [if_pos rfl]; omega)]
theorem zc4 {p:Nat->Nat} {e:Nat} (a t:Nat):mulS p (mono e) (e+1) a t=if e<=t/\t - e<a then p (t - e) else 0:=by
 induction a with
 | zero=>rw [if_neg (by omega)]; rfl
 | succ a ih =>
  show mulS p (mono e) (e+1) a t+mulRow p (mono e) (e+1) a t=_
  rw [ih]
  unfold mulRow
  by_cases h1:e<=t/\t - e<a
  ·have e1:(if e<=t/\t - e<a+1 then p (t - e) else 0)=p (t - e):=if_pos (by omega)
   rw [if_pos h1,e1]
   by_cases h2:a<=t/\t - a<e+1
   ·have e2:mono e (t - a)=0:=if_neg (by omega)
    rw [if_pos h2,e2,Nat.mul_zero,Nat.add_zero]
   ·rw [if_neg h2,Nat.add_zero]
  ·rw [if_neg h1,Nat.zero_add]
   by_cases h3:e<=t/\t - e<a+1
   ·have h4:t - e=a:=by omega
    have e2:mono e (t - a)=1:=if_pos (by omega)
    rw [if_pos h3,if_pos (show a<=t/\t - a<e+1 by omega),e2,Nat.mul_one,h4]
   ·rw [if_neg h3]
    by_cases h2:a<=t/\t - a<e+1
    ·have e2:mono e (t - a)=0:=if_neg (by omega)
     rw [if_pos h2,e2,Nat.mul_zero]
    ·rw [if_neg h2]
theorem zgZ {p:Nat->Nat} {e n1 n2:Nat} (hp:∀ t,n1<=t->p t=0) (h:e<n2) (t:Nat):emulP n1 n2 p (mono e) t=shiftP e p t:=by
 unfold emulP shiftP
 rw [zib h,zc4]
 by_cases h1:e<=t
 ·rw [if_pos h1]
  by_cases h2:t - e<plen p n1
  ·rw [if_pos ⟨h1,h2⟩]
  rw [if_neg fun hh=>h2 hh.2]
  by_cases h3:t - e<n1
  ·exact (zgW (by omega) h3).symm
  ·exact (hp _ (by omega)).symm
 ·rw [if_neg h1,if_neg fun hh=>h1 hh.1]
theorem zfg {p:Nat->Nat} {e:Nat} (hp:∀ t,dl (p t)<=1000000) (t:Nat):dl (shiftP e p t)<=1000000:=by
 unfold shiftP
 split
 ·exact hp _
 ·rw [zaG]; omega
theorem zjT (e t:Nat):dl (mono e t)<=1000000:=by
 unfold mono
 split
 ·rw [zbQ (by omega) (by omega)]; omega
 ·rw [zaG]; omega
theorem zjU {P:Program} {F:Nat} {ags:List Value} {A A2:Option Addr} {a b c c2 e:Nat} {p:Nat->Nat} {w:World} (h:PolV w (.slice A a c) p) (h2:PolV w (.slice A2 b c2) (mono e)) (hz:∀ t,66<=t->shiftP e p t=0)
  (hc:NatTab w w.heap.size A a p->NatTab w w.heap.size A2 b (mono e)->a<=1024->b<=1024->(∀ t,emulP a b p (mono e) t=shiftP e p t)->Calls P F ags.toArray w (PolPost (plen (emulP a b p (mono e)) (a+b)) (emulP a b p (mono e)) w)) :
  Calls P F ags.toArray w (PolRet (shiftP e p) w):=by
 obtain ⟨t1,a1,a2,_⟩:=h.tab
 obtain ⟨t2,b1,b2,_⟩:=h2.tab
 have he:e<b:=by
  by_cases h3:e<b
  ·exact h3
  have:=b2 e (by omega)
  unfold mono at this
  rw [if_pos rfl] at this
  omega
 have hf:=zgZ a2 he
 refine (hc t1 t2 (by omega) (by omega) hf).mono fun e' w' hh=>zff hh (fun t ht=>?_) (fun t ht=>by rw [hf]; exact hz t ht) hf
 rw [hf]
 unfold shiftP
 split
 ·exact a2 _ (by omega)
 ·rfl
theorem zg0 (A A2:Option Addr) (a b c c2 e:Nat) (p:Nat->Nat) (w:World) (h:PolV w (.slice A a c) p) (h2:PolV w (.slice A2 b c2) (mono e)) (hz:Hid (∀ t,66<=t->shiftP e p t=0)) (hp:Hid (∀ t,dl (p t)<=1000000)) :
  Calls Tryz.prog 286 #[.agg #[],.slice A a c,.slice A2 b c2] w (PolRet (shiftP e p) w) :=
 zjU (ags:=[.agg #[],.slice A a c,.slice A2 b c2]) h h2 hz.out fun t1 t2 a1 b1 hf=>zji A A2 a b c c2 p (mono e) w t1 t2 a1 b1 (fun k _=>hp.out k) (fun k _=>zjT e k) (fun k=>by rw [hf]; exact zfg hp.out k)
def Trel.dg (T:Trel) (i j:Nat):Nat:=if T.lb i j=0 then 0 else 1
def Trel.pwE (T:Trel) (prev:Nat->Nat->Nat) (i:Nat):Nat->Nat->Nat->Nat
 | 0,_,_=>0
 | j+1,u,t=>T.pwE prev i j u t+if (T.to i j).toNat=u then shiftP (T.dg i j) (prev (T.fr i j).toNat) t else 0
def Trel.pw (T:Trel):Nat->Nat->Nat->Nat
 | 0,u,t=>if u=0 then mono 0 t else 0
 | i+1,u,t=>T.pwE (T.pw i) i (T.el i) u t
def Trel.pwX (T:Trel) (i j u v:Nat):Nat->Nat:=if u<=i then T.pw u v else if u=i+1 then T.pwE (T.pw i) i j v else fun _=>0
section
variable {T:Trel}
theorem Trel.pwE_le {prev:Nat->Nat->Nat} {i M:Nat} (hp:∀ v t,prev v t<=M):∀ j u t,T.pwE prev i j u t<=j*M:=by
 intro j
 induction j with
 | zero=>intro u t; simp [Trel.pwE]
 | succ j ih =>
  intro u t
  have h1:=ih u t
  show _+(if _ then _ else 0)<=(j+1)*M
  rw [Nat.add_mul,Nat.one_mul]
  have h2:shiftP (T.dg i j) (prev (T.fr i j).toNat) t<=M:=by
   unfold shiftP
   split
   ·exact hp _ _
   ·exact Nat.zero_le _
  split <;> omega
theorem Trel.pw_le (hs:T.Shape):∀ i,i<=T.n->∀ u t,T.pw i u t<=262144 ^ i:=by
 intro i
 induction i with
 | zero =>
  intro _ u t
  show (if u=0 then mono 0 t else 0)<=_
  unfold mono
  split
  ·split <;> simp
  ·simp
 | succ i ih =>
  intro hi u t
  have h1:=Trel.pwE_le (T:=T) (i:=i) (ih (by omega)) (T.el i) u t
  have h2:=hs.elb (i:=i) (by omega)
  show T.pwE (T.pw i) i (T.el i) u t<=_
  have h3:T.el i*262144 ^ i<=262144*262144 ^ i:=Nat.mul_le_mul_right _ (by omega)
  rw [Nat.pow_succ,Nat.mul_comm (262144 ^ i)]
  exact Nat.le_trans h1 h3
theorem Trel.pwE_out {prev:Nat->Nat->Nat} {i:Nat} (hp:∀ v t,i<t->prev v t=0):∀ j u t,i+1<t->T.pwE prev i j u t=0:=by
 intro j
 induction j with
 | zero=>intro u t _; rfl
 | succ j ih =>
  intro u t ht
  show _+(if _ then _ else 0)=0
  rw [ih u t ht]
  have h2:shiftP (T.dg i j) (prev (T.fr i j).toNat) t=0:=by
   have hd:T.dg i j<=1:=by unfold Trel.dg; split <;> omega
   unfold shiftP
   split
   ·exact hp _ _ (by omega)
   ·rfl
  rw [h2]
  simp
theorem Trel.pw_out:∀ i u t,i<t->T.pw i u t=0:=by
 intro i
 induction i with
 | zero =>
  intro u t ht
  show (if u=0 then mono 0 t else 0)=0
  unfold mono
  rw [if_neg (show ¬ t=0 by omega)]
  split <;> rfl
 | succ i ih=>exact fun u t ht=>Trel.pwE_out ih _ u t ht
theorem Trel.pwX_next (i u v:Nat) (t:Nat):T.pwX i (T.el i) u v t=T.pwX (i+1) 0 u v t:=by
 unfold Trel.pwX
 by_cases h:u<=i
 ·rw [if_pos h,if_pos (by omega)]
 rw [if_neg h]
 by_cases h2:u=i+1
 ·subst h2
  rw [if_pos rfl,if_pos (Nat.le_refl _)]
  rfl
 rw [if_neg h2,if_neg (by omega)]
 split
 ·rfl
 ·rfl
theorem Trel.pwX_put (i j u v t:Nat) {fn tn:Nat} (hf:(T.fr i j).toNat=fn) (ht:(T.to i j).toNat=tn) :
  updP (T.pwX i j) (i+1) tn (fun t=>T.pwX i j (i+1) tn t+shiftP (T.dg i j) (T.pwX i j i fn) t) u v t=T.pwX i (j+1) u v t:=by
 have e1:T.pwX i j i fn=T.pw i fn:=by unfold Trel.pwX; rw [if_pos (Nat.le_refl _)]
 have e2:T.pwX i j (i+1) tn=T.pwE (T.pw i) i j tn:=by unfold Trel.pwX; rw [if_neg (by omega),if_pos rfl]
 rw [e1,e2]
 unfold updP
 by_cases h:u=i+1
 ·subst h
  have e3:T.pwX i (j+1) (i+1) v t=T.pwE (T.pw i) i j v t+if (T.to i j).toNat=v then shiftP (T.dg i j) (T.pw i (T.fr i j).toNat) t else 0:=by
   unfold Trel.pwX
   rw [if_neg (by omega),if_pos rfl]
   rfl
  rw [e3,hf,ht]
  by_cases h2:v=tn
  ·subst h2
   rw [if_pos ⟨rfl,rfl⟩,if_pos rfl]
  rw [if_neg fun hh=>h2 hh.2,if_neg fun hh=>h2 hh.symm]
  unfold Trel.pwX
  rw [if_neg (by omega),if_pos rfl,Nat.add_zero]
 rw [if_neg fun hh=>h hh.1]
 unfold Trel.pwX
 by_cases h2:u<=i
 ·rw [if_pos h2,if_pos h2]
 ·rw [if_neg h2,if_neg h2,if_neg h,if_neg h]
theorem Trel.pwX_dl (hs:T.Shape) {i j:Nat} (hi:i<T.n) (hj:j<=T.el i) (u v t:Nat):dl (T.pwX i j u v t)<=37:=by
 unfold Trel.pwX
 have h2:=hs.elb (i:=i) hi
 have a:=hs.n64
 by_cases h:u<=i
 ·rw [if_pos h]
  exact zix (i:=u) (by omega) (Trel.pw_le hs u (by omega) v t)
 rw [if_neg h]
 by_cases h3:u=i+1
 ·rw [if_pos h3]
  refine zix (i:=i+1) (by omega) ?_
  have h1:=Trel.pwE_le (T:=T) (i:=i) (Trel.pw_le hs i (by omega)) j v t
  have h3:j*262144 ^ i<=262144*262144 ^ i:=Nat.mul_le_mul_right _ (by omega)
  rw [Nat.pow_succ,Nat.mul_comm (262144 ^ i)]
  exact Nat.le_trans h1 h3
 rw [if_neg h3];rw [zaG]
 omega
end
end Go.Proofs.YtgekjfpapmlndaaGreat