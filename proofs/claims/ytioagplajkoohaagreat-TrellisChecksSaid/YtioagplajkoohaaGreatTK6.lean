/- Merged texts of a claim: NatB, NatC, RatA, RatB, Rat13, RatC, PolyA, PAddAll, PMulAll, RefEval, PolyC, WtsAll, PatAll, UndAll, DualPl, SeesCode, Cyc, Gf1, Gf2, Gf3, Gf4, GfLaw. -/
import Derived.Test.YtioagplajkoohaaGreatTK1
import Derived.Test.YtioagplajkoohaaGreatTK2
import Derived.Test.YtioagplajkoohaaGreatTK3
import Derived.Test.YtioagplajkoohaaGreatTK5
import Derived.Deep.QuietTactic
import Derived.BigQuiet
import Derived.Deep.CutBlock
import Derived.Deep.DeepCutAuto
import Derived.Deep.LoopGhost
import Derived.StillTailTactics
import Derived.Deep.RegionHeld3
import Derived.Laws.CopyOwn
namespace Go.Proofs.YtioagplajkoohaaGreat
set_option maxRecDepth 100000
set_option maxHeartbeats 32000000
open KA KB KC KE
open Go.RowKit
theorem zhU {x n d:Nat}:x ^ (n / (2*d))*x ^ (n / (2*d))*(if n / d % 2=1 then x else 1)=x ^ (n / d):=by
 have e:n / (2*d)=n / d / 2:=by rw [Nat.div_div_eq_div_mul,Nat.mul_comm d 2]
 rw [e,<-Nat.pow_add]
 split
 ·rename_i h
  rw [<-Nat.pow_succ]
  congr 1
  omega
 ·rw [Nat.mul_one]
  congr 1
  omega
theorem zfE (A:Option Addr) (c x n:Nat) (w:World) (h:NatOk w w.heap.size A x) (hc:dl x<=c) (hm:c<=maxLen) (hn:dl x<=1048576) (hnn:n<=131072) (hbig:dl (x ^ n)<=4096) :
  Calls Tryz.prog 196 #[.slice A (dl x) c,.int .i64 (n:Nat)] w (NatOkPost (x ^ n) w):=by
 have d1:=hid (zbk (x:=1) (by omega) (by omega))
 go_enter Tryz.func196, Tryz.ntmps196
 go_wp2_with fail
 refine (zcI A c x w h hc hm (by omega)).mono ?_
 rintro e w1 ⟨A1,c1,rfl,f1,f2,f3,f4⟩
 have hone:=zbr (w:=w1) 110 (x:=1) (by omega) (by omega)
 clear h
 by_cases h0:n=0
 ·subst h0
  have H:=hid (show x ^ 0=1 from Nat.pow_zero x)
  go_wp2
  go_ret2
  exact ⟨_,1,by rw [H.out,d1.out]; rfl,by rw [H.out,d1.out]; omega,by unfold maxLen; omega,by rw [H.out]; exact hone,f4.alloc f4.size _⟩
 ·have n0 : ((n : Int) == 0) = false := by simp; omega
  go_wp2_with fail
  refine (zeV A1 c1 x w1 f3 f1 f2 (by omega)).mono ?_
  rintro e w2 ⟨rfl,g4⟩
  have hB2:=onS f4 g4
  have hx2:=f3.on g4
  clear hone f3 g4 f4
  by_cases hl:nlen x<=1
  ·have H:=hid (show x ^ n=x by
    by_cases e:x=0
    ·rw [e]; exact Nat.zero_pow (by omega)
    ·have:nlen x≠0:=mt zba.1 e
     have:x=1:=zbQ.1 (by omega)
     rw [this]; exact Nat.one_pow n)
   have hl2:((nlen x:Nat):Int)<=1:=by omega
   go_wp2
   go_ret2
   exact ⟨A1,c1,by rw [H.out]; rfl,by rw [H.out]; exact f1,f2,by rw [H.out]; exact hx2,hB2⟩
  ·have hl2:¬ ((nlen x:Nat):Int)<=1:=by omega
   have hx0:0<x:=by
    rcases Nat.eq_zero_or_pos x with e | e
    ·rw [e,zaM] at hl; omega
    ·exact e
   have HBG:=hid hbig
   have hone2:=zbr (w:=w2) 110 (x:=1) (by omega) (by omega)
   have hx3:=hx2.on (zc9 w2 (Obj.cells #[Value.int .u32 ((1:Nat):Int)] 110))
   have hB3:=hB2.alloc hB2.size (Obj.cells #[Value.int .u32 ((1:Nat):Int)] 110)
   have HS:Hid (x ^ (n / (2*262144))=1):=by show _=_; rw [Nat.div_eq_of_lt (by omega),Nat.pow_zero]
   go_wp2
   go_loopg [7,6] 20 (fun gg dv ov wx=>∃ d j o:Nat,∃ Ao co,dv=.int .i64 (d:Nat)/\ov=.slice Ao (dl o) co/\Hid ((d=0/\o=x ^ n/\0<=gg)∨(d=2 ^ j/\j+1<=gg/\o=x ^ (n / (2*d))))/\d<=262144/\dl o<=4096/\dl o<=co/\co<=maxLen/\NatOk wx wx.heap.size Ao o/\NatOk wx wx.heap.size A1 x/\Below w.heap.size w wx)
   case atStart=>exact ⟨262144,18,1,_,1,rfl,by rw [d1.out],hid (.inr ⟨by decide,by omega,HS.out.symm⟩),by omega,by rw [d1.out]; omega,by rw [d1.out]; omega,by unfold maxLen; omega,hone2,hx3,hB3⟩
   case round =>
    clear hone2 hx3 hB3 hB2 hx2 HS
    obtain ⟨d,j,o,Ao,co,rfl,rfl,HJ,hd,hdo,ho1,ho2,hAo,hAx,hB⟩:=hrel
    by_cases hd0:d=0
    ·have HO:Hid (o=x ^ n):=by
      rcases HJ.out with ⟨_,e,_⟩ | ⟨e,_⟩
      ·exact e
      ·have:0<2 ^ j:=Nat.pow_pos (by omega)
       exfalso; omega
     subst hd0
     go_wp2
     go_ret2
     exact ⟨Ao,co,by rw [<-HO.out]; rfl,by rw [<-HO.out]; exact ho1,ho2,by rw [<-HO.out]; exact hAo,hB⟩
    ·have HJ2:Hid (d=2 ^ j/\j+1<=gk/\o=x ^ (n / (2*d))):=by
      rcases HJ.out with ⟨e,_⟩ | e
      ·exact absurd e hd0
      ·exact e
     have hgk:0<gk:=by have:=HJ2.out.2.1; omega
     have hdp:(0:Int)<(d:Int):=by omega
     obtain ⟨q,hq⟩:∃ q,q=n / d:=⟨_,rfl⟩
     have hq1:(n:Int).tdiv (d:Int)=(q:Int):=by rw [hq,Int.tdiv_eq_ediv_of_nonneg (by omega)]; rfl
     have hqn:q<=n:=by rw [hq]; exact Nat.div_le_self _ _
     have hwq:IntKind.i64.wrap (q:Int)=(q:Int):=IntWalk.i64_in _ (by omega)
     have hdne:((d:Int) == 0)=false:=by simp; omega
     have HQ:=hid hq
     have hle:Hid (x ^ q<=x ^ n):=Nat.pow_le_pow_right hx0 hqn
     have hdq:dl (x ^ q)<=4096:=by have:=zcm hle.out; have:=HBG.out; omega
     have HB2:Hid (∀ oo:Nat,oo=x ^ q->∃ j',(d / 2=0/\oo=x ^ n/\0<=gk - 1)∨(d / 2=2 ^ j'/\j'+1<=gk - 1/\oo=x ^ (n / (2*(d / 2))))):=fun oo hoo=>by
      obtain ⟨e1,e2,_⟩:=HJ2.out
      cases j with
      | zero =>
       rw [Nat.pow_zero] at e1
       refine ⟨0,.inl ⟨by omega,?_,by omega⟩⟩
       rw [hoo,HQ.out,e1,Nat.div_one]
      | succ j =>
       rw [Nat.pow_succ] at e1
       refine ⟨j,.inr ⟨by omega,by omega,?_⟩⟩
       rw [hoo,HQ.out,show 2*(d / 2)=d by omega]
     have hd2:((d:Int) / 2)=((d / 2:Nat):Int):=by omega
     have HD2:=hid hd2
     have HP:Hid (o*o*(if q % 2=1 then x else 1)=x ^ q):=by
      have:=zhU (x:=x) (n:=n) (d:=d)
      rw [<-HJ2.out.2.2,<-HQ.out] at this
      exact this
     clear hq hd2
     go_wp2_with fail
     refine (zbI Ao Ao co co o o wr hAo hAo (by omega) (by omega)).mono ?_
     rintro e w3 ⟨A3,c3,rfl,g1,g2,g3,g4⟩
     have hB3:=onS hB g4
     have hAx3:=hAx.on g4
     clear hAo hAx g4 hB
     by_cases hpar:q % 2=1
     ·have hp1:(q:Int) % 2=1:=by omega
      have hp2:(q:Int).tmod 2=1:=by rw [Int.tmod_eq_emod_of_nonneg (by omega)]; exact hp1
      have HE:Hid (o*o*x=x ^ q):=by have:=HP.out; rwa [if_pos hpar] at this
      have hdoo:dl (o*o)<=536870912:=by
       have h1:o*o<=o*o*x:=Nat.le_mul_of_pos_right _ hx0
       rw [HE.out] at h1
       have:=zcm h1
       omega
      go_wp2_with fail
      refine (zbI A3 A1 c3 c1 (o*o) x w3 g3 hAx3 hdoo (by omega)).mono ?_
      rintro e w4 ⟨A4,c4,rfl,k1,k2,k3,k4⟩
      rw [HE.out] at k1 k3 ⊢
      have hB4:=onS hB3 k4
      have hAx4:=hAx3.on k4
      have hdq':((dl (x ^ q):Nat):Int)<=4096:=by omega
      obtain ⟨j',hj'⟩:=HB2.out _ rfl
      have HJ':=hid hj'
      clear hj' g3 hAx3 k4 hB3
      go_wp2
      go_roundg (gk - 1)
      case measure=>omega
      case rel=>exact ⟨d / 2,j',x ^ q,A4,c4,by rw [HD2.out],rfl,HJ',by omega,hdq,k1,k2,k3,hAx4,hB4⟩
     ·have hp1:(q:Int) % 2=0:=by omega
      have hp2:(q:Int).tmod 2=0:=by rw [Int.tmod_eq_emod_of_nonneg (by omega)]; exact hp1
      have HE:Hid (o*o=x ^ q):=by have:=HP.out; rwa [if_neg hpar,Nat.mul_one] at this
      rw [HE.out] at g1 g3 ⊢
      have hdq':((dl (x ^ q):Nat):Int)<=4096:=by omega
      obtain ⟨j',hj'⟩:=HB2.out _ rfl
      have HJ':=hid hj'
      clear hj'
      go_wp2
      go_roundg (gk - 1)
      case measure=>omega
      case rel=>exact ⟨d / 2,j',x ^ q,A3,c3,by rw [HD2.out],rfl,HJ',by omega,hdq,g1,g2,g3,hAx3,hB3⟩
def cmpN (x y:Nat):Int:=if x<y then -1 else if y<x then 1 else 0
theorem zgV {x y:Nat} (h:x<y):cmpN x y = -1:=by simp [cmpN,h]
theorem zgW {x y:Nat} (h:y<x):cmpN x y=1:=by unfold cmpN; rw [if_neg (by omega),if_pos h]
theorem zhV {x y:Nat} (h:x=y):cmpN x y=0:=by unfold cmpN; rw [if_neg (by omega),if_neg (by omega)]
theorem zhW {f g:Nat->Nat} {n k:Nat} (hf:∀ i,i<n->f i<4294967296) (hk:k<n) (he:∀ j,k<j->j<n->f j=g j) (hl:f k<g k):nv f n<nv g n:=by
 induction n with
 | zero=>omega
 | succ n ih =>
  simp only [nv]
  by_cases e:k=n
  ·subst e
   have h1:=zhC (f:=f) (n:=k) fun i hi=>hf i (by omega)
   have h2:(f k+1)*4294967296 ^ k<=g k*4294967296 ^ k:=Nat.mul_le_mul_right _ hl
   rw [Nat.add_mul,Nat.one_mul] at h2
   omega
  ·have h1:=ih (fun i hi=>hf i (by omega)) (by omega) fun j h1 h2=>he j h1 (by omega)
   rw [he n (by omega) (by omega)]
   omega
theorem zfF {x y:Nat} (h:dl x<dl y):x<y:=by
 rcases Nat.lt_or_ge x y with h1 | h1
 ·exact h1
 ·have:=zcm h1; omega
theorem zfG (A A2:Option Addr) (c c2 x y:Nat) (w:World) (h:NatOk w w.heap.size A x) (h2:NatOk w w.heap.size A2 y) (hc:dl x<=c) (hm:c<=maxLen) (hc2:dl y<=c2) (hm2:c2<=maxLen) (hn2:dl y<=1073741824) :
  Calls Tryz.prog 122 #[.slice A (dl x) c,.slice A2 (dl y) c2] w fun e w'=>e=.returned (.int .i64 (cmpN x y))/\Below w.heap.size w w':=by
 go_enter Tryz.func122, Tryz.ntmps122
 go_wp2_with fail
 refine (zbq A c x w h hc hm).mono ?_
 rintro e w1 ⟨rfl,rfl⟩
 go_wp2_with fail
 refine (zbq A2 c2 y w h2 hc2 hm2).mono ?_
 rintro e w1 ⟨rfl,rfl⟩
 by_cases hd:dl x=dl y
 ·obtain ⟨n,hn'⟩:∃ n,n=dl y:=⟨_,rfl⟩
  have hX:nv (dg x) n=x:=by rw [hn',<-hd,zdq]
  have hY:nv (dg y) n=y:=by rw [hn',zdq]
  have HX:=hid hX
  have HY:=hid hY
  have h3:Lims w w.heap.size A n (dg x):=by rw [hn',<-hd]; exact h
  have h4:Lims w w.heap.size A2 n (dg y):=by rw [hn']; exact h2
  rw [hd,<-hn'];rw [<-hn'] at hn2;clear hX hY h h2 hc hc2 hd hn'
  go_wp2
  go_loopg [5] n (fun gg iv wx=>∃ k:Nat,iv=.int .i64 ((k:Nat) - 1:Int)/\k<=n/\k<=gg/\Hid (∀ j,k<=j->j<n->dg x j=dg y j)/\Below w.heap.size w wx)
  case atStart=>exact ⟨n,rfl,by omega,by omega,hid fun j h1 h2=>absurd h1 (by omega),Below.refl _ _⟩
  case round =>
   obtain ⟨k,rfl,hk,hkg,HE,hB⟩:=hrel
   by_cases h0:0<k
   ·obtain ⟨k,rfl⟩:∃ k',k=k'+1:=⟨k - 1,by omega⟩
    have ek:(((k+1:Nat):Int) - 1)=(k:Int):=by omega
    rw [ek]
    obtain ⟨b,o,rfl,hb,e0⟩:=(h3.on hB).at (i:=k) (by omega)
    obtain ⟨b2,o2,rfl,hb2,e2⟩:=(h4.on hB).at (i:=k) (by omega)
    have hk0:(0:Int)<=(k:Int):=by omega
    have hk1:(k:Int)<(n:Int):=by omega
    have he:=HE.out
    by_cases c1:dg x k<dg y k
    ·have HC:=hid (zgV (x:=x) (y:=y) (by have:=zhW (f:=dg x) (g:=dg y) (n:=n) (k:=k) (fun i _=>zg2 x i) (by omega) (fun j h1 h2=>he j (by omega) h2) c1; rwa [HX.out,HY.out] at this))
     obtain ⟨u,hu⟩:∃ u,u=dg x k:=⟨_,rfl⟩
     obtain ⟨v,hv⟩:∃ v,v=dg y k:=⟨_,rfl⟩
     rw [<-hu] at e0 c1;rw [<-hv] at e2 c1;clear ek he hu hv
     go_wp2
     go_quiet (fail)
     go_wp2
     go_ret
     exact ⟨zaf HC.out.symm,zac hB _⟩
    ·by_cases c2:dg y k<dg x k
     ·have HC:=hid (zgW (x:=x) (y:=y) (by have:=zhW (f:=dg y) (g:=dg x) (n:=n) (k:=k) (fun i _=>zg2 y i) (by omega) (fun j h1 h2=>(he j (by omega) h2).symm) c2; rwa [HX.out,HY.out] at this))
      obtain ⟨u,hu⟩:∃ u,u=dg x k:=⟨_,rfl⟩
      obtain ⟨v,hv⟩:∃ v,v=dg y k:=⟨_,rfl⟩
      rw [<-hu] at e0 c1 c2;rw [<-hv] at e2 c1 c2;clear ek he hu hv
      go_wp2
      go_quiet (fail)
      go_wp2
      go_quiet (fail)
      go_wp2
      go_ret
      exact ⟨zaf HC.out.symm,zac (zac hB _) _⟩
     ·have heq:dg x k=dg y k:=by omega
      have HN:Hid (∀ j,k<=j->j<n->dg x j=dg y j):=fun j h1 h2=>by
       by_cases e:j=k
       ·rw [e]; exact heq
       ·exact he j (by omega) h2
      rw [heq] at e0
      obtain ⟨v,hv⟩:∃ v,v=dg y k:=⟨_,rfl⟩
      rw [<-hv] at e0 e2;clear ek he hv heq c1 c2
      go_wp2
      go_quiet (fail)
      go_wp2
      go_quiet (fail)
      go_wp2
      go_roundg (gk - 1)
      case measure=>omega
      case rel=>exact ⟨k,rfl,by omega,by omega,HN,zac hB _⟩
   ·obtain rfl:k=0:=by omega
    have HC:=hid (zhV (x:=x) (y:=y) (by rw [<-HX.out,<-HY.out]; exact zcS fun i hi=>HE.out i (by omega) hi))
    go_wp2
    go_ret
    exact ⟨zaf HC.out.symm,hB⟩
 ·by_cases hlt:dl x<dl y
  ·have HC:=hid (zgV (zfF hlt))
   have d1:((dl x:Nat):Int)<((dl y:Nat):Int):=by omega
   have d2:(((dl x:Nat):Int) != ((dl y:Nat):Int))=true:=by simp; omega
   clear h h2
   go_wp2
   go_ret
   exact ⟨zaf HC.out.symm,Below.refl _ _⟩
  ·have HC:=hid (zgW (zfF (x:=y) (y:=x) (by omega)))
   have d1:¬ ((dl x:Nat):Int)<((dl y:Nat):Int):=by omega
   have d2:(((dl x:Nat):Int) != ((dl y:Nat):Int))=true:=by simp; omega
   clear h h2
   go_wp2
   go_ret
   exact ⟨zaf HC.out.symm,Below.refl _ _⟩
open Go
def rv (s:Bool) (x y:Nat):Rat:=mkRat (if s then -(x:Int) else x) y
open Go.ChangeShapes Go.WideShapes Go.ChangeAt
theorem zhX {q:Nat} (hq:0<q) {n x y:Nat} (hx:x<q ^ n) (hy:y<q ^ n) (h:∀ t,t<n->dig q x t=dig q y t):x=y:=zdw hq hx hy h
section
variable {q n k:Nat} {add mul:Nat->Nat->Nat} {V:Nat->Nat->Nat}
theorem zbc {neg:Nat->Nat} {p:Nat->Nat} {W:Nat->Nat->Nat} {c j:Nat}:∀ a,(∀ s,s<a->p s≠j)->nrow neg p W c a j=if j=c then 1 else 0
 | 0,_=>rfl
 | a+1,h=>by
  unfold nrow
  rw [if_neg (fun e=>h a (by omega) e.symm)]
  exact zbc a fun s hs=>h s (by omega)
theorem zeC {neg:Nat->Nat} {p:Nat->Nat} {W:Nat->Nat->Nat} {c s:Nat}:∀ a,(∀ t u,t<u->u<a->p t<p u)->s<a->nrow neg p W c a (p s)=neg (W s c)
 | 0,_,h=>absurd h (by omega)
 | a + 1, hi, hs => by
  unfold nrow
  by_cases e:s=a
  ·subst e; rw [if_pos rfl]
  ·have:=hi s a (by omega) (by omega)
   rw [if_neg (by omega)]
   exact zeC a (fun t u h1 h2=>hi t u h1 (by omega)) (by omega)
end
structure OnEl (q:Nat) (add mul:Nat->Nat->Nat) [Add (El q)] [Mul (El q)] [Neg (El q)] [Zero (El q)] [One (El q)]:Prop where
 fie:Fie (El q)
 ha:∀ x y:El q,(x+y).val=add x.val y.val
 hm:∀ x y:El q,(x*y).val=mul x.val y.val
 h0:(0:El q).val=0
 h1:(1:El q).val=1
section
variable {q n N a2:Nat} {add mul:Nat->Nat->Nat} {neg:Nat->Nat} {V W2:Nat->Nat->Nat} (hq:0<q) [iA:Add (El q)] [iM:Mul (El q)] [iN:Neg (El q)] [i0:Zero (El q)] [i1:One (El q)] (O:OnEl q add mul)
include O
theorem zeD {m:Nat} {U:Nat->Nat->Nat} {x:List (El q)} (hx:Gen N m (fun i=>wordK q hq N (U i)) x):x=wordK q hq N (fun j=>(ent x j).val):=by
 refine zdA (zd7 O.fie (N:=fun i j=>toEl q hq (U i j)) hx).1 (zcg hq N _) fun j hj=>?_
 rw [zc4 hq,zaY hj]
 exact El.ext' (zam hq (ent x j).lt).symm
variable (hL:FieldLaws q add mul)
include hL
theorem zea {m m':Nat} {U U':Nat->Nat->Nat} (hU:∀ i,i<m->∀ j,j<N->U i j<q) (hU':∀ i,i<m'->∀ j,j<N->U' i j<q) (e:SameSp q add mul N m m' U U') (x:List (El q)):Gen N m (fun i=>wordK q hq N (U i)) x↔Gen N m' (fun i=>wordK q hq N (U' i)) x:=by
 constructor
 ·intro hx
  have ex:=zeD hq O hx
  rw [ex] at hx ⊢
  exact (zaF hq O.fie hL O.ha O.hm O.h0 hU' fun j _=>(ent x j).lt).1 ((e _).1 ((zaF hq O.fie hL O.ha O.hm O.h0 hU fun j _=>(ent x j).lt).2 hx))
 ·intro hx
  have ex:=zeD hq O hx
  rw [ex] at hx ⊢
  exact (zaF hq O.fie hL O.ha O.hm O.h0 hU fun j _=>(ent x j).lt).1 ((e _).2 ((zaF hq O.fie hL O.ha O.hm O.h0 hU' fun j _=>(ent x j).lt).2 hx))
theorem NullRel.perp (hneg:∀ x,x<q->neg x<q/\add x (neg x)=0) (hV:∀ i,i<n->∀ j,j<N->V i j<q) (h:NullRel q add mul neg n N V a2 W2) (x:List (El q)) :
  perpW N (Gen N n fun i=>wordK q hq N (V i)) x↔Gen N a2 (fun i=>wordK q hq N (W2 i)) x:=by
 obtain ⟨a,p,W,f,fr,Nn,p2,hE,hR,hN,hE2,hR2⟩:=h
 obtain ⟨hs,hWl⟩:=hR.sp hL hV
 have hle:=hE.le
 have hq2:=hL.two
 have hNl:∀ u,u<f->∀ j,j<N->Nn u j<q:=fun u hu j hj=>by
  rw [hN.row u hu j hj]
  have hfu:=hN.lt u hu
  rcases hN.cover j hj with ⟨s,hs,e⟩ | ⟨v,hv,e⟩
  ·rw [<-e,zeC a hE.inc hs]
   exact (hneg _ (hWl s (by omega) _ hfu)).1
  ·rw [zbc a fun s hs e2=>hN.ne v hv s hs (e2.trans e.symm)]
   split <;> omega
 obtain ⟨hs2,hWl2⟩:=hR2.sp hL hNl
 have s1:=zea hq O hL hV (hE.top.lt) (fun x=>(hs x).trans (hE.sp_top hL x)) x
 have s1':∀ x,Gen N n (fun i=>wordK q hq N (V i)) x↔Gen N a (fun i=>wordK q hq N (W i)) x:=zea hq O hL hV (hE.top.lt) (fun x=>(hs x).trans (hE.sp_top hL x))
 have s2:=zea hq O hL hNl (hE2.top.lt) (fun x=>(hs2 x).trans (hE2.sp_top hL x)) x
 rw [<-s2]
 have hK:NullK N a p (fun i j=>toEl q hq (W i j)) f fr (fun i j=>toEl q hq (Nn i j)):=by
  refine ⟨hN.lt,hN.ne,hN.cover,fun u hu=>?_,fun u hu s hs=>?_,fun u hu v hv hne=>?_⟩
  ·rw [hN.row u hu _ (hN.lt u hu),zbc a (hN.ne u hu),if_pos rfl]
   exact El.ext' (by rw [zam hq (by omega),O.h1])
  ·rw [hN.row u hu _ (hE.pvlt s hs),zeC a hE.inc hs]
   obtain ⟨g1,g2⟩:=hneg _ (hE.lt s (by omega) _ (hN.lt u hu))
   refine O.fie.negOf (El.ext' ?_)
   rw [O.ha,zam hq (hE.lt s (by omega) _ (hN.lt u hu)),zam hq g1,g2,O.h0]
  ·have hne2:fr v≠fr u:=by
    rcases Nat.lt_or_gt_of_ne hne with h1 | h1
    ·have:=hN.inc v u h1 hu; omega
    ·have:=hN.inc u v h1 hv; omega
   refine ⟨hne2,?_⟩
   rw [hN.row u hu _ (hN.lt v hv),zbc a (hN.ne v hv),if_neg hne2]
   exact El.ext' (by rw [zam hq hq,O.h0])
 have:=NullK.perp O.fie (hE.toK hq O.h0 O.h1) hK x
 refine Iff.trans ?_ this
 constructor
 ·rintro ⟨g1,g2⟩; exact ⟨g1,fun y hy=>g2 y ((s1' y).2 hy)⟩
 ·rintro ⟨g1,g2⟩; exact ⟨g1,fun y hy=>g2 y ((s1' y).1 hy)⟩
end
section
variable {H:Type} {enc:TypeId × Value->H} {w:World} {base:Nat} {spare:Nat->Bool} {held:Bool} {cs:List Value}
theorem zgs (h:Sees enc Tryz.prog w base spare held 27 cs) :
  ∃ (P M:Int) (A:Option Addr) (k c:Nat) (N:Int) (T:Option Addr) (n d:Nat) (f:Nat->Int) (ln:Nat->Nat) (V:Nat->Nat->Int),cs=[.int .i64 P,.int .i64 M,.slice A k c,.int .i64 N,.slice T n d] /\
   -9223372036854775808<=N/\N<=9223372036854775807/\k<=c/\c<=maxLen/\n<=d/\d<=maxLen/\IntsR w w.heap.size A k f/\IntRows w T n ln V:=by
 obtain ⟨hl,_⟩:=zbp Tryz.underlying27 h
 match cs,hl.trans (show Tryz.prog.cellsOf 27 = 5 by kernel_rfl) with
 | [c0,c1,c2,c3,c4],_ =>
  have hc:Tryz.prog.cellsOf 3 = 1:=by kernel_rfl
  have hc':Tryz.prog.cellsOf 22 = 1:=by kernel_rfl
  have hct:Tryz.prog.cellsOf 25 = 1:=by kernel_rfl
  have hcf:Tryz.prog.cellsOf 24 = 3:=by kernel_rfl
  have gf:=zbE Tryz.underlying27 h 0 24 0 3 ⟨_,rfl,rfl,rfl⟩ hcf
  have gN:=zbE Tryz.underlying27 h 1 3 3 1 ⟨_,rfl,rfl,rfl⟩ hc
  have gT:=zbE Tryz.underlying27 h 2 25 4 1 ⟨_,rfl,rfl,rfl⟩ hct
  have g0:=zbE Tryz.underlying24 gf 0 3 0 1 ⟨_,rfl,rfl,rfl⟩ hc
  have g1:=zbE Tryz.underlying24 gf 1 3 1 1 ⟨_,rfl,rfl,rfl⟩ hc
  have g2:=zbE Tryz.underlying24 gf 2 22 2 1 ⟨_,rfl,rfl,rfl⟩ hc'
  obtain ⟨P,hP,_⟩:=zbg Tryz.underlying3 g0
  obtain ⟨M,hM,_⟩:=zbg Tryz.underlying3 g1
  obtain ⟨A,k,c,f,hs,k1,k2,hr,_⟩:=zcN Tryz.underlying22 Tryz.underlying3 hc g2
  obtain ⟨N,hN,hNw⟩:=zbg Tryz.underlying3 gN
  obtain ⟨T,n,d,ln,V,hT,k3,k4,hrows⟩:=zgb gT
  simp at hP hM hs hN hT
  subst hP hM hs hN hT
  have:=zeR hNw
  exact ⟨P,M,A,k,c,N,T,n,d,f,ln,V,rfl,this.1,this.2,k1,k2,k3,k4,hr,hrows⟩
end
theorem zgt {p:Nat->Prop} (h:∃ n,p n):∃ n,p n/\∀ k,k<n->¬ p k:=by
 obtain ⟨n,hn⟩:=h
 induction n using Nat.strongRecOn with
 | ind n ih =>
  by_cases h:∃ k,k<n/\p k
  ·obtain ⟨k,h1,h2⟩:=h
   exact ih k h1 h2
  ·exact ⟨n,hn,fun k h1 h2=>h ⟨k,h1,h2⟩⟩
section
variable {K:Type} [Add K] [Mul K]
def evA:K->List K->K->K
 | a,[],_=>a
 | a,c :: l,x=>evA (a*x+c) l x
def qtA:K->List K->K->List K
 | _,[],_=>[]
 | a,c :: l,r=>a :: qtA (a*r+c) l r
theorem zgX (r:K):∀ (l:List K) (a:K),(qtA a l r).length=l.length
 | [],_=>rfl
 | c :: l,a=>by show (qtA (a*r+c) l r).length+1=l.length+1; rw [zgX r l]
end
section
variable {K:Type} [Mul K] [One K]
def pwK (x:K):Nat->K
 | 0=>1
 | n+1=>pwK x n*x
def IsOrd (x:K) (n:Nat):Prop:=1<=n/\pwK x n=1/\∀ k,1<=k->k<n->pwK x k≠1
theorem zfH {x:K} {n:Nat} (h1:1<=n) (h2:pwK x n=1) (h3:∀ k,pwK x k=1->n ∣ k):IsOrd x n :=
 ⟨h1,h2,fun k hk1 hk2 e=>by have:=Nat.le_of_dvd (by omega) (h3 k e); omega⟩
end
section
variable {K:Type} [Add K] [Mul K] [Neg K] [Zero K] [One K]
variable (F:Fie K)
include F
theorem zhY (x r:K):∀ (l:List K) (a b:K),evA (b*(x + -r)+a) l x=(x + -r)*evA b (qtA a l r) x+evA a l r
 | [],a,b=>by show b*(x + -r)+a=(x + -r)*b+a; rw [F.mulC]
 | c :: l,a,b=>by
  have ih:=zhY x r l (a*r+c) (b*x+a)
  show evA ((b*(x + -r)+a)*x+c) l x=(x + -r)*evA (b*x+a) (qtA (a*r+c) l r) x+evA (a*r+c) l r
  rw [<-ih]
  congr 1
  have h1:(b*(x + -r)+a)*x=b*x*(x + -r)+a*x:=by rw [F.distR,F.mulA,F.mulC (x + -r),<-F.mulA]
  have h2:(b*x+a)*(x + -r)=b*x*(x + -r)+(a*x + -(a*r)):=by rw [F.distR,F.dist a,F.mulNeg]
  rw [h1,h2,F.addA,F.addA,F.addA]
  congr 2
  rw [<-F.addA,F.negA,F.zeroA]
theorem zfI:∀ (n:Nat) (l rs:List K),l.length=n->rs.Nodup->(∀ r,r ∈ rs->evA 1 l r=0)->rs.length<=n
 | 0,l,rs,hl,_,hr=>by
  rw [List.length_eq_zero_iff] at hl
  subst hl
  cases rs with
  | nil=>exact Nat.le_refl _
  | cons r rs=>exact absurd (hr r (by simp)) F.ne
 | n+1,[],rs,hl,_,_=>by simp at hl
 | n + 1, c :: l, rs, hl, hn, hr => by
  cases rs with
  | nil=>exact Nat.zero_le _
  | cons r rs =>
   rw [List.nodup_cons] at hn
   have ih:=zfI n (qtA (1*r+c) l r) rs (by rw [zgX]; simpa using hl) hn.2 fun s hs=>by
    have h1:=zhY F s r (c :: l) 1 0
    rw [F.zMul,F.zeroA,hr s (by simp [hs]),hr r (by simp),F.addZ] at h1
    have h2:evA 0 (qtA 1 (c :: l) r) s=evA 1 (qtA (1*r+c) l r) s:=by
     show evA (0*s+1) (qtA (1*r+c) l r) s=_
     rw [F.zMul,F.zeroA]
    rw [h2] at h1
    refine F.zeroOr h1.symm fun e=>hn.1 ?_
    rw [<-F.subEq e]
    exact hs
   simp only [List.length_cons]
   omega
theorem zeE (x:K):∀ (n:Nat) (a:K),evA a (List.replicate n 0 ++ [-1]) x=a*pwK x (n+1) + -1
 | 0,a=>by show a*x + -1=a*(1*x) + -1; rw [F.oneM]
 | n+1,a=>by
  show evA (a*x+0) (List.replicate n 0 ++ [-1]) x=_
  rw [zeE x n,F.addZ,F.mulA]
  congr 2
  have:∀ k,x*pwK x k=pwK x (k+1):=fun k=>by show x*pwK x k=pwK x k*x; rw [F.mulC]
  exact this _
theorem zfJ (x:K) (a:Nat):∀ b,pwK x (a+b)=pwK x a*pwK x b
 | 0=>by show pwK x a=pwK x a*1; rw [F.mulOne]
 | b+1=>by show pwK x (a+b)*x=pwK x a*(pwK x b*x); rw [zfJ x a b,F.mulA]
theorem zdE (n:Nat):pwK (1:K) n=1:=by
 induction n with
 | zero=>rfl
 | succ n ih=>show pwK 1 n*1=1; rw [ih,F.oneM]
theorem zbW (x:K) (a:Nat):∀ b,pwK x (a*b)=pwK (pwK x a) b
 | 0=>rfl
 | b+1=>by rw [Nat.mul_succ,zfJ F,zbW x a b]; rfl
theorem zdF (x y:K):∀ n,pwK (x*y) n=pwK x n*pwK y n
 | 0=>by show (1:K)=1*1; rw [F.oneM]
 | n+1=>by
  show pwK (x*y) n*(x*y)=pwK x n*x*(pwK y n*y)
  rw [zdF x y n,F.mulA,F.mulA,F.mulL (pwK y n)]
theorem zhZ {x:K} (hx:x≠0):∀ n,pwK x n≠0
 | 0=>F.ne
 | n+1=>fun h=>hx (F.zeroOr h (zhZ hx n))
theorem IsOrd.dvd {x:K} {n k:Nat} (h:IsOrd x n) (hk:pwK x k=1):n ∣ k:=by
 obtain ⟨h1,h2,h3⟩:=h
 have e:pwK x (k % n)=1:=by
  have:=Nat.div_add_mod k n
  rw [<-this,zfJ F,zbW F,h2,zdE F,F.oneM] at hk
  exact hk
 have hlt:=Nat.mod_lt k (show n > 0 by omega)
 refine Nat.dvd_of_mod_eq_zero (Classical.byContradiction fun hne=>h3 (k % n) (by omega) hlt e)
theorem IsOrd.power {x:K} {d e:Nat} (h:IsOrd x (d*e)) (hd:1<=d):IsOrd (pwK x d) e:=by
 have he:1<=e:=by
  have:=h.1
  rcases Nat.eq_zero_or_pos e with h0 | h0
  ·rw [h0] at this; omega
  ·exact h0
 refine zfH he (by rw [<-zbW F]; exact h.2.1) fun k hk=>?_
 rw [<-zbW F] at hk
 exact Nat.dvd_of_mul_dvd_mul_left hd (h.dvd F hk)
theorem IsOrd.prod {x y:K} {a b:Nat} (h:IsOrd x a) (h':IsOrd y b) (hc:Nat.Coprime a b):IsOrd (x*y) (a*b):=by
 refine zfH (Nat.mul_pos h.1 h'.1) ?_ fun k hk=>?_
 ·rw [zdF F,zbW F,h.2.1,zdE F,Nat.mul_comm,zbW F,h'.2.1,zdE F,F.oneM]
 ·rw [zdF F] at hk
  have hb:b ∣ k:=by
   have h1:pwK y (k*a)=1:=by
    have h2:pwK (pwK x k*pwK y k) a=1:=by rw [hk,zdE F]
    rw [zdF F,<-zbW F,<-zbW F,Nat.mul_comm k a,zbW F x,h.2.1,zdE F,F.oneM,Nat.mul_comm a k] at h2
    exact h2
   exact (Nat.Coprime.dvd_of_dvd_mul_right hc.symm (h'.dvd F h1))
  have ha:a ∣ k:=by
   have h1:pwK x (k*b)=1:=by
    have h2:pwK (pwK x k*pwK y k) b=1:=by rw [hk,zdE F]
    rw [zdF F,<-zbW F,<-zbW F,Nat.mul_comm k b,zbW F y,h'.2.1,zdE F,F.mulOne,Nat.mul_comm b k] at h2
    exact h2
   exact (Nat.Coprime.dvd_of_dvd_mul_right hc (h.dvd F h1))
  exact Nat.Coprime.mul_dvd_of_dvd_of_dvd hc ha hb
end
def PrimeN (p:Nat):Prop:=2<=p/\∀ d,d ∣ p->d=1∨d=p
theorem zb1 {p a:Nat} (hp:PrimeN p) (ha:¬ p ∣ a):Nat.Coprime p a:=by
 rcases hp.2 _ (Nat.gcd_dvd_left p a) with h | h
 ·exact h
 ·exact absurd (h ▸ Nat.gcd_dvd_right p a) ha
theorem zeb:∀ b,2<=b->∃ p,PrimeN p/\p ∣ b:=by
 intro b
 induction b using Nat.strongRecOn with
 | ind b ih =>
  intro hb
  by_cases h:∃ d,d ∣ b/\d≠1/\d≠b
  ·obtain ⟨d,h1,h2,h3⟩:=h
   have hle:=Nat.le_of_dvd (by omega) h1
   have h0:d≠0:=fun e=>by rw [e,Nat.zero_dvd] at h1; omega
   obtain ⟨p,hp,hpd⟩:=ih d (by omega) (by omega)
   exact ⟨p,hp,Nat.dvd_trans hpd h1⟩
  ·exact ⟨b,⟨hb,fun d hd=>Classical.byContradiction fun hn=>h ⟨d,hd,fun e=>hn (.inl e),fun e=>hn (.inr e)⟩⟩,Nat.dvd_refl b⟩
theorem zeF {p:Nat} (hp:2<=p):∀ b,1<=b->∃ v c,b=p ^ v*c/\¬ p ∣ c:=by
 intro b
 induction b using Nat.strongRecOn with
 | ind b ih =>
  intro hb
  by_cases h:p ∣ b
  ·obtain ⟨c,rfl⟩:=h
   have hc:1<=c:=by
    rcases Nat.eq_zero_or_pos c with e | e
    ·rw [e] at hb; omega
    ·exact e
   have hlt:c<p*c:=by
    have:=Nat.mul_le_mul_right c hp
    omega
   obtain ⟨v,d,e,hd⟩:=ih c hlt hc
   refine ⟨v+1,d,?_,hd⟩
   rw [Nat.pow_succ,Nat.mul_comm (p ^ v) p,Nat.mul_assoc,<-e]
  ·exact ⟨0,b,by simp,h⟩
theorem ze3 {a:Nat}:∀ b,1<=b->¬ b ∣ a->∃ p k,PrimeN p/\p ^ k ∣ b/\¬ p ^ k ∣ a:=by
 intro b
 induction b using Nat.strongRecOn with
 | ind b ih =>
  intro hb hn
  have hb2:2<=b:=by
   rcases (show b=1∨2<=b by omega) with e | e
   ·exact absurd (by rw [e]; exact Nat.one_dvd a) hn
   ·exact e
  obtain ⟨p,hp,hpb⟩:=zeb b hb2
  obtain ⟨v,c,e,hc⟩:=zeF hp.1 b hb
  by_cases h:p ^ v ∣ a
  ·have hcop:Nat.Coprime (p ^ v) c:=Nat.Coprime.pow_left v (zb1 hp hc)
   have hca:¬ c ∣ a:=fun hca=>hn (by rw [e]; exact Nat.Coprime.mul_dvd_of_dvd_of_dvd hcop h hca)
   have hv:v≠0:=fun h0=>by
    rw [h0,Nat.pow_zero,Nat.one_mul] at e;rw [e] at hpb
    exact hc hpb
   have hc1:1<=c:=by
    rcases Nat.eq_zero_or_pos c with h0 | h0
    ·rw [h0] at e; omega
    ·exact h0
   have hlt:c<b:=by
    have h1:2<=p ^ v:=Nat.le_trans hp.1 (by
     have:=Nat.pow_le_pow_right (show 0<p by have:=hp.1; omega) (show 1<=v by omega)
     simpa using this)
    have:=Nat.mul_le_mul_right c h1
    omega
   obtain ⟨p',k,h1,h2,h3⟩:=ih c hlt hc1 hca
   exact ⟨p',k,h1,by rw [e]; exact Nat.dvd_trans h2 (Nat.dvd_mul_left c _),h3⟩
  ·exact ⟨p,v,hp,by rw [e]; exact Nat.dvd_mul_right _ _,h⟩
section
variable {K:Type} [Add K] [Mul K] [Neg K] [Zero K] [One K] (F:Fie K)
include F
theorem zdG {x y:K} {a b:Nat} (hx:IsOrd x a) (hy:IsOrd y b) (h:¬ b ∣ a):∃ (z:K) (n:Nat),IsOrd z n/\a<n:=by
 obtain ⟨p,k,hp,h1,h2⟩:=ze3 b hy.1 h
 obtain ⟨v,c,e,hc⟩:=zeF hp.1 a hx.1
 have hp0:0<p:=by have:=hp.1; omega
 have hvk:v<k:=Classical.byContradiction fun hn=>h2 (by
  rw [e]
  exact Nat.dvd_trans (Nat.pow_dvd_pow p (by omega)) (Nat.dvd_mul_right _ _))
 obtain ⟨d,hd⟩:=h1
 have hd1:1<=d:=by
  have:=hy.1
  rcases Nat.eq_zero_or_pos d with h0 | h0
  ·rw [h0] at hd; omega
  ·exact h0
 have o1:IsOrd (pwK x (p ^ v)) c:=IsOrd.power F (by rw [<-e]; exact hx) (Nat.pow_pos hp0)
 have o2:IsOrd (pwK y d) (p ^ k):=IsOrd.power F (by rw [Nat.mul_comm,<-hd]; exact hy) hd1
 have hcop:Nat.Coprime c (p ^ k):=(Nat.Coprime.pow_left k (zb1 hp hc)).symm
 refine ⟨_,_,o1.prod F o2 hcop,?_⟩
 rw [e,Nat.mul_comm c]
 exact Nat.mul_lt_mul_of_pos_right (Nat.pow_lt_pow_right hp.1 hvk) o1.1
theorem zcs {L:List K} (hn:L.Nodup) (hc:∀ a,a ∈ L):∃ x:K,x≠0/\IsOrd x (L.length - 1):=by
 classical
 have hpig:∀ {l m:List K},l.Nodup->(∀ x,x ∈ l->x ∈ m)->l.length<=m.length:=by
  intro l
  induction l with
  | nil=>intro m _ _; exact Nat.zero_le _
  | cons a l ih =>
   intro m h1 h2
   have ha:=h2 a (by simp)
   rw [List.nodup_cons] at h1
   have hl:=List.length_erase_of_mem ha
   have hp:=ih (m:=m.erase a) h1.2 fun x hx=>(List.mem_erase_of_ne (fun e:x=a=>h1.1 (by rw [<-e]; exact hx))).2 (h2 x (by simp [hx]))
   have hpos:=List.length_pos_of_mem ha
   simp only [List.length_cons]
   omega
 have hU:(L.erase 0).length=L.length - 1:=List.length_erase_of_mem (hc 0)
 have hUm:∀ x:K,x≠0->x ∈ L.erase 0:=fun x hx=>(List.mem_erase_of_ne hx).2 (hc x)
 -- powers below the order are different
 have hinj:∀ (x:K) (n:Nat),x≠0->(∀ k,1<=k->k<n->pwK x k≠1)->((List.range n).map (pwK x)).Nodup:=by
  intro x n hx hk
  rw [List.Nodup,List.pairwise_map]
  have key:∀ i j,i<j->j<n->pwK x i≠pwK x j:=fun i j hij hj e=>by
   refine hk (j - i) (by omega) (by omega) ?_
   rw [show j=i+(j - i) by omega,zfJ F] at e
   have h1:pwK x i*pwK x (j - i)=pwK x i*1:=by rw [<-e,F.mulOne]
   obtain ⟨y,hy⟩:=F.inv _ (zhZ F hx i)
   have h2:y*(pwK x i*pwK x (j - i))=y*(pwK x i*1):=by rw [h1]
   rwa [<-F.mulA,<-F.mulA,F.mulC y,hy,F.oneM,F.oneM] at h2
  refine List.Pairwise.imp_of_mem (R:=fun a b=>a<b) (fun {a b} ha hb hab=>key a b hab (List.mem_range.1 hb)) List.pairwise_lt_range
 have hle:∀ (x:K) (n:Nat),x≠0->(∀ k,1<=k->k<n->pwK x k≠1)->n<=L.length - 1:=fun x n hx hk=>by
  have:=hpig (hinj x n hx hk) (m:=L.erase 0) fun z hz=>by
   obtain ⟨i,_,rfl⟩:=List.mem_map.1 hz
   exact hUm _ (zhZ F hx i)
  rw [hU] at this
  simpa using this
 have hord:∀ x:K,x≠0->∃ n,IsOrd x n:=fun x hx=>by
  have hex:∃ n,1<=n/\pwK x n=1:=Classical.byContradiction fun hno=>by
   have:=hle x (L.length+1) hx fun k h1 _ e=>hno ⟨k,h1,e⟩
   omega
  obtain ⟨n,h1,h2⟩:=zgt hex
  exact ⟨n,h1.1,h1.2,fun k h3 h4 e=>h2 k h4 ⟨h3,e⟩⟩
 -- the greatest order
 have hmax:∃ x n,x≠(0:K)/\IsOrd x n/\∀ y m,y≠(0:K)->IsOrd y m->m<=n:=by
  refine Classical.byContradiction fun hno=>?_
  have step:∀ t,∃ x n,x≠(0:K)/\IsOrd x n/\t<=n:=by
   intro t
   induction t with
   | zero =>
    obtain ⟨n,h⟩:=hord 1 F.ne
    exact ⟨1,n,F.ne,h,Nat.zero_le _⟩
   | succ t ih =>
    obtain ⟨x,n,h1,h2,h3⟩:=ih
    refine Classical.byContradiction fun hn2=>hno ⟨x,n,h1,h2,fun y m hy hm=>?_⟩
    refine Classical.byContradiction fun hlt=>hn2 ⟨y,m,hy,hm,by omega⟩
  obtain ⟨x,n,h1,h2,h3⟩:=step (L.length+1)
  have:=hle x n h1 h2.2.2
  omega
 obtain ⟨x,e,hx,he,hbig⟩:=hmax
 refine ⟨x,hx,?_⟩
 have h1:=hle x e hx he.2.2
 have hall:∀ y:K,y≠0->pwK y e=1:=fun y hy=>by
  obtain ⟨m,hm⟩:=hord y hy
  have hdv:m ∣ e:=Classical.byContradiction fun hnd=>by
   obtain ⟨z,n,hz,hlt⟩:=zdG F he hm hnd
   have hz0:z≠0:=fun e0=>by
    have h2:=hz.2.1
    rw [e0] at h2
    have h3:=hz.1
    obtain ⟨k,rfl⟩:∃ k,n=k+1:=⟨n - 1,by omega⟩
    rw [show pwK (0:K) (k+1)=pwK 0 k*0 from rfl,F.mulZ] at h2
    exact F.ne h2.symm
   have:=hbig z n hz0 hz
   omega
  obtain ⟨k,rfl⟩:=hdv
  rw [zbW F,hm.2.1,zdE F]
 have hroots:=zfI F e (List.replicate (e - 1) 0 ++ [-1]) (L.erase 0) (by have:=he.1; simp; omega) (hn.erase 0) fun r hr=>by
  have hr0:r≠0:=fun e0=>by rw [e0] at hr; exact (List.Nodup.mem_erase_iff hn).1 hr |>.1 rfl
  rw [zeE F,F.oneM,show e - 1+1=e by have:=he.1; omega,hall r hr0,F.addN]
 rw [hU] at hroots
 obtain rfl:e=L.length - 1:=by omega
 exact he
end
theorem zhq {P M:Int} (h:256<P):ordV P M=0:=by
 unfold ordV
 split
 ·rename_i h2
  exfalso
  obtain ⟨h3,h4,_,h5⟩:=h2
  have h6:=Nat.pow_le_pow_right (n:=P.toNat) (show 0<P.toNat by omega) (show 1<=M.toNat by omega)
  rw [Nat.pow_one] at h6
  omega
 ·rfl
theorem zbX (P M : Int) (w : World) : Calls Tryz.prog 146 #[.int .i64 P, .int .i64 M] w (OrderPost P M w) := by
 by_cases h1:P<2
 ·have hz:=hid (zcG (P:=P) (M:=M) (.inl h1))
  go_enter Tryz.func146, Tryz.ntmps146
  go_wp2
  go_ret
  exact zaz hz.out (Below.refl _ _)
 ·by_cases h2:P > 256
  ·have hz:=hid (zhq (P:=P) (M:=M) h2)
   go_enter Tryz.func146, Tryz.ntmps146
   go_wp2
   go_ret
   exact zaz hz.out (Below.refl _ _)
  ·by_cases h3:M<1
   ·have hz:=hid (zcG (P:=P) (M:=M) (.inr (.inl h3)))
    go_enter Tryz.func146, Tryz.ntmps146
    go_wp2
    go_ret
    exact zaz hz.out (Below.refl _ _)
   ·by_cases h4:M > 8
    ·have hz:=hid (zcG (P:=P) (M:=M) (.inr (.inr h4)))
     go_enter Tryz.func146, Tryz.ntmps146
     go_wp2
     go_ret
     exact zaz hz.out (Below.refl _ _)
    ·obtain ⟨p,rfl⟩:∃ p:Nat,P=p:=⟨P.toNat,by omega⟩
     obtain ⟨m,rfl⟩:∃ m:Nat,M=m:=⟨M.toNat,by omega⟩
     have HVAL:Hid (∀ v:Nat,(p ^ m<=256->v=p ^ m)->(256<p ^ m->v=0)->ordV (p:Int) (m:Int)=(v:Int)):=fun v hv1 hv2=>by
      unfold ordV
      rw [Int.toNat_natCast,Int.toNat_natCast]
      by_cases h:p ^ m<=256
      ·rw [if_pos ⟨by omega,by omega,by omega,h⟩,hv1 h]
      ·rw [if_neg (fun hh=>h hh.2.2.2),hv2 (by omega)]; rfl
     have hm0:(0:Int)<=(m:Int):=by omega
     go_enter Tryz.func146, Tryz.ntmps146
     go_wp2
     go_loopg [5,21] m (fun gg qv iv wx=>∃ i y:Nat,qv=.int .i64 (y:Nat)/\iv=.int .i64 (i:Nat)/\i<=m/\m<=i+gg/\Hid (y=p ^ i)/\y<=256/\wx=w)
     case atStart=>exact ⟨0,1,rfl,rfl,by omega,by omega,rfl,by omega,rfl⟩
     case round =>
      obtain ⟨i,y,rfl,rfl,hi,hig,HY,hy,hwx⟩:=hrel
      subst hwx
      by_cases hlt:i<m
      ·have hlt':(i:Int)<(m:Int):=by omega
       obtain ⟨z,hz⟩:∃ z,z=y*p:=⟨_,rfl⟩
       have hzz:(y:Int)*(p:Int)=(z:Int):=by rw [hz]; simp
       have hzl:z<=65536:=by rw [hz]; exact Nat.mul_le_mul (show y<=256 by omega) (show p<=256 by omega)
       have HZ:Hid (z=p ^ (i+1)):=by show _=_; rw [hz,HY.out,Nat.pow_succ]
       clear hz
       by_cases hb:z > 256
       ·have hb':(z:Int) > 256:=by omega
        have hno:=hid (HVAL.out 0 (fun h=>by
         have h5:=Nat.pow_le_pow_right (n:=p) (by omega) (show i+1<=m by omega)
         rw [<-HZ.out] at h5
         omega) (fun _=>rfl))
        go_wp2
        go_ret
        exact ⟨by rw [hno.out]; rfl,Below.refl _ _⟩
       ·have hb':¬ (z:Int) > 256:=by omega
        go_wp2
        go_roundg (gk - 1)
        case measure=>omega
        case rel=>exact ⟨i+1,z,rfl,by go_num,by omega,by omega,HZ,by omega,rfl⟩
      ·have hlt':¬ (i:Int)<(m:Int):=by omega
       obtain rfl:i=m:=by omega
       have hyes:=hid (HVAL.out y (fun _=>HY.out) (fun h=>by have:=HY.out; omega))
       go_wp2
       go_ret
       exact ⟨by rw [hyes.out]; rfl,Below.refl _ _⟩
theorem zda {n d:Nat} (hd:n<d*d) (h:∀ e,2<=e->e<d->n % e≠0):PrimeB n:=by
 intro e h1 h2 h3
 obtain ⟨f,hf⟩:=Nat.dvd_of_mod_eq_zero h3
 have hf2:2<=f:=by
  rcases (show f=0∨f=1∨2<=f by omega) with e0 | e0 | e0
  ·subst e0; omega
  ·subst e0; omega
  ·exact e0
 by_cases he:e<d
 ·exact h e h1 he h3
 ·by_cases hfd:f<d
  ·exact h f hf2 hfd (by rw [hf]; exact Nat.mul_mod_left e f)
  ·have:=Nat.mul_le_mul (show d<=e by omega) (show d<=f by omega)
   omega
theorem ze4 (P:Nat) (w:World) (hP2:2<=P) (hP:P<=256) :
  Calls Tryz.prog 210 #[.int .i64 (P:Nat)] w (PrimePost P w):=by
 have hP2':(P:Int) ≥ 2:=by omega
 have hP2'':(2:Int)<=(P:Int):=by omega
 go_enter Tryz.func210, Tryz.ntmps210
 go_wp2
 go_loopg [3] 20 (fun gg iv wx=>∃ d:Nat,iv=.int .i64 (d:Nat)/\2<=d/\d<=17/\20<=d+gg/\Hid (∀ d',2<=d'->d'<d->P % d'≠0)/\wx=w)
 case atStart=>exact ⟨2,rfl,by omega,by omega,by omega,fun d' h1 h2=>absurd h1 (by omega),rfl⟩
 case round =>
  obtain ⟨d,rfl,h2,hd,hdg,HG,hwx⟩:=hrel
  subst hwx
  have hd2:(2:Int)<=(d:Int):=by omega
  have hd0:¬ (d:Int)=0:=by omega
  have hdm:(d:Int)<=17:=by omega
  obtain ⟨z,hz⟩:∃ z,z=d*d:=⟨_,rfl⟩
  have hzz:(d:Int)*(d:Int)=(z:Int):=by rw [hz]; simp
  have hzl:z<=289:=by rw [hz]; exact Nat.mul_le_mul hd hd
  have HZ:=hid hz
  clear hz
  by_cases hlt:z<=P
  ·have hlt':(z:Int)<=(P:Int):=by omega
   have hmod:(P:Int) % (d:Int)=((P % d:Nat):Int):=by simp
   obtain ⟨r,hr⟩:∃ r,r=P % d:=⟨_,rfl⟩
   rw [<-hr] at hmod
   have HR:=hid hr
   clear hr
   have hd16:d<=16:=Classical.byContradiction fun hn=>by
    obtain rfl:d=17:=by omega
    have:=HZ.out
    omega
   by_cases h0:r=0
   ·subst h0
    have HNO:Hid (¬ PrimeB P):=fun h=>h d h2 (by
     have:=HZ.out
     have h5:2*d<=d*d:=Nat.mul_le_mul_right d h2
     omega) HR.out.symm
    go_wp2
    go_ret
    exact ⟨false,rfl,⟨(fun h=>by cases h),fun h=>absurd h HNO.out⟩,rfl⟩
   ·have hb:((r:Int) == 0)=false:=by simp; omega
    have hnx:Hid (∀ d',2<=d'->d'<d+1->P % d'≠0):=fun d' e1 e2=>by
     by_cases e:d'=d
     ·rw [e,<-HR.out]; exact h0
     ·exact HG.out d' e1 (by omega)
    go_wp2
    go_roundg (gk - 1)
    case measure=>omega
    case rel=>exact ⟨d+1,by go_num,by omega,by omega,by omega,hnx,rfl⟩
  ·have hlt':¬ (z:Int)<=(P:Int):=by omega
   have HYES:=hid (zda (n:=P) (d:=d) (by have:=HZ.out; omega) HG.out)
   go_wp2
   go_ret
   exact ⟨true,rfl,⟨fun _=>HYES.out,fun _=>rfl⟩,rfl⟩
theorem zct (x p n:Nat) (w:World) (hx:x<=1048576) (hp:1<=p) (hp2:p<=256) (hn:n<=64) :
  Calls Tryz.prog 250 #[.int .i64 (x:Nat),.int .i64 (p:Nat),.int .i64 (n:Nat)] w (RowPost n (fun i=>.int .i64 (dig p x i:Nat)) w):=by
 have hmk:=fun W=>zag (P:=Tryz.prog) 22 3 _ 8 Tryz.underlying22 Tryz.infoInt rfl (n:Int) (by omega) (by omega) (by omega) W
 simp only [Int.toNat_natCast] at hmk
 have row:=World.rowIs_made w (.int .i64 0) n 3
 have hB:Below w.heap.size w (w.alloc (.cells (madeCells #[.int .i64 0] n) 3)):=(Below.refl _ _).alloc (Nat.le_refl _) _
 have hp1:(1:Int)<=(p:Int):=by omega
 have hp0:¬ (p:Int)=0:=by omega
 have hpm:(p:Int)<=256:=by omega
 go_enter Tryz.func250, Tryz.ntmps250
 go_wp2
 obtain ⟨w1,hw1⟩:∃ W,W=w.alloc (.cells (madeCells #[.int .i64 0] n) 3):=⟨_,rfl⟩
 obtain ⟨g,hg⟩:∃ g,g=w.heap.size:=⟨_,rfl⟩
 rw [<-hw1,<-hg];rw [<-hw1] at hB row;rw [<-hg] at row
 have hgB:w.heap.size<=g:=by omega
 clear hw1 hg hmk
 go_loopg [0,8,13] n (fun gg xv _ iv wx=>∃ i:Nat,iv=.int .i64 (i:Nat)/\xv=.int .i64 (x / p ^ i:Nat)/\i<=n/\n<=i+gg/\wx.rowIs g 3 n (fun j=>.int .i64 (if j<i then (dig p x j:Nat) else 0:Int))/\Below w.heap.size w wx)
 case atStart=>exact ⟨0,rfl,by simp,by omega,by omega,row.congr fun i _=>rfl,hB⟩
 case round =>
  clear row hB
  obtain ⟨i,rfl,rfl,hi,hig,row,hB⟩:=hrel
  have hi0:(0:Int)<=(i:Int):=by omega
  have hle:x / p ^ i<=x:=Nat.div_le_self _ _
  have hst:x / p ^ (i+1)=x / p ^ i / p:=by rw [Nat.pow_succ,Nat.div_div_eq_div_mul]
  have hdg:dig p x i=x / p ^ i % p:=rfl
  obtain ⟨y,hy⟩:∃ y,y=x / p ^ i:=⟨_,rfl⟩
  rw [<-hy] at hle hst hdg;rw [<-hy]
  have HST:=hid hst
  have HDG:=hid hdg
  clear hy hst hdg
  by_cases hlt:i<n
  ·have hlt':(i:Int)<(n:Int):=by omega
   have hy0:(0:Int)<=(y:Int):=by omega
   have hy1:(y:Int)<=1048576:=by omega
   have hmod:(y:Int) % (p:Int)=((y % p:Nat):Int):=by simp
   have hdiv:(y:Int) / (p:Int)=((y / p:Nat):Int):=by simp
   obtain ⟨r,hr⟩:∃ r,r=y % p:=⟨_,rfl⟩
   obtain ⟨z,hz⟩:∃ r,r=y / p:=⟨_,rfl⟩
   rw [<-hr] at hmod;rw [<-hz] at hdiv
   have hz0:(0:Int)<=(z:Int):=by omega
   have hz1:(z:Int)<=1048576:=by have:y / p<=y:=Nat.div_le_self _ _; omega
   have HR:=hid hr
   have HZ:=hid hz
   clear hr hz
   have c0:=row.cell hlt
   have z0:=row.frozen i
   have HROW2:Hid ((wr.setCell ⟨g,i,none⟩ (.int .i64 (r:Int))).rowIs g 3 n (fun j=>.int .i64 (if j<i+1 then (dig p x j:Nat) else 0:Int))):=(row.set i _).congr fun j hj=>by
    by_cases e:j=i
    ·subst e
     rw [if_pos rfl,if_pos (by omega),HDG.out,HR.out]
    ·rw [if_neg e]
     by_cases e2:j<i
     ·rw [if_pos e2,if_pos (by omega)]
     ·rw [if_neg e2,if_neg (by omega)]
   have HB2:Hid (Below w.heap.size w (wr.setCell ⟨g,i,none⟩ (.int .i64 (r:Int)))):=hB.setCell hgB _
   clear row hB
   go_wp2
   go_roundg (gk - 1)
   case measure=>omega
   case rel=>exact ⟨i+1,by go_num,by rw [HST.out,HZ.out],by omega,by omega,HROW2.out,HB2.out⟩
  ·obtain rfl:i=n:=by omega
   have hlt':¬ (i:Int)<(i:Int):=by omega
   have hrow:Hid (wr.rowIs g 3 i (fun j=>.int .i64 (dig p x j:Nat))):=row.congr fun j hj=>by rw [if_pos hj]
   clear row
   go_wp2
   go_ret
   exact ⟨g,rfl,hgB,hrow.out,hB⟩
theorem ze5 (P:Nat) (T:Option Addr) (n d:Nat) (f:Nat->Nat) (w:World) (hP2:2<=P) (hP:P<=256) (h:IntsR w w.heap.size T n (fun i=>(f i:Nat))) (hd:Hid (∀ i,i<n->f i<P)) (hn:P ^ n<=256) (hn8:n<=8) :
  Calls Tryz.prog 251 #[.slice T n d,.int .i64 (P:Nat)] w fun e w'=>e=.returned (.int .i64 (valN P f n:Nat))/\Below w.heap.size w w':=by
 have hT:=hid h
 clear h
 go_enter Tryz.func251, Tryz.ntmps251
 go_wp2
 go_loopg [5,6] n (fun gg xv iv wx=>∃ j:Nat,iv=.int .i64 ((n:Int) - 1 - (j:Nat))/\xv=.int .i64 (valN P (fun i=>f (n - j+i)) j:Nat)/\j<=n/\n<=j+gg/\Below w.heap.size w wx)
 case atStart=>exact ⟨0,by go_num,rfl,by omega,by omega,Below.refl _ _⟩
 case round =>
  obtain ⟨j,rfl,rfl,hj,hjg,hB⟩:=hrel
  have hvl:=za6 (p:=P) (n:=j) (f:=fun i=>f (n - j+i)) (fun i hi=>hd.out _ (by omega))
  have hpw:P ^ j<=P ^ n:=Nat.pow_le_pow_right (by omega) hj
  by_cases hlt:j<n
  ·have hge:(0:Int)<=(n:Int) - 1 - (j:Int):=by omega
   obtain ⟨i,hi⟩:∃ i:Nat,i=n - 1 - j:=⟨_,rfl⟩
   have hii:(n:Int) - 1 - (j:Int)=(i:Int):=by omega
   have hin:i<n:=by omega
   have hin':(i:Int)<(n:Int):=by omega
   have hi0:(0:Int)<=(i:Int):=by omega
   rw [hii]
   obtain ⟨b,o,rfl,hb,e0⟩:=(hT.out.on hB).at hin
   have hfi:=hd.out i hin
   have hnx:valN P (fun t=>f (n - (j+1)+t)) (j+1)=f i+P*valN P (fun t=>f (n - j+t)) j:=by
    show f (n - (j+1)+0)+P*valN P (fun t=>f (n - (j+1)+(t+1))) j=_
    rw [show n - (j+1)+0=i by omega]
    congr 2
    exact zaL fun t _=>by rw [show n - (j+1)+(t+1)=n - j+t by omega]
   obtain ⟨V,hV⟩:∃ V,V=valN P (fun t=>f (n - j+t)) j:=⟨_,rfl⟩
   obtain ⟨D,hD⟩:∃ D,D=f i:=⟨_,rfl⟩
   rw [<-hV] at hvl hnx;rw [<-hD] at e0 hfi hnx;rw [<-hV]
   have HNX:=hid hnx
   have HII:=hid hii
   clear hV hD hnx hi hii hge
   have hV0:(0:Int)<=(V:Int):=by omega
   have hV1:(V:Int)<=256:=by omega
   have hD0:(0:Int)<=(D:Int):=by omega
   have hD1:(D:Int)<=256:=by omega
   have hVP:V*P<=256*256:=Nat.mul_le_mul (by omega) hP
   have hmul:(V:Int)*(P:Int)=((V*P:Nat):Int):=by simp
   obtain ⟨R,hR⟩:∃ R,R=V*P:=⟨_,rfl⟩
   rw [<-hR] at hVP hmul
   have HR:=hid hR
   clear hR
   have hw1:IntKind.i64.wrap ((V:Int)*(P:Int))=(R:Int):=by rw [hmul]; exact IntWalk.i64_in _ (by omega)
   have hw2:IntKind.i64.wrap ((R:Int)+(D:Int))=(R:Int)+(D:Int):=IntWalk.i64_in _ (by omega)
   have hw3:IntKind.i64.wrap (R:Int)=(R:Int):=IntWalk.i64_in _ (by omega)
   go_wp2
   go_roundg (gk - 1)
   case measure=>omega
   case rel=>exact ⟨j+1,by have:=HII.out; go_num,by rw [HNX.out,Nat.mul_comm P V,<-HR.out]; go_num,by omega,by omega,hB⟩
  ·obtain rfl:j=n:=by omega
   have hge:¬ (0:Int)<=(j:Int) - 1 - (j:Int):=by omega
   have hge2:¬ (j:Int)<=(j:Int) - 1:=by omega
   have hv:valN P (fun i=>f (j - j+i)) j=valN P f j:=zaL fun i _=>by rw [show j - j+i=i by omega]
   rw [hv] at hvl ⊢
   obtain ⟨V,hV⟩:∃ V,V=valN P f j:=⟨_,rfl⟩
   rw [<-hV] at hvl ⊢
   have HV:=hid hV
   clear hV hv
   go_wp2
   go_ret
   exact ⟨by rw [HV.out]; rfl,hB⟩
def hStep (P M:Nat) (m:Nat->Nat) (a:Nat->Nat) (bi:Nat) (o:Nat->Nat) (j:Nat):Nat:=((if j=0 then 0 else o (j - 1))+(P - o (M - 1))*(if 1<M then m j else 0)+bi*a j) % P
def hOut (P M:Nat) (m a b:Nat->Nat):Nat->Nat->Nat
 | 0=>fun _=>0
 | s+1=>hStep P M m a (b (M - 1 - s)) (hOut P M m a b s)
theorem zdH {P M:Nat} {m a b:Nat->Nat} (hP:0<P):∀ s j,hOut P M m a b s j<P
 | 0,_=>hP
 | _+1,_=>Nat.mod_lt _ hP
theorem zgY {P M:Nat} {m a b:Nat->Nat} (hP:0<P):∀ s,s<=M->∀ j,j<M->cg P (hOut P M m a b s j) (sig s fun t=>(b (M - s+t):Int)*sig M fun i=>(a i:Int)*pwX M m (i+t) j)
 | 0,_,_,_=>zan _
 | s + 1, hs, j, hj => by
  have ih:=fun j' (hj':j'<M)=>zgY (m:=m) (a:=a) (b:=b) hP s (by omega) j' hj'
  have hlt:=zdH (M:=M) (m:=m) (a:=a) (b:=b) hP s (M - 1)
  obtain ⟨o,ho⟩:∃ o,o=hOut P M m a b s:=⟨_,rfl⟩
  rw [<-ho] at ih hlt
  have e1:hOut P M m a b (s+1) j=((if j=0 then 0 else o (j - 1))+(P - o (M - 1))*(if 1<M then m j else 0)+b (M - 1 - s)*a j) % P:=by rw [ho]; rfl
  rw [e1]
  refine (zdv _).trans ?_
  -- the sum without its first summand
  have e2:sig (s+1) (fun t=>(b (M - (s+1)+t):Int)*sig M fun i=>(a i:Int)*pwX M m (i+t) j)=(b (M - 1 - s):Int)*a j+sig s (fun t=>(b (M - s+t):Int)*sig M fun i=>(a i:Int)*pwX M m (i+t+1) j):=by
   rw [show s+1=1+s by omega,zgi 1 s]
   congr 1
   ·show (0:Int)+(b (M - (1+s)):Int)*sig M (fun i=>(a i:Int)*pwX M m i j)=_
    rw [zbx hj fun i hi hne=>by rw [zbd hi,if_neg (by omega)]; omega,zbd hj,if_pos rfl,show M - (1+s)=M - 1 - s by omega,Int.mul_one,Int.zero_add]
   ·refine zae fun t _=>?_
    rw [show M - (1+s)+(1+t)=M - s+t by omega]
    congr 1
    exact zae fun i _=>by rw [show i+(1+t)=i+t+1 by omega]
  rw [e2]
  have e3:sig s (fun t=>(b (M - s+t):Int)*sig M fun i=>(a i:Int)*pwX M m (i+t+1) j)=(if j=0 then 0 else sig s fun t=>(b (M - s+t):Int)*sig M fun i=>(a i:Int)*pwX M m (i+t) (j - 1)) - m j*sig s (fun t=>(b (M - s+t):Int)*sig M fun i=>(a i:Int)*pwX M m (i+t) (M - 1)):=by
   rw [<-zcp]
   by_cases e:j=0
   ·rw [if_pos e]
    have:(0:Int)=sig s fun _=>0:=(za2 s).symm
    rw [this,<-zev]
    refine zae fun t _=>?_
    have h1:sig M (fun i=>(a i:Int)*pwX M m (i+t+1) j) = - (m j*sig M fun i=>(a i:Int)*pwX M m (i+t) (M - 1)):=by
     rw [<-zcp,<-zgO]
     refine zae fun i _=>?_
     show (a i:Int)*(if j<M then (if j=0 then 0 else pwX M m (i+t) (j - 1)) - m j*pwX M m (i+t) (M - 1) else 0)=_
     rw [if_pos hj,if_pos e]
     grind
    rw [h1]
    grind
   ·rw [if_neg e,<-zev]
    refine zae fun t _=>?_
    have h1:sig M (fun i=>(a i:Int)*pwX M m (i+t+1) j)=sig M (fun i=>(a i:Int)*pwX M m (i+t) (j - 1)) - m j*sig M fun i=>(a i:Int)*pwX M m (i+t) (M - 1):=by
     rw [<-zcp,<-zev]
     refine zae fun i _=>?_
     show (a i:Int)*(if j<M then (if j=0 then 0 else pwX M m (i+t) (j - 1)) - m j*pwX M m (i+t) (M - 1) else 0)=_
     rw [if_pos hj,if_neg e]
     grind
    rw [h1]
    grind
  rw [e3]
  have c1:cg P (((if j=0 then 0 else o (j - 1):Nat):Int)) (if j=0 then 0 else sig s fun t=>(b (M - s+t):Int)*sig M fun i=>(a i:Int)*pwX M m (i+t) (j - 1)):=by
   by_cases e:j=0
   ·rw [if_pos e,if_pos e]; exact zan _
   ·rw [if_neg e,if_neg e]; exact ih (j - 1) (by omega)
  have c2:cg P ((((P - o (M - 1))*(if 1<M then m j else 0):Nat):Int)) (- (m j*sig s fun t=>(b (M - s+t):Int)*sig M fun i=>(a i:Int)*pwX M m (i+t) (M - 1))):=by
   by_cases e:1<M
   ·rw [if_pos e]
    have h1:cg P (((P - o (M - 1))*m j:Nat):Int) (- (m j*(o (M - 1):Int))):=⟨m j,by rw [Int.natCast_mul,Int.natCast_sub (Nat.le_of_lt hlt)]; grind⟩
    exact h1.trans ((Go.Proofs.YtioagplajkoohaaGreat.cg.mulL _ (ih (M - 1) (by omega))).neg)
   ·rw [if_neg e,Nat.mul_zero]
    obtain rfl:s=0:=by omega
    exact zbw (by show (0:Int) = -(m j*0); omega)
  rw [Int.natCast_add,Int.natCast_add,Int.natCast_mul (b (M - 1 - s))]
  refine ((c1.add c2).add (zan _)).trans (zbw ?_)
  omega
theorem zhr {P M:Nat} {m:Nat->Nat} (hP:0<P) (hM:1<=M) (x y:Nat):valN P (hOut P M m (dig P x) (dig P y) M) M=mulF P M m x y:=by
 refine zbe hP (za6 fun i _=>zdH hP M i) (zaP hP x y) fun j hj=>?_
 have h1:dgt P (valN P (hOut P M m (dig P x) (dig P y) M) M) j=((hOut P M m (dig P x) (dig P y) M j:Nat):Int):=by
  unfold dgt
  rw [za3 (fun i _=>zdH hP M i) j hj]
 rw [h1]
 refine (zgY hP M (Nat.le_refl _) j hj).trans (Go.Proofs.YtioagplajkoohaaGreat.cg.trans (zbw ?_) (zcY hP hM x y hj).symm)
 rw [zaR]
 unfold mulI
 refine zae fun t _=>?_
 rw [show M - M+t=t by omega]
 unfold dgt
 congr 1
 exact zae fun i _=>by rw [Nat.add_comm i t]
theorem drewSet {B:Nat} {a w:World} {p:Addr} {v:Value} (h:Below B a (w.setCell p v)):Below B a (w.drew.setCell p v):=⟨h.os,h.tape,h.output,h.size,h.block⟩
theorem zgu {w':World} {g M L:Nat} {t:TypeId} {F:Nat->Value} {cs:Array Value} (h1:cs.size=M) (h2:∀ i,i<M->cs[i]?=some (F i)) (hM:L+1=M) (h:w'.heap[g]?=some (.cells (splice cs.toList 1 ((List.range L).map F)).toArray t (0,0))):w'.rowIs g t M (fun j=>if j=0 then F 0 else F (j - 1)):=by
 have hl:(splice cs.toList 1 ((List.range L).map F)).length=M:=by rw [length_splice _ _ _ (by simp; omega)]; simpa using h1
 refine ⟨_,h,by simpa using hl,fun i hi=>?_⟩
 rw [List.getElem?_toArray]
 unfold splice
 have hcl:cs.toList.length=M:=by simpa using h1
 show _=some (if i=0 then F 0 else F (i - 1))
 by_cases e:i=0
 ·subst e
  rw [if_pos rfl,List.getElem?_append_left (by rw [List.length_take]; omega),List.getElem?_take_of_lt (by omega),Array.getElem?_toList]
  exact h2 0 hi
 ·rw [if_neg e,List.getElem?_append_right (by rw [List.length_take]; omega),List.length_take,show i - min 1 cs.toList.length=i - 1 by omega,List.getElem?_append_left (by simp; omega)]
  simp [show i - 1<L by omega]
theorem zcu (P M:Nat) (A:Option Addr) (k c:Nat) (m:Nat->Nat) (x y:Nat) (w:World) (hf:FldOk P M) (hm:ModOk w P M A m) (hkM:M=1∨k=M) (hx:x<P ^ M) (hy:y<P ^ M) :
  Calls Tryz.prog 212 #[.agg #[.int .i64 (P:Nat),.int .i64 (M:Nat),.slice A k c],.int .i64 (x:Nat),.int .i64 (y:Nat)] w fun e w'=>e=.returned (.int .i64 (mulF P M m x y:Nat))/\Below w.heap.size w w':=by
 have hq:=hf.2.2.2
 have hP2:=hf.1
 have hP6:=hf.P_le
 have hM1:=hf.2.1
 have hM8:=hf.2.2.1
 have hP1:1<=P:=by omega
 have hP0:0<P:=by omega
 have hx6:x<=1048576:=by omega
 have hy6:y<=1048576:=by omega
 have hM6:M<=64:=by omega
 have HEQ:=hid (zhr (m:=m) hP0 hM1 x y)
 have HQ:=hid hq
 clear hq hx hy
 have hB:Below w.heap.size w (w.alloc (.cells #[.int .i64 (P:Nat),.int .i64 (M:Nat),.slice A k c] 24)):=(Below.refl _ _).alloc (Nat.le_refl _) _
 have rf:=zad (w:=w) (a:=.int .i64 (P:Nat)) (b:=.int .i64 (M:Nat)) (c:=.slice A k c) (T := 24)
 obtain ⟨w1,hw1⟩:∃ W,W=w.alloc (.cells #[.int .i64 (P:Nat),.int .i64 (M:Nat),.slice A k c] 24):=⟨_,rfl⟩
 rw [<-hw1] at hB rf
 have hmk:=fun W=>zag (P:=Tryz.prog) 22 3 _ 8 Tryz.underlying22 Tryz.infoInt rfl (M:Int) (by omega) (by omega) (by omega) W
 simp only [Int.toNat_natCast] at hmk
 go_enter Tryz.func212, Tryz.ntmps212
 go_upto_region 1 with fail
 rw [<-hw1];clear hw1
 refine wp_region_held_drew (S:=fun w'=>w'.cell? ⟨w.heap.size,0,none⟩=some (.int .i64 (P:Nat))/\w'.cell? ⟨w.heap.size,1,none⟩=some (.int .i64 (M:Nat))) (by kernel_rfl) ⟨cellS (Below.refl _ _).drew (rf.cell (i:=0) (by omega)),cellS (Below.refl _ _).drew (rf.cell (i:=1) (by omega))⟩ (fun hHeld=>?_)
 obtain ⟨w2,hw⟩:∃ W,W=World.drew w1:=⟨_,rfl⟩
 have kb:Below w1.heap.size w1 w2:=by rw [hw]; exact (Below.refl _ _).drew
 rw [<-hw] at hHeld ⊢;clear hw;replace rf:=zaa rf kb;replace hB:=onS hB kb;clear kb
 refine tkq 0 (h:=tkq 1 (h:=tkq 2 (h:=tkq 3 (h:=tkq 4 (h:=tkq 6 (h:=tkq 7 (h:=tkq 8 (h:=tkq 9 (h:=tkq 10 (h:=?_))))))))))
 refine rdq 5 (h:=fun K hK=>?_)
 go_simp
 go_wp2_with fail
 refine (zct x P M w2 hx6 hP1 hP6 hM6).mono ?_
 rintro e w3 ⟨ga,rfl,hga,ra,kb⟩
 replace rf:=zaa rf kb;replace hB:=onS hB kb;clear kb
 refine bkq hK ⟨qc0 rf,qc1 rf⟩ (h:=fun hHeld=>?_)
 clear hK K
 refine rdq 11 (h:=fun K hK=>?_)
 have hgs:=hB.size
 go_simp
 go_wp2_with fail
 refine (zct y P M w3 hy6 hP1 hP6 hM6).mono ?_
 rintro e w4 ⟨gb,rfl,hgb,rb,kb⟩
 replace rf:=zaa rf kb;replace ra:=zaa ra kb;replace hB:=onS hB kb;clear kb
 refine bkq hK ⟨qc0 rf,qc1 rf⟩ (h:=fun hHeld=>?_)
 clear hK K
 refine tkq 12 (h:=tkq 13 (h:=?_))
 refine wpAnyH_done (by kernel_rfl) ?_ _
 clear hHeld
 obtain ⟨wA,hwA⟩:∃ W,W=w4:=⟨_,rfl⟩
 rw [<-hwA] at rf hB ra rb ⊢;clear hwA
 have q1:=qc1 rf
 go_upto_region 3 with fail
 have row:=World.rowIs_made wA (.int .i64 0) M 3
 have kb:=(Below.refl wA.heap.size wA).alloc (Nat.le_refl _) (Obj.cells (madeCells #[Value.int .i64 0] M) 3)
 obtain ⟨wB,hwB⟩:∃ W,W=wA.alloc (Obj.cells (madeCells #[Value.int .i64 0] M) 3):=⟨_,rfl⟩
 obtain ⟨g,hg⟩:∃ b,b=wA.heap.size:=⟨_,rfl⟩
 rw [<-hwB] at kb row ⊢;rw [<-hg] at row ⊢
 have hgA:wA.heap.size<=g:=by omega
 have hgw:w.heap.size≠g:=by have:=rf.lt; omega
 have HRF:=hid rf
 have HRA:=hid ra
 have HRB:=hid rb
 have HBA:=hid hB
 clear hwB hg q1 hmk rf ra rb hB
 have q1:wB.cell? ⟨w.heap.size,1,none⟩=some (.int .i64 (M:Nat)):=cellS kb (HRF.out.cell (i:=1) (by omega))
 have hsz1:(Tryz.prog.info? 3).map (·.size)=some 1:=by
  obtain ⟨i,hi,hzz⟩:=Option.map_eq_some_iff.1 Tryz.infoInt
  simp only [Prod.mk.injEq] at hzz
  rw [hi]
  simp [hzz.2.1]
 have HSZ1:=hid hsz1
 clear hsz1
 obtain ⟨L,hL⟩:∃ L,L=M - 1:=⟨_,rfl⟩
 have hLi:(M:Int) - 1=(L:Int):=by omega
 have hLM:L<M:=by omega
 have hLM':(L:Int)<(M:Int):=by omega
 have HL:=hid hL
 clear hL
 have HROW:=hid (row.congr (g:=fun j=>.int .i64 (hOut P M m (dig P x) (dig P y) 0 j:Nat)) fun _ _=>rfl)
 have HKB:=hid kb
 clear row
 go_wp2
 clear q1
 go_loopg [10,11,12,13] (M+1) (fun gg iv _ _ _ wx=>∃ s:Nat,iv=.int .i64 ((M:Int) - 1 - (s:Int))/\s<=M/\M+1<=s+gg/\Hid (wx.rowIs g 3 M (fun j=>.int .i64 (hOut P M m (dig P x) (dig P y) s j:Nat)))/\Hid (Below wA.heap.size wA wx))
 case atStart=>exact ⟨0,by rw [<-hLi]; simp,by omega,by omega,HROW,HKB⟩
 case round =>
  clear HROW HKB kb
  obtain ⟨s,rfl,hs,hsg,HROW,HKB⟩:=hrel
  by_cases hlt:s<M
  ·obtain ⟨i,hi⟩:∃ i,i=M - 1 - s:=⟨_,rfl⟩
   have hie:(M:Int) - 1 - (s:Int)=(i:Int):=by omega
   have hiM:i<M:=by omega
   have hiM':(i:Int)<(M:Int):=by omega
   have hi0:(0:Int)<=(i:Int):=by omega
   rw [hie]
   have HI:=hid hi
   have HIE:=hid hie
   clear hi hie
   obtain ⟨gO,hgO⟩:∃ x,x=gk:=⟨_,rfl⟩
   rw [<-hgO] at hsg
   obtain ⟨o,ho⟩:∃ o,o=hOut P M m (dig P x) (dig P y) s:=⟨_,rfl⟩
   have hol:∀ j,o j<P:=fun j=>by rw [ho]; exact zdH hP0 s j
   have row:=HROW.out
   rw [<-ho] at row
   have hnext:hOut P M m (dig P x) (dig P y) (s+1)=hStep P M m (dig P x) (dig P y i) o:=by rw [ho,HI.out]; rfl
   have HNX:=hid hnext
   have HOL:=hid hol
   clear ho hnext HROW hol
   obtain ⟨tp,htp⟩:∃ t,t=o L:=⟨_,rfl⟩
   have t0:=row.cell hLM
   rw [<-htp] at t0
   have htpP:tp<P:=by rw [htp]; exact HOL.out L
   have HTP:=hid htp
   clear htp
   have hwL:IntKind.i64.wrap (L:Int)=(L:Int):=IntWalk.i64_in _ (by omega)
   have hL0:(0:Int)<=(L:Int):=by omega
   have hLl:(L:Int)<=(M:Int):=by omega
   have hM1':(1:Int)<=(M:Int):=by omega
   obtain ⟨dp,hdp⟩:∃ dp:Option Addr,(if M=1 then some ⟨g,0,none⟩ else some ⟨g,1,none⟩:Option Addr)=dp:=⟨_,rfl⟩
   have HDP:Hid (0<L->dp=some ⟨g,1,none⟩):=fun h=>by rw [<-hdp,if_neg (by have:=HL.out; omega)]
   have hML:M - 1=L:=HL.out.symm
   have q1:wr.cell? ⟨w.heap.size,1,none⟩=some (.int .i64 (M:Nat)):=cellS HKB.out (HRF.out.cell (i:=1) (by omega))
   obtain ⟨w1,hw1⟩:∃ X,X=wr:=⟨_,rfl⟩
   rw [<-hw1] at HKB row t0 q1 ⊢;clear hw1
   go_wp2
   refine wp_region_held_drew (S:=fun w'=>w'.cell? ⟨w.heap.size,1,none⟩=some (.int .i64 (M:Nat))) (by kernel_rfl) (cellS (Below.refl _ _).drew (q1)) (fun hHeld=>?_)
   obtain ⟨w2,hw⟩:∃ W,W=World.drew w1:=⟨_,rfl⟩
   have kb:Below w1.heap.size w1 w2:=by rw [hw]; exact (Below.refl _ _).drew
   rw [<-hw] at hHeld ⊢;clear hw;replace row:=zaa row kb;replace q1:=cellS kb q1
   have HKB2:=hid (onS HKB.out kb)
   clear kb
   refine tkq 0 (h:=tkq 1 (h:=tkq 2 (h:=tkq 3 (h:=tkq 4 (h:=tkq 5 (h:=tkq 6 (h:=?_)))))))
   refine rdq 7 (h:=fun K hK=>?_)
   have row2:=row
   obtain ⟨cs,c1,c2,c3⟩:=row
   have HG1:Hid (w2.heap[g]?=some (.cells cs.toList.toArray 3 (0,0))):=by show _=_; simpa using c1
   have HPOS:Hid (0<((List.range L).map fun t=>Value.int .i64 (o t:Nat)).length->dp=some ⟨g,1,none⟩/\∃ ad,(some ⟨g,0,none⟩:Option Addr)=some ad/\∀ j v,((List.range L).map fun t=>Value.int .i64 (o t:Nat))[j]?=some v->w2.cell? (ad.add j)=some v):=fun h=>by
    refine ⟨HDP.out (by simpa using h),⟨g,0,none⟩,rfl,fun j v hv=>?_⟩
    rw [List.getElem?_map] at hv
    obtain ⟨t,ht,e⟩:=Option.map_eq_some_iff.1 hv
    obtain ⟨h1,h2⟩:=List.getElem?_eq_some_iff.1 ht
    rw [List.getElem_range] at h2
    subst h2 e
    rw [zbh,Nat.zero_add]
    exact row2.cell (by simp at h1; omega)
   have HLEN:Hid (((List.range L).map fun t=>Value.int .i64 (o t:Nat)).length=Nat.min L L):=by show _=_; simp
   have HFIT:Hid (1+((List.range L).map fun t=>Value.int .i64 (o t:Nat)).length<=cs.toList.length):=by show _<=_; simp; omega
   have HONE:Hid (∀ v ∈ (List.range L).map fun t=>Value.int .i64 (o t:Nat),v.oneCell'=true):=fun v hv=>by
    obtain ⟨t,_,rfl⟩:=List.mem_map.1 hv
    rfl
   refine step_copy_splice (cur:=cs.toList) (cs:=(List.range L).map fun t=>Value.int .i64 (o t:Nat)) (B:=wA.heap.size) (w0:=wA) (by rfl) (.tmp 43) (.tmp 48) 22 22 (by rfl) 3 Tryz.underlying22 HSZ1.out dp (some ⟨g,0,none⟩) L L L M (by rfl) (by rfl) g 1 3 HG1.out HLEN.out HPOS.out HFIT.out HONE.out HKB2.out hgA ?_
   intro w3 hg3 hb3
   have row:=zgu (F:=fun t=>.int .i64 (o t:Nat)) c2 (fun i hi=>c3 i hi) (show L+1=M by omega) hg3.out
   clear hg3 row2 c1 c2 c3 HG1 HPOS HLEN HFIT HONE
   have q19:w3.cell? ⟨w.heap.size,1,none⟩=some (.int .i64 (M:Nat)):=cellS hb3 (HRF.out.cell (i:=1) (by omega))
   clear q1
   have q1:=q19
   clear q19
   refine bkq hK q1 (h:=fun hHeld=>?_)
   clear hK K
   refine wpAnyH_done (by kernel_rfl) ?_ _
   clear hHeld
   obtain ⟨w4,hw4⟩:∃ X,X=w3:=⟨_,rfl⟩
   rw [<-hw4] at row hb3 ⊢;clear hw4
   have y0:=row.cell (i:=0) (by omega)
   have z0:=row.frozen 0
   have HROW4:=hid ((row.set 0 (.int .i64 0)).congr (g:=fun j=>.int .i64 (if j=0 then 0 else o (j - 1):Nat)) fun j _=>by
    by_cases e:j=0
    ·subst e; rfl
    ·rw [if_neg e,if_neg e,if_neg e])
   have HB4:=hid (hb3.setCell (p:=⟨g,0,none⟩) hgA (.int .i64 0))
   clear row hb3 q1
   have hM0:(0:Int)<(M:Int):=by omega
   go_wp2
   clear y0 z0
   obtain ⟨w5,hw5⟩:∃ X,X=w4.setCell ⟨g,0,none⟩ (.int .i64 0):=⟨_,rfl⟩
   rw [<-hw5] at HROW4 HB4 ⊢;clear hw5
   have HROW5:=hid (HROW4.out.congr (g:=fun t=>.int .i64 (if t<0 then hStep P M m (dig P x) (dig P y i) o t else if t=0 then 0 else o (t - 1):Nat)) fun _ _=>rfl)
   clear HROW4
   go_loopg [12,13,54] M (fun gg _ _ jv wx=>∃ j:Nat,jv=.int .i64 (j:Nat)/\j<=M/\M<=j+gg/\Hid (wx.rowIs g 3 M (fun t=>.int .i64 (if t<j then hStep P M m (dig P x) (dig P y i) o t else if t=0 then 0 else o (t - 1):Nat)))/\Hid (Below wA.heap.size wA wx))
   case atStart=>exact ⟨0,rfl,by omega,by omega,HROW5,HB4⟩
   case round =>
    clear HROW5 HB4
    obtain ⟨j,rfl,hj,hjg,HROW5,HB5⟩:=hrel
    by_cases hjl:j<M
    ·have hjl':(j:Int)<(M:Int):=by omega
     have hj0:(0:Int)<=(j:Int):=by omega
     have e0:=HROW5.out.cell hjl
     rw [if_neg (by omega)] at e0
     have z0:=HROW5.out.frozen j
     obtain ⟨v,hv⟩:∃ v,v=if j=0 then 0 else o (j - 1):=⟨_,rfl⟩
     rw [<-hv] at e0
     have hvP:v<P:=by
      rw [hv]
      split
      ·exact hP0
      ·exact HOL.out _
     have f0:wr.cell? ⟨ga,j,none⟩=some (.int .i64 (dig P x j:Nat)):=cellS HB5.out (HRA.out.cell hjl)
     have f1:wr.cell? ⟨gb,i,none⟩=some (.int .i64 (dig P y i:Nat)):=cellS HB5.out (HRB.out.cell hiM)
     obtain ⟨da,hda⟩:∃ d,d=dig P x j:=⟨_,rfl⟩
     obtain ⟨db,hdb⟩:∃ d,d=dig P y i:=⟨_,rfl⟩
     rw [<-hda] at f0;rw [<-hdb] at f1
     have hdaP:da<P:=by rw [hda]; exact zbF hP0 _ _
     have hdbP:db<P:=by rw [hdb]; exact zbF hP0 _ _
     have q0:wr.cell? ⟨w.heap.size,0,none⟩=some (.int .i64 (P:Nat)):=cellS HB5.out (HRF.out.cell (i:=0) (by omega))
     have q1:wr.cell? ⟨w.heap.size,1,none⟩=some (.int .i64 (M:Nat)):=cellS HB5.out (HRF.out.cell (i:=1) (by omega))
     have q2:wr.cell? ⟨w.heap.size,2,none⟩=some (.slice A k c):=cellS HB5.out (HRF.out.cell (i:=2) (by omega))
     have HV:=hid hv
     have HDA:=hid hda
     have HDB:=hid hdb
     clear hv hda hdb
     by_cases hM2:1<M
     ·have hM2':(M:Int) > 1:=by omega
      rcases hm with hm | ⟨hmr,hml⟩
      ·omega
      obtain rfl:M=k:=(hkM.resolve_left (by omega)).symm
      obtain ⟨mb,mo,hA,hmb,f2⟩:=hmr.at hjl
      subst hA
      obtain ⟨lo,hlo⟩:∃ l,l=m j:=⟨_,rfl⟩
      rw [<-hlo] at f2
      have hloP:lo<P:=by rw [hlo]; exact hml j hjl
      have HLO:=hid hlo
      have f29:=((onS HBA.out HB5.out).cell (p:=⟨mb,mo+j,none⟩) hmb).trans f2
      clear hlo f2 hmr hml
      obtain ⟨z,hz⟩:∃ z,z=v+(P - tp)*lo+db*da:=⟨_,rfl⟩
      obtain ⟨r,hr⟩:∃ r,r=z % P:=⟨_,rfl⟩
      have hrP:r<P:=by rw [hr]; exact Nat.mod_lt _ hP0
      have HRR:Hid (r=hStep P M m (dig P x) (dig P y i) o j):=by
       show _=_
       rw [hr,hz,HV.out,HDA.out,HDB.out,HTP.out,HL.out,HLO.out]
       unfold hStep
       rw [if_pos hM2]
      obtain ⟨R2,hR2⟩:∃ R,R=db*da:=⟨_,rfl⟩
      have hR2l:R2<=256*256:=by rw [hR2]; exact Nat.mul_le_mul (by omega) (by omega)
      have hm2:(db:Int)*(da:Int)=(R2:Int):=by rw [hR2]; simp
      obtain ⟨D1,hD1⟩:∃ D,D=P - tp:=⟨_,rfl⟩
      have hD1l:D1<=256:=by omega
      have hd1:(P:Int) - (tp:Int)=(D1:Int):=by omega
      obtain ⟨R1,hR1⟩:∃ R,R=D1*lo:=⟨_,rfl⟩
      have hR1l:R1<=256*256:=by rw [hR1]; exact Nat.mul_le_mul hD1l (by omega)
      have hm1:(D1:Int)*(lo:Int)=(R1:Int):=by rw [hR1]; simp
      obtain ⟨S1,hS1⟩:∃ S,S=v+R1:=⟨_,rfl⟩
      have hs1:(v:Int)+(R1:Int)=(S1:Int):=by omega
      have hw1:IntKind.i64.wrap (D1:Int)=(D1:Int):=IntWalk.i64_in _ (by omega)
      have hw2:IntKind.i64.wrap (R1:Int)=(R1:Int):=IntWalk.i64_in _ (by omega)
      have hw3:IntKind.i64.wrap (S1:Int)=(S1:Int):=IntWalk.i64_in _ (by omega)
      have hzz:z=S1+R2:=by rw [hz,hS1,hR1,hD1,hR2]
      have hs2:(S1:Int)+(R2:Int)=(z:Int):=by omega
      have hw4:IntKind.i64.wrap (R2:Int)=(R2:Int):=IntWalk.i64_in _ (by omega)
      have hw5:IntKind.i64.wrap (z:Int)=(z:Int):=IntWalk.i64_in _ (by omega)
      have hw6:IntKind.i64.wrap (r:Int)=(r:Int):=IntWalk.i64_in _ (by omega)
      have hrem:(z:Int) % (P:Int)=(r:Int):=by rw [hr]; simp
      have hz0:(0:Int)<=(z:Int):=by omega
      have hP0':¬ (P:Int)=0:=by omega
      have hPn:¬ P=0:=by omega
      have htm:(z:Int).tmod (P:Int)=(r:Int):=by rw [Int.tmod_eq_emod_of_nonneg hz0,hrem]
      have HRN:=hid ((HROW5.out.set j (.int .i64 (r:Nat))).congr (g:=fun t=>.int .i64 (if t<j+1 then hStep P M m (dig P x) (dig P y i) o t else if t=0 then 0 else o (t - 1):Nat)) fun t _=>by
       by_cases e:t=j
       ·subst e; rw [if_pos rfl,if_pos (by omega),HRR.out]
       ·rw [if_neg e]
        by_cases e2:t<j
        ·rw [if_pos e2,if_pos (show t<j+1 by omega)]
        ·rw [if_neg e2,if_neg (show ¬ t<j+1 by omega)])
      have HBN:=hid (HB5.out.setCell (p:=⟨g,j,none⟩) hgA (.int .i64 (r:Nat)))
      clear hz hr hR2 hzz HROW5 HB5 hD1 hR1 hS1
      go_wp2
      go_still_tail 27,(by kernel_rfl)
      change wpList _ _ _ _ _ wr.drew
      go_wp2
      go_roundg (gk - 1)
      case measure=>omega
      case rel=>exact ⟨j+1,by go_num,by omega,by omega,hid (show World.rowIs _ _ _ _ _ from HRN.out),hid (drewSet HBN.out)⟩
     ·have hM2':¬ (M:Int) > 1:=by omega
      obtain ⟨z,hz⟩:∃ z,z=v+(P - tp)*0+db*da:=⟨_,rfl⟩
      obtain ⟨r,hr⟩:∃ r,r=z % P:=⟨_,rfl⟩
      have hrP:r<P:=by rw [hr]; exact Nat.mod_lt _ hP0
      have HRR:Hid (r=hStep P M m (dig P x) (dig P y i) o j):=by
       show _=_
       rw [hr,hz,HV.out,HDA.out,HDB.out,HTP.out,HL.out]
       unfold hStep
       rw [if_neg (show ¬ 1<M by omega)]
      obtain ⟨R2,hR2⟩:∃ R,R=db*da:=⟨_,rfl⟩
      have hR2l:R2<=256*256:=by rw [hR2]; exact Nat.mul_le_mul (by omega) (by omega)
      have hm2:(db:Int)*(da:Int)=(R2:Int):=by rw [hR2]; simp
      have hw3:IntKind.i64.wrap (v:Int)=(v:Int):=IntWalk.i64_in _ (by omega)
      have hw1:IntKind.i64.wrap ((P:Int) - (tp:Int))=(P:Int) - (tp:Int):=IntWalk.i64_in _ (by omega)
      have hzz:z=v+R2:=by rw [hz,hR2,Nat.mul_zero,Nat.add_zero]
      have hs2:(v:Int)+(R2:Int)=(z:Int):=by omega
      have hw4:IntKind.i64.wrap (R2:Int)=(R2:Int):=IntWalk.i64_in _ (by omega)
      have hw5:IntKind.i64.wrap (z:Int)=(z:Int):=IntWalk.i64_in _ (by omega)
      have hw6:IntKind.i64.wrap (r:Int)=(r:Int):=IntWalk.i64_in _ (by omega)
      have hrem:(z:Int) % (P:Int)=(r:Int):=by rw [hr]; simp
      have hz0:(0:Int)<=(z:Int):=by omega
      have hP0':¬ (P:Int)=0:=by omega
      have hPn:¬ P=0:=by omega
      have htm:(z:Int).tmod (P:Int)=(r:Int):=by rw [Int.tmod_eq_emod_of_nonneg hz0,hrem]
      have HRN:=hid ((HROW5.out.set j (.int .i64 (r:Nat))).congr (g:=fun t=>.int .i64 (if t<j+1 then hStep P M m (dig P x) (dig P y i) o t else if t=0 then 0 else o (t - 1):Nat)) fun t _=>by
       by_cases e:t=j
       ·subst e; rw [if_pos rfl,if_pos (by omega),HRR.out]
       ·rw [if_neg e]
        by_cases e2:t<j
        ·rw [if_pos e2,if_pos (show t<j+1 by omega)]
        ·rw [if_neg e2,if_neg (show ¬ t<j+1 by omega)])
      have HBN:=hid (HB5.out.setCell (p:=⟨g,j,none⟩) hgA (.int .i64 (r:Nat)))
      clear hz hr hR2 hzz HROW5 HB5 
      go_wp2
      go_still_tail 27,(by kernel_rfl)
      change wpList _ _ _ _ _ wr.drew
      go_wp2
      go_roundg (gk - 1)
      case measure=>omega
      case rel=>exact ⟨j+1,by go_num,by omega,by omega,hid (show World.rowIs _ _ _ _ _ from HRN.out),hid (drewSet HBN.out)⟩
    ·have hjl':¬ (j:Int)<(M:Int):=by omega
     obtain rfl:j=M:=by omega
     have HRN:=hid (HROW5.out.congr (g:=fun t=>.int .i64 (hOut P j m (dig P x) (dig P y) (s+1) t:Nat)) fun t ht=>by rw [if_pos ht,HNX.out])
     clear HROW5
     go_wp2
     go_roundg (gO - 1)
     case measure=>omega
     case rel=>exact ⟨s+1,by have:=HIE.out; go_num,by omega,by omega,HRN,HB5⟩
  ·have hneg:¬ ((M:Int) - 1 - (s:Int)) ≥ 0:=by omega
   obtain rfl:s=M:=by omega
   have hri:=rowInts (f:=hOut P s m (dig P x) (dig P y) s) HROW.out
   have HRI:=hid hri
   have HLT:Hid (∀ i,i<s->hOut P s m (dig P x) (dig P y) s i<P):=fun i _=>zdH hP0 s i
   have hBf:=onS HBA.out HKB.out
   have q0:wr.cell? ⟨w.heap.size,0,none⟩=some (.int .i64 (P:Nat)):=cellS HKB.out (HRF.out.cell (i:=0) (by omega))
   clear hri HROW
   go_wp2_with fail
   refine (ze5 P (some ⟨g,0,none⟩) s s _ wr hP2 hP6 HRI.out HLT (HQ.out) hM8).mono ?_
   rintro e w9 ⟨rfl,kb⟩
   rw [HEQ.out]
   have hB9:=onS hBf kb
   clear kb q0 hBf
   obtain ⟨V,hV⟩:∃ V,V=mulF P s m x y:=⟨_,rfl⟩
   rw [<-hV]
   have HVV:=hid hV
   clear hV HEQ
   go_wp2
   go_ret
   exact ⟨by rw [HVV.out]; rfl,hB9⟩
theorem zaH {w:World} {base g m n s:Nat} {t e:TypeId} {F:Nat->Value} {v:Value} {f:Nat->Nat->Value} (hr:w.rowIs g t m F) (h:Own w base e s v n f) (hne:t≠e):v.ownBlock=none∨v.ownBlock≠some g:=by
 rcases h with ⟨rfl,_⟩ | ⟨b,o,cap,cur,rfl,_,hg,_⟩
 ·exact .inl rfl
 ·refine .inr fun e1=>?_
  obtain ⟨cs,h1,_⟩:=hr
  simp [Value.ownBlock] at e1
  subst e1
  rw [hg] at h1
  injection h1 with h1
  injection h1 with _ h1
  exact hne h1.symm
def pwG (mul:Nat->Nat->Nat) (x:Nat):Nat->Nat
 | 0=>1
 | 1=>x
 | n+2=>mul (pwG mul x (n+1)) x
theorem zhs (mul:Nat->Nat->Nat) (x:Nat) {n:Nat} (h:1<=n):pwG mul x (n+1)=mul (pwG mul x n) x:=by
 obtain ⟨k,rfl⟩:∃ k,n=k+1:=⟨n - 1,by omega⟩
 rfl
def seenB (p:Nat->Nat):Nat->Nat->Bool
 | 0,_=>false
 | n+1,t=>if t=p n then true else seenB p n t
theorem zdb (p:Nat->Nat) (t:Nat):∀ n,seenB p n t=true↔∃ i,i<n/\p i=t
 | 0=>⟨(fun h=>by cases h),(fun ⟨i,hi,_⟩=>by omega)⟩
 | n + 1 => by
  have ih:=zdb p t n
  show (if t=p n then true else seenB p n t)=true↔_
  by_cases e:t=p n
  ·rw [if_pos e]
   exact ⟨fun _=>⟨n,by omega,e.symm⟩,fun _=>rfl⟩
  ·rw [if_neg e,ih]
   constructor
   ·rintro ⟨i,hi,h⟩; exact ⟨i,by omega,h⟩
   ·rintro ⟨i,hi,h⟩
    by_cases e2:i=n
    ·subst e2; exact absurd h.symm e
    ·exact ⟨i,by omega,h⟩
structure PwOk (q:Nat) (p:Nat->Nat) (n:Nat):Prop where
 ne:∀ i,i<n->p i≠0
 lt:∀ i,i<n->p i<q
 inj:∀ i j,i<j->j<n->p i≠p j
theorem PwOk.le {q n:Nat} {p:Nat->Nat} (h:PwOk q p n) (hq:1<=q):n<=q - 1 :=
 pigeon (f:=fun i=>p i - 1) (fun i hi=>by have:=h.ne i hi; have:=h.lt i hi; show p i - 1<q - 1; omega) fun i k hi hk e=>by
  have:=h.ne i hi
  have:=h.ne k hk
  have e2:p i=p k:=by have e':p i - 1=p k - 1:=e; omega
  rcases Nat.lt_trichotomy i k with h1 | h1 | h1
  ·exact absurd e2 (h.inj i k h1 hk)
  ·exact h1
  ·exact absurd e2.symm (h.inj k i h1 hi)
theorem PwOk.next {q n:Nat} {p:Nat->Nat} (h:PwOk q p n) (h1:p n≠0) (h2:p n<q) (h3:seenB p n (p n)=false):PwOk q p (n+1):=by
 have hs:∀ i,i<n->p i≠p n:=fun i hi e=>by
  have:=(zdb p (p n) n).2 ⟨i,hi,e⟩
  rw [h3] at this
  cases this
 refine ⟨fun i hi=>?_,fun i hi=>?_,fun i j hij hj=>?_⟩
 ·by_cases e:i=n
  ·subst e; exact h1
  ·exact h.ne i (by omega)
 ·by_cases e:i=n
  ·subst e; exact h2
  ·exact h.lt i (by omega)
 ·by_cases e:j=n
  ·subst e; exact hs i hij
  ·exact h.inj i j hij (by omega)
def PowersPost (q:Nat) (p:Nat->Nat) (w:World) (e:Ending) (w':World):Prop :=
 ∃ lv L,e=.returned lv/\1<=L/\Own w' w.heap.size 3 1 lv L (fun i _=>.int .i64 (p i:Nat))/\Below w.heap.size w w'/\PwOk q p L/\(p L=0∨seenB p L (p L)=true)
theorem zfK (P M:Nat) (A:Option Addr) (k c:Nat) (m:Nat->Nat) (q x:Nat) (w:World) (hf:FldOk P M) (hm:ModOk w P M A m) (hkM:M=1∨k=M) (hq:q=P ^ M) (hx1:1<=x) (hx:x<q) :
    Calls Tryz.prog 211 #[.agg #[.int .i64 (P:Nat),.int .i64 (M:Nat),.slice A k c],.int .i64 (q:Nat),.int .i64 (x:Nat)] w (PowersPost q (pwG (mulF P M m) x) w):=by
  have hP0:0<P:=by have:=hf.1; omega
  have hq6:q<=256:=by rw [hq]; exact hf.2.2.2
  have hq2:2<=q:=by omega
  have HMUL:Hid (∀ a,mulF P M m a x<q):=fun a=>by rw [hq]; exact zaP hP0 a x
  have HQ:=hid hq
  clear hq
  have hB:Below w.heap.size w (w.alloc (.cells #[.int .i64 (P:Nat),.int .i64 (M:Nat),.slice A k c] 24)):=(Below.refl _ _).alloc (Nat.le_refl _) _
  have rf:=zad (w:=w) (a:=.int .i64 (P:Nat)) (b:=.int .i64 (M:Nat)) (c:=.slice A k c) (T := 24)
  obtain ⟨w0,hw0⟩:∃ W,W=w.alloc (.cells #[.int .i64 (P:Nat),.int .i64 (M:Nat),.slice A k c] 24):=⟨_,rfl⟩
  rw [<-hw0] at hB rf
  have hmk:=fun W=>zag (P:=Tryz.prog) 66 4 _ 1 Tryz.underlying66 Tryz.infoBool rfl (q:Int) (by omega) (by omega) (by omega) W
  simp only [Int.toNat_natCast] at hmk
  go_enter Tryz.func211, Tryz.ntmps211
  go_upto_region 1 with fail
  rw [<-hw0];clear hw0
  have hfl:=rf.lt
  go_upto_region 2 with fail
  have kb:=(Below.refl w0.heap.size w0).alloc (Nat.le_refl _) (Obj.cells #[Value.int .i64 1] 3)
  have r1:(w0.alloc (Obj.cells #[Value.int .i64 1] 3)).rowIs w0.heap.size 3 1 (fun i=>.int .i64 (pwG (mulF P M m) x i:Nat)):=⟨_,zat rfl,rfl,fun i hi=>by
    obtain rfl:i=0:=by omega
    rfl⟩
  have hO:=zax r1 (show w.heap.size+1<=w0.heap.size from hfl) (by unfold maxLen; omega)
  obtain ⟨w1,hw1⟩:∃ W,W=w0.alloc (Obj.cells #[Value.int .i64 1] 3):=⟨_,rfl⟩
  obtain ⟨b1,hb1⟩:∃ b,b=w0.heap.size:=⟨_,rfl⟩
  rw [<-hw1] at kb hO ⊢;rw [<-hb1] at hO ⊢;replace rf:=zaa rf kb;replace hB:=onS hB kb
  have hfl1:=rf.lt
  clear kb r1 hw1 hb1 hfl
  go_upto_region 3 with fail
  have kb:=(Below.refl w1.heap.size w1).alloc (Nat.le_refl _) (Obj.cells (madeCells #[Value.bool false] q) 4)
  have rs:=World.rowIs_made w1 (.bool false) q 4
  obtain ⟨w2,hw2⟩:∃ W,W=w1.alloc (Obj.cells (madeCells #[Value.bool false] q) 4):=⟨_,rfl⟩
  obtain ⟨g,hg⟩:∃ b,b=w1.heap.size:=⟨_,rfl⟩
  rw [<-hw2] at kb rs ⊢;rw [<-hg] at rs ⊢
  have hgB:w.heap.size+1<=g:=by omega
  replace rf:=zaa rf kb;replace hB:=onS hB kb;replace hO:=hO.on kb;clear kb hw2 hg hmk hfl1
  have y0:=rs.cell (i:=1) (by omega)
  have z0:=rs.frozen 1
  have hq1':(1:Int)<(q:Int):=by omega
  have HRS:=hid ((rs.set 1 (.bool true)).congr (g:=fun t=>.bool (seenB (pwG (mulF P M m) x) 1 t)) fun t _=>by
    show (if t=1 then Value.bool true else .bool false)=.bool (if t=1 then true else false)
    split <;> rfl)
  have HRF:=hid (rf.setOther (a:=⟨g,1,none⟩) (by simp; omega) (.bool true))
  have HB2:=hid (hB.setCell (p:=⟨g,1,none⟩) (by show w.heap.size<=g; omega) (.bool true))
  have HO2:=hid (hO.setCell (a:=⟨g,1,none⟩) (fun e=>(zaH rs hO (by decide)).elim (fun h=>by rw [h] at e; cases e) fun h=>h e) (.bool true))
  clear rs rf hB hO
  go_wp2
  clear y0 z0
  obtain ⟨w3,hw3⟩:∃ W,W=w2.setCell ⟨g,1,none⟩ (.bool true):=⟨_,rfl⟩
  rw [<-hw3] at HRS HRF HB2 HO2 ⊢;clear hw3
  obtain ⟨p,hp⟩:∃ p,p=pwG (mulF P M m) x:=⟨_,rfl⟩
  have hp1:p 1=x:=by rw [hp]; rfl
  have hpn:∀ n,1<=n->p (n+1)=mulF P M m (p n) x:=fun n hn=>by rw [hp]; exact zhs _ _ hn
  have hok:PwOk q p 1:=by
    rw [hp]
    exact ⟨fun i hi => by obtain rfl : i = 0 := by omega
                          exact Nat.one_ne_zero, fun i hi => by obtain rfl : i = 0 := by omega
                                                                exact hq2,fun i j h1 h2=>by omega⟩
  rw [<-hp] at HRS HO2 ⊢
  have HPN:=hid hpn
  have HOK:=hid hok
  have HP1:=hid hp1
  have HPE:=hid hp
  clear hp hp1 hpn hok
  go_loopg [7,9] q (fun gg ov yv wx=>∃ L y:Nat,yv=.int .i64 (y:Nat)/\1<=L/\L<q/\q<=L+gg/\y<q/\Hid (y=p L)/\Hid (PwOk q p L)/\Hid (Own wx (w.heap.size+1) 3 1 ov L (fun i _=>.int .i64 (p i:Nat)))/\Hid (wx.rowIs g 4 q (fun t=>.bool (seenB p L t)))/\Hid (wx.rowIs w.heap.size 24 3 (fldCell (.int .i64 (P:Nat)) (.int .i64 (M:Nat)) (.slice A k c)))/\Hid (Below w.heap.size w wx))
  case atStart=>exact ⟨1,x,rfl,by omega,by omega,by omega,hx,HP1.out.symm,HOK,HO2,HRS,HRF,HB2⟩
  case round =>
    clear HO2 HRS HRF HB2 HOK
    obtain ⟨L,y,rfl,hL1,hLq,hgk,hyq,HY,HOK,HO,HRS,HRF,HBB⟩:=hrel
    have hy0:(0:Int)<=(y:Int):=by omega
    have hyq':(y:Int)<(q:Int):=by omega
    by_cases hyz:y=0
    · have hz:((y:Int) != 0)=false:=by simp [hyz]
      have HEND:Hid (p L=0∨seenB p L (p L)=true):=.inl (by rw [<-HY.out]; exact hyz)
      clear hyz
      go_wp2
      go_ret
      have e:=HPE.out
      subst e
      exact ⟨_,L,rfl,hL1,HO.out.mono (Nat.le_succ _),HBB.out,HOK.out,HEND.out⟩
    · have hz:((y:Int) != 0)=true:=by simp; omega
      have s0:=HRS.out.cell (i:=y) hyq
      obtain ⟨sb,hsb⟩:∃ b,b=seenB p L y:=⟨_,rfl⟩
      rw [<-hsb] at s0
      have HSB:=hid hsb
      have HYZ:=hid hyz
      clear hsb hyz
      cases sb
      · have HOK2:=hid (HOK.out.next (by rw [<-HY.out]; exact HYZ.out) (by rw [<-HY.out]; exact hyq) (by rw [<-HY.out]; exact HSB.out.symm))
        have hLq2:L+1<q:=by have:=HOK2.out.le (by omega); omega
        have z0:=HRS.out.frozen y
        have rs:=HRS.out.set y (.bool true)
        have HRS2:=hid (rs.congr (g:=fun t=>.bool (seenB p (L+1) t)) fun t _=>by
          show (if t=y then Value.bool true else .bool (seenB p L t))=.bool (if t=p L then true else seenB p L t)
          rw [<-HY.out]
          split <;> rfl)
        have HRF2:=hid (HRF.out.setOther (a:=⟨g,y,none⟩) (by simp; omega) (.bool true))
        have HBB2:=hid (HBB.out.setCell (p:=⟨g,y,none⟩) (by show w.heap.size<=g; omega) (.bool true))
        have HO2:=hid (HO.out.setCell (a:=⟨g,y,none⟩) (fun e=>(zaH HRS.out HO.out (by decide)).elim (fun h=>by rw [h] at e; cases e) fun h=>h e) (.bool true))
        clear rs HRS HRF HBB HO
        go_upto_region 8 with fail
        clear z0 s0
        obtain ⟨w4,hw4⟩:∃ W,W=wr.setCell ⟨g,y,none⟩ (.bool true):=⟨_,rfl⟩
        rw [<-hw4] at HRS2 HRF2 HBB2 HO2 ⊢;clear hw4
        have kb:=(Below.refl w4.heap.size w4).alloc (Nat.le_refl _) (Obj.cells #[Value.int .i64 (y:Nat)] 3)
        have HO8:=hid (HO2.out.on kb)
        have HRS8:=hid (zaa HRS2.out kb)
        have HRF8:=hid (zaa HRF2.out kb)
        have HB8:=hid (onS HBB2.out kb)
        have HC8:Hid ((w4.alloc (Obj.cells #[Value.int .i64 (y:Nat)] 3)).cell? ((⟨w4.heap.size,0,none⟩:Addr).add 0)=some (.int .i64 (y:Nat))):=tbox2
        have HZ8:Hid (w.heap.size+1<=(w4.alloc (Obj.cells #[Value.int .i64 (y:Nat)] 3)).heap.size):=HRF8.out.lt
        have HLL:Hid (L<=1048576):=by show _<=_; omega
        clear kb HO2 HRS2 HRF2 HBB2
        go_upto_region 6 with (first | (at_builtin; (refine zaE rfl (.tmp 32) (.tmp 34) rfl HO8.out rfl (ad:=⟨w4.heap.size,0,none⟩) (c:=1) rfl HC8.out HZ8.out HLL.out ?_); intro v9 w9 o1 o2 o3))
        have HO9:=hid (o1.congr (f':=fun i _=>.int .i64 (p i:Nat)) fun i _ _ _=>by
          by_cases e:i=L
          · subst e; rw [if_pos rfl,HY.out]
          · rw [if_neg e])
        have HRS9:=hid (HRS8.out.of_block (o2.block _ HRS8.out.lt fun e=>(zaH HRS8.out HO8.out (by decide)).elim (fun h=>by rw [h] at e; cases e) fun h=>h e.symm))
        have HRF9:=hid (HRF8.out.of_block (o2.block _ HRF8.out.lt fun e=>by have:=(HO8.out.lt _ e.symm).1; omega))
        have HB9:=hid (HB8.out.grown o2 (Nat.le_of_succ_le HZ8.out) fun q e=>by have:=(HO8.out.lt q e).1; omega)
        clear o1 o2 o3 HO8 HRS8 HRF8 HB8 HC8 HZ8
        have q0:=qc0 HRF9.out
        have q1:=qc1 HRF9.out
        have q2:=qc2 HRF9.out
        go_wp2_with fail
        refine (zcu P M A k c m y x w9 hf (zar hm HB9.out) hkM (by rw [<-HQ.out]; exact hyq) (by rw [<-HQ.out]; exact hx)).mono ?_
        rintro e w10 ⟨rfl,kb⟩
        obtain ⟨y',hy'⟩:∃ y',y'=mulF P M m y x:=⟨_,rfl⟩
        rw [<-hy']
        have hyq2:y'<q:=by rw [hy']; exact HMUL.out y
        have HY2:Hid (y'=p (L+1)):=by show _=_; rw [hy',HPN.out L hL1,<-HY.out]
        have HO10:=hid (HO9.out.on kb)
        have HRS10:=hid (zaa HRS9.out kb)
        have HRF10:=hid (zaa HRF9.out kb)
        have HB10:=hid (onS HB9.out kb)
        clear kb q0 q1 q2 hy' HO9 HRS9 HRF9 HB9
        go_wp2
        go_roundg (gk - 1)
        case measure=>omega
        case rel=>exact ⟨L+1,y',rfl,by omega,hLq2,by omega,hyq2,HY2,HOK2,HO10,HRS10,HRF10,HB10⟩
      · have HEND:Hid (p L=0∨seenB p L (p L)=true):=.inr (by rw [<-HY.out]; exact HSB.out.symm)
        go_wp2
        go_ret
        have e:=HPE.out
        subst e
        exact ⟨_,L,rfl,hL1,HO.out.mono (Nat.le_succ _),HBB.out,HOK.out,HEND.out⟩
def GenX (q:Nat) (mul:Nat->Nat->Nat) (x:Nat):Prop:=PwOk q (pwG mul x) (q - 1)/\mul (pwG mul x (q - 2)) x=1
theorem zfL {q L:Nat} {p:Nat->Nat} (hq:1<=q) (h:PwOk q p L) (hs:p L=0∨seenB p L (p L)=true) (hg:PwOk q p (q - 1)):L=q - 1:=by
 have h1:=h.le hq
 refine Classical.byContradiction fun hne=>?_
 have hlt:L<q - 1:=by omega
 rcases hs with hs | hs
 ·exact hg.ne L hlt hs
 ·obtain ⟨i,hi,e⟩:=(zdb p (p L) L).1 hs
  exact hg.inj i L hi hlt e
def GenrPost (q:Nat) (mul:Nat->Nat->Nat) (w:World) (e:Ending) (w':World):Prop :=
 Below w.heap.size w w'/\((e=.returned (.slice none 0 0)/\∀ x,1<=x->x<q->¬ GenX q mul x) ∨
  ∃ lv x,e=.returned lv/\1<=x/\x<q/\GenX q mul x/\Own w' w.heap.size 3 1 lv (q - 1) (fun i _=>.int .i64 (pwG mul x i:Nat)))
theorem zb2 (P M:Nat) (A:Option Addr) (k c:Nat) (m:Nat->Nat) (q:Nat) (w:World) (hf:FldOk P M) (hm:ModOk w P M A m) (hkM:M=1∨k=M) (hq:q=P ^ M) :
  Calls Tryz.prog 147 #[.agg #[.int .i64 (P:Nat),.int .i64 (M:Nat),.slice A k c],.int .i64 (q:Nat)] w (GenrPost q (mulF P M m) w):=by
 have hP0:0<P:=by have:=hf.1; omega
 have hq6:q<=256:=by rw [hq]; exact hf.2.2.2
 have hq2:2<=q:=by
  have h1:=hf.1
  have h2:=Nat.pow_le_pow_right hP0 hf.2.1
  rw [Nat.pow_one] at h2
  omega
 obtain ⟨Q1,hQ1⟩:∃ x,x=q - 1:=⟨_,rfl⟩
 obtain ⟨Q2,hQ2⟩:∃ x,x=q - 2:=⟨_,rfl⟩
 have hQ1i:(q:Int) - 1=(Q1:Int):=by omega
 have hQ2i:(q:Int) - 2=(Q2:Int):=by omega
 have hQ21:Q2<Q1:=by omega
 have HQ1:=hid hQ1
 have HQ2:=hid hQ2
 have HQ:=hid hq
 clear hq hQ1 hQ2
 have hB:Below w.heap.size w (w.alloc (.cells #[.int .i64 (P:Nat),.int .i64 (M:Nat),.slice A k c] 24)):=(Below.refl _ _).alloc (Nat.le_refl _) _
 have rf:=zad (w:=w) (a:=.int .i64 (P:Nat)) (b:=.int .i64 (M:Nat)) (c:=.slice A k c) (T := 24)
 obtain ⟨w0,hw0⟩:∃ W,W=w.alloc (.cells #[.int .i64 (P:Nat),.int .i64 (M:Nat),.slice A k c] 24):=⟨_,rfl⟩
 rw [<-hw0] at hB rf
 go_enter Tryz.func147, Tryz.ntmps147
 go_upto_region 1 with fail
 rw [<-hw0];clear hw0
 go_wp2
 go_loopg [5,6] q (fun gg xv _ wx=>∃ x:Nat,xv=.int .i64 (x:Nat)/\1<=x/\x<=q/\q<=x+gg/\Hid (∀ y,1<=y->y<x->¬ GenX q (mulF P M m) y)/\wx.rowIs w.heap.size 24 3 (fldCell (.int .i64 (P:Nat)) (.int .i64 (M:Nat)) (.slice A k c))/\Below w.heap.size w wx)
 case atStart=>exact ⟨1,rfl,by omega,by omega,by omega,fun y h1 h2=>absurd h1 (by omega),rf,hB⟩
 case round =>
  clear rf hB
  obtain ⟨x,rfl,hx1,hxq,hxg,HNO,rf,hB⟩:=hrel
  by_cases hlt:x<q
  ·have hlt':(x:Int)<(q:Int):=by omega
   have q0:=qc0 rf
   have q1:=qc1 rf
   have q2:=qc2 rf
   go_wp2_with fail
   refine (zfK P M A k c m q x wr hf (zar hm hB) hkM HQ.out hx1 hlt).mono ?_
   rintro e w1 ⟨lv,L,rfl,hL1,hO,kb,hok,hend⟩
   have HO:=hid (hO.mono hB.size)
   replace rf:=zaa rf kb;replace hB:=onS hB kb
   have HOK:=hid hok
   have HEND:=hid hend
   have hLq:=hok.le (by omega)
   clear kb q0 q1 q2 hO hok hend
   obtain ⟨LA,lc,hlv⟩:=HO.out.shape
   subst hlv
   by_cases hL:L=Q1
   ·have hLe:((L:Int) == (Q1:Int))=true:=by simp [hL]
    subst hL
    obtain ⟨pb,po,hLA,hpb,x0⟩:=(show IntsR w1 w1.heap.size LA L (fun i=>((pwG (mulF P M m) x i:Nat):Int)) from HO.out.rd rfl).at (i:=Q2) hQ21
    subst hLA
    obtain ⟨z,hz⟩:∃ z,z=pwG (mulF P M m) x Q2:=⟨_,rfl⟩
    rw [<-hz] at x0
    have hzq:z<q:=by rw [hz]; exact HOK.out.lt Q2 hQ21
    have HZ:=hid hz
    clear hz
    have hQ21':(Q2:Int)<(L:Int):=by omega
    have hQ20:(0:Int)<=(Q2:Int):=by omega
    have hwQ1:IntKind.i64.wrap (L:Int)=(L:Int):=IntWalk.i64_in _ (by omega)
    have hwQ2:IntKind.i64.wrap (Q2:Int)=(Q2:Int):=IntWalk.i64_in _ (by omega)
    go_wp2
    refine wp_region_held_drew (S:=fun w'=>w'.cell? ⟨w.heap.size,0,none⟩=some (.int .i64 (P:Nat))/\w'.cell? ⟨w.heap.size,1,none⟩=some (.int .i64 (M:Nat))/\w'.cell? ⟨w.heap.size,2,none⟩=some (.slice A k c)/\w'.cell? ⟨pb,po+Q2,none⟩=some (.int .i64 (z:Nat))) (by kernel_rfl) ⟨cellS (Below.refl _ _).drew (rf.cell (i:=0) (by omega)),cellS (Below.refl _ _).drew (rf.cell (i:=1) (by omega)),cellS (Below.refl _ _).drew (rf.cell (i:=2) (by omega)),cellS (Below.refl _ _).drew (x0)⟩ (fun hHeld=>?_)
    obtain ⟨w2,hw⟩:∃ W,W=World.drew w1:=⟨_,rfl⟩
    have kb:Below w1.heap.size w1 w2:=by rw [hw]; exact (Below.refl _ _).drew
    rw [<-hw] at hHeld ⊢;clear hw;replace rf:=zaa rf kb;replace hB:=onS hB kb;replace x0:=cellS kb x0
    have HKA:=hid kb
    clear kb
    refine tkq 0 (h:=tkq 1 (h:=tkq 2 (h:=tkq 3 (h:=tkq 4 (h:=tkq 5 (h:=tkq 6 (h:=tkq 7 (h:=tkq 8 (h:=tkq 9 (h:=tkq 10 (h:=tkq 11 (h:=tkq 12 (h:=?_)))))))))))))
    refine rdq 13 (h:=fun K hK=>?_)
    go_simp
    go_wp2_with fail
    refine (zcu P M A k c m z x w2 hf (zar hm hB) hkM (by rw [<-HQ.out]; exact hzq) (by rw [<-HQ.out]; exact hlt)).mono ?_
    rintro e w3 ⟨rfl,kb⟩
    replace rf:=zaa rf kb;replace hB:=onS hB kb;replace x0:=cellS kb x0
    have HKB:=hid (onS HKA.out kb)
    clear kb
    obtain ⟨y,hy⟩:∃ y,y=mulF P M m z x:=⟨_,rfl⟩
    rw [<-hy]
    have HY:=hid hy
    have HO9:=hid True.intro
    clear hy
    refine bkq hK ⟨qc0 rf,qc1 rf,qc2 rf,x0⟩ (h:=fun hHeld=>?_)
    clear hK K
    refine tkq 14 (h:=tkq 15 (h:=?_))
    refine wpAnyH_done (by kernel_rfl) ?_ _
    clear hHeld
    by_cases hy1:y=1
    ·have hy1':((y:Int) == 1)=true:=by simp [hy1]
     have HG:Hid (GenX q (mulF P M m) x):=⟨by rw [<-HQ1.out]; exact HOK.out,by rw [<-HQ2.out,<-HZ.out,<-HY.out]; exact hy1⟩
     have HOF:=hid (HO.out.on HKB.out)
     clear hy1 x0
     go_wp2
     go_ret
     exact ⟨hB,.inr ⟨_,x,rfl,hx1,hlt,HG.out,by rw [<-HQ1.out]; exact HOF.out⟩⟩
    ·have hy1':((y:Int) == 1)=false:=by simp; omega
     have HNX:Hid (∀ y',1<=y'->y'<x+1->¬ GenX q (mulF P M m) y'):=fun y' h1 h2 hg=>by
      by_cases e:y'=x
      ·subst e
       exact hy1 (by rw [HY.out,HZ.out,HQ2.out]; exact hg.2)
      ·exact HNO.out y' h1 (by omega) hg
     clear hy1 x0
     go_wp2
     go_roundg (gk - 1)
     case measure=>omega
     case rel=>exact ⟨x+1,by go_num,by omega,by omega,by omega,HNX,rf,hB⟩
   ·have hLe:((L:Int) == (Q1:Int))=false:=by simp; omega
    have hwQ1:IntKind.i64.wrap (Q1:Int)=(Q1:Int):=IntWalk.i64_in _ (by omega)
    have HNX:Hid (∀ y,1<=y->y<x+1->¬ GenX q (mulF P M m) y):=fun y h1 h2 hg=>by
     by_cases e:y=x
     ·subst e
      exact hL (by rw [HQ1.out]; exact zfL (by omega) HOK.out HEND.out hg.1)
     ·exact HNO.out y h1 (by omega) hg
    clear hL
    go_wp2
    go_quiet (fail)
    go_wp2
    go_roundg (gk - 1)
    case measure=>omega
    case rel=>exact ⟨x+1,by go_num,by omega,by omega,by omega,HNX,za5 rf _,zac hB _⟩
  ·have hlt':¬ (x:Int)<(q:Int):=by omega
   obtain rfl:x=q:=by omega
   go_wp2
   go_ret
   exact ⟨hB,.inl ⟨rfl,HNO.out⟩⟩
structure RingM (q:Nat) (mul:Nat->Nat->Nat):Prop where
 two:2<=q
 lt:∀ x y,mul x y<q
 comm:∀ x y,x<q->y<q->mul x y=mul y x
 assoc:∀ x y z,x<q->y<q->z<q->mul (mul x y) z=mul x (mul y z)
 one:∀ x,x<q->mul 1 x=x
theorem ringM {P M:Nat} (m:Nat->Nat) (h:FldOk P M):RingM (P ^ M) (mulF P M m):=by
 obtain ⟨hP2,hM,_,_⟩:=h
 have hP0:0<P:=by omega
 have hq:P<=P ^ M:=by
  have:=Nat.pow_le_pow_right hP0 hM
  simpa using this
 have one:∀ j,dgt P 1 j=one0 j:=fun j=>by
  unfold dgt one0
  cases j with
  | zero=>rw [zca,Nat.mod_eq_of_lt (by omega)]; rfl
  | succ j=>rw [zcP,Nat.div_eq_of_lt (by omega),zbz]; rfl
 have mD:=fun (x y j:Nat) (hj:j<M)=>zcY (P:=P) (m:=m) hP0 hM x y hj
 refine ⟨by omega,fun x y=>zaP hP0 x y,fun x y hx hy=>?_,fun x y z hx hy hz=>?_,fun x hx=>?_⟩
 ·refine zbe hP0 (zaP hP0 _ _) (zaP hP0 _ _) fun j hj=>?_
  exact (mD _ _ j hj).trans ((zbw (by rw [zaR])).trans (mD _ _ j hj).symm)
 ·refine zbe hP0 (zaP hP0 _ _) (zaP hP0 _ _) fun j hj=>?_
  refine (mD _ _ j hj).trans ((zbl (fun i hi=>mD _ _ i hi) (fun i _=>zan _) j).trans ?_)
  rw [zbK hM]
  exact ((mD _ _ j hj).trans (zbl (fun i _=>zan _) (fun i hi=>mD _ _ i hi) j)).symm
 ·refine zbe hP0 (zaP hP0 _ _) hx fun j hj=>?_
  refine (mD _ _ j hj).trans (zbw ?_)
  rw [show dgt P 1=one0 from funext one,zcX _ hj]
section
variable {q x:Nat} {mul:Nat->Nat->Nat}
theorem zfM (hR:RingM q mul) (hx:x<q) (h:GenX q mul x) {n:Nat} (hn:n<q - 1):mul (pwG mul x n) x=pwG mul x ((n+1) % (q - 1)):=by
 have h2:=hR.two
 by_cases e:n+1=q - 1
 ·rw [e,Nat.mod_self]
  have:n=q - 2:=by omega
  rw [this]
  exact h.2
 ·rw [Nat.mod_eq_of_lt (by omega)]
  cases n with
  | zero=>exact hR.one x hx
  | succ n=>rfl
theorem zeG (hR:RingM q mul) (hx:x<q) (h:GenX q mul x) {i:Nat} (hi:i<q - 1):∀ j,j<q - 1->mul (pwG mul x i) (pwG mul x j)=pwG mul x ((i+j) % (q - 1))
 | 0,_=>by
  have h2:=hR.two
  rw [Nat.add_zero,Nat.mod_eq_of_lt hi]
  show mul (pwG mul x i) 1=_
  rw [hR.comm _ _ (h.1.lt i hi) (by omega),hR.one _ (h.1.lt i hi)]
 | j + 1, hj => by
  have h2:=hR.two
  have e:pwG mul x (j+1)=mul (pwG mul x j) x:=by
   rw [zfM hR hx h (by omega),Nat.mod_eq_of_lt hj]
  rw [e,<-hR.assoc _ _ _ (h.1.lt i hi) (h.1.lt j (by omega)) hx,zeG hR hx h hi j (by omega),zfM hR hx h (Nat.mod_lt _ (by omega)),Nat.mod_add_mod]
  rfl
theorem zdI (h2:2<=q) (h:PwOk q (pwG mul x) (q - 1)) {y:Nat} (hy0:y≠0) (hy:y<q):∃ i,i<q - 1/\pwG mul x i=y:=by
 refine Classical.byContradiction fun hno=>?_
 have hne:∀ i,i<q - 1->pwG mul x i≠y:=fun i hi e=>hno ⟨i,hi,e⟩
 have:=pigeon (M:=q) (N:=q - 1) (f:=fun i=>if i<q - 1 then pwG mul x i - 1 else y - 1) (fun i hi=>by
  show (if i<q - 1 then pwG mul x i - 1 else y - 1)<q - 1
  split
  ·rename_i h1
   have:=h.lt i h1
   have:=h.ne i h1
   omega
  ·omega) (fun i k hi hk e=>by
  have e:(if i<q - 1 then pwG mul x i - 1 else y - 1)=(if k<q - 1 then pwG mul x k - 1 else y - 1):=e
  by_cases h1:i<q - 1 <;> by_cases h3:k<q - 1
  ·rw [if_pos h1,if_pos h3] at e
   have a1:=h.ne i h1
   have a2:=h.ne k h3
   rcases Nat.lt_trichotomy i k with c | c | c
   ·exact absurd (show pwG mul x i=pwG mul x k by omega) (h.inj i k c h3)
   ·exact c
   ·exact absurd (show pwG mul x k=pwG mul x i by omega) (h.inj k i c h1)
  ·rw [if_pos h1,if_neg h3] at e
   have a1:=h.ne i h1
   exact absurd (show pwG mul x i=y by omega) (hne i h1)
  ·rw [if_neg h1,if_pos h3] at e
   have a1:=h.ne k h3
   exact absurd (show pwG mul x k=y by omega) (hne k h3)
  ·omega)
 omega
theorem zdJ (hR:RingM q mul) (hx:x<q) (h:GenX q mul x) {y z:Nat} (hy0:y≠0) (hy:y<q) (hz0:z≠0) (hz:z<q):mul y z≠0:=by
 obtain ⟨i,hi,rfl⟩:=zdI hR.two h.1 hy0 hy
 obtain ⟨j,hj,rfl⟩:=zdI hR.two h.1 hz0 hz
 rw [zeG hR hx h hi j hj]
 exact h.1.ne _ (Nat.mod_lt _ (by have:=hR.two; omega))
end
theorem zec {q:Nat} {add mul:Nat->Nat->Nat} (hF:FieldLaws q add mul):∃ x,1<=x/\x<q/\GenX q mul x:=by
 obtain ⟨iA,iM,iN,i0,i1,F,ha,hm,h0,h1⟩:=zgo hF
 have hq:0<q:=by have:=hF.two; omega
 have hnd:((List.range q).map (toEl q hq)).Nodup:=by
  rw [List.Nodup,List.pairwise_map]
  refine List.Pairwise.imp_of_mem (R:=fun a b=>a<b) (fun {a b} ha hb hab e=>?_) List.pairwise_lt_range
  have:=zd1 hq (List.mem_range.1 ha) (List.mem_range.1 hb) e
  omega
 obtain ⟨g,hg0,hg⟩:=zcs F hnd fun a=>by
  obtain ⟨b,hb,e⟩:=zhh hq a
  exact List.mem_map.2 ⟨b,List.mem_range.2 hb,e⟩
 rw [List.length_map,List.length_range] at hg
 have hpw:∀ n,pwG mul g.val n=(pwK g n).val:=fun n=>by
  induction n with
  | zero=>exact h1.symm
  | succ n ih =>
   show _=(pwK g n*g).val
   rw [hm,<-ih]
   cases n with
   | zero=>exact (hF.oneMul _ g.lt).symm
   | succ n=>rfl
 have hnz:∀ z:El q,z≠0->z.val≠0:=fun z hz e=>hz (El.ext' (by rw [e,h0]))
 have h2:=hF.two
 refine ⟨g.val,by have:=hnz g hg0; omega,g.lt,⟨fun i _=>by rw [hpw]; exact hnz _ (zhZ F hg0 i),fun i _=>by rw [hpw]; exact (pwK g i).lt,fun i j hij hj e=>?_⟩,?_⟩
 ·rw [hpw,hpw] at e
  have e:=El.ext' e
  refine hg.2.2 (j - i) (by omega) (by omega) ?_
  rw [show j=i+(j - i) by omega,zfJ F] at e
  have h1:pwK g i*pwK g (j - i)=pwK g i*1:=by rw [<-e,F.mulOne]
  obtain ⟨y,hy⟩:=F.inv _ (zhZ F hg0 i)
  have h2:y*(pwK g i*pwK g (j - i))=y*(pwK g i*1):=by rw [h1]
  rwa [<-F.mulA,<-F.mulA,F.mulC y,hy,F.oneM,F.oneM] at h2
 ·rw [hpw,<-hm]
  have e:pwK g (q - 1)=pwK g (q - 2)*g:=by
   obtain ⟨r,hr⟩:∃ r,q=r+2:=⟨q - 2,by omega⟩
   subst hr
   rfl
  rw [<-e,hg.2.1,h1]
theorem zfN {P M x:Nat} {m:Nat->Nat} (hf:FldOk P M) (hm:M=1∨∀ t,t<M->m t<P) (hx:x<P ^ M) (h:GenX (P ^ M) (mulF P M m) x):IrrB P M m:=by
 intro d hd1 hd2 v hv hdiv
 have hR:=ringM m hf
 obtain ⟨hP2,hM,_,_⟩:=hf
 have hP0:0<P:=by omega
 have hm:∀ t,t<M->m t<P:=by
  rcases hm with e | e
  ·omega
  ·exact e
 have hl:∀ (B:Nat->Int) j,(((B j) % P).toNat:Int)=B j % P:=fun B j=>by
  have:=Int.emod_nonneg (B j) (show (P:Int)≠0 by omega)
  omega
 have hlt:∀ (B:Nat->Int) j,((B j) % P).toNat<P:=fun B j=>by
  have:=Int.emod_lt_of_pos (B j) (show (0:Int)<P by omega)
  have:=hl B j; omega
 have val:∀ B:Nat->Int,∃ y,y<P ^ M/\∀ j,j<M->cg P (dgt P y j) (B j):=fun B=>by
  refine ⟨valN P (fun j=>((B j) % P).toNat) M,za6 fun i _=>hlt B i,fun j hj=>?_⟩
  unfold dgt
  rw [za3 (fun i _=>hlt B i) j hj,hl B]
  exact zeX _
 obtain ⟨a,ha,hA⟩:=val (hD P d (dig P v) M (modR M m) (M+1 - d))
 obtain ⟨b,hb,hB⟩:=val (lead d (dig P v))
 have hne:∀ {y j:Nat},j<M->cg P (dgt P y j) 1->y≠0:=fun {y j} hj e e0=>by
  subst e0
  unfold dgt at e
  rw [zbz] at e
  exact absurd (zfp (P:=P) (a:=0) (b:=1) e hP0 (by omega)) (by omega)
 refine zdJ hR hx h (y:=a) (z:=b) ?_ ha ?_ hb ?_
 ·refine hne (j:=M - d) (by omega) ((hA _ (by omega)).trans (zbw ?_))
  obtain ⟨s,hs⟩:∃ s,M+1 - d=s+1:=⟨M - d,by omega⟩
  rw [hs]
  exact zhP (by omega) s (by omega)
 ·refine hne (j:=d) (by omega) ((hB _ (by omega)).trans (zbw ?_))
  unfold lead
  rw [if_neg (by omega),if_pos rfl]
 ·refine zbe hP0 (zaP hP0 _ _) (Nat.pow_pos hP0) fun j hj=>?_
  refine (zcY (P:=P) (m:=m) hP0 hM a b hj).trans ((zbl (fun i hi=>hA i hi) (fun i hi=>hB i hi) j).trans ?_)
  refine (zgU (by omega) hm hd1 (by omega) hj).trans (zbw ?_)
  rw [hdiv j (by omega)]
  unfold dgt
  rw [zbz]
  rfl
theorem zh0 {P M:Nat} {m:Nat->Nat} (hf:FldOk P M) (hp:PrimeB P) (hm:M=1∨∀ t,t<M->m t<P):(∃ x,1<=x/\x<P ^ M/\GenX (P ^ M) (mulF P M m) x)↔FieldOk P M m:=by
 constructor
 ·rintro ⟨x,_,hx,h⟩
  exact ⟨hf,hp,hm,zfN hf hm hx h⟩
 ·intro h
  exact zec (fieldLaws h)
end Go.Proofs.YtioagplajkoohaaGreat