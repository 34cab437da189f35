/- Merged texts of a claim: DualPl, SeesCode, Cyc, Gf1, Gf2, Gf3, Gf4, GfLaw, Gf5. -/
import Derived.Test.YtioagplajkoohaaGreatTL1
import Derived.Test.YtioagplajkoohaaGreatTL2
import Derived.Test.YtioagplajkoohaaGreatTL3
import Derived.Test.YtioagplajkoohaaGreatTL5
import Derived.Test.YtioagplajkoohaaGreatTL6
import Derived.Test.YtioagplajkoohaaGreatTL12
import Derived.Laws.CopyOwn
namespace Go.Proofs.YtioagplajkoohaaGreat
set_option maxRecDepth 100000
set_option maxHeartbeats 32000000
open KA KB KC KE
theorem zkF {α:Type}:∀ {l m:List α},l.Nodup->(∀ x,x ∈ l->x ∈ m)->l.length<=m.length:=by
 classical
 intro l
 induction l with
 | nil=>intro m _ _; exact Nat.zero_le _
 | cons a l ih =>
  intro m h1 h2
  have ha:=h2 a (by simp)
  rw [List.nodup_cons] at h1
  have hl:=List.length_erase_of_mem ha
  have hp:=ih (m:=m.erase a) h1.2 fun x hx=>(List.mem_erase_of_ne (fun e:x=a=>h1.1 (by rw [<-e]; exact hx))).2 (h2 x (by simp [hx]))
  have hpos:=List.length_pos_of_mem ha
  simp only [List.length_cons]
  omega
theorem zb3 {α β:Type} {f:α->β}:∀ {l:List α},l.Nodup->(∀ a,a ∈ l->∀ b,b ∈ l->f a=f b->a=b)->(l.map f).Nodup:=by
 intro l
 induction l with
 | nil=>intro _ _; exact List.nodup_nil
 | cons a l ih =>
  intro h hi
  rw [List.nodup_cons] at h;rw [List.map_cons,List.nodup_cons]
  refine ⟨fun hm=>?_,ih h.2 fun x hx y hy e=>hi x (by simp [hx]) y (by simp [hy]) e⟩
  obtain ⟨b,hb,e⟩:=List.mem_map.1 hm
  have:=hi b (by simp [hb]) a (by simp) e
  exact h.1 (by rw [<-this]; exact hb)
theorem zfg {K:Type} {L:List K} (hn:L.Nodup):∀ n,(allW L n).Nodup
 | 0=>by simp [allW]
 | n + 1 => by
  have ih:=zfg hn n
  show ((allW L n).flatMap fun w=>L.map fun a=>a :: w).Nodup
  revert ih
  generalize allW L n=l
  induction l with
  | nil=>intro _; simp
  | cons w l ihl =>
   intro h
   rw [List.nodup_cons] at h;rw [List.flatMap_cons,List.nodup_append]
   refine ⟨zb3 hn fun a _ b _ e=>by injection e,ihl h.2,fun x hx y hy e=>?_⟩
   obtain ⟨a,_,rfl⟩:=List.mem_map.1 hx
   obtain ⟨w',hw',hy⟩:=List.mem_flatMap.1 hy
   obtain ⟨b,_,rfl⟩:=List.mem_map.1 hy
   injection e with _ e
   exact h.1 (by rw [e]; exact hw')
theorem zhW {K:Type} {L:List K} (hc:∀ a,a ∈ L):∀ n (x:List K),x.length=n->x ∈ allW L n
 | 0,x,h=>by rw [List.length_eq_zero_iff.1 h]; simp [allW]
 | n+1,[],h=>by simp at h
 | n+1,a :: x,h=>by
  show _ ∈ (allW L n).flatMap _
  exact List.mem_flatMap.2 ⟨x,zhW hc n x (by simpa using h),List.mem_map.2 ⟨a,hc a,rfl⟩⟩
open Classical in
theorem zd7 {α:Type} (C:α->Prop) (g:α->Rat):∀ l:List α,sumM (fun x=>if C x then g x else 0) l=sumM g (l.filter fun x=>decide (C x))
 | []=>rfl
 | a :: l => by
  have ih:=zd7 C g l
  show (if C a then g a else 0)+sumM _ l=_
  rw [ih]
  by_cases h:C a
  ·rw [if_pos h,List.filter_cons_of_pos (by simpa using h)]
   rfl
  ·rw [if_neg h,List.filter_cons_of_neg (by simpa using h)]
   grind
theorem zlu {q:Nat} (hq:0<q) {n x y:Nat} (hx:x<q ^ n) (hy:y<q ^ n) (h:∀ t,t<n->dig q x t=dig q y t):x=y:=zeV hq hx hy h
section
variable {q n k:Nat} {add mul:Nat->Nat->Nat} {V:Nat->Nat->Nat}
theorem zbN {neg:Nat->Nat} {p:Nat->Nat} {W:Nat->Nat->Nat} {c j:Nat}:∀ a,(∀ s,s<a->p s≠j)->nrow neg p W c a j=if j=c then 1 else 0
 | 0,_=>rfl
 | a+1,h=>by
  unfold nrow
  rw [if_neg (fun e=>h a (by omega) e.symm)]
  exact zbN a fun s hs=>h s (by omega)
theorem zgp {neg:Nat->Nat} {p:Nat->Nat} {W:Nat->Nat->Nat} {c s:Nat}:∀ a,(∀ t u,t<u->u<a->p t<p u)->s<a->nrow neg p W c a (p s)=neg (W s c)
 | 0,_,h=>absurd h (by omega)
 | a + 1, hi, hs => by
  unfold nrow
  by_cases e:s=a
  ·subst e; rw [if_pos rfl]
  ·have:=hi s a (by omega) (by omega)
   rw [if_neg (by omega)]
   exact zgp a (fun t u h1 h2=>hi t u h1 (by omega)) (by omega)
end
structure OnEl (q:Nat) (add mul:Nat->Nat->Nat) [Add (El q)] [Mul (El q)] [Neg (El q)] [Zero (El q)] [One (El q)]:Prop where
 fie:Fie (El q)
 ha:∀ x y:El q,(x+y).val=add x.val y.val
 hm:∀ x y:El q,(x*y).val=mul x.val y.val
 h0:(0:El q).val=0
 h1:(1:El q).val=1
section
variable {q n N a2:Nat} {add mul:Nat->Nat->Nat} {neg:Nat->Nat} {V W2:Nat->Nat->Nat} (hq:0<q) [iA:Add (El q)] [iM:Mul (El q)] [iN:Neg (El q)] [i0:Zero (El q)] [i1:One (El q)] (O:OnEl q add mul)
include O
theorem zgq {m:Nat} {U:Nat->Nat->Nat} {x:List (El q)} (hx:Gen N m (fun i=>wordK q hq N (U i)) x):x=wordK q hq N (fun j=>(ent x j).val):=by
 refine zeY (zfD O.fie (N:=fun i j=>toEl q hq (U i j)) hx).1 (zbL hq N _) fun j hj=>?_
 rw [zbT hq,zbi hj]
 exact El.ext' (zar hq (ent x j).lt).symm
variable (hL:FieldLaws q add mul)
include hL
theorem zfT {m m':Nat} {U U':Nat->Nat->Nat} (hU:∀ i,i<m->∀ j,j<N->U i j<q) (hU':∀ i,i<m'->∀ j,j<N->U' i j<q) (e:SameSp q add mul N m m' U U') (x:List (El q)):Gen N m (fun i=>wordK q hq N (U i)) x↔Gen N m' (fun i=>wordK q hq N (U' i)) x:=by
 constructor
 ·intro hx
  have ex:=zgq hq O hx
  rw [ex] at hx ⊢
  exact (zaV hq O.fie hL O.ha O.hm O.h0 hU' fun j _=>(ent x j).lt).1 ((e _).1 ((zaV hq O.fie hL O.ha O.hm O.h0 hU fun j _=>(ent x j).lt).2 hx))
 ·intro hx
  have ex:=zgq hq O hx
  rw [ex] at hx ⊢
  exact (zaV hq O.fie hL O.ha O.hm O.h0 hU fun j _=>(ent x j).lt).1 ((e _).2 ((zaV hq O.fie hL O.ha O.hm O.h0 hU' fun j _=>(ent x j).lt).2 hx))
theorem NullRel.perp (hneg:∀ x,x<q->neg x<q/\add x (neg x)=0) (hV:∀ i,i<n->∀ j,j<N->V i j<q) (h:NullRel q add mul neg n N V a2 W2) (x:List (El q)) :
  perpW N (Gen N n fun i=>wordK q hq N (V i)) x↔Gen N a2 (fun i=>wordK q hq N (W2 i)) x:=by
 obtain ⟨a,p,W,f,fr,Nn,p2,hE,hR,hN,hE2,hR2⟩:=h
 obtain ⟨hs,hWl⟩:=hR.sp hL hV
 have hle:=hE.le
 have hq2:=hL.two
 have hNl:∀ u,u<f->∀ j,j<N->Nn u j<q:=fun u hu j hj=>by
  rw [hN.row u hu j hj]
  have hfu:=hN.lt u hu
  rcases hN.cover j hj with ⟨s,hs,e⟩ | ⟨v,hv,e⟩
  ·rw [<-e,zgp a hE.inc hs]
   exact (hneg _ (hWl s (by omega) _ hfu)).1
  ·rw [zbN a fun s hs e2=>hN.ne v hv s hs (e2.trans e.symm)]
   split <;> omega
 obtain ⟨hs2,hWl2⟩:=hR2.sp hL hNl
 have s1:=zfT hq O hL hV (hE.top.lt) (fun x=>(hs x).trans (hE.sp_top hL x)) x
 have s1':∀ x,Gen N n (fun i=>wordK q hq N (V i)) x↔Gen N a (fun i=>wordK q hq N (W i)) x:=zfT hq O hL hV (hE.top.lt) (fun x=>(hs x).trans (hE.sp_top hL x))
 have s2:=zfT hq O hL hNl (hE2.top.lt) (fun x=>(hs2 x).trans (hE2.sp_top hL x)) x
 rw [<-s2]
 have hK:NullK N a p (fun i j=>toEl q hq (W i j)) f fr (fun i j=>toEl q hq (Nn i j)):=by
  refine ⟨hN.lt,hN.ne,hN.cover,fun u hu=>?_,fun u hu s hs=>?_,fun u hu v hv hne=>?_⟩
  ·rw [hN.row u hu _ (hN.lt u hu),zbN a (hN.ne u hu),if_pos rfl]
   exact El.ext' (by rw [zar hq (by omega),O.h1])
  ·rw [hN.row u hu _ (hE.pvlt s hs),zgp a hE.inc hs]
   obtain ⟨g1,g2⟩:=hneg _ (hE.lt s (by omega) _ (hN.lt u hu))
   refine O.fie.negOf (El.ext' ?_)
   rw [O.ha,zar hq (hE.lt s (by omega) _ (hN.lt u hu)),zar hq g1,g2,O.h0]
  ·have hne2:fr v≠fr u:=by
    rcases Nat.lt_or_gt_of_ne hne with h1 | h1
    ·have:=hN.inc v u h1 hu; omega
    ·have:=hN.inc u v h1 hv; omega
   refine ⟨hne2,?_⟩
   rw [hN.row u hu _ (hN.lt v hv),zbN a (hN.ne v hv),if_neg hne2]
   exact El.ext' (by rw [zar hq hq,O.h0])
 have:=NullK.perp O.fie (hE.toK hq O.h0 O.h1) hK x
 refine Iff.trans ?_ this
 constructor
 ·rintro ⟨g1,g2⟩; exact ⟨g1,fun y hy=>g2 y ((s1' y).2 hy)⟩
 ·rintro ⟨g1,g2⟩; exact ⟨g1,fun y hy=>g2 y ((s1' y).1 hy)⟩
end
theorem zcD (f:Nat->Rat) (n:Nat):sumM f (List.range (n+1))=sumM f (List.range n)+f n:=by
 rw [List.range_succ,zd0]
 show _+(f n+0)=_
 grind
theorem zkG (n:Nat):powR 1 n=1:=by
 induction n with
 | zero=>rfl
 | succ n ih=>show powR 1 n*1=1; rw [ih,Rat.mul_one]
section
variable {q n N:Nat} {add mul:Nat->Nat->Nat} {V:Nat->Nat->Nat} (hq:0<q)
theorem ziY [i0:Zero (El q)] {x y:Nat->Nat} (hx:∀ j,j<N->x j<q) (hy:∀ j,j<N->y j<q) (e:wordK q hq N x=wordK q hq N y):∀ j,j<N->x j=y j:=fun j hj=>by
 have e2:=congrArg (fun l=>ent l j) e
 rw [zbT hq,zbT hq] at e2
 simp only [zbi hj] at e2
 exact zdu hq (hx j hj) (hy j hj) e2
open Classical in
theorem zjx [i0:Zero (El q)] (s t:Rat) (m:List (El q)):∀ l:List (El q),wtW s t (l ++ m)=wtW s t l*wtW s t m
 | []=>by show wtW s t m=1*_; grind
 | a :: l=>by
  have ih:=zjx s t m l
  show (if a=0 then s else t)*wtW s t (l ++ m)=(if a=0 then s else t)*wtW s t l*wtW s t m
  rw [ih]
  grind
open Classical in
theorem zhX [i0:Zero (El q)] (h0:(0:El q).val=0) (s t:Rat) {x:Nat->Nat}:∀ N,(∀ j,j<N->x j<q)->wtW s t (wordK q hq N x)=powR s (N - disN (fun j=>(x j:Nat)) (fun _=>0) N)*powR t (disN (fun j=>(x j:Nat)) (fun _=>0) N)
 | 0,_=>by show (1:Rat)=((1:Int):Rat)*((1:Int):Rat); grind
 | N + 1, hx => by
  have ih:=zhX h0 s t N fun j hj=>hx j (by omega)
  have hd:=zgn (fun j=>((x j:Nat):Int)) (fun _=>0) N
  have e:wordK q hq (N+1) x=wordK q hq N x ++ [toEl q hq (x N)]:=by
   unfold wordK
   rw [List.range_succ,List.map_append]
   rfl
  rw [e,zjx,ih]
  show _*((if toEl q hq (x N)=0 then s else t)*1)=powR s (N+1 - (disN (fun j=>((x j:Nat):Int)) (fun _=>0) N+if ((x N:Nat):Int)=0 then 0 else 1))*powR t (disN (fun j=>((x j:Nat):Int)) (fun _=>0) N+if ((x N:Nat):Int)=0 then 0 else 1)
  obtain ⟨d,hdd⟩:∃ d,d=disN (fun j=>((x j:Nat):Int)) (fun _=>0) N:=⟨_,rfl⟩
  rw [<-hdd] at hd ⊢
  by_cases hz:x N=0
  ·have h1:toEl q hq (x N)=0:=El.ext' (by rw [zar hq (hx N (by omega)),h0,hz])
   rw [if_pos h1,if_pos (by omega),show N+1 - (d+0)=N - d+1 by omega,show d+0=d by omega]
   show _=powR s _*s*_
   grind
  ·have h1:¬ toEl q hq (x N)=0:=fun e=>hz (by have:=congrArg El.val e; rwa [zar hq (hx N (by omega)),h0] at this)
   rw [if_neg h1,if_neg (by omega),show N+1 - (d+1)=N - d by omega]
   show _=_*(powR t _*t)
   grind
end
theorem zhY (G:Nat->Rat) (W:Nat->Nat->Int) (N:Nat):∀ m,sumM (fun i=>G (disN (W i) (fun _=>0) N)) (List.range m)=sumM (fun t=>((wcnt N W m t:Nat):Rat)*G t) (List.range (N+1))
 | 0=>by
  show (0:Rat)=_
  rw [zbe (h:=fun _=>0) fun t _=>by show ((0:Nat):Rat)*G t=0; grind,zgg]
 | m + 1 => by
  classical
  rw [zcD,zhY G W N m]
  have hd:=zgn (W m) (fun _=>0) N
  have h1:=zjS (l:=List.range (N+1)) List.nodup_range (a:=disN (W m) (fun _=>0) N) (List.mem_range.2 (by omega)) (fun t=>t=disN (W m) (fun _=>0) N) (fun _=>Iff.rfl) G
  rw [<-h1,<-zjR]
  refine zbe fun t _=>?_
  show _=((wcnt N W m t+(if disN (W m) (fun _=>0) N=t then 1 else 0):Nat):Rat)*G t
  by_cases e:disN (W m) (fun _=>0) N=t
  ·rw [if_pos e,if_pos e.symm]
   push_cast
   grind
  ·rw [if_neg e,if_neg (fun h=>e h.symm)]
   push_cast
   grind
theorem zhZ (a b p:Rat):evR (pairR a b) p 2=a+b*p:=by
 show (((0:Int):Rat)+a*((1:Int):Rat))+b*(((1:Int):Rat)*p)=_
 grind
theorem zh0 (a:Nat->Rat) (m:Nat) (p:Rat):∀ k,evR (pwP a m k).2 p (pwP a m k).1=powR (evR a p m) k
 | 0=>by
  show ((0:Int):Rat)+((1:Int):Rat)*((1:Int):Rat)=((1:Int):Rat)
  grind
 | k+1=>by
  show evR (mulP (pwP a m k).2 (pwP a m k).1 a m) p (clen (mulP (pwP a m k).2 (pwP a m k).1 a m) ((pwP a m k).1+m))=powR (evR a p m) k*evR a p m
  rw [zey,zfP,zh0 a m p k]
theorem zlv {q n v:Nat} (hq:2<=q) (hv:v<=n) (p:Rat):evR (patR q n v) p (n+1)=powR (mkRat 1 (q - 1)*p) v*powR (1 - p) (n - v):=by
 obtain ⟨h1,h2⟩:=zl1 hq hv
 rw [<-zex h2]
 conv=>lhs; rw [<-h1]
 rw [zey,zfP,zh0,zh0,zhZ,zhZ]
 congr 2
 ·grind
 ·push_cast; grind
theorem zlw {q n x k:Nat} (hq:2<=q) (hk:k<=n) (p:Rat):evR (tmP q n x k).2 p (tmP q n x k).1=(x:Rat)*(powR (mkRat 1 (q - 1)*p) k*powR (1 - p) (n - k)):=by
 show evR (mulP (fun _=>(x:Rat)) 1 (patR q n k) (n+1)) p (clen (mulP (fun _=>(x:Rat)) 1 (patR q n k) (n+1)) (1+(n+1)))=_
 rw [zey,zfP,zlv hq hk]
 congr 1
 show ((0:Int):Rat)+(x:Rat)*((1:Int):Rat)=_
 grind
theorem zlx (a b:Nat × (Nat->Rat)) (p:Rat):evR (adP a b).2 p (adP a b).1=evR a.2 p a.1+evR b.2 p b.1:=by
 show evR (sumP a.2 a.1 b.2 b.1) p (clen (sumP a.2 a.1 b.2 b.1) (max a.1 b.1))=_
 rw [zey]
 exact zky a.2 b.2 p a.1 b.1
def sumQ (f:Nat->Rat):Nat->Rat
 | 0=>0
 | k+1=>sumQ f k+f k
theorem zjy {q n:Nat} {xs:Nat->Nat} (hq:2<=q) (p:Rat):∀ k,k<=n+1->evR (wtP q n xs k).2 p (wtP q n xs k).1=sumQ (fun w=>(xs w:Rat)*(powR (mkRat 1 (q - 1)*p) w*powR (1 - p) (n - w))) k
 | 0,_=>rfl
 | k + 1, h => by
  have ih:=zjy (n:=n) (xs:=xs) hq p k (by omega)
  show evR (if xs k=0 then wtP q n xs k else adP (wtP q n xs k) (tmP q n (xs k) k)).2 p (if xs k=0 then wtP q n xs k else adP (wtP q n xs k) (tmP q n (xs k) k)).1=sumQ _ k+(xs k:Rat)*(powR (mkRat 1 (q - 1)*p) k*powR (1 - p) (n - k))
  by_cases e:xs k=0
  ·rw [if_pos e,ih,e]
   grind
  ·rw [if_neg e,zlx,ih,zlw hq (by omega)]
theorem zly (f:Nat->Rat):∀ n,sumQ f n=sumM f (List.range n)
 | 0=>rfl
 | n+1=>by rw [zcD,<-zly f n]; rfl
theorem zh1 (a b:Nat):mkRat (a:Int) b=(a:Rat)*mkRat 1 b:=by
 rw [show ((a:Nat):Rat)=mkRat (a:Int) 1 from (Rat.mkRat_one (a:Int)).symm,Rat.mkRat_mul_mkRat]
 simp
theorem ziZ {b:Nat} (h:b≠0):(b:Rat)*mkRat 1 b=1:=by
 rw [<-zh1]
 have e:=Rat.mkRat_mul_left (n:=1) (d:=1) h
 rw [Int.mul_one,Nat.mul_one] at e;rw [e]
 rfl
open Go.RowKit
section
variable {H:Type} {enc:TypeId × Value->H} {w:World} {base:Nat} {spare:Nat->Bool} {held:Bool} {cs:List Value}
theorem zi0 (h:Sees enc Tryz.prog w base spare held 27 cs) :
  ∃ (P M:Int) (A:Option Addr) (k c:Nat) (N:Int) (T:Option Addr) (n d:Nat) (f:Nat->Int) (ln:Nat->Nat) (V:Nat->Nat->Int),cs=[.int .i64 P,.int .i64 M,.slice A k c,.int .i64 N,.slice T n d] /\
   -9223372036854775808<=N/\N<=9223372036854775807/\k<=c/\c<=maxLen/\n<=d/\d<=maxLen/\IntsR w w.heap.size A k f/\IntRows w T n ln V:=by
 obtain ⟨hl,_⟩:=zcG Tryz.underlying27 h
 match cs,hl.trans (show Tryz.prog.cellsOf 27 = 5 by kernel_rfl) with
 | [c0,c1,c2,c3,c4],_ =>
  have hc:Tryz.prog.cellsOf 3 = 1:=by kernel_rfl
  have hc':Tryz.prog.cellsOf 22 = 1:=by kernel_rfl
  have hct:Tryz.prog.cellsOf 25 = 1:=by kernel_rfl
  have hcf:Tryz.prog.cellsOf 24 = 3:=by kernel_rfl
  have gf:=zcp Tryz.underlying27 h 0 24 0 3 ⟨_,rfl,rfl,rfl⟩ hcf
  have gN:=zcp Tryz.underlying27 h 1 3 3 1 ⟨_,rfl,rfl,rfl⟩ hc
  have gT:=zcp Tryz.underlying27 h 2 25 4 1 ⟨_,rfl,rfl,rfl⟩ hct
  have g0:=zcp Tryz.underlying24 gf 0 3 0 1 ⟨_,rfl,rfl,rfl⟩ hc
  have g1:=zcp Tryz.underlying24 gf 1 3 1 1 ⟨_,rfl,rfl,rfl⟩ hc
  have g2:=zcp Tryz.underlying24 gf 2 22 2 1 ⟨_,rfl,rfl,rfl⟩ hc'
  obtain ⟨P,hP,_⟩:=zdp Tryz.underlying3 g0
  obtain ⟨M,hM,_⟩:=zdp Tryz.underlying3 g1
  obtain ⟨A,k,c,f,hs,k1,k2,hr,_⟩:=zd8 Tryz.underlying22 Tryz.underlying3 hc g2
  obtain ⟨N,hN,hNw⟩:=zdp Tryz.underlying3 gN
  obtain ⟨T,n,d,ln,V,hT,k3,k4,hrows⟩:=zf6 gT
  simp at hP hM hs hN hT
  subst hP hM hs hN hT
  have:=zkQ hNw
  exact ⟨P,M,A,k,c,N,T,n,d,f,ln,V,rfl,this.1,this.2,k1,k2,k3,k4,hr,hrows⟩
end
theorem zi1 {p:Nat->Prop} (h:∃ n,p n):∃ n,p n/\∀ k,k<n->¬ p k:=by
 obtain ⟨n,hn⟩:=h
 induction n using Nat.strongRecOn with
 | ind n ih =>
  by_cases h:∃ k,k<n/\p k
  ·obtain ⟨k,h1,h2⟩:=h
   exact ih k h1 h2
  ·exact ⟨n,hn,fun k h1 h2=>h ⟨k,h1,h2⟩⟩
section
variable {K:Type} [Add K] [Mul K]
def evA:K->List K->K->K
 | a,[],_=>a
 | a,c :: l,x=>evA (a*x+c) l x
def qtA:K->List K->K->List K
 | _,[],_=>[]
 | a,c :: l,r=>a :: qtA (a*r+c) l r
theorem zjz (r:K):∀ (l:List K) (a:K),(qtA a l r).length=l.length
 | [],_=>rfl
 | c :: l,a=>by show (qtA (a*r+c) l r).length+1=l.length+1; rw [zjz r l]
end
section
variable {K:Type} [Mul K] [One K]
def pwK (x:K):Nat->K
 | 0=>1
 | n+1=>pwK x n*x
def IsOrd (x:K) (n:Nat):Prop:=1<=n/\pwK x n=1/\∀ k,1<=k->k<n->pwK x k≠1
theorem zh2 {x:K} {n:Nat} (h1:1<=n) (h2:pwK x n=1) (h3:∀ k,pwK x k=1->n ∣ k):IsOrd x n :=
 ⟨h1,h2,fun k hk1 hk2 e=>by have:=Nat.le_of_dvd (by omega) (h3 k e); omega⟩
end
section
variable {K:Type} [Add K] [Mul K] [Neg K] [Zero K] [One K]
variable (F:Fie K)
include F
theorem zlz (x r:K):∀ (l:List K) (a b:K),evA (b*(x + -r)+a) l x=(x + -r)*evA b (qtA a l r) x+evA a l r
 | [],a,b=>by show b*(x + -r)+a=(x + -r)*b+a; rw [F.mulC]
 | c :: l,a,b=>by
  have ih:=zlz x r l (a*r+c) (b*x+a)
  show evA ((b*(x + -r)+a)*x+c) l x=(x + -r)*evA (b*x+a) (qtA (a*r+c) l r) x+evA (a*r+c) l r
  rw [<-ih]
  congr 1
  have h1:(b*(x + -r)+a)*x=b*x*(x + -r)+a*x:=by rw [F.distR,F.mulA,F.mulC (x + -r),<-F.mulA]
  have h2:(b*x+a)*(x + -r)=b*x*(x + -r)+(a*x + -(a*r)):=by rw [F.distR,F.dist a,F.mulNeg]
  rw [h1,h2,F.addA,F.addA,F.addA]
  congr 2
  rw [<-F.addA,F.negA,F.zeroA]
theorem zh3:∀ (n:Nat) (l rs:List K),l.length=n->rs.Nodup->(∀ r,r ∈ rs->evA 1 l r=0)->rs.length<=n
 | 0,l,rs,hl,_,hr=>by
  rw [List.length_eq_zero_iff] at hl
  subst hl
  cases rs with
  | nil=>exact Nat.le_refl _
  | cons r rs=>exact absurd (hr r (by simp)) F.ne
 | n+1,[],rs,hl,_,_=>by simp at hl
 | n + 1, c :: l, rs, hl, hn, hr => by
  cases rs with
  | nil=>exact Nat.zero_le _
  | cons r rs =>
   rw [List.nodup_cons] at hn
   have ih:=zh3 n (qtA (1*r+c) l r) rs (by rw [zjz]; simpa using hl) hn.2 fun s hs=>by
    have h1:=zlz F s r (c :: l) 1 0
    rw [F.zMul,F.zeroA,hr s (by simp [hs]),hr r (by simp),F.addZ] at h1
    have h2:evA 0 (qtA 1 (c :: l) r) s=evA 1 (qtA (1*r+c) l r) s:=by
     show evA (0*s+1) (qtA (1*r+c) l r) s=_
     rw [F.zMul,F.zeroA]
    rw [h2] at h1
    refine F.zeroOr h1.symm fun e=>hn.1 ?_
    rw [<-F.subEq e]
    exact hs
   simp only [List.length_cons]
   omega
theorem zgr (x:K):∀ (n:Nat) (a:K),evA a (List.replicate n 0 ++ [-1]) x=a*pwK x (n+1) + -1
 | 0,a=>by show a*x + -1=a*(1*x) + -1; rw [F.oneM]
 | n+1,a=>by
  show evA (a*x+0) (List.replicate n 0 ++ [-1]) x=_
  rw [zgr x n,F.addZ,F.mulA]
  congr 2
  have:∀ k,x*pwK x k=pwK x (k+1):=fun k=>by show x*pwK x k=pwK x k*x; rw [F.mulC]
  exact this _
theorem zh4 (x:K) (a:Nat):∀ b,pwK x (a+b)=pwK x a*pwK x b
 | 0=>by show pwK x a=pwK x a*1; rw [F.mulOne]
 | b+1=>by show pwK x (a+b)*x=pwK x a*(pwK x b*x); rw [zh4 x a b,F.mulA]
theorem zfh (n:Nat):pwK (1:K) n=1:=by
 induction n with
 | zero=>rfl
 | succ n ih=>show pwK 1 n*1=1; rw [ih,F.oneM]
theorem zcZ (x:K) (a:Nat):∀ b,pwK x (a*b)=pwK (pwK x a) b
 | 0=>rfl
 | b+1=>by rw [Nat.mul_succ,zh4 F,zcZ x a b]; rfl
theorem zfi (x y:K):∀ n,pwK (x*y) n=pwK x n*pwK y n
 | 0=>by show (1:K)=1*1; rw [F.oneM]
 | n+1=>by
  show pwK (x*y) n*(x*y)=pwK x n*x*(pwK y n*y)
  rw [zfi x y n,F.mulA,F.mulA,F.mulL (pwK y n)]
theorem zlA {x:K} (hx:x≠0):∀ n,pwK x n≠0
 | 0=>F.ne
 | n+1=>fun h=>hx (F.zeroOr h (zlA hx n))
theorem IsOrd.dvd {x:K} {n k:Nat} (h:IsOrd x n) (hk:pwK x k=1):n ∣ k:=by
 obtain ⟨h1,h2,h3⟩:=h
 have e:pwK x (k % n)=1:=by
  have:=Nat.div_add_mod k n
  rw [<-this,zh4 F,zcZ F,h2,zfh F,F.oneM] at hk
  exact hk
 have hlt:=Nat.mod_lt k (show n > 0 by omega)
 refine Nat.dvd_of_mod_eq_zero (Classical.byContradiction fun hne=>h3 (k % n) (by omega) hlt e)
theorem IsOrd.power {x:K} {d e:Nat} (h:IsOrd x (d*e)) (hd:1<=d):IsOrd (pwK x d) e:=by
 have he:1<=e:=by
  have:=h.1
  rcases Nat.eq_zero_or_pos e with h0 | h0
  ·rw [h0] at this; omega
  ·exact h0
 refine zh2 he (by rw [<-zcZ F]; exact h.2.1) fun k hk=>?_
 rw [<-zcZ F] at hk
 exact Nat.dvd_of_mul_dvd_mul_left hd (h.dvd F hk)
theorem IsOrd.prod {x y:K} {a b:Nat} (h:IsOrd x a) (h':IsOrd y b) (hc:Nat.Coprime a b):IsOrd (x*y) (a*b):=by
 refine zh2 (Nat.mul_pos h.1 h'.1) ?_ fun k hk=>?_
 ·rw [zfi F,zcZ F,h.2.1,zfh F,Nat.mul_comm,zcZ F,h'.2.1,zfh F,F.oneM]
 ·rw [zfi F] at hk
  have hb:b ∣ k:=by
   have h1:pwK y (k*a)=1:=by
    have h2:pwK (pwK x k*pwK y k) a=1:=by rw [hk,zfh F]
    rw [zfi F,<-zcZ F,<-zcZ F,Nat.mul_comm k a,zcZ F x,h.2.1,zfh F,F.oneM,Nat.mul_comm a k] at h2
    exact h2
   exact (Nat.Coprime.dvd_of_dvd_mul_right hc.symm (h'.dvd F h1))
  have ha:a ∣ k:=by
   have h1:pwK x (k*b)=1:=by
    have h2:pwK (pwK x k*pwK y k) b=1:=by rw [hk,zfh F]
    rw [zfi F,<-zcZ F,<-zcZ F,Nat.mul_comm k b,zcZ F y,h'.2.1,zfh F,F.mulOne,Nat.mul_comm b k] at h2
    exact h2
   exact (Nat.Coprime.dvd_of_dvd_mul_right hc (h.dvd F h1))
  exact Nat.Coprime.mul_dvd_of_dvd_of_dvd hc ha hb
end
def PrimeN (p:Nat):Prop:=2<=p/\∀ d,d ∣ p->d=1∨d=p
theorem zdc {p a:Nat} (hp:PrimeN p) (ha:¬ p ∣ a):Nat.Coprime p a:=by
 rcases hp.2 _ (Nat.gcd_dvd_left p a) with h | h
 ·exact h
 ·exact absurd (h ▸ Nat.gcd_dvd_right p a) ha
theorem zfU:∀ b,2<=b->∃ p,PrimeN p/\p ∣ b:=by
 intro b
 induction b using Nat.strongRecOn with
 | ind b ih =>
  intro hb
  by_cases h:∃ d,d ∣ b/\d≠1/\d≠b
  ·obtain ⟨d,h1,h2,h3⟩:=h
   have hle:=Nat.le_of_dvd (by omega) h1
   have h0:d≠0:=fun e=>by rw [e,Nat.zero_dvd] at h1; omega
   obtain ⟨p,hp,hpd⟩:=ih d (by omega) (by omega)
   exact ⟨p,hp,Nat.dvd_trans hpd h1⟩
  ·exact ⟨b,⟨hb,fun d hd=>Classical.byContradiction fun hn=>h ⟨d,hd,fun e=>hn (.inl e),fun e=>hn (.inr e)⟩⟩,Nat.dvd_refl b⟩
theorem zgs {p:Nat} (hp:2<=p):∀ b,1<=b->∃ v c,b=p ^ v*c/\¬ p ∣ c:=by
 intro b
 induction b using Nat.strongRecOn with
 | ind b ih =>
  intro hb
  by_cases h:p ∣ b
  ·obtain ⟨c,rfl⟩:=h
   have hc:1<=c:=by
    rcases Nat.eq_zero_or_pos c with e | e
    ·rw [e] at hb; omega
    ·exact e
   have hlt:c<p*c:=by
    have:=Nat.mul_le_mul_right c hp
    omega
   obtain ⟨v,d,e,hd⟩:=ih c hlt hc
   refine ⟨v+1,d,?_,hd⟩
   rw [Nat.pow_succ,Nat.mul_comm (p ^ v) p,Nat.mul_assoc,<-e]
  ·exact ⟨0,b,by simp,h⟩
theorem zgW {a:Nat}:∀ b,1<=b->¬ b ∣ a->∃ p k,PrimeN p/\p ^ k ∣ b/\¬ p ^ k ∣ a:=by
 intro b
 induction b using Nat.strongRecOn with
 | ind b ih =>
  intro hb hn
  have hb2:2<=b:=by
   rcases (show b=1∨2<=b by omega) with e | e
   ·exact absurd (by rw [e]; exact Nat.one_dvd a) hn
   ·exact e
  obtain ⟨p,hp,hpb⟩:=zfU b hb2
  obtain ⟨v,c,e,hc⟩:=zgs hp.1 b hb
  by_cases h:p ^ v ∣ a
  ·have hcop:Nat.Coprime (p ^ v) c:=Nat.Coprime.pow_left v (zdc hp hc)
   have hca:¬ c ∣ a:=fun hca=>hn (by rw [e]; exact Nat.Coprime.mul_dvd_of_dvd_of_dvd hcop h hca)
   have hv:v≠0:=fun h0=>by
    rw [h0,Nat.pow_zero,Nat.one_mul] at e;rw [e] at hpb
    exact hc hpb
   have hc1:1<=c:=by
    rcases Nat.eq_zero_or_pos c with h0 | h0
    ·rw [h0] at e; omega
    ·exact h0
   have hlt:c<b:=by
    have h1:2<=p ^ v:=Nat.le_trans hp.1 (by
     have:=Nat.pow_le_pow_right (show 0<p by have:=hp.1; omega) (show 1<=v by omega)
     simpa using this)
    have:=Nat.mul_le_mul_right c h1
    omega
   obtain ⟨p',k,h1,h2,h3⟩:=ih c hlt hc1 hca
   exact ⟨p',k,h1,by rw [e]; exact Nat.dvd_trans h2 (Nat.dvd_mul_left c _),h3⟩
  ·exact ⟨p,v,hp,by rw [e]; exact Nat.dvd_mul_right _ _,h⟩
section
variable {K:Type} [Add K] [Mul K] [Neg K] [Zero K] [One K] (F:Fie K)
include F
theorem zfj {x y:K} {a b:Nat} (hx:IsOrd x a) (hy:IsOrd y b) (h:¬ b ∣ a):∃ (z:K) (n:Nat),IsOrd z n/\a<n:=by
 obtain ⟨p,k,hp,h1,h2⟩:=zgW b hy.1 h
 obtain ⟨v,c,e,hc⟩:=zgs hp.1 a hx.1
 have hp0:0<p:=by have:=hp.1; omega
 have hvk:v<k:=Classical.byContradiction fun hn=>h2 (by
  rw [e]
  exact Nat.dvd_trans (Nat.pow_dvd_pow p (by omega)) (Nat.dvd_mul_right _ _))
 obtain ⟨d,hd⟩:=h1
 have hd1:1<=d:=by
  have:=hy.1
  rcases Nat.eq_zero_or_pos d with h0 | h0
  ·rw [h0] at hd; omega
  ·exact h0
 have o1:IsOrd (pwK x (p ^ v)) c:=IsOrd.power F (by rw [<-e]; exact hx) (Nat.pow_pos hp0)
 have o2:IsOrd (pwK y d) (p ^ k):=IsOrd.power F (by rw [Nat.mul_comm,<-hd]; exact hy) hd1
 have hcop:Nat.Coprime c (p ^ k):=(Nat.Coprime.pow_left k (zdc hp hc)).symm
 refine ⟨_,_,o1.prod F o2 hcop,?_⟩
 rw [e,Nat.mul_comm c]
 exact Nat.mul_lt_mul_of_pos_right (Nat.pow_lt_pow_right hp.1 hvk) o1.1
theorem zdF {L:List K} (hn:L.Nodup) (hc:∀ a,a ∈ L):∃ x:K,x≠0/\IsOrd x (L.length - 1):=by
 classical
 have hpig:∀ {l m:List K},l.Nodup->(∀ x,x ∈ l->x ∈ m)->l.length<=m.length:=by
  intro l
  induction l with
  | nil=>intro m _ _; exact Nat.zero_le _
  | cons a l ih =>
   intro m h1 h2
   have ha:=h2 a (by simp)
   rw [List.nodup_cons] at h1
   have hl:=List.length_erase_of_mem ha
   have hp:=ih (m:=m.erase a) h1.2 fun x hx=>(List.mem_erase_of_ne (fun e:x=a=>h1.1 (by rw [<-e]; exact hx))).2 (h2 x (by simp [hx]))
   have hpos:=List.length_pos_of_mem ha
   simp only [List.length_cons]
   omega
 have hU:(L.erase 0).length=L.length - 1:=List.length_erase_of_mem (hc 0)
 have hUm:∀ x:K,x≠0->x ∈ L.erase 0:=fun x hx=>(List.mem_erase_of_ne hx).2 (hc x)
 -- powers below the order are different
 have hinj:∀ (x:K) (n:Nat),x≠0->(∀ k,1<=k->k<n->pwK x k≠1)->((List.range n).map (pwK x)).Nodup:=by
  intro x n hx hk
  rw [List.Nodup,List.pairwise_map]
  have key:∀ i j,i<j->j<n->pwK x i≠pwK x j:=fun i j hij hj e=>by
   refine hk (j - i) (by omega) (by omega) ?_
   rw [show j=i+(j - i) by omega,zh4 F] at e
   have h1:pwK x i*pwK x (j - i)=pwK x i*1:=by rw [<-e,F.mulOne]
   obtain ⟨y,hy⟩:=F.inv _ (zlA F hx i)
   have h2:y*(pwK x i*pwK x (j - i))=y*(pwK x i*1):=by rw [h1]
   rwa [<-F.mulA,<-F.mulA,F.mulC y,hy,F.oneM,F.oneM] at h2
  refine List.Pairwise.imp_of_mem (R:=fun a b=>a<b) (fun {a b} ha hb hab=>key a b hab (List.mem_range.1 hb)) List.pairwise_lt_range
 have hle:∀ (x:K) (n:Nat),x≠0->(∀ k,1<=k->k<n->pwK x k≠1)->n<=L.length - 1:=fun x n hx hk=>by
  have:=hpig (hinj x n hx hk) (m:=L.erase 0) fun z hz=>by
   obtain ⟨i,_,rfl⟩:=List.mem_map.1 hz
   exact hUm _ (zlA F hx i)
  rw [hU] at this
  simpa using this
 have hord:∀ x:K,x≠0->∃ n,IsOrd x n:=fun x hx=>by
  have hex:∃ n,1<=n/\pwK x n=1:=Classical.byContradiction fun hno=>by
   have:=hle x (L.length+1) hx fun k h1 _ e=>hno ⟨k,h1,e⟩
   omega
  obtain ⟨n,h1,h2⟩:=zi1 hex
  exact ⟨n,h1.1,h1.2,fun k h3 h4 e=>h2 k h4 ⟨h3,e⟩⟩
 -- the greatest order
 have hmax:∃ x n,x≠(0:K)/\IsOrd x n/\∀ y m,y≠(0:K)->IsOrd y m->m<=n:=by
  refine Classical.byContradiction fun hno=>?_
  have step:∀ t,∃ x n,x≠(0:K)/\IsOrd x n/\t<=n:=by
   intro t
   induction t with
   | zero =>
    obtain ⟨n,h⟩:=hord 1 F.ne
    exact ⟨1,n,F.ne,h,Nat.zero_le _⟩
   | succ t ih =>
    obtain ⟨x,n,h1,h2,h3⟩:=ih
    refine Classical.byContradiction fun hn2=>hno ⟨x,n,h1,h2,fun y m hy hm=>?_⟩
    refine Classical.byContradiction fun hlt=>hn2 ⟨y,m,hy,hm,by omega⟩
  obtain ⟨x,n,h1,h2,h3⟩:=step (L.length+1)
  have:=hle x n h1 h2.2.2
  omega
 obtain ⟨x,e,hx,he,hbig⟩:=hmax
 refine ⟨x,hx,?_⟩
 have h1:=hle x e hx he.2.2
 have hall:∀ y:K,y≠0->pwK y e=1:=fun y hy=>by
  obtain ⟨m,hm⟩:=hord y hy
  have hdv:m ∣ e:=Classical.byContradiction fun hnd=>by
   obtain ⟨z,n,hz,hlt⟩:=zfj F he hm hnd
   have hz0:z≠0:=fun e0=>by
    have h2:=hz.2.1
    rw [e0] at h2
    have h3:=hz.1
    obtain ⟨k,rfl⟩:∃ k,n=k+1:=⟨n - 1,by omega⟩
    rw [show pwK (0:K) (k+1)=pwK 0 k*0 from rfl,F.mulZ] at h2
    exact F.ne h2.symm
   have:=hbig z n hz0 hz
   omega
  obtain ⟨k,rfl⟩:=hdv
  rw [zcZ F,hm.2.1,zfh F]
 have hroots:=zh3 F e (List.replicate (e - 1) 0 ++ [-1]) (L.erase 0) (by have:=he.1; simp; omega) (hn.erase 0) fun r hr=>by
  have hr0:r≠0:=fun e0=>by rw [e0] at hr; exact (List.Nodup.mem_erase_iff hn).1 hr |>.1 rfl
  rw [zgr F,F.oneM,show e - 1+1=e by have:=he.1; omega,hall r hr0,F.addN]
 rw [hU] at hroots
 obtain rfl:e=L.length - 1:=by omega
 exact he
end
theorem zkH {P M:Int} (h:256<P):ordV P M=0:=by
 unfold ordV
 split
 ·rename_i h2
  exfalso
  obtain ⟨h3,h4,_,h5⟩:=h2
  have h6:=Nat.pow_le_pow_right (n:=P.toNat) (show 0<P.toNat by omega) (show 1<=M.toNat by omega)
  rw [Nat.pow_one] at h6
  omega
 ·rfl
theorem zc0 (P M : Int) (w : World) : Calls Tryz.prog 146 #[.int .i64 P, .int .i64 M] w (OrderPost P M w) := by
 by_cases h1:P<2
 ·have hz:=hid (zdW (P:=P) (M:=M) (.inl h1))
  go_enter Tryz.func146, Tryz.ntmps146
  go_wp2
  go_ret
  exact zaQ hz.out (Below.refl _ _)
 ·by_cases h2:P > 256
  ·have hz:=hid (zkH (P:=P) (M:=M) h2)
   go_enter Tryz.func146, Tryz.ntmps146
   go_wp2
   go_ret
   exact zaQ hz.out (Below.refl _ _)
  ·by_cases h3:M<1
   ·have hz:=hid (zdW (P:=P) (M:=M) (.inr (.inl h3)))
    go_enter Tryz.func146, Tryz.ntmps146
    go_wp2
    go_ret
    exact zaQ hz.out (Below.refl _ _)
   ·by_cases h4:M > 8
    ·have hz:=hid (zdW (P:=P) (M:=M) (.inr (.inr h4)))
     go_enter Tryz.func146, Tryz.ntmps146
     go_wp2
     go_ret
     exact zaQ hz.out (Below.refl _ _)
    ·obtain ⟨p,rfl⟩:∃ p:Nat,P=p:=⟨P.toNat,by omega⟩
     obtain ⟨m,rfl⟩:∃ m:Nat,M=m:=⟨M.toNat,by omega⟩
     have HVAL:Hid (∀ v:Nat,(p ^ m<=256->v=p ^ m)->(256<p ^ m->v=0)->ordV (p:Int) (m:Int)=(v:Int)):=fun v hv1 hv2=>by
      unfold ordV
      rw [Int.toNat_natCast,Int.toNat_natCast]
      by_cases h:p ^ m<=256
      ·rw [if_pos ⟨by omega,by omega,by omega,h⟩,hv1 h]
      ·rw [if_neg (fun hh=>h hh.2.2.2),hv2 (by omega)]; rfl
     have hm0:(0:Int)<=(m:Int):=by omega
     go_enter Tryz.func146, Tryz.ntmps146
     go_wp2
     go_loopg [5,21] m (fun gg qv iv wx=>∃ i y:Nat,qv=.int .i64 (y:Nat)/\iv=.int .i64 (i:Nat)/\i<=m/\m<=i+gg/\Hid (y=p ^ i)/\y<=256/\wx=w)
     case atStart=>exact ⟨0,1,rfl,rfl,by omega,by omega,rfl,by omega,rfl⟩
     case round =>
      obtain ⟨i,y,rfl,rfl,hi,hig,HY,hy,hwx⟩:=hrel
      subst hwx
      by_cases hlt:i<m
      ·have hlt':(i:Int)<(m:Int):=by omega
       obtain ⟨z,hz⟩:∃ z,z=y*p:=⟨_,rfl⟩
       have hzz:(y:Int)*(p:Int)=(z:Int):=by rw [hz]; simp
       have hzl:z<=65536:=by rw [hz]; exact Nat.mul_le_mul (show y<=256 by omega) (show p<=256 by omega)
       have HZ:Hid (z=p ^ (i+1)):=by show _=_; rw [hz,HY.out,Nat.pow_succ]
       clear hz
       by_cases hb:z > 256
       ·have hb':(z:Int) > 256:=by omega
        have hno:=hid (HVAL.out 0 (fun h=>by
         have h5:=Nat.pow_le_pow_right (n:=p) (by omega) (show i+1<=m by omega)
         rw [<-HZ.out] at h5
         omega) (fun _=>rfl))
        go_wp2
        go_ret
        exact ⟨by rw [hno.out]; rfl,Below.refl _ _⟩
       ·have hb':¬ (z:Int) > 256:=by omega
        go_wp2
        go_roundg (gk - 1)
        case measure=>omega
        case rel=>exact ⟨i+1,z,rfl,by go_num,by omega,by omega,HZ,by omega,rfl⟩
      ·have hlt':¬ (i:Int)<(m:Int):=by omega
       obtain rfl:i=m:=by omega
       have hyes:=hid (HVAL.out y (fun _=>HY.out) (fun h=>by have:=HY.out; omega))
       go_wp2
       go_ret
       exact ⟨by rw [hyes.out]; rfl,Below.refl _ _⟩
theorem zeA {n d:Nat} (hd:n<d*d) (h:∀ e,2<=e->e<d->n % e≠0):PrimeB n:=by
 intro e h1 h2 h3
 obtain ⟨f,hf⟩:=Nat.dvd_of_mod_eq_zero h3
 have hf2:2<=f:=by
  rcases (show f=0∨f=1∨2<=f by omega) with e0 | e0 | e0
  ·subst e0; omega
  ·subst e0; omega
  ·exact e0
 by_cases he:e<d
 ·exact h e h1 he h3
 ·by_cases hfd:f<d
  ·exact h f hf2 hfd (by rw [hf]; exact Nat.mul_mod_left e f)
  ·have:=Nat.mul_le_mul (show d<=e by omega) (show d<=f by omega)
   omega
theorem zgX (P:Nat) (w:World) (hP2:2<=P) (hP:P<=256) :
  Calls Tryz.prog 210 #[.int .i64 (P:Nat)] w (PrimePost P w):=by
 have hP2':(P:Int) ≥ 2:=by omega
 have hP2'':(2:Int)<=(P:Int):=by omega
 go_enter Tryz.func210, Tryz.ntmps210
 go_wp2
 go_loopg [3] 20 (fun gg iv wx=>∃ d:Nat,iv=.int .i64 (d:Nat)/\2<=d/\d<=17/\20<=d+gg/\Hid (∀ d',2<=d'->d'<d->P % d'≠0)/\wx=w)
 case atStart=>exact ⟨2,rfl,by omega,by omega,by omega,fun d' h1 h2=>absurd h1 (by omega),rfl⟩
 case round =>
  obtain ⟨d,rfl,h2,hd,hdg,HG,hwx⟩:=hrel
  subst hwx
  have hd2:(2:Int)<=(d:Int):=by omega
  have hd0:¬ (d:Int)=0:=by omega
  have hdm:(d:Int)<=17:=by omega
  obtain ⟨z,hz⟩:∃ z,z=d*d:=⟨_,rfl⟩
  have hzz:(d:Int)*(d:Int)=(z:Int):=by rw [hz]; simp
  have hzl:z<=289:=by rw [hz]; exact Nat.mul_le_mul hd hd
  have HZ:=hid hz
  clear hz
  by_cases hlt:z<=P
  ·have hlt':(z:Int)<=(P:Int):=by omega
   have hmod:(P:Int) % (d:Int)=((P % d:Nat):Int):=by simp
   obtain ⟨r,hr⟩:∃ r,r=P % d:=⟨_,rfl⟩
   rw [<-hr] at hmod
   have HR:=hid hr
   clear hr
   have hd16:d<=16:=Classical.byContradiction fun hn=>by
    obtain rfl:d=17:=by omega
    have:=HZ.out
    omega
   by_cases h0:r=0
   ·subst h0
    have HNO:Hid (¬ PrimeB P):=fun h=>h d h2 (by
     have:=HZ.out
     have h5:2*d<=d*d:=Nat.mul_le_mul_right d h2
     omega) HR.out.symm
    go_wp2
    go_ret
    exact ⟨false,rfl,⟨(fun h=>by cases h),fun h=>absurd h HNO.out⟩,rfl⟩
   ·have hb:((r:Int) == 0)=false:=by simp; omega
    have hnx:Hid (∀ d',2<=d'->d'<d+1->P % d'≠0):=fun d' e1 e2=>by
     by_cases e:d'=d
     ·rw [e,<-HR.out]; exact h0
     ·exact HG.out d' e1 (by omega)
    go_wp2
    go_roundg (gk - 1)
    case measure=>omega
    case rel=>exact ⟨d+1,by go_num,by omega,by omega,by omega,hnx,rfl⟩
  ·have hlt':¬ (z:Int)<=(P:Int):=by omega
   have HYES:=hid (zeA (n:=P) (d:=d) (by have:=HZ.out; omega) HG.out)
   go_wp2
   go_ret
   exact ⟨true,rfl,⟨fun _=>HYES.out,fun _=>rfl⟩,rfl⟩
theorem zdG (x p n:Nat) (w:World) (hx:x<=1048576) (hp:1<=p) (hp2:p<=256) (hn:n<=64) :
  Calls Tryz.prog 250 #[.int .i64 (x:Nat),.int .i64 (p:Nat),.int .i64 (n:Nat)] w (RowPost n (fun i=>.int .i64 (dig p x i:Nat)) w):=by
 have hmk:=fun W=>zan (P:=Tryz.prog) 22 3 _ 8 Tryz.underlying22 Tryz.infoInt rfl (n:Int) (by omega) (by omega) (by omega) W
 simp only [Int.toNat_natCast] at hmk
 have row:=World.rowIs_made w (.int .i64 0) n 3
 have hB:Below w.heap.size w (w.alloc (.cells (madeCells #[.int .i64 0] n) 3)):=(Below.refl _ _).alloc (Nat.le_refl _) _
 have hp1:(1:Int)<=(p:Int):=by omega
 have hp0:¬ (p:Int)=0:=by omega
 have hpm:(p:Int)<=256:=by omega
 go_enter Tryz.func250, Tryz.ntmps250
 go_wp2
 obtain ⟨w1,hw1⟩:∃ W,W=w.alloc (.cells (madeCells #[.int .i64 0] n) 3):=⟨_,rfl⟩
 obtain ⟨g,hg⟩:∃ g,g=w.heap.size:=⟨_,rfl⟩
 rw [<-hw1,<-hg];rw [<-hw1] at hB row;rw [<-hg] at row
 have hgB:w.heap.size<=g:=by omega
 clear hw1 hg hmk
 go_loopg [0,8,13] n (fun gg xv _ iv wx=>∃ i:Nat,iv=.int .i64 (i:Nat)/\xv=.int .i64 (x / p ^ i:Nat)/\i<=n/\n<=i+gg/\wx.rowIs g 3 n (fun j=>.int .i64 (if j<i then (dig p x j:Nat) else 0:Int))/\Below w.heap.size w wx)
 case atStart=>exact ⟨0,rfl,by simp,by omega,by omega,row.congr fun i _=>rfl,hB⟩
 case round =>
  clear row hB
  obtain ⟨i,rfl,rfl,hi,hig,row,hB⟩:=hrel
  have hi0:(0:Int)<=(i:Int):=by omega
  have hle:x / p ^ i<=x:=Nat.div_le_self _ _
  have hst:x / p ^ (i+1)=x / p ^ i / p:=by rw [Nat.pow_succ,Nat.div_div_eq_div_mul]
  have hdg:dig p x i=x / p ^ i % p:=rfl
  obtain ⟨y,hy⟩:∃ y,y=x / p ^ i:=⟨_,rfl⟩
  rw [<-hy] at hle hst hdg;rw [<-hy]
  have HST:=hid hst
  have HDG:=hid hdg
  clear hy hst hdg
  by_cases hlt:i<n
  ·have hlt':(i:Int)<(n:Int):=by omega
   have hy0:(0:Int)<=(y:Int):=by omega
   have hy1:(y:Int)<=1048576:=by omega
   have hmod:(y:Int) % (p:Int)=((y % p:Nat):Int):=by simp
   have hdiv:(y:Int) / (p:Int)=((y / p:Nat):Int):=by simp
   obtain ⟨r,hr⟩:∃ r,r=y % p:=⟨_,rfl⟩
   obtain ⟨z,hz⟩:∃ r,r=y / p:=⟨_,rfl⟩
   rw [<-hr] at hmod;rw [<-hz] at hdiv
   have hz0:(0:Int)<=(z:Int):=by omega
   have hz1:(z:Int)<=1048576:=by have:y / p<=y:=Nat.div_le_self _ _; omega
   have HR:=hid hr
   have HZ:=hid hz
   clear hr hz
   have c0:=row.cell hlt
   have z0:=row.frozen i
   have HROW2:Hid ((wr.setCell ⟨g,i,none⟩ (.int .i64 (r:Int))).rowIs g 3 n (fun j=>.int .i64 (if j<i+1 then (dig p x j:Nat) else 0:Int))):=(row.set i _).congr fun j hj=>by
    by_cases e:j=i
    ·subst e
     rw [if_pos rfl,if_pos (by omega),HDG.out,HR.out]
    ·rw [if_neg e]
     by_cases e2:j<i
     ·rw [if_pos e2,if_pos (by omega)]
     ·rw [if_neg e2,if_neg (by omega)]
   have HB2:Hid (Below w.heap.size w (wr.setCell ⟨g,i,none⟩ (.int .i64 (r:Int)))):=hB.setCell hgB _
   clear row hB
   go_wp2
   go_roundg (gk - 1)
   case measure=>omega
   case rel=>exact ⟨i+1,by go_num,by rw [HST.out,HZ.out],by omega,by omega,HROW2.out,HB2.out⟩
  ·obtain rfl:i=n:=by omega
   have hlt':¬ (i:Int)<(i:Int):=by omega
   have hrow:Hid (wr.rowIs g 3 i (fun j=>.int .i64 (dig p x j:Nat))):=row.congr fun j hj=>by rw [if_pos hj]
   clear row
   go_wp2
   go_ret
   exact ⟨g,rfl,hgB,hrow.out,hB⟩
theorem zgY (P:Nat) (T:Option Addr) (n d:Nat) (f:Nat->Nat) (w:World) (hP2:2<=P) (hP:P<=256) (h:IntsR w w.heap.size T n (fun i=>(f i:Nat))) (hd:Hid (∀ i,i<n->f i<P)) (hn:P ^ n<=256) (hn8:n<=8) :
  Calls Tryz.prog 251 #[.slice T n d,.int .i64 (P:Nat)] w fun e w'=>e=.returned (.int .i64 (valN P f n:Nat))/\Below w.heap.size w w':=by
 have hT:=hid h
 clear h
 go_enter Tryz.func251, Tryz.ntmps251
 go_wp2
 go_loopg [5,6] n (fun gg xv iv wx=>∃ j:Nat,iv=.int .i64 ((n:Int) - 1 - (j:Nat))/\xv=.int .i64 (valN P (fun i=>f (n - j+i)) j:Nat)/\j<=n/\n<=j+gg/\Below w.heap.size w wx)
 case atStart=>exact ⟨0,by go_num,rfl,by omega,by omega,Below.refl _ _⟩
 case round =>
  obtain ⟨j,rfl,rfl,hj,hjg,hB⟩:=hrel
  have hvl:=zbE (p:=P) (n:=j) (f:=fun i=>f (n - j+i)) (fun i hi=>hd.out _ (by omega))
  have hpw:P ^ j<=P ^ n:=Nat.pow_le_pow_right (by omega) hj
  by_cases hlt:j<n
  ·have hge:(0:Int)<=(n:Int) - 1 - (j:Int):=by omega
   obtain ⟨i,hi⟩:∃ i:Nat,i=n - 1 - j:=⟨_,rfl⟩
   have hii:(n:Int) - 1 - (j:Int)=(i:Int):=by omega
   have hin:i<n:=by omega
   have hin':(i:Int)<(n:Int):=by omega
   have hi0:(0:Int)<=(i:Int):=by omega
   rw [hii]
   obtain ⟨b,o,rfl,hb,e0⟩:=(hT.out.on hB).at hin
   have hfi:=hd.out i hin
   have hnx:valN P (fun t=>f (n - (j+1)+t)) (j+1)=f i+P*valN P (fun t=>f (n - j+t)) j:=by
    show f (n - (j+1)+0)+P*valN P (fun t=>f (n - (j+1)+(t+1))) j=_
    rw [show n - (j+1)+0=i by omega]
    congr 2
    exact zaZ fun t _=>by rw [show n - (j+1)+(t+1)=n - j+t by omega]
   obtain ⟨V,hV⟩:∃ V,V=valN P (fun t=>f (n - j+t)) j:=⟨_,rfl⟩
   obtain ⟨D,hD⟩:∃ D,D=f i:=⟨_,rfl⟩
   rw [<-hV] at hvl hnx;rw [<-hD] at e0 hfi hnx;rw [<-hV]
   have HNX:=hid hnx
   have HII:=hid hii
   clear hV hD hnx hi hii hge
   have hV0:(0:Int)<=(V:Int):=by omega
   have hV1:(V:Int)<=256:=by omega
   have hD0:(0:Int)<=(D:Int):=by omega
   have hD1:(D:Int)<=256:=by omega
   have hVP:V*P<=256*256:=Nat.mul_le_mul (by omega) hP
   have hmul:(V:Int)*(P:Int)=((V*P:Nat):Int):=by simp
   obtain ⟨R,hR⟩:∃ R,R=V*P:=⟨_,rfl⟩
   rw [<-hR] at hVP hmul
   have HR:=hid hR
   clear hR
   have hw1:IntKind.i64.wrap ((V:Int)*(P:Int))=(R:Int):=by rw [hmul]; exact IntWalk.i64_in _ (by omega)
   have hw2:IntKind.i64.wrap ((R:Int)+(D:Int))=(R:Int)+(D:Int):=IntWalk.i64_in _ (by omega)
   have hw3:IntKind.i64.wrap (R:Int)=(R:Int):=IntWalk.i64_in _ (by omega)
   go_wp2
   go_roundg (gk - 1)
   case measure=>omega
   case rel=>exact ⟨j+1,by have:=HII.out; go_num,by rw [HNX.out,Nat.mul_comm P V,<-HR.out]; go_num,by omega,by omega,hB⟩
  ·obtain rfl:j=n:=by omega
   have hge:¬ (0:Int)<=(j:Int) - 1 - (j:Int):=by omega
   have hge2:¬ (j:Int)<=(j:Int) - 1:=by omega
   have hv:valN P (fun i=>f (j - j+i)) j=valN P f j:=zaZ fun i _=>by rw [show j - j+i=i by omega]
   rw [hv] at hvl ⊢
   obtain ⟨V,hV⟩:∃ V,V=valN P f j:=⟨_,rfl⟩
   rw [<-hV] at hvl ⊢
   have HV:=hid hV
   clear hV hv
   go_wp2
   go_ret
   exact ⟨by rw [HV.out]; rfl,hB⟩
def hStep (P M:Nat) (m:Nat->Nat) (a:Nat->Nat) (bi:Nat) (o:Nat->Nat) (j:Nat):Nat:=((if j=0 then 0 else o (j - 1))+(P - o (M - 1))*(if 1<M then m j else 0)+bi*a j) % P
def hOut (P M:Nat) (m a b:Nat->Nat):Nat->Nat->Nat
 | 0=>fun _=>0
 | s+1=>hStep P M m a (b (M - 1 - s)) (hOut P M m a b s)
theorem zfk {P M:Nat} {m a b:Nat->Nat} (hP:0<P):∀ s j,hOut P M m a b s j<P
 | 0,_=>hP
 | _+1,_=>Nat.mod_lt _ hP
theorem zjA {P M:Nat} {m a b:Nat->Nat} (hP:0<P):∀ s,s<=M->∀ j,j<M->cg P (hOut P M m a b s j) (sig s fun t=>(b (M - s+t):Int)*sig M fun i=>(a i:Int)*pwX M m (i+t) j)
 | 0,_,_,_=>zaD _
 | s + 1, hs, j, hj => by
  have ih:=fun j' (hj':j'<M)=>zjA (m:=m) (a:=a) (b:=b) hP s (by omega) j' hj'
  have hlt:=zfk (M:=M) (m:=m) (a:=a) (b:=b) hP s (M - 1)
  obtain ⟨o,ho⟩:∃ o,o=hOut P M m a b s:=⟨_,rfl⟩
  rw [<-ho] at ih hlt
  have e1:hOut P M m a b (s+1) j=((if j=0 then 0 else o (j - 1))+(P - o (M - 1))*(if 1<M then m j else 0)+b (M - 1 - s)*a j) % P:=by rw [ho]; rfl
  rw [e1]
  refine (zeU _).trans ?_
  -- the sum without its first summand
  have e2:sig (s+1) (fun t=>(b (M - (s+1)+t):Int)*sig M fun i=>(a i:Int)*pwX M m (i+t) j)=(b (M - 1 - s):Int)*a j+sig s (fun t=>(b (M - s+t):Int)*sig M fun i=>(a i:Int)*pwX M m (i+t+1) j):=by
   rw [show s+1=1+s by omega,ziy 1 s]
   congr 1
   ·show (0:Int)+(b (M - (1+s)):Int)*sig M (fun i=>(a i:Int)*pwX M m i j)=_
    rw [zcg hj fun i hi hne=>by rw [zbO hi,if_neg (by omega)]; omega,zbO hj,if_pos rfl,show M - (1+s)=M - 1 - s by omega,Int.mul_one,Int.zero_add]
   ·refine zag fun t _=>?_
    rw [show M - (1+s)+(1+t)=M - s+t by omega]
    congr 1
    exact zag fun i _=>by rw [show i+(1+t)=i+t+1 by omega]
  rw [e2]
  have e3:sig s (fun t=>(b (M - s+t):Int)*sig M fun i=>(a i:Int)*pwX M m (i+t+1) j)=(if j=0 then 0 else sig s fun t=>(b (M - s+t):Int)*sig M fun i=>(a i:Int)*pwX M m (i+t) (j - 1)) - m j*sig s (fun t=>(b (M - s+t):Int)*sig M fun i=>(a i:Int)*pwX M m (i+t) (M - 1)):=by
   rw [<-zdt]
   by_cases e:j=0
   ·rw [if_pos e]
    have:(0:Int)=sig s fun _=>0:=(zbB s).symm
    rw [this,<-zgb]
    refine zag fun t _=>?_
    have h1:sig M (fun i=>(a i:Int)*pwX M m (i+t+1) j) = - (m j*sig M fun i=>(a i:Int)*pwX M m (i+t) (M - 1)):=by
     rw [<-zdt,<-zjg]
     refine zag fun i _=>?_
     show (a i:Int)*(if j<M then (if j=0 then 0 else pwX M m (i+t) (j - 1)) - m j*pwX M m (i+t) (M - 1) else 0)=_
     rw [if_pos hj,if_pos e]
     grind
    rw [h1]
    grind
   ·rw [if_neg e,<-zgb]
    refine zag fun t _=>?_
    have h1:sig M (fun i=>(a i:Int)*pwX M m (i+t+1) j)=sig M (fun i=>(a i:Int)*pwX M m (i+t) (j - 1)) - m j*sig M fun i=>(a i:Int)*pwX M m (i+t) (M - 1):=by
     rw [<-zdt,<-zgb]
     refine zag fun i _=>?_
     show (a i:Int)*(if j<M then (if j=0 then 0 else pwX M m (i+t) (j - 1)) - m j*pwX M m (i+t) (M - 1) else 0)=_
     rw [if_pos hj,if_neg e]
     grind
    rw [h1]
    grind
  rw [e3]
  have c1:cg P (((if j=0 then 0 else o (j - 1):Nat):Int)) (if j=0 then 0 else sig s fun t=>(b (M - s+t):Int)*sig M fun i=>(a i:Int)*pwX M m (i+t) (j - 1)):=by
   by_cases e:j=0
   ·rw [if_pos e,if_pos e]; exact zaD _
   ·rw [if_neg e,if_neg e]; exact ih (j - 1) (by omega)
  have c2:cg P ((((P - o (M - 1))*(if 1<M then m j else 0):Nat):Int)) (- (m j*sig s fun t=>(b (M - s+t):Int)*sig M fun i=>(a i:Int)*pwX M m (i+t) (M - 1))):=by
   by_cases e:1<M
   ·rw [if_pos e]
    have h1:cg P (((P - o (M - 1))*m j:Nat):Int) (- (m j*(o (M - 1):Int))):=⟨m j,by rw [Int.natCast_mul,Int.natCast_sub (Nat.le_of_lt hlt)]; grind⟩
    exact h1.trans ((Go.Proofs.YtioagplajkoohaaGreat.cg.mulL _ (ih (M - 1) (by omega))).neg)
   ·rw [if_neg e,Nat.mul_zero]
    obtain rfl:s=0:=by omega
    exact zcd (by show (0:Int) = -(m j*0); omega)
  rw [Int.natCast_add,Int.natCast_add,Int.natCast_mul (b (M - 1 - s))]
  refine ((c1.add c2).add (zaD _)).trans (zcd ?_)
  omega
theorem zkI {P M:Nat} {m:Nat->Nat} (hP:0<P) (hM:1<=M) (x y:Nat):valN P (hOut P M m (dig P x) (dig P y) M) M=mulF P M m x y:=by
 refine zbP hP (zbE fun i _=>zfk hP M i) (za3 hP x y) fun j hj=>?_
 have h1:dgt P (valN P (hOut P M m (dig P x) (dig P y) M) M) j=((hOut P M m (dig P x) (dig P y) M j:Nat):Int):=by
  unfold dgt
  rw [zbC (fun i _=>zfk hP M i) j hj]
 rw [h1]
 refine (zjA hP M (Nat.le_refl _) j hj).trans (Go.Proofs.YtioagplajkoohaaGreat.cg.trans (zcd ?_) (zei hP hM x y hj).symm)
 rw [zbb]
 unfold mulI
 refine zag fun t _=>?_
 rw [show M - M+t=t by omega]
 unfold dgt
 congr 1
 exact zag fun i _=>by rw [Nat.add_comm i t]
theorem drewSet {B:Nat} {a w:World} {p:Addr} {v:Value} (h:Below B a (w.setCell p v)):Below B a (w.drew.setCell p v):=⟨h.os,h.tape,h.output,h.size,h.block⟩
theorem zi2 {w':World} {g M L:Nat} {t:TypeId} {F:Nat->Value} {cs:Array Value} (h1:cs.size=M) (h2:∀ i,i<M->cs[i]?=some (F i)) (hM:L+1=M) (h:w'.heap[g]?=some (.cells (splice cs.toList 1 ((List.range L).map F)).toArray t (0,0))):w'.rowIs g t M (fun j=>if j=0 then F 0 else F (j - 1)):=by
 have hl:(splice cs.toList 1 ((List.range L).map F)).length=M:=by rw [length_splice _ _ _ (by simp; omega)]; simpa using h1
 refine ⟨_,h,by simpa using hl,fun i hi=>?_⟩
 rw [List.getElem?_toArray]
 unfold splice
 have hcl:cs.toList.length=M:=by simpa using h1
 show _=some (if i=0 then F 0 else F (i - 1))
 by_cases e:i=0
 ·subst e
  rw [if_pos rfl,List.getElem?_append_left (by rw [List.length_take]; omega),List.getElem?_take_of_lt (by omega),Array.getElem?_toList]
  exact h2 0 hi
 ·rw [if_neg e,List.getElem?_append_right (by rw [List.length_take]; omega),List.length_take,show i - min 1 cs.toList.length=i - 1 by omega,List.getElem?_append_left (by simp; omega)]
  simp [show i - 1<L by omega]
theorem zdH (P M:Nat) (A:Option Addr) (k c:Nat) (m:Nat->Nat) (x y:Nat) (w:World) (hf:FldOk P M) (hm:ModOk w P M A m) (hkM:M=1∨k=M) (hx:x<P ^ M) (hy:y<P ^ M) :
  Calls Tryz.prog 212 #[.agg #[.int .i64 (P:Nat),.int .i64 (M:Nat),.slice A k c],.int .i64 (x:Nat),.int .i64 (y:Nat)] w fun e w'=>e=.returned (.int .i64 (mulF P M m x y:Nat))/\Below w.heap.size w w':=by
 have hq:=hf.2.2.2
 have hP2:=hf.1
 have hP6:=hf.P_le
 have hM1:=hf.2.1
 have hM8:=hf.2.2.1
 have hP1:1<=P:=by omega
 have hP0:0<P:=by omega
 have hx6:x<=1048576:=by omega
 have hy6:y<=1048576:=by omega
 have hM6:M<=64:=by omega
 have HEQ:=hid (zkI (m:=m) hP0 hM1 x y)
 have HQ:=hid hq
 clear hq hx hy
 have hB:Below w.heap.size w (w.alloc (.cells #[.int .i64 (P:Nat),.int .i64 (M:Nat),.slice A k c] 24)):=(Below.refl _ _).alloc (Nat.le_refl _) _
 have rf:=zaf (w:=w) (a:=.int .i64 (P:Nat)) (b:=.int .i64 (M:Nat)) (c:=.slice A k c) (T := 24)
 obtain ⟨w1,hw1⟩:∃ W,W=w.alloc (.cells #[.int .i64 (P:Nat),.int .i64 (M:Nat),.slice A k c] 24):=⟨_,rfl⟩
 rw [<-hw1] at hB rf
 have hmk:=fun W=>zan (P:=Tryz.prog) 22 3 _ 8 Tryz.underlying22 Tryz.infoInt rfl (M:Int) (by omega) (by omega) (by omega) W
 simp only [Int.toNat_natCast] at hmk
 go_enter Tryz.func212, Tryz.ntmps212
 go_upto_region 1 with fail
 rw [<-hw1];clear hw1
 refine wp_region_held_drew (S:=fun w'=>w'.cell? ⟨w.heap.size,0,none⟩=some (.int .i64 (P:Nat))/\w'.cell? ⟨w.heap.size,1,none⟩=some (.int .i64 (M:Nat))) (by kernel_rfl) ⟨cellS (Below.refl _ _).drew (rf.cell (i:=0) (by omega)),cellS (Below.refl _ _).drew (rf.cell (i:=1) (by omega))⟩ (fun hHeld=>?_)
 obtain ⟨w2,hw⟩:∃ W,W=World.drew w1:=⟨_,rfl⟩
 have kb:Below w1.heap.size w1 w2:=by rw [hw]; exact (Below.refl _ _).drew
 rw [<-hw] at hHeld ⊢;clear hw;replace rf:=zaa rf kb;replace hB:=onS hB kb;clear kb
 refine tkq 0 (h:=tkq 1 (h:=tkq 2 (h:=tkq 3 (h:=tkq 4 (h:=tkq 6 (h:=tkq 7 (h:=tkq 8 (h:=tkq 9 (h:=tkq 10 (h:=?_))))))))))
 refine rdq 5 (h:=fun K hK=>?_)
 go_simp
 go_wp2_with fail
 refine (zdG x P M w2 hx6 hP1 hP6 hM6).mono ?_
 rintro e w3 ⟨ga,rfl,hga,ra,kb⟩
 replace rf:=zaa rf kb;replace hB:=onS hB kb;clear kb
 refine bkq hK ⟨qc0 rf,qc1 rf⟩ (h:=fun hHeld=>?_)
 clear hK K
 refine rdq 11 (h:=fun K hK=>?_)
 have hgs:=hB.size
 go_simp
 go_wp2_with fail
 refine (zdG y P M w3 hy6 hP1 hP6 hM6).mono ?_
 rintro e w4 ⟨gb,rfl,hgb,rb,kb⟩
 replace rf:=zaa rf kb;replace ra:=zaa ra kb;replace hB:=onS hB kb;clear kb
 refine bkq hK ⟨qc0 rf,qc1 rf⟩ (h:=fun hHeld=>?_)
 clear hK K
 refine tkq 12 (h:=tkq 13 (h:=?_))
 refine wpAnyH_done (by kernel_rfl) ?_ _
 clear hHeld
 obtain ⟨wA,hwA⟩:∃ W,W=w4:=⟨_,rfl⟩
 rw [<-hwA] at rf hB ra rb ⊢;clear hwA
 have q1:=qc1 rf
 go_upto_region 3 with fail
 have row:=World.rowIs_made wA (.int .i64 0) M 3
 have kb:=(Below.refl wA.heap.size wA).alloc (Nat.le_refl _) (Obj.cells (madeCells #[Value.int .i64 0] M) 3)
 obtain ⟨wB,hwB⟩:∃ W,W=wA.alloc (Obj.cells (madeCells #[Value.int .i64 0] M) 3):=⟨_,rfl⟩
 obtain ⟨g,hg⟩:∃ b,b=wA.heap.size:=⟨_,rfl⟩
 rw [<-hwB] at kb row ⊢;rw [<-hg] at row ⊢
 have hgA:wA.heap.size<=g:=by omega
 have hgw:w.heap.size≠g:=by have:=rf.lt; omega
 have HRF:=hid rf
 have HRA:=hid ra
 have HRB:=hid rb
 have HBA:=hid hB
 clear hwB hg q1 hmk rf ra rb hB
 have q1:wB.cell? ⟨w.heap.size,1,none⟩=some (.int .i64 (M:Nat)):=cellS kb (HRF.out.cell (i:=1) (by omega))
 have hsz1:(Tryz.prog.info? 3).map (·.size)=some 1:=by
  obtain ⟨i,hi,hzz⟩:=Option.map_eq_some_iff.1 Tryz.infoInt
  simp only [Prod.mk.injEq] at hzz
  rw [hi]
  simp [hzz.2.1]
 have HSZ1:=hid hsz1
 clear hsz1
 obtain ⟨L,hL⟩:∃ L,L=M - 1:=⟨_,rfl⟩
 have hLi:(M:Int) - 1=(L:Int):=by omega
 have hLM:L<M:=by omega
 have hLM':(L:Int)<(M:Int):=by omega
 have HL:=hid hL
 clear hL
 have HROW:=hid (row.congr (g:=fun j=>.int .i64 (hOut P M m (dig P x) (dig P y) 0 j:Nat)) fun _ _=>rfl)
 have HKB:=hid kb
 clear row
 go_wp2
 clear q1
 go_loopg [10,11,12,13] (M+1) (fun gg iv _ _ _ wx=>∃ s:Nat,iv=.int .i64 ((M:Int) - 1 - (s:Int))/\s<=M/\M+1<=s+gg/\Hid (wx.rowIs g 3 M (fun j=>.int .i64 (hOut P M m (dig P x) (dig P y) s j:Nat)))/\Hid (Below wA.heap.size wA wx))
 case atStart=>exact ⟨0,by rw [<-hLi]; simp,by omega,by omega,HROW,HKB⟩
 case round =>
  clear HROW HKB kb
  obtain ⟨s,rfl,hs,hsg,HROW,HKB⟩:=hrel
  by_cases hlt:s<M
  ·obtain ⟨i,hi⟩:∃ i,i=M - 1 - s:=⟨_,rfl⟩
   have hie:(M:Int) - 1 - (s:Int)=(i:Int):=by omega
   have hiM:i<M:=by omega
   have hiM':(i:Int)<(M:Int):=by omega
   have hi0:(0:Int)<=(i:Int):=by omega
   rw [hie]
   have HI:=hid hi
   have HIE:=hid hie
   clear hi hie
   obtain ⟨gO,hgO⟩:∃ x,x=gk:=⟨_,rfl⟩
   rw [<-hgO] at hsg
   obtain ⟨o,ho⟩:∃ o,o=hOut P M m (dig P x) (dig P y) s:=⟨_,rfl⟩
   have hol:∀ j,o j<P:=fun j=>by rw [ho]; exact zfk hP0 s j
   have row:=HROW.out
   rw [<-ho] at row
   have hnext:hOut P M m (dig P x) (dig P y) (s+1)=hStep P M m (dig P x) (dig P y i) o:=by rw [ho,HI.out]; rfl
   have HNX:=hid hnext
   have HOL:=hid hol
   clear ho hnext HROW hol
   obtain ⟨tp,htp⟩:∃ t,t=o L:=⟨_,rfl⟩
   have t0:=row.cell hLM
   rw [<-htp] at t0
   have htpP:tp<P:=by rw [htp]; exact HOL.out L
   have HTP:=hid htp
   clear htp
   have hwL:IntKind.i64.wrap (L:Int)=(L:Int):=IntWalk.i64_in _ (by omega)
   have hL0:(0:Int)<=(L:Int):=by omega
   have hLl:(L:Int)<=(M:Int):=by omega
   have hM1':(1:Int)<=(M:Int):=by omega
   obtain ⟨dp,hdp⟩:∃ dp:Option Addr,(if M=1 then some ⟨g,0,none⟩ else some ⟨g,1,none⟩:Option Addr)=dp:=⟨_,rfl⟩
   have HDP:Hid (0<L->dp=some ⟨g,1,none⟩):=fun h=>by rw [<-hdp,if_neg (by have:=HL.out; omega)]
   have hML:M - 1=L:=HL.out.symm
   have q1:wr.cell? ⟨w.heap.size,1,none⟩=some (.int .i64 (M:Nat)):=cellS HKB.out (HRF.out.cell (i:=1) (by omega))
   obtain ⟨w1,hw1⟩:∃ X,X=wr:=⟨_,rfl⟩
   rw [<-hw1] at HKB row t0 q1 ⊢;clear hw1
   go_wp2
   refine wp_region_held_drew (S:=fun w'=>w'.cell? ⟨w.heap.size,1,none⟩=some (.int .i64 (M:Nat))) (by kernel_rfl) (cellS (Below.refl _ _).drew (q1)) (fun hHeld=>?_)
   obtain ⟨w2,hw⟩:∃ W,W=World.drew w1:=⟨_,rfl⟩
   have kb:Below w1.heap.size w1 w2:=by rw [hw]; exact (Below.refl _ _).drew
   rw [<-hw] at hHeld ⊢;clear hw;replace row:=zaa row kb;replace q1:=cellS kb q1
   have HKB2:=hid (onS HKB.out kb)
   clear kb
   refine tkq 0 (h:=tkq 1 (h:=tkq 2 (h:=tkq 3 (h:=tkq 4 (h:=tkq 5 (h:=tkq 6 (h:=?_)))))))
   refine rdq 7 (h:=fun K hK=>?_)
   have row2:=row
   obtain ⟨cs,c1,c2,c3⟩:=row
   have HG1:Hid (w2.heap[g]?=some (.cells cs.toList.toArray 3 (0,0))):=by show _=_; simpa using c1
   have HPOS:Hid (0<((List.range L).map fun t=>Value.int .i64 (o t:Nat)).length->dp=some ⟨g,1,none⟩/\∃ ad,(some ⟨g,0,none⟩:Option Addr)=some ad/\∀ j v,((List.range L).map fun t=>Value.int .i64 (o t:Nat))[j]?=some v->w2.cell? (ad.add j)=some v):=fun h=>by
    refine ⟨HDP.out (by simpa using h),⟨g,0,none⟩,rfl,fun j v hv=>?_⟩
    rw [List.getElem?_map] at hv
    obtain ⟨t,ht,e⟩:=Option.map_eq_some_iff.1 hv
    obtain ⟨h1,h2⟩:=List.getElem?_eq_some_iff.1 ht
    rw [List.getElem_range] at h2
    subst h2 e
    rw [zdV,Nat.zero_add]
    exact row2.cell (by simp at h1; omega)
   have HLEN:Hid (((List.range L).map fun t=>Value.int .i64 (o t:Nat)).length=Nat.min L L):=by show _=_; simp
   have HFIT:Hid (1+((List.range L).map fun t=>Value.int .i64 (o t:Nat)).length<=cs.toList.length):=by show _<=_; simp; omega
   have HONE:Hid (∀ v ∈ (List.range L).map fun t=>Value.int .i64 (o t:Nat),v.oneCell'=true):=fun v hv=>by
    obtain ⟨t,_,rfl⟩:=List.mem_map.1 hv
    rfl
   refine step_copy_splice (cur:=cs.toList) (cs:=(List.range L).map fun t=>Value.int .i64 (o t:Nat)) (B:=wA.heap.size) (w0:=wA) (by rfl) (.tmp 43) (.tmp 48) 22 22 (by rfl) 3 Tryz.underlying22 HSZ1.out dp (some ⟨g,0,none⟩) L L L M (by rfl) (by rfl) g 1 3 HG1.out HLEN.out HPOS.out HFIT.out HONE.out HKB2.out hgA ?_
   intro w3 hg3 hb3
   have row:=zi2 (F:=fun t=>.int .i64 (o t:Nat)) c2 (fun i hi=>c3 i hi) (show L+1=M by omega) hg3.out
   clear hg3 row2 c1 c2 c3 HG1 HPOS HLEN HFIT HONE
   have q19:w3.cell? ⟨w.heap.size,1,none⟩=some (.int .i64 (M:Nat)):=cellS hb3 (HRF.out.cell (i:=1) (by omega))
   clear q1
   have q1:=q19
   clear q19
   refine bkq hK q1 (h:=fun hHeld=>?_)
   clear hK K
   refine wpAnyH_done (by kernel_rfl) ?_ _
   clear hHeld
   obtain ⟨w4,hw4⟩:∃ X,X=w3:=⟨_,rfl⟩
   rw [<-hw4] at row hb3 ⊢;clear hw4
   have y0:=row.cell (i:=0) (by omega)
   have z0:=row.frozen 0
   have HROW4:=hid ((row.set 0 (.int .i64 0)).congr (g:=fun j=>.int .i64 (if j=0 then 0 else o (j - 1):Nat)) fun j _=>by
    by_cases e:j=0
    ·subst e; rfl
    ·rw [if_neg e,if_neg e,if_neg e])
   have HB4:=hid (hb3.setCell (p:=⟨g,0,none⟩) hgA (.int .i64 0))
   clear row hb3 q1
   have hM0:(0:Int)<(M:Int):=by omega
   go_wp2
   clear y0 z0
   obtain ⟨w5,hw5⟩:∃ X,X=w4.setCell ⟨g,0,none⟩ (.int .i64 0):=⟨_,rfl⟩
   rw [<-hw5] at HROW4 HB4 ⊢;clear hw5
   have HROW5:=hid (HROW4.out.congr (g:=fun t=>.int .i64 (if t<0 then hStep P M m (dig P x) (dig P y i) o t else if t=0 then 0 else o (t - 1):Nat)) fun _ _=>rfl)
   clear HROW4
   go_loopg [12,13,54] M (fun gg _ _ jv wx=>∃ j:Nat,jv=.int .i64 (j:Nat)/\j<=M/\M<=j+gg/\Hid (wx.rowIs g 3 M (fun t=>.int .i64 (if t<j then hStep P M m (dig P x) (dig P y i) o t else if t=0 then 0 else o (t - 1):Nat)))/\Hid (Below wA.heap.size wA wx))
   case atStart=>exact ⟨0,rfl,by omega,by omega,HROW5,HB4⟩
   case round =>
    clear HROW5 HB4
    obtain ⟨j,rfl,hj,hjg,HROW5,HB5⟩:=hrel
    by_cases hjl:j<M
    ·have hjl':(j:Int)<(M:Int):=by omega
     have hj0:(0:Int)<=(j:Int):=by omega
     have e0:=HROW5.out.cell hjl
     rw [if_neg (by omega)] at e0
     have z0:=HROW5.out.frozen j
     obtain ⟨v,hv⟩:∃ v,v=if j=0 then 0 else o (j - 1):=⟨_,rfl⟩
     rw [<-hv] at e0
     have hvP:v<P:=by
      rw [hv]
      split
      ·exact hP0
      ·exact HOL.out _
     have f0:wr.cell? ⟨ga,j,none⟩=some (.int .i64 (dig P x j:Nat)):=cellS HB5.out (HRA.out.cell hjl)
     have f1:wr.cell? ⟨gb,i,none⟩=some (.int .i64 (dig P y i:Nat)):=cellS HB5.out (HRB.out.cell hiM)
     obtain ⟨da,hda⟩:∃ d,d=dig P x j:=⟨_,rfl⟩
     obtain ⟨db,hdb⟩:∃ d,d=dig P y i:=⟨_,rfl⟩
     rw [<-hda] at f0;rw [<-hdb] at f1
     have hdaP:da<P:=by rw [hda]; exact zcq hP0 _ _
     have hdbP:db<P:=by rw [hdb]; exact zcq hP0 _ _
     have q0:wr.cell? ⟨w.heap.size,0,none⟩=some (.int .i64 (P:Nat)):=cellS HB5.out (HRF.out.cell (i:=0) (by omega))
     have q1:wr.cell? ⟨w.heap.size,1,none⟩=some (.int .i64 (M:Nat)):=cellS HB5.out (HRF.out.cell (i:=1) (by omega))
     have q2:wr.cell? ⟨w.heap.size,2,none⟩=some (.slice A k c):=cellS HB5.out (HRF.out.cell (i:=2) (by omega))
     have HV:=hid hv
     have HDA:=hid hda
     have HDB:=hid hdb
     clear hv hda hdb
     by_cases hM2:1<M
     ·have hM2':(M:Int) > 1:=by omega
      rcases hm with hm | ⟨hmr,hml⟩
      ·omega
      obtain rfl:M=k:=(hkM.resolve_left (by omega)).symm
      obtain ⟨mb,mo,hA,hmb,f2⟩:=hmr.at hjl
      subst hA
      obtain ⟨lo,hlo⟩:∃ l,l=m j:=⟨_,rfl⟩
      rw [<-hlo] at f2
      have hloP:lo<P:=by rw [hlo]; exact hml j hjl
      have HLO:=hid hlo
      have f29:=((onS HBA.out HB5.out).cell (p:=⟨mb,mo+j,none⟩) hmb).trans f2
      clear hlo f2 hmr hml
      obtain ⟨z,hz⟩:∃ z,z=v+(P - tp)*lo+db*da:=⟨_,rfl⟩
      obtain ⟨r,hr⟩:∃ r,r=z % P:=⟨_,rfl⟩
      have hrP:r<P:=by rw [hr]; exact Nat.mod_lt _ hP0
      have HRR:Hid (r=hStep P M m (dig P x) (dig P y i) o j):=by
       show _=_
       rw [hr,hz,HV.out,HDA.out,HDB.out,HTP.out,HL.out,HLO.out]
       unfold hStep
       rw [if_pos hM2]
      obtain ⟨R2,hR2⟩:∃ R,R=db*da:=⟨_,rfl⟩
      have hR2l:R2<=256*256:=by rw [hR2]; exact Nat.mul_le_mul (by omega) (by omega)
      have hm2:(db:Int)*(da:Int)=(R2:Int):=by rw [hR2]; simp
      obtain ⟨D1,hD1⟩:∃ D,D=P - tp:=⟨_,rfl⟩
      have hD1l:D1<=256:=by omega
      have hd1:(P:Int) - (tp:Int)=(D1:Int):=by omega
      obtain ⟨R1,hR1⟩:∃ R,R=D1*lo:=⟨_,rfl⟩
      have hR1l:R1<=256*256:=by rw [hR1]; exact Nat.mul_le_mul hD1l (by omega)
      have hm1:(D1:Int)*(lo:Int)=(R1:Int):=by rw [hR1]; simp
      obtain ⟨S1,hS1⟩:∃ S,S=v+R1:=⟨_,rfl⟩
      have hs1:(v:Int)+(R1:Int)=(S1:Int):=by omega
      have hw1:IntKind.i64.wrap (D1:Int)=(D1:Int):=IntWalk.i64_in _ (by omega)
      have hw2:IntKind.i64.wrap (R1:Int)=(R1:Int):=IntWalk.i64_in _ (by omega)
      have hw3:IntKind.i64.wrap (S1:Int)=(S1:Int):=IntWalk.i64_in _ (by omega)
      have hzz:z=S1+R2:=by rw [hz,hS1,hR1,hD1,hR2]
      have hs2:(S1:Int)+(R2:Int)=(z:Int):=by omega
      have hw4:IntKind.i64.wrap (R2:Int)=(R2:Int):=IntWalk.i64_in _ (by omega)
      have hw5:IntKind.i64.wrap (z:Int)=(z:Int):=IntWalk.i64_in _ (by omega)
      have hw6:IntKind.i64.wrap (r:Int)=(r:Int):=IntWalk.i64_in _ (by omega)
      have hrem:(z:Int) % (P:Int)=(r:Int):=by rw [hr]; simp
      have hz0:(0:Int)<=(z:Int):=by omega
      have hP0':¬ (P:Int)=0:=by omega
      have hPn:¬ P=0:=by omega
      have htm:(z:Int).tmod (P:Int)=(r:Int):=by rw [Int.tmod_eq_emod_of_nonneg hz0,hrem]
      have HRN:=hid ((HROW5.out.set j (.int .i64 (r:Nat))).congr (g:=fun t=>.int .i64 (if t<j+1 then hStep P M m (dig P x) (dig P y i) o t else if t=0 then 0 else o (t - 1):Nat)) fun t _=>by
       by_cases e:t=j
       ·subst e; rw [if_pos rfl,if_pos (by omega),HRR.out]
       ·rw [if_neg e]
        by_cases e2:t<j
        ·rw [if_pos e2,if_pos (show t<j+1 by omega)]
        ·rw [if_neg e2,if_neg (show ¬ t<j+1 by omega)])
      have HBN:=hid (HB5.out.setCell (p:=⟨g,j,none⟩) hgA (.int .i64 (r:Nat)))
      clear hz hr hR2 hzz HROW5 HB5 hD1 hR1 hS1
      go_wp2
      go_still_tail 27,(by kernel_rfl)
      change wpList _ _ _ _ _ wr.drew
      go_wp2
      go_roundg (gk - 1)
      case measure=>omega
      case rel=>exact ⟨j+1,by go_num,by omega,by omega,hid (show World.rowIs _ _ _ _ _ from HRN.out),hid (drewSet HBN.out)⟩
     ·have hM2':¬ (M:Int) > 1:=by omega
      obtain ⟨z,hz⟩:∃ z,z=v+(P - tp)*0+db*da:=⟨_,rfl⟩
      obtain ⟨r,hr⟩:∃ r,r=z % P:=⟨_,rfl⟩
      have hrP:r<P:=by rw [hr]; exact Nat.mod_lt _ hP0
      have HRR:Hid (r=hStep P M m (dig P x) (dig P y i) o j):=by
       show _=_
       rw [hr,hz,HV.out,HDA.out,HDB.out,HTP.out,HL.out]
       unfold hStep
       rw [if_neg (show ¬ 1<M by omega)]
      obtain ⟨R2,hR2⟩:∃ R,R=db*da:=⟨_,rfl⟩
      have hR2l:R2<=256*256:=by rw [hR2]; exact Nat.mul_le_mul (by omega) (by omega)
      have hm2:(db:Int)*(da:Int)=(R2:Int):=by rw [hR2]; simp
      have hw3:IntKind.i64.wrap (v:Int)=(v:Int):=IntWalk.i64_in _ (by omega)
      have hw1:IntKind.i64.wrap ((P:Int) - (tp:Int))=(P:Int) - (tp:Int):=IntWalk.i64_in _ (by omega)
      have hzz:z=v+R2:=by rw [hz,hR2,Nat.mul_zero,Nat.add_zero]
      have hs2:(v:Int)+(R2:Int)=(z:Int):=by omega
      have hw4:IntKind.i64.wrap (R2:Int)=(R2:Int):=IntWalk.i64_in _ (by omega)
      have hw5:IntKind.i64.wrap (z:Int)=(z:Int):=IntWalk.i64_in _ (by omega)
      have hw6:IntKind.i64.wrap (r:Int)=(r:Int):=IntWalk.i64_in _ (by omega)
      have hrem:(z:Int) % (P:Int)=(r:Int):=by rw [hr]; simp
      have hz0:(0:Int)<=(z:Int):=by omega
      have hP0':¬ (P:Int)=0:=by omega
      have hPn:¬ P=0:=by omega
      have htm:(z:Int).tmod (P:Int)=(r:Int):=by rw [Int.tmod_eq_emod_of_nonneg hz0,hrem]
      have HRN:=hid ((HROW5.out.set j (.int .i64 (r:Nat))).congr (g:=fun t=>.int .i64 (if t<j+1 then hStep P M m (dig P x) (dig P y i) o t else if t=0 then 0 else o (t - 1):Nat)) fun t _=>by
       by_cases e:t=j
       ·subst e; rw [if_pos rfl,if_pos (by omega),HRR.out]
       ·rw [if_neg e]
        by_cases e2:t<j
        ·rw [if_pos e2,if_pos (show t<j+1 by omega)]
        ·rw [if_neg e2,if_neg (show ¬ t<j+1 by omega)])
      have HBN:=hid (HB5.out.setCell (p:=⟨g,j,none⟩) hgA (.int .i64 (r:Nat)))
      clear hz hr hR2 hzz HROW5 HB5 
      go_wp2
      go_still_tail 27,(by kernel_rfl)
      change wpList _ _ _ _ _ wr.drew
      go_wp2
      go_roundg (gk - 1)
      case measure=>omega
      case rel=>exact ⟨j+1,by go_num,by omega,by omega,hid (show World.rowIs _ _ _ _ _ from HRN.out),hid (drewSet HBN.out)⟩
    ·have hjl':¬ (j:Int)<(M:Int):=by omega
     obtain rfl:j=M:=by omega
     have HRN:=hid (HROW5.out.congr (g:=fun t=>.int .i64 (hOut P j m (dig P x) (dig P y) (s+1) t:Nat)) fun t ht=>by rw [if_pos ht,HNX.out])
     clear HROW5
     go_wp2
     go_roundg (gO - 1)
     case measure=>omega
     case rel=>exact ⟨s+1,by have:=HIE.out; go_num,by omega,by omega,HRN,HB5⟩
  ·have hneg:¬ ((M:Int) - 1 - (s:Int)) ≥ 0:=by omega
   obtain rfl:s=M:=by omega
   have hri:=rowInts (f:=hOut P s m (dig P x) (dig P y) s) HROW.out
   have HRI:=hid hri
   have HLT:Hid (∀ i,i<s->hOut P s m (dig P x) (dig P y) s i<P):=fun i _=>zfk hP0 s i
   have hBf:=onS HBA.out HKB.out
   have q0:wr.cell? ⟨w.heap.size,0,none⟩=some (.int .i64 (P:Nat)):=cellS HKB.out (HRF.out.cell (i:=0) (by omega))
   clear hri HROW
   go_wp2_with fail
   refine (zgY P (some ⟨g,0,none⟩) s s _ wr hP2 hP6 HRI.out HLT (HQ.out) hM8).mono ?_
   rintro e w9 ⟨rfl,kb⟩
   rw [HEQ.out]
   have hB9:=onS hBf kb
   clear kb q0 hBf
   obtain ⟨V,hV⟩:∃ V,V=mulF P s m x y:=⟨_,rfl⟩
   rw [<-hV]
   have HVV:=hid hV
   clear hV HEQ
   go_wp2
   go_ret
   exact ⟨by rw [HVV.out]; rfl,hB9⟩
theorem zc1 {w:World} {base g m n s:Nat} {t e:TypeId} {F:Nat->Value} {v:Value} {f:Nat->Nat->Value} (hr:w.rowIs g t m F) (h:Own w base e s v n f) (hne:t≠e):v.ownBlock=none∨v.ownBlock≠some g:=by
 rcases h with ⟨rfl,_⟩ | ⟨b,o,cap,cur,rfl,_,hg,_⟩
 ·exact .inl rfl
 ·refine .inr fun e1=>?_
  obtain ⟨cs,h1,_⟩:=hr
  simp [Value.ownBlock] at e1
  subst e1
  rw [hg] at h1
  injection h1 with h1
  injection h1 with _ h1
  exact hne h1.symm
def pwG (mul:Nat->Nat->Nat) (x:Nat):Nat->Nat
 | 0=>1
 | 1=>x
 | n+2=>mul (pwG mul x (n+1)) x
theorem zkJ (mul:Nat->Nat->Nat) (x:Nat) {n:Nat} (h:1<=n):pwG mul x (n+1)=mul (pwG mul x n) x:=by
 obtain ⟨k,rfl⟩:∃ k,n=k+1:=⟨n - 1,by omega⟩
 rfl
def seenB (p:Nat->Nat):Nat->Nat->Bool
 | 0,_=>false
 | n+1,t=>if t=p n then true else seenB p n t
theorem zeB (p:Nat->Nat) (t:Nat):∀ n,seenB p n t=true↔∃ i,i<n/\p i=t
 | 0=>⟨(fun h=>by cases h),(fun ⟨i,hi,_⟩=>by omega)⟩
 | n + 1 => by
  have ih:=zeB p t n
  show (if t=p n then true else seenB p n t)=true↔_
  by_cases e:t=p n
  ·rw [if_pos e]
   exact ⟨fun _=>⟨n,by omega,e.symm⟩,fun _=>rfl⟩
  ·rw [if_neg e,ih]
   constructor
   ·rintro ⟨i,hi,h⟩; exact ⟨i,by omega,h⟩
   ·rintro ⟨i,hi,h⟩
    by_cases e2:i=n
    ·subst e2; exact absurd h.symm e
    ·exact ⟨i,by omega,h⟩
structure PwOk (q:Nat) (p:Nat->Nat) (n:Nat):Prop where
 ne:∀ i,i<n->p i≠0
 lt:∀ i,i<n->p i<q
 inj:∀ i j,i<j->j<n->p i≠p j
theorem PwOk.le {q n:Nat} {p:Nat->Nat} (h:PwOk q p n) (hq:1<=q):n<=q - 1 :=
 pigeon (f:=fun i=>p i - 1) (fun i hi=>by have:=h.ne i hi; have:=h.lt i hi; show p i - 1<q - 1; omega) fun i k hi hk e=>by
  have:=h.ne i hi
  have:=h.ne k hk
  have e2:p i=p k:=by have e':p i - 1=p k - 1:=e; omega
  rcases Nat.lt_trichotomy i k with h1 | h1 | h1
  ·exact absurd e2 (h.inj i k h1 hk)
  ·exact h1
  ·exact absurd e2.symm (h.inj k i h1 hi)
theorem PwOk.next {q n:Nat} {p:Nat->Nat} (h:PwOk q p n) (h1:p n≠0) (h2:p n<q) (h3:seenB p n (p n)=false):PwOk q p (n+1):=by
 have hs:∀ i,i<n->p i≠p n:=fun i hi e=>by
  have:=(zeB p (p n) n).2 ⟨i,hi,e⟩
  rw [h3] at this
  cases this
 refine ⟨fun i hi=>?_,fun i hi=>?_,fun i j hij hj=>?_⟩
 ·by_cases e:i=n
  ·subst e; exact h1
  ·exact h.ne i (by omega)
 ·by_cases e:i=n
  ·subst e; exact h2
  ·exact h.lt i (by omega)
 ·by_cases e:j=n
  ·subst e; exact hs i hij
  ·exact h.inj i j hij (by omega)
def PowersPost (q:Nat) (p:Nat->Nat) (w:World) (e:Ending) (w':World):Prop :=
 ∃ lv L,e=.returned lv/\1<=L/\Own w' w.heap.size 3 1 lv L (fun i _=>.int .i64 (p i:Nat))/\Below w.heap.size w w'/\PwOk q p L/\(p L=0∨seenB p L (p L)=true)
theorem zh5 (P M:Nat) (A:Option Addr) (k c:Nat) (m:Nat->Nat) (q x:Nat) (w:World) (hf:FldOk P M) (hm:ModOk w P M A m) (hkM:M=1∨k=M) (hq:q=P ^ M) (hx1:1<=x) (hx:x<q) :
    Calls Tryz.prog 211 #[.agg #[.int .i64 (P:Nat),.int .i64 (M:Nat),.slice A k c],.int .i64 (q:Nat),.int .i64 (x:Nat)] w (PowersPost q (pwG (mulF P M m) x) w):=by
  have hP0:0<P:=by have:=hf.1; omega
  have hq6:q<=256:=by rw [hq]; exact hf.2.2.2
  have hq2:2<=q:=by omega
  have HMUL:Hid (∀ a,mulF P M m a x<q):=fun a=>by rw [hq]; exact za3 hP0 a x
  have HQ:=hid hq
  clear hq
  have hB:Below w.heap.size w (w.alloc (.cells #[.int .i64 (P:Nat),.int .i64 (M:Nat),.slice A k c] 24)):=(Below.refl _ _).alloc (Nat.le_refl _) _
  have rf:=zaf (w:=w) (a:=.int .i64 (P:Nat)) (b:=.int .i64 (M:Nat)) (c:=.slice A k c) (T := 24)
  obtain ⟨w0,hw0⟩:∃ W,W=w.alloc (.cells #[.int .i64 (P:Nat),.int .i64 (M:Nat),.slice A k c] 24):=⟨_,rfl⟩
  rw [<-hw0] at hB rf
  have hmk:=fun W=>zan (P:=Tryz.prog) 66 4 _ 1 Tryz.underlying66 Tryz.infoBool rfl (q:Int) (by omega) (by omega) (by omega) W
  simp only [Int.toNat_natCast] at hmk
  go_enter Tryz.func211, Tryz.ntmps211
  go_upto_region 1 with fail
  rw [<-hw0];clear hw0
  have hfl:=rf.lt
  go_upto_region 2 with fail
  have kb:=(Below.refl w0.heap.size w0).alloc (Nat.le_refl _) (Obj.cells #[Value.int .i64 1] 3)
  have r1:(w0.alloc (Obj.cells #[Value.int .i64 1] 3)).rowIs w0.heap.size 3 1 (fun i=>.int .i64 (pwG (mulF P M m) x i:Nat)):=⟨_,zaN rfl,rfl,fun i hi=>by
    obtain rfl:i=0:=by omega
    rfl⟩
  have hO:=za6 r1 (show w.heap.size+1<=w0.heap.size from hfl) (by unfold maxLen; omega)
  obtain ⟨w1,hw1⟩:∃ W,W=w0.alloc (Obj.cells #[Value.int .i64 1] 3):=⟨_,rfl⟩
  obtain ⟨b1,hb1⟩:∃ b,b=w0.heap.size:=⟨_,rfl⟩
  rw [<-hw1] at kb hO ⊢;rw [<-hb1] at hO ⊢;replace rf:=zaa rf kb;replace hB:=onS hB kb
  have hfl1:=rf.lt
  clear kb r1 hw1 hb1 hfl
  go_upto_region 3 with fail
  have kb:=(Below.refl w1.heap.size w1).alloc (Nat.le_refl _) (Obj.cells (madeCells #[Value.bool false] q) 4)
  have rs:=World.rowIs_made w1 (.bool false) q 4
  obtain ⟨w2,hw2⟩:∃ W,W=w1.alloc (Obj.cells (madeCells #[Value.bool false] q) 4):=⟨_,rfl⟩
  obtain ⟨g,hg⟩:∃ b,b=w1.heap.size:=⟨_,rfl⟩
  rw [<-hw2] at kb rs ⊢;rw [<-hg] at rs ⊢
  have hgB:w.heap.size+1<=g:=by omega
  replace rf:=zaa rf kb;replace hB:=onS hB kb;replace hO:=hO.on kb;clear kb hw2 hg hmk hfl1
  have y0:=rs.cell (i:=1) (by omega)
  have z0:=rs.frozen 1
  have hq1':(1:Int)<(q:Int):=by omega
  have HRS:=hid ((rs.set 1 (.bool true)).congr (g:=fun t=>.bool (seenB (pwG (mulF P M m) x) 1 t)) fun t _=>by
    show (if t=1 then Value.bool true else .bool false)=.bool (if t=1 then true else false)
    split <;> rfl)
  have HRF:=hid (rf.setOther (a:=⟨g,1,none⟩) (by simp; omega) (.bool true))
  have HB2:=hid (hB.setCell (p:=⟨g,1,none⟩) (by show w.heap.size<=g; omega) (.bool true))
  have HO2:=hid (hO.setCell (a:=⟨g,1,none⟩) (fun e=>(zc1 rs hO (by decide)).elim (fun h=>by rw [h] at e; cases e) fun h=>h e) (.bool true))
  clear rs rf hB hO
  go_wp2
  clear y0 z0
  obtain ⟨w3,hw3⟩:∃ W,W=w2.setCell ⟨g,1,none⟩ (.bool true):=⟨_,rfl⟩
  rw [<-hw3] at HRS HRF HB2 HO2 ⊢;clear hw3
  obtain ⟨p,hp⟩:∃ p,p=pwG (mulF P M m) x:=⟨_,rfl⟩
  have hp1:p 1=x:=by rw [hp]; rfl
  have hpn:∀ n,1<=n->p (n+1)=mulF P M m (p n) x:=fun n hn=>by rw [hp]; exact zkJ _ _ hn
  have hok:PwOk q p 1:=by
    rw [hp]
    exact ⟨fun i hi => by obtain rfl : i = 0 := by omega
                          exact Nat.one_ne_zero, fun i hi => by obtain rfl : i = 0 := by omega
                                                                exact hq2,fun i j h1 h2=>by omega⟩
  rw [<-hp] at HRS HO2 ⊢
  have HPN:=hid hpn
  have HOK:=hid hok
  have HP1:=hid hp1
  have HPE:=hid hp
  clear hp hp1 hpn hok
  go_loopg [7,9] q (fun gg ov yv wx=>∃ L y:Nat,yv=.int .i64 (y:Nat)/\1<=L/\L<q/\q<=L+gg/\y<q/\Hid (y=p L)/\Hid (PwOk q p L)/\Hid (Own wx (w.heap.size+1) 3 1 ov L (fun i _=>.int .i64 (p i:Nat)))/\Hid (wx.rowIs g 4 q (fun t=>.bool (seenB p L t)))/\Hid (wx.rowIs w.heap.size 24 3 (fldCell (.int .i64 (P:Nat)) (.int .i64 (M:Nat)) (.slice A k c)))/\Hid (Below w.heap.size w wx))
  case atStart=>exact ⟨1,x,rfl,by omega,by omega,by omega,hx,HP1.out.symm,HOK,HO2,HRS,HRF,HB2⟩
  case round =>
    clear HO2 HRS HRF HB2 HOK
    obtain ⟨L,y,rfl,hL1,hLq,hgk,hyq,HY,HOK,HO,HRS,HRF,HBB⟩:=hrel
    have hy0:(0:Int)<=(y:Int):=by omega
    have hyq':(y:Int)<(q:Int):=by omega
    by_cases hyz:y=0
    · have hz:((y:Int) != 0)=false:=by simp [hyz]
      have HEND:Hid (p L=0∨seenB p L (p L)=true):=.inl (by rw [<-HY.out]; exact hyz)
      clear hyz
      go_wp2
      go_ret
      have e:=HPE.out
      subst e
      exact ⟨_,L,rfl,hL1,HO.out.mono (Nat.le_succ _),HBB.out,HOK.out,HEND.out⟩
    · have hz:((y:Int) != 0)=true:=by simp; omega
      have s0:=HRS.out.cell (i:=y) hyq
      obtain ⟨sb,hsb⟩:∃ b,b=seenB p L y:=⟨_,rfl⟩
      rw [<-hsb] at s0
      have HSB:=hid hsb
      have HYZ:=hid hyz
      clear hsb hyz
      cases sb
      · have HOK2:=hid (HOK.out.next (by rw [<-HY.out]; exact HYZ.out) (by rw [<-HY.out]; exact hyq) (by rw [<-HY.out]; exact HSB.out.symm))
        have hLq2:L+1<q:=by have:=HOK2.out.le (by omega); omega
        have z0:=HRS.out.frozen y
        have rs:=HRS.out.set y (.bool true)
        have HRS2:=hid (rs.congr (g:=fun t=>.bool (seenB p (L+1) t)) fun t _=>by
          show (if t=y then Value.bool true else .bool (seenB p L t))=.bool (if t=p L then true else seenB p L t)
          rw [<-HY.out]
          split <;> rfl)
        have HRF2:=hid (HRF.out.setOther (a:=⟨g,y,none⟩) (by simp; omega) (.bool true))
        have HBB2:=hid (HBB.out.setCell (p:=⟨g,y,none⟩) (by show w.heap.size<=g; omega) (.bool true))
        have HO2:=hid (HO.out.setCell (a:=⟨g,y,none⟩) (fun e=>(zc1 HRS.out HO.out (by decide)).elim (fun h=>by rw [h] at e; cases e) fun h=>h e) (.bool true))
        clear rs HRS HRF HBB HO
        go_upto_region 8 with fail
        clear z0 s0
        obtain ⟨w4,hw4⟩:∃ W,W=wr.setCell ⟨g,y,none⟩ (.bool true):=⟨_,rfl⟩
        rw [<-hw4] at HRS2 HRF2 HBB2 HO2 ⊢;clear hw4
        have kb:=(Below.refl w4.heap.size w4).alloc (Nat.le_refl _) (Obj.cells #[Value.int .i64 (y:Nat)] 3)
        have HO8:=hid (HO2.out.on kb)
        have HRS8:=hid (zaa HRS2.out kb)
        have HRF8:=hid (zaa HRF2.out kb)
        have HB8:=hid (onS HBB2.out kb)
        have HC8:Hid ((w4.alloc (Obj.cells #[Value.int .i64 (y:Nat)] 3)).cell? ((⟨w4.heap.size,0,none⟩:Addr).add 0)=some (.int .i64 (y:Nat))):=tbox2
        have HZ8:Hid (w.heap.size+1<=(w4.alloc (Obj.cells #[Value.int .i64 (y:Nat)] 3)).heap.size):=HRF8.out.lt
        have HLL:Hid (L<=1048576):=by show _<=_; omega
        clear kb HO2 HRS2 HRF2 HBB2
        go_upto_region 6 with (first | (at_builtin; (refine za7 rfl (.tmp 32) (.tmp 34) rfl HO8.out rfl (ad:=⟨w4.heap.size,0,none⟩) (c:=1) rfl HC8.out HZ8.out HLL.out ?_); intro v9 w9 o1 o2 o3))
        have HO9:=hid (o1.congr (f':=fun i _=>.int .i64 (p i:Nat)) fun i _ _ _=>by
          by_cases e:i=L
          · subst e; rw [if_pos rfl,HY.out]
          · rw [if_neg e])
        have HRS9:=hid (HRS8.out.of_block (o2.block _ HRS8.out.lt fun e=>(zc1 HRS8.out HO8.out (by decide)).elim (fun h=>by rw [h] at e; cases e) fun h=>h e.symm))
        have HRF9:=hid (HRF8.out.of_block (o2.block _ HRF8.out.lt fun e=>by have:=(HO8.out.lt _ e.symm).1; omega))
        have HB9:=hid (HB8.out.grown o2 (Nat.le_of_succ_le HZ8.out) fun q e=>by have:=(HO8.out.lt q e).1; omega)
        clear o1 o2 o3 HO8 HRS8 HRF8 HB8 HC8 HZ8
        have q0:=qc0 HRF9.out
        have q1:=qc1 HRF9.out
        have q2:=qc2 HRF9.out
        go_wp2_with fail
        refine (zdH P M A k c m y x w9 hf (zaC hm HB9.out) hkM (by rw [<-HQ.out]; exact hyq) (by rw [<-HQ.out]; exact hx)).mono ?_
        rintro e w10 ⟨rfl,kb⟩
        obtain ⟨y',hy'⟩:∃ y',y'=mulF P M m y x:=⟨_,rfl⟩
        rw [<-hy']
        have hyq2:y'<q:=by rw [hy']; exact HMUL.out y
        have HY2:Hid (y'=p (L+1)):=by show _=_; rw [hy',HPN.out L hL1,<-HY.out]
        have HO10:=hid (HO9.out.on kb)
        have HRS10:=hid (zaa HRS9.out kb)
        have HRF10:=hid (zaa HRF9.out kb)
        have HB10:=hid (onS HB9.out kb)
        clear kb q0 q1 q2 hy' HO9 HRS9 HRF9 HB9
        go_wp2
        go_roundg (gk - 1)
        case measure=>omega
        case rel=>exact ⟨L+1,y',rfl,by omega,hLq2,by omega,hyq2,HY2,HOK2,HO10,HRS10,HRF10,HB10⟩
      · have HEND:Hid (p L=0∨seenB p L (p L)=true):=.inr (by rw [<-HY.out]; exact HSB.out.symm)
        go_wp2
        go_ret
        have e:=HPE.out
        subst e
        exact ⟨_,L,rfl,hL1,HO.out.mono (Nat.le_succ _),HBB.out,HOK.out,HEND.out⟩
def GenX (q:Nat) (mul:Nat->Nat->Nat) (x:Nat):Prop:=PwOk q (pwG mul x) (q - 1)/\mul (pwG mul x (q - 2)) x=1
theorem zh6 {q L:Nat} {p:Nat->Nat} (hq:1<=q) (h:PwOk q p L) (hs:p L=0∨seenB p L (p L)=true) (hg:PwOk q p (q - 1)):L=q - 1:=by
 have h1:=h.le hq
 refine Classical.byContradiction fun hne=>?_
 have hlt:L<q - 1:=by omega
 rcases hs with hs | hs
 ·exact hg.ne L hlt hs
 ·obtain ⟨i,hi,e⟩:=(zeB p (p L) L).1 hs
  exact hg.inj i L hi hlt e
def GenrPost (q:Nat) (mul:Nat->Nat->Nat) (w:World) (e:Ending) (w':World):Prop :=
 Below w.heap.size w w'/\((e=.returned (.slice none 0 0)/\∀ x,1<=x->x<q->¬ GenX q mul x) ∨
  ∃ lv x,e=.returned lv/\1<=x/\x<q/\GenX q mul x/\Own w' w.heap.size 3 1 lv (q - 1) (fun i _=>.int .i64 (pwG mul x i:Nat)))
theorem zdd (P M:Nat) (A:Option Addr) (k c:Nat) (m:Nat->Nat) (q:Nat) (w:World) (hf:FldOk P M) (hm:ModOk w P M A m) (hkM:M=1∨k=M) (hq:q=P ^ M) :
  Calls Tryz.prog 147 #[.agg #[.int .i64 (P:Nat),.int .i64 (M:Nat),.slice A k c],.int .i64 (q:Nat)] w (GenrPost q (mulF P M m) w):=by
 have hP0:0<P:=by have:=hf.1; omega
 have hq6:q<=256:=by rw [hq]; exact hf.2.2.2
 have hq2:2<=q:=by
  have h1:=hf.1
  have h2:=Nat.pow_le_pow_right hP0 hf.2.1
  rw [Nat.pow_one] at h2
  omega
 obtain ⟨Q1,hQ1⟩:∃ x,x=q - 1:=⟨_,rfl⟩
 obtain ⟨Q2,hQ2⟩:∃ x,x=q - 2:=⟨_,rfl⟩
 have hQ1i:(q:Int) - 1=(Q1:Int):=by omega
 have hQ2i:(q:Int) - 2=(Q2:Int):=by omega
 have hQ21:Q2<Q1:=by omega
 have HQ1:=hid hQ1
 have HQ2:=hid hQ2
 have HQ:=hid hq
 clear hq hQ1 hQ2
 have hB:Below w.heap.size w (w.alloc (.cells #[.int .i64 (P:Nat),.int .i64 (M:Nat),.slice A k c] 24)):=(Below.refl _ _).alloc (Nat.le_refl _) _
 have rf:=zaf (w:=w) (a:=.int .i64 (P:Nat)) (b:=.int .i64 (M:Nat)) (c:=.slice A k c) (T := 24)
 obtain ⟨w0,hw0⟩:∃ W,W=w.alloc (.cells #[.int .i64 (P:Nat),.int .i64 (M:Nat),.slice A k c] 24):=⟨_,rfl⟩
 rw [<-hw0] at hB rf
 go_enter Tryz.func147, Tryz.ntmps147
 go_upto_region 1 with fail
 rw [<-hw0];clear hw0
 go_wp2
 go_loopg [5,6] q (fun gg xv _ wx=>∃ x:Nat,xv=.int .i64 (x:Nat)/\1<=x/\x<=q/\q<=x+gg/\Hid (∀ y,1<=y->y<x->¬ GenX q (mulF P M m) y)/\wx.rowIs w.heap.size 24 3 (fldCell (.int .i64 (P:Nat)) (.int .i64 (M:Nat)) (.slice A k c))/\Below w.heap.size w wx)
 case atStart=>exact ⟨1,rfl,by omega,by omega,by omega,fun y h1 h2=>absurd h1 (by omega),rf,hB⟩
 case round =>
  clear rf hB
  obtain ⟨x,rfl,hx1,hxq,hxg,HNO,rf,hB⟩:=hrel
  by_cases hlt:x<q
  ·have hlt':(x:Int)<(q:Int):=by omega
   have q0:=qc0 rf
   have q1:=qc1 rf
   have q2:=qc2 rf
   go_wp2_with fail
   refine (zh5 P M A k c m q x wr hf (zaC hm hB) hkM HQ.out hx1 hlt).mono ?_
   rintro e w1 ⟨lv,L,rfl,hL1,hO,kb,hok,hend⟩
   have HO:=hid (hO.mono hB.size)
   replace rf:=zaa rf kb;replace hB:=onS hB kb
   have HOK:=hid hok
   have HEND:=hid hend
   have hLq:=hok.le (by omega)
   clear kb q0 q1 q2 hO hok hend
   obtain ⟨LA,lc,hlv⟩:=HO.out.shape
   subst hlv
   by_cases hL:L=Q1
   ·have hLe:((L:Int) == (Q1:Int))=true:=by simp [hL]
    subst hL
    obtain ⟨pb,po,hLA,hpb,x0⟩:=(show IntsR w1 w1.heap.size LA L (fun i=>((pwG (mulF P M m) x i:Nat):Int)) from HO.out.rd rfl).at (i:=Q2) hQ21
    subst hLA
    obtain ⟨z,hz⟩:∃ z,z=pwG (mulF P M m) x Q2:=⟨_,rfl⟩
    rw [<-hz] at x0
    have hzq:z<q:=by rw [hz]; exact HOK.out.lt Q2 hQ21
    have HZ:=hid hz
    clear hz
    have hQ21':(Q2:Int)<(L:Int):=by omega
    have hQ20:(0:Int)<=(Q2:Int):=by omega
    have hwQ1:IntKind.i64.wrap (L:Int)=(L:Int):=IntWalk.i64_in _ (by omega)
    have hwQ2:IntKind.i64.wrap (Q2:Int)=(Q2:Int):=IntWalk.i64_in _ (by omega)
    go_wp2
    refine wp_region_held_drew (S:=fun w'=>w'.cell? ⟨w.heap.size,0,none⟩=some (.int .i64 (P:Nat))/\w'.cell? ⟨w.heap.size,1,none⟩=some (.int .i64 (M:Nat))/\w'.cell? ⟨w.heap.size,2,none⟩=some (.slice A k c)/\w'.cell? ⟨pb,po+Q2,none⟩=some (.int .i64 (z:Nat))) (by kernel_rfl) ⟨cellS (Below.refl _ _).drew (rf.cell (i:=0) (by omega)),cellS (Below.refl _ _).drew (rf.cell (i:=1) (by omega)),cellS (Below.refl _ _).drew (rf.cell (i:=2) (by omega)),cellS (Below.refl _ _).drew (x0)⟩ (fun hHeld=>?_)
    obtain ⟨w2,hw⟩:∃ W,W=World.drew w1:=⟨_,rfl⟩
    have kb:Below w1.heap.size w1 w2:=by rw [hw]; exact (Below.refl _ _).drew
    rw [<-hw] at hHeld ⊢;clear hw;replace rf:=zaa rf kb;replace hB:=onS hB kb;replace x0:=cellS kb x0
    have HKA:=hid kb
    clear kb
    refine tkq 0 (h:=tkq 1 (h:=tkq 2 (h:=tkq 3 (h:=tkq 4 (h:=tkq 5 (h:=tkq 6 (h:=tkq 7 (h:=tkq 8 (h:=tkq 9 (h:=tkq 10 (h:=tkq 11 (h:=tkq 12 (h:=?_)))))))))))))
    refine rdq 13 (h:=fun K hK=>?_)
    go_simp
    go_wp2_with fail
    refine (zdH P M A k c m z x w2 hf (zaC hm hB) hkM (by rw [<-HQ.out]; exact hzq) (by rw [<-HQ.out]; exact hlt)).mono ?_
    rintro e w3 ⟨rfl,kb⟩
    replace rf:=zaa rf kb;replace hB:=onS hB kb;replace x0:=cellS kb x0
    have HKB:=hid (onS HKA.out kb)
    clear kb
    obtain ⟨y,hy⟩:∃ y,y=mulF P M m z x:=⟨_,rfl⟩
    rw [<-hy]
    have HY:=hid hy
    have HO9:=hid True.intro
    clear hy
    refine bkq hK ⟨qc0 rf,qc1 rf,qc2 rf,x0⟩ (h:=fun hHeld=>?_)
    clear hK K
    refine tkq 14 (h:=tkq 15 (h:=?_))
    refine wpAnyH_done (by kernel_rfl) ?_ _
    clear hHeld
    by_cases hy1:y=1
    ·have hy1':((y:Int) == 1)=true:=by simp [hy1]
     have HG:Hid (GenX q (mulF P M m) x):=⟨by rw [<-HQ1.out]; exact HOK.out,by rw [<-HQ2.out,<-HZ.out,<-HY.out]; exact hy1⟩
     have HOF:=hid (HO.out.on HKB.out)
     clear hy1 x0
     go_wp2
     go_ret
     exact ⟨hB,.inr ⟨_,x,rfl,hx1,hlt,HG.out,by rw [<-HQ1.out]; exact HOF.out⟩⟩
    ·have hy1':((y:Int) == 1)=false:=by simp; omega
     have HNX:Hid (∀ y',1<=y'->y'<x+1->¬ GenX q (mulF P M m) y'):=fun y' h1 h2 hg=>by
      by_cases e:y'=x
      ·subst e
       exact hy1 (by rw [HY.out,HZ.out,HQ2.out]; exact hg.2)
      ·exact HNO.out y' h1 (by omega) hg
     clear hy1 x0
     go_wp2
     go_roundg (gk - 1)
     case measure=>omega
     case rel=>exact ⟨x+1,by go_num,by omega,by omega,by omega,HNX,rf,hB⟩
   ·have hLe:((L:Int) == (Q1:Int))=false:=by simp; omega
    have hwQ1:IntKind.i64.wrap (Q1:Int)=(Q1:Int):=IntWalk.i64_in _ (by omega)
    have HNX:Hid (∀ y,1<=y->y<x+1->¬ GenX q (mulF P M m) y):=fun y h1 h2 hg=>by
     by_cases e:y=x
     ·subst e
      exact hL (by rw [HQ1.out]; exact zh6 (by omega) HOK.out HEND.out hg.1)
     ·exact HNO.out y h1 (by omega) hg
    clear hL
    go_wp2
    go_quiet (fail)
    go_wp2
    go_roundg (gk - 1)
    case measure=>omega
    case rel=>exact ⟨x+1,by go_num,by omega,by omega,by omega,HNX,za4 rf _,zaj hB _⟩
  ·have hlt':¬ (x:Int)<(q:Int):=by omega
   obtain rfl:x=q:=by omega
   go_wp2
   go_ret
   exact ⟨hB,.inl ⟨rfl,HNO.out⟩⟩
structure RingM (q:Nat) (mul:Nat->Nat->Nat):Prop where
 two:2<=q
 lt:∀ x y,mul x y<q
 comm:∀ x y,x<q->y<q->mul x y=mul y x
 assoc:∀ x y z,x<q->y<q->z<q->mul (mul x y) z=mul x (mul y z)
 one:∀ x,x<q->mul 1 x=x
theorem ringM {P M:Nat} (m:Nat->Nat) (h:FldOk P M):RingM (P ^ M) (mulF P M m):=by
 obtain ⟨hP2,hM,_,_⟩:=h
 have hP0:0<P:=by omega
 have hq:P<=P ^ M:=by
  have:=Nat.pow_le_pow_right hP0 hM
  simpa using this
 have one:∀ j,dgt P 1 j=one0 j:=fun j=>by
  unfold dgt one0
  cases j with
  | zero=>rw [zdj,Nat.mod_eq_of_lt (by omega)]; rfl
  | succ j=>rw [zea,Nat.div_eq_of_lt (by omega),zch]; rfl
 have mD:=fun (x y j:Nat) (hj:j<M)=>zei (P:=P) (m:=m) hP0 hM x y hj
 refine ⟨by omega,fun x y=>za3 hP0 x y,fun x y hx hy=>?_,fun x y z hx hy hz=>?_,fun x hx=>?_⟩
 ·refine zbP hP0 (za3 hP0 _ _) (za3 hP0 _ _) fun j hj=>?_
  exact (mD _ _ j hj).trans ((zcd (by rw [zbb])).trans (mD _ _ j hj).symm)
 ·refine zbP hP0 (za3 hP0 _ _) (za3 hP0 _ _) fun j hj=>?_
  refine (mD _ _ j hj).trans ((zbR (fun i hi=>mD _ _ i hi) (fun i _=>zaD _) j).trans ?_)
  rw [zcw hM]
  exact ((mD _ _ j hj).trans (zbR (fun i _=>zaD _) (fun i hi=>mD _ _ i hi) j)).symm
 ·refine zbP hP0 (za3 hP0 _ _) hx fun j hj=>?_
  refine (mD _ _ j hj).trans (zcd ?_)
  rw [show dgt P 1=one0 from funext one,zeh _ hj]
section
variable {q x:Nat} {mul:Nat->Nat->Nat}
theorem zh7 (hR:RingM q mul) (hx:x<q) (h:GenX q mul x) {n:Nat} (hn:n<q - 1):mul (pwG mul x n) x=pwG mul x ((n+1) % (q - 1)):=by
 have h2:=hR.two
 by_cases e:n+1=q - 1
 ·rw [e,Nat.mod_self]
  have:n=q - 2:=by omega
  rw [this]
  exact h.2
 ·rw [Nat.mod_eq_of_lt (by omega)]
  cases n with
  | zero=>exact hR.one x hx
  | succ n=>rfl
theorem zgt (hR:RingM q mul) (hx:x<q) (h:GenX q mul x) {i:Nat} (hi:i<q - 1):∀ j,j<q - 1->mul (pwG mul x i) (pwG mul x j)=pwG mul x ((i+j) % (q - 1))
 | 0,_=>by
  have h2:=hR.two
  rw [Nat.add_zero,Nat.mod_eq_of_lt hi]
  show mul (pwG mul x i) 1=_
  rw [hR.comm _ _ (h.1.lt i hi) (by omega),hR.one _ (h.1.lt i hi)]
 | j + 1, hj => by
  have h2:=hR.two
  have e:pwG mul x (j+1)=mul (pwG mul x j) x:=by
   rw [zh7 hR hx h (by omega),Nat.mod_eq_of_lt hj]
  rw [e,<-hR.assoc _ _ _ (h.1.lt i hi) (h.1.lt j (by omega)) hx,zgt hR hx h hi j (by omega),zh7 hR hx h (Nat.mod_lt _ (by omega)),Nat.mod_add_mod]
  rfl
theorem zfl (h2:2<=q) (h:PwOk q (pwG mul x) (q - 1)) {y:Nat} (hy0:y≠0) (hy:y<q):∃ i,i<q - 1/\pwG mul x i=y:=by
 refine Classical.byContradiction fun hno=>?_
 have hne:∀ i,i<q - 1->pwG mul x i≠y:=fun i hi e=>hno ⟨i,hi,e⟩
 have:=pigeon (M:=q) (N:=q - 1) (f:=fun i=>if i<q - 1 then pwG mul x i - 1 else y - 1) (fun i hi=>by
  show (if i<q - 1 then pwG mul x i - 1 else y - 1)<q - 1
  split
  ·rename_i h1
   have:=h.lt i h1
   have:=h.ne i h1
   omega
  ·omega) (fun i k hi hk e=>by
  have e:(if i<q - 1 then pwG mul x i - 1 else y - 1)=(if k<q - 1 then pwG mul x k - 1 else y - 1):=e
  by_cases h1:i<q - 1 <;> by_cases h3:k<q - 1
  ·rw [if_pos h1,if_pos h3] at e
   have a1:=h.ne i h1
   have a2:=h.ne k h3
   rcases Nat.lt_trichotomy i k with c | c | c
   ·exact absurd (show pwG mul x i=pwG mul x k by omega) (h.inj i k c h3)
   ·exact c
   ·exact absurd (show pwG mul x k=pwG mul x i by omega) (h.inj k i c h1)
  ·rw [if_pos h1,if_neg h3] at e
   have a1:=h.ne i h1
   exact absurd (show pwG mul x i=y by omega) (hne i h1)
  ·rw [if_neg h1,if_pos h3] at e
   have a1:=h.ne k h3
   exact absurd (show pwG mul x k=y by omega) (hne k h3)
  ·omega)
 omega
theorem zfm (hR:RingM q mul) (hx:x<q) (h:GenX q mul x) {y z:Nat} (hy0:y≠0) (hy:y<q) (hz0:z≠0) (hz:z<q):mul y z≠0:=by
 obtain ⟨i,hi,rfl⟩:=zfl hR.two h.1 hy0 hy
 obtain ⟨j,hj,rfl⟩:=zfl hR.two h.1 hz0 hz
 rw [zgt hR hx h hi j hj]
 exact h.1.ne _ (Nat.mod_lt _ (by have:=hR.two; omega))
end
theorem zfV {q:Nat} {add mul:Nat->Nat->Nat} (hF:FieldLaws q add mul):∃ x,1<=x/\x<q/\GenX q mul x:=by
 obtain ⟨iA,iM,iN,i0,i1,F,ha,hm,h0,h1⟩:=zgJ hF
 have hq:0<q:=by have:=hF.two; omega
 have hnd:((List.range q).map (toEl q hq)).Nodup:=by
  rw [List.Nodup,List.pairwise_map]
  refine List.Pairwise.imp_of_mem (R:=fun a b=>a<b) (fun {a b} ha hb hab e=>?_) List.pairwise_lt_range
  have:=zdu hq (List.mem_range.1 ha) (List.mem_range.1 hb) e
  omega
 obtain ⟨g,hg0,hg⟩:=zdF F hnd fun a=>by
  obtain ⟨b,hb,e⟩:=zjZ hq a
  exact List.mem_map.2 ⟨b,List.mem_range.2 hb,e⟩
 rw [List.length_map,List.length_range] at hg
 have hpw:∀ n,pwG mul g.val n=(pwK g n).val:=fun n=>by
  induction n with
  | zero=>exact h1.symm
  | succ n ih =>
   show _=(pwK g n*g).val
   rw [hm,<-ih]
   cases n with
   | zero=>exact (hF.oneMul _ g.lt).symm
   | succ n=>rfl
 have hnz:∀ z:El q,z≠0->z.val≠0:=fun z hz e=>hz (El.ext' (by rw [e,h0]))
 have h2:=hF.two
 refine ⟨g.val,by have:=hnz g hg0; omega,g.lt,⟨fun i _=>by rw [hpw]; exact hnz _ (zlA F hg0 i),fun i _=>by rw [hpw]; exact (pwK g i).lt,fun i j hij hj e=>?_⟩,?_⟩
 ·rw [hpw,hpw] at e
  have e:=El.ext' e
  refine hg.2.2 (j - i) (by omega) (by omega) ?_
  rw [show j=i+(j - i) by omega,zh4 F] at e
  have h1:pwK g i*pwK g (j - i)=pwK g i*1:=by rw [<-e,F.mulOne]
  obtain ⟨y,hy⟩:=F.inv _ (zlA F hg0 i)
  have h2:y*(pwK g i*pwK g (j - i))=y*(pwK g i*1):=by rw [h1]
  rwa [<-F.mulA,<-F.mulA,F.mulC y,hy,F.oneM,F.oneM] at h2
 ·rw [hpw,<-hm]
  have e:pwK g (q - 1)=pwK g (q - 2)*g:=by
   obtain ⟨r,hr⟩:∃ r,q=r+2:=⟨q - 2,by omega⟩
   subst hr
   rfl
  rw [<-e,hg.2.1,h1]
theorem zh8 {P M x:Nat} {m:Nat->Nat} (hf:FldOk P M) (hm:M=1∨∀ t,t<M->m t<P) (hx:x<P ^ M) (h:GenX (P ^ M) (mulF P M m) x):IrrB P M m:=by
 intro d hd1 hd2 v hv hdiv
 have hR:=ringM m hf
 obtain ⟨hP2,hM,_,_⟩:=hf
 have hP0:0<P:=by omega
 have hm:∀ t,t<M->m t<P:=by
  rcases hm with e | e
  ·omega
  ·exact e
 have hl:∀ (B:Nat->Int) j,(((B j) % P).toNat:Int)=B j % P:=fun B j=>by
  have:=Int.emod_nonneg (B j) (show (P:Int)≠0 by omega)
  omega
 have hlt:∀ (B:Nat->Int) j,((B j) % P).toNat<P:=fun B j=>by
  have:=Int.emod_lt_of_pos (B j) (show (0:Int)<P by omega)
  have:=hl B j; omega
 have val:∀ B:Nat->Int,∃ y,y<P ^ M/\∀ j,j<M->cg P (dgt P y j) (B j):=fun B=>by
  refine ⟨valN P (fun j=>((B j) % P).toNat) M,zbE fun i _=>hlt B i,fun j hj=>?_⟩
  unfold dgt
  rw [zbC (fun i _=>hlt B i) j hj,hl B]
  exact zgH _
 obtain ⟨a,ha,hA⟩:=val (hD P d (dig P v) M (modR M m) (M+1 - d))
 obtain ⟨b,hb,hB⟩:=val (lead d (dig P v))
 have hne:∀ {y j:Nat},j<M->cg P (dgt P y j) 1->y≠0:=fun {y j} hj e e0=>by
  subst e0
  unfold dgt at e
  rw [zch] at e
  exact absurd (zhj (P:=P) (a:=0) (b:=1) e hP0 (by omega)) (by omega)
 refine zfm hR hx h (y:=a) (z:=b) ?_ ha ?_ hb ?_
 ·refine hne (j:=M - d) (by omega) ((hA _ (by omega)).trans (zcd ?_))
  obtain ⟨s,hs⟩:∃ s,M+1 - d=s+1:=⟨M - d,by omega⟩
  rw [hs]
  exact zk1 (by omega) s (by omega)
 ·refine hne (j:=d) (by omega) ((hB _ (by omega)).trans (zcd ?_))
  unfold lead
  rw [if_neg (by omega),if_pos rfl]
 ·refine zbP hP0 (za3 hP0 _ _) (Nat.pow_pos hP0) fun j hj=>?_
  refine (zei (P:=P) (m:=m) hP0 hM a b hj).trans ((zbR (fun i hi=>hA i hi) (fun i hi=>hB i hi) j).trans ?_)
  refine (zjm (by omega) hm hd1 (by omega) hj).trans (zcd ?_)
  rw [hdiv j (by omega)]
  unfold dgt
  rw [zch]
  rfl
theorem zlB {P M:Nat} {m:Nat->Nat} (hf:FldOk P M) (hp:PrimeB P) (hm:M=1∨∀ t,t<M->m t<P):(∃ x,1<=x/\x<P ^ M/\GenX (P ^ M) (mulF P M m) x)↔FieldOk P M m:=by
 constructor
 ·rintro ⟨x,_,hx,h⟩
  exact ⟨hf,hp,hm,zh8 hf hm hx h⟩
 ·intro h
  exact zfV (fieldLaws h)
def ShapeF (P M:Int) (k:Nat) (f:Nat->Int):Prop :=
 ∃ P' M':Nat,P=P'/\M=M'/\FldOk P' M'/\PrimeB P'/\((M'=1/\k=0)∨(2<=M'/\k=M'/\∀ i,i<M'->0<=f i/\f i<P'))
theorem GoodF.shape {P M:Int} {k:Nat} {f:Nat->Int} (h:GoodF P M k f):ShapeF P M k f:=by
 obtain ⟨P',M',h1,h2,h3,h4,h5⟩:=h
 refine ⟨P',M',h1,h2,h3,h4,?_⟩
 rcases h5 with h | ⟨a,b,c,_⟩
 ·exact .inl h
 ·exact .inr ⟨a,b,c⟩
theorem ShapeF.good {P M:Nat} {k:Nat} {f:Nat->Int} (h:ShapeF (P:Int) (M:Int) k f):GoodF (P:Int) (M:Int) k f↔∃ x,1<=x/\x<P ^ M/\GenX (P ^ M) (mulF P M fun i=>(f i).toNat) x:=by
 obtain ⟨P',M',h1,h2,h3,h4,h5⟩:=h
 obtain rfl:P=P':=by omega
 obtain rfl:M=M':=by omega
 rw [zlB h3 h4 (by
  rcases h5 with ⟨e,_⟩ | ⟨_,_,c⟩
  ·exact .inl e
  ·exact .inr fun t ht=>by have:=c t ht; show (f t).toNat<P; omega)]
 refine ⟨fun h=>h.field.1,fun h=>⟨P,M,rfl,rfl,h3,h4,?_⟩⟩
 rcases h5 with e | ⟨a,b,c⟩
 ·exact .inl e
 ·exact .inr ⟨a,b,c,h.2.2.2⟩
theorem ShapeF.fld {P M:Int} {k:Nat} {f:Nat->Int} (h:ShapeF P M k f):∃ P' M':Nat,P=P'/\M=M'/\FldOk P' M'/\(M'=1∨k=M'):=by
 obtain ⟨P',M',h1,h2,h3,h4,h5⟩:=h
 refine ⟨P',M',h1,h2,h3,?_⟩
 rcases h5 with ⟨a,b⟩ | ⟨a,b,c⟩
 ·exact .inl a
 ·exact .inr b
theorem ShapeF.mod {P M:Nat} {k:Nat} {f:Nat->Int} {w:World} {A:Option Addr} (h:ShapeF (P:Int) (M:Int) k f) (hr:IntsR w w.heap.size A k f):ModOk w P M A (fun i=>(f i).toNat):=by
 obtain ⟨P',M',h1,h2,h3,h4,h5⟩:=h
 obtain rfl:P=P':=by omega
 obtain rfl:M=M':=by omega
 rcases h5 with ⟨e,_⟩ | ⟨e1,rfl,e3⟩
 ·exact .inl e
 ·exact .inr ⟨hr.congr fun i hi=>by have:=e3 i hi; show f i=((f i).toNat:Int); omega,fun i hi=>by have:=e3 i hi; show (f i).toNat<P; omega⟩
theorem zgu (P M:Int) (A:Option Addr) (k c:Nat) (f:Nat->Int) (w:World) (hr:IntsR w w.heap.size A k f) :
  Calls Tryz.prog 145 #[.agg #[.int .i64 P,.int .i64 M,.slice A k c]] w (IffPost (ShapeF P M k f) w):=by
 have hB:Below w.heap.size w (w.alloc (.cells #[.int .i64 P,.int .i64 M,.slice A k c] 24)):=(Below.refl _ _).alloc (Nat.le_refl _) _
 have rf:=zaf (w:=w) (a:=.int .i64 P) (b:=.int .i64 M) (c:=.slice A k c) (T := 24)
 obtain ⟨w0,hw0⟩:∃ W,W=w.alloc (.cells #[.int .i64 P,.int .i64 M,.slice A k c] 24):=⟨_,rfl⟩
 rw [<-hw0] at hB rf
 go_enter Tryz.func145, Tryz.ntmps145
 go_upto_region 1 with fail
 rw [<-hw0];clear hw0
 have q0:=qc0 rf
 have q1:=qc1 rf
 have q2:=qc2 rf
 go_wp2_with fail
 refine (zc0 P M _).mono ?_
 rintro e w1 ⟨rfl,kb⟩
 replace rf:=zaa rf kb;replace hB:=onS hB kb;clear kb q0 q1 q2
 by_cases h0:ordV P M=0
 ·have hno:Hid (¬ ShapeF P M k f):=by
   rintro ⟨P',M',rfl,rfl,h3,_⟩
   rw [zcf h3] at h0
   have:=Nat.pow_pos (n:=M') (show 0<P' by have:=h3.1; omega)
   omega
  rw [h0];clear h0 rf
  go_wp2
  go_ret
  exact zaI hno.out hB
 ·obtain ⟨P,M,rfl,rfl,hf⟩:=zjf h0
  obtain ⟨v,hv⟩:∃ v,v=ordV (P:Int) (M:Int):=⟨_,rfl⟩
  rw [<-hv] at h0;rw [<-hv]
  have hv0:(v == 0)=false:=by simpa using h0
  have hP2:=hf.1
  have hPl:=hf.P_le
  have hM1:=hf.2.1
  have hM8:=hf.2.2.1
  have hq:=hf.2.2.2
  have HF:=hid hf
  clear hv hf
  have q0:=qc0 rf
  have q1:=qc1 rf
  have q2:=qc2 rf
  go_wp2_with fail
  refine (zgX P _ hP2 hPl).mono ?_
  rintro e w2 ⟨b,rfl,hb,rfl⟩
  have HBP:=hid hb
  clear hb h0 hv0
  cases b
  ·have hno:Hid (¬ ShapeF (P:Int) (M:Int) k f):=by
    rintro ⟨P',M',e1,e2,h3,h4,_⟩
    obtain rfl:P=P':=by omega
    have:=HBP.out.2 h4
    cases this
   go_wp2
   go_ret
   exact zaI hno.out hB
  ·have hp : Hid (PrimeB P) := HBP.out.1 rfl
   clear HBP
   by_cases hM:M=1
   ·subst hM
    by_cases hk0:k=0
    ·subst hk0
     have hyes:Hid (ShapeF (P:Int) ((1:Nat):Int) 0 f):=⟨P,1,rfl,rfl,HF.out,hp.out,.inl ⟨rfl,rfl⟩⟩
     go_wp2
     go_ret
     exact zbm hyes.out hB
    ·have hk0':((k:Int) == 0)=false:=by simp; omega
     have hno:Hid (¬ ShapeF (P:Int) ((1:Nat):Int) k f):=by
      rintro ⟨P',M',e1,e2,h3,h4,⟨e3,e4⟩ | ⟨e3,_⟩⟩
      ·exact hk0 e4
      ·omega
     go_wp2
     go_ret
     exact zaI hno.out hB
   ·have hM' : ((M : Int) == 1) = false := by simp; omega
    by_cases hkM:k=M
    ·subst hkM
     have hkk:((k:Int) != (k:Int))=false:=by simp
     have hk2:2<=k:=by omega
     go_wp2
     clear q0 q1 q2 hM' hkk
     go_loopg [33] k (fun gg iv wx=>∃ i:Nat,iv=.int .i64 (i:Nat)/\i<=k/\k<=i+gg/\(∀ i',i'<i->0<=f i'/\f i'<P)/\wx.rowIs w.heap.size 24 3 (fldCell (.int .i64 (P:Nat)) (.int .i64 (k:Nat)) (.slice A k c))/\Below w.heap.size w wx)
     case atStart=>exact ⟨0,rfl,by omega,by omega,fun i' h=>by omega,rf,hB⟩
     case round =>
      clear rf hB
      obtain ⟨i,rfl,hi,hig,hg,rf,hB⟩:=hrel
      have HG:=hid hg
      clear hg
      have hi0:(0:Int)<=(i:Int):=by omega
      have q0:=qc0 rf
      have q1:=qc1 rf
      have q2:=qc2 rf
      by_cases hlt:i<k
      ·have hlt':(i:Int)<(k:Int):=by omega
       obtain ⟨b,o,rfl,hb,e0⟩:=(hr.on hB).at hlt
       obtain ⟨x,hx⟩:∃ x,x=f i:=⟨_,rfl⟩
       rw [<-hx] at e0
       have HX:=hid hx
       clear hx
       have hno:Hid (x<0∨(P:Int)<=x->¬ ShapeF (P:Int) (k:Int) k f):=by
        rintro hc ⟨P',M',e1,e2,h3,h4,⟨e3,e4⟩ | ⟨e3,e4,e5⟩⟩
        ·omega
        ·have:=e5 i (by omega)
         rw [<-HX.out] at this
         omega
       by_cases hx0:x<0
       ·have hd:decide (x<0)=true:=by simpa using hx0
        go_wp2
        go_ret
        exact zaI (hno.out (.inl hx0)) hB
       ·have hd:decide (x<0)=false:=by simpa using hx0
        by_cases hxP:(P:Int)<=x
        ·have hd2:decide ((P:Int)<=x)=true:=by simpa using hxP
         go_wp2
         go_ret
         exact zaI (hno.out (.inr hxP)) hB
        ·have hd2:decide ((P:Int)<=x)=false:=by simpa using hxP
         have hnx:Hid (∀ i',i'<i+1->0<=f i'/\f i'<P):=fun i' h=>by
          by_cases e:i'=i
          ·rw [e,<-HX.out]; omega
          ·exact HG.out i' (by omega)
         clear hno
         go_wp2
         go_roundg (gk - 1)
         case measure=>omega
         case rel=>exact ⟨i+1,by go_num,by omega,by omega,hnx.out,rf,hB⟩
      ·obtain rfl:i=k:=by omega
       have hlt':¬ (i:Int)<(i:Int):=by omega
       have hyes:Hid (ShapeF (P:Int) (i:Int) i f):=⟨P,i,rfl,rfl,HF.out,hp.out,.inr ⟨hk2,rfl,HG.out⟩⟩
       go_wp2
       go_ret
       exact zbm hyes.out hB
    ·have hkM':((k:Int) != (M:Int))=true:=by simp; omega
     have hno:Hid (¬ ShapeF (P:Int) (M:Int) k f):=by
      rintro ⟨P',M',e1,e2,h3,h4,⟨e3,e4⟩ | ⟨e3,e4,_⟩⟩
      ·omega
      ·omega
     go_wp2
     go_ret
     exact zaI hno.out hB
end Go.Proofs.YtioagplajkoohaaGreat