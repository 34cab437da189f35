/- Merged texts of a claim: ElAll, Cyc, GfLaw, Gf5, GfObj, GfMul. -/
import Derived.Test.YtgekjfpapmlndaaGreatTY3
namespace Go.Proofs.YtgekjfpapmlndaaGreat
set_option maxRecDepth 100000
set_option maxHeartbeats 32000000
open KB KE
structure Fie (K:Type) [Add K] [Mul K] [Neg K] [Zero K] [One K]:Prop where
 addA:∀ x y z:K,x+y+z=x+(y+z)
 addC:∀ x y:K,x+y=y+x
 zeroA:∀ x:K,0+x=x
 negA:∀ x:K,-x+x=0
 mulA:∀ x y z:K,x*y*z=x*(y*z)
 mulC:∀ x y:K,x*y=y*x
 oneM:∀ x:K,1*x=x
 dist:∀ x y z:K,x*(y+z)=x*y+x*z
 inv:∀ x:K,x≠0->∃ y,x*y=1
 ne:(1:K)≠0
namespace Fie
variable {K:Type} [Add K] [Mul K] [Neg K] [Zero K] [One K] (F:Fie K)
include F
theorem addZ (x:K):x+0=x:=by rw [F.addC,F.zeroA]
theorem addN (x:K):x + -x=0:=by rw [F.addC,F.negA]
theorem cancel {x y z:K} (h:x+y=x+z):y=z:=by
 have : -x+(x+y) = -x+(x+z):=by rw [h]
 rwa [<-F.addA,<-F.addA,F.negA,F.zeroA,F.zeroA] at this
theorem cancelR {x y z:K} (h:y+x=z+x):y=z:=F.cancel (x:=x) (by rw [F.addC,h,F.addC])
theorem mulZ (x:K):x*0=0:=F.cancel (x:=x*0) (by rw [<-F.dist,F.zeroA,F.addZ])
theorem zMul (x:K):0*x=0:=by rw [F.mulC,F.mulZ]
theorem distR (x y z:K):(x+y)*z=x*z+y*z:=by rw [F.mulC,F.dist,F.mulC z,F.mulC z]
theorem mulOne (x:K):x*1=x:=by rw [F.mulC,F.oneM]
theorem negOf {x y:K} (h:x+y=0):y = -x:=F.cancel (x:=x) (by rw [h,F.addN])
theorem mulNeg (x y:K):x * -y = -(x*y):=F.negOf (by rw [<-F.dist,F.addN,F.mulZ])
theorem negMul (x y:K) : -x*y = -(x*y):=by rw [F.mulC,F.mulNeg,F.mulC]
theorem negNeg (x:K) : - -x=x:=(F.negOf (F.negA x)).symm
theorem subEq {x y:K} (h:x + -y=0):x=y:=by
 have:=F.negOf h
 rw [<-F.negNeg y,this,F.negNeg]
theorem negOne (x:K) : -1*x = -x:=by rw [F.negMul,F.oneM]
theorem addL (x y z:K):x+(y+z)=y+(x+z):=by rw [<-F.addA,F.addC x,F.addA]
theorem mulL (x y z:K):x*(y*z)=y*(x*z):=by rw [<-F.mulA,F.mulC x,F.mulA]
theorem zeroOr {x y:K} (h:x*y=0) (hx:x≠0):y=0:=by
 obtain ⟨z,hz⟩:=F.inv x hx
 have:z*(x*y)=y:=by rw [<-F.mulA,F.mulC z,hz,F.oneM]
 rw [<-this,h,F.mulZ]
end Fie
def sumM {α:Type} (g:α->Rat):List α->Rat
 | []=>0
 | x :: l=>g x+sumM g l
section
variable {α β:Type} {g h:α->Rat}
theorem zgd (l m:List α):sumM g (l ++ m)=sumM g l+sumM g m:=by
 induction l with
 | nil=>show sumM g m=0+sumM g m; grind
 | cons a l ih=>show g a+sumM g (l ++ m)=g a+sumM g l+sumM g m; rw [ih]; grind
theorem zgV (k:β->α) (l:List β):sumM g (l.map k)=sumM (fun b=>g (k b)) l:=by
 induction l with
 | nil=>rfl
 | cons a l ih=>show g (k a)+sumM g (l.map k)=g (k a)+sumM (fun b=>g (k b)) l; rw [ih]
theorem ze4 (k:β->List α) (l:List β):sumM g (l.flatMap k)=sumM (fun b=>sumM g (k b)) l:=by
 induction l with
 | nil=>rfl
 | cons a l ih=>rw [List.flatMap_cons,zgd,ih]; rfl
theorem zar {l:List α} (e:∀ x,x ∈ l->g x=h x):sumM g l=sumM h l:=by
 induction l with
 | nil=>rfl
 | cons a l ih=>show g a+sumM g l=h a+sumM h l; rw [e a (by simp),ih fun x hx=>e x (by simp [hx])]
theorem zdV (l:List α):sumM (fun x=>g x+h x) l=sumM g l+sumM h l:=by
 induction l with
 | nil=>show (0:Rat)=0+0; grind
 | cons a l ih=>show g a+h a+sumM (fun x=>g x+h x) l=g a+sumM g l+(h a+sumM h l); rw [ih]; grind
theorem zc2 (c:Rat) (l:List α):sumM (fun x=>c*g x) l=c*sumM g l:=by
 induction l with
 | nil=>show (0:Rat)=c*0; grind
 | cons a l ih=>show c*g a+sumM (fun x=>c*g x) l=c*(g a+sumM g l); rw [ih]; grind
theorem zce (l:List α):sumM (fun _=>(0:Rat)) l=0:=by
 induction l with
 | nil=>rfl
 | cons a l ih=>show (0:Rat)+sumM (fun _=>(0:Rat)) l=0; rw [ih]; grind
theorem zc3 (c:Rat) (l:List α):sumM (fun _=>c) l=c*(l.length:Nat):=by
 induction l with
 | nil=>show (0:Rat)=c*((0:Nat):Rat); grind
 | cons a l ih =>
  show c+sumM (fun _=>c) l=c*((l.length+1:Nat):Rat)
  rw [ih]
  have:((l.length+1:Nat):Rat)=(l.length:Nat)+1:=by simp
  rw [this]; grind
theorem zic {l m:List α} (p:l.Perm m):sumM g l=sumM g m:=by
 induction p with
 | nil=>rfl
 | cons x _ ih=>show g x+_=g x+_; rw [ih]
 | swap x y l=>show g y+(g x+sumM g l)=g x+(g y+sumM g l); grind
 | trans _ _ h1 h2=>exact h1.trans h2
theorem zid (l:List α) (m:List β) (k:α->β->Rat):sumM (fun a=>sumM (k a) m) l=sumM (fun b=>sumM (fun a=>k a b) l) m:=by
 induction l with
 | nil=>exact (zce m).symm
 | cons a l ih=>show sumM (k a) m+sumM (fun a=>sumM (k a) m) l=sumM (fun b=>k a b+sumM (fun a=>k a b) l) m; rw [ih,zdV]
end
open Classical in
theorem zdW {α:Type} {l:List α} (hn:l.Nodup) {a:α} (ha:a ∈ l) (p:α->Prop) (hp:∀ x,p x↔x=a) (g:α->Rat):sumM (fun x=>if p x then g x else 0) l=g a:=by
 induction l with
 | nil=>cases ha
 | cons b l ih =>
  rw [List.nodup_cons] at hn
  show (if p b then g b else 0)+sumM _ l=g a
  by_cases e:b=a
  ·subst e
   rw [if_pos ((hp b).2 rfl),zar (h:=fun _=>0) (fun x hx=>if_neg fun h=>hn.1 (by rw [<-(hp x).1 h]; exact hx)),zce]
   grind
  ·rw [if_neg (fun h=>e ((hp b).1 h)),ih hn.2 ((List.mem_cons.1 ha).resolve_left fun h=>e h.symm)]
   grind
open Classical in
theorem zfH {α:Type} (l:List α) (p:α->Prop) (hp:∀ x,¬ p x) (g:α->Rat):sumM (fun x=>if p x then g x else 0) l=0:=by
 rw [zar (h:=fun _=>0) (fun x _=>if_neg (hp x)),zce]
theorem perm_of_nodup' {α:Type}:∀ {l m:List α},l.Nodup->(∀ x,x ∈ l->x ∈ m)->m.length<=l.length->l.Perm m:=by
 classical
 intro l
 induction l with
 | nil =>
  intro m _ _ h
  obtain rfl:m=[]:=List.length_eq_zero_iff.1 (by simpa using h)
  exact List.Perm.refl _
 | cons a l ih =>
  intro m h1 h2 h3
  have ha:=h2 a (by simp)
  rw [List.nodup_cons] at h1
  have hl:=List.length_erase_of_mem ha
  have hp:=ih (m:=m.erase a) h1.2 (fun x hx=>(List.mem_erase_of_ne (fun e:x=a=>h1.1 (by rw [<-e]; exact hx))).2 (h2 x (by simp [hx]))) (by simp at h3; omega)
  exact (hp.cons a).trans (List.perm_cons_erase ha).symm
def allW {K:Type} (L:List K):Nat->List (List K)
 | 0=>[[]]
 | n+1=>(allW L n).flatMap fun w=>L.map fun a=>a :: w
theorem zb0 {K:Type} (L:List K) (n:Nat) (g:List K->Rat):sumM g (allW L (n+1))=sumM (fun w=>sumM (fun a=>g (a :: w)) L) (allW L n):=by
 show sumM g ((allW L n).flatMap _)=_
 rw [ze4]
 exact zar fun w _=>by rw [zgV]
theorem zc4 {K:Type} (L:List K):∀ n x,x ∈ allW L n->x.length=n:=by
 intro n
 induction n with
 | zero=>intro x hx; simp [allW] at hx; rw [hx]; rfl
 | succ n ih =>
  intro x hx
  simp only [allW,List.mem_flatMap,List.mem_map] at hx
  obtain ⟨w,hw,a,_,rfl⟩:=hx
  simp [ih w hw]
def addW {K:Type} [Add K] (x y:List K):List K:=List.zipWith (·+·) x y
def smulW {K:Type} [Mul K] (a:K) (x:List K):List K:=x.map (a*·)
theorem zbz {K:Type} [Mul K] (c:K) (x:List K):(smulW c x).length=x.length:=by simp [smulW]
theorem zdA {K:Type} [Add K] {x y:List K} (h:x.length=y.length):(addW x y).length=x.length:=by simp [addW]; omega
section
variable {K:Type} [Add K] [Mul K] [Neg K] [Zero K] [One K]
def dotW:List K->List K->K
 | a :: x,b :: y=>a*b+dotW x y
 | _,_=>0
structure LinC (n:Nat) (C:List K->Prop):Prop where
 len:∀ x,C x->x.length=n
 zero:C (List.replicate n 0)
 add:∀ x y,C x->C y->C (addW x y)
 smul:∀ a x,C x->C (smulW a x)
def perpW (n:Nat) (C:List K->Prop) (x:List K):Prop:=x.length=n/\∀ y,C y->dotW x y=0
open Classical in
noncomputable def wtW (s t:Rat):List K->Rat
 | []=>1
 | a :: x=>(if a=0 then s else t)*wtW s t x
open Classical in
noncomputable def zW (L:List K) (n:Nat) (C:List K->Prop) (s t:Rat):Rat:=sumM (fun x=>if C x then wtW s t x else 0) (allW L n)
open Classical in
noncomputable def cntW (L:List K) (n:Nat) (C:List K->Prop):Rat:=sumM (fun x=>if C x then 1 else 0) (allW L n)
variable (F:Fie K)
include F
theorem zgW:∀ x:List K,∀ n,dotW x (List.replicate n 0)=0:=by
 intro x
 induction x with
 | nil=>intro n; rfl
 | cons a x ih =>
  intro n
  cases n with
  | zero=>rfl
  | succ n=>show a*0+dotW x (List.replicate n 0)=0; rw [F.mulZ,ih,F.addZ]
theorem zi7:∀ x y z:List K,y.length=z.length->dotW x (addW y z)=dotW x y+dotW x z:=by
 intro x
 induction x with
 | nil=>intro y z _; show (0:K)=0+0; rw [F.addZ]
 | cons a x ih =>
  intro y z h
  cases y with
  | nil =>
   cases z with
   | nil=>show (0:K)=0+0; rw [F.addZ]
   | cons c z=>simp at h
  | cons b y =>
   cases z with
   | nil=>simp at h
   | cons c z =>
    show a*(b+c)+dotW x (addW y z)=a*b+dotW x y+(a*c+dotW x z)
    rw [ih y z (by simpa using h),F.dist,F.addA,F.addA,F.addL (a*c)]
theorem zgX (c:K):∀ x y:List K,dotW x (smulW c y)=c*dotW x y:=by
 intro x
 induction x with
 | nil=>intro y; show (0:K)=c*0; rw [F.mulZ]
 | cons a x ih =>
  intro y
  cases y with
  | nil=>show (0:K)=c*0; rw [F.mulZ]
  | cons b y =>
   show a*(c*b)+dotW x (smulW c y)=c*(a*b+dotW x y)
   rw [ih,F.dist,F.mulL]
theorem zgY:∀ x y z:List K,x.length=y.length->dotW (addW x y) z=dotW x z+dotW y z:=by
 intro x
 induction x with
 | nil =>
  intro y z h
  cases y with
  | nil=>show (0:K)=0+0; rw [F.addZ]
  | cons b y=>simp at h
 | cons a x ih =>
  intro y z h
  cases y with
  | nil=>simp at h
  | cons b y =>
   cases z with
   | nil=>show (0:K)=0+0; rw [F.addZ]
   | cons c z =>
    show (a+b)*c+dotW (addW x y) z=a*c+dotW x z+(b*c+dotW y z)
    rw [ih y z (by simpa using h),F.distR,F.addA,F.addA,F.addL (b*c)]
theorem zfI (c:K):∀ x y:List K,dotW (smulW c x) y=c*dotW x y:=by
 intro x
 induction x with
 | nil=>intro y; show (0:K)=c*0; rw [F.mulZ]
 | cons a x ih =>
  intro y
  cases y with
  | nil=>show (0:K)=c*0; rw [F.mulZ]
  | cons b y =>
   show (c*a)*b+dotW (smulW c x) y=c*(a*b+dotW x y)
   rw [ih,F.dist,F.mulA]
theorem zgZ (c:K) (n:Nat):smulW c (List.replicate n (0:K))=List.replicate n 0:=by
 unfold smulW
 rw [List.map_replicate,F.mulZ]
theorem zku:∀ x:List K,addW x (List.replicate x.length 0)=x:=by
 intro x
 induction x with
 | nil=>rfl
 | cons a x ih=>show (a+0) :: addW x (List.replicate x.length 0)=a :: x; rw [F.addZ,ih]
theorem zg0 (c:K):∀ x y:List K,x.length=y.length->addW (addW x (smulW c y)) (smulW (-c) y)=x:=by
 intro x
 induction x with
 | nil=>intro y _; cases y <;> rfl
 | cons a x ih =>
  intro y h
  cases y with
  | nil=>simp at h
  | cons b y =>
   show (a+c*b + -c*b) :: addW (addW x (smulW c y)) (smulW (-c) y)=a :: x
   rw [ih y (by simpa using h),F.addA,F.negMul,F.addN,F.addZ]
theorem zie {L:List K} (hn:L.Nodup) (hc:∀ a,a ∈ L):∀ n (y:List K),y.length=n->∀ g:List K->Rat,sumM (fun x=>g (addW x y)) (allW L n)=sumM g (allW L n):=by
 intro n
 induction n with
 | zero =>
  intro y hy g
  obtain rfl:y=[]:=List.length_eq_zero_iff.1 hy
  rfl
 | succ n ih =>
  intro y hy g
  cases y with
  | nil=>simp at hy
  | cons b y =>
   rw [zb0,zb0]
   have hp:(L.map (·+b)).Perm L:=perm_of_nodup' (by
    rw [List.Nodup,List.pairwise_map]
    exact hn.imp fun h e=>h (F.cancelR e)) (fun x _=>hc x) (by simp)
   have e1:∀ w,sumM (fun a=>g (addW (a :: w) (b :: y))) L=sumM (fun a=>g (a :: addW w y)) L:=fun w=>by
    rw [<-zic (g:=fun a=>g (a :: addW w y)) hp,zgV]
    rfl
   rw [zar (fun w _=>e1 w)]
   exact ih y (by simpa using hy) fun w=>sumM (fun a=>g (a :: w)) L
end
theorem zem {K:Type} [Zero K] {L:List K} (hn:L.Nodup) (h0:(0:K) ∈ L) {n:Nat} {P Q:List K->Prop} (h:∀ a w,w.length=n->(P (a :: w)↔Q w)) :
  cntW L (n+1) P=(L.length:Nat)*cntW L n Q/\∀ s t,zW L (n+1) P s t=(s+(((L.length:Nat):Rat) - 1)*t)*zW L n Q s t:=by
 classical
 constructor
 ·unfold cntW
  rw [zb0,<-zc2]
  refine zar fun w hw=>?_
  have hl:=zc4 L n w hw
  by_cases hQ:Q w
  ·rw [if_pos hQ,zar (h:=fun _=>1) (fun a _=>if_pos ((h a w hl).2 hQ)),zc3]; grind
  ·rw [if_neg hQ,zar (h:=fun _=>0) (fun a _=>if_neg fun e=>hQ ((h a w hl).1 e)),zce]; grind
 intro s t
 unfold zW
 rw [zb0,<-zc2]
 refine zar fun w hw=>?_
 have hl:=zc4 L n w hw
 by_cases hQ:Q w
 rotate_left
 ·rw [if_neg hQ,zar (h:=fun _=>0) (fun a _=>if_neg fun e=>hQ ((h a w hl).1 e)),zce]; grind
 rw [if_pos hQ,zar (h:=fun a=>wtW s t w*(if a=0 then s else t)) (fun a _=>by
  rw [if_pos ((h a w hl).2 hQ)]
  show (if a=0 then s else t)*wtW s t w=_
  grind),zc2]
 have e1:sumM (fun a:K=>if a=0 then s else t) L=s+(((L.length:Nat):Rat) - 1)*t:=by
  have e2:sumM (fun a:K=>if a=0 then s else t) L=sumM (fun a:K=>(if a=0 then s - t else 0)+t) L:=zar fun a _=>by
   by_cases e:a=0
   ·rw [if_pos e,if_pos e]; grind
   ·rw [if_neg e,if_neg e]; grind
  rw [e2,zdV,zc3,zdW hn h0 (fun a=>a=0) (fun _=>Iff.rfl) (fun _=>s - t)]
  grind
 rw [e1]; grind
theorem zbR {K:Type} [Zero K] {L:List K} (hn:L.Nodup) (hc:∀ a,a ∈ L) {n:Nat} {P Q R:List K->Prop} (h1:∀ w,w.length=n->(Q w↔∃ a,P (a :: w))) (h2:∀ a b w,w.length=n->P (a :: w)->P (b :: w)->a=b) (h3:∀ w,w.length=n->(R w↔P (0 :: w))) :
  cntW L (n+1) P=cntW L n Q/\∀ s t,zW L (n+1) P s t=t*zW L n Q s t+(s - t)*zW L n R s t:=by
 classical
 constructor
 ·unfold cntW
  rw [zb0]
  refine zar fun w hw=>?_
  have hl:=zc4 L n w hw
  by_cases hQ:Q w
  ·obtain ⟨a,ha⟩:=(h1 w hl).1 hQ
   rw [if_pos hQ,zdW hn (hc a) (fun b=>P (b :: w)) (fun b=>⟨fun e=>h2 b a w hl e ha,fun e=>by rw [e]; exact ha⟩) (fun _=>1)]
  ·rw [if_neg hQ,zfH L (fun b=>P (b :: w)) (fun b e=>hQ ((h1 w hl).2 ⟨b,e⟩)) (fun _=>1)]
 intro s t
 unfold zW
 rw [zb0,<-zc2,<-zc2,<-zdV]
 refine zar fun w hw=>?_
 have hl:=zc4 L n w hw
 by_cases hQ:Q w
 ·obtain ⟨a,ha⟩:=(h1 w hl).1 hQ
  rw [if_pos hQ,zdW hn (hc a) (fun b=>P (b :: w)) (fun b=>⟨fun e=>h2 b a w hl e ha,fun e=>by rw [e]; exact ha⟩) (fun b=>wtW s t (b :: w))]
  show (if a=0 then s else t)*wtW s t w=_
  by_cases e:a=0
  ·subst e
   rw [if_pos rfl,if_pos ((h3 w hl).2 ha)]; grind
  ·rw [if_neg e,if_neg fun hr=>e (h2 _ _ w hl ha ((h3 w hl).1 hr))]; grind
 ·rw [if_neg hQ,if_neg (fun hr=>hQ ((h1 w hl).2 ⟨0,(h3 w hl).1 hr⟩)),zfH L (fun b=>P (b :: w)) (fun b e=>hQ ((h1 w hl).2 ⟨b,e⟩)) (fun b=>wtW s t (b :: w))]; grind
def rpow (q:Rat):Nat->Rat
 | 0=>1
 | n+1=>q*rpow q n
theorem zi8 {q:Rat} (h:q≠0):∀ n,rpow q n≠0:=by
 intro n
 induction n with
 | zero=>show (1:Rat)≠0; decide
 | succ n ih =>
  intro e
  have e:q*rpow q n=0:=e
  rcases Rat.mul_eq_zero.1 e with h1 | h1
  ·exact h h1
  ·exact ih h1
theorem LinC.punct {K:Type} [Add K] [Mul K] [Zero K] {n:Nat} {C:List K->Prop} (h:LinC (n+1) C):LinC n fun w=>∃ a,C (a :: w):=by
 refine ⟨fun x ⟨a,hx⟩=>by have:=h.len _ hx; simpa using this,⟨0,h.zero⟩,fun x y ⟨a,hx⟩ ⟨b,hy⟩=>⟨a+b,h.add _ _ hx hy⟩,fun c x ⟨a,hx⟩=>⟨c*a,h.smul c _ hx⟩⟩
theorem zbo {K:Type} [Add K] [Mul K] [Zero K] {n:Nat} {C:List K->Prop} (h:LinC (n+1) C) {a:K} {w:List K}:perpW (n+1) C (a :: w)↔w.length=n/\∀ b v,C (b :: v)->a*b+dotW w v=0:=by
 constructor
 ·rintro ⟨h1,h2⟩
  exact ⟨by simpa using h1,fun b v hv=>h2 _ hv⟩
 rintro ⟨h1,h2⟩
 refine ⟨by simp [h1],fun y hy=>?_⟩
 have hl:=h.len y hy
 cases y with
 | nil=>simp at hl
 | cons b v=>exact h2 b v hy
section
variable {K:Type} [Add K] [Mul K] [Neg K] [Zero K] [One K] (F:Fie K)
include F
theorem LinC.short {n:Nat} {C:List K->Prop} (h:LinC (n+1) C):LinC n fun w=>C (0 :: w):=by
 refine ⟨fun x hx=>by have:=h.len _ hx; simpa using this,h.zero,fun x y hx hy=>?_,fun a x hx=>?_⟩
 ·have:C ((0+0) :: addW x y):=h.add _ _ hx hy
  rwa [F.addZ] at this
 ·have:C ((a*0) :: smulW a x):=h.smul a _ hx
  rwa [F.mulZ] at this
theorem ze5:∀ w:List K,addW w (smulW (-1) w)=List.replicate w.length 0:=by
 intro w
 induction w with
 | nil=>rfl
 | cons a w ih =>
  show (a + -1*a) :: addW w (smulW (-1) w)=0 :: List.replicate w.length 0
  rw [ih,F.negOne,F.addN]
theorem mac {L:List K} (hn:L.Nodup) (hc:∀ a,a ∈ L):∀ (n:Nat) (C:List K->Prop),LinC n C ->
  cntW L n C*cntW L n (perpW n C)=rpow (L.length:Nat) n/\∀ s t,cntW L n (perpW n C)*zW L n C s t=zW L n (perpW n C) (s+(((L.length:Nat):Rat) - 1)*t) (s - t):=by
 classical
 have l:((L.length:Nat):Rat)≠0:=by
  intro e
  have:L.length=0:=by simpa using e
  have hL:=List.length_eq_zero_iff.1 this
  have:=hc 0
  rw [hL] at this
  cases this
 intro n
 induction n with
 | zero =>
  intro C hC
  have h0:C []:=hC.zero
  have h1:perpW 0 C []:=⟨rfl,fun y _=>rfl⟩
  have e1:cntW L 0 C=1:=by
   show (if C [] then (1:Rat) else 0)+0=1
   rw [if_pos h0]; grind
  have e2:cntW L 0 (perpW 0 C)=1:=by
   show (if perpW 0 C [] then (1:Rat) else 0)+0=1
   rw [if_pos h1]; grind
  have e3:∀ s t,zW L 0 C s t=1:=fun s t=>by
   show (if C [] then (1:Rat) else 0)+0=1
   rw [if_pos h0]; grind
  have e4:∀ s t,zW L 0 (perpW 0 C) s t=1:=fun s t=>by
   show (if perpW 0 C [] then (1:Rat) else 0)+0=1
   rw [if_pos h1]; grind
  refine ⟨by rw [e1,e2]; show (1:Rat)*1=1; grind,fun s t=>by rw [e2,e3,e4]; grind⟩
 | succ n ih =>
  intro C hC
  obtain ⟨q,hq⟩:∃ q:Rat,q=((L.length:Nat):Rat):=⟨_,rfl⟩
  rw [<-hq] at l ih ⊢
  obtain ⟨i1,i2⟩:=ih _ (hC.short F)
  by_cases hL:∀ a w,C (a :: w)->a=0
  ·have g1:=zbR (L:=L) hn hc (n:=n) (P:=C) (Q:=fun w=>C (0 :: w)) (R:=fun w=>C (0 :: w)) (fun w _=>⟨fun h=>⟨0,h⟩,fun ⟨a,h⟩=>by have:=hL a w h; subst this; exact h⟩) (fun a b w _ ha hb=>by rw [hL a w ha,hL b w hb]) (fun _ _=>Iff.rfl)
   have g2:=zem (L:=L) hn (hc 0) (n:=n) (P:=perpW (n+1) C) (Q:=perpW n fun w=>C (0 :: w)) (fun a w hw=>by
    rw [zbo hC]
    constructor
    ·rintro ⟨h1,h2⟩
     refine ⟨h1,fun v hv=>?_⟩
     have:=h2 0 v hv
     rwa [F.mulZ,F.zeroA] at this
    ·rintro ⟨h1,h2⟩
     refine ⟨h1,fun b v hv=>?_⟩
     have hb:=hL b v hv
     subst hb
     rw [F.mulZ,F.zeroA]
     exact h2 v hv)
   rw [<-hq] at g2
   refine ⟨?_,fun s t=>?_⟩
   ·rw [g1.1,g2.1]
    show _=q*rpow q n
    rw [<-i1]; grind
   ·rw [g1.2,g2.1,g2.2,<-i2]; grind
  ·obtain ⟨y,hy⟩:∃ y,C (1 :: y):=by
    simp only [Classical.not_forall] at hL
    obtain ⟨a,w,h,ha⟩:=hL
    obtain ⟨b,hb⟩:=F.inv a ha
    have:=hC.smul b _ h
    have e:smulW b (a :: w)=(b*a) :: smulW b w:=rfl
    rw [e,F.mulC,hb] at this
    exact ⟨_,this⟩
   have g:y.length=n:=by have:=hC.len _ hy; simpa using this
   by_cases hco:C (1 :: List.replicate n 0)
   ·have m:∀ a w,w.length=n->(C (a :: w)↔C (0 :: w)):=fun a w hw=>by
     have k:∀ a b,C (a :: w)->C ((a+b) :: w):=fun a b h=>by
      have h1:=hC.add _ _ h (hC.smul b _ hco)
      have e:addW (a :: w) (smulW b (1 :: List.replicate n 0))=(a+b*1) :: addW w (smulW b (List.replicate n 0)):=rfl
      rw [e,F.mulOne,zgZ F] at h1
      have e2:=zku F w
      rw [hw] at e2
      rwa [e2] at h1
     constructor
     ·intro h
      have:=k a (-a) h
      rwa [F.addN] at this
     ·intro h
      have:=k 0 a h
      rwa [F.zeroA] at this
    have g1:=zem (L:=L) hn (hc 0) (n:=n) (P:=C) (Q:=fun w=>C (0 :: w)) m
    have hz:∀ a w,w.length=n->perpW (n+1) C (a :: w)->a=0:=fun a w hw h=>by
     have:=((zbo hC).1 h).2 1 _ hco
     rwa [F.mulOne,zgW F,F.addZ] at this
    have hd:∀ w,w.length=n->((perpW n fun w=>C (0 :: w)) w↔perpW (n+1) C (0 :: w)):=fun w hw=>by
     rw [zbo hC]
     constructor
     ·rintro ⟨h1,h2⟩
      refine ⟨h1,fun b v hv=>?_⟩
      have i:v.length=n:=by have:=hC.len _ hv; simpa using this
      rw [F.zMul,F.zeroA]
      exact h2 v ((m b v i).1 hv)
     ·rintro ⟨h1,h2⟩
      refine ⟨h1,fun v hv=>?_⟩
      have:=h2 0 v hv
      rwa [F.mulZ,F.zeroA] at this
    have g2:=zbR (L:=L) hn hc (n:=n) (P:=perpW (n+1) C) (Q:=perpW n fun w=>C (0 :: w)) (R:=perpW n fun w=>C (0 :: w)) (fun w hw=>⟨fun h=>⟨0,(hd w hw).1 h⟩,fun ⟨a,h⟩=>by
     have:=hz a w hw h
     subst this
     exact (hd w hw).2 h⟩) (fun a b w hw ha hb=>by rw [hz a w hw ha,hz b w hw hb]) hd
    rw [<-hq] at g1
    refine ⟨?_,fun s t=>?_⟩
    ·rw [g1.1,g2.1]
     show _=q*rpow q n
     rw [<-i1]; grind
    ·rw [g1.2,g2.1,g2.2,<-i2]; grind
   ·obtain ⟨j1,j2⟩:=ih _ hC.punct
    have o:∀ a b w,w.length=n->C (a :: w)->C (b :: w)->a=b:=fun a b w hw ha hb=>by
     have h1:=hC.add _ _ ha (hC.smul (-1) _ hb)
     have e:addW (a :: w) (smulW (-1) (b :: w))=(a + -1*b) :: addW w (smulW (-1) w):=rfl
     rw [e,F.negOne,ze5 F,hw] at h1
     by_cases hab:a + -b=0
     ·exact F.subEq hab
     ·obtain ⟨c,j⟩:=F.inv _ hab
      have h2:=hC.smul c _ h1
      have e2:smulW c ((a + -b) :: List.replicate n (0:K))=(c*(a + -b)) :: smulW c (List.replicate n 0):=rfl
      rw [e2,zgZ F,F.mulC,j] at h2
      exact absurd h2 hco
    have g1:=zbR (L:=L) hn hc (n:=n) (P:=C) (Q:=fun w=>∃ a,C (a :: w)) (R:=fun w=>C (0 :: w)) (fun _ _=>Iff.rfl) o (fun _ _=>Iff.rfl)
    have f:cntW L (n+1) C=q*cntW L n fun w=>C (0 :: w):=by
     have e0:cntW L (n+1) C=sumM (fun a=>sumM (fun w=>if C (a :: w) then 1 else 0) (allW L n)) L:=by
      unfold cntW
      rw [zb0,zid]
     rw [e0,zar (h:=fun _=>cntW L n fun w=>C (0 :: w)) (fun a _=>?_),zc3,<-hq]
     ·grind
     ·rw [<-zie F hn hc n (smulW a y) (by rw [zbz,g])]
      refine zar fun w hw=>?_
      have hl:=zc4 L n w hw
      have d:C (a :: addW w (smulW a y))↔C (0 :: w):=by
       constructor
       ·intro h
        have h1:=hC.add _ _ h (hC.smul (-a) _ hy)
        have e:addW (a :: addW w (smulW a y)) (smulW (-a) (1 :: y))=(a + -a*1) :: addW (addW w (smulW a y)) (smulW (-a) y):=rfl
        rw [e,F.mulOne,F.addN,zg0 F a w y (by rw [hl,g])] at h1
        exact h1
       ·intro h
        have h1:=hC.add _ _ h (hC.smul a _ hy)
        have e:addW (0 :: w) (smulW a (1 :: y))=(0+a*1) :: addW w (smulW a y):=rfl
        rw [e,F.mulOne,F.zeroA] at h1
        exact h1
      by_cases hP:C (0 :: w)
      ·rw [if_pos (d.2 hP),if_pos hP]
      ·rw [if_neg (fun h=>hP (d.1 h)),if_neg hP]
    have g2:=zbR (L:=L) hn hc (n:=n) (P:=perpW (n+1) C) (Q:=perpW n fun w=>C (0 :: w)) (R:=perpW n fun w=>∃ a,C (a :: w)) (fun w hw=>by
     constructor
     ·rintro ⟨h1,h2⟩
      refine ⟨-dotW w y,(zbo hC).2 ⟨h1,fun b v hv=>?_⟩⟩
      have i:v.length=n:=by have:=hC.len _ hv; simpa using this
      have h3:=hC.add _ _ hv (hC.smul (-b) _ hy)
      have e:addW (b :: v) (smulW (-b) (1 :: y))=(b + -b*1) :: addW v (smulW (-b) y):=rfl
      rw [e,F.mulOne,F.addN] at h3
      have h4:=h2 _ h3
      rw [zi7 F w v _ (by rw [zbz,i,g]),zgX F,F.negMul] at h4
      rw [F.negMul,F.addC,F.mulC]
      exact h4
     ·rintro ⟨a,h⟩
      obtain ⟨h1,h2⟩:=(zbo hC).1 h
      refine ⟨h1,fun v hv=>?_⟩
      have:=h2 0 v hv
      rwa [F.mulZ,F.zeroA] at this) (fun a b w hw ha hb=>by
     have h1:=((zbo hC).1 ha).2 1 y hy
     have h2:=((zbo hC).1 hb).2 1 y hy
     rw [F.mulOne] at h1 h2
     exact F.cancelR (x:=dotW w y) (h1.trans h2.symm)) (fun w hw=>by
     rw [zbo hC]
     constructor
     ·rintro ⟨h1,h2⟩
      exact ⟨h1,fun b v hv=>by rw [F.zMul,F.zeroA]; exact h2 v ⟨b,hv⟩⟩
     ·rintro ⟨h1,h2⟩
      refine ⟨h1,fun v ⟨b,hv⟩=>?_⟩
      have:=h2 b v hv
      rwa [F.zMul,F.zeroA] at this)
    have p:=zi8 l n
    have hk:cntW L n (perpW n fun w=>C (0 :: w))=q*cntW L n (perpW n fun w=>∃ a,C (a :: w)):=by
     have j:cntW L n (fun w=>∃ a,C (a :: w))=q*cntW L n fun w=>C (0 :: w):=by rw [<-g1.1,f]
     rw [j] at j1
     have h0:cntW L n (fun w=>C (0 :: w))≠0:=fun e=>p (by rw [<-i1,e]; grind)
     have e3:cntW L n (fun w=>C (0 :: w))*(cntW L n (perpW n fun w=>C (0 :: w)) - q*cntW L n (perpW n fun w=>∃ a,C (a :: w)))=0:=by grind
     rcases Rat.mul_eq_zero.1 e3 with h | h
     ·exact absurd h h0
     ·grind
    refine ⟨?_,fun s t=>?_⟩
    ·rw [f,g2.1]
     show _=q*rpow q n
     rw [<-i1]; grind
    ·have k1:=i2 s t
     have k2:=j2 s t
     rw [g1.2,g2.1,g2.2,<-k1,<-k2,hk]; grind
end
section
variable {K:Type} [Add K] [Mul K] [Neg K] [Zero K] [One K]
inductive Gen (k n:Nat) (r:Nat->List K):List K->Prop
 | zero:Gen k n r (List.replicate k 0)
 | row (i:Nat) (hi:i<n):Gen k n r (r i)
 | add {x y:List K}:Gen k n r x->Gen k n r y->Gen k n r (addW x y)
 | smul (a:K) {x:List K}:Gen k n r x->Gen k n r (smulW a x)
end
theorem Gen.linC {K:Type} [Add K] [Mul K] [Zero K] {k n:Nat} {r:Nat->List K} (hr:∀ i,i<n->(r i).length=k):LinC k (Gen k n r):=by
 refine ⟨fun x hx=>?_,.zero,fun _ _ hx hy=>.add hx hy,fun a _ hx=>.smul a hx⟩
 induction hx with
 | zero=>simp
 | row i hi=>exact hr i hi
 | add _ _ h1 h2=>rw [zdA (by rw [h1,h2]),h1]
 | smul a _ h=>rw [zbz,h]
theorem Gen.sub {K:Type} [Add K] [Mul K] [Zero K] {k n n':Nat} {r r':Nat->List K} (h:∀ i,i<n->Gen k n' r' (r i)):∀ x,Gen k n r x->Gen k n' r' x:=by
 intro x hx
 induction hx with
 | zero=>exact .zero
 | row i hi=>exact h i hi
 | add _ _ h1 h2=>exact .add h1 h2
 | smul a _ h=>exact .smul a h
theorem Gen.congr {K:Type} [Add K] [Mul K] [Zero K] {k n:Nat} {r r':Nat->List K} (h:∀ i,i<n->r i=r' i) (x:List K):Gen k n r x↔Gen k n r' x :=
 ⟨Gen.sub (fun i hi=>by rw [h i hi]; exact .row i hi) x,Gen.sub (fun i hi=>by rw [<-h i hi]; exact .row i hi) x⟩
theorem Gen.swap {K:Type} [Add K] [Mul K] [Zero K] {k n i j:Nat} {r:Nat->List K} (hi:i<n) (hj:j<n) (x:List K):Gen k n (fun t=>if t=i then r j else if t=j then r i else r t) x↔Gen k n r x:=by
 constructor
 ·refine Gen.sub (fun t ht=>?_) x
  show Gen k n r (if t=i then r j else if t=j then r i else r t)
  split
  ·exact .row j hj
  split
  ·exact .row i hi
  ·exact .row t ht
 refine Gen.sub (fun t ht=>?_) x
 have a:∀ u,u<n->Gen k n (fun t=>if t=i then r j else if t=j then r i else r t) (if u=i then r j else if u=j then r i else r u):=fun u hu=>.row u hu
 by_cases e1:t=i
 ·subst e1
  have:=a j hj
  by_cases e2:j=t
  ·subst e2; simpa using this
  ·rwa [if_neg e2,if_pos rfl] at this
 by_cases e2:t=j
 ·subst e2
  have:=a i hi
  rwa [if_pos rfl] at this
 ·have:=a t ht
  rwa [if_neg e1,if_neg e2] at this
section
variable {K:Type} [Add K] [Mul K] [Neg K] [Zero K] [One K] (F:Fie K)
include F
theorem zif (a b:K) (x:List K):smulW a (smulW b x)=smulW (a*b) x:=by
 unfold smulW
 rw [List.map_map]
 exact List.map_congr_left fun c _=>(F.mulA a b c).symm
theorem zjx (x:List K):smulW (1:K) x=x:=by
 induction x with
 | nil=>rfl
 | cons a x ih=>show 1*a :: smulW 1 x=a :: x; rw [F.oneM,ih]
theorem Gen.scale {k n i:Nat} {r:Nat->List K} {c:K} (hc:c≠0) (hi:i<n) (x:List K):Gen k n (fun t=>if t=i then smulW c (r i) else r t) x↔Gen k n r x:=by
 constructor
 ·refine Gen.sub (fun t ht=>?_) x
  show Gen k n r (if t=i then smulW c (r i) else r t)
  split
  ·exact .smul c (.row i hi)
  ·exact .row t ht
 refine Gen.sub (fun t ht=>?_) x
 have a:∀ u,u<n->Gen k n (fun t=>if t=i then smulW c (r i) else r t) (if u=i then smulW c (r i) else r u):=fun u hu=>.row u hu
 by_cases e:t=i
 ·subst e
  obtain ⟨d,hd⟩:=F.inv c hc
  have h1:=a t ht
  rw [if_pos rfl] at h1
  have h2:=Gen.smul d h1
  rwa [zif F,F.mulC,hd,zjx F] at h2
 ·have:=a t ht
  rwa [if_neg e] at this
theorem Gen.addTo {k n i t:Nat} {r:Nat->List K} {a:K} (hi:i<n) (ht:t<n) (hit:t≠i) (hl:∀ u,u<n->(r u).length=k) (x:List K):Gen k n (fun u=>if u=i then addW (r i) (smulW a (r t)) else r u) x↔Gen k n r x:=by
 constructor
 ·refine Gen.sub (fun u hu=>?_) x
  show Gen k n r (if u=i then addW (r i) (smulW a (r t)) else r u)
  split
  ·exact .add (.row i hi) (.smul a (.row t ht))
  ·exact .row u hu
 refine Gen.sub (fun u hu=>?_) x
 have b:∀ u,u<n->Gen k n (fun u=>if u=i then addW (r i) (smulW a (r t)) else r u) (if u=i then addW (r i) (smulW a (r t)) else r u):=fun u hu=>.row u hu
 by_cases e:u=i
 ·subst e
  have h1:=b u hu
  rw [if_pos rfl] at h1
  have h2:=b t ht
  rw [if_neg hit] at h2
  have h3:=Gen.add h1 (.smul (-a) h2)
  rwa [zg0 F a _ _ (by rw [hl u hu,hl t ht])] at h3
 ·have:=b u hu
  rwa [if_neg e] at this
theorem Gen.perp {k n:Nat} {r:Nat->List K} (hl:∀ i,i<n->(r i).length=k) {x:List K} (h:∀ i,i<n->dotW x (r i)=0):∀ y,Gen k n r y->dotW x y=0:=by
 have b:=(Gen.linC hl).len
 intro y hy
 induction hy with
 | zero=>exact zgW F x k
 | row i hi=>exact h i hi
 | add h1 h2 i1 i2=>rw [zi7 F x _ _ (by rw [b _ h1,b _ h2]),i1,i2,F.addZ]
 | smul a _ ih=>rw [zgX F,ih,F.mulZ]
end
structure EchN (q n k c a:Nat) (pv:Nat->Nat) (W:Nat->Nat->Nat):Prop where
 le:a<=n
 lt:∀ i,i<n->∀ j,j<k->W i j<q
 inc:∀ s t,s<t->t<a->pv s<pv t
 pvlt:∀ s,s<a->pv s<c
 one:∀ s,s<a->W s (pv s)=1
 zero:∀ s,s<a->∀ i,i<n->i≠s->W i (pv s)=0
 lead:∀ s,s<a->∀ j,j<pv s->W s j=0
 below:∀ i,a<=i->i<n->∀ j,j<c->W i j=0
section
variable {q n k c a:Nat} {pv:Nat->Nat} {W:Nat->Nat->Nat}
theorem EchN.start (h:∀ i,i<n->∀ j,j<k->W i j<q):EchN q n k 0 0 pv W :=
 ⟨Nat.zero_le _,h,fun _ _ _ h=>absurd h (by omega),fun _ h=>absurd h (by omega),fun _ h=>absurd h (by omega),fun _ h=>absurd h (by omega),fun _ h=>absurd h (by omega),fun _ _ _ _ h=>absurd h (by omega)⟩
theorem EchN.none (h:EchN q n k c a pv W) (hz:∀ i,a<=i->i<n->W i c=0):EchN q n k (c+1) a pv W :=
 ⟨h.le,h.lt,h.inc,fun s hs=>Nat.lt_succ_of_lt (h.pvlt s hs),h.one,h.zero,h.lead,fun i h1 h2 j hj=>by
  by_cases e:j=c
  ·subst e; exact hz i h1 h2
  ·exact h.below i h1 h2 j (by omega)⟩
theorem EchN.swap (h:EchN q n k c a pv W) {t:Nat} (h1:a<=t) (h2:t<n):EchN q n k c a pv (fun u=>if u=a then W t else if u=t then W a else W u):=by
 have ha:a<n:=by omega
 refine ⟨h.le,fun i hi j hj=>?_,h.inc,h.pvlt,fun s hs=>?_,fun s hs i hi hne=>?_,fun s hs j hj=>?_,fun i hi1 hi2 j hj=>?_⟩
 ·show (if i=a then W t else if i=t then W a else W i) j<q
  split
  ·exact h.lt t h2 j hj
  split
  ·exact h.lt a ha j hj
  ·exact h.lt i hi j hj
 ·show (if s=a then W t else if s=t then W a else W s) (pv s)=1
  rw [if_neg (by omega),if_neg (by omega)]
  exact h.one s hs
 ·show (if i=a then W t else if i=t then W a else W i) (pv s)=0
  split
  ·exact h.zero s hs t h2 (by omega)
  split
  ·exact h.zero s hs a ha (by omega)
  ·exact h.zero s hs i hi hne
 ·show (if s=a then W t else if s=t then W a else W s) j=0
  rw [if_neg (by omega),if_neg (by omega)]
  exact h.lead s hs j hj
 show (if i=a then W t else if i=t then W a else W i) j=0
 split
 ·exact h.below t h1 h2 j hj
 split
 ·exact h.below a (Nat.le_refl _) ha j hj
 ·exact h.below i hi1 hi2 j hj
variable {add mul:Nat->Nat->Nat}
theorem FieldLaws.addZero (h:FieldLaws q add mul) {x:Nat} (hx:x<q):add x 0=x:=by rw [h.addComm,h.zeroAdd x hx]
theorem FieldLaws.mulZero (h:FieldLaws q add mul) {x:Nat} (hx:x<q):mul x 0=0:=by
 have h2:=h.two
 have hz:=h.mulLt x 0
 have e:=h.distrib x 0 0 hx (by omega) (by omega)
 rw [h.zeroAdd 0 (by omega)] at e
 obtain ⟨y,hy,e1⟩:=h.neg _ hz
 have e2:=h.addAssoc _ _ _ hz hz hy
 rw [<-e,e1,h.addZero hz] at e2
 exact e2.symm
theorem FieldLaws.mulOne (h:FieldLaws q add mul) {x:Nat} (hx:x<q):mul x 1=x:=by
 have:=h.two
 rw [h.mulComm x 1 hx (by omega),h.oneMul x hx]
structure EchP (q n k c a i:Nat) (pv:Nat->Nat) (W:Nat->Nat->Nat):Prop where
 ech:EchN q n k c a pv W
 lt:a<n
 piv:W a c=1
 clr:∀ t,t<i->t<n->t≠a->W t c=0
theorem EchN.scale (h:EchN q n k c a pv W) (hF:FieldLaws q add mul) (ha:a<n) {d:Nat} (hd:d<q) (h1:mul d (W a c)=1):EchP q n k c a 0 pv (fun u=>if u=a then fun j=>mul d (W a j) else W u):=by
 refine ⟨⟨h.le,fun i hi j hj=>?_,h.inc,h.pvlt,fun s hs=>?_,fun s hs i hi hne=>?_,fun s hs j hj=>?_,fun i hi1 hi2 j hj=>?_⟩,ha,?_,fun t ht=>absurd ht (by omega)⟩
 ·show (if i=a then fun j=>mul d (W a j) else W i) j<q
  split
  ·exact hF.mulLt _ _
  ·exact h.lt i hi j hj
 ·show (if s=a then fun j=>mul d (W a j) else W s) (pv s)=1
  rw [if_neg (by omega)]
  exact h.one s hs
 ·show (if i=a then fun j=>mul d (W a j) else W i) (pv s)=0
  split
  ·show mul d (W a (pv s))=0
   rw [h.zero s hs a ha (by omega),hF.mulZero hd]
  ·exact h.zero s hs i hi hne
 ·show (if s=a then fun j=>mul d (W a j) else W s) j=0
  rw [if_neg (by omega)]
  exact h.lead s hs j hj
 ·show (if i=a then fun j=>mul d (W a j) else W i) j=0
  split
  ·show mul d (W a j)=0
   rw [h.below a (Nat.le_refl _) ha j hj,hF.mulZero hd]
  ·exact h.below i hi1 hi2 j hj
 show (if a=a then fun j=>mul d (W a j) else W a) c=1
 rw [if_pos rfl]
 exact h1
theorem EchN.one_piv (h:EchN q n k c a pv W) (ha:a<n) (h1:W a c=1):EchP q n k c a 0 pv W:=⟨h,ha,h1,fun t ht=>absurd ht (by omega)⟩
theorem EchP.skip {i:Nat} (h:EchP q n k c a i pv W) (hi:i=a∨W i c=0):EchP q n k c a (i+1) pv W :=
 ⟨h.ech,h.lt,h.piv,fun t ht htn hne=>by
  by_cases e:t=i
  ·subst e
   rcases hi with hi | hi
   ·exact absurd hi hne
   ·exact hi
  ·exact h.clr t (by omega) htn hne⟩
theorem EchP.clear {i:Nat} (h:EchP q n k c a i pv W) (hF:FieldLaws q add mul) (hck:c<k) (hi:i<n) (hia:i≠a) {e:Nat} (he:e<q) (h0:add (W i c) e=0):EchP q n k c a (i+1) pv (fun u=>if u=i then fun j=>add (W i j) (mul e (W a j)) else W u):=by
 have hE:=h.ech
 have ha:=h.lt
 have hq:=hF.two
 have b:∀ j,j<k->W a j=0->add (W i j) (mul e (W a j))=W i j:=fun j hj hz=>by
  rw [hz,hF.mulZero he,hF.addZero (hE.lt i hi j hj)]
 have d:∀ s,s<a->pv s<k:=fun s hs=>by have:=hE.pvlt s hs; omega
 refine ⟨⟨hE.le,fun t ht j hj=>?_,hE.inc,hE.pvlt,fun s hs=>?_,fun s hs t ht hne=>?_,fun s hs j hj=>?_,fun t ht1 ht2 j hj=>?_⟩,ha,?_,fun t ht htn hne=>?_⟩
 ·show (if t=i then fun j=>add (W i j) (mul e (W a j)) else W t) j<q
  split
  ·exact hF.addLt _ _
  ·exact hE.lt t ht j hj
 ·show (if s=i then fun j=>add (W i j) (mul e (W a j)) else W s) (pv s)=1
  split
  ·rename_i hsi
   subst hsi
   show add (W s (pv s)) (mul e (W a (pv s)))=1
   rw [b _ (d s hs) (hE.zero s hs a ha (by omega))]
   exact hE.one s hs
  ·exact hE.one s hs
 ·show (if t=i then fun j=>add (W i j) (mul e (W a j)) else W t) (pv s)=0
  split
  ·rename_i hti
   subst hti
   show add (W t (pv s)) (mul e (W a (pv s)))=0
   rw [b _ (d s hs) (hE.zero s hs a ha (by omega))]
   exact hE.zero s hs t ht hne
  ·exact hE.zero s hs t ht hne
 ·show (if s=i then fun j=>add (W i j) (mul e (W a j)) else W s) j=0
  have f:j<c:=by have:=hE.pvlt s hs; omega
  split
  ·rename_i hsi
   subst hsi
   show add (W s j) (mul e (W a j))=0
   rw [b j (by omega) (hE.below a (Nat.le_refl _) ha j f)]
   exact hE.lead s hs j hj
  ·exact hE.lead s hs j hj
 ·show (if t=i then fun j=>add (W i j) (mul e (W a j)) else W t) j=0
  split
  ·rename_i hti
   subst hti
   show add (W t j) (mul e (W a j))=0
   rw [b j (by omega) (hE.below a (Nat.le_refl _) ha j hj)]
   exact hE.below t ht1 ht2 j hj
  ·exact hE.below t ht1 ht2 j hj
 ·show (if a=i then fun j=>add (W i j) (mul e (W a j)) else W a) c=1
  rw [if_neg (fun e=>hia e.symm)]
  exact h.piv
 show (if t=i then fun j=>add (W i j) (mul e (W a j)) else W t) c=0
 split
 ·show add (W i c) (mul e (W a c))=0
  rw [h.piv,hF.mulOne he,h0]
 ·exact h.clr t (by omega) htn hne
theorem EchP.done (h:EchP q n k c a n pv W):EchN q n k (c+1) (a+1) (fun s=>if s=a then c else pv s) W:=by
 have hE:=h.ech
 have ha:=h.lt
 refine ⟨by omega,hE.lt,fun s t hst ht=>?_,fun s hs=>?_,fun s hs=>?_,fun s hs i hi hne=>?_,fun s hs j hj=>?_,fun i hi1 hi2 j hj=>?_⟩
 ·show (if s=a then c else pv s)<if t=a then c else pv t
  rw [if_neg (by omega)]
  split
  ·exact hE.pvlt s (by omega)
  ·exact hE.inc s t hst (by omega)
 ·show (if s=a then c else pv s)<c+1
  split
  ·omega
  ·have:=hE.pvlt s (by omega); omega
 ·show W s (if s=a then c else pv s)=1
  by_cases e:s=a
  ·subst e; rw [if_pos rfl]; exact h.piv
  ·rw [if_neg e]; exact hE.one s (by omega)
 ·show W i (if s=a then c else pv s)=0
  by_cases e:s=a
  ·subst e; rw [if_pos rfl]; exact h.clr i hi hi hne
  ·rw [if_neg e]; exact hE.zero s (by omega) i hi hne
 ·have hj:j<if s=a then c else pv s:=hj
  by_cases e:s=a
  ·subst e
   rw [if_pos rfl] at hj
   exact hE.below s (Nat.le_refl _) ha j hj
  ·rw [if_neg e] at hj
   exact hE.lead s (by omega) j hj
 by_cases e:j=c
 ·subst e; exact h.clr i hi2 hi2 (by omega)
 ·exact hE.below i (by omega) hi2 j (by omega)
end
inductive RowOps (q:Nat) (add mul:Nat->Nat->Nat) (n k:Nat) (V:Nat->Nat->Nat):(Nat->Nat->Nat)->Prop
 | refl:RowOps q add mul n k V V
 | swap {W:Nat->Nat->Nat} (h:RowOps q add mul n k V W) {a t:Nat} (ha:a<n) (ht:t<n):RowOps q add mul n k V (fun u=>if u=a then W t else if u=t then W a else W u)
 | scale {W:Nat->Nat->Nat} (h:RowOps q add mul n k V W) {a d:Nat} (ha:a<n) (hd:d<q) (hd0:d≠0):RowOps q add mul n k V (fun u=>if u=a then fun j=>mul d (W a j) else W u)
 | add {W:Nat->Nat->Nat} (h:RowOps q add mul n k V W) {i a e:Nat} (hi:i<n) (ha:a<n) (hne:i≠a) (he:e<q):RowOps q add mul n k V (fun u=>if u=i then fun j=>add (W i j) (mul e (W a j)) else W u)
 | eq {W W':Nat->Nat->Nat} (h:RowOps q add mul n k V W) (e:∀ i,i<n->∀ j,j<k->W i j=W' i j):RowOps q add mul n k V W'
theorem EchN.congr {q n k c a:Nat} {pv:Nat->Nat} {W W':Nat->Nat->Nat} (h:EchN q n k c a pv W) (hck:c<=k) (e:∀ i,i<n->∀ j,j<k->W i j=W' i j):EchN q n k c a pv W':=by
 have hp:∀ s,s<a->pv s<k:=fun s hs=>by have:=h.pvlt s hs; omega
 have b:=h.le
 refine ⟨h.le,fun i hi j hj=>by rw [<-e i hi j hj]; exact h.lt i hi j hj,h.inc,h.pvlt,fun s hs=>by rw [<-e s (by omega) _ (hp s hs)]; exact h.one s hs,fun s hs i hi hne=>by rw [<-e i hi _ (hp s hs)]; exact h.zero s hs i hi hne,fun s hs j hj=>by rw [<-e s (by omega) j (by have:=hp s hs; omega)]; exact h.lead s hs j hj,fun i h1 h2 j hj=>by rw [<-e i h2 j (by omega)]; exact h.below i h1 h2 j hj⟩
structure El (q:Nat) where
 val:Nat
 lt:val<q
theorem El.ext' {q:Nat} {x y:El q} (h:x.val=y.val):x=y:=by
 cases x; cases y
 simp only at h
 subst h
 rfl
theorem zg1 {q:Nat} {add mul:Nat->Nat->Nat} (h:FieldLaws q add mul):∃ (_:Add (El q)) (_:Mul (El q)) (_:Neg (El q)) (_:Zero (El q)) (_:One (El q)),
  Fie (El q)/\(∀ x y:El q,(x+y).val=add x.val y.val)/\(∀ x y:El q,(x*y).val=mul x.val y.val)/\(0:El q).val=0/\(1:El q).val=1:=by
 have hn:∀ x:El q,∃ y:El q,add x.val y.val=0:=fun x=>by
  obtain ⟨y,hy,e⟩:=h.neg x.val x.lt
  exact ⟨⟨y,hy⟩,e⟩
 obtain ⟨ng,a⟩:=Classical.axiomOfChoice hn
 have h2:=h.two
 let iA:Add (El q):=⟨fun x y=>⟨add x.val y.val,h.addLt _ _⟩⟩
 let iM:Mul (El q):=⟨fun x y=>⟨mul x.val y.val,h.mulLt _ _⟩⟩
 let iN:Neg (El q):=⟨ng⟩
 let i0:Zero (El q):=⟨⟨0,by omega⟩⟩
 let i1:One (El q):=⟨⟨1,by omega⟩⟩
 refine ⟨iA,iM,iN,i0,i1,?_,fun _ _=>rfl,fun _ _=>rfl,rfl,rfl⟩
 refine ⟨fun x y z=>El.ext' ?_,fun x y=>El.ext' ?_,fun x=>El.ext' ?_,fun x=>El.ext' ?_,fun x y z=>El.ext' ?_,fun x y=>El.ext' ?_,fun x=>El.ext' ?_,fun x y z=>El.ext' ?_,fun x hx=>?_,fun he=>?_⟩
 ·exact h.addAssoc _ _ _ x.lt y.lt z.lt
 ·exact h.addComm _ _
 ·exact h.zeroAdd _ x.lt
 ·show add (ng x).val x.val=0
  rw [h.addComm]; exact a x
 ·exact h.mulAssoc _ _ _ x.lt y.lt z.lt
 ·exact h.mulComm _ _ x.lt y.lt
 ·exact h.oneMul _ x.lt
 ·exact h.distrib _ _ _ x.lt y.lt z.lt
 ·obtain ⟨y,hy,e⟩:=h.inv x.val x.lt (fun e=>hx (El.ext' e))
  exact ⟨⟨y,hy⟩,El.ext' e⟩
 have:=congrArg El.val he
 have h1:(1:Nat)=0:=this
 omega
def toEl (q:Nat) (hq:0<q) (x:Nat):El q:=⟨x % q,Nat.mod_lt _ hq⟩
theorem zak {q x:Nat} (hq:0<q) (h:x<q):(toEl q hq x).val=x:=Nat.mod_eq_of_lt h
theorem zdX {q x y:Nat} (hq:0<q) (hx:x<q) (hy:y<q) (h:toEl q hq x=toEl q hq y):x=y:=by
 rw [<-zak hq hx,<-zak hq hy,h]
theorem zjy {q:Nat} (hq:0<q) (x:El q):∃ a,a<q/\toEl q hq a=x:=⟨x.val,x.lt,El.ext' (zak hq x.lt)⟩
def wordK (q:Nat) (hq:0<q) (k:Nat) (x:Nat->Nat):List (El q):=(List.range k).map fun j=>toEl q hq (x j)
theorem zbd {q:Nat} (hq:0<q) (k:Nat) (x:Nat->Nat):(wordK q hq k x).length=k:=by simp [wordK]
theorem zge {q:Nat} (hq:0<q) {k:Nat} {x y:Nat->Nat} (h:∀ j,j<k->x j=y j):wordK q hq k x=wordK q hq k y :=
 List.map_congr_left fun j hj=>by rw [h j (List.mem_range.1 hj)]
theorem zig {q:Nat} (hq:0<q) {add mul:Nat->Nat->Nat} [iA:Add (El q)] (hF:FieldLaws q add mul) (ha:∀ x y:El q,(x+y).val=add x.val y.val) {k:Nat} {x y:Nat->Nat} (hx:∀ j,j<k->x j<q) (hy:∀ j,j<k->y j<q) :
  wordK q hq k (fun j=>add (x j) (y j))=addW (wordK q hq k x) (wordK q hq k y):=by
 unfold wordK addW
 rw [List.zipWith_map,List.zipWith_self]
 refine List.map_congr_left fun j hj=>El.ext' ?_
 rw [List.mem_range] at hj;rw [ha,zak hq (hF.addLt _ _),zak hq (hx j hj),zak hq (hy j hj)]
theorem zen {q:Nat} (hq:0<q) {add mul:Nat->Nat->Nat} [iM:Mul (El q)] (hF:FieldLaws q add mul) (hm:∀ x y:El q,(x*y).val=mul x.val y.val) {k d:Nat} {x:Nat->Nat} (hd:d<q) (hx:∀ j,j<k->x j<q) :
  wordK q hq k (fun j=>mul d (x j))=smulW (toEl q hq d) (wordK q hq k x):=by
 unfold wordK smulW
 rw [List.map_map]
 refine List.map_congr_left fun j hj=>El.ext' ?_
 rw [List.mem_range] at hj
 show (toEl q hq (mul d (x j))).val=(toEl q hq d*toEl q hq (x j)).val
 rw [hm,zak hq (hF.mulLt _ _),zak hq hd,zak hq (hx j hj)]
theorem RowOps.gen {q:Nat} (hq:0<q) {add mul:Nat->Nat->Nat} [iA:Add (El q)] [iM:Mul (El q)] [iN:Neg (El q)] [i0:Zero (El q)] [i1:One (El q)] (F:Fie (El q)) (hF:FieldLaws q add mul) (ha:∀ x y:El q,(x+y).val=add x.val y.val) (hm:∀ x y:El q,(x*y).val=mul x.val y.val) (h0:(0:El q).val=0) {n k:Nat} {V W:Nat->Nat->Nat}
  (hV:∀ i,i<n->∀ j,j<k->V i j<q) (h:RowOps q add mul n k V W):(∀ i,i<n->∀ j,j<k->W i j<q)/\∀ x,Gen k n (fun i=>wordK q hq k (W i)) x↔Gen k n (fun i=>wordK q hq k (V i)) x:=by
 induction h with
 | refl=>exact ⟨hV,fun _=>Iff.rfl⟩
 | @swap W h a t hx ht ih =>
  refine ⟨fun i hi j hj=>?_,fun x=>?_⟩
  ·show (if i=a then W t else if i=t then W a else W i) j<q
   split
   ·exact ih.1 t ht j hj
   ·split
    ·exact ih.1 a hx j hj
    ·exact ih.1 i hi j hj
  ·refine (Gen.congr (fun i _=>?_) x).trans ((Gen.swap hx ht x).trans (ih.2 x))
   show wordK q hq k (if i=a then W t else if i=t then W a else W i)=if i=a then wordK q hq k (W t) else if i=t then wordK q hq k (W a) else wordK q hq k (W i)
   split
   ·rfl
   ·split <;> rfl
 | @scale W h a d hx hd hd0 ih =>
  refine ⟨fun i hi j hj=>?_,fun x=>?_⟩
  ·show (if i=a then fun j=>mul d (W a j) else W i) j<q
   split
   ·exact hF.mulLt _ _
   ·exact ih.1 i hi j hj
  ·have b:toEl q hq d≠0:=fun e=>hd0 (by
    have:=congrArg El.val e
    rwa [zak hq hd,h0] at this)
   refine (Gen.congr (fun i _=>?_) x).trans ((Gen.scale F b hx x).trans (ih.2 x))
   show wordK q hq k (if i=a then fun j=>mul d (W a j) else W i)=if i=a then smulW (toEl q hq d) (wordK q hq k (W a)) else wordK q hq k (W i)
   split
   ·exact zen hq hF hm hd (ih.1 a hx)
   ·rfl
 | @add W h i a e hi hx b he ih =>
  refine ⟨fun u hu j hj=>?_,fun x=>?_⟩
  ·show (if u=i then fun j=>add (W i j) (mul e (W a j)) else W u) j<q
   split
   ·exact hF.addLt _ _
   ·exact ih.1 u hu j hj
  ·refine (Gen.congr (fun u _=>?_) x).trans ((Gen.addTo F (a:=toEl q hq e) hi hx (fun e=>b e.symm) (fun u _=>zbd hq k (W u)) x).trans (ih.2 x))
   show wordK q hq k (if u=i then fun j=>add (W i j) (mul e (W a j)) else W u)=if u=i then addW (wordK q hq k (W i)) (smulW (toEl q hq e) (wordK q hq k (W a))) else wordK q hq k (W u)
   split
   ·rw [zig hq hF ha (ih.1 i hi) (fun j _=>hF.mulLt _ _),zen hq hF hm he (ih.1 a hx)]
   ·rfl
 | @eq W W' h e ih =>
  refine ⟨fun i hi j hj=>by rw [<-e i hi j hj]; exact ih.1 i hi j hj,fun x=>?_⟩
  rw [<-ih.2]
  exact Gen.congr (fun i hi=>zge hq fun j hj=>(e i hi j hj).symm) x
theorem zih {p:Nat->Prop} (h:∃ n,p n):∃ n,p n/\∀ k,k<n->¬ p k:=by
 obtain ⟨n,hn⟩:=h
 induction n using Nat.strongRecOn with
 | ind n ih =>
  by_cases h:∃ k,k<n/\p k
  ·obtain ⟨k,h1,h2⟩:=h
   exact ih k h1 h2
  ·exact ⟨n,hn,fun k h1 h2=>h ⟨k,h1,h2⟩⟩
section
variable {K:Type} [Add K] [Mul K]
def evA:K->List K->K->K
 | a,[],_=>a
 | a,c :: l,x=>evA (a*x+c) l x
def qtA:K->List K->K->List K
 | _,[],_=>[]
 | a,c :: l,r=>a :: qtA (a*r+c) l r
theorem zi9 (r:K):∀ (l:List K) (a:K),(qtA a l r).length=l.length
 | [],_=>rfl
 | c :: l,a=>by show (qtA (a*r+c) l r).length+1=l.length+1; rw [zi9 r l]
end
section
variable {K:Type} [Mul K] [One K]
def pwK (x:K):Nat->K
 | 0=>1
 | n+1=>pwK x n*x
def IsOrd (x:K) (n:Nat):Prop:=1<=n/\pwK x n=1/\∀ k,1<=k->k<n->pwK x k≠1
theorem zg2 {x:K} {n:Nat} (h1:1<=n) (h2:pwK x n=1) (h3:∀ k,pwK x k=1->n ∣ k):IsOrd x n :=
 ⟨h1,h2,fun k hk1 hk2 e=>by have:=Nat.le_of_dvd (by omega) (h3 k e); omega⟩
end
section
variable {K:Type} [Add K] [Mul K] [Neg K] [Zero K] [One K]
variable (F:Fie K)
include F
theorem zkv (x r:K):∀ (l:List K) (a b:K),evA (b*(x + -r)+a) l x=(x + -r)*evA b (qtA a l r) x+evA a l r
 | [],a,b=>by show b*(x + -r)+a=(x + -r)*b+a; rw [F.mulC]
 | c :: l,a,b=>by
  have ih:=zkv x r l (a*r+c) (b*x+a)
  show evA ((b*(x + -r)+a)*x+c) l x=(x + -r)*evA (b*x+a) (qtA (a*r+c) l r) x+evA (a*r+c) l r
  rw [<-ih]
  congr 1
  have h1:(b*(x + -r)+a)*x=b*x*(x + -r)+a*x:=by rw [F.distR,F.mulA,F.mulC (x + -r),<-F.mulA]
  have h2:(b*x+a)*(x + -r)=b*x*(x + -r)+(a*x + -(a*r)):=by rw [F.distR,F.dist a,F.mulNeg]
  rw [h1,h2,F.addA,F.addA,F.addA]
  congr 2
  rw [<-F.addA,F.negA,F.zeroA]
theorem zg3:∀ (n:Nat) (l rs:List K),l.length=n->rs.Nodup->(∀ r,r ∈ rs->evA 1 l r=0)->rs.length<=n
 | 0,l,rs,hl,_,hr=>by
  rw [List.length_eq_zero_iff] at hl
  subst hl
  cases rs with
  | nil=>exact Nat.le_refl _
  | cons r rs=>exact absurd (hr r (by simp)) F.ne
 | n+1,[],rs,hl,_,_=>by simp at hl
 | n + 1, c :: l, rs, hl, hn, hr => by
  cases rs with
  | nil=>exact Nat.zero_le _
  | cons r rs =>
   rw [List.nodup_cons] at hn
   have ih:=zg3 n (qtA (1*r+c) l r) rs (by rw [zi9]; simpa using hl) hn.2 fun s hs=>by
    have h1:=zkv F s r (c :: l) 1 0
    rw [F.zMul,F.zeroA,hr s (by simp [hs]),hr r (by simp),F.addZ] at h1
    have h2:evA 0 (qtA 1 (c :: l) r) s=evA 1 (qtA (1*r+c) l r) s:=by
     show evA (0*s+1) (qtA (1*r+c) l r) s=_
     rw [F.zMul,F.zeroA]
    rw [h2] at h1
    refine F.zeroOr h1.symm fun e=>hn.1 ?_
    rw [<-F.subEq e]
    exact hs
   simp only [List.length_cons]
   omega
theorem zfJ (x:K):∀ (n:Nat) (a:K),evA a (List.replicate n 0 ++ [-1]) x=a*pwK x (n+1) + -1
 | 0,a=>by show a*x + -1=a*(1*x) + -1; rw [F.oneM]
 | n+1,a=>by
  show evA (a*x+0) (List.replicate n 0 ++ [-1]) x=_
  rw [zfJ x n,F.addZ,F.mulA]
  congr 2
  have:∀ k,x*pwK x k=pwK x (k+1):=fun k=>by show x*pwK x k=pwK x k*x; rw [F.mulC]
  exact this _
theorem zg4 (x:K) (a:Nat):∀ b,pwK x (a+b)=pwK x a*pwK x b
 | 0=>by show pwK x a=pwK x a*1; rw [F.mulOne]
 | b+1=>by show pwK x (a+b)*x=pwK x a*(pwK x b*x); rw [zg4 x a b,F.mulA]
theorem zeo (n:Nat):pwK (1:K) n=1:=by
 induction n with
 | zero=>rfl
 | succ n ih=>show pwK 1 n*1=1; rw [ih,F.oneM]
theorem zcr (x:K) (a:Nat):∀ b,pwK x (a*b)=pwK (pwK x a) b
 | 0=>rfl
 | b+1=>by rw [Nat.mul_succ,zg4 F,zcr x a b]; rfl
theorem zep (x y:K):∀ n,pwK (x*y) n=pwK x n*pwK y n
 | 0=>by show (1:K)=1*1; rw [F.oneM]
 | n+1=>by
  show pwK (x*y) n*(x*y)=pwK x n*x*(pwK y n*y)
  rw [zep x y n,F.mulA,F.mulA,F.mulL (pwK y n)]
theorem zkw {x:K} (hx:x≠0):∀ n,pwK x n≠0
 | 0=>F.ne
 | n+1=>fun h=>hx (F.zeroOr h (zkw hx n))
theorem IsOrd.dvd {x:K} {n k:Nat} (h:IsOrd x n) (hk:pwK x k=1):n ∣ k:=by
 obtain ⟨h1,h2,h3⟩:=h
 have e:pwK x (k % n)=1:=by
  have:=Nat.div_add_mod k n
  rw [<-this,zg4 F,zcr F,h2,zeo F,F.oneM] at hk
  exact hk
 have a:=Nat.mod_lt k (show n > 0 by omega)
 refine Nat.dvd_of_mod_eq_zero (Classical.byContradiction fun hne=>h3 (k % n) (by omega) a e)
theorem IsOrd.power {x:K} {d e:Nat} (h:IsOrd x (d*e)) (hd:1<=d):IsOrd (pwK x d) e:=by
 have he:1<=e:=by
  have:=h.1
  rcases Nat.eq_zero_or_pos e with h0 | h0
  ·rw [h0] at this; omega
  ·exact h0
 refine zg2 he (by rw [<-zcr F]; exact h.2.1) fun k hk=>?_
 rw [<-zcr F] at hk
 exact Nat.dvd_of_mul_dvd_mul_left hd (h.dvd F hk)
theorem IsOrd.prod {x y:K} {a b:Nat} (h:IsOrd x a) (h':IsOrd y b) (hc:Nat.Coprime a b):IsOrd (x*y) (a*b):=by
 refine zg2 (Nat.mul_pos h.1 h'.1) ?_ fun k hk=>?_
 ·rw [zep F,zcr F,h.2.1,zeo F,Nat.mul_comm,zcr F,h'.2.1,zeo F,F.oneM]
 rw [zep F] at hk
 have hb:b ∣ k:=by
  have h1:pwK y (k*a)=1:=by
   have h2:pwK (pwK x k*pwK y k) a=1:=by rw [hk,zeo F]
   rw [zep F,<-zcr F,<-zcr F,Nat.mul_comm k a,zcr F x,h.2.1,zeo F,F.oneM,Nat.mul_comm a k] at h2
   exact h2
  exact (Nat.Coprime.dvd_of_dvd_mul_right hc.symm (h'.dvd F h1))
 have ha:a ∣ k:=by
  have h1:pwK x (k*b)=1:=by
   have h2:pwK (pwK x k*pwK y k) b=1:=by rw [hk,zeo F]
   rw [zep F,<-zcr F,<-zcr F,Nat.mul_comm k b,zcr F y,h'.2.1,zeo F,F.mulOne,Nat.mul_comm b k] at h2
   exact h2
  exact (Nat.Coprime.dvd_of_dvd_mul_right hc (h.dvd F h1))
 exact Nat.Coprime.mul_dvd_of_dvd_of_dvd hc ha hb
end
def PrimeN (p:Nat):Prop:=2<=p/\∀ d,d ∣ p->d=1∨d=p
theorem zcF {p a:Nat} (hp:PrimeN p) (ha:¬ p ∣ a):Nat.Coprime p a:=by
 rcases hp.2 _ (Nat.gcd_dvd_left p a) with h | h
 ·exact h
 ·exact absurd (h ▸ Nat.gcd_dvd_right p a) ha
theorem ze6:∀ b,2<=b->∃ p,PrimeN p/\p ∣ b:=by
 intro b
 induction b using Nat.strongRecOn with
 | ind b ih =>
  intro hb
  by_cases h:∃ d,d ∣ b/\d≠1/\d≠b
  ·obtain ⟨d,h1,h2,h3⟩:=h
   have c:=Nat.le_of_dvd (by omega) h1
   have h0:d≠0:=fun e=>by rw [e,Nat.zero_dvd] at h1; omega
   obtain ⟨p,hp,a⟩:=ih d (by omega) (by omega)
   exact ⟨p,hp,Nat.dvd_trans a h1⟩
  ·exact ⟨b,⟨hb,fun d hd=>Classical.byContradiction fun hn=>h ⟨d,hd,fun e=>hn (.inl e),fun e=>hn (.inr e)⟩⟩,Nat.dvd_refl b⟩
theorem zfK {p:Nat} (hp:2<=p):∀ b,1<=b->∃ v c,b=p ^ v*c/\¬ p ∣ c:=by
 intro b
 induction b using Nat.strongRecOn with
 | ind b ih =>
  intro hb
  by_cases h:p ∣ b
  ·obtain ⟨c,rfl⟩:=h
   have hc:1<=c:=by
    rcases Nat.eq_zero_or_pos c with e | e
    ·rw [e] at hb; omega
    ·exact e
   have a:c<p*c:=by
    have:=Nat.mul_le_mul_right c hp
    omega
   obtain ⟨v,d,e,hd⟩:=ih c a hc
   refine ⟨v+1,d,?_,hd⟩
   rw [Nat.pow_succ,Nat.mul_comm (p ^ v) p,Nat.mul_assoc,<-e]
  ·exact ⟨0,b,by simp,h⟩
theorem zgf {a:Nat}:∀ b,1<=b->¬ b ∣ a->∃ p k,PrimeN p/\p ^ k ∣ b/\¬ p ^ k ∣ a:=by
 intro b
 induction b using Nat.strongRecOn with
 | ind b ih =>
  intro hb hn
  have l:2<=b:=by
   rcases (show b=1∨2<=b by omega) with e | e
   ·exact absurd (by rw [e]; exact Nat.one_dvd a) hn
   ·exact e
  obtain ⟨p,hp,g⟩:=ze6 b l
  obtain ⟨v,c,e,hc⟩:=zfK hp.1 b hb
  by_cases h:p ^ v ∣ a
  ·have d:Nat.Coprime (p ^ v) c:=Nat.Coprime.pow_left v (zcF hp hc)
   have f:¬ c ∣ a:=fun f=>hn (by rw [e]; exact Nat.Coprime.mul_dvd_of_dvd_of_dvd d h f)
   have hv:v≠0:=fun h0=>by
    rw [h0,Nat.pow_zero,Nat.one_mul] at e;rw [e] at g
    exact hc g
   have j:1<=c:=by
    rcases Nat.eq_zero_or_pos c with h0 | h0
    ·rw [h0] at e; omega
    ·exact h0
   have i:c<b:=by
    have h1:2<=p ^ v:=Nat.le_trans hp.1 (by
     have:=Nat.pow_le_pow_right (show 0<p by have:=hp.1; omega) (show 1<=v by omega)
     simpa using this)
    have:=Nat.mul_le_mul_right c h1
    omega
   obtain ⟨p',k,h1,h2,h3⟩:=ih c i j f
   exact ⟨p',k,h1,by rw [e]; exact Nat.dvd_trans h2 (Nat.dvd_mul_left c _),h3⟩
  ·exact ⟨p,v,hp,by rw [e]; exact Nat.dvd_mul_right _ _,h⟩
section
variable {K:Type} [Add K] [Mul K] [Neg K] [Zero K] [One K] (F:Fie K)
include F
theorem zeq {x y:K} {a b:Nat} (hx:IsOrd x a) (hy:IsOrd y b) (h:¬ b ∣ a):∃ (z:K) (n:Nat),IsOrd z n/\a<n:=by
 obtain ⟨p,k,hp,h1,h2⟩:=zgf b hy.1 h
 obtain ⟨v,c,e,hc⟩:=zfK hp.1 a hx.1
 have i:0<p:=by have:=hp.1; omega
 have g:v<k:=Classical.byContradiction fun hn=>h2 (by
  rw [e]
  exact Nat.dvd_trans (Nat.pow_dvd_pow p (by omega)) (Nat.dvd_mul_right _ _))
 obtain ⟨d,hd⟩:=h1
 have j:1<=d:=by
  have:=hy.1
  rcases Nat.eq_zero_or_pos d with h0 | h0
  ·rw [h0] at hd; omega
  ·exact h0
 have o1:IsOrd (pwK x (p ^ v)) c:=IsOrd.power F (by rw [<-e]; exact hx) (Nat.pow_pos i)
 have o2:IsOrd (pwK y d) (p ^ k):=IsOrd.power F (by rw [Nat.mul_comm,<-hd]; exact hy) j
 have f:Nat.Coprime c (p ^ k):=(Nat.Coprime.pow_left k (zcF hp hc)).symm
 refine ⟨_,_,o1.prod F o2 f,?_⟩
 rw [e,Nat.mul_comm c]
 exact Nat.mul_lt_mul_of_pos_right (Nat.pow_lt_pow_right hp.1 g) o1.1
theorem zc5 {L:List K} (hn:L.Nodup) (hc:∀ a,a ∈ L):∃ x:K,x≠0/\IsOrd x (L.length - 1):=by
 classical
 have f:∀ {l m:List K},l.Nodup->(∀ x,x ∈ l->x ∈ m)->l.length<=m.length:=by
  intro l
  induction l with
  | nil=>intro m _ _; exact Nat.zero_le _
  | cons a l ih =>
   intro m h1 h2
   have ha:=h2 a (by simp)
   rw [List.nodup_cons] at h1
   have hl:=List.length_erase_of_mem ha
   have hp:=ih (m:=m.erase a) h1.2 fun x hx=>(List.mem_erase_of_ne (fun e:x=a=>h1.1 (by rw [<-e]; exact hx))).2 (h2 x (by simp [hx]))
   have A:=List.length_pos_of_mem ha
   simp only [List.length_cons]
   omega
 have hU:(L.erase 0).length=L.length - 1:=List.length_erase_of_mem (hc 0)
 have E:∀ x:K,x≠0->x ∈ L.erase 0:=fun x hx=>(List.mem_erase_of_ne hx).2 (hc x)
 have p:∀ (x:K) (n:Nat),x≠0->(∀ k,1<=k->k<n->pwK x k≠1)->((List.range n).map (pwK x)).Nodup:=by
  intro x n hx hk
  rw [List.Nodup,List.pairwise_map]
  have u:∀ i j,i<j->j<n->pwK x i≠pwK x j:=fun i j hij hj e=>by
   refine hk (j - i) (by omega) (by omega) ?_
   rw [show j=i+(j - i) by omega,zg4 F] at e
   have h1:pwK x i*pwK x (j - i)=pwK x i*1:=by rw [<-e,F.mulOne]
   obtain ⟨y,hy⟩:=F.inv _ (zkw F hx i)
   have h2:y*(pwK x i*pwK x (j - i))=y*(pwK x i*1):=by rw [h1]
   rwa [<-F.mulA,<-F.mulA,F.mulC y,hy,F.oneM,F.oneM] at h2
  refine List.Pairwise.imp_of_mem (R:=fun a b=>a<b) (fun {a b} ha hb hab=>u a b hab (List.mem_range.1 hb)) List.pairwise_lt_range
 have o:∀ (x:K) (n:Nat),x≠0->(∀ k,1<=k->k<n->pwK x k≠1)->n<=L.length - 1:=fun x n hx hk=>by
  have:=f (p x n hx hk) (m:=L.erase 0) fun z hz=>by
   obtain ⟨i,_,rfl⟩:=List.mem_map.1 hz
   exact E _ (zkw F hx i)
  rw [hU] at this
  simpa using this
 have d:∀ x:K,x≠0->∃ n,IsOrd x n:=fun x hx=>by
  have C:∃ n,1<=n/\pwK x n=1:=Classical.byContradiction fun hno=>by
   have:=o x (L.length+1) hx fun k h1 _ e=>hno ⟨k,h1,e⟩
   omega
  obtain ⟨n,h1,h2⟩:=zih C
  exact ⟨n,h1.1,h1.2,fun k h3 h4 e=>h2 k h4 ⟨h3,e⟩⟩
 have g:∃ x n,x≠(0:K)/\IsOrd x n/\∀ y m,y≠(0:K)->IsOrd y m->m<=n:=by
  refine Classical.byContradiction fun hno=>?_
  have step:∀ t,∃ x n,x≠(0:K)/\IsOrd x n/\t<=n:=by
   intro t
   induction t with
   | zero =>
    obtain ⟨n,h⟩:=d 1 F.ne
    exact ⟨1,n,F.ne,h,Nat.zero_le _⟩
   | succ t ih =>
    obtain ⟨x,n,h1,h2,h3⟩:=ih
    refine Classical.byContradiction fun hn2=>hno ⟨x,n,h1,h2,fun y m hy hm=>?_⟩
    refine Classical.byContradiction fun B=>hn2 ⟨y,m,hy,hm,by omega⟩
  obtain ⟨x,n,h1,h2,h3⟩:=step (L.length+1)
  have:=o x n h1 h2.2.2
  omega
 obtain ⟨x,e,hx,he,q⟩:=g
 refine ⟨x,hx,?_⟩
 have h1:=o x e hx he.2.2
 have s:∀ y:K,y≠0->pwK y e=1:=fun y hy=>by
  obtain ⟨m,hm⟩:=d y hy
  have D:m ∣ e:=Classical.byContradiction fun hnd=>by
   obtain ⟨z,n,hz,B⟩:=zeq F he hm hnd
   have v:z≠0:=fun e0=>by
    have h2:=hz.2.1
    rw [e0] at h2
    have h3:=hz.1
    obtain ⟨k,rfl⟩:∃ k,n=k+1:=⟨n - 1,by omega⟩
    rw [show pwK (0:K) (k+1)=pwK 0 k*0 from rfl,F.mulZ] at h2
    exact F.ne h2.symm
   have:=q z n v hz
   omega
  obtain ⟨k,rfl⟩:=D
  rw [zcr F,hm.2.1,zeo F]
 have c:=zg3 F e (List.replicate (e - 1) 0 ++ [-1]) (L.erase 0) (by have:=he.1; simp; omega) (hn.erase 0) fun r hr=>by
  have w:r≠0:=fun e0=>by rw [e0] at hr; exact (List.Nodup.mem_erase_iff hn).1 hr |>.1 rfl
  rw [zfJ F,F.oneM,show e - 1+1=e by have:=he.1; omega,s r w,F.addN]
 rw [hU] at c
 obtain rfl:e=L.length - 1:=by omega
 exact he
end
structure RingM (q:Nat) (mul:Nat->Nat->Nat):Prop where
 two:2<=q
 lt:∀ x y,mul x y<q
 comm:∀ x y,x<q->y<q->mul x y=mul y x
 assoc:∀ x y z,x<q->y<q->z<q->mul (mul x y) z=mul x (mul y z)
 one:∀ x,x<q->mul 1 x=x
theorem ringM {P M:Nat} (m:Nat->Nat) (h:FldOk P M):RingM (P ^ M) (mulF P M m):=by
 obtain ⟨b,hM,_,_⟩:=h
 have a:0<P:=by omega
 have hq:P<=P ^ M:=by
  have:=Nat.pow_le_pow_right a hM
  simpa using this
 have one:∀ j,dgt P 1 j=one0 j:=fun j=>by
  unfold dgt one0
  cases j with
  | zero=>rw [zb8,Nat.mod_eq_of_lt (by omega)]; rfl
  | succ j=>rw [zcV,Nat.div_eq_of_lt (by omega),zbZ]; rfl
 have mD:=fun (x y j:Nat) (hj:j<M)=>zdK (P:=P) (m:=m) a hM x y hj
 refine ⟨by omega,fun x y=>za1 a x y,fun x y hx hy=>?_,fun x y z hx hy hz=>?_,fun x hx=>?_⟩
 ·refine zbG a (za1 a _ _) (za1 a _ _) fun j hj=>?_
  exact (mD _ _ j hj).trans ((zbV (by rw [za3])).trans (mD _ _ j hj).symm)
 ·refine zbG a (za1 a _ _) (za1 a _ _) fun j hj=>?_
  refine (mD _ _ j hj).trans ((zbJ (fun i hi=>mD _ _ i hi) (fun i _=>zas _) j).trans ?_)
  rw [zca hM]
  exact ((mD _ _ j hj).trans (zbJ (fun i _=>zas _) (fun i hi=>mD _ _ i hi) j)).symm
 refine zbG a (za1 a _ _) hx fun j hj=>?_
 refine (mD _ _ j hj).trans (zbV ?_)
 rw [show dgt P 1=one0 from funext one,zdJ _ hj]
section
variable {q x:Nat} {mul:Nat->Nat->Nat}
theorem zg5 (hR:RingM q mul) (hx:x<q) (h:GenX q mul x) {n:Nat} (hn:n<q - 1):mul (pwG mul x n) x=pwG mul x ((n+1) % (q - 1)):=by
 have h2:=hR.two
 by_cases e:n+1=q - 1
 ·rw [e,Nat.mod_self]
  have:n=q - 2:=by omega
  rw [this]
  exact h.2
 rw [Nat.mod_eq_of_lt (by omega)]
 cases n with
 | zero=>exact hR.one x hx
 | succ n=>rfl
theorem zfL (hR:RingM q mul) (hx:x<q) (h:GenX q mul x) {i:Nat} (hi:i<q - 1):∀ j,j<q - 1->mul (pwG mul x i) (pwG mul x j)=pwG mul x ((i+j) % (q - 1))
 | 0,_=>by
  have h2:=hR.two
  rw [Nat.add_zero,Nat.mod_eq_of_lt hi]
  show mul (pwG mul x i) 1=_
  rw [hR.comm _ _ (h.1.lt i hi) (by omega),hR.one _ (h.1.lt i hi)]
 | j + 1, hj => by
  have h2:=hR.two
  have e:pwG mul x (j+1)=mul (pwG mul x j) x:=by
   rw [zg5 hR hx h (by omega),Nat.mod_eq_of_lt hj]
  rw [e,<-hR.assoc _ _ _ (h.1.lt i hi) (h.1.lt j (by omega)) hx,zfL hR hx h hi j (by omega),zg5 hR hx h (Nat.mod_lt _ (by omega)),Nat.mod_add_mod]
  rfl
theorem zer (h2:2<=q) (h:PwOk q (pwG mul x) (q - 1)) {y:Nat} (hy0:y≠0) (hy:y<q):∃ i,i<q - 1/\pwG mul x i=y:=by
 refine Classical.byContradiction fun hno=>?_
 have a:∀ i,i<q - 1->pwG mul x i≠y:=fun i hi e=>hno ⟨i,hi,e⟩
 have:=pigeon (M:=q) (N:=q - 1) (f:=fun i=>if i<q - 1 then pwG mul x i - 1 else y - 1) (fun i hi=>by
  show (if i<q - 1 then pwG mul x i - 1 else y - 1)<q - 1
  split
  ·rename_i h1
   have:=h.lt i h1
   have:=h.ne i h1
   omega
  ·omega) (fun i k hi hk e=>by
  have e:(if i<q - 1 then pwG mul x i - 1 else y - 1)=(if k<q - 1 then pwG mul x k - 1 else y - 1):=e
  by_cases h1:i<q - 1 <;> by_cases h3:k<q - 1
  ·rw [if_pos h1,if_pos h3] at e
   have a1:=h.ne i h1
   have a2:=h.ne k h3
   rcases Nat.lt_trichotomy i k with c | c | c
   ·exact absurd (show pwG mul x i=pwG mul x k by omega) (h.inj i k c h3)
   ·exact c
   ·exact absurd (show pwG mul x k=pwG mul x i by omega) (h.inj k i c h1)
  ·rw [if_pos h1,if_neg h3] at e
   have a1:=h.ne i h1
   exact absurd (show pwG mul x i=y by omega) (a i h1)
  ·rw [if_neg h1,if_pos h3] at e
   have a1:=h.ne k h3
   exact absurd (show pwG mul x k=y by omega) (a k h3)
  ·omega)
 omega
theorem zes (hR:RingM q mul) (hx:x<q) (h:GenX q mul x) {y z:Nat} (hy0:y≠0) (hy:y<q) (hz0:z≠0) (hz:z<q):mul y z≠0:=by
 obtain ⟨i,hi,rfl⟩:=zer hR.two h.1 hy0 hy
 obtain ⟨j,hj,rfl⟩:=zer hR.two h.1 hz0 hz
 rw [zfL hR hx h hi j hj]
 exact h.1.ne _ (Nat.mod_lt _ (by have:=hR.two; omega))
end
theorem ze7 {q:Nat} {add mul:Nat->Nat->Nat} (hF:FieldLaws q add mul):∃ x,1<=x/\x<q/\GenX q mul x:=by
 obtain ⟨iA,iM,iN,i0,i1,F,ha,hm,h0,h1⟩:=zg1 hF
 have hq:0<q:=by have:=hF.two; omega
 have h:((List.range q).map (toEl q hq)).Nodup:=by
  rw [List.Nodup,List.pairwise_map]
  refine List.Pairwise.imp_of_mem (R:=fun a b=>a<b) (fun {a b} ha hb hab e=>?_) List.pairwise_lt_range
  have:=zdX hq (List.mem_range.1 ha) (List.mem_range.1 hb) e
  omega
 obtain ⟨g,d,hg⟩:=zc5 F h fun a=>by
  obtain ⟨b,hb,e⟩:=zjy hq a
  exact List.mem_map.2 ⟨b,List.mem_range.2 hb,e⟩
 rw [List.length_map,List.length_range] at hg
 have c:∀ n,pwG mul g.val n=(pwK g n).val:=fun n=>by
  induction n with
  | zero=>exact h1.symm
  | succ n ih =>
   show _=(pwK g n*g).val
   rw [hm,<-ih]
   cases n with
   | zero=>exact (hF.oneMul _ g.lt).symm
   | succ n=>rfl
 have f:∀ z:El q,z≠0->z.val≠0:=fun z hz e=>hz (El.ext' (by rw [e,h0]))
 have h2:=hF.two
 refine ⟨g.val,by have:=f g d; omega,g.lt,⟨fun i _=>by rw [c]; exact f _ (zkw F d i),fun i _=>by rw [c]; exact (pwK g i).lt,fun i j hij hj e=>?_⟩,?_⟩
 ·rw [c,c] at e
  have e:=El.ext' e
  refine hg.2.2 (j - i) (by omega) (by omega) ?_
  rw [show j=i+(j - i) by omega,zg4 F] at e
  have h1:pwK g i*pwK g (j - i)=pwK g i*1:=by rw [<-e,F.mulOne]
  obtain ⟨y,hy⟩:=F.inv _ (zkw F d i)
  have h2:y*(pwK g i*pwK g (j - i))=y*(pwK g i*1):=by rw [h1]
  rwa [<-F.mulA,<-F.mulA,F.mulC y,hy,F.oneM,F.oneM] at h2
 rw [c,<-hm]
 have e:pwK g (q - 1)=pwK g (q - 2)*g:=by
  obtain ⟨r,hr⟩:∃ r,q=r+2:=⟨q - 2,by omega⟩
  subst hr
  rfl
 rw [<-e,hg.2.1,h1]
theorem zg6 {P M x:Nat} {m:Nat->Nat} (hf:FldOk P M) (hm:M=1∨∀ t,t<M->m t<P) (hx:x<P ^ M) (h:GenX (P ^ M) (mulF P M m) x):IrrB P M m:=by
 intro d hd1 hd2 v hv hdiv
 have hR:=ringM m hf
 obtain ⟨k,hM,_,_⟩:=hf
 have c:0<P:=by omega
 have hm:∀ t,t<M->m t<P:=by
  rcases hm with e | e
  ·omega
  ·exact e
 have hl:∀ (B:Nat->Int) j,(((B j) % P).toNat:Int)=B j % P:=fun B j=>by
  have:=Int.emod_nonneg (B j) (show (P:Int)≠0 by omega)
  omega
 have g:∀ (B:Nat->Int) j,((B j) % P).toNat<P:=fun B j=>by
  have:=Int.emod_lt_of_pos (B j) (show (0:Int)<P by omega)
  have:=hl B j; omega
 have val:∀ B:Nat->Int,∃ y,y<P ^ M/\∀ j,j<M->cg P (dgt P y j) (B j):=fun B=>by
  refine ⟨valN P (fun j=>((B j) % P).toNat) M,zbh fun i _=>g B i,fun j hj=>?_⟩
  unfold dgt
  rw [za7 (fun i _=>g B i) j hj,hl B]
  exact zf7 _
 obtain ⟨a,ha,hA⟩:=val (hD P d (dig P v) M (modR M m) (M+1 - d))
 obtain ⟨b,hb,hB⟩:=val (lead d (dig P v))
 have f:∀ {y j:Nat},j<M->cg P (dgt P y j) 1->y≠0:=fun {y j} hj e e0=>by
  subst e0
  unfold dgt at e
  rw [zbZ] at e
  exact absurd (zgF (P:=P) (a:=0) (b:=1) e c (by omega)) (by omega)
 refine zes hR hx h (y:=a) (z:=b) ?_ ha ?_ hb ?_
 ·refine f (j:=M - d) (by omega) ((hA _ (by omega)).trans (zbV ?_))
  obtain ⟨s,hs⟩:∃ s,M+1 - d=s+1:=⟨M - d,by omega⟩
  rw [hs]
  exact zkl (by omega) s (by omega)
 ·refine f (j:=d) (by omega) ((hB _ (by omega)).trans (zbV ?_))
  unfold lead
  rw [if_neg (by omega),if_pos rfl]
 refine zbG c (za1 c _ _) (Nat.pow_pos c) fun j hj=>?_
 refine (zdK (P:=P) (m:=m) c hM a b hj).trans ((zbJ (fun i hi=>hA i hi) (fun i hi=>hB i hi) j).trans ?_)
 refine (zi4 (by omega) hm hd1 (by omega) hj).trans (zbV ?_)
 rw [hdiv j (by omega)]
 unfold dgt
 rw [zbZ]
 rfl
theorem zkx {P M:Nat} {m:Nat->Nat} (hf:FldOk P M) (hp:PrimeB P) (hm:M=1∨∀ t,t<M->m t<P):(∃ x,1<=x/\x<P ^ M/\GenX (P ^ M) (mulF P M m) x)↔FieldOk P M m:=by
 constructor
 ·rintro ⟨x,_,hx,h⟩
  exact ⟨hf,hp,hm,zg6 hf hm hx h⟩
 ·intro h
  exact ze7 (fieldLaws h)
open Go.RowKit
def ShapeF (P M:Int) (k:Nat) (f:Nat->Int):Prop :=
 ∃ P' M':Nat,P=P'/\M=M'/\FldOk P' M'/\PrimeB P'/\((M'=1/\k=0)∨(2<=M'/\k=M'/\∀ i,i<M'->0<=f i/\f i<P'))
theorem GoodF.shape {P M:Int} {k:Nat} {f:Nat->Int} (h:GoodF P M k f):ShapeF P M k f:=by
 obtain ⟨P',M',h1,h2,h3,h4,h5⟩:=h
 refine ⟨P',M',h1,h2,h3,h4,?_⟩
 rcases h5 with h | ⟨a,b,c,_⟩
 ·exact .inl h
 ·exact .inr ⟨a,b,c⟩
theorem ShapeF.good {P M:Nat} {k:Nat} {f:Nat->Int} (h:ShapeF (P:Int) (M:Int) k f):GoodF (P:Int) (M:Int) k f↔∃ x,1<=x/\x<P ^ M/\GenX (P ^ M) (mulF P M fun i=>(f i).toNat) x:=by
 obtain ⟨P',M',h1,h2,h3,h4,h5⟩:=h
 obtain rfl:P=P':=by omega
 obtain rfl:M=M':=by omega
 rw [zkx h3 h4 (by
  rcases h5 with ⟨e,_⟩ | ⟨_,_,c⟩
  ·exact .inl e
  ·exact .inr fun t ht=>by have:=c t ht; show (f t).toNat<P; omega)]
 refine ⟨fun h=>h.field.1,fun h=>⟨P,M,rfl,rfl,h3,h4,?_⟩⟩
 rcases h5 with e | ⟨a,b,c⟩
 ·exact .inl e
 ·exact .inr ⟨a,b,c,h.2.2.2⟩
theorem ShapeF.fld {P M:Int} {k:Nat} {f:Nat->Int} (h:ShapeF P M k f):∃ P' M':Nat,P=P'/\M=M'/\FldOk P' M'/\(M'=1∨k=M'):=by
 obtain ⟨P',M',h1,h2,h3,h4,h5⟩:=h
 refine ⟨P',M',h1,h2,h3,?_⟩
 rcases h5 with ⟨a,b⟩ | ⟨a,b,c⟩
 ·exact .inl a
 ·exact .inr b
theorem ShapeF.mod {P M:Nat} {k:Nat} {f:Nat->Int} {w:World} {A:Option Addr} (h:ShapeF (P:Int) (M:Int) k f) (hr:IntsR w w.heap.size A k f):ModOk w P M A (fun i=>(f i).toNat):=by
 obtain ⟨P',M',h1,h2,h3,h4,h5⟩:=h
 obtain rfl:P=P':=by omega
 obtain rfl:M=M':=by omega
 rcases h5 with ⟨e,_⟩ | ⟨e1,rfl,e3⟩
 ·exact .inl e
 ·exact .inr ⟨hr.congr fun i hi=>by have:=e3 i hi; show f i=((f i).toNat:Int); omega,fun i hi=>by have:=e3 i hi; show (f i).toNat<P; omega⟩
theorem zfM (P M:Int) (A:Option Addr) (k c:Nat) (f:Nat->Int) (w:World) (hr:IntsR w w.heap.size A k f) :
  Calls Tryz.prog 145 #[.agg #[.int .i64 P,.int .i64 M,.slice A k c]] w (IffPost (ShapeF P M k f) w):=by
 obtain ⟨w0,l,hB,rf⟩:=zao w (.int .i64 P) (.int .i64 M) (.slice A k c) 24
 go_enter Tryz.func145, Tryz.ntmps145
 go_upto_region 1 with fail
 rw [<-l];clear l
 have q0:=qc0 rf
 have q1:=qc1 rf
 have q2:=qc2 rf
 go_wp2_with fail
 refine (zcp P M _).mono ?_
 rintro e w1 ⟨rfl,kb⟩
 replace rf:=zaa rf kb;replace hB:=onS hB kb;clear kb q0 q1 q2
 by_cases h0:ordV P M=0
 ·have a:Hid (¬ ShapeF P M k f):=by
   rintro ⟨P',M',rfl,rfl,h3,_⟩
   rw [zb6 h3] at h0
   have:=Nat.pow_pos (n:=M') (show 0<P' by have:=h3.1; omega)
   omega
  rw [h0];clear h0 rf
  go_wp2
  go_ret
  exact zav a.out hB
 obtain ⟨P,M,rfl,rfl,hf⟩:=ziX h0
 obtain ⟨v,hv⟩:=exx (ordV (P:Int) (M:Int))
 rw [<-hv] at h0;rw [<-hv]
 have m:(v == 0)=false:=by simpa using h0
 have B:=hf.1
 have z:=hf.P_le
 have G:=hf.2.1
 have F:=hf.2.2.1
 have hq:=hf.2.2.2
 have HF:=hid hf
 clear hv hf
 have q0:=qc0 rf
 have q1:=qc1 rf
 have q2:=qc2 rf
 go_wp2_with fail
 refine (zgb P _ B z).mono ?_
 rintro e w2 ⟨b,rfl,hb,rfl⟩
 have j:=hid hb
 clear hb h0 m
 cases b
 ·have a:Hid (¬ ShapeF (P:Int) (M:Int) k f):=by
   rintro ⟨P',M',e1,e2,h3,h4,_⟩
   obtain rfl:P=P':=by omega
   have:=j.out.2 h4
   cases this
  go_wp2
  go_ret
  exact zav a.out hB
 have hp:Hid (PrimeB P):=j.out.1 rfl
 clear j
 by_cases hM:M=1
 ·subst hM
  by_cases hk0:k=0
  ·subst hk0
   have d:Hid (ShapeF (P:Int) ((1:Nat):Int) 0 f):=⟨P,1,rfl,rfl,HF.out,hp.out,.inl ⟨rfl,rfl⟩⟩
   go_wp2
   go_ret
   exact zbc d.out hB
  have u:((k:Int) == 0)=false:=by simp; omega
  have a:Hid (¬ ShapeF (P:Int) ((1:Nat):Int) k f):=by
   rintro ⟨P',M',e1,e2,h3,h4,⟨e3,e4⟩ | ⟨e3,_⟩⟩
   ·exact hk0 e4
   ·omega
  go_wp2
  go_ret
  exact zav a.out hB
 have C:((M:Int) == 1)=false:=by simp; omega
 by_cases hkM:k=M
 rotate_left
 ·have r:((k:Int) != (M:Int))=true:=by simp; omega
  have a:Hid (¬ ShapeF (P:Int) (M:Int) k f):=by
   rintro ⟨P',M',e1,e2,h3,h4,⟨e3,e4⟩ | ⟨e3,e4,_⟩⟩
   ·omega
   ·omega
  go_wp2
  go_ret
  exact zav a.out hB
 subst hkM
 have q:((k:Int) != (k:Int))=false:=by simp
 have s:2<=k:=by omega
 go_wp2
 clear q0 q1 q2 C q
 go_loopg [33] k (fun gg iv wx=>∃ i:Nat,iv=.int .i64 (i:Nat)/\i<=k/\k<=i+gg/\(∀ i',i'<i->0<=f i'/\f i'<P)/\wx.rowIs w.heap.size 24 3 (fldCell (.int .i64 (P:Nat)) (.int .i64 (k:Nat)) (.slice A k c))/\Below w.heap.size w wx)
 case atStart=>exact ⟨0,rfl,by omega,by omega,fun i' h=>by omega,rf,hB⟩
 clear rf hB
 obtain ⟨i,rfl,hi,D,hg,rf,hB⟩:=hrel
 have HG:=hid hg
 clear hg
 have E:(0:Int)<=(i:Int):=by omega
 have q0:=qc0 rf
 have q1:=qc1 rf
 have q2:=qc2 rf
 by_cases hlt:i<k
 rotate_left
 ·obtain rfl:i=k:=by omega
  have g:¬ (i:Int)<(i:Int):=by omega
  have d:Hid (ShapeF (P:Int) (i:Int) i f):=⟨P,i,rfl,rfl,HF.out,hp.out,.inr ⟨s,rfl,HG.out⟩⟩
  go_wp2
  go_ret
  exact zbc d.out hB
 have g:(i:Int)<(k:Int):=by omega
 obtain ⟨b,o,rfl,hb,e0⟩:=(hr.on hB).at hlt
 obtain ⟨x,hx⟩:=exx (f i)
 rw [<-hx] at e0
 have HX:=hid hx
 clear hx
 have a:Hid (x<0∨(P:Int)<=x->¬ ShapeF (P:Int) (k:Int) k f):=by
  rintro hc ⟨P',M',e1,e2,h3,h4,⟨e3,e4⟩ | ⟨e3,e4,e5⟩⟩
  ·omega
  have:=e5 i (by omega)
  rw [<-HX.out] at this
  omega
 by_cases hx0:x<0
 ·have hd:decide (x<0)=true:=by simpa using hx0
  go_wp2
  go_ret
  exact zav (a.out (.inl hx0)) hB
 have hd:decide (x<0)=false:=by simpa using hx0
 by_cases hxP:(P:Int)<=x
 ·have y:decide ((P:Int)<=x)=true:=by simpa using hxP
  go_wp2
  go_ret
  exact zav (a.out (.inr hxP)) hB
 have y:decide ((P:Int)<=x)=false:=by simpa using hxP
 have p:Hid (∀ i',i'<i+1->0<=f i'/\f i'<P):=fun i' h=>by
  by_cases e:i'=i
  ·rw [e,<-HX.out]; omega
  ·exact HG.out i' (by omega)
 clear a
 go_wp2
 go_roundg (gk - 1)
 case measure=>omega
 case rel=>exact ⟨i+1,by go_num,by omega,by omega,p.out,rf,hB⟩
theorem zcP {p:Nat}:∀ (n:Nat) (f:Nat->Nat),valN p f (n+1)=valN p f n+p ^ n*f n
 | 0,f=>by show f 0+p*0=0+p ^ 0*f 0; simp
 | n+1,f=>by
  show f 0+p*valN p (fun i=>f (i+1)) (n+1)=f 0+p*valN p (fun i=>f (i+1)) n+p ^ (n+1)*f (n+1)
  rw [zcP n]
  show f 0+p*(valN p (fun i=>f (i+1)) n+p ^ n*f (n+1))=_
  rw [Nat.mul_add,Nat.pow_succ,Nat.mul_comm (p ^ n) p,Nat.mul_assoc,Nat.add_assoc]
theorem ze8 {p k:Nat} {f:Nat->Nat}:∀ n,(∀ i,k<=i->i<n->f i=0)->k<=n->valN p f n=valN p f k
  | 0, _, h => by obtain rfl : k = 0 := by omega
                  rfl
  | n + 1, h, hk => by
    by_cases e:k=n+1
    · rw [e]
    · rw [zcP,h n (by omega) (by omega),Nat.mul_zero,Nat.add_zero,ze8 n (fun i h1 h2=>h i h1 (by omega)) (by omega)]
theorem ze9 {p x i j:Nat} (h:x / p ^ i=0) (hij:i<=j):dig p x j=0:=by
 unfold dig
 obtain ⟨r,rfl⟩:∃ r,j=i+r:=⟨j - i,by omega⟩
 rw [Nat.pow_add,<-Nat.div_div_eq_div_mul,h,Nat.zero_div,Nat.zero_mod]
theorem zjz {M x y:Nat} (hx:x<2 ^ M) (hy:y<2 ^ M):addF 2 M x y=x ^^^ y:=by
 refine zek (p:=2) (M:=M) (by omega) (zdx (by omega) _ _) (Nat.xor_lt_two_pow hx hy) fun j hj=>?_
 unfold addF
 rw [za7 (fun i _=>Nat.mod_lt _ (by omega)) j hj]
 have h:=Nat.testBit_xor x y j
 simp only [Nat.testBit_eq_decide_div_mod_eq] at h
 unfold dig
 have a1:=Nat.mod_two_eq_zero_or_one (x / 2 ^ j)
 have a2:=Nat.mod_two_eq_zero_or_one (y / 2 ^ j)
 have a3:=Nat.mod_two_eq_zero_or_one ((x ^^^ y) / 2 ^ j)
 rcases a1 with a1 | a1 <;> rcases a2 with a2 | a2 <;> rcases a3 with a3 | a3 <;> simp [a1,a2,a3] at h ⊢
theorem zky {x y:Nat} (hx:x<256) (hy:y<256):bits .xor .i64 (x:Int) (y:Int)=((x ^^^ y:Nat):Int):=by
 show IntKind.i64.wrap ((BitVec.ofInt 64 (x:Int) ^^^ BitVec.ofInt 64 (y:Int)).toNat:Nat)=_
 have k1:(BitVec.ofInt 64 (x:Int)).toNat=x:=by rw [BitVec.toNat_ofInt]; omega
 have k2:(BitVec.ofInt 64 (y:Int)).toNat=y:=by rw [BitVec.toNat_ofInt]; omega
 have h:x ^^^ y<2 ^ 8:=Nat.xor_lt_two_pow (n:=8) hx hy
 rw [BitVec.toNat_xor,k1,k2]
 exact IntWalk.i64_in _ (by omega)
def gfCell (a b c d e f:Value) (i:Nat):Value:=if i=0 then a else if i=1 then b else if i=2 then c else if i=3 then d else if i=4 then e else f
theorem KF.qc0 {w:World} {g:Nat} {T:TypeId} {a b c d e f:Value} (h:w.rowIs g T 6 (gfCell a b c d e f)) : w.cell? ⟨g,0,none⟩=some a:=h.cell (i:=0) (by decide)
theorem KF.qc1 {w:World} {g:Nat} {T:TypeId} {a b c d e f:Value} (h:w.rowIs g T 6 (gfCell a b c d e f)) : w.cell? ⟨g,1,none⟩=some b:=h.cell (i:=1) (by decide)
theorem KF.qc2 {w:World} {g:Nat} {T:TypeId} {a b c d e f:Value} (h:w.rowIs g T 6 (gfCell a b c d e f)) : w.cell? ⟨g,2,none⟩=some c:=h.cell (i:=2) (by decide)
theorem KF.qc3 {w:World} {g:Nat} {T:TypeId} {a b c d e f:Value} (h:w.rowIs g T 6 (gfCell a b c d e f)) : w.cell? ⟨g,3,none⟩=some d:=h.cell (i:=3) (by decide)
theorem KF.qc4 {w:World} {g:Nat} {T:TypeId} {a b c d e f:Value} (h:w.rowIs g T 6 (gfCell a b c d e f)) : w.cell? ⟨g,4,none⟩=some e:=h.cell (i:=4) (by decide)
theorem KF.qc5 {w:World} {g:Nat} {T:TypeId} {a b c d e f:Value} (h:w.rowIs g T 6 (gfCell a b c d e f)) : w.cell? ⟨g,5,none⟩=some f:=h.cell (i:=5) (by decide)
open KF
structure GFr (w:World) (B g P M:Nat) (m:Nat->Nat) (A:Option Addr) (k c eb eo ec lb lo lc x:Nat) (lg:Nat->Nat):Prop where
 ok:FieldOk P M m
 km:(M=1/\k=0)∨(2<=M/\k=M)
 row:w.rowIs g 182 6 (gfCell (.int .i64 (P:Nat)) (.int .i64 (M:Nat)) (.slice A k c) (.int .i64 (P ^ M:Nat)) (.slice (some ⟨eb,eo,none⟩) (P ^ M - 1) ec) (.slice (some ⟨lb,lo,none⟩) (P ^ M) lc))
 lt:g<B
 md:IntsR w B A k (fun i=>(m i:Nat))
 ex:IntsR w B (some ⟨eb,eo,none⟩) (P ^ M - 1) (fun i=>(pwG (mulF P M m) x i:Nat))
 lgr:IntsR w B (some ⟨lb,lo,none⟩) (P ^ M) (fun i=>(lg i:Nat))
 x0:1<=x
 xq:x<P ^ M
 gen:GenX (P ^ M) (mulF P M m) x
 lgs:∀ i,i<P ^ M - 1->lg (pwG (mulF P M m) x i)=i
def GF (w:World) (B g P M:Nat) (m:Nat->Nat):Prop:=∃ A k c eb eo ec lb lo lc x lg,GFr w B g P M m A k c eb eo ec lb lo lc x lg
theorem GF.ok {w:World} {B g P M:Nat} {m:Nat->Nat} (h:GF w B g P M m):FieldOk P M m:=by
 obtain ⟨_,_,_,_,_,_,_,_,_,_,_,h⟩:=h
 exact h.ok
theorem GF.at {w w':World} {B g P M:Nat} {m:Nat->Nat} (h:GF w B g P M m) (hb:Below B w w') (hB:B<=w'.heap.size):GF w' w'.heap.size g P M m:=by
 obtain ⟨A,k,c,eb,eo,ec,lb,lo,lc,x,lg,h⟩:=h
 exact ⟨A,k,c,eb,eo,ec,lb,lo,lc,x,lg,h.ok,h.km,zdt h.row hb h.lt,Nat.lt_of_lt_of_le h.lt hB,(Rd.below h.md hb (Nat.le_refl _)).mono hB,(Rd.below h.ex hb (Nat.le_refl _)).mono hB,(Rd.below h.lgr hb (Nat.le_refl _)).mono hB,h.x0,h.xq,h.gen,h.lgs⟩
theorem GF.on {w w':World} {g P M:Nat} {m:Nat->Nat} (h:GF w w.heap.size g P M m) (hb:Below w.heap.size w w'):GF w' w'.heap.size g P M m:=h.at hb hb.size
section
variable {P M g:Nat} {m:Nat->Nat} {w:World}
theorem zfN (h:GF w w.heap.size g P M m) :
  Calls Tryz.prog 76 #[.pointer (some ⟨g,0,none⟩)] w fun e w'=>e=.returned (.int .i64 (P ^ M:Nat))/\Below w.heap.size w w':=by
 obtain ⟨A,k,c,eb,eo,ec,lb,lo,lc,x,lg,h⟩:=h
 obtain ⟨Q,hQ⟩:=exx (P ^ M)
 have c3:w.cell? ⟨g,3,none⟩=some (.int .i64 (Q:Nat)):=by rw [hQ]; exact h.row.cell (i:=3) (by omega)
 rw [<-hQ]
 have HQ:=hid hQ
 clear hQ h
 go_enter Tryz.func76, Tryz.ntmps76
 go_wp2
 go_ret
 exact ⟨rfl,Below.refl _ _⟩
theorem zfa (x:Int) (h:GF w w.heap.size g P M m) :
  Calls Tryz.prog 155 #[.pointer (some ⟨g,0,none⟩),.int .i64 x] w fun e w'=>e=.returned (.bool (isB (P ^ M) x))/\Below w.heap.size w w':=by
 obtain ⟨A,k,c,eb,eo,ec,lb,lo,lc,y,lg,h⟩:=h
 obtain ⟨Q,hQ⟩:=exx (P ^ M)
 have c3:w.cell? ⟨g,3,none⟩=some (.int .i64 (Q:Nat)):=by rw [hQ]; exact h.row.cell (i:=3) (by omega)
 rw [<-hQ];clear hQ h
 by_cases h0:0<=x
 focus
  have hv:Hid (isB Q x=decide (x<(Q:Int))):=by show _=_; simp [isB,h0]
  have hd:decide (0<=x)=true:=by simpa using h0
 rotate_left
 focus
  have hv:Hid (isB Q x=false):=by show _=_; simp [isB]; omega
  have hd:decide (0<=x)=false:=by simpa using h0
 rotate_left
 all_goals
  go_enter Tryz.func155, Tryz.ntmps155
  go_wp2
  go_ret
  exact ⟨by rw [hv.out]; rfl,Below.refl _ _⟩
theorem zcs (x:Int) (h:GF w w.heap.size g P M m) :
  Calls Tryz.prog 197 #[.pointer (some ⟨g,0,none⟩),.int .i64 x] w fun e w'=>e=.returned (.int .i64 (inV (P ^ M) x:Nat))/\Below w.heap.size w w':=by
 go_enter Tryz.func197, Tryz.ntmps197
 go_wp2_with fail
 refine (zfa x h).mono ?_
 rintro e w1 ⟨rfl,hB⟩
 by_cases hx:0<=x/\x<(P ^ M:Nat)
 ·have hv:Hid ((inV (P ^ M) x:Int)=x):=by show _=_; unfold inV; rw [if_pos hx]; omega
  have hd:isB (P ^ M) x=true:=by unfold isB; simpa using hx
  rw [hd];clear hx hd h
  go_wp2
  go_ret
  exact ⟨by rw [hv.out]; rfl,hB⟩
 have hv:Hid (inV (P ^ M) x=0):=by show _=_; unfold inV; rw [if_neg hx]
 have hd:isB (P ^ M) x=false:=by unfold isB; simpa using hx
 rw [hd];clear hx hd h
 go_wp2
 go_ret
 exact ⟨by rw [hv.out]; rfl,hB⟩
theorem zbS (x y:Int) (h:GF w w.heap.size g P M m) :
  Calls Tryz.prog 149 #[.pointer (some ⟨g,0,none⟩),.int .i64 x,.int .i64 y] w fun e w'=>e=.returned (.int .i64 (addF P M (inV (P ^ M) x) (inV (P ^ M) y):Nat))/\Below w.heap.size w w':=by
 have b:=h.ok.1
 have ac:=b.1
 have ab:=b.P_le
 have ae:=b.2.1
 have hq:=b.2.2.2
 have G:Hid (∀ i,i<=M->P ^ i<=256):=fun i hi=>b.pow_le hi
 have af:=hid b
 clear b
 have hX:=ze0 (Nat.pow_pos (n:=M) (show 0<P by omega)) x
 have hY:=ze0 (Nat.pow_pos (n:=M) (show 0<P by omega)) y
 go_enter Tryz.func149, Tryz.ntmps149
 go_wp2_with fail
 refine (zcs x h).mono ?_
 rintro e w1 ⟨rfl,hB⟩
 have h1:=h.on hB
 go_wp2_with fail
 refine (zcs y h1).mono ?_
 rintro e w2 ⟨rfl,kb⟩
 have h2:=h1.on kb
 replace hB:=onS hB kb;clear kb h1 h
 obtain ⟨A,k,c,eb,eo,ec,lb,lo,lc,gx,lg,h⟩:=h2
 have c0:=qc0 h.row
 clear h
 obtain ⟨X,D⟩:=exx (inV (P ^ M) x)
 obtain ⟨Y,C⟩:=exx (inV (P ^ M) y)
 rw [<-D] at hX;rw [<-C] at hY;rw [<-D,<-C]
 have J:=hid D
 have I:=hid C
 clear D C
 by_cases hP:P=2
 ·have H:((P:Int) == 2)=true:=by simp; omega
  have K:Hid (addF P M X Y=X ^^^ Y):=by
   subst hP
   exact zjz hX hY
  have a0:=zky (x:=X) (y:=Y) (by omega) (by omega)
  clear hP hX hY
  go_wp2
  go_ret
  exact ⟨by rw [<-J.out,<-I.out,K.out]; rfl,hB⟩
 have H:((P:Int) == 2)=false:=by simp; omega
 have a9:X<256:=by omega
 have a8:Y<256:=by omega
 have T:Hid (X<P ^ M):=hX
 have S:Hid (Y<P ^ M):=hY
 clear hX hY hq hP
 go_wp2
 clear H
 go_loopg [7,8,1,2] M (fun gg sv pv xv yv wx=>∃ i s p u v:Nat,sv=.int .i64 (s:Nat)/\pv=.int .i64 (p:Nat)/\xv=.int .i64 (u:Nat)/\yv=.int .i64 (v:Nat)/\i<=M/\M<=i+gg/\Hid (u=X / P ^ i)/\Hid (v=Y / P ^ i)/\Hid (p=P ^ i)/\Hid (s=valN P (fun i=>(dig P X i+dig P Y i) % P) i)/\wx.cell? ⟨g,0,none⟩=some (.int .i64 (P:Nat))/\Below w.heap.size w wx)
 case atStart=>exact ⟨0,0,1,X,Y,rfl,rfl,rfl,rfl,by omega,by omega,by show _=_; simp,by show _=_; simp,by show _=_; simp,rfl,c0,hB⟩
 clear c0 hB
 obtain ⟨i,s,p,u,v,rfl,rfl,rfl,rfl,hi,a7,HU,HV,E,HS,c0,hB⟩:=hrel
 have a3:u<=X:=by rw [HU.out]; exact Nat.div_le_self _ _
 have a1:v<=Y:=by rw [HV.out]; exact Nat.div_le_self _ _
 by_cases hend:u=0/\v=0
 ·have F:Hid (addF P M X Y=s):=by
   show _=_
   rw [HS.out]
   unfold addF
   exact ze8 M (fun j h1 _=>by rw [ze9 (by rw [<-HU.out]; exact hend.1) h1,ze9 (by rw [<-HV.out]; exact hend.2) h1]; simp) hi
  obtain ⟨rfl,rfl⟩:=hend
  go_wp2
  go_ret
  exact ⟨by rw [<-J.out,<-I.out,F.out]; rfl,hB⟩
 have N:i<M:=by
  refine Classical.byContradiction fun hn=>hend ?_
  obtain rfl:i=M:=by omega
  exact ⟨by rw [HU.out]; exact Nat.div_eq_of_lt T.out,by rw [HV.out]; exact Nat.div_eq_of_lt S.out⟩
 obtain ⟨du,o⟩:=exx (u % P)
 obtain ⟨dv,l⟩:=exx (v % P)
 obtain ⟨qu,z⟩:=exx (u / P)
 obtain ⟨qv,r⟩:=exx (v / P)
 obtain ⟨ds,q⟩:∃ d,d=(du+dv) % P:=⟨_,rfl⟩
 obtain ⟨t,ht⟩:=exx (ds*p)
 obtain ⟨p2,B⟩:=exx (p*P)
 have Q:du<P:=by rw [o]; exact Nat.mod_lt _ (by omega)
 have O:dv<P:=by rw [l]; exact Nat.mod_lt _ (by omega)
 have R:ds<P:=by rw [q]; exact Nat.mod_lt _ (by omega)
 have a6:p<=256:=by rw [E.out]; exact G.out i hi
 have a:p2=P ^ (i+1):=by rw [B,E.out,Nat.pow_succ]
 have L:p2<=256:=by rw [a]; exact G.out (i+1) N
 have a4:t<=256:=by
  have:t<=p2:=by rw [ht,B,Nat.mul_comm]; exact Nat.mul_le_mul_left p (by omega)
  omega
 have a5:s<=256:=by
  have:=zbh (p:=P) (n:=i) (f:=fun i=>(dig P X i+dig P Y i) % P) fun _ _=>Nat.mod_lt _ (by omega)
  rw [<-HS.out] at this
  have:=G.out i hi
  omega
 have W:Hid (s+t=valN P (fun i=>(dig P X i+dig P Y i) % P) (i+1)):=by
  show _=_
  rw [zcP,<-HS.out,ht,q,o,l,HU.out,HV.out,E.out,Nat.mul_comm]
  rfl
 have V:Hid (qu=X / P ^ (i+1)):=by show _=_; rw [z,HU.out,Nat.pow_succ,Nat.div_div_eq_div_mul]
 have U:Hid (qv=Y / P ^ (i+1)):=by show _=_; rw [r,HV.out,Nat.pow_succ,Nat.div_div_eq_div_mul]
 have Z:=hid a
 have m1:(u:Int).tmod (P:Int)=(du:Int):=by rw [o,Int.tmod_eq_emod_of_nonneg (by omega)]; simp
 have m2:(v:Int).tmod (P:Int)=(dv:Int):=by rw [l,Int.tmod_eq_emod_of_nonneg (by omega)]; simp
 have m3:((du:Int)+(dv:Int)).tmod (P:Int)=(ds:Int):=by rw [q,Int.tmod_eq_emod_of_nonneg (by omega)]; simp
 have e1:(u:Int) % (P:Int)=(du:Int):=by rw [o]; simp
 have e2:(v:Int) % (P:Int)=(dv:Int):=by rw [l]; simp
 have e3:((du:Int)+(dv:Int)) % (P:Int)=(ds:Int):=by rw [q]; simp
 have e4:(ds:Int)*(p:Int)=(t:Int):=by rw [ht]; simp
 have e5:(p:Int)*(P:Int)=(p2:Int):=by rw [B]; simp
 have d1:(u:Int).tdiv (P:Int)=(qu:Int):=by rw [z,Int.tdiv_eq_ediv_of_nonneg (by omega)]; rfl
 have d2:(v:Int).tdiv (P:Int)=(qv:Int):=by rw [r,Int.tdiv_eq_ediv_of_nonneg (by omega)]; rfl
 have d3:(u:Int) / (P:Int)=(qu:Int):=by rw [z]; rfl
 have d4:(v:Int) / (P:Int)=(qv:Int):=by rw [r]; rfl
 have qu6:qu<=256:=by have:u / P<=u:=Nat.div_le_self _ _; omega
 have qv6:qv<=256:=by have:v / P<=v:=Nat.div_le_self _ _; omega
 have w1':IntKind.i64.wrap ((du:Int)+(dv:Int))=(du:Int)+(dv:Int):=IntWalk.i64_in _ (by omega)
 have w2':IntKind.i64.wrap (du:Int)=(du:Int):=IntWalk.i64_in _ (by omega)
 have w3':IntKind.i64.wrap (dv:Int)=(dv:Int):=IntWalk.i64_in _ (by omega)
 have w4':IntKind.i64.wrap (ds:Int)=(ds:Int):=IntWalk.i64_in _ (by omega)
 have w5':IntKind.i64.wrap (t:Int)=(t:Int):=IntWalk.i64_in _ (by omega)
 have w6':IntKind.i64.wrap (p2:Int)=(p2:Int):=IntWalk.i64_in _ (by omega)
 have w7':IntKind.i64.wrap ((s:Int)+(t:Int))=(s:Int)+(t:Int):=IntWalk.i64_in _ (by omega)
 have w8':IntKind.i64.wrap (qu:Int)=(qu:Int):=IntWalk.i64_in _ (by omega)
 have w9':IntKind.i64.wrap (qv:Int)=(qv:Int):=IntWalk.i64_in _ (by omega)
 have ad:¬ (P:Int)=0:=by omega
 have aa:¬ P=0:=by omega
 clear o l z r q ht B a HU HV E HS
 by_cases hu0:u=0
 focus
  have a2:0<v:=by omega
  have g1:decide ((0:Int)<(u:Int))=false:=by simp; omega
  have g2:decide ((0:Int)<(v:Int))=true:=by simp; omega
  have g1':decide (0<u)=false:=by simp; omega
  have g2':decide (0<v)=true:=by simp; omega
 rotate_left
 focus
  have g1:decide ((0:Int)<(u:Int))=true:=by simp; omega
  have g1':decide (0<u)=true:=by simp; omega
 rotate_left
 all_goals
  clear hend hu0
  go_wp2
  go_quiet (fail)
  go_wp2
  go_roundg (gk - 1)
  case measure=>omega
  case rel=>exact ⟨i+1,s+t,p2,qu,qv,by go_num,rfl,rfl,rfl,by omega,by omega,V,U,Z,W,c0,zac hB _⟩
end
theorem IntsR.here {w:World} {B b o n i:Nat} {f:Nat->Int} (h:IntsR w B (some ⟨b,o,none⟩) n f) (hi:i<n):w.cell? ⟨b,o+i,none⟩=some (.int .i64 (f i)):=by
 obtain ⟨b',o',e,_,h⟩:=h.at hi
 injection e with e
 injection e with e1 e2
 subst e1 e2
 exact h
def dotN (add mul:Nat->Nat->Nat) (a b:Nat->Nat):Nat->Nat
 | 0=>0
 | n+1=>add (dotN add mul a b n) (mul (a n) (b n))
section
variable {P M g:Nat} {m:Nat->Nat} {w:World}
theorem zcQ (x:Int) (h:GF w w.heap.size g P M m) :
  Calls Tryz.prog 196 #[.pointer (some ⟨g,0,none⟩),.int .i64 x] w fun e w'=>e=.returned (.int .i64 (negF P M (inV (P ^ M) x):Nat))/\Below w.heap.size w w':=by
 have l:=h.ok.1
 have Z:=l.1
 have Y:=l.P_le
 have a1:=l.2.1
 have hq:=l.2.2.2
 have C:Hid (∀ i,i<=M->P ^ i<=256):=fun i hi=>l.pow_le hi
 clear l
 have hX:=ze0 (Nat.pow_pos (n:=M) (show 0<P by omega)) x
 go_enter Tryz.func196, Tryz.ntmps196
 go_wp2_with fail
 refine (zcs x h).mono ?_
 rintro e w2 ⟨rfl,hB⟩
 have h2:=h.on hB
 clear h
 obtain ⟨A,k,c,eb,eo,ec,lb,lo,lc,gx,lg,h⟩:=h2
 have c0:=qc0 h.row
 clear h
 obtain ⟨X,y⟩:=exx (inV (P ^ M) x)
 rw [<-y] at hX;rw [<-y]
 have J:=hid y
 clear y
 have V:X<256:=by omega
 have I:Hid (X<P ^ M):=hX
 clear hX hq
 go_wp2
 go_loopg [5,6,1] M (fun gg sv pv xv wx=>∃ i s p u:Nat,sv=.int .i64 (s:Nat)/\pv=.int .i64 (p:Nat)/\xv=.int .i64 (u:Nat)/\i<=M/\M<=i+gg/\Hid (u=X / P ^ i)/\Hid (p=P ^ i)/\Hid (s=valN P (fun i=>(P - dig P X i) % P) i)/\wx.cell? ⟨g,0,none⟩=some (.int .i64 (P:Nat))/\Below w.heap.size w wx)
 case atStart=>exact ⟨0,0,1,X,rfl,rfl,rfl,by omega,by omega,by show _=_; simp,by show _=_; simp,rfl,c0,hB⟩
 clear c0 hB
 obtain ⟨i,s,p,u,rfl,rfl,rfl,hi,U,HU,z,HS,c0,hB⟩:=hrel
 have O:u<=X:=by rw [HU.out]; exact Nat.div_le_self _ _
 by_cases hend:u=0
 ·have B:Hid (negF P M X=s):=by
   show _=_
   rw [HS.out]
   unfold negF
   exact ze8 M (fun j h1 _=>by rw [ze9 (by rw [<-HU.out]; exact hend) h1]; simp) hi
  subst hend
  go_wp2
  go_ret
  exact ⟨by rw [<-J.out,B.out]; rfl,hB⟩
 have F:i<M:=by
  refine Classical.byContradiction fun hn=>hend ?_
  obtain rfl:i=M:=by omega
  rw [HU.out]; exact Nat.div_eq_of_lt I.out
 obtain ⟨du,o⟩:=exx (u % P)
 obtain ⟨qu,q⟩:=exx (u / P)
 obtain ⟨ds,v⟩:∃ d,d=(P - du) % P:=⟨_,rfl⟩
 obtain ⟨t,ht⟩:=exx (ds*p)
 obtain ⟨p2,r⟩:=exx (p*P)
 have G:du<P:=by rw [o]; exact Nat.mod_lt _ (by omega)
 have H:ds<P:=by rw [v]; exact Nat.mod_lt _ (by omega)
 have T:p<=256:=by rw [z.out]; exact C.out i hi
 have b:p2=P ^ (i+1):=by rw [r,z.out,Nat.pow_succ]
 have E:p2<=256:=by rw [b]; exact C.out (i+1) F
 have R:t<=256:=by
  have:t<=p2:=by rw [ht,r,Nat.mul_comm]; exact Nat.mul_le_mul_left p (by omega)
  omega
 have S:s<=256:=by
  have:=zbh (p:=P) (n:=i) (f:=fun i=>(P - dig P X i) % P) fun _ _=>Nat.mod_lt _ (by omega)
  rw [<-HS.out] at this
  have:=C.out i hi
  omega
 have L:Hid (s+t=valN P (fun i=>(P - dig P X i) % P) (i+1)):=by
  show _=_
  rw [zcP,<-HS.out,ht,v,o,HU.out,z.out,Nat.mul_comm]
  rfl
 have K:Hid (qu=X / P ^ (i+1)):=by show _=_; rw [q,HU.out,Nat.pow_succ,Nat.div_div_eq_div_mul]
 have N:=hid b
 have m1:(u:Int).tmod (P:Int)=(du:Int):=by rw [o,Int.tmod_eq_emod_of_nonneg (by omega)]; simp
 have e1:(u:Int) % (P:Int)=(du:Int):=by rw [o]; simp
 have a:((P:Int) - (du:Int))=((P - du:Nat):Int):=by omega
 have e3:((P:Int) - (du:Int)) % (P:Int)=(ds:Int):=by rw [v,a]; rfl
 have m3:((P:Int) - (du:Int)).tmod (P:Int)=(ds:Int):=by rw [Int.tmod_eq_emod_of_nonneg (by omega)]; exact e3
 have e4:(ds:Int)*(p:Int)=(t:Int):=by rw [ht]; simp
 have e5:(p:Int)*(P:Int)=(p2:Int):=by rw [r]; simp
 have d1:(u:Int).tdiv (P:Int)=(qu:Int):=by rw [q,Int.tdiv_eq_ediv_of_nonneg (by omega)]; rfl
 have d3:(u:Int) / (P:Int)=(qu:Int):=by rw [q]; rfl
 have qu6:qu<=256:=by have:u / P<=u:=Nat.div_le_self _ _; omega
 have w1':IntKind.i64.wrap ((P:Int) - (du:Int))=(P:Int) - (du:Int):=IntWalk.i64_in _ (by omega)
 have w2':IntKind.i64.wrap (du:Int)=(du:Int):=IntWalk.i64_in _ (by omega)
 have w4':IntKind.i64.wrap (ds:Int)=(ds:Int):=IntWalk.i64_in _ (by omega)
 have w5':IntKind.i64.wrap (t:Int)=(t:Int):=IntWalk.i64_in _ (by omega)
 have w6':IntKind.i64.wrap (p2:Int)=(p2:Int):=IntWalk.i64_in _ (by omega)
 have w7':IntKind.i64.wrap ((s:Int)+(t:Int))=(s:Int)+(t:Int):=IntWalk.i64_in _ (by omega)
 have w8':IntKind.i64.wrap (qu:Int)=(qu:Int):=IntWalk.i64_in _ (by omega)
 have a0:¬ (P:Int)=0:=by omega
 have W:¬ P=0:=by omega
 have Q:(0:Int)<(u:Int):=by omega
 have D:0<u:=by omega
 clear o q v ht r b HU z HS a hend
 go_wp2
 go_quiet (fail)
 go_wp2
 go_roundg (gk - 1)
 case measure=>omega
 case rel=>exact ⟨i+1,s+t,p2,qu,by go_num,rfl,rfl,by omega,by omega,K,N,L,c0,zac hB _⟩
theorem zii (x y:Int) (h:GF w w.heap.size g P M m) :
  Calls Tryz.prog 143 #[.pointer (some ⟨g,0,none⟩),.int .i64 x,.int .i64 y] w fun e w'=>e=.returned (.int .i64 (addF P M (inV (P ^ M) x) (negF P M (inV (P ^ M) y)):Nat))/\Below w.heap.size w w':=by
 have a:0<P:=by have:=h.ok.1.1; omega
 go_enter Tryz.func143, Tryz.ntmps143
 go_wp2_with fail
 refine (zcQ y h).mono ?_
 rintro e w1 ⟨rfl,hB⟩
 have h1:=h.on hB
 clear h
 have hn:Hid (inV (P ^ M) ((negF P M (inV (P ^ M) y):Nat):Int)=negF P M (inV (P ^ M) y)):=zan (zbv a)
 obtain ⟨Y,hY⟩:=exx (negF P M (inV (P ^ M) y))
 rw [<-hY] at hn;rw [<-hY]
 have HY:=hid hY
 clear hY
 go_wp2_with fail
 refine (zbS x (Y:Int) h1).mono ?_
 rintro e w2 ⟨rfl,kb⟩
 rw [hn.out];replace hB:=onS hB kb;clear kb h1 hn
 obtain ⟨Z,hZ⟩:=exx (addF P M (inV (P ^ M) x) Y)
 rw [<-hZ]
 have HZ:=hid hZ
 clear hZ
 go_wp2
 go_ret
 exact ⟨by rw [HZ.out,HY.out]; rfl,hB⟩
theorem zaY (x y:Int) (h:GF w w.heap.size g P M m) :
  Calls Tryz.prog 144 #[.pointer (some ⟨g,0,none⟩),.int .i64 x,.int .i64 y] w fun e w'=>e=.returned (.int .i64 (mulF P M m (inV (P ^ M) x) (inV (P ^ M) y):Nat))/\Below w.heap.size w w':=by
 have b:=h.ok
 have hL:=fieldLaws b
 have K:=b.1.1
 have hq:=b.1.2.2.2
 have p:=hL.two
 have hX:=ze0 (Nat.pow_pos (n:=M) (show 0<P by omega)) x
 have hY:=ze0 (Nat.pow_pos (n:=M) (show 0<P by omega)) y
 have HR:=hid (ringM m b.1)
 go_enter Tryz.func144, Tryz.ntmps144
 go_wp2_with fail
 refine (zcs x h).mono ?_
 rintro e w1 ⟨rfl,hB⟩
 have h1:=h.on hB
 go_wp2_with fail
 refine (zcs y h1).mono ?_
 rintro e w2 ⟨rfl,kb⟩
 have h2:=h1.on kb
 replace hB:=onS hB kb;clear kb h1 h
 obtain ⟨X,l⟩:=exx (inV (P ^ M) x)
 obtain ⟨Y,d⟩:=exx (inV (P ^ M) y)
 rw [<-l] at hX;rw [<-d] at hY;rw [<-l,<-d]
 have u:=hid l
 have t:=hid d
 clear l d
 have HL:=hid hL
 clear hL b
 by_cases hX0:X=0
 ·have hv:Hid (mulF P M m X Y=0):=by
   show _=_
   rw [HL.out.mulComm X Y hX hY,hX0]
   exact HL.out.mulZero hY
  have hd:((X:Int) == 0)=true:=by simp [hX0]
  clear hX0 h2
  go_wp2
  go_ret
  exact ⟨by rw [<-u.out,<-t.out,hv.out]; rfl,hB⟩
 have hd:((X:Int) == 0)=false:=by simp [hX0]
 by_cases hY0:Y=0
 ·have hv:Hid (mulF P M m X Y=0):=by
   show _=_
   rw [hY0]
   exact HL.out.mulZero hX
  have C:((Y:Int) == 0)=true:=by simp [hY0]
  clear hX0 hY0 h2
  go_wp2
  go_ret
  exact ⟨by rw [<-u.out,<-t.out,hv.out]; rfl,hB⟩
 have C:((Y:Int) == 0)=false:=by simp [hY0]
 obtain ⟨A,k,c,eb,eo,ec,lb,lo,lc,gx,lg,h⟩:=h2
 obtain ⟨i,hi,s⟩:=zer p h.gen.1 hX0 hX
 obtain ⟨j,hj,q⟩:=zer p h.gen.1 hY0 hY
 have z:lg X=i:=by rw [<-s]; exact h.lgs i hi
 have v:lg Y=j:=by rw [<-q]; exact h.lgs j hj
 have c3:=qc3 h.row
 have c4:=qc4 h.row
 have c5:=qc5 h.row
 have l1:=h.lgr.here hX
 have l2:=h.lgr.here hY
 rw [z] at l1;rw [v] at l2
 obtain ⟨r,hr⟩:∃ r,r=(i+j) % (P ^ M - 1):=⟨_,rfl⟩
 have o:r<P ^ M - 1:=by rw [hr]; exact Nat.mod_lt _ (by omega)
 have l3:=h.ex.here o
 have a:pwG (mulF P M m) gx r=mulF P M m X Y:=by rw [hr,<-s,<-q,zfL HR.out h.xq h.gen hi j hj]
 rw [a] at l3
 obtain ⟨Z,hZ⟩:=exx (mulF P M m X Y)
 rw [<-hZ] at l3
 have HZ:=hid hZ
 obtain ⟨Q,hQ⟩:=exx (P ^ M)
 rw [<-hQ] at hX hY hi hj c3 c4 c5 o hr hq p
 obtain ⟨Q1,B⟩:=exx (Q - 1)
 rw [<-B] at hi hj c4 o hr
 have E:(Q:Int) - 1=(Q1:Int):=by omega
 have F:¬ (Q1:Int)=0:=by omega
 have D:¬ Q1=0:=by omega
 have J:Q1<=256:=by omega
 have s0:(0:Int)<=(i:Int)+(j:Int):=by omega
 have m1:((i:Int)+(j:Int)) % (Q1:Int)=(r:Int):=by rw [hr]; simp
 have m2:((i:Int)+(j:Int)).tmod (Q1:Int)=(r:Int):=by rw [Int.tmod_eq_emod_of_nonneg s0]; exact m1
 have ws:IntKind.i64.wrap ((i:Int)+(j:Int))=(i:Int)+(j:Int):=IntWalk.i64_in _ (by omega)
 have wr':IntKind.i64.wrap (r:Int)=(r:Int):=IntWalk.i64_in _ (by omega)
 have wq:IntKind.i64.wrap (Q1:Int)=(Q1:Int):=IntWalk.i64_in _ (by omega)
 have I:(X:Int)<(Q:Int):=by omega
 have H:(Y:Int)<(Q:Int):=by omega
 have G:(r:Int)<(Q1:Int):=by omega
 clear h hZ hQ B hr a s q z v hX0 hY0 HR HL
 go_wp2
 go_quiet (fail)
 go_wp2
 go_ret
 exact ⟨by rw [<-u.out,<-t.out,<-HZ.out]; rfl,zac hB _⟩
theorem zdY (x:Int) (h:GF w w.heap.size g P M m) :
  Calls Tryz.prog 195 #[.pointer (some ⟨g,0,none⟩),.int .i64 x] w fun e w'=>Below w.heap.size w w'/\((inV (P ^ M) x=0/\e=.returned (.tuple #[.int .i64 0,.int .i64 7]))∨(inV (P ^ M) x≠0/\∃ y:Nat,e=.returned (.tuple #[.int .i64 (y:Nat),.int .i64 0])/\y<P ^ M/\y≠0/\mulF P M m (inV (P ^ M) x) y=1)):=by
 have b:=h.ok
 have hL:=fieldLaws b
 have G:=b.1.1
 have hq:=b.1.2.2.2
 have s:=hL.two
 have hX:=ze0 (Nat.pow_pos (n:=M) (show 0<P by omega)) x
 have HR:=hid (ringM m b.1)
 go_enter Tryz.func195, Tryz.ntmps195
 go_wp2_with fail
 refine (zcs x h).mono ?_
 rintro e w2 ⟨rfl,hB⟩
 have h2:=h.on hB
 clear h
 obtain ⟨X,l⟩:=exx (inV (P ^ M) x)
 rw [<-l] at hX;rw [<-l]
 have p:=hid l
 clear l hL b
 by_cases hX0:X=0
 ·have q:=hid hX0
  have hd:((X:Int) == 0)=true:=by simp [hX0]
  clear hX0 h2
  go_wp2
  go_ret2
  exact ⟨hB,.inl ⟨by rw [<-p.out]; exact q.out,rfl⟩⟩
 have q:=hid hX0
 have hd:((X:Int) == 0)=false:=by simp [hX0]
 obtain ⟨A,k,c,eb,eo,ec,lb,lo,lc,gx,lg,h⟩:=h2
 obtain ⟨i,hi,o⟩:=zer s h.gen.1 hX0 hX
 have t:lg X=i:=by rw [<-o]; exact h.lgs i hi
 have c3:=qc3 h.row
 have c4:=qc4 h.row
 have c5:=qc5 h.row
 have l1:=h.lgr.here hX
 rw [t] at l1
 obtain ⟨d,j⟩:=exx (P ^ M - 1 - i)
 obtain ⟨r,hr⟩:=exx (d % (P ^ M - 1))
 have a:r<P ^ M - 1:=by rw [hr]; exact Nat.mod_lt _ (by omega)
 have l3:=h.ex.here a
 obtain ⟨Z,hZ⟩:=exx (pwG (mulF P M m) gx r)
 rw [<-hZ] at l3
 have HV:Hid (Z<P ^ M/\Z≠0/\mulF P M m X Z=1):=by
  refine ⟨by rw [hZ]; exact h.gen.1.lt r a,by rw [hZ]; exact h.gen.1.ne r a,?_⟩
  rw [hZ,<-o,zfL HR.out h.xq h.gen hi r a,hr,Nat.add_mod_mod,j,show i+(P ^ M - 1 - i)=P ^ M - 1 by omega,Nat.mod_self]
  rfl
 obtain ⟨Q,hQ⟩:=exx (P ^ M)
 rw [<-hQ] at hX hi c3 c4 c5 a hr hq s j HV
 have HQ:=hid hQ
 obtain ⟨Q1,u⟩:=exx (Q - 1)
 rw [<-u] at hi c4 a hr j
 have z:(Q:Int) - 1=(Q1:Int):=by omega
 have B:¬ (Q1:Int)=0:=by omega
 have v:¬ Q1=0:=by omega
 have F:Q1<=256:=by omega
 have D:(Q1:Int) - (i:Int)=(d:Int):=by omega
 have m1:(d:Int) % (Q1:Int)=(r:Int):=by rw [hr]; simp
 have m2:(d:Int).tmod (Q1:Int)=(r:Int):=by rw [Int.tmod_eq_emod_of_nonneg (by omega)]; exact m1
 have wd:IntKind.i64.wrap (d:Int)=(d:Int):=IntWalk.i64_in _ (by omega)
 have wr':IntKind.i64.wrap (r:Int)=(r:Int):=IntWalk.i64_in _ (by omega)
 have wq:IntKind.i64.wrap (Q1:Int)=(Q1:Int):=IntWalk.i64_in _ (by omega)
 have E:(X:Int)<(Q:Int):=by omega
 have C:(r:Int)<(Q1:Int):=by omega
 clear h hZ hQ u hr o t hX0 HR j
 go_wp2
 go_quiet (fail)
 go_wp2
 go_ret2
 refine ⟨zac hB _,.inr ⟨by rw [<-p.out]; exact q.out,Z,rfl,?_⟩⟩
 rw [<-p.out,<-HQ.out]
 exact HV.out
end
end Go.Proofs.YtgekjfpapmlndaaGreat