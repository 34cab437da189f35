/- Merged texts of a claim: ElAll. -/
import Derived.Test.YtgekjfpapmlndaaGreatTX2
namespace Go.Proofs.YtgekjfpapmlndaaGreat
set_option maxRecDepth 100000
set_option maxHeartbeats 32000000
open KB KE
structure Fie (K:Type) [Add K] [Mul K] [Neg K] [Zero K] [One K]:Prop where
 addA:∀ x y z:K,x+y+z=x+(y+z)
 addC:∀ x y:K,x+y=y+x
 zeroA:∀ x:K,0+x=x
 negA:∀ x:K,-x+x=0
 mulA:∀ x y z:K,x*y*z=x*(y*z)
 mulC:∀ x y:K,x*y=y*x
 oneM:∀ x:K,1*x=x
 dist:∀ x y z:K,x*(y+z)=x*y+x*z
 inv:∀ x:K,x≠0->∃ y,x*y=1
 ne:(1:K)≠0
namespace Fie
variable {K:Type} [Add K] [Mul K] [Neg K] [Zero K] [One K] (F:Fie K)
include F
theorem addZ (x:K):x+0=x:=by rw [F.addC,F.zeroA]
theorem addN (x:K):x + -x=0:=by rw [F.addC,F.negA]
theorem cancel {x y z:K} (h:x+y=x+z):y=z:=by
 have : -x+(x+y) = -x+(x+z):=by rw [h]
 rwa [<-F.addA,<-F.addA,F.negA,F.zeroA,F.zeroA] at this
theorem cancelR {x y z:K} (h:y+x=z+x):y=z:=F.cancel (x:=x) (by rw [F.addC,h,F.addC])
theorem mulZ (x:K):x*0=0:=F.cancel (x:=x*0) (by rw [<-F.dist,F.zeroA,F.addZ])
theorem zMul (x:K):0*x=0:=by rw [F.mulC,F.mulZ]
theorem distR (x y z:K):(x+y)*z=x*z+y*z:=by rw [F.mulC,F.dist,F.mulC z,F.mulC z]
theorem mulOne (x:K):x*1=x:=by rw [F.mulC,F.oneM]
theorem negOf {x y:K} (h:x+y=0):y = -x:=F.cancel (x:=x) (by rw [h,F.addN])
theorem mulNeg (x y:K):x * -y = -(x*y):=F.negOf (by rw [<-F.dist,F.addN,F.mulZ])
theorem negMul (x y:K) : -x*y = -(x*y):=by rw [F.mulC,F.mulNeg,F.mulC]
theorem negNeg (x:K) : - -x=x:=(F.negOf (F.negA x)).symm
theorem subEq {x y:K} (h:x + -y=0):x=y:=by
 have:=F.negOf h
 rw [<-F.negNeg y,this,F.negNeg]
theorem negOne (x:K) : -1*x = -x:=by rw [F.negMul,F.oneM]
theorem addL (x y z:K):x+(y+z)=y+(x+z):=by rw [<-F.addA,F.addC x,F.addA]
theorem mulL (x y z:K):x*(y*z)=y*(x*z):=by rw [<-F.mulA,F.mulC x,F.mulA]
theorem zeroOr {x y:K} (h:x*y=0) (hx:x≠0):y=0:=by
 obtain ⟨z,hz⟩:=F.inv x hx
 have:z*(x*y)=y:=by rw [<-F.mulA,F.mulC z,hz,F.oneM]
 rw [<-this,h,F.mulZ]
end Fie
def sumM {α:Type} (g:α->Rat):List α->Rat
 | []=>0
 | x :: l=>g x+sumM g l
section
variable {α β:Type} {g h:α->Rat}
theorem zgh (l m:List α):sumM g (l ++ m)=sumM g l+sumM g m:=by
 induction l with
 | nil=>show sumM g m=0+sumM g m; grind
 | cons a l ih=>show g a+sumM g (l ++ m)=g a+sumM g l+sumM g m; rw [ih]; grind
theorem zg2 (k:β->α) (l:List β):sumM g (l.map k)=sumM (fun b=>g (k b)) l:=by
 induction l with
 | nil=>rfl
 | cons a l ih=>show g (k a)+sumM g (l.map k)=g (k a)+sumM (fun b=>g (k b)) l; rw [ih]
theorem ze8 (k:β->List α) (l:List β):sumM g (l.flatMap k)=sumM (fun b=>sumM g (k b)) l:=by
 induction l with
 | nil=>rfl
 | cons a l ih=>rw [List.flatMap_cons,zgh,ih]; rfl
theorem zas {l:List α} (e:∀ x,x ∈ l->g x=h x):sumM g l=sumM h l:=by
 induction l with
 | nil=>rfl
 | cons a l ih=>show g a+sumM g l=h a+sumM h l; rw [e a (by simp),ih fun x hx=>e x (by simp [hx])]
theorem zdV (l:List α):sumM (fun x=>g x+h x) l=sumM g l+sumM h l:=by
 induction l with
 | nil=>show (0:Rat)=0+0; grind
 | cons a l ih=>show g a+h a+sumM (fun x=>g x+h x) l=g a+sumM g l+(h a+sumM h l); rw [ih]; grind
theorem zc9 (c:Rat) (l:List α):sumM (fun x=>c*g x) l=c*sumM g l:=by
 induction l with
 | nil=>show (0:Rat)=c*0; grind
 | cons a l ih=>show c*g a+sumM (fun x=>c*g x) l=c*(g a+sumM g l); rw [ih]; grind
theorem zci (l:List α):sumM (fun _=>(0:Rat)) l=0:=by
 induction l with
 | nil=>rfl
 | cons a l ih=>show (0:Rat)+sumM (fun _=>(0:Rat)) l=0; rw [ih]; grind
theorem zda (c:Rat) (l:List α):sumM (fun _=>c) l=c*(l.length:Nat):=by
 induction l with
 | nil=>show (0:Rat)=c*((0:Nat):Rat); grind
 | cons a l ih =>
  show c+sumM (fun _=>c) l=c*((l.length+1:Nat):Rat)
  rw [ih]
  have:((l.length+1:Nat):Rat)=(l.length:Nat)+1:=by simp
  rw [this]; grind
theorem zip {l m:List α} (p:l.Perm m):sumM g l=sumM g m:=by
 induction p with
 | nil=>rfl
 | cons x _ ih=>show g x+_=g x+_; rw [ih]
 | swap x y l=>show g y+(g x+sumM g l)=g x+(g y+sumM g l); grind
 | trans _ _ h1 h2=>exact h1.trans h2
theorem ziq (l:List α) (m:List β) (k:α->β->Rat):sumM (fun a=>sumM (k a) m) l=sumM (fun b=>sumM (fun a=>k a b) l) m:=by
 induction l with
 | nil=>exact (zci m).symm
 | cons a l ih=>show sumM (k a) m+sumM (fun a=>sumM (k a) m) l=sumM (fun b=>k a b+sumM (fun a=>k a b) l) m; rw [ih,zdV]
end
open Classical in
theorem zdW {α:Type} {l:List α} (hn:l.Nodup) {a:α} (ha:a ∈ l) (p:α->Prop) (hp:∀ x,p x↔x=a) (g:α->Rat):sumM (fun x=>if p x then g x else 0) l=g a:=by
 induction l with
 | nil=>cases ha
 | cons b l ih =>
  rw [List.nodup_cons] at hn
  show (if p b then g b else 0)+sumM _ l=g a
  by_cases e:b=a
  ·subst e
   rw [if_pos ((hp b).2 rfl),zas (h:=fun _=>0) (fun x hx=>if_neg fun h=>hn.1 (by rw [<-(hp x).1 h]; exact hx)),zci]
   grind
  ·rw [if_neg (fun h=>e ((hp b).1 h)),ih hn.2 ((List.mem_cons.1 ha).resolve_left fun h=>e h.symm)]
   grind
open Classical in
theorem zfM {α:Type} (l:List α) (p:α->Prop) (hp:∀ x,¬ p x) (g:α->Rat):sumM (fun x=>if p x then g x else 0) l=0:=by
 rw [zas (h:=fun _=>0) (fun x _=>if_neg (hp x)),zci]
theorem perm_of_nodup' {α:Type}:∀ {l m:List α},l.Nodup->(∀ x,x ∈ l->x ∈ m)->m.length<=l.length->l.Perm m:=by
 classical
 intro l
 induction l with
 | nil =>
  intro m _ _ h
  obtain rfl:m=[]:=List.length_eq_zero_iff.1 (by simpa using h)
  exact List.Perm.refl _
 | cons a l ih =>
  intro m h1 h2 h3
  have ha:=h2 a (by simp)
  rw [List.nodup_cons] at h1
  have hl:=List.length_erase_of_mem ha
  have hp:=ih (m:=m.erase a) h1.2 (fun x hx=>(List.mem_erase_of_ne (fun e:x=a=>h1.1 (by rw [<-e]; exact hx))).2 (h2 x (by simp [hx]))) (by simp at h3; omega)
  exact (hp.cons a).trans (List.perm_cons_erase ha).symm
def allW {K:Type} (L:List K):Nat->List (List K)
 | 0=>[[]]
 | n+1=>(allW L n).flatMap fun w=>L.map fun a=>a :: w
theorem zb6 {K:Type} (L:List K) (n:Nat) (g:List K->Rat):sumM g (allW L (n+1))=sumM (fun w=>sumM (fun a=>g (a :: w)) L) (allW L n):=by
 show sumM g ((allW L n).flatMap _)=_
 rw [ze8]
 exact zas fun w _=>by rw [zg2]
theorem zdb {K:Type} (L:List K):∀ n x,x ∈ allW L n->x.length=n:=by
 intro n
 induction n with
 | zero=>intro x hx; simp [allW] at hx; rw [hx]; rfl
 | succ n ih =>
  intro x hx
  simp only [allW,List.mem_flatMap,List.mem_map] at hx
  obtain ⟨w,hw,a,_,rfl⟩:=hx
  simp [ih w hw]
def addW {K:Type} [Add K] (x y:List K):List K:=List.zipWith (·+·) x y
def smulW {K:Type} [Mul K] (a:K) (x:List K):List K:=x.map (a*·)
theorem zbB {K:Type} [Mul K] (c:K) (x:List K):(smulW c x).length=x.length:=by simp [smulW]
theorem zdH {K:Type} [Add K] {x y:List K} (h:x.length=y.length):(addW x y).length=x.length:=by simp [addW]; omega
section
variable {K:Type} [Add K] [Mul K] [Neg K] [Zero K] [One K]
def dotW:List K->List K->K
 | a :: x,b :: y=>a*b+dotW x y
 | _,_=>0
structure LinC (n:Nat) (C:List K->Prop):Prop where
 len:∀ x,C x->x.length=n
 zero:C (List.replicate n 0)
 add:∀ x y,C x->C y->C (addW x y)
 smul:∀ a x,C x->C (smulW a x)
def perpW (n:Nat) (C:List K->Prop) (x:List K):Prop:=x.length=n/\∀ y,C y->dotW x y=0
open Classical in
noncomputable def wtW (s t:Rat):List K->Rat
 | []=>1
 | a :: x=>(if a=0 then s else t)*wtW s t x
open Classical in
noncomputable def zW (L:List K) (n:Nat) (C:List K->Prop) (s t:Rat):Rat:=sumM (fun x=>if C x then wtW s t x else 0) (allW L n)
open Classical in
noncomputable def cntW (L:List K) (n:Nat) (C:List K->Prop):Rat:=sumM (fun x=>if C x then 1 else 0) (allW L n)
variable (F:Fie K)
include F
theorem zg3:∀ x:List K,∀ n,dotW x (List.replicate n 0)=0:=by
 intro x
 induction x with
 | nil=>intro n; rfl
 | cons a x ih =>
  intro n
  cases n with
  | zero=>rfl
  | succ n=>show a*0+dotW x (List.replicate n 0)=0; rw [F.mulZ,ih,F.addZ]
theorem zjq:∀ x y z:List K,y.length=z.length->dotW x (addW y z)=dotW x y+dotW x z:=by
 intro x
 induction x with
 | nil=>intro y z _; show (0:K)=0+0; rw [F.addZ]
 | cons a x ih =>
  intro y z h
  cases y with
  | nil =>
   cases z with
   | nil=>show (0:K)=0+0; rw [F.addZ]
   | cons c z=>simp at h
  | cons b y =>
   cases z with
   | nil=>simp at h
   | cons c z =>
    show a*(b+c)+dotW x (addW y z)=a*b+dotW x y+(a*c+dotW x z)
    rw [ih y z (by simpa using h),F.dist,F.addA,F.addA,F.addL (a*c)]
theorem zg4 (c:K):∀ x y:List K,dotW x (smulW c y)=c*dotW x y:=by
 intro x
 induction x with
 | nil=>intro y; show (0:K)=c*0; rw [F.mulZ]
 | cons a x ih =>
  intro y
  cases y with
  | nil=>show (0:K)=c*0; rw [F.mulZ]
  | cons b y =>
   show a*(c*b)+dotW x (smulW c y)=c*(a*b+dotW x y)
   rw [ih,F.dist,F.mulL]
theorem zg5:∀ x y z:List K,x.length=y.length->dotW (addW x y) z=dotW x z+dotW y z:=by
 intro x
 induction x with
 | nil =>
  intro y z h
  cases y with
  | nil=>show (0:K)=0+0; rw [F.addZ]
  | cons b y=>simp at h
 | cons a x ih =>
  intro y z h
  cases y with
  | nil=>simp at h
  | cons b y =>
   cases z with
   | nil=>show (0:K)=0+0; rw [F.addZ]
   | cons c z =>
    show (a+b)*c+dotW (addW x y) z=a*c+dotW x z+(b*c+dotW y z)
    rw [ih y z (by simpa using h),F.distR,F.addA,F.addA,F.addL (b*c)]
theorem zfN (c:K):∀ x y:List K,dotW (smulW c x) y=c*dotW x y:=by
 intro x
 induction x with
 | nil=>intro y; show (0:K)=c*0; rw [F.mulZ]
 | cons a x ih =>
  intro y
  cases y with
  | nil=>show (0:K)=c*0; rw [F.mulZ]
  | cons b y =>
   show (c*a)*b+dotW (smulW c x) y=c*(a*b+dotW x y)
   rw [ih,F.dist,F.mulA]
theorem zg6 (c:K) (n:Nat):smulW c (List.replicate n (0:K))=List.replicate n 0:=by
 unfold smulW
 rw [List.map_replicate,F.mulZ]
theorem zkS:∀ x:List K,addW x (List.replicate x.length 0)=x:=by
 intro x
 induction x with
 | nil=>rfl
 | cons a x ih=>show (a+0) :: addW x (List.replicate x.length 0)=a :: x; rw [F.addZ,ih]
theorem zg7 (c:K):∀ x y:List K,x.length=y.length->addW (addW x (smulW c y)) (smulW (-c) y)=x:=by
 intro x
 induction x with
 | nil=>intro y _; cases y <;> rfl
 | cons a x ih =>
  intro y h
  cases y with
  | nil=>simp at h
  | cons b y =>
   show (a+c*b + -c*b) :: addW (addW x (smulW c y)) (smulW (-c) y)=a :: x
   rw [ih y (by simpa using h),F.addA,F.negMul,F.addN,F.addZ]
theorem zir {L:List K} (hn:L.Nodup) (hc:∀ a,a ∈ L):∀ n (y:List K),y.length=n->∀ g:List K->Rat,sumM (fun x=>g (addW x y)) (allW L n)=sumM g (allW L n):=by
 intro n
 induction n with
 | zero =>
  intro y hy g
  obtain rfl:y=[]:=List.length_eq_zero_iff.1 hy
  rfl
 | succ n ih =>
  intro y hy g
  cases y with
  | nil=>simp at hy
  | cons b y =>
   rw [zb6,zb6]
   have hp:(L.map (·+b)).Perm L:=perm_of_nodup' (by
    rw [List.Nodup,List.pairwise_map]
    exact hn.imp fun h e=>h (F.cancelR e)) (fun x _=>hc x) (by simp)
   have e1:∀ w,sumM (fun a=>g (addW (a :: w) (b :: y))) L=sumM (fun a=>g (a :: addW w y)) L:=fun w=>by
    rw [<-zip (g:=fun a=>g (a :: addW w y)) hp,zg2]
    rfl
   rw [zas (fun w _=>e1 w)]
   exact ih y (by simpa using hy) fun w=>sumM (fun a=>g (a :: w)) L
end
theorem zer {K:Type} [Zero K] {L:List K} (hn:L.Nodup) (h0:(0:K) ∈ L) {n:Nat} {P Q:List K->Prop} (h:∀ a w,w.length=n->(P (a :: w)↔Q w)) :
  cntW L (n+1) P=(L.length:Nat)*cntW L n Q/\∀ s t,zW L (n+1) P s t=(s+(((L.length:Nat):Rat) - 1)*t)*zW L n Q s t:=by
 classical
 constructor
 ·unfold cntW
  rw [zb6,<-zc9]
  refine zas fun w hw=>?_
  have hl:=zdb L n w hw
  by_cases hQ:Q w
  ·rw [if_pos hQ,zas (h:=fun _=>1) (fun a _=>if_pos ((h a w hl).2 hQ)),zda]; grind
  ·rw [if_neg hQ,zas (h:=fun _=>0) (fun a _=>if_neg fun e=>hQ ((h a w hl).1 e)),zci]; grind
 intro s t
 unfold zW
 rw [zb6,<-zc9]
 refine zas fun w hw=>?_
 have hl:=zdb L n w hw
 by_cases hQ:Q w
 rotate_left
 ·rw [if_neg hQ,zas (h:=fun _=>0) (fun a _=>if_neg fun e=>hQ ((h a w hl).1 e)),zci]; grind
 rw [if_pos hQ,zas (h:=fun a=>wtW s t w*(if a=0 then s else t)) (fun a _=>by
  rw [if_pos ((h a w hl).2 hQ)]
  show (if a=0 then s else t)*wtW s t w=_
  grind),zc9]
 have e1:sumM (fun a:K=>if a=0 then s else t) L=s+(((L.length:Nat):Rat) - 1)*t:=by
  have e2:sumM (fun a:K=>if a=0 then s else t) L=sumM (fun a:K=>(if a=0 then s - t else 0)+t) L:=zas fun a _=>by
   by_cases e:a=0
   ·rw [if_pos e,if_pos e]; grind
   ·rw [if_neg e,if_neg e]; grind
  rw [e2,zdV,zda,zdW hn h0 (fun a=>a=0) (fun _=>Iff.rfl) (fun _=>s - t)]
  grind
 rw [e1]; grind
theorem zbV {K:Type} [Zero K] {L:List K} (hn:L.Nodup) (hc:∀ a,a ∈ L) {n:Nat} {P Q R:List K->Prop} (h1:∀ w,w.length=n->(Q w↔∃ a,P (a :: w))) (h2:∀ a b w,w.length=n->P (a :: w)->P (b :: w)->a=b) (h3:∀ w,w.length=n->(R w↔P (0 :: w))) :
  cntW L (n+1) P=cntW L n Q/\∀ s t,zW L (n+1) P s t=t*zW L n Q s t+(s - t)*zW L n R s t:=by
 classical
 constructor
 ·unfold cntW
  rw [zb6]
  refine zas fun w hw=>?_
  have hl:=zdb L n w hw
  by_cases hQ:Q w
  ·obtain ⟨a,ha⟩:=(h1 w hl).1 hQ
   rw [if_pos hQ,zdW hn (hc a) (fun b=>P (b :: w)) (fun b=>⟨fun e=>h2 b a w hl e ha,fun e=>by rw [e]; exact ha⟩) (fun _=>1)]
  ·rw [if_neg hQ,zfM L (fun b=>P (b :: w)) (fun b e=>hQ ((h1 w hl).2 ⟨b,e⟩)) (fun _=>1)]
 intro s t
 unfold zW
 rw [zb6,<-zc9,<-zc9,<-zdV]
 refine zas fun w hw=>?_
 have hl:=zdb L n w hw
 by_cases hQ:Q w
 ·obtain ⟨a,ha⟩:=(h1 w hl).1 hQ
  rw [if_pos hQ,zdW hn (hc a) (fun b=>P (b :: w)) (fun b=>⟨fun e=>h2 b a w hl e ha,fun e=>by rw [e]; exact ha⟩) (fun b=>wtW s t (b :: w))]
  show (if a=0 then s else t)*wtW s t w=_
  by_cases e:a=0
  ·subst e
   rw [if_pos rfl,if_pos ((h3 w hl).2 ha)]; grind
  ·rw [if_neg e,if_neg fun hr=>e (h2 _ _ w hl ha ((h3 w hl).1 hr))]; grind
 ·rw [if_neg hQ,if_neg (fun hr=>hQ ((h1 w hl).2 ⟨0,(h3 w hl).1 hr⟩)),zfM L (fun b=>P (b :: w)) (fun b e=>hQ ((h1 w hl).2 ⟨b,e⟩)) (fun b=>wtW s t (b :: w))]; grind
def rpow (q:Rat):Nat->Rat
 | 0=>1
 | n+1=>q*rpow q n
theorem zjr {q:Rat} (h:q≠0):∀ n,rpow q n≠0:=by
 intro n
 induction n with
 | zero=>show (1:Rat)≠0; decide
 | succ n ih =>
  intro e
  have e:q*rpow q n=0:=e
  rcases Rat.mul_eq_zero.1 e with h1 | h1
  ·exact h h1
  ·exact ih h1
theorem LinC.punct {K:Type} [Add K] [Mul K] [Zero K] {n:Nat} {C:List K->Prop} (h:LinC (n+1) C):LinC n fun w=>∃ a,C (a :: w):=by
 refine ⟨fun x ⟨a,hx⟩=>by have:=h.len _ hx; simpa using this,⟨0,h.zero⟩,fun x y ⟨a,hx⟩ ⟨b,hy⟩=>⟨a+b,h.add _ _ hx hy⟩,fun c x ⟨a,hx⟩=>⟨c*a,h.smul c _ hx⟩⟩
theorem zbr {K:Type} [Add K] [Mul K] [Zero K] {n:Nat} {C:List K->Prop} (h:LinC (n+1) C) {a:K} {w:List K}:perpW (n+1) C (a :: w)↔w.length=n/\∀ b v,C (b :: v)->a*b+dotW w v=0:=by
 constructor
 ·rintro ⟨h1,h2⟩
  exact ⟨by simpa using h1,fun b v hv=>h2 _ hv⟩
 rintro ⟨h1,h2⟩
 refine ⟨by simp [h1],fun y hy=>?_⟩
 have hl:=h.len y hy
 cases y with
 | nil=>simp at hl
 | cons b v=>exact h2 b v hy
section
variable {K:Type} [Add K] [Mul K] [Neg K] [Zero K] [One K] (F:Fie K)
include F
theorem LinC.short {n:Nat} {C:List K->Prop} (h:LinC (n+1) C):LinC n fun w=>C (0 :: w):=by
 refine ⟨fun x hx=>by have:=h.len _ hx; simpa using this,h.zero,fun x y hx hy=>?_,fun a x hx=>?_⟩
 ·have:C ((0+0) :: addW x y):=h.add _ _ hx hy
  rwa [F.addZ] at this
 ·have:C ((a*0) :: smulW a x):=h.smul a _ hx
  rwa [F.mulZ] at this
theorem ze9:∀ w:List K,addW w (smulW (-1) w)=List.replicate w.length 0:=by
 intro w
 induction w with
 | nil=>rfl
 | cons a w ih =>
  show (a + -1*a) :: addW w (smulW (-1) w)=0 :: List.replicate w.length 0
  rw [ih,F.negOne,F.addN]
theorem mac {L:List K} (hn:L.Nodup) (hc:∀ a,a ∈ L):∀ (n:Nat) (C:List K->Prop),LinC n C ->
  cntW L n C*cntW L n (perpW n C)=rpow (L.length:Nat) n/\∀ s t,cntW L n (perpW n C)*zW L n C s t=zW L n (perpW n C) (s+(((L.length:Nat):Rat) - 1)*t) (s - t):=by
 classical
 have l:((L.length:Nat):Rat)≠0:=by
  intro e
  have:L.length=0:=by simpa using e
  have hL:=List.length_eq_zero_iff.1 this
  have:=hc 0
  rw [hL] at this
  cases this
 intro n
 induction n with
 | zero =>
  intro C hC
  have h0:C []:=hC.zero
  have h1:perpW 0 C []:=⟨rfl,fun y _=>rfl⟩
  have e1:cntW L 0 C=1:=by
   show (if C [] then (1:Rat) else 0)+0=1
   rw [if_pos h0]; grind
  have e2:cntW L 0 (perpW 0 C)=1:=by
   show (if perpW 0 C [] then (1:Rat) else 0)+0=1
   rw [if_pos h1]; grind
  have e3:∀ s t,zW L 0 C s t=1:=fun s t=>by
   show (if C [] then (1:Rat) else 0)+0=1
   rw [if_pos h0]; grind
  have e4:∀ s t,zW L 0 (perpW 0 C) s t=1:=fun s t=>by
   show (if perpW 0 C [] then (1:Rat) else 0)+0=1
   rw [if_pos h1]; grind
  refine ⟨by rw [e1,e2]; show (1:Rat)*1=1; grind,fun s t=>by rw [e2,e3,e4]; grind⟩
 | succ n ih =>
  intro C hC
  obtain ⟨q,hq⟩:∃ q:Rat,q=((L.length:Nat):Rat):=⟨_,rfl⟩
  rw [<-hq] at l ih ⊢
  obtain ⟨i1,i2⟩:=ih _ (hC.short F)
  by_cases hL:∀ a w,C (a :: w)->a=0
  ·have g1:=zbV (L:=L) hn hc (n:=n) (P:=C) (Q:=fun w=>C (0 :: w)) (R:=fun w=>C (0 :: w)) (fun w _=>⟨fun h=>⟨0,h⟩,fun ⟨a,h⟩=>by have:=hL a w h; subst this; exact h⟩) (fun a b w _ ha hb=>by rw [hL a w ha,hL b w hb]) (fun _ _=>Iff.rfl)
   have g2:=zer (L:=L) hn (hc 0) (n:=n) (P:=perpW (n+1) C) (Q:=perpW n fun w=>C (0 :: w)) (fun a w hw=>by
    rw [zbr hC]
    constructor
    ·rintro ⟨h1,h2⟩
     refine ⟨h1,fun v hv=>?_⟩
     have:=h2 0 v hv
     rwa [F.mulZ,F.zeroA] at this
    ·rintro ⟨h1,h2⟩
     refine ⟨h1,fun b v hv=>?_⟩
     have hb:=hL b v hv
     subst hb
     rw [F.mulZ,F.zeroA]
     exact h2 v hv)
   rw [<-hq] at g2
   refine ⟨?_,fun s t=>?_⟩
   ·rw [g1.1,g2.1]
    show _=q*rpow q n
    rw [<-i1]; grind
   ·rw [g1.2,g2.1,g2.2,<-i2]; grind
  ·obtain ⟨y,hy⟩:∃ y,C (1 :: y):=by
    simp only [Classical.not_forall] at hL
    obtain ⟨a,w,h,ha⟩:=hL
    obtain ⟨b,hb⟩:=F.inv a ha
    have:=hC.smul b _ h
    have e:smulW b (a :: w)=(b*a) :: smulW b w:=rfl
    rw [e,F.mulC,hb] at this
    exact ⟨_,this⟩
   have g:y.length=n:=by have:=hC.len _ hy; simpa using this
   by_cases hco:C (1 :: List.replicate n 0)
   ·have m:∀ a w,w.length=n->(C (a :: w)↔C (0 :: w)):=fun a w hw=>by
     have k:∀ a b,C (a :: w)->C ((a+b) :: w):=fun a b h=>by
      have h1:=hC.add _ _ h (hC.smul b _ hco)
      have e:addW (a :: w) (smulW b (1 :: List.replicate n 0))=(a+b*1) :: addW w (smulW b (List.replicate n 0)):=rfl
      rw [e,F.mulOne,zg6 F] at h1
      have e2:=zkS F w
      rw [hw] at e2
      rwa [e2] at h1
     constructor
     ·intro h
      have:=k a (-a) h
      rwa [F.addN] at this
     ·intro h
      have:=k 0 a h
      rwa [F.zeroA] at this
    have g1:=zer (L:=L) hn (hc 0) (n:=n) (P:=C) (Q:=fun w=>C (0 :: w)) m
    have hz:∀ a w,w.length=n->perpW (n+1) C (a :: w)->a=0:=fun a w hw h=>by
     have:=((zbr hC).1 h).2 1 _ hco
     rwa [F.mulOne,zg3 F,F.addZ] at this
    have hd:∀ w,w.length=n->((perpW n fun w=>C (0 :: w)) w↔perpW (n+1) C (0 :: w)):=fun w hw=>by
     rw [zbr hC]
     constructor
     ·rintro ⟨h1,h2⟩
      refine ⟨h1,fun b v hv=>?_⟩
      have i:v.length=n:=by have:=hC.len _ hv; simpa using this
      rw [F.zMul,F.zeroA]
      exact h2 v ((m b v i).1 hv)
     ·rintro ⟨h1,h2⟩
      refine ⟨h1,fun v hv=>?_⟩
      have:=h2 0 v hv
      rwa [F.mulZ,F.zeroA] at this
    have g2:=zbV (L:=L) hn hc (n:=n) (P:=perpW (n+1) C) (Q:=perpW n fun w=>C (0 :: w)) (R:=perpW n fun w=>C (0 :: w)) (fun w hw=>⟨fun h=>⟨0,(hd w hw).1 h⟩,fun ⟨a,h⟩=>by
     have:=hz a w hw h
     subst this
     exact (hd w hw).2 h⟩) (fun a b w hw ha hb=>by rw [hz a w hw ha,hz b w hw hb]) hd
    rw [<-hq] at g1
    refine ⟨?_,fun s t=>?_⟩
    ·rw [g1.1,g2.1]
     show _=q*rpow q n
     rw [<-i1]; grind
    ·rw [g1.2,g2.1,g2.2,<-i2]; grind
   ·obtain ⟨j1,j2⟩:=ih _ hC.punct
    have o:∀ a b w,w.length=n->C (a :: w)->C (b :: w)->a=b:=fun a b w hw ha hb=>by
     have h1:=hC.add _ _ ha (hC.smul (-1) _ hb)
     have e:addW (a :: w) (smulW (-1) (b :: w))=(a + -1*b) :: addW w (smulW (-1) w):=rfl
     rw [e,F.negOne,ze9 F,hw] at h1
     by_cases hab:a + -b=0
     ·exact F.subEq hab
     ·obtain ⟨c,j⟩:=F.inv _ hab
      have h2:=hC.smul c _ h1
      have e2:smulW c ((a + -b) :: List.replicate n (0:K))=(c*(a + -b)) :: smulW c (List.replicate n 0):=rfl
      rw [e2,zg6 F,F.mulC,j] at h2
      exact absurd h2 hco
    have g1:=zbV (L:=L) hn hc (n:=n) (P:=C) (Q:=fun w=>∃ a,C (a :: w)) (R:=fun w=>C (0 :: w)) (fun _ _=>Iff.rfl) o (fun _ _=>Iff.rfl)
    have f:cntW L (n+1) C=q*cntW L n fun w=>C (0 :: w):=by
     have e0:cntW L (n+1) C=sumM (fun a=>sumM (fun w=>if C (a :: w) then 1 else 0) (allW L n)) L:=by
      unfold cntW
      rw [zb6,ziq]
     rw [e0,zas (h:=fun _=>cntW L n fun w=>C (0 :: w)) (fun a _=>?_),zda,<-hq]
     ·grind
     ·rw [<-zir F hn hc n (smulW a y) (by rw [zbB,g])]
      refine zas fun w hw=>?_
      have hl:=zdb L n w hw
      have d:C (a :: addW w (smulW a y))↔C (0 :: w):=by
       constructor
       ·intro h
        have h1:=hC.add _ _ h (hC.smul (-a) _ hy)
        have e:addW (a :: addW w (smulW a y)) (smulW (-a) (1 :: y))=(a + -a*1) :: addW (addW w (smulW a y)) (smulW (-a) y):=rfl
        rw [e,F.mulOne,F.addN,zg7 F a w y (by rw [hl,g])] at h1
        exact h1
       ·intro h
        have h1:=hC.add _ _ h (hC.smul a _ hy)
        have e:addW (0 :: w) (smulW a (1 :: y))=(0+a*1) :: addW w (smulW a y):=rfl
        rw [e,F.mulOne,F.zeroA] at h1
        exact h1
      by_cases hP:C (0 :: w)
      ·rw [if_pos (d.2 hP),if_pos hP]
      ·rw [if_neg (fun h=>hP (d.1 h)),if_neg hP]
    have g2:=zbV (L:=L) hn hc (n:=n) (P:=perpW (n+1) C) (Q:=perpW n fun w=>C (0 :: w)) (R:=perpW n fun w=>∃ a,C (a :: w)) (fun w hw=>by
     constructor
     ·rintro ⟨h1,h2⟩
      refine ⟨-dotW w y,(zbr hC).2 ⟨h1,fun b v hv=>?_⟩⟩
      have i:v.length=n:=by have:=hC.len _ hv; simpa using this
      have h3:=hC.add _ _ hv (hC.smul (-b) _ hy)
      have e:addW (b :: v) (smulW (-b) (1 :: y))=(b + -b*1) :: addW v (smulW (-b) y):=rfl
      rw [e,F.mulOne,F.addN] at h3
      have h4:=h2 _ h3
      rw [zjq F w v _ (by rw [zbB,i,g]),zg4 F,F.negMul] at h4
      rw [F.negMul,F.addC,F.mulC]
      exact h4
     ·rintro ⟨a,h⟩
      obtain ⟨h1,h2⟩:=(zbr hC).1 h
      refine ⟨h1,fun v hv=>?_⟩
      have:=h2 0 v hv
      rwa [F.mulZ,F.zeroA] at this) (fun a b w hw ha hb=>by
     have h1:=((zbr hC).1 ha).2 1 y hy
     have h2:=((zbr hC).1 hb).2 1 y hy
     rw [F.mulOne] at h1 h2
     exact F.cancelR (x:=dotW w y) (h1.trans h2.symm)) (fun w hw=>by
     rw [zbr hC]
     constructor
     ·rintro ⟨h1,h2⟩
      exact ⟨h1,fun b v hv=>by rw [F.zMul,F.zeroA]; exact h2 v ⟨b,hv⟩⟩
     ·rintro ⟨h1,h2⟩
      refine ⟨h1,fun v ⟨b,hv⟩=>?_⟩
      have:=h2 b v hv
      rwa [F.zMul,F.zeroA] at this)
    have p:=zjr l n
    have hk:cntW L n (perpW n fun w=>C (0 :: w))=q*cntW L n (perpW n fun w=>∃ a,C (a :: w)):=by
     have j:cntW L n (fun w=>∃ a,C (a :: w))=q*cntW L n fun w=>C (0 :: w):=by rw [<-g1.1,f]
     rw [j] at j1
     have h0:cntW L n (fun w=>C (0 :: w))≠0:=fun e=>p (by rw [<-i1,e]; grind)
     have e3:cntW L n (fun w=>C (0 :: w))*(cntW L n (perpW n fun w=>C (0 :: w)) - q*cntW L n (perpW n fun w=>∃ a,C (a :: w)))=0:=by grind
     rcases Rat.mul_eq_zero.1 e3 with h | h
     ·exact absurd h h0
     ·grind
    refine ⟨?_,fun s t=>?_⟩
    ·rw [f,g2.1]
     show _=q*rpow q n
     rw [<-i1]; grind
    ·have k1:=i2 s t
     have k2:=j2 s t
     rw [g1.2,g2.1,g2.2,<-k1,<-k2,hk]; grind
end
section
variable {K:Type} [Add K] [Mul K] [Neg K] [Zero K] [One K]
inductive Gen (k n:Nat) (r:Nat->List K):List K->Prop
 | zero:Gen k n r (List.replicate k 0)
 | row (i:Nat) (hi:i<n):Gen k n r (r i)
 | add {x y:List K}:Gen k n r x->Gen k n r y->Gen k n r (addW x y)
 | smul (a:K) {x:List K}:Gen k n r x->Gen k n r (smulW a x)
end
theorem Gen.linC {K:Type} [Add K] [Mul K] [Zero K] {k n:Nat} {r:Nat->List K} (hr:∀ i,i<n->(r i).length=k):LinC k (Gen k n r):=by
 refine ⟨fun x hx=>?_,.zero,fun _ _ hx hy=>.add hx hy,fun a _ hx=>.smul a hx⟩
 induction hx with
 | zero=>simp
 | row i hi=>exact hr i hi
 | add _ _ h1 h2=>rw [zdH (by rw [h1,h2]),h1]
 | smul a _ h=>rw [zbB,h]
theorem Gen.sub {K:Type} [Add K] [Mul K] [Zero K] {k n n':Nat} {r r':Nat->List K} (h:∀ i,i<n->Gen k n' r' (r i)):∀ x,Gen k n r x->Gen k n' r' x:=by
 intro x hx
 induction hx with
 | zero=>exact .zero
 | row i hi=>exact h i hi
 | add _ _ h1 h2=>exact .add h1 h2
 | smul a _ h=>exact .smul a h
theorem Gen.congr {K:Type} [Add K] [Mul K] [Zero K] {k n:Nat} {r r':Nat->List K} (h:∀ i,i<n->r i=r' i) (x:List K):Gen k n r x↔Gen k n r' x :=
 ⟨Gen.sub (fun i hi=>by rw [h i hi]; exact .row i hi) x,Gen.sub (fun i hi=>by rw [<-h i hi]; exact .row i hi) x⟩
theorem Gen.swap {K:Type} [Add K] [Mul K] [Zero K] {k n i j:Nat} {r:Nat->List K} (hi:i<n) (hj:j<n) (x:List K):Gen k n (fun t=>if t=i then r j else if t=j then r i else r t) x↔Gen k n r x:=by
 constructor
 ·refine Gen.sub (fun t ht=>?_) x
  show Gen k n r (if t=i then r j else if t=j then r i else r t)
  split
  ·exact .row j hj
  split
  ·exact .row i hi
  ·exact .row t ht
 refine Gen.sub (fun t ht=>?_) x
 have a:∀ u,u<n->Gen k n (fun t=>if t=i then r j else if t=j then r i else r t) (if u=i then r j else if u=j then r i else r u):=fun u hu=>.row u hu
 by_cases e1:t=i
 ·subst e1
  have:=a j hj
  by_cases e2:j=t
  ·subst e2; simpa using this
  ·rwa [if_neg e2,if_pos rfl] at this
 by_cases e2:t=j
 ·subst e2
  have:=a i hi
  rwa [if_pos rfl] at this
 ·have:=a t ht
  rwa [if_neg e1,if_neg e2] at this
section
variable {K:Type} [Add K] [Mul K] [Neg K] [Zero K] [One K] (F:Fie K)
include F
theorem zis (a b:K) (x:List K):smulW a (smulW b x)=smulW (a*b) x:=by
 unfold smulW
 rw [List.map_map]
 exact List.map_congr_left fun c _=>(F.mulA a b c).symm
theorem zjQ (x:List K):smulW (1:K) x=x:=by
 induction x with
 | nil=>rfl
 | cons a x ih=>show 1*a :: smulW 1 x=a :: x; rw [F.oneM,ih]
theorem Gen.scale {k n i:Nat} {r:Nat->List K} {c:K} (hc:c≠0) (hi:i<n) (x:List K):Gen k n (fun t=>if t=i then smulW c (r i) else r t) x↔Gen k n r x:=by
 constructor
 ·refine Gen.sub (fun t ht=>?_) x
  show Gen k n r (if t=i then smulW c (r i) else r t)
  split
  ·exact .smul c (.row i hi)
  ·exact .row t ht
 refine Gen.sub (fun t ht=>?_) x
 have a:∀ u,u<n->Gen k n (fun t=>if t=i then smulW c (r i) else r t) (if u=i then smulW c (r i) else r u):=fun u hu=>.row u hu
 by_cases e:t=i
 ·subst e
  obtain ⟨d,hd⟩:=F.inv c hc
  have h1:=a t ht
  rw [if_pos rfl] at h1
  have h2:=Gen.smul d h1
  rwa [zis F,F.mulC,hd,zjQ F] at h2
 ·have:=a t ht
  rwa [if_neg e] at this
theorem Gen.addTo {k n i t:Nat} {r:Nat->List K} {a:K} (hi:i<n) (ht:t<n) (hit:t≠i) (hl:∀ u,u<n->(r u).length=k) (x:List K):Gen k n (fun u=>if u=i then addW (r i) (smulW a (r t)) else r u) x↔Gen k n r x:=by
 constructor
 ·refine Gen.sub (fun u hu=>?_) x
  show Gen k n r (if u=i then addW (r i) (smulW a (r t)) else r u)
  split
  ·exact .add (.row i hi) (.smul a (.row t ht))
  ·exact .row u hu
 refine Gen.sub (fun u hu=>?_) x
 have b:∀ u,u<n->Gen k n (fun u=>if u=i then addW (r i) (smulW a (r t)) else r u) (if u=i then addW (r i) (smulW a (r t)) else r u):=fun u hu=>.row u hu
 by_cases e:u=i
 ·subst e
  have h1:=b u hu
  rw [if_pos rfl] at h1
  have h2:=b t ht
  rw [if_neg hit] at h2
  have h3:=Gen.add h1 (.smul (-a) h2)
  rwa [zg7 F a _ _ (by rw [hl u hu,hl t ht])] at h3
 ·have:=b u hu
  rwa [if_neg e] at this
theorem Gen.perp {k n:Nat} {r:Nat->List K} (hl:∀ i,i<n->(r i).length=k) {x:List K} (h:∀ i,i<n->dotW x (r i)=0):∀ y,Gen k n r y->dotW x y=0:=by
 have b:=(Gen.linC hl).len
 intro y hy
 induction hy with
 | zero=>exact zg3 F x k
 | row i hi=>exact h i hi
 | add h1 h2 i1 i2=>rw [zjq F x _ _ (by rw [b _ h1,b _ h2]),i1,i2,F.addZ]
 | smul a _ ih=>rw [zg4 F,ih,F.mulZ]
end
structure EchN (q n k c a:Nat) (pv:Nat->Nat) (W:Nat->Nat->Nat):Prop where
 le:a<=n
 lt:∀ i,i<n->∀ j,j<k->W i j<q
 inc:∀ s t,s<t->t<a->pv s<pv t
 pvlt:∀ s,s<a->pv s<c
 one:∀ s,s<a->W s (pv s)=1
 zero:∀ s,s<a->∀ i,i<n->i≠s->W i (pv s)=0
 lead:∀ s,s<a->∀ j,j<pv s->W s j=0
 below:∀ i,a<=i->i<n->∀ j,j<c->W i j=0
section
variable {q n k c a:Nat} {pv:Nat->Nat} {W:Nat->Nat->Nat}
theorem EchN.start (h:∀ i,i<n->∀ j,j<k->W i j<q):EchN q n k 0 0 pv W :=
 ⟨Nat.zero_le _,h,fun _ _ _ h=>absurd h (by omega),fun _ h=>absurd h (by omega),fun _ h=>absurd h (by omega),fun _ h=>absurd h (by omega),fun _ h=>absurd h (by omega),fun _ _ _ _ h=>absurd h (by omega)⟩
theorem EchN.none (h:EchN q n k c a pv W) (hz:∀ i,a<=i->i<n->W i c=0):EchN q n k (c+1) a pv W :=
 ⟨h.le,h.lt,h.inc,fun s hs=>Nat.lt_succ_of_lt (h.pvlt s hs),h.one,h.zero,h.lead,fun i h1 h2 j hj=>by
  by_cases e:j=c
  ·subst e; exact hz i h1 h2
  ·exact h.below i h1 h2 j (by omega)⟩
theorem EchN.swap (h:EchN q n k c a pv W) {t:Nat} (h1:a<=t) (h2:t<n):EchN q n k c a pv (fun u=>if u=a then W t else if u=t then W a else W u):=by
 have ha:a<n:=by omega
 refine ⟨h.le,fun i hi j hj=>?_,h.inc,h.pvlt,fun s hs=>?_,fun s hs i hi hne=>?_,fun s hs j hj=>?_,fun i hi1 hi2 j hj=>?_⟩
 ·show (if i=a then W t else if i=t then W a else W i) j<q
  split
  ·exact h.lt t h2 j hj
  split
  ·exact h.lt a ha j hj
  ·exact h.lt i hi j hj
 ·show (if s=a then W t else if s=t then W a else W s) (pv s)=1
  rw [if_neg (by omega),if_neg (by omega)]
  exact h.one s hs
 ·show (if i=a then W t else if i=t then W a else W i) (pv s)=0
  split
  ·exact h.zero s hs t h2 (by omega)
  split
  ·exact h.zero s hs a ha (by omega)
  ·exact h.zero s hs i hi hne
 ·show (if s=a then W t else if s=t then W a else W s) j=0
  rw [if_neg (by omega),if_neg (by omega)]
  exact h.lead s hs j hj
 show (if i=a then W t else if i=t then W a else W i) j=0
 split
 ·exact h.below t h1 h2 j hj
 split
 ·exact h.below a (Nat.le_refl _) ha j hj
 ·exact h.below i hi1 hi2 j hj
variable {add mul:Nat->Nat->Nat}
theorem FieldLaws.addZero (h:FieldLaws q add mul) {x:Nat} (hx:x<q):add x 0=x:=by rw [h.addComm,h.zeroAdd x hx]
theorem FieldLaws.mulZero (h:FieldLaws q add mul) {x:Nat} (hx:x<q):mul x 0=0:=by
 have h2:=h.two
 have hz:=h.mulLt x 0
 have e:=h.distrib x 0 0 hx (by omega) (by omega)
 rw [h.zeroAdd 0 (by omega)] at e
 obtain ⟨y,hy,e1⟩:=h.neg _ hz
 have e2:=h.addAssoc _ _ _ hz hz hy
 rw [<-e,e1,h.addZero hz] at e2
 exact e2.symm
theorem FieldLaws.mulOne (h:FieldLaws q add mul) {x:Nat} (hx:x<q):mul x 1=x:=by
 have:=h.two
 rw [h.mulComm x 1 hx (by omega),h.oneMul x hx]
structure EchP (q n k c a i:Nat) (pv:Nat->Nat) (W:Nat->Nat->Nat):Prop where
 ech:EchN q n k c a pv W
 lt:a<n
 piv:W a c=1
 clr:∀ t,t<i->t<n->t≠a->W t c=0
theorem EchN.scale (h:EchN q n k c a pv W) (hF:FieldLaws q add mul) (ha:a<n) {d:Nat} (hd:d<q) (h1:mul d (W a c)=1):EchP q n k c a 0 pv (fun u=>if u=a then fun j=>mul d (W a j) else W u):=by
 refine ⟨⟨h.le,fun i hi j hj=>?_,h.inc,h.pvlt,fun s hs=>?_,fun s hs i hi hne=>?_,fun s hs j hj=>?_,fun i hi1 hi2 j hj=>?_⟩,ha,?_,fun t ht=>absurd ht (by omega)⟩
 ·show (if i=a then fun j=>mul d (W a j) else W i) j<q
  split
  ·exact hF.mulLt _ _
  ·exact h.lt i hi j hj
 ·show (if s=a then fun j=>mul d (W a j) else W s) (pv s)=1
  rw [if_neg (by omega)]
  exact h.one s hs
 ·show (if i=a then fun j=>mul d (W a j) else W i) (pv s)=0
  split
  ·show mul d (W a (pv s))=0
   rw [h.zero s hs a ha (by omega),hF.mulZero hd]
  ·exact h.zero s hs i hi hne
 ·show (if s=a then fun j=>mul d (W a j) else W s) j=0
  rw [if_neg (by omega)]
  exact h.lead s hs j hj
 ·show (if i=a then fun j=>mul d (W a j) else W i) j=0
  split
  ·show mul d (W a j)=0
   rw [h.below a (Nat.le_refl _) ha j hj,hF.mulZero hd]
  ·exact h.below i hi1 hi2 j hj
 show (if a=a then fun j=>mul d (W a j) else W a) c=1
 rw [if_pos rfl]
 exact h1
theorem EchN.one_piv (h:EchN q n k c a pv W) (ha:a<n) (h1:W a c=1):EchP q n k c a 0 pv W:=⟨h,ha,h1,fun t ht=>absurd ht (by omega)⟩
theorem EchP.skip {i:Nat} (h:EchP q n k c a i pv W) (hi:i=a∨W i c=0):EchP q n k c a (i+1) pv W :=
 ⟨h.ech,h.lt,h.piv,fun t ht htn hne=>by
  by_cases e:t=i
  ·subst e
   rcases hi with hi | hi
   ·exact absurd hi hne
   ·exact hi
  ·exact h.clr t (by omega) htn hne⟩
theorem EchP.clear {i:Nat} (h:EchP q n k c a i pv W) (hF:FieldLaws q add mul) (hck:c<k) (hi:i<n) (hia:i≠a) {e:Nat} (he:e<q) (h0:add (W i c) e=0):EchP q n k c a (i+1) pv (fun u=>if u=i then fun j=>add (W i j) (mul e (W a j)) else W u):=by
 have hE:=h.ech
 have ha:=h.lt
 have hq:=hF.two
 have b:∀ j,j<k->W a j=0->add (W i j) (mul e (W a j))=W i j:=fun j hj hz=>by
  rw [hz,hF.mulZero he,hF.addZero (hE.lt i hi j hj)]
 have d:∀ s,s<a->pv s<k:=fun s hs=>by have:=hE.pvlt s hs; omega
 refine ⟨⟨hE.le,fun t ht j hj=>?_,hE.inc,hE.pvlt,fun s hs=>?_,fun s hs t ht hne=>?_,fun s hs j hj=>?_,fun t ht1 ht2 j hj=>?_⟩,ha,?_,fun t ht htn hne=>?_⟩
 ·show (if t=i then fun j=>add (W i j) (mul e (W a j)) else W t) j<q
  split
  ·exact hF.addLt _ _
  ·exact hE.lt t ht j hj
 ·show (if s=i then fun j=>add (W i j) (mul e (W a j)) else W s) (pv s)=1
  split
  ·rename_i hsi
   subst hsi
   show add (W s (pv s)) (mul e (W a (pv s)))=1
   rw [b _ (d s hs) (hE.zero s hs a ha (by omega))]
   exact hE.one s hs
  ·exact hE.one s hs
 ·show (if t=i then fun j=>add (W i j) (mul e (W a j)) else W t) (pv s)=0
  split
  ·rename_i hti
   subst hti
   show add (W t (pv s)) (mul e (W a (pv s)))=0
   rw [b _ (d s hs) (hE.zero s hs a ha (by omega))]
   exact hE.zero s hs t ht hne
  ·exact hE.zero s hs t ht hne
 ·show (if s=i then fun j=>add (W i j) (mul e (W a j)) else W s) j=0
  have f:j<c:=by have:=hE.pvlt s hs; omega
  split
  ·rename_i hsi
   subst hsi
   show add (W s j) (mul e (W a j))=0
   rw [b j (by omega) (hE.below a (Nat.le_refl _) ha j f)]
   exact hE.lead s hs j hj
  ·exact hE.lead s hs j hj
 ·show (if t=i then fun j=>add (W i j) (mul e (W a j)) else W t) j=0
  split
  ·rename_i hti
   subst hti
   show add (W t j) (mul e (W a j))=0
   rw [b j (by omega) (hE.below a (Nat.le_refl _) ha j hj)]
   exact hE.below t ht1 ht2 j hj
  ·exact hE.below t ht1 ht2 j hj
 ·show (if a=i then fun j=>add (W i j) (mul e (W a j)) else W a) c=1
  rw [if_neg (fun e=>hia e.symm)]
  exact h.piv
 show (if t=i then fun j=>add (W i j) (mul e (W a j)) else W t) c=0
 split
 ·show add (W i c) (mul e (W a c))=0
  rw [h.piv,hF.mulOne he,h0]
 ·exact h.clr t (by omega) htn hne
theorem EchP.done (h:EchP q n k c a n pv W):EchN q n k (c+1) (a+1) (fun s=>if s=a then c else pv s) W:=by
 have hE:=h.ech
 have ha:=h.lt
 refine ⟨by omega,hE.lt,fun s t hst ht=>?_,fun s hs=>?_,fun s hs=>?_,fun s hs i hi hne=>?_,fun s hs j hj=>?_,fun i hi1 hi2 j hj=>?_⟩
 ·show (if s=a then c else pv s)<if t=a then c else pv t
  rw [if_neg (by omega)]
  split
  ·exact hE.pvlt s (by omega)
  ·exact hE.inc s t hst (by omega)
 ·show (if s=a then c else pv s)<c+1
  split
  ·omega
  ·have:=hE.pvlt s (by omega); omega
 ·show W s (if s=a then c else pv s)=1
  by_cases e:s=a
  ·subst e; rw [if_pos rfl]; exact h.piv
  ·rw [if_neg e]; exact hE.one s (by omega)
 ·show W i (if s=a then c else pv s)=0
  by_cases e:s=a
  ·subst e; rw [if_pos rfl]; exact h.clr i hi hi hne
  ·rw [if_neg e]; exact hE.zero s (by omega) i hi hne
 ·have hj:j<if s=a then c else pv s:=hj
  by_cases e:s=a
  ·subst e
   rw [if_pos rfl] at hj
   exact hE.below s (Nat.le_refl _) ha j hj
  ·rw [if_neg e] at hj
   exact hE.lead s (by omega) j hj
 by_cases e:j=c
 ·subst e; exact h.clr i hi2 hi2 (by omega)
 ·exact hE.below i (by omega) hi2 j (by omega)
end
inductive RowOps (q:Nat) (add mul:Nat->Nat->Nat) (n k:Nat) (V:Nat->Nat->Nat):(Nat->Nat->Nat)->Prop
 | refl:RowOps q add mul n k V V
 | swap {W:Nat->Nat->Nat} (h:RowOps q add mul n k V W) {a t:Nat} (ha:a<n) (ht:t<n):RowOps q add mul n k V (fun u=>if u=a then W t else if u=t then W a else W u)
 | scale {W:Nat->Nat->Nat} (h:RowOps q add mul n k V W) {a d:Nat} (ha:a<n) (hd:d<q) (hd0:d≠0):RowOps q add mul n k V (fun u=>if u=a then fun j=>mul d (W a j) else W u)
 | add {W:Nat->Nat->Nat} (h:RowOps q add mul n k V W) {i a e:Nat} (hi:i<n) (ha:a<n) (hne:i≠a) (he:e<q):RowOps q add mul n k V (fun u=>if u=i then fun j=>add (W i j) (mul e (W a j)) else W u)
 | eq {W W':Nat->Nat->Nat} (h:RowOps q add mul n k V W) (e:∀ i,i<n->∀ j,j<k->W i j=W' i j):RowOps q add mul n k V W'
theorem EchN.congr {q n k c a:Nat} {pv:Nat->Nat} {W W':Nat->Nat->Nat} (h:EchN q n k c a pv W) (hck:c<=k) (e:∀ i,i<n->∀ j,j<k->W i j=W' i j):EchN q n k c a pv W':=by
 have hp:∀ s,s<a->pv s<k:=fun s hs=>by have:=h.pvlt s hs; omega
 have b:=h.le
 refine ⟨h.le,fun i hi j hj=>by rw [<-e i hi j hj]; exact h.lt i hi j hj,h.inc,h.pvlt,fun s hs=>by rw [<-e s (by omega) _ (hp s hs)]; exact h.one s hs,fun s hs i hi hne=>by rw [<-e i hi _ (hp s hs)]; exact h.zero s hs i hi hne,fun s hs j hj=>by rw [<-e s (by omega) j (by have:=hp s hs; omega)]; exact h.lead s hs j hj,fun i h1 h2 j hj=>by rw [<-e i h2 j (by omega)]; exact h.below i h1 h2 j hj⟩
structure El (q:Nat) where
 val:Nat
 lt:val<q
theorem El.ext' {q:Nat} {x y:El q} (h:x.val=y.val):x=y:=by
 cases x; cases y
 simp only at h
 subst h
 rfl
theorem zit {q:Nat} {add mul:Nat->Nat->Nat} (h:FieldLaws q add mul):∃ (_:Add (El q)) (_:Mul (El q)) (_:Neg (El q)) (_:Zero (El q)) (_:One (El q)),
  Fie (El q)/\(∀ x y:El q,(x+y).val=add x.val y.val)/\(∀ x y:El q,(x*y).val=mul x.val y.val)/\(0:El q).val=0/\(1:El q).val=1:=by
 have hn:∀ x:El q,∃ y:El q,add x.val y.val=0:=fun x=>by
  obtain ⟨y,hy,e⟩:=h.neg x.val x.lt
  exact ⟨⟨y,hy⟩,e⟩
 obtain ⟨ng,a⟩:=Classical.axiomOfChoice hn
 have h2:=h.two
 let iA:Add (El q):=⟨fun x y=>⟨add x.val y.val,h.addLt _ _⟩⟩
 let iM:Mul (El q):=⟨fun x y=>⟨mul x.val y.val,h.mulLt _ _⟩⟩
 let iN:Neg (El q):=⟨ng⟩
 let i0:Zero (El q):=⟨⟨0,by omega⟩⟩
 let i1:One (El q):=⟨⟨1,by omega⟩⟩
 refine ⟨iA,iM,iN,i0,i1,?_,fun _ _=>rfl,fun _ _=>rfl,rfl,rfl⟩
 refine ⟨fun x y z=>El.ext' ?_,fun x y=>El.ext' ?_,fun x=>El.ext' ?_,fun x=>El.ext' ?_,fun x y z=>El.ext' ?_,fun x y=>El.ext' ?_,fun x=>El.ext' ?_,fun x y z=>El.ext' ?_,fun x hx=>?_,fun he=>?_⟩
 ·exact h.addAssoc _ _ _ x.lt y.lt z.lt
 ·exact h.addComm _ _
 ·exact h.zeroAdd _ x.lt
 ·show add (ng x).val x.val=0
  rw [h.addComm]; exact a x
 ·exact h.mulAssoc _ _ _ x.lt y.lt z.lt
 ·exact h.mulComm _ _ x.lt y.lt
 ·exact h.oneMul _ x.lt
 ·exact h.distrib _ _ _ x.lt y.lt z.lt
 ·obtain ⟨y,hy,e⟩:=h.inv x.val x.lt (fun e=>hx (El.ext' e))
  exact ⟨⟨y,hy⟩,El.ext' e⟩
 have:=congrArg El.val he
 have h1:(1:Nat)=0:=this
 omega
def toEl (q:Nat) (hq:0<q) (x:Nat):El q:=⟨x % q,Nat.mod_lt _ hq⟩
theorem zal {q x:Nat} (hq:0<q) (h:x<q):(toEl q hq x).val=x:=Nat.mod_eq_of_lt h
theorem zdX {q x y:Nat} (hq:0<q) (hx:x<q) (hy:y<q) (h:toEl q hq x=toEl q hq y):x=y:=by
 rw [<-zal hq hx,<-zal hq hy,h]
theorem zjR {q:Nat} (hq:0<q) (x:El q):∃ a,a<q/\toEl q hq a=x:=⟨x.val,x.lt,El.ext' (zal hq x.lt)⟩
def wordK (q:Nat) (hq:0<q) (k:Nat) (x:Nat->Nat):List (El q):=(List.range k).map fun j=>toEl q hq (x j)
theorem zbf {q:Nat} (hq:0<q) (k:Nat) (x:Nat->Nat):(wordK q hq k x).length=k:=by simp [wordK]
theorem zgi {q:Nat} (hq:0<q) {k:Nat} {x y:Nat->Nat} (h:∀ j,j<k->x j=y j):wordK q hq k x=wordK q hq k y :=
 List.map_congr_left fun j hj=>by rw [h j (List.mem_range.1 hj)]
theorem ziu {q:Nat} (hq:0<q) {add mul:Nat->Nat->Nat} [iA:Add (El q)] (hF:FieldLaws q add mul) (ha:∀ x y:El q,(x+y).val=add x.val y.val) {k:Nat} {x y:Nat->Nat} (hx:∀ j,j<k->x j<q) (hy:∀ j,j<k->y j<q) :
  wordK q hq k (fun j=>add (x j) (y j))=addW (wordK q hq k x) (wordK q hq k y):=by
 unfold wordK addW
 rw [List.zipWith_map,List.zipWith_self]
 refine List.map_congr_left fun j hj=>El.ext' ?_
 rw [List.mem_range] at hj;rw [ha,zal hq (hF.addLt _ _),zal hq (hx j hj),zal hq (hy j hj)]
theorem zes {q:Nat} (hq:0<q) {add mul:Nat->Nat->Nat} [iM:Mul (El q)] (hF:FieldLaws q add mul) (hm:∀ x y:El q,(x*y).val=mul x.val y.val) {k d:Nat} {x:Nat->Nat} (hd:d<q) (hx:∀ j,j<k->x j<q) :
  wordK q hq k (fun j=>mul d (x j))=smulW (toEl q hq d) (wordK q hq k x):=by
 unfold wordK smulW
 rw [List.map_map]
 refine List.map_congr_left fun j hj=>El.ext' ?_
 rw [List.mem_range] at hj
 show (toEl q hq (mul d (x j))).val=(toEl q hq d*toEl q hq (x j)).val
 rw [hm,zal hq (hF.mulLt _ _),zal hq hd,zal hq (hx j hj)]
theorem RowOps.gen {q:Nat} (hq:0<q) {add mul:Nat->Nat->Nat} [iA:Add (El q)] [iM:Mul (El q)] [iN:Neg (El q)] [i0:Zero (El q)] [i1:One (El q)] (F:Fie (El q)) (hF:FieldLaws q add mul) (ha:∀ x y:El q,(x+y).val=add x.val y.val) (hm:∀ x y:El q,(x*y).val=mul x.val y.val) (h0:(0:El q).val=0) {n k:Nat} {V W:Nat->Nat->Nat}
  (hV:∀ i,i<n->∀ j,j<k->V i j<q) (h:RowOps q add mul n k V W):(∀ i,i<n->∀ j,j<k->W i j<q)/\∀ x,Gen k n (fun i=>wordK q hq k (W i)) x↔Gen k n (fun i=>wordK q hq k (V i)) x:=by
 induction h with
 | refl=>exact ⟨hV,fun _=>Iff.rfl⟩
 | @swap W h a t hx ht ih =>
  refine ⟨fun i hi j hj=>?_,fun x=>?_⟩
  ·show (if i=a then W t else if i=t then W a else W i) j<q
   split
   ·exact ih.1 t ht j hj
   ·split
    ·exact ih.1 a hx j hj
    ·exact ih.1 i hi j hj
  ·refine (Gen.congr (fun i _=>?_) x).trans ((Gen.swap hx ht x).trans (ih.2 x))
   show wordK q hq k (if i=a then W t else if i=t then W a else W i)=if i=a then wordK q hq k (W t) else if i=t then wordK q hq k (W a) else wordK q hq k (W i)
   split
   ·rfl
   ·split <;> rfl
 | @scale W h a d hx hd hd0 ih =>
  refine ⟨fun i hi j hj=>?_,fun x=>?_⟩
  ·show (if i=a then fun j=>mul d (W a j) else W i) j<q
   split
   ·exact hF.mulLt _ _
   ·exact ih.1 i hi j hj
  ·have b:toEl q hq d≠0:=fun e=>hd0 (by
    have:=congrArg El.val e
    rwa [zal hq hd,h0] at this)
   refine (Gen.congr (fun i _=>?_) x).trans ((Gen.scale F b hx x).trans (ih.2 x))
   show wordK q hq k (if i=a then fun j=>mul d (W a j) else W i)=if i=a then smulW (toEl q hq d) (wordK q hq k (W a)) else wordK q hq k (W i)
   split
   ·exact zes hq hF hm hd (ih.1 a hx)
   ·rfl
 | @add W h i a e hi hx b he ih =>
  refine ⟨fun u hu j hj=>?_,fun x=>?_⟩
  ·show (if u=i then fun j=>add (W i j) (mul e (W a j)) else W u) j<q
   split
   ·exact hF.addLt _ _
   ·exact ih.1 u hu j hj
  ·refine (Gen.congr (fun u _=>?_) x).trans ((Gen.addTo F (a:=toEl q hq e) hi hx (fun e=>b e.symm) (fun u _=>zbf hq k (W u)) x).trans (ih.2 x))
   show wordK q hq k (if u=i then fun j=>add (W i j) (mul e (W a j)) else W u)=if u=i then addW (wordK q hq k (W i)) (smulW (toEl q hq e) (wordK q hq k (W a))) else wordK q hq k (W u)
   split
   ·rw [ziu hq hF ha (ih.1 i hi) (fun j _=>hF.mulLt _ _),zes hq hF hm he (ih.1 a hx)]
   ·rfl
 | @eq W W' h e ih =>
  refine ⟨fun i hi j hj=>by rw [<-e i hi j hj]; exact ih.1 i hi j hj,fun x=>?_⟩
  rw [<-ih.2]
  exact Gen.congr (fun i hi=>zgi hq fun j hj=>(e i hi j hj).symm) x
end Go.Proofs.YtgekjfpapmlndaaGreat