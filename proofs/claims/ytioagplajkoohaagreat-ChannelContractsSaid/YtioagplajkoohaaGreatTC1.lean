/- Merged texts of a claim: Base, Tk, IntsAll, FldP, Own, Copy, NatLow, NatLo2, FldQ, TabRow, TabAll, ElAll, Elim, Same09, CanAll, Chk12, Null, CodeE, Dual12, WordsAll, AppCells, NatA, NatB, NatC, RatA, RatB, Rat13, RatC. -/
import Derived.Test.YtioagplajkoohaaGreatTF15
import Derived.Test.YtioagplajkoohaaGreatRows
import Derived.WalkKit
import Derived.WalkSpells
import Derived.WalkLawsBesides
import Derived.Deep.OwnRows
import Derived.ProofKit
import Derived.Deep.RegionHeld3
import Derived.Deep.Slices
import Derived.Lib.SmallJoins
import Derived.Deep.LoopGhost
import Derived.Deep.QuietTactic
import Derived.BigQuiet
import Derived.Deep.Cut
import Derived.Deep.CutBlock
import Derived.Deep.DeepCutAuto
import Derived.IntWalk
import Derived.StillTailTactics
import Derived.SizedLaws
import Derived.Deep.AppendSrc
import Derived.Maps.AppendAt
import Derived.Laws.Bits64b
import Derived.Shelf.Small.Bits
namespace Go.Proofs.YtioagplajkoohaaGreat
set_option maxRecDepth 100000
set_option maxHeartbeats 32000000
open Go.RowKit
open Go.ChangeShapes Go.WideShapes Go.ChangeAt
section
variable {P:Program} (w:World)
theorem step_append_one {ops:Array Oper} {o:Oper} {a:Act} {K:Act->World->Prop} {Q:Exit->Act->World->Prop} {E:Prop} (hgd:o.guard=none) (sl x:Operand) (t:TypeId)
  (ho:o.op=.call { callee:=.builtin .append,args:=#[sl,x],argTypes:=#[t,t] })
  (base:Nat) (e:TypeId) (i:TypeInfo) (z:Value) (s bytes:Nat) (ht:P.underlying t=some (.slice e)) (hi:P.info? e=some i) (hz:i.zero=some z)
  (hsize:i.size=s) (hby:i.bytes=bytes) (hzs:z.cells.size=s) (hs:0<s)
  (v:Value) (n:Nat) (f:Nat->Nat->Value) (hv:a.eval sl=v) (hown:Own w base e s v n f)
  (ad:Addr) (c:Nat) (hx:a.eval x=.slice (some ad) 1 c) (hnews:∀ j,j<s->w.cell? (ad.add j)=some (f n j)) (h1:∀ j,j<s->(f n j).oneCell'=true)
  (h63:n+1<=maxLen) (hbytes:(n+1)*bytes<=140737488355328) (hbase:base<=w.heap.size)
  (h:∀ v' w',Own w' base e s v' (n+1) f->w.grownBy w' v.ownBlock->(v'.ownBlock=v.ownBlock∨v'.ownBlock=some w.heap.size)->K (a.put o.dst v') w') :
  if Region.wanted o (yielded ops a.tmps)=true then Oper.wp P o a w K Q else E:=by
 have hw:Region.wanted o (yielded ops a.tmps)=true:=by simp [Region.wanted,hgd]
 rw [if_pos hw]
 obtain ⟨v',w',hrun,h2,h3,h4,_⟩:=zbA (P:=P) w base t o.type e i z s bytes ht hi hz hsize hby hzs hs v n f hown ad c hnews h1 h63 hbytes hbase
 unfold Oper.wp execOp
 simp only [ho,resolve,invoke,builtin,Sem.run_bind,Sem.run_pure,Result.andThen_ok,List.map_toArray,List.map_cons,List.map_nil,hv,hx,hrun]
 exact h v' w' h2 h3 h4
end
open Go.Shelf
namespace Fie
variable {K:Type} [Add K] [Mul K] [Neg K] [Zero K] [One K] (F:Fie K)
include F
theorem cancelR {x y z:K} (h:y+x=z+x):y=z:=F.cancel (x:=x) (by rw [F.addC,h,F.addC])
theorem negOne (x:K) : -1*x = -x:=by rw [F.negMul,F.oneM]
end Fie
def sumM {α:Type} (g:α->Rat):List α->Rat
 | []=>0
 | x :: l=>g x+sumM g l
section
variable {α β:Type} {g h:α->Rat}
theorem sumM_append (l m:List α):sumM g (l ++ m)=sumM g l+sumM g m:=by
 induction l with
 | nil=>show sumM g m=0+sumM g m; grind
 | cons a l ih=>show g a+sumM g (l ++ m)=g a+sumM g l+sumM g m; rw [ih]; grind
theorem sumM_map (k:β->α) (l:List β):sumM g (l.map k)=sumM (fun b=>g (k b)) l:=by
 induction l with
 | nil=>rfl
 | cons a l ih=>show g (k a)+sumM g (l.map k)=g (k a)+sumM (fun b=>g (k b)) l; rw [ih]
theorem sumM_flatMap (k:β->List α) (l:List β):sumM g (l.flatMap k)=sumM (fun b=>sumM g (k b)) l:=by
 induction l with
 | nil=>rfl
 | cons a l ih=>rw [List.flatMap_cons,sumM_append,ih]; rfl
theorem sumM_congr {l:List α} (e:∀ x,x ∈ l->g x=h x):sumM g l=sumM h l:=by
 induction l with
 | nil=>rfl
 | cons a l ih=>show g a+sumM g l=h a+sumM h l; rw [e a (by simp),ih fun x hx=>e x (by simp [hx])]
theorem sumM_add (l:List α):sumM (fun x=>g x+h x) l=sumM g l+sumM h l:=by
 induction l with
 | nil=>show (0:Rat)=0+0; grind
 | cons a l ih=>show g a+h a+sumM (fun x=>g x+h x) l=g a+sumM g l+(h a+sumM h l); rw [ih]; grind
theorem sumM_mul (c:Rat) (l:List α):sumM (fun x=>c*g x) l=c*sumM g l:=by
 induction l with
 | nil=>show (0:Rat)=c*0; grind
 | cons a l ih=>show c*g a+sumM (fun x=>c*g x) l=c*(g a+sumM g l); rw [ih]; grind
theorem sumM_zero (l:List α):sumM (fun _=>(0:Rat)) l=0:=by
 induction l with
 | nil=>rfl
 | cons a l ih=>show (0:Rat)+sumM (fun _=>(0:Rat)) l=0; rw [ih]; grind
theorem sumM_const (c:Rat) (l:List α):sumM (fun _=>c) l=c*(l.length:Nat):=by
 induction l with
 | nil=>show (0:Rat)=c*((0:Nat):Rat); grind
 | cons a l ih =>
  show c+sumM (fun _=>c) l=c*((l.length+1:Nat):Rat)
  rw [ih]
  have:((l.length+1:Nat):Rat)=(l.length:Nat)+1:=by simp
  rw [this]; grind
theorem sumM_perm {l m:List α} (p:l.Perm m):sumM g l=sumM g m:=by
 induction p with
 | nil=>rfl
 | cons x _ ih=>show g x+_=g x+_; rw [ih]
 | swap x y l=>show g y+(g x+sumM g l)=g x+(g y+sumM g l); grind
 | trans _ _ h1 h2=>exact h1.trans h2
theorem sumM_swap (l:List α) (m:List β) (k:α->β->Rat):sumM (fun a=>sumM (k a) m) l=sumM (fun b=>sumM (fun a=>k a b) l) m:=by
 induction l with
 | nil=>exact (sumM_zero m).symm
 | cons a l ih=>show sumM (k a) m+sumM (fun a=>sumM (k a) m) l=sumM (fun b=>k a b+sumM (fun a=>k a b) l) m; rw [ih,sumM_add]
end
open Classical in
theorem sumM_one {α:Type} {l:List α} (hn:l.Nodup) {a:α} (ha:a ∈ l) (p:α->Prop) (hp:∀ x,p x↔x=a) (g:α->Rat):sumM (fun x=>if p x then g x else 0) l=g a:=by
 induction l with
 | nil=>cases ha
 | cons b l ih =>
  rw [List.nodup_cons] at hn
  show (if p b then g b else 0)+sumM _ l=g a
  by_cases e:b=a
  ·subst e
   rw [if_pos ((hp b).2 rfl),sumM_congr (h:=fun _=>0) (fun x hx=>if_neg fun h=>hn.1 (by rw [<-(hp x).1 h]; exact hx)),sumM_zero]
   grind
  ·rw [if_neg (fun h=>e ((hp b).1 h)),ih hn.2 ((List.mem_cons.1 ha).resolve_left fun h=>e h.symm)]
   grind
open Classical in
theorem sumM_none {α:Type} (l:List α) (p:α->Prop) (hp:∀ x,¬ p x) (g:α->Rat):sumM (fun x=>if p x then g x else 0) l=0:=by
 rw [sumM_congr (h:=fun _=>0) (fun x _=>if_neg (hp x)),sumM_zero]
theorem perm_of_nodup' {α:Type}:∀ {l m:List α},l.Nodup->(∀ x,x ∈ l->x ∈ m)->m.length<=l.length->l.Perm m:=by
 classical
 intro l
 induction l with
 | nil =>
  intro m _ _ h
  obtain rfl:m=[]:=List.length_eq_zero_iff.1 (by simpa using h)
  exact List.Perm.refl _
 | cons a l ih =>
  intro m h1 h2 h3
  have ha:=h2 a (by simp)
  rw [List.nodup_cons] at h1
  have hl:=List.length_erase_of_mem ha
  have hp:=ih (m:=m.erase a) h1.2 (fun x hx=>(List.mem_erase_of_ne (fun e:x=a=>h1.1 (by rw [<-e]; exact hx))).2 (h2 x (by simp [hx]))) (by simp at h3; omega)
  exact (hp.cons a).trans (List.perm_cons_erase ha).symm
theorem sum_allW {K:Type} (L:List K) (n:Nat) (g:List K->Rat):sumM g (allW L (n+1))=sumM (fun w=>sumM (fun a=>g (a :: w)) L) (allW L n):=by
 show sumM g ((allW L n).flatMap _)=_
 rw [sumM_flatMap]
 exact sumM_congr fun w _=>by rw [sumM_map]
theorem allW_len {K:Type} (L:List K):∀ n x,x ∈ allW L n->x.length=n:=by
 intro n
 induction n with
 | zero=>intro x hx; simp [allW] at hx; rw [hx]; rfl
 | succ n ih =>
  intro x hx
  simp only [allW,List.mem_flatMap,List.mem_map] at hx
  obtain ⟨w,hw,a,_,rfl⟩:=hx
  simp [ih w hw]
section
variable {K:Type} [Add K] [Mul K] [Neg K] [Zero K] [One K]
def dotW:List K->List K->K
 | a :: x,b :: y=>a*b+dotW x y
 | _,_=>0
structure LinC (n:Nat) (C:List K->Prop):Prop where
 len:∀ x,C x->x.length=n
 zero:C (List.replicate n 0)
 add:∀ x y,C x->C y->C (addW x y)
 smul:∀ a x,C x->C (smulW a x)
def perpW (n:Nat) (C:List K->Prop) (x:List K):Prop:=x.length=n/\∀ y,C y->dotW x y=0
open Classical in
noncomputable def wtW (s t:Rat):List K->Rat
 | []=>1
 | a :: x=>(if a=0 then s else t)*wtW s t x
open Classical in
noncomputable def zW (L:List K) (n:Nat) (C:List K->Prop) (s t:Rat):Rat:=sumM (fun x=>if C x then wtW s t x else 0) (allW L n)
open Classical in
noncomputable def cntW (L:List K) (n:Nat) (C:List K->Prop):Rat:=sumM (fun x=>if C x then 1 else 0) (allW L n)
variable (F:Fie K)
include F
theorem dot_zero:∀ x:List K,∀ n,dotW x (List.replicate n 0)=0:=by
 intro x
 induction x with
 | nil=>intro n; rfl
 | cons a x ih =>
  intro n
  cases n with
  | zero=>rfl
  | succ n=>show a*0+dotW x (List.replicate n 0)=0; rw [F.mulZ,ih,F.addZ]
theorem dot_add:∀ x y z:List K,y.length=z.length->dotW x (addW y z)=dotW x y+dotW x z:=by
 intro x
 induction x with
 | nil=>intro y z _; show (0:K)=0+0; rw [F.addZ]
 | cons a x ih =>
  intro y z h
  cases y with
  | nil =>
   cases z with
   | nil=>show (0:K)=0+0; rw [F.addZ]
   | cons c z=>simp at h
  | cons b y =>
   cases z with
   | nil=>simp at h
   | cons c z =>
    show a*(b+c)+dotW x (addW y z)=a*b+dotW x y+(a*c+dotW x z)
    rw [ih y z (by simpa using h),F.dist,F.addA,F.addA,F.addL (a*c)]
theorem dot_smul (c:K):∀ x y:List K,dotW x (smulW c y)=c*dotW x y:=by
 intro x
 induction x with
 | nil=>intro y; show (0:K)=c*0; rw [F.mulZ]
 | cons a x ih =>
  intro y
  cases y with
  | nil=>show (0:K)=c*0; rw [F.mulZ]
  | cons b y =>
   show a*(c*b)+dotW x (smulW c y)=c*(a*b+dotW x y)
   rw [ih,F.dist,F.mulL]
theorem dot_addL:∀ x y z:List K,x.length=y.length->dotW (addW x y) z=dotW x z+dotW y z:=by
 intro x
 induction x with
 | nil =>
  intro y z h
  cases y with
  | nil=>show (0:K)=0+0; rw [F.addZ]
  | cons b y=>simp at h
 | cons a x ih =>
  intro y z h
  cases y with
  | nil=>simp at h
  | cons b y =>
   cases z with
   | nil=>show (0:K)=0+0; rw [F.addZ]
   | cons c z =>
    show (a+b)*c+dotW (addW x y) z=a*c+dotW x z+(b*c+dotW y z)
    rw [ih y z (by simpa using h),F.distR,F.addA,F.addA,F.addL (b*c)]
theorem dot_smulL (c:K):∀ x y:List K,dotW (smulW c x) y=c*dotW x y:=by
 intro x
 induction x with
 | nil=>intro y; show (0:K)=c*0; rw [F.mulZ]
 | cons a x ih =>
  intro y
  cases y with
  | nil=>show (0:K)=c*0; rw [F.mulZ]
  | cons b y =>
   show (c*a)*b+dotW (smulW c x) y=c*(a*b+dotW x y)
   rw [ih,F.dist,F.mulA]
theorem smul_rep (c:K) (n:Nat):smulW c (List.replicate n (0:K))=List.replicate n 0:=by
 unfold smulW
 rw [List.map_replicate,F.mulZ]
theorem add_rep:∀ x:List K,addW x (List.replicate x.length 0)=x:=by
 intro x
 induction x with
 | nil=>rfl
 | cons a x ih=>show (a+0) :: addW x (List.replicate x.length 0)=a :: x; rw [F.addZ,ih]
theorem sum_shift {L:List K} (hn:L.Nodup) (hc:∀ a,a ∈ L):∀ n (y:List K),y.length=n->∀ g:List K->Rat,sumM (fun x=>g (addW x y)) (allW L n)=sumM g (allW L n):=by
 intro n
 induction n with
 | zero =>
  intro y hy g
  obtain rfl:y=[]:=List.length_eq_zero_iff.1 hy
  rfl
 | succ n ih =>
  intro y hy g
  cases y with
  | nil=>simp at hy
  | cons b y =>
   rw [sum_allW,sum_allW]
   have hp:(L.map (·+b)).Perm L:=perm_of_nodup' (by
    rw [List.Nodup,List.pairwise_map]
    exact hn.imp fun h e=>h (F.cancelR e)) (fun x _=>hc x) (by simp)
   have e1:∀ w,sumM (fun a=>g (addW (a :: w) (b :: y))) L=sumM (fun a=>g (a :: addW w y)) L:=fun w=>by
    rw [<-sumM_perm (g:=fun a=>g (a :: addW w y)) hp,sumM_map]
    rfl
   rw [sumM_congr (fun w _=>e1 w)]
   exact ih y (by simpa using hy) fun w=>sumM (fun a=>g (a :: w)) L
end
theorem free_shape {K:Type} [Zero K] {L:List K} (hn:L.Nodup) (h0:(0:K) ∈ L) {n:Nat} {P Q:List K->Prop} (h:∀ a w,w.length=n->(P (a :: w)↔Q w)) :
  cntW L (n+1) P=(L.length:Nat)*cntW L n Q/\∀ s t,zW L (n+1) P s t=(s+(((L.length:Nat):Rat) - 1)*t)*zW L n Q s t:=by
 classical
 constructor
 ·unfold cntW
  rw [sum_allW,<-sumM_mul]
  refine sumM_congr fun w hw=>?_
  have hl:=allW_len L n w hw
  by_cases hQ:Q w
  ·rw [if_pos hQ,sumM_congr (h:=fun _=>1) (fun a _=>if_pos ((h a w hl).2 hQ)),sumM_const]; grind
  ·rw [if_neg hQ,sumM_congr (h:=fun _=>0) (fun a _=>if_neg fun e=>hQ ((h a w hl).1 e)),sumM_zero]; grind
 ·intro s t
  unfold zW
  rw [sum_allW,<-sumM_mul]
  refine sumM_congr fun w hw=>?_
  have hl:=allW_len L n w hw
  by_cases hQ:Q w
  ·rw [if_pos hQ,sumM_congr (h:=fun a=>wtW s t w*(if a=0 then s else t)) (fun a _=>by
    rw [if_pos ((h a w hl).2 hQ)]
    show (if a=0 then s else t)*wtW s t w=_
    grind),sumM_mul]
   have e1:sumM (fun a:K=>if a=0 then s else t) L=s+(((L.length:Nat):Rat) - 1)*t:=by
    have e2:sumM (fun a:K=>if a=0 then s else t) L=sumM (fun a:K=>(if a=0 then s - t else 0)+t) L:=sumM_congr fun a _=>by
     by_cases e:a=0
     ·rw [if_pos e,if_pos e]; grind
     ·rw [if_neg e,if_neg e]; grind
    rw [e2,sumM_add,sumM_const,sumM_one hn h0 (fun a=>a=0) (fun _=>Iff.rfl) (fun _=>s - t)]
    grind
   rw [e1]; grind
  ·rw [if_neg hQ,sumM_congr (h:=fun _=>0) (fun a _=>if_neg fun e=>hQ ((h a w hl).1 e)),sumM_zero]; grind
theorem graph_shape {K:Type} [Zero K] {L:List K} (hn:L.Nodup) (hc:∀ a,a ∈ L) {n:Nat} {P Q R:List K->Prop} (h1:∀ w,w.length=n->(Q w↔∃ a,P (a :: w))) (h2:∀ a b w,w.length=n->P (a :: w)->P (b :: w)->a=b) (h3:∀ w,w.length=n->(R w↔P (0 :: w))) :
  cntW L (n+1) P=cntW L n Q/\∀ s t,zW L (n+1) P s t=t*zW L n Q s t+(s - t)*zW L n R s t:=by
 classical
 constructor
 ·unfold cntW
  rw [sum_allW]
  refine sumM_congr fun w hw=>?_
  have hl:=allW_len L n w hw
  by_cases hQ:Q w
  ·obtain ⟨a,ha⟩:=(h1 w hl).1 hQ
   rw [if_pos hQ,sumM_one hn (hc a) (fun b=>P (b :: w)) (fun b=>⟨fun e=>h2 b a w hl e ha,fun e=>by rw [e]; exact ha⟩) (fun _=>1)]
  ·rw [if_neg hQ,sumM_none L (fun b=>P (b :: w)) (fun b e=>hQ ((h1 w hl).2 ⟨b,e⟩)) (fun _=>1)]
 ·intro s t
  unfold zW
  rw [sum_allW,<-sumM_mul,<-sumM_mul,<-sumM_add]
  refine sumM_congr fun w hw=>?_
  have hl:=allW_len L n w hw
  by_cases hQ:Q w
  ·obtain ⟨a,ha⟩:=(h1 w hl).1 hQ
   rw [if_pos hQ,sumM_one hn (hc a) (fun b=>P (b :: w)) (fun b=>⟨fun e=>h2 b a w hl e ha,fun e=>by rw [e]; exact ha⟩) (fun b=>wtW s t (b :: w))]
   show (if a=0 then s else t)*wtW s t w=_
   by_cases e:a=0
   ·subst e
    rw [if_pos rfl,if_pos ((h3 w hl).2 ha)]; grind
   ·rw [if_neg e,if_neg fun hr=>e (h2 _ _ w hl ha ((h3 w hl).1 hr))]; grind
  ·rw [if_neg hQ,if_neg (fun hr=>hQ ((h1 w hl).2 ⟨0,(h3 w hl).1 hr⟩)),sumM_none L (fun b=>P (b :: w)) (fun b e=>hQ ((h1 w hl).2 ⟨b,e⟩)) (fun b=>wtW s t (b :: w))]; grind
def rpow (q:Rat):Nat->Rat
 | 0=>1
 | n+1=>q*rpow q n
theorem rpow_ne {q:Rat} (h:q≠0):∀ n,rpow q n≠0:=by
 intro n
 induction n with
 | zero=>show (1:Rat)≠0; decide
 | succ n ih =>
  intro e
  have e:q*rpow q n=0:=e
  rcases Rat.mul_eq_zero.1 e with h1 | h1
  ·exact h h1
  ·exact ih h1
theorem LinC.punct {K:Type} [Add K] [Mul K] [Zero K] {n:Nat} {C:List K->Prop} (h:LinC (n+1) C):LinC n fun w=>∃ a,C (a :: w):=by
 refine ⟨fun x ⟨a,hx⟩=>by have:=h.len _ hx; simpa using this,⟨0,h.zero⟩,fun x y ⟨a,hx⟩ ⟨b,hy⟩=>⟨a+b,h.add _ _ hx hy⟩,fun c x ⟨a,hx⟩=>⟨c*a,h.smul c _ hx⟩⟩
theorem perp_cons {K:Type} [Add K] [Mul K] [Zero K] {n:Nat} {C:List K->Prop} (h:LinC (n+1) C) {a:K} {w:List K}:perpW (n+1) C (a :: w)↔w.length=n/\∀ b v,C (b :: v)->a*b+dotW w v=0:=by
 constructor
 ·rintro ⟨h1,h2⟩
  exact ⟨by simpa using h1,fun b v hv=>h2 _ hv⟩
 ·rintro ⟨h1,h2⟩
  refine ⟨by simp [h1],fun y hy=>?_⟩
  have hl:=h.len y hy
  cases y with
  | nil=>simp at hl
  | cons b v=>exact h2 b v hy
section
variable {K:Type} [Add K] [Mul K] [Neg K] [Zero K] [One K] (F:Fie K)
include F
theorem LinC.short {n:Nat} {C:List K->Prop} (h:LinC (n+1) C):LinC n fun w=>C (0 :: w):=by
 refine ⟨fun x hx=>by have:=h.len _ hx; simpa using this,h.zero,fun x y hx hy=>?_,fun a x hx=>?_⟩
 ·have:C ((0+0) :: addW x y):=h.add _ _ hx hy
  rwa [F.addZ] at this
 ·have:C ((a*0) :: smulW a x):=h.smul a _ hx
  rwa [F.mulZ] at this
theorem add_neg_self:∀ w:List K,addW w (smulW (-1) w)=List.replicate w.length 0:=by
 intro w
 induction w with
 | nil=>rfl
 | cons a w ih =>
  show (a + -1*a) :: addW w (smulW (-1) w)=0 :: List.replicate w.length 0
  rw [ih,F.negOne,F.addN]
theorem mac {L:List K} (hn:L.Nodup) (hc:∀ a,a ∈ L):∀ (n:Nat) (C:List K->Prop),LinC n C ->
  cntW L n C*cntW L n (perpW n C)=rpow (L.length:Nat) n/\∀ s t,cntW L n (perpW n C)*zW L n C s t=zW L n (perpW n C) (s+(((L.length:Nat):Rat) - 1)*t) (s - t):=by
 classical
 have hq0:((L.length:Nat):Rat)≠0:=by
  intro e
  have:L.length=0:=by simpa using e
  have hL:=List.length_eq_zero_iff.1 this
  have:=hc 0
  rw [hL] at this
  cases this
 intro n
 induction n with
 | zero =>
  intro C hC
  have h0:C []:=hC.zero
  have h1:perpW 0 C []:=⟨rfl,fun y _=>rfl⟩
  have e1:cntW L 0 C=1:=by
   show (if C [] then (1:Rat) else 0)+0=1
   rw [if_pos h0]; grind
  have e2:cntW L 0 (perpW 0 C)=1:=by
   show (if perpW 0 C [] then (1:Rat) else 0)+0=1
   rw [if_pos h1]; grind
  have e3:∀ s t,zW L 0 C s t=1:=fun s t=>by
   show (if C [] then (1:Rat) else 0)+0=1
   rw [if_pos h0]; grind
  have e4:∀ s t,zW L 0 (perpW 0 C) s t=1:=fun s t=>by
   show (if perpW 0 C [] then (1:Rat) else 0)+0=1
   rw [if_pos h1]; grind
  refine ⟨by rw [e1,e2]; show (1:Rat)*1=1; grind,fun s t=>by rw [e2,e3,e4]; grind⟩
 | succ n ih =>
  intro C hC
  obtain ⟨q,hq⟩:∃ q:Rat,q=((L.length:Nat):Rat):=⟨_,rfl⟩
  rw [<-hq] at hq0 ih ⊢
  obtain ⟨i1,i2⟩:=ih _ (hC.short F)
  by_cases hL:∀ a w,C (a :: w)->a=0
  ·have g1:=graph_shape (L:=L) hn hc (n:=n) (P:=C) (Q:=fun w=>C (0 :: w)) (R:=fun w=>C (0 :: w)) (fun w _=>⟨fun h=>⟨0,h⟩,fun ⟨a,h⟩=>by have:=hL a w h; subst this; exact h⟩) (fun a b w _ ha hb=>by rw [hL a w ha,hL b w hb]) (fun _ _=>Iff.rfl)
   have g2:=free_shape (L:=L) hn (hc 0) (n:=n) (P:=perpW (n+1) C) (Q:=perpW n fun w=>C (0 :: w)) (fun a w hw=>by
    rw [perp_cons hC]
    constructor
    ·rintro ⟨h1,h2⟩
     refine ⟨h1,fun v hv=>?_⟩
     have:=h2 0 v hv
     rwa [F.mulZ,F.zeroA] at this
    ·rintro ⟨h1,h2⟩
     refine ⟨h1,fun b v hv=>?_⟩
     have hb:=hL b v hv
     subst hb
     rw [F.mulZ,F.zeroA]
     exact h2 v hv)
   rw [<-hq] at g2
   refine ⟨?_,fun s t=>?_⟩
   ·rw [g1.1,g2.1]
    show _=q*rpow q n
    rw [<-i1]; grind
   ·rw [g1.2,g2.1,g2.2,<-i2]; grind
  ·obtain ⟨y,hy⟩:∃ y,C (1 :: y):=by
    simp only [Classical.not_forall] at hL
    obtain ⟨a,w,h,ha⟩:=hL
    obtain ⟨b,hb⟩:=F.inv a ha
    have:=hC.smul b _ h
    have e:smulW b (a :: w)=(b*a) :: smulW b w:=rfl
    rw [e,F.mulC,hb] at this
    exact ⟨_,this⟩
   have hyl:y.length=n:=by have:=hC.len _ hy; simpa using this
   by_cases hco:C (1 :: List.replicate n 0)
   ·have hfr:∀ a w,w.length=n->(C (a :: w)↔C (0 :: w)):=fun a w hw=>by
     have key:∀ a b,C (a :: w)->C ((a+b) :: w):=fun a b h=>by
      have h1:=hC.add _ _ h (hC.smul b _ hco)
      have e:addW (a :: w) (smulW b (1 :: List.replicate n 0))=(a+b*1) :: addW w (smulW b (List.replicate n 0)):=rfl
      rw [e,F.mulOne,smul_rep F] at h1
      have e2:=add_rep F w
      rw [hw] at e2
      rwa [e2] at h1
     constructor
     ·intro h
      have:=key a (-a) h
      rwa [F.addN] at this
     ·intro h
      have:=key 0 a h
      rwa [F.zeroA] at this
    have g1:=free_shape (L:=L) hn (hc 0) (n:=n) (P:=C) (Q:=fun w=>C (0 :: w)) hfr
    have hz:∀ a w,w.length=n->perpW (n+1) C (a :: w)->a=0:=fun a w hw h=>by
     have:=((perp_cons hC).1 h).2 1 _ hco
     rwa [F.mulOne,dot_zero F,F.addZ] at this
    have hd:∀ w,w.length=n->((perpW n fun w=>C (0 :: w)) w↔perpW (n+1) C (0 :: w)):=fun w hw=>by
     rw [perp_cons hC]
     constructor
     ·rintro ⟨h1,h2⟩
      refine ⟨h1,fun b v hv=>?_⟩
      have hvl:v.length=n:=by have:=hC.len _ hv; simpa using this
      rw [F.zMul,F.zeroA]
      exact h2 v ((hfr b v hvl).1 hv)
     ·rintro ⟨h1,h2⟩
      refine ⟨h1,fun v hv=>?_⟩
      have:=h2 0 v hv
      rwa [F.mulZ,F.zeroA] at this
    have g2:=graph_shape (L:=L) hn hc (n:=n) (P:=perpW (n+1) C) (Q:=perpW n fun w=>C (0 :: w)) (R:=perpW n fun w=>C (0 :: w)) (fun w hw=>⟨fun h=>⟨0,(hd w hw).1 h⟩,fun ⟨a,h⟩=>by
     have:=hz a w hw h
     subst this
     exact (hd w hw).2 h⟩) (fun a b w hw ha hb=>by rw [hz a w hw ha,hz b w hw hb]) hd
    rw [<-hq] at g1
    refine ⟨?_,fun s t=>?_⟩
    ·rw [g1.1,g2.1]
     show _=q*rpow q n
     rw [<-i1]; grind
    ·rw [g1.2,g2.1,g2.2,<-i2]; grind
   ·obtain ⟨j1,j2⟩:=ih _ hC.punct
    have huq:∀ a b w,w.length=n->C (a :: w)->C (b :: w)->a=b:=fun a b w hw ha hb=>by
     have h1:=hC.add _ _ ha (hC.smul (-1) _ hb)
     have e:addW (a :: w) (smulW (-1) (b :: w))=(a + -1*b) :: addW w (smulW (-1) w):=rfl
     rw [e,F.negOne,add_neg_self F,hw] at h1
     by_cases hab:a + -b=0
     ·exact F.subEq hab
     ·obtain ⟨c,hcc⟩:=F.inv _ hab
      have h2:=hC.smul c _ h1
      have e2:smulW c ((a + -b) :: List.replicate n (0:K))=(c*(a + -b)) :: smulW c (List.replicate n 0):=rfl
      rw [e2,smul_rep F,F.mulC,hcc] at h2
      exact absurd h2 hco
    have g1:=graph_shape (L:=L) hn hc (n:=n) (P:=C) (Q:=fun w=>∃ a,C (a :: w)) (R:=fun w=>C (0 :: w)) (fun _ _=>Iff.rfl) huq (fun _ _=>Iff.rfl)
    have hcnt:cntW L (n+1) C=q*cntW L n fun w=>C (0 :: w):=by
     have e0:cntW L (n+1) C=sumM (fun a=>sumM (fun w=>if C (a :: w) then 1 else 0) (allW L n)) L:=by
      unfold cntW
      rw [sum_allW,sumM_swap]
     rw [e0,sumM_congr (h:=fun _=>cntW L n fun w=>C (0 :: w)) (fun a _=>?_),sumM_const,<-hq]
     ·grind
     ·rw [<-sum_shift F hn hc n (smulW a y) (by rw [zdZ,hyl])]
      refine sumM_congr fun w hw=>?_
      have hl:=allW_len L n w hw
      have hiff:C (a :: addW w (smulW a y))↔C (0 :: w):=by
       constructor
       ·intro h
        have h1:=hC.add _ _ h (hC.smul (-a) _ hy)
        have e:addW (a :: addW w (smulW a y)) (smulW (-a) (1 :: y))=(a + -a*1) :: addW (addW w (smulW a y)) (smulW (-a) y):=rfl
        rw [e,F.mulOne,F.addN,zi3 F a w y (by rw [hl,hyl])] at h1
        exact h1
       ·intro h
        have h1:=hC.add _ _ h (hC.smul a _ hy)
        have e:addW (0 :: w) (smulW a (1 :: y))=(0+a*1) :: addW w (smulW a y):=rfl
        rw [e,F.mulOne,F.zeroA] at h1
        exact h1
      by_cases hP:C (0 :: w)
      ·rw [if_pos (hiff.2 hP),if_pos hP]
      ·rw [if_neg (fun h=>hP (hiff.1 h)),if_neg hP]
    have g2:=graph_shape (L:=L) hn hc (n:=n) (P:=perpW (n+1) C) (Q:=perpW n fun w=>C (0 :: w)) (R:=perpW n fun w=>∃ a,C (a :: w)) (fun w hw=>by
     constructor
     ·rintro ⟨h1,h2⟩
      refine ⟨-dotW w y,(perp_cons hC).2 ⟨h1,fun b v hv=>?_⟩⟩
      have hvl:v.length=n:=by have:=hC.len _ hv; simpa using this
      have h3:=hC.add _ _ hv (hC.smul (-b) _ hy)
      have e:addW (b :: v) (smulW (-b) (1 :: y))=(b + -b*1) :: addW v (smulW (-b) y):=rfl
      rw [e,F.mulOne,F.addN] at h3
      have h4:=h2 _ h3
      rw [dot_add F w v _ (by rw [zdZ,hvl,hyl]),dot_smul F,F.negMul] at h4
      rw [F.negMul,F.addC,F.mulC]
      exact h4
     ·rintro ⟨a,h⟩
      obtain ⟨h1,h2⟩:=(perp_cons hC).1 h
      refine ⟨h1,fun v hv=>?_⟩
      have:=h2 0 v hv
      rwa [F.mulZ,F.zeroA] at this) (fun a b w hw ha hb=>by
     have h1:=((perp_cons hC).1 ha).2 1 y hy
     have h2:=((perp_cons hC).1 hb).2 1 y hy
     rw [F.mulOne] at h1 h2
     exact F.cancelR (x:=dotW w y) (h1.trans h2.symm)) (fun w hw=>by
     rw [perp_cons hC]
     constructor
     ·rintro ⟨h1,h2⟩
      exact ⟨h1,fun b v hv=>by rw [F.zMul,F.zeroA]; exact h2 v ⟨b,hv⟩⟩
     ·rintro ⟨h1,h2⟩
      refine ⟨h1,fun v ⟨b,hv⟩=>?_⟩
      have:=h2 b v hv
      rwa [F.zMul,F.zeroA] at this)
    have hrn:=rpow_ne hq0 n
    have hk:cntW L n (perpW n fun w=>C (0 :: w))=q*cntW L n (perpW n fun w=>∃ a,C (a :: w)):=by
     have hcc:cntW L n (fun w=>∃ a,C (a :: w))=q*cntW L n fun w=>C (0 :: w):=by rw [<-g1.1,hcnt]
     rw [hcc] at j1
     have h0:cntW L n (fun w=>C (0 :: w))≠0:=fun e=>hrn (by rw [<-i1,e]; grind)
     have e3:cntW L n (fun w=>C (0 :: w))*(cntW L n (perpW n fun w=>C (0 :: w)) - q*cntW L n (perpW n fun w=>∃ a,C (a :: w)))=0:=by grind
     rcases Rat.mul_eq_zero.1 e3 with h | h
     ·exact absurd h h0
     ·grind
    refine ⟨?_,fun s t=>?_⟩
    ·rw [hcnt,g2.1]
     show _=q*rpow q n
     rw [<-i1]; grind
    ·have k1:=i2 s t
     have k2:=j2 s t
     rw [g1.2,g2.1,g2.2,<-k1,<-k2,hk]; grind
end
theorem Gen.linC {K:Type} [Add K] [Mul K] [Zero K] {k n:Nat} {r:Nat->List K} (hr:∀ i,i<n->(r i).length=k):LinC k (Gen k n r):=by
 refine ⟨fun x hx=>?_,.zero,fun _ _ hx hy=>.add hx hy,fun a _ hx=>.smul a hx⟩
 induction hx with
 | zero=>simp
 | row i hi=>exact hr i hi
 | add _ _ h1 h2=>rw [zgB (by rw [h1,h2]),h1]
 | smul a _ h=>rw [zdZ,h]
section
variable {K:Type} [Add K] [Mul K] [Neg K] [Zero K] [One K] (F:Fie K)
include F
theorem Gen.perp {k n:Nat} {r:Nat->List K} (hl:∀ i,i<n->(r i).length=k) {x:List K} (h:∀ i,i<n->dotW x (r i)=0):∀ y,Gen k n r y->dotW x y=0:=by
 have hlen:=(Gen.linC hl).len
 intro y hy
 induction hy with
 | zero=>exact dot_zero F x k
 | row i hi=>exact h i hi
 | add h1 h2 i1 i2=>rw [dot_add F x _ _ (by rw [hlen _ h1,hlen _ h2]),i1,i2,F.addZ]
 | smul a _ ih=>rw [dot_smul F,ih,F.mulZ]
end
section
variable {K:Type} [Add K] [Mul K] [Neg K] [Zero K] [One K]
variable (F:Fie K)
include F
theorem sumK_two {n t u:Nat} {f:Nat->K} (ht:t<n) (hu:u<n) (htu:t≠u) (h:∀ i,i<n->i≠t->i≠u->f i=0):sumK n f=f t+f u:=by
 induction n with
 | zero=>omega
 | succ n ih =>
  show sumK n f+f n=f t+f u
  by_cases e:t=n
  ·subst e
   rw [ze3 F (t:=u) (by omega) fun i hi hne=>h i (by omega) (by omega) hne,F.addC]
  ·by_cases e2:u=n
   ·subst e2
    rw [ze3 F (t:=t) (by omega) fun i hi hne=>h i (by omega) hne (by omega)]
   ·rw [ih (by omega) (by omega) fun i hi=>h i (by omega),h n (by omega) (by omega) (by omega),F.addZ]
theorem sumK_neg (n:Nat) (f:Nat->K):sumK n (fun i => - f i) = - sumK n f:=by
 rw [<-F.negOne (sumK n f),<-zgF F]
 exact zbL fun i _=>(F.negOne _).symm
theorem sumK_shift (n:Nat) (f:Nat->K):sumK (n+1) f=f 0+sumK n (fun i=>f (i+1)):=by
 induction n with
 | zero=>show 0+f 0=f 0+0; rw [F.zeroA,F.addZ]
 | succ n ih =>
  show sumK (n+1) f+f (n+1)=f 0+(sumK n (fun i=>f (i+1))+f (n+1))
  rw [ih,F.addA]
theorem dot_sum:∀ {k:Nat} {x y:List K},x.length=k->y.length=k->dotW x y=sumK k (fun j=>ent x j*ent y j):=by
 intro k
 induction k with
 | zero=>intro x y hx hy; rw [List.length_eq_zero_iff] at hx hy; subst hx hy; rfl
 | succ k ih =>
  intro x y hx hy
  match x,y,hx,hy with
  | a :: x,b :: y,hx,hy =>
   rw [sumK_shift F]
   show a*b+dotW x y=_
   rw [ih (by simpa using hx) (by simpa using hy)]
   rfl
end
section
variable {K:Type} [Add K] [Mul K] [Neg K] [Zero K] [One K] (F:Fie K)
include F
theorem dot_repL {k:Nat} {y:List K} (hy:y.length=k):dotW (List.replicate k (0:K)) y=0:=by
 rw [dot_sum F (by simp) hy]
 exact zc5 F fun j _=>by rw [zfD,F.zMul]
end
structure NullK {K:Type} [Neg K] [Zero K] [One K] (k a:Nat) (pv:Nat->Nat) (R:Nat->Nat->K) (f:Nat) (fr:Nat->Nat) (N:Nat->Nat->K):Prop where
 lt:∀ u,u<f->fr u<k
 ne:∀ u,u<f->∀ s,s<a->pv s≠fr u
 cover:∀ j,j<k->(∃ s,s<a/\pv s=j)∨∃ u,u<f/\fr u=j
 one:∀ u,u<f->N u (fr u)=1
 piv:∀ u,u<f->∀ s,s<a->N u (pv s) = - R s (fr u)
 other:∀ u,u<f->∀ v,v<f->v≠u->fr v≠fr u/\N u (fr v)=0
section
variable {K:Type} [Add K] [Mul K] [Neg K] [Zero K] [One K] (F:Fie K)
include F
theorem NullK.dot {k a f:Nat} {pv fr:Nat->Nat} {R N:Nat->Nat->K} (h:EchK k a pv R) (hn:NullK k a pv R f fr N) {u i:Nat} (hu:u<f) (hi:i<a):dotW (wd k (N u)) (wd k (R i))=0:=by
 rw [dot_sum F (zf3 _ _) (zf3 _ _),sumK_two F (hn.lt u hu) (h.pvlt i hi) (fun e=>hn.ne u hu i hi e.symm) fun j hj h1 h2=>?_]
 ·rw [zcG (hn.lt u hu),zcG (hn.lt u hu),zcG (h.pvlt i hi),zcG (h.pvlt i hi),hn.one u hu,hn.piv u hu i hi,h.one i hi,F.oneM,F.mulOne,F.addN]
 ·rw [zcG hj,zcG hj]
  rcases hn.cover j hj with ⟨s,hs,e⟩ | ⟨v,hv,e⟩
  ·rw [<-e,h.zero s i hs hi (fun e2=>h2 (by rw [<-e,e2])),F.mulZ]
  ·rw [<-e,(hn.other u hu v hv (fun e2=>h1 (by rw [<-e,e2]))).2,F.zMul]
theorem NullK.perp {k a f:Nat} {pv fr:Nat->Nat} {R N:Nat->Nat->K} (h:EchK k a pv R) (hn:NullK k a pv R f fr N) (x:List K):perpW k (Gen k a (fun i=>wd k (R i))) x↔Gen k f (fun i=>wd k (N i)) x:=by
 have hl:=(Gen.linC (n:=a) (r:=fun i=>wd k (R i)) (k:=k) fun i _=>zf3 k (R i)).len
 have back:∀ x,Gen k f (fun i=>wd k (N i)) x->x.length=k/\∀ y,Gen k a (fun i=>wd k (R i)) y->dotW x y=0:=by
  intro x hx
  induction hx with
  | zero=>exact ⟨by simp,fun y hy=>dot_repL F (hl y hy)⟩
  | row i hi=>exact ⟨zf3 _ _,Gen.perp F (fun i _=>zf3 k (R i)) fun s hs=>hn.dot F h hi hs⟩
  | add h1 h2 i1 i2=>exact ⟨by rw [zgB (by rw [i1.1,i2.1]),i1.1],fun y hy=>by rw [dot_addL F _ _ _ (by rw [i1.1,i2.1]),i1.2 y hy,i2.2 y hy,F.addZ]⟩
  | smul c h1 i1=>exact ⟨by rw [zdZ,i1.1],fun y hy=>by rw [dot_smulL F,i1.2 y hy,F.mulZ]⟩
 refine ⟨fun hx=>?_,fun hx=>back x hx⟩
 obtain ⟨hxl,hx⟩:=hx
 have hc:=zi9 k N (fun u=>ent x (fr u)) f (Nat.le_refl f)
 have hcl:=ze4 k N (fun u=>ent x (fr u)) f
 have hfr:∀ v,v<f->ent (comb k N (fun u=>ent x (fr u)) f) (fr v)=ent x (fr v):=fun v hv=>by
  rw [zcH _ _ (hn.lt v hv),ze3 F hv fun u hu hne=>by rw [(hn.other u hu v hv (fun e=>hne e.symm)).2,F.mulZ],hn.one v hv,F.mulOne]
 have e:x=comb k N (fun u=>ent x (fr u)) f:=by
  refine zgD hxl hcl fun j hj=>?_
  rcases hn.cover j hj with ⟨s,hs,e⟩ | ⟨v,hv,e⟩
  ·subst e
   have d1:=hx _ (.row (r:=fun i=>wd k (R i)) s hs)
   have d2:=(back _ hc).2 _ (.row (r:=fun i=>wd k (R i)) s hs)
   rw [dot_sum F hxl (zf3 _ _)] at d1
   rw [dot_sum F hcl (zf3 _ _)] at d2
   have d3:sumK k (fun j=>ent x j*ent (wd k (R s)) j + - (ent (comb k N (fun u=>ent x (fr u)) f) j*ent (wd k (R s)) j))=0:=by
    rw [zgE F,sumK_neg F,d1,d2,F.addN]
   rw [ze3 F (h.pvlt s hs) fun j hj hne=>?_] at d3
   ·rw [zcG (h.pvlt s hs),h.one s hs,F.mulOne,F.mulOne] at d3
    exact F.subEq d3
   ·rcases hn.cover j hj with ⟨t,ht,e⟩ | ⟨v,hv,e⟩
    ·rw [zcG hj,<-e,h.zero t s ht hs (fun e2=>hne (by rw [<-e,e2])),F.mulZ,F.mulZ,F.addN]
    ·rw [<-e,hfr v hv,F.addN]
  ·subst e
   exact (hfr v hv).symm
 rw [e]
 exact hc
end
theorem rowIs_put3 {w w':World} {g:Nat} {T:TypeId} {f:Nat->Value} {a b c:Value} (h:w.rowIs g T 3 f) (hw:w'=((w.setCell ⟨g,0,none⟩ a).setCell ⟨g,1,none⟩ b).setCell ⟨g,2,none⟩ c):w'.rowIs g T 3 (fldCell a b c)/\w.grownBy w' (some g):=by
 rw [hw]
 refine ⟨(((h.set 0 _).set 1 _).set 2 _).congr fun j hj=>?_,zaO (zaO (zcf _ _ _ _) _ _) _ _⟩
 match j,hj with
 | 0,_=>rfl
 | 1,_=>rfl
 | 2,_=>rfl
theorem rowIs_put5 {w w':World} {g:Nat} {T:TypeId} {f:Nat->Value} {a b c d e:Value} (h:w.rowIs g T 5 f) (hw:w'=((((w.setCell ⟨g,0,none⟩ a).setCell ⟨g,1,none⟩ b).setCell ⟨g,2,none⟩ c).setCell ⟨g,3,none⟩ d).setCell ⟨g,4,none⟩ e):w'.rowIs g T 5 (codCell a b c d e)/\w.grownBy w' (some g):=by
 rw [hw]
 refine ⟨(((((h.set 0 _).set 1 _).set 2 _).set 3 _).set 4 _).congr fun j hj=>?_,zaO (zaO (zaO (zaO (zcf _ _ _ _) _ _) _ _) _ _) _ _⟩
 match j,hj with
 | 0,_=>rfl
 | 1,_=>rfl
 | 2,_=>rfl
 | 3,_=>rfl
 | 4,_=>rfl
def FieldPost (P M:Int) (k:Nat) (f:Nat->Int) (w:World) (e:Ending) (w':World):Prop :=
 ∃ v,e=.returned (.agg #[.int .i64 P,.int .i64 M,v])/\Own w' w.heap.size 3 1 v k (fun j _=>.int .i64 (f j))/\Below w.heap.size w w'
theorem field12_any (P M:Int) (A:Option Addr) (k c:Nat) (f:Nat->Int) (w:World) (h:IntsR w w.heap.size A k f) (hk:k<=1048576) :
  Calls Tryz.prog 82 #[.agg #[.int .i64 P,.int .i64 M,.slice A k c]] w (FieldPost P M k f w):=by
 have HR:=hid h
 clear h
 have rf:=zaj (w:=w) (a:=.int .i64 P) (b:=.int .i64 M) (c:=.slice A k c) (T := 24)
 have hB:Below w.heap.size w (w.alloc (.cells #[.int .i64 P,.int .i64 M,.slice A k c] 24)):=(Below.refl _ _).alloc (Nat.le_refl _) _
 have hsz:(w.alloc (.cells #[.int .i64 P,.int .i64 M,.slice A k c] 24)).heap.size=w.heap.size+1:=by simp
 obtain ⟨w0,hw0⟩:∃ W,W=w.alloc (.cells #[.int .i64 P,.int .i64 M,.slice A k c] 24):=⟨_,rfl⟩
 have rm:=zaj (w:=w0) (a:=.int .i64 0) (b:=.int .i64 0) (c:=.slice none 0 0) (T := 24)
 have kb:Below w0.heap.size w0 (w0.alloc (.cells #[.int .i64 0,.int .i64 0,.slice none 0 0] 24)):=(Below.refl _ _).alloc (Nat.le_refl _) _
 obtain ⟨w1,hw1⟩:∃ W,W=w0.alloc (.cells #[.int .i64 0,.int .i64 0,.slice none 0 0] 24):=⟨_,rfl⟩
 rw [<-hw0] at hB rf hsz
 rw [<-hw1] at rm kb
 rw [hsz] at rm
 replace rf:=zaa rf kb
 replace hB:=onS hB kb
 go_enter Tryz.func82, Tryz.ntmps82
 go_upto_region 1 with fail
 rw [<-hw0,<-hw1]
 clear hw0 hw1 kb hsz
 have q0:w1.cell? ⟨w.heap.size,0,none⟩=some (.int .i64 P):=rf.cell (i:=0) (by omega)
 have q1:w1.cell? ⟨w.heap.size,1,none⟩=some (.int .i64 M):=rf.cell (i:=1) (by omega)
 have q2:w1.cell? ⟨w.heap.size,2,none⟩=some (.slice A k c):=rf.cell (i:=2) (by omega)
 go_wp2
 refine wp_region_held_drew (S:=fun w'=>w'.cell? ⟨w.heap.size,0,none⟩=some (.int .i64 P)/\w'.cell? ⟨w.heap.size,1,none⟩=some (.int .i64 M)/\w'.cell? ⟨w.heap.size,2,none⟩=some (.slice A k c)) (by kernel_rfl) ⟨cellS (Below.refl _ _).drew (q0),cellS (Below.refl _ _).drew (q1),cellS (Below.refl _ _).drew (q2)⟩ (fun hHeld=>?_)
 obtain ⟨w2,hw⟩:∃ W,W=World.drew w1:=⟨_,rfl⟩
 have kb:Below w1.heap.size w1 w2:=by rw [hw]; exact (Below.refl _ _).drew
 rw [<-hw] at hHeld ⊢
 clear hw
 replace rf:=zaa rf kb
 replace rm:=zaa rm kb
 replace hB:=onS hB kb
 replace q0:=cellS kb q0
 replace q1:=cellS kb q1
 replace q2:=cellS kb q2
 clear kb
 refine tkq 0 (h:=tkq 1 (h:=tkq 2 (h:=tkq 3 (h:=tkq 5 (h:=tkq 6 (h:=?_))))))
 refine rdq 4 (h:=fun K hK=>?_)
 go_simp
 obtain ⟨w3,hw⟩:∃ W,W=World.alloc w2 (Obj.cells #[] 3):=⟨_,rfl⟩
 have kb:Below w2.heap.size w2 w3:=by rw [hw]; exact (Below.refl _ _).alloc (Nat.le_refl _) _
 have n0:w3.rowIs w2.heap.size 3 0 (fun _=>undef):=by rw [hw]; exact ⟨_,zaG rfl,rfl,fun i hi=>absurd hi (by omega)⟩
 have hn0:w.heap.size<=w2.heap.size:=hB.size
 rw [<-hw]
 clear hw
 obtain ⟨b_n0,hb⟩:∃ b,b=w2.heap.size:=⟨_,rfl⟩
 rw [<-hb] at n0 hn0 ⊢
 clear hb
 replace rf:=zaa rf kb
 replace rm:=zaa rm kb
 replace hB:=onS hB kb
 replace q0:=cellS kb q0
 replace q1:=cellS kb q1
 replace q2:=cellS kb q2
 clear kb
 refine bkq hK ⟨q0,q1,q2⟩ (h:=fun hHeld=>?_)
 clear hK K
 refine rdq 7 (h:=fun K hK=>?_)
 have hsrc:=HR.out.on hB
 refine zbD (by rfl) (.tmp 7) (.tmp 9) (by rfl) (b0:=b_n0) (base:=w.heap.size) (by rfl) n0 hn0 (A:=A) (c:=c) (n:=k) (f:=f) (by rfl) hsrc hk ?_
 intro v7 w4 hv7 kb hat7
 clear hat7 n0 hn0 hsrc
 replace rf:=zaa rf kb
 replace rm:=zaa rm kb
 replace hB:=onS hB kb
 replace q0:=cellS kb q0
 replace q1:=cellS kb q1
 replace q2:=cellS kb q2
 clear kb
 have hne7:=zbn rm hv7 (by decide)
 obtain ⟨A7,c7,hsh⟩:=Own.shape hv7
 subst hsh
 refine bkq hK ⟨q0,q1,q2⟩ (h:=fun hHeld=>?_)
 clear hK K
 refine tkq 8 (h:=?_)
 refine rdq 9 (h:=fun K hK=>?_)
 have r0:=rm.frozen 0
 have s0:w4.cell? ⟨w.heap.size+1,0,none⟩=some _:=rm.cell (i:=0) (by omega)
 have r1:=rm.frozen 1
 have s1:w4.cell? ⟨w.heap.size+1,1,none⟩=some _:=rm.cell (i:=1) (by omega)
 have r2:=rm.frozen 2
 have s2:w4.cell? ⟨w.heap.size+1,2,none⟩=some _:=rm.cell (i:=2) (by omega)
 go_simp
 clear r0 s0 r1 s1 r2 s2
 generalize hw9:World.setCell _ _ _=w5
 obtain ⟨row9,hg9⟩:=rowIs_put3 rm hw9.symm
 clear hw9
 replace hv7:=Own.kept hv7 hg9 hne7
 replace hB:=hB.grown hg9 hB.size (fun q e=>by injection e with e; omega)
 have p0:=hg9.cell q0 (by simp)
 have p1:=hg9.cell q1 (by simp)
 have p2:=hg9.cell q2 (by simp)
 clear q0 q1 q2 rf
 clear hg9
 clear rm
 have rm:=row9
 clear row9
 refine bkq hK ⟨p0,p1,p2⟩ (h:=fun hHeld=>?_)
 clear hK K
 refine wpAnyH_done (by kernel_rfl) ?_ _
 clear hHeld
 have e0:w5.cell? ⟨w.heap.size+1,0,none⟩=some (.int .i64 P):=rm.cell (i:=0) (by omega)
 have e1:w5.cell? ⟨w.heap.size+1,1,none⟩=some (.int .i64 M):=rm.cell (i:=1) (by omega)
 have e2:w5.cell? ⟨w.heap.size+1,2,none⟩=some (.slice A7 k c7):=rm.cell (i:=2) (by omega)
 go_wp2
 refine bodyPost_ret (v:=.agg #[.int .i64 P,.int .i64 M,.slice A7 k c7]) (by simp [results,Tryz.results82, go_sem,e0,e1,e2]) rfl ?_
 exact ⟨_,rfl,hv7,hB⟩
def leadF (p:Nat->Nat):Nat->Nat->Int
 | 0,_ => -1
 | s+1,t=>if t=p s then (s:Int) else leadF p s t
theorem leadF_neg {p:Nat->Nat} {t:Nat}:∀ a,leadF p a t<0↔∀ s,s<a->p s≠t
 | 0=>⟨fun _ s hs=>absurd hs (by omega),fun _=>by show (-1:Int)<0; omega⟩
 | a + 1 => by
  show (if t=p a then (a:Int) else leadF p a t)<0↔_
  split
  ·rename_i h
   exact ⟨fun h2=>absurd h2 (by omega),fun h2=>absurd h.symm (h2 a (by omega))⟩
  ·rename_i h
   rw [leadF_neg a]
   constructor
   ·intro h2 s hs
    by_cases e:s=a
    ·subst e; exact fun e=>h e.symm
    ·exact h2 s (by omega)
   ·exact fun h2 s hs=>h2 s (by omega)
structure NullN (neg:Nat->Nat) (k a:Nat) (p:Nat->Nat) (W:Nat->Nat->Nat) (c f:Nat) (fr:Nat->Nat) (N:Nat->Nat->Nat):Prop where
 le:f<=c
 lt:∀ u,u<f->fr u<c
 inc:∀ u v,u<v->v<f->fr u<fr v
 ne:∀ u,u<f->∀ s,s<a->p s≠fr u
 cover:∀ j,j<c->(∃ s,s<a/\p s=j)∨∃ u,u<f/\fr u=j
 row:∀ u,u<f->∀ j,j<k->N u j=nrow neg p W (fr u) a j
section
variable {neg:Nat->Nat} {k a c f:Nat} {p fr:Nat->Nat} {W N:Nat->Nat->Nat}
theorem NullN.start:NullN neg k a p W 0 0 fr N:=⟨Nat.le_refl _,fun _ h=>absurd h (by omega),fun _ _ _ h=>absurd h (by omega),fun _ h=>absurd h (by omega),fun _ h=>absurd h (by omega),fun _ h=>absurd h (by omega)⟩
theorem NullN.skip (h:NullN neg k a p W c f fr N) (hp:∃ s,s<a/\p s=c):NullN neg k a p W (c+1) f fr N :=
 ⟨Nat.le_succ_of_le h.le,fun u hu=>Nat.lt_succ_of_lt (h.lt u hu),h.inc,h.ne,fun j hj=>by
  by_cases e:j=c
  ·subst e; exact .inl hp
  ·exact h.cover j (by omega),h.row⟩
theorem NullN.next {x:Nat->Nat} (h:NullN neg k a p W c f fr N) (hp:∀ s,s<a->p s≠c) (hx:∀ j,j<k->x j=nrow neg p W c a j):NullN neg k a p W (c+1) (f+1) (fun u=>if u=f then c else fr u) (fun u=>if u=f then x else N u):=by
 refine ⟨by have:=h.le; omega,fun u hu=>?_,fun u v huv hv=>?_,fun u hu s hs=>?_,fun j hj=>?_,fun u hu j hj=>?_⟩
 ·show (if u=f then c else fr u)<c+1
  split
  ·omega
  ·have:=h.lt u (by omega); omega
 ·show (if u=f then c else fr u)<if v=f then c else fr v
  rw [if_neg (by omega)]
  split
  ·exact h.lt u (by omega)
  ·exact h.inc u v huv (by omega)
 ·show p s≠if u=f then c else fr u
  split
  ·exact hp s hs
  ·exact h.ne u (by omega) s hs
 ·by_cases e:j=c
  ·subst e; exact .inr ⟨f,by omega,if_pos rfl⟩
  ·rcases h.cover j (by omega) with h1 | ⟨u,hu,h1⟩
   ·exact .inl h1
   ·exact .inr ⟨u,by omega,by show (if u=f then c else fr u)=j; rw [if_neg (by omega)]; exact h1⟩
 ·show (if u=f then x else N u) j=nrow neg p W (if u=f then c else fr u) a j
  split
  ·exact hx j hj
  ·exact h.row u (by omega) j hj
theorem nrow_lt {q:Nat} (hq:1<q) (hn:∀ x,neg x<q) (c:Nat):∀ a j,nrow neg p W c a j<q
 | 0,j=>by unfold nrow; split <;> omega
 | a+1,j=>by
  unfold nrow
  split
  ·exact hn _
  ·exact nrow_lt hq hn c a j
end
def NullPost (q:Nat) (add mul:Nat->Nat->Nat) (neg:Nat->Nat) (n k:Nat) (V:Nat->Nat->Nat) (w:World) (e:Ending) (w':World):Prop :=
 ∃ lv a p W f fr N a2 p2 W2,e=.returned lv/\MTab w' w.heap.size lv a2 k W2/\Below w.heap.size w w'/\EchN q n k k a p W/\RowOps q add mul n k V W /\
  NullN neg k a p W k f fr N/\EchN q f k k a2 p2 W2/\RowOps q add mul f k N W2
theorem null_any (P M:Nat) (A:Option Addr) (k c:Nat) (m:Nat->Nat) (T:Option Addr) (n d N:Nat) (V:Nat->Nat->Nat) (w:World) (hf:FieldOk P M m) (hm:ModOk w P M A m) (hkM:M=1∨k=M)
  (h:MRows w T n N V) (hV:∀ i,i<n->∀ j,j<N->V i j<P ^ M) (hN:0<N) (hN2:N<=1048576) (hn:n<=1048576) :
  Calls Tryz.prog 80 #[.agg #[.int .i64 (P:Nat),.int .i64 (M:Nat),.slice A k c],.slice T n d,.int .i64 (N:Nat)] w (NullPost (P ^ M) (addF P M) (mulF P M m) (negF P M) n N V w):=by
 have hfo:=hf.1
 have hL:=fieldLaws hf
 have hq2:1<P ^ M:=hL.two
 have hq256:=hfo.2.2.2
 have hP0:0<P:=by have:=hfo.1; omega
 have HQN:Hid (∀ x,negF P M x<P ^ M):=fun x=>zb6 hP0
 have hB:Below w.heap.size w (w.alloc (.cells #[.int .i64 (P:Nat),.int .i64 (M:Nat),.slice A k c] 24)):=(Below.refl _ _).alloc (Nat.le_refl _) _
 have rf:=zaj (w:=w) (a:=.int .i64 (P:Nat)) (b:=.int .i64 (M:Nat)) (c:=.slice A k c) (T := 24)
 obtain ⟨w0,hw0⟩:∃ W,W=w.alloc (.cells #[.int .i64 (P:Nat),.int .i64 (M:Nat),.slice A k c] 24):=⟨_,rfl⟩
 rw [<-hw0] at hB rf
 have hmk:=fun W=>zau (P:=Tryz.prog) 22 3 _ 8 Tryz.underlying22 Tryz.infoInt rfl (N:Int) (by omega) (by omega) (by omega) W
 simp only [Int.toNat_natCast] at hmk
 go_enter Tryz.func80, Tryz.ntmps80
 go_upto_region 1 with fail
 rw [<-hw0]
 clear hw0
 have q0:w0.cell? ⟨w.heap.size,0,none⟩=some (.int .i64 (P:Nat)):=rf.cell (i:=0) (by omega)
 have q1:w0.cell? ⟨w.heap.size,1,none⟩=some (.int .i64 (M:Nat)):=rf.cell (i:=1) (by omega)
 have q2:w0.cell? ⟨w.heap.size,2,none⟩=some (.slice A k c):=rf.cell (i:=2) (by omega)
 have hr0:MRows w0 T n N V:=h.on hB
 have hm0:=zaM hm hB
 go_wp2_with fail
 refine (zhX P M A k c m T n d N N V w0 hf hm0 hkM hr0 hV (Nat.le_refl _) hN hN2 hn).mono ?_
 rintro e w1 ⟨lv,pv,a,p,W,rfl,hM,hP,kb,hE,hR⟩
 have HSB:=hid hB.size
 replace hB:=onS hB kb
 replace rf:=zaa rf kb
 have HE:=hid hE
 have HR:=hid hR
 have han:=hE.le
 have HMW:=hid (hM.mono HSB.out)
 have HPW:=hid (hP.mono HSB.out)
 clear hM hP kb q0 q1 q2 hr0 hm0 hE hR h hV
 have HRF:=hid rf
 have HB1:=hid hB
 have HMO:=hid (zaM hm hB)
 obtain ⟨PA,pc,hpv⟩:=HPW.out.shape
 obtain ⟨LA,lc,hlv⟩:=HMW.out.shape
 subst hpv hlv
 have hlb:=rf.lt
 have hlb9:w.heap.size<=w1.heap.size:=by omega
 clear rf hB hm
 go_upto_region 3 with fail
 have ra:=World.rowIs_made w1 (.int .i64 0) N 3
 have kb:=(Below.refl w1.heap.size w1).alloc (Nat.le_refl _) (Obj.cells (madeCells #[Value.int .i64 0] N) 3)
 obtain ⟨w2,hw2⟩:∃ W,W=w1.alloc (Obj.cells (madeCells #[Value.int .i64 0] N) 3):=⟨_,rfl⟩
 obtain ⟨g,hg⟩:∃ b,b=w1.heap.size:=⟨_,rfl⟩
 rw [<-hw2] at kb ra ⊢
 rw [<-hg] at ra ⊢
 have hg1:w1.heap.size<=g:=by omega
 clear hw2 hg
 go_wp2
 go_loopg [10] N (fun gg iv wx=>∃ i:Nat,iv=.int .i64 (i:Nat)/\i<=N/\N<=i+gg/\wx.rowIs g 3 N (fun t=>.int .i64 (if t<i then -1 else 0))/\Below w1.heap.size w1 wx)
 case atStart=>exact ⟨0,rfl,by omega,by omega,ra.congr fun t _=>by rw [if_neg (by omega)],kb⟩
 case round =>
  clear ra kb
  obtain ⟨i,rfl,hi,hig,ra,kb⟩:=hrel
  have hi0:(0:Int)<=(i:Int):=by omega
  by_cases hlt:i<N
  ·have hlt':(i:Int)<(N:Int):=by omega
   have y0:=ra.cell hlt
   have z0:=ra.frozen i
   have HRA:=hid (ra.set i (.int .i64 (-1)))
   have HKB:=hid (kb.setCell (p:=⟨g,i,none⟩) hg1 (.int .i64 (-1)))
   clear ra kb
   go_wp2
   go_roundg (gk - 1)
   case measure=>omega
   case rel =>
    refine ⟨i+1,by go_num,by omega,by omega,HRA.out.congr fun t ht=>?_,HKB.out⟩
    by_cases e:t=i
    ·subst e; rw [if_pos rfl,if_pos (by omega)]
    ·rw [if_neg e]
     by_cases e2:t<i
     ·rw [if_pos e2,if_pos (by omega)]
     ·rw [if_neg e2,if_neg (by omega)]
  ·have hlt':¬ (i:Int)<(N:Int):=by omega
   obtain rfl:i=N:=by omega
   have HRA:=hid (ra.congr (g:=fun t=>.int .i64 (leadF p 0 t)) fun t ht=>by rw [if_pos ht]; rfl)
   clear ra
   go_wp2
   go_loopg [11] a (fun gg iv wx=>∃ s:Nat,iv=.int .i64 (s:Nat)/\s<=a/\a<=s+gg/\Hid (wx.rowIs g 3 i (fun t=>.int .i64 (leadF p s t)))/\Below w1.heap.size w1 wx)
   case atStart=>exact ⟨0,rfl,by omega,by omega,HRA,kb⟩
   case round =>
    clear HRA kb
    obtain ⟨s,rfl,hs,hsg,HRA,kb⟩:=hrel
    have hs0:(0:Int)<=(s:Int):=by omega
    by_cases hlt:s<a
    ·have hlt':(s:Int)<(a:Int):=by omega
     obtain ⟨pb,po,hPA,hpb,x0⟩:=(show IntsR w1 w1.heap.size PA a (fun s=>((p s:Nat):Int)) from HPW.out.rd rfl).at hlt
     subst hPA
     replace x0:=(kb.cell (p:=⟨pb,po+s,none⟩) hpb).trans x0
     obtain ⟨t,ht⟩:∃ t,t=p s:=⟨_,rfl⟩
     rw [<-ht] at x0
     have htN:t<i:=by rw [ht]; exact HE.out.pvlt s hlt
     have htN':(t:Int)<(i:Int):=by omega
     have y0:=HRA.out.cell htN
     have z0:=HRA.out.frozen t
     have HRN:=hid (HRA.out.set t (.int .i64 (s:Nat)))
     have HKB:=hid (kb.setCell (p:=⟨g,t,none⟩) hg1 (.int .i64 (s:Nat)))
     have HT:=hid ht
     clear HRA kb ht
     go_wp2
     go_roundg (gk - 1)
     case measure=>omega
     case rel =>
      refine ⟨s+1,by go_num,by omega,by omega,hid (HRN.out.congr fun u _=>?_),HKB.out⟩
      show (if u=t then Value.int .i64 (s:Nat) else .int .i64 (leadF p s u))=.int .i64 (if u=p s then (s:Int) else leadF p s u)
      rw [<-HT.out]
      split <;> rfl
    ·have hlt':¬ (s:Int)<(a:Int):=by omega
     obtain rfl:s=a:=by omega
     obtain ⟨wB,hwB⟩:∃ X,X=wr:=⟨_,rfl⟩
     rw [<-hwB] at HRA kb ⊢
     clear hwB
     have hBB:=hid (kb.trans (Below.refl _ _))
     have HMB:=hid (HMW.out.on kb)
     have HPB:=hid (HPW.out.on kb)
     have HRB:=hid (zaa HRF.out kb)
     have HTB:=hid (onS HB1.out kb)
     have HMOB:=hid (zaM HMO.out kb)
     have hgB:g<wB.heap.size:=HRA.out.lt
     have hwB9:w.heap.size<=wB.heap.size:=HTB.out.size
     have H0:=hid (MTab.nil wB wB.heap.size i (fun _ _=>0))
     clear kb hBB HMW HPW HRF HB1 HMO hlb hlb9 hg1
     go_wp2
     obtain ⟨nv,hnv⟩:∃ x:Value,x=.slice none 0 0:=⟨_,rfl⟩
     rw [<-hnv] at H0 ⊢
     clear hnv
     go_loopg [12,13,14,15] i (fun gg ov cv _ _ wx=>∃ c0 f:Nat,∃ fr NW,cv=.int .i64 (c0:Nat)/\c0<=i/\i<=c0+gg/\f<=c0/\Hid (NullN (negF P M) i s p W c0 f fr NW)/\Hid (MTab wx wB.heap.size ov f i NW)/\Below wB.heap.size wB wx)
     case atStart=>exact ⟨0,0,fun _=>0,fun _ _=>0,rfl,by omega,by omega,by omega,hid NullN.start,H0,Below.refl _ _⟩
     case round =>
      clear H0
      obtain ⟨c0,f,fr,NW,rfl,hc,hcg,hfc,HN,HO,hB2⟩:=hrel
      have hc00:(0:Int)<=(c0:Int):=by omega
      obtain ⟨gO,hgO⟩:∃ x,x=gk:=⟨_,rfl⟩
      rw [<-hgO] at hcg
      by_cases hcl:c0<i
      ·have hcl':(c0:Int)<(i:Int):=by omega
       have l0:=cellS hB2 (HRA.out.cell hcl)
       obtain ⟨lz,hlz⟩:∃ z,z=leadF p s c0:=⟨_,rfl⟩
       rw [<-hlz] at l0
       by_cases hneg:0<=lz
       ·have hneg':lz ≥ 0:=hneg
        have HNN:=hid (HN.out.skip (Classical.byContradiction fun hno=>by have:=(leadF_neg (p:=p) (t:=c0) s).2 fun u hu e=>hno ⟨u,hu,e⟩; rw [<-hlz] at this; omega))
        clear hlz
        go_wp2
        go_roundg (gO - 1)
        case measure=>omega
        case rel=>exact ⟨c0+1,f,fr,NW,by go_num,by omega,by omega,by omega,HNN,HO,hB2⟩
       ·have hneg':¬ lz ≥ 0:=hneg
        have HFREE:=hid ((leadF_neg (p:=p) (t:=c0) s).1 (by rw [<-hlz]; omega))
        clear hlz
        obtain ⟨wC,hwC⟩:∃ X,X=wr:=⟨_,rfl⟩
        rw [<-hwC] at HO hB2 l0 ⊢
        clear hwC
        have HBC:=hid hB2
        clear hB2
        go_upto_region 17 with fail
        have rx:=World.rowIs_made wC (.int .i64 0) i 3
        have kb:=(Below.refl wC.heap.size wC).alloc (Nat.le_refl _) (Obj.cells (madeCells #[Value.int .i64 0] i) 3)
        obtain ⟨w4,hw4⟩:∃ W,W=wC.alloc (Obj.cells (madeCells #[Value.int .i64 0] i) 3):=⟨_,rfl⟩
        obtain ⟨xb,hxb⟩:∃ b,b=wC.heap.size:=⟨_,rfl⟩
        rw [<-hw4] at kb rx ⊢
        rw [<-hxb] at rx ⊢
        have hxb1:wC.heap.size<=xb:=by omega
        clear hw4 hxb l0
        have y0:=rx.cell hcl
        have z0:=rx.frozen c0
        have HRX:=hid ((rx.set c0 (.int .i64 1)).congr (g:=fun t=>.int .i64 ((nrow (negF P M) p W c0 0 t:Nat):Int)) fun t _=>by
         show (if t=c0 then Value.int .i64 1 else .int .i64 0)=.int .i64 (((if t=c0 then 1 else 0:Nat)):Int)
         split <;> rfl)
        have HKB:=hid (kb.setCell (p:=⟨xb,c0,none⟩) hxb1 (.int .i64 1))
        clear rx kb
        go_wp2
        clear y0 z0
        obtain ⟨w5,hw5⟩:∃ W,W=w4.setCell ⟨xb,c0,none⟩ (.int .i64 1):=⟨_,rfl⟩
        rw [<-hw5] at HRX HKB ⊢
        clear hw5
        go_loopg [15] s (fun gg iv wx=>∃ t:Nat,iv=.int .i64 (t:Nat)/\t<=s/\s<=t+gg/\Hid (wx.rowIs xb 3 i (fun j=>.int .i64 ((nrow (negF P M) p W c0 t j:Nat):Int)))/\Hid (Below wC.heap.size wC wx))
        case atStart=>exact ⟨0,rfl,by omega,by omega,HRX,HKB⟩
        case round =>
         clear HRX HKB
         obtain ⟨t,rfl,ht,htg,HRX,HKB⟩:=hrel
         have ht0:(0:Int)<=(t:Int):=by omega
         by_cases htl:t<s
         ·have htl':(t:Int)<(s:Int):=by omega
          obtain ⟨pb,po,hPA,hpb,x0⟩:=(show IntsR wB wB.heap.size PA s (fun s=>((p s:Nat):Int)) from HPB.out.rd rfl).at htl
          subst hPA
          obtain ⟨tb,to0,RA,rc,hLA,_,htb,y0,_,hrow⟩:=HMB.out.row htl
          subst hLA
          obtain ⟨rb,ro,hRA,hrb,y1⟩:=(show IntsR wB wB.heap.size RA i (fun j=>((W t j:Nat):Int)) from hrow.rd rfl).at (i:=c0) hcl
          subst hRA
          clear hrow
          obtain ⟨pt,hpt⟩:∃ x,x=p t:=⟨_,rfl⟩
          obtain ⟨y,hy⟩:∃ y,y=W t c0:=⟨_,rfl⟩
          rw [<-hpt] at x0
          rw [<-hy] at y1
          have hptN:pt<i:=by rw [hpt]; exact HE.out.pvlt t htl
          have hptN':(pt:Int)<(i:Int):=by omega
          have hpt0:(0:Int)<=(pt:Int):=by omega
          have hiy:inV (P ^ M) (y:Nat)=y:=zaS (by rw [hy]; exact HE.out.lt t (by omega) c0 hcl)
          have HPT:=hid hpt
          have HY:=hid hy
          clear hpt hy
          have q0:wB.cell? ⟨w.heap.size,0,none⟩=some (.int .i64 (P:Nat)):=HRB.out.cell (i:=0) (by omega)
          have q1:wB.cell? ⟨w.heap.size,1,none⟩=some (.int .i64 (M:Nat)):=HRB.out.cell (i:=1) (by omega)
          have q2:wB.cell? ⟨w.heap.size,2,none⟩=some (.slice A k c):=HRB.out.cell (i:=2) (by omega)
          have HC0:=hid (cellS HBC.out q0)
          have HC1:=hid (cellS HBC.out q1)
          have HC2:=hid (cellS HBC.out q2)
          have HC3:=hid (cellS HBC.out x0)
          have HC4:=hid (cellS HBC.out y0)
          have HC5:=hid (cellS HBC.out y1)
          clear q0 q1 q2 x0 y0 y1
          obtain ⟨w1,hw1⟩:∃ X,X=wr:=⟨_,rfl⟩
          rw [<-hw1] at HRX HKB ⊢
          clear hw1
          have hBi:=HKB.out
          have rx:=HRX.out
          clear HKB HRX
          go_wp2
          refine wp_region_held_drew (S:=fun w'=>w'.cell? ⟨w.heap.size,0,none⟩=some (.int .i64 (P:Nat))/\w'.cell? ⟨w.heap.size,1,none⟩=some (.int .i64 (M:Nat))/\w'.cell? ⟨w.heap.size,2,none⟩=some (.slice A k c)/\w'.cell? ⟨pb,po+t,none⟩=some (.int .i64 (pt:Nat))/\w'.cell? ⟨tb,to0+t,none⟩=some (.slice (some ⟨rb,ro,none⟩) i rc)/\w'.cell? ⟨rb,ro+c0,none⟩=some (.int .i64 (y:Nat))) (by kernel_rfl) ⟨cellS (Below.refl _ _).drew (cellS hBi HC0.out),cellS (Below.refl _ _).drew (cellS hBi HC1.out),cellS (Below.refl _ _).drew (cellS hBi HC2.out),cellS (Below.refl _ _).drew (cellS hBi HC3.out),cellS (Below.refl _ _).drew (cellS hBi HC4.out),cellS (Below.refl _ _).drew (cellS hBi HC5.out)⟩ (fun hHeld=>?_)
          obtain ⟨w2,hw⟩:∃ W,W=World.drew w1:=⟨_,rfl⟩
          have kb:Below w1.heap.size w1 w2:=by rw [hw]; exact (Below.refl _ _).drew
          rw [<-hw] at hHeld ⊢
          clear hw
          replace rx:=zaa rx kb
          replace hBi:=onS hBi kb
          clear kb
          refine tkq 0 (h:=tkq 1 (h:=tkq 2 (h:=tkq 3 (h:=tkq 4 (h:=tkq 5 (h:=tkq 6 (h:=tkq 7 (h:=tkq 8 (h:=tkq 9 (h:=tkq 10 (h:=tkq 11 (h:=tkq 12 (h:=?_)))))))))))))
          refine rdq 13 (h:=fun K hK=>?_)
          go_simp
          go_wp2_with fail
          refine (zdV P M A k c (y:Nat) w2 hfo).mono ?_
          rintro e w3 ⟨rfl,kb⟩
          replace rx:=zaa rx kb
          replace hBi:=onS hBi kb
          clear kb
          rw [hiy]
          obtain ⟨r,hr⟩:∃ r,r=negF P M y:=⟨_,rfl⟩
          rw [<-hr]
          have HRR:=hid hr
          clear hr
          refine bkq hK ⟨cellS hBi HC0.out,cellS hBi HC1.out,cellS hBi HC2.out,cellS hBi HC3.out,cellS hBi HC4.out,cellS hBi HC5.out⟩ (h:=fun hHeld=>?_)
          clear hK K
          refine tkq 14 (h:=?_)
          refine rdq 15 (h:=fun K hK=>?_)
          have y0:=rx.cell hptN
          have z0:=rx.frozen pt
          have rx9:=rx.set pt (.int .i64 (r:Nat))
          have hBi9:=hBi.setCell (p:=⟨xb,pt,none⟩) hxb1 (.int .i64 (r:Nat))
          have RX9:=hid rx9
          have HB9:=hid hBi9
          clear rx hBi rx9 hBi9
          go_simp
          clear y0 z0
          have hBi:=HB9.out
          refine bkq hK ⟨cellS hBi HC0.out,cellS hBi HC1.out,cellS hBi HC2.out,cellS hBi HC3.out,cellS hBi HC4.out,cellS hBi HC5.out⟩ (h:=fun hHeld=>?_)
          clear hK K
          refine wpAnyH_done (by kernel_rfl) ?_ _
          clear hHeld
          clear hBi
          go_wp2
          go_roundg (gk - 1)
          case measure=>omega
          case rel =>
           refine ⟨t+1,by go_num,by omega,by omega,hid (RX9.out.congr fun j _=>?_),HB9⟩
           show (if j=pt then Value.int .i64 (r:Nat) else .int .i64 ((nrow (negF P M) p W c0 t j:Nat):Int))=.int .i64 (((if j=p t then negF P M (W t c0) else nrow (negF P M) p W c0 t j:Nat)):Int)
           rw [<-HPT.out,<-HY.out,<-HRR.out]
           split <;> rfl
         ·have htl':¬ (t:Int)<(s:Int):=by omega
          obtain rfl:t=s:=by omega
          have HNN:=hid (HN.out.next (x:=nrow (negF P M) p W c0 t) HFREE.out fun _ _=>rfl)
          have hxO:=zbv HRX.out (show wB.heap.size<=xb by have:=HBC.out.size; omega) (show i<=maxLen by unfold maxLen; omega)
          have kb:=(Below.refl wr.heap.size wr).alloc (Nat.le_refl _) (Obj.cells #[Value.slice (some ⟨xb,0,none⟩) i i] 22)
          have HX8:=hid (hxO.on kb)
          have HO8:=hid ((HO.out.on HKB.out).on kb)
          have HB8:=hid (onS (onS HBC.out HKB.out) kb)
          have HC8:Hid ((wr.alloc (Obj.cells #[Value.slice (some ⟨xb,0,none⟩) i i] 22)).cell? ((⟨wr.heap.size,0,none⟩:Addr).add 0)=some (.slice (some ⟨xb,0,none⟩) i i)):=tbox2
          have HZ8:=hid HB8.out.size
          have HFL:Hid (f<=1048576):=by show _<=_; omega
          clear hxO kb HRX HKB
          go_wp2_with (first | (at_builtin; (refine zcF rfl (.tmp 82) (.tmp 84) rfl HO8.out rfl (ad:=⟨wr.heap.size,0,none⟩) (c:=1) rfl HC8.out rfl HX8.out HZ8.out HFL.out ?_); intro v9 w9 o1 o2 o3))
          have HO9:=hid o1
          have HB9:=hid (HB8.out.grown o2 HZ8.out o3)
          clear o1 o2 o3
          go_wp2
          go_roundg (gO - 1)
          case measure=>omega
          case rel=>exact ⟨c0+1,f+1,_,_,by go_num,by omega,by omega,by omega,HNN,HO9,HB9.out⟩
      ·have hcl':¬ (c0:Int)<(i:Int):=by omega
       obtain rfl:c0=i:=by omega
       obtain ⟨OA,oc,hov⟩:=HO.out.shape
       subst hov
       have HNL:Hid (∀ u,u<f->∀ j,j<c0->NW u j<P ^ M):=fun u hu j hj=>by rw [HN.out.row u hu j hj]; exact nrow_lt hq2 HQN.out _ _ _
       have HMR:=hid (HO.out.rd hq256 HNL.out)
       have HBF:=hid (onS HTB.out hB2)
       have HMF:=hid (zaM HMOB.out hB2)
       have q0:wr.cell? ⟨w.heap.size,0,none⟩=some (.int .i64 (P:Nat)):=cellS hB2 (HRB.out.cell (i:=0) (by omega))
       have q1:wr.cell? ⟨w.heap.size,1,none⟩=some (.int .i64 (M:Nat)):=cellS hB2 (HRB.out.cell (i:=1) (by omega))
       have q2:wr.cell? ⟨w.heap.size,2,none⟩=some (.slice A k c):=cellS hB2 (HRB.out.cell (i:=2) (by omega))
       clear hB2
       go_wp2_with fail
       refine (zhX P M A k c m OA f oc c0 c0 NW wr hf HMF.out hkM HMR.out HNL.out (Nat.le_refl _) hN hN2 (by omega)).mono ?_
       rintro e w9 ⟨lv,pv,a2,p2,W2,rfl,hM2,hP2,kb,hE2,hR2⟩
       have hM9:=hM2.mono HBF.out.size
       have hB9:=onS HBF.out kb
       have HE2:=hid hE2
       have HR2:=hid hR2
       clear hM2 hP2 kb hE2 hR2 q0 q1 q2
       go_wp2
       go_ret
       exact ⟨_,s,p,W,f,fr,NW,a2,p2,W2,rfl,hM9,hB9,HE.out,HR.out,HN.out,HE2.out,HR2.out⟩
section
variable {w w':World} {P M k N n:Nat} {m:Nat->Nat} {A T:Option Addr} {V:Nat->Nat->Nat}
theorem CodeR.on (h:CodeR w P M m A k N T n V) (hb:Below w.heap.size w w'):CodeR w' P M m A k N T n V :=
 ⟨h.fld,h.ints.on hb,h.kM,h.ln1,h.ln2,h.rows.on hb,h.lt,h.rref⟩
theorem CodeR.mod (h:CodeR w P M m A k N T n V):ModOk w P M A m:=by
 rcases h.kM with ⟨h1,_⟩ | ⟨_,h2,h3⟩
 ·exact .inl h1
 ·subst h2; exact .inr ⟨h.ints,h3⟩
theorem CodeR.km (h:CodeR w P M m A k N T n V):M=1∨k=M:=by
 rcases h.kM with ⟨h1,_⟩ | ⟨_,h2,_⟩
 ·exact .inl h1
 ·exact .inr h2
theorem CodeR.k_le (h:CodeR w P M m A k N T n V):k<=8:=by
 have:=h.fld.1.2.2.1
 rcases h.kM with ⟨_,h1⟩ | ⟨_,h2,_⟩ <;> omega
end
def NullRel (q:Nat) (add mul:Nat->Nat->Nat) (neg:Nat->Nat) (n k:Nat) (V:Nat->Nat->Nat) (a2:Nat) (W2:Nat->Nat->Nat):Prop :=
 ∃ a p W f fr N p2,EchN q n k k a p W/\RowOps q add mul n k V W/\NullN neg k a p W k f fr N/\EchN q f k k a2 p2 W2/\RowOps q add mul f k N W2
def NullT (q:Nat) (add mul:Nat->Nat->Nat) (neg:Nat->Nat) (n k:Nat) (V:Nat->Nat->Nat) (w:World) (e:Ending) (w':World):Prop :=
 ∃ lv a2 W2,e=.returned lv/\MTab w' w.heap.size lv a2 k W2/\Below w.heap.size w w'/\NullRel q add mul neg n k V a2 W2
theorem NullPost.t {q n k:Nat} {add mul:Nat->Nat->Nat} {neg:Nat->Nat} {V:Nat->Nat->Nat} {w w':World} {e:Ending} (h:NullPost q add mul neg n k V w e w'):NullT q add mul neg n k V w e w':=by
 obtain ⟨lv,a,p,W,f,fr,N,a2,p2,W2,h1,h2,h3,h4,h5,h6,h7,h8⟩:=h
 exact ⟨lv,a2,W2,h1,h2,h3,a,p,W,f,fr,N,p2,h4,h5,h6,h7,h8⟩
theorem NullRel.rref {q n k a2:Nat} {add mul:Nat->Nat->Nat} {neg:Nat->Nat} {V W2:Nat->Nat->Nat} (h:NullRel q add mul neg n k V a2 W2):RrefN q a2 k W2:=by
 obtain ⟨a,p,W,f,fr,N,p2,_,_,_,h7,_⟩:=h
 exact ⟨p2,h7.top⟩
theorem parity_any (P M:Nat) (m:Nat->Nat) (A:Option Addr) (k c N:Nat) (T:Option Addr) (n d:Nat) (V:Nat->Nat->Nat) (w:World) (h:CodeR w P M m A k N T n V) :
  Calls Tryz.prog 19 #[.agg #[.int .i64 (P:Nat),.int .i64 (M:Nat),.slice A k c,.int .i64 (N:Nat),.slice T n d]] w (NullT (P ^ M) (addF P M) (mulF P M m) (negF P M) n N V w):=by
 have HC:=hid h
 have hn:=h.n_le
 have hN:=h.ln2
 have hN1:=h.ln1
 clear h
 have rf:=zbN (w:=w) (a:=.int .i64 (P:Nat)) (b:=.int .i64 (M:Nat)) (c:=.slice A k c) (d:=.int .i64 (N:Nat)) (e:=.slice T n d) (T := 27)
 have hB:Below w.heap.size w (w.alloc (.cells #[.int .i64 (P:Nat),.int .i64 (M:Nat),.slice A k c,.int .i64 (N:Nat),.slice T n d] 27)):=(Below.refl _ _).alloc (Nat.le_refl _) _
 obtain ⟨w1,hw1⟩:∃ W,W=w.alloc (.cells #[.int .i64 (P:Nat),.int .i64 (M:Nat),.slice A k c,.int .i64 (N:Nat),.slice T n d] 27):=⟨_,rfl⟩
 rw [<-hw1] at hB rf
 go_enter Tryz.func19, Tryz.ntmps19
 go_upto_region 1 with fail
 rw [<-hw1]
 clear hw1
 have q0:w1.cell? ⟨w.heap.size,0,none⟩=some (.int .i64 (P:Nat)):=rf.cell (i:=0) (by omega)
 have q1:w1.cell? ⟨w.heap.size,1,none⟩=some (.int .i64 (M:Nat)):=rf.cell (i:=1) (by omega)
 have q2:w1.cell? ⟨w.heap.size,2,none⟩=some (.slice A k c):=rf.cell (i:=2) (by omega)
 have q3:w1.cell? ⟨w.heap.size,3,none⟩=some (.int .i64 (N:Nat)):=rf.cell (i:=3) (by omega)
 have q4:w1.cell? ⟨w.heap.size,4,none⟩=some (.slice T n d):=rf.cell (i:=4) (by omega)
 go_wp2_with fail
 have h1:=HC.out.on hB
 refine (null_any P M A k c m T n d N V w1 h1.fld h1.mod h1.km h1.rows h1.lt (by omega) (by omega) (by omega)).mono ?_
 rintro e w2 hp
 obtain ⟨lv,a2,W2,rfl,hM,kb,hrel⟩:=hp.t
 have hM2:=hM.mono hB.size
 have hB2:=onS hB kb
 have HRel:=hid hrel
 clear hM kb hrel hp q0 q1 q2 q3 q4 h1 rf hB
 go_wp2
 go_ret
 exact ⟨_,a2,W2,rfl,hM2,hB2,HRel.out⟩
def MakePost (P M:Nat) (m:Nat->Nat) (k n' N:Nat) (V':Nat->Nat->Nat) (w:World) (e:Ending) (w':World):Prop :=
 ∃ v lv a p W,e=.returned (.agg #[.int .i64 (P:Nat),.int .i64 (M:Nat),v,.int .i64 (N:Nat),lv])/\Own w' w.heap.size 3 1 v k (fun j _=>.int .i64 (m j:Nat))/\MTab w' w.heap.size lv a N W/\Below w.heap.size w w' /\
  EchN (P ^ M) n' N N a p W/\RowOps (P ^ M) (addF P M) (mulF P M m) n' N V' W
theorem make_any (P M:Nat) (m:Nat->Nat) (A:Option Addr) (k c:Nat) (T:Option Addr) (n d N:Nat) (V:Nat->Nat->Nat) (w:World) (hf:FieldOk P M m) (hm:ModOk w P M A m) (hkM:M=1∨k=M) (hi:IntsR w w.heap.size A k (fun i=>(m i:Nat))) (hk:k<=8)
  (h:MRows w T n N V) (hV:∀ i,i<n->∀ j,j<N->V i j<P ^ M) (hN:0<N) (hN2:N<=1048576) (hn:n<=1048576) :
  Calls Tryz.prog 21 #[.agg #[.int .i64 (P:Nat),.int .i64 (M:Nat),.slice A k c],.slice T n d,.int .i64 (N:Nat)] w (MakePost P M m k n N V w):=by
 have HI:=hid hi
 clear hi
 have rf:=zaj (w:=w) (a:=.int .i64 (P:Nat)) (b:=.int .i64 (M:Nat)) (c:=.slice A k c) (T := 24)
 have hB:Below w.heap.size w (w.alloc (.cells #[.int .i64 (P:Nat),.int .i64 (M:Nat),.slice A k c] 24)):=(Below.refl _ _).alloc (Nat.le_refl _) _
 have hsz:(w.alloc (.cells #[.int .i64 (P:Nat),.int .i64 (M:Nat),.slice A k c] 24)).heap.size=w.heap.size+1:=by simp
 obtain ⟨w0,hw0⟩:∃ W,W=w.alloc (.cells #[.int .i64 (P:Nat),.int .i64 (M:Nat),.slice A k c] 24):=⟨_,rfl⟩
 have rm:=zbN (w:=w0) (a:=.int .i64 0) (b:=.int .i64 0) (c:=.slice none 0 0) (d:=.int .i64 0) (e:=.slice none 0 0) (T := 27)
 have kb:Below w0.heap.size w0 (w0.alloc (.cells #[.int .i64 0,.int .i64 0,.slice none 0 0,.int .i64 0,.slice none 0 0] 27)):=(Below.refl _ _).alloc (Nat.le_refl _) _
 obtain ⟨w1,hw1⟩:∃ W,W=w0.alloc (.cells #[.int .i64 0,.int .i64 0,.slice none 0 0,.int .i64 0,.slice none 0 0] 27):=⟨_,rfl⟩
 rw [<-hw0] at hB rf hsz
 rw [<-hw1] at rm kb
 rw [hsz] at rm
 replace rf:=zaa rf kb
 replace hB:=onS hB kb
 go_enter Tryz.func21, Tryz.ntmps21
 go_upto_region 1 with fail
 rw [<-hw0,<-hw1]
 clear hw0 hw1 kb hsz
 have q0:w1.cell? ⟨w.heap.size,0,none⟩=some (.int .i64 (P:Nat)):=rf.cell (i:=0) (by omega)
 have q1:w1.cell? ⟨w.heap.size,1,none⟩=some (.int .i64 (M:Nat)):=rf.cell (i:=1) (by omega)
 have q2:w1.cell? ⟨w.heap.size,2,none⟩=some (.slice A k c):=rf.cell (i:=2) (by omega)
 go_wp2_with fail
 refine (zhX P M A k c m T n d N N V w1 hf (zaM hm hB) hkM (h.on hB) hV (Nat.le_refl _) hN hN2 hn).mono ?_
 rintro e w2 ⟨lv,pv,a,p,W,rfl,hM,_,kb,hE,hR⟩
 replace hM:=hM.mono hB.size
 replace hB:=onS hB kb
 replace rf:=zaa rf kb
 replace rm:=zaa rm kb
 obtain ⟨LA,lc,hlv⟩:=hM.shape
 subst hlv
 have HE:=hid hE
 have HR:=hid hR
 clear q0 q1 q2 kb hE hR h hV
 have q0:w2.cell? ⟨w.heap.size,0,none⟩=some (.int .i64 (P:Nat)):=rf.cell (i:=0) (by omega)
 have q1:w2.cell? ⟨w.heap.size,1,none⟩=some (.int .i64 (M:Nat)):=rf.cell (i:=1) (by omega)
 have q2:w2.cell? ⟨w.heap.size,2,none⟩=some (.slice A k c):=rf.cell (i:=2) (by omega)
 go_wp2_with fail
 refine (field12_any (P:Nat) (M:Nat) A k c (fun i=>(m i:Nat)) w2 (HI.out.on hB) (by omega)).mono ?_
 rintro e w3 ⟨v,rfl,hv,kb⟩
 replace hv:=hv.mono hB.size
 replace hB:=onS hB kb
 replace rm:=zaa rm kb
 replace hM:=hM.on kb
 clear q0 q1 q2 kb rf
 have hne:=zbn rm hv (by decide)
 obtain ⟨VA,vc,hsh⟩:=hv.shape
 subst hsh
 have r0:=rm.frozen 0
 have r1:=rm.frozen 1
 have r2:=rm.frozen 2
 have r3:=rm.frozen 3
 have r4:=rm.frozen 4
 have s0:w3.cell? ⟨w.heap.size+1,0,none⟩=some _:=rm.cell (i:=0) (by omega)
 have s1:w3.cell? ⟨w.heap.size+1,1,none⟩=some _:=rm.cell (i:=1) (by omega)
 have s2:w3.cell? ⟨w.heap.size+1,2,none⟩=some _:=rm.cell (i:=2) (by omega)
 have s3:w3.cell? ⟨w.heap.size+1,3,none⟩=some _:=rm.cell (i:=3) (by omega)
 have s4:w3.cell? ⟨w.heap.size+1,4,none⟩=some _:=rm.cell (i:=4) (by omega)
 go_wp2
 clear r0 r1 r2 r3 r4 s0 s1 s2 s3 s4
 generalize hw9:World.setCell _ _ _=w4
 obtain ⟨row9,hg9⟩:=rowIs_put5 rm hw9.symm
 have hv9:=Own.kept hv hg9 hne
 have hM9:=hM.kept hg9 rm (by decide) (by decide)
 have hB9:=hB.grown hg9 hB.size (fun q e=>by injection e with e; omega)
 clear hw9 hg9 hv hM hB rm
 have e0:w4.cell? ⟨w.heap.size+1,0,none⟩=some (.int .i64 (P:Nat)):=row9.cell (i:=0) (by omega)
 have e1:w4.cell? ⟨w.heap.size+1,1,none⟩=some (.int .i64 (M:Nat)):=row9.cell (i:=1) (by omega)
 have e2:w4.cell? ⟨w.heap.size+1,2,none⟩=some (.slice VA k vc):=row9.cell (i:=2) (by omega)
 have e3:w4.cell? ⟨w.heap.size+1,3,none⟩=some (.int .i64 (N:Nat)):=row9.cell (i:=3) (by omega)
 have e4:w4.cell? ⟨w.heap.size+1,4,none⟩=some (.slice LA a lc):=row9.cell (i:=4) (by omega)
 refine bodyPost_ret (v:=.agg #[.int .i64 (P:Nat),.int .i64 (M:Nat),.slice VA k vc,.int .i64 (N:Nat),.slice LA a lc]) (by simp [results,Tryz.results21, go_sem,e0,e1,e2,e3,e4]) rfl ?_
 exact ⟨_,_,a,p,W,rfl,hv9,hM9,hB9,HE.out,HR.out⟩
def DualPost (P M:Nat) (m:Nat->Nat) (k n N:Nat) (V:Nat->Nat->Nat) (w:World) (e:Ending) (w':World):Prop :=
 ∃ v lv a W,e=.returned (.tuple #[.agg #[.int .i64 (P:Nat),.int .i64 (M:Nat),v,.int .i64 (N:Nat),lv],.int .i64 0])/\Own w' w.heap.size 3 1 v k (fun j _=>.int .i64 (m j:Nat))/\MTab w' w.heap.size lv a N W/\Below w.heap.size w w' /\
  NullRel (P ^ M) (addF P M) (mulF P M m) (negF P M) n N V a W
theorem FirstErr.zero_all:∀ {l:List (Prop × Int)} {v:Int},(∀ x ∈ l,x.1)->FirstErr l v->v=0
 | [],_,_,h=>h
 | (p,e) :: l,v,hp,h=>by
  rcases h with ⟨h1,_⟩ | ⟨_,h⟩
  ·exact absurd (hp (p,e) (by simp)) h1
  ·exact FirstErr.zero_all (fun x hx=>hp x (by simp [hx])) h
theorem natT_nat {V:Nat->Nat->Nat}:natT (fun i j=>(V i j:Int))=V:=by
 funext i j
 simp [natT]
theorem CodeR.errs {w:World} {P M k N n:Nat} {m:Nat->Nat} {A T:Option Addr} {V:Nat->Nat->Nat} (h:CodeR w P M m A k N T n V):FirstErr (CodeErrs (P:Int) (M:Int) k (fun i=>(m i:Int)) (N:Int) n (fun _=>N) (fun i j=>(V i j:Int))) 0:=by
 have hn:=h.n_le
 have h1:=h.ln1
 have h2:=h.ln2
 refine .inr ⟨?_,.inr ⟨⟨by omega,by omega⟩,.inr ⟨⟨by omega,by omega,by omega,fun i _=>rfl⟩,.inr ⟨?_,.inr ⟨?_,rfl⟩⟩⟩⟩⟩
 ·obtain ⟨h3,h4,h5,h6⟩:=h.fld
  refine ⟨P,M,rfl,rfl,h3,h4,?_⟩
  rcases h.kM with ⟨e1,e2⟩ | ⟨e1,e2,e3⟩
  ·exact .inl ⟨e1,e2⟩
  ·refine .inr ⟨e1,e2,fun i hi=>⟨Int.natCast_nonneg _,by have:=e3 i hi; show ((m i:Nat):Int)<(P:Int); omega⟩,?_⟩
   simp only [Int.toNat_natCast]
   exact h6
 ·rw [Int.toNat_natCast,Int.toNat_natCast]
  intro i hi j hj
  have:=h.lt i hi j hj
  exact ⟨Int.natCast_nonneg _,by show ((V i j:Nat):Int)<((P ^ M:Nat):Int); omega⟩
 ·rw [Int.toNat_natCast,Int.toNat_natCast,Int.toNat_natCast,natT_nat]
  exact h.rref
theorem dual12_any (P M:Nat) (m:Nat->Nat) (A:Option Addr) (k c N:Nat) (T:Option Addr) (n d:Nat) (V:Nat->Nat->Nat) (w:World) (h:CodeR w P M m A k N T n V) :
  Calls Tryz.prog 20 #[.agg #[.int .i64 (P:Nat),.int .i64 (M:Nat),.slice A k c,.int .i64 (N:Nat),.slice T n d]] w (DualPost P M m k n N V w):=by
 have HC:=hid h
 have hn:=h.n_le
 have hN:=h.ln2
 have hN1:=h.ln1
 have hk8:=h.k_le
 have hL:=fieldLaws h.fld
 have hq256:=h.fld.1.2.2.2
 clear h
 have rf:=zbN (w:=w) (a:=.int .i64 (P:Nat)) (b:=.int .i64 (M:Nat)) (c:=.slice A k c) (d:=.int .i64 (N:Nat)) (e:=.slice T n d) (T := 27)
 have hB:Below w.heap.size w (w.alloc (.cells #[.int .i64 (P:Nat),.int .i64 (M:Nat),.slice A k c,.int .i64 (N:Nat),.slice T n d] 27)):=(Below.refl _ _).alloc (Nat.le_refl _) _
 have hsz:(w.alloc (.cells #[.int .i64 (P:Nat),.int .i64 (M:Nat),.slice A k c,.int .i64 (N:Nat),.slice T n d] 27)).heap.size=w.heap.size+1:=by simp
 obtain ⟨w0,hw0⟩:∃ W,W=w.alloc (.cells #[.int .i64 (P:Nat),.int .i64 (M:Nat),.slice A k c,.int .i64 (N:Nat),.slice T n d] 27):=⟨_,rfl⟩
 have rm:=zbN (w:=w0) (a:=.int .i64 0) (b:=.int .i64 0) (c:=.slice none 0 0) (d:=.int .i64 0) (e:=.slice none 0 0) (T := 27)
 have kb:Below w0.heap.size w0 (w0.alloc (.cells #[.int .i64 0,.int .i64 0,.slice none 0 0,.int .i64 0,.slice none 0 0] 27)):=(Below.refl _ _).alloc (Nat.le_refl _) _
 obtain ⟨w1,hw1⟩:∃ W,W=w0.alloc (.cells #[.int .i64 0,.int .i64 0,.slice none 0 0,.int .i64 0,.slice none 0 0] 27):=⟨_,rfl⟩
 rw [<-hw0] at hB rf hsz
 rw [<-hw1] at rm kb
 rw [hsz] at rm
 replace rf:=zaa rf kb
 replace hB:=onS hB kb
 go_enter Tryz.func20, Tryz.ntmps20
 go_upto_region 1 with fail
 rw [<-hw0,<-hw1]
 clear hw0 hw1 kb hsz
 have q0:w1.cell? ⟨w.heap.size,0,none⟩=some (.int .i64 (P:Nat)):=rf.cell (i:=0) (by omega)
 have q1:w1.cell? ⟨w.heap.size,1,none⟩=some (.int .i64 (M:Nat)):=rf.cell (i:=1) (by omega)
 have q2:w1.cell? ⟨w.heap.size,2,none⟩=some (.slice A k c):=rf.cell (i:=2) (by omega)
 have q3:w1.cell? ⟨w.heap.size,3,none⟩=some (.int .i64 (N:Nat)):=rf.cell (i:=3) (by omega)
 have q4:w1.cell? ⟨w.heap.size,4,none⟩=some (.slice T n d):=rf.cell (i:=4) (by omega)
 go_wp2_with fail
 have h1:=HC.out.on hB
 refine (zf7 (P:Int) (M:Int) A k c _ (N:Int) T n d _ _ w1 h1.ints h1.rows).mono ?_
 rintro e w2 ⟨v,rfl,hv,kb⟩
 obtain rfl:v=0:=FirstErr.unique hv HC.out.errs
 replace rf:=zaa rf kb
 replace rm:=zaa rm kb
 replace hB:=onS hB kb
 clear kb q0 q1 q2 q3 q4 hv h1
 have q0:w2.cell? ⟨w.heap.size,0,none⟩=some (.int .i64 (P:Nat)):=rf.cell (i:=0) (by omega)
 have q1:w2.cell? ⟨w.heap.size,1,none⟩=some (.int .i64 (M:Nat)):=rf.cell (i:=1) (by omega)
 have q2:w2.cell? ⟨w.heap.size,2,none⟩=some (.slice A k c):=rf.cell (i:=2) (by omega)
 have q3:w2.cell? ⟨w.heap.size,3,none⟩=some (.int .i64 (N:Nat)):=rf.cell (i:=3) (by omega)
 have q4:w2.cell? ⟨w.heap.size,4,none⟩=some (.slice T n d):=rf.cell (i:=4) (by omega)
 go_wp2
 refine wp_region_held_drew (S:=fun w'=>w'.cell? ⟨w.heap.size,0,none⟩=some (.int .i64 (P:Nat))/\w'.cell? ⟨w.heap.size,1,none⟩=some (.int .i64 (M:Nat))/\w'.cell? ⟨w.heap.size,2,none⟩=some (.slice A k c)/\w'.cell? ⟨w.heap.size,3,none⟩=some (.int .i64 (N:Nat))/\w'.cell? ⟨w.heap.size,4,none⟩=some (.slice T n d)) (by kernel_rfl) ⟨cellS (Below.refl _ _).drew (q0),cellS (Below.refl _ _).drew (q1),cellS (Below.refl _ _).drew (q2),cellS (Below.refl _ _).drew (q3),cellS (Below.refl _ _).drew (q4)⟩ (fun hHeld=>?_)
 obtain ⟨w3,hw⟩:∃ W,W=World.drew w2:=⟨_,rfl⟩
 have kb:Below w2.heap.size w2 w3:=by rw [hw]; exact (Below.refl _ _).drew
 rw [<-hw] at hHeld ⊢
 clear hw
 replace rm:=zaa rm kb
 replace hB:=onS hB kb
 replace q0:=cellS kb q0
 replace q1:=cellS kb q1
 replace q2:=cellS kb q2
 replace q3:=cellS kb q3
 replace q4:=cellS kb q4
 clear kb
 refine tkq 0 (h:=tkq 1 (h:=tkq 2 (h:=tkq 4 (h:=tkq 5 (h:=?_)))))
 refine rdq 3 (h:=fun K hK=>?_)
 have h1:=HC.out.on hB
 have HSZ:=hid hB.size
 go_simp
 go_wp2_with fail
 refine (parity_any P M m A k c N T n d V w3 h1).mono ?_
 rintro e w4 ⟨lv,a2,W2,rfl,hM,kb,hrel⟩
 replace rm:=zaa rm kb
 replace hB:=onS hB kb
 replace q0:=cellS kb q0
 replace q1:=cellS kb q1
 replace q2:=cellS kb q2
 replace q3:=cellS kb q3
 replace q4:=cellS kb q4
 clear kb
 replace hM:=hM.mono HSZ.out
 have HREL:=hid hrel
 obtain ⟨LA,lc,hlv⟩:=hM.shape
 subst hlv
 clear hrel h1 HSZ
 refine bkq hK ⟨q0,q1,q2,q3,q4⟩ (h:=fun hHeld=>?_)
 clear hK K
 refine rdq 6 (h:=fun K hK=>?_)
 have h1:=HC.out.on hB
 have HSZ:=hid hB.size
 obtain ⟨p2,hE2⟩:=HREL.out.rref
 have HRD:=hid (hM.rd hq256 hE2.lt)
 have ha2:=hE2.le_c
 have HLT:=hid hE2.lt
 have HRR:=hid (⟨p2,hE2⟩:RrefN (P ^ M) a2 N W2)
 clear hM hE2
 go_simp
 go_wp2_with fail
 refine (make_any P M m A k c LA a2 lc N W2 w4 h1.fld h1.mod h1.km h1.ints hk8 HRD.out HLT.out (by omega) (by omega) (by omega)).mono ?_
 rintro e w5 ⟨v,lv,a,p,W,rfl,hv,hM,kb,hE,hR⟩
 replace rm:=zaa rm kb
 replace hB:=onS hB kb
 replace q0:=cellS kb q0
 replace q1:=cellS kb q1
 replace q2:=cellS kb q2
 replace q3:=cellS kb q3
 replace q4:=cellS kb q4
 clear kb
 obtain ⟨ea,eW⟩:=(zeE hL HLT.out hE hR).1 HRR.out
 subst ea
 replace hM:=(hM.congr eW).mono HSZ.out
 replace hv:=hv.mono HSZ.out
 have hne:=zbn rm hv (by decide)
 obtain ⟨VA,vc,hsh⟩:=hv.shape
 subst hsh
 obtain ⟨LB,lb,hlv⟩:=hM.shape
 subst hlv
 clear hE hR eW HRD HLT HRR h1 HSZ ha2
 refine bkq hK ⟨q0,q1,q2,q3,q4⟩ (h:=fun hHeld=>?_)
 clear hK K
 refine rdq 7 (h:=fun K hK=>?_)
 have r0:=rm.frozen 0
 have s0:w5.cell? ⟨w.heap.size+1,0,none⟩=some _:=rm.cell (i:=0) (by omega)
 have r1:=rm.frozen 1
 have s1:w5.cell? ⟨w.heap.size+1,1,none⟩=some _:=rm.cell (i:=1) (by omega)
 have r2:=rm.frozen 2
 have s2:w5.cell? ⟨w.heap.size+1,2,none⟩=some _:=rm.cell (i:=2) (by omega)
 have r3:=rm.frozen 3
 have s3:w5.cell? ⟨w.heap.size+1,3,none⟩=some _:=rm.cell (i:=3) (by omega)
 have r4:=rm.frozen 4
 have s4:w5.cell? ⟨w.heap.size+1,4,none⟩=some _:=rm.cell (i:=4) (by omega)
 go_simp
 clear r0 s0 r1 s1 r2 s2 r3 s3 r4 s4
 generalize hw9:World.setCell _ _ _=w6
 obtain ⟨row9,hg9⟩:=rowIs_put5 rm hw9.symm
 clear hw9
 replace hv:=Own.kept hv hg9 hne
 replace hM:=hM.kept hg9 rm (by decide) (by decide)
 replace hB:=hB.grown hg9 hB.size (fun q e=>by injection e with e; omega)
 have p0:=hg9.cell q0 (by simp)
 have p1:=hg9.cell q1 (by simp)
 have p2:=hg9.cell q2 (by simp)
 have p3:=hg9.cell q3 (by simp)
 have p4:=hg9.cell q4 (by simp)
 clear q0 q1 q2 q3 q4 rf
 clear hg9
 clear rm
 have rm:=row9
 clear row9
 refine bkq hK ⟨p0,p1,p2,p3,p4⟩ (h:=fun hHeld=>?_)
 clear hK K
 refine tkq 8 (h:=?_)
 refine wpAnyH_done (by kernel_rfl) ?_ _
 clear hHeld
 have e0:w6.cell? ⟨w.heap.size+1,0,none⟩=some (.int .i64 (P:Nat)):=rm.cell (i:=0) (by omega)
 have e1:w6.cell? ⟨w.heap.size+1,1,none⟩=some (.int .i64 (M:Nat)):=rm.cell (i:=1) (by omega)
 have e2:w6.cell? ⟨w.heap.size+1,2,none⟩=some (.slice VA k vc):=rm.cell (i:=2) (by omega)
 have e3:w6.cell? ⟨w.heap.size+1,3,none⟩=some (.int .i64 (N:Nat)):=rm.cell (i:=3) (by omega)
 have e4:w6.cell? ⟨w.heap.size+1,4,none⟩=some (.slice LB a lb):=rm.cell (i:=4) (by omega)
 go_wp2
 refine bodyPost_ret (v:=.tuple #[.agg #[.int .i64 (P:Nat),.int .i64 (M:Nat),.slice VA k vc,.int .i64 (N:Nat),.slice LB a lb],.int .i64 0]) (by simp [results,Tryz.results20, go_sem,e0,e1,e2,e3,e4]) rfl ?_
 exact ⟨_,_,a,W2,rfl,hv,hM,hB,HREL.out⟩
open Go
theorem refMul02_any (v v':Value) (r r':Rat) (N:Nat) (w:World) (h:RatRaw w w.heap.size v r N) (h':RatRaw w w.heap.size v' r' N) (hN:N<=33554432) (hr:rsz r N) (hr':rsz r' N) :
  Calls Tryz.prog 86 #[v,v'] w (RatPost (r*r') w):=by
 have hv:∃ s A n c A2 m c2,v=.agg #[.bool s,.slice A n c,.slice A2 m c2]:=by obtain ⟨s,A,n,c,A2,m,c2,x,y,rfl,_⟩:=h; exact ⟨s,A,n,c,A2,m,c2,rfl⟩
 obtain ⟨s,A,n,c,A2,m,c2,rfl⟩:=hv
 have hv':∃ s A n c A2 m c2,v'=.agg #[.bool s,.slice A n c,.slice A2 m c2]:=by obtain ⟨s,A,n,c,A2,m,c2,x,y,rfl,_⟩:=h'; exact ⟨s,A,n,c,A2,m,c2,rfl⟩
 obtain ⟨s',A',n',c',A2',m',c2',rfl⟩:=hv'
 have hb0:=zab w (.cells #[.bool s,.slice A n c,.slice A2 m c2] 49)
 have hb1:=zab (w.alloc (.cells #[.bool s,.slice A n c,.slice A2 m c2] 49)) (.cells #[.bool s',.slice A' n' c',.slice A2' m' c2'] 49)
 have s0:(w.alloc (.cells #[.bool s,.slice A n c,.slice A2 m c2] 49)).heap.size=w.heap.size+1:=by simp
 have s1:((w.alloc (.cells #[.bool s,.slice A n c,.slice A2 m c2] 49)).alloc (.cells #[.bool s',.slice A' n' c',.slice A2' m' c2'] 49)).heap.size=w.heap.size+1+1:=by simp
 have ra:=zaa (zae (w:=w) (a:=.bool s) (b:=.slice A n c) (c:=.slice A2 m c2) (T := 49)) hb1
 have rb:=zae (w:=w.alloc (.cells #[.bool s,.slice A n c,.slice A2 m c2] 49)) (a:=.bool s') (b:=.slice A' n' c') (c:=.slice A2' m' c2') (T := 49)
 have hB:=onS hb0 hb1
 rw [s0] at rb
 have ha:=h.on hB
 have hb:=h'.on hB
 have hb2:=zab ((w.alloc (.cells #[.bool s,.slice A n c,.slice A2 m c2] 49)).alloc (.cells #[.bool s',.slice A' n' c',.slice A2' m' c2'] 49)) (.cells #[.bool false,.slice none 0 0,.slice none 0 0] 49)
 have rz:=zae (w:=(w.alloc (.cells #[.bool s,.slice A n c,.slice A2 m c2] 49)).alloc (.cells #[.bool s',.slice A' n' c',.slice A2' m' c2'] 49)) (a:=.bool false) (b:=.slice none 0 0) (c:=.slice none 0 0) (T := 49)
 rw [s1] at rz
 replace ra:=zaa ra hb2
 replace rb:=zaa rb hb2
 replace hB:=onS hB hb2
 replace ha:=ha.on hb2
 replace hb:=hb.on hb2
 clear hb2
 clear hb0 hb1 s0 s1 h h'
 go_enter Tryz.func86, Tryz.ntmps86
 go_wp2_with fail
 refine (zbp _ r N _ ha (by omega)).mono ?_
 rintro e w0 ⟨Aa,ca,Ba,da,rfl,ma1,ma2,ma3,ma4,ma5,ma6,kb⟩
 replace ra:=zaa ra kb
 replace rb:=zaa rb kb
 replace rz:=zaa rz kb
 replace hB:=onS hB kb
 replace hb:=hb.on kb
 clear kb
 have hsz:=hB.size
 have za0:=ra.frozen 0
 have za1:=ra.frozen 1
 have za2:=ra.frozen 2
 have ya0:w0.cell? ⟨w.heap.size,0,none⟩=some _:=ra.cell (i:=0) (by omega)
 have ya1:w0.cell? ⟨w.heap.size,1,none⟩=some _:=ra.cell (i:=1) (by omega)
 have ya2:w0.cell? ⟨w.heap.size,2,none⟩=some _:=ra.cell (i:=2) (by omega)
 go_upto_region 2 with fail
 generalize hw3:World.setCell _ _ _=w1
 have hst:RatStored w0 (w.heap.size) 49 (rneg (r)) (Aa) (dl (r).num.natAbs) (ca) (Ba) (dl (r).den) (da) w1:=by rw [<-hw3]; exact zaf ra _ _ _ _ _ _ _
 clear hw3
 replace ra:=hst.row
 replace rb:=zad rb hst.grown (by omega)
 replace rz:=zad rz hst.grown (by omega)
 replace hB:=hst.below hB (by omega) (by omega)
 replace hb:=hst.raw hb
 rw [<-hst.size] at hb
 replace ma1:=hst.nat _ _ _ ma1
 rw [<-hst.size] at ma1
 replace ma2:=hst.nat _ _ _ ma2
 rw [<-hst.size] at ma2
 clear hst
 clear hsz za0 za1 za2 ya0 ya1 ya2
 have yb0:w1.cell? ⟨w.heap.size+1,0,none⟩=some (.bool (s')):=rb.cell (i:=0) (by omega)
 have yb1:w1.cell? ⟨w.heap.size+1,1,none⟩=some (.slice (A') (n') (c')):=rb.cell (i:=1) (by omega)
 have yb2:w1.cell? ⟨w.heap.size+1,2,none⟩=some (.slice (A2') (m') (c2')):=rb.cell (i:=2) (by omega)
 go_wp2_with fail
 refine (zbp _ r' N _ hb (by omega)).mono ?_
 rintro e w2 ⟨Ab,cb,Bb,db,rfl,mb1,mb2,mb3,mb4,mb5,mb6,kb⟩
 replace ra:=zaa ra kb
 replace rb:=zaa rb kb
 replace rz:=zaa rz kb
 replace hB:=onS hB kb
 replace ma1:=ma1.on kb
 replace ma2:=ma2.on kb
 clear kb
 have hsz:=hB.size
 have za0:=rb.frozen 0
 have za1:=rb.frozen 1
 have za2:=rb.frozen 2
 have ya0:w2.cell? ⟨w.heap.size+1,0,none⟩=some _:=rb.cell (i:=0) (by omega)
 have ya1:w2.cell? ⟨w.heap.size+1,1,none⟩=some _:=rb.cell (i:=1) (by omega)
 have ya2:w2.cell? ⟨w.heap.size+1,2,none⟩=some _:=rb.cell (i:=2) (by omega)
 go_upto_region 3 with fail
 generalize hw3:World.setCell _ _ _=w3
 have hst:RatStored w2 (w.heap.size+1) 49 (rneg (r')) (Ab) (dl (r').num.natAbs) (cb) (Bb) (dl (r').den) (db) w3:=by rw [<-hw3]; exact zaf rb _ _ _ _ _ _ _
 clear hw3
 replace ra:=zad ra hst.grown (by omega)
 replace rb:=hst.row
 replace rz:=zad rz hst.grown (by omega)
 replace hB:=hst.below hB (by omega) (by omega)
 replace ma1:=hst.nat _ _ _ ma1
 rw [<-hst.size] at ma1
 replace ma2:=hst.nat _ _ _ ma2
 rw [<-hst.size] at ma2
 replace mb1:=hst.nat _ _ _ mb1
 rw [<-hst.size] at mb1
 replace mb2:=hst.nat _ _ _ mb2
 rw [<-hst.size] at mb2
 clear hst
 clear hsz za0 za1 za2 ya0 ya1 ya2
 have hr1:=hr.1
 have hr2:=hr.2
 have hr3:=hr'.1
 have hr4:=hr'.2
 have hx:=dl_mul_le' (show dl r.num.natAbs<=N from hr1) (show dl r'.num.natAbs<=N from hr3)
 have hz:=dl_mul_le' (show dl r.den<=N from hr2) (show dl r'.den<=N from hr4)
 have HR:=hid (zkc r r')
 have HS:Hid (∀ w':World,w'.rowIs w.heap.size 49 3 (ratCell (.bool (rneg (r))) (.slice (Aa) (dl (r).num.natAbs) (ca)) (.slice (Ba) (dl (r).den) (da)))->w'.rowIs (w.heap.size+1) 49 3 (ratCell (.bool (rneg (r'))) (.slice (Ab) (dl (r').num.natAbs) (cb)) (.slice (Bb) (dl (r').den) (db)))->w'.cell? ⟨w.heap.size,0,none⟩=some (.bool (rneg (r)))/\w'.cell? ⟨w.heap.size,1,none⟩=some (.slice (Aa) (dl (r).num.natAbs) (ca))/\w'.cell? ⟨w.heap.size,2,none⟩=some (.slice (Ba) (dl (r).den) (da))/\w'.cell? ⟨w.heap.size+1,0,none⟩=some (.bool (rneg (r')))/\w'.cell? ⟨w.heap.size+1,1,none⟩=some (.slice (Ab) (dl (r').num.natAbs) (cb))/\w'.cell? ⟨w.heap.size+1,2,none⟩=some (.slice (Bb) (dl (r').den) (db))):=fun w' h1 h2=>⟨h1.cell (i:=0) (by omega),h1.cell (i:=1) (by omega),h1.cell (i:=2) (by omega),h2.cell (i:=0) (by omega),h2.cell (i:=1) (by omega),h2.cell (i:=2) (by omega)⟩
 refine wp_region_held_drew (S:=fun w'=>w'.cell? ⟨w.heap.size,0,none⟩=some (.bool (rneg (r)))/\w'.cell? ⟨w.heap.size,1,none⟩=some (.slice (Aa) (dl (r).num.natAbs) (ca))/\w'.cell? ⟨w.heap.size,2,none⟩=some (.slice (Ba) (dl (r).den) (da))/\w'.cell? ⟨w.heap.size+1,0,none⟩=some (.bool (rneg (r')))/\w'.cell? ⟨w.heap.size+1,1,none⟩=some (.slice (Ab) (dl (r').num.natAbs) (cb))/\w'.cell? ⟨w.heap.size+1,2,none⟩=some (.slice (Bb) (dl (r').den) (db))) (by kernel_rfl) (HS.out _ (show World.rowIs (World.drew _) _ _ _ _ from ra) (show World.rowIs (World.drew _) _ _ _ _ from rb)) (fun hHeld=>?_)
 have kb:=(Below.refl w3.heap.size w3).drew
 replace ra:=zaa ra kb
 replace rb:=zaa rb kb
 replace rz:=zaa rz kb
 replace hB:=onS hB kb
 replace ma1:=ma1.on kb
 replace ma2:=ma2.on kb
 replace mb1:=mb1.on kb
 replace mb2:=mb2.on kb
 clear kb
 refine tkq 0 (h:=tkq 1 (h:=tkq 2 (h:=tkq 3 (h:=tkq 4 (h:=tkq 5 (h:=tkq 6 (h:=tkq 7 (h:=tkq 8 (h:=tkq 10 (h:=tkq 11 (h:=tkq 12 (h:=tkq 13 (h:=?_)))))))))))))
 refine rdq 9 (h:=fun K hK=>?_)
 go_simp
 go_wp2_with fail
 refine (zbJ Aa Ab ca cb (r.num.natAbs) (r'.num.natAbs) _ ma1 mb1 (by omega) (by omega)).mono ?_
 rintro e w4 ⟨Xx,kx,rfl,ux1,ux2,ux3,kb⟩
 replace ra:=zaa ra kb
 replace rb:=zaa rb kb
 replace rz:=zaa rz kb
 replace hB:=onS hB kb
 replace ma1:=ma1.on kb
 replace ma2:=ma2.on kb
 replace mb1:=mb1.on kb
 replace mb2:=mb2.on kb
 clear kb
 obtain ⟨x,hX⟩:∃ x,x=r.num.natAbs*r'.num.natAbs:=⟨_,rfl⟩
 rw [<-hX] at hx HR ux1 ux3 ⊢
 clear hX
 refine bkq hK (HS.out _ ra rb) (h:=fun hHeld=>?_)
 clear hK K
 refine rdq 14 (h:=fun K hK=>?_)
 go_simp
 go_wp2_with fail
 refine (zbJ Ba Bb da db (r.den) (r'.den) _ ma2 mb2 (by omega) (by omega)).mono ?_
 rintro e w5 ⟨Xz,kz,rfl,uz1,uz2,uz3,kb⟩
 replace ra:=zaa ra kb
 replace rb:=zaa rb kb
 replace rz:=zaa rz kb
 replace hB:=onS hB kb
 replace ma1:=ma1.on kb
 replace ma2:=ma2.on kb
 replace mb1:=mb1.on kb
 replace mb2:=mb2.on kb
 replace ux3:=ux3.on kb
 clear kb
 obtain ⟨z,hX⟩:∃ x,x=r.den*r'.den:=⟨_,rfl⟩
 rw [<-hX] at hz HR uz1 uz3 ⊢
 clear hX
 refine bkq hK (HS.out _ ra rb) (h:=fun hHeld=>?_)
 clear hK K
 clear ma1 ma2 mb1 mb2
 refine rdq 15 (h:=fun K hK=>?_)
 go_simp
 go_wp2_with fail
 refine (zbe (rneg r != rneg r') Xx Xz (dl x) kx (dl z) kz x z _ ux3.raw uz3.raw ux1 ux2 uz1 uz2 (by omega) (by omega)).mono ?_
 rintro e w6 ⟨Am,cm,Bm,dm,rfl,mm1,mm2,mm3,mm4,mm5,mm6,kb⟩
 replace ra:=zaa ra kb
 replace rb:=zaa rb kb
 replace rz:=zaa rz kb
 replace hB:=onS hB kb
 replace ux3:=ux3.on kb
 replace uz3:=uz3.on kb
 clear kb
 rw [HR.out] at mm1 mm2 mm3 mm5 ⊢
 obtain ⟨q,hq⟩:∃ q,q=r*r':=⟨_,rfl⟩
 rw [<-hq] at mm1 mm2 mm3 mm5 ⊢
 have HQL:=hid hq
 obtain ⟨ngq,hngq⟩:∃ b,b=rneg q:=⟨_,rfl⟩
 rw [<-hngq]
 have HNG:=hid hngq
 clear hq hngq
 refine bkq hK (HS.out _ ra rb) (h:=fun hHeld=>?_)
 clear hK K
 have hsz:=hB.size
 have za0:=rz.frozen 0
 have za1:=rz.frozen 1
 have za2:=rz.frozen 2
 have ya0:w6.cell? ⟨w.heap.size+1+1,0,none⟩=some _:=rz.cell (i:=0) (by omega)
 have ya1:w6.cell? ⟨w.heap.size+1+1,1,none⟩=some _:=rz.cell (i:=1) (by omega)
 have ya2:w6.cell? ⟨w.heap.size+1+1,2,none⟩=some _:=rz.cell (i:=2) (by omega)
 refine rdq 16 (h:=fun K hK=>?_)
 go_simp
 generalize hw3:World.setCell _ _ _=w7
 have hst:RatStored w6 (w.heap.size+1+1) 49 (ngq) (Am) (dl q.num.natAbs) (cm) (Bm) (dl q.den) (dm) w7:=by rw [<-hw3]; exact zaf rz _ _ _ _ _ _ _
 clear hw3
 replace ra:=zad ra hst.grown (by omega)
 replace rb:=zad rb hst.grown (by omega)
 replace rz:=hst.row
 replace hB:=hst.below hB (by omega) (by omega)
 replace ux3:=hst.nat _ _ _ ux3
 rw [<-hst.size] at ux3
 replace uz3:=hst.nat _ _ _ uz3
 rw [<-hst.size] at uz3
 replace mm1:=hst.nat _ _ _ mm1
 rw [<-hst.size] at mm1
 replace mm2:=hst.nat _ _ _ mm2
 rw [<-hst.size] at mm2
 clear hst
 refine bkq hK (HS.out _ ra rb) (h:=fun hHeld=>?_)
 clear hK K
 refine wpAnyH_done (by kernel_rfl) ?_ _
 clear hHeld
 clear hsz za0 za1 za2 ya0 ya1 ya2
 go_wp2
 have e0:w7.cell? ⟨w.heap.size+1+1,0,none⟩=some (.bool (ngq)):=rz.cell (i:=0) (by omega)
 have e1:w7.cell? ⟨w.heap.size+1+1,1,none⟩=some (.slice (Am) (dl q.num.natAbs) (cm)):=rz.cell (i:=1) (by omega)
 have e2:w7.cell? ⟨w.heap.size+1+1,2,none⟩=some (.slice (Bm) (dl q.den) (dm)):=rz.cell (i:=2) (by omega)
 refine bodyPost_ret (v:=.agg #[.bool (ngq),.slice (Am) (dl q.num.natAbs) (cm),.slice (Bm) (dl q.den) (dm)]) (by simp [results,Tryz.results86, go_sem,e0,e1,e2]) rfl ?_
 rw [<-HQL.out]
 exact ⟨Am,cm,Bm,dm,by rw [HNG.out],mm1,mm2,mm3,mm4,mm5,mm6,hB⟩
theorem RatList.on {w w':World} {T:Option Addr} {m:Nat} {rs:Nat->Rat} (h:RatList w w.heap.size T m rs) (hb:Below w.heap.size w w'):RatList w' w'.heap.size T m rs:=fun i hi=>by
 obtain ⟨b,off,A,c,A2,c2,e,h1,h2,h3,h4,h5,h6,h7⟩:=h i hi
 exact ⟨b,off,A,c,A2,c2,e,Nat.lt_of_lt_of_le h1 hb.size,(hb.cell (p:=⟨b,_,none⟩) h1).trans h2,(hb.cell (p:=⟨b,_,none⟩) h1).trans h3,(hb.cell (p:=⟨b,_,none⟩) h1).trans h4,h5.on hb,h6.on hb,h7⟩
theorem refSameList_any (T T':Option Addr) (m c c' N:Nat) (rs:Nat->Rat) (w:World) (h:RatList w w.heap.size T m rs) (h':RatList w w.heap.size T' m rs) (hm:m<=1048576) (hN:N<=33554432) (hr:Hid (∀ k,k<m->rsz (rs k) N)) :
  Calls Tryz.prog 73 #[.slice T m c,.slice T' m c'] w fun e w'=>e=.returned (.bool true)/\Below w.heap.size w w':=by
 go_enter Tryz.func73, Tryz.ntmps73
 go_wp2
 go_loopg [5] m (fun gg iv wx=>∃ k:Nat,iv=.int .i64 (k:Nat)/\k<=m/\m<=k+gg/\Below w.heap.size w wx)
 case atStart=>exact ⟨0,rfl,by omega,by omega,Below.refl _ _⟩
 case round =>
  obtain ⟨k,rfl,hk,hkg,hB⟩:=hrel
  have hk0:(0:Int)<=(k:Int):=by omega
  by_cases hlt:k<m
  ·have hlt':(k:Int)<(m:Int):=by omega
   obtain ⟨b,off,A,d,A2,d2,rfl,hb,t0,t1,t2,m1,m2,_,_,_,_⟩:=h k hlt
   obtain ⟨b',off',A',d',A2',d2',rfl,hb',u0,u1,u2,n1,n2,_,_,_,_⟩:=h' k hlt
   have HRK:=hr.out k hlt
   obtain ⟨r,hR⟩:∃ r,r=rs k:=⟨_,rfl⟩
   rw [<-hR] at t0 t1 t2 m1 m2 u0 u1 u2 n1 n2 HRK
   clear hR
   have HS:Hid (∀ w':World,Below w.heap.size w w'->w'.cell? ⟨b,off+k*3,none⟩=some (.bool (rneg (r)))/\w'.cell? ⟨b,off+k*3+1,none⟩=some (.slice (A) (dl (r).num.natAbs) (d))/\w'.cell? ⟨b,off+k*3+2,none⟩=some (.slice (A2) (dl (r).den) (d2))/\w'.cell? ⟨b',off'+k*3,none⟩=some (.bool (rneg (r)))/\w'.cell? ⟨b',off'+k*3+1,none⟩=some (.slice (A') (dl (r).num.natAbs) (d'))/\w'.cell? ⟨b',off'+k*3+2,none⟩=some (.slice (A2') (dl (r).den) (d2'))):=fun w' hb=>⟨cellS hb t0,cellS hb t1,cellS hb t2,cellS hb u0,cellS hb u1,cellS hb u2⟩
   go_upto_region 6 with fail
   clear t0 t1 t2 u0 u1 u2
   refine wp_region_held_drew (S:=fun w'=>w'.cell? ⟨b,off+k*3,none⟩=some (.bool (rneg (r)))/\w'.cell? ⟨b,off+k*3+1,none⟩=some (.slice (A) (dl (r).num.natAbs) (d))/\w'.cell? ⟨b,off+k*3+2,none⟩=some (.slice (A2) (dl (r).den) (d2))/\w'.cell? ⟨b',off'+k*3,none⟩=some (.bool (rneg (r)))/\w'.cell? ⟨b',off'+k*3+1,none⟩=some (.slice (A') (dl (r).num.natAbs) (d'))/\w'.cell? ⟨b',off'+k*3+2,none⟩=some (.slice (A2') (dl (r).den) (d2'))) (by kernel_rfl) (HS.out _ hB.drew) (fun hHeld=>?_)
   obtain ⟨w1,hw⟩:∃ W,W=World.drew wr:=⟨_,rfl⟩
   replace hB:Below w.heap.size w w1:=by rw [hw]; exact hB.drew
   rw [<-hw] at hHeld ⊢
   clear hw
   replace m1:=m1.on hB
   replace m2:=m2.on hB
   replace n1:=n1.on hB
   replace n2:=n2.on hB
   refine tkq 0 (h:=tkq 1 (h:=tkq 2 (h:=tkq 3 (h:=tkq 4 (h:=tkq 5 (h:=tkq 6 (h:=tkq 7 (h:=?_))))))))
   refine rdq 8 (h:=fun K hK=>?_)
   go_simp
   go_wp2_with fail
   refine (zcV _ _ _ _ _ _ _ _ r N _ m1 m2 n1 n2 hN HRK).mono ?_
   rintro e w2 ⟨rfl,kb⟩
   replace hB:=onS hB kb
   clear kb
   refine bkq hK (HS.out _ hB) (h:=fun hHeld=>?_)
   clear hK K
   refine tkq 9 (h:=?_)
   refine wpAnyH_done (by kernel_rfl) ?_ _
   clear hHeld
   go_wp2
   go_roundg (gk - 1)
   case measure=>omega
   case rel=>exact ⟨k+1,by go_num,by omega,by omega,hB⟩
  ·have hlt':¬ (k:Int)<(m:Int):=by omega
   go_wp2
   go_ret
   exact ⟨rfl,hB⟩
theorem lawSame_any (T T':Option Addr) (m c c' N:Nat) (rs:Nat->Rat) (w:World) (h:RatList w w.heap.size T m rs) (h':RatList w w.heap.size T' m rs) (hm:m<=1048576) (hN:N<=33554432) (hr:Hid (∀ k,k<m->rsz (rs k) N)) :
  Calls Tryz.prog 17 #[.slice T m c,.slice T' m c'] w fun e w'=>e=.returned (.bool true)/\Below w.heap.size w w':=by
 go_enter Tryz.func17, Tryz.ntmps17
 go_wp2_with fail
 refine (refSameList_any T T' m c c' N rs _ h h' hm hN hr).mono ?_
 rintro e w1 ⟨rfl,hB⟩
 go_wp2
 go_ret
 exact ⟨rfl,hB⟩
end Go.Proofs.YtioagplajkoohaaGreat