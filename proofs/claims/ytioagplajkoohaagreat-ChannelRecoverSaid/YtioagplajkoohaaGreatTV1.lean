/- Merged texts of a claim: Base, Tk, IntsAll, FldP, Own, Copy, NatLow, NatLo2, FldQ, TabRow, TabAll, ElAll, Elim, Same09, Chk12, Null, CodeE, Dual12, WordsAll, AppCells, NatA, NatB, NatC, RatA, RatB, Rat13, RatC, PolyA, PAddAll. -/
import Derived.Test.YtioagplajkoohaaGreatTF15
import Derived.Test.YtioagplajkoohaaGreatRows
import Derived.WalkKit
import Derived.WalkSpells
import Derived.WalkLawsBesides
import Derived.Deep.OwnRows
import Derived.ProofKit
import Derived.Deep.RegionHeld3
import Derived.Deep.Slices
import Derived.Lib.SmallJoins
import Derived.Deep.LoopGhost
import Derived.Deep.QuietTactic
import Derived.BigQuiet
import Derived.Deep.Cut
import Derived.Deep.CutBlock
import Derived.Deep.DeepCutAuto
import Derived.IntWalk
import Derived.StillTailTactics
import Derived.SizedLaws
import Derived.Deep.AppendSrc
import Derived.Maps.AppendAt
import Derived.Laws.Bits64b
import Derived.Shelf.Small.Bits
namespace Go.Proofs.YtioagplajkoohaaGreat
set_option maxRecDepth 100000
set_option maxHeartbeats 32000000
open Go.RowKit
open Go.ChangeShapes Go.WideShapes Go.ChangeAt
open Go.Shelf
namespace Fie
variable {K:Type} [Add K] [Mul K] [Neg K] [Zero K] [One K] (F:Fie K)
include F
end Fie
def ExpPost (q k most:Nat) (w:World) (e:Ending) (w':World):Prop :=
 ((q ^ k<=most/\e=.returned (.tuple #[.int .i64 (q ^ k:Nat),.int .i64 0]))∨(most<q ^ k/\e=.returned (.tuple #[.int .i64 0,.int .i64 8])))/\w'=w
theorem pow_past {q i k most o:Nat} (hq:2<=q) (ho:o=q ^ i) (h:most / q<o) (hi:i<k):most<q ^ k:=by
 have h1:most<o*q:=by
  have:=(Nat.div_lt_iff_lt_mul (show 0<q by omega)).1 h
  exact this
 have h2:o*q=q ^ (i+1):=by rw [ho,Nat.pow_succ]
 have h3:q ^ (i+1)<=q ^ k:=Nat.pow_le_pow_right (by omega) (by omega)
 omega
theorem exp03_any (q k most:Nat) (w:World) (hq:2<=q) (hq2:q<=256) (hk:k<=1048576) (hm:1<=most) (hm2:most<=1048576) :
  Calls Tryz.prog 154 #[.int .i64 (q:Nat),.int .i64 (k:Nat),.int .i64 (most:Nat)] w (ExpPost q k most w):=by
 have g1:¬ (q:Int)<0:=by omega
 have g2:¬ (k:Int)<0:=by omega
 have g3:¬ (most:Int)<0:=by omega
 have g4:((q:Int) == 0)=false:=by simp; omega
 have g5:(q:Int) > 1:=by omega
 have g6:((q:Int) == -1)=false:=by simp
 have g7:(1:Int)<(q:Int):=by omega
 obtain ⟨z,hz⟩:∃ z,z=most / q:=⟨_,rfl⟩
 have hd:(most:Int) / (q:Int)=(z:Int):=by rw [hz]; norm_cast
 have hzm:z<=most:=by rw [hz]; exact Nat.div_le_self _ _
 have HZ:=hid hz
 clear hz
 go_enter Tryz.func154, Tryz.ntmps154
 go_wp2
 go_loopg [8,9] k (fun gg ov iv wx=>∃ i o:Nat,ov=.int .i64 (o:Nat)/\iv=.int .i64 (i:Nat)/\i<=k/\k<=i+gg/\Hid (o=q ^ i)/\o<=most/\wx=w)
 case atStart=>exact ⟨0,1,rfl,rfl,by omega,by omega,rfl,hm,rfl⟩
 case round =>
  obtain ⟨i,o,rfl,rfl,hi,hig,HO,hom,hwx⟩:=hrel
  subst hwx
  have hi0:(0:Int)<=(i:Int):=by omega
  by_cases hlt:i<k
  ·have hlt':(i:Int)<(k:Int):=by omega
   by_cases hb:z<o
   ·have hb':(o:Int) > (z:Int):=by omega
    have HF:=hid (pow_past hq HO.out (by rw [<-HZ.out]; exact hb) hlt)
    clear hb
    go_wp2
    go_ret2
    exact ⟨.inr ⟨HF.out,rfl⟩,rfl⟩
   ·have hb':¬ (o:Int) > (z:Int):=by omega
    obtain ⟨y,hy⟩:∃ y,y=o*q:=⟨_,rfl⟩
    have hoq:y<=most:=by rw [hy]; exact Nat.le_trans (Nat.mul_le_mul_right q (Nat.not_lt.1 hb)) (by rw [HZ.out]; exact Nat.div_mul_le_self most q)
    have hc:(o:Int)*(q:Int)=(y:Int):=by rw [hy]; simp
    have HOQ:Hid (y=q ^ (i+1)):=by show _=_; rw [hy,HO.out,Nat.pow_succ]
    clear hb hy
    go_wp2
    go_roundg (gk - 1)
    case measure=>omega
    case rel=>exact ⟨i+1,y,by go_num,by go_num,by omega,by omega,HOQ,hoq,rfl⟩
  ·have hlt':¬ (i:Int)<(k:Int):=by omega
   obtain rfl:i=k:=by omega
   have hom':¬ (o:Int) > (most:Int):=by omega
   go_wp2
   go_ret2
   exact ⟨.inl ⟨by rw [<-HO.out]; exact hom,by rw [<-HO.out]; rfl⟩,rfl⟩
section
variable {w w':World} {P M k N n:Nat} {m:Nat->Nat} {A T:Option Addr} {V:Nat->Nat->Nat}
theorem CodeR.on (h:CodeR w P M m A k N T n V) (hb:Below w.heap.size w w'):CodeR w' P M m A k N T n V :=
 ⟨h.fld,h.ints.on hb,h.kM,h.ln1,h.ln2,h.rows.on hb,h.lt,h.rref⟩
theorem CodeR.mod (h:CodeR w P M m A k N T n V):ModOk w P M A m:=by
 rcases h.kM with ⟨h1,_⟩ | ⟨_,h2,h3⟩
 ·exact .inl h1
 ·subst h2; exact .inr ⟨h.ints,h3⟩
theorem CodeR.km (h:CodeR w P M m A k N T n V):M=1∨k=M:=by
 rcases h.kM with ⟨h1,_⟩ | ⟨_,h2,_⟩
 ·exact .inl h1
 ·exact .inr h2
end
theorem natT_nat {V:Nat->Nat->Nat}:natT (fun i j=>(V i j:Int))=V:=by
 funext i j
 simp [natT]
theorem CodeR.errs {w:World} {P M k N n:Nat} {m:Nat->Nat} {A T:Option Addr} {V:Nat->Nat->Nat} (h:CodeR w P M m A k N T n V):FirstErr (CodeErrs (P:Int) (M:Int) k (fun i=>(m i:Int)) (N:Int) n (fun _=>N) (fun i j=>(V i j:Int))) 0:=by
 have hn:=h.n_le
 have h1:=h.ln1
 have h2:=h.ln2
 refine .inr ⟨?_,.inr ⟨⟨by omega,by omega⟩,.inr ⟨⟨by omega,by omega,by omega,fun i _=>rfl⟩,.inr ⟨?_,.inr ⟨?_,rfl⟩⟩⟩⟩⟩
 ·obtain ⟨h3,h4,h5,h6⟩:=h.fld
  refine ⟨P,M,rfl,rfl,h3,h4,?_⟩
  rcases h.kM with ⟨e1,e2⟩ | ⟨e1,e2,e3⟩
  ·exact .inl ⟨e1,e2⟩
  ·refine .inr ⟨e1,e2,fun i hi=>⟨Int.natCast_nonneg _,by have:=e3 i hi; show ((m i:Nat):Int)<(P:Int); omega⟩,?_⟩
   simp only [Int.toNat_natCast]
   exact h6
 ·rw [Int.toNat_natCast,Int.toNat_natCast]
  intro i hi j hj
  have:=h.lt i hi j hj
  exact ⟨Int.natCast_nonneg _,by show ((V i j:Nat):Int)<((P ^ M:Nat):Int); omega⟩
 ·rw [Int.toNat_natCast,Int.toNat_natCast,Int.toNat_natCast,natT_nat]
  exact h.rref
def SizePost (P M:Int) (k:Nat) (f:Nat->Int) (N:Int) (n:Nat) (ln:Nat->Nat) (V:Nat->Nat->Int) (w:World) (e:Ending) (w':World):Prop :=
 ∃ v u:Int,e=.returned (.tuple #[.int .i64 v,.int .i64 u])/\FirstErr (CodeErrs P M k f N n ln V ++ [((P.toNat ^ M.toNat) ^ n<=65536,8)]) u/\(u=0->v=(((P.toNat ^ M.toNat) ^ n:Nat):Int))/\(u≠0->v=0)/\Below w.heap.size w w'
theorem size12_any (P M:Int) (A:Option Addr) (k c:Nat) (f:Nat->Int) (N:Int) (T:Option Addr) (n d:Nat) (ln:Nat->Nat) (V:Nat->Nat->Int) (w:World) (hr:IntsR w w.heap.size A k f) (h:IntRows w T n ln V) :
  Calls Tryz.prog 71 #[.agg #[.int .i64 P,.int .i64 M,.slice A k c,.int .i64 N,.slice T n d]] w (SizePost P M k f N n ln V w):=by
 have HT:=hid h
 have HR:=hid hr
 clear h hr
 have rf:=zbN (w:=w) (a:=.int .i64 P) (b:=.int .i64 M) (c:=.slice A k c) (d:=.int .i64 N) (e:=.slice T n d) (T := 27)
 have hB:Below w.heap.size w (w.alloc (.cells #[.int .i64 P,.int .i64 M,.slice A k c,.int .i64 N,.slice T n d] 27)):=(Below.refl _ _).alloc (Nat.le_refl _) _
 obtain ⟨w1,hw1⟩:∃ W,W=w.alloc (.cells #[.int .i64 P,.int .i64 M,.slice A k c,.int .i64 N,.slice T n d] 27):=⟨_,rfl⟩
 rw [<-hw1] at hB rf
 go_enter Tryz.func71, Tryz.ntmps71
 go_upto_region 1 with fail
 rw [<-hw1]
 clear hw1
 have q0:w1.cell? ⟨w.heap.size,0,none⟩=some (.int .i64 P):=rf.cell (i:=0) (by omega)
 have q1:w1.cell? ⟨w.heap.size,1,none⟩=some (.int .i64 M):=rf.cell (i:=1) (by omega)
 have q2:w1.cell? ⟨w.heap.size,2,none⟩=some (.slice A k c):=rf.cell (i:=2) (by omega)
 have q3:w1.cell? ⟨w.heap.size,3,none⟩=some (.int .i64 N):=rf.cell (i:=3) (by omega)
 have q4:w1.cell? ⟨w.heap.size,4,none⟩=some (.slice T n d):=rf.cell (i:=4) (by omega)
 go_wp2_with fail
 refine (zf7 P M A k c f N T n d ln V w1 (HR.out.on hB) (HT.out.on hB)).mono ?_
 rintro e w2 ⟨v,rfl,hv,kb⟩
 replace rf:=zaa rf kb
 replace hB:=onS hB kb
 clear kb q0 q1 q2 q3 q4
 by_cases hv0:v=0
 ·subst hv0
  have HVV:=hid hv
  obtain ⟨P',M',N',rfl,rfl,rfl,hC⟩:=zgJ HR.out HT.out hv
  have hfo:=hC.fld.1
  have hn64:=hC.n_le
  have hN64:=hC.ln2
  have hq2:=(fieldLaws hC.fld).two
  have hq256:=hfo.2.2.2
  have HORD:=hid (zdx hfo)
  clear hC hv
  have q0:w2.cell? ⟨w.heap.size,0,none⟩=some (.int .i64 (P':Nat)):=rf.cell (i:=0) (by omega)
  have q1:w2.cell? ⟨w.heap.size,1,none⟩=some (.int .i64 (M':Nat)):=rf.cell (i:=1) (by omega)
  have q2:w2.cell? ⟨w.heap.size,2,none⟩=some (.slice A k c):=rf.cell (i:=2) (by omega)
  have q4:w2.cell? ⟨w.heap.size,4,none⟩=some (.slice T n d):=rf.cell (i:=4) (by omega)
  go_wp2
  refine wp_region_held_drew (S:=fun w'=>w'.cell? ⟨w.heap.size,0,none⟩=some (.int .i64 (P':Nat))/\w'.cell? ⟨w.heap.size,1,none⟩=some (.int .i64 (M':Nat))/\w'.cell? ⟨w.heap.size,2,none⟩=some (.slice A k c)/\w'.cell? ⟨w.heap.size,4,none⟩=some (.slice T n d)) (by kernel_rfl) ⟨cellS (Below.refl _ _).drew (q0),cellS (Below.refl _ _).drew (q1),cellS (Below.refl _ _).drew (q2),cellS (Below.refl _ _).drew (q4)⟩ (fun hHeld=>?_)
  obtain ⟨w3,hw⟩:∃ W,W=World.drew w2:=⟨_,rfl⟩
  have kb:Below w2.heap.size w2 w3:=by rw [hw]; exact (Below.refl _ _).drew
  rw [<-hw] at hHeld ⊢
  clear hw
  replace hB:=onS hB kb
  replace q0:=cellS kb q0
  replace q1:=cellS kb q1
  replace q2:=cellS kb q2
  replace q4:=cellS kb q4
  clear kb
  refine tkq 0 (h:=tkq 1 (h:=tkq 3 (h:=tkq 4 (h:=tkq 5 (h:=?_)))))
  refine rdq 2 (h:=fun K hK=>?_)
  go_simp
  go_wp2_with fail
  refine (zdK (P':Int) (M':Int) A k c w3).mono ?_
  rintro e w4 ⟨rfl,kb⟩
  replace hB:=onS hB kb
  replace q0:=cellS kb q0
  replace q1:=cellS kb q1
  replace q2:=cellS kb q2
  replace q4:=cellS kb q4
  clear kb
  rw [HORD.out]
  obtain ⟨Q,hQ⟩:∃ Q,Q=P' ^ M':=⟨_,rfl⟩
  rw [<-hQ]
  have HQ:=hid hQ
  rw [<-hQ] at hq2 hq256
  clear hQ
  refine bkq hK ⟨q0,q1,q2,q4⟩ (h:=fun hHeld=>?_)
  clear hK K
  refine rdq 6 (h:=fun K hK=>?_)
  go_simp
  go_wp2_with fail
  refine (exp03_any Q n 65536 w4 hq2 hq256 (by omega) (by omega) (by omega)).mono ?_
  rintro e w5 ⟨hex,rfl⟩
  obtain ⟨y,u,rfl,hyu⟩:∃ y u:Int,e=.returned (.tuple #[.int .i64 y,.int .i64 u])/\((Q ^ n<=65536/\y=((Q ^ n:Nat):Int)/\u=0)∨(65536<Q ^ n/\y=0/\u=8)):=by
   rcases hex with ⟨h1,rfl⟩ | ⟨h1,rfl⟩
   ·exact ⟨_,_,rfl,.inl ⟨h1,rfl,rfl⟩⟩
   ·exact ⟨_,_,rfl,.inr ⟨h1,rfl,rfl⟩⟩
  have HYU:=hid hyu
  clear hex hyu
  refine bkq hK ⟨q0,q1,q2,q4⟩ (h:=fun hHeld=>?_)
  clear hK K
  refine tkq 7 (h:=tkq 8 (h:=tkq 9 (h:=tkq 10 (h:=?_))))
  refine wpAnyH_done (by kernel_rfl) ?_ _
  clear hHeld
  clear q0 q1 q2 q4 rf
  go_wp2
  go_ret2
  refine ⟨y,u,rfl,?_,fun h=>?_,fun h=>?_,hB⟩
  ·refine FirstErr.app (by simp [CodeErrs]) HVV.out (fun h=>absurd rfl h) fun _=>?_
   rw [Int.toNat_natCast,Int.toNat_natCast,<-HQ.out]
   rcases HYU.out with ⟨h1,_,h3⟩ | ⟨h1,_,h3⟩
   ·exact .inr ⟨h1,h3⟩
   ·exact .inl ⟨by omega,h3⟩
  ·rw [Int.toNat_natCast,Int.toNat_natCast,<-HQ.out]
   rcases HYU.out with ⟨h1,h2,h3⟩ | ⟨h1,h2,h3⟩
   ·exact h2
   ·omega
  ·rcases HYU.out with ⟨h1,h2,h3⟩ | ⟨h1,h2,h3⟩
   ·exact absurd h3 h
   ·exact h2
 ·have hvn:(v != 0)=true:=by simpa using hv0
  have HVV:=hid (FirstErr.app (r:=[((P.toNat ^ M.toNat) ^ n<=65536,8)]) (u:=v) (by simp [CodeErrs]) hv (fun _=>rfl) (fun h=>absurd h hv0))
  clear hv
  go_wp2
  go_ret2
  exact ⟨0,v,rfl,HVV.out,fun h=>absurd h hv0,fun _=>rfl,hB⟩
def CountPost (most:Nat) (P M:Int) (k:Nat) (f:Nat->Int) (N:Int) (n:Nat) (ln:Nat->Nat) (V:Nat->Nat->Int) (w:World) (e:Ending) (w':World):Prop :=
 ∃ v:Int,e=.returned (.int .i64 v)/\((v=0/\¬ (FirstErr (CodeErrs P M k f N n ln V) 0/\(P.toNat ^ M.toNat) ^ n<=most))∨(FirstErr (CodeErrs P M k f N n ln V) 0/\(P.toNat ^ M.toNat) ^ n<=most/\v=(((P.toNat ^ M.toNat) ^ n:Nat):Int)))/\Below w.heap.size w w'
theorem FirstErr.app_zero:∀ {l r:List (Prop × Int)},(∀ x ∈ l,x.2≠0)->FirstErr (l ++ r) 0->FirstErr l 0/\FirstErr r 0
 | [],_,_,h=>⟨rfl,h⟩
 | (p, e) :: l, r, hne, h => by
  rcases h with ⟨_,h1⟩ | ⟨hp,h⟩
  ·exact absurd h1.symm (hne (p,e) (by simp))
  ·obtain ⟨h1,h2⟩:=FirstErr.app_zero (l:=l) (fun x hx=>hne x (by simp [hx])) h
   exact ⟨.inr ⟨hp,h1⟩,h2⟩
theorem FirstErr.app_all:∀ {l r:List (Prop × Int)},FirstErr l 0->FirstErr r 0->(∀ x ∈ l,x.2≠0)->FirstErr (l ++ r) 0
 | [],_,_,h,_=>h
 | (p,e) :: l,r,h1,h2,hne=>by
  rcases h1 with ⟨_,h3⟩ | ⟨hp,h1⟩
  ·exact absurd h3.symm (hne (p,e) (by simp))
  ·exact .inr ⟨hp,FirstErr.app_all h1 h2 fun x hx=>hne x (by simp [hx])⟩
theorem count12_any (most:Nat) (P M:Int) (A:Option Addr) (k c:Nat) (f:Nat->Int) (N:Int) (T:Option Addr) (n d:Nat) (ln:Nat->Nat) (V:Nat->Nat->Int) (w:World) (hr:IntsR w w.heap.size A k f) (h:IntRows w T n ln V) (hm:most<=65536) :
  Calls Tryz.prog 15 #[.agg #[.int .i64 P,.int .i64 M,.slice A k c,.int .i64 N,.slice T n d],.int .i64 (most:Nat)] w (CountPost most P M k f N n ln V w):=by
 have HT:=hid h
 have HR:=hid hr
 clear h hr
 have rf:=zbN (w:=w) (a:=.int .i64 P) (b:=.int .i64 M) (c:=.slice A k c) (d:=.int .i64 N) (e:=.slice T n d) (T := 27)
 have hB:Below w.heap.size w (w.alloc (.cells #[.int .i64 P,.int .i64 M,.slice A k c,.int .i64 N,.slice T n d] 27)):=(Below.refl _ _).alloc (Nat.le_refl _) _
 obtain ⟨w1,hw1⟩:∃ W,W=w.alloc (.cells #[.int .i64 P,.int .i64 M,.slice A k c,.int .i64 N,.slice T n d] 27):=⟨_,rfl⟩
 rw [<-hw1] at hB rf
 go_enter Tryz.func15, Tryz.ntmps15
 go_upto_region 1 with fail
 rw [<-hw1]
 clear hw1
 have q0:w1.cell? ⟨w.heap.size,0,none⟩=some (.int .i64 P):=rf.cell (i:=0) (by omega)
 have q1:w1.cell? ⟨w.heap.size,1,none⟩=some (.int .i64 M):=rf.cell (i:=1) (by omega)
 have q2:w1.cell? ⟨w.heap.size,2,none⟩=some (.slice A k c):=rf.cell (i:=2) (by omega)
 have q3:w1.cell? ⟨w.heap.size,3,none⟩=some (.int .i64 N):=rf.cell (i:=3) (by omega)
 have q4:w1.cell? ⟨w.heap.size,4,none⟩=some (.slice T n d):=rf.cell (i:=4) (by omega)
 go_wp2_with fail
 refine (size12_any P M A k c f N T n d ln V w1 (HR.out.on hB) (HT.out.on hB)).mono ?_
 rintro e w2 ⟨v,u,rfl,hu,hv1,hv2,kb⟩
 replace hB:=onS hB kb
 have HU:=hid hu
 clear kb q0 q1 q2 q3 q4 rf hu
 by_cases hu0:u=0
 ·have hv:=hv1 hu0
  have hun:(u != 0)=false:=by simpa using hu0
  obtain ⟨hc,hs⟩:=FirstErr.app_zero (l:=CodeErrs P M k f N n ln V) (by simp [CodeErrs]) (by rw [<-hu0]; exact HU.out)
  have HCC:=hid hc
  have HVV:=hid hv
  clear hc hs hv hv1 hv2 hu0
  by_cases hvm:v > (most:Int)
  ·go_wp2
   go_ret
   exact ⟨0,rfl,.inl ⟨rfl,fun h=>by have:=h.2; have:=HVV.out; omega⟩,hB⟩
  ·go_wp2
   go_ret
   exact ⟨v,rfl,.inr ⟨HCC.out,by have:=HVV.out; omega,HVV.out⟩,hB⟩
 ·have hun:(u != 0)=true:=by simpa using hu0
  have HNO:Hid (¬ (FirstErr (CodeErrs P M k f N n ln V) 0/\(P.toNat ^ M.toNat) ^ n<=most)):=by
   rintro ⟨h1,h2⟩
   exact hu0 (FirstErr.unique HU.out (FirstErr.app_all h1 (.inr ⟨Nat.le_trans h2 hm,rfl⟩) (by simp [CodeErrs])))
  clear hv1 hv2 hu0
  go_wp2
  go_ret
  exact ⟨0,rfl,.inl ⟨rfl,HNO.out⟩,hB⟩
theorem spE_step {P M:Nat} {m:Nat->Nat} {V:Nat->Nat->Nat} {x:Nat->Nat} (hL:FieldLaws (P ^ M) (addF P M) (mulF P M m)) {i j:Nat} (hx:x i<P ^ M) (y:Nat) (hy:y=spE (addF P M) (mulF P M m) V x i j):atF P M m (x i) (fun _=>y) (V i) j=spE (addF P M) (mulF P M m) V x (i+1) j:=by
 have hyl:y<P ^ M:=by rw [hy]; exact zhW hL x i j
 unfold atF
 show _=addF P M (spE (addF P M) (mulF P M m) V x i j) (mulF P M m (x i) (V i j))
 rw [<-hy]
 split
 ·rename_i h
  rw [h,hL.mulZero hx,hL.addZero hyl]
 ·rfl
theorem spE_skip {P M:Nat} {m:Nat->Nat} {V:Nat->Nat->Nat} {x:Nat->Nat} (hL:FieldLaws (P ^ M) (addF P M) (mulF P M m)) {i j:Nat} (hx:x i=0) (hV:V i j<P ^ M):spE (addF P M) (mulF P M m) V x (i+1) j=spE (addF P M) (mulF P M m) V x i j:=by
 have h2:=hL.two
 show addF P M (spE (addF P M) (mulF P M m) V x i j) (mulF P M m (x i) (V i j))=_
 rw [hx,hL.mulComm 0 _ (by omega) hV,hL.mulZero hV,hL.addZero (zhW hL x i j)]
theorem combine_any (P M:Nat) (A:Option Addr) (k c:Nat) (m:Nat->Nat) (X:Option Addr) (xc:Nat) (x:Nat->Nat) (T:Option Addr) (n d N:Nat) (V:Nat->Nat->Nat) (w:World) (hf:FieldOk P M m) (hm:ModOk w P M A m) (hkM:M=1∨k=M)
  (hx:IntsR w w.heap.size X n (fun i=>(x i:Nat))) (hxq:∀ i,i<n->x i<P ^ M) (h:MRows w T n N V) (hV:∀ i,i<n->∀ j,j<N->V i j<P ^ M) (hN2:N<=1048576) (hn:n<=1048576) :
  Calls Tryz.prog 134 #[.agg #[.int .i64 (P:Nat),.int .i64 (M:Nat),.slice A k c],.slice X n xc,.slice T n d,.int .i64 (N:Nat)] w (RowPost N (fun j=>.int .i64 (spE (addF P M) (mulF P M m) V x n j:Nat)) w):=by
 have hfo:=hf.1
 have hL:=fieldLaws hf
 have HX:=hid hx
 have HXQ:=hid hxq
 have HT:=hid h
 have HV:=hid hV
 clear hx hxq h hV
 have hB:Below w.heap.size w (w.alloc (.cells #[.int .i64 (P:Nat),.int .i64 (M:Nat),.slice A k c] 24)):=(Below.refl _ _).alloc (Nat.le_refl _) _
 have rf:=zaj (w:=w) (a:=.int .i64 (P:Nat)) (b:=.int .i64 (M:Nat)) (c:=.slice A k c) (T := 24)
 obtain ⟨w0,hw0⟩:∃ W,W=w.alloc (.cells #[.int .i64 (P:Nat),.int .i64 (M:Nat),.slice A k c] 24):=⟨_,rfl⟩
 rw [<-hw0] at hB rf
 have hmk:=fun W=>zau (P:=Tryz.prog) 22 3 _ 8 Tryz.underlying22 Tryz.infoInt rfl (N:Int) (by omega) (by omega) (by omega) W
 simp only [Int.toNat_natCast] at hmk
 go_enter Tryz.func134, Tryz.ntmps134
 go_upto_region 1 with fail
 rw [<-hw0]
 clear hw0
 go_upto_region 2 with fail
 have kb:=(Below.refl w0.heap.size w0).alloc (Nat.le_refl _) (Obj.cells (madeCells #[Value.int .i64 0] N) 3)
 have ra:=World.rowIs_made w0 (.int .i64 0) N 3
 have hfl:=rf.lt
 have hgz:=hB.size
 obtain ⟨w1,hw1⟩:∃ W,W=w0.alloc (Obj.cells (madeCells #[Value.int .i64 0] N) 3):=⟨_,rfl⟩
 obtain ⟨g,hg⟩:∃ b,b=w0.heap.size:=⟨_,rfl⟩
 rw [<-hw1] at kb ra ⊢
 rw [<-hg] at ra hfl hgz ⊢
 replace rf:=zaa rf kb
 replace hB:=onS hB kb
 have HRA:Hid (w1.rowIs g 3 N (fun j=>.int .i64 (spE (addF P M) (mulF P M m) V x 0 j:Nat))):=ra.congr fun t _=>rfl
 clear kb hw1 hg hmk hfl ra
 go_wp2
 go_loopg [9,10] n (fun gg ov iv wx=>∃ i g2:Nat,ov=.slice (some ⟨g2,0,none⟩) N N/\iv=.int .i64 (i:Nat)/\w.heap.size<=g2/\i<=n/\n<=i+gg/\Hid (wx.rowIs g2 3 N (fun j=>.int .i64 (spE (addF P M) (mulF P M m) V x i j:Nat)))/\wx.rowIs w.heap.size 24 3 (fldCell (.int .i64 (P:Nat)) (.int .i64 (M:Nat)) (.slice A k c))/\Below w.heap.size w wx)
 case atStart=>exact ⟨0,g,rfl,rfl,hgz,by omega,by omega,HRA,rf,hB⟩
 case round =>
  clear rf hB HRA
  obtain ⟨i,g2,rfl,rfl,hg2,hi,hig,HRA,rf,hB⟩:=hrel
  have hi0:(0:Int)<=(i:Int):=by omega
  by_cases hlt:i<n
  ·have hlt':(i:Int)<(n:Int):=by omega
   have hd:decide ((i:Int)<(n:Int))=true:=by simpa using hlt
   obtain ⟨xb,xo,hXe,hxb,x0⟩:=HX.out.at hlt
   subst hXe
   replace x0:=(hB.cell (p:=⟨xb,xo+i,none⟩) hxb).trans x0
   obtain ⟨a,ha⟩:∃ a,a=x i:=⟨_,rfl⟩
   rw [<-ha] at x0
   have haq:a<P ^ M:=by rw [ha]; exact HXQ.out i hlt
   have HA:=hid ha
   clear ha
   by_cases ha0:a=0
   ·have ha0':((a:Int) != 0)=false:=by simp [ha0]
    have HRN:=hid (HRA.out.congr (g:=fun j=>.int .i64 (spE (addF P M) (mulF P M m) V x (i+1) j:Nat)) fun j hj=>by rw [spE_skip hL (by rw [<-HA.out,ha0]) (HV.out i hlt j hj)])
    clear ha0
    go_wp2
    go_roundg (gk - 1)
    case measure=>omega
    case rel=>exact ⟨i+1,g2,rfl,by go_num,hg2,by omega,by omega,HRN,rf,hB⟩
   ·have ha0':((a:Int) != 0)=true:=by simp; omega
    obtain ⟨tb,to0,RA,rc,hTe,htb,t0,_,_,hrow,_⟩:=HT.out i hlt
    subst hTe
    replace t0:=(hB.cell (p:=⟨tb,to0+i,none⟩) htb).trans t0
    have hrow1:=hrow.on hB
    have hra:=rowInts (w:=wr) (n:=N) (f:=fun j=>spE (addF P M) (mulF P M m) V x i j) HRA.out
    clear hrow ha0
    have q0:wr.cell? ⟨w.heap.size,0,none⟩=some (.int .i64 (P:Nat)):=rf.cell (i:=0) (by omega)
    have q1:wr.cell? ⟨w.heap.size,1,none⟩=some (.int .i64 (M:Nat)):=rf.cell (i:=1) (by omega)
    have q2:wr.cell? ⟨w.heap.size,2,none⟩=some (.slice A k c):=rf.cell (i:=2) (by omega)
    obtain ⟨w1,hw1⟩:∃ X,X=wr:=⟨_,rfl⟩
    rw [<-hw1] at hB rf x0 t0 q0 q1 q2 hrow1 hra ⊢
    clear hw1 HRA
    go_wp2
    refine wp_region_held_drew (S:=fun w'=>w'.cell? ⟨w.heap.size,0,none⟩=some (.int .i64 (P:Nat))/\w'.cell? ⟨w.heap.size,1,none⟩=some (.int .i64 (M:Nat))/\w'.cell? ⟨w.heap.size,2,none⟩=some (.slice A k c)/\w'.cell? ⟨xb,xo+i,none⟩=some (.int .i64 (a:Nat))/\w'.cell? ⟨tb,to0+i,none⟩=some (.slice RA N rc)) (by kernel_rfl) ⟨cellS (Below.refl _ _).drew q0,cellS (Below.refl _ _).drew q1,cellS (Below.refl _ _).drew q2,cellS (Below.refl _ _).drew x0,cellS (Below.refl _ _).drew t0⟩ (fun hHeld=>?_)
    obtain ⟨w2,hw⟩:∃ W,W=World.drew w1:=⟨_,rfl⟩
    have kb:Below w1.heap.size w1 w2:=by rw [hw]; exact (Below.refl _ _).drew
    rw [<-hw] at hHeld ⊢
    clear hw
    replace rf:=zaa rf kb
    replace hB:=onS hB kb
    replace x0:=cellS kb x0
    replace t0:=cellS kb t0
    replace q0:=cellS kb q0
    replace q1:=cellS kb q1
    replace q2:=cellS kb q2
    replace hrow1:=hrow1.on kb
    replace hra:=hra.on kb
    clear kb
    refine tkq 0 (h:=tkq 1 (h:=tkq 2 (h:=tkq 3 (h:=tkq 4 (h:=tkq 5 (h:=tkq 6 (h:=tkq 7 (h:=tkq 8 (h:=tkq 9 (h:=?_))))))))))
    refine rdq 10 (h:=fun K hK=>?_)
    go_simp
    go_wp2_with fail
    have HGW:=hid hB.size
    refine (zdY P M A k c m a (some ⟨g2,0,none⟩) RA N N N rc (fun j=>spE (addF P M) (mulF P M m) V x i j) (V i) w2 hfo (zaM hm hB) hkM haq hra (fun j _=>zhW hL x i j) hrow1 (HV.out i hlt) (Nat.le_refl _) hN2).mono ?_
    rintro e w3 ⟨g3,rfl,hg3,hr3,kb⟩
    replace rf:=zaa rf kb
    replace hB:=onS hB kb
    replace x0:=cellS kb x0
    replace t0:=cellS kb t0
    replace q0:=cellS kb q0
    replace q1:=cellS kb q1
    replace q2:=cellS kb q2
    replace hrow1:=hrow1.on kb
    replace hra:=hra.on kb
    clear kb
    have HRN:=hid hr3
    have HG3:=hid hg3
    clear hr3 hg3
    refine bkq hK ⟨q0,q1,q2,x0,t0⟩ (h:=fun hHeld=>?_)
    clear hK K
    refine tkq 11 (h:=?_)
    refine wpAnyH_done (by kernel_rfl) ?_ _
    clear hHeld
    have HRM:=hid (HRN.out.congr (g:=fun j=>.int .i64 (spE (addF P M) (mulF P M m) V x (i+1) j:Nat)) fun j _=>by rw [HA.out]; exact congrArg (fun z:Nat=>Value.int .i64 (z:Int)) (spE_step (V:=V) (j:=j) hL (HXQ.out i hlt) _ rfl))
    have hg9:w.heap.size<=g3:=Nat.le_trans HGW.out HG3.out
    clear q0 q1 q2 x0 t0 hrow1 hra HRN HG3
    go_wp2
    go_roundg (gk - 1)
    case measure=>omega
    case rel=>exact ⟨i+1,g3,rfl,by go_num,hg9,by omega,by omega,HRM,rf,hB⟩
  ·have hlt':¬ (i:Int)<(n:Int):=by omega
   have hd:decide ((i:Int)<(n:Int))=false:=by simp; omega
   obtain rfl:i=n:=by omega
   go_wp2
   go_ret
   exact ⟨g2,rfl,hg2,HRA.out,hB⟩
def msgD (q n x t:Nat):Nat:=dig q x (n - 1 - t)
theorem msgD_lt {q n x t:Nat} (hq:0<q):msgD q n x t<q:=zcx hq x _
theorem at12_any (x P M:Nat) (m:Nat->Nat) (A:Option Addr) (k c N:Nat) (T:Option Addr) (n d:Nat) (V:Nat->Nat->Nat) (w:World) (h:CodeR w P M m A k N T n V) (hx:x<=1048576) :
  Calls Tryz.prog 72 #[.agg #[.int .i64 (P:Nat),.int .i64 (M:Nat),.slice A k c,.int .i64 (N:Nat),.slice T n d],.int .i64 (x:Nat)] w (RowPost N (fun j=>.int .i64 (spE (addF P M) (mulF P M m) V (msgD (P ^ M) n x) n j:Nat)) w):=by
 have HC:=hid h
 have hn:=h.n_le
 have hN:=h.ln2
 have hN1:=h.ln1
 have hL:=fieldLaws h.fld
 have hfo:=h.fld.1
 have HORD:=hid (zdx hfo)
 have hq256:=hfo.2.2.2
 have hq2:=hL.two
 clear h
 have rf:=zbN (w:=w) (a:=.int .i64 (P:Nat)) (b:=.int .i64 (M:Nat)) (c:=.slice A k c) (d:=.int .i64 (N:Nat)) (e:=.slice T n d) (T := 27)
 have hB:Below w.heap.size w (w.alloc (.cells #[.int .i64 (P:Nat),.int .i64 (M:Nat),.slice A k c,.int .i64 (N:Nat),.slice T n d] 27)):=(Below.refl _ _).alloc (Nat.le_refl _) _
 obtain ⟨w1,hw1⟩:∃ W,W=w.alloc (.cells #[.int .i64 (P:Nat),.int .i64 (M:Nat),.slice A k c,.int .i64 (N:Nat),.slice T n d] 27):=⟨_,rfl⟩
 rw [<-hw1] at hB rf
 have hmk:=fun W=>zau (P:=Tryz.prog) 22 3 _ 8 Tryz.underlying22 Tryz.infoInt rfl (n:Int) (by omega) (by omega) (by omega) W
 simp only [Int.toNat_natCast] at hmk
 go_enter Tryz.func72, Tryz.ntmps72
 go_upto_region 1 with fail
 rw [<-hw1]
 clear hw1
 have q0:w1.cell? ⟨w.heap.size,0,none⟩=some (.int .i64 (P:Nat)):=rf.cell (i:=0) (by omega)
 have q1:w1.cell? ⟨w.heap.size,1,none⟩=some (.int .i64 (M:Nat)):=rf.cell (i:=1) (by omega)
 have q2:w1.cell? ⟨w.heap.size,2,none⟩=some (.slice A k c):=rf.cell (i:=2) (by omega)
 go_wp2_with fail
 refine (zdK (P:Int) (M:Int) A k c w1).mono ?_
 rintro e w2 ⟨rfl,kb⟩
 rw [HORD.out]
 replace rf:=zaa rf kb
 replace hB:=onS hB kb
 clear kb q0 q1 q2
 obtain ⟨q,hQ⟩:∃ Q,Q=P ^ M:=⟨_,rfl⟩
 rw [<-hQ]
 have HQ:=hid hQ
 rw [<-hQ] at hq2 hq256
 clear hQ
 have q4:w2.cell? ⟨w.heap.size,4,none⟩=some (.slice T n d):=rf.cell (i:=4) (by omega)
 go_upto_region 3 with fail
 have row:=World.rowIs_made w2 (.int .i64 0) n 3
 have kb:=(Below.refl w2.heap.size w2).alloc (Nat.le_refl _) (Obj.cells (madeCells #[Value.int .i64 0] n) 3)
 obtain ⟨w3,hw3⟩:∃ W,W=w2.alloc (Obj.cells (madeCells #[Value.int .i64 0] n) 3):=⟨_,rfl⟩
 obtain ⟨g,hg⟩:∃ b,b=w2.heap.size:=⟨_,rfl⟩
 rw [<-hw3] at kb row ⊢
 rw [<-hg] at row ⊢
 have hgB:w2.heap.size<=g:=by omega
 have HRF:=hid rf
 have HB2:=hid hB
 clear hw3 hg q4 hmk rf hB
 have hp1:(1:Int)<=(q:Int):=by omega
 have hp0:¬ (q:Int)=0:=by omega
 have hpm:(q:Int)<=256:=by omega
 go_wp2
 go_loopg [1,7] (n+1) (fun gg xv iv wx=>∃ j:Nat,iv=.int .i64 ((n:Int) - 1 - (j:Int))/\xv=.int .i64 (x / q ^ j:Nat)/\j<=n/\n+1<=j+gg/\wx.rowIs g 3 n (fun t=>.int .i64 (if n - 1 - t<j then (msgD q n x t:Nat) else 0:Int))/\Below w2.heap.size w2 wx)
 case atStart=>exact ⟨0,by simp,by simp,by omega,by omega,row.congr fun i _=>rfl,kb⟩
 case round =>
  clear row kb
  obtain ⟨j,rfl,rfl,hj,hjg,row,kb⟩:=hrel
  have hle:x / q ^ j<=x:=Nat.div_le_self _ _
  have hst:x / q ^ (j+1)=x / q ^ j / q:=by rw [Nat.pow_succ,Nat.div_div_eq_div_mul]
  have hdg:dig q x j=x / q ^ j % q:=rfl
  obtain ⟨y,hy⟩:∃ y,y=x / q ^ j:=⟨_,rfl⟩
  rw [<-hy] at hle hst hdg
  rw [<-hy]
  have HST:=hid hst
  have HDG:=hid hdg
  clear hy hst hdg
  by_cases hlt:j<n
  ·obtain ⟨i,hi⟩:∃ i,i=n - 1 - j:=⟨_,rfl⟩
   have hie:(n:Int) - 1 - (j:Int)=(i:Int):=by omega
   have hin:i<n:=by omega
   have hin':(i:Int)<(n:Int):=by omega
   have hi0:(0:Int)<=(i:Int):=by omega
   rw [hie]
   have HI:=hid hi
   have HIE:=hid hie
   clear hi hie
   have hy0:(0:Int)<=(y:Int):=by omega
   have hy1:(y:Int)<=1048576:=by omega
   have hmod:(y:Int) % (q:Int)=((y % q:Nat):Int):=by simp
   have hdiv:(y:Int) / (q:Int)=((y / q:Nat):Int):=by simp
   obtain ⟨r,hr⟩:∃ r,r=y % q:=⟨_,rfl⟩
   obtain ⟨z,hz⟩:∃ r,r=y / q:=⟨_,rfl⟩
   rw [<-hr] at hmod
   rw [<-hz] at hdiv
   have hz0:(0:Int)<=(z:Int):=by omega
   have hz1:(z:Int)<=1048576:=by have:y / q<=y:=Nat.div_le_self _ _; omega
   have HR:=hid hr
   have HZ:=hid hz
   clear hr hz
   have c0:=row.cell hin
   have z0:=row.frozen i
   have HROW2:Hid ((wr.setCell ⟨g,i,none⟩ (.int .i64 (r:Int))).rowIs g 3 n (fun t=>.int .i64 (if n - 1 - t<j+1 then (msgD q n x t:Nat) else 0:Int))):=(row.set i _).congr fun t ht=>by
    have:=HI.out
    by_cases e:t=i
    ·subst e
     rw [if_pos rfl,if_pos (by omega)]
     unfold msgD
     rw [show n - 1 - t=j by omega,HDG.out,HR.out]
    ·rw [if_neg e]
     by_cases e2:n - 1 - t<j
     ·rw [if_pos e2,if_pos (by omega)]
     ·rw [if_neg e2,if_neg (by omega)]
   have HKB:=hid (kb.setCell (p:=⟨g,i,none⟩) hgB (.int .i64 (r:Int)))
   clear row kb
   go_wp2
   go_roundg (gk - 1)
   case measure=>omega
   case rel=>exact ⟨j+1,by have:=HIE.out; show Value.int .i64 ((i:Int) - 1)=_; rw [<-this]; go_num,by rw [HST.out,HZ.out],by omega,by omega,HROW2.out,HKB.out⟩
  ·obtain rfl:j=n:=by omega
   have hneg:¬ ((j:Int) - 1 - (j:Int)) ≥ 0:=by omega
   have hrow:IntsR wr wr.heap.size (some ⟨g,0,none⟩) j (fun t=>((msgD q j x t:Nat):Int)):=rowInts (row.congr fun t ht=>by rw [if_pos (by omega)])
   have hB:=onS HB2.out kb
   have rf:=zaa HRF.out kb
   have q0:wr.cell? ⟨w.heap.size,0,none⟩=some (.int .i64 (P:Nat)):=rf.cell (i:=0) (by omega)
   have q1:wr.cell? ⟨w.heap.size,1,none⟩=some (.int .i64 (M:Nat)):=rf.cell (i:=1) (by omega)
   have q2:wr.cell? ⟨w.heap.size,2,none⟩=some (.slice A k c):=rf.cell (i:=2) (by omega)
   have q3:wr.cell? ⟨w.heap.size,3,none⟩=some (.int .i64 (N:Nat)):=rf.cell (i:=3) (by omega)
   have q4:wr.cell? ⟨w.heap.size,4,none⟩=some (.slice T j d):=rf.cell (i:=4) (by omega)
   have HRW:=hid hrow
   have h1:=HC.out.on hB
   have HQL:Hid (∀ i,i<j->msgD q j x i<P ^ M):=fun i _=>by rw [<-HQ.out]; exact msgD_lt (by omega)
   clear row kb hrow
   go_wp2_with fail
   refine (combine_any P M A k c m (some ⟨g,0,none⟩) j (msgD q j x) T j d N V wr h1.fld h1.mod h1.km HRW.out HQL.out h1.rows h1.lt (by omega) (by omega)).mono ?_
   rintro e w5 ⟨g5,rfl,hg5,hr5,kb⟩
   have hg9:w.heap.size<=g5:=Nat.le_trans hB.size hg5
   have hB9:=onS hB kb
   have HR5:=hid hr5
   clear hr5 kb hB rf q0 q1 q2 q3 q4 h1 hg5
   go_wp2
   go_ret
   exact ⟨g5,rfl,hg9,by rw [<-HQ.out]; exact HR5.out,hB9⟩
def Words12Post (q:Nat) (add mul:Nat->Nat->Nat) (n N:Nat) (V:Nat->Nat->Nat) (w:World) (e:Ending) (w':World):Prop :=
 ∃ lv,e=.returned (.tuple #[lv,.int .i64 0])/\MTab w' w.heap.size lv (q ^ n) N (fun i=>spE add mul V (msgD q n i) n)/\Below w.heap.size w w'
theorem words12_any (P M:Nat) (m:Nat->Nat) (A:Option Addr) (k c N:Nat) (T:Option Addr) (n d:Nat) (V:Nat->Nat->Nat) (w:World) (h:CodeR w P M m A k N T n V) (hsz:(P ^ M) ^ n<=65536) :
  Calls Tryz.prog 16 #[.agg #[.int .i64 (P:Nat),.int .i64 (M:Nat),.slice A k c,.int .i64 (N:Nat),.slice T n d]] w (Words12Post (P ^ M) (addF P M) (mulF P M m) n N V w):=by
 have HC:=hid h
 have hN:=h.ln2
 clear h
 have rf:=zbN (w:=w) (a:=.int .i64 (P:Nat)) (b:=.int .i64 (M:Nat)) (c:=.slice A k c) (d:=.int .i64 (N:Nat)) (e:=.slice T n d) (T := 27)
 have hB:Below w.heap.size w (w.alloc (.cells #[.int .i64 (P:Nat),.int .i64 (M:Nat),.slice A k c,.int .i64 (N:Nat),.slice T n d] 27)):=(Below.refl _ _).alloc (Nat.le_refl _) _
 obtain ⟨w1,hw1⟩:∃ W,W=w.alloc (.cells #[.int .i64 (P:Nat),.int .i64 (M:Nat),.slice A k c,.int .i64 (N:Nat),.slice T n d] 27):=⟨_,rfl⟩
 rw [<-hw1] at hB rf
 go_enter Tryz.func16, Tryz.ntmps16
 go_upto_region 1 with fail
 rw [<-hw1]
 clear hw1
 have q0:w1.cell? ⟨w.heap.size,0,none⟩=some (.int .i64 (P:Nat)):=rf.cell (i:=0) (by omega)
 have q1:w1.cell? ⟨w.heap.size,1,none⟩=some (.int .i64 (M:Nat)):=rf.cell (i:=1) (by omega)
 have q2:w1.cell? ⟨w.heap.size,2,none⟩=some (.slice A k c):=rf.cell (i:=2) (by omega)
 have q3:w1.cell? ⟨w.heap.size,3,none⟩=some (.int .i64 (N:Nat)):=rf.cell (i:=3) (by omega)
 have q4:w1.cell? ⟨w.heap.size,4,none⟩=some (.slice T n d):=rf.cell (i:=4) (by omega)
 go_wp2_with fail
 have h1:=HC.out.on hB
 refine (size12_any (P:Int) (M:Int) A k c _ (N:Int) T n d _ _ w1 h1.ints h1.rows).mono ?_
 rintro e w2 ⟨v,u,rfl,hu,hv1,hv2,kb⟩
 have hu0:u=0:=FirstErr.unique hu (FirstErr.app_all HC.out.errs (.inr ⟨by rw [Int.toNat_natCast,Int.toNat_natCast]; exact hsz,rfl⟩) (by simp [CodeErrs]))
 have hv:=hv1 hu0
 rw [Int.toNat_natCast,Int.toNat_natCast] at hv
 subst hu0
 obtain ⟨S,hS⟩:∃ S,S=(P ^ M) ^ n:=⟨_,rfl⟩
 rw [<-hS] at hv hsz
 subst hv
 have HSS:=hid hS
 replace rf:=zaa rf kb
 replace hB:=onS hB kb
 clear kb q0 q1 q2 q3 q4 hu hv1 hv2 h1 hS
 have H0:=hid (MTab.nil w2 w.heap.size N (fun i=>spE (addF P M) (mulF P M m) V (msgD (P ^ M) n i) n))
 go_wp2
 obtain ⟨nv,hnv⟩:∃ x:Value,x=.slice none 0 0:=⟨_,rfl⟩
 rw [<-hnv] at H0 ⊢
 clear hnv
 go_loopg [6,7] S (fun gg ov iv wx=>∃ i:Nat,iv=.int .i64 (i:Nat)/\i<=S/\S<=i+gg/\Hid (MTab wx w.heap.size ov i N (fun i=>spE (addF P M) (mulF P M m) V (msgD (P ^ M) n i) n))/\wx.rowIs w.heap.size 27 5 (codCell (.int .i64 (P:Nat)) (.int .i64 (M:Nat)) (.slice A k c) (.int .i64 (N:Nat)) (.slice T n d))/\Below w.heap.size w wx)
 case atStart=>exact ⟨0,rfl,by omega,by omega,H0,rf,hB⟩
 case round =>
  clear H0 rf hB
  obtain ⟨i,rfl,hi,hig,HM,rf,hB⟩:=hrel
  have hi0:(0:Int)<=(i:Int):=by omega
  by_cases hlt:i<S
  ·have hlt':(i:Int)<(S:Int):=by omega
   have q0:wr.cell? ⟨w.heap.size,0,none⟩=some (.int .i64 (P:Nat)):=rf.cell (i:=0) (by omega)
   have q1:wr.cell? ⟨w.heap.size,1,none⟩=some (.int .i64 (M:Nat)):=rf.cell (i:=1) (by omega)
   have q2:wr.cell? ⟨w.heap.size,2,none⟩=some (.slice A k c):=rf.cell (i:=2) (by omega)
   have q3:wr.cell? ⟨w.heap.size,3,none⟩=some (.int .i64 (N:Nat)):=rf.cell (i:=3) (by omega)
   have q4:wr.cell? ⟨w.heap.size,4,none⟩=some (.slice T n d):=rf.cell (i:=4) (by omega)
   have h1:=HC.out.on hB
   have hub:∀ q,u6.ownBlock=some q->w.heap.size<=q:=fun q e=>(HM.out.choose_spec.1.lt q e).1
   have HUB:=hid hub
   clear hub
   go_wp2_with fail
   refine (at12_any i P M m A k c N T n d V wr h1 (by omega)).mono ?_
   rintro e w3 ⟨g,rfl,hg,hr,kb⟩
   have hr2:=zbv hr (show w.heap.size<=g by have:=hB.size; omega) (show N<=maxLen by unfold maxLen; omega)
   have kb2:=(Below.refl w3.heap.size w3).alloc (Nat.le_refl _) (Obj.cells #[Value.slice (some ⟨g,0,none⟩) N N] 22)
   have HX8:=hid (hr2.on kb2)
   have HO8:=hid ((HM.out.on kb).on kb2)
   have HB8:=hid (onS (onS hB kb) kb2)
   have HRF8:=hid (zaa (zaa rf kb) kb2)
   have HC8:Hid ((w3.alloc (Obj.cells #[Value.slice (some ⟨g,0,none⟩) N N] 22)).cell? ((⟨w3.heap.size,0,none⟩:Addr).add 0)=some (.slice (some ⟨g,0,none⟩) N N)):=tbox2
   have HZ8:=hid HB8.out.size
   have HIL:Hid (i<=1048576):=by show _<=_; omega
   clear hr hr2 kb kb2 hg q0 q1 q2 q3 q4 rf hB h1
   go_wp2_with (first | (at_builtin; (refine zcF rfl (.tmp 21) (.tmp 25) rfl HO8.out rfl (ad:=⟨w3.heap.size,0,none⟩) (c:=1) rfl HC8.out rfl HX8.out HZ8.out HIL.out ?_); intro v9 w9 o1 o2 o3))
   have HM9:=hid (o1.congr (W':=fun i=>spE (addF P M) (mulF P M m) V (msgD (P ^ M) n i) n) fun u hu j _=>by
    by_cases e:u=i
    ·subst e; rw [if_pos rfl]
    ·rw [if_neg e])
   have HB9:=hid (HB8.out.grown o2 HZ8.out o3)
   have HRF9:=hid (HRF8.out.of_block (o2.block _ HRF8.out.lt fun e=>absurd (zbn HRF8.out HO8.out.choose_spec.1 (by decide)) (by rw [<-e]; simp)))
   clear o1 o2 o3
   go_wp2
   go_roundg (gk - 1)
   case measure=>omega
   case rel=>exact ⟨i+1,by go_num,by omega,by omega,HM9,HRF9.out,HB9.out⟩
  ·have hlt':¬ (i:Int)<(S:Int):=by omega
   obtain rfl:i=S:=by omega
   go_wp2
   go_ret2
   exact ⟨_,rfl,by rw [<-HSS.out]; exact HM.out,hB⟩
open Go
theorem refMul02_any (v v':Value) (r r':Rat) (N:Nat) (w:World) (h:RatRaw w w.heap.size v r N) (h':RatRaw w w.heap.size v' r' N) (hN:N<=33554432) (hr:rsz r N) (hr':rsz r' N) :
  Calls Tryz.prog 86 #[v,v'] w (RatPost (r*r') w):=by
 have hv:∃ s A n c A2 m c2,v=.agg #[.bool s,.slice A n c,.slice A2 m c2]:=by obtain ⟨s,A,n,c,A2,m,c2,x,y,rfl,_⟩:=h; exact ⟨s,A,n,c,A2,m,c2,rfl⟩
 obtain ⟨s,A,n,c,A2,m,c2,rfl⟩:=hv
 have hv':∃ s A n c A2 m c2,v'=.agg #[.bool s,.slice A n c,.slice A2 m c2]:=by obtain ⟨s,A,n,c,A2,m,c2,x,y,rfl,_⟩:=h'; exact ⟨s,A,n,c,A2,m,c2,rfl⟩
 obtain ⟨s',A',n',c',A2',m',c2',rfl⟩:=hv'
 have hb0:=zab w (.cells #[.bool s,.slice A n c,.slice A2 m c2] 49)
 have hb1:=zab (w.alloc (.cells #[.bool s,.slice A n c,.slice A2 m c2] 49)) (.cells #[.bool s',.slice A' n' c',.slice A2' m' c2'] 49)
 have s0:(w.alloc (.cells #[.bool s,.slice A n c,.slice A2 m c2] 49)).heap.size=w.heap.size+1:=by simp
 have s1:((w.alloc (.cells #[.bool s,.slice A n c,.slice A2 m c2] 49)).alloc (.cells #[.bool s',.slice A' n' c',.slice A2' m' c2'] 49)).heap.size=w.heap.size+1+1:=by simp
 have ra:=zaa (zae (w:=w) (a:=.bool s) (b:=.slice A n c) (c:=.slice A2 m c2) (T := 49)) hb1
 have rb:=zae (w:=w.alloc (.cells #[.bool s,.slice A n c,.slice A2 m c2] 49)) (a:=.bool s') (b:=.slice A' n' c') (c:=.slice A2' m' c2') (T := 49)
 have hB:=onS hb0 hb1
 rw [s0] at rb
 have ha:=h.on hB
 have hb:=h'.on hB
 have hb2:=zab ((w.alloc (.cells #[.bool s,.slice A n c,.slice A2 m c2] 49)).alloc (.cells #[.bool s',.slice A' n' c',.slice A2' m' c2'] 49)) (.cells #[.bool false,.slice none 0 0,.slice none 0 0] 49)
 have rz:=zae (w:=(w.alloc (.cells #[.bool s,.slice A n c,.slice A2 m c2] 49)).alloc (.cells #[.bool s',.slice A' n' c',.slice A2' m' c2'] 49)) (a:=.bool false) (b:=.slice none 0 0) (c:=.slice none 0 0) (T := 49)
 rw [s1] at rz
 replace ra:=zaa ra hb2
 replace rb:=zaa rb hb2
 replace hB:=onS hB hb2
 replace ha:=ha.on hb2
 replace hb:=hb.on hb2
 clear hb2
 clear hb0 hb1 s0 s1 h h'
 go_enter Tryz.func86, Tryz.ntmps86
 go_wp2_with fail
 refine (zbp _ r N _ ha (by omega)).mono ?_
 rintro e w0 ⟨Aa,ca,Ba,da,rfl,ma1,ma2,ma3,ma4,ma5,ma6,kb⟩
 replace ra:=zaa ra kb
 replace rb:=zaa rb kb
 replace rz:=zaa rz kb
 replace hB:=onS hB kb
 replace hb:=hb.on kb
 clear kb
 have hsz:=hB.size
 have za0:=ra.frozen 0
 have za1:=ra.frozen 1
 have za2:=ra.frozen 2
 have ya0:w0.cell? ⟨w.heap.size,0,none⟩=some _:=ra.cell (i:=0) (by omega)
 have ya1:w0.cell? ⟨w.heap.size,1,none⟩=some _:=ra.cell (i:=1) (by omega)
 have ya2:w0.cell? ⟨w.heap.size,2,none⟩=some _:=ra.cell (i:=2) (by omega)
 go_upto_region 2 with fail
 generalize hw3:World.setCell _ _ _=w1
 have hst:RatStored w0 (w.heap.size) 49 (rneg (r)) (Aa) (dl (r).num.natAbs) (ca) (Ba) (dl (r).den) (da) w1:=by rw [<-hw3]; exact zaf ra _ _ _ _ _ _ _
 clear hw3
 replace ra:=hst.row
 replace rb:=zad rb hst.grown (by omega)
 replace rz:=zad rz hst.grown (by omega)
 replace hB:=hst.below hB (by omega) (by omega)
 replace hb:=hst.raw hb
 rw [<-hst.size] at hb
 replace ma1:=hst.nat _ _ _ ma1
 rw [<-hst.size] at ma1
 replace ma2:=hst.nat _ _ _ ma2
 rw [<-hst.size] at ma2
 clear hst
 clear hsz za0 za1 za2 ya0 ya1 ya2
 have yb0:w1.cell? ⟨w.heap.size+1,0,none⟩=some (.bool (s')):=rb.cell (i:=0) (by omega)
 have yb1:w1.cell? ⟨w.heap.size+1,1,none⟩=some (.slice (A') (n') (c')):=rb.cell (i:=1) (by omega)
 have yb2:w1.cell? ⟨w.heap.size+1,2,none⟩=some (.slice (A2') (m') (c2')):=rb.cell (i:=2) (by omega)
 go_wp2_with fail
 refine (zbp _ r' N _ hb (by omega)).mono ?_
 rintro e w2 ⟨Ab,cb,Bb,db,rfl,mb1,mb2,mb3,mb4,mb5,mb6,kb⟩
 replace ra:=zaa ra kb
 replace rb:=zaa rb kb
 replace rz:=zaa rz kb
 replace hB:=onS hB kb
 replace ma1:=ma1.on kb
 replace ma2:=ma2.on kb
 clear kb
 have hsz:=hB.size
 have za0:=rb.frozen 0
 have za1:=rb.frozen 1
 have za2:=rb.frozen 2
 have ya0:w2.cell? ⟨w.heap.size+1,0,none⟩=some _:=rb.cell (i:=0) (by omega)
 have ya1:w2.cell? ⟨w.heap.size+1,1,none⟩=some _:=rb.cell (i:=1) (by omega)
 have ya2:w2.cell? ⟨w.heap.size+1,2,none⟩=some _:=rb.cell (i:=2) (by omega)
 go_upto_region 3 with fail
 generalize hw3:World.setCell _ _ _=w3
 have hst:RatStored w2 (w.heap.size+1) 49 (rneg (r')) (Ab) (dl (r').num.natAbs) (cb) (Bb) (dl (r').den) (db) w3:=by rw [<-hw3]; exact zaf rb _ _ _ _ _ _ _
 clear hw3
 replace ra:=zad ra hst.grown (by omega)
 replace rb:=hst.row
 replace rz:=zad rz hst.grown (by omega)
 replace hB:=hst.below hB (by omega) (by omega)
 replace ma1:=hst.nat _ _ _ ma1
 rw [<-hst.size] at ma1
 replace ma2:=hst.nat _ _ _ ma2
 rw [<-hst.size] at ma2
 replace mb1:=hst.nat _ _ _ mb1
 rw [<-hst.size] at mb1
 replace mb2:=hst.nat _ _ _ mb2
 rw [<-hst.size] at mb2
 clear hst
 clear hsz za0 za1 za2 ya0 ya1 ya2
 have hr1:=hr.1
 have hr2:=hr.2
 have hr3:=hr'.1
 have hr4:=hr'.2
 have hx:=dl_mul_le' (show dl r.num.natAbs<=N from hr1) (show dl r'.num.natAbs<=N from hr3)
 have hz:=dl_mul_le' (show dl r.den<=N from hr2) (show dl r'.den<=N from hr4)
 have HR:=hid (zkc r r')
 have HS:Hid (∀ w':World,w'.rowIs w.heap.size 49 3 (ratCell (.bool (rneg (r))) (.slice (Aa) (dl (r).num.natAbs) (ca)) (.slice (Ba) (dl (r).den) (da)))->w'.rowIs (w.heap.size+1) 49 3 (ratCell (.bool (rneg (r'))) (.slice (Ab) (dl (r').num.natAbs) (cb)) (.slice (Bb) (dl (r').den) (db)))->w'.cell? ⟨w.heap.size,0,none⟩=some (.bool (rneg (r)))/\w'.cell? ⟨w.heap.size,1,none⟩=some (.slice (Aa) (dl (r).num.natAbs) (ca))/\w'.cell? ⟨w.heap.size,2,none⟩=some (.slice (Ba) (dl (r).den) (da))/\w'.cell? ⟨w.heap.size+1,0,none⟩=some (.bool (rneg (r')))/\w'.cell? ⟨w.heap.size+1,1,none⟩=some (.slice (Ab) (dl (r').num.natAbs) (cb))/\w'.cell? ⟨w.heap.size+1,2,none⟩=some (.slice (Bb) (dl (r').den) (db))):=fun w' h1 h2=>⟨h1.cell (i:=0) (by omega),h1.cell (i:=1) (by omega),h1.cell (i:=2) (by omega),h2.cell (i:=0) (by omega),h2.cell (i:=1) (by omega),h2.cell (i:=2) (by omega)⟩
 refine wp_region_held_drew (S:=fun w'=>w'.cell? ⟨w.heap.size,0,none⟩=some (.bool (rneg (r)))/\w'.cell? ⟨w.heap.size,1,none⟩=some (.slice (Aa) (dl (r).num.natAbs) (ca))/\w'.cell? ⟨w.heap.size,2,none⟩=some (.slice (Ba) (dl (r).den) (da))/\w'.cell? ⟨w.heap.size+1,0,none⟩=some (.bool (rneg (r')))/\w'.cell? ⟨w.heap.size+1,1,none⟩=some (.slice (Ab) (dl (r').num.natAbs) (cb))/\w'.cell? ⟨w.heap.size+1,2,none⟩=some (.slice (Bb) (dl (r').den) (db))) (by kernel_rfl) (HS.out _ (show World.rowIs (World.drew _) _ _ _ _ from ra) (show World.rowIs (World.drew _) _ _ _ _ from rb)) (fun hHeld=>?_)
 have kb:=(Below.refl w3.heap.size w3).drew
 replace ra:=zaa ra kb
 replace rb:=zaa rb kb
 replace rz:=zaa rz kb
 replace hB:=onS hB kb
 replace ma1:=ma1.on kb
 replace ma2:=ma2.on kb
 replace mb1:=mb1.on kb
 replace mb2:=mb2.on kb
 clear kb
 refine tkq 0 (h:=tkq 1 (h:=tkq 2 (h:=tkq 3 (h:=tkq 4 (h:=tkq 5 (h:=tkq 6 (h:=tkq 7 (h:=tkq 8 (h:=tkq 10 (h:=tkq 11 (h:=tkq 12 (h:=tkq 13 (h:=?_)))))))))))))
 refine rdq 9 (h:=fun K hK=>?_)
 go_simp
 go_wp2_with fail
 refine (zbJ Aa Ab ca cb (r.num.natAbs) (r'.num.natAbs) _ ma1 mb1 (by omega) (by omega)).mono ?_
 rintro e w4 ⟨Xx,kx,rfl,ux1,ux2,ux3,kb⟩
 replace ra:=zaa ra kb
 replace rb:=zaa rb kb
 replace rz:=zaa rz kb
 replace hB:=onS hB kb
 replace ma1:=ma1.on kb
 replace ma2:=ma2.on kb
 replace mb1:=mb1.on kb
 replace mb2:=mb2.on kb
 clear kb
 obtain ⟨x,hX⟩:∃ x,x=r.num.natAbs*r'.num.natAbs:=⟨_,rfl⟩
 rw [<-hX] at hx HR ux1 ux3 ⊢
 clear hX
 refine bkq hK (HS.out _ ra rb) (h:=fun hHeld=>?_)
 clear hK K
 refine rdq 14 (h:=fun K hK=>?_)
 go_simp
 go_wp2_with fail
 refine (zbJ Ba Bb da db (r.den) (r'.den) _ ma2 mb2 (by omega) (by omega)).mono ?_
 rintro e w5 ⟨Xz,kz,rfl,uz1,uz2,uz3,kb⟩
 replace ra:=zaa ra kb
 replace rb:=zaa rb kb
 replace rz:=zaa rz kb
 replace hB:=onS hB kb
 replace ma1:=ma1.on kb
 replace ma2:=ma2.on kb
 replace mb1:=mb1.on kb
 replace mb2:=mb2.on kb
 replace ux3:=ux3.on kb
 clear kb
 obtain ⟨z,hX⟩:∃ x,x=r.den*r'.den:=⟨_,rfl⟩
 rw [<-hX] at hz HR uz1 uz3 ⊢
 clear hX
 refine bkq hK (HS.out _ ra rb) (h:=fun hHeld=>?_)
 clear hK K
 clear ma1 ma2 mb1 mb2
 refine rdq 15 (h:=fun K hK=>?_)
 go_simp
 go_wp2_with fail
 refine (zbe (rneg r != rneg r') Xx Xz (dl x) kx (dl z) kz x z _ ux3.raw uz3.raw ux1 ux2 uz1 uz2 (by omega) (by omega)).mono ?_
 rintro e w6 ⟨Am,cm,Bm,dm,rfl,mm1,mm2,mm3,mm4,mm5,mm6,kb⟩
 replace ra:=zaa ra kb
 replace rb:=zaa rb kb
 replace rz:=zaa rz kb
 replace hB:=onS hB kb
 replace ux3:=ux3.on kb
 replace uz3:=uz3.on kb
 clear kb
 rw [HR.out] at mm1 mm2 mm3 mm5 ⊢
 obtain ⟨q,hq⟩:∃ q,q=r*r':=⟨_,rfl⟩
 rw [<-hq] at mm1 mm2 mm3 mm5 ⊢
 have HQL:=hid hq
 obtain ⟨ngq,hngq⟩:∃ b,b=rneg q:=⟨_,rfl⟩
 rw [<-hngq]
 have HNG:=hid hngq
 clear hq hngq
 refine bkq hK (HS.out _ ra rb) (h:=fun hHeld=>?_)
 clear hK K
 have hsz:=hB.size
 have za0:=rz.frozen 0
 have za1:=rz.frozen 1
 have za2:=rz.frozen 2
 have ya0:w6.cell? ⟨w.heap.size+1+1,0,none⟩=some _:=rz.cell (i:=0) (by omega)
 have ya1:w6.cell? ⟨w.heap.size+1+1,1,none⟩=some _:=rz.cell (i:=1) (by omega)
 have ya2:w6.cell? ⟨w.heap.size+1+1,2,none⟩=some _:=rz.cell (i:=2) (by omega)
 refine rdq 16 (h:=fun K hK=>?_)
 go_simp
 generalize hw3:World.setCell _ _ _=w7
 have hst:RatStored w6 (w.heap.size+1+1) 49 (ngq) (Am) (dl q.num.natAbs) (cm) (Bm) (dl q.den) (dm) w7:=by rw [<-hw3]; exact zaf rz _ _ _ _ _ _ _
 clear hw3
 replace ra:=zad ra hst.grown (by omega)
 replace rb:=zad rb hst.grown (by omega)
 replace rz:=hst.row
 replace hB:=hst.below hB (by omega) (by omega)
 replace ux3:=hst.nat _ _ _ ux3
 rw [<-hst.size] at ux3
 replace uz3:=hst.nat _ _ _ uz3
 rw [<-hst.size] at uz3
 replace mm1:=hst.nat _ _ _ mm1
 rw [<-hst.size] at mm1
 replace mm2:=hst.nat _ _ _ mm2
 rw [<-hst.size] at mm2
 clear hst
 refine bkq hK (HS.out _ ra rb) (h:=fun hHeld=>?_)
 clear hK K
 refine wpAnyH_done (by kernel_rfl) ?_ _
 clear hHeld
 clear hsz za0 za1 za2 ya0 ya1 ya2
 go_wp2
 have e0:w7.cell? ⟨w.heap.size+1+1,0,none⟩=some (.bool (ngq)):=rz.cell (i:=0) (by omega)
 have e1:w7.cell? ⟨w.heap.size+1+1,1,none⟩=some (.slice (Am) (dl q.num.natAbs) (cm)):=rz.cell (i:=1) (by omega)
 have e2:w7.cell? ⟨w.heap.size+1+1,2,none⟩=some (.slice (Bm) (dl q.den) (dm)):=rz.cell (i:=2) (by omega)
 refine bodyPost_ret (v:=.agg #[.bool (ngq),.slice (Am) (dl q.num.natAbs) (cm),.slice (Bm) (dl q.den) (dm)]) (by simp [results,Tryz.results86, go_sem,e0,e1,e2]) rfl ?_
 rw [<-HQL.out]
 exact ⟨Am,cm,Bm,dm,by rw [HNG.out],mm1,mm2,mm3,mm4,mm5,mm6,hB⟩
theorem refNat02_any (A:Option Addr) (n c x:Nat) (w:World) (h:NatRaw w w.heap.size A n x) (hc:n<=c) (hm:c<=maxLen) (hn:n<=134217728) :
  Calls Tryz.prog 155 #[.slice A n c] w (RatPost (x:Rat) w):=by
 have hB:=zab w (.cells #[.bool false,.slice none 0 0,.slice none 0 0] 49)
 have rz:=zae (w:=w) (a:=.bool false) (b:=.slice none 0 0) (c:=.slice none 0 0) (T := 49)
 have hval:rv false x 1=(x:Rat):=by rw [zke]; rfl
 have HV:=hid hval
 clear hval
 have hone1:dl 1=1:=zb4
 replace h:=h.on hB
 have hb:=zcj (w.alloc (.cells #[.bool false,.slice none 0 0,.slice none 0 0] 49)) (Obj.cells #[Value.int .u32 ((1:Nat):Int)] 110)
 have hone:=zaQ (w:=w.alloc (.cells #[.bool false,.slice none 0 0,.slice none 0 0] 49)) 110 (x:=1) (by omega) (by omega)
 have r1:=hone.raw
 rw [hone1] at r1
 replace h:=h.on hb
 replace rz:=zaa rz hb
 replace hB:=onS hB hb
 clear hone hb hone1
 simp at r1
 have HMK:=hid (fun q=>zbe false A (some ⟨w.heap.size+1,0,none⟩) n c 1 1 x 1 _ h q hc hm (by omega) (by unfold maxLen; omega) hn (by omega))
 clear h
 go_enter Tryz.func155, Tryz.ntmps155
 go_wp2_with fail
 refine (HMK.out (by simpa using r1)).mono ?_
 rintro e w0 ⟨Am,cm,Bm,dm,rfl,mm1,mm2,mm3,mm4,mm5,mm6,kb⟩
 replace rz:=zaa rz kb
 replace hB:=onS hB kb
 clear kb
 clear HMK r1
 rw [HV.out] at mm1 mm2 mm3 mm5 ⊢
 obtain ⟨q,hq⟩:∃ q,q=(x:Rat):=⟨_,rfl⟩
 rw [<-hq] at mm1 mm2 mm3 mm5 ⊢
 have HQL:=hid hq
 obtain ⟨ngq,hngq⟩:∃ b,b=rneg q:=⟨_,rfl⟩
 rw [<-hngq]
 have HNG:=hid hngq
 clear hq hngq
 have hsz:=hB.size
 have za0:=rz.frozen 0
 have za1:=rz.frozen 1
 have za2:=rz.frozen 2
 have ya0:w0.cell? ⟨w.heap.size,0,none⟩=some _:=rz.cell (i:=0) (by omega)
 have ya1:w0.cell? ⟨w.heap.size,1,none⟩=some _:=rz.cell (i:=1) (by omega)
 have ya2:w0.cell? ⟨w.heap.size,2,none⟩=some _:=rz.cell (i:=2) (by omega)
 go_wp2
 generalize hw3:World.setCell _ _ _=w1
 have hst:RatStored w0 (w.heap.size) 49 (ngq) (Am) (dl q.num.natAbs) (cm) (Bm) (dl q.den) (dm) w1:=by rw [<-hw3]; exact zaf rz _ _ _ _ _ _ _
 clear hw3
 replace rz:=hst.row
 replace hB:=hst.below hB (by omega) (by omega)
 replace mm1:=hst.nat _ _ _ mm1
 rw [<-hst.size] at mm1
 replace mm2:=hst.nat _ _ _ mm2
 rw [<-hst.size] at mm2
 clear hst
 clear hsz za0 za1 za2 ya0 ya1 ya2
 have e0:w1.cell? ⟨w.heap.size,0,none⟩=some (.bool (ngq)):=rz.cell (i:=0) (by omega)
 have e1:w1.cell? ⟨w.heap.size,1,none⟩=some (.slice (Am) (dl q.num.natAbs) (cm)):=rz.cell (i:=1) (by omega)
 have e2:w1.cell? ⟨w.heap.size,2,none⟩=some (.slice (Bm) (dl q.den) (dm)):=rz.cell (i:=2) (by omega)
 refine bodyPost_ret (v:=.agg #[.bool (ngq),.slice (Am) (dl q.num.natAbs) (cm),.slice (Bm) (dl q.den) (dm)]) (by simp [results,Tryz.results155, go_sem,e0,e1,e2]) rfl ?_
 rw [<-HQL.out]
 exact ⟨Am,cm,Bm,dm,by rw [HNG.out],mm1,mm2,mm3,mm4,mm5,mm6,hB⟩
theorem RatList.on {w w':World} {T:Option Addr} {m:Nat} {rs:Nat->Rat} (h:RatList w w.heap.size T m rs) (hb:Below w.heap.size w w'):RatList w' w'.heap.size T m rs:=fun i hi=>by
 obtain ⟨b,off,A,c,A2,c2,e,h1,h2,h3,h4,h5,h6,h7⟩:=h i hi
 exact ⟨b,off,A,c,A2,c2,e,Nat.lt_of_lt_of_le h1 hb.size,(hb.cell (p:=⟨b,_,none⟩) h1).trans h2,(hb.cell (p:=⟨b,_,none⟩) h1).trans h3,(hb.cell (p:=⟨b,_,none⟩) h1).trans h4,h5.on hb,h6.on hb,h7⟩
theorem refSameList_any (T T':Option Addr) (m c c' N:Nat) (rs:Nat->Rat) (w:World) (h:RatList w w.heap.size T m rs) (h':RatList w w.heap.size T' m rs) (hm:m<=1048576) (hN:N<=33554432) (hr:Hid (∀ k,k<m->rsz (rs k) N)) :
  Calls Tryz.prog 73 #[.slice T m c,.slice T' m c'] w fun e w'=>e=.returned (.bool true)/\Below w.heap.size w w':=by
 go_enter Tryz.func73, Tryz.ntmps73
 go_wp2
 go_loopg [5] m (fun gg iv wx=>∃ k:Nat,iv=.int .i64 (k:Nat)/\k<=m/\m<=k+gg/\Below w.heap.size w wx)
 case atStart=>exact ⟨0,rfl,by omega,by omega,Below.refl _ _⟩
 case round =>
  obtain ⟨k,rfl,hk,hkg,hB⟩:=hrel
  have hk0:(0:Int)<=(k:Int):=by omega
  by_cases hlt:k<m
  ·have hlt':(k:Int)<(m:Int):=by omega
   obtain ⟨b,off,A,d,A2,d2,rfl,hb,t0,t1,t2,m1,m2,_,_,_,_⟩:=h k hlt
   obtain ⟨b',off',A',d',A2',d2',rfl,hb',u0,u1,u2,n1,n2,_,_,_,_⟩:=h' k hlt
   have HRK:=hr.out k hlt
   obtain ⟨r,hR⟩:∃ r,r=rs k:=⟨_,rfl⟩
   rw [<-hR] at t0 t1 t2 m1 m2 u0 u1 u2 n1 n2 HRK
   clear hR
   have HS:Hid (∀ w':World,Below w.heap.size w w'->w'.cell? ⟨b,off+k*3,none⟩=some (.bool (rneg (r)))/\w'.cell? ⟨b,off+k*3+1,none⟩=some (.slice (A) (dl (r).num.natAbs) (d))/\w'.cell? ⟨b,off+k*3+2,none⟩=some (.slice (A2) (dl (r).den) (d2))/\w'.cell? ⟨b',off'+k*3,none⟩=some (.bool (rneg (r)))/\w'.cell? ⟨b',off'+k*3+1,none⟩=some (.slice (A') (dl (r).num.natAbs) (d'))/\w'.cell? ⟨b',off'+k*3+2,none⟩=some (.slice (A2') (dl (r).den) (d2'))):=fun w' hb=>⟨cellS hb t0,cellS hb t1,cellS hb t2,cellS hb u0,cellS hb u1,cellS hb u2⟩
   go_upto_region 6 with fail
   clear t0 t1 t2 u0 u1 u2
   refine wp_region_held_drew (S:=fun w'=>w'.cell? ⟨b,off+k*3,none⟩=some (.bool (rneg (r)))/\w'.cell? ⟨b,off+k*3+1,none⟩=some (.slice (A) (dl (r).num.natAbs) (d))/\w'.cell? ⟨b,off+k*3+2,none⟩=some (.slice (A2) (dl (r).den) (d2))/\w'.cell? ⟨b',off'+k*3,none⟩=some (.bool (rneg (r)))/\w'.cell? ⟨b',off'+k*3+1,none⟩=some (.slice (A') (dl (r).num.natAbs) (d'))/\w'.cell? ⟨b',off'+k*3+2,none⟩=some (.slice (A2') (dl (r).den) (d2'))) (by kernel_rfl) (HS.out _ hB.drew) (fun hHeld=>?_)
   obtain ⟨w1,hw⟩:∃ W,W=World.drew wr:=⟨_,rfl⟩
   replace hB:Below w.heap.size w w1:=by rw [hw]; exact hB.drew
   rw [<-hw] at hHeld ⊢
   clear hw
   replace m1:=m1.on hB
   replace m2:=m2.on hB
   replace n1:=n1.on hB
   replace n2:=n2.on hB
   refine tkq 0 (h:=tkq 1 (h:=tkq 2 (h:=tkq 3 (h:=tkq 4 (h:=tkq 5 (h:=tkq 6 (h:=tkq 7 (h:=?_))))))))
   refine rdq 8 (h:=fun K hK=>?_)
   go_simp
   go_wp2_with fail
   refine (zcV _ _ _ _ _ _ _ _ r N _ m1 m2 n1 n2 hN HRK).mono ?_
   rintro e w2 ⟨rfl,kb⟩
   replace hB:=onS hB kb
   clear kb
   refine bkq hK (HS.out _ hB) (h:=fun hHeld=>?_)
   clear hK K
   refine tkq 9 (h:=?_)
   refine wpAnyH_done (by kernel_rfl) ?_ _
   clear hHeld
   go_wp2
   go_roundg (gk - 1)
   case measure=>omega
   case rel=>exact ⟨k+1,by go_num,by omega,by omega,hB⟩
  ·have hlt':¬ (k:Int)<(m:Int):=by omega
   go_wp2
   go_ret
   exact ⟨rfl,hB⟩
theorem lawSame_any (T T':Option Addr) (m c c' N:Nat) (rs:Nat->Rat) (w:World) (h:RatList w w.heap.size T m rs) (h':RatList w w.heap.size T' m rs) (hm:m<=1048576) (hN:N<=33554432) (hr:Hid (∀ k,k<m->rsz (rs k) N)) :
  Calls Tryz.prog 17 #[.slice T m c,.slice T' m c'] w fun e w'=>e=.returned (.bool true)/\Below w.heap.size w w':=by
 go_enter Tryz.func17, Tryz.ntmps17
 go_wp2_with fail
 refine (refSameList_any T T' m c c' N rs _ h h' hm hN hr).mono ?_
 rintro e w1 ⟨rfl,hB⟩
 go_wp2
 go_ret
 exact ⟨rfl,hB⟩
theorem RatList.congr {w:World} {B m:Nat} {T:Option Addr} {rs rs':Nat->Rat} (h:RatList w B T m rs) (e:∀ i,i<m->rs i=rs' i):RatList w B T m rs':=fun i hi=>by
 rw [<-e i hi]; exact h i hi
theorem clen_congr {rs rs':Nat->Rat} {m:Nat} (h:∀ i,i<m->rs i=rs' i):clen rs m=clen rs' m:=by
 induction m with
 | zero=>rfl
 | succ m ih=>unfold clen; rw [h m (by omega),ih fun i hi=>h i (by omega)]
theorem refCanon55_any (T:Option Addr) (m c N:Nat) (rs:Nat->Rat) (w:World) (h:RatTab w w.heap.size T m rs N) (hm:m<=1048576) (hN:N<=33554432) :
  Calls Tryz.prog 79 #[.slice T m c] w (PolyPost (clen rs m) rs w):=by
 have hcm:=zeM rs m
 obtain ⟨M,hM⟩:∃ M,M=clen rs m:=⟨_,rfl⟩
 rw [<-hM] at hcm ⊢
 have HM:=hid hM
 clear hM
 go_enter Tryz.func79, Tryz.ntmps79
 go_wp2
 go_loopg [3,4] m (fun gg nv iv wx=>∃ k:Nat,iv=.int .i64 (k:Nat)/\k<=m/\m<=k+gg/\nv=.int .i64 (clen rs k:Nat)/\Below w.heap.size w wx)
 case atStart=>exact ⟨0,rfl,by omega,by omega,rfl,Below.refl _ _⟩
 case round =>
  obtain ⟨k,rfl,hk,hkg,rfl,hB⟩:=hrel
  have hk0:(0:Int)<=(k:Int):=by omega
  have hcl:=zeM rs k
  by_cases hlt:k<m
  ·have hlt':(k:Int)<(m:Int):=by omega
   obtain ⟨b,off,s,A1,n1,c1,A2,n2,c2,rfl,hb,t0,t1,t2,hraw⟩:=h.on hB k hlt
   obtain ⟨r,hr⟩:∃ r,r=rs k:=⟨_,rfl⟩
   rw [<-hr] at hraw
   have HR:=hid hr
   clear hr
   obtain ⟨cl,hcle⟩:∃ cl,cl=clen rs k:=⟨_,rfl⟩
   rw [<-hcle]
   rw [<-hcle] at hcl
   have HCL:=hid hcle
   clear hcle
   go_wp2_with fail
   refine (zcK _ r N _ hraw (by omega)).mono ?_
   rintro e w1 ⟨rfl,kb1⟩
   replace hB:=onS hB kb1
   clear t0 t1 t2 kb1
   have hsg:=zjq (r:=r)
   have hnx:clen rs (k+1)=if r=0 then clen rs k else k+1:=by rw [HR.out]; rfl
   rw [<-HCL.out] at hnx
   by_cases hz:r=0
   ·have hsg2:((rsign r:Int) != 0)=false:=by rw [hsg]; simp [hz]
    rw [if_pos hz] at hnx
    have HNX:=hid hnx
    have hsg3:((rsign r:Int) == 0)=true:=by simpa using hsg2
    clear hsg hnx hz
    go_wp2
    go_roundg (gk - 1)
    case measure=>omega
    case rel=>exact ⟨k+1,by go_num,by omega,by omega,by rw [HNX.out],hB⟩
   ·have hsg2:((rsign r:Int) != 0)=true:=by rw [hsg]; simp [hz]
    rw [if_neg hz] at hnx
    have HNX:=hid hnx
    have hsg3:((rsign r:Int) == 0)=false:=by simpa using hsg2
    clear hsg hnx hz
    go_wp2
    go_roundg (gk - 1)
    case measure=>omega
    case rel=>exact ⟨k+1,by go_num,by omega,by omega,by rw [HNX.out]; go_num,hB⟩
  ·obtain rfl:k=m:=by omega
   have hlt':¬ (k:Int)<(k:Int):=by omega
   rw [<-HM.out]
   have hmk:=fun W=>zcL M (by omega) W
   have kb1:=zab wr (.cells (madeCells #[.bool false,.slice none 0 0,.slice none 0 0] (M*3)) 49)
   have row:=zdi wr M rs
   have hgB:=hB.size
   replace hB:=onS hB kb1
   have hsz:=kb1.size
   clear hcl hlt kb1
   go_wp2
   obtain ⟨w1,hw1⟩:∃ W,W=wr.alloc (.cells (madeCells #[.bool false,.slice none 0 0,.slice none 0 0] (M*3)) 49):=⟨_,rfl⟩
   obtain ⟨g,hg⟩:∃ g,g=wr.heap.size:=⟨_,rfl⟩
   rw [<-hw1,<-hg]
   rw [<-hw1] at hB row
   rw [<-hg] at row hgB
   clear hw1 hg hsz hmk
   go_loopg [6] M (fun gg iv wx=>∃ j:Nat,iv=.int .i64 (j:Nat)/\j<=M/\M<=j+gg/\RowOk wx g M j rs/\Below w.heap.size w wx)
   case atStart=>exact ⟨0,rfl,by omega,by omega,row,hB⟩
   case round =>
    clear row hB
    obtain ⟨j,rfl,hj,hjg,row,hB⟩:=hrel
    have hj0:(0:Int)<=(j:Int):=by omega
    by_cases hlt:j<M
    ·have hlt':(j:Int)<(M:Int):=by omega
     have hlt2:(j:Int)<(k:Int):=by omega
     obtain ⟨b,off,s,A1,n1,c1,A2,n2,c2,rfl,hb,t0,t1,t2,hraw⟩:=h.on hB j (by omega)
     obtain ⟨r,hr⟩:∃ r,r=rs j:=⟨_,rfl⟩
     rw [<-hr] at hraw
     have HR:=hid hr
     clear hr
     go_wp2_with fail
     refine (zbp _ r N _ hraw (by omega)).mono ?_
     rintro e w2 ⟨At,ct,Bt,dt,rfl,m1,m2,m3,m4,m5,m6,kb1⟩
     replace row:=row.on kb1
     replace hB:=onS hB kb1
     clear t0 t1 t2 kb1
     obtain ⟨o0,o1,o2,y0,y1,y2⟩:=row.old j hlt
     have z0:=row.froz (j*3)
     have z1:=row.froz (j*3+1)
     have z2:=row.froz (j*3+2)
     have hsz:=hB.size
     go_upto_region 10 with fail
     generalize hw3:World.setCell _ _ _=w3
     have hst:RowPut w2 g M j j rs r w3:=by rw [<-hw3]; exact rowPut row (Nat.le_refl _) hlt m1 m2 m3 m4 m5 m6
     have row3:=hst.row
     replace hB:=hst.below hB hgB hsz
     rw [show max j (j+1)=j+1 by omega] at row3
     have row4:RowOk w3 g M (j+1) rs:=row3.congr fun i hi=>by unfold updR; split; (· rename_i e; rw [e,HR.out]); rfl
     clear hst hw3 row row3 y0 y1 y2 z0 z1 z2 m1 m2 hsz
     go_wp2
     go_roundg (gk - 1)
     case measure=>omega
     case rel=>exact ⟨j+1,by go_num,by omega,by omega,row4,hB⟩
    ·obtain rfl:j=M:=by omega
     have hlt':¬ (j:Int)<(j:Int):=by omega
     have hl:=row.list
     go_wp2
     go_ret
     exact ⟨_,_,rfl,Nat.le_refl _,by unfold maxLen; omega,hl,hB⟩
theorem refPAdd_any (T T':Option Addr) (m c m' c' N:Nat) (a b:Nat->Rat) (w:World) (h:RatTab w w.heap.size T m a N) (h':RatTab w w.heap.size T' m' b N) (hm:m<=524288) (hm':m'<=524288) (hN:N<=8388608) (hra:Hid (∀ k,k<m->rsz (a k) N)) (hrb:Hid (∀ k,k<m'->rsz (b k) N)) :
  Calls Tryz.prog 25 #[.slice T m c,.slice T' m' c'] w (PolyPost (clen (sumP a m b m') (max m m')) (sumP a m b m') w):=by
 obtain ⟨NN,hNN⟩:∃ n,n=N+N+4:=⟨_,rfl⟩
 have hn1:NN<=N+N+4:=by omega
 have hn2:N+N+4<=NN:=by omega
 clear hNN
 replace h:=h.mono (show N<=NN by omega)
 replace h':=h'.mono (show N<=NN by omega)
 have hS:Hid (∀ j,j<max m m'->rsz (sumP a m b m' j) (N+N+1)):=fun j hj=>zjr hra.out hrb.out (by rcases (by omega:j<m∨j<m') with e | e; exact zeJ (hra.out j e); exact zeJ (hrb.out j e))
 obtain ⟨S,hSe⟩:∃ S,S=sumP a m b m':=⟨_,rfl⟩
 rw [<-hSe] at hS ⊢
 have HSE:=hid hSe
 clear hSe
 have hmx:max (m:Int) (m':Int)=((max m m':Nat):Int):=by omega
 obtain ⟨M,hM⟩:∃ M,M=max m m':=⟨_,rfl⟩
 rw [<-hM] at hmx hS ⊢
 have hmx2:max m m'=M:=hM.symm
 have hMle:M<=1048576:=by omega
 have HM:=hid hM
 clear hM
 have hmk:=fun W=>zcL M hMle W
 have kb1:=zab w (.cells (madeCells #[.bool false,.slice none 0 0,.slice none 0 0] (M*3)) 49)
 have row:=zdi w M S
 have hB:=kb1
 clear kb1
 go_enter Tryz.func25, Tryz.ntmps25
 go_wp2
 obtain ⟨w1,hw1⟩:∃ W,W=w.alloc (.cells (madeCells #[.bool false,.slice none 0 0,.slice none 0 0] (M*3)) 49):=⟨_,rfl⟩
 obtain ⟨g,hg⟩:∃ g,g=w.heap.size:=⟨_,rfl⟩
 rw [<-hw1,<-hg]
 rw [<-hw1] at hB row
 rw [<-hg] at row
 have hgB:w.heap.size<=g:=by omega
 clear hw1 hg hmk hmx hmx2
 go_loopg [6] M (fun gg iv wx=>∃ j:Nat,iv=.int .i64 (j:Nat)/\j<=M/\M<=j+gg/\RowOk wx g M j S/\Below w.heap.size w wx)
 case atStart=>exact ⟨0,rfl,by omega,by omega,row,hB⟩
 case round =>
  clear row hB
  obtain ⟨j,rfl,hj,hjg,row,hB⟩:=hrel
  have hj0:(0:Int)<=(j:Int):=by omega
  by_cases hlt:j<M
  ·have hlt':(j:Int)<(M:Int):=by omega
   obtain ⟨w0,hw0⟩:∃ W,W=wr:=⟨_,rfl⟩
   rw [<-hw0] at row hB ⊢
   clear hw0
   go_wp2_with fail
   refine (zbi 0 _ (by omega) (by omega)).mono ?_
   rintro e w1 ⟨Ap,cp,Bp,dp,rfl,mp1,mp2,mp3,mp4,mp5,mp6,kb⟩
   replace row:=row.on kb
   replace hB:=onS hB kb
   clear kb
   obtain ⟨q0,hq0⟩:∃ q:Rat,q=((0:Int):Rat):=⟨_,rfl⟩
   rw [<-hq0] at mp1 mp2 mp3 mp5 ⊢
   replace hq0:q0=0:=hq0.trans (by rfl)
   have HQ0:=hid hq0
   have HSZq0:rsz q0 1:=by rw [hq0]; exact zba
   clear hq0
   obtain ⟨o0,o1,o2,y0,y1,y2⟩:=row.old (j) (by omega)
   have z0:=row.froz (j*3)
   have z1:=row.froz (j*3+1)
   have z2:=row.froz (j*3+2)
   have hsz:=hB.size
   go_upto_region 6 with fail
   generalize hw3:World.setCell _ _ _=w2
   have hst:RowPut w1 g M (j) (j) (S) q0 w2:=by rw [<-hw3]; exact rowPut row (by omega) (by omega) mp1 mp2 mp3 mp4 mp5 mp6
   clear hw3 mp1 mp2 mp3 mp4 mp5 mp6
   replace row:=hst.row
   replace hB:=hst.below hB hgB hsz
   clear hst
   rw [show max j (j+1)=j+1 by omega] at row
   clear y0 y1 y2 z0 z1 z2 hsz
   by_cases h1:j<m
   ·by_cases h2:j<m'
    ·have hx:(j:Int)<(m:Int):=by omega
     have hy:(j:Int)<(m':Int):=by omega
     go_upto_region 7 with fail
     obtain ⟨bb,off,s5,A5,n5,c5,A6,n6,c6,rfl,hb,t0,t1,t2,hraw⟩:=h j (by omega)
     replace hraw:=hraw.on hB
     obtain ⟨rk,hrk⟩:∃ r,r=a j:=⟨_,rfl⟩
     rw [<-hrk] at hraw
     have HRK:=hid hrk
     have hrs:rsz rk N:=by rw [hrk]; exact hra.out j (by omega)
     clear hrk
     have HS:Hid (∀ w':World,Below w.heap.size w w'->w'.cell? ⟨bb,off+j*3,none⟩=some (.bool (s5))/\w'.cell? ⟨bb,off+j*3+1,none⟩=some (.slice (A5) (n5) (c5))/\w'.cell? ⟨bb,off+j*3+2,none⟩=some (.slice (A6) (n6) (c6))):=fun w' kb=>⟨cellS kb t0,cellS kb t1,cellS kb t2⟩
     refine wp_region_held_drew (S:=fun w'=>w'.cell? ⟨bb,off+j*3,none⟩=some (.bool (s5))/\w'.cell? ⟨bb,off+j*3+1,none⟩=some (.slice (A5) (n5) (c5))/\w'.cell? ⟨bb,off+j*3+2,none⟩=some (.slice (A6) (n6) (c6))) (by kernel_rfl) (HS.out _ hB.drew) (fun hHeld=>?_)
     clear t0 t1 t2 hb
     obtain ⟨w3,hw⟩:∃ W,W=World.drew w2:=⟨_,rfl⟩
     have kb:Below w2.heap.size w2 w3:=by rw [hw]; exact (Below.refl _ _).drew
     rw [<-hw] at hHeld ⊢
     clear hw
     replace row:=row.on kb
     replace hB:=onS hB kb
     replace hraw:=hraw.on kb
     clear kb
     refine tkq 0 (h:=tkq 1 (h:=tkq 2 (h:=tkq 3 (h:=tkq 4 (h:=tkq 6 (h:=tkq 7 (h:=tkq 8 (h:=tkq 9 (h:=?_)))))))))
     obtain ⟨Ao,co,Bo,do_,g0,g1,g2,mo1,mo2,mo3,mo4,mo5,mo6⟩:=row.last (by omega)
     refine rdq 5 (h:=fun K hK=>?_)
     go_simp
     clear g0 g1 g2
     refine bkq hK (HS.out _ hB) (h:=fun hHeld=>?_)
     clear hK K
     refine rdq 10 (h:=fun K hK=>?_)
     go_simp
     go_wp2_with fail
     refine (zfd _ _ q0 rk NN _ (RatOk.raw ⟨Ao,co,Bo,do_,rfl,mo1,mo2,mo3,mo4,mo5,mo6⟩ (rsz.mono HSZq0 (by omega))) hraw (by omega) (rsz.mono HSZq0 (by omega)) (rsz.mono hrs (by omega))).mono ?_
     rintro e w4 ⟨Ap,cp,Bp,dp,rfl,mp1,mp2,mp3,mp4,mp5,mp6,kb⟩
     replace row:=row.on kb
     replace hB:=onS hB kb
     replace hraw:=hraw.on kb
     replace mo1:=mo1.on kb
     replace mo2:=mo2.on kb
     clear kb
     obtain ⟨q1,hq⟩:∃ z,z=q0+rk:=⟨_,rfl⟩
     rw [<-hq] at mp1 mp2 mp3 mp5 ⊢
     have HQ1:=hid hq
     have HSZq1:rsz q1 (1+N+1):=by rw [hq]; exact zbo HSZq0 hrs
     clear hq
     clear hraw mo1 mo2 mo3 mo4 mo5 mo6
     refine bkq hK (HS.out _ hB) (h:=fun hHeld=>?_)
     clear hK K
     refine tkq 11 (h:=?_)
     obtain ⟨o0,o1,o2,y0,y1,y2⟩:=row.old (j) (by omega)
     have z0:=row.froz (j*3)
     have z1:=row.froz (j*3+1)
     have z2:=row.froz (j*3+2)
     have hsz:=hB.size
     refine rdq 12 (h:=fun K hK=>?_)
     go_simp
     generalize hw3:World.setCell _ _ _=w5
     have hst:RowPut w4 g M (j+1) (j) (updR S j q0) q1 w5:=by rw [<-hw3]; exact rowPut row (by omega) (by omega) mp1 mp2 mp3 mp4 mp5 mp6
     clear hw3 mp1 mp2 mp3 mp4 mp5 mp6
     replace row:=hst.row
     replace hB:=hst.below hB hgB hsz
     clear hst
     rw [show max (j+1) (j+1)=j+1 by omega] at row
     replace row:=row.again
     refine bkq hK (HS.out _ hB) (h:=fun hHeld=>?_)
     clear hK K
     refine wpAnyH_done (by kernel_rfl) ?_ _
     clear hHeld
     clear y0 y1 y2 z0 z1 z2 hsz HS hrs
     have HA:=HRK
     clear HRK
     go_upto_region 9 with fail
     obtain ⟨bb,off,s5,A5,n5,c5,A6,n6,c6,rfl,hb,t0,t1,t2,hraw⟩:=h' j (by omega)
     replace hraw:=hraw.on hB
     obtain ⟨rk,hrk⟩:∃ r,r=b j:=⟨_,rfl⟩
     rw [<-hrk] at hraw
     have HRK:=hid hrk
     have hrs:rsz rk N:=by rw [hrk]; exact hrb.out j (by omega)
     clear hrk
     have HS:Hid (∀ w':World,Below w.heap.size w w'->w'.cell? ⟨bb,off+j*3,none⟩=some (.bool (s5))/\w'.cell? ⟨bb,off+j*3+1,none⟩=some (.slice (A5) (n5) (c5))/\w'.cell? ⟨bb,off+j*3+2,none⟩=some (.slice (A6) (n6) (c6))):=fun w' kb=>⟨cellS kb t0,cellS kb t1,cellS kb t2⟩
     refine wp_region_held_drew (S:=fun w'=>w'.cell? ⟨bb,off+j*3,none⟩=some (.bool (s5))/\w'.cell? ⟨bb,off+j*3+1,none⟩=some (.slice (A5) (n5) (c5))/\w'.cell? ⟨bb,off+j*3+2,none⟩=some (.slice (A6) (n6) (c6))) (by kernel_rfl) (HS.out _ hB.drew) (fun hHeld=>?_)
     clear t0 t1 t2 hb
     obtain ⟨w6,hw⟩:∃ W,W=World.drew w5:=⟨_,rfl⟩
     have kb:Below w5.heap.size w5 w6:=by rw [hw]; exact (Below.refl _ _).drew
     rw [<-hw] at hHeld ⊢
     clear hw
     replace row:=row.on kb
     replace hB:=onS hB kb
     replace hraw:=hraw.on kb
     clear kb
     refine tkq 0 (h:=tkq 1 (h:=tkq 2 (h:=tkq 3 (h:=tkq 4 (h:=tkq 6 (h:=tkq 7 (h:=tkq 8 (h:=tkq 9 (h:=?_)))))))))
     obtain ⟨Ao,co,Bo,do_,g0,g1,g2,mo1,mo2,mo3,mo4,mo5,mo6⟩:=row.last (by omega)
     refine rdq 5 (h:=fun K hK=>?_)
     go_simp
     clear g0 g1 g2
     refine bkq hK (HS.out _ hB) (h:=fun hHeld=>?_)
     clear hK K
     refine rdq 10 (h:=fun K hK=>?_)
     go_simp
     go_wp2_with fail
     refine (zfd _ _ q1 rk NN _ (RatOk.raw ⟨Ao,co,Bo,do_,rfl,mo1,mo2,mo3,mo4,mo5,mo6⟩ (rsz.mono HSZq1 (by omega))) hraw (by omega) (rsz.mono HSZq1 (by omega)) (rsz.mono hrs (by omega))).mono ?_
     rintro e w7 ⟨Ap,cp,Bp,dp,rfl,mp1,mp2,mp3,mp4,mp5,mp6,kb⟩
     replace row:=row.on kb
     replace hB:=onS hB kb
     replace hraw:=hraw.on kb
     replace mo1:=mo1.on kb
     replace mo2:=mo2.on kb
     clear kb
     obtain ⟨q2,hq⟩:∃ z,z=q1+rk:=⟨_,rfl⟩
     rw [<-hq] at mp1 mp2 mp3 mp5 ⊢
     have HQ2:=hid hq
     have HSZq2:rsz q2 (1+N+1+N+1):=by rw [hq]; exact zbo HSZq1 hrs
     clear hq
     clear hraw mo1 mo2 mo3 mo4 mo5 mo6
     refine bkq hK (HS.out _ hB) (h:=fun hHeld=>?_)
     clear hK K
     refine tkq 11 (h:=?_)
     obtain ⟨o0,o1,o2,y0,y1,y2⟩:=row.old (j) (by omega)
     have z0:=row.froz (j*3)
     have z1:=row.froz (j*3+1)
     have z2:=row.froz (j*3+2)
     have hsz:=hB.size
     refine rdq 12 (h:=fun K hK=>?_)
     go_simp
     generalize hw3:World.setCell _ _ _=w8
     have hst:RowPut w7 g M (j+1) (j) (updR S j q1) q2 w8:=by rw [<-hw3]; exact rowPut row (by omega) (by omega) mp1 mp2 mp3 mp4 mp5 mp6
     clear hw3 mp1 mp2 mp3 mp4 mp5 mp6
     replace row:=hst.row
     replace hB:=hst.below hB hgB hsz
     clear hst
     rw [show max (j+1) (j+1)=j+1 by omega] at row
     replace row:=row.again
     refine bkq hK (HS.out _ hB) (h:=fun hHeld=>?_)
     clear hK K
     refine wpAnyH_done (by kernel_rfl) ?_ _
     clear hHeld
     clear y0 y1 y2 z0 z1 z2 hsz HS hrs
     have HBB:=HRK
     clear HRK
     replace row:=row.whole (show q2=S j by rw [HSE.out]; exact zh8 h1 h2 HQ0.out HQ1.out HQ2.out HA.out HBB.out)
     clear HQ0 HSZq0 HSZq1 HQ1 HA HBB HQ2 HSZq2
     go_wp2
     go_roundg (gk - 1)
     case measure=>omega
     case rel=>exact ⟨j+1,by go_num,by omega,by omega,row,hB⟩
    ·have hx:(j:Int)<(m:Int):=by omega
     have hy:¬ (j:Int)<(m':Int):=by omega
     go_upto_region 7 with fail
     obtain ⟨bb,off,s5,A5,n5,c5,A6,n6,c6,rfl,hb,t0,t1,t2,hraw⟩:=h j (by omega)
     replace hraw:=hraw.on hB
     obtain ⟨rk,hrk⟩:∃ r,r=a j:=⟨_,rfl⟩
     rw [<-hrk] at hraw
     have HRK:=hid hrk
     have hrs:rsz rk N:=by rw [hrk]; exact hra.out j (by omega)
     clear hrk
     have HS:Hid (∀ w':World,Below w.heap.size w w'->w'.cell? ⟨bb,off+j*3,none⟩=some (.bool (s5))/\w'.cell? ⟨bb,off+j*3+1,none⟩=some (.slice (A5) (n5) (c5))/\w'.cell? ⟨bb,off+j*3+2,none⟩=some (.slice (A6) (n6) (c6))):=fun w' kb=>⟨cellS kb t0,cellS kb t1,cellS kb t2⟩
     refine wp_region_held_drew (S:=fun w'=>w'.cell? ⟨bb,off+j*3,none⟩=some (.bool (s5))/\w'.cell? ⟨bb,off+j*3+1,none⟩=some (.slice (A5) (n5) (c5))/\w'.cell? ⟨bb,off+j*3+2,none⟩=some (.slice (A6) (n6) (c6))) (by kernel_rfl) (HS.out _ hB.drew) (fun hHeld=>?_)
     clear t0 t1 t2 hb
     obtain ⟨w3,hw⟩:∃ W,W=World.drew w2:=⟨_,rfl⟩
     have kb:Below w2.heap.size w2 w3:=by rw [hw]; exact (Below.refl _ _).drew
     rw [<-hw] at hHeld ⊢
     clear hw
     replace row:=row.on kb
     replace hB:=onS hB kb
     replace hraw:=hraw.on kb
     clear kb
     refine tkq 0 (h:=tkq 1 (h:=tkq 2 (h:=tkq 3 (h:=tkq 4 (h:=tkq 6 (h:=tkq 7 (h:=tkq 8 (h:=tkq 9 (h:=?_)))))))))
     obtain ⟨Ao,co,Bo,do_,g0,g1,g2,mo1,mo2,mo3,mo4,mo5,mo6⟩:=row.last (by omega)
     refine rdq 5 (h:=fun K hK=>?_)
     go_simp
     clear g0 g1 g2
     refine bkq hK (HS.out _ hB) (h:=fun hHeld=>?_)
     clear hK K
     refine rdq 10 (h:=fun K hK=>?_)
     go_simp
     go_wp2_with fail
     refine (zfd _ _ q0 rk NN _ (RatOk.raw ⟨Ao,co,Bo,do_,rfl,mo1,mo2,mo3,mo4,mo5,mo6⟩ (rsz.mono HSZq0 (by omega))) hraw (by omega) (rsz.mono HSZq0 (by omega)) (rsz.mono hrs (by omega))).mono ?_
     rintro e w4 ⟨Ap,cp,Bp,dp,rfl,mp1,mp2,mp3,mp4,mp5,mp6,kb⟩
     replace row:=row.on kb
     replace hB:=onS hB kb
     replace hraw:=hraw.on kb
     replace mo1:=mo1.on kb
     replace mo2:=mo2.on kb
     clear kb
     obtain ⟨q1,hq⟩:∃ z,z=q0+rk:=⟨_,rfl⟩
     rw [<-hq] at mp1 mp2 mp3 mp5 ⊢
     have HQ1:=hid hq
     have HSZq1:rsz q1 (1+N+1):=by rw [hq]; exact zbo HSZq0 hrs
     clear hq
     clear hraw mo1 mo2 mo3 mo4 mo5 mo6
     refine bkq hK (HS.out _ hB) (h:=fun hHeld=>?_)
     clear hK K
     refine tkq 11 (h:=?_)
     obtain ⟨o0,o1,o2,y0,y1,y2⟩:=row.old (j) (by omega)
     have z0:=row.froz (j*3)
     have z1:=row.froz (j*3+1)
     have z2:=row.froz (j*3+2)
     have hsz:=hB.size
     refine rdq 12 (h:=fun K hK=>?_)
     go_simp
     generalize hw3:World.setCell _ _ _=w5
     have hst:RowPut w4 g M (j+1) (j) (updR S j q0) q1 w5:=by rw [<-hw3]; exact rowPut row (by omega) (by omega) mp1 mp2 mp3 mp4 mp5 mp6
     clear hw3 mp1 mp2 mp3 mp4 mp5 mp6
     replace row:=hst.row
     replace hB:=hst.below hB hgB hsz
     clear hst
     rw [show max (j+1) (j+1)=j+1 by omega] at row
     replace row:=row.again
     refine bkq hK (HS.out _ hB) (h:=fun hHeld=>?_)
     clear hK K
     refine wpAnyH_done (by kernel_rfl) ?_ _
     clear hHeld
     clear y0 y1 y2 z0 z1 z2 hsz HS hrs
     have HA:=HRK
     clear HRK
     replace row:=row.whole (show q1=S j by rw [HSE.out]; exact zh9 h1 h2 HQ0.out HQ1.out HA.out)
     clear HQ0 HSZq0 HSZq1 HQ1 HA
     go_wp2
     go_roundg (gk - 1)
     case measure=>omega
     case rel=>exact ⟨j+1,by go_num,by omega,by omega,row,hB⟩
   ·have h2:j<m':=by have:=HM.out; omega
    have hx:¬ (j:Int)<(m:Int):=by omega
    have hy:(j:Int)<(m':Int):=by omega
    go_upto_region 9 with fail
    obtain ⟨bb,off,s5,A5,n5,c5,A6,n6,c6,rfl,hb,t0,t1,t2,hraw⟩:=h' j (by omega)
    replace hraw:=hraw.on hB
    obtain ⟨rk,hrk⟩:∃ r,r=b j:=⟨_,rfl⟩
    rw [<-hrk] at hraw
    have HRK:=hid hrk
    have hrs:rsz rk N:=by rw [hrk]; exact hrb.out j (by omega)
    clear hrk
    have HS:Hid (∀ w':World,Below w.heap.size w w'->w'.cell? ⟨bb,off+j*3,none⟩=some (.bool (s5))/\w'.cell? ⟨bb,off+j*3+1,none⟩=some (.slice (A5) (n5) (c5))/\w'.cell? ⟨bb,off+j*3+2,none⟩=some (.slice (A6) (n6) (c6))):=fun w' kb=>⟨cellS kb t0,cellS kb t1,cellS kb t2⟩
    refine wp_region_held_drew (S:=fun w'=>w'.cell? ⟨bb,off+j*3,none⟩=some (.bool (s5))/\w'.cell? ⟨bb,off+j*3+1,none⟩=some (.slice (A5) (n5) (c5))/\w'.cell? ⟨bb,off+j*3+2,none⟩=some (.slice (A6) (n6) (c6))) (by kernel_rfl) (HS.out _ hB.drew) (fun hHeld=>?_)
    clear t0 t1 t2 hb
    obtain ⟨w3,hw⟩:∃ W,W=World.drew w2:=⟨_,rfl⟩
    have kb:Below w2.heap.size w2 w3:=by rw [hw]; exact (Below.refl _ _).drew
    rw [<-hw] at hHeld ⊢
    clear hw
    replace row:=row.on kb
    replace hB:=onS hB kb
    replace hraw:=hraw.on kb
    clear kb
    refine tkq 0 (h:=tkq 1 (h:=tkq 2 (h:=tkq 3 (h:=tkq 4 (h:=tkq 6 (h:=tkq 7 (h:=tkq 8 (h:=tkq 9 (h:=?_)))))))))
    obtain ⟨Ao,co,Bo,do_,g0,g1,g2,mo1,mo2,mo3,mo4,mo5,mo6⟩:=row.last (by omega)
    refine rdq 5 (h:=fun K hK=>?_)
    go_simp
    clear g0 g1 g2
    refine bkq hK (HS.out _ hB) (h:=fun hHeld=>?_)
    clear hK K
    refine rdq 10 (h:=fun K hK=>?_)
    go_simp
    go_wp2_with fail
    refine (zfd _ _ q0 rk NN _ (RatOk.raw ⟨Ao,co,Bo,do_,rfl,mo1,mo2,mo3,mo4,mo5,mo6⟩ (rsz.mono HSZq0 (by omega))) hraw (by omega) (rsz.mono HSZq0 (by omega)) (rsz.mono hrs (by omega))).mono ?_
    rintro e w4 ⟨Ap,cp,Bp,dp,rfl,mp1,mp2,mp3,mp4,mp5,mp6,kb⟩
    replace row:=row.on kb
    replace hB:=onS hB kb
    replace hraw:=hraw.on kb
    replace mo1:=mo1.on kb
    replace mo2:=mo2.on kb
    clear kb
    obtain ⟨q1,hq⟩:∃ z,z=q0+rk:=⟨_,rfl⟩
    rw [<-hq] at mp1 mp2 mp3 mp5 ⊢
    have HQ1:=hid hq
    have HSZq1:rsz q1 (1+N+1):=by rw [hq]; exact zbo HSZq0 hrs
    clear hq
    clear hraw mo1 mo2 mo3 mo4 mo5 mo6
    refine bkq hK (HS.out _ hB) (h:=fun hHeld=>?_)
    clear hK K
    refine tkq 11 (h:=?_)
    obtain ⟨o0,o1,o2,y0,y1,y2⟩:=row.old (j) (by omega)
    have z0:=row.froz (j*3)
    have z1:=row.froz (j*3+1)
    have z2:=row.froz (j*3+2)
    have hsz:=hB.size
    refine rdq 12 (h:=fun K hK=>?_)
    go_simp
    generalize hw3:World.setCell _ _ _=w5
    have hst:RowPut w4 g M (j+1) (j) (updR S j q0) q1 w5:=by rw [<-hw3]; exact rowPut row (by omega) (by omega) mp1 mp2 mp3 mp4 mp5 mp6
    clear hw3 mp1 mp2 mp3 mp4 mp5 mp6
    replace row:=hst.row
    replace hB:=hst.below hB hgB hsz
    clear hst
    rw [show max (j+1) (j+1)=j+1 by omega] at row
    replace row:=row.again
    refine bkq hK (HS.out _ hB) (h:=fun hHeld=>?_)
    clear hK K
    refine wpAnyH_done (by kernel_rfl) ?_ _
    clear hHeld
    clear y0 y1 y2 z0 z1 z2 hsz HS hrs
    have HBB:=HRK
    clear HRK
    replace row:=row.whole (show q1=S j by rw [HSE.out]; exact zg1 h1 h2 HQ0.out HQ1.out HBB.out)
    clear HQ0 HSZq0 HSZq1 HQ1 HBB
    go_wp2
    go_roundg (gk - 1)
    case measure=>omega
    case rel=>exact ⟨j+1,by go_num,by omega,by omega,row,hB⟩
  ·obtain rfl:j=M:=by omega
   have hlt':¬ (j:Int)<(j:Int):=by omega
   have hl:=row.list.tab hS.out
   go_wp2_with fail
   refine (refCanon55_any (some ⟨g,0,none⟩) j j (N+N+1) S _ hl (by omega) (by omega)).mono ?_
   rintro e w2 ⟨Ar,cr,rfl,e1,e2,e3,kb⟩
   replace hB:=onS hB kb
   clear kb hl row
   obtain ⟨cl,hcl⟩:∃ cl,cl=clen S j:=⟨_,rfl⟩
   rw [<-hcl] at e1 e3 ⊢
   have HCL:=hid hcl
   clear hcl
   go_wp2
   go_ret
   rw [<-HCL.out]
   exact ⟨_,_,rfl,e1,e2,e3,hB⟩
end Go.Proofs.YtioagplajkoohaaGreat