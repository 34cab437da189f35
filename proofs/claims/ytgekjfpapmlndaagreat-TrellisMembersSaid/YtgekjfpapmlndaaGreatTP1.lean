/- Merged texts of a claim. -/
import Derived.Test.YtgekjfpapmlndaaGreatTM14
import Derived.Test.YtgekjfpapmlndaaGreatRows
import Derived.WalkKit
import Derived.WalkSpells
import Derived.WalkLawsBesides
import Derived.Deep.OwnRows
import Derived.ProofKit
import Derived.Deep.RegionHeld3
import Derived.Deep.AppendSrc
import Derived.Maps.AppendAt
import Derived.Deep.LoopGhost
import Derived.IntWalk
import Derived.Deep.DeepCutAuto
import Derived.Laws.Bits64b
import Derived.Shelf.Small.Bits
import Derived.Deep.QuietTactic
import Derived.BigQuiet
import Derived.Deep.Slices
import Derived.Lib.SmallJoins
import Derived.Deep.Cut
import Derived.Deep.CutBlock
import Derived.StillTailTactics
import Derived.SizedLaws
import Derived.Laws.CopyOwn
import Derived.Laws.StructEq
import Derived.Shelf.SlSortCmp.WholeK
import Derived.Shelf.SlSortCmp.Whole1
import Derived.Shelf.SlSortCmp.NoneTotal
import Derived.Shelf.SlicesG.Cmp
import Derived.Ground.SlgcProg
namespace Go.Proofs.YtgekjfpapmlndaaGreat
set_option maxRecDepth 100000
set_option maxHeartbeats 32000000
open Go.RowKit
open Go.Shelf
open Go.ChangeShapes Go.WideShapes Go.ChangeAt
namespace Fie
variable {K:Type} [Add K] [Mul K] [Neg K] [Zero K] [One K] (F:Fie K)
include F
end Fie
open Go
def notIs (q:Nat) (x:Int):Bool:=!isB q x
def isNz (x:Int):Bool:=x != 0
theorem yas (x:Int) (P M:Nat) (m:Nat->Nat) (g tb:Nat) (w:World) (hG:GF w w.heap.size g P M m) (hc:w.cell? ⟨tb,0,none⟩=some (.pointer (some ⟨g,0,none⟩))) :
  Calls Tryz.prog 213 #[.int .i64 x,.pointer (some ⟨tb,0,none⟩)] w fun e w'=>e=.returned (.bool (notIs (P ^ M) x))/\Below w.heap.size w w':=by
 have HG:=hid hG
 clear hG
 go_enter Tryz.func213, Tryz.ntmps213
 go_wp2_with fail
 refine (zf1 x HG.out).mono ?_
 rintro e w2 ⟨he,kb⟩
 obtain ⟨pb,hpb⟩:∃ pb:Bool,pb=isB (P ^ M) x:=⟨_,rfl⟩
 rw [<-hpb] at he
 subst he
 have HPB:=hid hpb
 have KB:=hid kb
 clear kb hpb
 go_wp2
 go_ret
 exact ⟨by rw [show notIs (P ^ M) x=!pb by rw [HPB.out]; rfl]; rfl,KB.out⟩
theorem yaF (P M:Nat) (m:Nat->Nat) (g tb:Nat) (F:Option Addr) (n d:Nat) (f:Nat->Int) (w:World) (hG:GF w w.heap.size g P M m) (hc:w.cell? ⟨tb,0,none⟩=some (.pointer (some ⟨g,0,none⟩))) (hf:IntsR w w.heap.size F n f) (hn:n<=1024) :
  Calls Tryz.prog 174 #[.slice F n d,.func (.func 213) #[] #[.pointer (some ⟨tb,0,none⟩)]] w fun e w'=>e=.returned (.int .i64 (idxP (notIs (P ^ M)) f n))/\Below w.heap.size w w':=by
 have HF:=hid hf
 have HG:=hid hG
 have HC:=hid hc
 clear hf hG hc
 go_enter Tryz.func174, Tryz.ntmps174
 go_upto_region 2 with fail
 go_loopg [8] n (fun gg iv wx=>∃ k:Nat,iv=.int .i64 (k:Nat)/\k<=n/\n<=k+gg/\Hid (idxP (notIs (P ^ M)) f k = -1)/\Below w.heap.size w wx)
 case atStart=>exact ⟨0,rfl,by omega,by omega,hid rfl,Below.refl _ _⟩
 case round =>
  obtain ⟨k,rfl,hk,hkg,HI,hBx⟩:=hrel
  have hk0:(0:Int)<=(k:Int):=by omega
  have HB:=hid hBx
  obtain ⟨w3,hw3⟩:∃ X,X=wr:=⟨_,rfl⟩
  subst hw3
  clear hBx
  by_cases hlt:k<n
  ·have hlt':(k:Int)<(n:Int):=by omega
   obtain ⟨b,off,hAe,hb,e0⟩:=(HF.out.on HB.out).at hlt
   subst hAe
   obtain ⟨x,hx⟩:∃ x,x=f k:=⟨_,rfl⟩
   rw [<-hx] at e0
   have HX:=hid hx
   clear hx
   obtain ⟨pb,hpb⟩:∃ pb:Bool,pb=(notIs (P ^ M)) x:=⟨_,rfl⟩
   have HPB:=hid hpb
   clear hpb
   go_wp2_with fail
   refine (yas x P M m g tb w3 (HG.out.on HB.out) (cellS HB.out HC.out)).mono ?_
   rintro e w4 ⟨he,kb⟩
   have he:e=.returned (.bool ((notIs (P ^ M)) x)):=he
   rw [<-HPB.out] at he
   subst he
   replace HB:=hid (onS HB.out kb);clear kb e0
   cases pb with
   | false =>
    have HI2:Hid (idxP (notIs (P ^ M)) f (k+1) = -1):=hid (ze2 HI.out (by rw [<-HX.out]; exact HPB.out.symm))
    go_wp2
    go_roundg (gk - 1)
    case measure=>omega
    case rel=>exact ⟨k+1,by go_num,by omega,by omega,HI2,HB.out⟩
   | true =>
    have HI2:Hid (idxP (notIs (P ^ M)) f n=(k:Int)):=hid (zgH HI.out (by rw [<-HX.out]; exact HPB.out.symm) hlt)
    go_wp2
    go_ret
    exact ⟨by rw [HI2.out]; rfl,HB.out⟩
  ·have hlt':¬ (k:Int)<(n:Int):=by omega
   obtain rfl:n=k:=by omega
   go_wp2
   go_ret
   exact ⟨by rw [HI.out]; rfl,HB.out⟩
theorem yat (P M:Nat) (m:Nat->Nat) (g tb:Nat) (F:Option Addr) (n d:Nat) (f:Nat->Int) (w:World) (hG:GF w w.heap.size g P M m) (hc:w.cell? ⟨tb,0,none⟩=some (.pointer (some ⟨g,0,none⟩))) (hf:IntsR w w.heap.size F n f) (hn:n<=1024) :
  Calls Tryz.prog 111 #[.slice F n d,.func (.func 213) #[] #[.pointer (some ⟨tb,0,none⟩)]] w fun e w'=>∃ b:Bool,e=.returned (.bool b)/\(b=true↔∃ i,i<n/\(notIs (P ^ M)) (f i)=true)/\Below w.heap.size w w':=by
 have HF:=hid hf
 have HG:=hid hG
 have HC:=hid hc
 clear hf hG hc
 go_enter Tryz.func111, Tryz.ntmps111
 go_wp2_with fail
 refine (yaF P M m g tb F n d f w HG.out HC.out HF.out hn).mono ?_
 rintro e w1 ⟨he,kb⟩
 obtain ⟨z,hz⟩:∃ z,z=idxP (notIs (P ^ M)) f n:=⟨_,rfl⟩
 have hs:=ze3 (notIs (P ^ M)) f n
 rw [<-hz] at hs he
 subst he
 have hd:decide (z ≥ 0)=true↔∃ i,i<n/\(notIs (P ^ M)) (f i)=true:=by
  rw [decide_eq_true_iff]
  rcases hs with ⟨h1,h2⟩ | ⟨i,hi,h1,h2⟩
  ·refine ⟨fun h=>by omega,fun ⟨i,hi,h⟩=>?_⟩
   rw [h2 i hi] at h
   cases h
  ·exact ⟨fun _=>⟨i,hi,h2⟩,fun _=>by omega⟩
 have HD:=hid hd
 have KB:=hid kb
 clear hs hd hz kb
 go_wp2
 go_ret
 exact ⟨_,rfl,HD.out,KB.out⟩
theorem yau (x:Int) (P M:Nat) (m:Nat->Nat) (g tb:Nat) (w:World) (hG:GF w w.heap.size g P M m) (hc:w.cell? ⟨tb,0,none⟩=some (.pointer (some ⟨g,0,none⟩))) :
  Calls Tryz.prog 216 #[.int .i64 x,.pointer (some ⟨tb,0,none⟩)] w fun e w'=>e=.returned (.bool (notIs (P ^ M) x))/\Below w.heap.size w w':=by
 have HG:=hid hG
 clear hG
 go_enter Tryz.func216, Tryz.ntmps216
 go_wp2_with fail
 refine (zf1 x HG.out).mono ?_
 rintro e w2 ⟨he,kb⟩
 obtain ⟨pb,hpb⟩:∃ pb:Bool,pb=isB (P ^ M) x:=⟨_,rfl⟩
 rw [<-hpb] at he
 subst he
 have HPB:=hid hpb
 have KB:=hid kb
 clear kb hpb
 go_wp2
 go_ret
 exact ⟨by rw [show notIs (P ^ M) x=!pb by rw [HPB.out]; rfl]; rfl,KB.out⟩
theorem yaG (P M:Nat) (m:Nat->Nat) (g tb:Nat) (F:Option Addr) (n d:Nat) (f:Nat->Int) (w:World) (hG:GF w w.heap.size g P M m) (hc:w.cell? ⟨tb,0,none⟩=some (.pointer (some ⟨g,0,none⟩))) (hf:IntsR w w.heap.size F n f) (hn:n<=1024) :
  Calls Tryz.prog 174 #[.slice F n d,.func (.func 216) #[] #[.pointer (some ⟨tb,0,none⟩)]] w fun e w'=>e=.returned (.int .i64 (idxP (notIs (P ^ M)) f n))/\Below w.heap.size w w':=by
 have HF:=hid hf
 have HG:=hid hG
 have HC:=hid hc
 clear hf hG hc
 go_enter Tryz.func174, Tryz.ntmps174
 go_upto_region 2 with fail
 go_loopg [8] n (fun gg iv wx=>∃ k:Nat,iv=.int .i64 (k:Nat)/\k<=n/\n<=k+gg/\Hid (idxP (notIs (P ^ M)) f k = -1)/\Below w.heap.size w wx)
 case atStart=>exact ⟨0,rfl,by omega,by omega,hid rfl,Below.refl _ _⟩
 case round =>
  obtain ⟨k,rfl,hk,hkg,HI,hBx⟩:=hrel
  have hk0:(0:Int)<=(k:Int):=by omega
  have HB:=hid hBx
  obtain ⟨w3,hw3⟩:∃ X,X=wr:=⟨_,rfl⟩
  subst hw3
  clear hBx
  by_cases hlt:k<n
  ·have hlt':(k:Int)<(n:Int):=by omega
   obtain ⟨b,off,hAe,hb,e0⟩:=(HF.out.on HB.out).at hlt
   subst hAe
   obtain ⟨x,hx⟩:∃ x,x=f k:=⟨_,rfl⟩
   rw [<-hx] at e0
   have HX:=hid hx
   clear hx
   obtain ⟨pb,hpb⟩:∃ pb:Bool,pb=(notIs (P ^ M)) x:=⟨_,rfl⟩
   have HPB:=hid hpb
   clear hpb
   go_wp2_with fail
   refine (yau x P M m g tb w3 (HG.out.on HB.out) (cellS HB.out HC.out)).mono ?_
   rintro e w4 ⟨he,kb⟩
   have he:e=.returned (.bool ((notIs (P ^ M)) x)):=he
   rw [<-HPB.out] at he
   subst he
   replace HB:=hid (onS HB.out kb);clear kb e0
   cases pb with
   | false =>
    have HI2:Hid (idxP (notIs (P ^ M)) f (k+1) = -1):=hid (ze2 HI.out (by rw [<-HX.out]; exact HPB.out.symm))
    go_wp2
    go_roundg (gk - 1)
    case measure=>omega
    case rel=>exact ⟨k+1,by go_num,by omega,by omega,HI2,HB.out⟩
   | true =>
    have HI2:Hid (idxP (notIs (P ^ M)) f n=(k:Int)):=hid (zgH HI.out (by rw [<-HX.out]; exact HPB.out.symm) hlt)
    go_wp2
    go_ret
    exact ⟨by rw [HI2.out]; rfl,HB.out⟩
  ·have hlt':¬ (k:Int)<(n:Int):=by omega
   obtain rfl:n=k:=by omega
   go_wp2
   go_ret
   exact ⟨by rw [HI.out]; rfl,HB.out⟩
theorem yav (P M:Nat) (m:Nat->Nat) (g tb:Nat) (F:Option Addr) (n d:Nat) (f:Nat->Int) (w:World) (hG:GF w w.heap.size g P M m) (hc:w.cell? ⟨tb,0,none⟩=some (.pointer (some ⟨g,0,none⟩))) (hf:IntsR w w.heap.size F n f) (hn:n<=1024) :
  Calls Tryz.prog 111 #[.slice F n d,.func (.func 216) #[] #[.pointer (some ⟨tb,0,none⟩)]] w fun e w'=>∃ b:Bool,e=.returned (.bool b)/\(b=true↔∃ i,i<n/\(notIs (P ^ M)) (f i)=true)/\Below w.heap.size w w':=by
 have HF:=hid hf
 have HG:=hid hG
 have HC:=hid hc
 clear hf hG hc
 go_enter Tryz.func111, Tryz.ntmps111
 go_wp2_with fail
 refine (yaG P M m g tb F n d f w HG.out HC.out HF.out hn).mono ?_
 rintro e w1 ⟨he,kb⟩
 obtain ⟨z,hz⟩:∃ z,z=idxP (notIs (P ^ M)) f n:=⟨_,rfl⟩
 have hs:=ze3 (notIs (P ^ M)) f n
 rw [<-hz] at hs he
 subst he
 have hd:decide (z ≥ 0)=true↔∃ i,i<n/\(notIs (P ^ M)) (f i)=true:=by
  rw [decide_eq_true_iff]
  rcases hs with ⟨h1,h2⟩ | ⟨i,hi,h1,h2⟩
  ·refine ⟨fun h=>by omega,fun ⟨i,hi,h⟩=>?_⟩
   rw [h2 i hi] at h
   cases h
  ·exact ⟨fun _=>⟨i,hi,h2⟩,fun _=>by omega⟩
 have HD:=hid hd
 have KB:=hid kb
 clear hs hd hz kb
 go_wp2
 go_ret
 exact ⟨_,rfl,HD.out,KB.out⟩
theorem yaw (x:Int) (w:World) :
  Calls Tryz.prog 251 #[.int .i64 x] w fun e w'=>e=.returned (.bool (isNz x))/\Below w.heap.size w w':=by
 go_enter Tryz.func251, Tryz.ntmps251
 go_wp2
 go_ret
 exact ⟨rfl,Below.refl _ _⟩
theorem yaH  (F:Option Addr) (n d:Nat) (f:Nat->Int) (w:World)  (hf:IntsR w w.heap.size F n f) (hn:n<=1024) :
  Calls Tryz.prog 174 #[.slice F n d,.func (.func 251) #[] #[]] w fun e w'=>e=.returned (.int .i64 (idxP isNz f n))/\Below w.heap.size w w':=by
 have HF:=hid hf
 clear hf
 go_enter Tryz.func174, Tryz.ntmps174
 go_upto_region 2 with fail
 go_loopg [8] n (fun gg iv wx=>∃ k:Nat,iv=.int .i64 (k:Nat)/\k<=n/\n<=k+gg/\Hid (idxP isNz f k = -1)/\Below w.heap.size w wx)
 case atStart=>exact ⟨0,rfl,by omega,by omega,hid rfl,Below.refl _ _⟩
 case round =>
  obtain ⟨k,rfl,hk,hkg,HI,hBx⟩:=hrel
  have hk0:(0:Int)<=(k:Int):=by omega
  have HB:=hid hBx
  obtain ⟨w3,hw3⟩:∃ X,X=wr:=⟨_,rfl⟩
  subst hw3
  clear hBx
  by_cases hlt:k<n
  ·have hlt':(k:Int)<(n:Int):=by omega
   obtain ⟨b,off,hAe,hb,e0⟩:=(HF.out.on HB.out).at hlt
   subst hAe
   obtain ⟨x,hx⟩:∃ x,x=f k:=⟨_,rfl⟩
   rw [<-hx] at e0
   have HX:=hid hx
   clear hx
   obtain ⟨pb,hpb⟩:∃ pb:Bool,pb=isNz x:=⟨_,rfl⟩
   have HPB:=hid hpb
   clear hpb
   go_wp2_with fail
   refine (yaw x w3).mono ?_
   rintro e w4 ⟨he,kb⟩
   have he:e=.returned (.bool (isNz x)):=he
   rw [<-HPB.out] at he
   subst he
   replace HB:=hid (onS HB.out kb);clear kb e0
   cases pb with
   | false =>
    have HI2:Hid (idxP isNz f (k+1) = -1):=hid (ze2 HI.out (by rw [<-HX.out]; exact HPB.out.symm))
    go_wp2
    go_roundg (gk - 1)
    case measure=>omega
    case rel=>exact ⟨k+1,by go_num,by omega,by omega,HI2,HB.out⟩
   | true =>
    have HI2:Hid (idxP isNz f n=(k:Int)):=hid (zgH HI.out (by rw [<-HX.out]; exact HPB.out.symm) hlt)
    go_wp2
    go_ret
    exact ⟨by rw [HI2.out]; rfl,HB.out⟩
  ·have hlt':¬ (k:Int)<(n:Int):=by omega
   obtain rfl:n=k:=by omega
   go_wp2
   go_ret
   exact ⟨by rw [HI.out]; rfl,HB.out⟩
theorem yax  (F:Option Addr) (n d:Nat) (f:Nat->Int) (w:World)  (hf:IntsR w w.heap.size F n f) (hn:n<=1024) :
  Calls Tryz.prog 111 #[.slice F n d,.func (.func 251) #[] #[]] w fun e w'=>∃ b:Bool,e=.returned (.bool b)/\(b=true↔∃ i,i<n/\isNz (f i)=true)/\Below w.heap.size w w':=by
 have HF:=hid hf
 clear hf
 go_enter Tryz.func111, Tryz.ntmps111
 go_wp2_with fail
 refine (yaH  F n d f w  HF.out hn).mono ?_
 rintro e w1 ⟨he,kb⟩
 obtain ⟨z,hz⟩:∃ z,z=idxP isNz f n:=⟨_,rfl⟩
 have hs:=ze3 isNz f n
 rw [<-hz] at hs he
 subst he
 have hd:decide (z ≥ 0)=true↔∃ i,i<n/\isNz (f i)=true:=by
  rw [decide_eq_true_iff]
  rcases hs with ⟨h1,h2⟩ | ⟨i,hi,h1,h2⟩
  ·refine ⟨fun h=>by omega,fun ⟨i,hi,h⟩=>?_⟩
   rw [h2 i hi] at h
   cases h
  ·exact ⟨fun _=>⟨i,hi,h2⟩,fun _=>by omega⟩
 have HD:=hid hd
 have KB:=hid kb
 clear hs hd hz kb
 go_wp2
 go_ret
 exact ⟨_,rfl,HD.out,KB.out⟩
section
variable {q n k:Nat} {add mul:Nat->Nat->Nat} {V:Nat->Nat->Nat} {neg:Nat->Nat}
theorem yaI (hL:FieldLaws q add mul) {a b c d:Nat} (ha:a<q) (hb:b<q) (hc:c<q) (hd:d<q):add (add a b) (add c d)=add (add a c) (add b d):=by
 rw [hL.addAssoc a b _ ha hb (hL.addLt _ _),<-hL.addAssoc b c d hb hc hd,hL.addComm b c,hL.addAssoc c b d hc hb hd,<-hL.addAssoc a c _ ha hc (hL.addLt _ _)]
theorem yaE (hL:FieldLaws q add mul) (hn:∀ x,x<q->neg x<q/\add x (neg x)=0) {c:Nat->Nat} {j:Nat} (hV:∀ i,i<n->V i j<q) (hc:∀ i,i<n->c i<q):∀ t,t<=n->add (spE add mul V c t j) (spE add mul V (fun i=>neg (c i)) t j)=0
 | 0,_=>hL.zeroAdd 0 (by have:=hL.two; omega)
 | t+1,ht=>by
  have h1:=hV t (by omega)
  have h2:=hc t (by omega)
  have h3:=hn _ h2
  show add (add (spE add mul V c t j) (mul (c t) (V t j))) (add (spE add mul V (fun i=>neg (c i)) t j) (mul (neg (c t)) (V t j)))=0
  rw [yaI hL (zbb hL _ _ _) (hL.mulLt _ _) (zbb hL _ _ _) (hL.mulLt _ _),yaE hL hn hV hc t (by omega),hL.mulComm (c t) _ h2 h1,hL.mulComm (neg (c t)) _ h3.1 h1,<-hL.distrib _ _ _ h1 h2 h3.1,h3.2,hL.mulZero h1]
  exact hL.zeroAdd 0 (by have:=hL.two; omega)
end
def restF (P M:Nat) (m:Nat->Nat) (p:Nat->Nat) (V:Nat->Nat->Nat) (u:Nat->Nat):Nat->Nat->Nat
 | 0=>u
 | t+1=>atF P M m (negF P M (u (p t))) (restF P M m p V u t) (V t)
section
variable {P M n k:Nat} {m:Nat->Nat} {V:Nat->Nat->Nat} {p u:Nat->Nat}
theorem yac (hL:FieldLaws (P ^ M) (addF P M) (mulF P M m)) (hu:∀ j,j<k->u j<P ^ M):∀ t j,j<k->restF P M m p V u t j<P ^ M
 | 0,j,hj=>hu j hj
 | t+1,j,hj=>by
  show atF _ _ _ _ _ _ _<_
  unfold atF
  split
  ·exact yac hL hu t j hj
  ·exact hL.addLt _ _
theorem yab (hL:FieldLaws (P ^ M) (addF P M) (mulF P M m)) (hP:0<P) (hu:∀ j,j<k->u j<P ^ M) {j:Nat} (hj:j<k):∀ t,restF P M m p V u t j=addF P M (u j) (spE (addF P M) (mulF P M m) V (fun i=>negF P M (u (p i))) t j)
 | 0=>by
  show u j=addF P M (u j) 0
  rw [hL.addComm,hL.zeroAdd _ (hu j hj)]
 | t + 1 => by
  have hS:=zbb hL (V:=V) (fun i=>negF P M (u (p i))) t j
  show atF _ _ _ _ _ _ _=addF P M (u j) (addF P M (spE (addF P M) (mulF P M m) V (fun i=>negF P M (u (p i))) t j) (mulF P M m (negF P M (u (p t))) (V t j)))
  rw [<-hL.addAssoc _ _ _ (hu j hj) hS (hL.mulLt _ _),<-yab hL hP hu hj t]
  unfold atF
  split
  ·next h =>
   rw [h,hL.mulZero (zbp hP),hL.addComm,hL.zeroAdd _ (yac hL hu t j hj)]
  ·rfl
theorem yay (hL:FieldLaws (P ^ M) (addF P M) (mulF P M m)) (hP:0<P) (hE:EchN (P ^ M) n k k n p V) (hu:∀ j,j<k->u j<P ^ M):(∀ j,j<k->restF P M m p V u n j=0)↔InSp (P ^ M) (addF P M) (mulF P M m) n k V u:=by
 rw [zho hL hE hu]
 have hop:∀ j,j<k->addF P M (spE (addF P M) (mulF P M m) V (fun i=>u (p i)) n j) (spE (addF P M) (mulF P M m) V (fun i=>negF P M (u (p i))) n j)=0:=fun j hj =>
  yaE hL (fun x _=>⟨zbp hP,za4 hP⟩) (fun i hi=>hE.lt i hi j hj) (fun i hi=>hu _ (hE.pvlt i hi)) n (Nat.le_refl _)
 constructor
 ·intro h j hj
  have h1:=h j hj
  rw [yab hL hP hu hj] at h1
  exact zgp hL (hu j hj) (zbb hL _ _ _) (zbb hL _ _ _) h1 (hop j hj)
 ·intro h j hj
  rw [yab hL hP hu hj,h j hj]
  exact hop j hj
end
def WordErrs (q N l:Nat) (u:Nat->Int):List (Prop × Int):=[(l=N,4),(AllIn q l u,2)]
theorem yam (P M:Nat) (A:Option Addr) (k c:Nat) (U:Option Addr) (l d N:Nat) (u:Nat->Int) (w:World) (hf:FldOk P M) (h:IntsR w w.heap.size U l u) (hn:l<=9223372036854775807) :
  Calls Tryz.prog 63 #[.agg #[.int .i64 (P:Nat),.int .i64 (M:Nat),.slice A k c],.slice U l d,.int .i64 (N:Nat)] w (ErrsPost (WordErrs (P ^ M) N l u) w):=by
 have HU:=hid h
 clear h
 have hB:Below w.heap.size w (w.alloc (.cells #[.int .i64 (P:Nat),.int .i64 (M:Nat),.slice A k c] 24)):=(Below.refl _ _).alloc (Nat.le_refl _) _
 have rf:=zaf (w:=w) (a:=.int .i64 (P:Nat)) (b:=.int .i64 (M:Nat)) (c:=.slice A k c) (T := 24)
 obtain ⟨w0,hw0⟩:∃ W,W=w.alloc (.cells #[.int .i64 (P:Nat),.int .i64 (M:Nat),.slice A k c] 24):=⟨_,rfl⟩
 rw [<-hw0] at hB rf
 go_enter Tryz.func63, Tryz.ntmps63
 go_upto_region 1 with fail
 rw [<-hw0];clear hw0
 have q0:w0.cell? ⟨w.heap.size,0,none⟩=some (.int .i64 (P:Nat)):=rf.cell (i:=0) (by omega)
 have q1:w0.cell? ⟨w.heap.size,1,none⟩=some (.int .i64 (M:Nat)):=rf.cell (i:=1) (by omega)
 have q2:w0.cell? ⟨w.heap.size,2,none⟩=some (.slice A k c):=rf.cell (i:=2) (by omega)
 clear rf
 by_cases hl:l=N
 ·have HL:=hid hl
  have hl':((l:Int) != (N:Int))=false:=by simp [hl]
  clear hl
  go_wp2_with fail
  refine (zdR P M A k c U l d u w0 hf (HU.out.on hB) hn).mono ?_
  rintro e w1 ⟨v,rfl,hv,kb⟩
  have HV:=hid hv
  replace hB:=onS hB kb;clear hv kb q0 q1 q2
  go_wp2
  go_ret
  refine errsPost (.inr ⟨HL.out,?_⟩) hB
  rcases HV.out with ⟨h1,h2⟩ | ⟨h1,h2⟩
  ·exact .inr ⟨h2,h1⟩
  ·exact .inl ⟨h2,h1⟩
 ·have HL:=hid hl
  have hl':((l:Int) != (N:Int))=true:=by simp; omega
  clear hl
  go_wp2
  go_ret
  exact errsPost (.inl ⟨HL.out,rfl⟩) hB
theorem yan (P M:Nat) (m:Nat->Nat) (A:Option Addr) (k c N:Nat) (T:Option Addr) (n d:Nat) (V:Nat->Nat->Nat) (U:Option Addr) (l uc:Nat) (u:Nat->Int) (w:World) (h:CodeR w P M m A k N T n V) (hu:IntsR w w.heap.size U l u) (hn:l<=9223372036854775807) :
  Calls Tryz.prog 37 #[.agg #[.int .i64 (P:Nat),.int .i64 (M:Nat),.slice A k c,.int .i64 (N:Nat),.slice T n d],.slice U l uc] w (ErrsPost (WordErrs (P ^ M) N l u) w):=by
 have HC:=hid h
 have HU:=hid hu
 have hN:=h.ln2
 have hfo:=h.fld.1
 clear h hu
 have rf:=zai (w:=w) (a:=.int .i64 (P:Nat)) (b:=.int .i64 (M:Nat)) (c:=.slice A k c) (d:=.int .i64 (N:Nat)) (e:=.slice T n d) (T := 27)
 have hB:Below w.heap.size w (w.alloc (.cells #[.int .i64 (P:Nat),.int .i64 (M:Nat),.slice A k c,.int .i64 (N:Nat),.slice T n d] 27)):=(Below.refl _ _).alloc (Nat.le_refl _) _
 obtain ⟨w1,hw1⟩:∃ W,W=w.alloc (.cells #[.int .i64 (P:Nat),.int .i64 (M:Nat),.slice A k c,.int .i64 (N:Nat),.slice T n d] 27):=⟨_,rfl⟩
 rw [<-hw1] at hB rf
 go_enter Tryz.func37, Tryz.ntmps37
 go_upto_region 1 with fail
 rw [<-hw1];clear hw1
 have q0:w1.cell? ⟨w.heap.size,0,none⟩=some (.int .i64 (P:Nat)):=rf.cell (i:=0) (by omega)
 have q1:w1.cell? ⟨w.heap.size,1,none⟩=some (.int .i64 (M:Nat)):=rf.cell (i:=1) (by omega)
 have q2:w1.cell? ⟨w.heap.size,2,none⟩=some (.slice A k c):=rf.cell (i:=2) (by omega)
 have q3:w1.cell? ⟨w.heap.size,3,none⟩=some (.int .i64 (N:Nat)):=rf.cell (i:=3) (by omega)
 have q4:w1.cell? ⟨w.heap.size,4,none⟩=some (.slice T n d):=rf.cell (i:=4) (by omega)
 go_wp2_with fail
 have h1:=HC.out.on hB
 refine (zbz (P:Int) (M:Int) A k c _ (N:Int) T n d _ _ w1 h1.ints h1.rows).mono ?_
 rintro e w2 ⟨v,rfl,hv,kb⟩
 obtain rfl:v=0:=FirstErr.unique hv HC.out.errs
 replace hB:=onS hB kb;replace q0:=cellS kb q0;replace q1:=cellS kb q1;replace q2:=cellS kb q2;replace q3:=cellS kb q3;clear kb q4 rf hv h1
 go_wp2_with fail
 refine (yam P M A k c U l uc N u w2 hfo (HU.out.on hB) hn).mono ?_
 rintro e w3 ⟨v,rfl,hv,kb⟩
 have HV:=hid hv
 replace hB:=onS hB kb;clear hv kb q0 q1 q2 q3
 go_wp2
 go_ret
 exact errsPost HV.out hB
section
variable {P M n N:Nat} {m:Nat->Nat} {V:Nat->Nat->Nat} {p u:Nat->Nat}
theorem yaJ (hL:FieldLaws (P ^ M) (addF P M) (mulF P M m)) (hP:0<P) (hE:EchN (P ^ M) n N N n p V) (hu:∀ j,j<N->u j<P ^ M) {t:Nat} (ht:t<n):restF P M m p V u t (p t)=u (p t):=by
 rw [yab hL hP hu (hE.pvlt t ht)]
 have:∀ s,s<=t->spE (addF P M) (mulF P M m) V (fun i=>negF P M (u (p i))) s (p t)=0:=by
  intro s
  induction s with
  | zero=>intro _; rfl
  | succ s ih =>
   intro hs
   show addF P M (spE (addF P M) (mulF P M m) V (fun i=>negF P M (u (p i))) s (p t)) (mulF P M m (negF P M (u (p s))) (V s (p t)))=0
   rw [ih (by omega),hE.zero t ht s (by omega) (by omega),hL.mulZero (zbp hP)]
   exact hL.zeroAdd 0 (by have:=hL.two; omega)
 rw [this t (Nat.le_refl t),hL.addComm,hL.zeroAdd _ (hu _ (hE.pvlt t ht))]
theorem yag (hL:FieldLaws (P ^ M) (addF P M) (mulF P M m)) (hP:0<P) (hE:EchN (P ^ M) n N N n p V) (hu:∀ j,j<N->u j<P ^ M) {t j:Nat} (ht:t<n) (hj:j<N) :
  restF P M m p V u (t+1) j=addF P M (restF P M m p V u t j) (negF P M (mulF P M m (u (p t)) (V t j))):=by
 have hneg:∀ x,x<P ^ M->negF P M x<P ^ M/\addF P M x (negF P M x)=0:=fun x _=>⟨zbp hP,za4 hP⟩
 rw [ziv hL hneg (hu _ (hE.pvlt t ht)) (hE.lt t ht j hj)]
 show atF P M m (negF P M (u (p t))) (restF P M m p V u t) (V t) j=_
 unfold atF
 split
 ·next h=>rw [h,hL.mulZero (zbp hP),hL.addComm,hL.zeroAdd _ (yac hL hu t j hj)]
 ·rfl
theorem yao (hL:FieldLaws (P ^ M) (addF P M) (mulF P M m)) (hP:0<P) (hE:EchN (P ^ M) n N N n p V) (hu:∀ j,j<N->u j<P ^ M) {t j:Nat} (ht:t<n) (hj:j<N) (h0:u (p t)=0):restF P M m p V u (t+1) j=restF P M m p V u t j:=by
 have hneg:∀ x,x<P ^ M->negF P M x<P ^ M/\addF P M x (negF P M x)=0:=fun x _=>⟨zbp hP,za4 hP⟩
 have hz:=hneg 0 (by have:=hL.two; omega)
 have hn0:negF P M 0=0:=by rw [<-hL.zeroAdd _ hz.1]; exact hz.2
 rw [yag hL hP hE hu ht hj,h0,hL.mulComm 0 _ (by have:=hL.two; omega) (hE.lt t ht j hj),hL.mulZero (hE.lt t ht j hj),hn0,hL.addComm,hL.zeroAdd _ (yac hL hu t j hj)]
end
def RedSpPost (P M:Nat) (m:Nat->Nat) (N n:Nat) (p:Nat->Nat) (V:Nat->Nat->Nat) (u:Nat->Nat) (w:World) (e:Ending) (w':World):Prop :=
 Below w.heap.size w w'/\∃ RA rc TK tn tc,e=.returned (.tuple #[.slice RA N rc,.slice TK tn tc])/\IntsR w' w'.heap.size RA N (fun j=>((restF P M m p V u n j:Nat):Int))
theorem yap (P M:Nat) (m:Nat->Nat) (g N n d:Nat) (V:Nat->Nat->Nat) (p:Nat->Nat) (T:Option Addr) (PA:Option Addr) (pc:Nat) (UA:Option Addr) (uc:Nat) (u:Nat->Nat) (w:World) (hG:GF w w.heap.size g P M m) (hV:IntRows w T n (fun _=>N) (fun i j=>((V i j:Nat):Int))) (hp:IntsR w w.heap.size PA n (fun i=>((p i:Nat):Int)))
  (hE:EchN (P ^ M) n N N n p V) (hu:IntsR w w.heap.size UA N (fun i=>((u i:Nat):Int))) (hul:∀ j,j<N->u j<P ^ M) (hnN:n<=64) (hN:N<=64) (hN1:1<=N) (huc:N<=uc) :
  Calls Tryz.prog 217 #[.agg #[.pointer (some ⟨g,0,none⟩),.int .i64 (N:Nat),.slice T n d,.slice PA n pc],.slice UA N uc] w (RedSpPost P M m N n p V u w):=by
 have HG:=hid hG
 have HV:=hid hV
 have HPI:=hid hp
 have HE:=hid hE
 have HU:=hid hu
 have HUL:=hid hul
 have HL:=hid (fieldLaws hG.ok)
 have HP0:Hid (0<P):=hid (by have:=hG.ok.1.1; omega)
 obtain ⟨q,hq⟩:∃ q,q=P ^ M:=⟨_,rfl⟩
 have hq256:q<=256:=by rw [hq]; exact hG.ok.1.2.2.2
 have HQ:=hid hq
 clear hG hV hp hE hu hul hq
 have rf:=zfl (w:=w) (a:=.pointer (some ⟨g,0,none⟩)) (b:=.int .i64 (N:Nat)) (c:=.slice T n d) (d:=.slice PA n pc) (T := 196)
 have hB:Below w.heap.size w (w.alloc (.cells #[.pointer (some ⟨g,0,none⟩),.int .i64 (N:Nat),.slice T n d,.slice PA n pc] 196)):=(Below.refl _ _).alloc (Nat.le_refl _) _
 obtain ⟨w1,hw1⟩:∃ W,W=w.alloc (.cells #[.pointer (some ⟨g,0,none⟩),.int .i64 (N:Nat),.slice T n d,.slice PA n pc] 196):=⟨_,rfl⟩
 rw [<-hw1] at hB rf
 go_enter Tryz.func217, Tryz.ntmps217
 go_upto_region 1 with fail
 rw [<-hw1];clear hw1
 obtain ⟨b0,hb0⟩:∃ b,b=w.heap.size:=⟨_,rfl⟩
 rw [<-hb0] at rf;rw [<-hb0];clear hb0
 have HBOX:Hid (∀ X,Below w1.heap.size w1 X->(X.cell? ⟨b0,0,none⟩=some (.pointer (some ⟨g,0,none⟩))/\X.cell? ⟨b0,1,none⟩=some (.int .i64 (N:Nat))/\X.cell? ⟨b0,2,none⟩=some (.slice T n d)/\X.cell? ⟨b0,3,none⟩=some (.slice PA n pc))):=hid fun X hx =>
  ⟨(zab rf hx).cell (i:=0) (by omega),(zab rf hx).cell (i:=1) (by omega),(zab rf hx).cell (i:=2) (by omega),(zab rf hx).cell (i:=3) (by omega)⟩
 have HB:=hid hB
 clear hB rf
 go_wp2_with fail
 refine (zaA UA N uc (fun j=>((u j:Nat):Int)) w1 (HU.out.on HB.out) huc (by omega)).mono ?_
 rintro e w2 ⟨SA,sc,rfl,hO,kb⟩
 have HO:=hid hO
 have KB:=hid kb
 clear hO kb
 obtain ⟨q0,q1,q2,q3⟩:=HBOX.out _ KB.out
 obtain ⟨sb,so,sc',hsv,hsb0,hsbl,_,_,_⟩:=Own.form HO.out (by omega)
 simp only [Value.slice.injEq] at hsv
 obtain ⟨rfl,-,-⟩:=hsv
 have HOI:Hid (OwnI w2 w1.heap.size sb so N sc (restF P M m p V u 0)):=HO
 clear HO
 go_upto_region 3 with fail
 clear q0 q1 q2 q3 hsbl
 have HTK:Hid (Own w2 w1.heap.size 3 1 (.slice none 0 0) 0 (fun j _=>.int .i64 (u (p j):Nat))):=hid (Own.nil _ _ _ _ _)
 go_loopg [5,16] n (fun gg tv iv wx=>∃ t:Nat,iv=.int .i64 (t:Nat)/\t<=n/\n<=t+gg/\Hid (Own wx w1.heap.size 3 1 tv t (fun j _=>.int .i64 (u (p j):Nat)))/\Hid (tv.ownBlock≠some sb)/\Hid (OwnI wx w1.heap.size sb so N sc (restF P M m p V u t))/\Hid (Below w1.heap.size w1 wx))
 case atStart=>exact ⟨0,rfl,by omega,by omega,HTK,hid (by intro h; cases h),HOI,KB⟩
 case round =>
  clear HTK HOI KB
  obtain ⟨t,rfl,ht,htg,HTK,HNE,HOI,KB⟩:=hrel
  have ht0:(0:Int)<=(t:Int):=by omega
  obtain ⟨SK,kc,hsv⟩:=HTK.out.shape
  subst hsv
  obtain ⟨w3,hw3⟩:∃ X,X=wr:=⟨_,rfl⟩
  subst hw3
  have HK:Hid (Below w.heap.size w w3):=hid (onS HB.out KB.out)
  by_cases hlt:t<n
  ·have hlt':(t:Int)<(n:Int):=by omega
   obtain ⟨pb,po,hpa,hpb,c0⟩:=(HPI.out.on HK.out).at hlt
   subst hpa
   have hpN:=HE.out.pvlt t hlt
   obtain ⟨P0,hP0⟩:∃ x,x=p t:=⟨_,rfl⟩
   rw [<-hP0] at hpN c0
   obtain ⟨y,hy⟩:∃ x,x=u P0:=⟨_,rfl⟩
   have hyq:y<q:=by rw [hy,HQ.out]; exact HUL.out _ hpN
   have c1:w3.cell? ⟨sb,so+P0,none⟩=some (.int .i64 (y:Nat)):=by
    have:=HOI.out.cell hpN
    rw [hP0,yaJ HL.out HP0.out HE.out HUL.out hlt,<-hP0,<-hy] at this
    exact this
   have HYP:Hid (y=u (p t)):=hid (by rw [hy,hP0])
   have hpN':(P0:Int)<(N:Int):=by omega
   have hP00:(0:Int)<=(P0:Int):=by omega
   clear hy hP0 hpb
   obtain ⟨gO,hgO⟩:∃ x,x=gk:=⟨_,rfl⟩
   subst hgO
   go_upto_region 6 with fail
   clear c0 c1 hpN' hP00 hpN
   have kb:=(Below.refl w3.heap.size w3).alloc (Nat.le_refl _) (Obj.cells #[Value.int .i64 (y:Nat)] 3)
   have HTK8:=hid (HTK.out.on kb)
   have HOI8:Hid (OwnI (w3.alloc (Obj.cells #[Value.int .i64 (y:Nat)] 3)) w1.heap.size sb so N sc (restF P M m p V u t)):=hid (Own.on HOI.out kb)
   have KB8:=hid (onS KB.out kb)
   have HC8:Hid ((w3.alloc (Obj.cells #[Value.int .i64 (y:Nat)] 3)).cell? ((⟨w3.heap.size,0,none⟩:Addr).add 0)=some (.int .i64 (y:Nat))):=tbox2
   have HZ8:Hid (w1.heap.size<=(w3.alloc (Obj.cells #[Value.int .i64 (y:Nat)] 3)).heap.size):=KB8.out.size
   have HLL:Hid (t<=1048576):=by show _<=_; omega
   clear kb
   go_upto_region 7 with (first | (at_builtin; (refine zap rfl (.tmp 25) (.tmp 27) rfl HTK8.out rfl (ad:=⟨w3.heap.size,0,none⟩) (c:=1) rfl HC8.out HZ8.out HLL.out ?_); intro v9 w9 o1 o2 o3))
   have HTK9:=hid (o1.congr (f':=fun i _=>.int .i64 (u (p i):Nat)) fun s _ _ _=>by
    by_cases e:s=t
    ·subst e; rw [if_pos rfl,HYP.out]
    ·rw [if_neg e])
   have HOI9:Hid (OwnI w9 w1.heap.size sb so N sc (restF P M m p V u t)):=hid (Own.kept HOI8.out o2 (.inr fun h=>HNE.out h.symm))
   have KB9:=hid (KB8.out.grown o2 HZ8.out fun q e=>(HTK8.out.lt _ e).1)
   have hsbl:=(Own.lt HOI.out _ rfl).2
   have HNE9:Hid (v9.ownBlock≠some sb):=hid (by
    rcases o3 with h | h
    ·rw [h]; exact HNE.out
    ·rw [h]; intro h2; injection h2 with h2
     have h3:(w3.alloc (Obj.cells #[Value.int .i64 (y:Nat)] 3)).heap.size=w3.heap.size+1:=by simp
     have h4:(w3.alloc (Obj.cells #[Value.int .i64 (y:Nat)] 3)).heap.size=sb:=h2
     have h5:sb<w3.heap.size:=hsbl
     omega)
   clear o1 o2 o3 HTK8 HOI8 KB8 HC8 HZ8 HTK HNE HOI KB hsbl HLL
   have HK9:Hid (Below w.heap.size w w9):=hid (onS HB.out KB9.out)
   by_cases hy0:y=0
   ·have hyb:((y:Int) != 0)=false:=by simp [hy0]
    have HOI10:Hid (OwnI w9 w1.heap.size sb so N sc (restF P M m p V u (t+1))):=hid (Own.congr HOI9.out fun j hj _ _=>by
     show Value.int _ _=Value.int _ _
     rw [yao HL.out HP0.out HE.out HUL.out hlt hj (by rw [<-HYP.out,hy0])])
    clear hy0
    go_wp2
    go_roundg (gO - 1)
    case measure=>omega
    case rel=>exact ⟨t+1,by go_num,by omega,by omega,HTK9,HNE9,HOI10,KB9⟩
   ·have hyb:((y:Int) != 0)=true:=by simp; omega
    have HIY:=hid (zak (by rw [<-HQ.out]; exact hyq:y<P ^ M))
    clear hy0 hyq
    obtain ⟨q0,q1,q2,q3⟩:=HBOX.out _ KB9.out
    obtain ⟨tb,to0,RA,rc,hTe,htb,r0,_,_,hrow,_⟩:=HV.out t hlt
    subst hTe
    replace r0:=(HK9.out.cell (p:=⟨tb,to0+t,none⟩) htb).trans r0
    have HROW:=hid hrow
    clear hrow
    go_upto_region 9 with fail
    clear q0 q1 q2 q3 r0 htb
    have HST:Hid (OwnI w9 w1.heap.size sb so N sc (fun j=>if j<0 then restF P M m p V u (t+1) j else restF P M m p V u t j)):=hid (Own.congr HOI9.out fun j hj _ _=>by dsimp only; rw [if_neg (by omega)])
    clear HOI9
    go_loopg [38] N (fun gg jv wx=>∃ j:Nat,jv=.int .i64 (j:Nat)/\j<=N/\N<=j+gg/\Hid (Own wx w1.heap.size 3 1 v9 (t+1) (fun i _=>.int .i64 (u (p i):Nat)))/\Hid (OwnI wx w1.heap.size sb so N sc (fun i=>if i<j then restF P M m p V u (t+1) i else restF P M m p V u t i))/\Hid (Below w1.heap.size w1 wx))
    case atStart=>exact ⟨0,rfl,by omega,by omega,HTK9,HST,KB9⟩
    case round =>
     clear HTK9 HST KB9 HK9
     obtain ⟨j,rfl,hj,hjg,HTK,HST,KB⟩:=hrel
     have hj0:(0:Int)<=(j:Int):=by omega
     by_cases hjN:j<N
     ·have hjN':(j:Int)<(N:Int):=by omega
      obtain ⟨w3,hw3⟩:∃ X,X=wr:=⟨_,rfl⟩
      subst hw3
      obtain ⟨rb,ro,hRe,hrb,r0⟩:=(HROW.out.on (onS HB.out KB.out)).at hjN
      subst hRe
      obtain ⟨z,hz⟩:∃ z,z=V t j:=⟨_,rfl⟩
      simp only [<-hz] at r0
      have hzq:z<P ^ M:=by rw [hz]; exact HE.out.lt t hlt j hjN
      obtain ⟨x,hx⟩:∃ x,x=restF P M m p V u t j:=⟨_,rfl⟩
      have hxq:x<P ^ M:=by rw [hx]; exact yac HL.out HUL.out t j hjN
      have HX:=hid hx
      have HZ:=hid hz
      have HIX:=hid (zak hxq)
      have HIZ:=hid (zak hzq)
      clear hx hz hxq hzq
      go_wp2
      have HSS:Hid (∀ X,Below w3.heap.size w3 X->X.cell? ⟨b0,0,none⟩=some (.pointer (some ⟨g,0,none⟩))/\X.cell? ⟨sb,so+j,none⟩=some (.int .i64 (x:Nat))/\X.cell? ⟨rb,ro+j,none⟩=some (.int .i64 (z:Nat))):=hid fun X hX=>⟨(HBOX.out X (onS KB.out hX)).1,by
       have:=OwnI.cell (Own.on HST.out hX) hjN
       rw [if_neg (by omega),<-HX.out] at this
       exact this,cellS hX r0⟩
      clear r0 hrb
      have S0:(World.drew w3).cell? ⟨b0,0,none⟩=some (.pointer (some ⟨g,0,none⟩)):=(HSS.out (World.drew w3) (Below.refl _ _).drew).1
      refine wp_region_held_drew (S:=fun X=>X.cell? ⟨b0,0,none⟩=some (.pointer (some ⟨g,0,none⟩))) (by kernel_rfl) S0 (fun hHeld=>?_)
      obtain ⟨w4,hw⟩:∃ W,W=World.drew w3:=⟨_,rfl⟩
      have kb:Below w3.heap.size w3 w4:=by rw [hw]; exact (Below.refl _ _).drew
      rw [<-hw] at hHeld ⊢;clear hw S0
      have K4:=hid kb
      clear kb
      have s0:=HSS.out _ K4.out
      obtain ⟨y0,y1,y2⟩:=s0
      obtain ⟨a,ha⟩:∃ a,a=mulF P M m y z:=⟨_,rfl⟩
      have HAV:=hid ha
      have HIA:=hid (zak (by rw [ha]; exact HL.out.mulLt _ _:a<P ^ M))
      clear ha
      have HSB:Hid (∀ X,Below w3.heap.size w3 X->X.cell? ⟨b0,0,none⟩=some (.pointer (some ⟨g,0,none⟩))):=hid fun X hX=>(HSS.out X hX).1
      refine tkq 0 (h:=tkq 1 (h:=tkq 2 (h:=tkq 3 (h:=tkq 4 (h:=tkq 5 (h:=tkq 6 (h:=tkq 8 (h:=tkq 9 (h:=tkq 10 (h:=tkq 11 (h:=?_)))))))))))
      clear hHeld y0 y1 y2
      refine rdq2 7 12 (h:=fun K hK=>?_) (h2:=fun K hK=>?_)
      focus
       have u0:=(HSS.out _ K4.out).2.1
       go_simp
       clear u0
       refine bkq hK (HSB.out _ K4.out) (h:=fun hHeld=>?_)
       clear hK K hHeld
       refine rdq 12 (h:=fun K hK=>?_)
       go_simp
       go_wp2_with fail
       refine (zaM (y:Int) (z:Int) (HG.out.at (onS HB.out (onS KB.out K4.out)) (onS HB.out (onS KB.out K4.out)).size)).mono ?_
       rintro e w5 ⟨rfl,kb⟩
       rw [HIY.out,HIZ.out,<-HAV.out]
       have K5:=hid (onS K4.out kb)
       clear kb
       refine bkq hK (HSB.out _ K5.out) (h:=fun hHeld=>?_)
       clear hK K
      rotate_left
      focus
       go_simp
       go_wp2_with fail
       refine (zaM (y:Int) (z:Int) (HG.out.at (onS HB.out (onS KB.out K4.out)) (onS HB.out (onS KB.out K4.out)).size)).mono ?_
       rintro e w5 ⟨rfl,kb⟩
       rw [HIY.out,HIZ.out,<-HAV.out]
       have K5:=hid (onS K4.out kb)
       clear kb
       refine bkq hK (HSB.out _ K5.out) (h:=fun hHeld=>?_)
       clear hK K;clear hHeld
       refine rdq 7 (h:=fun K hK=>?_)
       have u0:=(HSS.out _ K5.out).2.1
       go_simp
       clear u0
       refine bkq hK (HSB.out _ K5.out) (h:=fun hHeld=>?_)
       clear hK K
      all_goals
       refine rdq 13 (h:=fun K hK=>?_)
       go_simp
       go_wp2_with fail
       refine (zeO (x:Int) (a:Int) (HG.out.at (onS HB.out (onS KB.out K5.out)) (onS HB.out (onS KB.out K5.out)).size)).mono ?_
       rintro e w6 ⟨rfl,kb⟩
       rw [HIX.out,HIA.out]
       obtain ⟨b,hb⟩:∃ b,b=addF P M x (negF P M a):=⟨_,rfl⟩
       rw [<-hb]
       have hbv:b=restF P M m p V u (t+1) j:=by
        rw [hb,HAV.out,HX.out,HZ.out,HYP.out,yag HL.out HP0.out HE.out HUL.out hlt hjN]
       have HBV:=hid hbv
       clear hb hbv
       have K6:=hid (onS K5.out kb)
       clear kb K5 K4
       refine bkq hK (HSB.out _ K6.out) (h:=fun hHeld=>?_)
       clear hK K
       refine tkq 14 (h:=?_)
       clear hHeld
       refine rdq 15 (h:=fun K hK=>?_)
       have s0:=HSS.out _ K6.out
       obtain ⟨y0,y1,y2⟩:=s0
       have HST6:Hid (OwnI w6 w1.heap.size sb so N sc (fun i=>if i<j then restF P M m p V u (t+1) i else restF P M m p V u t i)):=hid (Own.on HST.out K6.out)
       have z0:=Own.frozen HST6.out (so+j)
       go_simp
       clear y0 y1 y2 z0
       have HST7:Hid (OwnI (w6.setCell ⟨sb,so+j,none⟩ (.int .i64 (b:Nat))) w1.heap.size sb so N sc (fun i=>if i<j+1 then restF P M m p V u (t+1) i else restF P M m p V u t i)):=hid ((HST6.out.set hjN b).congr fun i hi=>by
        by_cases e:i=j
        ·subst e
         rw [if_pos rfl,if_pos (by omega),HBV.out]
        ·rw [if_neg e]
         by_cases e2:i<j
         ·rw [if_pos e2,if_pos (by omega)]
         ·rw [if_neg e2,if_neg (by omega)])
       have HTK7:=hid ((HTK.out.on K6.out).setCell (a:=⟨sb,so+j,none⟩) HNE9.out (.int .i64 (b:Nat)))
       have KB7:=hid ((onS KB.out K6.out).setCell (p:=⟨sb,so+j,none⟩) hsb0 (.int .i64 (b:Nat)))
       obtain ⟨w7,hw7⟩:∃ W,W=w6.setCell ⟨sb,so+j,none⟩ (.int .i64 (b:Nat)):=⟨_,rfl⟩
       rw [<-hw7] at HST7 HTK7 KB7 ⊢;clear hw7
       have y0:=(HBOX.out _ KB7.out).1
       refine bkq hK y0 (h:=fun hHeld=>?_)
       clear hK K
       refine wpAnyH_done (by kernel_rfl) ?_ _
       clear hHeld
       go_wp2
       go_roundg (gk - 1)
       case measure=>omega
       case rel=>exact ⟨j+1,by go_num,by omega,by omega,HTK7,HST7,KB7⟩
     ·have hjN':¬ (j:Int)<(N:Int):=by omega
      obtain rfl:N=j:=by omega
      have HOI10:Hid (OwnI wr w1.heap.size sb so N sc (restF P M m p V u (t+1))):=hid (Own.congr HST.out fun i hi _ _=>by dsimp only; rw [if_pos hi])
      go_wp2
      go_roundg (gO - 1)
      case measure=>omega
      case rel=>exact ⟨t+1,by go_num,by omega,by omega,HTK,HNE9,HOI10,KB⟩
  ·have hlt':¬ (t:Int)<(n:Int):=by omega
   obtain rfl:t=n:=by omega
   go_wp2
   go_ret2
   exact ⟨HK.out,_,_,_,_,_,rfl,by have:=Own.rd HOI.out rfl; exact this⟩
theorem yaq (F:Option Addr) (n d:Nat) (f:Nat->Int) (w:World) (hf:IntsR w w.heap.size F n f) (hn:n<=1024) :
  Calls Tryz.prog 218 #[.slice F n d] w fun e w'=>∃ b:Bool,e=.returned (.bool b)/\(b=true↔∀ i,i<n->f i=0)/\Below w.heap.size w w':=by
 have HF:=hid hf
 clear hf
 go_enter Tryz.func218, Tryz.ntmps218
 go_wp2_with fail
 refine (yax F n d f w HF.out hn).mono ?_
 rintro e w1 ⟨b,rfl,hb,kb⟩
 have hd:(!b)=true↔∀ i,i<n->f i=0:=by
  constructor
  ·intro h i hi
   have hbf:b=false:=by simpa using h
   by_cases e:f i=0
   ·exact e
   ·have:=hb.2 ⟨i,hi,by simpa [isNz] using e⟩
    rw [hbf] at this
    cases this
  ·intro h
   cases b with
   | false=>rfl
   | true =>
    obtain ⟨i,hi,h2⟩:=hb.1 rfl
    simp [isNz,h i hi] at h2
 have HD:=hid hd
 have KB:=hid kb
 clear hb hd kb
 obtain ⟨c,hc⟩:∃ c,c=!b:=⟨_,rfl⟩
 rw [<-hc] at HD
 have HC:=hid hc
 clear hc
 go_wp2
 go_ret
 exact ⟨_,rfl,by rw [<-HC.out]; exact HD.out,KB.out⟩
theorem yaK (P M:Nat) (m:Nat->Nat) (g N n d:Nat) (V:Nat->Nat->Nat) (p:Nat->Nat) (T:Option Addr) (PA:Option Addr) (pc:Nat) (UA:Option Addr) (uc:Nat) (u:Nat->Nat) (w:World) (hG:GF w w.heap.size g P M m) (hV:IntRows w T n (fun _=>N) (fun i j=>((V i j:Nat):Int))) (hp:IntsR w w.heap.size PA n (fun i=>((p i:Nat):Int)))
  (hE:EchN (P ^ M) n N N n p V) (hu:IntsR w w.heap.size UA N (fun i=>((u i:Nat):Int))) (hul:∀ j,j<N->u j<P ^ M) (hnN:n<=64) (hN:N<=64) (hN1:1<=N) (huc:N<=uc) :
  Calls Tryz.prog 168 #[.agg #[.pointer (some ⟨g,0,none⟩),.int .i64 (N:Nat),.slice T n d,.slice PA n pc],.slice UA N uc] w fun e w'=>∃ b:Bool,e=.returned (.bool b)/\(b=true↔InSp (P ^ M) (addF P M) (mulF P M m) n N V u)/\Below w.heap.size w w':=by
 have HG:=hid hG
 have HV:=hid hV
 have HPI:=hid hp
 have HE:=hid hE
 have HU:=hid hu
 have HUL:=hid hul
 clear hG hV hp hE hu hul
 have rf:=zfl (w:=w) (a:=.pointer (some ⟨g,0,none⟩)) (b:=.int .i64 (N:Nat)) (c:=.slice T n d) (d:=.slice PA n pc) (T := 196)
 have hB:Below w.heap.size w (w.alloc (.cells #[.pointer (some ⟨g,0,none⟩),.int .i64 (N:Nat),.slice T n d,.slice PA n pc] 196)):=(Below.refl _ _).alloc (Nat.le_refl _) _
 obtain ⟨w1,hw1⟩:∃ W,W=w.alloc (.cells #[.pointer (some ⟨g,0,none⟩),.int .i64 (N:Nat),.slice T n d,.slice PA n pc] 196):=⟨_,rfl⟩
 rw [<-hw1] at hB rf
 go_enter Tryz.func168, Tryz.ntmps168
 go_upto_region 1 with fail
 rw [<-hw1];clear hw1
 have q0:w1.cell? ⟨w.heap.size,0,none⟩=some (.pointer (some ⟨g,0,none⟩)):=rf.cell (i:=0) (by omega)
 have q1:w1.cell? ⟨w.heap.size,1,none⟩=some (.int .i64 (N:Nat)):=rf.cell (i:=1) (by omega)
 have q2:w1.cell? ⟨w.heap.size,2,none⟩=some (.slice T n d):=rf.cell (i:=2) (by omega)
 have q3:w1.cell? ⟨w.heap.size,3,none⟩=some (.slice PA n pc):=rf.cell (i:=3) (by omega)
 have HB:=hid hB
 clear hB rf
 go_wp2_with fail
 refine (yap P M m g N n d V p T PA pc UA uc u w1 (HG.out.at HB.out HB.out.size) (HV.out.on HB.out) (HPI.out.on HB.out) HE.out (HU.out.on HB.out) HUL.out hnN hN hN1 huc).mono ?_
 rintro e w2 ⟨kb,RA,rc,TK,tn,tc,rfl,hr⟩
 have HR:=hid hr
 have KB:=hid kb
 clear hr kb q0 q1 q2 q3
 go_wp2_with fail
 refine (yaq RA N rc (fun j=>((restF P M m p V u n j:Nat):Int)) w2 HR.out (by omega)).mono ?_
 rintro e w3 ⟨b,rfl,hb,kb⟩
 have hin:b=true↔InSp (P ^ M) (addF P M) (mulF P M m) n N V u:=by
  rw [hb,<-yay (fieldLaws HG.out.ok) (by have:=HG.out.ok.1.1; omega) HE.out HUL.out]
  constructor
  ·intro h j hj
   have:=h j hj
   omega
  ·intro h j hj
   rw [h j hj]
   rfl
 have HI:=hid hin
 replace KB:=hid (onS KB.out kb);clear hb hin kb
 go_wp2
 go_ret
 exact ⟨b,rfl,HI.out,onS HB.out KB.out⟩
theorem yaz (P M:Nat) (m:Nat->Nat) (g N n d:Nat) (T:Option Addr) (pv:Value) (UA:Option Addr) (uc:Nat) (u:Nat->Int) (w:World) (hG:GF w w.heap.size g P M m) (hu:IntsR w w.heap.size UA N u) (hul:AllIn (P ^ M) N u) (hN:N<=64) :
  Calls Tryz.prog 167 #[.agg #[.pointer (some ⟨g,0,none⟩),.int .i64 (N:Nat),.slice T n d,pv],.slice UA N uc] w fun e w'=>e=.returned (.int .i64 0)/\Below w.heap.size w w':=by
 have HG:=hid hG
 have HU:=hid hu
 have HUL:=hid hul
 clear hG hu hul
 have rf:=zfl (w:=w) (a:=.pointer (some ⟨g,0,none⟩)) (b:=.int .i64 (N:Nat)) (c:=.slice T n d) (d:=pv) (T := 196)
 have hB:Below w.heap.size w (w.alloc (.cells #[.pointer (some ⟨g,0,none⟩),.int .i64 (N:Nat),.slice T n d,pv] 196)):=(Below.refl _ _).alloc (Nat.le_refl _) _
 obtain ⟨w1,hw1⟩:∃ W,W=w.alloc (.cells #[.pointer (some ⟨g,0,none⟩),.int .i64 (N:Nat),.slice T n d,pv] 196):=⟨_,rfl⟩
 rw [<-hw1] at hB rf
 go_enter Tryz.func167, Tryz.ntmps167
 go_upto_region 1 with fail
 rw [<-hw1];clear hw1
 have q0:w1.cell? ⟨w.heap.size,0,none⟩=some (.pointer (some ⟨g,0,none⟩)):=rf.cell (i:=0) (by omega)
 have q1:w1.cell? ⟨w.heap.size,1,none⟩=some (.int .i64 (N:Nat)):=rf.cell (i:=1) (by omega)
 have HB:=hid hB
 have HQ0:=hid q0
 have hne:((N:Int) != (N:Int))=false:=by simp
 clear hB rf q0
 go_wp2_with fail
 refine (yav P M m g w.heap.size UA N uc u w1 (HG.out.at HB.out HB.out.size) HQ0.out (HU.out.on HB.out) (by omega)).mono ?_
 rintro e w2 ⟨b,rfl,hb,kb⟩
 have hbf:b=false:=by
  cases b with
  | false=>rfl
  | true =>
   obtain ⟨i,hi,h2⟩:=hb.1 rfl
   have h3:=HUL.out i hi
   simp [notIs,isB] at h2
   have h4:=h3.2
   have h6:=h3.1
   have h5:((P ^ M:Nat):Int)=(P:Int) ^ M:=by push_cast; rfl
   omega
 subst hbf
 have KB:=hid kb
 clear hb kb q1
 go_wp2
 go_ret
 exact ⟨rfl,onS HB.out KB.out⟩
theorem yaA (P M:Nat) (A:Option Addr) (k c:Nat) (f:Nat->Int) (U:Option Addr) (l uc N:Nat) (u:Nat->Int) (w:World) (hr:IntsR w w.heap.size A k f) (hg:GoodF (P:Int) (M:Int) k f) (hu:IntsR w w.heap.size U l u) (hN:N<=64) :
  Calls Tryz.prog 165 #[.agg #[.int .i64 (P:Nat),.int .i64 (M:Nat),.slice A k c],.slice U l uc,.int .i64 (N:Nat)] w (ErrsPost (WordErrs (P ^ M) N l u) w):=by
 have HR:=hid hr
 have HGO:=hid hg
 have HU:=hid hu
 clear hr hg hu
 have rf:=zaf (w:=w) (a:=.int .i64 (P:Nat)) (b:=.int .i64 (M:Nat)) (c:=.slice A k c) (T := 24)
 have hB:Below w.heap.size w (w.alloc (.cells #[.int .i64 (P:Nat),.int .i64 (M:Nat),.slice A k c] 24)):=(Below.refl _ _).alloc (Nat.le_refl _) _
 obtain ⟨w1,hw1⟩:∃ W,W=w.alloc (.cells #[.int .i64 (P:Nat),.int .i64 (M:Nat),.slice A k c] 24):=⟨_,rfl⟩
 rw [<-hw1] at hB rf
 go_enter Tryz.func165, Tryz.ntmps165
 go_upto_region 1 with fail
 rw [<-hw1];clear hw1
 have q0:w1.cell? ⟨w.heap.size,0,none⟩=some (.int .i64 (P:Nat)):=rf.cell (i:=0) (by omega)
 have q1:w1.cell? ⟨w.heap.size,1,none⟩=some (.int .i64 (M:Nat)):=rf.cell (i:=1) (by omega)
 have q2:w1.cell? ⟨w.heap.size,2,none⟩=some (.slice A k c):=rf.cell (i:=2) (by omega)
 have HB:=hid hB
 clear hB rf
 by_cases hl:l=N
 rotate_left
 ·have HL:=hid hl
  have hl':((l:Int) != (N:Int))=true:=by simp; omega
  clear hl
  go_wp2
  go_ret
  exact errsPost (.inl ⟨HL.out,rfl⟩) HB.out
 subst hl
 have hl':((l:Int) != (l:Int))=false:=by simp
 go_wp2_with fail
 refine (zbP (P:Int) (M:Int) A k c f w1 (HR.out.on HB.out)).mono ?_
 rintro e w2 ⟨kb,hcase⟩
 rcases hcase with ⟨hbad,_⟩ | ⟨_,gf,P2,M2,hP2,hM2,rfl,_,hG⟩
 ·exact absurd HGO.out hbad
 obtain rfl:P=P2:=by omega
 obtain rfl:M=M2:=by omega
 have HG:=hid hG.gf
 have KB:=hid kb
 clear kb q0 q1 q2 hP2 hM2 hG
 go_upto_region 4 with fail
 have kb:Below w2.heap.size w2 (w2.alloc (Obj.cells #[.pointer (some ⟨gf,0,none⟩)] 91)):=(Below.refl _ _).alloc (Nat.le_refl _) _
 have hc:(w2.alloc (Obj.cells #[.pointer (some ⟨gf,0,none⟩)] 91)).cell? ⟨w2.heap.size,0,none⟩=some (.pointer (some ⟨gf,0,none⟩)):=tbox2
 obtain ⟨w3,hw3⟩:∃ W,W=w2.alloc (Obj.cells #[.pointer (some ⟨gf,0,none⟩)] 91):=⟨_,rfl⟩
 rw [<-hw3] at kb hc ⊢;clear hw3
 have HCC:=hid hc
 have K3:=hid kb
 clear kb hc
 go_wp2_with fail
 refine (yat P M (fun i=>(f i).toNat) gf w2.heap.size U l uc u w3 (HG.out.on K3.out) HCC.out (HU.out.on (onS HB.out (onS KB.out K3.out))) (by omega)).mono ?_
 rintro e w4 ⟨b,rfl,hb,kb⟩
 have HBB:=hid hb
 have K4:=hid (onS HB.out (onS KB.out (onS K3.out kb)))
 clear hb kb
 cases b with
 | false =>
  go_wp2
  go_ret
  refine errsPost (.inr ⟨rfl,.inr ⟨fun i hi=>?_,rfl⟩⟩) K4.out
  have h1:=fun h=>HBB.out.2 ⟨i,hi,h⟩
  by_cases e:0<=u i/\u i<(P ^ M:Nat)
  ·exact e
  ·have:=h1 (by simp only [notIs,isB,decide_eq_false e]; rfl)
   cases this
 | true =>
  go_wp2
  go_ret
  refine errsPost (.inr ⟨rfl,.inl ⟨fun h=>?_,rfl⟩⟩) K4.out
  obtain ⟨i,hi,h2⟩:=HBB.out.1 trivial
  have h3:0<=u i/\u i<(P ^ M:Nat):=h i hi
  rw [notIs,isB,decide_eq_true h3] at h2
  cases h2
def WordV (P M:Int) (k:Nat) (f:Nat->Int) (N:Int) (n:Nat) (ln:Nat->Nat) (V:Nat->Nat->Int) (l:Nat) (u:Nat->Int) (v:Int):Prop :=
 ∃ x,FirstErr (CodeErrs P M k f N n ln V) x/\((x≠0/\v=x)∨(x=0/\∃ P' M' N':Nat,P=P'/\M=M'/\N=N'/\FirstErr (WordErrs (P' ^ M') N' l u) v))
theorem WordV.unique {P M:Int} {k:Nat} {f:Nat->Int} {N:Int} {n:Nat} {ln:Nat->Nat} {V:Nat->Nat->Int} {l:Nat} {u:Nat->Int} {v v2:Int} (h:WordV P M k f N n ln V l u v) (h2:WordV P M k f N n ln V l u v2):v=v2:=by
 obtain ⟨x,hx,h⟩:=h
 obtain ⟨y,hy,h2⟩:=h2
 obtain rfl:x=y:=FirstErr.unique hx hy
 rcases h with ⟨h0,rfl⟩ | ⟨rfl,P',M',N',rfl,rfl,rfl,h⟩
 ·rcases h2 with ⟨_,rfl⟩ | ⟨h3,_⟩
  ·rfl
  ·exact absurd h3 h0
 ·rcases h2 with ⟨h3,_⟩ | ⟨_,P2,M2,N2,e1,e2,e3,h2⟩
  ·exact absurd rfl h3
  ·obtain rfl:P'=P2:=by omega
   obtain rfl:M'=M2:=by omega
   obtain rfl:N'=N2:=by omega
   exact FirstErr.unique h h2
theorem yaB (P M:Int) (A:Option Addr) (k c:Nat) (f:Nat->Int) (N:Int) (T:Option Addr) (n d:Nat) (ln:Nat->Nat) (V:Nat->Nat->Int) (U:Option Addr) (l uc:Nat) (u:Nat->Int) (w:World) (hr:IntsR w w.heap.size A k f) (h:IntRows w T n ln V) (hu:IntsR w w.heap.size U l u) :
  Calls Tryz.prog 99 #[.agg #[.int .i64 P,.int .i64 M,.slice A k c,.int .i64 N,.slice T n d],.slice U l uc] w fun e w'=>Below w.heap.size w w'/\∃ v,e=.returned (.int .i64 v)/\WordV P M k f N n ln V l u v:=by
 have HI:=hid hr
 have HT:=hid h
 have HU:=hid hu
 clear hr h hu
 have rf:=zai (w:=w) (a:=.int .i64 P) (b:=.int .i64 M) (c:=.slice A k c) (d:=.int .i64 N) (e:=.slice T n d) (T := 27)
 have hB:Below w.heap.size w (w.alloc (.cells #[.int .i64 P,.int .i64 M,.slice A k c,.int .i64 N,.slice T n d] 27)):=(Below.refl _ _).alloc (Nat.le_refl _) _
 obtain ⟨w1,hw1⟩:∃ W,W=w.alloc (.cells #[.int .i64 P,.int .i64 M,.slice A k c,.int .i64 N,.slice T n d] 27):=⟨_,rfl⟩
 rw [<-hw1] at hB rf
 go_enter Tryz.func99, Tryz.ntmps99
 go_upto_region 1 with fail
 rw [<-hw1];clear hw1
 obtain ⟨b0,hb0⟩:∃ b,b=w.heap.size:=⟨_,rfl⟩
 rw [<-hb0] at rf;rw [<-hb0];clear hb0
 have HBOX:Hid (∀ X,Below w1.heap.size w1 X->(X.cell? ⟨b0,0,none⟩=some (.int .i64 P)/\X.cell? ⟨b0,1,none⟩=some (.int .i64 M)/\X.cell? ⟨b0,2,none⟩=some (.slice A k c)/\X.cell? ⟨b0,3,none⟩=some (.int .i64 N)/\X.cell? ⟨b0,4,none⟩=some (.slice T n d))):=hid fun X hx =>
  ⟨(zab rf hx).cell (i:=0) (by omega),(zab rf hx).cell (i:=1) (by omega),(zab rf hx).cell (i:=2) (by omega),(zab rf hx).cell (i:=3) (by omega),(zab rf hx).cell (i:=4) (by omega)⟩
 have HB:=hid hB
 clear hB rf
 obtain ⟨q0,q1,q2,q3,q4⟩:=HBOX.out _ (Below.refl _ _)
 go_wp2_with fail
 refine (zcI P M A k c f N T n d ln V w1 (HI.out.on HB.out) (HT.out.on HB.out)).mono ?_
 rintro e w2 ⟨v,rfl,hv,kb⟩
 have HV:=hid hv
 have KB:=hid kb
 clear kb hv q0 q1 q2 q3 q4
 by_cases hv0:v=0
 rotate_left
 ·have hub:(v != 0)=true:=by simpa using hv0
  have HV0:=hid hv0
  clear hv0
  go_wp2
  go_ret
  exact ⟨onS HB.out KB.out,v,rfl,v,HV.out,.inl ⟨HV0.out,rfl⟩⟩
 subst hv0
 have hub:((0:Int) != 0)=false:=by simp
 obtain ⟨P',M',N',rfl,rfl,rfl,hC⟩:=zb5 HI.out HT.out HV.out
 have hN64:=hC.ln2
 have HGO:Hid (GoodF (P':Int) (M':Int) k f):=hid (by
  rcases HV.out with ⟨_,h9⟩ | ⟨h1,_⟩
  ·cases h9
  ·exact h1)
 clear hC
 obtain ⟨q0,q1,q2,q3,q4⟩:=HBOX.out _ KB.out
 go_wp2_with fail
 refine (yaA P' M' A k c f U l uc N' u w2 (HI.out.on (onS HB.out KB.out)) HGO.out (HU.out.on (onS HB.out KB.out)) hN64).mono ?_
 rintro e w3 ⟨v,rfl,hv,kb⟩
 have HW:=hid hv
 replace KB:=hid (onS KB.out kb);clear hv kb q0 q1 q2 q3 q4
 go_wp2
 go_ret
 exact ⟨onS HB.out KB.out,v,rfl,0,HV.out,.inr ⟨rfl,P',M',N',rfl,rfl,rfl,HW.out⟩⟩
theorem yaC (P M:Nat) (A:Option Addr) (k c:Nat) (f:Nat->Int) (N:Nat) (T:Option Addr) (n d:Nat) (ln:Nat->Nat) (V:Nat->Nat->Int) (U:Option Addr) (uc:Nat) (u:Nat->Int) (w:World) (hr:IntsR w w.heap.size A k f) (h:IntRows w T n ln V) (hu:IntsR w w.heap.size U N u) (hul:AllIn (P ^ M) N u)
  (hE0:FirstErr (CodeErrs P M k f N n ln V) 0) (huc:N<=uc) :
  Calls Tryz.prog 100 #[.agg #[.int .i64 (P:Nat),.int .i64 (M:Nat),.slice A k c],.agg #[.int .i64 (N:Nat),.slice T n d],.slice U N uc] w fun e w'=>∃ b:Bool,e=.returned (.tuple #[.bool b,.int .i64 0])/\(b=true↔InSp (P ^ M) (addF P M) (mulF P M fun i=>(f i).toNat) n N (natT V) (fun j=>(u j).toNat))/\Below w.heap.size w w':=by
 have hC:CodeR w P M (fun i=>(f i).toNat) A k N T n (natT V):=by
  obtain ⟨P',M',N',e1,e2,e3,hC⟩:=zb5 hr h hE0
  obtain rfl:P=P':=by omega
  obtain rfl:M=M':=by omega
  obtain rfl:N=N':=by omega
  exact hC
 have hN1:=hC.ln1
 have hN64:=hC.ln2
 have hnN:=hC.n_le
 have HSE:Hid (FirstErr (SpaceErrs (P:Int) (M:Int) k f N n ln V) 0):=hid (by
  rcases hE0 with ⟨_,h9⟩ | ⟨hg,⟨_,h9⟩ | ⟨hN,⟨_,h9⟩ | ⟨hs,⟨_,h9⟩ | ⟨he,⟨_,h9⟩ | ⟨hR,_⟩⟩⟩⟩⟩
  ·cases h9
  ·cases h9
  ·cases h9
  ·cases h9
  ·cases h9
  ·exact .inr ⟨hg,.inr ⟨hs,.inr ⟨he,.inr ⟨by simpa using hR,rfl⟩⟩⟩⟩)
 have HI:=hid hr
 have HT:=hid h
 have HU:=hid hu
 have HUL:=hid hul
 have HRO:Hid (IntRows w T n (fun _=>N) (fun i j=>((natT V i j:Nat):Int))):=hid hC.rows
 have HUN:Hid (IntsR w w.heap.size U N (fun j=>(((u j).toNat:Nat):Int))):=hid (hu.congr fun j hj=>by have:=(hul j hj).1; omega)
 have HUNL:Hid (∀ j,j<N->(u j).toNat<P ^ M):=hid fun j hj=>by have:=hul j hj; omega
 clear hr h hu hul hE0 hC
 have rf:=zaf (w:=w) (a:=.int .i64 (P:Nat)) (b:=.int .i64 (M:Nat)) (c:=.slice A k c) (T := 24)
 have hB:Below w.heap.size w (w.alloc (.cells #[.int .i64 (P:Nat),.int .i64 (M:Nat),.slice A k c] 24)):=(Below.refl _ _).alloc (Nat.le_refl _) _
 have hsz:(w.alloc (.cells #[.int .i64 (P:Nat),.int .i64 (M:Nat),.slice A k c] 24)).heap.size=w.heap.size+1:=by simp
 obtain ⟨w0,hw0⟩:∃ W,W=w.alloc (.cells #[.int .i64 (P:Nat),.int .i64 (M:Nat),.slice A k c] 24):=⟨_,rfl⟩
 have rm:=zaB (w:=w0) (a:=.int .i64 (N:Nat)) (b:=.slice T n d) (T := 106)
 have kb:Below w0.heap.size w0 (w0.alloc (.cells #[.int .i64 (N:Nat),.slice T n d] 106)):=(Below.refl _ _).alloc (Nat.le_refl _) _
 obtain ⟨w1,hw1⟩:∃ W,W=w0.alloc (.cells #[.int .i64 (N:Nat),.slice T n d] 106):=⟨_,rfl⟩
 rw [<-hw0] at hB rf hsz;rw [<-hw1] at rm kb;rw [hsz] at rm;replace rf:=zab rf kb;replace hB:=onS hB kb
 go_enter Tryz.func100, Tryz.ntmps100
 go_upto_region 1 with fail
 rw [<-hw0,<-hw1];clear hw0 hw1 kb hsz
 obtain ⟨b0,hb0⟩:∃ b,b=w.heap.size:=⟨_,rfl⟩
 obtain ⟨b1,hb1⟩:∃ b,b=w.heap.size+1:=⟨_,rfl⟩
 rw [<-hb0] at rf;rw [<-hb1] at rm;rw [<-hb1,<-hb0];clear hb0 hb1
 have q0:w1.cell? ⟨b0,0,none⟩=some (.int .i64 (P:Nat)):=rf.cell (i:=0) (by omega)
 have q1:w1.cell? ⟨b0,1,none⟩=some (.int .i64 (M:Nat)):=rf.cell (i:=1) (by omega)
 have q2:w1.cell? ⟨b0,2,none⟩=some (.slice A k c):=rf.cell (i:=2) (by omega)
 have p0:w1.cell? ⟨b1,0,none⟩=some (.int .i64 (N:Nat)):=rm.cell (i:=0) (by omega)
 have p1:w1.cell? ⟨b1,1,none⟩=some (.slice T n d):=rm.cell (i:=1) (by omega)
 have HB:=hid hB
 clear hB rf rm
 go_wp2_with fail
 refine (zhm (P:Int) (M:Int) A k c f N T n d ln V w1 (HI.out.on HB.out) (HT.out.on HB.out) hN1).mono ?_
 rintro e w2 ⟨kb,v,hv,hcase⟩
 obtain rfl:v=0:=FirstErr.unique hv HSE.out
 rcases hcase with ⟨h0,_⟩ | ⟨_,P',M',C,g,pv,p,e1,e2,e3,rfl,hG,hP,hE⟩
 ·exact absurd rfl h0
 obtain rfl:P=P':=by omega
 obtain rfl:M=M':=by omega
 obtain rfl:N=C:=by omega
 obtain ⟨PA,pc,hpv⟩:=hP.shape
 subst hpv
 have HG:=hid hG
 have HPI:Hid (IntsR w2 w2.heap.size PA n (fun i=>((p i:Nat):Int))):=hid (Own.rd hP rfl)
 have HE:=hid hE
 have KB:=hid kb
 clear kb hv hG hP hE q0 q1 q2 p0 p1 e1 e2 e3
 go_upto_region 2 with fail
 have ro:=zfl (w:=w2) (a:=.pointer (some ⟨g,0,none⟩)) (b:=.int .i64 (N:Nat)) (c:=.slice T n d) (d:=.slice PA n pc) (T := 196)
 have kb:Below w2.heap.size w2 (w2.alloc (.cells #[.pointer (some ⟨g,0,none⟩),.int .i64 (N:Nat),.slice T n d,.slice PA n pc] 196)):=(Below.refl _ _).alloc (Nat.le_refl _) _
 obtain ⟨w3,hw3⟩:∃ W,W=w2.alloc (.cells #[.pointer (some ⟨g,0,none⟩),.int .i64 (N:Nat),.slice T n d,.slice PA n pc] 196):=⟨_,rfl⟩
 rw [<-hw3] at ro kb ⊢;clear hw3
 obtain ⟨b2,hb2⟩:∃ b,b=w2.heap.size:=⟨_,rfl⟩
 rw [<-hb2] at ro ⊢;clear hb2
 have HBOX:Hid (∀ X,Below w3.heap.size w3 X->(X.cell? ⟨b2,0,none⟩=some (.pointer (some ⟨g,0,none⟩))/\X.cell? ⟨b2,1,none⟩=some (.int .i64 (N:Nat))/\X.cell? ⟨b2,2,none⟩=some (.slice T n d)/\X.cell? ⟨b2,3,none⟩=some (.slice PA n pc))):=hid fun X hx =>
  ⟨(zab ro hx).cell (i:=0) (by omega),(zab ro hx).cell (i:=1) (by omega),(zab ro hx).cell (i:=2) (by omega),(zab ro hx).cell (i:=3) (by omega)⟩
 have K3:=hid kb
 clear ro kb
 obtain ⟨q0,q1,q2,q3⟩:=HBOX.out _ (Below.refl _ _)
 go_wp2_with fail
 refine (yaz P M (fun i=>(f i).toNat) g N n d T (.slice PA n pc) U uc u w3 (HG.out.on K3.out) (HU.out.on (onS HB.out (onS KB.out K3.out))) HUL.out hN64).mono ?_
 rintro e w4 ⟨rfl,kb⟩
 have K4:=hid kb
 clear kb q0 q1 q2 q3
 obtain ⟨q0,q1,q2,q3⟩:=HBOX.out _ K4.out
 go_wp2_with fail
 refine (yaK P M (fun i=>(f i).toNat) g N n d (natT V) p T PA pc U uc (fun j=>(u j).toNat) w4 (HG.out.on (onS K3.out K4.out)) (HRO.out.on (onS HB.out (onS KB.out (onS K3.out K4.out)))) (HPI.out.on (onS K3.out K4.out)) HE.out (HUN.out.on (onS HB.out (onS KB.out (onS K3.out K4.out)))) HUNL.out (by omega) hN64 hN1 huc).mono ?_
 rintro e w5 ⟨b,rfl,hb,kb⟩
 have HBB:=hid hb
 have K5:=hid (onS HB.out (onS KB.out (onS K3.out (onS K4.out kb))))
 clear hb kb q0 q1 q2 q3
 go_wp2
 go_ret2
 exact ⟨b,rfl,HBB.out,K5.out⟩
def CHasPost (P M:Int) (k:Nat) (f:Nat->Int) (N:Int) (n:Nat) (ln:Nat->Nat) (V:Nat->Nat->Int) (l:Nat) (u:Nat->Int) (w:World) (e:Ending) (w':World):Prop :=
 Below w.heap.size w w'/\∃ (b:Bool) (v:Int),e=.returned (.tuple #[.bool b,.int .i64 v])/\WordV P M k f N n ln V l u v /\
  (v=0->∃ P' M' N':Nat,P=P'/\M=M'/\N=N'/\(b=true↔InSp (P' ^ M') (addF P' M') (mulF P' M' fun i=>(f i).toNat) n N' (natT V) (fun j=>(u j).toNat)))
theorem yaL (P M:Int) (A:Option Addr) (k c:Nat) (f:Nat->Int) (N:Int) (T:Option Addr) (n d:Nat) (ln:Nat->Nat) (V:Nat->Nat->Int) (U:Option Addr) (l uc:Nat) (u:Nat->Int) (w:World) (hr:IntsR w w.heap.size A k f) (h:IntRows w T n ln V) (hu:IntsR w w.heap.size U l u) (huc:l<=uc) :
  Calls Tryz.prog 39 #[.agg #[.int .i64 P,.int .i64 M,.slice A k c,.int .i64 N,.slice T n d],.slice U l uc] w (CHasPost P M k f N n ln V l u w):=by
 have HI:=hid hr
 have HT:=hid h
 have HU:=hid hu
 clear hr h hu
 have rf:=zai (w:=w) (a:=.int .i64 P) (b:=.int .i64 M) (c:=.slice A k c) (d:=.int .i64 N) (e:=.slice T n d) (T := 27)
 have hB:Below w.heap.size w (w.alloc (.cells #[.int .i64 P,.int .i64 M,.slice A k c,.int .i64 N,.slice T n d] 27)):=(Below.refl _ _).alloc (Nat.le_refl _) _
 obtain ⟨w1,hw1⟩:∃ W,W=w.alloc (.cells #[.int .i64 P,.int .i64 M,.slice A k c,.int .i64 N,.slice T n d] 27):=⟨_,rfl⟩
 rw [<-hw1] at hB rf
 go_enter Tryz.func39, Tryz.ntmps39
 go_upto_region 1 with fail
 rw [<-hw1];clear hw1
 obtain ⟨b0,hb0⟩:∃ b,b=w.heap.size:=⟨_,rfl⟩
 rw [<-hb0] at rf;rw [<-hb0];clear hb0
 have HBOX:Hid (∀ X,Below w1.heap.size w1 X->(X.cell? ⟨b0,0,none⟩=some (.int .i64 P)/\X.cell? ⟨b0,1,none⟩=some (.int .i64 M)/\X.cell? ⟨b0,2,none⟩=some (.slice A k c)/\X.cell? ⟨b0,3,none⟩=some (.int .i64 N)/\X.cell? ⟨b0,4,none⟩=some (.slice T n d))):=hid fun X hx =>
  ⟨(zab rf hx).cell (i:=0) (by omega),(zab rf hx).cell (i:=1) (by omega),(zab rf hx).cell (i:=2) (by omega),(zab rf hx).cell (i:=3) (by omega),(zab rf hx).cell (i:=4) (by omega)⟩
 have HB:=hid hB
 clear hB rf
 obtain ⟨q0,q1,q2,q3,q4⟩:=HBOX.out _ (Below.refl _ _)
 go_wp2_with fail
 refine (yaB P M A k c f N T n d ln V U l uc u w1 (HI.out.on HB.out) (HT.out.on HB.out) (HU.out.on HB.out)).mono ?_
 rintro e w2 ⟨kb,v,rfl,hv⟩
 have HV:=hid hv
 have KB:=hid kb
 clear kb hv q0 q1 q2 q3 q4
 by_cases hv0:v=0
 rotate_left
 ·have hub:(v != 0)=true:=by simpa using hv0
  have HV0:=hid hv0
  clear hv0
  go_wp2
  go_ret2
  exact ⟨onS HB.out KB.out,false,v,rfl,HV.out,fun h=>absurd h HV0.out⟩
 subst hv0
 have hub:((0:Int) != 0)=false:=by simp
 obtain ⟨x,hx,⟨h0,h1⟩ | ⟨rfl,P',M',N',rfl,rfl,rfl,hW⟩⟩:=HV.out
 ·exact absurd h1.symm h0
 obtain ⟨hlN,hAI⟩:l=N'/\AllIn (P' ^ M') l u:=by
  rcases hW with ⟨_,h9⟩ | ⟨h1,⟨_,h9⟩ | ⟨h2,_⟩⟩
  ·cases h9
  ·cases h9
  ·exact ⟨h1,h2⟩
 subst hlN
 have HX:=hid hx
 have HAI:=hid hAI
 clear hx hW hAI
 go_upto_region 4 with fail
 refine wp_region_held_drew (S:=fun X=>(X.cell? ⟨b0,0,none⟩=some (.int .i64 (P':Int))/\X.cell? ⟨b0,1,none⟩=some (.int .i64 (M':Int))/\X.cell? ⟨b0,2,none⟩=some (.slice A k c)/\X.cell? ⟨b0,3,none⟩=some (.int .i64 (l:Int))/\X.cell? ⟨b0,4,none⟩=some (.slice T n d))) (by kernel_rfl) (HBOX.out _ (onS KB.out (Below.refl _ _).drew)) (fun hHeld=>?_)
 obtain ⟨w4,hw⟩:∃ W,W=World.drew w2:=⟨_,rfl⟩
 have kb:Below w2.heap.size w2 w4:=by rw [hw]; exact (Below.refl _ _).drew
 rw [<-hw] at hHeld ⊢;clear hw
 have K3:=hid kb
 clear kb
 refine tkq 0 (h:=tkq 1 (h:=tkq 2 (h:=tkq 4 (h:=?_))))
 clear hHeld
 refine rdq 3 (h:=fun K hK=>?_)
 go_simp
 go_wp2_with fail
 refine (zis (P':Int) (M':Int) (l:Int) A T k c n d w4).mono ?_
 rintro e w5 ⟨rfl,kb⟩
 replace K3:=hid (onS K3.out kb);clear kb
 refine bkq hK (HBOX.out _ (onS KB.out K3.out)) (h:=fun hHeld=>?_)
 clear hK K hHeld
 refine rdq 5 (h:=fun K hK=>?_)
 go_simp
 go_wp2_with fail
 refine (yaC P' M' A k c f l T n d ln V U uc u w5 (HI.out.on (onS HB.out (onS KB.out K3.out))) (HT.out.on (onS HB.out (onS KB.out K3.out))) (HU.out.on (onS HB.out (onS KB.out K3.out))) HAI.out HX.out huc).mono ?_
 rintro e w6 ⟨b,rfl,hb,kb⟩
 replace K3:=hid (onS K3.out kb)
 have HBB:=hid hb
 clear kb hb
 refine bkq hK (HBOX.out _ (onS KB.out K3.out)) (h:=fun hHeld=>?_)
 clear hK K
 refine tkq 6 (h:=tkq 7 (h:=tkq 8 (h:=tkq 9 (h:=?_))))
 clear hHeld
 refine wpAnyH_done (by kernel_rfl) ?_ _
 go_wp2
 go_ret2
 exact ⟨onS HB.out (onS KB.out K3.out),b,0,rfl,HV.out,fun _=>⟨P',M',l,rfl,rfl,rfl,HBB.out⟩⟩
theorem yaf (f l t v:Int) (w:World):Calls Tryz.prog 164 #[.agg #[.int .i64 f,.int .i64 l,.int .i64 t],.int .i64 v] w fun e w'=>e=.returned (.int .i64 (cmpI f v))/\Below w.heap.size w w':=by
 have hB0:Below w.heap.size w (w.alloc (Obj.cells #[.int .i64 f,.int .i64 l,.int .i64 t] 90)):=(Below.refl _ _).alloc (Nat.le_refl _) _
 go_enter Tryz.func164, Tryz.ntmps164
 go_wp2_with fail
 refine (zhZ f v _).mono ?_
 rintro e w1 ⟨rfl,hb⟩
 have hB:=onS hB0 hb
 clear hb hB0
 obtain ⟨x,hx⟩:∃ x,x=cmpI f v:=⟨_,rfl⟩
 rw [<-hx]
 have HX:=hid hx
 clear hx
 go_wp2
 go_ret
 exact ⟨zas HX.out,hB⟩
theorem yaM {a b:Int}:cmpI a b<0↔a<b:=by
 unfold cmpI
 split <;> (try split) <;> omega
def LoOf (f:Nat->Int) (m:Nat) (v:Int) (e:Ending):Prop :=
 ∃ (lo:Nat) (fd:Bool),e=.returned (.tuple #[.int .i64 (lo:Nat),.bool fd])/\lo<=m/\(∀ j,j<lo->f j<v)/\∀ j,lo<=j->j<m->v<=f j
theorem yaR (T:Trel) (i:Nat) (E:Option Addr) (m c:Nat) (v:Int) (w:World) (h:Rd w w.heap.size E m 3 (T.edge i)) (hm:m<=1048576) (hs:∀ a b,a<=b->b<m->T.fr i a<=T.fr i b) :
  Calls Tryz.prog 163 #[.slice E m c,.int .i64 v,.func (.func 164) #[] #[]] w fun e w'=>LoOf (T.fr i) m v e/\Below w.heap.size w w':=by
 have hcf:∀ (x y:Value) (W:World),(callFunc 164 #[x,y]).run Tryz.prog W=.ok (.enter 164 #[x,y]) W:=fun _ _ _=>by kernel_rfl
 have HSO:=hid hs
 clear hs
 go_enter Tryz.func163, Tryz.ntmps163
 go_wp2
 go_loopg [9,10] m (fun g av bv wx=>∃ a b:Nat,av=.int .i64 (a:Nat)/\bv=.int .i64 (b:Nat)/\a<=b/\b<=m/\b - a<=g/\Hid (∀ j,j<a->T.fr i j<v)/\Hid (∀ j,b<=j->j<m->v<=T.fr i j)/\Below w.heap.size w wx)
 case atStart=>exact ⟨0,m,rfl,rfl,by omega,by omega,by omega,fun j hj=>absurd hj (by omega),fun j h1 h2=>absurd h1 (by omega),Below.refl _ _⟩
 case round =>
  obtain ⟨a,b,rfl,rfl,hab,hbm,hg,HA,HB,hB⟩:=hrel
  by_cases hlt:a<b
  ·have hlt':(a:Int)<(b:Int):=by omega
   have hw0:(0:Int)<=(a:Int)+(b:Int):=by omega
   obtain ⟨x,hx⟩:∃ x,x=(a+b) / 2:=⟨_,rfl⟩
   have hxe:((a:Int)+(b:Int)) / 2=(x:Int):=by omega
   have hxm:x<m:=by omega
   have hxm':(x:Int)<(m:Int):=by omega
   have hx0:(0:Int)<=(x:Int):=by omega
   have hxa:a<=x:=by omega
   have hxb:x<b:=by omega
   obtain ⟨eb,eo,rfl,heb,e0,e1,e2⟩:=zc1 ((Rd.below h hB (Nat.le_refl _)).mono hB.size) hxm
   obtain ⟨fv,hfv⟩:∃ z,z=T.fr i x:=⟨_,rfl⟩
   obtain ⟨lv,hlv⟩:∃ z,z=T.lb i x:=⟨_,rfl⟩
   obtain ⟨tv,htv⟩:∃ z,z=T.to i x:=⟨_,rfl⟩
   rw [<-hfv] at e0;rw [<-hlv] at e1;rw [<-htv] at e2
   have HFV:=hid hfv
   clear hx hlv htv hfv
   go_wp2_with fail
   refine (yaf fv lv tv v wr).mono ?_
   rintro e w1 ⟨rfl,hb⟩
   have hB1:=hid (onS hB hb)
   clear hb hB e0 e1 e2
   obtain ⟨cv,hcv⟩:∃ z,z=cmpI fv v:=⟨_,rfl⟩
   have hcn:Hid (cv<0↔fv<v):=by show _↔_; rw [hcv]; exact yaM
   rw [<-hcv];clear hcv
   by_cases hc0:cv<0
   ·have HN:Hid (∀ j,j<x+1->T.fr i j<v):=fun j hj=>by
     have h1:=HSO.out j x (by omega) hxm
     have h2:=hcn.out.1 hc0
     have:=HFV.out
     omega
    go_wp2
    go_roundg (gk - 1)
    case measure=>omega
    case rel=>exact ⟨x+1,b,by go_num,rfl,by omega,hbm,by omega,HN,HB,hB1.out⟩
   ·have HN:Hid (∀ j,x<=j->j<m->v<=T.fr i j):=fun j h1 h2=>by
     have h3:=HSO.out x j h1 h2
     have h4:¬ fv<v:=fun h=>hc0 (hcn.out.2 h)
     have:=HFV.out
     omega
    go_wp2
    go_roundg (gk - 1)
    case measure=>omega
    case rel=>exact ⟨a,x,rfl,rfl,by omega,by omega,by omega,HA,HN,hB1.out⟩
  ·obtain rfl:a=b:=by omega
   have hfin:Hid (∀ (fd:Bool) (e:Ending),e=.returned (.tuple #[.int .i64 (a:Nat),.bool fd])->LoOf (T.fr i) m v e):=fun fd e he=>⟨a,fd,he,hbm,HA.out,HB.out⟩
   by_cases hlm:a<m
   ·have hlm':(a:Int)<(m:Int):=by omega
    have ha0:(0:Int)<=(a:Int):=by omega
    obtain ⟨eb,eo,rfl,heb,e0,e1,e2⟩:=zc1 ((Rd.below h hB (Nat.le_refl _)).mono hB.size) hlm
    obtain ⟨fv,hfv⟩:∃ z,z=T.fr i a:=⟨_,rfl⟩
    obtain ⟨lv,hlv⟩:∃ z,z=T.lb i a:=⟨_,rfl⟩
    obtain ⟨tv,htv⟩:∃ z,z=T.to i a:=⟨_,rfl⟩
    rw [<-hfv] at e0;rw [<-hlv] at e1;rw [<-htv] at e2;clear hlv htv hfv
    go_wp2_with fail
    refine (yaf fv lv tv v wr).mono ?_
    rintro e w1 ⟨rfl,hb⟩
    have hB1:=hid (onS hB hb)
    clear hb hB e0 e1 e2
    obtain ⟨cv,hcv⟩:∃ z,z=cmpI fv v:=⟨_,rfl⟩
    rw [<-hcv];clear hcv
    go_wp2
    go_ret2
    exact ⟨hfin.out _ _ rfl,hB1.out⟩
   ·go_wp2
    go_ret2
    exact ⟨hfin.out _ _ rfl,hB⟩
def TFromPost (f:Nat->Int) (E:Option Addr) (m c:Nat) (v:Int) (w:World) (e:Ending) (w':World):Prop :=
 ∃ b o lo hi,E=some ⟨b,o,none⟩/\lo<hi/\hi<=m/\(∀ j,j<m->(f j=v↔lo<=j/\j<hi))/\e=.returned (.slice (some ⟨b,o+lo*3,none⟩) (hi - lo) (c - lo))/\Below w.heap.size w w'
theorem yaD (T:Trel) (i:Nat) (E:Option Addr) (m c:Nat) (v:Int) (w:World) (h:Rd w w.heap.size E m 3 (T.edge i)) (hm:m<=1048576) (hmc:m<=c) (hc:c<=maxLen) (hs:∀ a b,a<=b->b<m->T.fr i a<=T.fr i b) (hex:∃ j,j<m/\T.fr i j=v) :
  Calls Tryz.prog 96 #[.slice E m c,.int .i64 v] w (TFromPost (T.fr i) E m c v w):=by
 unfold maxLen at hc
 go_enter Tryz.func96, Tryz.ntmps96
 go_wp2_with fail
 refine (yaR T i E m c v w h hm hs).mono ?_
 rintro e w1 ⟨⟨lo,fd,rfl,hlm,hlo,hhi⟩,hB⟩
 have hlt:lo<m:=by
  obtain ⟨j,hj,e⟩:=hex
  by_cases hl:lo<m
  ·exact hl
  ·have:=hlo j (by omega); omega
 have HFR:Hid (T.fr i lo=v):=by
  obtain ⟨j,hj,e⟩:=hex
  by_cases hl:lo<=j
  ·have h1:=hs lo j hl hj
   have h2:=hhi lo (Nat.le_refl _) hlt
   show T.fr i lo=v
   omega
  ·have:=hlo j (by omega); omega
 have HLO:=hid hlo
 have HHI:=hid hhi
 have HSO:=hid hs
 clear hlo hhi hs hex
 obtain ⟨b,o,rfl,hb,_⟩:=zc1 h hlt
 have HRd:=hid h
 clear h
 go_wp2
 go_loopg [7] m (fun g hv wx=>∃ hi:Nat,hv=.int .i64 (hi:Nat)/\lo<=hi/\hi<=m/\m<=hi+g/\Hid (∀ j,lo<=j->j<hi->T.fr i j=v)/\Below w.heap.size w wx)
 case atStart=>exact ⟨lo,rfl,by omega,by omega,by omega,fun j h1 h2=>absurd h1 (by omega),hB⟩
 case round =>
  clear hB
  obtain ⟨hi,rfl,hlh,hhm,hg,HI,hB⟩:=hrel
  have hh0:(0:Int)<=(hi:Int):=by omega
  by_cases hh:hi<m
  ·have hh' : (hi : Int) < (m : Int) := by omega
   obtain ⟨_,_,e3,_,e0,_,_⟩:=zc1 ((Rd.below HRd.out hB (Nat.le_refl _)).mono hB.size) hh
   injection e3 with e3
   injection e3 with e3 e4
   subst e3 e4
   obtain ⟨fv,hfv⟩:∃ z,z=T.fr i hi:=⟨_,rfl⟩
   rw [<-hfv] at e0
   have HFV:=hid hfv
   clear hfv
   by_cases he:fv=v
   ·have he1:(fv == v)=true:=by simp [he]
    have HN:Hid (∀ j,lo<=j->j<hi+1->T.fr i j=v):=fun j h1 h2=>by
     by_cases ej:j=hi
     ·subst ej; rw [<-HFV.out]; exact he
     ·exact HI.out j h1 (by omega)
    clear he
    go_wp2
    go_roundg (gk - 1)
    case measure=>omega
    case rel=>exact ⟨hi+1,by go_num,by omega,by omega,by omega,HN,hB⟩
   ·have he1:(fv == v)=false:=by simp [he]
    have hlh2:lo<hi:=by
     by_cases e:lo=hi
     ·exact absurd (by rw [HFV.out,<-e]; exact HFR.out) he
     ·omega
    have HF:Hid (∀ j,j<m->(T.fr i j=v↔lo<=j/\j<hi)):=fun j hj=>by
     constructor
     ·intro e
      refine ⟨?_,?_⟩
      ·by_cases h1:lo<=j
       ·exact h1
       ·have:=HLO.out j (by omega); omega
      ·by_cases h1:j<hi
       ·exact h1
       ·have h2:=HSO.out hi j (by omega) hj
        have h3:=HSO.out lo hi (by omega) hh
        have h4:=HFR.out
        have h5:=HFV.out
        omega
     ·rintro ⟨h1,h2⟩; exact HI.out j h1 h2
    have hlc:¬ c=lo:=by omega
    have hcl:lo≠c:=by omega
    have hl1:(lo:Int)<=(hi:Int):=by omega
    have hl2:(hi:Int)<=(c:Int):=by omega
    have hl3:lo<=hi:=by omega
    have hl4:hi<=c:=by omega
    have hl5:(0:Int)<=(lo:Int):=by omega
    clear he
    go_wp2
    go_ret
    exact ⟨b,o,lo,hi,rfl,hlh2,hhm,HF.out,rfl,hB⟩
  ·have hh':¬ (hi:Int)<(m:Int):=by omega
   have HF:Hid (∀ j,j<m->(T.fr i j=v↔lo<=j/\j<hi)):=fun j hj=>by
    constructor
    ·intro e
     refine ⟨?_,by omega⟩
     by_cases h1:lo<=j
     ·exact h1
     ·have:=HLO.out j (by omega); omega
    ·rintro ⟨h1,h2⟩; exact HI.out j h1 h2
   have hlc:¬ c=lo:=by omega
   have hcl:lo≠c:=by omega
   have hl1:(lo:Int)<=(hi:Int):=by omega
   have hl2:(hi:Int)<=(c:Int):=by omega
   have hl3:lo<=hi:=by omega
   have hl4:hi<=c:=by omega
   have hl5:(0:Int)<=(lo:Int):=by omega
   have hlh2:lo<hi:=by omega
   go_wp2
   go_ret
   exact ⟨b,o,lo,hi,rfl,hlh2,hhm,HF.out,rfl,hB⟩
theorem yar (f l t a:Int) (p:Addr) (w:World) (hp:w.cell? p=some (.int .i64 a)):Calls Tryz.prog 98 #[.agg #[.int .i64 f,.int .i64 l,.int .i64 t],.pointer (some p)] w fun e w'=>e=.returned (.bool (l == a))/\Below w.heap.size w w':=by
 have hB0:Below w.heap.size w (w.alloc (Obj.cells #[.int .i64 f,.int .i64 l,.int .i64 t] 90)):=(Below.refl _ _).alloc (Nat.le_refl _) _
 have hl:=World.block_lt_of_cell? _ _ hp
 go_enter Tryz.func98, Tryz.ntmps98
 go_wp2
 go_ret
 exact ⟨rfl,hB0⟩
def IdxOf (g:Nat->Int) (m:Nat) (a:Int) (e:Ending):Prop :=
 (e=.returned (.int .i64 (-1))/\∀ j,j<m->g j≠a)∨∃ k:Nat,e=.returned (.int .i64 (k:Nat))/\k<m/\g k=a
theorem yah (E:Option Addr) (m c:Nat) (fr lb to_:Nat->Int) (a:Int) (p:Addr) (w:World) (h:Rd w w.heap.size E m 3 (fun j k=>if k=0 then .int .i64 (fr j) else if k=1 then .int .i64 (lb j) else .int .i64 (to_ j))) (hm:m<=1048576) (hp:w.cell? p=some (.int .i64 a)) :
  Calls Tryz.prog 97 #[.slice E m c,.func (.func 98) #[] #[.pointer (some p)]] w fun e w'=>IdxOf lb m a e/\Below w.heap.size w w':=by
 have hcf:∀ (x y:Value) (W:World),(callFunc 98 #[x,y]).run Tryz.prog W=.ok (.enter 98 #[x,y]) W:=fun _ _ _=>by kernel_rfl
 go_enter Tryz.func97, Tryz.ntmps97
 go_wp2
 go_loopg [8] m (fun g iv wx=>∃ k:Nat,iv=.int .i64 (k:Nat)/\k<=m/\m<=k+g/\Hid (∀ j,j<k->lb j≠a)/\Below w.heap.size w wx)
 case atStart=>exact ⟨0,rfl,by omega,by omega,fun j hj=>absurd hj (by omega),Below.refl _ _⟩
 case round =>
  obtain ⟨k,rfl,hk,hg,HA,hB⟩:=hrel
  have hk0:(0:Int)<=(k:Int):=by omega
  have hp1:=cellS hB hp
  by_cases hlt:k<m
  ·have hlt':(k:Int)<(m:Int):=by omega
   obtain ⟨eb,eo,rfl,heb,e0,e1,e2⟩:=Rd.at3 ((Rd.below h hB (Nat.le_refl _)).mono hB.size) hlt
   change wr.cell? ⟨eb,eo+k*3,none⟩=some (.int .i64 (fr k)) at e0
   change wr.cell? ⟨eb,eo+k*3+1,none⟩=some (.int .i64 (lb k)) at e1
   change wr.cell? ⟨eb,eo+k*3+2,none⟩=some (.int .i64 (to_ k)) at e2
   obtain ⟨fv,hfv⟩:∃ z,z=fr k:=⟨_,rfl⟩
   obtain ⟨lv,hlv⟩:∃ z,z=lb k:=⟨_,rfl⟩
   obtain ⟨tv,htv⟩:∃ z,z=to_ k:=⟨_,rfl⟩
   rw [<-hfv] at e0;rw [<-hlv] at e1;rw [<-htv] at e2
   have HL:=hid hlv
   clear hfv hlv htv
   go_wp2_with fail
   refine (yar fv lv tv a p wr hp1).mono ?_
   rintro e w1 ⟨rfl,hb⟩
   have hB1:=hid (onS hB hb)
   clear hb hB e0 e1 e2 hp1
   by_cases he:lv=a
   ·have he1:(lv == a)=true:=by simp [he]
    have hf:Hid (lb k=a):=by rw [<-HL.out]; exact he
    rw [he1];clear he he1
    go_wp2
    go_ret
    exact ⟨.inr ⟨k,rfl,hlt,hf.out⟩,hB1.out⟩
   ·have he1:(lv == a)=false:=by simp [he]
    have HN:Hid (∀ j,j<k+1->lb j≠a):=fun j hj=>by
     by_cases ej:j=k
     ·subst ej; rw [<-HL.out]; exact he
     ·exact HA.out j (by omega)
    rw [he1];clear he he1
    go_wp2
    go_roundg (gk - 1)
    case measure=>omega
    case rel=>exact ⟨k+1,by go_num,by omega,by omega,HN,hB1.out⟩
  ·have hlt':¬ (k:Int)<(m:Int):=by omega
   have hf:Hid (∀ j,j<m->lb j≠a):=fun j hj=>HA.out j (by omega)
   go_wp2
   go_ret
   exact ⟨.inl ⟨rfl,hf.out⟩,hB⟩
def Trel.nxt (T:Trel) (i:Nat) (v a:Int):Nat->Int
 | 0 => -1
 | j+1=>if T.fr i j=v/\T.lb i j=a then T.to i j else T.nxt i v a j
def Trel.st (T:Trel) (a:Nat->Int):Nat->Int
 | 0=>0
 | i+1=>T.nxt i (T.st a i) (a i) (T.el i)
def Trel.accB (T:Trel) (a:Nat->Int):Bool:=decide (∀ i,i<T.n->0<=T.st a (i+1))
theorem Trel.nxt_none {T:Trel} {i:Nat} {v a:Int}:∀ m,(∀ j,j<m->¬ (T.fr i j=v/\T.lb i j=a))->T.nxt i v a m = -1:=by
 intro m
 induction m with
 | zero=>exact fun _=>rfl
 | succ m ih =>
  intro h
  show (if _ then _ else _)=_
  rw [if_neg (h m (by omega))]
  exact ih fun j hj=>h j (by omega)
theorem Trel.sorted {T:Trel} {i:Nat} (h:T.secOk i):∀ a b,a<=b->b<T.el i->T.fr i a<=T.fr i b:=fun a b hab hb=>by
 by_cases e:a=b
 ·subst e; exact Int.le_refl _
 ·have:=Trel.ord h b a (by omega) hb
  omega
theorem Trel.nxt_some {T:Trel} {i:Nat} (h:T.secOk i) {v a:Int} {j:Nat} (h1:T.fr i j=v) (h2:T.lb i j=a):∀ m,j<m->m<=T.el i->T.nxt i v a m=T.to i j:=by
 intro m
 induction m with
 | zero=>intro hj; omega
 | succ m ih =>
  intro hj hm
  show (if _ then _ else _)=_
  by_cases e:j=m
  ·subst e; rw [if_pos ⟨h1,h2⟩]
  ·have:=Trel.ord h m j (by omega) (by omega)
   rw [if_neg (fun hh=>by omega)]
   exact ih (by omega) (by omega)
theorem Trel.st_neg {T:Trel} {a:Nat->Int} {i:Nat} (hi:i<T.n) (h:T.st a (i+1) = -1):T.accB a=false:=by
 unfold Trel.accB
 exact decide_eq_false fun hh=>by have:=hh i hi; omega
def AccPost (T:Trel) (m:Nat) (a:Nat->Int) (w:World) (e:Ending) (w':World):Prop :=
 Below w.heap.size w w'/\((T.properE≠0/\e=.returned (.tuple #[.bool false,.int .i64 T.properE]))∨(T.properE=0/\m≠T.n/\e=.returned (.tuple #[.bool false,.int .i64 4]))∨(T.properE=0/\m=T.n/\e=.returned (.tuple #[.bool (T.accB a),.int .i64 0])))
theorem yai (T:Trel) (A B V:Option Addr) (c d m vc:Nat) (a:Nat->Int) (w:World) (h:T.Reads w A B) (hv:IntsR w w.heap.size V m a) (hm:m<=140737488355328) :
  Calls Tryz.prog 38 #[.agg #[.slice A T.nw c,.slice B T.n d],.slice V m vc] w (AccPost T m a w):=by
 obtain ⟨RB,hRB⟩:∃ o,o=(Obj.cells #[.slice A T.nw c,.slice B T.n d] 53):=⟨_,rfl⟩
 have hB0:Below (w.heap.size+1) (w.alloc RB) (w.alloc RB):=Below.refl _ _
 have HS:Hid (∀ w',Below (w.heap.size+1) (w.alloc RB) w'->(w'.cell? ⟨w.heap.size,0,none⟩=some (.slice A T.nw c)/\w'.cell? ⟨w.heap.size,1,none⟩=some (.slice B T.n d))/\Below w.heap.size w w'):=fun w' hB=>by
  have hB':=zaO hB
  subst hRB
  exact ⟨⟨tbox hB rfl,tbox hB rfl⟩,hB'⟩
 obtain ⟨⟨p0,p1⟩,hW⟩:=HS.out _ hB0
 go_enter Tryz.func38, Tryz.ntmps38
 go_wp2_with fail
 rw [<-hRB]
 refine (zd1 T A B c d _ (h.on hW)).mono ?_
 rintro e w1 ⟨rfl,hb⟩
 have hB1:=zav hB0 hb
 clear hW p0 p1 hb hB0 hRB
 obtain ⟨⟨p0,p1⟩,hW⟩:=HS.out _ hB1
 by_cases hp:T.properE=0
 ·have HP:=hid (Trel.proper_of hp)
  have HP0:=hid hp
  have HR:=hid h
  have HV:=hid hv
  rw [hp];clear hp h hv
  have hn64:=HP.out.shape.n64
  by_cases hmn:m=T.n
  ·have hmn1:((m:Int) != (T.n:Int))=false:=by simp [hmn]
   have hmn2:m<=64:=by omega
   have HMN:=hid hmn
   clear hmn
   have HB1:=hid hB1
   clear hB1
   go_wp2
   go_loopg [7,25] m (fun g sv iv wx=>∃ k:Nat,iv=.int .i64 (k:Nat)/\k<=m/\m<=k+g/\sv=.int .i64 (T.st a k)/\Hid (∀ i,i<k->0<=T.st a (i+1))/\Hid (0<=T.st a k/\T.st a k<T.W k)/\Below (w.heap.size+1) (w.alloc RB) wx)
   case atStart=>exact ⟨0,rfl,by omega,by omega,rfl,fun i hi=>absurd hi (by omega),⟨by show (0:Int)<=0; omega,by show (0:Int)<T.W 0; have:=HP.out.w0; omega⟩,HB1.out⟩
   case round =>
    clear p0 p1 hW
    obtain ⟨k,rfl,hk,hkg,rfl,HA,HST,hB⟩:=hrel
    have hk0:(0:Int)<=(k:Int):=by omega
    obtain ⟨⟨p0,p1⟩,hW⟩:=HS.out _ hB
    have hwz:=zaS hB
    obtain ⟨s,hs⟩:∃ s,s=T.st a k:=⟨_,rfl⟩
    rw [<-hs] at HST ⊢
    have HSK:=hid hs
    clear hs
    by_cases hlt:k<m
    ·have hlt':(k:Int)<(m:Int):=by omega
     have hltn:k<T.n:=by have:=HMN.out; omega
     have hltn':(k:Int)<(T.n:Int):=by omega
     obtain ⟨eb,eo,E,ec,rfl,heb,x0,he1,he2,he3,he4⟩:=(HR.out.on hW).sec hltn
     have hel:=HP.out.shape.elb hltn
     obtain ⟨ab,ao,rfl,hab,y0⟩:=(HV.out.on hW).at hlt
     obtain ⟨ak,hak⟩:∃ x,x=a k:=⟨_,rfl⟩
     rw [<-hak] at y0
     have HAK:=hid hak
     have hsec:=HP.out.sec k hltn
     have hex:∃ j,j<T.el k/\T.fr k j=s:=by
      have h1:=hsec.2.1 s.toNat (by have:=HST.out; omega)
      obtain ⟨j,hj,e⟩:=zcM.1 h1
      exact ⟨j,hj,by have:=HST.out; omega⟩
     have HEX:=hid hex
     have HSEC:=hid hsec
     have HE3:=hid he3
     obtain ⟨el,hele⟩:∃ n,n=T.el k:=⟨_,rfl⟩
     rw [<-hele] at x0 he1 hel
     have HEL:=hid hele
     clear hak hex hsec he3 he4 hele
     go_wp2_with fail
     obtain ⟨OB,hOB⟩:∃ o,o=(Obj.cells #[Value.int .i64 ak] 3):=⟨_,rfl⟩
     rw [<-hOB]
     have kb:Below wr.heap.size wr (wr.alloc OB):=(Below.refl _ _).alloc (Nat.le_refl _) _
     have hc0:(wr.alloc OB).cell? ⟨wr.heap.size,0,none⟩=some (.int .i64 ak):=by subst hOB; exact tbox (Below.refl _ _) rfl
     obtain ⟨w2,hw2⟩:∃ W,W=wr.alloc OB:=⟨_,rfl⟩
     obtain ⟨pb,hpb⟩:∃ b,b=wr.heap.size:=⟨_,rfl⟩
     rw [<-hw2] at kb hc0 ⊢;rw [<-hpb] at hc0 ⊢
     have hR2:Rd w2 w2.heap.size E el 3 (T.edge k):=by rw [HEL.out]; exact (Rd.below HE3.out kb (Nat.le_refl _)).mono kb.size
     have hB2:=zav hB kb
     clear hpb hw2 hOB kb p0 p1 hW hB x0 y0 hab heb
     refine (yaD T k E el ec s w2 hR2 (by omega) he1 he2 (by rw [HEL.out]; exact Trel.sorted HSEC.out) (by rw [HEL.out]; exact HEX.out)).mono ?_
     rintro e w3 ⟨b,o,lo,hi,rfl,hlh,hhm,HF,rfl,kb⟩
     have hR3:=(Rd.below hR2 kb (Nat.le_refl _)).mono kb.size
     have hc3:=cellS kb hc0
     have hB3:=zav hB2 kb
     have HFF:=hid HF
     have hsub:Rd w3 w3.heap.size (some ⟨b,o+lo*3,none⟩) (hi - lo) 3 (fun j k'=>if k'=0 then .int .i64 (T.fr k (lo+j)) else if k'=1 then .int .i64 (T.lb k (lo+j)) else .int .i64 (T.to k (lo+j))):=fun j hj=>by
      obtain ⟨b9,o9,e9,hb9,hc9⟩:=hR3 (lo+j) (by omega)
      injection e9 with e9
      injection e9 with e8 e9
      subst e8 e9
      refine ⟨b,o+lo*3,rfl,hb9,fun q hq=>?_⟩
      have:=hc9 q hq
      rw [show o+(lo+j)*3+q=o+lo*3+j*3+q by rw [Nat.add_mul]; omega] at this
      exact this
     clear hR2 hc0 hB2 kb HF hR3
     go_wp2_with fail
     refine (yah (some ⟨b,o+lo*3,none⟩) (hi - lo) (ec - lo) (fun j=>T.fr k (lo+j)) (fun j=>T.lb k (lo+j)) (fun j=>T.to k (lo+j)) ak ⟨pb,0,none⟩ w3 hsub (by omega) hc3).mono ?_
     rintro e w4 ⟨hidx,kb⟩
     have hB4:=zav hB3 kb
     obtain ⟨_,hW4⟩:=HS.out _ hB4
     rcases hidx with ⟨rfl,hno⟩ | ⟨q,rfl,hq,hqa⟩
     ·have hstn:T.st a (k+1) = -1:=by
       show T.nxt k (T.st a k) (a k) (T.el k) = -1
       rw [<-HSK.out,<-HAK.out]
       refine Trel.nxt_none _ fun j hj hh=>?_
       have h1:=(HFF.out j (by rw [HEL.out]; exact hj)).1 hh.1
       have h2:T.lb k (lo+(j - lo))≠ak:=hno (j - lo) (by omega)
       rw [show lo+(j - lo)=j by omega] at h2
       exact h2 hh.2
      have hE:=hid (Trel.st_neg hltn hstn)
      clear hstn hsub hc3 hB3 kb hB4 hno
      go_wp2
      go_ret2
      exact ⟨hW4,.inr (.inr ⟨HP0.out,HMN.out,by rw [hE.out]; rfl⟩)⟩
     ·obtain ⟨b9,o9,e9,hb9,hc9⟩:=(Rd.below hsub kb (Nat.le_refl _)).mono kb.size q hq
      injection e9 with e9
      injection e9 with e8 e9
      subst e8 e9
      have x2:=hc9 2 (by omega)
      change w4.cell? ⟨b,o+lo*3+q*3+2,none⟩=some (.int .i64 (T.to k (lo+q))) at x2
      have hstq:T.st a (k+1)=T.to k (lo+q):=by
       show T.nxt k (T.st a k) (a k) (T.el k)=_
       rw [<-HSK.out,<-HAK.out]
       exact Trel.nxt_some HSEC.out ((HFF.out (lo+q) (by omega)).2 ⟨by omega,by omega⟩) hqa _ (by have:=HEL.out; omega) (Nat.le_refl _)
      obtain ⟨tv,htv⟩:∃ z,z=T.to k (lo+q):=⟨_,rfl⟩
      rw [<-htv] at x2
      obtain ⟨i1,i2,i3,i4⟩:=HP.out.shape.ins k hltn (lo+q) (by have:=HEL.out; omega)
      have HSTN:Hid (tv=T.st a (k+1)):=htv.trans hstq.symm
      have HN:Hid (∀ i,i<k+1->0<=T.st a (i+1)):=fun i hi=>by
       by_cases e:i=k
       ·subst e; rw [hstq]; exact i3
       ·exact HA.out i (by omega)
      have HN2:Hid (0<=T.st a (k+1)/\T.st a (k+1)<T.W (k+1)):=by rw [hstq]; exact ⟨i3,i4⟩
      have hq0:(0:Int)<=(q:Int):=by omega
      have hq0n:¬ (q:Int)<0:=by omega
      have hqh:(q:Int)<((hi - lo:Nat):Int):=by omega
      have HB4:=hid hB4
      clear htv hstq i1 i2 i3 i4 hsub hc3 hB3 kb hB4 hc9 hqa hW4
      go_wp2
      go_roundg (gk - 1)
      case measure=>omega
      case rel=>exact ⟨k+1,by go_num,by omega,by omega,by rw [HSTN.out],HN,HN2,HB4.out⟩
    ·have hlt':¬ (k:Int)<(m:Int):=by omega
     have hE:Hid (T.accB a=true):=by
      show _=_
      unfold Trel.accB
      exact decide_eq_true fun i hi=>HA.out i (by have:=HMN.out; omega)
     go_wp2
     go_ret2
     exact ⟨hW,.inr (.inr ⟨HP0.out,HMN.out,by rw [hE.out]; rfl⟩)⟩
  ·have hmn1:((m:Int) != (T.n:Int))=true:=by simp; omega
   have HMN:=hid hmn
   clear hmn
   go_wp2
   go_ret2
   exact ⟨hW,.inr (.inl ⟨HP0.out,HMN.out,rfl⟩)⟩
 ·have hne:(T.properE != 0)=true:=by simpa using hp
  have HP:=hid hp
  obtain ⟨x,hx⟩:∃ x,x=T.properE:=⟨_,rfl⟩
  have HX:=hid hx
  rw [<-hx] at hne ⊢;clear hp hx
  go_wp2
  go_ret2
  exact ⟨hW,.inl ⟨HP.out,by rw [<-HX.out]; rfl⟩⟩
def grp (g:Nat->Nat) (e u:Nat):List Nat:=(List.range u).flatMap fun a=>(List.range e).filter fun j=>g j=a
theorem yaS {g:Nat->Nat} {e u j:Nat}:j ∈ grp g e u↔j<e/\g j<u:=by
 unfold grp
 simp only [List.mem_flatMap,List.mem_range,List.mem_filter,decide_eq_true_eq]
 constructor
 ·rintro ⟨a,h1,h2,h3⟩; exact ⟨h2,by omega⟩
 ·rintro ⟨h1,h2⟩; exact ⟨g j,h2,h1,rfl⟩
theorem yad {g:Nat->Nat} {e u:Nat} {R:Nat->Nat->Prop} (h1:∀ a b,a<e->b<e->g a<g b->R a b) (h2:∀ a b,a<b->b<e->g a=g b->R a b):(grp g e u).Pairwise R:=by
 unfold grp
 rw [List.pairwise_flatMap]
 refine ⟨fun a _=>?_,?_⟩
 ·refine List.Pairwise.filter _ ?_ |>.imp_of_mem ?_ (R:=fun x y=>x<y)
  ·exact List.pairwise_lt_range
  ·intro x y hx hy hxy
   simp only [List.mem_filter,List.mem_range,decide_eq_true_eq] at hx hy
   exact h2 x y hxy hy.1 (by omega)
 ·refine List.pairwise_lt_range.imp ?_
  intro a b hab x hx y hy
  simp only [List.mem_filter,List.mem_range,decide_eq_true_eq] at hx hy
  exact h1 x y hx.1 hy.1 (by omega)
theorem yaN {g:Nat->Nat} {e u:Nat} (h:∀ j,j<e->g j<u):(grp g e u).Perm (List.range e):=by
 refine (List.perm_ext_iff_of_nodup ?_ List.nodup_range).2 fun j=>?_
 ·exact yad (fun a b _ _ h e=>by subst e; omega) (fun a b h _ _ e=>by omega)
 ·rw [yaS,List.mem_range]
  exact ⟨fun h=>h.1,fun hj=>⟨hj,h j hj⟩⟩
def firsts (l:List Nat):List Nat:=l.foldl (fun a v=>if v ∈ a then a else a ++ [v]) []
theorem yaj (l:List Nat) (v:Nat):firsts (l ++ [v])=if v ∈ firsts l then firsts l else firsts l ++ [v]:=by
 unfold firsts
 rw [List.foldl_append]
 rfl
theorem yak {l:List Nat} {v:Nat}:v ∈ firsts l↔v ∈ l:=by
 have key : ∀ m : List Nat, v ∈ firsts m.reverse ↔ v ∈ m.reverse := by
  intro m
  induction m with
  | nil=>exact Iff.rfl
  | cons a m ih =>
   rw [List.reverse_cons,yaj,List.mem_append,<-ih]
   by_cases h:a ∈ firsts m.reverse
   ·rw [if_pos h]
    constructor
    ·exact .inl
    ·rintro (h1 | h1)
     ·exact h1
     ·obtain rfl:v=a:=by simpa using h1
      exact h
   ·rw [if_neg h,List.mem_append]
 have:=key l.reverse
 rwa [List.reverse_reverse] at this
theorem yae {R:Nat->Nat->Prop} {f:Nat->Nat} {V:List Nat} (h:∀ A B j,V=A ++ j :: B->(∀ a,a ∈ A->f a≠f j)->∀ a,a ∈ A->R (f a) (f j)):(firsts (V.map f)).Pairwise R:=by
 have key:∀ (m B:List Nat),V=m.reverse ++ B->(firsts (m.reverse.map f)).Pairwise R:=by
  intro m
  induction m with
  | nil=>intro B _; exact List.Pairwise.nil
  | cons a m ih =>
   intro B hB
   rw [List.reverse_cons,List.append_assoc] at hB
   have h1:=ih _ hB
   rw [List.reverse_cons,List.map_append,List.map_singleton,yaj]
   by_cases hm:f a ∈ firsts (m.reverse.map f)
   ·rw [if_pos hm]; exact h1
   ·rw [if_neg hm,List.pairwise_append]
    refine ⟨h1,List.pairwise_singleton _ _,?_⟩
    intro x hx y hy
    obtain rfl:y=f a:=by simpa using hy
    rw [yak,List.mem_map] at hx hm
    obtain ⟨q,hq,rfl⟩:=hx
    exact h m.reverse B a hB (fun b hb e=>hm ⟨b,hb,e⟩) q hq
 have:=key V.reverse [] (by simp)
 rwa [List.reverse_reverse] at this
def Trel.vis (T:Trel) (i:Nat):List Nat:=grp (fun j=>T.nm i (T.fr i j).toNat) (T.el i) (T.W i).toNat
section
variable {T:Trel} (h:T.Proper)
include h
theorem Trel.Proper.vis_perm {i:Nat} (hi:i<T.n):(T.vis i).Perm (List.range (T.el i)):=yaN fun _ hj=>h.nm_lt (by omega) (h.frL hi hj).1
theorem Trel.Proper.code_mono {i:Nat} (hi:i<T.n) {a b:Nat} (ha:a<T.el i) (hb:b<T.el i) (e:T.nm i (T.fr i a).toNat<T.nm i (T.fr i b).toNat∨T.nm i (T.fr i a).toNat=T.nm i (T.fr i b).toNat/\a<b):T.code (T.nm i) i a<T.code (T.nm i) i b:=by
 have h1:=h.lbL hi ha
 have h2:=h.lbL hi hb
 unfold Trel.code
 rcases e with e | ⟨e,h3⟩
 ·omega
 ·have e2:=h.nm_inj (by omega) _ _ (h.frL hi ha).1 (h.frL hi hb).1 e
  have h5:=h.frL hi ha
  have h6:=h.frL hi hb
  have:=Trel.ord (h.sec i hi) b a h3 hb
  omega
theorem Trel.Proper.vis_code {i:Nat} (hi:i<T.n):(T.vis i).Pairwise fun a b=>T.code (T.nm i) i a<T.code (T.nm i) i b :=
 yad (fun _ _ ha hb e=>h.code_mono hi ha hb (.inl e)) (fun _ _ hab hb e=>h.code_mono hi (by omega) hb (.inr ⟨e,hab⟩))
theorem Trel.Proper.next_perm {i:Nat} (hi:i<T.n):(firsts ((T.vis i).map fun j=>(T.to i j).toNat)).Perm (List.range (T.W (i+1)).toNat) /\
  ∀ v,v<(T.W (i+1)).toNat->(firsts ((T.vis i).map fun j=>(T.to i j).toNat)).idxOf v=T.nm (i+1) v:=by
 have hpw:(firsts ((T.vis i).map fun j=>(T.to i j).toNat)).Pairwise fun a b=>T.kt (T.nm i) i (T.el i) a<T.kt (T.nm i) i (T.el i) b:=by
  refine yae (f:=fun j=>(T.to i j).toNat) ?_
  intro A B j hV hne a ha
  have hpw:=h.vis_code hi
  have hm:∀ x,x ∈ T.vis i->x<T.el i:=fun x hx=>by simpa using (h.vis_perm hi).mem_iff.1 hx
  rw [hV] at hpw hm
  have haj:=hm a (by simp [ha])
  have hjj:=hm j (by simp)
  have h1:T.kt (T.nm i) i (T.el i) (T.to i a).toNat<=T.code (T.nm i) i a:=Trel.kt_le haj
  have h2:T.code (T.nm i) i a<T.code (T.nm i) i j:=(List.pairwise_append.1 hpw).2.2 a ha j (by simp)
  obtain ⟨q,hq,e1,e2⟩:=h.kt_hit hi (h.toL hi hjj).1
  have hqV:q ∈ A ++ j :: B:=hV ▸ (h.vis_perm hi).mem_iff.2 (List.mem_range.2 hq)
  show T.kt (T.nm i) i (T.el i) (T.to i a).toNat<T.kt (T.nm i) i (T.el i) (T.to i j).toNat
  rw [e2]
  rcases List.mem_append.1 hqV with hqA | hqB
  ·exact absurd e1 (hne q hqA)
  ·rcases List.mem_cons.1 hqB with rfl | hqB
   ·omega
   ·have h3:=(List.pairwise_cons.1 (List.pairwise_append.1 hpw).2.1).1 q hqB
    omega
 have hp:(firsts ((T.vis i).map fun j=>(T.to i j).toNat)).Perm (List.range (T.W (i+1)).toNat):=by
  refine (List.perm_ext_iff_of_nodup (hpw.imp fun {a b} hab e=>by subst e; omega) List.nodup_range).2 fun v=>?_
  rw [yak,List.mem_map,List.mem_range]
  constructor
  ·rintro ⟨j,hj,rfl⟩
   exact (h.toL hi (by simpa using (h.vis_perm hi).mem_iff.1 hj)).1
  ·intro hv
   obtain ⟨j,hj,e⟩:=zcM.1 ((h.sec i hi).2.2 v hv)
   exact ⟨j,(h.vis_perm hi).mem_iff.2 (List.mem_range.2 hj),by omega⟩
 refine ⟨hp,fun v hv=>?_⟩
 have hm:=hp.mem_iff.2 (List.mem_range.2 hv)
 obtain ⟨N,hN⟩:∃ N,N=firsts ((T.vis i).map fun j=>(T.to i j).toNat):=⟨_,rfl⟩
 rw [<-hN] at hm hp hpw ⊢
 have hlt:=List.idxOf_lt_length_iff.2 hm
 have hg:N.getD (N.idxOf v) 0=v:=by
  rw [List.getD_eq_getElem?_getD,List.getElem?_eq_getElem hlt,List.getElem_idxOf]
  rfl
 have h1:=zer (k:=T.kt (T.nm i) i (T.el i)) hp (fun p q hpq hq=>by
  rw [List.getD_eq_getElem?_getD,List.getD_eq_getElem?_getD,List.getElem?_eq_getElem (by omega),List.getElem?_eq_getElem hq]
  exact List.pairwise_iff_getElem.1 hpw p q _ _ hpq) hlt
 rw [hg] at h1
 exact h1.symm
end
def Trel.PathW (T:Trel) (x:Nat->Nat):Prop:=∃ nd:Nat->Nat,nd 0=0/\∀ i,i<T.n->∃ j,j<T.el i/\T.fr i j=(nd i:Nat)/\T.lb i j=(x i:Nat)/\T.to i j=(nd (i+1):Nat)
section
variable {q n N:Nat} {add mul:Nat->Nat->Nat} {pv:Nat->Nat} {R:Nat->Nat->Nat} {T:Trel}
theorem MinT.edge (hM:MinT q add mul n N pv R T) {i:Nat} (hi:i<N) {c:Nat->Nat} (hc:∀ s,c s<q) :
  ∃ j,j<T.el i/\T.fr i j=((packB q (actA pv R N i) c n:Nat):Int)/\T.lb i j=((spE add mul R c n i:Nat):Int)/\T.to i j=((packB q (actA pv R N (i+1)) c n:Nat):Int):=by
 obtain ⟨j,hj,e⟩:=hM.out i hi c hc
 simp only [Trel.eD,secE,Prod.mk.injEq] at e
 exact ⟨j,hj,e⟩
theorem yal {D:Nat->Bool} {c:Nat->Nat} (h:∀ s,D s=false):∀ n,packB q D c n=0
 | 0=>rfl
 | n+1=>by
  show (if D n then packB q D c n*q+c n else packB q D c n)=0
  rw [h n]
  exact yal h n
theorem MinT.path_of (hM:MinT q add mul n N pv R T) {c:Nat->Nat} (hc:∀ s,c s<q) {x:Nat->Nat} (hx:∀ i,i<N->x i=spE add mul R c n i):T.PathW x:=by
 refine ⟨fun i=>packB q (actA pv R N i) c n,yal zes n,fun i hi=>?_⟩
 rw [hM.nN] at hi
 obtain ⟨j,hj,h1,h2,h3⟩:=hM.edge hi hc
 exact ⟨j,hj,h1,by rw [h2,hx i hi],h3⟩
theorem MinT.path_in (hL:FieldLaws q add mul) (h:SpanF q n N pv R) (hM:MinT q add mul n N pv R T) {x:Nat->Nat} (hx:T.PathW x):∃ c:Nat->Nat,(∀ s,c s<q)/\∀ i,i<N->x i=spE add mul R c n i:=by
 obtain ⟨nd,_,hp⟩:=hx
 rw [hM.nN] at hp
 have hq0:0<q:=by have:=hL.two; omega
 have hC:∀ i,∃ c:Nat->Nat,(∀ s,c s<q)/\(i<N->nd i=packB q (actA pv R N i) c n/\x i=spE add mul R c n i/\nd (i+1)=packB q (actA pv R N (i+1)) c n):=fun i=>by
  by_cases hi:i<N
  ·obtain ⟨j,hj,h1,h2,h3⟩:=hp i hi
   obtain ⟨c,k1,k2⟩:=hM.inn i hi j hj
   simp only [Trel.eD,secE,Prod.mk.injEq] at k2
   exact ⟨c,k1,fun _=>⟨by omega,by omega,by omega⟩⟩
  ·exact ⟨fun _=>0,fun _=>hq0,fun g=>absurd g hi⟩
 obtain ⟨C,hC⟩:=Classical.axiomOfChoice hC
 have step:∀ s,s<n->∀ d,pv s+d<N->((pv s+d:Nat):Int)<=lE (R s) N->C (pv s+d) s=C (pv s) s:=by
  intro s hs d
  induction d with
  | zero=>intro _ _; rfl
  | succ d ih =>
   intro h1 h2
   rw [<-ih (by omega) (by omega)]
   have k1:=(hC (pv s+d)).2 (by omega)
   have k2:=(hC (pv s+(d+1))).2 (by omega)
   have e:packB q (actA pv R N (pv s+d+1)) (C (pv s+(d+1))) n=packB q (actA pv R N (pv s+d+1)) (C (pv s+d)) n:=by
    rw [<-k1.2.2]; exact k2.1.symm
   exact zdx n (fun t _=>(hC _).1 t) (fun t _=>(hC _).1 t) e s hs ((zaQ _ s).2 ⟨by omega,by omega⟩)
 refine ⟨fun s=>C (pv s) s,fun s=>(hC _).1 s,fun i hi=>?_⟩
 rw [((hC i).2 hi).2.1]
 refine zgv n fun t ht=>?_
 by_cases g1:pv t<=i
 ·by_cases g2:(i:Int)<=lE (R t) N
  ·have:=step t ht (i - pv t) (by omega) (by omega)
   rw [show pv t+(i - pv t)=i by omega] at this
   rw [this]
  ·have:R t i=0:=zb7 (n:=N) hi (by omega)
   rw [this,hL.mulZero ((hC _).1 t),hL.mulZero ((hC _).1 t)]
 ·have:R t i=0:=h.low t ht i (by omega)
  rw [this,hL.mulZero ((hC _).1 t),hL.mulZero ((hC _).1 t)]
theorem MinT.path_iff (hL:FieldLaws q add mul) (h:SpanF q n N pv R) (hM:MinT q add mul n N pv R T) {x:Nat->Nat}:T.PathW x↔InSp q add mul n N R x:=by
 have hq0:0<q:=by have:=hL.two; omega
 constructor
 ·intro hx
  obtain ⟨c,h1,h2⟩:=hM.path_in hL h hx
  exact ⟨c,fun s _=>h1 s,h2⟩
 ·rintro ⟨c,h1,h2⟩
  refine hM.path_of (c:=fun s=>if s<n then c s else 0) (fun s=>?_) fun i hi=>?_
  ·show (if s<n then c s else 0)<q
   split
   ·exact h1 s (by assumption)
   ·exact hq0
  ·rw [h2 i hi]
   exact zgv n fun t ht=>by show mul (c t) _=mul (if t<n then c t else 0) _; rw [if_pos ht]
end
section
variable {q n N:Nat} {add mul:Nat->Nat->Nat} {pv:Nat->Nat} {R:Nat->Nat->Nat} {T:Trel}
theorem SpanF.ranks2 (hL:FieldLaws q add mul) {pv:Nat->Nat} {V R:Nat->Nat->Nat} (h:SpanF q n N pv R) (hV:∀ i,i<n->∀ j,j<N->V i j<q) (hS:SameSp q add mul N n n V R) (hd:∀ i j,i<j->j<n->lE (R i) N≠lE (R j) N)
  {i1 i a b:Nat} (hi1:i1<=N) (hi:i<=i1) (ha:RankIs q add mul n V 0 i1 a) (hb:RankIs q add mul n V i (N - i) b):a+b=cntB (fun s=>decide (pv s<i1) && decide ((i:Int)<=lE (R s) N)) n+n:=by
 obtain ⟨p1,W1,hE1,hR1⟩:=ha
 obtain ⟨p2,W2,hE2,hR2⟩:=hb
 have e1:SameSp q add mul i1 n a (fun s j=>R s (0+j)) W1:=fun x=>((hS.cut (lo:=0) (m:=i1) (by omega) x).symm.trans ((RowOps.sp hL (fun s hs j hj=>hV s hs (0+j) (by omega)) hR1).1 x)).trans (EchN.sp_top hL hE1 x)
 have e2:SameSp q add mul (N - i) n b (fun s j=>R s (i+j)) W2:=fun x=>((hS.cut (lo:=i) (m:=N - i) (by omega) x).symm.trans ((RowOps.sp hL (fun s hs j hj=>hV s hs (i+j) (by omega)) hR2).1 x)).trans (EchN.sp_top hL hE2 x)
 have k1:a=cntB (fun s=>decide (pv s<i1)) n:=by
  refine zgw hL (κ:=pv) (μ:=fun s=>s) (fun s hs j hj=>h.lt s hs (0+j) (by omega)) hE1.top e1 (fun s hs hD=>?_) (fun s t hs ht hD hne=>?_) (fun s hs hD j hj=>?_)
  ·have hD:=of_decide_eq_true hD
   refine ⟨hD,?_⟩
   show R s (0+pv s)≠0
   rw [Nat.zero_add,h.one s hs]
   omega
  ·have hD:=of_decide_eq_true hD
   rcases Nat.lt_or_ge t s with g | g
   ·exact .inr ⟨decide_eq_true (by have:=h.inc t s g hs; omega),g⟩
   ·refine .inl ?_
    show R t (0+pv s)=0
    rw [Nat.zero_add]
    exact h.low t ht _ (h.inc s t (by omega) ht)
  ·have hD:=of_decide_eq_false hD
   show R s (0+j)=0
   rw [Nat.zero_add]
   exact h.low s hs j (by omega)
 have k2:b=cntB (fun s=>decide ((i:Int)<=lE (R s) N)) n:=by
  have hin:=fun s=>ziJ (u:=R s) N
  refine zgw hL (κ:=fun s=>(lE (R s) N).toNat - i) (μ:=fun s=>N - (lE (R s) N).toNat) (fun s hs j hj=>h.lt s hs (i+j) (by omega)) hE2.top e2 (fun s hs hD=>?_) (fun s t hs ht hD hne=>?_) (fun s hs hD j hj=>?_)
  ·have hD:=of_decide_eq_true hD
   have h1:=hin s
   have h2:=zjm (u:=R s) N (lE (R s) N).toNat (by omega)
   refine ⟨by omega,?_⟩
   show R s (i+((lE (R s) N).toNat - i))≠0
   rw [show i+((lE (R s) N).toNat - i)=(lE (R s) N).toNat by omega]
   exact h2.2
  ·have hD:=of_decide_eq_true hD
   have h1:=hin s
   have h2:=hin t
   show R t (i+((lE (R s) N).toNat - i))=0∨_
   rw [show i+((lE (R s) N).toNat - i)=(lE (R s) N).toNat by omega]
   have hdd:lE (R s) N≠lE (R t) N:=by
    rcases Nat.lt_or_ge s t with g | g
    ·exact hd s t g ht
    ·exact (hd t s (by omega) hs).symm
   by_cases g:lE (R t) N<lE (R s) N
   ·exact .inl (zb7 (n:=N) (by omega) (by omega))
   ·exact .inr ⟨decide_eq_true (by omega),by omega⟩
  ·have hD:=of_decide_eq_false hD
   have h1:=hin s
   show R s (i+j)=0
   exact zb7 (n:=N) (by omega) (by omega)
 rw [k1,k2]
 exact zeV n fun s hs=>by
  have h1:=h.pos hs
  by_cases g:pv s<i1
  ·exact .inl (decide_eq_true g)
  ·exact .inr (decide_eq_true (by omega))
theorem SpanF.sects (hL:FieldLaws q add mul) {pv:Nat->Nat} {V R:Nat->Nat->Nat} (h:SpanF q n N pv R) (hV:∀ i,i<n->∀ j,j<N->V i j<q) (hS:SameSp q add mul N n n V R) (hd:∀ i j,i<j->j<n->lE (R i) N≠lE (R j) N)
  {i a b:Nat} (hi:i<N) (ha:RankIs q add mul n V 0 (i+1) a) (hb:RankIs q add mul n V i (N - i) b):a+b=cntB (actE pv R N i) n+n:=by
 have:=SpanF.ranks2 hL h hV hS hd (i1:=i+1) (i:=i) (by omega) (by omega) ha hb
 rw [this]
 congr 1
 refine zgt n fun s _=>?_
 unfold actE
 congr 1
 exact decide_eq_decide.2 (by omega)
end
end Go.Proofs.YtgekjfpapmlndaaGreat
namespace Go.Proofs
end Go.Proofs
namespace Go.Proofs.YtgekjfpapmlndaaGreat
set_option maxRecDepth 100000
set_option maxHeartbeats 32000000
open Go.RowKit
def Trel.re (T:Trel) (y:Nat->Nat->Int × Int × Int):Trel:=⟨T.nw,T.W,T.n,T.el,fun i j=>(y i j).1,fun i j=>(y i j).2.1,fun i j=>(y i j).2.2⟩
theorem IsRen.in64 {T:Trel} (hP:T.Proper) {y:Nat->Nat->Int × Int × Int} (h:IsRen T y) {i:Nat} (hi:i<T.n) {j:Nat} (hj:j<T.el i):InI64 (y i j).1/\InI64 (y i j).2.1/\InI64 (y i j).2.2:=by
 have hm:y i j ∈ (List.range (T.el i)).map (y i):=List.mem_map.2 ⟨j,List.mem_range.2 hj,rfl⟩
 obtain ⟨q,hq,e⟩:=List.mem_map.1 ((h i hi).1.mem_iff.1 hm)
 rw [List.mem_range] at hq;rw [<-e]
 have h1:=hP.nm_lt (by omega) (hP.frL hi hq).1
 have h2:=hP.nm_lt (i:=i+1) (by omega) (hP.toL hi hq).1
 have h3:=(hP.shape.wid (i:=i) (by omega)).2
 have h4:=(hP.shape.wid (i:=i+1) (by omega)).2
 have h5:=hP.lbL hi hq
 refine ⟨⟨?_,?_⟩,⟨?_,?_⟩,⟨?_,?_⟩⟩
 ·show (-9223372036854775808:Int)<=(T.nm i (T.fr i q).toNat:Nat); omega
 ·show ((T.nm i (T.fr i q).toNat:Nat):Int)<=9223372036854775807; omega
 ·show (-9223372036854775808:Int)<=T.lb i q; omega
 ·show T.lb i q<=(9223372036854775807:Int); omega
 ·show (-9223372036854775808:Int)<=(T.nm (i+1) (T.to i q).toNat:Nat); omega
 ·show ((T.nm (i+1) (T.to i q).toNat:Nat):Int)<=9223372036854775807; omega
theorem IsRen.reads {T:Trel} (hP:T.Proper) {y:Nat->Nat->Int × Int × Int} (h:IsRen T y) {w:World} {base:Nat} {v wv:Value} (hE:ETab w base v T.n T.el y) (hA:Own w base 3 1 wv T.nw (fun k _=>.int .i64 (T.W k))) :
  ∃ A B c d,wv=.slice A T.nw c/\v=.slice B T.n d/\(T.re y).Reads w A B/\T.nw<=c/\c<=maxLen/\T.n<=d/\d<=maxLen:=by
 have hnw:=hP.shape.nw
 have hn:=hP.shape.n64
 refine ETab.reads (T:=T.re y) hE hA (fun i hi=>?_) (fun i hi j hj=>h.in64 hP hi hj) (by show T.nw<=_; omega) (by show T.n<=_; omega) (fun i hi=>by have:=hP.shape.elb hi; show T.el i<=_; omega)
 have hi':i<T.nw:=hi
 have:=hP.shape.wid (i:=i) (by omega)
 refine ⟨?_,?_⟩
 ·show (-9223372036854775808:Int)<=T.W i; omega
 ·show T.W i<=(9223372036854775807:Int); omega
theorem RenOut.reads {T:Trel} (hP:T.Proper) {y:Nat->Nat->Int × Int × Int} (hy:IsRen T y) {w:World} {A B:Option Addr} {c d:Nat} (h:RenOut T y w A B c d):(T.re y).Reads w A B/\T.nw<=c/\c<=maxLen/\T.n<=d/\d<=maxLen:=by
 obtain ⟨A',B',c',d',e1,e2,hR,k1,k2,k3,k4⟩:=hy.reads hP h.1 h.2
 injection e1 with e1 _ e1'
 subst e1 e1'
 injection e2 with e2 _ e2'
 subst e2 e2'
 exact ⟨hR,k1,k2,k3,k4⟩
open Go.ChangeShapes Go.WideShapes Go.ChangeAt
section
variable {T:Trel} {y:Nat->Nat->Int × Int × Int}
theorem IsRen.from_old (h:IsRen T y) {i j:Nat} (hi:i<T.n) (hj:j<T.el i):∃ p,p<T.el i/\y i p=T.tri i j:=by
 have:=(h i hi).1.mem_iff.2 (List.mem_map.2 ⟨j,List.mem_range.2 hj,rfl⟩)
 obtain ⟨p,hp,e⟩:=List.mem_map.1 this
 exact ⟨p,List.mem_range.1 hp,e⟩
theorem IsRen.to_old (h:IsRen T y) {i p:Nat} (hi:i<T.n) (hp:p<T.el i):∃ j,j<T.el i/\y i p=T.tri i j:=by
 have:=(h i hi).1.mem_iff.1 (List.mem_map.2 ⟨p,List.mem_range.2 hp,rfl⟩)
 obtain ⟨j,hj,e⟩:=List.mem_map.1 this
 exact ⟨j,List.mem_range.1 hj,e.symm⟩
theorem Trel.Proper.nm_surj (hP:T.Proper) {i:Nat} (hi:i<=T.n) {t:Nat} (ht:t<(T.W i).toNat):∃ v,v<(T.W i).toNat/\T.nm i v=t:=by
 match i with
 | 0 =>
  rw [hP.w0] at ht ⊢
  have e1:(1:Int).toNat=1:=rfl
  rw [e1] at ht
  exact ⟨0,by rw [e1]; omega,by show 0=t; omega⟩
 | i+1 =>
  obtain ⟨h1,h2⟩:=hP.next_perm (i:=i) (by omega)
  have hl:=h1.length_eq
  rw [List.length_range] at hl
  have hm:(firsts ((T.vis i).map fun j=>(T.to i j).toNat))[t]'(by omega) ∈ List.range (T.W (i+1)).toNat:=h1.mem_iff.1 (List.getElem_mem _)
  have hv:=List.mem_range.1 hm
  refine ⟨_,hv,?_⟩
  rw [<-h2 _ hv]
  have hnd:(firsts ((T.vis i).map fun j=>(T.to i j).toNat)).Nodup:=h1.nodup_iff.2 List.nodup_range
  exact hnd.idxOf_getElem t (by omega)
theorem IsRen.proper (hP:T.Proper) (h:IsRen T y):(T.re y).Proper:=by
 have hs:=hP.shape
 have eW:∀ k,(T.re y).sumW k=T.sumW k:=fun k=>by
  induction k with
  | zero=>rfl
  | succ k ih=>show (T.re y).sumW k+T.W k=T.sumW k+T.W k; rw [ih]
 have eE:∀ k,(T.re y).sumE k=T.sumE k:=fun k=>by
  induction k with
  | zero=>rfl
  | succ k ih=>show (T.re y).sumE k+T.el k=T.sumE k+T.el k; rw [ih]
 have hold:∀ i,i<T.n->∀ p,p<T.el i->∃ j,j<T.el i/\(y i p).1=((T.nm i (T.fr i j).toNat:Nat):Int)/\(y i p).2.1=T.lb i j/\(y i p).2.2=((T.nm (i+1) (T.to i j).toNat:Nat):Int):=fun i hi p hp=>by
  obtain ⟨j,hj,e⟩:=h.to_old hi hp
  rw [e]
  exact ⟨j,hj,rfl,rfl,rfl⟩
 refine ⟨⟨hs.n64,hs.nw,hs.w1,(eW _).symm ▸ hs.sW,(eE _).symm ▸ hs.sE,fun i hi p hp=>?_⟩,hP.w0,hP.wn,fun i hi=>⟨fun p hp=>?_,fun v hv=>?_,fun v hv=>?_⟩⟩
 ·have hi:i<T.n:=hi
  have hp:p<T.el i:=hp
  obtain ⟨j,hj,e1,_,e3⟩:=hold i hi p hp
  have k1:=hP.nm_lt (i:=i) (by omega) (hP.frL hi hj).1
  have k2:=hP.nm_lt (i:=i+1) (by omega) (hP.toL hi hj).1
  show 0<=(y i p).1/\(y i p).1<T.W i/\0<=(y i p).2.2/\(y i p).2.2<T.W (i+1)
  omega
 ·have hi:i<T.n:=hi
  have hp:p<T.el i:=hp
  obtain ⟨j,hj,_,e2,_⟩:=hold i hi p hp
  have k:=(hP.sec i hi).1 j hj
  refine ⟨by show 0<=(y i p).2.1; rw [e2]; exact k.1,by show (y i p).2.1<256; rw [e2]; exact k.2.1,fun h0=>?_⟩
  exact (h i hi).2 (p - 1) p (by omega) hp
 ·have hi:i<T.n:=hi
  have hv:v<(T.W i).toNat:=hv
  obtain ⟨u,hu,e⟩:=hP.nm_surj (i:=i) (by omega) hv
  obtain ⟨j,hj,e2⟩:=zcM.1 ((hP.sec i hi).2.1 u hu)
  obtain ⟨p,hp,e3⟩:=h.from_old hi hj
  refine zcM.2 ⟨p,hp,?_⟩
  show (y i p).1=(v:Nat)
  rw [e3]
  show ((T.nm i (T.fr i j).toNat:Nat):Int)=_
  rw [e2,Int.toNat_natCast,e]
 ·have hi:i<T.n:=hi
  have hv:v<(T.W (i+1)).toNat:=hv
  obtain ⟨u,hu,e⟩:=hP.nm_surj (i:=i+1) (by omega) hv
  obtain ⟨j,hj,e2⟩:=zcM.1 ((hP.sec i hi).2.2 u hu)
  obtain ⟨p,hp,e3⟩:=h.from_old hi hj
  refine zcM.2 ⟨p,hp,?_⟩
  show (y i p).2.2=(v:Nat)
  rw [e3]
  show ((T.nm (i+1) (T.to i j).toNat:Nat):Int)=_
  rw [e2,Int.toNat_natCast,e]
theorem IsRen.path (hP:T.Proper) (h:IsRen T y) {x:Nat->Nat}:(T.re y).PathW x↔T.PathW x:=by
 constructor
 ·rintro ⟨nd,h0,hp⟩
  have hp:∀ i,i<T.n->∃ p,p<T.el i/\(y i p).1=(nd i:Nat)/\(y i p).2.1=(x i:Nat)/\(y i p).2.2=(nd (i+1):Nat):=hp
  have hq:∀ i,∃ j,i<T.n->j<T.el i/\T.nm i (T.fr i j).toNat=nd i/\T.lb i j=(x i:Nat)/\T.nm (i+1) (T.to i j).toNat=nd (i+1):=fun i=>by
   by_cases hi:i<T.n
   ·obtain ⟨p,h1,h2,h3,h4⟩:=hp i hi
    obtain ⟨j,hj,e⟩:=h.to_old hi h1
    rw [e] at h2 h3 h4
    have h2:((T.nm i (T.fr i j).toNat:Nat):Int)=(nd i:Nat):=h2
    have h3:T.lb i j=(x i:Nat):=h3
    have h4:((T.nm (i+1) (T.to i j).toNat:Nat):Int)=(nd (i+1):Nat):=h4
    exact ⟨j,fun _=>⟨hj,by omega,h3,by omega⟩⟩
   ·exact ⟨0,fun g=>absurd g hi⟩
  obtain ⟨q,hq⟩:=Classical.axiomOfChoice hq
  refine ⟨fun i=>match i with | 0=>0 | i+1=>(T.to i (q i)).toNat,rfl,fun i hi=>?_⟩
  obtain ⟨k1,k2,k3,k4⟩:=hq i hi
  refine ⟨q i,k1,?_,k3,by rw [(hP.toL hi k1).2]⟩
  match i with
  | 0 =>
   have:=hP.frL hi k1
   rw [hP.w0] at this
   have e1:(1:Int).toNat=1:=rfl
   show T.fr 0 (q 0)=((0:Nat):Int)
   omega
  | i+1 =>
   obtain ⟨m1,_,_,m4⟩:=hq i (by omega)
   have:=hP.nm_inj (i:=i+1) (by omega) _ _ (hP.frL hi k1).1 (hP.toL (by omega) m1).1 (by omega)
   have e2:=(hP.frL hi k1).2
   show T.fr (i+1) (q (i+1))=(((T.to i (q i)).toNat:Nat):Int)
   omega
 ·rintro ⟨nd,h0,hp⟩
  refine ⟨fun i=>T.nm i (nd i),rfl,fun i hi=>?_⟩
  have hi:i<T.n:=hi
  obtain ⟨j,hj,h1,h2,h3⟩:=hp i hi
  obtain ⟨p,hp2,e⟩:=h.from_old hi hj
  refine ⟨p,hp2,?_,?_,?_⟩
  ·show (y i p).1=_
   rw [e]
   show ((T.nm i (T.fr i j).toNat:Nat):Int)=_
   rw [h1,Int.toNat_natCast]
  ·show (y i p).2.1=_
   rw [e]
   exact h2
  ·show (y i p).2.2=_
   rw [e]
   show ((T.nm (i+1) (T.to i j).toNat:Nat):Int)=_
   rw [h3,Int.toNat_natCast]
end
def PricedP (M:Nat) (ln:Nat->Nat) (C:Nat->Nat->Int):Prop:=∀ i,i<M->∀ a,a<ln i->0<=C i a/\C i a<=2147483648
instance (M:Nat) (ln:Nat->Nat) (C:Nat->Nat->Int):Decidable (PricedP M ln C):=by unfold PricedP; exact inferInstance
def Trel.fitB (T:Trel) (ln:Nat->Nat):Prop:=∀ i,i<T.n->∀ j,j<T.el i->T.lb i j<(ln i:Nat)
instance (T:Trel) (ln:Nat->Nat):Decidable (T.fitB ln):=by unfold Trel.fitB; exact inferInstance
theorem yaO {q n N:Nat} {add mul:Nat->Nat->Nat} {pv:Nat->Nat} {V R:Nat->Nat->Nat} {T:Trel} {y:Nat->Nat->Int × Int × Int} (hL:FieldLaws q add mul) (hS:SpanF q n N pv R) (hM:MinT q add mul n N pv R T) (hP:T.Proper) (hy:IsRen T y) (hsp:SameSp q add mul N n n V R) (x:Nat->Nat):(T.re y).PathW x↔InSp q add mul n N V x :=
 (hy.path hP).trans ((hM.path_iff hL hS).trans (hsp x).symm)
theorem yaP {q n N:Nat} {add mul:Nat->Nat->Nat} {pv:Nat->Nat} {V R:Nat->Nat->Nat} {pr se:Nat->Nat} (hL:FieldLaws q add mul) (h:SpanF q n N pv R) (hV:∀ i,i<n->∀ j,j<N->V i j<q) (hS:SameSp q add mul N n n V R) (hd:∀ i j,i<j->j<n->lE (R i) N≠lE (R j) N)
  (hp:ProfIs q add mul n N V pr) (hs:SecsIs q add mul n N V se):SizeOk q N pr se↔SizeIn q n N pv R:=by
 have e1:powS q pr (N+1)=powS q (fun i=>cntB (actA pv R N i) n) (N+1):=zcO (N+1) fun i hi=>by
  obtain ⟨a,b,ha,hb,e⟩:=hp i hi
  have:=SpanF.prof hL h hV hS hd (i:=i) (by omega) ha hb
  omega
 have e2:powS q se N=powS q (fun i=>cntB (actE pv R N i) n) N:=zcO N fun i hi=>by
  obtain ⟨a,b,ha,hb,e⟩:=hs i hi
  have:=SpanF.sects hL h hV hS hd hi ha hb
  omega
 unfold SizeOk SizeIn
 rw [e1,e2]
end Go.Proofs.YtgekjfpapmlndaaGreat