/- Merged texts of a claim: MChk, MOpen, MCano, MKer, Spc, SpOpen, PCode, PDual, ExpN, Right, RecFirst, RecRed, RecFrom, Recover, RefRec, AppMany, RestPl, SpanPl, Rank47, RankPl, NumTab, SeesW, Trel. -/
import Derived.Test.YtgekjfpapmlndaaGreatTZ7
import Derived.SizedLaws
namespace Go.Proofs.YtgekjfpapmlndaaGreat
set_option maxRecDepth 100000
set_option maxHeartbeats 32000000
open KA KB KC KE KF
open Go.RowKit
theorem zea (P M g:Nat) (m:Nat->Nat) (T:Option Addr) (n d:Nat) (f:Nat->Int) (w:World) (hG:GF w w.heap.size g P M m) (h:IntsR w w.heap.size T n f) (hn:n<=1048576) :
  Calls Tryz.prog 259 #[.pointer (some ⟨g,0,none⟩),.slice T n d] w (ErrsPost [(AllIn (P ^ M) n f,2)] w):=by
 have HG:=hid hG
 have HR:=hid h
 clear hG h
 go_enter Tryz.func259, Tryz.ntmps259
 go_wp2
 go_loopg [9] n (fun gg iv wx=>∃ i:Nat,iv=.int .i64 (i:Nat)/\i<=n/\n<=i+gg/\Hid (∀ t,t<i->0<=f t/\f t<(P ^ M:Nat))/\Hid (Below w.heap.size w wx))
 case atStart=>exact ⟨0,rfl,by omega,by omega,fun t ht=>absurd ht (by omega),Below.refl _ _⟩
 obtain ⟨i,rfl,hi,q,HA,HB⟩:=hrel
 have r:(0:Int)<=(i:Int):=by omega
 by_cases hlt:i<n
 rotate_left
 ·have j:¬ (i:Int)<(n:Int):=by omega
  have a:i=n:=by omega
  have c:Hid (FirstErr [(AllIn (P ^ M) n f,2)] 0):=.inr ⟨fun t ht=>HA.out t (by omega),rfl⟩
  clear a
  go_wp2
  go_ret
  exact errsPost c.out HB.out
 have j:(i:Int)<(n:Int):=by omega
 obtain ⟨b,o,rfl,_,x0⟩:=(HR.out.on HB.out).at hlt
 obtain ⟨x,hx⟩:=exx (f i)
 rw [<-hx] at x0
 have HX:=hid hx
 clear hx
 have hG:=HG.out.at HB.out HB.out.size
 go_wp2_with fail
 refine (zfq x hG).mono ?_
 rintro e w2 ⟨rfl,kb⟩
 have k:=hid (onS HB.out kb)
 clear kb hG x0
 by_cases a:0<=x/\x<(P ^ M:Nat)
 ·have hd:isB (P ^ M) x=true:=by unfold isB; simpa using a
  have p:Hid (∀ t,t<i+1->0<=f t/\f t<(P ^ M:Nat)):=fun t ht=>by
   by_cases e:t=i
   ·rw [e,<-HX.out]; exact a
   ·exact HA.out t (by omega)
  rw [hd];clear a hd
  go_wp2
  go_roundg (gk - 1)
  case measure=>omega
  case rel=>exact ⟨i+1,by go_num,by omega,by omega,p,k⟩
 have hd:isB (P ^ M) x=false:=by unfold isB; simpa using a
 have l:Hid (FirstErr [(AllIn (P ^ M) n f,2)] 2):=.inl ⟨fun h=>a (by rw [HX.out]; exact h i hlt),rfl⟩
 rw [hd];clear a hd
 go_wp2
 go_ret
 exact errsPost l.out k.out
theorem zfF (P M g:Nat) (m:Nat->Nat) (cols:Int) (T:Option Addr) (n d:Nat) (ln:Nat->Nat) (V:Nat->Nat->Int) (w:World) (hG:GF w w.heap.size g P M m) (h:IntRows w T n ln V) :
  Calls Tryz.prog 238 #[.pointer (some ⟨g,0,none⟩),.agg #[.int .i64 cols,.slice T n d]] w (ErrsPost [(ShapeM cols n ln,3),(ElemsM (P ^ M) n ln V,2)] w):=by
 have HG:=hid hG
 have HR:=hid h
 clear hG h
 have hB:=aly w (.cells #[.int .i64 cols,.slice T n d] 106)
 have rm:=zat (w:=w) (a:=.int .i64 cols) (b:=.slice T n d) (T := 106)
 obtain ⟨w0,x⟩:=exx (w.alloc (.cells #[.int .i64 cols,.slice T n d] 106))
 rw [<-x] at hB rm
 go_enter Tryz.func238, Tryz.ntmps238
 go_upto_region 1 with fail
 rw [<-x];clear x
 have q0:=qc0 rm
 have q1:=qc1 rm
 have q:∀ {p:Prop},¬ p->∀ {c:Int} {l:List (Prop × Int)},FirstErr ((p,c) :: l) c:=fun h=>.inl ⟨h,rfl⟩
 by_cases h1:cols<0
 ·have hd:decide (cols<0)=true:=by simpa using h1
  have k:Hid (FirstErr [(ShapeM cols n ln,3),(ElemsM (P ^ M) n ln V,2)] 3):=q fun h=>by have:=h.1; omega
  go_wp2
  go_ret
  exact errsPost k.out hB
 have hd:decide (cols<0)=false:=by simpa using h1
 by_cases h2:256<cols
 ·have H:decide (256<cols)=true:=by simpa using h2
  have k:Hid (FirstErr [(ShapeM cols n ln,3),(ElemsM (P ^ M) n ln V,2)] 3):=q fun h=>by have:=h.2.1; omega
  go_wp2
  go_ret
  exact errsPost k.out hB
 have H:decide (256<cols)=false:=by simpa using h2
 by_cases h3:256<n
 ·have G:decide ((256:Int)<(n:Int))=true:=by simp; omega
  have F:decide (256<n)=true:=by simpa using h3
  have k:Hid (FirstErr [(ShapeM cols n ln,3),(ElemsM (P ^ M) n ln V,2)] 3):=q fun h=>by have:=h.2.2.1; omega
  go_wp2
  go_ret
  exact errsPost k.out hB
 have G:decide ((256:Int)<(n:Int))=false:=by simp; omega
 have F:decide (256<n)=false:=by simpa using h3
 obtain ⟨C,rfl⟩:∃ C:Nat,cols=C:=⟨cols.toNat,by omega⟩
 have hC:C<=256:=by omega
 have hn:n<=256:=by omega
 clear h1 h2 h3 q
 go_wp2
 clear q0 q1 hd H G F
 go_loopg [27] n (fun gg iv wx=>∃ i:Nat,iv=.int .i64 (i:Nat)/\i<=n/\n<=i+gg/\Hid (∀ t,t<i->(ln t:Int)=(C:Int))/\wx=w0)
 case atStart=>exact ⟨0,rfl,by omega,by omega,fun t ht=>absurd ht (by omega),rfl⟩
 obtain ⟨i,rfl,hi,U,HA,J⟩:=hrel
 subst J
 have W:(0:Int)<=(i:Int):=by omega
 have q0:=qc0 rm
 have q1:=qc1 rm
 by_cases hlt:i<n
 ·have z:(i:Int)<(n:Int):=by omega
  obtain ⟨b,o,RA,rc,rfl,hb,x0,_,_,_,_⟩:=(HR.out.on hB) i hlt
  by_cases hl:ln i=C
  ·have L:((ln i:Int) != (C:Int))=false:=by simp [hl]
   have Q:Hid (∀ t,t<i+1->(ln t:Int)=(C:Int)):=fun t ht=>by
    by_cases e:t=i
    ·rw [e,hl]
    ·exact HA.out t (by omega)
   clear hl
   go_wp2
   go_roundg (gk - 1)
   case measure=>omega
   case rel=>exact ⟨i+1,by go_num,by omega,by omega,Q,rfl⟩
  have L:((ln i:Int) != (C:Int))=true:=by simp; omega
  have k:Hid (FirstErr [(ShapeM (C:Int) n ln,3),(ElemsM (P ^ M) n ln V,2)] 3):=.inl ⟨fun h=>by have:=h.2.2.2 i hlt; omega,rfl⟩
  clear hl
  go_wp2
  go_ret
  exact errsPost k.out hB
 have z:¬ (i:Int)<(n:Int):=by omega
 have N:i=n:=by omega
 have q:Hid (ShapeM (C:Int) n ln):=⟨by omega,by omega,hn,fun t ht=>HA.out t (by omega)⟩
 have D:Hid (∀ {v:Int},FirstErr [(ElemsM (P ^ M) n ln V,2)] v->FirstErr [(ShapeM (C:Int) n ln,3),(ElemsM (P ^ M) n ln V,2)] v):=fun h=>.inr ⟨q.out,h⟩
 clear N HA
 go_wp2
 clear q0 q1
 go_loopg [40] n (fun g2 iv wx=>∃ i:Nat,iv=.int .i64 (i:Nat)/\i<=n/\n<=i+g2/\Hid (∀ t,t<i->AllIn (P ^ M) (ln t) (V t))/\Hid (Below w.heap.size w wx))
 case atStart=>exact ⟨0,rfl,by omega,by omega,fun t ht=>absurd ht (by omega),hB⟩
 obtain ⟨j,rfl,hj,R,HE,HB⟩:=hrel
 have S:(0:Int)<=(j:Int):=by omega
 by_cases hjt:j<n
 rotate_left
 ·have B:¬ (j:Int)<(n:Int):=by omega
  have hf:Hid (FirstErr [(ElemsM (P ^ M) n ln V,2)] 0):=.inr ⟨fun t ht=>HE.out t (by omega),rfl⟩
  go_wp2
  go_ret
  exact errsPost (D.out hf.out) HB.out
 have B:(j:Int)<(n:Int):=by omega
 obtain ⟨b,o,RA,rc,rfl,hb,x0,_,_,s,_⟩:=(HR.out.on HB.out) j hjt
 have u:=hid s
 have E:Hid (ln j<=1048576):=by show _<=_; have:=q.out.2.2.2 j hjt; omega
 have hG:=HG.out.at HB.out HB.out.size
 clear s
 go_wp2_with fail
 refine (zea P M g m RA (ln j) rc (V j) _ hG u.out E.out).mono ?_
 rintro e w2 ⟨v,rfl,hv,kb⟩
 have I:=hid (onS HB.out kb)
 clear kb hG x0 u E
 rcases hv with ⟨k,K⟩ | ⟨r,y⟩
 ·subst K
  have hf:Hid (FirstErr [(ElemsM (P ^ M) n ln V,2)] 2):=.inl ⟨fun h=>k (h j hjt),rfl⟩
  clear k
  go_wp2
  go_ret
  exact errsPost (D.out hf.out) I.out
 have y:v=0:=y
 subst y
 have O:Hid (∀ t,t<j+1->AllIn (P ^ M) (ln t) (V t)):=fun t ht=>by
  by_cases e:t=j
  ·rw [e]; exact r
  ·exact HE.out t (by omega)
 clear r
 go_wp2
 go_roundg (gk - 1)
 case measure=>omega
 case rel=>exact ⟨j+1,by go_num,by omega,by omega,O,I⟩
def MOpenPost (P M:Int) (k:Nat) (f:Nat->Int) (cols:Int) (n:Nat) (ln:Nat->Nat) (V:Nat->Nat->Int) (w:World) (e:Ending) (w':World):Prop :=
 Below w.heap.size w w'/\∃ v:Int,FirstErr [(GoodF P M k f,1),(ShapeM cols n ln,3),(ElemsM (P.toNat ^ M.toNat) n ln V,2)] v /\
  ((v≠0/\e=.returned (.tuple #[.pointer none,.int .i64 v])) ∨
   (v=0/\∃ g P' M':Nat,P=P'/\M=M'/\e=.returned (.tuple #[.pointer (some ⟨g,0,none⟩),.int .i64 0])/\GF w' w'.heap.size g P' M' (fun i=>(f i).toNat)))
theorem zgv (P M:Int) (A:Option Addr) (k c:Nat) (f:Nat->Int) (cols:Int) (T:Option Addr) (n d lb lc:Nat) (ln:Nat->Nat) (V:Nat->Nat->Int) (w:World) (hr:IntsR w w.heap.size A k f) (h:IntRows w T n ln V)
  (hl0:w.cell? ⟨lb,0,none⟩=some (.int .i64 cols)) (hl1:w.cell? ⟨lb,1,none⟩=some (.slice T n d)) :
  Calls Tryz.prog 204 #[.agg #[.int .i64 P,.int .i64 M,.slice A k c],.slice (some ⟨lb,0,none⟩) 1 lc] w (MOpenPost P M k f cols n ln V w):=by
 have HR:=hid hr
 have HT:=hid h
 have F:=hid hl0
 have E:=hid hl1
 have o:=World.block_lt_of_cell? w _ hl0
 have o:lb<w.heap.size:=o
 clear hr h hl0 hl1
 obtain ⟨w0,x,hB,rf⟩:=zaj w (.int .i64 P) (.int .i64 M) (.slice A k c) 24
 go_enter Tryz.func204, Tryz.ntmps204
 go_upto_region 1 with fail
 rw [<-x];clear x
 have q0:=qc0 rf
 have q1:=qc1 rf
 have q2:=qc2 rf
 go_wp2_with fail
 refine (zbK P M A k c f w0 (HR.out.on hB)).mono ?_
 rintro e w1 ⟨kb,hN⟩
 have HB:=hid (onS hB kb)
 clear hB kb rf q0 q1 q2
 rcases hN with ⟨z,rfl⟩ | ⟨l,g,P,M,rfl,rfl,rfl,_,hG⟩
 ·have hf:Hid (FirstErr [(GoodF P M k f,1),(ShapeM cols n ln,3),(ElemsM (P.toNat ^ M.toNat) n ln V,2)] 1):=.inl ⟨z,rfl⟩
  clear z
  go_wp2
  go_ret2
  exact ⟨HB.out,1,hf.out,.inl ⟨by omega,rfl⟩⟩
 have HG:=hid hG.gf
 have y:Hid (∀ {v:Int},FirstErr [(ShapeM cols n ln,3),(ElemsM (P ^ M) n ln V,2)] v->FirstErr [(GoodF (P:Int) (M:Int) k f,1),(ShapeM cols n ln,3),(ElemsM ((P:Int).toNat ^ (M:Int).toNat) n ln V,2)] v):=fun h=>.inr ⟨l,by rw [Int.toNat_natCast,Int.toNat_natCast]; exact h⟩
 clear hG l
 go_wp2
 go_loopg [20] 1 (fun gg iv wx=>∃ i:Nat,iv=.int .i64 (i:Nat)/\i<=1/\1<=i+gg/\Hid (i=1->FirstErr [(ShapeM cols n ln,3),(ElemsM (P ^ M) n ln V,2)] 0)/\Hid (Below w1.heap.size w1 wx)/\Hid (Below w.heap.size w wx))
 case atStart=>exact ⟨0,rfl,by omega,by omega,fun h=>absurd h (by omega),Below.refl _ _,HB⟩
 clear HB
 obtain ⟨i,rfl,hi,I,HE,r,HB⟩:=hrel
 by_cases hlt:i<1
 rotate_left
 ·obtain rfl:i=1:=by omega
  clear hlt hi
  go_wp2
  go_ret2
  exact ⟨HB.out,0,y.out (HE.out trivial),.inr ⟨rfl,g,P,M,rfl,rfl,rfl,HG.out.on r.out⟩⟩
 obtain rfl:i=0:=by omega
 clear hlt hi
 have x0:=(HB.out.cell (p:=⟨lb,0,none⟩) o).trans F.out
 have x1:=(HB.out.cell (p:=⟨lb,1,none⟩) o).trans E.out
 go_upto_region 7 with fail
 clear x0 x1
 have m:=aly wr (Obj.cells #[.int .i64 cols,.slice T n d] 106)
 have rm:=zat (w:=wr) (a:=.int .i64 cols) (b:=.slice T n d) (T := 106)
 obtain ⟨w2,u⟩:=exx (wr.alloc (Obj.cells #[.int .i64 cols,.slice T n d] 106))
 obtain ⟨mb,B⟩:=exx wr.heap.size
 rw [<-u] at m rm ⊢;rw [<-B] at rm ⊢
 have s:=hid (onS HB.out m)
 have j:=hid (onS r.out m)
 have z0:=qc0 rm
 have z1:=qc1 rm
 clear u B m rm HB r
 go_wp2_with fail
 refine (zfF P M g _ cols T n d ln V w2 (HG.out.on j.out) (HT.out.on s.out)).mono ?_
 rintro e w3 ⟨v,rfl,hv,kb⟩
 have C:=hid (onS s.out kb)
 have q:=hid (onS j.out kb)
 have HV:=hid hv
 clear kb z0 z1 hv s j
 by_cases hv0:v=0
 ·have G:Hid (True->FirstErr [(ShapeM cols n ln,3),(ElemsM (P ^ M) n ln V,2)] 0):=fun _=>by rw [<-hv0]; exact HV.out
  subst hv0
  go_wp2
  go_roundg (gk - 1)
  case measure=>omega
  case rel=>exact ⟨0+1,by go_num,by omega,by omega,fun _=>G.out trivial,q,C⟩
 have H:(v != 0)=true:=by simpa using hv0
 have D:=hid hv0
 clear hv0
 go_wp2
 go_ret2
 exact ⟨C.out,v,y.out HV.out,.inl ⟨D.out,rfl⟩⟩
theorem zcq {w w':World} {g:Nat} {T:TypeId} {f:Nat->Value} {a b:Value} (h:w.rowIs g T 2 f) (hw:w'=(w.setCell ⟨g,0,none⟩ a).setCell ⟨g,1,none⟩ b):w'.rowIs g T 2 (matCell a b)/\w.grownBy w' (some g):=by
 rw [hw]
 refine ⟨((h.set 0 _).set 1 _).congr fun j hj=>?_,zaR (zca _ _ _ _) _ _⟩
 match j,hj with
 | 0,_=>rfl
 | 1,_=>rfl
def MatErrs (P M:Int) (k:Nat) (f:Nat->Int) (cols:Int) (n:Nat) (ln:Nat->Nat) (V:Nat->Nat->Int):List (Prop × Int):=[(GoodF P M k f,1),(ShapeM cols n ln,3),(ElemsM (P.toNat ^ M.toNat) n ln V,2)]
def MCanonPost (P M : Int) (k : Nat) (f : Nat → Int) (cols : Int) (n : Nat) (ln : Nat → Nat) (V : Nat → Nat → Int) (w : World) (e : Ending) (w' : World) : Prop :=
 Below w.heap.size w w'/\∃ v:Int,FirstErr (MatErrs P M k f cols n ln V) v /\
  ((v≠0/\e=.returned (.tuple #[.agg #[.int .i64 0,.slice none 0 0],.slice none 0 0,.int .i64 v])) ∨
   (v=0/\∃ (P' M' C:Nat) (lv pv:Value) (a:Nat) (p:Nat->Nat) (W:Nat->Nat->Nat),P=P'/\M=M'/\cols=C/\e=.returned (.tuple #[.agg #[.int .i64 (C:Nat),lv],pv,.int .i64 0]) /\
    MTab w' w.heap.size lv a C W/\Own w' w.heap.size 3 1 pv a (fun j _=>.int .i64 (p j:Nat))/\EchN (P' ^ M') n C C a p W/\RowOps (P' ^ M') (addF P' M') (mulF P' M' fun i=>(f i).toNat) n C (natT V) W))
theorem zc7 (P M:Int) (A:Option Addr) (k c:Nat) (f:Nat->Int) (cols:Int) (T:Option Addr) (n d:Nat) (ln:Nat->Nat) (V:Nat->Nat->Int) (w:World) (hr:IntsR w w.heap.size A k f) (h:IntRows w T n ln V) (hc1:1<=cols) :
  Calls Tryz.prog 214 #[.agg #[.int .i64 P,.int .i64 M,.slice A k c],.agg #[.int .i64 cols,.slice T n d]] w (MCanonPost P M k f cols n ln V w):=by
 have HR:=hid hr
 have HT:=hid h
 clear hr h
 have rf:=zaq (w:=w) (a:=.int .i64 P) (b:=.int .i64 M) (c:=.slice A k c) (T := 24)
 have hB:=aly w (.cells #[.int .i64 P,.int .i64 M,.slice A k c] 24)
 have u:(w.alloc (.cells #[.int .i64 P,.int .i64 M,.slice A k c] 24)).heap.size=w.heap.size+1:=by simp
 obtain ⟨w0,z⟩:=exx (w.alloc (.cells #[.int .i64 P,.int .i64 M,.slice A k c] 24))
 have rm:=zat (w:=w0) (a:=.int .i64 cols) (b:=.slice T n d) (T := 106)
 have kb:=aly w0 (.cells #[.int .i64 cols,.slice T n d] 106)
 have j:(w0.alloc (.cells #[.int .i64 cols,.slice T n d] 106)).heap.size=w0.heap.size+1:=by simp
 obtain ⟨w1,y⟩:=exx (w0.alloc (.cells #[.int .i64 cols,.slice T n d] 106))
 have ro:=zat (w:=w1) (a:=.int .i64 0) (b:=.slice none 0 0) (T := 106)
 have m:=aly w1 (.cells #[.int .i64 0,.slice none 0 0] 106)
 obtain ⟨w2,x⟩:=exx (w1.alloc (.cells #[.int .i64 0,.slice none 0 0] 106))
 rw [<-z] at hB rf u;rw [<-y] at rm kb j;rw [<-x] at ro m;rw [j,u] at ro;rw [u] at rm;replace rf:=zab (zab rf kb) m;replace rm:=zab rm m;replace hB:=onS (onS hB kb) m
 go_enter Tryz.func214, Tryz.ntmps214
 go_upto_region 1 with fail
 rw [<-z,<-y,<-x];clear z y x kb m u j
 obtain ⟨b0,F⟩:=exx w.heap.size
 obtain ⟨b1,E⟩:=exx (w.heap.size+1)
 obtain ⟨b2,D⟩:=exx (w.heap.size+1+1)
 have S:w.heap.size<=b2:=by omega
 rw [<-F] at rf;rw [<-E] at rm;rw [<-D] at ro;rw [<-D,<-E,<-F];clear F E D
 have q0:=qc0 rf
 have q1:=qc1 rf
 have q2:=qc2 rf
 have p0:=qc0 rm
 have p1:=qc1 rm
 go_wp2_with fail
 have l:=aly w2 (Obj.cells #[.int .i64 cols,.slice T n d] 106)
 have rl:=zat (w:=w2) (a:=.int .i64 cols) (b:=.slice T n d) (T := 106)
 obtain ⟨w3,J⟩:=exx (w2.alloc (Obj.cells #[.int .i64 cols,.slice T n d] 106))
 rw [<-J] at l rl ⊢;replace hB:=onS hB l;replace rf:=zab rf l;replace rm:=zab rm l;replace ro:=zab ro l;clear J l q0 q1 q2 p0 p1
 refine (zgv P M A k c f cols T n d w2.heap.size 1 ln V w3 (HR.out.on hB) (HT.out.on hB) (rl.cell (i:=0) (by omega)) (rl.cell (i:=1) (by omega))).mono ?_
 rintro e w4 ⟨kb,v,hv,s⟩
 replace hB:=onS hB kb;replace rm:=zab rm kb;replace ro:=zab ro kb
 have HV:=hid hv
 clear kb rl rf hv
 rcases s with ⟨B,rfl⟩ | ⟨rfl,g,P,M,rfl,rfl,rfl,hG⟩
 ·have a3:(v != 0)=true:=by simpa using B
  have a0:=hid B
  clear B rm
  have r0:=ro.frozen 0
  have s0:=qc0 ro
  have r1:=ro.frozen 1
  have s1:=qc1 ro
  go_wp2
  clear r0 s0 r1 s1
  generalize hw9:World.setCell _ _ _=w5
  obtain ⟨row9,r⟩:=zcq ro hw9.symm
  clear hw9
  have H:=hB.grown r hB.size (fun q e=>by injection e with e; omega)
  have e0:=qc0 row9
  have e1:=qc1 row9
  refine bodyPost_ret (v:=.tuple #[.agg #[.int .i64 0,.slice none 0 0],.slice none 0 0,.int .i64 v]) (by simp [results,Tryz.results214, go_sem,e0,e1]) rfl ?_
  exact ⟨H,v,HV.out,.inl ⟨a0.out,rfl⟩⟩
 have O:=HV.out
 rcases O with ⟨_,h9⟩ | ⟨o,⟨_,h9⟩ | ⟨hs,⟨_,h9⟩ | ⟨he,_⟩⟩⟩
 ·cases h9
 ·cases h9
 ·cases h9
 obtain ⟨C,rfl⟩:∃ C:Nat,cols=C:=⟨cols.toNat,by omega⟩
 rw [Int.toNat_natCast,Int.toNat_natCast] at he
 obtain ⟨hm,K⟩:=zcp (HT.out.on hB) hs he
 have Z:0<C:=by omega
 have Y:C<=1048576:=by have:=hs.2.1; omega
 have Q:n<=1048576:=by have:=hs.2.2.1; omega
 have p0:=qc0 rm
 have p1:=qc1 rm
 clear hs he o
 go_wp2_with fail
 refine (zfE P M g _ T n d C C (natT V) w4 hG hm K (Nat.le_refl _) Z Y Q).mono ?_
 rintro e w5 ⟨lv,pv,a,p,W,rfl,G,hP,kb,hE,hR⟩
 have HB:=hid (onS hB kb)
 have I:=hB.size
 replace ro:=zab ro kb
 have HE:=hid hE
 have a1:=hid hR
 obtain ⟨LA,lc,R⟩:=G.shape
 subst R
 obtain ⟨PA,pc,N⟩:=hP.shape
 subst N
 replace rm:=zab rm kb
 have a2:=hid (G.mono I)
 have L:=hid (hP.mono I)
 clear kb G hP hE hR K hm hG p0 p1 hB I
 have p0:=qc0 rm
 have r0:=ro.frozen 0
 have s0:=qc0 ro
 have r1:=ro.frozen 1
 have s1:=qc1 ro
 go_wp2
 clear r0 s0 r1 s1 p0 rm
 generalize hw9:World.setCell _ _ _=w6
 obtain ⟨row9,r⟩:=zcq ro hw9.symm
 clear hw9
 have H:=HB.out.grown r HB.out.size (fun q e=>by injection e with e; omega)
 have X:=a2.out.kept r ro (by decide) (by decide)
 have U:=L.out.kept r (zaS ro L.out (by decide))
 have e0:=qc0 row9
 have e1:=qc1 row9
 refine bodyPost_ret (v:=.tuple #[.agg #[.int .i64 (C:Nat),.slice LA a lc],.slice PA a pc,.int .i64 0]) (by simp [results,Tryz.results214, go_sem,e0,e1]) rfl ?_
 exact ⟨H,0,HV.out,.inr ⟨rfl,P,M,C,_,_,a,p,W,rfl,rfl,rfl,rfl,X,U,HE.out,a1.out⟩⟩
theorem zc8 (A B:Option Addr) (n m c d:Nat) (f g:Nat->Int) (w:World) (ha:IntsR w w.heap.size A n f) (hb:IntsR w w.heap.size B m g) (hn:n<=1048576) (hm:m<=1048576) :
  Calls Tryz.prog 92 #[.slice A n c,.slice B m d] w (IffPost (EqI n m f g) w):=by
 have HA:=hid ha
 have HB:=hid hb
 clear ha hb
 by_cases hnm:n=m
 rotate_left
 ·have hd:((n:Int) != (m:Int))=true:=by simp; omega
  have j:Hid (¬ EqI n m f g):=fun h=>hnm h.1
  clear hnm
  go_enter Tryz.func92, Tryz.ntmps92
  go_wp2
  go_ret
  exact zap j.out (Below.refl _ _)
 subst hnm
 have hd:((n:Int) != (n:Int))=false:=by simp
 go_enter Tryz.func92, Tryz.ntmps92
 go_wp2
 go_loopg [13] n (fun gg iv wx=>∃ i:Nat,iv=.int .i64 (i:Nat)/\i<=n/\n<=i+gg/\Hid (∀ t,t<i->f t=g t)/\Hid (Below w.heap.size w wx))
 case atStart=>exact ⟨0,rfl,by omega,by omega,fun t ht=>absurd ht (by omega),Below.refl _ _⟩
 obtain ⟨i,rfl,hi,p,HE,HW⟩:=hrel
 have q:(0:Int)<=(i:Int):=by omega
 by_cases hlt:i<n
 rotate_left
 ·have a:¬ (i:Int)<(n:Int):=by omega
  have HY:Hid (EqI n n f g):=⟨rfl,fun t ht=>HE.out t (by omega)⟩
  go_wp2
  go_ret
  exact za4 HY.out HW.out
 have a:(i:Int)<(n:Int):=by omega
 obtain ⟨b,o,rfl,_,x0⟩:=(HA.out.on HW.out).at hlt
 obtain ⟨b2,o2,rfl,_,y0⟩:=(HB.out.on HW.out).at hlt
 obtain ⟨x,hx⟩:=exx (f i)
 obtain ⟨y,hy⟩:=exx (g i)
 rw [<-hx] at x0;rw [<-hy] at y0
 by_cases he:x=y
 ·have k:(x != y)=false:=by simpa using he
  have l:Hid (∀ t,t<i+1->f t=g t):=fun t ht=>by
   by_cases e:t=i
   ·rw [e,<-hx,<-hy,he]
   ·exact HE.out t (by omega)
  clear he hx hy
  go_wp2
  go_quiet (fail)
  go_wp2
  go_roundg (gk - 1)
  case measure=>omega
  case rel=>exact ⟨i+1,by go_num,by omega,by omega,l,zad HW.out _⟩
 have k:(x != y)=true:=by simpa using he
 have j:Hid (¬ EqI n n f g):=fun h=>he (by rw [hx,hy]; exact h.2 i hlt)
 clear he hx hy
 go_wp2
 go_quiet (fail)
 go_wp2
 go_ret
 exact zap j.out (zad HW.out _)
theorem zdB (A B:Option Addr) (n m c d:Nat) (ln ln':Nat->Nat) (V W:Nat->Nat->Int) (w:World) (ha:IntRows w A n ln V) (hb:IntRows w B m ln' W) (hn:n<=1048576) (hm:m<=1048576) (hl:∀ i,i<n->ln i<=1048576) (hl2:∀ i,i<m->ln' i<=1048576) :
  Calls Tryz.prog 215 #[.slice A n c,.slice B m d,.func (.func 92) #[] #[]] w (IffPost (EqT n m ln ln' V W) w):=by
 have v:∀ (x y:Value) (W:World),(callFunc 92 #[x,y]).run Tryz.prog W=.ok (.enter 92 #[x,y]) W:=fun _ _ _=>by kernel_rfl
 have HA:=hid ha
 have HB:=hid hb
 have HL:=hid hl
 have q:=hid hl2
 clear ha hb hl hl2
 by_cases hnm:n=m
 rotate_left
 ·have hd:((n:Int) != (m:Int))=true:=by simp; omega
  have k:Hid (¬ EqT n m ln ln' V W):=fun h=>hnm h.1
  clear hnm
  go_enter Tryz.func215, Tryz.ntmps215
  go_wp2
  go_ret
  exact zap k.out (Below.refl _ _)
 subst hnm
 have hd:((n:Int) != (n:Int))=false:=by simp
 go_enter Tryz.func215, Tryz.ntmps215
 go_wp2
 go_loopg [17] n (fun gg iv wx=>∃ i:Nat,iv=.int .i64 (i:Nat)/\i<=n/\n<=i+gg/\Hid (∀ t,t<i->EqI (ln t) (ln' t) (V t) (W t))/\Hid (Below w.heap.size w wx))
 case atStart=>exact ⟨0,rfl,by omega,by omega,fun t ht=>absurd ht (by omega),Below.refl _ _⟩
 obtain ⟨i,rfl,hi,s,HE,HW⟩:=hrel
 have u:(0:Int)<=(i:Int):=by omega
 by_cases hlt:i<n
 rotate_left
 ·have j:¬ (i:Int)<(n:Int):=by omega
  have HY:Hid (EqT n n ln ln' V W):=⟨rfl,fun t ht=>HE.out t (by omega)⟩
  go_wp2
  go_ret
  exact za4 HY.out HW.out
 have j:(i:Int)<(n:Int):=by omega
 obtain ⟨b,o,RA,rc,rfl,_,x0,_,_,g,_⟩:=(HA.out.on HW.out) i hlt
 obtain ⟨b2,o2,RB,rc2,rfl,_,y0,_,_,a,_⟩:=(HB.out.on HW.out) i hlt
 have H1:=hid g
 have H2:=hid a
 clear g a
 go_wp2_with fail
 refine (zc8 RA RB (ln i) (ln' i) rc rc2 (V i) (W i) wr H1.out H2.out (HL.out i hlt) (q.out i hlt)).mono ?_
 rintro e w2 ⟨b,rfl,hb,kb⟩
 have p:=hid (onS HW.out kb)
 have l:=hid hb
 clear kb hb x0 y0 H1 H2 HW
 cases b
 ·have k:Hid (¬ EqT n n ln ln' V W):=fun h=>by have:=l.out.2 (h.2 i hlt); cases this
  go_wp2
  go_ret
  exact zap k.out p.out
 have r:Hid (∀ t,t<i+1->EqI (ln t) (ln' t) (V t) (W t)):=fun t ht=>by
  by_cases e:t=i
  ·rw [e]; exact l.out.1 rfl
  ·exact HE.out t (by omega)
 go_wp2
 go_roundg (gk - 1)
 case measure=>omega
 case rel=>exact ⟨i+1,by go_num,by omega,by omega,r,p⟩
def viewCell (a b c d:Value) (i:Nat):Value:=if i=0 then a else if i=1 then b else if i=2 then c else d
theorem KD.qc0 {w:World} {g:Nat} {T:TypeId} {a b c d:Value} (h:w.rowIs g T 4 (viewCell a b c d)) : w.cell? ⟨g,0,none⟩=some a:=h.cell (i:=0) (by decide)
theorem KD.qc1 {w:World} {g:Nat} {T:TypeId} {a b c d:Value} (h:w.rowIs g T 4 (viewCell a b c d)) : w.cell? ⟨g,1,none⟩=some b:=h.cell (i:=1) (by decide)
theorem KD.qc2 {w:World} {g:Nat} {T:TypeId} {a b c d:Value} (h:w.rowIs g T 4 (viewCell a b c d)) : w.cell? ⟨g,2,none⟩=some c:=h.cell (i:=2) (by decide)
theorem KD.qc3 {w:World} {g:Nat} {T:TypeId} {a b c d:Value} (h:w.rowIs g T 4 (viewCell a b c d)) : w.cell? ⟨g,3,none⟩=some d:=h.cell (i:=3) (by decide)
open KD
theorem ze1 {w:World} {a b c d:Value} {T:TypeId}:(w.alloc (.cells #[a,b,c,d] T)).rowIs w.heap.size T 4 (viewCell a b c d) :=
 ⟨_,zaw rfl,rfl,fun i hi=>by
  rcases (show i=0∨i=1∨i=2∨i=3 by omega) with rfl | rfl | rfl | rfl <;> rfl⟩
theorem zcr {w w':World} {g:Nat} {T:TypeId} {f:Nat->Value} {a b c d:Value} (h:w.rowIs g T 4 f) (hw:w'=(((w.setCell ⟨g,0,none⟩ a).setCell ⟨g,1,none⟩ b).setCell ⟨g,2,none⟩ c).setCell ⟨g,3,none⟩ d):w'.rowIs g T 4 (viewCell a b c d)/\w.grownBy w' (some g):=by
 rw [hw]
 refine ⟨((((h.set 0 _).set 1 _).set 2 _).set 3 _).congr fun j hj=>?_,zaR (zaR (zaR (zca _ _ _ _) _ _) _ _) _ _⟩
 match j,hj with
 | 0,_=>rfl
 | 1,_=>rfl
 | 2,_=>rfl
 | 3,_=>rfl
def SOpenPost (P M : Int) (k : Nat) (f : Nat → Int) (cols : Nat) (T : Option Addr) (n d : Nat) (ln : Nat → Nat) (V : Nat → Nat → Int) (w : World) (e : Ending) (w' : World) : Prop :=
 Below w.heap.size w w'/\∃ v:Int,FirstErr (SpaceErrs P M k f cols n ln V) v /\
  ((v≠0/\e=.returned (.tuple #[.agg #[.pointer none,.int .i64 0,.slice none 0 0,.slice none 0 0],.int .i64 v])) ∨
   (v=0/\∃ (P' M' C g:Nat) (pv:Value) (p:Nat->Nat),P=P'/\M=M'/\cols=C/\e=.returned (.tuple #[.agg #[.pointer (some ⟨g,0,none⟩),.int .i64 (C:Nat),.slice T n d,pv],.int .i64 0]) /\
    GF w' w'.heap.size g P' M' (fun i=>(f i).toNat)/\Own w' w.heap.size 3 1 pv n (fun j _=>.int .i64 (p j:Nat))/\EchN (P' ^ M') n C C n p (natT V)))
theorem ze2 {q n k a:Nat} {p:Nat->Nat} {V W:Nat->Nat->Nat} (hE:EchN q n k k a p W) (h:a=n/\∀ i,i<a->∀ j,j<k->W i j=V i j):EchN q n k k n p V:=by
 obtain ⟨rfl,h2⟩:=h
 exact hE.congr (Nat.le_refl _) h2
theorem zgw (P M:Int) (A:Option Addr) (k c:Nat) (f:Nat->Int) (cols:Nat) (T:Option Addr) (n d:Nat) (ln:Nat->Nat) (V:Nat->Nat->Int) (w:World) (hr:IntsR w w.heap.size A k f) (h:IntRows w T n ln V) (hc1:1<=cols) :
  Calls Tryz.prog 166 #[.agg #[.int .i64 P,.int .i64 M,.slice A k c],.agg #[.int .i64 (cols:Nat),.slice T n d]] w (SOpenPost P M k f cols T n d ln V w):=by
 have HR:=hid hr
 have HT:=hid h
 clear hr h
 have rf:=zaq (w:=w) (a:=.int .i64 P) (b:=.int .i64 M) (c:=.slice A k c) (T := 24)
 have hB:=aly w (.cells #[.int .i64 P,.int .i64 M,.slice A k c] 24)
 have O:(w.alloc (.cells #[.int .i64 P,.int .i64 M,.slice A k c] 24)).heap.size=w.heap.size+1:=by simp
 obtain ⟨w0,U⟩:=exx (w.alloc (.cells #[.int .i64 P,.int .i64 M,.slice A k c] 24))
 have rm:=zat (w:=w0) (a:=.int .i64 (cols:Nat)) (b:=.slice T n d) (T := 106)
 have kb:=aly w0 (.cells #[.int .i64 (cols:Nat),.slice T n d] 106)
 have s:(w0.alloc (.cells #[.int .i64 (cols:Nat),.slice T n d] 106)).heap.size=w0.heap.size+1:=by simp
 obtain ⟨w1,S⟩:=exx (w0.alloc (.cells #[.int .i64 (cols:Nat),.slice T n d] 106))
 have ro:=ze1 (w:=w1) (a:=.pointer none) (b:=.int .i64 0) (c:=.slice none 0 0) (d:=.slice none 0 0) (T := 196)
 have y:=aly w1 (.cells #[.pointer none,.int .i64 0,.slice none 0 0,.slice none 0 0] 196)
 obtain ⟨w2,R⟩:=exx (w1.alloc (.cells #[.pointer none,.int .i64 0,.slice none 0 0,.slice none 0 0] 196))
 rw [<-U] at hB rf O;rw [<-S] at rm kb s;rw [<-R] at ro y;rw [s,O] at ro;rw [O] at rm;replace rf:=zab (zab rf kb) y;replace rm:=zab rm y;replace hB:=onS (onS hB kb) y
 go_enter Tryz.func166, Tryz.ntmps166
 go_upto_region 1 with fail
 rw [<-U,<-S,<-R];clear U S R kb y O s
 obtain ⟨b0,a0⟩:=exx w.heap.size
 obtain ⟨b1,Z⟩:=exx (w.heap.size+1)
 obtain ⟨b2,Y⟩:=exx (w.heap.size+1+1)
 have ah:w.heap.size<=b2:=by omega
 rw [<-a0] at rf;rw [<-Z] at rm;rw [<-Y] at ro;rw [<-Y,<-Z,<-a0];clear a0 Z Y
 have q0:=qc0 rf
 have q1:=qc1 rf
 have q2:=qc2 rf
 have p0:=qc0 rm
 have p1:=qc1 rm
 go_wp2_with fail
 have an:=hB.size
 refine (zc7 P M A k c f (cols:Int) T n d ln V w2 (HR.out.on hB) (HT.out.on hB) (by omega)).mono ?_
 rintro e w4 ⟨kb,v,hv,E⟩
 replace hB:=onS hB kb;replace rf:=zab rf kb;replace rm:=zab rm kb;replace ro:=zab ro kb
 have HV:=hid hv
 clear kb hv q0 q1 q2 p0 p1
 rcases E with ⟨N,rfl⟩ | ⟨rfl,P,M,C,lv,pv,a,p,W,rfl,rfl,am,rfl,a2,hP,hE,a5⟩
 ·have ax:(v != 0)=true:=by simpa using N
  have ao:=hid N
  have Q:=hid (FirstErr.app (r:=[(RrefN (P.toNat ^ M.toNat) n cols (natT V),5)]) (u:=v) (by simp) (show FirstErr [(GoodF P M k f,1),(ShapeM cols n ln,3),(ElemsM (P.toNat ^ M.toNat) n ln V,2)] v from HV.out) (fun _=>rfl) (fun h=>absurd h N))
  clear N rm rf
  go_upto_region 2 with fail
  have m:=aly w4 (Obj.cells #[.int .i64 0,.slice none 0 0] 106)
  obtain ⟨w5,z⟩:=exx (w4.alloc (Obj.cells #[.int .i64 0,.slice none 0 0] 106))
  rw [<-z] at m ⊢;replace hB:=onS hB m;replace ro:=zab ro m;clear z m
  have r0:=ro.frozen 0
  have s0:=qc0 ro
  have r1:=ro.frozen 1
  have s1:=qc1 ro
  have r2:=ro.frozen 2
  have s2:=qc2 ro
  have r3:=ro.frozen 3
  have s3:=qc3 ro
  go_wp2
  clear r0 s0 r1 s1 r2 s2 r3 s3
  generalize hw9:World.setCell _ _ _=w6
  obtain ⟨row9,x⟩:=zcr ro hw9.symm
  clear hw9
  have F:=hB.grown x hB.size (fun q e=>by injection e with e; omega)
  have e0:=qc0 row9
  have e1:=qc1 row9
  have e2:=qc2 row9
  have e3:=qc3 row9
  refine bodyPost_ret (v:=.tuple #[.agg #[.pointer none,.int .i64 0,.slice none 0 0,.slice none 0 0],.int .i64 v]) (by simp [results,Tryz.results166, go_sem,e0,e1,e2,e3]) rfl ?_
  exact ⟨F,v,by simpa [SpaceErrs] using Q.out,.inl ⟨ao.out,rfl⟩⟩
 obtain rfl:C=cols:=by omega
 clear am
 have ac:=HV.out
 rcases ac with ⟨_,h9⟩ | ⟨o,⟨_,h9⟩ | ⟨hs,⟨_,h9⟩ | ⟨he,_⟩⟩⟩
 ·cases h9
 ·cases h9
 ·cases h9
 rw [Int.toNat_natCast,Int.toNat_natCast] at he
 have a8:=hid (zcp (HT.out.on hB) hs he).1
 have ar:=hid (zcp (HT.out.on hB) hs he).2
 have b3:C<=256:=by have:=hs.2.1; omega
 have ay:n<=256:=by have:=hs.2.2.1; omega
 have az:=hE.le
 have av:=hid o
 have aw:=hid (zdy (fieldLaws o.field.1) ar.out hE a5)
 have ap:=hid (fun h=>ze2 (V:=natT V) hE h)
 have au:Hid (∀ i,i<n->ln i=C):=fun i hi=>by have:=hs.2.2.2 i hi; omega
 have a3:=a2.shape
 obtain ⟨LA,lc,ae⟩:=a3
 subst ae
 obtain ⟨PA,pc,ab⟩:=hP.shape
 subst ab
 have B:=o.field.1.1.2.2.2
 have a7:=hid (a2.rd (q:=P ^ M) B fun i hi=>hE.lt i (by omega))
 have a6:=hid hP
 clear a2 hP hE a5 hs he o
 go_upto_region 2 with fail
 have m:=aly w4 (Obj.cells #[.int .i64 (C:Nat),.slice LA a lc] 106)
 have rl:=zat (w:=w4) (a:=.int .i64 (C:Nat)) (b:=.slice LA a lc) (T := 106)
 obtain ⟨w5,z⟩:=exx (w4.alloc (Obj.cells #[.int .i64 (C:Nat),.slice LA a lc] 106))
 obtain ⟨b6,a4⟩:=exx w4.heap.size
 rw [<-z] at m rl ⊢;rw [<-a4] at rl ⊢
 have K:=hid (a7.out.on m)
 have L:=hid (a8.out.on m)
 have J:=hid (a6.out.on m)
 replace hB:=onS hB m;replace ro:=zab ro m;replace rf:=zab rf m;replace rm:=zab rm m;clear z a4 m a7 a8 a6
 have p1:=qc1 rm
 have l1:=qc1 rl
 go_wp2_with fail
 refine (zdB LA T a n lc d (fun _=>C) (fun _=>C) (fun i j=>((W i j:Nat):Int)) (fun i j=>((natT V i j:Nat):Int)) w5 K.out L.out (by omega) (by omega) (fun _ _=>by omega) (fun _ _=>by omega)).mono ?_
 rintro e w6 ⟨b,rfl,hb,kb⟩
 replace hB:=onS hB kb;replace ro:=zab ro kb;replace rf:=zab rf kb;replace rm:=zab rm kb
 have I:=hid (J.out.on kb)
 have a9:Hid (EqT a n (fun _=>C) (fun _=>C) (fun i j=>((W i j:Nat):Int)) (fun i j=>((natT V i j:Nat):Int))↔a=n/\∀ i,i<a->∀ j,j<C->W i j=natT V i j):=by
  constructor
  ·intro h
   refine ⟨h.1,fun i hi j hj=>?_⟩
   have:=(h.2 i hi).2 j hj
   simp only at this
   omega
  intro h
  refine ⟨h.1,fun i hi=>⟨rfl,fun j hj=>?_⟩⟩
  show ((W i j:Nat):Int)=((natT V i j:Nat):Int)
  rw [h.2 i hi j hj]
 have aa:=hid (hb.trans a9.out)
 have Q:Hid (∀ u:Int,FirstErr [(RrefN (P ^ M) n C (natT V),5)] u->FirstErr (SpaceErrs (P:Int) (M:Int) k f C n ln V) u):=fun u hu=>by
  refine FirstErr.app (l:=[(GoodF (P:Int) (M:Int) k f,1),(ShapeM (C:Int) n ln,3),(ElemsM ((P:Int).toNat ^ (M:Int).toNat) n ln V,2)]) (by simp) (v:=0) (by simpa [MatErrs] using HV.out) (fun h=>absurd rfl h) fun _=>?_
  rw [Int.toNat_natCast,Int.toNat_natCast]
  exact hu
 clear kb hb p1 l1 rl K L J a9
 cases b
 ·have aq:Hid (¬ RrefN (P ^ M) n C (natT V)):=fun h=>by have:=aa.out.2 (aw.out.1 h); cases this
  have r0:=ro.frozen 0
  have s0:=qc0 ro
  have r1:=ro.frozen 1
  have s1:=qc1 ro
  have r2:=ro.frozen 2
  have s2:=qc2 ro
  have r3:=ro.frozen 3
  have s3:=qc3 ro
  go_wp2
  clear r0 s0 r1 s1 r2 s2 r3 s3
  generalize hw9:World.setCell _ _ _=w7
  obtain ⟨row9,x⟩:=zcr ro hw9.symm
  clear hw9
  have F:=hB.grown x hB.size (fun q e=>by injection e with e; omega)
  have e0:=qc0 row9
  have e1:=qc1 row9
  have e2:=qc2 row9
  have e3:=qc3 row9
  refine bodyPost_ret (v:=.tuple #[.agg #[.pointer none,.int .i64 0,.slice none 0 0,.slice none 0 0],.int .i64 5]) (by simp [results,Tryz.results166, go_sem,e0,e1,e2,e3]) rfl ?_
  exact ⟨F,5,Q.out 5 (.inl ⟨aq.out,rfl⟩),.inl ⟨by omega,rfl⟩⟩
 have G:=hid (aa.out.1 rfl)
 have q0:=qc0 rf
 have q1:=qc1 rf
 have q2:=qc2 rf
 have X:b2<w6.heap.size:=ro.lt
 go_wp2_with fail
 refine (zbK (P:Int) (M:Int) A k c f w6 (HR.out.on hB)).mono ?_
 rintro e w7 ⟨kb,hN⟩
 replace hB:=onS hB kb;replace ro:=zab ro kb;replace rm:=zab rm kb
 have H:=hid (I.out.on kb)
 clear kb q0 q1 q2 rf I
 rcases hN with ⟨ad,_⟩ | ⟨_,g,P',M',ai,ak,rfl,af,hG⟩
 ·exact absurd av.out ad
 obtain rfl:P=P':=by omega
 obtain rfl:M=M':=by omega
 have HG:=hid hG
 have ag:=hG
 clear hG ai ak af
 have p0:=qc0 rm
 have p1:=qc1 rm
 have r0:=ro.frozen 0
 have s0:=qc0 ro
 have r1:=ro.frozen 1
 have s1:=qc1 ro
 have r2:=ro.frozen 2
 have s2:=qc2 ro
 have r3:=ro.frozen 3
 have s3:=qc3 ro
 clear ag
 go_wp2
 clear r0 s0 r1 s1 r2 s2 r3 s3 p0 p1
 generalize hw9:World.setCell _ _ _=w8
 obtain ⟨row9,x⟩:=zcr ro hw9.symm
 clear hw9
 have F:=hB.grown x hB.size (fun q e=>by injection e with e; omega)
 have aj:=H.out.kept x (zaS ro H.out (by decide))
 have al:=(HG.out.grown x X).gf
 have e0:=qc0 row9
 have e1:=qc1 row9
 have e2:=qc2 row9
 have e3:=qc3 row9
 have a1:a=n:=G.out.1
 have D:=ap.out G.out
 subst a1
 refine bodyPost_ret (v:=.tuple #[.agg #[.pointer (some ⟨g,0,none⟩),.int .i64 (C:Nat),.slice T a d,.slice PA a pc],.int .i64 0]) (by simp [results,Tryz.results166, go_sem,e0,e1,e2,e3]) rfl ?_
 exact ⟨F,0,Q.out 0 (.inr ⟨⟨p,D⟩,rfl⟩),.inr ⟨rfl,P,M,C,g,_,p,rfl,rfl,rfl,rfl,al,aj.mono an,D⟩⟩
theorem zfG (P M:Int) (A:Option Addr) (k c:Nat) (f:Nat->Int) (cols:Nat) (T:Option Addr) (n d:Nat) (ln:Nat->Nat) (V:Nat->Nat->Int) (w:World) (hr:IntsR w w.heap.size A k f) (h:IntRows w T n ln V) (hc1:1<=cols) :
  Calls Tryz.prog 130 #[.agg #[.int .i64 P,.int .i64 M,.slice A k c],.agg #[.int .i64 (cols:Nat),.slice T n d]] w (ErrsPost (SpaceErrs P M k f cols n ln V) w):=by
 have HR:=hid hr
 have HT:=hid h
 clear hr h
 have rf:=zaq (w:=w) (a:=.int .i64 P) (b:=.int .i64 M) (c:=.slice A k c) (T := 24)
 have hB:=aly w (.cells #[.int .i64 P,.int .i64 M,.slice A k c] 24)
 have m:(w.alloc (.cells #[.int .i64 P,.int .i64 M,.slice A k c] 24)).heap.size=w.heap.size+1:=by simp
 obtain ⟨w0,l⟩:=exx (w.alloc (.cells #[.int .i64 P,.int .i64 M,.slice A k c] 24))
 have rm:=zat (w:=w0) (a:=.int .i64 (cols:Nat)) (b:=.slice T n d) (T := 106)
 have kb:=aly w0 (.cells #[.int .i64 (cols:Nat),.slice T n d] 106)
 obtain ⟨w1,j⟩:=exx (w0.alloc (.cells #[.int .i64 (cols:Nat),.slice T n d] 106))
 rw [<-l] at hB rf m;rw [<-j] at rm kb;rw [m] at rm;replace rf:=zab rf kb;replace hB:=onS hB kb
 go_enter Tryz.func130, Tryz.ntmps130
 go_upto_region 1 with fail
 rw [<-l,<-j];clear l j kb m
 have q0:=qc0 rf
 have q1:=qc1 rf
 have q2:=qc2 rf
 have p0:=qc0 rm
 have p1:=qc1 rm
 go_wp2_with fail
 refine (zgw P M A k c f cols T n d ln V w1 (HR.out.on hB) (HT.out.on hB) hc1).mono ?_
 rintro e w2 ⟨kb,v,hv,i⟩
 have HB:=hid (onS hB kb)
 have HV:=hid hv
 clear kb hv q0 q1 q2 p0 p1 rf rm hB
 rcases i with ⟨o,rfl⟩ | ⟨rfl,P,M,C,g,pv,p,rfl,rfl,_,rfl,_,hP,_⟩
 ·clear o
  go_wp2
  go_ret
  exact errsPost HV.out (HB.out.alloc HB.out.size _)
 obtain ⟨PA,pc,q⟩:=hP.shape
 subst q
 clear hP
 go_wp2
 go_ret
 exact errsPost HV.out (HB.out.alloc HB.out.size _)
def LenOk (N:Int):Prop:=1<=N/\N<=64
theorem ze3 (N:Int) (w:World):Calls Tryz.prog 129 #[.int .i64 N] w (ErrsPost [(LenOk N,4)] w):=by
 by_cases h1:N<1
 ·have hd:decide (N<1)=true:=by simpa using h1
  have b:Hid (FirstErr [(LenOk N,4)] 4):=.inl ⟨fun h=>by have:=h.1; have:=h.2; omega,rfl⟩
  go_enter Tryz.func129, Tryz.ntmps129
  go_wp2
  go_ret
  exact errsPost b.out (Below.refl _ _)
 have hd:decide (N<1)=false:=by simpa using h1
 by_cases h2:64<N
 ·have c:decide (64<N)=true:=by simpa using h2
  have b:Hid (FirstErr [(LenOk N,4)] 4):=.inl ⟨fun h=>by have:=h.1; have:=h.2; omega,rfl⟩
  go_enter Tryz.func129, Tryz.ntmps129
  go_wp2
  go_ret
  exact errsPost b.out (Below.refl _ _)
 have c:decide (64<N)=false:=by simpa using h2
 have a:Hid (FirstErr [(LenOk N,4)] 0):=.inr ⟨⟨by omega,by omega⟩,rfl⟩
 go_enter Tryz.func129, Tryz.ntmps129
 go_wp2
 go_ret
 exact errsPost a.out (Below.refl _ _)
theorem zhz (P M N:Int) (A T:Option Addr) (k c n d:Nat) (w:World) :
  Calls Tryz.prog 101 #[.agg #[.int .i64 P,.int .i64 M,.slice A k c,.int .i64 N,.slice T n d]] w fun e w'=>e=.returned (.agg #[.int .i64 N,.slice T n d])/\Below w.heap.size w w':=by
 have rf:=za0 (w:=w) (a:=.int .i64 P) (b:=.int .i64 M) (c:=.slice A k c) (d:=.int .i64 N) (e:=.slice T n d) (T := 27)
 have hB:=aly w (.cells #[.int .i64 P,.int .i64 M,.slice A k c,.int .i64 N,.slice T n d] 27)
 have i:(w.alloc (.cells #[.int .i64 P,.int .i64 M,.slice A k c,.int .i64 N,.slice T n d] 27)).heap.size=w.heap.size+1:=by simp
 obtain ⟨w0,h⟩:=exx (w.alloc (.cells #[.int .i64 P,.int .i64 M,.slice A k c,.int .i64 N,.slice T n d] 27))
 have ro:=zat (w:=w0) (a:=.int .i64 0) (b:=.slice none 0 0) (T := 106)
 have kb:=aly w0 (.cells #[.int .i64 0,.slice none 0 0] 106)
 obtain ⟨w1,g⟩:=exx (w0.alloc (.cells #[.int .i64 0,.slice none 0 0] 106))
 rw [<-h] at hB rf i;rw [<-g] at ro kb;rw [i] at ro;replace rf:=zab rf kb;replace hB:=onS hB kb
 go_enter Tryz.func101, Tryz.ntmps101
 go_upto_region 1 with fail
 rw [<-h,<-g];clear h g kb i
 have q3:=qc3 rf
 have q4:=qc4 rf
 have r0:=ro.frozen 0
 have s0:=qc0 ro
 have r1:=ro.frozen 1
 have s1:=qc1 ro
 go_wp2
 clear r0 s0 r1 s1 q3 q4 rf
 generalize hw9:World.setCell _ _ _=w2
 obtain ⟨row9,j⟩:=zcq ro hw9.symm
 clear hw9
 have l:=hB.grown j hB.size (fun q e=>by injection e with e; omega)
 have e0:=qc0 row9
 have e1:=qc1 row9
 refine bodyPost_ret (v:=.agg #[.int .i64 N,.slice T n d]) (by simp [results,Tryz.results101, go_sem,e0,e1]) rfl ?_
 exact ⟨rfl,l⟩
theorem zdC (P M:Int) (A:Option Addr) (k c:Nat) (f:Nat->Int) (N:Int) (T:Option Addr) (n d:Nat) (ln:Nat->Nat) (V:Nat->Nat->Int) (w:World) (hr:IntsR w w.heap.size A k f) (h:IntRows w T n ln V) :
  Calls Tryz.prog 67 #[.agg #[.int .i64 P,.int .i64 M,.slice A k c,.int .i64 N,.slice T n d]] w (ErrsPost (CodeErrs P M k f N n ln V) w):=by
 have HR:=hid hr
 have HT:=hid h
 clear hr h
 obtain ⟨w1,j,hB,rf⟩:=zay w (.int .i64 P) (.int .i64 M) (.slice A k c) (.int .i64 N) (.slice T n d) 27
 go_enter Tryz.func67, Tryz.ntmps67
 go_upto_region 1 with fail
 rw [<-j];clear j
 have q0:=qc0 rf
 have q1:=qc1 rf
 have q2:=qc2 rf
 go_wp2_with fail
 refine (ze0 P M A k c f w1 (HR.out.on hB)).mono ?_
 rintro e w2 ⟨v,rfl,hv,kb⟩
 replace hB:=onS hB kb;replace rf:=zab rf kb;clear kb q0 q1 q2
 rcases hv with ⟨rfl,a⟩ | ⟨rfl,b⟩
 rotate_left
 ·have hf:Hid (FirstErr (CodeErrs P M k f N n ln V) 1):=.inl ⟨b,rfl⟩
  clear b
  go_wp2
  go_ret
  exact errsPost hf.out hB
 have i:=hid a
 clear a
 have q3:=qc3 rf
 go_wp2_with fail
 refine (ze3 N w2).mono ?_
 rintro e w3 ⟨v,rfl,hv,kb⟩
 replace hB:=onS hB kb;replace rf:=zab rf kb;clear kb q3
 rcases hv with ⟨b,rfl⟩ | ⟨hN,g⟩
 ·have hf:Hid (FirstErr (CodeErrs P M k f N n ln V) 4):=.inr ⟨i.out,.inl ⟨b,rfl⟩⟩
  clear b
  go_wp2
  go_ret
  exact errsPost hf.out hB
 have g:v=0:=g
 subst g
 have hN:1<=N/\N<=64:=hN
 obtain ⟨C,rfl⟩:∃ C:Nat,N=C:=⟨N.toNat,by omega⟩
 have m:=hid hN
 have l:1<=C:=by omega
 clear hN
 have q0:=qc0 rf
 have q1:=qc1 rf
 have q2:=qc2 rf
 have q3:=qc3 rf
 have q4:=qc4 rf
 go_wp2
 refine wp_region_held_drew (S:=fun w'=>w'.cell? ⟨w.heap.size,0,none⟩=some (.int .i64 P)/\w'.cell? ⟨w.heap.size,1,none⟩=some (.int .i64 M)/\w'.cell? ⟨w.heap.size,2,none⟩=some (.slice A k c)/\w'.cell? ⟨w.heap.size,3,none⟩=some (.int .i64 (C:Nat))/\w'.cell? ⟨w.heap.size,4,none⟩=some (.slice T n d)) (by kernel_rfl) ⟨cellS (Below.refl _ _).drew q0,cellS (Below.refl _ _).drew q1,cellS (Below.refl _ _).drew q2,cellS (Below.refl _ _).drew q3,cellS (Below.refl _ _).drew q4⟩ (fun hHeld=>?_)
 obtain ⟨w4,hw,kb⟩:=dwx w3
 rw [<-hw] at hHeld ⊢;clear hw;replace hB:=onS hB kb;replace rf:=zab rf kb;clear kb q0 q1 q2 q3 q4
 refine tkq 0 (h:=tkq 1 (h:=tkq 2 (h:=rdq 3 (h:=fun K hK=>?_))))
 go_simp
 go_wp2_with fail
 refine (zhz P M (C:Int) A T k c n d w4).mono ?_
 rintro e w5 ⟨rfl,kb⟩
 replace hB:=onS hB kb;replace rf:=zab rf kb;clear kb
 refine bkq hK ⟨qc0 rf,qc1 rf,qc2 rf,qc3 rf,qc4 rf⟩ (h:=fun hHeld=>?_)
 clear hK K
 refine rdq 4 (h:=fun K hK=>?_)
 go_simp
 go_wp2_with fail
 refine (zfG P M A k c f C T n d ln V w5 (HR.out.on hB) (HT.out.on hB) l).mono ?_
 rintro e w6 ⟨v,rfl,hv,kb⟩
 replace hB:=onS hB kb;replace rf:=zab rf kb
 have hf:Hid (FirstErr (CodeErrs P M k f (C:Int) n ln V) v):=by
  rcases hv with ⟨b,_⟩ | ⟨_,hv⟩
  ·exact absurd i.out b
  refine .inr ⟨i.out,.inr ⟨m.out,?_⟩⟩
  rw [Int.toNat_natCast]
  exact hv
 clear kb hv
 refine bkq hK ⟨qc0 rf,qc1 rf,qc2 rf,qc3 rf,qc4 rf⟩ (h:=fun hHeld=>?_)
 clear hK K
 refine tkq 5 (h:=?_)
 refine wpAnyH_done (by kernel_rfl) ?_ _
 clear hHeld
 go_wp2
 go_ret
 exact errsPost hf.out hB
def ExpNPost (q k most:Nat) (w:World) (e:Ending) (w':World):Prop:=((q ^ k<=most/\e=.returned (.tuple #[.int .i64 (q ^ k:Nat),.int .i64 0]))∨(most<q ^ k/\e=.returned (.tuple #[.int .i64 0,.int .i64 8])))/\Below w.heap.size w w'
theorem zid (q k most:Nat) (w:World) (hq:2<=q) (hq2:q<=1048576) (hk:k<=1048576) (hm:1<=most) (hm2:most<=1048576) :
  Calls Tryz.prog 148 #[.int .i64 (q:Nat),.int .i64 (k:Nat),.int .i64 (most:Nat)] w (ExpNPost q k most w):=by
 have c1:¬ ((q:Int)<0):=by omega
 have c2:¬ ((k:Int)<0):=by omega
 have c3:¬ ((most:Int)<0):=by omega
 have c4:((q:Int) == 0)=false:=by simp; omega
 have c5:((most:Int) == 0)=false:=by simp; omega
 have c6:(q:Int) > 1:=by omega
 go_enter Tryz.func148, Tryz.ntmps148
 go_wp2
 go_loopg [1,8] k (fun gg kv ov wx=>∃ j o:Nat,kv=.int .i64 ((k - j:Nat):Int)/\ov=.int .i64 (o:Nat)/\j<=k/\k<=j+gg/\Hid (o=q ^ j)/\o<=most/\Below w.heap.size w wx)
 case atStart=>exact ⟨0,1,by rw [Nat.sub_zero],rfl,by omega,by omega,rfl,by omega,Below.refl _ _⟩
 obtain ⟨j,o,rfl,rfl,hj,p,HO,g,hB⟩:=hrel
 obtain ⟨r,hr⟩:=exx (k - j)
 rw [<-hr]
 have HR:=hid hr
 clear hr
 by_cases hlt:0<r
 rotate_left
 ·have a:¬ (r:Int) > 0:=by omega
  have c:Hid (q ^ k=o):=by
   have h0:=HR.out
   obtain rfl:j=k:=by omega
   exact HO.out.symm
  obtain rfl:r=0:=by omega
  go_wp2
  go_ret2
  exact ⟨.inl ⟨by rw [c.out]; exact g,by rw [c.out]; rfl⟩,hB⟩
 have a:(r:Int) > 0:=by omega
 have h0:=HR.out
 obtain ⟨d,hd⟩:=exx (most / q)
 have e0:(most:Int) / (q:Int)=(d:Int):=by rw [hd]; rfl
 have s:d<=most:=by rw [hd]; exact Nat.div_le_self _ _
 have HD:=hid hd
 have u:0<=(most:Int) / (q:Int):=by rw [e0]; omega
 have t:(most:Int) / (q:Int)<=1048576:=by rw [e0]; omega
 clear hd
 have l:¬ (q:Int)=0:=by omega
 by_cases hb:d<o
 ·have h:(o:Int) > (most:Int) / (q:Int):=by rw [e0]; omega
  have b:Hid (most<q ^ k):=by
   have h1:most<o*q:=(Nat.div_lt_iff_lt_mul (by omega)).1 (HD.out ▸ hb)
   have h2:q ^ (j+1)<=q ^ k:=Nat.pow_le_pow_right (by omega) (by omega)
   have h3:=HO.out
   show most<q ^ k
   rw [Nat.pow_succ,<-h3] at h2
   omega
  clear hb h0 e0
  go_wp2
  go_ret2
  exact ⟨.inr ⟨b.out,rfl⟩,hB⟩
 have h:¬ (o:Int) > (most:Int) / (q:Int):=by rw [e0]; omega
 have e:o*q<=most:=by
  have h1:o<=most / q:=HD.out ▸ Nat.le_of_not_lt hb
  exact (Nat.le_div_iff_mul_le (by omega)).1 h1
 have i:Hid (o*q=q ^ (j+1)):=by show _=_; rw [Nat.pow_succ,<-HO.out]
 have e2:(o:Int)*(q:Int)=((o*q:Nat):Int):=by push_cast; rfl
 have n:0<=(o:Int)*(q:Int):=by rw [e2]; omega
 have m:(o:Int)*(q:Int)<=1048576:=by rw [e2]; omega
 clear hb e0 e2
 go_wp2
 go_roundg (gk - 1)
 case measure=>omega
 case rel=>exact ⟨j+1,o*q,by congr 1; omega,by push_cast; go_num,by omega,by omega,i,e,hB⟩
open Go.ChangeShapes Go.WideShapes Go.ChangeAt
section
variable {q n k:Nat} {add mul:Nat->Nat->Nat} {V:Nat->Nat->Nat} {neg:Nat->Nat}
theorem zfH (hL:FieldLaws q add mul) {x y z:Nat} (hx:x<q) (hy:y<q) (hz:z<q) (h1:add x z=0) (h2:add y z=0):x=y:=by
 rw [<-hL.zeroAdd x hx,<-h2,hL.addAssoc y z x hy hz hx,hL.addComm z x,h1,hL.addComm,hL.zeroAdd y hy]
theorem zgx (hL:FieldLaws q add mul) {p:Nat->Nat} (hE:EchN q n k k n p V) {u:Nat->Nat} (hu:∀ j,j<k->u j<q):InSp q add mul n k V u↔∀ j,j<k->u j=spE add mul V (fun i=>u (p i)) n j:=by
 constructor
 ·rintro ⟨c,hc,hx⟩ j hj
  rw [hx j hj]
  refine zcf n fun i hi=>⟨?_,rfl⟩
  rw [hx _ (hE.pvlt i hi),hE.spE_pv hL hc hi]
 ·intro h
  exact ⟨fun i=>u (p i),fun i hi=>hu _ (hE.pvlt i hi),h⟩
end
def fE (u:Nat->Nat):Nat->Int
 | 0 => -1
 | n+1=>if u n=0 then fE u n else if fE u n<0 then (n:Int) else fE u n
def lE (u:Nat->Nat):Nat->Int
 | 0 => -1
 | n+1=>if u n=0 then lE u n else (n:Int)
section
variable {u u':Nat->Nat}
theorem ziC:∀ n,-1<=fE u n/\fE u n<(n:Int)
 | 0=>by show (-1:Int) <= -1/\(-1:Int)<0; omega
 | n+1=>by
  have h:=ziC n
  show -1<=(if u n=0 then fE u n else if fE u n<0 then (n:Int) else fE u n)/\(if u n=0 then fE u n else if fE u n<0 then (n:Int) else fE u n)<((n+1:Nat):Int)
  split
  ·omega
  ·split <;> omega
theorem zhA:∀ n,-1<=lE u n/\lE u n<(n:Int)
 | 0=>by show (-1:Int) <= -1/\(-1:Int)<0; omega
 | n+1=>by
  have h:=zhA n
  show -1<=(if u n=0 then lE u n else (n:Int))/\(if u n=0 then lE u n else (n:Int))<((n+1:Nat):Int)
  split <;> omega
theorem ziy:∀ n j,j<n->u j≠0->(j:Int)<=lE u n
 | 0,_,h,_=>absurd h (by omega)
 | n + 1, j, h, hu => by
  show (j:Int)<=if u n=0 then lE u n else (n:Int)
  split
  ·rename_i h0
   have:j≠n:=fun e=>hu (by rw [e]; exact h0)
   exact ziy n j (by omega) hu
  ·omega
theorem zie:∀ n t:Nat,lE u n=(t:Int)->t<n/\u t≠0
 | 0,t,h=>by
  have h:(-1:Int)=t:=h
  omega
 | n + 1, t, h => by
  have h:(if u n=0 then lE u n else (n:Int))=t:=h
  by_cases h0:u n=0
  ·rw [if_pos h0] at h
   have:=zie n t h
   exact ⟨by omega,this.2⟩
  ·rw [if_neg h0] at h
   obtain rfl:n=t:=by omega
   exact ⟨by omega,h0⟩
theorem zfI:∀ n t:Nat,(∀ j,t<=j->j<n->u j=0)->lE u n<(t:Int)
 | 0,t,_=>by show (-1:Int)<t; omega
 | n + 1, t, h => by
  show (if u n=0 then lE u n else (n:Int))<t
  by_cases h0:u n=0
  ·rw [if_pos h0]
   exact zfI n t fun j h1 h2=>h j h1 (by omega)
  ·rw [if_neg h0]
   by_cases e:t<=n
   ·exact absurd (h n e (by omega)) h0
   ·omega
theorem zbg {n:Nat} {j:Nat} (hj:j<n) (h:lE u n<(j:Int)):u j=0:=by
 by_cases e:u j=0
 ·exact e
 ·have:=ziy n j hj e
  omega
theorem ziB:∀ n p,p<n->u p≠0->(∀ j,j<p->u j=0)->fE u n=(p:Int)
 | 0,_,h,_,_=>absurd h (by omega)
 | n + 1, p, h, hp, h0 => by
  show (if u n=0 then fE u n else if fE u n<0 then (n:Int) else fE u n)=p
  have hz:∀ m,(∀ j,j<m->u j=0)->fE u m<0:=by
   intro m
   induction m with
   | zero=>intro _; show (-1:Int)<0; omega
   | succ m ih =>
    intro h
    show (if u m=0 then fE u m else _)<0
    rw [if_pos (h m (by omega))]
    exact ih fun j hj=>h j (by omega)
  by_cases e:p=n
  ·subst e
   rw [if_neg hp,if_pos (hz p h0)]
  ·have ih:=ziB n p (by omega) hp h0
   rw [ih]
   split
   ·rfl
   ·rw [if_neg (by omega)]
end
structure SpanF (q n N:Nat) (pv:Nat->Nat) (R:Nat->Nat->Nat):Prop where
 lt:∀ i,i<n->∀ j,j<N->R i j<q
 inc:∀ s t,s<t->t<n->pv s<pv t
 pvlt:∀ s,s<n->pv s<N
 one:∀ s,s<n->R s (pv s)=1
 low:∀ s,s<n->∀ j,j<pv s->R s j=0
def mesL (R:Nat->Nat->Nat) (N:Nat):Nat->Nat
 | 0=>0
 | n+1=>mesL R N n+(lE (R n) N+1).toNat
theorem zg6 {R:Nat->Nat->Nat} {N:Nat}:∀ n,mesL R N n<=n*N
 | 0=>by show 0<=_; omega
 | n+1=>by
  have h1:=zg6 (R:=R) (N:=N) n
  have h2:=zhA (u:=R n) N
  show mesL R N n+(lE (R n) N+1).toNat<=(n+1)*N
  rw [Nat.add_mul,Nat.one_mul]
  omega
theorem zfJ {R R':Nat->Nat->Nat} {N i:Nat} (h:∀ u,u≠i->R' u=R u):∀ n,n<=i->mesL R' N n=mesL R N n
 | 0,_=>rfl
 | n+1,hn=>by
  show mesL R' N n+(lE (R' n) N+1).toNat=mesL R N n+(lE (R n) N+1).toNat
  rw [zfJ h n (by omega),h n (by omega)]
theorem zg7 {R R':Nat->Nat->Nat} {N i:Nat} (h:∀ u,u≠i->R' u=R u) (hl:lE (R' i) N<lE (R i) N):∀ n,i<n->mesL R' N n<mesL R N n
 | 0,hi=>absurd hi (by omega)
 | n + 1, hi => by
  show mesL R' N n+(lE (R' n) N+1).toNat<mesL R N n+(lE (R n) N+1).toNat
  have h1:=zhA (u:=R' n) N
  have h2:=zhA (u:=R n) N
  by_cases e:i=n
  ·subst e
   rw [zfJ h i (Nat.le_refl _)]
   omega
  ·have ih:=zg7 h hl n (by omega)
   rw [h n (by omega)]
   omega
section
variable {q n N:Nat} {add mul:Nat->Nat->Nat} {neg:Nat->Nat} {pv:Nat->Nat} {R:Nat->Nat->Nat}
theorem EchN.spanF {V:Nat->Nat->Nat} (h:EchN q n N N n pv V):SpanF q n N pv V:=⟨h.lt,h.inc,h.pvlt,h.one,h.lead⟩
theorem SpanF.pos (h:SpanF q n N pv R) {i:Nat} (hi:i<n):(pv i:Int)<=lE (R i) N:=ziy N _ (h.pvlt i hi) (by rw [h.one i hi]; omega)
theorem SpanF.first (h:SpanF q n N pv R) {i:Nat} (hi:i<n):fE (R i) N=(pv i:Int):=ziB N _ (h.pvlt i hi) (by rw [h.one i hi]; omega) (h.low i hi)
theorem zhB (hL:FieldLaws q add mul) (hneg:∀ x,x<q->neg x<q/\add x (neg x)=0) {a b:Nat} (ha:a<q) (hb:b<q):neg (mul a b)=mul (neg a) b:=by
 have h1:=hneg (mul a b) (hL.mulLt _ _)
 have h2:=hneg a ha
 refine zfH hL h1.1 (hL.mulLt _ _) (hL.mulLt a b) ?_ ?_
 ·rw [hL.addComm]; exact h1.2
 ·rw [hL.mulComm (neg a) b h2.1 hb,hL.mulComm a b ha hb,<-hL.distrib b _ _ hb h2.1 ha,hL.addComm (neg a) a,h2.2,hL.mulZero hb]
theorem SpanF.step (hL:FieldLaws q add mul) (hneg:∀ x,x<q->neg x<q/\add x (neg x)=0) (h:SpanF q n N pv R) {i j t a:Nat} (hij:i<j) (hj:j<n) (h1:lE (R i) N=(t:Int)) (h2:lE (R j) N=(t:Int)) (ha:a<q) (hat:mul a (R j t)=R i t)
  {R':Nat->Nat->Nat} (e1:∀ k,k<N->R' i k=add (R i k) (neg (mul a (R j k)))) (e2:∀ u,u≠i->R' u=R u) :
  SpanF q n N pv R'/\SameSp q add mul N n n R R'/\lE (R' i) N<(t:Int):=by
 have c:i<n:=by omega
 have hR:=h.lt
 have d:neg 0=0:=by
  have:=hneg 0 (by have:=hL.two; omega)
  exact (hL.zeroAdd _ this.1).symm.trans this.2
 have f:∀ u,u<n->∀ k,k<N->R' u k<q:=fun u hu k hk=>by
  by_cases e:u=i
  ·rw [e,e1 k hk]; exact hL.addLt _ _
  ·rw [e2 u e]; exact hR u hu k hk
 have b:∀ k,k<N->R j k=0->R' i k=R i k:=fun k hk hz=>by
  rw [e1 k hk,hz,hL.mulZero ha,d,hL.addZero (hR i c k hk)]
 have hp:pv i<pv j:=h.inc i j hij hj
 refine ⟨⟨f,h.inc,h.pvlt,fun s hs=>?_,fun s hs k hk=>?_⟩,?_,?_⟩
 ·by_cases e:s=i
  ·subst e
   rw [b _ (h.pvlt s hs) (h.low j hj _ hp)]
   exact h.one s hs
  ·rw [e2 s e]; exact h.one s hs
 ·by_cases e:s=i
  ·subst e
   have:=h.pvlt s hs
   rw [b k (by omega) (h.low j hj k (by omega))]
   exact h.low s hs k hk
  ·rw [e2 s e]; exact h.low s hs k hk
 ·have ho:RowOps q add mul n N R R':=.eq (.add (.refl (V:=R)) c hj (by omega) (hneg a ha).1) fun u hu k hk=>by
   by_cases e:u=i
   ·subst e
    rw [if_pos rfl,e1 k hk,zhB hL hneg ha (hR j hj k hk)]
   ·rw [if_neg e,e2 u e]
  exact (RowOps.sp hL hR ho).1
 refine zfI N t fun k hk hkN=>?_
 by_cases e:k=t
 ·subst e
  rw [e1 k hkN,hat]
  exact (hneg _ (hR i c k hkN)).2
 ·rw [e1 k hkN,zbg (u:=R i) hkN (by omega),zbg (u:=R j) hkN (by omega),hL.mulZero ha,d,hL.addZero (by have:=hL.two; omega)]
end
theorem zgy {w:World} {B n m:Nat} {A:Option Addr} {f:Nat->Int} (h:IntsR w B A n f) (hm:m<=n):IntsR w B A m f:=fun i hi=>h i (by omega)
theorem zgz {w:World} {B n b o s:Nat} {f:Nat->Int} (h:IntsR w B (some ⟨b,o,none⟩) n f) (hs:s<=n):IntsR w B (some ⟨b,o+s,none⟩) (n - s) (fun j=>f (s+j)):=fun j hj=>by
 obtain ⟨b',o',e,hb,hc⟩:=h (s+j) (by omega)
 injection e with e
 injection e with e1 e2
 subst e1 e2
 refine ⟨b,o+s,rfl,hb,fun q hq=>?_⟩
 have h2:=hc q hq
 rw [show o+s+j*1+q=o+(s+j)*1+q by omega]
 exact h2
theorem zaT {w:World} {ops:Array Oper} {rest:List Oper} {o:Oper} {a:Act} {Q:Exit->Act->World->Prop} (hgd:o.guard=none) (sl x:Operand)
  (ho:o.op=.call { callee:=.builtin .append,args:=#[sl,x],argTypes:=#[25, 25] })
  {base n:Nat} {v:Value} {R:Nat->Value} (h:Own w base 22 1 v n (fun i _=>R i)) (hv:a.eval sl=v) {ad:Addr} {c:Nat} {r:Value} (hx:a.eval x=.slice (some ad) 1 c)
  (hcell:w.cell? (ad.add 0)=some r) (h1:r.oneCell'=true) (hbase:base<=w.heap.size) (hN:n<=1048576)
  (K:∀ v' w',Own w' base 22 1 v' (n+1) (fun i _=>if i=n then r else R i)->w.grownBy w' v.ownBlock->wpList Tryz.prog ops Q rest (a.put o.dst v') w'):wpList Tryz.prog ops Q (o :: rest) a w:=by
 obtain ⟨i0,qi0,qz0,qz1,qz2⟩:=info_parts Tryz.infoInts
 have b:Own w base 22 1 v n (fun i _=>if i=n then r else R i):=h.congr fun i hi _ _=>by rw [if_neg (by omega)]
 refine zag w hgd sl x _ ho base 22 i0 _ 1 24 Tryz.underlying25 qi0 qz0 qz1 qz2 rfl (by omega) v n _ hv b ad c hx (fun j hj=>by
   obtain rfl:j=0:=by omega
   rw [if_pos rfl]
   exact hcell) (fun _ _=>by rw [if_pos rfl]; exact h1) (by unfold maxLen; omega) (by omega) hbase ?_
 intro v' w3 hown3 hg3 _
 exact K v' w3 hown3 hg3
theorem zbY {w:World} {ops:Array Oper} {rest:List Oper} {o:Oper} {a:Act} {Q:Exit->Act->World->Prop} (hgd:o.guard=none) (sl x:Operand)
  (ho:o.op=.call { callee:=.builtin .append,args:=#[sl,x],argTypes:=#[22, 22] }) (b0 o0:Nat) (hv:a.eval sl=.slice (some ⟨b0,o0,none⟩) 0 0)
  (A:Option Addr) (c:Nat) (hx:a.eval x=.slice A 0 c) (h:wpList Tryz.prog ops Q rest (a.put o.dst (.slice (some ⟨b0,o0,none⟩) 0 0)) w):wpList Tryz.prog ops Q (o :: rest) a w:=by
 obtain ⟨i0,qi0,qz0,qz1,qz2⟩:=info_parts Tryz.infoInt
 refine wpList_plain hgd fun K hK=>?_
 have b:=zaH (P:=Tryz.prog) w 22 o.type 3 i0 Tryz.underlying22 qi0 b0 o0 A c
 unfold Oper.wp execOp
 simp only [ho,resolve,invoke,builtin,Sem.run_bind,Sem.run_pure,Result.andThen_ok,List.map_toArray,List.map_cons,List.map_nil,hv,hx,b]
 exact hK _ _ h
theorem zgA (T:Option Addr) (n c:Nat) (W:Nat->Nat->Nat) (w:World) (h:MRows w T n 0 W) (hn:n<=1048576) :
  Calls Tryz.prog 224 #[.slice T n c] w fun e w'=>∃ A c',e=.returned (.slice A n c')/\n<=c'/\Below w.heap.size w w':=by
 have HR:=hid h
 have H0:Hid (∃ R:Nat->Value,Own w w.heap.size 22 1 (.slice none 0 0) 0 (fun i _=>R i)):=hid ⟨fun _=>undef,Own.nil _ _ _ _ _⟩
 clear h
 go_enter Tryz.func224, Tryz.ntmps224
 go_wp2
 obtain ⟨nv,k⟩:∃ x:Value,x=.slice none 0 0:=⟨_,rfl⟩
 rw [<-k] at H0 ⊢;clear k
 go_loopg [3,4] n (fun gg mv iv wx=>∃ i:Nat,iv=.int .i64 (i:Nat)/\i<=n/\n<=i+gg/\Hid (∃ R:Nat->Value,Own wx w.heap.size 22 1 mv i (fun i _=>R i))/\Below w.heap.size w wx)
 case atStart=>exact ⟨0,rfl,by omega,by omega,H0,Below.refl _ _⟩
 clear H0
 obtain ⟨i,rfl,hi,B,HM,hB⟩:=hrel
 have C:(0:Int)<=(i:Int):=by omega
 by_cases hlt:i<n
 rotate_left
 ·have g:¬ (i:Int)<(n:Int):=by omega
  obtain rfl:i=n:=by omega
  obtain ⟨R,hR⟩:=HM.out
  obtain ⟨A,c',rfl⟩:=hR.shape
  have u:=hR.capL
  go_wp2
  go_ret
  exact ⟨A,c',rfl,u.1,hB⟩
 have g:(i:Int)<(n:Int):=by omega
 obtain ⟨b,o,RA,rc,hT,hb,x0,_,_,s,_⟩:=HR.out i hlt
 subst hT
 have d:=aly wr (Obj.cells #[] 3)
 have j:=onS hB d
 have x1:=(j.cell (p:=⟨b,o+i,none⟩) hb).trans x0
 have x2:=(hB.cell (p:=⟨b,o+i,none⟩) hb).trans x0
 have a:Below (wr.alloc (Obj.cells #[] 3)).heap.size (wr.alloc (Obj.cells #[] 3)) ((wr.alloc (Obj.cells #[] 3)).alloc (Obj.cells #[.slice (some ⟨wr.heap.size,0,none⟩) 0 0] 22)):=(Below.refl _ _).alloc (Nat.le_refl _) _
 obtain ⟨R,hR⟩:=HM.out
 have m:=hid ((hR.on d).on a)
 have r:=hid (onS j a)
 have l:=hid r.out.size
 have y:Hid (((wr.alloc (Obj.cells #[] 3)).alloc (Obj.cells #[.slice (some ⟨wr.heap.size,0,none⟩) 0 0] 22)).cell? ((⟨wr.heap.size+1,0,none⟩:Addr).add 0)=some (.slice (some ⟨wr.heap.size,0,none⟩) 0 0)):=by
  have h1:(wr.alloc (Obj.cells #[] 3)).heap.size=wr.heap.size+1:=by simp
  rw [<-h1]
  exact hid tbox2
 have HL:Hid (i<=1048576):=by show _<=_; omega
 clear d a hR HM j
 go_upto_region 4 with (first | (at_builtin; (refine zbY rfl (.tmp 12) (.tmp 16) rfl wr.heap.size 0 rfl RA rc rfl ?_)) | (at_builtin; (refine zaT rfl (.tmp 11) (.tmp 18) rfl m.out rfl (ad:=⟨wr.heap.size+1,0,none⟩) (c:=1) rfl y.out rfl l.out HL.out ?_); intro v9 w9 o1 o2))
 have v:Hid (∃ R:Nat->Value,Own w9 w.heap.size 22 1 v9 (i+1) (fun i _=>R i)):=hid ⟨_,o1⟩
 have z:=hid (r.out.grown o2 l.out (fun q e=>(m.out.lt q e).1))
 clear o1 o2
 go_wp2
 go_roundg (gk - 1)
 case measure=>omega
 case rel=>exact ⟨i+1,by go_num,by omega,by omega,v,z.out⟩
theorem zgB (P M:Int) (A:Option Addr) (k c:Nat) (T:Option Addr) (n d:Nat) (W:Nat->Nat->Nat) (w:World) (h:MRows w T n 0 W) (hn:n<=1048576) :
  Calls Tryz.prog 191 #[.agg #[.int .i64 P,.int .i64 M,.slice A k c],.slice T n d,.int .i64 0] w fun e w'=>∃ A c',e=.returned (.tuple #[.slice A n c',.slice none 0 0])/\n<=c'/\Below w.heap.size w w':=by
 have HR:=hid h
 clear h
 have hB:=aly w (.cells #[.int .i64 P,.int .i64 M,.slice A k c] 24)
 obtain ⟨w0,a⟩:=exx (w.alloc (.cells #[.int .i64 P,.int .i64 M,.slice A k c] 24))
 rw [<-a] at hB
 have HB:=hid hB
 clear hB
 go_enter Tryz.func191, Tryz.ntmps191
 go_upto_region 1 with fail
 rw [<-a];clear a
 go_wp2_with fail
 refine (zgA T n d W w0 (IntRows.on HR.out HB.out) hn).mono ?_
 rintro e w1 ⟨A1,c1,rfl,b,kb⟩
 replace HB:=hid (onS HB.out kb)
 have i:=hid b
 clear kb b
 go_upto_region 5 with fail
 go_loopg [9,11] 0 (fun gg pv cv wx=>pv=.slice none 0 0/\cv=.int .i64 0/\wx=w1)
 case atStart=>exact ⟨rfl,rfl,rfl⟩
 obtain ⟨rfl,rfl,g⟩:=hrel
 obtain rfl:w1=wr:=g.symm
 go_wp2
 go_ret2
 exact ⟨A1,c1,rfl,i.out,HB.out⟩
theorem zfK (P M:Int) (A:Option Addr) (k c:Nat) (T:Option Addr) (n d:Nat) (W:Nat->Nat->Nat) (w:World) (h:MRows w T n 0 W) (hn:n<=1048576) :
  Calls Tryz.prog 136 #[.agg #[.int .i64 P,.int .i64 M,.slice A k c],.slice T n d,.int .i64 0] w fun e w'=>∃ v,e=.returned (.tuple #[v,.slice none 0 0])/\Below w.heap.size w w':=by
 have HR:=hid h
 clear h
 obtain ⟨w0,a,hB,rf⟩:=zaj w (.int .i64 P) (.int .i64 M) (.slice A k c) 24
 have HB:=hid hB
 clear hB
 go_enter Tryz.func136, Tryz.ntmps136
 go_upto_region 1 with fail
 rw [<-a];clear a
 have q0:=qc0 rf
 have q1:=qc1 rf
 have q2:=qc2 rf
 clear rf
 go_wp2_with fail
 refine (zgB P M A k c T n d W w0 (IntRows.on HR.out HB.out) hn).mono ?_
 rintro e w1 ⟨A1,c1,rfl,b,kb⟩
 replace HB:=hid (onS HB.out kb);clear kb q0 q1 q2
 have g:0<=c1:=Nat.zero_le _
 cases A1 with
 | none =>
  go_wp2
  go_ret2
  exact ⟨_,rfl,HB.out⟩
 | some a1 =>
  go_wp2
  go_ret2
  exact ⟨_,rfl,HB.out⟩
def RankIs (q:Nat) (add mul:Nat->Nat->Nat) (n:Nat) (V:Nat->Nat->Nat) (lo m a:Nat):Prop:=∃ p W,EchN q n m m a p W/\RowOps q add mul n m (fun i j=>V i (lo+j)) W
theorem zbL (P M:Nat) (m:Nat->Nat) (A:Option Addr) (k c N:Nat) (T:Option Addr) (n d:Nat) (V:Nat->Nat->Nat) (lo hi:Nat) (w:World) (h:CodeR w P M m A k N T n V) (hlh:lo<=hi) (hhN:hi<=N) :
  Calls Tryz.prog 72 #[.agg #[.int .i64 (P:Nat),.int .i64 (M:Nat),.slice A k c,.int .i64 (N:Nat),.slice T n d],.int .i64 (lo:Nat),.int .i64 (hi:Nat)] w fun e w'=>∃ a:Nat,e=.returned (.int .i64 (a:Nat))/\RankIs (P ^ M) (addF P M) (mulF P M m) n V lo (hi - lo) a/\Below w.heap.size w w':=by
 have HC:=hid h
 have ac:=h.ln2
 have ai:=h.n_le
 clear h
 obtain ⟨w1,J,hB,rf⟩:=zay w (.int .i64 (P:Nat)) (.int .i64 (M:Nat)) (.slice A k c) (.int .i64 (N:Nat)) (.slice T n d) 27
 go_enter Tryz.func72, Tryz.ntmps72
 go_upto_region 1 with fail
 rw [<-J];clear J
 obtain ⟨b0,D⟩:=exx w.heap.size
 rw [<-D] at rf;rw [<-D];clear D
 have H:Hid (∀ X,Below w1.heap.size w1 X->(X.cell? ⟨b0,0,none⟩=some (.int .i64 (P:Nat))/\X.cell? ⟨b0,1,none⟩=some (.int .i64 (M:Nat))/\X.cell? ⟨b0,2,none⟩=some (.slice A k c)/\X.cell? ⟨b0,3,none⟩=some (.int .i64 (N:Nat))/\X.cell? ⟨b0,4,none⟩=some (.slice T n d))):=hid fun X hx =>
  ⟨(zab rf hx).cell (i:=0) (by omega),(zab rf hx).cell (i:=1) (by omega),(zab rf hx).cell (i:=2) (by omega),(zab rf hx).cell (i:=3) (by omega),(zab rf hx).cell (i:=4) (by omega)⟩
 have HB:=hid hB
 clear hB rf
 go_upto_region 2 with fail
 have kb:=(Below.refl w1.heap.size w1).alloc (Nat.le_refl _) (Obj.cells #[] 22)
 have HO:Hid (Own (w1.alloc (Obj.cells #[] 22)) w1.heap.size 22 1 (.slice (some ⟨w1.heap.size,0,none⟩) 0 0) 0 (fun _ _=>undef)):=hid (Own.new (Nat.le_refl _) (Nat.le_refl _) (by unfold maxLen; omega) (by simp) fun k hk=>absurd hk (by omega))
 obtain ⟨w2,I⟩:=exx (w1.alloc (Obj.cells #[] 22))
 rw [<-I] at HO kb ⊢
 obtain ⟨v0,K⟩:∃ v:Value,v=.slice (some ⟨w1.heap.size,0,none⟩) 0 0:=⟨_,rfl⟩
 rw [<-K] at HO ⊢
 have K2:=hid kb
 clear kb I K
 go_upto_region 3 with fail
 go_loopg [7,8] n (fun gg tv iv wx=>∃ (i:Nat) (R:Nat->Value),iv=.int .i64 (i:Nat)/\i<=n/\n<=i+gg/\Hid (Own wx w1.heap.size 22 1 tv i (fun u _=>R u))/\Hid (∀ u,u<i->∃ X c,R u=.slice X (hi - lo) c/\hi - lo<=c/\c<=maxLen/\IntsR w1 w1.heap.size X (hi - lo) (fun j=>((V u (lo+j):Nat):Int)))/\Below w1.heap.size w1 wx)
 case atStart=>exact ⟨0,fun _=>undef,rfl,by omega,by omega,HO,hid fun _ h=>absurd h (by omega),K2.out⟩
 clear HO K2
 obtain ⟨i,R,rfl,al,aj,HO,E,U⟩:=hrel
 have ak:(0:Int)<=(i:Int):=by omega
 have K2:=hid U
 obtain ⟨w3,a4⟩:=exx wr
 subst a4
 clear U
 obtain ⟨q0,q1,q2,q3,q4⟩:=H.out _ K2.out
 by_cases hin:i<n
 ·have C:(i:Int)<(n:Int):=by omega
  obtain ⟨pb,po,RA,rc,aa,_,x0,s,S,g,z⟩:=(HC.out.on HB.out).rows i hin
  subst aa
  have g:IntsR w1 w1.heap.size RA N (fun j=>((V i j:Nat):Int)):=g
  replace x0:=cellS K2.out x0
  have s:N<=rc:=s
  have am:=HC.out.ln1
  obtain ⟨ab,ao,ae,_,_⟩:=g.at (i:=0) (by omega)
  subst ae
  have a7:(0:Int)<=(lo:Int):=by omega
  have Q:(lo:Int)<=(hi:Int):=by omega
  have a8:(hi:Int)<=(rc:Int):=by omega
  have F:=hid g
  have y:Hid (∀ v:Value,Below w3.heap.size w3 (w3.alloc (Obj.cells #[v] 22))):=hid fun v=>(Below.refl _ _).alloc (Nat.le_refl _) _
  have Y:Hid (∀ v:Value,Own (w3.alloc (Obj.cells #[v] 22)) w1.heap.size 22 1 u7 i (fun u _=>R u)):=hid fun v=>HO.out.on (y.out v)
  have x:Hid (∀ v:Value,w1.heap.size<=(w3.alloc (Obj.cells #[v] 22)).heap.size):=hid fun v=>Nat.le_trans K2.out.size (y.out v).size
  have a2:Hid (i<=1048576):=by show _<=_; omega
  have ag:Hid (rc<=maxLen):=hid S
  have G:Hid (N<=rc):=hid s
  clear g z s S
  by_cases hcl:lo=rc
  focus
   subst hcl
   go_upto_region 4 with (first | (at_builtin; (refine zaT rfl (.tmp 19) (.tmp 28) rfl (Y.out _) rfl (ad:=⟨w3.heap.size,0,none⟩) (c:=1) rfl tbox2 rfl (x.out _) a2.out ?_); intro v9 w9 o1 o2))
   have a1:=hid o1
   have a3:=hid (Below.grown (onS K2.out (y.out _)) o2 (x.out _) (fun q e=>(HO.out.lt q e).1))
   have r:Hid (∀ u,u<i+1->∃ X c,(if u=i then Value.slice (some ⟨ab,ao,none⟩) (hi - lo) 0 else R u)=.slice X (hi - lo) c/\hi - lo<=c/\c<=maxLen/\IntsR w1 w1.heap.size X (hi - lo) (fun j=>((V u (lo+j):Nat):Int))):=hid fun u hu=>by
    by_cases e:u=i
    ·refine ⟨_,_,if_pos e,by have:=G.out; omega,by unfold maxLen; omega,fun j hj=>absurd hj (by have:=G.out; omega)⟩
    ·rw [if_neg e]
     exact E.out u (by omega)
  rotate_left
  focus
   have a9:¬ rc=lo:=fun h=>hcl h.symm
   go_upto_region 4 with (first | (at_builtin; (refine zaT rfl (.tmp 19) (.tmp 28) rfl (Y.out _) rfl (ad:=⟨w3.heap.size,0,none⟩) (c:=1) rfl tbox2 rfl (x.out _) a2.out ?_); intro v9 w9 o1 o2))
   have a1:=hid o1
   have a3:=hid (Below.grown (onS K2.out (y.out _)) o2 (x.out _) (fun q e=>(HO.out.lt q e).1))
   have r:Hid (∀ u,u<i+1->∃ X c,(if u=i then Value.slice (some ⟨ab,ao+lo,none⟩) (hi - lo) (rc - lo) else R u)=.slice X (hi - lo) c/\hi - lo<=c/\c<=maxLen/\IntsR w1 w1.heap.size X (hi - lo) (fun j=>((V u (lo+j):Nat):Int))):=hid fun u hu=>by
    by_cases e:u=i
    ·refine ⟨_,_,if_pos e,by have:=G.out; omega,by have:=ag.out; omega,?_⟩
     rw [e]
     exact zgy (zgz F.out (by omega)) (by omega)
    ·rw [if_neg e]
     exact E.out u (by omega)
  rotate_left
  all_goals
   clear o1 o2 q0 q1 q2 q3 q4 x0
   go_wp2
   go_roundg (gk - 1)
   case measure=>omega
   case rel=>exact ⟨i+1,_,by go_num,by omega,by omega,a1,r,a3.out⟩
 have C:¬ (i:Int)<(n:Int):=by omega
 obtain rfl:i=n:=by omega
 obtain ⟨tA,tc,hT⟩:=HO.out.shape
 subst hT
 obtain ⟨m1,B⟩:=exx (hi - lo)
 have a5:wrap64 ((hi:Int) - (lo:Int))=(m1:Int):=by unfold wrap64; omega
 have L:IntKind.i64.wrap ((hi:Int) - (lo:Int))=(m1:Int):=by rw [IntWalk.i64_in _ (by omega)]; omega
 have Z:Hid (MRows w3 tA i m1 (fun u j=>V u (lo+j))):=hid fun u hu=>by
  obtain ⟨X,cc,hR,h1,h2,h3⟩:=E.out u hu
  obtain ⟨b,off,e,hb,l⟩:=HO.out.rd rfl u hu
  have o:=l 0 (by omega)
  rw [Nat.mul_one,Nat.add_zero] at o
  have o:w3.cell? ⟨b,off+u,none⟩=some (R u):=o
  rw [hR] at o
  subst B
  exact ⟨b,off,X,cc,e,hb,o,h1,h2,h3.on K2.out,fun j hj=>by
   have hj:j<hi - lo:=hj
   have:=HC.out.lt u hu (lo+j) (by omega)
   show -9223372036854775808<=((V u (lo+j):Nat):Int)/\((V u (lo+j):Nat):Int)<=9223372036854775807
   have:=HC.out.fld.1.2.2.2
   omega⟩
 have ah:Hid (∀ u,u<i->∀ j,j<m1->V u (lo+j)<P ^ M):=hid fun u hu j hj=>HC.out.lt u hu _ (by omega)
 have a6:m1<=64:=by omega
 have a0:=hid B
 clear B
 go_wp2_with fail
 by_cases hz:m1=0
 ·subst hz
  refine (zfK (P:Int) (M:Int) A k c tA i tc _ w3 Z.out (by omega)).mono ?_
  rintro e w4 ⟨v,rfl,kb⟩
  have K3:=hid (onS HB.out (onS K2.out kb))
  clear kb q0 q1 q2 q3 q4
  go_wp2
  go_ret
  rw [<-a0.out]
  refine ⟨0,rfl,⟨fun _=>0,fun u j=>V u (lo+j),?_,.refl⟩,K3.out⟩
  exact ⟨Nat.zero_le _,fun u hu j hj=>absurd hj (by omega),fun _ _ _ h=>absurd h (by omega),fun _ h=>absurd h (by omega),fun _ h=>absurd h (by omega),fun _ h=>absurd h (by omega),fun _ h=>absurd h (by omega),fun u _ _ j hj=>absurd hj (by omega)⟩
 have h1:=HC.out.on (onS HB.out K2.out)
 refine (zez P M A k c m tA i tc m1 m1 (fun u j=>V u (lo+j)) w3 h1.fld h1.mod h1.km Z.out ah.out (Nat.le_refl _) (by omega) (by omega) (by omega)).mono ?_
 rintro e w4 ⟨lv,pv,a,p,W,rfl,_,O,kb,hE,hR⟩
 obtain ⟨pA,pc,rfl⟩:=O.shape
 have K3:=hid (onS HB.out (onS K2.out kb))
 have af:Hid (RankIs (P ^ M) (addF P M) (mulF P M m) i V lo m1 a):=hid ⟨p,W,hE,hR⟩
 clear kb q0 q1 q2 q3 q4 O hE hR h1 hz
 go_wp2
 go_ret
 rw [<-a0.out]
 exact ⟨a,rfl,af.out,K3.out⟩
def RanksTo (q:Nat) (add mul:Nat->Nat->Nat) (n N:Nat) (V:Nat->Nat->Nat) (t:Nat) (ra rb:Nat->Nat):Prop:=∀ i,i<t->RankIs q add mul n V 0 i (ra i)/\RankIs q add mul n V i (N - i) (rb i)
theorem RankIs.le {q:Nat} {add mul:Nat->Nat->Nat} {n:Nat} {V:Nat->Nat->Nat} {lo m a:Nat} (h:RankIs q add mul n V lo m a):a<=n:=by
 obtain ⟨p,W,hE,_⟩:=h
 exact hE.le
def ProfPost (q:Nat) (add mul:Nat->Nat->Nat) (n N:Nat) (V:Nat->Nat->Nat) (w:World) (e:Ending) (w':World):Prop :=
 ∃ g ra rb,e=.returned (.slice (some ⟨g,0,none⟩) (N+1) (N+1))/\w.heap.size<=g/\w'.rowIs g 3 (N+1) (fun i=>.int .i64 (((ra i+rb i:Nat):Int) - (n:Nat)))/\RanksTo q add mul n N V (N+1) ra rb/\Below w.heap.size w w'
theorem zfL (P M:Nat) (m:Nat->Nat) (A:Option Addr) (k c N:Nat) (T:Option Addr) (n d:Nat) (V:Nat->Nat->Nat) (w:World) (h:CodeR w P M m A k N T n V) :
  Calls Tryz.prog 28 #[.agg #[.int .i64 (P:Nat),.int .i64 (M:Nat),.slice A k c,.int .i64 (N:Nat),.slice T n d]] w (ProfPost (P ^ M) (addF P M) (mulF P M m) n N V w):=by
 have HC:=hid h
 have Y:=h.ln2
 have a6:=h.n_le
 clear h
 obtain ⟨w1,F,hB,rf⟩:=zay w (.int .i64 (P:Nat)) (.int .i64 (M:Nat)) (.slice A k c) (.int .i64 (N:Nat)) (.slice T n d) 27
 have B:wrap64 ((N:Int)+1)=(N:Int)+1:=by unfold wrap64; omega
 have y:IntKind.i64.wrap ((N:Int)+1)=(N:Int)+1:=IntWalk.i64_in _ (by omega)
 have G:=fun W=>zaf (P:=Tryz.prog) 22 3 _ 8 Tryz.underlying22 Tryz.infoInt rfl ((N:Int)+1) (by omega) (by omega) (by omega) W
 simp only [show ((N:Int)+1).toNat=N+1 by omega] at G
 go_enter Tryz.func28, Tryz.ntmps28
 go_upto_region 1 with fail
 rw [<-F];clear F
 obtain ⟨b0,q⟩:=exx w.heap.size
 rw [<-q] at rf;rw [<-q];clear q
 have g:Hid (∀ X,Below w1.heap.size w1 X->(X.cell? ⟨b0,0,none⟩=some (.int .i64 (P:Nat))/\X.cell? ⟨b0,1,none⟩=some (.int .i64 (M:Nat))/\X.cell? ⟨b0,2,none⟩=some (.slice A k c)/\X.cell? ⟨b0,3,none⟩=some (.int .i64 (N:Nat))/\X.cell? ⟨b0,4,none⟩=some (.slice T n d))):=hid fun X hx =>
  ⟨(zab rf hx).cell (i:=0) (by omega),(zab rf hx).cell (i:=1) (by omega),(zab rf hx).cell (i:=2) (by omega),(zab rf hx).cell (i:=3) (by omega),(zab rf hx).cell (i:=4) (by omega)⟩
 have HB:=hid hB
 have D:Hid (b0<w1.heap.size):=hid rf.lt
 clear hB rf
 obtain ⟨q0,q1,q2,q3,q4⟩:=g.out _ (Below.refl _ _)
 go_upto_region 2 with fail
 clear q0 q1 q2 q3 q4
 have rz:World.rowIs (World.alloc w1 (Obj.cells (madeCells #[Value.int .i64 0] (N+1)) 3)) w1.heap.size 3 (N+1) (fun _=>.int .i64 0):=World.rowIs_made _ (.int .i64 0) (N+1) 3
 have kb:=aly w1 (Obj.cells (madeCells #[Value.int .i64 0] (N+1)) 3)
 obtain ⟨w2,E⟩:=exx (World.alloc w1 (Obj.cells (madeCells #[Value.int .i64 0] (N+1)) 3))
 rw [<-E] at rz kb ⊢
 obtain ⟨go,s⟩:=exx w1.heap.size
 have x:w.heap.size<=go:=by rw [s]; exact HB.out.size
 have J:=hid s
 rw [<-s] at rz ⊢
 have K2:=hid kb
 clear kb E s G B y
 go_upto_region 3 with fail
 go_loopg [4] (N+1) (fun gg iv wx=>∃ (i:Nat) (ra rb:Nat->Nat),iv=.int .i64 (i:Nat)/\i<=N+1/\N+1<=i+gg/\Hid (RanksTo (P ^ M) (addF P M) (mulF P M m) n N V i ra rb)/\Hid (wx.rowIs go 3 (N+1) (fun t=>.int .i64 (if t<i then ((ra t+rb t:Nat):Int) - (n:Nat) else 0)))/\Below w1.heap.size w1 wx)
 case atStart=>exact ⟨0,fun _=>0,fun _=>0,rfl,by omega,by omega,hid fun _ h=>absurd h (by omega),rz.congr fun t _=>by rw [if_neg (by omega)],K2.out⟩
 clear rz K2
 obtain ⟨i,ra,rb,rfl,hi,a7,I,l,H⟩:=hrel
 have a8:(0:Int)<=(i:Int):=by omega
 have K2:=hid H
 obtain ⟨w3,L⟩:=exx wr
 subst L
 clear H
 by_cases hin:i<=N
 rotate_left
 ·have v:¬ (i:Int)<=(N:Int):=by omega
  obtain rfl:i=N+1:=by omega
  obtain ⟨q0,q1,q2,q3,q4⟩:=g.out _ K2.out
  have HF:Hid (w3.rowIs go 3 (N+1) (fun t=>.int .i64 (((ra t+rb t:Nat):Int) - (n:Nat)))):=hid (l.out.congr fun t ht=>by rw [if_pos ht])
  go_wp2
  go_ret
  exact ⟨go,ra,rb,rfl,x,HF.out,I.out,onS HB.out K2.out⟩
 have v:(i:Int)<=(N:Int):=by omega
 obtain ⟨q0,q1,q2,q3,q4⟩:=g.out _ K2.out
 go_upto_region 5 with fail
 clear q0 q1 q2 q3 q4
 refine wp_region_held_drew (S:=fun X=>(X.cell? ⟨b0,0,none⟩=some (.int .i64 (P:Nat))/\X.cell? ⟨b0,1,none⟩=some (.int .i64 (M:Nat))/\X.cell? ⟨b0,2,none⟩=some (.slice A k c)/\X.cell? ⟨b0,3,none⟩=some (.int .i64 (N:Nat))/\X.cell? ⟨b0,4,none⟩=some (.slice T n d))) (by kernel_rfl) (g.out _ (onS K2.out (Below.refl _ _).drew)) (fun hHeld=>?_)
 obtain ⟨w4,hw,kb⟩:=dwx w3
 rw [<-hw] at hHeld ⊢;clear hw
 have K3:=hid kb
 clear kb
 refine tkq 0 (h:=tkq 1 (h:=tkq 2 (h:=tkq 3 (h:=tkq 5 (h:=tkq 6 (h:=tkq 7 (h:=tkq 8 (h:=tkq 11 (h:=tkq 12 (h:=tkq 13 (h:=?_)))))))))))
 clear hHeld
 refine rdq 4 (h:=fun K hK=>?_)
 go_simp
 go_wp2_with fail
 refine (zbL P M m A k c N T n d V 0 i w4 (HC.out.on (onS HB.out (onS K2.out K3.out))) (Nat.zero_le _) hin).mono ?_
 rintro e w5 ⟨a,rfl,ha,kb⟩
 have a5:=hid ha
 have aa:=ha.le
 replace K3:=hid (onS K3.out kb);clear kb ha
 refine bkq hK (g.out _ (onS K2.out K3.out)) (h:=fun hHeld=>?_)
 clear hK K hHeld
 refine rdq 9 (h:=fun K hK=>?_)
 go_simp
 go_wp2_with fail
 refine (zbL P M m A k c N T n d V i N w5 (HC.out.on (onS HB.out (onS K2.out K3.out))) hin (Nat.le_refl _)).mono ?_
 rintro e w6 ⟨b,rfl,hb,kb⟩
 have Z:=hid hb
 have a9:=hb.le
 replace K3:=hid (onS K3.out kb);clear kb hb
 refine bkq hK (g.out _ (onS K2.out K3.out)) (h:=fun hHeld=>?_)
 clear hK K
 have U:wrap64 ((a:Int)+(b:Int))=(a:Int)+(b:Int):=by unfold wrap64; omega
 have R:IntKind.i64.wrap ((a:Int)+(b:Int))=(a:Int)+(b:Int):=IntWalk.i64_in _ (by omega)
 obtain ⟨z,hz⟩:∃ z:Int,z=((a+b:Nat):Int) - (n:Nat):=⟨_,rfl⟩
 have Q:wrap64 ((a:Int)+(b:Int) - (n:Int))=z:=by unfold wrap64; omega
 have O:IntKind.i64.wrap ((a:Int)+(b:Int) - (n:Int))=z:=by rw [IntWalk.i64_in _ (by omega)]; omega
 have ac:(i:Int)<((N+1:Nat):Int):=by omega
 have ab:(i:Int)<(N:Int)+1:=by omega
 have HZ:=hid hz
 clear hz
 refine tkq 10 (h:=tkq 14 (h:=tkq 15 (h:=?_)))
 clear hHeld U R Q O
 refine rdq 16 (h:=fun K hK=>?_)
 have u0:=(zab l.out K3.out).cell (i:=i) (by omega)
 have u1:=(zab l.out K3.out).frozen i
 go_simp
 clear u0 u1
 have j:=(zab l.out K3.out).set i (.int .i64 z)
 have kb:=(onS K2.out K3.out).setCell (p:=⟨go,i,none⟩) (by show _<=go; rw [J.out]; exact Nat.le_refl _) (.int .i64 z)
 have q:=g.out _ (onS K2.out K3.out)
 have o:b0≠go:=by rw [J.out]; exact Nat.ne_of_lt D.out
 obtain ⟨a0,a1,a2,a3,a4⟩:=q
 replace a0:=zaa (p:=⟨go,i,none⟩) (u:=.int .i64 z) a0 o;replace a1:=zaa (p:=⟨go,i,none⟩) (u:=.int .i64 z) a1 o;replace a2:=zaa (p:=⟨go,i,none⟩) (u:=.int .i64 z) a2 o;replace a3:=zaa (p:=⟨go,i,none⟩) (u:=.int .i64 z) a3 o;replace a4:=zaa (p:=⟨go,i,none⟩) (u:=.int .i64 z) a4 o
 obtain ⟨w7,hw⟩:=exx (w6.setCell ⟨go,i,none⟩ (.int .i64 z))
 rw [<-hw] at j kb a0 a1 a2 a3 a4 ⊢
 have r:Hid (w7.rowIs go 3 (N+1) (fun t=>.int .i64 (if t<i+1 then (((if t=i then a else ra t)+(if t=i then b else rb t):Nat):Int) - (n:Nat) else 0))):=hid (j.congr fun t _=>by
  by_cases et:t=i
  ·rw [if_pos et,if_pos (by omega),if_pos et,if_pos et,HZ.out]
  have h1:(t<i)↔(t<i+1):=by omega
  rw [if_neg et,if_neg et,if_neg et]
  simp only [h1])
 have C:Hid (RanksTo (P ^ M) (addF P M) (mulF P M m) n N V (i+1) (fun t=>if t=i then a else ra t) (fun t=>if t=i then b else rb t)):=hid fun t ht=>by
  by_cases et:t=i
  ·subst et
   simp only [if_true]
   exact ⟨a5.out,Z.out⟩
  ·simp only [if_neg et]
   exact I.out t (by omega)
 have K9:=hid kb
 clear j kb hw o
 refine bkq hK ⟨a0,a1,a2,a3,a4⟩ (h:=fun hHeld=>?_)
 clear hK K a0 a1 a2 a3 a4
 refine wpAnyH_done (by kernel_rfl) ?_ _
 clear hHeld
 go_wp2
 go_roundg (gk - 1)
 case measure=>omega
 case rel=>exact ⟨i+1,_,_,by go_num,by omega,by omega,C,r,K9.out⟩
def cntB (D:Nat->Bool):Nat->Nat
 | 0=>0
 | n+1=>cntB D n+if D n then 1 else 0
theorem zif (D:Nat->Bool):∀ n,cntB D n<=n
 | 0=>Nat.le_refl _
 | n+1=>by
  have:=zif D n
  show cntB D n+(if D n then 1 else 0)<=n+1
  split <;> omega
theorem zdD {D E:Nat->Bool}:∀ n,(∀ s,s<n->D s=E s)->cntB D n=cntB E n
 | 0,_=>rfl
 | n+1,h=>by
  show cntB D n+(if D n then 1 else 0)=cntB E n+if E n then 1 else 0
  rw [zdD n fun s hs=>h s (by omega),h n (by omega)]
theorem zc9 {A B:Nat->Bool}:∀ n,(∀ s,s<n->A s=true∨B s=true)->cntB A n+cntB B n=cntB (fun s=>A s && B s) n+n
 | 0,_=>rfl
 | n+1,h=>by
  have ih:=zc9 n fun s hs=>h s (by omega)
  have h1:=h n (by omega)
  show cntB A n+(if A n then 1 else 0)+(cntB B n+if B n then 1 else 0)=cntB (fun s=>A s && B s) n+(if (A n && B n) then 1 else 0)+(n+1)
  cases hA:A n <;> cases hB:B n
  ·rw [hA,hB] at h1; simp at h1
  ·simp; omega
  ·simp; omega
  ·simp; omega
def packB (q:Nat) (D:Nat->Bool) (c:Nat->Nat):Nat->Nat
 | 0=>0
 | n+1=>if D n then packB q D c n*q+c n else packB q D c n
theorem zbC {q:Nat} {D:Nat->Bool} {c:Nat->Nat}:∀ n,(∀ s,s<n->c s<q)->packB q D c n<q ^ cntB D n
 | 0,_=>by show 0<q ^ 0; simp
 | n + 1, h => by
  have ih:=zbC (D:=D) n fun s hs=>h s (by omega)
  have h1:=h n (by omega)
  show (if D n then packB q D c n*q+c n else packB q D c n)<q ^ (cntB D n+if D n then 1 else 0)
  split
  ·rw [Nat.pow_succ]
   have:=Nat.mul_le_mul_right q (show packB q D c n+1<=q ^ cntB D n from ih)
   rw [Nat.add_mul,Nat.one_mul] at this
   omega
  ·exact ih
theorem zcg {q:Nat} {D:Nat->Bool} {c c':Nat->Nat}:∀ n,(∀ s,s<n->c s<q)->(∀ s,s<n->c' s<q)->packB q D c n=packB q D c' n->∀ s,s<n->D s=true->c s=c' s
 | 0,_,_,_,s,hs,_=>absurd hs (by omega)
 | n + 1, h, h', e, s, hs, hD => by
  have e:(if D n then packB q D c n*q+c n else packB q D c n)=if D n then packB q D c' n*q+c' n else packB q D c' n:=e
  have h1:=h n (by omega)
  have h2:=h' n (by omega)
  have ih:=zcg (D:=D) (c:=c) (c':=c') n (fun s hs=>h s (by omega)) (fun s hs=>h' s (by omega))
  by_cases hn:D n=true
  ·rw [if_pos hn,if_pos hn] at e
   have e1:c n=c' n:=by
    have:=congrArg (· % q) e
    simp only [Nat.mul_add_mod_self_right,Nat.mod_eq_of_lt h1,Nat.mod_eq_of_lt h2] at this
    exact this
   have e2:packB q D c n=packB q D c' n:=by
    rw [e1] at e
    exact Nat.eq_of_mul_eq_mul_right (show 0<q by omega) (by omega)
   by_cases en:s=n
   ·rw [en]; exact e1
   ·exact ih e2 s (by omega) hD
  ·rw [if_neg hn,if_neg hn] at e
   by_cases en:s=n
   ·rw [en] at hD; exact absurd hD hn
   ·exact ih e s (by omega) hD
theorem zbw {q:Nat} {D:Nat->Bool} {c c':Nat->Nat}:∀ n,(∀ s,s<n->D s=true->c s=c' s)->packB q D c n=packB q D c' n
 | 0,_=>rfl
 | n+1,h=>by
  show (if D n then packB q D c n*q+c n else packB q D c n)=if D n then packB q D c' n*q+c' n else packB q D c' n
  rw [zbw n fun s hs=>h s (by omega)]
  by_cases hn:D n=true
  ·rw [if_pos hn,if_pos hn,h n (by omega) hn]
  ·rw [if_neg hn,if_neg hn]
theorem zaM {q:Nat} (hq:0<q) {D:Nat->Bool}:∀ n y,y<q ^ cntB D n->∃ c:Nat->Nat,(∀ s,c s<q)/\(∀ s,D s=false->c s=0)/\packB q D c n=y
 | 0,y,h=>by
  have h:y<q ^ 0:=h
  rw [Nat.pow_zero] at h
  exact ⟨fun _=>0,fun _=>hq,fun _ _=>rfl,by show 0=y; omega⟩
 | n + 1, y, h => by
  have h:y<q ^ (cntB D n+if D n then 1 else 0):=h
  by_cases hn:D n=true
  ·rw [if_pos hn,Nat.pow_succ] at h
   obtain ⟨c,h1,h2,h3⟩:=zaM hq (D:=D) n (y / q) (Nat.div_lt_of_lt_mul (by rw [Nat.mul_comm]; exact h))
   refine ⟨fun s=>if s=n then y % q else c s,fun s=>?_,fun s hs=>?_,?_⟩
   ·show (if s=n then y % q else c s)<q
    split
    ·exact Nat.mod_lt _ hq
    ·exact h1 s
   ·show (if s=n then y % q else c s)=0
    rw [if_neg (fun e=>by rw [e,hn] at hs; cases hs)]
    exact h2 s hs
   ·show (if D n then packB q D (fun s=>if s=n then y % q else c s) n*q+(if n=n then y % q else c n) else _)=y
    rw [if_pos hn,if_pos rfl,zbw (c':=c) n fun s hs _=>if_neg (by omega),h3]
    exact Nat.div_add_mod' y q
  ·rw [if_neg hn,Nat.add_zero] at h
   obtain ⟨c,h1,h2,h3⟩:=zaM hq (D:=D) n y h
   refine ⟨c,h1,h2,?_⟩
   show (if D n then packB q D c n*q+c n else packB q D c n)=y
   rw [if_neg hn]; exact h3
section
variable {q n N:Nat} {add mul:Nat->Nat->Nat}
theorem zfM (hL:FieldLaws q add mul) {x y z:Nat} (hx:x<q) (hy:y<q) (hz:z<q) (h:add x y=add x z):y=z:=by
 obtain ⟨w,hw,e⟩:=hL.neg x hx
 have h2:add w (add x y)=add w (add x z):=by rw [h]
 rw [<-hL.addAssoc w x y hw hx hy,<-hL.addAssoc w x z hw hx hz,hL.addComm w x,e,hL.zeroAdd y hy,hL.zeroAdd z hz] at h2
 exact h2
theorem zfN (hL:FieldLaws q add mul) {R:Nat->Nat->Nat} {c c':Nat->Nat} {j s:Nat}:∀ n,s<n->(∀ t,t<n->t≠s->mul (c t) (R t j)=mul (c' t) (R t j))->spE add mul R c n j=spE add mul R c' n j->mul (c s) (R s j)=mul (c' s) (R s j)
 | 0,h,_,_=>absurd h (by omega)
 | n + 1, h, ht, e => by
  have e:add (spE add mul R c n j) (mul (c n) (R n j))=add (spE add mul R c' n j) (mul (c' n) (R n j)):=e
  by_cases hn:s=n
  ·subst hn
   have h1:∀ m,m<=s->spE add mul R c m j=spE add mul R c' m j:=by
    intro m
    induction m with
    | zero=>intro _; rfl
    | succ m ih =>
     intro hm
     show add (spE add mul R c m j) (mul (c m) (R m j))=add (spE add mul R c' m j) (mul (c' m) (R m j))
     rw [ih (by omega),ht m (by omega) (by omega)]
   rw [h1 s (Nat.le_refl _)] at e
   exact zfM hL (zaZ hL _ _ _) (hL.mulLt _ _) (hL.mulLt _ _) e
  ·rw [ht n (by omega) (by omega),hL.addComm _ (mul (c' n) (R n j)),hL.addComm _ (mul (c' n) (R n j))] at e
   exact zfN hL n (by omega) (fun t h1 h2=>ht t (by omega) h2) (zfM hL (hL.mulLt _ _) (zaZ hL _ _ _) (zaZ hL _ _ _) e)
theorem zcs {R:Nat->Nat->Nat} {c c':Nat->Nat} {j:Nat}:∀ n,(∀ t,t<n->mul (c t) (R t j)=mul (c' t) (R t j))->spE add mul R c n j=spE add mul R c' n j
 | 0,_=>rfl
 | n+1,h=>by
  show add (spE add mul R c n j) (mul (c n) (R n j))=add (spE add mul R c' n j) (mul (c' n) (R n j))
  rw [zcs n fun t ht=>h t (by omega),h n (by omega)]
theorem zgC (hL:FieldLaws q add mul) {x y z:Nat} (hx:x<q) (hy:y<q) (hz:z<q) (hz0:z≠0) (h:mul x z=mul y z):x=y:=by
 obtain ⟨v,hv,e⟩:=hL.inv z hz hz0
 have h2:mul (mul x z) v=mul (mul y z) v:=by rw [h]
 rw [hL.mulAssoc x z v hx hz hv,hL.mulAssoc y z v hy hz hv,e,hL.mulOne hx,hL.mulOne hy] at h2
 exact h2
theorem zda {V:Nat->Nat->Nat} {c:Nat->Nat} {lo j:Nat}:∀ n,spE add mul (fun i j=>V i (lo+j)) c n j=spE add mul V c n (lo+j)
 | 0=>rfl
 | n+1=>by
  show add (spE add mul (fun i j=>V i (lo+j)) c n j) (mul (c n) (V n (lo+j)))=add (spE add mul V c n (lo+j)) (mul (c n) (V n (lo+j)))
  rw [zda n]
theorem SameSp.cut {V R:Nat->Nat->Nat} {n' lo m:Nat} (h:SameSp q add mul N n n' V R) (hlm:lo+m<=N):SameSp q add mul m n n' (fun i j=>V i (lo+j)) (fun i j=>R i (lo+j)):=by
 have a:∀ {n n':Nat} {V R:Nat->Nat->Nat},(∀ x,InSp q add mul n N V x->InSp q add mul n' N R x)->∀ x,InSp q add mul n m (fun i j=>V i (lo+j)) x->InSp q add mul n' m (fun i j=>R i (lo+j)) x:=fun {n n' V R} h x ⟨c,hc,hx⟩=>by
  obtain ⟨c2,d,b⟩:=h (spE add mul V c n) ⟨c,hc,fun _ _=>rfl⟩
  refine ⟨c2,d,fun j hj=>?_⟩
  rw [hx j hj,zda,zda,b (lo+j) (by omega)]
 exact fun x=>⟨a (fun x=>(h x).1) x,a (fun x=>(h x).2) x⟩
theorem zdb (hL:FieldLaws q add mul) {m a:Nat} {R W:Nat->Nat->Nat} {p:Nat->Nat} {D:Nat->Bool} {κ μ:Nat->Nat} (hR:∀ s,s<n->∀ j,j<m->R s j<q)
  (hE:EchN q a m m a p W) (hS:SameSp q add mul m n a R W)
  (hκ:∀ s,s<n->D s=true->κ s<m/\R s (κ s)≠0) (htri:∀ s t,s<n->t<n->D s=true->t≠s->R t (κ s)=0∨(D t=true/\μ t<μ s)) (hz:∀ s,s<n->D s=false->∀ j,j<m->R s j=0) :
  a=cntB D n:=by
 have l:=hL.two
 have hq:0<q:=by omega
 have uniq:∀ c c':Nat->Nat,(∀ s,s<n->c s<q)->(∀ s,s<n->c' s<q)->(∀ j,j<m->spE add mul R c n j=spE add mul R c' n j)->∀ b s,μ s<b->s<n->D s=true->c s=c' s:=fun c c' hc hc' h b=>by
  induction b with
  | zero=>intro s hb; omega
  | succ b ih =>
   intro s hb hs hD
   obtain ⟨k1,k2⟩:=hκ s hs hD
   have e:=zfN hL (R:=R) (c:=c) (c':=c') (j:=κ s) (s:=s) n hs (fun t ht d=>by
    rcases htri s t hs ht hD d with e | ⟨e1,e2⟩
    ·rw [e,hL.mulZero (hc t ht),hL.mulZero (hc' t ht)]
    ·rw [ih t (by omega) ht e1]) (h _ k1)
   exact zgC hL (hc s hs) (hc' s hs) (hR s hs _ k1) k2 e
 have uniq2:∀ c c':Nat->Nat,(∀ s,s<n->c s<q)->(∀ s,s<n->c' s<q)->(∀ j,j<m->spE add mul R c n j=spE add mul R c' n j)->∀ s,s<n->D s=true->c s=c' s:=fun c c' hc hc' h s hs hD=>uniq c c' hc hc' h (μ s+1) s (by omega) hs hD
 have same:∀ c c':Nat->Nat,(∀ s,s<n->c s<q)->(∀ s,s<n->c' s<q)->(∀ s,s<n->D s=true->c s=c' s)->∀ j,j<m->spE add mul R c n j=spE add mul R c' n j:=fun c c' hc hc' h j hj=>zcs n fun t ht=>by
  cases hD:D t with
  | true=>rw [h t ht hD]
  | false=>rw [hz t ht hD j hj,hL.mulZero (hc t ht),hL.mulZero (hc' t ht)]
 have pw:∀ i,∃ c,(∀ s,s<n->c s<q)/\∀ j,j<m->spE add mul W (msgD q a i) a j=spE add mul R c n j:=fun i=>by
  obtain ⟨c,hc,hx⟩:=(hS (spE add mul W (msgD q a i) a)).2 ⟨msgD q a i,fun _ _=>zdA hq,fun _ _=>rfl⟩
  exact ⟨c,hc,hx⟩
 have le1:q ^ a<=q ^ cntB D n:=by
  refine pigeon (f:=fun i=>packB q D (pw i).choose n) (fun i _=>zbC n (pw i).choose_spec.1) fun i k hi hk e=>?_
  have h1:=zcg n (pw i).choose_spec.1 (pw k).choose_spec.1 e
  have h2:∀ j,j<m->spE add mul W (msgD q a i) a j=spE add mul W (msgD q a k) a j:=fun j hj=>by
   rw [(pw i).choose_spec.2 j hj,(pw k).choose_spec.2 j hj]
   exact same _ _ (pw i).choose_spec.1 (pw k).choose_spec.1 h1 j hj
  refine zib hq hi hk fun t ht=>?_
  have h3:=h2 (p (a - 1 - t)) (hE.pvlt _ (by omega))
  rw [hE.spE_pv hL (fun _ _=>zdA hq) (by omega),hE.spE_pv hL (fun _ _=>zdA hq) (by omega)] at h3
  unfold msgD at h3
  rwa [show a - 1 - (a - 1 - t)=t by omega] at h3
 have le2:q ^ cntB D n<=q ^ a:=by
  have sj:∀ y,∃ c:Nat->Nat,(∀ s,c s<q)/\(y<q ^ cntB D n->packB q D c n=y):=fun y=>by
   by_cases hy:y<q ^ cntB D n
   ·obtain ⟨c,h1,_,h3⟩:=zaM hq (D:=D) n y hy
    exact ⟨c,h1,fun _=>h3⟩
   ·exact ⟨fun _=>0,fun _=>hq,fun h=>absurd h hy⟩
  refine pigeon (f:=fun y=>code q (fun s=>spE add mul R (sj y).choose n (p s)) a) (fun y _=>zck fun s _=>zaZ hL _ _ _) fun y z hy hz2 e=>?_
  have e1:=zdW (fun s _=>zaZ hL _ _ _) (fun s _=>zaZ hL _ _ _) e
  have g:∀ y,InSp q add mul a m W (spE add mul R (sj y).choose n):=fun y=>(hS _).1 ⟨_,fun s _=>(sj y).choose_spec.1 s,fun _ _=>rfl⟩
  have co:∀ y j,j<m->spE add mul R (sj y).choose n j=spE add mul W (fun s=>spE add mul R (sj y).choose n (p s)) a j:=fun y j hj=>(zgx hL hE (fun j _=>zaZ hL _ _ _)).1 (g y) j hj
  have h2:∀ j,j<m->spE add mul R (sj y).choose n j=spE add mul R (sj z).choose n j:=fun j hj=>by
   rw [co y j hj,co z j hj]
   exact zcf a fun s hs=>⟨e1 s hs,rfl⟩
  have h3:=uniq2 _ _ (fun s _=>(sj y).choose_spec.1 s) (fun s _=>(sj z).choose_spec.1 s) h2
  have h4:=zbw (q:=q) (D:=D) n h3
  rw [(sj y).choose_spec.2 hy,(sj z).choose_spec.2 hz2] at h4
  exact h4
 have h1:=(Nat.pow_le_pow_iff_right (show 1<q by omega)).1 le1
 have h2:=(Nat.pow_le_pow_iff_right (show 1<q by omega)).1 le2
 omega
theorem SpanF.ranks (hL:FieldLaws q add mul) {pv:Nat->Nat} {V R:Nat->Nat->Nat} (h:SpanF q n N pv R) (hV:∀ i,i<n->∀ j,j<N->V i j<q) (hS:SameSp q add mul N n n V R) (hd:∀ i j,i<j->j<n->lE (R i) N≠lE (R j) N)
  {i a b:Nat} (hi:i<=N) (ha:RankIs q add mul n V 0 i a) (hb:RankIs q add mul n V i (N - i) b):a+b=cntB (fun s=>decide (pv s<i) && decide ((i:Int)<=lE (R s) N)) n+n:=by
 obtain ⟨p1,W1,e,k⟩:=ha
 obtain ⟨p2,W2,d,f⟩:=hb
 have e1:SameSp q add mul i n a (fun s j=>R s (0+j)) W1:=fun x=>((hS.cut (lo:=0) (m:=i) (by omega) x).symm.trans ((RowOps.sp hL (fun s hs j hj=>hV s hs (0+j) (by omega)) k).1 x)).trans (EchN.sp_top hL e x)
 have e2:SameSp q add mul (N - i) n b (fun s j=>R s (i+j)) W2:=fun x=>((hS.cut (lo:=i) (m:=N - i) (by omega) x).symm.trans ((RowOps.sp hL (fun s hs j hj=>hV s hs (i+j) (by omega)) f).1 x)).trans (EchN.sp_top hL d x)
 have k1:a=cntB (fun s=>decide (pv s<i)) n:=by
  refine zdb hL (κ:=pv) (μ:=fun s=>s) (fun s hs j hj=>h.lt s hs (0+j) (by omega)) e.top e1 (fun s hs hD=>?_) (fun s t hs ht hD hne=>?_) (fun s hs hD j hj=>?_)
  ·have hD:=of_decide_eq_true hD
   refine ⟨hD,?_⟩
   show R s (0+pv s)≠0
   rw [Nat.zero_add,h.one s hs]
   omega
  ·have hD:=of_decide_eq_true hD
   rcases Nat.lt_or_ge t s with g | g
   ·exact .inr ⟨decide_eq_true (by have:=h.inc t s g hs; omega),g⟩
   refine .inl ?_
   show R t (0+pv s)=0
   rw [Nat.zero_add]
   exact h.low t ht _ (h.inc s t (by omega) ht)
  have hD:=of_decide_eq_false hD
  show R s (0+j)=0
  rw [Nat.zero_add]
  exact h.low s hs j (by omega)
 have k2:b=cntB (fun s=>decide ((i:Int)<=lE (R s) N)) n:=by
  have c:=fun s=>zhA (u:=R s) N
  refine zdb hL (κ:=fun s=>(lE (R s) N).toNat - i) (μ:=fun s=>N - (lE (R s) N).toNat) (fun s hs j hj=>h.lt s hs (i+j) (by omega)) d.top e2 (fun s hs hD=>?_) (fun s t hs ht hD hne=>?_) (fun s hs hD j hj=>?_)
  ·have hD:=of_decide_eq_true hD
   have h1:=c s
   have h2:=zie (u:=R s) N (lE (R s) N).toNat (by omega)
   refine ⟨by omega,?_⟩
   show R s (i+((lE (R s) N).toNat - i))≠0
   rw [show i+((lE (R s) N).toNat - i)=(lE (R s) N).toNat by omega]
   exact h2.2
  rotate_left
  ·have hD:=of_decide_eq_false hD
   have h1:=c s
   show R s (i+j)=0
   exact zbg (n:=N) (by omega) (by omega)
  have hD:=of_decide_eq_true hD
  have h1:=c s
  have h2:=c t
  show R t (i+((lE (R s) N).toNat - i))=0∨_
  rw [show i+((lE (R s) N).toNat - i)=(lE (R s) N).toNat by omega]
  have l:lE (R s) N≠lE (R t) N:=by
   rcases Nat.lt_or_ge s t with g | g
   ·exact hd s t g ht
   ·exact (hd t s (by omega) hs).symm
  by_cases g:lE (R t) N<lE (R s) N
  ·exact .inl (zbg (n:=N) (by omega) (by omega))
  ·exact .inr ⟨decide_eq_true (by omega),by omega⟩
 rw [k1,k2]
 exact zc9 n fun s hs=>by
  have h1:=h.pos hs
  by_cases g:pv s<i
  ·exact .inl (decide_eq_true g)
  ·exact .inr (decide_eq_true (by omega))
end
structure Trel where
 nw:Nat
 W:Nat->Int
 n:Nat
 el:Nat->Nat
 fr:Nat->Nat->Int
 lb:Nat->Nat->Int
 «to»:Nat->Nat->Int
def Trel.edge (T:Trel) (i j k:Nat):Value:=if k=0 then .int .i64 (T.fr i j) else if k=1 then .int .i64 (T.lb i j) else .int .i64 (T.to i j)
def InI64 (x:Int):Prop := -9223372036854775808<=x/\x<=9223372036854775807
def Trel.Secs (T:Trel) (w:World) (B:Option Addr):Prop :=
 ∀ i,i<T.n->∃ b off E c,B=some ⟨b,off,none⟩/\b<w.heap.size/\w.cell? ⟨b,off+i,none⟩=some (.slice E (T.el i) c)/\T.el i<=c/\c<=maxLen/\Rd w w.heap.size E (T.el i) 3 (T.edge i) /\
  ∀ j,j<T.el i->InI64 (T.fr i j)/\InI64 (T.lb i j)/\InI64 (T.to i j)
def Trel.Reads (T:Trel) (w:World) (A B:Option Addr):Prop :=
 IntsR w w.heap.size A T.nw T.W/\(∀ i,i<T.nw->InI64 (T.W i))/\T.Secs w B/\T.nw<=140737488351232/\T.n<=140737488351232/\∀ i,i<T.n->T.el i<=140737488351232
section
variable {T:Trel} {w w':World} {A B:Option Addr}
theorem Trel.Secs.on (h:T.Secs w B) (hb:Below w.heap.size w w'):T.Secs w' B:=fun i hi=>by
 obtain ⟨b,off,E,c,e,h1,h2,h3,h4,h5,h6⟩:=h i hi
 exact ⟨b,off,E,c,e,Nat.lt_of_lt_of_le h1 hb.size,(hb.cell (p:=⟨b,_,none⟩) h1).trans h2,h3,h4,(Rd.below h5 hb (Nat.le_refl _)).mono hb.size,h6⟩
theorem Trel.Reads.on (h:T.Reads w A B) (hb:Below w.heap.size w w'):T.Reads w' A B:=⟨h.1.on hb,h.2.1,h.2.2.1.on hb,h.2.2.2⟩
theorem Trel.Reads.width (h:T.Reads w A B) {i:Nat} (hi:i<T.nw):∃ b off,A=some ⟨b,off,none⟩/\b<w.heap.size/\w.cell? ⟨b,off+i,none⟩=some (.int .i64 (T.W i))/\InI64 (T.W i):=by
 obtain ⟨b,off,e,h1,h2⟩:=h.1.at hi
 exact ⟨b,off,e,h1,h2,h.2.1 i hi⟩
theorem Trel.Reads.sec (h:T.Reads w A B) {i:Nat} (hi:i<T.n):∃ b off E c,B=some ⟨b,off,none⟩/\b<w.heap.size/\w.cell? ⟨b,off+i,none⟩=some (.slice E (T.el i) c)/\T.el i<=c/\c<=maxLen/\Rd w w.heap.size E (T.el i) 3 (T.edge i) /\
  ∀ j,j<T.el i->InI64 (T.fr i j)/\InI64 (T.lb i j)/\InI64 (T.to i j):=h.2.2.1 i hi
theorem zba {E:Option Addr} {i j m:Nat} (h:Rd w w.heap.size E m 3 (T.edge i)) (hj:j<m) :
  ∃ b off,E=some ⟨b,off,none⟩/\b<w.heap.size/\w.cell? ⟨b,off+j*3,none⟩=some (.int .i64 (T.fr i j))/\w.cell? ⟨b,off+j*3+1,none⟩=some (.int .i64 (T.lb i j))/\w.cell? ⟨b,off+j*3+2,none⟩=some (.int .i64 (T.to i j)):=Rd.at3 h hj
end
def Trel.sumW (T:Trel):Nat->Int
 | 0=>0
 | k+1=>T.sumW k+T.W k
def Trel.sumE (T:Trel):Nat->Nat
 | 0=>0
 | k+1=>T.sumE k+T.el k
def Trel.inside (T:Trel) (i j:Nat):Prop:=0<=T.fr i j/\T.fr i j<T.W i/\0<=T.to i j/\T.to i j<T.W (i+1)
instance (T:Trel) (i j:Nat):Decidable (T.inside i j):=by unfold Trel.inside; exact inferInstance
def Trel.shapeE (T:Trel):Int :=
 if 64<T.n∨T.nw≠T.n+1 then 3
 else if ¬ ∀ i,i<T.nw->1<=T.W i then 6
 else if 65536<T.sumW T.nw then 8
 else if 262144<T.sumE T.n then 8
 else if ¬ ∀ i,i<T.n->∀ j,j<T.el i->T.inside i j then 6
 else 0
structure Trel.Shape (T:Trel):Prop where
 n64:T.n<=64
 nw:T.nw=T.n+1
 w1:∀ i,i<=T.n->1<=T.W i
 sW:T.sumW (T.n+1)<=65536
 sE:T.sumE T.n<=262144
 ins:∀ i,i<T.n->∀ j,j<T.el i->T.inside i j
theorem Trel.shape_of {T:Trel} (h:T.shapeE=0):T.Shape:=by
 unfold Trel.shapeE at h
 by_cases h1:64<T.n∨T.nw≠T.n+1
 ·rw [if_pos h1] at h; omega
 rw [if_neg h1] at h
 by_cases h2:∀ i,i<T.nw->1<=T.W i
 rotate_left
 ·rw [if_pos h2] at h; omega
 rw [if_neg (by simpa using h2)] at h
 by_cases h3:65536<T.sumW T.nw
 ·rw [if_pos h3] at h; omega
 rw [if_neg h3] at h
 by_cases h4:262144<T.sumE T.n
 ·rw [if_pos h4] at h; omega
 rw [if_neg h4] at h
 by_cases h5:∀ i,i<T.n->∀ j,j<T.el i->T.inside i j
 ·have a:T.nw=T.n+1:=by omega
  exact ⟨by omega,a,fun i hi=>h2 i (by omega),by rw [<-a]; omega,by omega,h5⟩
 ·rw [if_pos h5] at h; omega
theorem Trel.sumW_mono {T:Trel} {m:Nat} (h:∀ i,i<m->1<=T.W i):∀ k d,k+d<=m->T.sumW k+d<=T.sumW (k+d):=by
 intro k d
 induction d with
 | zero=>intro _; simp
 | succ d ih =>
  intro hk
  have h1:=ih (by omega)
  have h2:=h (k+d) (by omega)
  show T.sumW k+((d+1:Nat):Int)<=T.sumW (k+d)+T.W (k+d)
  omega
theorem Trel.sumE_mono {T:Trel}:∀ k d,T.sumE k<=T.sumE (k+d):=by
 intro k d
 induction d with
 | zero=>exact Nat.le_refl _
 | succ d ih=>exact Nat.le_trans ih (Nat.le_add_right _ _)
theorem Trel.Shape.wid {T:Trel} (h:T.Shape) {i:Nat} (hi:i<=T.n):1<=T.W i/\T.W i<=65536:=by
 have h1:=h.w1 i hi
 have h2:=Trel.sumW_mono (m:=T.n+1) (fun i hi=>h.w1 i (by omega)) 0 i (by omega)
 have h3:=Trel.sumW_mono (m:=T.n+1) (fun i hi=>h.w1 i (by omega)) (i+1) (T.n - i) (by omega)
 rw [show i+1+(T.n - i)=T.n+1 by omega] at h3
 have h4:=h.sW
 have h5:T.sumW (i+1)=T.sumW i+T.W i:=rfl
 simp [Trel.sumW] at h2
 omega
theorem Trel.Shape.elb {T:Trel} (h:T.Shape) {i:Nat} (hi:i<T.n):T.el i<=262144:=by
 have h3:=Trel.sumE_mono (T:=T) (i+1) (T.n - (i+1))
 rw [show i+1+(T.n - (i+1))=T.n by omega] at h3
 have h4:=h.sE
 have h5:T.sumE (i+1)=T.sumE i+T.el i:=rfl
 omega
end Go.Proofs.YtgekjfpapmlndaaGreat