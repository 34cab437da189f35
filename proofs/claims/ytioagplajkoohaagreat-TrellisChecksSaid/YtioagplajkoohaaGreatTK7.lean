/- Merged texts of a claim: Gf5, GfObj, GfMul, GfDot, GfChk, GfNew, DTab, MAdd. -/
import Derived.Test.YtioagplajkoohaaGreatTK1
import Derived.Test.YtioagplajkoohaaGreatTK4
import Derived.Test.YtioagplajkoohaaGreatTK5
import Derived.Test.YtioagplajkoohaaGreatTK6
namespace Go.Proofs.YtioagplajkoohaaGreat
set_option maxRecDepth 100000
set_option maxHeartbeats 32000000
open KA KB KC KE
open Go.RowKit
def ShapeF (P M:Int) (k:Nat) (f:Nat->Int):Prop :=
 ∃ P' M':Nat,P=P'/\M=M'/\FldOk P' M'/\PrimeB P'/\((M'=1/\k=0)∨(2<=M'/\k=M'/\∀ i,i<M'->0<=f i/\f i<P'))
theorem GoodF.shape {P M:Int} {k:Nat} {f:Nat->Int} (h:GoodF P M k f):ShapeF P M k f:=by
 obtain ⟨P',M',h1,h2,h3,h4,h5⟩:=h
 refine ⟨P',M',h1,h2,h3,h4,?_⟩
 rcases h5 with h | ⟨a,b,c,_⟩
 ·exact .inl h
 ·exact .inr ⟨a,b,c⟩
theorem ShapeF.good {P M:Nat} {k:Nat} {f:Nat->Int} (h:ShapeF (P:Int) (M:Int) k f):GoodF (P:Int) (M:Int) k f↔∃ x,1<=x/\x<P ^ M/\GenX (P ^ M) (mulF P M fun i=>(f i).toNat) x:=by
 obtain ⟨P',M',h1,h2,h3,h4,h5⟩:=h
 obtain rfl:P=P':=by omega
 obtain rfl:M=M':=by omega
 rw [zh0 h3 h4 (by
  rcases h5 with ⟨e,_⟩ | ⟨_,_,c⟩
  ·exact .inl e
  ·exact .inr fun t ht=>by have:=c t ht; show (f t).toNat<P; omega)]
 refine ⟨fun h=>h.field.1,fun h=>⟨P,M,rfl,rfl,h3,h4,?_⟩⟩
 rcases h5 with e | ⟨a,b,c⟩
 ·exact .inl e
 ·exact .inr ⟨a,b,c,h.2.2.2⟩
theorem ShapeF.fld {P M:Int} {k:Nat} {f:Nat->Int} (h:ShapeF P M k f):∃ P' M':Nat,P=P'/\M=M'/\FldOk P' M'/\(M'=1∨k=M'):=by
 obtain ⟨P',M',h1,h2,h3,h4,h5⟩:=h
 refine ⟨P',M',h1,h2,h3,?_⟩
 rcases h5 with ⟨a,b⟩ | ⟨a,b,c⟩
 ·exact .inl a
 ·exact .inr b
theorem ShapeF.mod {P M:Nat} {k:Nat} {f:Nat->Int} {w:World} {A:Option Addr} (h:ShapeF (P:Int) (M:Int) k f) (hr:IntsR w w.heap.size A k f):ModOk w P M A (fun i=>(f i).toNat):=by
 obtain ⟨P',M',h1,h2,h3,h4,h5⟩:=h
 obtain rfl:P=P':=by omega
 obtain rfl:M=M':=by omega
 rcases h5 with ⟨e,_⟩ | ⟨e1,rfl,e3⟩
 ·exact .inl e
 ·exact .inr ⟨hr.congr fun i hi=>by have:=e3 i hi; show f i=((f i).toNat:Int); omega,fun i hi=>by have:=e3 i hi; show (f i).toNat<P; omega⟩
theorem zeH (P M:Int) (A:Option Addr) (k c:Nat) (f:Nat->Int) (w:World) (hr:IntsR w w.heap.size A k f) :
  Calls Tryz.prog 145 #[.agg #[.int .i64 P,.int .i64 M,.slice A k c]] w (IffPost (ShapeF P M k f) w):=by
 have hB:Below w.heap.size w (w.alloc (.cells #[.int .i64 P,.int .i64 M,.slice A k c] 24)):=(Below.refl _ _).alloc (Nat.le_refl _) _
 have rf:=zad (w:=w) (a:=.int .i64 P) (b:=.int .i64 M) (c:=.slice A k c) (T := 24)
 obtain ⟨w0,hw0⟩:∃ W,W=w.alloc (.cells #[.int .i64 P,.int .i64 M,.slice A k c] 24):=⟨_,rfl⟩
 rw [<-hw0] at hB rf
 go_enter Tryz.func145, Tryz.ntmps145
 go_upto_region 1 with fail
 rw [<-hw0];clear hw0
 have q0:=qc0 rf
 have q1:=qc1 rf
 have q2:=qc2 rf
 go_wp2_with fail
 refine (zbX P M _).mono ?_
 rintro e w1 ⟨rfl,kb⟩
 replace rf:=zaa rf kb;replace hB:=onS hB kb;clear kb q0 q1 q2
 by_cases h0:ordV P M=0
 ·have hno:Hid (¬ ShapeF P M k f):=by
   rintro ⟨P',M',rfl,rfl,h3,_⟩
   rw [zci h3] at h0
   have:=Nat.pow_pos (n:=M') (show 0<P' by have:=h3.1; omega)
   omega
  rw [h0];clear h0 rf
  go_wp2
  go_ret
  exact zaq hno.out hB
 ·obtain ⟨P,M,rfl,rfl,hf⟩:=zgL h0
  obtain ⟨v,hv⟩:∃ v,v=ordV (P:Int) (M:Int):=⟨_,rfl⟩
  rw [<-hv] at h0;rw [<-hv]
  have hv0:(v == 0)=false:=by simpa using h0
  have hP2:=hf.1
  have hPl:=hf.P_le
  have hM1:=hf.2.1
  have hM8:=hf.2.2.1
  have hq:=hf.2.2.2
  have HF:=hid hf
  clear hv hf
  have q0:=qc0 rf
  have q1:=qc1 rf
  have q2:=qc2 rf
  go_wp2_with fail
  refine (ze4 P _ hP2 hPl).mono ?_
  rintro e w2 ⟨b,rfl,hb,rfl⟩
  have HBP:=hid hb
  clear hb h0 hv0
  cases b
  ·have hno:Hid (¬ ShapeF (P:Int) (M:Int) k f):=by
    rintro ⟨P',M',e1,e2,h3,h4,_⟩
    obtain rfl:P=P':=by omega
    have:=HBP.out.2 h4
    cases this
   go_wp2
   go_ret
   exact zaq hno.out hB
  ·have hp : Hid (PrimeB P) := HBP.out.1 rfl
   clear HBP
   by_cases hM:M=1
   ·subst hM
    by_cases hk0:k=0
    ·subst hk0
     have hyes:Hid (ShapeF (P:Int) ((1:Nat):Int) 0 f):=⟨P,1,rfl,rfl,HF.out,hp.out,.inl ⟨rfl,rfl⟩⟩
     go_wp2
     go_ret
     exact zaT hyes.out hB
    ·have hk0':((k:Int) == 0)=false:=by simp; omega
     have hno:Hid (¬ ShapeF (P:Int) ((1:Nat):Int) k f):=by
      rintro ⟨P',M',e1,e2,h3,h4,⟨e3,e4⟩ | ⟨e3,_⟩⟩
      ·exact hk0 e4
      ·omega
     go_wp2
     go_ret
     exact zaq hno.out hB
   ·have hM' : ((M : Int) == 1) = false := by simp; omega
    by_cases hkM:k=M
    ·subst hkM
     have hkk:((k:Int) != (k:Int))=false:=by simp
     have hk2:2<=k:=by omega
     go_wp2
     clear q0 q1 q2 hM' hkk
     go_loopg [33] k (fun gg iv wx=>∃ i:Nat,iv=.int .i64 (i:Nat)/\i<=k/\k<=i+gg/\(∀ i',i'<i->0<=f i'/\f i'<P)/\wx.rowIs w.heap.size 24 3 (fldCell (.int .i64 (P:Nat)) (.int .i64 (k:Nat)) (.slice A k c))/\Below w.heap.size w wx)
     case atStart=>exact ⟨0,rfl,by omega,by omega,fun i' h=>by omega,rf,hB⟩
     case round =>
      clear rf hB
      obtain ⟨i,rfl,hi,hig,hg,rf,hB⟩:=hrel
      have HG:=hid hg
      clear hg
      have hi0:(0:Int)<=(i:Int):=by omega
      have q0:=qc0 rf
      have q1:=qc1 rf
      have q2:=qc2 rf
      by_cases hlt:i<k
      ·have hlt':(i:Int)<(k:Int):=by omega
       obtain ⟨b,o,rfl,hb,e0⟩:=(hr.on hB).at hlt
       obtain ⟨x,hx⟩:∃ x,x=f i:=⟨_,rfl⟩
       rw [<-hx] at e0
       have HX:=hid hx
       clear hx
       have hno:Hid (x<0∨(P:Int)<=x->¬ ShapeF (P:Int) (k:Int) k f):=by
        rintro hc ⟨P',M',e1,e2,h3,h4,⟨e3,e4⟩ | ⟨e3,e4,e5⟩⟩
        ·omega
        ·have:=e5 i (by omega)
         rw [<-HX.out] at this
         omega
       by_cases hx0:x<0
       ·have hd:decide (x<0)=true:=by simpa using hx0
        go_wp2
        go_ret
        exact zaq (hno.out (.inl hx0)) hB
       ·have hd:decide (x<0)=false:=by simpa using hx0
        by_cases hxP:(P:Int)<=x
        ·have hd2:decide ((P:Int)<=x)=true:=by simpa using hxP
         go_wp2
         go_ret
         exact zaq (hno.out (.inr hxP)) hB
        ·have hd2:decide ((P:Int)<=x)=false:=by simpa using hxP
         have hnx:Hid (∀ i',i'<i+1->0<=f i'/\f i'<P):=fun i' h=>by
          by_cases e:i'=i
          ·rw [e,<-HX.out]; omega
          ·exact HG.out i' (by omega)
         clear hno
         go_wp2
         go_roundg (gk - 1)
         case measure=>omega
         case rel=>exact ⟨i+1,by go_num,by omega,by omega,hnx.out,rf,hB⟩
      ·obtain rfl:i=k:=by omega
       have hlt':¬ (i:Int)<(i:Int):=by omega
       have hyes:Hid (ShapeF (P:Int) (i:Int) i f):=⟨P,i,rfl,rfl,HF.out,hp.out,.inr ⟨hk2,rfl,HG.out⟩⟩
       go_wp2
       go_ret
       exact zaT hyes.out hB
    ·have hkM':((k:Int) != (M:Int))=true:=by simp; omega
     have hno:Hid (¬ ShapeF (P:Int) (M:Int) k f):=by
      rintro ⟨P',M',e1,e2,h3,h4,⟨e3,e4⟩ | ⟨e3,e4,_⟩⟩
      ·omega
      ·omega
     go_wp2
     go_ret
     exact zaq hno.out hB
theorem zch {p:Nat}:∀ (n:Nat) (f:Nat->Nat),valN p f (n+1)=valN p f n+p ^ n*f n
 | 0,f=>by show f 0+p*0=0+p ^ 0*f 0; simp
 | n+1,f=>by
  show f 0+p*valN p (fun i=>f (i+1)) (n+1)=f 0+p*valN p (fun i=>f (i+1)) n+p ^ (n+1)*f (n+1)
  rw [zch n]
  show f 0+p*(valN p (fun i=>f (i+1)) n+p ^ n*f (n+1))=_
  rw [Nat.mul_add,Nat.pow_succ,Nat.mul_comm (p ^ n) p,Nat.mul_assoc,Nat.add_assoc]
theorem zed {p k:Nat} {f:Nat->Nat}:∀ n,(∀ i,k<=i->i<n->f i=0)->k<=n->valN p f n=valN p f k
  | 0, _, h => by obtain rfl : k = 0 := by omega
                  rfl
  | n + 1, h, hk => by
    by_cases e:k=n+1
    · rw [e]
    · rw [zch,h n (by omega) (by omega),Nat.mul_zero,Nat.add_zero,zed n (fun i h1 h2=>h i h1 (by omega)) (by omega)]
theorem zee {p x i j:Nat} (h:x / p ^ i=0) (hij:i<=j):dig p x j=0:=by
 unfold dig
 obtain ⟨r,rfl⟩:∃ r,j=i+r:=⟨j - i,by omega⟩
 rw [Nat.pow_add,<-Nat.div_div_eq_div_mul,h,Nat.zero_div,Nat.zero_mod]
theorem zht {M x y:Nat} (hx:x<2 ^ M) (hy:y<2 ^ M):addF 2 M x y=x ^^^ y:=by
 refine zdw (p:=2) (M:=M) (by omega) (zcH (by omega) _ _) (Nat.xor_lt_two_pow hx hy) fun j hj=>?_
 unfold addF
 rw [za3 (fun i _=>Nat.mod_lt _ (by omega)) j hj]
 have h:=Nat.testBit_xor x y j
 simp only [Nat.testBit_eq_decide_div_mod_eq] at h
 unfold dig
 have a1:=Nat.mod_two_eq_zero_or_one (x / 2 ^ j)
 have a2:=Nat.mod_two_eq_zero_or_one (y / 2 ^ j)
 have a3:=Nat.mod_two_eq_zero_or_one ((x ^^^ y) / 2 ^ j)
 rcases a1 with a1 | a1 <;> rcases a2 with a2 | a2 <;> rcases a3 with a3 | a3 <;> simp [a1,a2,a3] at h ⊢
theorem zh1 {x y:Nat} (hx:x<256) (hy:y<256):bits .xor .i64 (x:Int) (y:Int)=((x ^^^ y:Nat):Int):=by
 show IntKind.i64.wrap ((BitVec.ofInt 64 (x:Int) ^^^ BitVec.ofInt 64 (y:Int)).toNat:Nat)=_
 have k1:(BitVec.ofInt 64 (x:Int)).toNat=x:=by rw [BitVec.toNat_ofInt]; omega
 have k2:(BitVec.ofInt 64 (y:Int)).toNat=y:=by rw [BitVec.toNat_ofInt]; omega
 have h:x ^^^ y<2 ^ 8:=Nat.xor_lt_two_pow (n:=8) hx hy
 rw [BitVec.toNat_xor,k1,k2]
 exact IntWalk.i64_in _ (by omega)
def gfCell (a b c d e f:Value) (i:Nat):Value:=if i=0 then a else if i=1 then b else if i=2 then c else if i=3 then d else if i=4 then e else f
theorem KF.qc0 {w:World} {g:Nat} {T:TypeId} {a b c d e f:Value} (h:w.rowIs g T 6 (gfCell a b c d e f)) : w.cell? ⟨g,0,none⟩=some a:=h.cell (i:=0) (by decide)
theorem KF.qc1 {w:World} {g:Nat} {T:TypeId} {a b c d e f:Value} (h:w.rowIs g T 6 (gfCell a b c d e f)) : w.cell? ⟨g,1,none⟩=some b:=h.cell (i:=1) (by decide)
theorem KF.qc2 {w:World} {g:Nat} {T:TypeId} {a b c d e f:Value} (h:w.rowIs g T 6 (gfCell a b c d e f)) : w.cell? ⟨g,2,none⟩=some c:=h.cell (i:=2) (by decide)
theorem KF.qc3 {w:World} {g:Nat} {T:TypeId} {a b c d e f:Value} (h:w.rowIs g T 6 (gfCell a b c d e f)) : w.cell? ⟨g,3,none⟩=some d:=h.cell (i:=3) (by decide)
theorem KF.qc4 {w:World} {g:Nat} {T:TypeId} {a b c d e f:Value} (h:w.rowIs g T 6 (gfCell a b c d e f)) : w.cell? ⟨g,4,none⟩=some e:=h.cell (i:=4) (by decide)
theorem KF.qc5 {w:World} {g:Nat} {T:TypeId} {a b c d e f:Value} (h:w.rowIs g T 6 (gfCell a b c d e f)) : w.cell? ⟨g,5,none⟩=some f:=h.cell (i:=5) (by decide)
open KF
structure GFr (w:World) (B g P M:Nat) (m:Nat->Nat) (A:Option Addr) (k c eb eo ec lb lo lc x:Nat) (lg:Nat->Nat):Prop where
 ok:FieldOk P M m
 km:(M=1/\k=0)∨(2<=M/\k=M)
 row:w.rowIs g 178 6 (gfCell (.int .i64 (P:Nat)) (.int .i64 (M:Nat)) (.slice A k c) (.int .i64 (P ^ M:Nat)) (.slice (some ⟨eb,eo,none⟩) (P ^ M - 1) ec) (.slice (some ⟨lb,lo,none⟩) (P ^ M) lc))
 lt:g<B
 md:IntsR w B A k (fun i=>(m i:Nat))
 ex:IntsR w B (some ⟨eb,eo,none⟩) (P ^ M - 1) (fun i=>(pwG (mulF P M m) x i:Nat))
 lgr:IntsR w B (some ⟨lb,lo,none⟩) (P ^ M) (fun i=>(lg i:Nat))
 x0:1<=x
 xq:x<P ^ M
 gen:GenX (P ^ M) (mulF P M m) x
 lgs:∀ i,i<P ^ M - 1->lg (pwG (mulF P M m) x i)=i
def GF (w:World) (B g P M:Nat) (m:Nat->Nat):Prop:=∃ A k c eb eo ec lb lo lc x lg,GFr w B g P M m A k c eb eo ec lb lo lc x lg
theorem GF.ok {w:World} {B g P M:Nat} {m:Nat->Nat} (h:GF w B g P M m):FieldOk P M m:=by
 obtain ⟨_,_,_,_,_,_,_,_,_,_,_,h⟩:=h
 exact h.ok
theorem GF.at {w w':World} {B g P M:Nat} {m:Nat->Nat} (h:GF w B g P M m) (hb:Below B w w') (hB:B<=w'.heap.size):GF w' w'.heap.size g P M m:=by
 obtain ⟨A,k,c,eb,eo,ec,lb,lo,lc,x,lg,h⟩:=h
 exact ⟨A,k,c,eb,eo,ec,lb,lo,lc,x,lg,h.ok,h.km,zcF h.row hb h.lt,Nat.lt_of_lt_of_le h.lt hB,(Rd.below h.md hb (Nat.le_refl _)).mono hB,(Rd.below h.ex hb (Nat.le_refl _)).mono hB,(Rd.below h.lgr hb (Nat.le_refl _)).mono hB,h.x0,h.xq,h.gen,h.lgs⟩
theorem GF.on {w w':World} {g P M:Nat} {m:Nat->Nat} (h:GF w w.heap.size g P M m) (hb:Below w.heap.size w w'):GF w' w'.heap.size g P M m:=h.at hb hb.size
section
variable {P M g:Nat} {m:Nat->Nat} {w:World}
theorem zgv (h:GF w w.heap.size g P M m) :
  Calls Tryz.prog 98 #[.pointer (some ⟨g,0,none⟩)] w fun e w'=>e=.returned (.int .i64 (P ^ M:Nat))/\Below w.heap.size w w':=by
 obtain ⟨A,k,c,eb,eo,ec,lb,lo,lc,x,lg,h⟩:=h
 obtain ⟨Q,hQ⟩:∃ Q,Q=P ^ M:=⟨_,rfl⟩
 have c3:w.cell? ⟨g,3,none⟩=some (.int .i64 (Q:Nat)):=by rw [hQ]; exact h.row.cell (i:=3) (by omega)
 rw [<-hQ]
 have HQ:=hid hQ
 clear hQ h
 go_enter Tryz.func98, Tryz.ntmps98
 go_wp2
 go_ret
 exact ⟨rfl,Below.refl _ _⟩
theorem zef (x:Int) (h:GF w w.heap.size g P M m) :
  Calls Tryz.prog 99 #[.pointer (some ⟨g,0,none⟩),.int .i64 x] w fun e w'=>e=.returned (.bool (isB (P ^ M) x))/\Below w.heap.size w w':=by
 obtain ⟨A,k,c,eb,eo,ec,lb,lo,lc,y,lg,h⟩:=h
 obtain ⟨Q,hQ⟩:∃ Q,Q=P ^ M:=⟨_,rfl⟩
 have c3:w.cell? ⟨g,3,none⟩=some (.int .i64 (Q:Nat)):=by rw [hQ]; exact h.row.cell (i:=3) (by omega)
 rw [<-hQ];clear hQ h
 by_cases h0:0<=x
 ·have hv:Hid (isB Q x=decide (x<(Q:Int))):=by show _=_; simp [isB,h0]
  have hd:decide (0<=x)=true:=by simpa using h0
  go_enter Tryz.func99, Tryz.ntmps99
  go_wp2
  go_ret
  exact ⟨by rw [hv.out]; rfl,Below.refl _ _⟩
 ·have hv:Hid (isB Q x=false):=by show _=_; simp [isB]; omega
  have hd:decide (0<=x)=false:=by simpa using h0
  go_enter Tryz.func99, Tryz.ntmps99
  go_wp2
  go_ret
  exact ⟨by rw [hv.out]; rfl,Below.refl _ _⟩
theorem zbY (x:Int) (h:GF w w.heap.size g P M m) :
  Calls Tryz.prog 181 #[.pointer (some ⟨g,0,none⟩),.int .i64 x] w fun e w'=>e=.returned (.int .i64 (inV (P ^ M) x:Nat))/\Below w.heap.size w w':=by
 go_enter Tryz.func181, Tryz.ntmps181
 go_wp2_with fail
 refine (zef x h).mono ?_
 rintro e w1 ⟨rfl,hB⟩
 by_cases hx:0<=x/\x<(P ^ M:Nat)
 ·have hv:Hid ((inV (P ^ M) x:Int)=x):=by show _=_; unfold inV; rw [if_pos hx]; omega
  have hd:isB (P ^ M) x=true:=by unfold isB; simpa using hx
  rw [hd];clear hx hd h
  go_wp2
  go_ret
  exact ⟨by rw [hv.out]; rfl,hB⟩
 ·have hv:Hid (inV (P ^ M) x=0):=by show _=_; unfold inV; rw [if_neg hx]
  have hd:isB (P ^ M) x=false:=by unfold isB; simpa using hx
  rw [hd];clear hx hd h
  go_wp2
  go_ret
  exact ⟨by rw [hv.out]; rfl,hB⟩
theorem zdc (x y:Int) (h:GF w w.heap.size g P M m) :
  Calls Tryz.prog 174 #[.pointer (some ⟨g,0,none⟩),.int .i64 x,.int .i64 y] w fun e w'=>e=.returned (.int .i64 (addF P M (inV (P ^ M) x) (inV (P ^ M) y):Nat))/\Below w.heap.size w w':=by
 have hok:=h.ok.1
 have hP2:=hok.1
 have hPl:=hok.P_le
 have hM1:=hok.2.1
 have hq:=hok.2.2.2
 have hPw:Hid (∀ i,i<=M->P ^ i<=256):=fun i hi=>hok.pow_le hi
 have HOK:=hid hok
 clear hok
 have hX:=zdV (Nat.pow_pos (n:=M) (show 0<P by omega)) x
 have hY:=zdV (Nat.pow_pos (n:=M) (show 0<P by omega)) y
 go_enter Tryz.func174, Tryz.ntmps174
 go_wp2_with fail
 refine (zbY x h).mono ?_
 rintro e w1 ⟨rfl,hB⟩
 have h1:=h.on hB
 go_wp2_with fail
 refine (zbY y h1).mono ?_
 rintro e w2 ⟨rfl,kb⟩
 have h2:=h1.on kb
 replace hB:=onS hB kb;clear kb h1 h
 obtain ⟨A,k,c,eb,eo,ec,lb,lo,lc,gx,lg,h⟩:=h2
 have c0:=qc0 h.row
 clear h
 obtain ⟨X,hXe⟩:∃ X,X=inV (P ^ M) x:=⟨_,rfl⟩
 obtain ⟨Y,hYe⟩:∃ X,X=inV (P ^ M) y:=⟨_,rfl⟩
 rw [<-hXe] at hX;rw [<-hYe] at hY;rw [<-hXe,<-hYe]
 have HXE:=hid hXe
 have HYE:=hid hYe
 clear hXe hYe
 by_cases hP:P=2
 ·have hPe:((P:Int) == 2)=true:=by simp; omega
  have hxv:Hid (addF P M X Y=X ^^^ Y):=by
   subst hP
   exact zht hX hY
  have hx8:=zh1 (x:=X) (y:=Y) (by omega) (by omega)
  clear hP hX hY
  go_wp2
  go_ret
  exact ⟨by rw [<-HXE.out,<-HYE.out,hxv.out]; rfl,hB⟩
 ·have hPe:((P:Int) == 2)=false:=by simp; omega
  have hX6:X<256:=by omega
  have hY6:Y<256:=by omega
  have HXM:Hid (X<P ^ M):=hX
  have HYM:Hid (Y<P ^ M):=hY
  clear hX hY hq hP
  go_wp2
  clear hPe
  go_loopg [7,8,1,2] M (fun gg sv pv xv yv wx=>∃ i s p u v:Nat,sv=.int .i64 (s:Nat)/\pv=.int .i64 (p:Nat)/\xv=.int .i64 (u:Nat)/\yv=.int .i64 (v:Nat)/\i<=M/\M<=i+gg/\Hid (u=X / P ^ i)/\Hid (v=Y / P ^ i)/\Hid (p=P ^ i)/\Hid (s=valN P (fun i=>(dig P X i+dig P Y i) % P) i)/\wx.cell? ⟨g,0,none⟩=some (.int .i64 (P:Nat))/\Below w.heap.size w wx)
  case atStart=>exact ⟨0,0,1,X,Y,rfl,rfl,rfl,rfl,by omega,by omega,by show _=_; simp,by show _=_; simp,by show _=_; simp,rfl,c0,hB⟩
  case round =>
   clear c0 hB
   obtain ⟨i,s,p,u,v,rfl,rfl,rfl,rfl,hi,hig,HU,HV,HPI,HS,c0,hB⟩:=hrel
   have hu6:u<=X:=by rw [HU.out]; exact Nat.div_le_self _ _
   have hv6:v<=Y:=by rw [HV.out]; exact Nat.div_le_self _ _
   by_cases hend:u=0/\v=0
   ·have hval:Hid (addF P M X Y=s):=by
     show _=_
     rw [HS.out]
     unfold addF
     exact zed M (fun j h1 _=>by rw [zee (by rw [<-HU.out]; exact hend.1) h1,zee (by rw [<-HV.out]; exact hend.2) h1]; simp) hi
    obtain ⟨rfl,rfl⟩:=hend
    go_wp2
    go_ret
    exact ⟨by rw [<-HXE.out,<-HYE.out,hval.out]; rfl,hB⟩
   ·have hiM:i<M:=by
     refine Classical.byContradiction fun hn=>hend ?_
     obtain rfl:i=M:=by omega
     exact ⟨by rw [HU.out]; exact Nat.div_eq_of_lt HXM.out,by rw [HV.out]; exact Nat.div_eq_of_lt HYM.out⟩
    obtain ⟨du,hdu⟩:∃ d,d=u % P:=⟨_,rfl⟩
    obtain ⟨dv,hdv⟩:∃ d,d=v % P:=⟨_,rfl⟩
    obtain ⟨qu,hqu⟩:∃ d,d=u / P:=⟨_,rfl⟩
    obtain ⟨qv,hqv⟩:∃ d,d=v / P:=⟨_,rfl⟩
    obtain ⟨ds,hds⟩:∃ d,d=(du+dv) % P:=⟨_,rfl⟩
    obtain ⟨t,ht⟩:∃ t,t=ds*p:=⟨_,rfl⟩
    obtain ⟨p2,hp2⟩:∃ t,t=p*P:=⟨_,rfl⟩
    have hduP:du<P:=by rw [hdu]; exact Nat.mod_lt _ (by omega)
    have hdvP:dv<P:=by rw [hdv]; exact Nat.mod_lt _ (by omega)
    have hdsP:ds<P:=by rw [hds]; exact Nat.mod_lt _ (by omega)
    have hp6:p<=256:=by rw [HPI.out]; exact hPw.out i hi
    have hp26:p2=P ^ (i+1):=by rw [hp2,HPI.out,Nat.pow_succ]
    have hp27:p2<=256:=by rw [hp26]; exact hPw.out (i+1) hiM
    have ht6:t<=256:=by
     have:t<=p2:=by rw [ht,hp2,Nat.mul_comm]; exact Nat.mul_le_mul_left p (by omega)
     omega
    have hs6:s<=256:=by
     have:=za6 (p:=P) (n:=i) (f:=fun i=>(dig P X i+dig P Y i) % P) fun _ _=>Nat.mod_lt _ (by omega)
     rw [<-HS.out] at this
     have:=hPw.out i hi
     omega
    have HS2:Hid (s+t=valN P (fun i=>(dig P X i+dig P Y i) % P) (i+1)):=by
     show _=_
     rw [zch,<-HS.out,ht,hds,hdu,hdv,HU.out,HV.out,HPI.out,Nat.mul_comm]
     rfl
    have HU2:Hid (qu=X / P ^ (i+1)):=by show _=_; rw [hqu,HU.out,Nat.pow_succ,Nat.div_div_eq_div_mul]
    have HV2:Hid (qv=Y / P ^ (i+1)):=by show _=_; rw [hqv,HV.out,Nat.pow_succ,Nat.div_div_eq_div_mul]
    have HP2:=hid hp26
    have m1:(u:Int).tmod (P:Int)=(du:Int):=by rw [hdu,Int.tmod_eq_emod_of_nonneg (by omega)]; simp
    have m2:(v:Int).tmod (P:Int)=(dv:Int):=by rw [hdv,Int.tmod_eq_emod_of_nonneg (by omega)]; simp
    have m3:((du:Int)+(dv:Int)).tmod (P:Int)=(ds:Int):=by rw [hds,Int.tmod_eq_emod_of_nonneg (by omega)]; simp
    have e1:(u:Int) % (P:Int)=(du:Int):=by rw [hdu]; simp
    have e2:(v:Int) % (P:Int)=(dv:Int):=by rw [hdv]; simp
    have e3:((du:Int)+(dv:Int)) % (P:Int)=(ds:Int):=by rw [hds]; simp
    have e4:(ds:Int)*(p:Int)=(t:Int):=by rw [ht]; simp
    have e5:(p:Int)*(P:Int)=(p2:Int):=by rw [hp2]; simp
    have d1:(u:Int).tdiv (P:Int)=(qu:Int):=by rw [hqu,Int.tdiv_eq_ediv_of_nonneg (by omega)]; rfl
    have d2:(v:Int).tdiv (P:Int)=(qv:Int):=by rw [hqv,Int.tdiv_eq_ediv_of_nonneg (by omega)]; rfl
    have d3:(u:Int) / (P:Int)=(qu:Int):=by rw [hqu]; rfl
    have d4:(v:Int) / (P:Int)=(qv:Int):=by rw [hqv]; rfl
    have qu6:qu<=256:=by have:u / P<=u:=Nat.div_le_self _ _; omega
    have qv6:qv<=256:=by have:v / P<=v:=Nat.div_le_self _ _; omega
    have w1':IntKind.i64.wrap ((du:Int)+(dv:Int))=(du:Int)+(dv:Int):=IntWalk.i64_in _ (by omega)
    have w2':IntKind.i64.wrap (du:Int)=(du:Int):=IntWalk.i64_in _ (by omega)
    have w3':IntKind.i64.wrap (dv:Int)=(dv:Int):=IntWalk.i64_in _ (by omega)
    have w4':IntKind.i64.wrap (ds:Int)=(ds:Int):=IntWalk.i64_in _ (by omega)
    have w5':IntKind.i64.wrap (t:Int)=(t:Int):=IntWalk.i64_in _ (by omega)
    have w6':IntKind.i64.wrap (p2:Int)=(p2:Int):=IntWalk.i64_in _ (by omega)
    have w7':IntKind.i64.wrap ((s:Int)+(t:Int))=(s:Int)+(t:Int):=IntWalk.i64_in _ (by omega)
    have w8':IntKind.i64.wrap (qu:Int)=(qu:Int):=IntWalk.i64_in _ (by omega)
    have w9':IntKind.i64.wrap (qv:Int)=(qv:Int):=IntWalk.i64_in _ (by omega)
    have hP0:¬ (P:Int)=0:=by omega
    have hPn:¬ P=0:=by omega
    clear hdu hdv hqu hqv hds ht hp2 hp26 HU HV HPI HS
    by_cases hu0:u=0
    ·have hv0:0<v:=by omega
     have g1:decide ((0:Int)<(u:Int))=false:=by simp; omega
     have g2:decide ((0:Int)<(v:Int))=true:=by simp; omega
     have g1':decide (0<u)=false:=by simp; omega
     have g2':decide (0<v)=true:=by simp; omega
     clear hend hu0
     go_wp2
     go_quiet (fail)
     go_wp2
     go_roundg (gk - 1)
     case measure=>omega
     case rel=>exact ⟨i+1,s+t,p2,qu,qv,by go_num,rfl,rfl,rfl,by omega,by omega,HU2,HV2,HP2,HS2,c0,zac hB _⟩
    ·have g1:decide ((0:Int)<(u:Int))=true:=by simp; omega
     have g1':decide (0<u)=true:=by simp; omega
     clear hend hu0
     go_wp2
     go_quiet (fail)
     go_wp2
     go_roundg (gk - 1)
     case measure=>omega
     case rel=>exact ⟨i+1,s+t,p2,qu,qv,by go_num,rfl,rfl,rfl,by omega,by omega,HU2,HV2,HP2,HS2,c0,zac hB _⟩
end
theorem IntsR.here {w:World} {B b o n i:Nat} {f:Nat->Int} (h:IntsR w B (some ⟨b,o,none⟩) n f) (hi:i<n):w.cell? ⟨b,o+i,none⟩=some (.int .i64 (f i)):=by
 obtain ⟨b',o',e,_,h⟩:=h.at hi
 injection e with e
 injection e with e1 e2
 subst e1 e2
 exact h
def dotN (add mul:Nat->Nat->Nat) (a b:Nat->Nat):Nat->Nat
 | 0=>0
 | n+1=>add (dotN add mul a b n) (mul (a n) (b n))
section
variable {P M g:Nat} {m:Nat->Nat} {w:World}
theorem zdd (x:Int) (h:GF w w.heap.size g P M m) :
  Calls Tryz.prog 180 #[.pointer (some ⟨g,0,none⟩),.int .i64 x] w fun e w'=>e=.returned (.int .i64 (negF P M (inV (P ^ M) x):Nat))/\Below w.heap.size w w':=by
 have hok:=h.ok.1
 have hP2:=hok.1
 have hPl:=hok.P_le
 have hM1:=hok.2.1
 have hq:=hok.2.2.2
 have hPw:Hid (∀ i,i<=M->P ^ i<=256):=fun i hi=>hok.pow_le hi
 clear hok
 have hX:=zdV (Nat.pow_pos (n:=M) (show 0<P by omega)) x
 go_enter Tryz.func180, Tryz.ntmps180
 go_wp2_with fail
 refine (zbY x h).mono ?_
 rintro e w2 ⟨rfl,hB⟩
 have h2:=h.on hB
 clear h
 obtain ⟨A,k,c,eb,eo,ec,lb,lo,lc,gx,lg,h⟩:=h2
 have c0:=qc0 h.row
 clear h
 obtain ⟨X,hXe⟩:∃ X,X=inV (P ^ M) x:=⟨_,rfl⟩
 rw [<-hXe] at hX;rw [<-hXe]
 have HXE:=hid hXe
 clear hXe
 have hX6:X<256:=by omega
 have HXM:Hid (X<P ^ M):=hX
 clear hX hq
 go_wp2
 go_loopg [5,6,1] M (fun gg sv pv xv wx=>∃ i s p u:Nat,sv=.int .i64 (s:Nat)/\pv=.int .i64 (p:Nat)/\xv=.int .i64 (u:Nat)/\i<=M/\M<=i+gg/\Hid (u=X / P ^ i)/\Hid (p=P ^ i)/\Hid (s=valN P (fun i=>(P - dig P X i) % P) i)/\wx.cell? ⟨g,0,none⟩=some (.int .i64 (P:Nat))/\Below w.heap.size w wx)
 case atStart=>exact ⟨0,0,1,X,rfl,rfl,rfl,by omega,by omega,by show _=_; simp,by show _=_; simp,rfl,c0,hB⟩
 case round =>
  clear c0 hB
  obtain ⟨i,s,p,u,rfl,rfl,rfl,hi,hig,HU,HPI,HS,c0,hB⟩:=hrel
  have hu6:u<=X:=by rw [HU.out]; exact Nat.div_le_self _ _
  by_cases hend:u=0
  ·have hval:Hid (negF P M X=s):=by
    show _=_
    rw [HS.out]
    unfold negF
    exact zed M (fun j h1 _=>by rw [zee (by rw [<-HU.out]; exact hend) h1]; simp) hi
   subst hend
   go_wp2
   go_ret
   exact ⟨by rw [<-HXE.out,hval.out]; rfl,hB⟩
  ·have hiM:i<M:=by
    refine Classical.byContradiction fun hn=>hend ?_
    obtain rfl:i=M:=by omega
    rw [HU.out]; exact Nat.div_eq_of_lt HXM.out
   obtain ⟨du,hdu⟩:∃ d,d=u % P:=⟨_,rfl⟩
   obtain ⟨qu,hqu⟩:∃ d,d=u / P:=⟨_,rfl⟩
   obtain ⟨ds,hds⟩:∃ d,d=(P - du) % P:=⟨_,rfl⟩
   obtain ⟨t,ht⟩:∃ t,t=ds*p:=⟨_,rfl⟩
   obtain ⟨p2,hp2⟩:∃ t,t=p*P:=⟨_,rfl⟩
   have hduP:du<P:=by rw [hdu]; exact Nat.mod_lt _ (by omega)
   have hdsP:ds<P:=by rw [hds]; exact Nat.mod_lt _ (by omega)
   have hp6:p<=256:=by rw [HPI.out]; exact hPw.out i hi
   have hp26:p2=P ^ (i+1):=by rw [hp2,HPI.out,Nat.pow_succ]
   have hp27:p2<=256:=by rw [hp26]; exact hPw.out (i+1) hiM
   have ht6:t<=256:=by
    have:t<=p2:=by rw [ht,hp2,Nat.mul_comm]; exact Nat.mul_le_mul_left p (by omega)
    omega
   have hs6:s<=256:=by
    have:=za6 (p:=P) (n:=i) (f:=fun i=>(P - dig P X i) % P) fun _ _=>Nat.mod_lt _ (by omega)
    rw [<-HS.out] at this
    have:=hPw.out i hi
    omega
   have HS2:Hid (s+t=valN P (fun i=>(P - dig P X i) % P) (i+1)):=by
    show _=_
    rw [zch,<-HS.out,ht,hds,hdu,HU.out,HPI.out,Nat.mul_comm]
    rfl
   have HU2:Hid (qu=X / P ^ (i+1)):=by show _=_; rw [hqu,HU.out,Nat.pow_succ,Nat.div_div_eq_div_mul]
   have HP2:=hid hp26
   have m1:(u:Int).tmod (P:Int)=(du:Int):=by rw [hdu,Int.tmod_eq_emod_of_nonneg (by omega)]; simp
   have e1:(u:Int) % (P:Int)=(du:Int):=by rw [hdu]; simp
   have hcast:((P:Int) - (du:Int))=((P - du:Nat):Int):=by omega
   have e3:((P:Int) - (du:Int)) % (P:Int)=(ds:Int):=by rw [hds,hcast]; rfl
   have m3:((P:Int) - (du:Int)).tmod (P:Int)=(ds:Int):=by rw [Int.tmod_eq_emod_of_nonneg (by omega)]; exact e3
   have e4:(ds:Int)*(p:Int)=(t:Int):=by rw [ht]; simp
   have e5:(p:Int)*(P:Int)=(p2:Int):=by rw [hp2]; simp
   have d1:(u:Int).tdiv (P:Int)=(qu:Int):=by rw [hqu,Int.tdiv_eq_ediv_of_nonneg (by omega)]; rfl
   have d3:(u:Int) / (P:Int)=(qu:Int):=by rw [hqu]; rfl
   have qu6:qu<=256:=by have:u / P<=u:=Nat.div_le_self _ _; omega
   have w1':IntKind.i64.wrap ((P:Int) - (du:Int))=(P:Int) - (du:Int):=IntWalk.i64_in _ (by omega)
   have w2':IntKind.i64.wrap (du:Int)=(du:Int):=IntWalk.i64_in _ (by omega)
   have w4':IntKind.i64.wrap (ds:Int)=(ds:Int):=IntWalk.i64_in _ (by omega)
   have w5':IntKind.i64.wrap (t:Int)=(t:Int):=IntWalk.i64_in _ (by omega)
   have w6':IntKind.i64.wrap (p2:Int)=(p2:Int):=IntWalk.i64_in _ (by omega)
   have w7':IntKind.i64.wrap ((s:Int)+(t:Int))=(s:Int)+(t:Int):=IntWalk.i64_in _ (by omega)
   have w8':IntKind.i64.wrap (qu:Int)=(qu:Int):=IntWalk.i64_in _ (by omega)
   have hP0:¬ (P:Int)=0:=by omega
   have hPn:¬ P=0:=by omega
   have hu0:(0:Int)<(u:Int):=by omega
   have hu0':0<u:=by omega
   clear hdu hqu hds ht hp2 hp26 HU HPI HS hcast hend
   go_wp2
   go_quiet (fail)
   go_wp2
   go_roundg (gk - 1)
   case measure=>omega
   case rel=>exact ⟨i+1,s+t,p2,qu,by go_num,rfl,rfl,by omega,by omega,HU2,HP2,HS2,c0,zac hB _⟩
theorem zbu (x y:Int) (h:GF w w.heap.size g P M m) :
  Calls Tryz.prog 108 #[.pointer (some ⟨g,0,none⟩),.int .i64 x,.int .i64 y] w fun e w'=>e=.returned (.int .i64 (mulF P M m (inV (P ^ M) x) (inV (P ^ M) y):Nat))/\Below w.heap.size w w':=by
 have hok:=h.ok
 have hL:=fieldLaws hok
 have hP2:=hok.1.1
 have hq:=hok.1.2.2.2
 have hq2:=hL.two
 have hX:=zdV (Nat.pow_pos (n:=M) (show 0<P by omega)) x
 have hY:=zdV (Nat.pow_pos (n:=M) (show 0<P by omega)) y
 have HR:=hid (ringM m hok.1)
 go_enter Tryz.func108, Tryz.ntmps108
 go_wp2_with fail
 refine (zbY x h).mono ?_
 rintro e w1 ⟨rfl,hB⟩
 have h1:=h.on hB
 go_wp2_with fail
 refine (zbY y h1).mono ?_
 rintro e w2 ⟨rfl,kb⟩
 have h2:=h1.on kb
 replace hB:=onS hB kb;clear kb h1 h
 obtain ⟨X,hXe⟩:∃ X,X=inV (P ^ M) x:=⟨_,rfl⟩
 obtain ⟨Y,hYe⟩:∃ X,X=inV (P ^ M) y:=⟨_,rfl⟩
 rw [<-hXe] at hX;rw [<-hYe] at hY;rw [<-hXe,<-hYe]
 have HXE:=hid hXe
 have HYE:=hid hYe
 clear hXe hYe
 have HL:=hid hL
 clear hL hok
 by_cases hX0:X=0
 ·have hv:Hid (mulF P M m X Y=0):=by
   show _=_
   rw [HL.out.mulComm X Y hX hY,hX0]
   exact HL.out.mulZero hY
  have hd:((X:Int) == 0)=true:=by simp [hX0]
  clear hX0 h2
  go_wp2
  go_ret
  exact ⟨by rw [<-HXE.out,<-HYE.out,hv.out]; rfl,hB⟩
 ·have hd:((X:Int) == 0)=false:=by simp [hX0]
  by_cases hY0:Y=0
  ·have hv:Hid (mulF P M m X Y=0):=by
    show _=_
    rw [hY0]
    exact HL.out.mulZero hX
   have hd2:((Y:Int) == 0)=true:=by simp [hY0]
   clear hX0 hY0 h2
   go_wp2
   go_ret
   exact ⟨by rw [<-HXE.out,<-HYE.out,hv.out]; rfl,hB⟩
  ·have hd2:((Y:Int) == 0)=false:=by simp [hY0]
   obtain ⟨A,k,c,eb,eo,ec,lb,lo,lc,gx,lg,h⟩:=h2
   obtain ⟨i,hi,hpi⟩:=zdI hq2 h.gen.1 hX0 hX
   obtain ⟨j,hj,hpj⟩:=zdI hq2 h.gen.1 hY0 hY
   have hli:lg X=i:=by rw [<-hpi]; exact h.lgs i hi
   have hlj:lg Y=j:=by rw [<-hpj]; exact h.lgs j hj
   have c3:=qc3 h.row
   have c4:=qc4 h.row
   have c5:=qc5 h.row
   have l1:=h.lgr.here hX
   have l2:=h.lgr.here hY
   rw [hli] at l1;rw [hlj] at l2
   obtain ⟨r,hr⟩:∃ r,r=(i+j) % (P ^ M - 1):=⟨_,rfl⟩
   have hrq:r<P ^ M - 1:=by rw [hr]; exact Nat.mod_lt _ (by omega)
   have l3:=h.ex.here hrq
   have hval:pwG (mulF P M m) gx r=mulF P M m X Y:=by rw [hr,<-hpi,<-hpj,zeG HR.out h.xq h.gen hi j hj]
   rw [hval] at l3
   obtain ⟨Z,hZ⟩:∃ Z,Z=mulF P M m X Y:=⟨_,rfl⟩
   rw [<-hZ] at l3
   have HZ:=hid hZ
   obtain ⟨Q,hQ⟩:∃ Q,Q=P ^ M:=⟨_,rfl⟩
   rw [<-hQ] at hX hY hi hj c3 c4 c5 hrq hr hq hq2
   obtain ⟨Q1,hQ1⟩:∃ Q1,Q1=Q - 1:=⟨_,rfl⟩
   rw [<-hQ1] at hi hj c4 hrq hr
   have hQ1i:(Q:Int) - 1=(Q1:Int):=by omega
   have hQ10:¬ (Q1:Int)=0:=by omega
   have hQ1n:¬ Q1=0:=by omega
   have hQl:Q1<=256:=by omega
   have s0:(0:Int)<=(i:Int)+(j:Int):=by omega
   have m1:((i:Int)+(j:Int)) % (Q1:Int)=(r:Int):=by rw [hr]; simp
   have m2:((i:Int)+(j:Int)).tmod (Q1:Int)=(r:Int):=by rw [Int.tmod_eq_emod_of_nonneg s0]; exact m1
   have ws:IntKind.i64.wrap ((i:Int)+(j:Int))=(i:Int)+(j:Int):=IntWalk.i64_in _ (by omega)
   have wr':IntKind.i64.wrap (r:Int)=(r:Int):=IntWalk.i64_in _ (by omega)
   have wq:IntKind.i64.wrap (Q1:Int)=(Q1:Int):=IntWalk.i64_in _ (by omega)
   have hXi:(X:Int)<(Q:Int):=by omega
   have hYi:(Y:Int)<(Q:Int):=by omega
   have hri:(r:Int)<(Q1:Int):=by omega
   clear h hZ hQ hQ1 hr hval hpi hpj hli hlj hX0 hY0 HR HL
   go_wp2
   go_quiet (fail)
   go_wp2
   go_ret
   exact ⟨by rw [<-HXE.out,<-HYE.out,<-HZ.out]; rfl,zac hB _⟩
theorem zeI (x:Int) (h:GF w w.heap.size g P M m) :
  Calls Tryz.prog 179 #[.pointer (some ⟨g,0,none⟩),.int .i64 x] w fun e w'=>Below w.heap.size w w'/\((inV (P ^ M) x=0/\e=.returned (.tuple #[.int .i64 0,.int .i64 7]))∨(inV (P ^ M) x≠0/\∃ y:Nat,e=.returned (.tuple #[.int .i64 (y:Nat),.int .i64 0])/\y<P ^ M/\y≠0/\mulF P M m (inV (P ^ M) x) y=1)):=by
 have hok:=h.ok
 have hL:=fieldLaws hok
 have hP2:=hok.1.1
 have hq:=hok.1.2.2.2
 have hq2:=hL.two
 have hX:=zdV (Nat.pow_pos (n:=M) (show 0<P by omega)) x
 have HR:=hid (ringM m hok.1)
 go_enter Tryz.func179, Tryz.ntmps179
 go_wp2_with fail
 refine (zbY x h).mono ?_
 rintro e w2 ⟨rfl,hB⟩
 have h2:=h.on hB
 clear h
 obtain ⟨X,hXe⟩:∃ X,X=inV (P ^ M) x:=⟨_,rfl⟩
 rw [<-hXe] at hX;rw [<-hXe]
 have HXE:=hid hXe
 clear hXe hL hok
 by_cases hX0:X=0
 ·have HX0:=hid hX0
  have hd:((X:Int) == 0)=true:=by simp [hX0]
  clear hX0 h2
  go_wp2
  go_ret2
  exact ⟨hB,.inl ⟨by rw [<-HXE.out]; exact HX0.out,rfl⟩⟩
 ·have HX0:=hid hX0
  have hd:((X:Int) == 0)=false:=by simp [hX0]
  obtain ⟨A,k,c,eb,eo,ec,lb,lo,lc,gx,lg,h⟩:=h2
  obtain ⟨i,hi,hpi⟩:=zdI hq2 h.gen.1 hX0 hX
  have hli:lg X=i:=by rw [<-hpi]; exact h.lgs i hi
  have c3:=qc3 h.row
  have c4:=qc4 h.row
  have c5:=qc5 h.row
  have l1:=h.lgr.here hX
  rw [hli] at l1
  obtain ⟨d,hd1⟩:∃ d,d=P ^ M - 1 - i:=⟨_,rfl⟩
  obtain ⟨r,hr⟩:∃ r,r=d % (P ^ M - 1):=⟨_,rfl⟩
  have hrq:r<P ^ M - 1:=by rw [hr]; exact Nat.mod_lt _ (by omega)
  have l3:=h.ex.here hrq
  obtain ⟨Z,hZ⟩:∃ Z,Z=pwG (mulF P M m) gx r:=⟨_,rfl⟩
  rw [<-hZ] at l3
  have HV:Hid (Z<P ^ M/\Z≠0/\mulF P M m X Z=1):=by
   refine ⟨by rw [hZ]; exact h.gen.1.lt r hrq,by rw [hZ]; exact h.gen.1.ne r hrq,?_⟩
   rw [hZ,<-hpi,zeG HR.out h.xq h.gen hi r hrq,hr,Nat.add_mod_mod,hd1,show i+(P ^ M - 1 - i)=P ^ M - 1 by omega,Nat.mod_self]
   rfl
  obtain ⟨Q,hQ⟩:∃ Q,Q=P ^ M:=⟨_,rfl⟩
  rw [<-hQ] at hX hi c3 c4 c5 hrq hr hq hq2 hd1 HV
  have HQ:=hid hQ
  obtain ⟨Q1,hQ1⟩:∃ Q1,Q1=Q - 1:=⟨_,rfl⟩
  rw [<-hQ1] at hi c4 hrq hr hd1
  have hQ1i:(Q:Int) - 1=(Q1:Int):=by omega
  have hQ10:¬ (Q1:Int)=0:=by omega
  have hQ1n:¬ Q1=0:=by omega
  have hQl:Q1<=256:=by omega
  have hdi:(Q1:Int) - (i:Int)=(d:Int):=by omega
  have m1:(d:Int) % (Q1:Int)=(r:Int):=by rw [hr]; simp
  have m2:(d:Int).tmod (Q1:Int)=(r:Int):=by rw [Int.tmod_eq_emod_of_nonneg (by omega)]; exact m1
  have wd:IntKind.i64.wrap (d:Int)=(d:Int):=IntWalk.i64_in _ (by omega)
  have wr':IntKind.i64.wrap (r:Int)=(r:Int):=IntWalk.i64_in _ (by omega)
  have wq:IntKind.i64.wrap (Q1:Int)=(Q1:Int):=IntWalk.i64_in _ (by omega)
  have hXi:(X:Int)<(Q:Int):=by omega
  have hri:(r:Int)<(Q1:Int):=by omega
  clear h hZ hQ hQ1 hr hpi hli hX0 HR hd1
  go_wp2
  go_quiet (fail)
  go_wp2
  go_ret2
  refine ⟨zac hB _,.inr ⟨by rw [<-HXE.out]; exact HX0.out,Z,rfl,?_⟩⟩
  rw [<-HXE.out,<-HQ.out]
  exact HV.out
end
section
variable {P M g:Nat} {m:Nat->Nat} {w:World}
theorem ze6 (a n:Nat) (V:Option Addr) (d:Nat) (v:Nat->Nat) (h:GF w w.heap.size g P M m) (ha:a<P ^ M) (hv:IntsR w w.heap.size V n (fun i=>(v i:Nat))) (hvq:∀ i,i<n->v i<P ^ M) (hn:n<=1048576) :
  Calls Tryz.prog 214 #[.pointer (some ⟨g,0,none⟩),.int .i64 (a:Nat),.slice V n d] w (RowPost n (fun i=>.int .i64 (mulF P M m a (v i):Nat)) w):=by
 have hq:=h.ok.1.2.2.2
 have HG:=hid h
 have HV:=hid hv
 have HVL:=hid hvq
 have HIA:=hid (zay ha)
 clear h hv hvq
 have hmk:=fun W=>zag (P:=Tryz.prog) 22 3 _ 8 Tryz.underlying22 Tryz.infoInt rfl (n:Int) (by omega) (by omega) (by omega) W
 simp only [Int.toNat_natCast] at hmk
 go_enter Tryz.func214, Tryz.ntmps214
 go_upto_region 2 with fail
 have hB:=(Below.refl w.heap.size w).alloc (Nat.le_refl _) (Obj.cells (madeCells #[Value.int .i64 0] n) 3)
 have ra:=World.rowIs_made w (.int .i64 0) n 3
 obtain ⟨w1,hw1⟩:∃ W,W=w.alloc (Obj.cells (madeCells #[Value.int .i64 0] n) 3):=⟨_,rfl⟩
 obtain ⟨r,hr⟩:∃ b,b=w.heap.size:=⟨_,rfl⟩
 rw [<-hw1] at hB ra ⊢;rw [<-hr] at ra ⊢
 have hrB:w.heap.size<=r:=by omega
 have HRE:=hid hr
 clear hw1 hr hmk
 go_wp2
 go_loopg [15] n (fun gg iv wx=>∃ i:Nat,iv=.int .i64 (i:Nat)/\i<=n/\n<=i+gg/\wx.rowIs r 3 n (fun t=>.int .i64 ((if t<i then mulF P M m a (v t) else 0:Nat):Int))/\Below w.heap.size w wx)
 case atStart=>exact ⟨0,rfl,by omega,by omega,ra.congr fun t _=>by rw [if_neg (by omega)]; rfl,hB⟩
 case round =>
  clear ra hB
  obtain ⟨i,rfl,hi,hig,ra,hB⟩:=hrel
  have hi0:(0:Int)<=(i:Int):=by omega
  by_cases hlt:i<n
  ·have hlt':(i:Int)<(n:Int):=by omega
   obtain ⟨vb,vo,rfl,hvb,x0⟩:=HV.out.at hlt
   have hvr:vb≠r:=by omega
   replace x0:=(hB.cell (p:=⟨vb,vo+i,none⟩) hvb).trans x0
   obtain ⟨x,hx⟩:∃ x,x=v i:=⟨_,rfl⟩
   have hix:inV (P ^ M) (x:Nat)=x:=by rw [hx]; exact zay (HVL.out i hlt)
   rw [<-hx] at x0
   have HX:=hid hx
   have HIX:=hid hix
   clear hx hix
   have hG:=HG.out.at hB hB.size
   go_wp2_with fail
   refine (zbu (a:Int) (x:Int) hG).mono ?_
   rintro e w2 ⟨rfl,kb⟩
   rw [HIA.out,HIX.out];replace ra:=zaa ra kb;replace hB:=onS hB kb;clear kb hG x0
   obtain ⟨z,hz⟩:∃ z,z=mulF P M m a x:=⟨_,rfl⟩
   rw [<-hz]
   have ra2:(w2.setCell ⟨r,i,none⟩ (.int .i64 (z:Int))).rowIs r 3 n (fun t=>.int .i64 ((if t<i+1 then mulF P M m a (v t) else 0:Nat):Int)):=(ra.set i _).congr fun t ht=>by
    by_cases e:t=i
    ·subst e
     rw [if_pos rfl,if_pos (by omega),hz,HX.out]
    ·rw [if_neg e]
     by_cases e2:t<i
     ·rw [if_pos e2,if_pos (by omega)]
     ·rw [if_neg e2,if_neg (by omega)]
   have RA:=hid ra2
   have HB2:Hid (Below w.heap.size w (w2.setCell ⟨r,i,none⟩ (.int .i64 (z:Int)))):=hB.setCell hrB _
   have c0:=ra.cell hlt
   have z0:=ra.frozen i
   clear hz ra2 ra hB
   go_wp2
   clear c0 z0
   go_roundg (gk - 1)
   case measure=>omega
   case rel=>exact ⟨i+1,by go_num,by omega,by omega,RA.out,HB2.out⟩
  ·obtain rfl:i=n:=by omega
   have hlt':¬ (i:Int)<(i:Int):=by omega
   have hrow:Hid (wr.rowIs r 3 i (fun t=>.int .i64 (mulF P M m a (v t):Nat))):=ra.congr fun t ht=>by rw [if_pos ht]
   clear ra
   go_wp2
   go_ret
   exact ⟨r,rfl,hrB,hrow.out,hB⟩
end
theorem ze7 (P M:Int) (A:Option Addr) (k c:Nat) (f:Nat->Int) (w:World) (hr:IntsR w w.heap.size A k f) :
  Calls Tryz.prog 142 #[.agg #[.int .i64 P,.int .i64 M,.slice A k c]] w (CheckPost (GoodF P M k f) w):=by
 have hB:Below w.heap.size w (w.alloc (.cells #[.int .i64 P,.int .i64 M,.slice A k c] 24)):=(Below.refl _ _).alloc (Nat.le_refl _) _
 have rf:=zad (w:=w) (a:=.int .i64 P) (b:=.int .i64 M) (c:=.slice A k c) (T := 24)
 obtain ⟨w0,hw0⟩:∃ W,W=w.alloc (.cells #[.int .i64 P,.int .i64 M,.slice A k c] 24):=⟨_,rfl⟩
 rw [<-hw0] at hB rf
 go_enter Tryz.func142, Tryz.ntmps142
 go_upto_region 1 with fail
 rw [<-hw0];clear hw0
 have q0:=qc0 rf
 have q1:=qc1 rf
 have q2:=qc2 rf
 refine wp_region_held_drew (S:=fun w'=>w'.cell? ⟨w.heap.size,0,none⟩=some (.int .i64 P)/\w'.cell? ⟨w.heap.size,1,none⟩=some (.int .i64 M)/\w'.cell? ⟨w.heap.size,2,none⟩=some (.slice A k c)) (by kernel_rfl) ⟨cellS (Below.refl _ _).drew q0,cellS (Below.refl _ _).drew q1,cellS (Below.refl _ _).drew q2⟩ (fun hHeld=>?_)
 obtain ⟨w1,hw⟩:∃ W,W=World.drew w0:=⟨_,rfl⟩
 have kb:Below w0.heap.size w0 w1:=by rw [hw]; exact (Below.refl _ _).drew
 rw [<-hw] at hHeld ⊢;clear hw;replace hB:=onS hB kb;replace rf:=zaa rf kb;clear kb q0 q1 q2
 refine tkq 0 (h:=rdq 1 (h:=fun K hK=>?_))
 go_simp
 go_wp2_with fail
 refine (zeH P M A k c f w1 (hr.on hB)).mono ?_
 rintro e w2 ⟨b,rfl,hb,kb⟩
 replace hB:=onS hB kb;replace rf:=zaa rf kb
 have HBS:=hid hb
 clear kb hb
 have q0:=qc0 rf
 have q1:=qc1 rf
 have q2:=qc2 rf
 cases b
 ·have hno:Hid (¬ GoodF P M k f):=fun h=>by have:=HBS.out.2 h.shape; cases this
  refine bkq hK ⟨q0,q1,q2⟩ (h:=fun hHeld=>?_)
  clear hK K
  refine tkq 2 (h:=tkq 3 (h:=tkn 4 (h:=tkn 5 (h:=tkn 6 (h:=tkn 7 (h:=tkn 8 (h:=tkn 9 (h:=tkn 10 (h:=tkn 11 (h:=tkq 12 (h:=?_)))))))))))
  refine wpAnyH_done (by kernel_rfl) ?_ _
  clear hHeld
  go_wp2
  go_ret
  exact zaC hno.out hB
 ·have hs:=HBS.out.1 rfl
  clear HBS
  obtain ⟨P,M,rfl,rfl,hf,hkM⟩:=hs.fld
  have HS:=hid hs
  have HF:=hid hf
  have HKM:Hid (M=1∨k=M):=hkM
  have hov:=hid (zci hf)
  clear hs hf hkM
  refine bkq hK ⟨q0,q1,q2⟩ (h:=fun hHeld=>?_)
  clear hK K
  refine tkq 2 (h:=tkq 3 (h:=tkq 4 (h:=tkq 5 (h:=tkq 6 (h:=tkq 7 (h:=tkq 8 (h:=rdq 9 (h:=fun K hK=>?_))))))))
  go_simp
  go_wp2_with fail
  refine (zbX (P:Int) (M:Int) _).mono ?_
  rintro e w3 ⟨rfl,kb⟩
  rw [hov.out];replace hB:=onS hB kb;replace rf:=zaa rf kb;clear kb q0 q1 q2
  refine bkq hK ⟨qc0 rf,qc1 rf,qc2 rf⟩ (h:=fun hHeld=>?_)
  clear hK K
  refine rdq 10 (h:=fun K hK=>?_)
  go_simp
  go_wp2_with fail
  refine (zb2 P M A k c (fun i=>(f i).toNat) (P ^ M) w3 HF.out (HS.out.mod (hr.on hB)) HKM.out rfl).mono ?_
  rintro e w4 ⟨kb,hg⟩
  have HG:=hid hg
  replace hB:=onS hB kb;replace rf:=zaa rf kb;clear kb hg
  rcases HG.out with ⟨rfl,hno⟩ | ⟨lv,x,rfl,hx1,hxq,hgx,hO⟩
  ·have hno:Hid (¬ GoodF (P:Int) (M:Int) k f):=fun h=>by
    obtain ⟨x,h1,h2,h3⟩:=HS.out.good.1 h
    exact hno x h1 h2 h3
   refine bkq hK ⟨qc0 rf,qc1 rf,qc2 rf⟩ (h:=fun hHeld=>?_)
   clear hK K
   have he:∀ w:World,(binOp .eql 22 (.slice none 0 0) (.slice none 0 0)).run Tryz.prog w=.ok (.bool true) w:=fun _=>rfl
   refine tkq 11 (h:=tkq 12 (h:=?_))
   refine wpAnyH_done (by kernel_rfl) ?_ _
   clear hHeld
   go_wp2
   go_ret
   exact zaC hno.out hB
  ·have hyes:Hid (GoodF (P:Int) (M:Int) k f):=HS.out.good.2 ⟨x,hx1,hxq,hgx⟩
   have hne:P ^ M - 1≠0:=by omega
   obtain ⟨lb,lo,lc,rfl,_⟩:=hO.form (by omega)
   obtain ⟨L,hL⟩:∃ L,L=P ^ M - 1:=⟨_,rfl⟩
   rw [<-hL];clear hne hO hxq hL hgx HG
   refine bkq hK ⟨qc0 rf,qc1 rf,qc2 rf⟩ (h:=fun hHeld=>?_)
   clear hK K
   have he:∀ w:World,(binOp .eql 22 (.slice (some ⟨lb,lo,none⟩) L lc) (.slice none 0 0)).run Tryz.prog w=.ok (.bool false) w:=fun _=>rfl
   refine tkq 11 (h:=tkq 12 (h:=?_))
   refine wpAnyH_done (by kernel_rfl) ?_ _
   clear hHeld
   go_wp2
   go_ret
   exact zbR hyes.out hB
def lgP (p:Nat->Nat):Nat->Nat->Nat
 | 0,_=>0
 | n+1,t=>if t=p n then n else lgP p n t
theorem zh2 {q:Nat} {p:Nat->Nat} {N i:Nat} (h:PwOk q p N):∀ n,n<=N->i<n->lgP p n (p i)=i
 | 0,_,hi=>by omega
 | n + 1, hn, hi => by
  show (if p i=p n then n else lgP p n (p i))=i
  by_cases e:i=n
  ·subst e; rw [if_pos rfl]
  ·rw [if_neg (h.inj i n (by omega) (by omega))]
   exact zh2 h n (by omega) (by omega)
theorem zde {w:World} {a b c d e f:Value} {T:TypeId}:(w.alloc (.cells #[a,b,c,d,e,f] T)).rowIs w.heap.size T 6 (gfCell a b c d e f) :=
 ⟨_,zat rfl,rfl,fun i hi=>by
  match i,hi with
  | 0,_=>rfl
  | 1,_=>rfl
  | 2,_=>rfl
  | 3,_=>rfl
  | 4,_=>rfl
  | 5,_=>rfl⟩
theorem zgw {w:World} {base e s n:Nat} {v:Value} {f:Nat->Nat->Value} (h:Own w base e s v n f):v.ownBlock=none∨v.ownBlock≠some w.heap.size:=.inr fun e=>by have:=(h.lt _ e).2; omega
def GFU (w:World) (base B g P M:Nat) (m:Nat->Nat):Prop:=∃ A k c eb eo ec lb lo lc x lg,GFr w B g P M m A k c eb eo ec lb lo lc x lg/\base<=g/\base<=eb/\base<=lb/\∀ ad,A=some ad->base<=ad.block
theorem GFU.gf {w:World} {base B g P M:Nat} {m:Nat->Nat} (h:GFU w base B g P M m):GF w B g P M m:=by
 obtain ⟨A,k,c,eb,eo,ec,lb,lo,lc,x,lg,h,_⟩:=h
 exact ⟨A,k,c,eb,eo,ec,lb,lo,lc,x,lg,h⟩
theorem GFU.grown {w w':World} {base g P M b:Nat} {m:Nat->Nat} (h:GFU w base w.heap.size g P M m) (hg:w.grownBy w' (some b)) (hb:b<base):GFU w' base w'.heap.size g P M m:=by
 obtain ⟨A,k,c,eb,eo,ec,lb,lo,lc,x,lg,h,h1,h2,h3,h4⟩:=h
 have key:∀ {ad:Option Addr} {n:Nat} {f:Nat->Int},IntsR w w.heap.size ad n f->(∀ a,ad=some a->base<=a.block)->IntsR w' w'.heap.size ad n f:=fun {ad n f} hr ha i hi=>by
  obtain ⟨q,o,e,hq,hc⟩:=hr i hi
  refine ⟨q,o,e,Nat.lt_of_lt_of_le hq hg.size,fun j hj=>?_⟩
  have hq2:base<=q:=ha _ e
  exact (World.cell?_of_block (w:=w) (a:=⟨q,o+i*1+j,none⟩) (hg.block q hq (by intro e; injection e with e; omega))).trans (hc j hj)
 exact ⟨A,k,c,eb,eo,ec,lb,lo,lc,x,lg,⟨h.ok,h.km,h.row.of_block (hg.block g h.row.lt (by intro e; injection e with e; omega)),Nat.lt_of_lt_of_le h.lt hg.size,key h.md h4,key h.ex (fun a e=>by injection e with e; subst e; exact h2),key h.lgr (fun a e=>by injection e with e; subst e; exact h3),h.x0,h.xq,h.gen,h.lgs⟩,h1,h2,h3,h4⟩
def NewPost (P M:Int) (k:Nat) (f:Nat->Int) (w:World) (e:Ending) (w':World):Prop :=
 Below w.heap.size w w'/\((¬ GoodF P M k f/\e=.returned (.tuple #[.pointer none,.int .i64 1])) ∨
  (GoodF P M k f/\∃ g P' M',P=(P':Nat)/\M=(M':Nat)/\e=.returned (.tuple #[.pointer (some ⟨g,0,none⟩),.int .i64 0])/\w.heap.size<=g/\GFU w' w.heap.size w'.heap.size g P' M' (fun i=>(f i).toNat)))
theorem zdf (P M:Int) (A:Option Addr) (k c:Nat) (f:Nat->Int) (w:World) (hr:IntsR w w.heap.size A k f) :
  Calls Tryz.prog 64 #[.agg #[.int .i64 P,.int .i64 M,.slice A k c]] w (NewPost P M k f w):=by
 have hB:Below w.heap.size w (w.alloc (.cells #[.int .i64 P,.int .i64 M,.slice A k c] 24)):=(Below.refl _ _).alloc (Nat.le_refl _) _
 have rf:=zad (w:=w) (a:=.int .i64 P) (b:=.int .i64 M) (c:=.slice A k c) (T := 24)
 obtain ⟨w0,hw0⟩:∃ W,W=w.alloc (.cells #[.int .i64 P,.int .i64 M,.slice A k c] 24):=⟨_,rfl⟩
 rw [<-hw0] at hB rf
 go_enter Tryz.func64, Tryz.ntmps64
 go_upto_region 1 with fail
 rw [<-hw0];clear hw0
 have q0:=qc0 rf
 have q1:=qc1 rf
 have q2:=qc2 rf
 go_wp2_with fail
 refine (zeH P M A k c f w0 (hr.on hB)).mono ?_
 rintro e w1 ⟨b,rfl,hb,kb⟩
 replace hB:=onS hB kb;replace rf:=zaa rf kb
 have HBS:=hid hb
 clear kb hb q0 q1 q2
 cases b
 ·have hno:Hid (¬ GoodF P M k f):=fun h=>by have:=HBS.out.2 h.shape; cases this
  go_wp2
  go_ret2
  exact ⟨hB,.inl ⟨hno.out,rfl⟩⟩
 ·have hs:=HBS.out.1 rfl
  clear HBS
  obtain ⟨P,M,rfl,rfl,hf,hkM⟩:=hs.fld
  have HKE:Hid ((M=1/\k=0)∨(2<=M/\k=M)):=by
   obtain ⟨P',M',h1,h2,_,_,h5⟩:=hs
   obtain rfl:M=M':=by omega
   rcases h5 with h | ⟨a,b,_⟩
   ·exact .inl h
   ·exact .inr ⟨a,b⟩
  have HS:=hid hs
  have HF:=hid hf
  have HKM:Hid (M=1∨k=M):=hkM
  have hq6:=hf.2.2.2
  have hM8:=hf.2.2.1
  have hk8:k<=8:=by rcases HKE.out with h | h <;> omega
  obtain ⟨Q,hQ⟩:∃ Q,Q=P ^ M:=⟨_,rfl⟩
  have hov:Hid (ordV (P:Int) (M:Int)=(Q:Int)):=by show _=_; rw [zci hf,hQ]
  rw [<-hQ] at hq6
  have HQ:=hid hQ
  clear hs hf hkM hQ
  have q0:=qc0 rf
  have q1:=qc1 rf
  have q2:=qc2 rf
  go_wp2_with fail
  refine (zbX (P:Int) (M:Int) _).mono ?_
  rintro e w2 ⟨rfl,kb⟩
  rw [hov.out];replace hB:=onS hB kb;replace rf:=zaa rf kb;clear kb q0 q1 q2
  have q0:=qc0 rf
  have q1:=qc1 rf
  have q2:=qc2 rf
  go_wp2_with fail
  refine (zb2 P M A k c (fun i=>(f i).toNat) Q w2 HF.out (HS.out.mod (hr.on hB)) HKM.out HQ.out).mono ?_
  rintro e w3 ⟨kb,hg⟩
  have HG:=hid hg
  have hB2:=hB.size
  replace hB:=onS hB kb;replace rf:=zaa rf kb;clear kb hg q0 q1 q2
  rcases HG.out with ⟨rfl,hno⟩ | ⟨lv,x,rfl,hx1,hxq,hgx,hO⟩
  ·have hno:Hid (¬ GoodF (P:Int) (M:Int) k f):=fun h=>by
    obtain ⟨x,h1,h2,h3⟩:=HS.out.good.1 h
    exact hno x h1 (by rw [HQ.out]; exact h2) (by rw [HQ.out]; exact h3)
   have he:∀ w:World,(binOp .eql 22 (.slice none 0 0) (.slice none 0 0)).run Tryz.prog w=.ok (.bool true) w:=fun _=>rfl
   go_wp2
   go_ret2
   exact ⟨hB,.inl ⟨hno.out,rfl⟩⟩
  ·have hyes:Hid (GoodF (P:Int) (M:Int) k f):=HS.out.good.2 ⟨x,hx1,by rw [<-HQ.out]; exact hxq,by rw [<-HQ.out]; exact hgx⟩
   obtain ⟨lb,lo,lc,rfl,_⟩:=hO.form (by omega)
   obtain ⟨L,hL⟩:∃ L,L=Q - 1:=⟨_,rfl⟩
   obtain ⟨p,hp⟩:∃ p,p=pwG (mulF P M fun i=>(f i).toNat) x:=⟨_,rfl⟩
   have hpok:PwOk Q p L:=by rw [hL,hp]; exact hgx.1
   have HPK:=hid hpok
   have HGX:=hid hgx
   have HL:=hid hL
   have HPE:=hid hp
   rw [<-hL,<-hp] at hO;rw [<-hL]
   have hL0:0<L:=by omega
   have hLQ:L+1=Q:=by omega
   have HX:Hid (1<=x/\x<Q):=⟨hx1,hxq⟩
   clear hL hgx HG hpok hp hx1 hxq
   have he:∀ w:World,(binOp .eql 22 (.slice (some ⟨lb,lo,none⟩) L lc) (.slice none 0 0)).run Tryz.prog w=.ok (.bool false) w:=fun _=>rfl
   go_wp2
   clear he
   have hO3:=hO.mono hB2
   clear hO hB2
   have HRR:=hid hr
   obtain ⟨w1,hw1⟩:∃ W,W=w3:=⟨_,rfl⟩
   rw [<-hw1] at hO3 hB rf ⊢;clear hw1 hr
   have q0:=qc0 rf
   have q1:=qc1 rf
   have q2:=qc2 rf
   have hmk:=fun W=>zag (P:=Tryz.prog) 22 3 _ 8 Tryz.underlying22 Tryz.infoInt rfl (Q:Int) (by omega) (by omega) (by omega) W
   simp only [Int.toNat_natCast] at hmk
   go_cut [6] (fun v6 wx=>∃ gg A7 c7 gl,v6=.pointer (some ⟨gg,0,none⟩)/\w.heap.size<=gg/\wx.rowIs gg 178 6 (gfCell (.int .i64 (P:Nat)) (.int .i64 (M:Nat)) (.slice A7 k c7) (.int .i64 (Q:Nat)) (.slice (some ⟨lb,lo,none⟩) L lc) (.slice (some ⟨gl,0,none⟩) Q Q))/\wx.rowIs gl 3 Q (fun _=>.int .i64 0)/\Own wx w.heap.size 3 1 (.slice A7 k c7) k (fun j _=>.int .i64 (f j))/\((Value.slice A7 k c7).ownBlock=none∨(Value.slice A7 k c7).ownBlock≠some gl)/\lb≠gl/\Own wx w.heap.size 3 1 (.slice (some ⟨lb,lo,none⟩) L lc) L (fun i _=>.int .i64 (p i:Nat))/\w.heap.size<=gl/\Below w.heap.size w wx)
   case first =>
    refine wp_region_held_drew (S:=fun w'=>w'.cell? ⟨w.heap.size,0,none⟩=some (.int .i64 (P:Nat))/\w'.cell? ⟨w.heap.size,1,none⟩=some (.int .i64 (M:Nat))/\w'.cell? ⟨w.heap.size,2,none⟩=some (.slice A k c)) (by kernel_rfl) ⟨cellS (Below.refl _ _).drew (q0),cellS (Below.refl _ _).drew (q1),cellS (Below.refl _ _).drew (q2)⟩ (fun hHeld=>?_)
    obtain ⟨w2,hw⟩:∃ W,W=World.drew w1:=⟨_,rfl⟩
    have kb:Below w1.heap.size w1 w2:=by rw [hw]; exact (Below.refl _ _).drew
    rw [<-hw] at hHeld ⊢;clear hw;replace rf:=zaa rf kb;replace hB:=onS hB kb;replace hO3:=hO3.on kb;replace q0:=cellS kb q0;replace q1:=cellS kb q1;replace q2:=cellS kb q2;clear kb
    refine tkq 0 (h:=tkq 1 (h:=tkq 2 (h:=tkq 3 (h:=tkq 5 (h:=tkq 6 (h:=tkq 9 (h:=tkq 10 (h:=tkq 11 (h:=?_)))))))))
    refine rdq2 4 12 (h:=fun K hK=>?_) (h2:=fun K hK=>?_)
    ·go_simp
     obtain ⟨w3,hw⟩:∃ W,W=World.alloc w2 (Obj.cells #[] 3):=⟨_,rfl⟩
     have kb:Below w2.heap.size w2 w3:=by rw [hw]; exact (Below.refl _ _).alloc (Nat.le_refl _) _
     have n0:w3.rowIs w2.heap.size 3 0 (fun _=>undef):=by rw [hw]; exact ⟨_,zat rfl,rfl,fun i hi=>absurd hi (by omega)⟩
     have hn0:w.heap.size<=w2.heap.size:=hB.size
     rw [<-hw];clear hw
     obtain ⟨b0,hb⟩:∃ b,b=w2.heap.size:=⟨_,rfl⟩
     rw [<-hb] at n0 hn0 ⊢;clear hb;replace rf:=zaa rf kb;replace hB:=onS hB kb;replace hO3:=hO3.on kb;replace q0:=cellS kb q0;replace q1:=cellS kb q1;replace q2:=cellS kb q2;clear kb
     refine bkq hK ⟨q0,q1,q2⟩ (h:=fun hHeld=>?_)
     clear hK K
     refine rdq2 7 12 (h:=fun K hK=>?_) (h2:=fun K hK=>?_)
     ·have hsrc:=HRR.out.on hB
      refine zbb (by rfl) (.tmp 26) (.tmp 28) (by rfl) (b0:=b0) (base:=w.heap.size) (by rfl) n0 hn0 (A:=A) (c:=c) (n:=k) (f:=f) (by rfl) hsrc (by omega) ?_
      intro v7 w4 hv7 kb hat7
      clear hat7 hsrc n0 hn0;replace rf:=zaa rf kb;replace hB:=onS hB kb;replace hO3:=hO3.on kb;replace q0:=cellS kb q0;replace q1:=cellS kb q1;replace q2:=cellS kb q2;clear kb
      obtain ⟨A7,c7,hsh⟩:=Own.shape hv7
      subst hsh
      refine bkq hK ⟨q0,q1,q2⟩ (h:=fun hHeld=>?_)
      clear hK K
      refine tkq 8 (h:=?_)
      refine rdq 12 (h:=fun K hK=>?_)
      go_simp
      obtain ⟨w5,hw⟩:∃ W,W=World.alloc w4 (Obj.cells (madeCells #[.int .i64 0] Q) 3):=⟨_,rfl⟩
      have kb:Below w4.heap.size w4 w5:=by rw [hw]; exact (Below.refl _ _).alloc (Nat.le_refl _) _
      have rl:w5.rowIs w4.heap.size 3 Q (fun _=>.int .i64 0):=by rw [hw]; exact World.rowIs_made w4 (.int .i64 0) Q 3
      have hgl:w.heap.size<=w4.heap.size:=hB.size
      have hel:lb≠w4.heap.size:=by have:=(hO3.lt lb rfl).2; omega
      have hne7:(Value.slice A7 k c7).ownBlock=none∨(Value.slice A7 k c7).ownBlock≠some w4.heap.size:=zgw hv7
      rw [<-hw];clear hw
      obtain ⟨gl,hb⟩:∃ b,b=w4.heap.size:=⟨_,rfl⟩
      rw [<-hb] at rl hgl hel hne7 ⊢;clear hb;replace rf:=zaa rf kb;replace hB:=onS hB kb;replace hO3:=hO3.on kb;replace q0:=cellS kb q0;replace q1:=cellS kb q1;replace q2:=cellS kb q2;replace hv7:=hv7.on kb;clear kb
      refine bkq hK ⟨q0,q1,q2⟩ (h:=fun hHeld=>?_)
      clear hK K
      refine tkq 13 (h:=?_)
      refine rdq 14 (h:=fun K hK=>?_)
      go_simp
      obtain ⟨w6,hw⟩:∃ W,W=World.alloc w5 (Obj.cells #[.int .i64 (P:Nat),.int .i64 (M:Nat),.slice A7 k c7,.int .i64 (Q:Nat),.slice (some ⟨lb,lo,none⟩) L lc,.slice (some ⟨gl,0,none⟩) Q Q] 178):=⟨_,rfl⟩
      have kb:Below w5.heap.size w5 w6:=by rw [hw]; exact (Below.refl _ _).alloc (Nat.le_refl _) _
      have rg:w6.rowIs w5.heap.size 178 6 (gfCell (.int .i64 (P:Nat)) (.int .i64 (M:Nat)) (.slice A7 k c7) (.int .i64 (Q:Nat)) (.slice (some ⟨lb,lo,none⟩) L lc) (.slice (some ⟨gl,0,none⟩) Q Q)):=by rw [hw]; exact zde
      have hgg:w.heap.size<=w5.heap.size:=hB.size
      rw [<-hw];clear hw
      obtain ⟨gg,hb⟩:∃ b,b=w5.heap.size:=⟨_,rfl⟩
      rw [<-hb] at rg hgg ⊢;clear hb;replace rf:=zaa rf kb;replace rl:=zaa rl kb;replace hB:=onS hB kb;replace hO3:=hO3.on kb;replace q0:=cellS kb q0;replace q1:=cellS kb q1;replace q2:=cellS kb q2;replace hv7:=hv7.on kb;clear kb
      refine bkq hK ⟨q0,q1,q2⟩ (h:=fun hHeld=>?_)
      clear hK K
      refine tkq 15 (h:=?_)
      refine wpAnyH_done (by kernel_rfl) ?_ _
      clear hHeld
      go_wp2
      go_meet
      exact ⟨gg,A7,c7,gl,rfl,hgg,rg,rl,hv7,hne7,hel,hO3,hgl,hB⟩
     ·go_simp
      obtain ⟨w4,hw⟩:∃ W,W=World.alloc w3 (Obj.cells (madeCells #[.int .i64 0] Q) 3):=⟨_,rfl⟩
      have kb:Below w3.heap.size w3 w4:=by rw [hw]; exact (Below.refl _ _).alloc (Nat.le_refl _) _
      have rl:w4.rowIs w3.heap.size 3 Q (fun _=>.int .i64 0):=by rw [hw]; exact World.rowIs_made w3 (.int .i64 0) Q 3
      have hgl:w.heap.size<=w3.heap.size:=hB.size
      have hel:lb≠w3.heap.size:=by have:=(hO3.lt lb rfl).2; omega
      have hbl:b0≠w3.heap.size:=by have:=n0.lt; omega
      rw [<-hw];clear hw
      obtain ⟨gl,hb⟩:∃ b,b=w3.heap.size:=⟨_,rfl⟩
      rw [<-hb] at rl hgl hel hbl ⊢;clear hb;replace rf:=zaa rf kb;replace n0:=zaa n0 kb;replace hB:=onS hB kb;replace hO3:=hO3.on kb;replace q0:=cellS kb q0;replace q1:=cellS kb q1;replace q2:=cellS kb q2;clear kb
      refine bkq hK ⟨q0,q1,q2⟩ (h:=fun hHeld=>?_)
      clear hK K
      refine rdq 7 (h:=fun K hK=>?_)
      have hsrc:=HRR.out.on hB
      have hll:=rl.lt
      refine zbb (by rfl) (.tmp 26) (.tmp 28) (by rfl) (b0:=b0) (base:=w.heap.size) (by rfl) n0 hn0 (A:=A) (c:=c) (n:=k) (f:=f) (by rfl) hsrc (by omega) ?_
      intro v7 w5 hv7 kb hat7
      have hne7:v7.ownBlock=none∨v7.ownBlock≠some gl:=.inr fun e=>by
       rcases hat7 with h | h <;> (rw [h] at e; injection e with e; omega)
      clear hll;clear hat7 hsrc n0 hn0;replace rf:=zaa rf kb;replace rl:=zaa rl kb;replace hB:=onS hB kb;replace hO3:=hO3.on kb;replace q0:=cellS kb q0;replace q1:=cellS kb q1;replace q2:=cellS kb q2;clear kb
      obtain ⟨A7,c7,hsh⟩:=Own.shape hv7
      subst hsh
      refine bkq hK ⟨q0,q1,q2⟩ (h:=fun hHeld=>?_)
      clear hK K
      refine tkq 8 (h:=tkq 13 (h:=?_))
      refine rdq 14 (h:=fun K hK=>?_)
      go_simp
      obtain ⟨w6,hw⟩:∃ W,W=World.alloc w5 (Obj.cells #[.int .i64 (P:Nat),.int .i64 (M:Nat),.slice A7 k c7,.int .i64 (Q:Nat),.slice (some ⟨lb,lo,none⟩) L lc,.slice (some ⟨gl,0,none⟩) Q Q] 178):=⟨_,rfl⟩
      have kb:Below w5.heap.size w5 w6:=by rw [hw]; exact (Below.refl _ _).alloc (Nat.le_refl _) _
      have rg:w6.rowIs w5.heap.size 178 6 (gfCell (.int .i64 (P:Nat)) (.int .i64 (M:Nat)) (.slice A7 k c7) (.int .i64 (Q:Nat)) (.slice (some ⟨lb,lo,none⟩) L lc) (.slice (some ⟨gl,0,none⟩) Q Q)):=by rw [hw]; exact zde
      have hgg:w.heap.size<=w5.heap.size:=hB.size
      rw [<-hw];clear hw
      obtain ⟨gg,hb⟩:∃ b,b=w5.heap.size:=⟨_,rfl⟩
      rw [<-hb] at rg hgg ⊢;clear hb;replace rf:=zaa rf kb;replace rl:=zaa rl kb;replace hB:=onS hB kb;replace hO3:=hO3.on kb;replace q0:=cellS kb q0;replace q1:=cellS kb q1;replace q2:=cellS kb q2;replace hv7:=hv7.on kb;clear kb
      refine bkq hK ⟨q0,q1,q2⟩ (h:=fun hHeld=>?_)
      clear hK K
      refine tkq 15 (h:=?_)
      refine wpAnyH_done (by kernel_rfl) ?_ _
      clear hHeld
      go_wp2
      go_meet
      exact ⟨gg,A7,c7,gl,rfl,hgg,rg,rl,hv7,hne7,hel,hO3,hgl,hB⟩
    ·go_simp
     obtain ⟨w3,hw⟩:∃ W,W=World.alloc w2 (Obj.cells (madeCells #[.int .i64 0] Q) 3):=⟨_,rfl⟩
     have kb:Below w2.heap.size w2 w3:=by rw [hw]; exact (Below.refl _ _).alloc (Nat.le_refl _) _
     have rl:w3.rowIs w2.heap.size 3 Q (fun _=>.int .i64 0):=by rw [hw]; exact World.rowIs_made w2 (.int .i64 0) Q 3
     have hgl:w.heap.size<=w2.heap.size:=hB.size
     have hel:lb≠w2.heap.size:=by have:=(hO3.lt lb rfl).2; omega
     rw [<-hw];clear hw
     obtain ⟨gl,hb⟩:∃ b,b=w2.heap.size:=⟨_,rfl⟩
     rw [<-hb] at rl hgl hel ⊢;clear hb;replace rf:=zaa rf kb;replace hB:=onS hB kb;replace hO3:=hO3.on kb;replace q0:=cellS kb q0;replace q1:=cellS kb q1;replace q2:=cellS kb q2;clear kb
     refine bkq hK ⟨q0,q1,q2⟩ (h:=fun hHeld=>?_)
     clear hK K
     refine rdq 4 (h:=fun K hK=>?_)
     go_simp
     obtain ⟨w4,hw⟩:∃ W,W=World.alloc w3 (Obj.cells #[] 3):=⟨_,rfl⟩
     have kb:Below w3.heap.size w3 w4:=by rw [hw]; exact (Below.refl _ _).alloc (Nat.le_refl _) _
     have n0:w4.rowIs w3.heap.size 3 0 (fun _=>undef):=by rw [hw]; exact ⟨_,zat rfl,rfl,fun i hi=>absurd hi (by omega)⟩
     have hn0:w.heap.size<=w3.heap.size:=hB.size
     have hbl:w3.heap.size≠gl:=by have:=rl.lt; omega
     rw [<-hw];clear hw
     obtain ⟨b0,hb⟩:∃ b,b=w3.heap.size:=⟨_,rfl⟩
     rw [<-hb] at n0 hn0 hbl ⊢;clear hb;replace rf:=zaa rf kb;replace rl:=zaa rl kb;replace hB:=onS hB kb;replace hO3:=hO3.on kb;replace q0:=cellS kb q0;replace q1:=cellS kb q1;replace q2:=cellS kb q2;clear kb
     refine bkq hK ⟨q0,q1,q2⟩ (h:=fun hHeld=>?_)
     clear hK K
     refine rdq 7 (h:=fun K hK=>?_)
     have hsrc:=HRR.out.on hB
     have hll:=rl.lt
     refine zbb (by rfl) (.tmp 26) (.tmp 28) (by rfl) (b0:=b0) (base:=w.heap.size) (by rfl) n0 hn0 (A:=A) (c:=c) (n:=k) (f:=f) (by rfl) hsrc (by omega) ?_
     intro v7 w5 hv7 kb hat7
     have hne7:v7.ownBlock=none∨v7.ownBlock≠some gl:=.inr fun e=>by
      rcases hat7 with h | h <;> (rw [h] at e; injection e with e; omega)
     clear hll;clear hat7 hsrc n0 hn0;replace rf:=zaa rf kb;replace rl:=zaa rl kb;replace hB:=onS hB kb;replace hO3:=hO3.on kb;replace q0:=cellS kb q0;replace q1:=cellS kb q1;replace q2:=cellS kb q2;clear kb
     obtain ⟨A7,c7,hsh⟩:=Own.shape hv7
     subst hsh
     refine bkq hK ⟨q0,q1,q2⟩ (h:=fun hHeld=>?_)
     clear hK K
     refine tkq 8 (h:=tkq 13 (h:=?_))
     refine rdq 14 (h:=fun K hK=>?_)
     go_simp
     obtain ⟨w6,hw⟩:∃ W,W=World.alloc w5 (Obj.cells #[.int .i64 (P:Nat),.int .i64 (M:Nat),.slice A7 k c7,.int .i64 (Q:Nat),.slice (some ⟨lb,lo,none⟩) L lc,.slice (some ⟨gl,0,none⟩) Q Q] 178):=⟨_,rfl⟩
     have kb:Below w5.heap.size w5 w6:=by rw [hw]; exact (Below.refl _ _).alloc (Nat.le_refl _) _
     have rg:w6.rowIs w5.heap.size 178 6 (gfCell (.int .i64 (P:Nat)) (.int .i64 (M:Nat)) (.slice A7 k c7) (.int .i64 (Q:Nat)) (.slice (some ⟨lb,lo,none⟩) L lc) (.slice (some ⟨gl,0,none⟩) Q Q)):=by rw [hw]; exact zde
     have hgg:w.heap.size<=w5.heap.size:=hB.size
     rw [<-hw];clear hw
     obtain ⟨gg,hb⟩:∃ b,b=w5.heap.size:=⟨_,rfl⟩
     rw [<-hb] at rg hgg ⊢;clear hb;replace rf:=zaa rf kb;replace rl:=zaa rl kb;replace hB:=onS hB kb;replace hO3:=hO3.on kb;replace q0:=cellS kb q0;replace q1:=cellS kb q1;replace q2:=cellS kb q2;replace hv7:=hv7.on kb;clear kb
     refine bkq hK ⟨q0,q1,q2⟩ (h:=fun hHeld=>?_)
     clear hK K
     refine tkq 15 (h:=?_)
     refine wpAnyH_done (by kernel_rfl) ?_ _
     clear hHeld
     go_wp2
     go_meet
     exact ⟨gg,A7,c7,gl,rfl,hgg,rg,rl,hv7,hne7,hel,hO3,hgl,hB⟩
   case rest =>
    obtain ⟨gg,A7,c7,gl,rfl,hgg,rg,rl,hm7,hne7,hnel,hO,hgl,hB⟩:=hcut
    clear hO3 rf q0 q1 q2 hmk
    have HM7:=hid hm7
    have HNE:=hid hne7
    have HNL:=hid hnel
    have HOE:=hid hO
    have HRG:=hid rg
    have hglg:gl≠gg:=fun e=>by
     obtain ⟨cs,h1,_⟩:=rl
     obtain ⟨cs',h2,_⟩:=rg
     rw [e,h2] at h1
     injection h1 with h1
     injection h1 with _ h1
     exact absurd h1 (by decide)
    have HGL:=hid hglg
    have HB:=hid hB
    have HRL:=hid (rl.congr (g:=fun t=>.int .i64 (lgP p 0 t:Nat)) fun t _=>rfl)
    clear hm7 hne7 hnel hO rg hglg hB rl
    go_wp2
    go_loopg [39] L (fun g2 iv wx=>∃ i:Nat,iv=.int .i64 (i:Nat)/\i<=L/\L<=i+g2/\Hid (wx.rowIs gl 3 Q (fun t=>.int .i64 (lgP p i t:Nat)))/\Hid (wx.rowIs gg 178 6 (gfCell (.int .i64 (P:Nat)) (.int .i64 (M:Nat)) (.slice A7 k c7) (.int .i64 (Q:Nat)) (.slice (some ⟨lb,lo,none⟩) L lc) (.slice (some ⟨gl,0,none⟩) Q Q)))/\Hid (Own wx w.heap.size 3 1 (.slice A7 k c7) k (fun j _=>.int .i64 (f j)))/\Hid (Own wx w.heap.size 3 1 (.slice (some ⟨lb,lo,none⟩) L lc) L (fun i _=>.int .i64 (p i:Nat)))/\Hid (Below w.heap.size w wx))
    case atStart=>exact ⟨0,rfl,by omega,by omega,HRL,HRG,HM7,HOE,HB⟩
    case round =>
     clear HRL HRG HM7 HOE HB
     obtain ⟨i,rfl,hi,hig,HRL,HRG,HM7,HOE,HB⟩:=hrel
     have hi0:(0:Int)<=(i:Int):=by omega
     by_cases hlt:i<L
     ·have hlt':(i:Int)<(L:Int):=by omega
      have hpq:=HPK.out.lt i hlt
      have x0:=(show IntsR wr wr.heap.size (some ⟨lb,lo,none⟩) L (fun i=>((p i:Nat):Int)) from HOE.out.rd rfl).here hlt
      obtain ⟨y,hy⟩:∃ y,y=p i:=⟨_,rfl⟩
      rw [<-hy] at x0 hpq
      have hyq:(y:Int)<(Q:Int):=by omega
      have g5:=qc5 HRG.out
      have y0:=HRL.out.cell (i:=y) hpq
      have z0:=HRL.out.frozen y
      have HRL2:=hid ((HRL.out.set y (.int .i64 (i:Nat))).congr (g:=fun t=>.int .i64 (lgP p (i+1) t:Nat)) fun t _=>by
       show (if t=y then Value.int .i64 (i:Nat) else .int .i64 (lgP p i t:Nat))=.int .i64 ((if t=p i then i else lgP p i t:Nat):Int)
       rw [<-hy]
       split <;> rfl)
      have HRG2:=hid (HRG.out.setOther (a:=⟨gl,y,none⟩) (by simpa using fun e=>HGL.out e.symm) (.int .i64 (i:Nat)))
      have HM72:=hid (HM7.out.setCell (a:=⟨gl,y,none⟩) (fun e=>HNE.out.elim (fun h=>by rw [h] at e; cases e) fun h=>h e) (.int .i64 (i:Nat)))
      have HOE2:=hid (HOE.out.setCell (a:=⟨gl,y,none⟩) (fun e=>HNL.out (by injection e)) (.int .i64 (i:Nat)))
      have HB2:=hid (HB.out.setCell (p:=⟨gl,y,none⟩) (by show w.heap.size<=gl; exact hgl) (.int .i64 (i:Nat)))
      clear hy HRL HRG HM7 HOE HB
      go_wp2
      go_roundg (gk - 1)
      case measure=>omega
      case rel=>exact ⟨i+1,by go_num,by omega,by omega,HRL2,HRG2,HM72,HOE2,HB2⟩
     ·obtain rfl:i=L:=by omega
      have hlt':¬ (i:Int)<(i:Int):=by omega
      have HEND:Hid (GFU wr w.heap.size wr.heap.size gg P M (fun i=>(f i).toNat)):=by
       have hpe:=HPE.out
       subst hpe
       have hqe:=HQ.out
       subst hqe
       have hle:=HL.out
       have hok:=hyes.out.field.1
       refine ⟨A7,k,c7,lb,lo,lc,gl,0,P ^ M,x,lgP (pwG (mulF P M fun i=>(f i).toNat) x) i,⟨hok,HKE.out,?_,HRG.out.lt,?_,?_,?_,HX.out.1,HX.out.2,HGX.out,fun t ht=>?_⟩,hgg,(HOE.out.lt lb rfl).1,hgl,fun ad e=>(HM7.out.lt ad.block (by rw [e]; rfl)).1⟩
       ·rw [<-hle]; exact HRG.out
       ·refine IntsR.congr (show IntsR wr wr.heap.size A7 k f from HM7.out.rd rfl) fun t ht=>?_
        obtain ⟨P',M',h1,h2,h3,h4,h5⟩:=hyes.out
        obtain rfl:M=M':=by omega
        rcases h5 with ⟨_,e⟩ | ⟨_,e,h,_⟩
        ·omega
        ·have:=h t (by omega); show f t=((f t).toNat:Int); omega
       ·rw [<-hle]; exact HOE.out.rd rfl
       ·exact zbo HRL.out
       ·rw [<-hle] at ht
        exact zh2 HPK.out i (Nat.le_refl _) ht
      go_wp2
      go_ret2
      exact ⟨HB.out,.inr ⟨hyes.out,gg,P,M,rfl,rfl,rfl,hgg,HEND.out⟩⟩
structure RowAt where
 b:Nat
 o:Nat
 c:Nat
structure DTab (w:World) (base tb o n c k:Nat) (r:Nat->RowAt) (W:Nat->Nat->Nat):Prop where
 tab:Own w base 22 1 (.slice (some ⟨tb,o,none⟩) n c) n (fun i _=>.slice (some ⟨(r i).b,(r i).o,none⟩) k (r i).c)
 row:∀ i,i<n->Own w base 3 1 (.slice (some ⟨(r i).b,(r i).o,none⟩) k (r i).c) k (fun j _=>.int .i64 (W i j:Nat))
 apart:∀ i j,i<n->j<n->i≠j->(r i).b≠(r j).b
theorem zbn {w w1 w2:World} {row:Option Nat} (h:w.grownBy w1 row) (hb:Below w1.heap.size w1 w2):w.grownBy w2 row :=
 ⟨hb.os.trans h.os,hb.tape.trans h.tape,hb.output.trans h.output,Nat.le_trans h.size hb.size,fun k hk hne=>(hb.block k (Nat.lt_of_lt_of_le hk h.size)).trans (h.block k hk hne)⟩
theorem zao {w w':World} {row:Option Nat} {p:Addr} {v:Value} (hg:w.grownBy w' row) (h:w.cell? p=some v) (hne:some p.block≠row):w'.cell? p=some v :=
 (World.cell?_of_block (w:=w) (hg.block p.block (World.block_lt_of_cell? w p h) hne)).trans h
section
variable {w w':World} {base tb o n c k i:Nat} {r:Nat->RowAt} {W W':Nat->Nat->Nat}
theorem DTab.on (h:DTab w base tb o n c k r W) (hb:Below w.heap.size w w'):DTab w' base tb o n c k r W:=⟨h.tab.on hb,fun i hi=>(h.row i hi).on hb,h.apart⟩
theorem DTab.congr (h:DTab w base tb o n c k r W) (e:∀ i,i<n->∀ j,j<k->W i j=W' i j):DTab w base tb o n c k r W':=⟨h.tab,fun i hi=>(h.row i hi).congr fun j hj _ _=>by rw [e i hi j hj],h.apart⟩
theorem DTab.cell (h:DTab w base tb o n c k r W) (hi:i<n):w.cell? ⟨tb,o+i,none⟩=some (.slice (some ⟨(r i).b,(r i).o,none⟩) k (r i).c):=by
 obtain ⟨b,off,e,_,h1⟩:=Rd.at1 (h.tab.rd rfl) hi
 injection e with e
 injection e with e1 e2
 subst e1 e2
 exact h1
theorem DTab.froz (h:DTab w base tb o n c k r W) (j:Nat):w.frozen? ⟨tb,j,none⟩=false:=h.tab.frozen j
theorem DTab.lt (h:DTab w base tb o n c k r W) (hi:i<n):base<=(r i).b/\(r i).b<w.heap.size:=(h.row i hi).lt _ rfl
theorem DTab.tlt (h:DTab w base tb o n c k r W):base<=tb/\tb<w.heap.size:=h.tab.lt _ rfl
theorem DTab.ne (h:DTab w base tb o n c k r W) (hi:i<n):(r i).b≠tb:=by
 rcases zcC h.tab (h.row i hi) (by decide) with h1 | h1
 ·cases h1
 ·exact fun e=>h1 (by show some _=some _; rw [e])
theorem DTab.rd (h:DTab w base tb o n c k r W) (hi:i<n):IntsR w w.heap.size (some ⟨(r i).b,(r i).o,none⟩) k (fun j=>((W i j:Nat):Int)):=(h.row i hi).rd rfl
theorem DTab.entry {j:Nat} (h:DTab w base tb o n c k r W) (hi:i<n) (hj:j<k):w.cell? ⟨(r i).b,(r i).o+j,none⟩=some (.int .i64 (W i j:Nat)):=(h.rd hi).here hj
theorem DTab.kept {row:Option Nat} (h:DTab w base tb o n c k r W) (hg:w.grownBy w' row) (h1:row≠some tb) (h2:∀ i,i<n->row≠some (r i).b):DTab w' base tb o n c k r W :=
 ⟨h.tab.kept hg (.inr fun e=>h1 e.symm),fun i hi=>(h.row i hi).kept hg (.inr fun e=>h2 i hi e.symm),h.apart⟩
theorem DTab.swap {a t:Nat} (h:DTab w base tb o n c k r W) (ha:a<n) (ht:t<n) :
  DTab ((w.setCell ⟨tb,o+a,none⟩ (.slice (some ⟨(r t).b,(r t).o,none⟩) k (r t).c)).setCell ⟨tb,o+t,none⟩ (.slice (some ⟨(r a).b,(r a).o,none⟩) k (r a).c)) base tb o n c k (fun u=>if u=t then r a else if u=a then r t else r u) (fun u=>if u=t then W a else if u=a then W t else W u):=by
 have h1:=h.tab.set ha (by omega:0<1) (.slice (some ⟨(r t).b,(r t).o,none⟩) k (r t).c)
 rw [Nat.mul_one,Nat.add_zero] at h1
 have h2:=h1.set ht (by omega:0<1) (.slice (some ⟨(r a).b,(r a).o,none⟩) k (r a).c)
 rw [Nat.mul_one,Nat.add_zero] at h2
 refine ⟨h2.congr fun u hu q hq=>?_,fun u hu=>?_,fun i j hi hj hne=>?_⟩
 ·obtain rfl:q=0:=by omega
  by_cases e1:u=t
  ·simp [e1]
  ·by_cases e2:u=a
   ·have e3:¬ a=t:=fun h=>e1 (e2.trans h)
    simp [e2,e3]
   ·simp [e1,e2]
 ·have key:∀ v,v<n->Own ((w.setCell ⟨tb,o+a,none⟩ (.slice (some ⟨(r t).b,(r t).o,none⟩) k (r t).c)).setCell ⟨tb,o+t,none⟩ (.slice (some ⟨(r a).b,(r a).o,none⟩) k (r a).c)) base 3 1 (.slice (some ⟨(r v).b,(r v).o,none⟩) k (r v).c) k (fun j _=>.int .i64 (W v j:Nat)):=fun v hv =>
   ((h.row v hv).setCell (fun e=>h.ne hv (by injection e)) _).setCell (fun e=>h.ne hv (by injection e)) _
  by_cases e1:u=t
  ·simp only [if_pos e1]; exact key a ha
  ·by_cases e2:u=a
   ·simp only [if_neg e1,if_pos e2]; exact key t ht
   ·simp only [if_neg e1,if_neg e2]; exact key u hu
 ·have ap:=h.apart
  show (if i=t then r a else if i=a then r t else r i).b≠(if j=t then r a else if j=a then r t else r j).b
  by_cases e1:i=t
  ·rw [if_pos e1]
   rw [if_neg (by omega)]
   by_cases e3:j=a
   ·rw [if_pos e3]; exact ap a t ha ht (by omega)
   ·rw [if_neg e3]; exact ap a j ha hj (by omega)
  ·rw [if_neg e1]
   by_cases e2:i=a
   ·rw [if_pos e2]
    by_cases e3:j=t
    ·rw [if_pos e3]; exact ap t a ht ha (by omega)
    ·rw [if_neg e3,if_neg (by omega)]; exact ap t j ht hj (by omega)
   ·rw [if_neg e2]
    by_cases e3:j=t
    ·rw [if_pos e3]; exact ap i a hi ha e2
    ·rw [if_neg e3]
     by_cases e4:j=a
     ·rw [if_pos e4]; exact ap i t hi ht e1
     ·rw [if_neg e4]; exact ap i j hi hj hne
theorem DTab.put {g go gc:Nat} {x:Nat->Nat} (h:DTab w base tb o n c k r W) (hi:i<n) (hr:Own w base 3 1 (.slice (some ⟨g,go,none⟩) k gc) k (fun j _=>.int .i64 (x j:Nat))) (hg:∀ u,u<n->u≠i->(r u).b≠g) :
  DTab (w.setCell ⟨tb,o+i,none⟩ (.slice (some ⟨g,go,none⟩) k gc)) base tb o n c k (fun u=>if u=i then ⟨g,go,gc⟩ else r u) (fun u=>if u=i then x else W u):=by
 have h1:=h.tab.set hi (by omega:0<1) (.slice (some ⟨g,go,none⟩) k gc)
 rw [Nat.mul_one,Nat.add_zero] at h1
 have hne:g≠tb:=by
  rcases zcC h.tab hr (by decide) with h1 | h1
  ·cases h1
  ·exact fun e=>h1 (by show some _=some _; rw [e])
 refine ⟨h1.congr fun u hu q hq=>?_,fun u hu=>?_,fun a b ha hb hab=>?_⟩
 ·obtain rfl:q=0:=by omega
  by_cases e:u=i
  ·simp [e]
  ·simp [e]
 ·by_cases e:u=i
  ·simp only [if_pos e]
   exact hr.setCell (fun e=>hne (by injection e)) _
  ·simp only [if_neg e]
   exact (h.row u hu).setCell (fun e=>h.ne hu (by injection e)) _
 ·show (if a=i then (⟨g,go,gc⟩:RowAt) else r a).b≠(if b=i then (⟨g,go,gc⟩:RowAt) else r b).b
  by_cases e1:a=i
  ·rw [if_pos e1,if_neg (by omega)]; exact fun e=>hg b hb (by omega) e.symm
  ·rw [if_neg e1]
   by_cases e2:b=i
   ·rw [if_pos e2]; exact hg a ha e1
   ·rw [if_neg e2]; exact h.apart a b ha hb hab
theorem DTab.rowed {x:Nat->Nat} (h:DTab w base tb o n c k r W) (hi:i<n) (hg:w.grownBy w' (some (r i).b)) (hr:Own w' base 3 1 (.slice (some ⟨(r i).b,(r i).o,none⟩) k (r i).c) k (fun j _=>.int .i64 (x j:Nat))) :
  DTab w' base tb o n c k r (fun u=>if u=i then x else W u) :=
 ⟨h.tab.kept hg (.inr fun e=>h.ne hi (by injection e with e; exact e.symm)),fun u hu=>by
  by_cases e:u=i
  ·subst e; simp only [if_pos]; exact hr
  ·simp only [if_neg e]
   exact (h.row u hu).kept hg (.inr fun e2=>h.apart u i hu hi e (by injection e2)),h.apart⟩
end
def RowedPost (w:World) (base vb vo vc k:Nat) (x:Nat->Nat) (e:Ending) (w':World):Prop :=
 e=.returned (.tuple #[])/\w.grownBy w' (some vb)/\Own w' base 3 1 (.slice (some ⟨vb,vo,none⟩) k vc) k (fun j _=>.int .i64 (x j:Nat))
theorem zhu (P M g base vb vo vc ub uo uc k a:Nat) (m:Nat->Nat) (x y:Nat->Nat) (w:World) (h:GF w base g P M m) (hbw:base<=w.heap.size)
  (hv:Own w base 3 1 (.slice (some ⟨vb,vo,none⟩) k vc) k (fun j _=>.int .i64 (x j:Nat))) (hu:IntsR w w.heap.size (some ⟨ub,uo,none⟩) k (fun j=>((y j:Nat):Int))) (hne:ub≠vb)
  (ha:a<P ^ M) (hx:∀ j,j<k->x j<P ^ M) (hy:∀ j,j<k->y j<P ^ M) (hk:k<=1048576) :
  Calls Tryz.prog 262 #[.pointer (some ⟨g,0,none⟩),.slice (some ⟨vb,vo,none⟩) k vc,.int .i64 (a:Nat),.slice (some ⟨ub,uo,none⟩) k uc] w (RowedPost w base vb vo vc k (fun j=>addF P M (x j) (mulF P M m a (y j)))):=by
 have hq:=h.ok.1.2.2.2
 have HL:=hid (fieldLaws h.ok)
 have hvl:=hv.lt _ rfl
 have HG:=hid h
 have HU:Hid (∀ j,j<k->w.cell? ⟨ub,uo+j,none⟩=some (.int .i64 (y j:Nat))):=fun j hj=>hu.here hj
 have HV:=hid (hv.congr (f':=fun j _=>.int .i64 ((if j<0 then addF P M (x j) (mulF P M m a (y j)) else x j:Nat):Int)) fun j _ _ _=>by rw [if_neg (by omega)])
 have HX:=hid hx
 have HY:=hid hy
 have HNE:=hid hne
 have HIA:=hid (zay ha)
 clear h hv hu hx hy hne
 go_enter Tryz.func262, Tryz.ntmps262
 go_wp2
 go_loopg [12] k (fun gg iv wx=>∃ j:Nat,iv=.int .i64 (j:Nat)/\j<=k/\k<=j+gg/\Hid (w.grownBy wx (some vb))/\Hid (Own wx base 3 1 (.slice (some ⟨vb,vo,none⟩) k vc) k (fun t _=>.int .i64 ((if t<j then addF P M (x t) (mulF P M m a (y t)) else x t:Nat):Int))))
 case atStart=>exact ⟨0,rfl,by omega,by omega,World.grownBy.refl _ _,HV⟩
 case round =>
  clear HV
  obtain ⟨j,rfl,hj,hjg,HGR,HV⟩:=hrel
  have hj0:(0:Int)<=(j:Int):=by omega
  by_cases hlt:j<k
  ·have hlt':(j:Int)<(k:Int):=by omega
   have y0:=zao HGR.out (HU.out j hlt) (fun e=>HNE.out (by injection e))
   have x0:=(show IntsR wr wr.heap.size (some ⟨vb,vo,none⟩) k (fun t=>((if t<j then addF P M (x t) (mulF P M m a (y t)) else x t:Nat):Int)) from HV.out.rd rfl).here hlt
   rw [if_neg (by omega)] at x0
   have z0:=HV.out.frozen (vo+j)
   obtain ⟨yj,hyj⟩:∃ t,t=y j:=⟨_,rfl⟩
   obtain ⟨xj,hxj⟩:∃ t,t=x j:=⟨_,rfl⟩
   have hyq:yj<P ^ M:=by rw [hyj]; exact HY.out j hlt
   have hxq:xj<P ^ M:=by rw [hxj]; exact HX.out j hlt
   rw [<-hyj] at y0;rw [<-hxj] at x0
   have HYJ:=hid hyj
   have HXJ:=hid hxj
   have HIX:=hid (zay hxq)
   have HIY:=hid (zay hyq)
   clear hyj hxj
   by_cases hy0:yj=0
   ·have hd:((yj:Int) != 0)=false:=by simp [hy0]
    have HV2:=hid (HV.out.congr (f':=fun t _=>.int .i64 ((if t<j+1 then addF P M (x t) (mulF P M m a (y t)) else x t:Nat):Int)) fun t _ _ _=>by
     by_cases e:t=j
     ·subst e
      rw [if_neg (by omega),if_pos (by omega),<-HYJ.out,<-HXJ.out,hy0,HL.out.mulZero ha,HL.out.addZero hxq]
     ·by_cases e2:t<j
      ·rw [if_pos e2,if_pos (by omega)]
      ·rw [if_neg e2,if_neg (by omega)])
    clear hy0 x0 z0
    go_wp2
    go_roundg (gk - 1)
    case measure=>omega
    case rel=>exact ⟨j+1,by go_num,by omega,by omega,HGR,HV2⟩
   ·have hd:((yj:Int) != 0)=true:=by simp [hy0]
    have hB:Below base w wr:=by
     have:=HGR.out
     exact ⟨this.os,this.tape,this.output,this.size,fun q hq=>this.block q (by omega) (fun e=>by injection e with e; omega)⟩
    have hG:=HG.out.at hB (Nat.le_trans hbw HGR.out.size)
    obtain ⟨w1,hw1⟩:∃ W,W=wr:=⟨_,rfl⟩
    subst hw1
    have hO:=HV.out
    clear hB hy0 HV
    go_wp2
    clear z0
    refine wp_region_held_drew (S:=fun _=>True) (by kernel_rfl) trivial (fun hHeld=>?_)
    obtain ⟨w2,hw⟩:∃ W,W=World.drew w1:=⟨_,rfl⟩
    have kb:Below w1.heap.size w1 w2:=by rw [hw]; exact (Below.refl _ _).drew
    rw [<-hw];clear hw;replace hG:=hG.on kb;replace hO:=hO.on kb;replace x0:=cellS kb x0
    have hgr:=zbn HGR.out kb
    clear kb
    refine tkq 0 (h:=tkq 1 (h:=tkq 2 (h:=tkq 3 (h:=tkq 4 (h:=tkq 5 (h:=tkq 7 (h:=tkq 8 (h:=tkq 9 (h:=?_)))))))))
    refine rdq2 6 10 (h:=fun K hK=>?_) (h2:=fun K hK=>?_)
    ·go_simp
     refine bkq hK trivial (h:=fun hHeld=>?_)
     clear hK K
     refine rdq 10 (h:=fun K hK=>?_)
     go_simp
     go_wp2_with fail
     refine (zbu (a:Int) (yj:Int) hG).mono ?_
     rintro e w3 ⟨rfl,kb⟩
     replace hG:=hG.on kb;replace hO:=hO.on kb;replace x0:=cellS kb x0;replace hgr:=zbn hgr kb;clear kb;rw [HIA.out,HIY.out]
     obtain ⟨t,ht⟩:∃ t,t=mulF P M m a yj:=⟨_,rfl⟩
     rw [<-ht]
     have HT:=hid ht
     have HIT:=hid (show inV (P ^ M) (t:Nat)=t from zay (by rw [ht]; exact HL.out.mulLt _ _))
     clear ht
     refine bkq hK trivial (h:=fun hHeld=>?_)
     clear hK K
     refine rdq 11 (h:=fun K hK=>?_)
     go_simp
     go_wp2_with fail
     refine (zdc (xj:Int) (t:Int) hG).mono ?_
     rintro e w4 ⟨rfl,kb⟩
     replace hG:=hG.on kb;replace hO:=hO.on kb;replace x0:=cellS kb x0;replace hgr:=zbn hgr kb;clear kb;rw [HIX.out,HIT.out]
     obtain ⟨s,hs⟩:∃ u,u=addF P M xj t:=⟨_,rfl⟩
     rw [<-hs]
     have HS:=hid hs
     clear hs
     refine bkq hK trivial (h:=fun hHeld=>?_)
     clear hK K
     refine tkq 12 (h:=?_)
     refine rdq 13 (h:=fun K hK=>?_)
     have z1:=hO.frozen (vo+j)
     go_simp
     clear z1
     have hO2:=hO.set hlt (by omega:0<1) (.int .i64 (s:Nat))
     rw [Nat.mul_one,Nat.add_zero] at hO2;replace hgr:=zak hgr (vo+j) (.int .i64 (s:Nat));clear hO x0
     obtain ⟨w5,hw⟩:∃ W,W=World.setCell w4 ⟨vb,vo+j,none⟩ (.int .i64 (s:Nat)):=⟨_,rfl⟩
     rw [<-hw] at hO2 hgr ⊢;clear hw
     have HGR2:=hid hgr
     have HV2:=hid (hO2.congr (f':=fun t _=>.int .i64 ((if t<j+1 then addF P M (x t) (mulF P M m a (y t)) else x t:Nat):Int)) fun t _ q hq=>by
      obtain rfl:q=0:=by omega
      by_cases e:t=j
      ·subst e
       rw [if_pos ⟨rfl,rfl⟩,if_pos (by omega),HS.out,HT.out,HXJ.out,HYJ.out]
      ·rw [if_neg (fun h=>e h.1)]
       by_cases e2:t<j
       ·rw [if_pos e2,if_pos (by omega)]
       ·rw [if_neg e2,if_neg (by omega)])
     clear hgr hO2
     refine bkq hK trivial (h:=fun hHeld=>?_)
     clear hK K
     refine wpAnyH_done (by kernel_rfl) ?_ _
     clear hHeld
     go_wp2
     go_roundg (gk - 1)
     case measure=>omega
     case rel=>exact ⟨j+1,by go_num,by omega,by omega,HGR2,HV2⟩
    ·go_simp
     go_wp2_with fail
     refine (zbu (a:Int) (yj:Int) hG).mono ?_
     rintro e w3 ⟨rfl,kb⟩
     replace hG:=hG.on kb;replace hO:=hO.on kb;replace x0:=cellS kb x0;replace hgr:=zbn hgr kb;clear kb;rw [HIA.out,HIY.out]
     obtain ⟨t,ht⟩:∃ t,t=mulF P M m a yj:=⟨_,rfl⟩
     rw [<-ht]
     have HT:=hid ht
     have HIT:=hid (show inV (P ^ M) (t:Nat)=t from zay (by rw [ht]; exact HL.out.mulLt _ _))
     clear ht
     refine bkq hK trivial (h:=fun hHeld=>?_)
     clear hK K
     refine rdq 6 (h:=fun K hK=>?_)
     go_simp
     refine bkq hK trivial (h:=fun hHeld=>?_)
     clear hK K
     refine rdq 11 (h:=fun K hK=>?_)
     go_simp
     go_wp2_with fail
     refine (zdc (xj:Int) (t:Int) hG).mono ?_
     rintro e w4 ⟨rfl,kb⟩
     replace hG:=hG.on kb;replace hO:=hO.on kb;replace x0:=cellS kb x0;replace hgr:=zbn hgr kb;clear kb;rw [HIX.out,HIT.out]
     obtain ⟨s,hs⟩:∃ u,u=addF P M xj t:=⟨_,rfl⟩
     rw [<-hs]
     have HS:=hid hs
     clear hs
     refine bkq hK trivial (h:=fun hHeld=>?_)
     clear hK K
     refine tkq 12 (h:=?_)
     refine rdq 13 (h:=fun K hK=>?_)
     have z1:=hO.frozen (vo+j)
     go_simp
     clear z1
     have hO2:=hO.set hlt (by omega:0<1) (.int .i64 (s:Nat))
     rw [Nat.mul_one,Nat.add_zero] at hO2;replace hgr:=zak hgr (vo+j) (.int .i64 (s:Nat));clear hO x0
     obtain ⟨w5,hw⟩:∃ W,W=World.setCell w4 ⟨vb,vo+j,none⟩ (.int .i64 (s:Nat)):=⟨_,rfl⟩
     rw [<-hw] at hO2 hgr ⊢;clear hw
     have HGR2:=hid hgr
     have HV2:=hid (hO2.congr (f':=fun t _=>.int .i64 ((if t<j+1 then addF P M (x t) (mulF P M m a (y t)) else x t:Nat):Int)) fun t _ q hq=>by
      obtain rfl:q=0:=by omega
      by_cases e:t=j
      ·subst e
       rw [if_pos ⟨rfl,rfl⟩,if_pos (by omega),HS.out,HT.out,HXJ.out,HYJ.out]
      ·rw [if_neg (fun h=>e h.1)]
       by_cases e2:t<j
       ·rw [if_pos e2,if_pos (by omega)]
       ·rw [if_neg e2,if_neg (by omega)])
     clear hgr hO2
     refine bkq hK trivial (h:=fun hHeld=>?_)
     clear hK K
     refine wpAnyH_done (by kernel_rfl) ?_ _
     clear hHeld
     go_wp2
     go_roundg (gk - 1)
     case measure=>omega
     case rel=>exact ⟨j+1,by go_num,by omega,by omega,HGR2,HV2⟩
  ·obtain rfl:j=k:=by omega
   have hlt':¬ (j:Int)<(j:Int):=by omega
   have HV2:=hid (HV.out.congr (f':=fun t _=>.int .i64 ((addF P M (x t) (mulF P M m a (y t)):Nat):Int)) fun t ht _ _=>by rw [if_pos ht])
   go_wp2
   refine bodyPost_ret (results_none rfl _ _ _) rfl ?_
   exact ⟨rfl,HGR.out,HV2.out⟩
end Go.Proofs.YtioagplajkoohaaGreat