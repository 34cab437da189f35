/- Merged texts of a claim: PCode, PDual, NullCnt, ExpN, Dot04, Word12, Syn12, Tab55, RefRight, Nats, Right, RightLaw, LeadMath, LeadPl, Leaders, Between55, LeadersLaw, RecFirst, RecRed, RecFrom, Recover, RefRec, RecLaw, ConDual, AppMany, Has12, Rest10, ConRow, ConCode, ConTab, ConRec, ConLaw, SeesW, Trel, Shape, Less. -/
import Derived.Test.YtioagplajkoohaaGreatTQ1
import Derived.Test.YtioagplajkoohaaGreatTQ5
import Derived.Test.YtioagplajkoohaaGreatTQ6
import Derived.Test.YtioagplajkoohaaGreatTQ7
import Derived.Test.YtioagplajkoohaaGreatTQ8
import Derived.Test.YtioagplajkoohaaGreatTQ9
import Derived.Test.YtioagplajkoohaaGreatTQ10
import Derived.SizedLaws
namespace Go.Proofs.YtioagplajkoohaaGreat
set_option maxRecDepth 100000
set_option maxHeartbeats 32000000
open KA KB KC KD KE KF
open Go.RowKit
theorem zgR (P M:Int) (A:Option Addr) (k c:Nat) (f:Nat->Int) (cols:Nat) (T:Option Addr) (n d:Nat) (ln:Nat->Nat) (V:Nat->Nat->Int) (w:World) (hr:IntsR w w.heap.size A k f) (h:IntRows w T n ln V) (hc1:1<=cols) :
  Calls Tryz.prog 144 #[.agg #[.int .i64 P,.int .i64 M,.slice A k c],.agg #[.int .i64 (cols:Nat),.slice T n d]] w (ErrsPost (SpaceErrs P M k f cols n ln V) w):=by
 have HR:=hid hr
 have HT:=hid h
 clear hr h
 have rf:=zad (w:=w) (a:=.int .i64 P) (b:=.int .i64 M) (c:=.slice A k c) (T := 24)
 have hB:Below w.heap.size w (w.alloc (.cells #[.int .i64 P,.int .i64 M,.slice A k c] 24)):=(Below.refl _ _).alloc (Nat.le_refl _) _
 have hsz:(w.alloc (.cells #[.int .i64 P,.int .i64 M,.slice A k c] 24)).heap.size=w.heap.size+1:=by simp
 obtain ⟨w0,hw0⟩:∃ W,W=w.alloc (.cells #[.int .i64 P,.int .i64 M,.slice A k c] 24):=⟨_,rfl⟩
 have rm:=zae (w:=w0) (a:=.int .i64 (cols:Nat)) (b:=.slice T n d) (T := 97)
 have kb:Below w0.heap.size w0 (w0.alloc (.cells #[.int .i64 (cols:Nat),.slice T n d] 97)):=(Below.refl _ _).alloc (Nat.le_refl _) _
 obtain ⟨w1,hw1⟩:∃ W,W=w0.alloc (.cells #[.int .i64 (cols:Nat),.slice T n d] 97):=⟨_,rfl⟩
 rw [<-hw0] at hB rf hsz;rw [<-hw1] at rm kb;rw [hsz] at rm;replace rf:=zaa rf kb;replace hB:=onS hB kb
 go_enter Tryz.func144, Tryz.ntmps144
 go_upto_region 1 with fail
 rw [<-hw0,<-hw1];clear hw0 hw1 kb hsz
 have q0:=qc0 rf
 have q1:=qc1 rf
 have q2:=qc2 rf
 have p0:=qc0 rm
 have p1:=qc1 rm
 go_wp2_with fail
 refine (zhH P M A k c f cols T n d ln V w1 (HR.out.on hB) (HT.out.on hB) hc1).mono ?_
 rintro e w2 ⟨kb,v,hv,hcase⟩
 have HB:=hid (onS hB kb)
 have HV:=hid hv
 clear kb hv q0 q1 q2 p0 p1 rf rm hB
 rcases hcase with ⟨hv0,rfl⟩ | ⟨rfl,P,M,C,g,pv,p,rfl,rfl,_,rfl,_,hP,_⟩
 ·clear hv0
  go_wp2
  go_ret
  exact errsPost HV.out (HB.out.alloc HB.out.size _)
 ·obtain ⟨PA,pc,hpv⟩:=hP.shape
  subst hpv
  clear hP
  go_wp2
  go_ret
  exact errsPost HV.out (HB.out.alloc HB.out.size _)
def LenOk (N:Int):Prop:=1<=N/\N<=64
theorem zfQ (N:Int) (w:World):Calls Tryz.prog 143 #[.int .i64 N] w (ErrsPost [(LenOk N,4)] w):=by
 by_cases h1:N<1
 ·have hd:decide (N<1)=true:=by simpa using h1
  have hno:Hid (FirstErr [(LenOk N,4)] 4):=.inl ⟨fun h=>by have:=h.1; have:=h.2; omega,rfl⟩
  go_enter Tryz.func143, Tryz.ntmps143
  go_wp2
  go_ret
  exact errsPost hno.out (Below.refl _ _)
 ·have hd:decide (N<1)=false:=by simpa using h1
  by_cases h2:64<N
  ·have hd2:decide (64<N)=true:=by simpa using h2
   have hno:Hid (FirstErr [(LenOk N,4)] 4):=.inl ⟨fun h=>by have:=h.1; have:=h.2; omega,rfl⟩
   go_enter Tryz.func143, Tryz.ntmps143
   go_wp2
   go_ret
   exact errsPost hno.out (Below.refl _ _)
  ·have hd2:decide (64<N)=false:=by simpa using h2
   have hyes:Hid (FirstErr [(LenOk N,4)] 0):=.inr ⟨⟨by omega,by omega⟩,rfl⟩
   go_enter Tryz.func143, Tryz.ntmps143
   go_wp2
   go_ret
   exact errsPost hyes.out (Below.refl _ _)
theorem zeT (P M N:Int) (A T:Option Addr) (k c n d:Nat) (w:World) :
  Calls Tryz.prog 127 #[.agg #[.int .i64 P,.int .i64 M,.slice A k c,.int .i64 N,.slice T n d]] w fun e w'=>e=.returned (.agg #[.int .i64 N,.slice T n d])/\Below w.heap.size w w':=by
 have rf:=zam (w:=w) (a:=.int .i64 P) (b:=.int .i64 M) (c:=.slice A k c) (d:=.int .i64 N) (e:=.slice T n d) (T := 27)
 have hB:Below w.heap.size w (w.alloc (.cells #[.int .i64 P,.int .i64 M,.slice A k c,.int .i64 N,.slice T n d] 27)):=(Below.refl _ _).alloc (Nat.le_refl _) _
 have hsz:(w.alloc (.cells #[.int .i64 P,.int .i64 M,.slice A k c,.int .i64 N,.slice T n d] 27)).heap.size=w.heap.size+1:=by simp
 obtain ⟨w0,hw0⟩:∃ W,W=w.alloc (.cells #[.int .i64 P,.int .i64 M,.slice A k c,.int .i64 N,.slice T n d] 27):=⟨_,rfl⟩
 have ro:=zae (w:=w0) (a:=.int .i64 0) (b:=.slice none 0 0) (T := 97)
 have kb:Below w0.heap.size w0 (w0.alloc (.cells #[.int .i64 0,.slice none 0 0] 97)):=(Below.refl _ _).alloc (Nat.le_refl _) _
 obtain ⟨w1,hw1⟩:∃ W,W=w0.alloc (.cells #[.int .i64 0,.slice none 0 0] 97):=⟨_,rfl⟩
 rw [<-hw0] at hB rf hsz;rw [<-hw1] at ro kb;rw [hsz] at ro;replace rf:=zaa rf kb;replace hB:=onS hB kb
 go_enter Tryz.func127, Tryz.ntmps127
 go_upto_region 1 with fail
 rw [<-hw0,<-hw1];clear hw0 hw1 kb hsz
 have q3:=qc3 rf
 have q4:=qc4 rf
 have r0:=ro.frozen 0
 have s0:=qc0 ro
 have r1:=ro.frozen 1
 have s1:=qc1 ro
 go_wp2
 clear r0 s0 r1 s1 q3 q4 rf
 generalize hw9:World.setCell _ _ _=w2
 obtain ⟨row9,hg9⟩:=zaY ro hw9.symm
 clear hw9
 have hB9:=hB.grown hg9 hB.size (fun q e=>by injection e with e; omega)
 have e0:=qc0 row9
 have e1:=qc1 row9
 refine bodyPost_ret (v:=.agg #[.int .i64 N,.slice T n d]) (by simp [results,Tryz.results127, go_sem,e0,e1]) rfl ?_
 exact ⟨rfl,hB9⟩
theorem zgS (P M:Int) (A:Option Addr) (k c:Nat) (f:Nat->Int) (N:Int) (T:Option Addr) (n d:Nat) (ln:Nat->Nat) (V:Nat->Nat->Int) (w:World) (hr:IntsR w w.heap.size A k f) (h:IntRows w T n ln V) :
  Calls Tryz.prog 62 #[.agg #[.int .i64 P,.int .i64 M,.slice A k c,.int .i64 N,.slice T n d]] w (ErrsPost (CodeErrs P M k f N n ln V) w):=by
 have HR:=hid hr
 have HT:=hid h
 clear hr h
 have rf:=zam (w:=w) (a:=.int .i64 P) (b:=.int .i64 M) (c:=.slice A k c) (d:=.int .i64 N) (e:=.slice T n d) (T := 27)
 have hB:Below w.heap.size w (w.alloc (.cells #[.int .i64 P,.int .i64 M,.slice A k c,.int .i64 N,.slice T n d] 27)):=(Below.refl _ _).alloc (Nat.le_refl _) _
 obtain ⟨w1,hw1⟩:∃ W,W=w.alloc (.cells #[.int .i64 P,.int .i64 M,.slice A k c,.int .i64 N,.slice T n d] 27):=⟨_,rfl⟩
 rw [<-hw1] at hB rf
 go_enter Tryz.func62, Tryz.ntmps62
 go_upto_region 1 with fail
 rw [<-hw1];clear hw1
 have q0:=qc0 rf
 have q1:=qc1 rf
 have q2:=qc2 rf
 go_wp2_with fail
 refine (zfN P M A k c f w1 (HR.out.on hB)).mono ?_
 rintro e w2 ⟨v,rfl,hv,kb⟩
 replace hB:=onS hB kb;replace rf:=zaa rf kb;clear kb q0 q1 q2
 rcases hv with ⟨rfl,hgood⟩ | ⟨rfl,hno⟩
 ·have HGO:=hid hgood
  clear hgood
  have q3:=qc3 rf
  go_wp2_with fail
  refine (zfQ N w2).mono ?_
  rintro e w3 ⟨v,rfl,hv,kb⟩
  replace hB:=onS hB kb;replace rf:=zaa rf kb;clear kb q3
  rcases hv with ⟨hno,rfl⟩ | ⟨hN,hv0⟩
  ·have hf:Hid (FirstErr (CodeErrs P M k f N n ln V) 4):=.inr ⟨HGO.out,.inl ⟨hno,rfl⟩⟩
   clear hno
   go_wp2
   go_ret
   exact errsPost hf.out hB
  ·have hv0:v=0:=hv0
   subst hv0
   have hN:1<=N/\N<=64:=hN
   obtain ⟨C,rfl⟩:∃ C:Nat,N=C:=⟨N.toNat,by omega⟩
   have HNR:=hid hN
   have hC1:1<=C:=by omega
   clear hN
   have q0:=qc0 rf
   have q1:=qc1 rf
   have q2:=qc2 rf
   have q3:=qc3 rf
   have q4:=qc4 rf
   go_wp2
   refine wp_region_held_drew (S:=fun w'=>w'.cell? ⟨w.heap.size,0,none⟩=some (.int .i64 P)/\w'.cell? ⟨w.heap.size,1,none⟩=some (.int .i64 M)/\w'.cell? ⟨w.heap.size,2,none⟩=some (.slice A k c)/\w'.cell? ⟨w.heap.size,3,none⟩=some (.int .i64 (C:Nat))/\w'.cell? ⟨w.heap.size,4,none⟩=some (.slice T n d)) (by kernel_rfl) ⟨cellS (Below.refl _ _).drew q0,cellS (Below.refl _ _).drew q1,cellS (Below.refl _ _).drew q2,cellS (Below.refl _ _).drew q3,cellS (Below.refl _ _).drew q4⟩ (fun hHeld=>?_)
   obtain ⟨w4,hw⟩:∃ W,W=World.drew w3:=⟨_,rfl⟩
   have kb:Below w3.heap.size w3 w4:=by rw [hw]; exact (Below.refl _ _).drew
   rw [<-hw] at hHeld ⊢;clear hw;replace hB:=onS hB kb;replace rf:=zaa rf kb;clear kb q0 q1 q2 q3 q4
   refine tkq 0 (h:=tkq 1 (h:=tkq 2 (h:=rdq 3 (h:=fun K hK=>?_))))
   go_simp
   go_wp2_with fail
   refine (zeT P M (C:Int) A T k c n d w4).mono ?_
   rintro e w5 ⟨rfl,kb⟩
   replace hB:=onS hB kb;replace rf:=zaa rf kb;clear kb
   refine bkq hK ⟨qc0 rf,qc1 rf,qc2 rf,qc3 rf,qc4 rf⟩ (h:=fun hHeld=>?_)
   clear hK K
   refine rdq 4 (h:=fun K hK=>?_)
   go_simp
   go_wp2_with fail
   refine (zgR P M A k c f C T n d ln V w5 (HR.out.on hB) (HT.out.on hB) hC1).mono ?_
   rintro e w6 ⟨v,rfl,hv,kb⟩
   replace hB:=onS hB kb;replace rf:=zaa rf kb
   have hf:Hid (FirstErr (CodeErrs P M k f (C:Int) n ln V) v):=by
    rcases hv with ⟨hno,_⟩ | ⟨_,hv⟩
    ·exact absurd HGO.out hno
    ·refine .inr ⟨HGO.out,.inr ⟨HNR.out,?_⟩⟩
     rw [Int.toNat_natCast]
     exact hv
   clear kb hv
   refine bkq hK ⟨qc0 rf,qc1 rf,qc2 rf,qc3 rf,qc4 rf⟩ (h:=fun hHeld=>?_)
   clear hK K
   refine tkq 5 (h:=?_)
   refine wpAnyH_done (by kernel_rfl) ?_ _
   clear hHeld
   go_wp2
   go_ret
   exact errsPost hf.out hB
 ·have hf:Hid (FirstErr (CodeErrs P M k f N n ln V) 1):=.inl ⟨hno,rfl⟩
  clear hno
  go_wp2
  go_ret
  exact errsPost hf.out hB
theorem zgT {w:World} {g:Nat} {T:TypeId} {a b c:Value} (v:Value) (h:w.rowIs g T 3 (fldCell a b c)):(w.setCell ⟨g,2,none⟩ v).rowIs g T 3 (fldCell a b v):=(h.set 2 v).congr fun j hj=>by
 match j,hj with
 | 0,_=>rfl
 | 1,_=>rfl
 | 2,_=>rfl
theorem ziU (P M:Int) (A:Option Addr) (k c:Nat) (f:Nat->Int) (w:World) (h:IntsR w w.heap.size A k f) (hkc:k<=c) (hk:k<=1048576) :
  Calls Tryz.prog 203 #[.agg #[.int .i64 P,.int .i64 M,.slice A k c]] w (FieldPost P M k f w):=by
 have HR:=hid h
 clear h
 have rf:=zad (w:=w) (a:=.int .i64 P) (b:=.int .i64 M) (c:=.slice A k c) (T := 24)
 have hB:Below w.heap.size w (w.alloc (.cells #[.int .i64 P,.int .i64 M,.slice A k c] 24)):=(Below.refl _ _).alloc (Nat.le_refl _) _
 have hsz:(w.alloc (.cells #[.int .i64 P,.int .i64 M,.slice A k c] 24)).heap.size=w.heap.size+1:=by simp
 obtain ⟨w0,hw0⟩:∃ W,W=w.alloc (.cells #[.int .i64 P,.int .i64 M,.slice A k c] 24):=⟨_,rfl⟩
 have rm:=zad (w:=w0) (a:=.int .i64 0) (b:=.int .i64 0) (c:=.slice none 0 0) (T := 24)
 have kb:Below w0.heap.size w0 (w0.alloc (.cells #[.int .i64 0,.int .i64 0,.slice none 0 0] 24)):=(Below.refl _ _).alloc (Nat.le_refl _) _
 obtain ⟨w1,hw1⟩:∃ W,W=w0.alloc (.cells #[.int .i64 0,.int .i64 0,.slice none 0 0] 24):=⟨_,rfl⟩
 rw [<-hw0] at hB rf hsz;rw [<-hw1] at rm kb;rw [hsz] at rm;replace rf:=zaa rf kb;replace hB:=onS hB kb
 go_enter Tryz.func203, Tryz.ntmps203
 go_upto_region 1 with fail
 rw [<-hw0,<-hw1];clear hw0 hw1 kb hsz
 have q2:=qc2 rf
 go_wp2_with fail
 refine (zbx A k c f w1 (HR.out.on hB) hkc hk).mono ?_
 rintro e w2 ⟨A2,c2,rfl,hO,kb⟩
 have hB1:=hB.size
 replace hB:=onS hB kb;replace rf:=zaa rf kb;replace rm:=zaa rm kb
 have HO:=hid (hO.mono hB1)
 clear kb q2 hO hB1
 have r2:=rf.frozen 2
 have s2:=qc2 rf
 go_upto_region 2 with fail
 clear r2 s2
 have rf3:=zgT (.slice A2 k c2) rf
 have rm3:=rm.setOther (a:=⟨w.heap.size,2,none⟩) (by simp) (.slice A2 k c2)
 have hO3:=HO.out.setCell (a:=⟨w.heap.size,2,none⟩) (fun e=>(zar rf HO.out (by decide)).elim (fun h=>by rw [h] at e; cases e) fun h=>h e) (.slice A2 k c2)
 have hB3:=hB.setCell (p:=⟨w.heap.size,2,none⟩) (Nat.le_refl _) (.slice A2 k c2)
 obtain ⟨w3,hw3⟩:∃ W,W=w2.setCell ⟨w.heap.size,2,none⟩ (.slice A2 k c2):=⟨_,rfl⟩
 rw [<-hw3] at rf3 rm3 hO3 hB3 ⊢;clear hw3 rf rm HO hB
 have HO3:=hid hO3
 clear hO3
 have q0:=qc0 rf3
 have q1:=qc1 rf3
 have q2:=qc2 rf3
 have r0:=rm3.frozen 0
 have s0:=qc0 rm3
 have r1:=rm3.frozen 1
 have s1:=qc1 rm3
 have r2:=rm3.frozen 2
 have s2:=qc2 rm3
 go_wp2
 clear r0 s0 r1 s1 r2 s2 q0 q1 q2
 generalize hw9:World.setCell _ _ _=w4
 obtain ⟨row9,hg9⟩:=zgs rm3 hw9.symm
 clear hw9
 have hB9:=hB3.grown hg9 hB3.size (fun q e=>by injection e with e; omega)
 have hO9:=HO3.out.kept hg9 (zar rm3 HO3.out (by decide))
 have e0:=qc0 row9
 have e1:=qc1 row9
 have e2:=qc2 row9
 refine bodyPost_ret (v:=.agg #[.int .i64 P,.int .i64 M,.slice A2 k c2]) (by simp [results,Tryz.results203, go_sem,e0,e1,e2]) rfl ?_
 exact ⟨_,rfl,hO9,hB9⟩
def OfPost (P M N:Int) (k n:Nat) (f:Nat->Int) (T:Option Addr) (d:Nat) (w:World) (e:Ending) (w':World):Prop :=
 ∃ v,e=.returned (.tuple #[.agg #[.int .i64 P,.int .i64 M,v,.int .i64 N,.slice T n d],.int .i64 0])/\Own w' w.heap.size 3 1 v k (fun j _=>.int .i64 (f j))/\Below w.heap.size w w'
theorem zjy (P M N:Int) (A:Option Addr) (k c:Nat) (f:Nat->Int) (T:Option Addr) (n d:Nat) (w:World) (h:IntsR w w.heap.size A k f) (hkc:k<=c) (hk:k<=1048576) :
  Calls Tryz.prog 128 #[.agg #[.int .i64 P,.int .i64 M,.slice A k c],.agg #[.int .i64 N,.slice T n d],.int .i64 0] w (OfPost P M N k n f T d w):=by
 have HR:=hid h
 clear h
 have rf:=zad (w:=w) (a:=.int .i64 P) (b:=.int .i64 M) (c:=.slice A k c) (T := 24)
 have hB:Below w.heap.size w (w.alloc (.cells #[.int .i64 P,.int .i64 M,.slice A k c] 24)):=(Below.refl _ _).alloc (Nat.le_refl _) _
 have hsz:(w.alloc (.cells #[.int .i64 P,.int .i64 M,.slice A k c] 24)).heap.size=w.heap.size+1:=by simp
 obtain ⟨w0,hw0⟩:∃ W,W=w.alloc (.cells #[.int .i64 P,.int .i64 M,.slice A k c] 24):=⟨_,rfl⟩
 have rm:=zae (w:=w0) (a:=.int .i64 N) (b:=.slice T n d) (T := 97)
 have kb:Below w0.heap.size w0 (w0.alloc (.cells #[.int .i64 N,.slice T n d] 97)):=(Below.refl _ _).alloc (Nat.le_refl _) _
 have hsz1:(w0.alloc (.cells #[.int .i64 N,.slice T n d] 97)).heap.size=w0.heap.size+1:=by simp
 obtain ⟨w1,hw1⟩:∃ W,W=w0.alloc (.cells #[.int .i64 N,.slice T n d] 97):=⟨_,rfl⟩
 have ro:=zam (w:=w1) (a:=.int .i64 0) (b:=.int .i64 0) (c:=.slice none 0 0) (d:=.int .i64 0) (e:=.slice none 0 0) (T := 27)
 have kb2:Below w1.heap.size w1 (w1.alloc (.cells #[.int .i64 0,.int .i64 0,.slice none 0 0,.int .i64 0,.slice none 0 0] 27)):=(Below.refl _ _).alloc (Nat.le_refl _) _
 obtain ⟨w2,hw2⟩:∃ W,W=w1.alloc (.cells #[.int .i64 0,.int .i64 0,.slice none 0 0,.int .i64 0,.slice none 0 0] 27):=⟨_,rfl⟩
 rw [<-hw0] at hB rf hsz;rw [<-hw1] at rm kb hsz1;rw [<-hw2] at ro kb2;rw [hsz1,hsz] at ro;rw [hsz] at rm;replace rf:=zaa (zaa rf kb) kb2;replace rm:=zaa rm kb2;replace hB:=onS (onS hB kb) kb2
 go_enter Tryz.func128, Tryz.ntmps128
 go_upto_region 1 with fail
 rw [<-hw0,<-hw1,<-hw2];clear hw0 hw1 hw2 kb kb2 hsz hsz1
 obtain ⟨b0,hb0⟩:∃ b,b=w.heap.size:=⟨_,rfl⟩
 obtain ⟨b1,hb1⟩:∃ b,b=w.heap.size+1:=⟨_,rfl⟩
 obtain ⟨b2,hb2⟩:∃ b,b=w.heap.size+1+1:=⟨_,rfl⟩
 have hb2w:w.heap.size<=b2:=by omega
 rw [<-hb0] at rf;rw [<-hb1] at rm;rw [<-hb2] at ro;rw [<-hb2,<-hb1,<-hb0];clear hb0 hb1 hb2
 go_wp2
 refine wp_region_held_drew (S:=fun w'=>w'.cell? ⟨b0,0,none⟩=some (.int .i64 P)/\w'.cell? ⟨b0,1,none⟩=some (.int .i64 M)/\w'.cell? ⟨b0,2,none⟩=some (.slice A k c)/\w'.cell? ⟨b1,0,none⟩=some (.int .i64 N)/\w'.cell? ⟨b1,1,none⟩=some (.slice T n d)) (by kernel_rfl) ⟨cellS (Below.refl _ _).drew (rf.cell (i:=0) (by omega)),cellS (Below.refl _ _).drew (rf.cell (i:=1) (by omega)),cellS (Below.refl _ _).drew (rf.cell (i:=2) (by omega)),cellS (Below.refl _ _).drew (rm.cell (i:=0) (by omega)),cellS (Below.refl _ _).drew (rm.cell (i:=1) (by omega))⟩ (fun hHeld=>?_)
 obtain ⟨w3,hw⟩:∃ W,W=World.drew w2:=⟨_,rfl⟩
 have kb:Below w2.heap.size w2 w3:=by rw [hw]; exact (Below.refl _ _).drew
 rw [<-hw] at hHeld ⊢;clear hw;replace hB:=onS hB kb;replace rf:=zaa rf kb;replace rm:=zaa rm kb;replace ro:=zaa ro kb;clear kb
 refine tkq 0 (h:=tkq 2 (h:=tkq 3 (h:=tkq 4 (h:=tkq 5 (h:=rdq 1 (h:=fun K hK=>?_))))))
 go_simp
 go_wp2_with fail
 refine (ziU P M A k c f w3 (HR.out.on hB) hkc hk).mono ?_
 rintro e w4 ⟨v,rfl,hO,kb⟩
 have hB3:=hB.size
 replace hB:=onS hB kb;replace rf:=zaa rf kb;replace rm:=zaa rm kb;replace ro:=zaa ro kb
 obtain ⟨A2,c2,hv⟩:=hO.shape
 subst hv
 have HO:=hid (hO.mono hB3)
 clear kb hO hB3
 refine bkq hK ⟨qc0 rf,qc1 rf,qc2 rf,qc0 rm,qc1 rm⟩ (h:=fun hHeld=>?_)
 clear hK K
 refine tkq 6 (h:=rdq 7 (h:=fun K hK=>?_))
 have r0:=ro.frozen 0
 have s0:=qc0 ro
 have r1:=ro.frozen 1
 have s1:=qc1 ro
 have r2:=ro.frozen 2
 have s2:=qc2 ro
 have r3:=ro.frozen 3
 have s3:=qc3 ro
 have r4:=ro.frozen 4
 have s4:=qc4 ro
 go_simp
 clear r0 s0 r1 s1 r2 s2 r3 s3 r4 s4
 generalize hw9:World.setCell _ _ _=w5
 obtain ⟨row9,hg9⟩:=zcM ro hw9.symm
 clear hw9
 have hB9:=hB.grown hg9 hB.size (fun q e=>by injection e with e; omega)
 have hO9:=HO.out.kept hg9 (zar ro HO.out (by decide))
 have hf0:=rf.lt
 have hm0:=rm.lt
 have hnf:b0≠b2:=fun e=>by
  obtain ⟨cs,h1,_⟩:=rf
  obtain ⟨cs',h2,_⟩:=ro
  rw [e,h2] at h1
  injection h1 with h1
  injection h1 with _ h1
  exact absurd h1 (by decide)
 have hnm:b1≠b2:=fun e=>by
  obtain ⟨cs,h1,_⟩:=rm
  obtain ⟨cs',h2,_⟩:=ro
  rw [e,h2] at h1
  injection h1 with h1
  injection h1 with _ h1
  exact absurd h1 (by decide)
 have rf9:=zaj rf hg9 hnf
 have rm9:=zaj rm hg9 hnm
 clear ro rf rm hg9 hf0 hm0 hnf hnm HO hB
 have e0:=qc0 row9
 have e1:=qc1 row9
 have e2:=qc2 row9
 have e3:=qc3 row9
 have e4:=qc4 row9
 refine bkq hK ⟨qc0 rf9,qc1 rf9,qc2 rf9,qc0 rm9,qc1 rm9⟩ (h:=fun hHeld=>?_)
 clear hK K
 refine tkq 8 (h:=?_)
 refine wpAnyH_done (by kernel_rfl) ?_ _
 clear hHeld
 go_wp2
 refine bodyPost_ret (v:=.tuple #[.agg #[.int .i64 P,.int .i64 M,.slice A2 k c2,.int .i64 N,.slice T n d],.int .i64 0]) (by simp [results,Tryz.results128, go_sem,e0,e1,e2,e3,e4]) rfl ?_
 exact ⟨_,rfl,hO9,hB9⟩
def CDualPost (P M:Int) (k:Nat) (f:Nat->Int) (N:Int) (n:Nat) (ln:Nat->Nat) (V:Nat->Nat->Int) (w:World) (e:Ending) (w':World):Prop :=
 Below w.heap.size w w'/\∃ v:Int,FirstErr (CodeErrs P M k f N n ln V) v /\
  ((v≠0/\e=.returned (.tuple #[.agg #[.int .i64 0,.int .i64 0,.slice none 0 0,.int .i64 0,.slice none 0 0],.int .i64 v])) ∨
   (v=0/\∃ P' M' N':Nat,P=P'/\M=M'/\N=N'/\DualPost P' M' (fun i=>(f i).toNat) k n N' (natT V) w e w'))
theorem zhI (P M:Int) (A:Option Addr) (k c:Nat) (f:Nat->Int) (N:Int) (T:Option Addr) (n d:Nat) (ln:Nat->Nat) (V:Nat->Nat->Int) (w:World) (hr:IntsR w w.heap.size A k f) (h:IntRows w T n ln V) (hkc:k<=c) :
  Calls Tryz.prog 50 #[.agg #[.int .i64 P,.int .i64 M,.slice A k c,.int .i64 N,.slice T n d]] w (CDualPost P M k f N n ln V w):=by
 have HR:=hid hr
 have HT:=hid h
 clear hr h
 have rf:=zam (w:=w) (a:=.int .i64 P) (b:=.int .i64 M) (c:=.slice A k c) (d:=.int .i64 N) (e:=.slice T n d) (T := 27)
 have hB:Below w.heap.size w (w.alloc (.cells #[.int .i64 P,.int .i64 M,.slice A k c,.int .i64 N,.slice T n d] 27)):=(Below.refl _ _).alloc (Nat.le_refl _) _
 have hsz:(w.alloc (.cells #[.int .i64 P,.int .i64 M,.slice A k c,.int .i64 N,.slice T n d] 27)).heap.size=w.heap.size+1:=by simp
 obtain ⟨w0,hw0⟩:∃ W,W=w.alloc (.cells #[.int .i64 P,.int .i64 M,.slice A k c,.int .i64 N,.slice T n d] 27):=⟨_,rfl⟩
 have ro:=zam (w:=w0) (a:=.int .i64 0) (b:=.int .i64 0) (c:=.slice none 0 0) (d:=.int .i64 0) (e:=.slice none 0 0) (T := 27)
 have kb:Below w0.heap.size w0 (w0.alloc (.cells #[.int .i64 0,.int .i64 0,.slice none 0 0,.int .i64 0,.slice none 0 0] 27)):=(Below.refl _ _).alloc (Nat.le_refl _) _
 obtain ⟨w1,hw1⟩:∃ W,W=w0.alloc (.cells #[.int .i64 0,.int .i64 0,.slice none 0 0,.int .i64 0,.slice none 0 0] 27):=⟨_,rfl⟩
 rw [<-hw0] at hB rf hsz;rw [<-hw1] at ro kb;rw [hsz] at ro;replace rf:=zaa rf kb;replace hB:=onS hB kb
 go_enter Tryz.func50, Tryz.ntmps50
 go_upto_region 1 with fail
 rw [<-hw0,<-hw1];clear hw0 hw1 kb hsz
 obtain ⟨b0,hb0⟩:∃ b,b=w.heap.size:=⟨_,rfl⟩
 obtain ⟨b2,hb2⟩:∃ b,b=w.heap.size+1:=⟨_,rfl⟩
 have hb2w:w.heap.size<=b2:=by omega
 have hb02:b0≠b2:=by omega
 rw [<-hb0] at rf;rw [<-hb2] at ro;rw [<-hb2,<-hb0];clear hb0 hb2
 have q0:=qc0 rf
 have q1:=qc1 rf
 have q2:=qc2 rf
 have q3:=qc3 rf
 have q4:=qc4 rf
 go_wp2_with fail
 refine (zgS P M A k c f N T n d ln V w1 (HR.out.on hB) (HT.out.on hB)).mono ?_
 rintro e w2 ⟨v,rfl,hv,kb⟩
 replace hB:=onS hB kb;replace rf:=zaa rf kb;replace ro:=zaa ro kb
 have HV:=hid hv
 clear kb hv q0 q1 q2 q3 q4
 by_cases hv0:v=0
 ·subst hv0
  obtain ⟨P,M,N,rfl,rfl,rfl,hC⟩:=zbP (HR.out.on hB) (HT.out.on hB) HV.out
  have HC:=hid hC
  have hN1:=hC.ln1
  have hk8:=hC.k_le
  clear hC
  have HKE:Hid (∀ {v:Int},FirstErr (MatErrs (P:Int) (M:Int) k f (N:Int) n ln V) v->v=0):=by
   have hh:=HV.out
   rcases hh with ⟨_,h9⟩ | ⟨h1,⟨_,h9⟩ | ⟨_,⟨_,h9⟩ | ⟨h3,⟨_,h9⟩ | ⟨h4,_⟩⟩⟩⟩
   ·cases h9
   ·cases h9
   ·cases h9
   ·cases h9
   intro v hf
   rcases hf with ⟨h,_⟩ | ⟨_,⟨h,_⟩ | ⟨_,⟨h,_⟩ | ⟨_,hf⟩⟩⟩
   ·exact absurd h1 h
   ·exact absurd h3 h
   ·exact absurd h4 h
   ·exact hf
  obtain ⟨w9,hw9⟩:∃ W,W=w2:=⟨_,rfl⟩
  go_wp2
  clear hw9 w9
  go_cut [5,6] (fun v5 v6 wx=>∃ (mb:Nat) (lv:Value) (a:Nat) (W:Nat->Nat->Nat),v5=.pointer (some ⟨mb,0,none⟩)/\v6=.int .i64 0/\wx.rowIs mb 97 2 (matCell (.int .i64 (N:Nat)) lv)/\MTab wx w.heap.size lv a N W/\NullRel (P ^ M) (addF P M) (mulF P M fun i=>(f i).toNat) (negF P M) n N (natT V) a W/\wx.rowIs b0 27 5 (codCell (.int .i64 (P:Nat)) (.int .i64 (M:Nat)) (.slice A k c) (.int .i64 (N:Nat)) (.slice T n d))/\wx.rowIs b2 27 5 (codCell (.int .i64 0) (.int .i64 0) (.slice none 0 0) (.int .i64 0) (.slice none 0 0))/\Below w.heap.size w wx)
  case first =>
   refine wp_region_held_drew (S:=fun w'=>w'.cell? ⟨b0,0,none⟩=some (.int .i64 (P:Nat))/\w'.cell? ⟨b0,1,none⟩=some (.int .i64 (M:Nat))/\w'.cell? ⟨b0,2,none⟩=some (.slice A k c)/\w'.cell? ⟨b0,3,none⟩=some (.int .i64 (N:Nat))/\w'.cell? ⟨b0,4,none⟩=some (.slice T n d)) (by kernel_rfl) ⟨cellS (Below.refl _ _).drew (rf.cell (i:=0) (by omega)),cellS (Below.refl _ _).drew (rf.cell (i:=1) (by omega)),cellS (Below.refl _ _).drew (rf.cell (i:=2) (by omega)),cellS (Below.refl _ _).drew (rf.cell (i:=3) (by omega)),cellS (Below.refl _ _).drew (rf.cell (i:=4) (by omega))⟩ (fun hHeld=>?_)
   obtain ⟨w3,hw⟩:∃ W,W=World.drew w2:=⟨_,rfl⟩
   have kb:Below w2.heap.size w2 w3:=by rw [hw]; exact (Below.refl _ _).drew
   rw [<-hw] at hHeld ⊢;clear hw;replace rf:=zaa rf kb;replace ro:=zaa ro kb;replace hB:=onS hB kb;clear kb
   refine tkq 0 (h:=tkq 1 (h:=tkq 2 (h:=?_)))
   refine rdq2 3 8 (h:=fun K hK=>?_) (h2:=fun K hK=>?_)
   ·go_simp
    go_wp2_with fail
    refine (zeT (P:Int) (M:Int) (N:Int) A T k c n d w3).mono ?_
    rintro e w4 ⟨rfl,kb⟩
    replace rf:=zaa rf kb;replace ro:=zaa ro kb;replace hB:=onS hB kb;clear kb
    refine bkq hK ⟨qc0 rf,qc1 rf,qc2 rf,qc3 rf,qc4 rf⟩ (h:=fun hHeld=>?_)
    clear hK K
    refine rdq2 4 8 (h:=fun K hK=>?_) (h2:=fun K hK=>?_)
    ·go_simp
     go_wp2_with fail
     have hBs:=hB.size
     refine (zcl (P:Int) (M:Int) A k c f (N:Int) T n d ln V w4 (HR.out.on hB) (HT.out.on hB) (by omega)).mono ?_
     rintro e w5 ⟨kb,v,hv,hcase⟩
     obtain rfl:=HKE.out hv
     rcases hcase with ⟨h0,_⟩ | ⟨_,P',M',C',lv,a,W,hPe,hMe,hCe,rfl,hM,hrel⟩
     ·exact absurd rfl h0
     obtain rfl:P=P':=by omega
     obtain rfl:M=M':=by omega
     obtain rfl:N=C':=by omega
     replace hM:=hM.mono hBs
     obtain ⟨LA,lc,hlv⟩:=hM.shape
     subst hlv
     clear hPe hMe hCe hv;replace rf:=zaa rf kb;replace ro:=zaa ro kb;replace hB:=onS hB kb;clear kb
     refine bkq hK ⟨qc0 rf,qc1 rf,qc2 rf,qc3 rf,qc4 rf⟩ (h:=fun hHeld=>?_)
     clear hK K
     refine tkq 5 (h:=tkq 6 (h:=tkq 7 (h:=?_)))
     refine rdq 8 (h:=fun K hK=>?_)
     go_simp
     obtain ⟨w6,hw⟩:∃ W,W=World.alloc w5 (Obj.cells #[.int .i64 0,.slice none 0 0] 97):=⟨_,rfl⟩
     have kb:Below w5.heap.size w5 w6:=by rw [hw]; exact (Below.refl _ _).alloc (Nat.le_refl _) _
     have rb:w6.rowIs w5.heap.size 97 2 (matCell (.int .i64 0) (.slice none 0 0)):=by rw [hw]; exact zae
     have hmw:w.heap.size<=w5.heap.size:=hB.size
     have hm0:b0≠w5.heap.size:=by have:=rf.lt; omega
     have hm2:b2≠w5.heap.size:=by have:=ro.lt; omega
     rw [<-hw];clear hw
     obtain ⟨mb,hb⟩:∃ b,b=w5.heap.size:=⟨_,rfl⟩
     rw [<-hb] at rb hmw hm0 hm2 ⊢;clear hb;replace rf:=zaa rf kb;replace ro:=zaa ro kb;replace hB:=onS hB kb;replace hM:=hM.on kb;clear kb
     refine bkq hK ⟨qc0 rf,qc1 rf,qc2 rf,qc3 rf,qc4 rf⟩ (h:=fun hHeld=>?_)
     clear hK K
     refine rdq 9 (h:=fun K hK=>?_)
     have r0:=rb.frozen 0
     have s0:=qc0 rb
     have r1:=rb.frozen 1
     have s1:=qc1 rb
     go_simp
     clear r0 s0 r1 s1
     generalize hw9:World.setCell _ _ _=w7
     obtain ⟨row9,hg9⟩:=zaY rb hw9.symm
     clear hw9
     replace hM:=hM.kept hg9 rb (by decide) (by decide)
     replace hB:=hB.grown hg9 hB.size (fun q e=>by injection e with e; omega)
     replace rf:=zaj rf hg9 hm0;replace ro:=zaj ro hg9 hm2;clear hg9 rb
     refine bkq hK ⟨qc0 rf,qc1 rf,qc2 rf,qc3 rf,qc4 rf⟩ (h:=fun hHeld=>?_)
     clear hK K
     refine tkq 10 (h:=?_)
     refine wpAnyH_done (by kernel_rfl) ?_ _
     clear hHeld
     go_wp2
     go_meet
     exact ⟨mb,_,a,W,rfl,rfl,row9,hM,hrel,rf,ro,hB⟩
    ·go_simp
     obtain ⟨w5,hw⟩:∃ W,W=World.alloc w4 (Obj.cells #[.int .i64 0,.slice none 0 0] 97):=⟨_,rfl⟩
     have kb:Below w4.heap.size w4 w5:=by rw [hw]; exact (Below.refl _ _).alloc (Nat.le_refl _) _
     have rb:w5.rowIs w4.heap.size 97 2 (matCell (.int .i64 0) (.slice none 0 0)):=by rw [hw]; exact zae
     have hmw:w.heap.size<=w4.heap.size:=hB.size
     have hm0:b0≠w4.heap.size:=by have:=rf.lt; omega
     have hm2:b2≠w4.heap.size:=by have:=ro.lt; omega
     rw [<-hw];clear hw
     obtain ⟨mb,hb⟩:∃ b,b=w4.heap.size:=⟨_,rfl⟩
     rw [<-hb] at rb hmw hm0 hm2 ⊢;clear hb;replace rf:=zaa rf kb;replace ro:=zaa ro kb;replace hB:=onS hB kb;clear kb
     refine bkq hK ⟨qc0 rf,qc1 rf,qc2 rf,qc3 rf,qc4 rf⟩ (h:=fun hHeld=>?_)
     clear hK K
     refine rdq 4 (h:=fun K hK=>?_)
     go_simp
     go_wp2_with fail
     have hBs:=hB.size
     refine (zcl (P:Int) (M:Int) A k c f (N:Int) T n d ln V w5 (HR.out.on hB) (HT.out.on hB) (by omega)).mono ?_
     rintro e w6 ⟨kb,v,hv,hcase⟩
     obtain rfl:=HKE.out hv
     rcases hcase with ⟨h0,_⟩ | ⟨_,P',M',C',lv,a,W,hPe,hMe,hCe,rfl,hM,hrel⟩
     ·exact absurd rfl h0
     obtain rfl:P=P':=by omega
     obtain rfl:M=M':=by omega
     obtain rfl:N=C':=by omega
     replace hM:=hM.mono hBs
     obtain ⟨LA,lc,hlv⟩:=hM.shape
     subst hlv
     clear hPe hMe hCe hv;replace rf:=zaa rf kb;replace ro:=zaa ro kb;replace rb:=zaa rb kb;replace hB:=onS hB kb;clear kb
     refine bkq hK ⟨qc0 rf,qc1 rf,qc2 rf,qc3 rf,qc4 rf⟩ (h:=fun hHeld=>?_)
     clear hK K
     refine tkq 5 (h:=tkq 6 (h:=tkq 7 (h:=?_)))
     refine rdq 9 (h:=fun K hK=>?_)
     have r0:=rb.frozen 0
     have s0:=qc0 rb
     have r1:=rb.frozen 1
     have s1:=qc1 rb
     go_simp
     clear r0 s0 r1 s1
     generalize hw9:World.setCell _ _ _=w7
     obtain ⟨row9,hg9⟩:=zaY rb hw9.symm
     clear hw9
     replace hM:=hM.kept hg9 rb (by decide) (by decide)
     replace hB:=hB.grown hg9 hB.size (fun q e=>by injection e with e; omega)
     replace rf:=zaj rf hg9 hm0;replace ro:=zaj ro hg9 hm2;clear hg9 rb
     refine bkq hK ⟨qc0 rf,qc1 rf,qc2 rf,qc3 rf,qc4 rf⟩ (h:=fun hHeld=>?_)
     clear hK K
     refine tkq 10 (h:=?_)
     refine wpAnyH_done (by kernel_rfl) ?_ _
     clear hHeld
     go_wp2
     go_meet
     exact ⟨mb,_,a,W,rfl,rfl,row9,hM,hrel,rf,ro,hB⟩
   ·go_simp
    obtain ⟨w4,hw⟩:∃ W,W=World.alloc w3 (Obj.cells #[.int .i64 0,.slice none 0 0] 97):=⟨_,rfl⟩
    have kb:Below w3.heap.size w3 w4:=by rw [hw]; exact (Below.refl _ _).alloc (Nat.le_refl _) _
    have rb:w4.rowIs w3.heap.size 97 2 (matCell (.int .i64 0) (.slice none 0 0)):=by rw [hw]; exact zae
    have hmw:w.heap.size<=w3.heap.size:=hB.size
    have hm0:b0≠w3.heap.size:=by have:=rf.lt; omega
    have hm2:b2≠w3.heap.size:=by have:=ro.lt; omega
    rw [<-hw];clear hw
    obtain ⟨mb,hb⟩:∃ b,b=w3.heap.size:=⟨_,rfl⟩
    rw [<-hb] at rb hmw hm0 hm2 ⊢;clear hb;replace rf:=zaa rf kb;replace ro:=zaa ro kb;replace hB:=onS hB kb;clear kb
    refine bkq hK ⟨qc0 rf,qc1 rf,qc2 rf,qc3 rf,qc4 rf⟩ (h:=fun hHeld=>?_)
    clear hK K
    refine rdq 3 (h:=fun K hK=>?_)
    go_simp
    go_wp2_with fail
    refine (zeT (P:Int) (M:Int) (N:Int) A T k c n d w4).mono ?_
    rintro e w5 ⟨rfl,kb⟩
    replace rf:=zaa rf kb;replace ro:=zaa ro kb;replace rb:=zaa rb kb;replace hB:=onS hB kb;clear kb
    refine bkq hK ⟨qc0 rf,qc1 rf,qc2 rf,qc3 rf,qc4 rf⟩ (h:=fun hHeld=>?_)
    clear hK K
    refine rdq 4 (h:=fun K hK=>?_)
    go_simp
    go_wp2_with fail
    have hBs:=hB.size
    refine (zcl (P:Int) (M:Int) A k c f (N:Int) T n d ln V w5 (HR.out.on hB) (HT.out.on hB) (by omega)).mono ?_
    rintro e w6 ⟨kb,v,hv,hcase⟩
    obtain rfl:=HKE.out hv
    rcases hcase with ⟨h0,_⟩ | ⟨_,P',M',C',lv,a,W,hPe,hMe,hCe,rfl,hM,hrel⟩
    ·exact absurd rfl h0
    obtain rfl:P=P':=by omega
    obtain rfl:M=M':=by omega
    obtain rfl:N=C':=by omega
    replace hM:=hM.mono hBs
    obtain ⟨LA,lc,hlv⟩:=hM.shape
    subst hlv
    clear hPe hMe hCe hv;replace rf:=zaa rf kb;replace ro:=zaa ro kb;replace rb:=zaa rb kb;replace hB:=onS hB kb;clear kb
    refine bkq hK ⟨qc0 rf,qc1 rf,qc2 rf,qc3 rf,qc4 rf⟩ (h:=fun hHeld=>?_)
    clear hK K
    refine tkq 5 (h:=tkq 6 (h:=tkq 7 (h:=?_)))
    refine rdq 9 (h:=fun K hK=>?_)
    have r0:=rb.frozen 0
    have s0:=qc0 rb
    have r1:=rb.frozen 1
    have s1:=qc1 rb
    go_simp
    clear r0 s0 r1 s1
    generalize hw9:World.setCell _ _ _=w7
    obtain ⟨row9,hg9⟩:=zaY rb hw9.symm
    clear hw9
    replace hM:=hM.kept hg9 rb (by decide) (by decide)
    replace hB:=hB.grown hg9 hB.size (fun q e=>by injection e with e; omega)
    replace rf:=zaj rf hg9 hm0;replace ro:=zaj ro hg9 hm2;clear hg9 rb
    refine bkq hK ⟨qc0 rf,qc1 rf,qc2 rf,qc3 rf,qc4 rf⟩ (h:=fun hHeld=>?_)
    clear hK K
    refine tkq 10 (h:=?_)
    refine wpAnyH_done (by kernel_rfl) ?_ _
    clear hHeld
    go_wp2
    go_meet
    exact ⟨mb,_,a,W,rfl,rfl,row9,hM,hrel,rf,ro,hB⟩
  case rest =>
   clear hB rf ro
   obtain ⟨mb,lv,a,W,rfl,rfl,rm,hM,hrel,rf,ro,hB⟩:=hcut
   have HM:=hid hM
   have HREL:=hid hrel
   obtain ⟨LA,lc,hlv⟩:=hM.shape
   subst hlv
   clear hM hrel
   have q0:=qc0 rf
   have q1:=qc1 rf
   have q2:=qc2 rf
   have m0:=qc0 rm
   have m1:=qc1 rm
   go_wp2_with fail
   refine (zjy (P:Int) (M:Int) (N:Int) A k c f LA a lc wc (HR.out.on hB) hkc (by omega)).mono ?_
   rintro e w5 ⟨v,rfl,hO,kb⟩
   have hBs:=hB.size
   replace hB:=onS hB kb;replace ro:=zaa ro kb
   have HM5:=hid (HM.out.on kb)
   obtain ⟨A2,c2,hv⟩:=hO.shape
   subst hv
   have HO:=hid (hO.mono hBs)
   clear kb hO hBs q0 q1 q2 m0 m1 rf rm HM
   have r0:=ro.frozen 0
   have s0:=qc0 ro
   have r1:=ro.frozen 1
   have s1:=qc1 ro
   have r2:=ro.frozen 2
   have s2:=qc2 ro
   have r3:=ro.frozen 3
   have s3:=qc3 ro
   have r4:=ro.frozen 4
   have s4:=qc4 ro
   go_wp2
   clear r0 s0 r1 s1 r2 s2 r3 s3 r4 s4
   generalize hw9:World.setCell _ _ _=w6
   obtain ⟨row9,hg9⟩:=zcM ro hw9.symm
   clear hw9
   have hB9:=hB.grown hg9 hB.size (fun q e=>by injection e with e; omega)
   have hO9:=HO.out.kept hg9 (zar ro HO.out (by decide))
   have hM9:=HM5.out.kept hg9 ro (by decide) (by decide)
   have e0:=qc0 row9
   have e1:=qc1 row9
   have e2:=qc2 row9
   have e3:=qc3 row9
   have e4:=qc4 row9
   refine bodyPost_ret (v:=.tuple #[.agg #[.int .i64 (P:Nat),.int .i64 (M:Nat),.slice A2 k c2,.int .i64 (N:Nat),.slice LA a lc],.int .i64 0]) (by simp [results,Tryz.results50, go_sem,e0,e1,e2,e3,e4]) rfl ?_
   refine ⟨hB9,0,HV.out,.inr ⟨rfl,P,M,N,rfl,rfl,rfl,_,_,a,W,rfl,hO9.congr fun j hj q _=>?_,hM9,hB9,HREL.out⟩⟩
   have hg:=HV.out
   rcases hg with ⟨_,h9⟩ | ⟨⟨P',M',h1,h2,h3,h4,h5⟩,_⟩
   ·cases h9
   rcases h5 with ⟨_,e⟩ | ⟨_,e,h,_⟩
   ·omega
   ·have:=h j (by omega)
    show Value.int .i64 (f j)=.int .i64 (((f j).toNat:Nat):Int)
    rw [show (((f j).toNat:Nat):Int)=f j by omega]
 ·have hvn:(v != 0)=true:=by simpa using hv0
  have HV0:=hid hv0
  clear hv0 rf
  have r0:=ro.frozen 0
  have s0:=qc0 ro
  have r1:=ro.frozen 1
  have s1:=qc1 ro
  have r2:=ro.frozen 2
  have s2:=qc2 ro
  have r3:=ro.frozen 3
  have s3:=qc3 ro
  have r4:=ro.frozen 4
  have s4:=qc4 ro
  go_wp2
  clear r0 s0 r1 s1 r2 s2 r3 s3 r4 s4
  generalize hw9:World.setCell _ _ _=w6
  obtain ⟨row9,hg9⟩:=zcM ro hw9.symm
  clear hw9
  have hB9:=hB.grown hg9 hB.size (fun q e=>by injection e with e; omega)
  have e0:=qc0 row9
  have e1:=qc1 row9
  have e2:=qc2 row9
  have e3:=qc3 row9
  have e4:=qc4 row9
  refine bodyPost_ret (v:=.tuple #[.agg #[.int .i64 0,.int .i64 0,.slice none 0 0,.int .i64 0,.slice none 0 0],.int .i64 v]) (by simp [results,Tryz.results50, go_sem,e0,e1,e2,e3,e4]) rfl ?_
  exact ⟨hB9,v,HV.out,.inl ⟨HV0.out,rfl⟩⟩
section
variable {q n k:Nat} {add mul:Nat->Nat->Nat} {V:Nat->Nat->Nat}
theorem zcU (hL:FieldLaws q add mul) {a s j:Nat} {c:Nat->Nat} (hc:∀ i,i<a->c i<q) (hs:s<a) (h1:V s j=1) (h0:∀ t,t<a->t≠s->V t j=0):spE add mul V c a j=c s:=by
 have key:∀ t,t<=a->spE add mul V c t j=if s<t then c s else 0:=by
  intro t
  induction t with
  | zero=>intro _; rfl
  | succ t ih =>
   intro ht
   show add (spE add mul V c t j) (mul (c t) (V t j))=_
   rw [ih (by omega)]
   by_cases e:t=s
   ·subst e
    rw [if_neg (by omega),if_pos (by omega),h1,hL.mulOne (hc t hs),hL.zeroAdd _ (hc t hs)]
   ·rw [h0 t (by omega) e,hL.mulZero (hc t (by omega))]
    by_cases e2:s<t
    ·rw [if_pos e2,if_pos (by omega),hL.addZero (hc s hs)]
    ·rw [if_neg e2,if_neg (by omega),hL.addZero (by have:=hL.two; omega)]
 rw [key a (Nat.le_refl _),if_pos hs]
theorem zjz (hL:FieldLaws q add mul) {U W:Nat->Nat->Nat} {f a N:Nat} {fr p:Nat->Nat} (hf:∀ u,u<f->fr u<N) (hp:∀ s,s<a->p s<N)
  (u1:∀ s,s<f->U s (fr s)=1) (u0:∀ s,s<f->∀ t,t<f->t≠s->U t (fr s)=0) (w1:∀ s,s<a->W s (p s)=1) (w0:∀ s,s<a->∀ t,t<a->t≠s->W t (p s)=0)
  (hS:SameSp q add mul N f a U W):f<=a:=by
 have hq:=hL.two
 have hle:q ^ f<=q ^ a:=by
  refine pigeon (f:=fun i=>code q (fun s=>spE add mul U (msgD q f i) f (p s)) a) (fun i _=>zgc fun s _=>zcL hL _ _ _) fun i i' hi hi' e=>?_
  have e1:=ziw (fun s _=>zcL hL _ _ _) (fun s _=>zcL hL _ _ _) e
  have hin:∀ i,InSp q add mul a N W (spE add mul U (msgD q f i) f):=fun i=>(hS _).1 ⟨msgD q f i,fun _ _=>zeb (by omega),fun _ _=>rfl⟩
  obtain ⟨c,hc,ec⟩:=hin i
  obtain ⟨d,hd,ed⟩:=hin i'
  have ecd:∀ s,s<a->c s=d s:=fun s hs=>by
   have:=e1 s hs
   rw [ec _ (hp s hs),ed _ (hp s hs),zcU hL hc hs (w1 s hs) (w0 s hs),zcU hL hd hs (w1 s hs) (w0 s hs)] at this
   exact this
  have em:∀ u,u<f->msgD q f i u=msgD q f i' u:=fun u hu=>by
   have h1:=zcU (V:=U) hL (fun t _=>zeb (q:=q) (n:=f) (x:=i) (t:=t) (by omega)) hu (u1 u hu) (u0 u hu)
   have h2:=zcU (V:=U) hL (fun t _=>zeb (q:=q) (n:=f) (x:=i') (t:=t) (by omega)) hu (u1 u hu) (u0 u hu)
   rw [<-h1,<-h2,ec _ (hf u hu),ed _ (hf u hu)]
   exact zb3 a fun s hs=>⟨ecd s hs,rfl⟩
  refine zjq (by omega) hi hi' fun t ht=>?_
  have:=em (f - 1 - t) (by omega)
  unfold msgD at this
  rwa [show f - 1 - (f - 1 - t)=t by omega] at this
 exact (Nat.pow_le_pow_iff_right hq).1 hle
theorem NullRel.count {neg:Nat->Nat} {N a2:Nat} {W2:Nat->Nat->Nat} (hL:FieldLaws q add mul) (hneg:∀ x,x<q->neg x<q/\add x (neg x)=0) (hV:RrefN q n N V) (h:NullRel q add mul neg n N V a2 W2):n+a2=N:=by
 obtain ⟨pv,hv⟩:=hV
 obtain ⟨a,p,W,f,fr,Nn,p2,hE,hR,hN,hE2,hR2⟩:=h
 have hq:=hL.two
 have hle:=hE.le
 obtain ⟨hs,hWl⟩:=hR.sp hL hv.lt
 have hNl:∀ u,u<f->∀ j,j<N->Nn u j<q:=fun u hu j hj=>by
  rw [hN.row u hu j hj]
  have hfu:=hN.lt u hu
  rcases hN.cover j hj with ⟨s,hs,e⟩ | ⟨v,hv,e⟩
  ·rw [<-e,zff a hE.inc hs]
   exact (hneg _ (hWl s (by omega) _ hfu)).1
  ·rw [zbp a fun s hs e2=>hN.ne v hv s hs (e2.trans e.symm)]
   split <;> omega
 obtain ⟨hs2,-⟩:=hR2.sp hL hNl
 have ea:n=a:=(zcg hL hv hE.top fun x=>(hs x).trans (hE.sp_top hL x)).1
 have hle2:=hE2.le
 have u1:∀ s,s<f->Nn s (fr s)=1:=fun s hs=>by rw [hN.row s hs _ (hN.lt s hs),zbp a (hN.ne s hs),if_pos rfl]
 have u0:∀ s,s<f->∀ t,t<f->t≠s->Nn t (fr s)=0:=fun s hs t ht hne=>by
  rw [hN.row t ht _ (hN.lt s hs),zbp a (hN.ne s hs),if_neg]
  intro e
  rcases Nat.lt_or_gt_of_ne hne with h1 | h1
  ·have:=hN.inc t s h1 hs; omega
  ·have:=hN.inc s t h1 ht; omega
 have w0:∀ s,s<a2->∀ t,t<a2->t≠s->W2 t (p2 s)=0:=fun s hs t ht hne=>hE2.zero s hs t (by omega) hne
 have hS:SameSp q add mul N f a2 Nn W2:=fun x=>(hs2 x).trans (hE2.sp_top hL x)
 have f1:f<=a2:=zjz hL hN.lt hE2.pvlt u1 u0 hE2.one w0 hS
 have f3:a+f<=N:=by
  refine pigeon (f:=fun i=>if i<a then p i else fr (i - a)) (fun i hi=>?_) fun i j hi hj e=>?_
  ·show (if i<a then p i else fr (i - a))<N
   split
   ·rename_i h; exact hE.pvlt i h
   ·exact hN.lt _ (by omega)
  ·have e':(if i<a then p i else fr (i - a))=(if j<a then p j else fr (j - a)):=e
   by_cases h1:i<a
   ·rw [if_pos h1] at e'
    by_cases h2:j<a
    ·rw [if_pos h2] at e'
     rcases Nat.lt_trichotomy i j with h3 | h3 | h3
     ·have:=hE.inc i j h3 h2; omega
     ·exact h3
     ·have:=hE.inc j i h3 h1; omega
    ·rw [if_neg h2] at e'
     exact absurd e' (hN.ne _ (by omega) _ h1)
   ·rw [if_neg h1] at e'
    by_cases h2:j<a
    ·rw [if_pos h2] at e'
     exact absurd e'.symm (hN.ne _ (by omega) _ h2)
    ·rw [if_neg h2] at e'
     rcases Nat.lt_trichotomy (i - a) (j - a) with h3 | h3 | h3
     ·have:=hN.inc _ _ h3 (by omega); omega
     ·omega
     ·have:=hN.inc _ _ h3 (by omega); omega
 have f4:N<=a+f:=by
  have hch:∀ j,∃ i,j<N->i<a+f/\(if i<a then p i else fr (i - a))=j:=fun j=>by
   by_cases hj:j<N
   ·rcases hN.cover j hj with ⟨s,hs,e⟩ | ⟨u,hu,e⟩
    ·exact ⟨s,fun _=>⟨by omega,by rw [if_pos hs]; exact e⟩⟩
    ·exact ⟨a+u,fun _=>⟨by omega,by rw [if_neg (by omega),show a+u - a=u by omega]; exact e⟩⟩
   ·exact ⟨0,fun h=>absurd h hj⟩
  obtain ⟨g,hg⟩:=Classical.skolem.1 hch
  refine pigeon (f:=g) (fun j hj=>(hg j hj).1) fun i j hi hj e=>?_
  have h1:=(hg i hi).2
  have h2:=(hg j hj).2
  rw [e] at h1
  omega
 omega
theorem NullRel.same {neg:Nat->Nat} {N a2 a3:Nat} {W2 W3:Nat->Nat->Nat} (hL:FieldLaws q add mul) (hneg:∀ x,x<q->neg x<q/\add x (neg x)=0) (hV:∀ i,i<n->∀ j,j<N->V i j<q) (h:NullRel q add mul neg n N V a2 W2) (h3:NullRel q add mul neg n N V a3 W3) :
  a2=a3/\∀ s,s<a2->∀ j,j<N->W2 s j=W3 s j:=by
 have hq:0<q:=by have:=hL.two; omega
 obtain ⟨iA,iM,iN,i0,i1,F,ha,hm,h0,h1⟩:=zgl hL
 have O:OnEl q add mul:=⟨F,ha,hm,h0,h1⟩
 obtain ⟨p2,e2⟩:=h.rref
 obtain ⟨p3,e3⟩:=h3.rref
 have hp2:=fun x=>NullRel.perp (x:=x) hq O hL hneg hV h
 have hp3:=fun x=>NullRel.perp (x:=x) hq O hL hneg hV h3
 have hS:SameSp q add mul N a2 a3 W2 W3:=fun x=>by
  constructor
  ·intro hx
   have hl:∀ j,j<N->x j<q:=fun j hj=>hx.lt hL hj
   exact (zaG hq F hL ha hm h0 e3.lt hl).2 ((hp3 _).1 ((hp2 _).2 ((zaG hq F hL ha hm h0 e2.lt hl).1 hx)))
  ·intro hx
   have hl:∀ j,j<N->x j<q:=fun j hj=>hx.lt hL hj
   exact (zaG hq F hL ha hm h0 e2.lt hl).2 ((hp2 _).1 ((hp3 _).2 ((zaG hq F hL ha hm h0 e3.lt hl).1 hx)))
 obtain ⟨g1,-,g3⟩:=zcg hL e2 e3 hS
 exact ⟨g1,g3⟩
end
open Go.ChangeShapes Go.WideShapes Go.ChangeAt
theorem zii {α:Type} {f g:α->Rat}:∀ {l:List α},(∀ x,x ∈ l->f x<=g x)->sumM f l<=sumM g l
 | [],_=>Rat.le_refl
 | a :: l,h=>by
  have h1:=h a (by simp)
  have h2:=zii (f:=f) (g:=g) (l:=l) fun x hx=>h x (by simp [hx])
  show f a+sumM f l<=g a+sumM g l
  grind
theorem zhJ {q:Nat} {add mul:Nat->Nat->Nat} (hL:FieldLaws q add mul) {d:Nat} (hd:d<q) {x w:Nat->Nat}:∀ n,(∀ j,j<n->x j<q/\w j<q)->dotN add mul (fun j=>mul d (x j)) w n=mul d (dotN add mul x w n)
 | 0,_=>(hL.mulZero hd).symm
 | n+1,h=>by
  obtain ⟨h1,h2⟩:=h n (by omega)
  show add (dotN add mul (fun j=>mul d (x j)) w n) (mul (mul d (x n)) (w n))=mul d (add (dotN add mul x w n) (mul (x n) (w n)))
  rw [zhJ hL hd n fun j hj=>h j (by omega),hL.distrib _ _ _ hd (zjw hL _ _ _) (hL.mulLt _ _),hL.mulAssoc _ _ _ hd h1 h2]
theorem zgU {q:Nat} {add mul:Nat->Nat->Nat} [Add (El q)] [Mul (El q)] [Neg (El q)] [Zero (El q)] [One (El q)] (hq:0<q) (O:OnEl q add mul) {x y:Nat->Nat}:∀ n,(∀ j,j<n->x j<q/\y j<q)->(sumK n (fun j=>toEl q hq (x j)*toEl q hq (y j))).val=dotN add mul x y n
 | 0,_=>O.h0
 | n+1,h=>by
  show (sumK n (fun j=>toEl q hq (x j)*toEl q hq (y j))+toEl q hq (x n)*toEl q hq (y n)).val=_
  rw [O.ha,O.hm,zgU hq O n fun j hj=>h j (by omega),zak hq (h n (by omega)).1,zak hq (h n (by omega)).2]
  rfl
section
variable {K:Type} [Add K] [Mul K] [Neg K] [Zero K] [One K] (F:Fie K)
include F
theorem dot_comm' {k:Nat} {x y:List K} (hx:x.length=k) (hy:y.length=k):dotW x y=dotW y x:=by
 rw [zcK F hx hy,zcK F hy hx]
 exact zaX fun i _=>F.mulC _ _
theorem ziV {n:Nat} {C:List K->Prop} (hC:LinC n C):LinC n (perpW n C):=by
 refine ⟨fun x h=>h.1,⟨by simp,fun y hy=>zgp F (hC.len y hy)⟩,fun x y hx hy=>⟨by rw [zdb (by rw [hx.1,hy.1]),hx.1],fun z hz=>?_⟩,fun a x hx=>⟨by rw [zbn,hx.1],fun z hz=>?_⟩⟩
 ·rw [zgi F x y z (by rw [hx.1,hy.1]),hx.2 z hz,hy.2 z hz,F.zeroA]
 ·rw [zfd F,hx.2 z hz,F.mulZ]
theorem zhK {L:List K} (hn:L.Nodup) (hc:∀ a,a ∈ L) {n:Nat} {C:List K->Prop} (hC:LinC n C) (x:List K):perpW n (perpW n C) x↔C x:=by
 classical
 have sub:∀ y,C y->perpW n (perpW n C) y:=fun y hy=>⟨hC.len y hy,fun z hz=>by rw [dot_comm' F (hC.len y hy) hz.1]; exact hz.2 y hy⟩
 refine ⟨fun h=>?_,sub x⟩
 by_cases hx:C x
 ·exact hx
 ·have h1:=(mac F hn hc n C hC).1
  have h2:=(mac F hn hc n (perpW n C) (ziV F hC)).1
  have hq0:rpow ((L.length:Nat):Rat) n≠0:=by
   refine zic ?_ n
   intro e
   have e2:L.length=0:=by simpa using e
   have e3:=List.length_eq_zero_iff.1 e2
   have:=hc 0
   rw [e3] at this
   simp at this
  have h3:cntW L n (perpW n C)≠0:=fun e=>hq0 (by rw [<-h1,e,Rat.mul_zero])
  have h4:cntW L n C=cntW L n (perpW n (perpW n C)):=by
   have h5:cntW L n (perpW n C)*cntW L n C=cntW L n (perpW n C)*cntW L n (perpW n (perpW n C)):=by rw [h2,Rat.mul_comm,h1]
   have h6:cntW L n (perpW n C)*(cntW L n C - cntW L n (perpW n (perpW n C)))=0:=by grind
   rcases Rat.mul_eq_zero.1 h6 with h7 | h7
   ·exact absurd h7 h3
   ·grind
  have hone:=zdw (l:=allW L n) (zed hn n) (a:=x) (zgB hc n x h.1) (fun y=>y=x) (fun _=>Iff.rfl) (fun _=>(1:Rat))
  have hle:sumM (fun y=>(if C y then (1:Rat) else 0)+if y=x then (1:Rat) else 0) (allW L n)<=sumM (fun y=>if perpW n (perpW n C) y then (1:Rat) else 0) (allW L n):=zii fun y _=>by
   by_cases e:y=x
   ·rw [e,if_neg hx,if_pos rfl,if_pos h]; decide +kernel
   ·rw [if_neg e]
    by_cases e2:C y
    ·rw [if_pos e2,if_pos (sub y e2)]; decide +kernel
    ·rw [if_neg e2]; split <;> decide +kernel
  have hone':sumM (fun y=>if y=x then (1:Rat) else 0) (allW L n)=1:=by
   refine Eq.trans (zap fun y _=>?_) hone
   by_cases e:y=x
   ·rw [if_pos e,if_pos e]
   ·rw [if_neg e,if_neg e]
  rw [zdv,hone'] at hle
  have h8:cntW L n C+1<=cntW L n (perpW n (perpW n C)):=hle
  rw [<-h4] at h8
  grind
end
section
variable {H:Type} {enc:TypeId × Value->H} {P:Program} {w:World} {base:Nat} {spare:Nat->Bool} {held:Bool} {cs:List Value} {t e s:Nat}
def SeesW (enc:TypeId × Value->H) (P:Program) (w:World) (base:Nat) (spare:Nat->Bool) (held:Bool) (t:TypeId) (cs:List Value):Prop :=
 ∃ fuel d p,DataW.trod enc P w base spare held fuel t cs=some (d,p)/\∀ x ∈ d.weights P t,x<=140737488351232
theorem SeesW.sees (h:SeesW enc P w base spare held t cs):Sees enc P w base spare held t cs:=by
 obtain ⟨fuel,d,p,h,_⟩:=h
 exact ⟨fuel,(d,p),h⟩
theorem zdL {l:List (DataW H)} {d:DataW H} {x:Nat} (hd:d ∈ l) (hx:x ∈ d.weights P e):x ∈ DataW.weightsAll P e l:=by
 induction l with
 | nil=>cases hd
 | cons a r ih =>
  unfold DataW.weightsAll
  rw [List.mem_append]
  rcases List.mem_cons.1 hd with rfl | h
  ·exact .inl hx
  ·exact .inr (ih h)
theorem zcm (ht:P.underlying t=some (.slice e)) (hC:P.cellsOf e=s) (hs:0<s) {B:Nat} (hB:P.bytesOf e=B) (h:SeesW enc P w base spare held t cs) :
  ∃ (A:Option Addr) (n c:Nat) (f:Nat->Nat->Value),cs=[.slice A n c]/\n<=c/\c<=maxLen/\n*B<=140737488351232/\Rd w w.heap.size A n s f/\∀ i,i<n->SeesW enc P w base spare held e ((List.range s).map (f i)):=by
 obtain ⟨fuel,d,p,h,hw⟩:=h
 rcases Go.Deep.open_slice ht h with ⟨rfl,_⟩ | ⟨a,len,cap,m,n,D,Pl,rfl,hb,hl,hm,hmm,hx,hi⟩
 ·exact ⟨none,0,0,fun _ _=>undef,rfl,Nat.le_refl _,Nat.zero_le _,by omega,fun i hi=>absurd hi (by omega),fun i hi=>absurd hi (by omega)⟩
 ·have hlm:len<=m:=by rw [hmm]; split <;> omega
  have hx1:=congrArg Prod.fst hx
  subst hx1
  have hw1:(len+(m - len))*B<=140737488351232:=hw _ (by unfold DataW.weights; rw [ht]; simp [hB])
  refine ⟨some a,len,cap,fun i j=>(w.cell? (a.add (i*s+j))).getD undef,rfl,hl,hm,Nat.le_trans (Nat.mul_le_mul_right _ (Nat.le_add_right _ _)) hw1,fun i hi'=>?_,fun i hi'=>?_⟩
  ·obtain ⟨cs',hc,_⟩:=hi i (by omega)
   rw [hC] at hc
   obtain ⟨_,hlen,hat⟩:=World.cells?_some hc
   have h0:=hat 0 hs
   rw [List.getElem?_eq_getElem (by omega),Go.Deep.add_add] at h0
   have hlt:=World.block_lt_of_cell? _ _ h0
   obtain ⟨ab,ao,sp⟩:=a
   have hsp0:w.cell? ((⟨ab,ao,sp⟩:Addr).add (i*s+0))=some (cs'[0]'(by omega)):=h0
   by_cases hz:i*s=0
   ·have:(⟨ab,ao,sp⟩:Addr).add (i*s+0)=⟨ab,ao,sp⟩:=by unfold Addr.add; rw [if_pos (by omega)]
    rw [this] at hsp0 hlt
    obtain rfl:sp=none:=World.cell?_spot hsp0
    refine ⟨ab,ao,rfl,hlt,fun j hj=>?_⟩
    have hj':=hat j hj
    rw [Go.Deep.add_add,zbj] at hj'
    show w.cell? ⟨ab,ao+i*s+j,none⟩=some ((w.cell? ((⟨ab,ao,none⟩:Addr).add (i*s+j))).getD undef)
    rw [zbj,hj',List.getElem?_eq_getElem (by omega)]
    rw [show ao+i*s+j=ao+(i*s+j) by omega,hj',List.getElem?_eq_getElem (by omega)]
    rfl
   ·obtain ⟨cs0,hc0,_⟩:=hi 0 (by omega)
    rw [hC] at hc0
    obtain ⟨_,hlen0,hat0⟩:=World.cells?_some hc0
    have k0:=hat0 0 hs
    rw [List.getElem?_eq_getElem (by omega),Go.Deep.add_add] at k0
    have:(⟨ab,ao,sp⟩:Addr).add (0*s+0)=⟨ab,ao,sp⟩:=by unfold Addr.add; rw [if_pos (by omega)]
    rw [this] at k0
    obtain rfl:sp=none:=World.cell?_spot k0
    refine ⟨ab,ao,rfl,World.block_lt_of_cell? _ _ k0,fun j hj=>?_⟩
    have hj':=hat j hj
    rw [Go.Deep.add_add,zbj] at hj'
    show w.cell? ⟨ab,ao+i*s+j,none⟩=some ((w.cell? ((⟨ab,ao,none⟩:Addr).add (i*s+j))).getD undef)
    rw [zbj]
    rw [show ao+i*s+j=ao+(i*s+j) by omega,hj',List.getElem?_eq_getElem (by omega)]
    rfl
  ·obtain ⟨cs',hc,htr⟩:=hi i (by omega)
   rw [hC] at hc
   obtain ⟨_,hlen,hat⟩:=World.cells?_some hc
   refine ⟨n,D i,Pl i,?_,fun x hx=>hw _ (by
    unfold DataW.weights
    rw [ht]
    refine List.mem_cons_of_mem _ (List.mem_append.2 (.inl (zdL (List.mem_map.2 ⟨i,List.mem_range.2 hi',rfl⟩) hx))))⟩
   have:(List.range s).map (fun j=>(w.cell? (a.add (i*s+j))).getD undef)=cs':=by
    apply List.ext_getElem
    ·simp [hlen]
    ·intro j h1 h2
     have:=hat j (by omega)
     rw [Go.Deep.add_add,List.getElem?_eq_getElem h2] at this
     simp [this]
   rw [this]
   exact htr
theorem zgV {fs:Array Field} (ht:P.underlying t=some (.struct fs)) (h:SeesW enc P w base spare held t cs) (i T off m:Nat)
  (hi:∃ f,fs[i]?=some f/\f.type=T/\f.offset=off) (hC:P.cellsOf T=m):SeesW enc P w base spare held T ((cs.drop off).take m):=by
 obtain ⟨f,hf,rfl,rfl⟩:=hi
 subst hC
 obtain ⟨fuel,d,p,h,hw⟩:=h
 obtain ⟨xs,n,_,hx,hlen,hxl,hg⟩:=DataW.trod_struct ht h
 have hlt:i<xs.length:=by rw [hxl]; exact (Array.getElem?_eq_some_iff.1 hf).1
 refine ⟨n,xs[i].1,xs[i].2,(hg i f hf).trans (List.getElem?_eq_getElem hlt),fun x hx2=>hw x ?_⟩
 have hx1:=congrArg Prod.fst hx
 subst hx1
 unfold DataW.weights
 rw [ht]
 refine DataW.weights_mem_each (j:=i) (t:=f.type) (d:=xs[i].1) ?_ ?_ x hx2
 ·simp [hf]
 ·simp [hlt]
end
structure Trel where
 nw:Nat
 W:Nat->Int
 n:Nat
 el:Nat->Nat
 fr:Nat->Nat->Int
 lb:Nat->Nat->Int
 «to»:Nat->Nat->Int
def Trel.edge (T:Trel) (i j k:Nat):Value:=if k=0 then .int .i64 (T.fr i j) else if k=1 then .int .i64 (T.lb i j) else .int .i64 (T.to i j)
def InI64 (x:Int):Prop := -9223372036854775808<=x/\x<=9223372036854775807
def Trel.Secs (T:Trel) (w:World) (B:Option Addr):Prop :=
 ∀ i,i<T.n->∃ b off E c,B=some ⟨b,off,none⟩/\b<w.heap.size/\w.cell? ⟨b,off+i,none⟩=some (.slice E (T.el i) c)/\T.el i<=c/\c<=maxLen/\Rd w w.heap.size E (T.el i) 3 (T.edge i) /\
  ∀ j,j<T.el i->InI64 (T.fr i j)/\InI64 (T.lb i j)/\InI64 (T.to i j)
def Trel.Reads (T:Trel) (w:World) (A B:Option Addr):Prop :=
 IntsR w w.heap.size A T.nw T.W/\(∀ i,i<T.nw->InI64 (T.W i))/\T.Secs w B/\T.nw<=140737488351232/\T.n<=140737488351232/\∀ i,i<T.n->T.el i<=140737488351232
section
variable {T:Trel} {w w':World} {A B:Option Addr}
theorem Trel.Secs.on (h:T.Secs w B) (hb:Below w.heap.size w w'):T.Secs w' B:=fun i hi=>by
 obtain ⟨b,off,E,c,e,h1,h2,h3,h4,h5,h6⟩:=h i hi
 exact ⟨b,off,E,c,e,Nat.lt_of_lt_of_le h1 hb.size,(hb.cell (p:=⟨b,_,none⟩) h1).trans h2,h3,h4,(Rd.below h5 hb (Nat.le_refl _)).mono hb.size,h6⟩
theorem Trel.Reads.on (h:T.Reads w A B) (hb:Below w.heap.size w w'):T.Reads w' A B:=⟨h.1.on hb,h.2.1,h.2.2.1.on hb,h.2.2.2⟩
theorem Trel.Reads.width (h:T.Reads w A B) {i:Nat} (hi:i<T.nw):∃ b off,A=some ⟨b,off,none⟩/\b<w.heap.size/\w.cell? ⟨b,off+i,none⟩=some (.int .i64 (T.W i))/\InI64 (T.W i):=by
 obtain ⟨b,off,e,h1,h2⟩:=h.1.at hi
 exact ⟨b,off,e,h1,h2,h.2.1 i hi⟩
theorem Trel.Reads.sec (h:T.Reads w A B) {i:Nat} (hi:i<T.n):∃ b off E c,B=some ⟨b,off,none⟩/\b<w.heap.size/\w.cell? ⟨b,off+i,none⟩=some (.slice E (T.el i) c)/\T.el i<=c/\c<=maxLen/\Rd w w.heap.size E (T.el i) 3 (T.edge i) /\
  ∀ j,j<T.el i->InI64 (T.fr i j)/\InI64 (T.lb i j)/\InI64 (T.to i j):=h.2.2.1 i hi
theorem zaS {E:Option Addr} {i j m:Nat} (h:Rd w w.heap.size E m 3 (T.edge i)) (hj:j<m) :
  ∃ b off,E=some ⟨b,off,none⟩/\b<w.heap.size/\w.cell? ⟨b,off+j*3,none⟩=some (.int .i64 (T.fr i j))/\w.cell? ⟨b,off+j*3+1,none⟩=some (.int .i64 (T.lb i j))/\w.cell? ⟨b,off+j*3+2,none⟩=some (.int .i64 (T.to i j)):=Rd.at3 h hj
end
section
variable {H:Type} {enc:TypeId × Value->H} {w:World} {base:Nat} {spare:Nat->Bool} {held:Bool} {cs:List Value}
theorem zhL (h:Sees enc Tryz.prog w base spare held 148 cs):∃ a b c:Int,cs=[.int .i64 a,.int .i64 b,.int .i64 c]/\InI64 a/\InI64 b/\InI64 c:=by
 obtain ⟨hl,_⟩:=zbA Tryz.underlying148 h
 match cs,hl.trans (show Tryz.prog.cellsOf 148 = 3 by kernel_rfl) with
 | [c0,c1,c2],_ =>
  have hc:Tryz.prog.cellsOf 3 = 1:=by kernel_rfl
  have g0:=zbR Tryz.underlying148 h 0 3 0 1 ⟨_,rfl,rfl,rfl⟩ hc
  have g1:=zbR Tryz.underlying148 h 1 3 1 1 ⟨_,rfl,rfl,rfl⟩ hc
  have g2:=zbR Tryz.underlying148 h 2 3 2 1 ⟨_,rfl,rfl,rfl⟩ hc
  obtain ⟨a,ha,wa⟩:=zbt Tryz.underlying3 g0
  obtain ⟨b,hb,wb⟩:=zbt Tryz.underlying3 g1
  obtain ⟨c,hc,wc⟩:=zbt Tryz.underlying3 g2
  simp at ha hb hc
  subst ha hb hc
  exact ⟨a,b,c,rfl,zfv wa,zfv wb,zfv wc⟩
theorem zgW (h:SeesW enc Tryz.prog w base spare held 149 cs):∃ (A:Option Addr) (n c:Nat) (x y z:Nat->Int),cs=[.slice A n c]/\n<=c/\c<=maxLen/\n<=140737488351232 /\
  Rd w w.heap.size A n 3 (fun j k=>if k=0 then .int .i64 (x j) else if k=1 then .int .i64 (y j) else .int .i64 (z j))/\∀ j,j<n->InI64 (x j)/\InI64 (y j)/\InI64 (z j):=by
 obtain ⟨A,n,c,f,hcs,h1,h2,hn,hr,hf⟩:=zcm (B:=24) Tryz.underlying149 (show Tryz.prog.cellsOf 148 = 3 by kernel_rfl) (by omega) (by kernel_rfl) h
 have key:∀ i,i<n->∃ a b c:Int,(f i 0=.int .i64 a/\f i 1=.int .i64 b/\f i 2=.int .i64 c)/\InI64 a/\InI64 b/\InI64 c:=by
  intro i hi
  obtain ⟨a,b,c,e,wa,wb,wc⟩:=zhL (hf i hi).sees
  have e':[f i 0,f i 1,f i 2]=[.int .i64 a,.int .i64 b,.int .i64 c]:=e
  simp only [List.cons.injEq,and_true] at e'
  exact ⟨a,b,c,e',wa,wb,wc⟩
 refine ⟨A,n,c,fun i=>intOf (f i 0),fun i=>intOf (f i 1),fun i=>intOf (f i 2),hcs,h1,h2,by omega,fun i hi=>?_,fun i hi=>?_⟩
 ·obtain ⟨a,b,c,⟨ea,eb,ec⟩,_⟩:=key i hi
  obtain ⟨bl,off,hA,hb,hc⟩:=hr i hi
  refine ⟨bl,off,hA,hb,fun j hj=>?_⟩
  rw [hc j hj]
  match j,hj with
  | 0,_=>show some (f i 0)=some (Value.int .i64 (intOf (f i 0))); rw [ea]; rfl
  | 1,_=>show some (f i 1)=some (Value.int .i64 (intOf (f i 1))); rw [eb]; rfl
  | 2,_=>show some (f i 2)=some (Value.int .i64 (intOf (f i 2))); rw [ec]; rfl
 ·obtain ⟨a,b,c,⟨ea,eb,ec⟩,wa,wb,wc⟩:=key i hi
  show InI64 (intOf (f i 0))/\InI64 (intOf (f i 1))/\InI64 (intOf (f i 2))
  rw [ea,eb,ec]
  exact ⟨wa,wb,wc⟩
theorem zhM (h:SeesW enc Tryz.prog w base spare held 74 cs):∃ (T:Trel) (A B:Option Addr) (c d:Nat),cs=[.slice A T.nw c,.slice B T.n d]/\T.Reads w A B/\T.nw<=c/\T.n<=d/\c<=maxLen/\d<=maxLen:=by
 obtain ⟨hl,_⟩:=zbA Tryz.underlying74 h.sees
 match cs,hl.trans (show Tryz.prog.cellsOf 74 = 2 by kernel_rfl) with
 | [c0, c1], _ =>
  have g0:=zgV Tryz.underlying74 h 0 22 0 1 ⟨_,rfl,rfl,rfl⟩ (by kernel_rfl)
  have g1:=zgV Tryz.underlying74 h 1 72 1 1 ⟨_,rfl,rfl,rfl⟩ (by kernel_rfl)
  obtain ⟨A,m,c,g,e0,h1,h2,hx,hw⟩:=zdh Tryz.underlying22 Tryz.underlying3 (by kernel_rfl) g0.sees
  obtain ⟨_,m2,_,_,e2,_,_,hm8,_⟩:=zcm (B:=8) Tryz.underlying22 (show Tryz.prog.cellsOf 3 = 1 by kernel_rfl) (by omega) (by kernel_rfl) g0
  obtain ⟨B,n,d,f,e1,h3,h4,hn24,hr,hf⟩:=zcm (B:=24) Tryz.underlying72 (show Tryz.prog.cellsOf 149 = 1 by kernel_rfl) (by omega) (by kernel_rfl) g1
  simp at e0 e1 e2
  subst e0 e1
  obtain ⟨_,rfl,_⟩:_/\m=m2/\_:=by simpa using e2
  have key:∀ i,∃ t:Option Addr × Nat × Nat × (Nat->Int) × (Nat->Int) × (Nat->Int),i<n->f i 0=.slice t.1 t.2.1 t.2.2.1/\t.2.1<=t.2.2.1/\t.2.2.1<=maxLen/\t.2.1<=140737488351232 /\
    Rd w w.heap.size t.1 t.2.1 3 (fun j k=>if k=0 then .int .i64 (t.2.2.2.1 j) else if k=1 then .int .i64 (t.2.2.2.2.1 j) else .int .i64 (t.2.2.2.2.2 j))/\∀ j,j<t.2.1->InI64 (t.2.2.2.1 j)/\InI64 (t.2.2.2.2.1 j)/\InI64 (t.2.2.2.2.2 j):=by
   intro i
   by_cases hi:i<n
   ·obtain ⟨E,m',c',x,y,z,e,k1,k2,k5,k3,k4⟩:=zgW (hf i hi)
    have e':[f i 0]=[.slice E m' c']:=e
    simp only [List.cons.injEq,and_true] at e'
    exact ⟨(E,m',c',x,y,z),fun _=>⟨e',k1,k2,k5,k3,k4⟩⟩
   ·exact ⟨(none,0,0,fun _=>0,fun _=>0,fun _=>0),fun h=>absurd h hi⟩
  obtain ⟨t,key⟩:=Classical.axiomOfChoice key
  refine ⟨⟨m,g,n,fun i=>(t i).2.1,fun i=>(t i).2.2.2.1,fun i=>(t i).2.2.2.2.1,fun i=>(t i).2.2.2.2.2⟩,A,B,c,d,rfl,⟨hx,fun i hi=>zfv (hw i hi),fun i hi=>?_,(by show m<=_; omega),(by show n<=_; omega),fun i hi=>(key i hi).2.2.2.1⟩,h1,h3,h2,h4⟩
  obtain ⟨k0,k1,k2,_,k3,k4⟩:=key i hi
  obtain ⟨b,off,e,hb,hc⟩:=hr i hi
  have hc0:=hc 0 (by omega)
  rw [k0] at hc0
  exact ⟨b,off,_,_,e,hb,by simpa using hc0,k1,k2,k3,k4⟩
end
def Trel.sumW (T:Trel):Nat->Int
 | 0=>0
 | k+1=>T.sumW k+T.W k
def Trel.sumE (T:Trel):Nat->Nat
 | 0=>0
 | k+1=>T.sumE k+T.el k
def Trel.inside (T:Trel) (i j:Nat):Prop:=0<=T.fr i j/\T.fr i j<T.W i/\0<=T.to i j/\T.to i j<T.W (i+1)
instance (T:Trel) (i j:Nat):Decidable (T.inside i j):=by unfold Trel.inside; exact inferInstance
def Trel.shapeE (T:Trel):Int :=
 if 64<T.n∨T.nw≠T.n+1 then 3
 else if ¬ ∀ i,i<T.nw->1<=T.W i then 6
 else if 65536<T.sumW T.nw then 8
 else if 262144<T.sumE T.n then 8
 else if ¬ ∀ i,i<T.n->∀ j,j<T.el i->T.inside i j then 6
 else 0
structure Trel.Shape (T:Trel):Prop where
 n64:T.n<=64
 nw:T.nw=T.n+1
 w1:∀ i,i<=T.n->1<=T.W i
 sW:T.sumW (T.n+1)<=65536
 sE:T.sumE T.n<=262144
 ins:∀ i,i<T.n->∀ j,j<T.el i->T.inside i j
theorem Trel.shape_of {T:Trel} (h:T.shapeE=0):T.Shape:=by
 unfold Trel.shapeE at h
 by_cases h1:64<T.n∨T.nw≠T.n+1
 ·rw [if_pos h1] at h; omega
 rw [if_neg h1] at h
 by_cases h2:∀ i,i<T.nw->1<=T.W i
 ·rw [if_neg (by simpa using h2)] at h
  by_cases h3:65536<T.sumW T.nw
  ·rw [if_pos h3] at h; omega
  rw [if_neg h3] at h
  by_cases h4:262144<T.sumE T.n
  ·rw [if_pos h4] at h; omega
  rw [if_neg h4] at h
  by_cases h5:∀ i,i<T.n->∀ j,j<T.el i->T.inside i j
  ·have hnw:T.nw=T.n+1:=by omega
   exact ⟨by omega,hnw,fun i hi=>h2 i (by omega),by rw [<-hnw]; omega,by omega,h5⟩
  ·rw [if_pos h5] at h; omega
 ·rw [if_pos h2] at h; omega
theorem Trel.sumW_mono {T:Trel} {m:Nat} (h:∀ i,i<m->1<=T.W i):∀ k d,k+d<=m->T.sumW k+d<=T.sumW (k+d):=by
 intro k d
 induction d with
 | zero=>intro _; simp
 | succ d ih =>
  intro hk
  have h1:=ih (by omega)
  have h2:=h (k+d) (by omega)
  show T.sumW k+((d+1:Nat):Int)<=T.sumW (k+d)+T.W (k+d)
  omega
theorem Trel.sumE_mono {T:Trel}:∀ k d,T.sumE k<=T.sumE (k+d):=by
 intro k d
 induction d with
 | zero=>exact Nat.le_refl _
 | succ d ih=>exact Nat.le_trans ih (Nat.le_add_right _ _)
theorem Trel.Shape.wid {T:Trel} (h:T.Shape) {i:Nat} (hi:i<=T.n):1<=T.W i/\T.W i<=65536:=by
 have h1:=h.w1 i hi
 have h2:=Trel.sumW_mono (m:=T.n+1) (fun i hi=>h.w1 i (by omega)) 0 i (by omega)
 have h3:=Trel.sumW_mono (m:=T.n+1) (fun i hi=>h.w1 i (by omega)) (i+1) (T.n - i) (by omega)
 rw [show i+1+(T.n - i)=T.n+1 by omega] at h3
 have h4:=h.sW
 have h5:T.sumW (i+1)=T.sumW i+T.W i:=rfl
 simp [Trel.sumW] at h2
 omega
theorem Trel.Shape.elb {T:Trel} (h:T.Shape) {i:Nat} (hi:i<T.n):T.el i<=262144:=by
 have h3:=Trel.sumE_mono (T:=T) (i+1) (T.n - (i+1))
 rw [show i+1+(T.n - (i+1))=T.n by omega] at h3
 have h4:=h.sE
 have h5:T.sumE (i+1)=T.sumE i+T.el i:=rfl
 omega
theorem tbox {w wr:World} {cs:Array Value} {X:TypeId} (h:Below (w.heap.size+1) (w.alloc (.cells cs X)) wr) {i:Nat} {v:Value} (hi:cs[i]?=some v):wr.cell? ⟨w.heap.size,i,none⟩=some v:=by
 rw [h.cell (by simp),World.cell?_alloc_at _ _ _ _ rfl]
 exact hi
theorem zay {w wr:World} {o:Obj} (h:Below (w.heap.size+1) (w.alloc o) wr):Below w.heap.size w wr:=((Below.refl _ _).alloc (Nat.le_refl _) _).trans (h.mono (by omega))
theorem zaV {w wr:World} {o:Obj} (h:Below (w.heap.size+1) (w.alloc o) wr):w.heap.size<wr.heap.size:=by have:=h.size; simp at this; omega
theorem zaI {w wr w':World} {o:Obj} (h:Below (w.heap.size+1) (w.alloc o) wr) (hb:Below wr.heap.size wr w'):Below (w.heap.size+1) (w.alloc o) w':=h.trans (hb.mono (zaV h))
section
variable (T:Trel)
theorem Trel.shapeE_w (hs:¬ (64<T.n∨T.nw≠T.n+1)) {k:Nat} (hk:k<T.nw) (h:T.W k<1):T.shapeE=6:=by
 unfold Trel.shapeE
 rw [if_neg hs,if_pos fun h1=>by have:=h1 k hk; omega]
variable (hs:¬ (64<T.n∨T.nw≠T.n+1)) (h1:∀ i,i<T.nw->1<=T.W i)
include hs h1
theorem Trel.shapeE_big {k:Nat} (hk:k<=T.nw) (h:65536<T.sumW k):T.shapeE=8:=by
 have h2:=Trel.sumW_mono h1 k (T.nw - k) (by omega)
 rw [show k+(T.nw - k)=T.nw by omega] at h2
 unfold Trel.shapeE
 rw [if_neg hs,if_neg (by simpa using h1),if_pos (by omega)]
variable (h2:T.sumW T.nw<=65536)
include h2
theorem Trel.shapeE_bigE {k:Nat} (hk:k<=T.n) (h:262144<T.sumE k):T.shapeE=8:=by
 have h3:=Trel.sumE_mono (T:=T) k (T.n - k)
 rw [show k+(T.n - k)=T.n by omega] at h3
 unfold Trel.shapeE
 rw [if_neg hs,if_neg (by simpa using h1),if_neg (by omega),if_pos (by omega)]
variable (h3:T.sumE T.n<=262144)
include h3
theorem Trel.shapeE_in {i j:Nat} (hi:i<T.n) (hj:j<T.el i) (h:¬ T.inside i j):T.shapeE=6:=by
 unfold Trel.shapeE
 rw [if_neg hs,if_neg (by simpa using h1),if_neg (by omega),if_neg (by omega),if_pos fun h4=>h (h4 i hi j hj)]
theorem Trel.shapeE_ok (h:∀ i,i<T.n->∀ j,j<T.el i->T.inside i j):T.shapeE=0:=by
 unfold Trel.shapeE
 rw [if_neg hs,if_neg (by simpa using h1),if_neg (by omega),if_neg (by omega),if_neg fun h4=>h4 h]
end
theorem zeU (T:Trel) (A B:Option Addr) (c d:Nat) (w:World) (h:T.Reads w A B) :
  Calls Tryz.prog 193 #[.agg #[.slice A T.nw c,.slice B T.n d]] w fun e w'=>e=.returned (.int .i64 T.shapeE)/\Below w.heap.size w w':=by
 obtain ⟨RB,hRB⟩:∃ o,o=(Obj.cells #[.slice A T.nw c,.slice B T.n d] 74):=⟨_,rfl⟩
 have hB0:Below (w.heap.size+1) (w.alloc RB) (w.alloc RB):=Below.refl _ _
 have HS:Hid (∀ w',Below (w.heap.size+1) (w.alloc RB) w'->(w'.cell? ⟨w.heap.size,0,none⟩=some (.slice A T.nw c)/\w'.cell? ⟨w.heap.size,1,none⟩=some (.slice B T.n d))/\Below w.heap.size w w'):=fun w' hB=>by
  have hB':=zay hB
  subst hRB
  exact ⟨⟨tbox hB rfl,tbox hB rfl⟩,hB'⟩
 obtain ⟨⟨p0,p1⟩,hW⟩:=HS.out _ hB0
 have hnm:=h.2.2.2
 by_cases hs:64<T.n∨T.nw≠T.n+1
 ·have hE:Hid (T.shapeE=3):=by show _=_; unfold Trel.shapeE; rw [if_pos hs]
  go_enter Tryz.func193, Tryz.ntmps193
  by_cases h64:64<T.n
  ·have h64':(T.n:Int) > 64:=by omega
   clear hs
   go_wp2_with fail
   rw [<-hRB]
   go_wp2
   go_ret
   exact ⟨zah hE.out.symm,hW⟩
  ·have h64':¬ (T.n:Int) > 64:=by omega
   have hne:((T.nw:Int) != (T.n:Int)+1)=true:=by simp; omega
   clear hs
   go_wp2_with fail
   rw [<-hRB]
   go_wp2
   go_ret
   exact ⟨zah hE.out.symm,hW⟩
 ·have h64:T.n<=64:=by omega
  have hnw:T.nw=T.n+1:=by omega
  have HS3:=hid hs
  have HNW:=hid hnw
  have h64':¬ (T.n:Int) > 64:=by omega
  have hne:((T.nw:Int) != (T.n:Int)+1)=false:=by simp; omega
  have hne2:((T.nw:Int) == (T.n:Int)+1)=true:=by simp; omega
  clear hs hnw
  go_enter Tryz.func193, Tryz.ntmps193
  go_wp2_with fail
  rw [<-hRB]
  have HR:=hid h
  clear h hRB
  go_wp2
  go_loopg [4] T.nw (fun gg iv wx=>∃ k:Nat,iv=.int .i64 (k:Nat)/\k<=T.nw/\T.nw<=k+gg/\(∀ i,i<k->1<=T.W i)/\Below (w.heap.size+1) (w.alloc RB) wx)
  case atStart=>exact ⟨0,rfl,by omega,by omega,fun i hi=>absurd hi (by omega),hB0⟩
  case round =>
   obtain ⟨k,rfl,hk,hkg,hall,hB⟩:=hrel
   have hk0:(0:Int)<=(k:Int):=by omega
   have HB:=hid hB
   have hwz:=zaV hB
   clear hW p0 p1 hB
   obtain ⟨⟨p0,p1⟩,hW⟩:=HS.out _ HB.out
   have HALL:=hid hall
   clear hall
   by_cases hlt:k<T.nw
   ·have hlt':(k:Int)<(T.nw:Int):=by omega
    obtain ⟨b,o,rfl,hb,x0,hx1,hx2⟩:=(HR.out.on hW).width hlt
    by_cases h1:T.W k<1
    ·have hE:=hid (T.shapeE_w HS3.out hlt h1)
     go_wp2
     go_ret
     exact ⟨zah hE.out.symm,hW⟩
    ·have HA:Hid (∀ i,i<k+1->1<=T.W i):=fun i hi=>by
      by_cases e:i=k
      ·subst e; omega
      ·exact HALL.out i (by omega)
     go_wp2
     go_roundg (gk - 1)
     case measure=>omega
     case rel=>exact ⟨k+1,by go_num,by omega,by omega,HA.out,HB.out⟩
   ·have hlt':¬ (k:Int)<(T.nw:Int):=by omega
    have HA:Hid (∀ i,i<T.nw->1<=T.W i):=fun i hi=>HALL.out i (by omega)
    have hken:(k:Int)=(T.nw:Int):=by omega
    go_wp2
    go_loopg [3,5] T.nw (fun gg sv iv wx=>∃ k:Nat,iv=.int .i64 (k:Nat)/\k<=T.nw/\T.nw<=k+gg/\sv=.int .i64 (T.sumW k)/\T.sumW k<=65536/\Below (w.heap.size+1) (w.alloc RB) wx)
    case atStart=>exact ⟨0,rfl,by omega,by omega,rfl,by simp [Trel.sumW],HB.out⟩
    case round =>
     clear hW p0 p1 hlt hlt' hken hwz HB HALL hk hk0 hkg
     obtain ⟨k2,rfl,hk,hkg,rfl,hs1,hB⟩:=hrel
     have hk0:(0:Int)<=(k2:Int):=by omega
     have HB:=hid hB
     have hwz:=zaV hB
     clear hB
     obtain ⟨⟨p0,p1⟩,hW⟩:=HS.out _ HB.out
     have hs0:=Trel.sumW_mono (m:=T.nw) HA.out 0 k2 (by omega)
     simp only [Trel.sumW,Nat.zero_add] at hs0
     have hnx:Hid (T.sumW (k2+1)=T.sumW k2+T.W k2):=rfl
     obtain ⟨sm,hsm⟩:∃ s,s=T.sumW k2:=⟨_,rfl⟩
     rw [<-hsm] at hs0 hs1 hnx;rw [<-hsm];clear hsm
     by_cases hlt:k2<T.nw
     ·have hlt':(k2:Int)<(T.nw:Int):=by omega
      obtain ⟨b,o,rfl,hb,x0,hx1,hx2⟩:=(HR.out.on hW).width hlt
      by_cases h1:T.W k2 > 65536 - sm
      ·have hE:=hid (T.shapeE_big HS3.out HA.out (k:=k2+1) (by omega) (by rw [hnx.out]; omega))
       go_wp2
       go_ret
       exact ⟨zah hE.out.symm,hW⟩
      ·go_wp2
       go_roundg (gk - 1)
       case measure=>omega
       case rel=>exact ⟨k2+1,by go_num,by omega,by omega,by rw [hnx.out],by rw [hnx.out]; omega,HB.out⟩
     ·have hlt':¬ (k2:Int)<(T.nw:Int):=by omega
      have hken:k2=T.nw:=by omega
      have HSW:Hid (T.sumW T.nw<=65536):=by
       show _<=_
       rw [<-hken]
       have:=hnx.out
       have e:T.sumW (k2+1)=T.sumW k2+T.W k2:=rfl
       omega
      clear hken
      go_wp2
      go_loopg [6,7] T.n (fun gg sv iv wx=>∃ k:Nat,iv=.int .i64 (k:Nat)/\k<=T.n/\T.n<=k+gg/\sv=.int .i64 (T.sumE k:Nat)/\T.sumE k<=262144/\Below (w.heap.size+1) (w.alloc RB) wx)
      case atStart=>exact ⟨0,rfl,by omega,by omega,rfl,by simp [Trel.sumE],HB.out⟩
      case round =>
       clear hW p0 p1 hlt hlt' hwz HB hk hk0 hkg hs0 hs1 hnx
       obtain ⟨k3,rfl,hk,hkg,rfl,hs1,hB⟩:=hrel
       have hk0:(0:Int)<=(k3:Int):=by omega
       have HB:=hid hB
       have hwz:=zaV hB
       clear hB
       obtain ⟨⟨p0,p1⟩,hW⟩:=HS.out _ HB.out
       have hnx:Hid (T.sumE (k3+1)=T.sumE k3+T.el k3):=rfl
       obtain ⟨sm,hsm⟩:∃ s,s=T.sumE k3:=⟨_,rfl⟩
       have HSM:=hid hsm
       rw [<-hsm] at hs1 hnx;rw [<-hsm];clear hsm
       by_cases hlt:k3<T.n
       ·have hlt':(k3:Int)<(T.n:Int):=by omega
        obtain ⟨b,o,E,ec,rfl,hb,x0,he1,he2,he3,he4⟩:=(HR.out.on hW).sec hlt
        unfold maxLen at he2
        have hel47:=HR.out.2.2.2.2.2 k3 hlt
        obtain ⟨el,hel⟩:∃ l,l=T.el k3:=⟨_,rfl⟩
        rw [<-hel] at x0 he1 hnx hel47;clear he3 he4 hel
        by_cases h1:sm+el > 262144
        ·have hE:=hid (T.shapeE_bigE HS3.out HA.out HSW.out (k:=k3+1) (by omega) (by rw [hnx.out]; omega))
         have h1':(el:Int) > 262144 - (sm:Int):=by omega
         go_wp2
         go_ret
         exact ⟨zah hE.out.symm,hW⟩
        ·have h1':¬ (el:Int) > 262144 - (sm:Int):=by omega
         go_wp2
         go_roundg (gk - 1)
         case measure=>omega
         case rel=>exact ⟨k3+1,by go_num,by omega,by omega,by rw [hnx.out]; go_num,by rw [hnx.out]; omega,HB.out⟩
       ·have hlt':¬ (k3:Int)<(T.n:Int):=by omega
        have hken:k3=T.n:=by omega
        have HSE:Hid (T.sumE T.n<=262144):=by
         show _<=_
         rw [<-hken,<-HSM.out]
         exact hs1
        clear hken
        go_wp2
        go_loopg [8] T.n (fun gg iv wx=>∃ k:Nat,iv=.int .i64 (k:Nat)/\k<=T.n/\T.n<=k+gg/\(∀ i,i<k->∀ j,j<T.el i->T.inside i j)/\Below (w.heap.size+1) (w.alloc RB) wx)
        case atStart=>exact ⟨0,rfl,by omega,by omega,fun i hi=>absurd hi (by omega),HB.out⟩
        case round =>
         clear hW p0 p1 hlt hlt' hwz HB hk hk0 hkg hs1 hnx HSM
         obtain ⟨gK,hgK⟩:∃ g,g=gk:=⟨_,rfl⟩
         subst hgK
         obtain ⟨k4,rfl,hk,hkg,hall,hB⟩:=hrel
         have hk0:(0:Int)<=(k4:Int):=by omega
         have HB:=hid hB
         have hwz:=zaV hB
         clear hB
         obtain ⟨⟨p0,p1⟩,hW⟩:=HS.out _ HB.out
         have HALL:=hid hall
         clear hall
         by_cases hlt:k4<T.n
         ·have hlt':(k4:Int)<(T.n:Int):=by omega
          obtain ⟨b,o,E,ec,rfl,hb,x0,he1,he2,he3,he4⟩:=(HR.out.on hW).sec hlt
          unfold maxLen at he2
          have HX0:=hid x0
          go_wp2
          go_loopg [9] (T.el k4) (fun gg jv wx=>∃ j:Nat,jv=.int .i64 (j:Nat)/\j<=T.el k4/\T.el k4<=j+gg/\(∀ i,i<j->T.inside k4 i)/\Below (w.heap.size+1) (w.alloc RB) wx/\Below wr.heap.size wr wx)
          case atStart=>exact ⟨0,rfl,by omega,by omega,fun i hi=>absurd hi (by omega),HB.out,Below.refl _ _⟩
          case round =>
           clear hW p0 p1 hwz x0
           obtain ⟨j,rfl,hj,hjg,hall,hB,hBr⟩:=hrel
           have hj0:(0:Int)<=(j:Int):=by omega
           have x0:=cellS hBr HX0.out
           have HBr:=hid hBr
           have HB2:=hid hB
           have hwz:=zaV hB
           clear hB hBr
           obtain ⟨⟨p0,p1⟩,hW⟩:=HS.out _ HB2.out
           have HALL2:=hid hall
           clear hall
           by_cases hltj:j<T.el k4
           ·have hltj':(j:Int)<(T.el k4:Int):=by omega
            obtain ⟨eb,eo,rfl,heb,e0,e1,e2⟩:=zaS ((Rd.below he3 HBr.out (Nat.le_refl _)).mono HBr.out.size) hltj
            obtain ⟨wb,wo,hA,hwb,y0,hy1,hy2⟩:=(HR.out.on hW).width (i:=k4) (by have:=HNW.out; omega)
            obtain ⟨_,_,hA2,_,y1,hy3,hy4⟩:=(HR.out.on hW).width (i:=k4+1) (by have:=HNW.out; omega)
            rw [hA] at hA2
            injection hA2 with hA2; injection hA2 with hA2 hA3; subst hA2 hA3
            subst hA
            have hk1:k4+1<T.nw:=by have:=HNW.out; omega
            have hk1':(k4:Int)+1<(T.nw:Int):=by omega
            have hk2':(k4:Int)<(T.nw:Int):=by omega
            obtain ⟨⟨i1,i2⟩,_,⟨i3,i4⟩⟩:=he4 j hltj
            have HIN:Hid (T.inside k4 j↔0<=T.fr k4 j/\T.fr k4 j<T.W k4/\0<=T.to k4 j/\T.to k4 j<T.W (k4+1)):=Iff.rfl
            have HBAD:Hid (¬ T.inside k4 j->T.shapeE=6):=fun hb=>T.shapeE_in HS3.out HA.out HSW.out HSE.out hlt hltj hb
            obtain ⟨fr,hfr⟩:∃ x,x=T.fr k4 j:=⟨_,rfl⟩
            obtain ⟨tq,hto⟩:∃ x,x=T.to k4 j:=⟨_,rfl⟩
            obtain ⟨lb,hlb⟩:∃ x,x=T.lb k4 j:=⟨_,rfl⟩
            obtain ⟨u,hu⟩:∃ x,x=T.W k4:=⟨_,rfl⟩
            obtain ⟨v,hv⟩:∃ x,x=T.W (k4+1):=⟨_,rfl⟩
            rw [<-hfr] at e0 HIN i1 i2;rw [<-hlb] at e1;rw [<-hto] at e2 HIN i3 i4;rw [<-hu] at y0 HIN hy1 hy2;rw [<-hv] at y1 HIN hy3 hy4;clear hfr hto hlb hu hv he3 he4
            by_cases h1:fr<0
            ·clear HALL2
             have b1:decide (fr<0)=true:=by simp; omega
             go_wp2
             go_quiet (fail)
             go_wp2
             go_ret
             exact ⟨zah (HBAD.out fun hi=>by have:=HIN.out.1 hi; omega).symm,zac (hW.alloc (by omega) _) _⟩
            have b1:decide (fr<0)=false:=by simp; omega
            by_cases h2:fr ≥ u
            ·clear HALL2
             have b2:decide (fr ≥ u)=true:=by simp; omega
             have b3:decide (u<=fr)=true:=by simp; omega
             go_wp2
             go_quiet (fail)
             go_wp2
             go_ret
             exact ⟨zah (HBAD.out fun hi=>by have:=HIN.out.1 hi; omega).symm,zac (hW.alloc (by omega) _) _⟩
            have b2:decide (fr ≥ u)=false:=by simp; omega
            have b3:decide (u<=fr)=false:=by simp; omega
            by_cases h3:tq<0
            ·clear HALL2
             have b4:decide (tq<0)=true:=by simp; omega
             go_wp2
             go_quiet (fail)
             go_wp2
             go_ret
             exact ⟨zah (HBAD.out fun hi=>by have:=HIN.out.1 hi; omega).symm,zac (hW.alloc (by omega) _) _⟩
            have b4:decide (tq<0)=false:=by simp; omega
            by_cases h4:tq ≥ v
            ·clear HALL2
             have b5:decide (tq ≥ v)=true:=by simp; omega
             have b6:decide (v<=tq)=true:=by simp; omega
             go_wp2
             go_quiet (fail)
             go_wp2
             go_ret
             exact ⟨zah (HBAD.out fun hi=>by have:=HIN.out.1 hi; omega).symm,zac (hW.alloc (by omega) _) _⟩
            have b5:decide (tq ≥ v)=false:=by simp; omega
            have b6:decide (v<=tq)=false:=by simp; omega
            have HN:Hid (∀ i,i<j+1->T.inside k4 i):=fun i hi=>by
             by_cases e:i=j
             ·subst e; exact HIN.out.2 (by omega)
             ·exact HALL2.out i (by omega)
            go_wp2
            go_quiet (fail)
            go_wp2
            go_roundg (gk - 1)
            case measure=>omega
            case rel=>exact ⟨j+1,by go_num,by omega,by omega,HN.out,zac (HB2.out.alloc (by omega) _) _,zac (HBr.out.alloc HBr.out.size _) _⟩
           ·have hltj':¬ (j:Int)<(T.el k4:Int):=by omega
            have HN:Hid (∀ i,i<k4+1->∀ j,j<T.el i->T.inside i j):=fun i hi=>by
             by_cases e:i=k4
             ·subst e; exact fun q hq=>HALL2.out q (by omega)
             ·exact HALL.out i (by omega)
            clear he3 he4
            go_wp2
            go_roundg (gK - 1)
            case measure=>omega
            case rel=>exact ⟨k4+1,by go_num,by omega,by omega,HN.out,HB2.out⟩
         ·have hlt':¬ (k4:Int)<(T.n:Int):=by omega
          have hE:=hid (T.shapeE_ok HS3.out HA.out HSW.out HSE.out fun i hi=>HALL.out i (by omega))
          go_wp2
          go_ret
          exact ⟨zah hE.out.symm,hW⟩
theorem zcV (T:Trel) (A B:Option Addr) (c d:Nat) (w:World) (h:T.Reads w A B) :
  Calls Tryz.prog 186 #[.agg #[.slice A T.nw c,.slice B T.n d]] w fun e w'=>e=.returned (.int .i64 T.shapeE)/\Below w.heap.size w w':=by
 obtain ⟨RB,hRB⟩:∃ o,o=(Obj.cells #[.slice A T.nw c,.slice B T.n d] 74):=⟨_,rfl⟩
 have hB0:Below (w.heap.size+1) (w.alloc RB) (w.alloc RB):=Below.refl _ _
 have HS:Hid (∀ w',Below (w.heap.size+1) (w.alloc RB) w'->(w'.cell? ⟨w.heap.size,0,none⟩=some (.slice A T.nw c)/\w'.cell? ⟨w.heap.size,1,none⟩=some (.slice B T.n d))/\Below w.heap.size w w'):=fun w' hB=>by
  have hB':=zay hB
  subst hRB
  exact ⟨⟨tbox hB rfl,tbox hB rfl⟩,hB'⟩
 obtain ⟨⟨p0,p1⟩,hW⟩:=HS.out _ hB0
 have hnm:=h.2.2.2
 by_cases hs:64<T.n∨T.nw≠T.n+1
 ·have hE:Hid (T.shapeE=3):=by show _=_; unfold Trel.shapeE; rw [if_pos hs]
  go_enter Tryz.func186, Tryz.ntmps186
  by_cases h64:64<T.n
  ·have h64':(T.n:Int) > 64:=by omega
   clear hs
   go_wp2_with fail
   rw [<-hRB]
   go_wp2
   go_ret
   exact ⟨zah hE.out.symm,hW⟩
  ·have h64':¬ (T.n:Int) > 64:=by omega
   have hne:((T.nw:Int) != (T.n:Int)+1)=true:=by simp; omega
   clear hs
   go_wp2_with fail
   rw [<-hRB]
   go_wp2
   go_ret
   exact ⟨zah hE.out.symm,hW⟩
 ·have h64:T.n<=64:=by omega
  have hnw:T.nw=T.n+1:=by omega
  have HS3:=hid hs
  have HNW:=hid hnw
  have h64':¬ (T.n:Int) > 64:=by omega
  have hne:((T.nw:Int) != (T.n:Int)+1)=false:=by simp; omega
  have hne2:((T.nw:Int) == (T.n:Int)+1)=true:=by simp; omega
  clear hs hnw
  go_enter Tryz.func186, Tryz.ntmps186
  go_wp2_with fail
  rw [<-hRB]
  have HR:=hid h
  clear h hRB
  go_wp2
  go_loopg [4,32] T.nw (fun gg xv iv wx=>∃ k:Nat,iv=.int .i64 (k:Nat)/\k<=T.nw/\T.nw<=k+gg/\(∀ i,i<k->1<=T.W i)/\Below (w.heap.size+1) (w.alloc RB) wx)
  case atStart=>exact ⟨0,rfl,by omega,by omega,fun i hi=>absurd hi (by omega),hB0⟩
  case round =>
   obtain ⟨k,rfl,hk,hkg,hall,hB⟩:=hrel
   have hk0:(0:Int)<=(k:Int):=by omega
   have HB:=hid hB
   have hwz:=zaV hB
   clear hW p0 p1 hB
   obtain ⟨⟨p0,p1⟩,hW⟩:=HS.out _ HB.out
   have HALL:=hid hall
   clear hall
   by_cases hlt:k<T.nw
   ·have hlt':(k:Int)<(T.nw:Int):=by omega
    obtain ⟨b,o,rfl,hb,x0,hx1,hx2⟩:=(HR.out.on hW).width hlt
    by_cases h1:T.W k<1
    ·have hE:=hid (T.shapeE_w HS3.out hlt h1)
     go_wp2
     go_ret
     exact ⟨zah hE.out.symm,hW⟩
    ·have HA:Hid (∀ i,i<k+1->1<=T.W i):=fun i hi=>by
      by_cases e:i=k
      ·subst e; omega
      ·exact HALL.out i (by omega)
     go_wp2
     go_roundg (gk - 1)
     case measure=>omega
     case rel=>exact ⟨k+1,by go_num,by omega,by omega,HA.out,HB.out⟩
   ·have hlt':¬ (k:Int)<(T.nw:Int):=by omega
    have HA:Hid (∀ i,i<T.nw->1<=T.W i):=fun i hi=>HALL.out i (by omega)
    have hken:(k:Int)=(T.nw:Int):=by omega
    go_wp2
    go_loopg [5,8,42] T.nw (fun gg sv xv iv wx=>∃ k:Nat,iv=.int .i64 (k:Nat)/\k<=T.nw/\T.nw<=k+gg/\sv=.int .i64 (T.sumW k)/\T.sumW k<=65536/\Below (w.heap.size+1) (w.alloc RB) wx)
    case atStart=>exact ⟨0,rfl,by omega,by omega,rfl,by simp [Trel.sumW],HB.out⟩
    case round =>
     clear hW p0 p1 hlt hlt' hken hwz HB HALL hk hk0 hkg
     obtain ⟨k2,rfl,hk,hkg,rfl,hs1,hB⟩:=hrel
     have hk0:(0:Int)<=(k2:Int):=by omega
     have HB:=hid hB
     have hwz:=zaV hB
     clear hB
     obtain ⟨⟨p0,p1⟩,hW⟩:=HS.out _ HB.out
     have hs0:=Trel.sumW_mono (m:=T.nw) HA.out 0 k2 (by omega)
     simp only [Trel.sumW,Nat.zero_add] at hs0
     have hnx:Hid (T.sumW (k2+1)=T.sumW k2+T.W k2):=rfl
     obtain ⟨sm,hsm⟩:∃ s,s=T.sumW k2:=⟨_,rfl⟩
     rw [<-hsm] at hs0 hs1 hnx;rw [<-hsm];clear hsm
     by_cases hlt:k2<T.nw
     ·have hlt':(k2:Int)<(T.nw:Int):=by omega
      obtain ⟨b,o,rfl,hb,x0,hx1,hx2⟩:=(HR.out.on hW).width hlt
      by_cases h1:T.W k2 > 65536 - sm
      ·have hE:=hid (T.shapeE_big HS3.out HA.out (k:=k2+1) (by omega) (by rw [hnx.out]; omega))
       go_wp2
       go_ret
       exact ⟨zah hE.out.symm,hW⟩
      ·go_wp2
       go_roundg (gk - 1)
       case measure=>omega
       case rel=>exact ⟨k2+1,by go_num,by omega,by omega,by rw [hnx.out],by rw [hnx.out]; omega,HB.out⟩
     ·have hlt':¬ (k2:Int)<(T.nw:Int):=by omega
      have hken:k2=T.nw:=by omega
      have HSW:Hid (T.sumW T.nw<=65536):=by
       show _<=_
       rw [<-hken]
       have:=hnx.out
       have e:T.sumW (k2+1)=T.sumW k2+T.W k2:=rfl
       omega
      clear hken
      go_wp2
      go_loopg [6,10,57] T.n (fun gg sv xv iv wx=>∃ k:Nat,iv=.int .i64 (k:Nat)/\k<=T.n/\T.n<=k+gg/\sv=.int .i64 (T.sumE k:Nat)/\T.sumE k<=262144/\Below (w.heap.size+1) (w.alloc RB) wx)
      case atStart=>exact ⟨0,rfl,by omega,by omega,rfl,by simp [Trel.sumE],HB.out⟩
      case round =>
       clear hW p0 p1 hlt hlt' hwz HB hk hk0 hkg hs0 hs1 hnx
       obtain ⟨k3,rfl,hk,hkg,rfl,hs1,hB⟩:=hrel
       have hk0:(0:Int)<=(k3:Int):=by omega
       have HB:=hid hB
       have hwz:=zaV hB
       clear hB
       obtain ⟨⟨p0,p1⟩,hW⟩:=HS.out _ HB.out
       have hnx:Hid (T.sumE (k3+1)=T.sumE k3+T.el k3):=rfl
       obtain ⟨sm,hsm⟩:∃ s,s=T.sumE k3:=⟨_,rfl⟩
       have HSM:=hid hsm
       rw [<-hsm] at hs1 hnx;rw [<-hsm];clear hsm
       by_cases hlt:k3<T.n
       ·have hlt':(k3:Int)<(T.n:Int):=by omega
        obtain ⟨b,o,E,ec,rfl,hb,x0,he1,he2,he3,he4⟩:=(HR.out.on hW).sec hlt
        unfold maxLen at he2
        have hel47:=HR.out.2.2.2.2.2 k3 hlt
        obtain ⟨el,hel⟩:∃ l,l=T.el k3:=⟨_,rfl⟩
        rw [<-hel] at x0 he1 hnx hel47;clear he3 he4 hel
        by_cases h1:sm+el > 262144
        ·have hE:=hid (T.shapeE_bigE HS3.out HA.out HSW.out (k:=k3+1) (by omega) (by rw [hnx.out]; omega))
         have h1':(sm:Int)+(el:Int) > 262144:=by omega
         go_wp2
         go_ret
         exact ⟨zah hE.out.symm,hW⟩
        ·have h1':¬ (sm:Int)+(el:Int) > 262144:=by omega
         go_wp2
         go_roundg (gk - 1)
         case measure=>omega
         case rel=>exact ⟨k3+1,by go_num,by omega,by omega,by rw [hnx.out]; go_num,by rw [hnx.out]; omega,HB.out⟩
       ·have hlt':¬ (k3:Int)<(T.n:Int):=by omega
        have hken:k3=T.n:=by omega
        have HSE:Hid (T.sumE T.n<=262144):=by
         show _<=_
         rw [<-hken,<-HSM.out]
         exact hs1
        clear hken
        go_wp2
        go_loopg [11,12,71] T.n (fun gg xv yv iv wx=>∃ k:Nat,iv=.int .i64 (k:Nat)/\k<=T.n/\T.n<=k+gg/\(∀ i,i<k->∀ j,j<T.el i->T.inside i j)/\Below (w.heap.size+1) (w.alloc RB) wx)
        case atStart=>exact ⟨0,rfl,by omega,by omega,fun i hi=>absurd hi (by omega),HB.out⟩
        case round =>
         clear hW p0 p1 hlt hlt' hwz HB hk hk0 hkg hs1 hnx HSM
         obtain ⟨gK,hgK⟩:∃ g,g=gk:=⟨_,rfl⟩
         subst hgK
         obtain ⟨k4,rfl,hk,hkg,hall,hB⟩:=hrel
         have hk0:(0:Int)<=(k4:Int):=by omega
         have HB:=hid hB
         have hwz:=zaV hB
         clear hB
         obtain ⟨⟨p0,p1⟩,hW⟩:=HS.out _ HB.out
         have HALL:=hid hall
         clear hall
         by_cases hlt:k4<T.n
         ·have hlt':(k4:Int)<(T.n:Int):=by omega
          obtain ⟨b,o,E,ec,rfl,hb,x0,he1,he2,he3,he4⟩:=(HR.out.on hW).sec hlt
          unfold maxLen at he2
          have HX0:=hid x0
          go_wp2
          go_loopg [78] (T.el k4) (fun gg jv wx=>∃ j:Nat,jv=.int .i64 (j:Nat)/\j<=T.el k4/\T.el k4<=j+gg/\(∀ i,i<j->T.inside k4 i)/\Below (w.heap.size+1) (w.alloc RB) wx/\Below wr.heap.size wr wx)
          case atStart=>exact ⟨0,rfl,by omega,by omega,fun i hi=>absurd hi (by omega),HB.out,Below.refl _ _⟩
          case round =>
           clear hW p0 p1 hwz x0
           obtain ⟨j,rfl,hj,hjg,hall,hB,hBr⟩:=hrel
           have hj0:(0:Int)<=(j:Int):=by omega
           have x0:=cellS hBr HX0.out
           have HBr:=hid hBr
           have HB2:=hid hB
           have hwz:=zaV hB
           clear hB hBr
           obtain ⟨⟨p0,p1⟩,hW⟩:=HS.out _ HB2.out
           have HALL2:=hid hall
           clear hall
           by_cases hltj:j<T.el k4
           ·have hltj':(j:Int)<(T.el k4:Int):=by omega
            obtain ⟨eb,eo,rfl,heb,e0,e1,e2⟩:=zaS ((Rd.below he3 HBr.out (Nat.le_refl _)).mono HBr.out.size) hltj
            obtain ⟨wb,wo,hA,hwb,y0,hy1,hy2⟩:=(HR.out.on hW).width (i:=k4) (by have:=HNW.out; omega)
            obtain ⟨_,_,hA2,_,y1,hy3,hy4⟩:=(HR.out.on hW).width (i:=k4+1) (by have:=HNW.out; omega)
            rw [hA] at hA2
            injection hA2 with hA2; injection hA2 with hA2 hA3; subst hA2 hA3
            subst hA
            have hk1:k4+1<T.nw:=by have:=HNW.out; omega
            have hk1':(k4:Int)+1<(T.nw:Int):=by omega
            have hk2':(k4:Int)<(T.nw:Int):=by omega
            obtain ⟨⟨i1,i2⟩,_,⟨i3,i4⟩⟩:=he4 j hltj
            have HIN:Hid (T.inside k4 j↔0<=T.fr k4 j/\T.fr k4 j<T.W k4/\0<=T.to k4 j/\T.to k4 j<T.W (k4+1)):=Iff.rfl
            have HBAD:Hid (¬ T.inside k4 j->T.shapeE=6):=fun hb=>T.shapeE_in HS3.out HA.out HSW.out HSE.out hlt hltj hb
            obtain ⟨fr,hfr⟩:∃ x,x=T.fr k4 j:=⟨_,rfl⟩
            obtain ⟨tq,hto⟩:∃ x,x=T.to k4 j:=⟨_,rfl⟩
            obtain ⟨lb,hlb⟩:∃ x,x=T.lb k4 j:=⟨_,rfl⟩
            obtain ⟨u,hu⟩:∃ x,x=T.W k4:=⟨_,rfl⟩
            obtain ⟨v,hv⟩:∃ x,x=T.W (k4+1):=⟨_,rfl⟩
            rw [<-hfr] at e0 HIN i1 i2;rw [<-hlb] at e1;rw [<-hto] at e2 HIN i3 i4;rw [<-hu] at y0 HIN hy1 hy2;rw [<-hv] at y1 HIN hy3 hy4;clear hfr hto hlb hu hv he3 he4
            by_cases h1:fr<0
            ·clear HALL2
             have b1:decide (fr<0)=true:=by simp; omega
             go_wp2
             go_quiet (fail)
             go_wp2
             go_ret
             exact ⟨zah (HBAD.out fun hi=>by have:=HIN.out.1 hi; omega).symm,zac (hW.alloc (by omega) _) _⟩
            have b1:decide (fr<0)=false:=by simp; omega
            by_cases h2:fr ≥ u
            ·clear HALL2
             have b2:decide (fr ≥ u)=true:=by simp; omega
             have b3:decide (u<=fr)=true:=by simp; omega
             go_wp2
             go_quiet (fail)
             go_wp2
             go_ret
             exact ⟨zah (HBAD.out fun hi=>by have:=HIN.out.1 hi; omega).symm,zac (hW.alloc (by omega) _) _⟩
            have b2:decide (fr ≥ u)=false:=by simp; omega
            have b3:decide (u<=fr)=false:=by simp; omega
            by_cases h3:tq<0
            ·clear HALL2
             have b4:decide (tq<0)=true:=by simp; omega
             go_wp2
             go_quiet (fail)
             go_wp2
             go_ret
             exact ⟨zah (HBAD.out fun hi=>by have:=HIN.out.1 hi; omega).symm,zac (hW.alloc (by omega) _) _⟩
            have b4:decide (tq<0)=false:=by simp; omega
            by_cases h4:tq ≥ v
            ·clear HALL2
             have b5:decide (tq ≥ v)=true:=by simp; omega
             have b6:decide (v<=tq)=true:=by simp; omega
             go_wp2
             go_quiet (fail)
             go_wp2
             go_ret
             exact ⟨zah (HBAD.out fun hi=>by have:=HIN.out.1 hi; omega).symm,zac (hW.alloc (by omega) _) _⟩
            have b5:decide (tq ≥ v)=false:=by simp; omega
            have b6:decide (v<=tq)=false:=by simp; omega
            have HN:Hid (∀ i,i<j+1->T.inside k4 i):=fun i hi=>by
             by_cases e:i=j
             ·subst e; exact HIN.out.2 (by omega)
             ·exact HALL2.out i (by omega)
            go_wp2
            go_quiet (fail)
            go_wp2
            go_roundg (gk - 1)
            case measure=>omega
            case rel=>exact ⟨j+1,by go_num,by omega,by omega,HN.out,zac (HB2.out.alloc (by omega) _) _,zac (HBr.out.alloc HBr.out.size _) _⟩
           ·have hltj':¬ (j:Int)<(T.el k4:Int):=by omega
            have HN:Hid (∀ i,i<k4+1->∀ j,j<T.el i->T.inside i j):=fun i hi=>by
             by_cases e:i=k4
             ·subst e; exact fun q hq=>HALL2.out q (by omega)
             ·exact HALL.out i (by omega)
            clear he3 he4
            go_wp2
            go_roundg (gK - 1)
            case measure=>omega
            case rel=>exact ⟨k4+1,by go_num,by omega,by omega,HN.out,HB2.out⟩
         ·have hlt':¬ (k4:Int)<(T.n:Int):=by omega
          have hE:=hid (T.shapeE_ok HS3.out HA.out HSW.out HSE.out fun i hi=>HALL.out i (by omega))
          go_wp2
          go_ret
          exact ⟨zah hE.out.symm,hW⟩
def cmpI (a b:Int):Int:=if a<b then -1 else if b<a then 1 else 0
theorem zij (a b:Int) (w:World):Calls Tryz.prog 233 #[.int .i64 a,.int .i64 b] w fun e w'=>e=.returned (.int .i64 (cmpI a b))/\Below w.heap.size w w':=by
 have hne:(a != a)=false:=by simp
 have hne2:(b != b)=false:=by simp
 by_cases h1:a<b
 ·have hE:Hid (cmpI a b = -1):=if_pos h1
  go_enter Tryz.func233, Tryz.ntmps233
  go_wp2
  go_ret
  exact ⟨zah hE.out.symm,Below.refl _ _⟩
 ·by_cases h2:b<a
  ·have hE:Hid (cmpI a b=1):=by show _=_; unfold cmpI; rw [if_neg h1,if_pos h2]
   have h2':a > b:=h2
   go_enter Tryz.func233, Tryz.ntmps233
   go_wp2
   go_ret
   exact ⟨zah hE.out.symm,Below.refl _ _⟩
  ·have hE:Hid (cmpI a b=0):=by show _=_; unfold cmpI; rw [if_neg h1,if_neg h2]
   have h2':¬ a > b:=h2
   go_enter Tryz.func233, Tryz.ntmps233
   go_wp2
   go_ret
   exact ⟨zah hE.out.symm,Below.refl _ _⟩
def orV (x y:Int):Int:=if x=0 then y else x
theorem zhN (A:Option Addr) (c:Nat) (f:Nat->Int) (w:World) (h:IntsR w w.heap.size A 2 f) :
  Calls Tryz.prog 232 #[.slice A 2 c] w fun e w'=>e=.returned (.int .i64 (orV (f 0) (f 1)))/\Below w.heap.size w w':=by
 obtain ⟨b,o,rfl,hb,x0⟩:=h.at (i:=0) (by omega)
 obtain ⟨_,_,e1,_,x1⟩:=h.at (i:=1) (by omega)
 injection e1 with e1; injection e1 with e1 e2; subst e1 e2
 obtain ⟨x,hx⟩:∃ x,x=f 0:=⟨_,rfl⟩
 obtain ⟨y,hy⟩:∃ x,x=f 1:=⟨_,rfl⟩
 rw [<-hx] at x0 ⊢;rw [<-hy] at x1 ⊢;clear hx hy h
 go_enter Tryz.func232, Tryz.ntmps232
 go_wp2
 go_loopg [5,8] 2 (fun gg ev iv wx=>∃ k:Nat,iv=.int .i64 (k:Nat)/\k<=2/\2<=k+gg/\(1<=k->x=0)/\(2<=k->y=0)/\Below w.heap.size w wx)
 case atStart=>exact ⟨0,rfl,by omega,by omega,fun h=>absurd h (by omega),fun h=>absurd h (by omega),Below.refl _ _⟩
 case round =>
  obtain ⟨k,rfl,hk,hkg,h1,h2,hB⟩:=hrel
  replace x0:=cellS hB x0;replace x1:=cellS hB x1
  have H1:=hid h1
  have H2:=hid h2
  clear h1 h2
  by_cases hk2:k=2
  ·have hlt:¬ (k:Int)<2:=by omega
   have hE:Hid (orV x y=0):=by
    show _=_
    unfold orV
    rw [if_pos (H1.out (by omega)),H2.out (by omega)]
   clear hk2
   go_wp2
   go_ret
   exact ⟨zah hE.out.symm,hB⟩
  ·have hlt:(k:Int)<2:=by omega
   have hk0:(0:Int)<=(k:Int):=by omega
   by_cases hk1:k=0
   ·have xk:wr.cell? ⟨b,o+k,none⟩=some (.int .i64 x):=by rw [hk1]; exact x0
    by_cases hx:x=0
    ·have hxb:(x != 0)=false:=by simp [hx]
     have hxb2:(x == 0)=true:=by simp [hx]
     have HX:=hid hx
     have HK:=hid hk1
     clear hx x0 x1 hk1 hk2
     go_wp2
     go_roundg (gk - 1)
     case measure=>omega
     case rel=>exact ⟨k+1,by go_num,by omega,by omega,fun _=>HX.out,fun h=>absurd h (by have:=HK.out; omega),hB⟩
    ·have hxb:(x != 0)=true:=by simp [hx]
     have hxb2:(x == 0)=false:=by simp [hx]
     have hE:Hid (orV x y=x):=if_neg hx
     clear hx x0 x1 hk1 hk2
     go_wp2
     go_ret
     exact ⟨zah hE.out.symm,hB⟩
   ·have xk:wr.cell? ⟨b,o+k,none⟩=some (.int .i64 y):=by rw [show k=1 by omega]; exact x1
    have hx:x=0:=H1.out (by omega)
    by_cases hy:y=0
    ·have hxb:(y != 0)=false:=by simp [hy]
     have hxb2:(y == 0)=true:=by simp [hy]
     have HX:=hid hx
     have HY:=hid hy
     clear hx hy x0 x1 hk1 hk2
     go_wp2
     go_roundg (gk - 1)
     case measure=>omega
     case rel=>exact ⟨k+1,by go_num,by omega,by omega,fun _=>HX.out,fun _=>HY.out,hB⟩
    ·have hxb:(y != 0)=true:=by simp [hy]
     have hxb2:(y == 0)=false:=by simp [hy]
     have hE:Hid (orV x y=y):=if_pos hx
     clear hx hy x0 x1 hk1 hk2
     go_wp2
     go_ret
     exact ⟨zah hE.out.symm,hB⟩
def lessV (f l f' l':Int):Int:=orV (cmpI f f') (cmpI l l')
theorem zhO {f l f' l':Int}:lessV f l f' l'<0↔f<f'∨f=f'/\l<l':=by
 unfold lessV orV cmpI
 split <;> split <;> (try split) <;> (try split) <;> omega
theorem ziW (f l t f' l' t':Int) (w:World) :
  Calls Tryz.prog 187 #[.agg #[.int .i64 f,.int .i64 l,.int .i64 t],.agg #[.int .i64 f',.int .i64 l',.int .i64 t']] w fun e w'=>e=.returned (.int .i64 (lessV f l f' l'))/\Below w.heap.size w w':=by
 go_enter Tryz.func187, Tryz.ntmps187
 go_upto_region 1 with fail
 obtain ⟨B1,hB1⟩:∃ o,o=(Obj.cells #[.int .i64 f,.int .i64 l,.int .i64 t] 148):=⟨_,rfl⟩
 obtain ⟨B2,hB2⟩:∃ o,o=(Obj.cells #[.int .i64 f',.int .i64 l',.int .i64 t'] 148):=⟨_,rfl⟩
 rw [<-hB1,<-hB2]
 have hb1:Below (w.heap.size+1) (w.alloc B1) ((w.alloc B1).alloc B2):=(Below.refl _ _).alloc (by simp) _
 have hW:=zay hb1
 have p0:((w.alloc B1).alloc B2).cell? ⟨w.heap.size,0,none⟩=some (.int .i64 f):=by subst hB1; exact tbox hb1 rfl
 have p1:((w.alloc B1).alloc B2).cell? ⟨w.heap.size,1,none⟩=some (.int .i64 l):=by subst hB1; exact tbox hb1 rfl
 have p2:((w.alloc B1).alloc B2).cell? ⟨w.heap.size+1,0,none⟩=some (.int .i64 f'):=by subst hB2; simp
 have p3:((w.alloc B1).alloc B2).cell? ⟨w.heap.size+1,1,none⟩=some (.int .i64 l'):=by subst hB2; simp
 obtain ⟨w1,hw1⟩:∃ W,W=(w.alloc B1).alloc B2:=⟨_,rfl⟩
 rw [<-hw1] at hW p0 p1 p2 p3 ⊢;clear hb1 hw1 hB1 hB2
 refine wp_region_held_drew (S:=fun w'=>w'.cell? ⟨w.heap.size,0,none⟩=some (.int .i64 f)/\w'.cell? ⟨w.heap.size,1,none⟩=some (.int .i64 l)/\w'.cell? ⟨w.heap.size+1,0,none⟩=some (.int .i64 f')/\w'.cell? ⟨w.heap.size+1,1,none⟩=some (.int .i64 l')) (by kernel_rfl) ⟨cellS (Below.refl _ _).drew p0,cellS (Below.refl _ _).drew p1,cellS (Below.refl _ _).drew p2,cellS (Below.refl _ _).drew p3⟩ (fun hHeld=>?_)
 obtain ⟨w2,hw⟩:∃ W,W=World.drew w1:=⟨_,rfl⟩
 have kb:Below w1.heap.size w1 w2:=by rw [hw]; exact (Below.refl _ _).drew
 rw [<-hw] at hHeld ⊢;clear hw;replace hW:=onS hW kb;replace p0:=cellS kb p0;replace p1:=cellS kb p1;replace p2:=cellS kb p2;replace p3:=cellS kb p3;clear kb
 refine tkq 0 (h:=tkq 1 (h:=tkq 2 (h:=tkq 3 (h:=tkq 5 (h:=tkq 6 (h:=tkq 7 (h:=tkq 8 (h:=?_))))))))
 refine rdq 4 (h:=fun K hK=>?_)
 go_simp
 go_wp2_with fail
 refine (zij f f' w2).mono ?_
 rintro e w3 ⟨rfl,kb⟩
 replace hW:=onS hW kb;replace p0:=cellS kb p0;replace p1:=cellS kb p1;replace p2:=cellS kb p2;replace p3:=cellS kb p3;clear kb
 refine bkq hK ⟨p0,p1,p2,p3⟩ (h:=fun hHeld=>?_)
 clear hK K
 refine rdq 9 (h:=fun K hK=>?_)
 go_simp
 go_wp2_with fail
 refine (zij l l' w3).mono ?_
 rintro e w4 ⟨rfl,kb⟩
 replace hW:=onS hW kb;replace p0:=cellS kb p0;replace p1:=cellS kb p1;replace p2:=cellS kb p2;replace p3:=cellS kb p3;clear kb
 refine bkq hK ⟨p0,p1,p2,p3⟩ (h:=fun hHeld=>?_)
 clear hK K
 refine rdq 10 (h:=fun K hK=>?_)
 go_simp
 obtain ⟨w5,hw⟩:∃ W,W=World.alloc w4 (Obj.cells #[.int .i64 (cmpI f f'),.int .i64 (cmpI l l')] 3):=⟨_,rfl⟩
 have kb:Below w4.heap.size w4 w5:=by rw [hw]; exact (Below.refl _ _).alloc (Nat.le_refl _) _
 have hi:IntsR w5 w5.heap.size (some ⟨w4.heap.size,0,none⟩) 2 (fun i=>if i=0 then cmpI f f' else cmpI l l'):=by
  rw [hw]
  intro i hi
  refine ⟨_,0,rfl,by simp,fun j hj=>?_⟩
  obtain rfl:j=0:=by omega
  match i,hi with
  | 0,_=>simp
  | 1,_=>simp
 rw [<-hw];clear hw
 obtain ⟨nb,hnb⟩:∃ b,b=w4.heap.size:=⟨_,rfl⟩
 rw [<-hnb] at hi ⊢;clear hnb;replace hW:=onS hW kb;replace p0:=cellS kb p0;replace p1:=cellS kb p1;replace p2:=cellS kb p2;replace p3:=cellS kb p3;clear kb
 refine bkq hK ⟨p0,p1,p2,p3⟩ (h:=fun hHeld=>?_)
 clear hK K
 refine rdq 11 (h:=fun K hK=>?_)
 go_simp
 go_wp2_with fail
 refine ((show Calls _ _ _ _ (fun e w'=>e=.returned (.int .i64 (lessV f l f' l'))/\Below w5.heap.size w5 w') from zhN (some ⟨nb,0,none⟩) 2 _ w5 hi)).mono ?_
 rintro e w6 ⟨rfl,kb⟩
 replace hW:=onS hW kb;replace p0:=cellS kb p0;replace p1:=cellS kb p1;replace p2:=cellS kb p2;replace p3:=cellS kb p3;replace hi:=hi.on kb;clear kb
 refine bkq hK ⟨p0,p1,p2,p3⟩ (h:=fun hHeld=>?_)
 clear hK K
 refine tkq 12 (h:=?_)
 refine wpAnyH_done (by kernel_rfl) ?_ _
 clear hHeld
 go_wp2_with fail
 go_ret
 exact ⟨rfl,hW⟩
theorem zcW (A:Option Addr) (n c:Nat) (f:Nat->Bool) (v:Bool) (w:World) (h:Rd w w.heap.size A n 1 (fun i _=>.bool (f i))) (hn:n<=1048576) :
  Calls Tryz.prog 188 #[.slice A n c,.bool v] w fun e w'=>(∃ r:Bool,e=.returned (.bool r)/\(r=true↔∃ i,i<n/\f i=v))/\Below w.heap.size w w':=by
 have key : Calls Tryz.prog 234 #[.slice A n c, .bool v] w fun e w' => (∃ r : Int, e = .returned (.int .i64 r) ∧ (0 ≤ r ↔ ∃ i, i < n ∧ f i = v)) ∧ Below w.heap.size w w' := by
  go_enter Tryz.func234, Tryz.ntmps234
  go_wp2
  go_loopg [5,8] n (fun gg ev iv wx=>∃ k:Nat,iv=.int .i64 (k:Nat)/\k<=n/\n<=k+gg/\(∀ i,i<k->f i≠v)/\Below w.heap.size w wx)
  case atStart=>exact ⟨0,rfl,by omega,by omega,fun i hi=>absurd hi (by omega),Below.refl _ _⟩
  case round =>
   obtain ⟨k,rfl,hk,hkg,hall,hB⟩:=hrel
   have hk0:(0:Int)<=(k:Int):=by omega
   have HALL:=hid hall
   clear hall
   by_cases hlt:k<n
   ·have hlt':(k:Int)<(n:Int):=by omega
    obtain ⟨b,o,rfl,hb,x0⟩:=Rd.at1 ((Rd.below h hB (Nat.le_refl _)).mono hB.size) hlt
    obtain ⟨y,hy⟩:∃ y,y=f k:=⟨_,rfl⟩
    rw [<-hy] at x0
    have HY:=hid hy
    clear hy
    by_cases he:v=y
    ·have heb:(v == y)=true:=by simp [he]
     have hex:Hid (∃ i,i<n/\f i=v):=⟨k,hlt,by rw [he,HY.out]⟩
     clear he
     go_wp2
     go_ret
     exact ⟨⟨_,rfl,fun _=>hex.out,fun _=>hk0⟩,hB⟩
    ·have heb:(v == y)=false:=by simp [he]
     have hne:Hid (∀ i,i<k+1->f i≠v):=fun i hi=>by
      by_cases e:i=k
      ·subst e; rw [<-HY.out]; exact fun h=>he h.symm
      ·exact HALL.out i (by omega)
     clear he
     go_wp2
     go_roundg (gk - 1)
     case measure=>omega
     case rel=>exact ⟨k+1,by go_num,by omega,by omega,hne.out,hB⟩
   ·have hlt':¬ (k:Int)<(n:Int):=by omega
    have hno:Hid (¬ ∃ i,i<n/\f i=v):=fun ⟨i,hi,e⟩=>HALL.out i (by omega) e
    go_wp2
    go_ret
    exact ⟨⟨_,rfl,fun h=>absurd h (by omega),fun h=>absurd h hno.out⟩,hB⟩
 go_enter Tryz.func188, Tryz.ntmps188
 go_wp2_with fail
 refine key.mono ?_
 rintro e w1 ⟨⟨r,rfl,hr⟩,hB⟩
 have HR:=hid hr
 clear hr
 by_cases h0:0<=r
 ·have h0':decide (r ≥ 0)=true:=by simpa using h0
  have hE:=hid (HR.out.1 h0)
  go_wp2
  go_ret
  exact ⟨⟨_,rfl,by simpa using hE.out⟩,hB⟩
 ·have h0':decide (r ≥ 0)=false:=by simp; omega
  have hE:Hid (¬ ∃ i,i<n/\f i=v):=fun h=>h0 (HR.out.2 h)
  go_wp2
  go_ret
  refine ⟨⟨_,rfl,?_⟩,hB⟩
  simp only [Bool.false_eq_true,false_iff]
  exact hE.out
end Go.Proofs.YtioagplajkoohaaGreat