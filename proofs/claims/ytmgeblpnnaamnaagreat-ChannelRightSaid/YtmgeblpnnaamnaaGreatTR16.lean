/- Merged texts of a claim: PDual, NullCnt, ExpN, Dot04, Word12, Syn12, Tab55, RefRight, Nats. -/
import Derived.Test.YtmgeblpnnaamnaaGreatTR1
import Derived.Test.YtmgeblpnnaamnaaGreatTR5
import Derived.Test.YtmgeblpnnaamnaaGreatTR12
import Derived.Test.YtmgeblpnnaamnaaGreatTR13
import Derived.Test.YtmgeblpnnaamnaaGreatTR15
namespace Go.Proofs.YtmgeblpnnaamnaaGreat
set_option maxRecDepth 100000
set_option maxHeartbeats 32000000
open Go.RowKit
theorem rowIs_set2 {w:World} {g:Nat} {T:TypeId} {a b c:Value} (v:Value) (h:w.rowIs g T 3 (fldCell a b c)):(w.setCell ⟨g,2,none⟩ v).rowIs g T 3 (fldCell a b v):=(h.set 2 v).congr fun j hj=>by
 match j,hj with
 | 0,_=>rfl
 | 1,_=>rfl
 | 2,_=>rfl
theorem cown_any (P M:Int) (A:Option Addr) (k c:Nat) (f:Nat->Int) (w:World) (h:IntsR w w.heap.size A k f) (hkc:k<=c) (hk:k<=1048576) :
  Calls Tryz.prog 169 #[.agg #[.int .i64 P,.int .i64 M,.slice A k c]] w (FieldPost P M k f w):=by
 have HR:=hid h
 clear h
 have rf:=fldBox_row (w:=w) (a:=.int .i64 P) (b:=.int .i64 M) (c:=.slice A k c) (T := 24)
 have hB:Below w.heap.size w (w.alloc (.cells #[.int .i64 P,.int .i64 M,.slice A k c] 24)):=(Below.refl _ _).alloc (Nat.le_refl _) _
 have hsz:(w.alloc (.cells #[.int .i64 P,.int .i64 M,.slice A k c] 24)).heap.size=w.heap.size+1:=by simp
 obtain ⟨w0,hw0⟩:∃ W,W=w.alloc (.cells #[.int .i64 P,.int .i64 M,.slice A k c] 24):=⟨_,rfl⟩
 have rm:=fldBox_row (w:=w0) (a:=.int .i64 0) (b:=.int .i64 0) (c:=.slice none 0 0) (T := 24)
 have kb:Below w0.heap.size w0 (w0.alloc (.cells #[.int .i64 0,.int .i64 0,.slice none 0 0] 24)):=(Below.refl _ _).alloc (Nat.le_refl _) _
 obtain ⟨w1,hw1⟩:∃ W,W=w0.alloc (.cells #[.int .i64 0,.int .i64 0,.slice none 0 0] 24):=⟨_,rfl⟩
 rw [<-hw0] at hB rf hsz
 rw [<-hw1] at rm kb
 rw [hsz] at rm
 replace rf:=rowIs_on rf kb
 replace hB:=onS hB kb
 go_enter Tryz.func169, Tryz.ntmps169
 go_upto_region 1 with fail
 rw [<-hw0,<-hw1]
 clear hw0 hw1 kb hsz
 have q2:w1.cell? ⟨w.heap.size,2,none⟩=some (.slice A k c):=rf.cell (i:=2) (by omega)
 go_wp2_with fail
 refine (cloneInts_any A k c f w1 (HR.out.on hB) hkc hk).mono ?_
 rintro e w2 ⟨A2,c2,rfl,hO,kb⟩
 have hB1:=hB.size
 replace hB:=onS hB kb
 replace rf:=rowIs_on rf kb
 replace rm:=rowIs_on rm kb
 have HO:=hid (hO.mono hB1)
 clear kb q2 hO hB1
 have r2:=rf.frozen 2
 have s2:w2.cell? ⟨w.heap.size,2,none⟩=some _:=rf.cell (i:=2) (by omega)
 go_upto_region 2 with fail
 clear r2 s2
 have rf3:=rowIs_set2 (.slice A2 k c2) rf
 have rm3:=rm.setOther (a:=⟨w.heap.size,2,none⟩) (by simp) (.slice A2 k c2)
 have hO3:=HO.out.setCell (a:=⟨w.heap.size,2,none⟩) (fun e=>(own_row_other rf HO.out (by decide)).elim (fun h=>by rw [h] at e; cases e) fun h=>h e) (.slice A2 k c2)
 have hB3:=hB.setCell (p:=⟨w.heap.size,2,none⟩) (Nat.le_refl _) (.slice A2 k c2)
 obtain ⟨w3,hw3⟩:∃ W,W=w2.setCell ⟨w.heap.size,2,none⟩ (.slice A2 k c2):=⟨_,rfl⟩
 rw [<-hw3] at rf3 rm3 hO3 hB3 ⊢
 clear hw3 rf rm HO hB
 have HO3:=hid hO3
 clear hO3
 have q0:w3.cell? ⟨w.heap.size,0,none⟩=some (.int .i64 P):=rf3.cell (i:=0) (by omega)
 have q1:w3.cell? ⟨w.heap.size,1,none⟩=some (.int .i64 M):=rf3.cell (i:=1) (by omega)
 have q2:w3.cell? ⟨w.heap.size,2,none⟩=some (.slice A2 k c2):=rf3.cell (i:=2) (by omega)
 have r0:=rm3.frozen 0
 have s0:w3.cell? ⟨w.heap.size+1,0,none⟩=some _:=rm3.cell (i:=0) (by omega)
 have r1:=rm3.frozen 1
 have s1:w3.cell? ⟨w.heap.size+1,1,none⟩=some _:=rm3.cell (i:=1) (by omega)
 have r2:=rm3.frozen 2
 have s2:w3.cell? ⟨w.heap.size+1,2,none⟩=some _:=rm3.cell (i:=2) (by omega)
 go_wp2
 clear r0 s0 r1 s1 r2 s2 q0 q1 q2
 generalize hw9:World.setCell _ _ _=w4
 obtain ⟨row9,hg9⟩:=rowIs_put3 rm3 hw9.symm
 clear hw9
 have hB9:=hB3.grown hg9 hB3.size (fun q e=>by injection e with e; omega)
 have hO9:=HO3.out.kept hg9 (own_row_other rm3 HO3.out (by decide))
 have e0:w4.cell? ⟨w.heap.size+1,0,none⟩=some (.int .i64 P):=row9.cell (i:=0) (by omega)
 have e1:w4.cell? ⟨w.heap.size+1,1,none⟩=some (.int .i64 M):=row9.cell (i:=1) (by omega)
 have e2:w4.cell? ⟨w.heap.size+1,2,none⟩=some (.slice A2 k c2):=row9.cell (i:=2) (by omega)
 refine bodyPost_ret (v:=.agg #[.int .i64 P,.int .i64 M,.slice A2 k c2]) (by simp [results,Tryz.results169, go_sem,e0,e1,e2]) rfl ?_
 exact ⟨_,rfl,hO9,hB9⟩
def OfPost (P M N:Int) (k n:Nat) (f:Nat->Int) (T:Option Addr) (d:Nat) (w:World) (e:Ending) (w':World):Prop :=
 ∃ v,e=.returned (.tuple #[.agg #[.int .i64 P,.int .i64 M,v,.int .i64 N,.slice T n d],.int .i64 0])/\Own w' w.heap.size 3 1 v k (fun j _=>.int .i64 (f j))/\Below w.heap.size w w'
theorem cof_any (P M N:Int) (A:Option Addr) (k c:Nat) (f:Nat->Int) (T:Option Addr) (n d:Nat) (w:World) (h:IntsR w w.heap.size A k f) (hkc:k<=c) (hk:k<=1048576) :
  Calls Tryz.prog 131 #[.agg #[.int .i64 P,.int .i64 M,.slice A k c],.agg #[.int .i64 N,.slice T n d],.int .i64 0] w (OfPost P M N k n f T d w):=by
 have HR:=hid h
 clear h
 have rf:=fldBox_row (w:=w) (a:=.int .i64 P) (b:=.int .i64 M) (c:=.slice A k c) (T := 24)
 have hB:Below w.heap.size w (w.alloc (.cells #[.int .i64 P,.int .i64 M,.slice A k c] 24)):=(Below.refl _ _).alloc (Nat.le_refl _) _
 have hsz:(w.alloc (.cells #[.int .i64 P,.int .i64 M,.slice A k c] 24)).heap.size=w.heap.size+1:=by simp
 obtain ⟨w0,hw0⟩:∃ W,W=w.alloc (.cells #[.int .i64 P,.int .i64 M,.slice A k c] 24):=⟨_,rfl⟩
 have rm:=matBox_row (w:=w0) (a:=.int .i64 N) (b:=.slice T n d) (T := 96)
 have kb:Below w0.heap.size w0 (w0.alloc (.cells #[.int .i64 N,.slice T n d] 96)):=(Below.refl _ _).alloc (Nat.le_refl _) _
 have hsz1:(w0.alloc (.cells #[.int .i64 N,.slice T n d] 96)).heap.size=w0.heap.size+1:=by simp
 obtain ⟨w1,hw1⟩:∃ W,W=w0.alloc (.cells #[.int .i64 N,.slice T n d] 96):=⟨_,rfl⟩
 have ro:=codBox_row (w:=w1) (a:=.int .i64 0) (b:=.int .i64 0) (c:=.slice none 0 0) (d:=.int .i64 0) (e:=.slice none 0 0) (T := 27)
 have kb2:Below w1.heap.size w1 (w1.alloc (.cells #[.int .i64 0,.int .i64 0,.slice none 0 0,.int .i64 0,.slice none 0 0] 27)):=(Below.refl _ _).alloc (Nat.le_refl _) _
 obtain ⟨w2,hw2⟩:∃ W,W=w1.alloc (.cells #[.int .i64 0,.int .i64 0,.slice none 0 0,.int .i64 0,.slice none 0 0] 27):=⟨_,rfl⟩
 rw [<-hw0] at hB rf hsz
 rw [<-hw1] at rm kb hsz1
 rw [<-hw2] at ro kb2
 rw [hsz1,hsz] at ro
 rw [hsz] at rm
 replace rf:=rowIs_on (rowIs_on rf kb) kb2
 replace rm:=rowIs_on rm kb2
 replace hB:=onS (onS hB kb) kb2
 go_enter Tryz.func131, Tryz.ntmps131
 go_upto_region 1 with fail
 rw [<-hw0,<-hw1,<-hw2]
 clear hw0 hw1 hw2 kb kb2 hsz hsz1
 obtain ⟨b0,hb0⟩:∃ b,b=w.heap.size:=⟨_,rfl⟩
 obtain ⟨b1,hb1⟩:∃ b,b=w.heap.size+1:=⟨_,rfl⟩
 obtain ⟨b2,hb2⟩:∃ b,b=w.heap.size+1+1:=⟨_,rfl⟩
 have hb2w:w.heap.size<=b2:=by omega
 rw [<-hb0] at rf
 rw [<-hb1] at rm
 rw [<-hb2] at ro
 rw [<-hb2,<-hb1,<-hb0]
 clear hb0 hb1 hb2
 go_wp2
 refine wp_region_held_drew (S:=fun w'=>w'.cell? ⟨b0,0,none⟩=some (.int .i64 P)/\w'.cell? ⟨b0,1,none⟩=some (.int .i64 M)/\w'.cell? ⟨b0,2,none⟩=some (.slice A k c)/\w'.cell? ⟨b1,0,none⟩=some (.int .i64 N)/\w'.cell? ⟨b1,1,none⟩=some (.slice T n d)) (by kernel_rfl) ⟨cellS (Below.refl _ _).drew (rf.cell (i:=0) (by omega)),cellS (Below.refl _ _).drew (rf.cell (i:=1) (by omega)),cellS (Below.refl _ _).drew (rf.cell (i:=2) (by omega)),cellS (Below.refl _ _).drew (rm.cell (i:=0) (by omega)),cellS (Below.refl _ _).drew (rm.cell (i:=1) (by omega))⟩ (fun hHeld=>?_)
 obtain ⟨w3,hw⟩:∃ W,W=World.drew w2:=⟨_,rfl⟩
 have kb:Below w2.heap.size w2 w3:=by rw [hw]; exact (Below.refl _ _).drew
 rw [<-hw] at hHeld ⊢
 clear hw
 replace hB:=onS hB kb
 replace rf:=rowIs_on rf kb
 replace rm:=rowIs_on rm kb
 replace ro:=rowIs_on ro kb
 clear kb
 refine tkq 0 (h:=tkq 2 (h:=tkq 3 (h:=tkq 4 (h:=tkq 5 (h:=rdq 1 (h:=fun K hK=>?_))))))
 go_simp
 go_wp2_with fail
 refine (cown_any P M A k c f w3 (HR.out.on hB) hkc hk).mono ?_
 rintro e w4 ⟨v,rfl,hO,kb⟩
 have hB3:=hB.size
 replace hB:=onS hB kb
 replace rf:=rowIs_on rf kb
 replace rm:=rowIs_on rm kb
 replace ro:=rowIs_on ro kb
 obtain ⟨A2,c2,hv⟩:=hO.shape
 subst hv
 have HO:=hid (hO.mono hB3)
 clear kb hO hB3
 refine bkq hK ⟨rf.cell (i:=0) (by omega),rf.cell (i:=1) (by omega),rf.cell (i:=2) (by omega),rm.cell (i:=0) (by omega),rm.cell (i:=1) (by omega)⟩ (h:=fun hHeld=>?_)
 clear hK K
 refine tkq 6 (h:=rdq 7 (h:=fun K hK=>?_))
 have r0:=ro.frozen 0
 have s0:w4.cell? ⟨b2,0,none⟩=some _:=ro.cell (i:=0) (by omega)
 have r1:=ro.frozen 1
 have s1:w4.cell? ⟨b2,1,none⟩=some _:=ro.cell (i:=1) (by omega)
 have r2:=ro.frozen 2
 have s2:w4.cell? ⟨b2,2,none⟩=some _:=ro.cell (i:=2) (by omega)
 have r3:=ro.frozen 3
 have s3:w4.cell? ⟨b2,3,none⟩=some _:=ro.cell (i:=3) (by omega)
 have r4:=ro.frozen 4
 have s4:w4.cell? ⟨b2,4,none⟩=some _:=ro.cell (i:=4) (by omega)
 go_simp
 clear r0 s0 r1 s1 r2 s2 r3 s3 r4 s4
 generalize hw9:World.setCell _ _ _=w5
 obtain ⟨row9,hg9⟩:=rowIs_put5 ro hw9.symm
 clear hw9
 have hB9:=hB.grown hg9 hB.size (fun q e=>by injection e with e; omega)
 have hO9:=HO.out.kept hg9 (own_row_other ro HO.out (by decide))
 have hf0:=rf.lt
 have hm0:=rm.lt
 have hnf:b0≠b2:=fun e=>by
  obtain ⟨cs,h1,_⟩:=rf
  obtain ⟨cs',h2,_⟩:=ro
  rw [e,h2] at h1
  injection h1 with h1
  injection h1 with _ h1
  exact absurd h1 (by decide)
 have hnm:b1≠b2:=fun e=>by
  obtain ⟨cs,h1,_⟩:=rm
  obtain ⟨cs',h2,_⟩:=ro
  rw [e,h2] at h1
  injection h1 with h1
  injection h1 with _ h1
  exact absurd h1 (by decide)
 have rf9:=rowIs_grownF rf hg9 hnf
 have rm9:=rowIs_grownF rm hg9 hnm
 clear ro rf rm hg9 hf0 hm0 hnf hnm HO hB
 have e0:w5.cell? ⟨b2,0,none⟩=some (.int .i64 P):=row9.cell (i:=0) (by omega)
 have e1:w5.cell? ⟨b2,1,none⟩=some (.int .i64 M):=row9.cell (i:=1) (by omega)
 have e2:w5.cell? ⟨b2,2,none⟩=some (.slice A2 k c2):=row9.cell (i:=2) (by omega)
 have e3:w5.cell? ⟨b2,3,none⟩=some (.int .i64 N):=row9.cell (i:=3) (by omega)
 have e4:w5.cell? ⟨b2,4,none⟩=some (.slice T n d):=row9.cell (i:=4) (by omega)
 refine bkq hK ⟨rf9.cell (i:=0) (by omega),rf9.cell (i:=1) (by omega),rf9.cell (i:=2) (by omega),rm9.cell (i:=0) (by omega),rm9.cell (i:=1) (by omega)⟩ (h:=fun hHeld=>?_)
 clear hK K
 refine tkq 8 (h:=?_)
 refine wpAnyH_done (by kernel_rfl) ?_ _
 clear hHeld
 go_wp2
 refine bodyPost_ret (v:=.tuple #[.agg #[.int .i64 P,.int .i64 M,.slice A2 k c2,.int .i64 N,.slice T n d],.int .i64 0]) (by simp [results,Tryz.results131, go_sem,e0,e1,e2,e3,e4]) rfl ?_
 exact ⟨_,rfl,hO9,hB9⟩
def CDualPost (P M:Int) (k:Nat) (f:Nat->Int) (N:Int) (n:Nat) (ln:Nat->Nat) (V:Nat->Nat->Int) (w:World) (e:Ending) (w':World):Prop :=
 Below w.heap.size w w'/\∃ v:Int,FirstErr (CodeErrs P M k f N n ln V) v /\
  ((v≠0/\e=.returned (.tuple #[.agg #[.int .i64 0,.int .i64 0,.slice none 0 0,.int .i64 0,.slice none 0 0],.int .i64 v])) ∨
   (v=0/\∃ P' M' N':Nat,P=P'/\M=M'/\N=N'/\DualPost P' M' (fun i=>(f i).toNat) k n N' (natT V) w e w'))
theorem cdual_any (P M:Int) (A:Option Addr) (k c:Nat) (f:Nat->Int) (N:Int) (T:Option Addr) (n d:Nat) (ln:Nat->Nat) (V:Nat->Nat->Int) (w:World) (hr:IntsR w w.heap.size A k f) (h:IntRows w T n ln V) (hkc:k<=c) :
  Calls Tryz.prog 86 #[.agg #[.int .i64 P,.int .i64 M,.slice A k c,.int .i64 N,.slice T n d]] w (CDualPost P M k f N n ln V w):=by
 have HR:=hid hr
 have HT:=hid h
 clear hr h
 have rf:=codBox_row (w:=w) (a:=.int .i64 P) (b:=.int .i64 M) (c:=.slice A k c) (d:=.int .i64 N) (e:=.slice T n d) (T := 27)
 have hB:Below w.heap.size w (w.alloc (.cells #[.int .i64 P,.int .i64 M,.slice A k c,.int .i64 N,.slice T n d] 27)):=(Below.refl _ _).alloc (Nat.le_refl _) _
 have hsz:(w.alloc (.cells #[.int .i64 P,.int .i64 M,.slice A k c,.int .i64 N,.slice T n d] 27)).heap.size=w.heap.size+1:=by simp
 obtain ⟨w0,hw0⟩:∃ W,W=w.alloc (.cells #[.int .i64 P,.int .i64 M,.slice A k c,.int .i64 N,.slice T n d] 27):=⟨_,rfl⟩
 have ro:=codBox_row (w:=w0) (a:=.int .i64 0) (b:=.int .i64 0) (c:=.slice none 0 0) (d:=.int .i64 0) (e:=.slice none 0 0) (T := 27)
 have kb:Below w0.heap.size w0 (w0.alloc (.cells #[.int .i64 0,.int .i64 0,.slice none 0 0,.int .i64 0,.slice none 0 0] 27)):=(Below.refl _ _).alloc (Nat.le_refl _) _
 obtain ⟨w1,hw1⟩:∃ W,W=w0.alloc (.cells #[.int .i64 0,.int .i64 0,.slice none 0 0,.int .i64 0,.slice none 0 0] 27):=⟨_,rfl⟩
 rw [<-hw0] at hB rf hsz
 rw [<-hw1] at ro kb
 rw [hsz] at ro
 replace rf:=rowIs_on rf kb
 replace hB:=onS hB kb
 go_enter Tryz.func86, Tryz.ntmps86
 go_upto_region 1 with fail
 rw [<-hw0,<-hw1]
 clear hw0 hw1 kb hsz
 obtain ⟨b0,hb0⟩:∃ b,b=w.heap.size:=⟨_,rfl⟩
 obtain ⟨b2,hb2⟩:∃ b,b=w.heap.size+1:=⟨_,rfl⟩
 have hb2w:w.heap.size<=b2:=by omega
 have hb02:b0≠b2:=by omega
 rw [<-hb0] at rf
 rw [<-hb2] at ro
 rw [<-hb2,<-hb0]
 clear hb0 hb2
 have q0:w1.cell? ⟨b0,0,none⟩=some (.int .i64 P):=rf.cell (i:=0) (by omega)
 have q1:w1.cell? ⟨b0,1,none⟩=some (.int .i64 M):=rf.cell (i:=1) (by omega)
 have q2:w1.cell? ⟨b0,2,none⟩=some (.slice A k c):=rf.cell (i:=2) (by omega)
 have q3:w1.cell? ⟨b0,3,none⟩=some (.int .i64 N):=rf.cell (i:=3) (by omega)
 have q4:w1.cell? ⟨b0,4,none⟩=some (.slice T n d):=rf.cell (i:=4) (by omega)
 go_wp2_with fail
 refine (ccheck_any P M A k c f N T n d ln V w1 (HR.out.on hB) (HT.out.on hB)).mono ?_
 rintro e w2 ⟨v,rfl,hv,kb⟩
 replace hB:=onS hB kb
 replace rf:=rowIs_on rf kb
 replace ro:=rowIs_on ro kb
 have HV:=hid hv
 clear kb hv q0 q1 q2 q3 q4
 by_cases hv0:v=0
 ·subst hv0
  obtain ⟨P,M,N,rfl,rfl,rfl,hC⟩:=codeR_of (HR.out.on hB) (HT.out.on hB) HV.out
  have HC:=hid hC
  have hN1:=hC.ln1
  have hk8:=hC.k_le
  clear hC
  have HKE:Hid (∀ {v:Int},FirstErr (MatErrs (P:Int) (M:Int) k f (N:Int) n ln V) v->v=0):=by
   have hh:=HV.out
   rcases hh with ⟨_,h9⟩ | ⟨h1,⟨_,h9⟩ | ⟨_,⟨_,h9⟩ | ⟨h3,⟨_,h9⟩ | ⟨h4,_⟩⟩⟩⟩
   ·cases h9
   ·cases h9
   ·cases h9
   ·cases h9
   intro v hf
   rcases hf with ⟨h,_⟩ | ⟨_,⟨h,_⟩ | ⟨_,⟨h,_⟩ | ⟨_,hf⟩⟩⟩
   ·exact absurd h1 h
   ·exact absurd h3 h
   ·exact absurd h4 h
   ·exact hf
  obtain ⟨w9,hw9⟩:∃ W,W=w2:=⟨_,rfl⟩
  go_wp2
  clear hw9 w9
  go_cut [5,6] (fun v5 v6 wx=>∃ (mb:Nat) (lv:Value) (a:Nat) (W:Nat->Nat->Nat),v5=.pointer (some ⟨mb,0,none⟩)/\v6=.int .i64 0/\wx.rowIs mb 96 2 (matCell (.int .i64 (N:Nat)) lv)/\MTab wx w.heap.size lv a N W/\NullRel (P ^ M) (addF P M) (mulF P M fun i=>(f i).toNat) (negF P M) n N (natT V) a W/\wx.rowIs b0 27 5 (codCell (.int .i64 (P:Nat)) (.int .i64 (M:Nat)) (.slice A k c) (.int .i64 (N:Nat)) (.slice T n d))/\wx.rowIs b2 27 5 (codCell (.int .i64 0) (.int .i64 0) (.slice none 0 0) (.int .i64 0) (.slice none 0 0))/\Below w.heap.size w wx)
  case first =>
   refine wp_region_held_drew (S:=fun w'=>w'.cell? ⟨b0,0,none⟩=some (.int .i64 (P:Nat))/\w'.cell? ⟨b0,1,none⟩=some (.int .i64 (M:Nat))/\w'.cell? ⟨b0,2,none⟩=some (.slice A k c)/\w'.cell? ⟨b0,3,none⟩=some (.int .i64 (N:Nat))/\w'.cell? ⟨b0,4,none⟩=some (.slice T n d)) (by kernel_rfl) ⟨cellS (Below.refl _ _).drew (rf.cell (i:=0) (by omega)),cellS (Below.refl _ _).drew (rf.cell (i:=1) (by omega)),cellS (Below.refl _ _).drew (rf.cell (i:=2) (by omega)),cellS (Below.refl _ _).drew (rf.cell (i:=3) (by omega)),cellS (Below.refl _ _).drew (rf.cell (i:=4) (by omega))⟩ (fun hHeld=>?_)
   obtain ⟨w3,hw⟩:∃ W,W=World.drew w2:=⟨_,rfl⟩
   have kb:Below w2.heap.size w2 w3:=by rw [hw]; exact (Below.refl _ _).drew
   rw [<-hw] at hHeld ⊢
   clear hw
   replace rf:=rowIs_on rf kb
   replace ro:=rowIs_on ro kb
   replace hB:=onS hB kb
   clear kb
   refine tkq 0 (h:=tkq 1 (h:=tkq 2 (h:=?_)))
   refine rdq2 3 8 (h:=fun K hK=>?_) (h2:=fun K hK=>?_)
   ·go_simp
    go_wp2_with fail
    refine (cgen_any (P:Int) (M:Int) (N:Int) A T k c n d w3).mono ?_
    rintro e w4 ⟨rfl,kb⟩
    replace rf:=rowIs_on rf kb
    replace ro:=rowIs_on ro kb
    replace hB:=onS hB kb
    clear kb
    refine bkq hK ⟨rf.cell (i:=0) (by omega),rf.cell (i:=1) (by omega),rf.cell (i:=2) (by omega),rf.cell (i:=3) (by omega),rf.cell (i:=4) (by omega)⟩ (h:=fun hHeld=>?_)
    clear hK K
    refine rdq2 4 8 (h:=fun K hK=>?_) (h2:=fun K hK=>?_)
    ·go_simp
     go_wp2_with fail
     have hBs:=hB.size
     refine (mkernel_any (P:Int) (M:Int) A k c f (N:Int) T n d ln V w4 (HR.out.on hB) (HT.out.on hB) (by omega)).mono ?_
     rintro e w5 ⟨kb,v,hv,hcase⟩
     obtain rfl:=HKE.out hv
     rcases hcase with ⟨h0,_⟩ | ⟨_,P',M',C',lv,a,W,hPe,hMe,hCe,rfl,hM,hrel⟩
     ·exact absurd rfl h0
     obtain rfl:P=P':=by omega
     obtain rfl:M=M':=by omega
     obtain rfl:N=C':=by omega
     replace hM:=hM.mono hBs
     obtain ⟨LA,lc,hlv⟩:=hM.shape
     subst hlv
     clear hPe hMe hCe hv
     replace rf:=rowIs_on rf kb
     replace ro:=rowIs_on ro kb
     replace hB:=onS hB kb
     clear kb
     refine bkq hK ⟨rf.cell (i:=0) (by omega),rf.cell (i:=1) (by omega),rf.cell (i:=2) (by omega),rf.cell (i:=3) (by omega),rf.cell (i:=4) (by omega)⟩ (h:=fun hHeld=>?_)
     clear hK K
     refine tkq 5 (h:=tkq 6 (h:=tkq 7 (h:=?_)))
     refine rdq 8 (h:=fun K hK=>?_)
     go_simp
     obtain ⟨w6,hw⟩:∃ W,W=World.alloc w5 (Obj.cells #[.int .i64 0,.slice none 0 0] 96):=⟨_,rfl⟩
     have kb:Below w5.heap.size w5 w6:=by rw [hw]; exact (Below.refl _ _).alloc (Nat.le_refl _) _
     have rb:w6.rowIs w5.heap.size 96 2 (matCell (.int .i64 0) (.slice none 0 0)):=by rw [hw]; exact matBox_row
     have hmw:w.heap.size<=w5.heap.size:=hB.size
     have hm0:b0≠w5.heap.size:=by have:=rf.lt; omega
     have hm2:b2≠w5.heap.size:=by have:=ro.lt; omega
     rw [<-hw]
     clear hw
     obtain ⟨mb,hb⟩:∃ b,b=w5.heap.size:=⟨_,rfl⟩
     rw [<-hb] at rb hmw hm0 hm2 ⊢
     clear hb
     replace rf:=rowIs_on rf kb
     replace ro:=rowIs_on ro kb
     replace hB:=onS hB kb
     replace hM:=hM.on kb
     clear kb
     refine bkq hK ⟨rf.cell (i:=0) (by omega),rf.cell (i:=1) (by omega),rf.cell (i:=2) (by omega),rf.cell (i:=3) (by omega),rf.cell (i:=4) (by omega)⟩ (h:=fun hHeld=>?_)
     clear hK K
     refine rdq 9 (h:=fun K hK=>?_)
     have r0:=rb.frozen 0
     have s0:w6.cell? ⟨mb,0,none⟩=some _:=rb.cell (i:=0) (by omega)
     have r1:=rb.frozen 1
     have s1:w6.cell? ⟨mb,1,none⟩=some _:=rb.cell (i:=1) (by omega)
     go_simp
     clear r0 s0 r1 s1
     generalize hw9:World.setCell _ _ _=w7
     obtain ⟨row9,hg9⟩:=rowIs_put2 rb hw9.symm
     clear hw9
     replace hM:=hM.kept hg9 rb (by decide) (by decide)
     replace hB:=hB.grown hg9 hB.size (fun q e=>by injection e with e; omega)
     replace rf:=rowIs_grownF rf hg9 hm0
     replace ro:=rowIs_grownF ro hg9 hm2
     clear hg9 rb
     refine bkq hK ⟨rf.cell (i:=0) (by omega),rf.cell (i:=1) (by omega),rf.cell (i:=2) (by omega),rf.cell (i:=3) (by omega),rf.cell (i:=4) (by omega)⟩ (h:=fun hHeld=>?_)
     clear hK K
     refine tkq 10 (h:=?_)
     refine wpAnyH_done (by kernel_rfl) ?_ _
     clear hHeld
     go_wp2
     go_meet
     exact ⟨mb,_,a,W,rfl,rfl,row9,hM,hrel,rf,ro,hB⟩
    ·go_simp
     obtain ⟨w5,hw⟩:∃ W,W=World.alloc w4 (Obj.cells #[.int .i64 0,.slice none 0 0] 96):=⟨_,rfl⟩
     have kb:Below w4.heap.size w4 w5:=by rw [hw]; exact (Below.refl _ _).alloc (Nat.le_refl _) _
     have rb:w5.rowIs w4.heap.size 96 2 (matCell (.int .i64 0) (.slice none 0 0)):=by rw [hw]; exact matBox_row
     have hmw:w.heap.size<=w4.heap.size:=hB.size
     have hm0:b0≠w4.heap.size:=by have:=rf.lt; omega
     have hm2:b2≠w4.heap.size:=by have:=ro.lt; omega
     rw [<-hw]
     clear hw
     obtain ⟨mb,hb⟩:∃ b,b=w4.heap.size:=⟨_,rfl⟩
     rw [<-hb] at rb hmw hm0 hm2 ⊢
     clear hb
     replace rf:=rowIs_on rf kb
     replace ro:=rowIs_on ro kb
     replace hB:=onS hB kb
     clear kb
     refine bkq hK ⟨rf.cell (i:=0) (by omega),rf.cell (i:=1) (by omega),rf.cell (i:=2) (by omega),rf.cell (i:=3) (by omega),rf.cell (i:=4) (by omega)⟩ (h:=fun hHeld=>?_)
     clear hK K
     refine rdq 4 (h:=fun K hK=>?_)
     go_simp
     go_wp2_with fail
     have hBs:=hB.size
     refine (mkernel_any (P:Int) (M:Int) A k c f (N:Int) T n d ln V w5 (HR.out.on hB) (HT.out.on hB) (by omega)).mono ?_
     rintro e w6 ⟨kb,v,hv,hcase⟩
     obtain rfl:=HKE.out hv
     rcases hcase with ⟨h0,_⟩ | ⟨_,P',M',C',lv,a,W,hPe,hMe,hCe,rfl,hM,hrel⟩
     ·exact absurd rfl h0
     obtain rfl:P=P':=by omega
     obtain rfl:M=M':=by omega
     obtain rfl:N=C':=by omega
     replace hM:=hM.mono hBs
     obtain ⟨LA,lc,hlv⟩:=hM.shape
     subst hlv
     clear hPe hMe hCe hv
     replace rf:=rowIs_on rf kb
     replace ro:=rowIs_on ro kb
     replace rb:=rowIs_on rb kb
     replace hB:=onS hB kb
     clear kb
     refine bkq hK ⟨rf.cell (i:=0) (by omega),rf.cell (i:=1) (by omega),rf.cell (i:=2) (by omega),rf.cell (i:=3) (by omega),rf.cell (i:=4) (by omega)⟩ (h:=fun hHeld=>?_)
     clear hK K
     refine tkq 5 (h:=tkq 6 (h:=tkq 7 (h:=?_)))
     refine rdq 9 (h:=fun K hK=>?_)
     have r0:=rb.frozen 0
     have s0:w6.cell? ⟨mb,0,none⟩=some _:=rb.cell (i:=0) (by omega)
     have r1:=rb.frozen 1
     have s1:w6.cell? ⟨mb,1,none⟩=some _:=rb.cell (i:=1) (by omega)
     go_simp
     clear r0 s0 r1 s1
     generalize hw9:World.setCell _ _ _=w7
     obtain ⟨row9,hg9⟩:=rowIs_put2 rb hw9.symm
     clear hw9
     replace hM:=hM.kept hg9 rb (by decide) (by decide)
     replace hB:=hB.grown hg9 hB.size (fun q e=>by injection e with e; omega)
     replace rf:=rowIs_grownF rf hg9 hm0
     replace ro:=rowIs_grownF ro hg9 hm2
     clear hg9 rb
     refine bkq hK ⟨rf.cell (i:=0) (by omega),rf.cell (i:=1) (by omega),rf.cell (i:=2) (by omega),rf.cell (i:=3) (by omega),rf.cell (i:=4) (by omega)⟩ (h:=fun hHeld=>?_)
     clear hK K
     refine tkq 10 (h:=?_)
     refine wpAnyH_done (by kernel_rfl) ?_ _
     clear hHeld
     go_wp2
     go_meet
     exact ⟨mb,_,a,W,rfl,rfl,row9,hM,hrel,rf,ro,hB⟩
   ·go_simp
    obtain ⟨w4,hw⟩:∃ W,W=World.alloc w3 (Obj.cells #[.int .i64 0,.slice none 0 0] 96):=⟨_,rfl⟩
    have kb:Below w3.heap.size w3 w4:=by rw [hw]; exact (Below.refl _ _).alloc (Nat.le_refl _) _
    have rb:w4.rowIs w3.heap.size 96 2 (matCell (.int .i64 0) (.slice none 0 0)):=by rw [hw]; exact matBox_row
    have hmw:w.heap.size<=w3.heap.size:=hB.size
    have hm0:b0≠w3.heap.size:=by have:=rf.lt; omega
    have hm2:b2≠w3.heap.size:=by have:=ro.lt; omega
    rw [<-hw]
    clear hw
    obtain ⟨mb,hb⟩:∃ b,b=w3.heap.size:=⟨_,rfl⟩
    rw [<-hb] at rb hmw hm0 hm2 ⊢
    clear hb
    replace rf:=rowIs_on rf kb
    replace ro:=rowIs_on ro kb
    replace hB:=onS hB kb
    clear kb
    refine bkq hK ⟨rf.cell (i:=0) (by omega),rf.cell (i:=1) (by omega),rf.cell (i:=2) (by omega),rf.cell (i:=3) (by omega),rf.cell (i:=4) (by omega)⟩ (h:=fun hHeld=>?_)
    clear hK K
    refine rdq 3 (h:=fun K hK=>?_)
    go_simp
    go_wp2_with fail
    refine (cgen_any (P:Int) (M:Int) (N:Int) A T k c n d w4).mono ?_
    rintro e w5 ⟨rfl,kb⟩
    replace rf:=rowIs_on rf kb
    replace ro:=rowIs_on ro kb
    replace rb:=rowIs_on rb kb
    replace hB:=onS hB kb
    clear kb
    refine bkq hK ⟨rf.cell (i:=0) (by omega),rf.cell (i:=1) (by omega),rf.cell (i:=2) (by omega),rf.cell (i:=3) (by omega),rf.cell (i:=4) (by omega)⟩ (h:=fun hHeld=>?_)
    clear hK K
    refine rdq 4 (h:=fun K hK=>?_)
    go_simp
    go_wp2_with fail
    have hBs:=hB.size
    refine (mkernel_any (P:Int) (M:Int) A k c f (N:Int) T n d ln V w5 (HR.out.on hB) (HT.out.on hB) (by omega)).mono ?_
    rintro e w6 ⟨kb,v,hv,hcase⟩
    obtain rfl:=HKE.out hv
    rcases hcase with ⟨h0,_⟩ | ⟨_,P',M',C',lv,a,W,hPe,hMe,hCe,rfl,hM,hrel⟩
    ·exact absurd rfl h0
    obtain rfl:P=P':=by omega
    obtain rfl:M=M':=by omega
    obtain rfl:N=C':=by omega
    replace hM:=hM.mono hBs
    obtain ⟨LA,lc,hlv⟩:=hM.shape
    subst hlv
    clear hPe hMe hCe hv
    replace rf:=rowIs_on rf kb
    replace ro:=rowIs_on ro kb
    replace rb:=rowIs_on rb kb
    replace hB:=onS hB kb
    clear kb
    refine bkq hK ⟨rf.cell (i:=0) (by omega),rf.cell (i:=1) (by omega),rf.cell (i:=2) (by omega),rf.cell (i:=3) (by omega),rf.cell (i:=4) (by omega)⟩ (h:=fun hHeld=>?_)
    clear hK K
    refine tkq 5 (h:=tkq 6 (h:=tkq 7 (h:=?_)))
    refine rdq 9 (h:=fun K hK=>?_)
    have r0:=rb.frozen 0
    have s0:w6.cell? ⟨mb,0,none⟩=some _:=rb.cell (i:=0) (by omega)
    have r1:=rb.frozen 1
    have s1:w6.cell? ⟨mb,1,none⟩=some _:=rb.cell (i:=1) (by omega)
    go_simp
    clear r0 s0 r1 s1
    generalize hw9:World.setCell _ _ _=w7
    obtain ⟨row9,hg9⟩:=rowIs_put2 rb hw9.symm
    clear hw9
    replace hM:=hM.kept hg9 rb (by decide) (by decide)
    replace hB:=hB.grown hg9 hB.size (fun q e=>by injection e with e; omega)
    replace rf:=rowIs_grownF rf hg9 hm0
    replace ro:=rowIs_grownF ro hg9 hm2
    clear hg9 rb
    refine bkq hK ⟨rf.cell (i:=0) (by omega),rf.cell (i:=1) (by omega),rf.cell (i:=2) (by omega),rf.cell (i:=3) (by omega),rf.cell (i:=4) (by omega)⟩ (h:=fun hHeld=>?_)
    clear hK K
    refine tkq 10 (h:=?_)
    refine wpAnyH_done (by kernel_rfl) ?_ _
    clear hHeld
    go_wp2
    go_meet
    exact ⟨mb,_,a,W,rfl,rfl,row9,hM,hrel,rf,ro,hB⟩
  case rest =>
   clear hB rf ro
   obtain ⟨mb,lv,a,W,rfl,rfl,rm,hM,hrel,rf,ro,hB⟩:=hcut
   have HM:=hid hM
   have HREL:=hid hrel
   obtain ⟨LA,lc,hlv⟩:=hM.shape
   subst hlv
   clear hM hrel
   have q0:wc.cell? ⟨b0,0,none⟩=some (.int .i64 (P:Nat)):=rf.cell (i:=0) (by omega)
   have q1:wc.cell? ⟨b0,1,none⟩=some (.int .i64 (M:Nat)):=rf.cell (i:=1) (by omega)
   have q2:wc.cell? ⟨b0,2,none⟩=some (.slice A k c):=rf.cell (i:=2) (by omega)
   have m0:wc.cell? ⟨mb,0,none⟩=some (.int .i64 (N:Nat)):=rm.cell (i:=0) (by omega)
   have m1:wc.cell? ⟨mb,1,none⟩=some (.slice LA a lc):=rm.cell (i:=1) (by omega)
   go_wp2_with fail
   refine (cof_any (P:Int) (M:Int) (N:Int) A k c f LA a lc wc (HR.out.on hB) hkc (by omega)).mono ?_
   rintro e w5 ⟨v,rfl,hO,kb⟩
   have hBs:=hB.size
   replace hB:=onS hB kb
   replace ro:=rowIs_on ro kb
   have HM5:=hid (HM.out.on kb)
   obtain ⟨A2,c2,hv⟩:=hO.shape
   subst hv
   have HO:=hid (hO.mono hBs)
   clear kb hO hBs q0 q1 q2 m0 m1 rf rm HM
   have r0:=ro.frozen 0
   have s0:w5.cell? ⟨b2,0,none⟩=some _:=ro.cell (i:=0) (by omega)
   have r1:=ro.frozen 1
   have s1:w5.cell? ⟨b2,1,none⟩=some _:=ro.cell (i:=1) (by omega)
   have r2:=ro.frozen 2
   have s2:w5.cell? ⟨b2,2,none⟩=some _:=ro.cell (i:=2) (by omega)
   have r3:=ro.frozen 3
   have s3:w5.cell? ⟨b2,3,none⟩=some _:=ro.cell (i:=3) (by omega)
   have r4:=ro.frozen 4
   have s4:w5.cell? ⟨b2,4,none⟩=some _:=ro.cell (i:=4) (by omega)
   go_wp2
   clear r0 s0 r1 s1 r2 s2 r3 s3 r4 s4
   generalize hw9:World.setCell _ _ _=w6
   obtain ⟨row9,hg9⟩:=rowIs_put5 ro hw9.symm
   clear hw9
   have hB9:=hB.grown hg9 hB.size (fun q e=>by injection e with e; omega)
   have hO9:=HO.out.kept hg9 (own_row_other ro HO.out (by decide))
   have hM9:=HM5.out.kept hg9 ro (by decide) (by decide)
   have e0:w6.cell? ⟨b2,0,none⟩=some (.int .i64 (P:Nat)):=row9.cell (i:=0) (by omega)
   have e1:w6.cell? ⟨b2,1,none⟩=some (.int .i64 (M:Nat)):=row9.cell (i:=1) (by omega)
   have e2:w6.cell? ⟨b2,2,none⟩=some (.slice A2 k c2):=row9.cell (i:=2) (by omega)
   have e3:w6.cell? ⟨b2,3,none⟩=some (.int .i64 (N:Nat)):=row9.cell (i:=3) (by omega)
   have e4:w6.cell? ⟨b2,4,none⟩=some (.slice LA a lc):=row9.cell (i:=4) (by omega)
   refine bodyPost_ret (v:=.tuple #[.agg #[.int .i64 (P:Nat),.int .i64 (M:Nat),.slice A2 k c2,.int .i64 (N:Nat),.slice LA a lc],.int .i64 0]) (by simp [results,Tryz.results86, go_sem,e0,e1,e2,e3,e4]) rfl ?_
   refine ⟨hB9,0,HV.out,.inr ⟨rfl,P,M,N,rfl,rfl,rfl,_,_,a,W,rfl,hO9.congr fun j hj q _=>?_,hM9,hB9,HREL.out⟩⟩
   have hg:=HV.out
   rcases hg with ⟨_,h9⟩ | ⟨⟨P',M',h1,h2,h3,h4,h5⟩,_⟩
   ·cases h9
   rcases h5 with ⟨_,e⟩ | ⟨_,e,h,_⟩
   ·omega
   ·have:=h j (by omega)
    show Value.int .i64 (f j)=.int .i64 (((f j).toNat:Nat):Int)
    rw [show (((f j).toNat:Nat):Int)=f j by omega]
 ·have hvn:(v != 0)=true:=by simpa using hv0
  have HV0:=hid hv0
  clear hv0 rf
  have r0:=ro.frozen 0
  have s0:w2.cell? ⟨b2,0,none⟩=some _:=ro.cell (i:=0) (by omega)
  have r1:=ro.frozen 1
  have s1:w2.cell? ⟨b2,1,none⟩=some _:=ro.cell (i:=1) (by omega)
  have r2:=ro.frozen 2
  have s2:w2.cell? ⟨b2,2,none⟩=some _:=ro.cell (i:=2) (by omega)
  have r3:=ro.frozen 3
  have s3:w2.cell? ⟨b2,3,none⟩=some _:=ro.cell (i:=3) (by omega)
  have r4:=ro.frozen 4
  have s4:w2.cell? ⟨b2,4,none⟩=some _:=ro.cell (i:=4) (by omega)
  go_wp2
  clear r0 s0 r1 s1 r2 s2 r3 s3 r4 s4
  generalize hw9:World.setCell _ _ _=w6
  obtain ⟨row9,hg9⟩:=rowIs_put5 ro hw9.symm
  clear hw9
  have hB9:=hB.grown hg9 hB.size (fun q e=>by injection e with e; omega)
  have e0:w6.cell? ⟨b2,0,none⟩=some (.int .i64 0):=row9.cell (i:=0) (by omega)
  have e1:w6.cell? ⟨b2,1,none⟩=some (.int .i64 0):=row9.cell (i:=1) (by omega)
  have e2:w6.cell? ⟨b2,2,none⟩=some (.slice none 0 0):=row9.cell (i:=2) (by omega)
  have e3:w6.cell? ⟨b2,3,none⟩=some (.int .i64 0):=row9.cell (i:=3) (by omega)
  have e4:w6.cell? ⟨b2,4,none⟩=some (.slice none 0 0):=row9.cell (i:=4) (by omega)
  refine bodyPost_ret (v:=.tuple #[.agg #[.int .i64 0,.int .i64 0,.slice none 0 0,.int .i64 0,.slice none 0 0],.int .i64 v]) (by simp [results,Tryz.results86, go_sem,e0,e1,e2,e3,e4]) rfl ?_
  exact ⟨hB9,v,HV.out,.inl ⟨HV0.out,rfl⟩⟩
section
variable {q n k:Nat} {add mul:Nat->Nat->Nat} {V:Nat->Nat->Nat}
theorem spE_unit (hL:FieldLaws q add mul) {a s j:Nat} {c:Nat->Nat} (hc:∀ i,i<a->c i<q) (hs:s<a) (h1:V s j=1) (h0:∀ t,t<a->t≠s->V t j=0):spE add mul V c a j=c s:=by
 have key:∀ t,t<=a->spE add mul V c t j=if s<t then c s else 0:=by
  intro t
  induction t with
  | zero=>intro _; rfl
  | succ t ih =>
   intro ht
   show add (spE add mul V c t j) (mul (c t) (V t j))=_
   rw [ih (by omega)]
   by_cases e:t=s
   ·subst e
    rw [if_neg (by omega),if_pos (by omega),h1,hL.mulOne (hc t hs),hL.zeroAdd _ (hc t hs)]
   ·rw [h0 t (by omega) e,hL.mulZero (hc t (by omega))]
    by_cases e2:s<t
    ·rw [if_pos e2,if_pos (by omega),hL.addZero (hc s hs)]
    ·rw [if_neg e2,if_neg (by omega),hL.addZero (by have:=hL.two; omega)]
 rw [key a (Nat.le_refl _),if_pos hs]
theorem unit_le (hL:FieldLaws q add mul) {U W:Nat->Nat->Nat} {f a N:Nat} {fr p:Nat->Nat} (hf:∀ u,u<f->fr u<N) (hp:∀ s,s<a->p s<N)
  (u1:∀ s,s<f->U s (fr s)=1) (u0:∀ s,s<f->∀ t,t<f->t≠s->U t (fr s)=0) (w1:∀ s,s<a->W s (p s)=1) (w0:∀ s,s<a->∀ t,t<a->t≠s->W t (p s)=0)
  (hS:SameSp q add mul N f a U W):f<=a:=by
 have hq:=hL.two
 have hle:q ^ f<=q ^ a:=by
  refine pigeon (f:=fun i=>code q (fun s=>spE add mul U (msgD q f i) f (p s)) a) (fun i _=>code_lt fun s _=>spE_lt hL _ _ _) fun i i' hi hi' e=>?_
  have e1:=code_inj (fun s _=>spE_lt hL _ _ _) (fun s _=>spE_lt hL _ _ _) e
  have hin:∀ i,InSp q add mul a N W (spE add mul U (msgD q f i) f):=fun i=>(hS _).1 ⟨msgD q f i,fun _ _=>msgD_lt (by omega),fun _ _=>rfl⟩
  obtain ⟨c,hc,ec⟩:=hin i
  obtain ⟨d,hd,ed⟩:=hin i'
  have ecd:∀ s,s<a->c s=d s:=fun s hs=>by
   have:=e1 s hs
   rw [ec _ (hp s hs),ed _ (hp s hs),spE_unit hL hc hs (w1 s hs) (w0 s hs),spE_unit hL hd hs (w1 s hs) (w0 s hs)] at this
   exact this
  have em:∀ u,u<f->msgD q f i u=msgD q f i' u:=fun u hu=>by
   have h1:=spE_unit (V:=U) hL (fun t _=>msgD_lt (q:=q) (n:=f) (x:=i) (t:=t) (by omega)) hu (u1 u hu) (u0 u hu)
   have h2:=spE_unit (V:=U) hL (fun t _=>msgD_lt (q:=q) (n:=f) (x:=i') (t:=t) (by omega)) hu (u1 u hu) (u0 u hu)
   rw [<-h1,<-h2,ec _ (hf u hu),ed _ (hf u hu)]
   exact spE_congr a fun s hs=>⟨ecd s hs,rfl⟩
  refine dig_sum (by omega) hi hi' fun t ht=>?_
  have:=em (f - 1 - t) (by omega)
  unfold msgD at this
  rwa [show f - 1 - (f - 1 - t)=t by omega] at this
 exact (Nat.pow_le_pow_iff_right hq).1 hle
theorem NullRel.count {neg:Nat->Nat} {N a2:Nat} {W2:Nat->Nat->Nat} (hL:FieldLaws q add mul) (hneg:∀ x,x<q->neg x<q/\add x (neg x)=0) (hV:RrefN q n N V) (h:NullRel q add mul neg n N V a2 W2):n+a2=N:=by
 obtain ⟨pv,hv⟩:=hV
 obtain ⟨a,p,W,f,fr,Nn,p2,hE,hR,hN,hE2,hR2⟩:=h
 have hq:=hL.two
 have hle:=hE.le
 obtain ⟨hs,hWl⟩:=hR.sp hL hv.lt
 have hNl:∀ u,u<f->∀ j,j<N->Nn u j<q:=fun u hu j hj=>by
  rw [hN.row u hu j hj]
  have hfu:=hN.lt u hu
  rcases hN.cover j hj with ⟨s,hs,e⟩ | ⟨v,hv,e⟩
  ·rw [<-e,nrow_pv a hE.inc hs]
   exact (hneg _ (hWl s (by omega) _ hfu)).1
  ·rw [nrow_free a fun s hs e2=>hN.ne v hv s hs (e2.trans e.symm)]
   split <;> omega
 obtain ⟨hs2,-⟩:=hR2.sp hL hNl
 have ea:n=a:=(rref_unique hL hv hE.top fun x=>(hs x).trans (hE.sp_top hL x)).1
 have hle2:=hE2.le
 have u1:∀ s,s<f->Nn s (fr s)=1:=fun s hs=>by rw [hN.row s hs _ (hN.lt s hs),nrow_free a (hN.ne s hs),if_pos rfl]
 have u0:∀ s,s<f->∀ t,t<f->t≠s->Nn t (fr s)=0:=fun s hs t ht hne=>by
  rw [hN.row t ht _ (hN.lt s hs),nrow_free a (hN.ne s hs),if_neg]
  intro e
  rcases Nat.lt_or_gt_of_ne hne with h1 | h1
  ·have:=hN.inc t s h1 hs; omega
  ·have:=hN.inc s t h1 ht; omega
 have w0:∀ s,s<a2->∀ t,t<a2->t≠s->W2 t (p2 s)=0:=fun s hs t ht hne=>hE2.zero s hs t (by omega) hne
 have hS:SameSp q add mul N f a2 Nn W2:=fun x=>(hs2 x).trans (hE2.sp_top hL x)
 have f1:f<=a2:=unit_le hL hN.lt hE2.pvlt u1 u0 hE2.one w0 hS
 have f3:a+f<=N:=by
  refine pigeon (f:=fun i=>if i<a then p i else fr (i - a)) (fun i hi=>?_) fun i j hi hj e=>?_
  ·show (if i<a then p i else fr (i - a))<N
   split
   ·rename_i h; exact hE.pvlt i h
   ·exact hN.lt _ (by omega)
  ·have e':(if i<a then p i else fr (i - a))=(if j<a then p j else fr (j - a)):=e
   by_cases h1:i<a
   ·rw [if_pos h1] at e'
    by_cases h2:j<a
    ·rw [if_pos h2] at e'
     rcases Nat.lt_trichotomy i j with h3 | h3 | h3
     ·have:=hE.inc i j h3 h2; omega
     ·exact h3
     ·have:=hE.inc j i h3 h1; omega
    ·rw [if_neg h2] at e'
     exact absurd e' (hN.ne _ (by omega) _ h1)
   ·rw [if_neg h1] at e'
    by_cases h2:j<a
    ·rw [if_pos h2] at e'
     exact absurd e'.symm (hN.ne _ (by omega) _ h2)
    ·rw [if_neg h2] at e'
     rcases Nat.lt_trichotomy (i - a) (j - a) with h3 | h3 | h3
     ·have:=hN.inc _ _ h3 (by omega); omega
     ·omega
     ·have:=hN.inc _ _ h3 (by omega); omega
 have f4:N<=a+f:=by
  have hch:∀ j,∃ i,j<N->i<a+f/\(if i<a then p i else fr (i - a))=j:=fun j=>by
   by_cases hj:j<N
   ·rcases hN.cover j hj with ⟨s,hs,e⟩ | ⟨u,hu,e⟩
    ·exact ⟨s,fun _=>⟨by omega,by rw [if_pos hs]; exact e⟩⟩
    ·exact ⟨a+u,fun _=>⟨by omega,by rw [if_neg (by omega),show a+u - a=u by omega]; exact e⟩⟩
   ·exact ⟨0,fun h=>absurd h hj⟩
  obtain ⟨g,hg⟩:=Classical.skolem.1 hch
  refine pigeon (f:=g) (fun j hj=>(hg j hj).1) fun i j hi hj e=>?_
  have h1:=(hg i hi).2
  have h2:=(hg j hj).2
  rw [e] at h1
  omega
 omega
theorem NullRel.same {neg:Nat->Nat} {N a2 a3:Nat} {W2 W3:Nat->Nat->Nat} (hL:FieldLaws q add mul) (hneg:∀ x,x<q->neg x<q/\add x (neg x)=0) (hV:∀ i,i<n->∀ j,j<N->V i j<q) (h:NullRel q add mul neg n N V a2 W2) (h3:NullRel q add mul neg n N V a3 W3) :
  a2=a3/\∀ s,s<a2->∀ j,j<N->W2 s j=W3 s j:=by
 have hq:0<q:=by have:=hL.two; omega
 obtain ⟨iA,iM,iN,i0,i1,F,ha,hm,h0,h1⟩:=fie_of hL
 have O:OnEl q add mul:=⟨F,ha,hm,h0,h1⟩
 obtain ⟨p2,e2⟩:=h.rref
 obtain ⟨p3,e3⟩:=h3.rref
 have hp2:=fun x=>NullRel.perp (x:=x) hq O hL hneg hV h
 have hp3:=fun x=>NullRel.perp (x:=x) hq O hL hneg hV h3
 have hS:SameSp q add mul N a2 a3 W2 W3:=fun x=>by
  constructor
  ·intro hx
   have hl:∀ j,j<N->x j<q:=fun j hj=>hx.lt hL hj
   exact (inSp_gen hq F hL ha hm h0 e3.lt hl).2 ((hp3 _).1 ((hp2 _).2 ((inSp_gen hq F hL ha hm h0 e2.lt hl).1 hx)))
  ·intro hx
   have hl:∀ j,j<N->x j<q:=fun j hj=>hx.lt hL hj
   exact (inSp_gen hq F hL ha hm h0 e2.lt hl).2 ((hp2 _).1 ((hp3 _).2 ((inSp_gen hq F hL ha hm h0 e3.lt hl).1 hx)))
 obtain ⟨g1,-,g3⟩:=rref_unique hL e2 e3 hS
 exact ⟨g1,g3⟩
end
def ExpNPost (q k most:Nat) (w:World) (e:Ending) (w':World):Prop:=((q ^ k<=most/\e=.returned (.tuple #[.int .i64 (q ^ k:Nat),.int .i64 0]))∨(most<q ^ k/\e=.returned (.tuple #[.int .i64 0,.int .i64 8])))/\Below w.heap.size w w'
theorem exp_any (q k most:Nat) (w:World) (hq:2<=q) (hq2:q<=1048576) (hk:k<=1048576) (hm:1<=most) (hm2:most<=1048576) :
  Calls Tryz.prog 65 #[.int .i64 (q:Nat),.int .i64 (k:Nat),.int .i64 (most:Nat)] w (ExpNPost q k most w):=by
 have c1:¬ ((q:Int)<0):=by omega
 have c2:¬ ((k:Int)<0):=by omega
 have c3:¬ ((most:Int)<0):=by omega
 have c4:((q:Int) == 0)=false:=by simp; omega
 have c5:((most:Int) == 0)=false:=by simp; omega
 have c6:(q:Int) > 1:=by omega
 go_enter Tryz.func65, Tryz.ntmps65
 go_wp2
 go_loopg [1,8] k (fun gg kv ov wx=>∃ j o:Nat,kv=.int .i64 ((k - j:Nat):Int)/\ov=.int .i64 (o:Nat)/\j<=k/\k<=j+gg/\Hid (o=q ^ j)/\o<=most/\Below w.heap.size w wx)
 case atStart=>exact ⟨0,1,by rw [Nat.sub_zero],rfl,by omega,by omega,rfl,by omega,Below.refl _ _⟩
 case round =>
  obtain ⟨j,o,rfl,rfl,hj,hjg,HO,hom,hB⟩:=hrel
  obtain ⟨r,hr⟩:∃ r,r=k - j:=⟨_,rfl⟩
  rw [<-hr]
  have HR:=hid hr
  clear hr
  by_cases hlt:0<r
  ·have hlt':(r:Int) > 0:=by omega
   have h0:=HR.out
   obtain ⟨d,hd⟩:∃ d,d=most / q:=⟨_,rfl⟩
   have e0:(most:Int) / (q:Int)=(d:Int):=by rw [hd]; rfl
   have hdl:d<=most:=by rw [hd]; exact Nat.div_le_self _ _
   have HD:=hid hd
   have hd0:0<=(most:Int) / (q:Int):=by rw [e0]; omega
   have hd1:(most:Int) / (q:Int)<=1048576:=by rw [e0]; omega
   clear hd
   have hq0:¬ (q:Int)=0:=by omega
   by_cases hb:d<o
   ·have hb':(o:Int) > (most:Int) / (q:Int):=by rw [e0]; omega
    have hbig:Hid (most<q ^ k):=by
     have h1:most<o*q:=(Nat.div_lt_iff_lt_mul (by omega)).1 (HD.out ▸ hb)
     have h2:q ^ (j+1)<=q ^ k:=Nat.pow_le_pow_right (by omega) (by omega)
     have h3:=HO.out
     show most<q ^ k
     rw [Nat.pow_succ,<-h3] at h2
     omega
    clear hb h0 e0
    go_wp2
    go_ret2
    exact ⟨.inr ⟨hbig.out,rfl⟩,hB⟩
   ·have hb':¬ (o:Int) > (most:Int) / (q:Int):=by rw [e0]; omega
    have hsm:o*q<=most:=by
     have h1:o<=most / q:=HD.out ▸ Nat.le_of_not_lt hb
     exact (Nat.le_div_iff_mul_le (by omega)).1 h1
    have HO2:Hid (o*q=q ^ (j+1)):=by show _=_; rw [Nat.pow_succ,<-HO.out]
    have e2:(o:Int)*(q:Int)=((o*q:Nat):Int):=by push_cast; rfl
    have hp0:0<=(o:Int)*(q:Int):=by rw [e2]; omega
    have hp1:(o:Int)*(q:Int)<=1048576:=by rw [e2]; omega
    clear hb e0 e2
    go_wp2
    go_roundg (gk - 1)
    case measure=>omega
    case rel=>exact ⟨j+1,o*q,by congr 1; omega,by push_cast; go_num,by omega,by omega,HO2,hsm,hB⟩
  ·have hlt':¬ (r:Int) > 0:=by omega
   have hex:Hid (q ^ k=o):=by
    have h0:=HR.out
    obtain rfl:j=k:=by omega
    exact HO.out.symm
   obtain rfl:r=0:=by omega
   go_wp2
   go_ret2
   exact ⟨.inl ⟨by rw [hex.out]; exact hom,by rw [hex.out]; rfl⟩,hB⟩
theorem dot04_any (P M:Nat) (A:Option Addr) (k c:Nat) (m:Nat->Nat) (n:Nat) (U V:Option Addr) (uc vc:Nat) (a b:Nat->Nat) (w:World) (hf:FieldOk P M m) (hm:ModOk w P M A m) (hkM:M=1∨k=M) (ha:IntsR w w.heap.size U n (fun i=>(a i:Nat))) (hb:IntsR w w.heap.size V n (fun i=>(b i:Nat))) (haq:∀ i,i<n->a i<P ^ M) (hbq:∀ i,i<n->b i<P ^ M) (hn:n<=1048576) :
  Calls Tryz.prog 129 #[.agg #[.int .i64 (P:Nat),.int .i64 (M:Nat),.slice A k c],.slice U n uc,.slice V n vc] w fun e w'=>e=.returned (.int .i64 (dotN (addF P M) (mulF P M m) a b n:Nat))/\Below w.heap.size w w':=by
 have HL:=hid (fieldLaws hf)
 have hfo:=hf.1
 have hq:=hfo.2.2.2
 have HM:=hid hm
 have HA:=hid ha
 have HBb:=hid hb
 have HAQ:=hid haq
 have HBQ:=hid hbq
 clear hm ha hb haq hbq
 have hB:Below w.heap.size w (w.alloc (.cells #[.int .i64 (P:Nat),.int .i64 (M:Nat),.slice A k c] 24)):=(Below.refl _ _).alloc (Nat.le_refl _) _
 have rf:=fldBox_row (w:=w) (a:=.int .i64 (P:Nat)) (b:=.int .i64 (M:Nat)) (c:=.slice A k c) (T := 24)
 obtain ⟨w0,hw0⟩:∃ W,W=w.alloc (.cells #[.int .i64 (P:Nat),.int .i64 (M:Nat),.slice A k c] 24):=⟨_,rfl⟩
 rw [<-hw0] at hB rf
 go_enter Tryz.func129, Tryz.ntmps129
 go_upto_region 1 with fail
 rw [<-hw0]
 clear hw0
 go_wp2
 go_loopg [7,8] n (fun gg sv iv wx=>∃ i s:Nat,iv=.int .i64 (i:Nat)/\sv=.int .i64 (s:Nat)/\i<=n/\n<=i+gg/\s<P ^ M/\Hid (s=dotN (addF P M) (mulF P M m) a b i)/\wx.rowIs w.heap.size 24 3 (fldCell (.int .i64 (P:Nat)) (.int .i64 (M:Nat)) (.slice A k c))/\Below w.heap.size w wx)
 case atStart=>exact ⟨0,0,rfl,rfl,by omega,by omega,by have:=HL.out.two; omega,rfl,rf,hB⟩
 case round =>
  clear hB rf
  obtain ⟨i,s,rfl,rfl,hi,hig,hsq,HS,rf,hB⟩:=hrel
  have hi0:(0:Int)<=(i:Int):=by omega
  by_cases hlt:i<n
  ·have hlt':(i:Int)<(n:Int):=by omega
   have hd:decide ((i:Int)<(n:Int))=true:=by simpa using hlt
   obtain ⟨ab,ao,rfl,hab,x0⟩:=HA.out.at hlt
   obtain ⟨bb,bo,rfl,hbb,y0⟩:=HBb.out.at hlt
   replace x0:=(hB.cell (p:=⟨ab,ao+i,none⟩) hab).trans x0
   replace y0:=(hB.cell (p:=⟨bb,bo+i,none⟩) hbb).trans y0
   obtain ⟨x,hx⟩:∃ x,x=a i:=⟨_,rfl⟩
   obtain ⟨y,hy⟩:∃ x,x=b i:=⟨_,rfl⟩
   have hxq:x<P ^ M:=by rw [hx]; exact HAQ.out i hlt
   have hyq:y<P ^ M:=by rw [hy]; exact HBQ.out i hlt
   have HIX:=hid (inV_nat hxq)
   have HIY:=hid (inV_nat hyq)
   rw [<-hx] at x0
   rw [<-hy] at y0
   have HX:=hid hx
   have HY:=hid hy
   clear hx hy
   have q0:wr.cell? ⟨w.heap.size,0,none⟩=some (.int .i64 (P:Nat)):=rf.cell (i:=0) (by omega)
   have q1:wr.cell? ⟨w.heap.size,1,none⟩=some (.int .i64 (M:Nat)):=rf.cell (i:=1) (by omega)
   have q2:wr.cell? ⟨w.heap.size,2,none⟩=some (.slice A k c):=rf.cell (i:=2) (by omega)
   obtain ⟨w1,hw1⟩:∃ W,W=wr:=⟨_,rfl⟩
   subst hw1
   go_wp2
   refine wp_region_held_drew (S:=fun w'=>w'.cell? ⟨w.heap.size,0,none⟩=some (.int .i64 (P:Nat))/\w'.cell? ⟨w.heap.size,1,none⟩=some (.int .i64 (M:Nat))/\w'.cell? ⟨w.heap.size,2,none⟩=some (.slice A k c)/\w'.cell? ⟨ab,ao+i,none⟩=some (.int .i64 (x:Nat))/\w'.cell? ⟨bb,bo+i,none⟩=some (.int .i64 (y:Nat))) (by kernel_rfl) ⟨cellS (Below.refl _ _).drew q0,cellS (Below.refl _ _).drew q1,cellS (Below.refl _ _).drew q2,cellS (Below.refl _ _).drew x0,cellS (Below.refl _ _).drew y0⟩ (fun hHeld=>?_)
   obtain ⟨w2,hw⟩:∃ W,W=World.drew w1:=⟨_,rfl⟩
   have kb:Below w1.heap.size w1 w2:=by rw [hw]; exact (Below.refl _ _).drew
   rw [<-hw] at hHeld ⊢
   clear hw
   replace rf:=rowIs_on rf kb
   replace hB:=onS hB kb
   replace x0:=cellS kb x0
   replace y0:=cellS kb y0
   replace q0:=cellS kb q0
   replace q1:=cellS kb q1
   replace q2:=cellS kb q2
   clear kb
   refine tkq 0 (h:=tkq 1 (h:=tkq 2 (h:=tkq 3 (h:=tkq 4 (h:=tkq 5 (h:=tkq 6 (h:=tkq 7 (h:=tkq 8 (h:=tkq 9 (h:=tkq 10 (h:=?_)))))))))))
   refine rdq 11 (h:=fun K hK=>?_)
   go_simp
   go_wp2_with fail
   refine (mul04_any P M A k c m (x:Int) (y:Int) w2 hfo (modOk_on HM.out hB) hkM).mono ?_
   rintro e w3 ⟨rfl,kb⟩
   replace rf:=rowIs_on rf kb
   replace hB:=onS hB kb
   replace x0:=cellS kb x0
   replace y0:=cellS kb y0
   replace q0:=cellS kb q0
   replace q1:=cellS kb q1
   replace q2:=cellS kb q2
   clear kb
   rw [HIX.out,HIY.out]
   obtain ⟨t,ht⟩:∃ t,t=mulF P M m x y:=⟨_,rfl⟩
   rw [<-ht]
   have HT:=hid ht
   have HIT:=hid (show inV (P ^ M) (t:Nat)=t from inV_nat (by rw [ht]; exact HL.out.mulLt _ _))
   have HIS:=hid (inV_nat hsq)
   clear ht
   refine bkq hK ⟨q0,q1,q2,x0,y0⟩ (h:=fun hHeld=>?_)
   clear hK K
   refine rdq 12 (h:=fun K hK=>?_)
   go_simp
   go_wp2_with fail
   refine (add04_any P M A k c (s:Int) (t:Int) w3 hfo).mono ?_
   rintro e w4 ⟨rfl,kb⟩
   replace rf:=rowIs_on rf kb
   replace hB:=onS hB kb
   replace x0:=cellS kb x0
   replace y0:=cellS kb y0
   replace q0:=cellS kb q0
   replace q1:=cellS kb q1
   replace q2:=cellS kb q2
   clear kb
   rw [HIS.out,HIT.out]
   obtain ⟨s2,hs2⟩:∃ u,u=addF P M s t:=⟨_,rfl⟩
   rw [<-hs2]
   have hs2q:s2<P ^ M:=by rw [hs2]; exact HL.out.addLt _ _
   have HS2:Hid (s2=dotN (addF P M) (mulF P M m) a b (i+1)):=by
    show _=_
    rw [hs2,HT.out,HS.out,HX.out,HY.out]; rfl
   clear hs2
   refine bkq hK ⟨q0,q1,q2,x0,y0⟩ (h:=fun hHeld=>?_)
   clear hK K
   refine tkq 13 (h:=?_)
   refine wpAnyH_done (by kernel_rfl) ?_ _
   clear hHeld
   go_wp2
   go_roundg (gk - 1)
   case measure=>omega
   case rel=>exact ⟨i+1,s2,by go_num,rfl,by omega,by omega,hs2q,HS2,rf,hB⟩
  ·obtain rfl:i=n:=by omega
   have hlt':¬ (i:Int)<(i:Int):=by omega
   have hd:decide ((i:Int)<(i:Int))=false:=by simp
   go_wp2
   go_ret
   exact ⟨by rw [HS.out]; rfl,hB⟩
def WordErrs (q N l:Nat) (u:Nat->Int):List (Prop × Int):=[(l=N,4),(AllIn q l u,2)]
theorem list12_any (P M:Nat) (A:Option Addr) (k c:Nat) (U:Option Addr) (l d N:Nat) (u:Nat->Int) (w:World) (hf:FldOk P M) (h:IntsR w w.heap.size U l u) (hn:l<=9223372036854775807) :
  Calls Tryz.prog 126 #[.agg #[.int .i64 (P:Nat),.int .i64 (M:Nat),.slice A k c],.slice U l d,.int .i64 (N:Nat)] w (ErrsPost (WordErrs (P ^ M) N l u) w):=by
 have HU:=hid h
 clear h
 have hB:Below w.heap.size w (w.alloc (.cells #[.int .i64 (P:Nat),.int .i64 (M:Nat),.slice A k c] 24)):=(Below.refl _ _).alloc (Nat.le_refl _) _
 have rf:=fldBox_row (w:=w) (a:=.int .i64 (P:Nat)) (b:=.int .i64 (M:Nat)) (c:=.slice A k c) (T := 24)
 obtain ⟨w0,hw0⟩:∃ W,W=w.alloc (.cells #[.int .i64 (P:Nat),.int .i64 (M:Nat),.slice A k c] 24):=⟨_,rfl⟩
 rw [<-hw0] at hB rf
 go_enter Tryz.func126, Tryz.ntmps126
 go_upto_region 1 with fail
 rw [<-hw0]
 clear hw0
 have q0:w0.cell? ⟨w.heap.size,0,none⟩=some (.int .i64 (P:Nat)):=rf.cell (i:=0) (by omega)
 have q1:w0.cell? ⟨w.heap.size,1,none⟩=some (.int .i64 (M:Nat)):=rf.cell (i:=1) (by omega)
 have q2:w0.cell? ⟨w.heap.size,2,none⟩=some (.slice A k c):=rf.cell (i:=2) (by omega)
 clear rf
 by_cases hl:l=N
 ·have HL:=hid hl
  have hl':((l:Int) != (N:Int))=false:=by simp [hl]
  clear hl
  go_wp2_with fail
  refine (entries09_any P M A k c U l d u w0 hf (HU.out.on hB) hn).mono ?_
  rintro e w1 ⟨v,rfl,hv,kb⟩
  have HV:=hid hv
  replace hB:=onS hB kb
  clear hv kb q0 q1 q2
  go_wp2
  go_ret
  refine errsPost (.inr ⟨HL.out,?_⟩) hB
  rcases HV.out with ⟨h1,h2⟩ | ⟨h1,h2⟩
  ·exact .inr ⟨h2,h1⟩
  ·exact .inl ⟨h2,h1⟩
 ·have HL:=hid hl
  have hl':((l:Int) != (N:Int))=true:=by simp; omega
  clear hl
  go_wp2
  go_ret
  exact errsPost (.inl ⟨HL.out,rfl⟩) hB
theorem word12_any (P M:Nat) (m:Nat->Nat) (A:Option Addr) (k c N:Nat) (T:Option Addr) (n d:Nat) (V:Nat->Nat->Nat) (U:Option Addr) (l uc:Nat) (u:Nat->Int) (w:World) (h:CodeR w P M m A k N T n V) (hu:IntsR w w.heap.size U l u) (hn:l<=9223372036854775807) :
  Calls Tryz.prog 82 #[.agg #[.int .i64 (P:Nat),.int .i64 (M:Nat),.slice A k c,.int .i64 (N:Nat),.slice T n d],.slice U l uc] w (ErrsPost (WordErrs (P ^ M) N l u) w):=by
 have HC:=hid h
 have HU:=hid hu
 have hN:=h.ln2
 have hfo:=h.fld.1
 clear h hu
 have rf:=codBox_row (w:=w) (a:=.int .i64 (P:Nat)) (b:=.int .i64 (M:Nat)) (c:=.slice A k c) (d:=.int .i64 (N:Nat)) (e:=.slice T n d) (T := 27)
 have hB:Below w.heap.size w (w.alloc (.cells #[.int .i64 (P:Nat),.int .i64 (M:Nat),.slice A k c,.int .i64 (N:Nat),.slice T n d] 27)):=(Below.refl _ _).alloc (Nat.le_refl _) _
 obtain ⟨w1,hw1⟩:∃ W,W=w.alloc (.cells #[.int .i64 (P:Nat),.int .i64 (M:Nat),.slice A k c,.int .i64 (N:Nat),.slice T n d] 27):=⟨_,rfl⟩
 rw [<-hw1] at hB rf
 go_enter Tryz.func82, Tryz.ntmps82
 go_upto_region 1 with fail
 rw [<-hw1]
 clear hw1
 have q0:w1.cell? ⟨w.heap.size,0,none⟩=some (.int .i64 (P:Nat)):=rf.cell (i:=0) (by omega)
 have q1:w1.cell? ⟨w.heap.size,1,none⟩=some (.int .i64 (M:Nat)):=rf.cell (i:=1) (by omega)
 have q2:w1.cell? ⟨w.heap.size,2,none⟩=some (.slice A k c):=rf.cell (i:=2) (by omega)
 have q3:w1.cell? ⟨w.heap.size,3,none⟩=some (.int .i64 (N:Nat)):=rf.cell (i:=3) (by omega)
 have q4:w1.cell? ⟨w.heap.size,4,none⟩=some (.slice T n d):=rf.cell (i:=4) (by omega)
 go_wp2_with fail
 have h1:=HC.out.on hB
 refine (check12_any (P:Int) (M:Int) A k c _ (N:Int) T n d _ _ w1 h1.ints h1.rows).mono ?_
 rintro e w2 ⟨v,rfl,hv,kb⟩
 obtain rfl:v=0:=FirstErr.unique hv HC.out.errs
 replace hB:=onS hB kb
 replace q0:=cellS kb q0
 replace q1:=cellS kb q1
 replace q2:=cellS kb q2
 replace q3:=cellS kb q3
 clear kb q4 rf hv h1
 go_wp2_with fail
 refine (list12_any P M A k c U l uc N u w2 hfo (HU.out.on hB) hn).mono ?_
 rintro e w3 ⟨v,rfl,hv,kb⟩
 have HV:=hid hv
 replace hB:=onS hB kb
 clear hv kb q0 q1 q2 q3
 go_wp2
 go_ret
 exact errsPost HV.out hB
def cosN (q r:Nat):Nat:=if q ^ r<=65536 then q ^ r else 0
theorem cosets_any (P M:Nat) (m:Nat->Nat) (A:Option Addr) (k c N:Nat) (T:Option Addr) (n d:Nat) (V:Nat->Nat->Nat) (w:World) (h:CodeR w P M m A k N T n V) (hnN:n<=N) :
  Calls Tryz.prog 84 #[.agg #[.int .i64 (P:Nat),.int .i64 (M:Nat),.slice A k c,.int .i64 (N:Nat),.slice T n d]] w fun e w'=>e=.returned (.int .i64 (cosN (P ^ M) (N - n):Nat))/\Below w.heap.size w w':=by
 have hN:=h.ln2
 have hfo:=h.fld.1
 have hq2:=(fieldLaws h.fld).two
 have hq256:=hfo.2.2.2
 have HORD:=hid (ordV_ok hfo)
 clear h
 have rf:=codBox_row (w:=w) (a:=.int .i64 (P:Nat)) (b:=.int .i64 (M:Nat)) (c:=.slice A k c) (d:=.int .i64 (N:Nat)) (e:=.slice T n d) (T := 27)
 have hB:Below w.heap.size w (w.alloc (.cells #[.int .i64 (P:Nat),.int .i64 (M:Nat),.slice A k c,.int .i64 (N:Nat),.slice T n d] 27)):=(Below.refl _ _).alloc (Nat.le_refl _) _
 obtain ⟨w1,hw1⟩:∃ W,W=w.alloc (.cells #[.int .i64 (P:Nat),.int .i64 (M:Nat),.slice A k c,.int .i64 (N:Nat),.slice T n d] 27):=⟨_,rfl⟩
 rw [<-hw1] at hB rf
 go_enter Tryz.func84, Tryz.ntmps84
 go_upto_region 1 with fail
 rw [<-hw1]
 clear hw1
 have q4:w1.cell? ⟨w.heap.size,4,none⟩=some (.slice T n d):=rf.cell (i:=4) (by omega)
 go_wp2
 clear q4
 go_loopg [3,4] N (fun gg ov iv wx=>∃ i o:Nat,iv=.int .i64 (i:Nat)/\ov=.int .i64 (o:Nat)/\n<=i/\i<=N/\N<=i+gg/\Hid (o=(P ^ M) ^ (i - n))/\o<=65536/\wx.rowIs w.heap.size 27 5 (codCell (.int .i64 (P:Nat)) (.int .i64 (M:Nat)) (.slice A k c) (.int .i64 (N:Nat)) (.slice T n d))/\Below w.heap.size w wx)
 case atStart=>exact ⟨n,1,rfl,rfl,Nat.le_refl _,hnN,by omega,by show _=_; rw [Nat.sub_self,Nat.pow_zero],by omega,rf,hB⟩
 case round =>
  clear rf hB
  obtain ⟨i,o,rfl,rfl,hni,hi,hig,HO,ho,rf,hB⟩:=hrel
  have q0:wr.cell? ⟨w.heap.size,0,none⟩=some (.int .i64 (P:Nat)):=rf.cell (i:=0) (by omega)
  have q1:wr.cell? ⟨w.heap.size,1,none⟩=some (.int .i64 (M:Nat)):=rf.cell (i:=1) (by omega)
  have q2:wr.cell? ⟨w.heap.size,2,none⟩=some (.slice A k c):=rf.cell (i:=2) (by omega)
  have q3:wr.cell? ⟨w.heap.size,3,none⟩=some (.int .i64 (N:Nat)):=rf.cell (i:=3) (by omega)
  by_cases hlt:i<N
  ·have hlt':(i:Int)<(N:Int):=by omega
   go_wp2_with fail
   refine (order_any (P:Int) (M:Int) A k c wr).mono ?_
   rintro e w2 ⟨rfl,kb⟩
   replace rf:=rowIs_on rf kb
   replace hB:=onS hB kb
   clear kb q0 q1 q2 q3
   rw [HORD.out]
   obtain ⟨q,hq⟩:∃ q,q=P ^ M:=⟨_,rfl⟩
   rw [<-hq] at hq2 hq256 HO ⊢
   have e1:(o:Int)*(q:Int)=((o*q:Nat):Int):=by push_cast; rfl
   have hoq:o*q<=65536*256:=Nat.mul_le_mul ho hq256
   obtain ⟨o2,ho2⟩:∃ x,x=o*q:=⟨_,rfl⟩
   rw [<-ho2] at e1 hoq
   have HO2:Hid (o2=q ^ (i+1 - n)):=by show _=_; rw [ho2,HO.out,show i+1 - n=i - n+1 by omega,Nat.pow_succ]
   clear ho2
   have e2:wrap64 ((o:Int)*(q:Int))=(o2:Int):=by rw [e1]; unfold wrap64; omega
   by_cases hbig:o2 > 65536
   ·have hb':(o2:Int) > 65536:=by omega
    have hfin:Hid (cosN (P ^ M) (N - n)=0):=by
     show cosN _ _=0
     unfold cosN
     rw [if_neg]
     have h1:q ^ (i+1 - n)<=q ^ (N - n):=Nat.pow_le_pow_right (by omega) (by omega)
     have h2:=HO2.out
     rw [<-hq]
     omega
    clear hq
    go_wp2
    go_ret
    exact ⟨by rw [hfin.out]; rfl,hB⟩
   ·have hb':¬ (o2:Int) > 65536:=by omega
    rw [hq] at HO2
    clear hq
    go_wp2
    go_roundg (gk - 1)
    case measure=>omega
    case rel=>exact ⟨i+1,o2,by go_num,rfl,by omega,by omega,by omega,HO2,by omega,rf,hB⟩
  ·have hlt':¬ (i:Int)<(N:Int):=by omega
   obtain rfl:i=N:=by omega
   have hfin:Hid (cosN (P ^ M) (i - n)=o):=by
    show cosN _ _=o
    unfold cosN
    have h2:=HO.out
    rw [if_pos (by omega)]
    omega
   go_wp2
   go_ret
   exact ⟨by rw [hfin.out]; rfl,hB⟩
theorem step_append_natX {w:World} {ops:Array Oper} {o:Oper} {a:Act} {K:Act->World->Prop} {Q:Exit->Act->World->Prop} {E:Prop} (hgd:o.guard=none) (sl x:Operand)
  (ho:o.op=.call { callee:=.builtin .append,args:=#[sl,x],argTypes:=#[22, 22] })
  {base n:Nat} {v:Value} {p:Nat->Nat} (h:Own w base 3 1 v n (fun j _=>.int .i64 (p j:Nat))) (hv:a.eval sl=v) {ad:Addr} {c:Nat} {r:Nat} (hx:a.eval x=.slice (some ad) 1 c)
  (hcell:w.cell? (ad.add 0)=some (.int .i64 (r:Nat))) (hbase:base<=w.heap.size) (hN:n<=1048576)
  (K':∀ v' w',Own w' base 3 1 v' (n+1) (fun j _=>.int .i64 ((if j=n then r else p j:Nat):Nat))->w.grownBy w' v.ownBlock->(v'.ownBlock=v.ownBlock∨v'.ownBlock=some w.heap.size)->K (a.put o.dst v') w') :
  if Region.wanted o (yielded ops a.tmps)=true then Oper.wp Tryz.prog o a w K Q else E:=by
 obtain ⟨i0,qi0,qz0,qz1,qz2⟩:=info_parts Tryz.infoInt
 exact step_append_one w hgd sl x _ ho base 3 i0 _ 1 8 Tryz.underlying22 qi0 qz0 qz1 qz2 rfl (by omega) v n _ hv (h.congr fun i hi j _=>by rw [if_neg (by omega)]) ad c hx (fun j hj=>by
   obtain rfl:j=0:=by omega
   rw [if_pos rfl]
   exact hcell) (fun _ _=>rfl) (by unfold maxLen; omega) (by omega) hbase K'
def SynPost (P M:Nat) (m:Nat->Nat) (N n:Nat) (V:Nat->Nat->Nat) (l:Nat) (u:Nat->Int) (w:World) (e:Ending) (w':World):Prop :=
 Below w.heap.size w w'/\∃ v:Int,FirstErr (WordErrs (P ^ M) N l u) v/\((v≠0/\e=.returned (.tuple #[.slice none 0 0,.int .i64 v])) ∨
  (v=0/\∃ (a:Nat) (W:Nat->Nat->Nat) (s:Value),NullRel (P ^ M) (addF P M) (mulF P M m) (negF P M) n N V a W/\e=.returned (.tuple #[s,.int .i64 0]) /\
   Own w' w.heap.size 3 1 s a (fun i _=>.int .i64 (dotN (addF P M) (mulF P M m) (fun j=>(u j).toNat) (W i) N:Nat))))
theorem syn12_any (P M:Nat) (m:Nat->Nat) (A:Option Addr) (k c N:Nat) (T:Option Addr) (n d:Nat) (V:Nat->Nat->Nat) (U:Option Addr) (l uc:Nat) (u:Nat->Int) (w:World) (h:CodeR w P M m A k N T n V) (hu:IntsR w w.heap.size U l u) (hn:l<=9223372036854775807) :
  Calls Tryz.prog 85 #[.agg #[.int .i64 (P:Nat),.int .i64 (M:Nat),.slice A k c,.int .i64 (N:Nat),.slice T n d],.slice U l uc] w (SynPost P M m N n V l u w):=by
 have HC:=hid h
 have HU:=hid hu
 have hN:=h.ln2
 have hfo:=h.fld.1
 have HF:=hid h.fld
 clear h hu
 have rf:=codBox_row (w:=w) (a:=.int .i64 (P:Nat)) (b:=.int .i64 (M:Nat)) (c:=.slice A k c) (d:=.int .i64 (N:Nat)) (e:=.slice T n d) (T := 27)
 have hB:Below w.heap.size w (w.alloc (.cells #[.int .i64 (P:Nat),.int .i64 (M:Nat),.slice A k c,.int .i64 (N:Nat),.slice T n d] 27)):=(Below.refl _ _).alloc (Nat.le_refl _) _
 obtain ⟨w1,hw1⟩:∃ W,W=w.alloc (.cells #[.int .i64 (P:Nat),.int .i64 (M:Nat),.slice A k c,.int .i64 (N:Nat),.slice T n d] 27):=⟨_,rfl⟩
 rw [<-hw1] at hB rf
 go_enter Tryz.func85, Tryz.ntmps85
 go_upto_region 1 with fail
 rw [<-hw1]
 clear hw1
 have q0:w1.cell? ⟨w.heap.size,0,none⟩=some (.int .i64 (P:Nat)):=rf.cell (i:=0) (by omega)
 have q1:w1.cell? ⟨w.heap.size,1,none⟩=some (.int .i64 (M:Nat)):=rf.cell (i:=1) (by omega)
 have q2:w1.cell? ⟨w.heap.size,2,none⟩=some (.slice A k c):=rf.cell (i:=2) (by omega)
 have q3:w1.cell? ⟨w.heap.size,3,none⟩=some (.int .i64 (N:Nat)):=rf.cell (i:=3) (by omega)
 have q4:w1.cell? ⟨w.heap.size,4,none⟩=some (.slice T n d):=rf.cell (i:=4) (by omega)
 go_wp2_with fail
 refine (word12_any P M m A k c N T n d V U l uc u w1 (HC.out.on hB) (HU.out.on hB) hn).mono ?_
 rintro e w2 ⟨v,rfl,hv,kb⟩
 have HV:=hid hv
 replace rf:=rowIs_on rf kb
 replace hB:=onS hB kb
 clear kb hv q0 q1 q2 q3 q4
 by_cases hv0:v=0
 ·subst hv0
  have HLN:Hid (l=N/\AllIn (P ^ M) l u):=by
   rcases HV.out with ⟨_,h9⟩ | ⟨h1,⟨_,h9⟩ | ⟨h2,_⟩⟩
   ·cases h9
   ·cases h9
   ·exact ⟨h1,h2⟩
  have q0:w2.cell? ⟨w.heap.size,0,none⟩=some (.int .i64 (P:Nat)):=rf.cell (i:=0) (by omega)
  have q1:w2.cell? ⟨w.heap.size,1,none⟩=some (.int .i64 (M:Nat)):=rf.cell (i:=1) (by omega)
  have q2:w2.cell? ⟨w.heap.size,2,none⟩=some (.slice A k c):=rf.cell (i:=2) (by omega)
  have q3:w2.cell? ⟨w.heap.size,3,none⟩=some (.int .i64 (N:Nat)):=rf.cell (i:=3) (by omega)
  have q4:w2.cell? ⟨w.heap.size,4,none⟩=some (.slice T n d):=rf.cell (i:=4) (by omega)
  go_wp2_with fail
  refine (parity_any P M m A k c N T n d V w2 (HC.out.on hB)).mono ?_
  rintro e w3 ⟨lv,a,W,rfl,hM,kb,hrel⟩
  replace rf:=rowIs_on rf kb
  replace hB:=onS hB kb
  have HREL:=hid hrel
  obtain ⟨p,hE⟩:=hrel.rref
  have haN:a<=N:=hE.le_c
  have HWL:=hid hE.lt
  have HM:=hid hM
  have HSZ:=hid hB.size
  obtain ⟨LA,lc,hlv⟩:=hM.shape
  subst hlv
  clear kb hM hrel hE q0 q1 q2 q3 q4
  have HRF:=hid rf
  have HB3:=hid hB
  obtain ⟨w9,hw9⟩:∃ W,W=w3:=⟨_,rfl⟩
  go_wp2
  clear hw9 w9 rf hB
  go_loopg [8,9] a (fun gg sv iv wx=>∃ i:Nat,iv=.int .i64 (i:Nat)/\i<=a/\a<=i+gg/\Own wx w3.heap.size 3 1 sv i (fun j _=>.int .i64 (dotN (addF P M) (mulF P M m) (fun j=>(u j).toNat) (W j) N:Nat))/\Below w3.heap.size w3 wx)
  case atStart=>exact ⟨0,rfl,by omega,by omega,Own.nil _ _ _ _ _,Below.refl _ _⟩
  case round =>
   obtain ⟨i,rfl,hi,hig,hO,hB⟩:=hrel
   have hi0:(0:Int)<=(i:Int):=by omega
   obtain ⟨SA,sc,hsv⟩:=hO.shape
   subst hsv
   by_cases hlt:i<a
   ·have hlt':(i:Int)<(a:Int):=by omega
    obtain ⟨tb,to0,RA,rc,hTe,htb0,htb,t0,_,hrow⟩:=HM.out.row hlt
    subst hTe
    have HROW:=hid hrow
    have HO:=hid hO
    have HT0:=hid t0
    replace t0:=cellS hB t0
    have rf:=rowIs_on HRF.out hB
    have q0:wr.cell? ⟨w.heap.size,0,none⟩=some (.int .i64 (P:Nat)):=rf.cell (i:=0) (by omega)
    have q1:wr.cell? ⟨w.heap.size,1,none⟩=some (.int .i64 (M:Nat)):=rf.cell (i:=1) (by omega)
    have q2:wr.cell? ⟨w.heap.size,2,none⟩=some (.slice A k c):=rf.cell (i:=2) (by omega)
    obtain ⟨w4,hw4⟩:∃ X,X=wr:=⟨_,rfl⟩
    subst hw4
    clear hrow hO
    go_wp2
    refine wp_region_held_drew (S:=fun w'=>w'.cell? ⟨w.heap.size,0,none⟩=some (.int .i64 (P:Nat))/\w'.cell? ⟨w.heap.size,1,none⟩=some (.int .i64 (M:Nat))/\w'.cell? ⟨w.heap.size,2,none⟩=some (.slice A k c)/\w'.cell? ⟨tb,to0+i,none⟩=some (.slice RA N rc)) (by kernel_rfl) ⟨cellS (Below.refl _ _).drew q0,cellS (Below.refl _ _).drew q1,cellS (Below.refl _ _).drew q2,cellS (Below.refl _ _).drew t0⟩ (fun hHeld=>?_)
    obtain ⟨w5,hw⟩:∃ W,W=World.drew w4:=⟨_,rfl⟩
    have kb:Below w4.heap.size w4 w5:=by rw [hw]; exact (Below.refl _ _).drew
    rw [<-hw] at hHeld ⊢
    clear hw
    replace rf:=rowIs_on rf kb
    replace hB:=onS hB kb
    replace t0:=cellS kb t0
    replace HO:=hid (HO.out.on kb)
    clear kb q0 q1 q2
    refine tkq 0 (h:=tkq 1 (h:=tkq 2 (h:=tkq 3 (h:=tkq 4 (h:=tkq 5 (h:=tkq 6 (h:=tkq 7 (h:=?_))))))))
    refine rdq 8 (h:=fun K hK=>?_)
    go_simp
    go_wp2_with fail
    have hln:=HLN.out.1
    have hin:=HLN.out.2
    have hB0:=onS HB3.out hB
    have huR:IntsR w5 w5.heap.size U N (fun i=>(((u i).toNat:Nat):Int)):=by
     rw [<-hln]
     exact (HU.out.on hB0).congr fun i hi=>by have:=(hin i hi).1; show u i=(((u i).toNat:Nat):Int); omega
    have huq:∀ i,i<N->(u i).toNat<P ^ M:=fun i hi=>by have:=hin i (by omega); omega
    subst hln
    refine (dot04_any P M A k c m l U (RA) uc rc (fun j=>(u j).toNat) (W i) w5 HF.out (HC.out.on hB0).mod (HC.out.km) huR ((HROW.out.on hB).rd rfl) huq (fun j hj=>HWL.out i hlt j hj) (by omega)).mono ?_
    rintro e w6 ⟨rfl,kb⟩
    obtain ⟨x,hx⟩:∃ x,x=dotN (addF P M) (mulF P M m) (fun j=>(u j).toNat) (W i) l:=⟨_,rfl⟩
    rw [<-hx]
    have HX:=hid hx
    clear hx huR huq hin hB0
    replace rf:=rowIs_on rf kb
    replace hB:=onS hB kb
    replace t0:=cellS kb t0
    replace HO:=hid (HO.out.on kb)
    clear kb HROW
    refine bkq hK ⟨rf.cell (i:=0) (by omega),rf.cell (i:=1) (by omega),rf.cell (i:=2) (by omega),t0⟩ (h:=fun hHeld=>?_)
    clear hK K
    refine rdq 9 (h:=fun K hK=>?_)
    go_simp
    obtain ⟨w7,hw⟩:∃ W,W=World.alloc w6 (Obj.cells #[.int .i64 (x:Nat)] 3):=⟨_,rfl⟩
    have kb:Below w6.heap.size w6 w7:=by rw [hw]; exact (Below.refl _ _).alloc (Nat.le_refl _) _
    have HCX:Hid (w7.cell? ((⟨w6.heap.size,0,none⟩:Addr).add 0)=some (.int .i64 (x:Nat))):=by rw [hw]; exact tbox2
    rw [<-hw]
    clear hw
    replace rf:=rowIs_on rf kb
    replace hB:=onS hB kb
    replace t0:=cellS kb t0
    replace HO:=hid (HO.out.on kb)
    clear kb
    refine bkq hK ⟨rf.cell (i:=0) (by omega),rf.cell (i:=1) (by omega),rf.cell (i:=2) (by omega),t0⟩ (h:=fun hHeld=>?_)
    clear hK K
    refine rdq 10 (h:=fun K hK=>?_)
    refine step_append_natX rfl (.tmp 24) (.tmp 33) rfl HO.out rfl (ad:=⟨w6.heap.size,0,none⟩) (c:=1) rfl HCX.out hB.size (by omega) ?_
    intro v9 w8 o1 o2 o3
    have HO9:=hid (o1.congr (f':=fun j _=>.int .i64 (dotN (addF P M) (mulF P M m) (fun j=>(u j).toNat) (W j) l:Nat)) fun j hj q _=>by
     by_cases e:j=i
     ·subst e; rw [if_pos rfl,HX.out]
     ·rw [if_neg e])
    have hB9:=hB.grown o2 hB.size (fun q e=>(HO.out.lt q e).1)
    have rf9:=rowIs_on HRF.out hB9
    have t9:=cellS hB9 HT0.out
    obtain ⟨SA2,sc2,hsv⟩:=HO9.out.shape
    subst hsv
    refine bkq hK ⟨rf9.cell (i:=0) (by omega),rf9.cell (i:=1) (by omega),rf9.cell (i:=2) (by omega),t9⟩ (h:=fun hHeld=>?_)
    clear hK K o1 o2 o3 rf t0 hB
    refine tkq 11 (h:=?_)
    refine wpAnyH_done (by kernel_rfl) ?_ _
    clear hHeld rf9 t9
    go_wp2
    go_roundg (gk - 1)
    case measure=>omega
    case rel=>exact ⟨i+1,by go_num,by omega,by omega,HO9.out,hB9⟩
   ·obtain rfl:i=a:=by omega
    have hlt':¬ (i:Int)<(i:Int):=by omega
    have hB0:=onS HB3.out hB
    have HO:=hid (hO.mono HSZ.out)
    clear hO
    go_wp2
    go_ret2
    exact ⟨hB0,0,HV.out,.inr ⟨rfl,i,W,_,HREL.out,rfl,HO.out⟩⟩
 ·have hvn:(v != 0)=true:=by simpa using hv0
  have HV0:=hid hv0
  clear hv0 rf
  go_wp2
  go_ret2
  exact ⟨hB,v,HV.out,.inl ⟨HV0.out,rfl⟩⟩
theorem disN_none {f g:Nat->Int} {n:Nat}:disN f g n=0↔∀ k,k<n->f k=g k:=by
 induction n with
 | zero=>exact ⟨fun _ k hk=>absurd hk (by omega),fun _=>rfl⟩
 | succ n ih =>
  show disN f g n+(if f n=g n then 0 else 1)=0↔_
  constructor
  ·intro h k hk
   by_cases e:k=n
   ·subst e
    by_cases h2:f k=g k
    ·exact h2
    ·rw [if_neg h2] at h; omega
   ·exact ih.1 (by omega) k (by omega)
  ·intro h
   rw [ih.2 fun k hk=>h k (by omega),if_pos (h n (by omega))]
def TabE (row:Nat->List (Prop × Int)):Nat->Int->Prop
 | 0,v=>v=0
 | t+1,v=>(v≠0/\TabE row t v)∨(TabE row t 0/\FirstErr (row t) v)
theorem TabE.unique {row:Nat->List (Prop × Int)}:∀ {t:Nat} {v u:Int},TabE row t v->TabE row t u->v=u
 | 0,_,_,h1,h2=>Eq.trans h1 (Eq.symm h2)
 | t + 1, v, u, h1, h2 => by
  rcases h1 with ⟨a,h1⟩ | ⟨a,h1⟩
  ·rcases h2 with ⟨_,h2⟩ | ⟨b,_⟩
   ·exact TabE.unique h1 h2
   ·exact absurd (TabE.unique h1 b) a
  ·rcases h2 with ⟨b,h2⟩ | ⟨_,h2⟩
   ·exact absurd (TabE.unique h2 a) b
   ·exact FirstErr.unique h1 h2
theorem TabE.later {row:Nat->List (Prop × Int)} {t:Nat} {v:Int} (h:TabE row t v) (hv:v≠0):∀ {m:Nat},t<=m->TabE row m v:=by
 intro m
 induction m with
 | zero =>
  intro hm
  have e:t=0:=by omega
  rw [<-e]; exact h
 | succ m ih =>
  intro hm
  by_cases e:t=m+1
  ·rw [<-e]; exact h
  ·exact .inl ⟨hv,ih (by omega)⟩
def RowErrs (q N:Nat) (tl:Nat->Nat) (U:Nat->Nat->Int) (D:Nat->Nat->Prop) (t:Nat):List (Prop × Int) :=
 [(tl t=N,4),(AllIn q (tl t) (U t),2),(∀ j,j<t->D j t,18)]
def synT (add mul:Nat->Nat->Nat) (W:Nat->Nat->Nat) (N:Nat) (U:Nat->Nat->Int) (t i:Nat):Nat:=dotN add mul (fun j=>(U t j).toNat) (W i) N
def disT (a:Nat) (S:Nat->Nat->Nat) (j t:Nat):Prop:=∃ i,i<a/\S j i≠S t i
theorem dotN_congr {add mul:Nat->Nat->Nat} {a a' b b':Nat->Nat}:∀ n,(∀ i,i<n->a i=a' i/\b i=b' i)->dotN add mul a b n=dotN add mul a' b' n
 | 0,_=>rfl
 | n+1,h=>by
  show add (dotN add mul a b n) (mul (a n) (b n))=add (dotN add mul a' b' n) (mul (a' n) (b' n))
  rw [dotN_congr n fun i hi=>h i (by omega),(h n (by omega)).1,(h n (by omega)).2]
theorem syn_same {q n N a a':Nat} {add mul:Nat->Nat->Nat} {neg:Nat->Nat} {V W W':Nat->Nat->Nat} (hL:FieldLaws q add mul) (hneg:∀ x,x<q->neg x<q/\add x (neg x)=0) (hV:∀ i,i<n->∀ j,j<N->V i j<q) (h:NullRel q add mul neg n N V a W) (h':NullRel q add mul neg n N V a' W') (U:Nat->Nat->Int) :
  a=a'/\(∀ t i,i<a->synT add mul W N U t i=synT add mul W' N U t i)/\disT a (synT add mul W N U)=disT a' (synT add mul W' N U):=by
 obtain ⟨e1,e2⟩:=h.same hL hneg hV h'
 have e3:∀ t i,i<a->synT add mul W N U t i=synT add mul W' N U t i:=fun t i hi=>dotN_congr N fun j hj=>⟨rfl,e2 i hi j hj⟩
 refine ⟨e1,e3,?_⟩
 funext j t
 refine propext ⟨?_,?_⟩
 ·rintro ⟨i,hi,hne⟩
  exact ⟨i,by omega,by rw [<-e3 j i hi,<-e3 t i hi]; exact hne⟩
 ·rintro ⟨i,hi,hne⟩
  have hi':i<a:=by omega
  exact ⟨i,hi',by rw [e3 j i hi',e3 t i hi']; exact hne⟩
def TabV (q N n m:Nat) (tl:Nat->Nat) (U:Nat->Nat->Int) (D:Nat->Nat->Prop) (v:Int):Prop :=
 (cosN q (N - n)=0/\v=8)∨(cosN q (N - n)≠0/\((m≠cosN q (N - n)/\v=3)∨(m=cosN q (N - n)/\TabE (RowErrs q N tl U D) m v)))
theorem TabV.unique {q N n m:Nat} {tl:Nat->Nat} {U:Nat->Nat->Int} {D:Nat->Nat->Prop} {v u:Int} (h:TabV q N n m tl U D v) (h':TabV q N n m tl U D u):v=u:=by
 rcases h with ⟨a1,e1⟩ | ⟨a1,⟨b1,e1⟩ | ⟨b1,e1⟩⟩ <;> rcases h' with ⟨a2,e2⟩ | ⟨a2,⟨b2,e2⟩ | ⟨b2,e2⟩⟩
 ·rw [e1,e2]
 ·exact absurd a1 a2
 ·exact absurd a1 a2
 ·exact absurd a2 a1
 ·rw [e1,e2]
 ·exact absurd b2 b1
 ·exact absurd a2 a1
 ·exact absurd b1 b2
 ·exact e1.unique e2
def TablePost (P M:Int) (k:Nat) (f:Nat->Int) (N:Int) (n:Nat) (ln:Nat->Nat) (V:Nat->Nat->Int) (m:Nat) (tl:Nat->Nat) (U:Nat->Nat->Int) (w:World) (e:Ending) (w':World):Prop :=
 Below w.heap.size w w'/\∃ v:Int,e=.returned (.int .i64 v)/\((v≠0/\FirstErr (CodeErrs P M k f N n ln V) v) ∨
  (FirstErr (CodeErrs P M k f N n ln V) 0/\∀ (P' M' N' a:Nat) (W:Nat->Nat->Nat),P=P'->M=M'->N=N'->NullRel (P' ^ M') (addF P' M') (mulF P' M' fun i=>(f i).toNat) (negF P' M') n N' (natT V) a W ->
   TabV (P' ^ M') N' n m tl U (disT a (synT (addF P' M') (mulF P' M' fun i=>(f i).toNat) W N' U)) v))
theorem table55_any (P M:Int) (A:Option Addr) (k c:Nat) (f:Nat->Int) (N:Int) (T:Option Addr) (n d:Nat) (ln:Nat->Nat) (V:Nat->Nat->Int) (T2:Option Addr) (m d2:Nat) (tl:Nat->Nat) (U:Nat->Nat->Int) (w:World) (hr:IntsR w w.heap.size A k f) (h:IntRows w T n ln V) (h2:IntRows w T2 m tl U) (hm:m<=1048576) :
  Calls Tryz.prog 37 #[.agg #[.int .i64 P,.int .i64 M,.slice A k c,.int .i64 N,.slice T n d],.slice T2 m d2] w (TablePost P M k f N n ln V m tl U w):=by
 have HT:=hid h
 have HR:=hid hr
 have H2:=hid h2
 clear h hr h2
 have rf:=codBox_row (w:=w) (a:=.int .i64 P) (b:=.int .i64 M) (c:=.slice A k c) (d:=.int .i64 N) (e:=.slice T n d) (T := 27)
 have hB:Below w.heap.size w (w.alloc (.cells #[.int .i64 P,.int .i64 M,.slice A k c,.int .i64 N,.slice T n d] 27)):=(Below.refl _ _).alloc (Nat.le_refl _) _
 obtain ⟨w1,hw1⟩:∃ W,W=w.alloc (.cells #[.int .i64 P,.int .i64 M,.slice A k c,.int .i64 N,.slice T n d] 27):=⟨_,rfl⟩
 rw [<-hw1] at hB rf
 go_enter Tryz.func37, Tryz.ntmps37
 go_upto_region 1 with fail
 rw [<-hw1]
 clear hw1
 have q0:w1.cell? ⟨w.heap.size,0,none⟩=some (.int .i64 P):=rf.cell (i:=0) (by omega)
 have q1:w1.cell? ⟨w.heap.size,1,none⟩=some (.int .i64 M):=rf.cell (i:=1) (by omega)
 have q2:w1.cell? ⟨w.heap.size,2,none⟩=some (.slice A k c):=rf.cell (i:=2) (by omega)
 have q3:w1.cell? ⟨w.heap.size,3,none⟩=some (.int .i64 N):=rf.cell (i:=3) (by omega)
 have q4:w1.cell? ⟨w.heap.size,4,none⟩=some (.slice T n d):=rf.cell (i:=4) (by omega)
 go_wp2_with fail
 refine (check12_any P M A k c f N T n d ln V w1 (HR.out.on hB) (HT.out.on hB)).mono ?_
 rintro e w2 ⟨v,rfl,hv,kb⟩
 have HV:=hid hv
 replace rf:=rowIs_on rf kb
 replace hB:=onS hB kb
 clear kb hv q0 q1 q2 q3 q4
 by_cases hv0:v=0
 ·subst hv0
  obtain ⟨P,M,N,rfl,rfl,rfl,hC⟩:=codeR_of HR.out HT.out HV.out
  have HC:=hid hC
  have hN:=hC.ln2
  have hnN:=hC.n_le
  have hL:=fieldLaws hC.fld
  have hP0:0<P:=by have:=hC.fld.1.1; omega
  clear hC
  obtain ⟨m',hm'⟩:∃ x,x=fun i=>(f i).toNat:=⟨_,rfl⟩
  have HP:Hid (∀ (v:Int),(∀ (a:Nat) (W:Nat->Nat->Nat),NullRel (P ^ M) (addF P M) (mulF P M m') (negF P M) n N (natT V) a W->TabV (P ^ M) N n m tl U (disT a (synT (addF P M) (mulF P M m') W N U)) v) ->
    ∀ (P' M' N' a:Nat) (W:Nat->Nat->Nat),(P:Int)=P'->(M:Int)=M'->(N:Int)=N'->NullRel (P' ^ M') (addF P' M') (mulF P' M' fun i=>(f i).toNat) (negF P' M') n N' (natT V) a W->TabV (P' ^ M') N' n m tl U (disT a (synT (addF P' M') (mulF P' M' fun i=>(f i).toNat) W N' U)) v):=by
   intro v hh P' M' N' a W e1 e2 e3 hrel
   obtain rfl:P=P':=by omega
   obtain rfl:M=M':=by omega
   obtain rfl:N=N':=by omega
   rw [<-hm'] at hrel ⊢
   exact hh a W hrel
  rw [<-hm'] at HC hL
  clear hm'
  have q0:w2.cell? ⟨w.heap.size,0,none⟩=some (.int .i64 (P:Nat)):=rf.cell (i:=0) (by omega)
  have q1:w2.cell? ⟨w.heap.size,1,none⟩=some (.int .i64 (M:Nat)):=rf.cell (i:=1) (by omega)
  have q2:w2.cell? ⟨w.heap.size,2,none⟩=some (.slice A k c):=rf.cell (i:=2) (by omega)
  have q3:w2.cell? ⟨w.heap.size,3,none⟩=some (.int .i64 (N:Nat)):=rf.cell (i:=3) (by omega)
  have q4:w2.cell? ⟨w.heap.size,4,none⟩=some (.slice T n d):=rf.cell (i:=4) (by omega)
  go_wp2_with fail
  refine (cosets_any P M m' A k c N T n d (natT V) w2 (HC.out.on hB) hnN).mono ?_
  rintro e w3 ⟨rfl,kb⟩
  replace rf:=rowIs_on rf kb
  replace hB:=onS hB kb
  clear kb q0 q1 q2 q3 q4
  obtain ⟨C,hC⟩:∃ x,x=cosN (P ^ M) (N - n):=⟨_,rfl⟩
  rw [<-hC]
  have HCO:=hid hC
  clear hC
  by_cases hc0:C=0
  ·have hc0':((C:Int) == 0)=true:=by simp [hc0]
   have hv8:Hid (∀ (a:Nat) (W:Nat->Nat->Nat),NullRel (P ^ M) (addF P M) (mulF P M m') (negF P M) n N (natT V) a W->TabV (P ^ M) N n m tl U (disT a (synT (addF P M) (mulF P M m') W N U)) 8):=fun a W _=>.inl ⟨by rw [<-HCO.out,hc0],rfl⟩
   clear hc0
   go_wp2
   go_ret
   exact ⟨hB,8,rfl,.inr ⟨HV.out,HP.out 8 hv8.out⟩⟩
  ·have hc0':((C:Int) == 0)=false:=by simp; omega
   have HC0:=hid hc0
   clear hc0
   have q0:w3.cell? ⟨w.heap.size,0,none⟩=some (.int .i64 (P:Nat)):=rf.cell (i:=0) (by omega)
   have q1:w3.cell? ⟨w.heap.size,1,none⟩=some (.int .i64 (M:Nat)):=rf.cell (i:=1) (by omega)
   have q2:w3.cell? ⟨w.heap.size,2,none⟩=some (.slice A k c):=rf.cell (i:=2) (by omega)
   have q3:w3.cell? ⟨w.heap.size,3,none⟩=some (.int .i64 (N:Nat)):=rf.cell (i:=3) (by omega)
   have q4:w3.cell? ⟨w.heap.size,4,none⟩=some (.slice T n d):=rf.cell (i:=4) (by omega)
   go_wp2_with fail
   refine (cosets_any P M m' A k c N T n d (natT V) w3 (HC.out.on hB) hnN).mono ?_
   rintro e w4 ⟨rfl,kb⟩
   replace rf:=rowIs_on rf kb
   replace hB:=onS hB kb
   clear kb q0 q1 q2 q3 q4
   rw [<-HCO.out]
   by_cases hmC:m=C
   ·have hmC':((m:Int) != (C:Int))=false:=by simp [hmC]
    have HMC:=hid hmC
    clear hmC
    have HB4:=hid hB
    obtain ⟨w9,hw9⟩:∃ W,W=w4:=⟨_,rfl⟩
    go_wp2
    clear hw9 w9 hB
    go_loopg [6,7] m (fun gg sv iv wx=>∃ t:Nat,iv=.int .i64 (t:Nat)/\t<=m/\m<=t+gg/\Hid (∀ (a:Nat) (W:Nat->Nat->Nat),NullRel (P ^ M) (addF P M) (mulF P M m') (negF P M) n N (natT V) a W->MTab wx w4.heap.size sv t a (synT (addF P M) (mulF P M m') W N U)/\TabE (RowErrs (P ^ M) N tl U (disT a (synT (addF P M) (mulF P M m') W N U))) t 0)/\wx.rowIs w.heap.size 27 5 (codCell (.int .i64 (P:Nat)) (.int .i64 (M:Nat)) (.slice A k c) (.int .i64 (N:Nat)) (.slice T n d))/\Below w4.heap.size w4 wx)
    case atStart=>exact ⟨0,rfl,by omega,by omega,fun a W _=>⟨MTab.nil _ _ _ _,rfl⟩,rf,Below.refl _ _⟩
    case round =>
     clear rf
     obtain ⟨t,rfl,ht,htg,HI,rf,hB⟩:=hrel
     have ht0:(0:Int)<=(t:Int):=by omega
     by_cases hlt:t<m
     ·have hlt':(t:Int)<(m:Int):=by omega
      obtain ⟨tb,to0,RA,rc,hTe,htb,t0,htl,hrcm,hrow,_⟩:=H2.out t hlt
      subst hTe
      have hB0:=onS HB4.out hB
      replace t0:=(hB0.cell (p:=⟨tb,to0+t,none⟩) htb).trans t0
      have HROW:=hid hrow
      clear hrow
      obtain ⟨l,hl⟩:∃ x,x=tl t:=⟨_,rfl⟩
      rw [<-hl] at htl t0 HROW
      have HL:=hid hl
      clear hl
      unfold maxLen at hrcm
      have q0:wr.cell? ⟨w.heap.size,0,none⟩=some (.int .i64 (P:Nat)):=rf.cell (i:=0) (by omega)
      have q1:wr.cell? ⟨w.heap.size,1,none⟩=some (.int .i64 (M:Nat)):=rf.cell (i:=1) (by omega)
      have q2:wr.cell? ⟨w.heap.size,2,none⟩=some (.slice A k c):=rf.cell (i:=2) (by omega)
      have q3:wr.cell? ⟨w.heap.size,3,none⟩=some (.int .i64 (N:Nat)):=rf.cell (i:=3) (by omega)
      have q4:wr.cell? ⟨w.heap.size,4,none⟩=some (.slice T n d):=rf.cell (i:=4) (by omega)
      obtain ⟨w5,hw5⟩:∃ X,X=wr:=⟨_,rfl⟩
      subst hw5
      clear hB0
      go_wp2
      refine wp_region_held_drew (S:=fun w'=>w'.cell? ⟨w.heap.size,0,none⟩=some (.int .i64 (P:Nat))/\w'.cell? ⟨w.heap.size,1,none⟩=some (.int .i64 (M:Nat))/\w'.cell? ⟨w.heap.size,2,none⟩=some (.slice A k c)/\w'.cell? ⟨w.heap.size,3,none⟩=some (.int .i64 (N:Nat))/\w'.cell? ⟨w.heap.size,4,none⟩=some (.slice T n d)/\w'.cell? ⟨tb,to0+t,none⟩=some (.slice RA l rc)) (by kernel_rfl) ⟨cellS (Below.refl _ _).drew q0,cellS (Below.refl _ _).drew q1,cellS (Below.refl _ _).drew q2,cellS (Below.refl _ _).drew q3,cellS (Below.refl _ _).drew q4,cellS (Below.refl _ _).drew t0⟩ (fun hHeld=>?_)
      obtain ⟨w6,hw⟩:∃ W,W=World.drew w5:=⟨_,rfl⟩
      have kb:Below w5.heap.size w5 w6:=by rw [hw]; exact (Below.refl _ _).drew
      rw [<-hw] at hHeld ⊢
      clear hw
      have HK6:=hid kb
      replace rf:=rowIs_on rf kb
      replace hB:=onS hB kb
      replace t0:=cellS kb t0
      clear kb q0 q1 q2 q3 q4
      refine tkq 0 (h:=tkq 1 (h:=tkq 2 (h:=tkq 3 (h:=tkq 4 (h:=?_)))))
      refine rdq 5 (h:=fun K hK=>?_)
      go_simp
      go_wp2_with fail
      have hB0:=onS HB4.out hB
      have hBs:=hB.size
      refine (syn12_any P M m' A k c N T n d (natT V) RA l rc (U t) w6 (HC.out.on hB0) (HROW.out.on hB0) (by omega)).mono ?_
      rintro e w7 ⟨kb,v,hv,hcase⟩
      have HVW:=hid hv
      have HK7:=hid (onS HK6.out kb)
      replace rf:=rowIs_on rf kb
      replace hB:=onS hB kb
      replace t0:=cellS kb t0
      clear kb hv hB0
      rcases hcase with ⟨hv0,rfl⟩ | ⟨rfl,a,W,s,hrel,rfl,hS⟩
      ·have hvn:(v != 0)=true:=by simpa using hv0
       have HV0:=hid hv0
       clear hv0
       refine bkq hK ⟨rf.cell (i:=0) (by omega),rf.cell (i:=1) (by omega),rf.cell (i:=2) (by omega),rf.cell (i:=3) (by omega),rf.cell (i:=4) (by omega),t0⟩ (h:=fun hHeld=>?_)
       clear hK K
       refine tkq 6 (h:=tkq 7 (h:=tkq 8 (h:=tkq 9 (h:=tkq 10 (h:=?_)))))
       refine wpAnyH_done (by kernel_rfl) ?_ _
       clear hHeld
       have hB0:=onS HB4.out hB
       have hvv:Hid (∀ (a:Nat) (W:Nat->Nat->Nat),NullRel (P ^ M) (addF P M) (mulF P M m') (negF P M) n N (natT V) a W->TabV (P ^ M) N n m tl U (disT a (synT (addF P M) (mulF P M m') W N U)) v):=fun a W hrel=>.inr ⟨by rw [<-HCO.out]; exact HC0.out,.inr ⟨by rw [<-HCO.out]; exact HMC.out,TabE.later (t:=t+1) (.inr ⟨(HI.out a W hrel).2,by
        have hh:=HVW.out
        rw [HL.out] at hh
        rcases hh with ⟨h1,h2⟩ | ⟨h1,⟨h2,h3⟩ | ⟨_,h3⟩⟩
        ·exact .inl ⟨h1,h2⟩
        ·exact .inr ⟨h1,.inl ⟨h2,h3⟩⟩
        ·exact absurd h3 HV0.out⟩) HV0.out (by omega)⟩⟩
       clear rf hB t0
       go_wp2
       go_ret
       exact ⟨hB0,v,rfl,.inr ⟨HV.out,HP.out v hvv.out⟩⟩
      ·have HSAME:=hid (fun a' W' (h':NullRel (P ^ M) (addF P M) (mulF P M m') (negF P M) n N (natT V) a' W')=>syn_same hL (fun x _=>⟨negF_lt hP0,addF_negF hP0⟩) (fun i hi j hj=>HC.out.lt i hi j hj) hrel h' U)
       obtain ⟨hM,hT⟩:=HI.out a W hrel
       have HTE:=hid hT
       have HM:=hid (hM.on HK7.out)
       obtain ⟨QA,qc,hqv⟩:=hM.shape
       subst hqv
       have haN:a<=N:=hrel.rref.choose_spec.le_c
       obtain ⟨SA,sc,hsv⟩:=hS.shape
       subst hsv
       have HREL:=hid hrel
       obtain ⟨S,hSd⟩:∃ S,S=synT (addF P M) (mulF P M m') W N U:=⟨_,rfl⟩
       have HS:=hid (show Own w7 w4.heap.size 3 1 (.slice SA a sc) a (fun i _=>.int .i64 (S t i:Nat)) from (hS.mono hBs).congr fun i hi q _=>by rw [hSd]; rfl)
       rw [<-hSd] at HM HTE HSAME
       have HSD:=hid hSd
       clear hS hM hT hSd hrel
       refine bkq hK ⟨rf.cell (i:=0) (by omega),rf.cell (i:=1) (by omega),rf.cell (i:=2) (by omega),rf.cell (i:=3) (by omega),rf.cell (i:=4) (by omega),t0⟩ (h:=fun hHeld=>?_)
       clear hK K
       refine tkq 6 (h:=tkq 7 (h:=tkq 8 (h:=tkq 9 (h:=tkq 10 (h:=?_)))))
       refine wpAnyH_done (by kernel_rfl) ?_ _
       clear hHeld t0
       have HRF7:=hid rf
       have HB7:=hid hB
       obtain ⟨w9,hw9⟩:∃ W,W=w7:=⟨_,rfl⟩
       go_wp2
       clear hw9 w9 rf hB
       obtain ⟨gO,hgO⟩:∃ x,x=gk:=⟨_,rfl⟩
       subst hgO
       go_loopg [10] t (fun gg jv wx=>∃ j:Nat,jv=.int .i64 (j:Nat)/\j<=t/\t<=j+gg/\Hid (∀ j',j'<j->disT a S j' t)/\Below w7.heap.size w7 wx)
       case atStart=>exact ⟨0,rfl,by omega,by omega,fun j' h'=>absurd h' (by omega),Below.refl _ _⟩
       case round =>
        obtain ⟨j,rfl,hj,hjg,HD,hB⟩:=hrel
        have hj0:(0:Int)<=(j:Int):=by omega
        by_cases hjt:j<t
        ·have hjt':(j:Int)<(t:Int):=by omega
         obtain ⟨rb,ro,RB,rbc,hQe,_,_,r0,_,hrj⟩:=HM.out.row hjt
         subst hQe
         have HRJ:=hid (hrj.on hB)
         replace r0:=cellS hB r0
         clear hrj
         obtain ⟨w9,hw9⟩:∃ X,X=wr:=⟨_,rfl⟩
         subst hw9
         go_wp2_with fail
         refine (distance_any RB SA a rbc sc (fun i=>(S j i:Nat)) (fun i=>(S t i:Nat)) w9 (HRJ.out.rd rfl) ((HS.out.on hB).rd rfl) (by omega)).mono ?_
         rintro e w10 ⟨rfl,kb⟩
         replace hB:=onS hB kb
         clear kb r0 HRJ
         obtain ⟨D,hD⟩:∃ x,x=disN (fun i=>(S j i:Nat)) (fun i=>(S t i:Nat)) a:=⟨_,rfl⟩
         rw [<-hD]
         by_cases hD0:D=0
         ·have hD0':((D:Int) == 0)=true:=by simp [hD0]
          have hno:Hid (¬ ∀ j',j'<t->disT a S j' t):=fun h=>by
           obtain ⟨i,hi,hne⟩:=h j hjt
           have:=disN_none.1 (hD.symm.trans hD0) i hi
           exact hne (by omega)
          have hvv:Hid (∀ (a:Nat) (W:Nat->Nat->Nat),NullRel (P ^ M) (addF P M) (mulF P M m') (negF P M) n N (natT V) a W->TabV (P ^ M) N n m tl U (disT a (synT (addF P M) (mulF P M m') W N U)) 18):=fun a' W' hrel=>.inr ⟨by rw [<-HCO.out]; exact HC0.out,.inr ⟨by rw [<-HCO.out]; exact HMC.out,by
           rw [<-(HSAME.out a' W' hrel).2.2]
           refine TabE.later (t:=t+1) (.inr ⟨HTE.out,?_⟩) (by omega) (by omega)
           have hh:=HVW.out
           rw [HL.out] at hh
           rcases hh with ⟨h1,h2⟩ | ⟨h1,⟨h2,h3⟩ | ⟨h2,h3⟩⟩
           ·cases h2
           ·cases h3
           ·exact .inr ⟨h1,.inr ⟨h2,.inl ⟨hno.out,rfl⟩⟩⟩⟩⟩
          have hB0:=onS HB4.out (onS HB7.out hB)
          clear hB hD hD0
          go_wp2
          go_ret
          exact ⟨hB0,18,rfl,.inr ⟨HV.out,HP.out 18 hvv.out⟩⟩
         ·have hD0':((D:Int) == 0)=false:=by simp; omega
          have HD2:Hid (∀ j',j'<j+1->disT a S j' t):=fun j' h'=>by
           by_cases e:j'=j
           ·subst e
            by_cases hx:∃ i,i<a/\S j' i≠S t i
            ·exact hx
            ·refine absurd (hD.trans (disN_none.2 fun i hi=>?_)) hD0
             by_cases e2:S j' i=S t i
             ·show ((S j' i:Nat):Int)=((S t i:Nat):Int); rw [e2]
             ·exact absurd ⟨i,hi,e2⟩ hx
           ·exact HD.out j' (by omega)
          clear hD hD0
          go_wp2
          go_roundg (gk - 1)
          case measure=>omega
          case rel=>exact ⟨j+1,by go_num,by omega,by omega,HD2,hB⟩
        ·have hjt':¬ (j:Int)<(t:Int):=by omega
         obtain rfl:j=t:=by omega
         have kb2:=(Below.refl wr.heap.size wr).alloc (Nat.le_refl _) (Obj.cells #[Value.slice SA a sc] 22)
         have HX8:=hid ((HS.out.on hB).on kb2)
         have HO8:=hid ((HM.out.on hB).on kb2)
         have HB8:=hid (onS (onS HB7.out hB) kb2)
         have HC8:Hid ((wr.alloc (Obj.cells #[Value.slice SA a sc] 22)).cell? ((⟨wr.heap.size,0,none⟩:Addr).add 0)=some (.slice SA a sc)):=tbox2
         have HZ8:=hid HB8.out.size
         have HIL:Hid (j<=1048576):=by show _<=_; omega
         have HRF8:=hid (rowIs_on (rowIs_on HRF7.out hB) kb2)
         clear kb2 hB
         go_wp2_with (first | (at_builtin; (refine wpList_append_mrow rfl (.tmp 55) (.tmp 57) rfl HO8.out rfl (ad:=⟨wr.heap.size,0,none⟩) (c:=1) rfl HC8.out rfl HX8.out HZ8.out HIL.out ?_); intro v9 w9 o1 o2 o3))
         have HM9:=hid (o1.congr (W':=S) fun u hu q _=>by
          by_cases e:u=j
          ·subst e; rw [if_pos rfl]
          ·rw [if_neg e])
         have HB9:=hid (HB8.out.grown o2 HZ8.out o3)
         have HRF9:=hid (HRF8.out.of_block (o2.block _ HRF8.out.lt fun e=>absurd (own_row_other HRF8.out HO8.out.choose_spec.1 (by decide)) (by rw [<-e]; simp)))
         clear o1 o2 o3
         have HI2:Hid (∀ (a:Nat) (W:Nat->Nat->Nat),NullRel (P ^ M) (addF P M) (mulF P M m') (negF P M) n N (natT V) a W->MTab w9 w4.heap.size v9 (j+1) a (synT (addF P M) (mulF P M m') W N U)/\TabE (RowErrs (P ^ M) N tl U (disT a (synT (addF P M) (mulF P M m') W N U))) (j+1) 0):=fun a' W' h'=>by
          obtain ⟨e1,e2,e3⟩:=HSAME.out a' W' h'
          rw [<-e3]
          subst e1
          refine ⟨HM9.out.congr fun u hu q hq=>e2 u q hq,.inr ⟨HTE.out,?_⟩⟩
          have hh:=HVW.out
          rw [HL.out] at hh
          rcases hh with ⟨h1,h2⟩ | ⟨h1,⟨h2,h3⟩ | ⟨h2,h3⟩⟩
          ·cases h2
          ·cases h3
          ·exact .inr ⟨h1,.inr ⟨h2,.inr ⟨HD.out,rfl⟩⟩⟩
         go_wp2
         go_roundg (gO - 1)
         case measure=>omega
         case rel=>exact ⟨j+1,by go_num,by omega,by omega,HI2,HRF9.out,HB9.out⟩
     ·have hlt':¬ (t:Int)<(m:Int):=by omega
      obtain rfl:t=m:=by omega
      have hB0:=onS HB4.out hB
      have hvv:Hid (∀ (a:Nat) (W:Nat->Nat->Nat),NullRel (P ^ M) (addF P M) (mulF P M m') (negF P M) n N (natT V) a W->TabV (P ^ M) N n t tl U (disT a (synT (addF P M) (mulF P M m') W N U)) 0):=fun a W hrel=>.inr ⟨by rw [<-HCO.out]; exact HC0.out,.inr ⟨by rw [<-HCO.out]; exact HMC.out,(HI.out a W hrel).2⟩⟩
      clear hB rf
      go_wp2
      go_ret
      exact ⟨hB0,0,rfl,.inr ⟨HV.out,HP.out 0 hvv.out⟩⟩
   ·have hmC':((m:Int) != (C:Int))=true:=by simp; omega
    have hv3:Hid (∀ (a:Nat) (W:Nat->Nat->Nat),NullRel (P ^ M) (addF P M) (mulF P M m') (negF P M) n N (natT V) a W->TabV (P ^ M) N n m tl U (disT a (synT (addF P M) (mulF P M m') W N U)) 3):=fun a W _=>.inr ⟨by rw [<-HCO.out]; exact HC0.out,.inl ⟨by rw [<-HCO.out]; exact hmC,rfl⟩⟩
    clear hmC
    go_wp2
    go_ret
    exact ⟨hB,3,rfl,.inr ⟨HV.out,HP.out 3 hv3.out⟩⟩
 ·have hvn:(v != 0)=true:=by simpa using hv0
  have HV0:=hid hv0
  clear hv0 rf
  go_wp2
  go_ret
  exact ⟨hB,v,rfl,.inl ⟨HV0.out,HV.out⟩⟩
open Go.ChangeShapes Go.WideShapes Go.ChangeAt
def rrP (q n:Nat) (xs:Nat->Nat):Nat->Nat × (Nat->Rat)
 | 0=>(0,fun _=>0)
 | k+1=>adP (rrP q n xs k) (tmP q n (xs k) k)
theorem wt_rr (q n:Nat) (xs:Nat->Nat):∀ k,SameP (wtP q n xs k) (rrP q n xs k):=by
 intro k
 induction k with
 | zero=>exact ⟨rfl,fun i=>rfl,rfl⟩
 | succ k ih =>
  show SameP (if xs k=0 then wtP q n xs k else _) _
  by_cases e:xs k=0
  ·rw [if_pos e]
   show SameP _ (adP (rrP q n xs k) (tmP q n (xs k) k))
   rw [e]
   exact ih.skip (tmP_zero q n k)
  ·rw [if_neg e]
   exact ih.add
theorem rrP_canon (q n:Nat) (xs:Nat->Nat) (k:Nat):clen (rrP q n xs k).2 (rrP q n xs k).1=(rrP q n xs k).1:=(wt_rr q n xs k).2.2
theorem rsz_rr {q n:Nat} {xs:Nat->Nat} (hq:2<=q) (hq2:q<=256) (hn:n<=64) (hx:∀ k,k<=n->dl (xs k)<=8):∀ k,k<=n+1->∀ i,rsz (cl2 (rrP q n xs k) i) (1+k*501):=by
 intro k
 induction k with
 | zero=>intro _ i; show rsz (cutR _ 0 i) _; unfold cutR; rw [if_neg (by omega)]; exact rsz_zero
 | succ k ih =>
  intro hk i
  exact (rsz_ad (ih (by omega)) (rsz_tm hq hq2 hn (by omega) (hx k (by omega))) i).mono (by omega)
theorem rrP_len (q n:Nat) (xs:Nat->Nat) (k:Nat):(rrP q n xs k).1<=n+2:=by
 cases k with
 | zero=>exact Nat.zero_le _
 | succ k =>
  have h1:(tmP q n (xs k) k).1<=n+2:=by have:=clen_le (mulP (fun _=>((xs k:Nat):Rat)) 1 (patR q n k) (n+1)) (1+(n+1)); show clen _ _<=_; omega
  have h2:(rrP q n xs k).1<=n+2:=rrP_len q n xs k
  refine Nat.le_trans (clen_le _ _) ?_
  omega
theorem dl_le1 {x:Nat} (h:x<4294967296):dl x<=1:=by
 by_cases e:x=0
 ·rw [e,dl_zero]; omega
 ·rw [dl_small (by omega) h]; omega
theorem weight55_any (A:Option Addr) (n c:Nat) (f:Nat->Int) (w:World) (h:IntsR w w.heap.size A n f) (hn:n<=1048576) :
  Calls Tryz.prog 74 #[.slice A n c] w fun e w'=>e=.returned (.int .i64 (disN f (fun _=>0) n:Nat))/\Below w.heap.size w w':=by
 have HA:=hid h
 clear h
 have hmk:=fun X=>run_makeI (P:=Tryz.prog) 22 3 _ 8 Tryz.underlying22 Tryz.infoInt rfl (n:Int) (by omega) (by omega) (by omega) X
 simp only [Int.toNat_natCast] at hmk
 have ra:=World.rowIs_made w (.int .i64 0) n 3
 have kb:=(Below.refl w.heap.size w).alloc (Nat.le_refl _) (Obj.cells (madeCells #[Value.int .i64 0] n) 3)
 have hz:IntsR (w.alloc (Obj.cells (madeCells #[Value.int .i64 0] n) 3)) (w.alloc (Obj.cells (madeCells #[Value.int .i64 0] n) 3)).heap.size (some ⟨w.heap.size,0,none⟩) n (fun _=>0):=by
  have:=rowInts (w:=w.alloc (Obj.cells (madeCells #[Value.int .i64 0] n) 3)) (g:=w.heap.size) (n:=n) (f:=fun _=>0) (ra.congr fun _ _=>rfl)
  exact this
 have HZ:=hid hz
 have HB:=hid kb
 clear hz ra kb
 go_enter Tryz.func74, Tryz.ntmps74
 go_wp2_with fail
 refine (distance_any A (some ⟨w.heap.size,0,none⟩) n c n f (fun _=>0) _ (HA.out.on HB.out) HZ.out hn).mono ?_
 rintro e w2 ⟨rfl,kb⟩
 have hB:=onS HB.out kb
 clear kb
 go_wp2
 go_ret
 exact ⟨rfl,hB⟩
theorem refRight_any (P M:Nat) (m':Nat->Nat) (A:Option Addr) (k c N:Nat) (T:Option Addr) (n d:Nat) (V:Nat->Nat->Nat) (T2:Option Addr) (m d2:Nat) (U:Nat->Nat->Int) (w:World) (h:CodeR w P M m' A k N T n V) (h2:IntRows w T2 m (fun _=>N) U) (hm:m<=65536) :
  Calls Tryz.prog 39 #[.agg #[.int .i64 (P:Nat),.int .i64 (M:Nat),.slice A k c,.int .i64 (N:Nat),.slice T n d],.slice T2 m d2] w (PolyPost (rrP (P ^ M) N (wcnt N U m) (N+1)).1 (rrP (P ^ M) N (wcnt N U m) (N+1)).2 w):=by
 have H2:=hid h2
 have hN:=h.ln2
 have hN1:=h.ln1
 have hfo:=h.fld.1
 have hq2:=(fieldLaws h.fld).two
 have hq256:=hfo.2.2.2
 have HORD:=hid (ordV_ok hfo)
 clear h h2
 have hdx:Hid (∀ k,k<=N->dl (wcnt N U m k)<=8):=fun k _=>by
  have h1:=wcnt_le N U m k
  have:=dl_le1 (x:=wcnt N U m k) (by omega)
  omega
 have hRS:Hid (∀ k,k<=N+1->∀ i,rsz (cl2 (rrP (P ^ M) N (wcnt N U m) k) i) (1+k*501)):=rsz_rr hq2 hq256 hN hdx.out
 have hCA:Hid (clen (rrP (P ^ M) N (wcnt N U m) (N+1)).2 (rrP (P ^ M) N (wcnt N U m) (N+1)).1=(rrP (P ^ M) N (wcnt N U m) (N+1)).1):=rrP_canon _ _ _ _
 obtain ⟨q,hqd⟩:∃ q,q=P ^ M:=⟨_,rfl⟩
 rw [<-hqd] at hq2 hq256 hRS hCA HORD ⊢
 have HQ:=hid hqd
 clear hqd
 obtain ⟨xs,hxs⟩:∃ xs,xs=wcnt N U m:=⟨_,rfl⟩
 rw [<-hxs] at hdx hRS hCA ⊢
 have HXS:=hid hxs
 clear hxs
 have rf:=codBox_row (w:=w) (a:=.int .i64 (P:Nat)) (b:=.int .i64 (M:Nat)) (c:=.slice A k c) (d:=.int .i64 (N:Nat)) (e:=.slice T n d) (T := 27)
 have hB:Below w.heap.size w (w.alloc (.cells #[.int .i64 (P:Nat),.int .i64 (M:Nat),.slice A k c,.int .i64 (N:Nat),.slice T n d] 27)):=(Below.refl _ _).alloc (Nat.le_refl _) _
 obtain ⟨w1,hw1⟩:∃ W,W=w.alloc (.cells #[.int .i64 (P:Nat),.int .i64 (M:Nat),.slice A k c,.int .i64 (N:Nat),.slice T n d] 27):=⟨_,rfl⟩
 rw [<-hw1] at hB rf
 go_enter Tryz.func39, Tryz.ntmps39
 go_upto_region 1 with fail
 rw [<-hw1]
 clear hw1
 go_wp2
 go_loopg [5,6] (N+1) (fun gg ov iv wx=>∃ j:Nat,∃ PA pc,iv=.int .i64 (j:Nat)/\j<=N+1/\N+1<=j+gg/\ov=.slice PA (rrP q N xs j).1 pc/\RatList wx wx.heap.size PA (rrP q N xs j).1 (rrP q N xs j).2/\Hid (wx.rowIs w.heap.size 27 5 (codCell (.int .i64 (P:Nat)) (.int .i64 (M:Nat)) (.slice A k c) (.int .i64 (N:Nat)) (.slice T n d)))/\Below w.heap.size w wx)
 case atStart=>exact ⟨0,none,0,rfl,by omega,by omega,rfl,fun i hi=>absurd hi (Nat.not_lt_zero i),rf,hB⟩
 case round =>
  clear rf hB
  obtain ⟨j,PA,pc,rfl,hj,hjg,rfl,hl,HRF,hB⟩:=hrel
  have hj0:(0:Int)<=(j:Int):=by omega
  have hLj:=rrP_len q N xs j
  have hrk:=rsz_cl2 (hRS.out j hj)
  have HRK:=hid hrk
  clear hrk
  have q1:wr.cell? ⟨w.heap.size,1,none⟩=some (.int .i64 (M:Nat)):=HRF.out.cell (i:=1) (by omega)
  have q3:wr.cell? ⟨w.heap.size,3,none⟩=some (.int .i64 (N:Nat)):=HRF.out.cell (i:=3) (by omega)
  by_cases hlt:j<=N
  ·have hlt':(j:Int)<=(N:Int):=by omega
   obtain ⟨gO,hgO⟩:∃ x,x=gk:=⟨_,rfl⟩
   subst hgO
   obtain ⟨w2,hw2⟩:∃ X,X=wr:=⟨_,rfl⟩
   subst hw2
   obtain ⟨L,hL⟩:∃ L,L=(rrP q N xs j).1:=⟨_,rfl⟩
   obtain ⟨S,hS⟩:∃ S,S=(rrP q N xs j).2:=⟨_,rfl⟩
   rw [<-hL] at hLj
   rw [<-hL,<-hS] at hl HRK
   rw [<-hL]
   have HLL:=hid hL
   have HSS:=hid hS
   have HL:=hid hl
   clear hL hS hl
   have HB2:=hid hB
   go_wp2
   clear q1 q3 hB
   go_loopg [7,8] m (fun gg nv iv wx=>∃ i u:Nat,iv=.int .i64 (i:Nat)/\nv=.int .i64 (u:Nat)/\i<=m/\m<=i+gg/\Hid (u=wcnt N U i j)/\u<=i/\Below w2.heap.size w2 wx)
   case atStart=>exact ⟨0,0,rfl,rfl,by omega,by omega,rfl,by omega,Below.refl _ _⟩
   case round =>
    obtain ⟨i,u,rfl,rfl,hi,hig,HU,hui,hB⟩:=hrel
    have hi0:(0:Int)<=(i:Int):=by omega
    have hu0:(0:Int)<=(u:Int):=by omega
    by_cases him:i<m
    ·have him':(i:Int)<(m:Int):=by omega
     obtain ⟨tb,to0,RA,rc,hTe,htb,t0,htl,hrcm,hrow,_⟩:=H2.out i him
     subst hTe
     have hB0:=onS HB2.out hB
     replace t0:=(hB0.cell (p:=⟨tb,to0+i,none⟩) htb).trans t0
     obtain ⟨w3,hw3⟩:∃ X,X=wr:=⟨_,rfl⟩
     subst hw3
     go_wp2_with fail
     refine (weight55_any RA N rc (U i) w3 (hrow.on hB0) (by omega)).mono ?_
     rintro e w4 ⟨rfl,kb⟩
     replace hB:=onS hB kb
     clear kb t0 hB0 hrow
     obtain ⟨D,hD⟩:∃ x,x=disN (U i) (fun _=>0) N:=⟨_,rfl⟩
     rw [<-hD]
     by_cases hDj:D=j
     ·have hDj':((D:Int) == (j:Int))=true:=by simp [hDj]
      have HU2:Hid (u+1=wcnt N U (i+1) j):=by show u+1=wcnt N U i j+(if disN (U i) (fun _=>0) N=j then 1 else 0); rw [if_pos (hD.symm.trans hDj),HU.out]
      clear hD hDj
      go_wp2
      go_roundg (gk - 1)
      case measure=>omega
      case rel=>exact ⟨i+1,u+1,by go_num,by go_num,by omega,by omega,HU2,by omega,hB⟩
     ·have hDj':((D:Int) == (j:Int))=false:=by simp; omega
      have HU2:Hid (u=wcnt N U (i+1) j):=by show u=wcnt N U i j+(if disN (U i) (fun _=>0) N=j then 1 else 0); rw [if_neg (fun h=>hDj (hD.trans h)),HU.out,Nat.add_zero]
      clear hD hDj
      go_wp2
      go_roundg (gk - 1)
      case measure=>omega
      case rel=>exact ⟨i+1,u,by go_num,rfl,by omega,by omega,HU2,by omega,hB⟩
    ·have him':¬ (i:Int)<(m:Int):=by omega
     obtain rfl:i=m:=by omega
     have hux:Hid (u=xs j):=by show u=xs j; rw [HU.out,HXS.out]
     have HRK2:=HRK
     have rf:=rowIs_on HRF.out hB
     have q0:wr.cell? ⟨w.heap.size,0,none⟩=some (.int .i64 (P:Nat)):=rf.cell (i:=0) (by omega)
     have q1:wr.cell? ⟨w.heap.size,1,none⟩=some (.int .i64 (M:Nat)):=rf.cell (i:=1) (by omega)
     have q2:wr.cell? ⟨w.heap.size,2,none⟩=some (.slice A k c):=rf.cell (i:=2) (by omega)
     have q3:wr.cell? ⟨w.heap.size,3,none⟩=some (.int .i64 (N:Nat)):=rf.cell (i:=3) (by omega)
     have hl:=HL.out.on hB
     have HLT:=hid hl
     have hu64:IntKind.u64.wrap (u:Int)=(u:Int):=by rw [IntKind.wrap_u64]; omega
     obtain ⟨w3,hw3⟩:∃ X,X=wr:=⟨_,rfl⟩
     subst hw3
     clear hl
     go_wp2
     refine wp_region_held_drew (S:=fun w'=>w'.cell? ⟨w.heap.size,0,none⟩=some (.int .i64 (P:Nat))/\w'.cell? ⟨w.heap.size,1,none⟩=some (.int .i64 (M:Nat))/\w'.cell? ⟨w.heap.size,2,none⟩=some (.slice A k c)/\w'.cell? ⟨w.heap.size,3,none⟩=some (.int .i64 (N:Nat))) (by kernel_rfl) ⟨cellS (Below.refl _ _).drew q0,cellS (Below.refl _ _).drew q1,cellS (Below.refl _ _).drew q2,cellS (Below.refl _ _).drew q3⟩ (fun hHeld=>?_)
     obtain ⟨w4,hw⟩:∃ W,W=World.drew w3:=⟨_,rfl⟩
     have kb:Below w3.heap.size w3 w4:=by rw [hw]; exact (Below.refl _ _).drew
     rw [<-hw] at hHeld ⊢
     clear hw q0 q1 q2 q3
     replace rf:=rowIs_on rf kb
     replace hB:=onS hB kb
     replace HLT:=hid (HLT.out.on kb)
     clear kb
     refine tkq 0 (h:=tkq 1 (h:=tkq 2 (h:=tkq 4 (h:=tkq 5 (h:=tkq 7 (h:=tkq 8 (h:=tkq 9 (h:=?_))))))))
     refine rdq 3 (h:=fun K hK=>?_)
     go_simp
     go_wp2_with fail
     refine (refOf_any u w4 (by omega)).mono ?_
     rintro e w5 ⟨NA,nc,rfl,g1,g2,g3,kb⟩
     have HN:=hid g3
     have hdu:dl u<=8:=by have:=dl_le1 (x:=u) (by omega); omega
     have hpo:Hid (∀ (W:World) (e:Ending) (W':World),PolyPost (clen (sumP S L (tmP q N u j).2 (tmP q N u j).1) (max L (tmP q N u j).1)) (sumP S L (tmP q N u j).2 (tmP q N u j).1) W e W'->PolyPost (rrP q N xs (j+1)).1 (rrP q N xs (j+1)).2 W e W'):=fun W e W' hh=>by
      show PolyPost (adP (rrP q N xs j) (tmP q N (xs j) j)).1 (adP (rrP q N xs j) (tmP q N (xs j) j)).2 W e W'
      rw [<-hux.out]
      unfold adP
      rw [<-HLL.out,<-HSS.out]
      exact hh
     have hmu:Hid (∀ (W:World) (e:Ending) (W':World),PolyPost (clen (mulP (fun _=>((u:Nat):Rat)) 1 (patR q N j) (N+1)) (1+(N+1))) (mulP (fun _=>((u:Nat):Rat)) 1 (patR q N j) (N+1)) W e W'->PolyPost (tmP q N u j).1 (tmP q N u j).2 W e W'):=fun _ _ _ h=>h
     have htm:Hid (∀ i,i<(tmP q N u j).1->rsz ((tmP q N u j).2 i) 33000):=fun i _=>(rsz_tm hq2 hq256 hN (by omega) hdu i).mono (by omega)
     have htl:(tmP q N u j).1<=N+2:=by have:=clen_le (mulP (fun _=>((u:Nat):Rat)) 1 (patR q N j) (N+1)) (1+(N+1)); show clen _ _<=_; omega
     have hpat:Hid (∀ i,i<N+1->rsz (patR q N j i) 200):=fun i _=>rsz_pat hq2 hq256 hN (by omega) i
     have hrk':Hid (∀ i,i<L->rsz (S i) 33000):=fun i hi=>(HRK.out i hi).mono (by omega)
     obtain ⟨tl,hTL⟩:∃ L,L=(tmP q N u j).1:=⟨_,rfl⟩
     obtain ⟨ts,hTS⟩:∃ S,S=(tmP q N u j).2:=⟨_,rfl⟩
     rw [<-hTL,<-hTS] at hpo hmu htm
     rw [<-hTL] at htl
     clear hTL hTS
     obtain ⟨PP,hP⟩:∃ P,P=N+1:=⟨_,rfl⟩
     have hpp:Hid (∀ (W:World) (e:Ending) (W':World),PolyPost (N+1) (patR q N j) W e W'->PolyPost PP (patR q N j) W e W'):=fun _ _ _ h=>by rw [hP]; exact h
     rw [<-hP] at hmu hpat
     have hP65:PP<=65:=by omega
     clear hP g3
     replace rf:=rowIs_on rf kb
     replace hB:=onS hB kb
     replace HLT:=hid (HLT.out.on kb)
     clear kb
     refine bkq hK ⟨rf.cell (i:=0) (by omega),rf.cell (i:=1) (by omega),rf.cell (i:=2) (by omega),rf.cell (i:=3) (by omega)⟩ (h:=fun hHeld=>?_)
     clear hK K
     refine rdq 6 (h:=fun K hK=>?_)
     go_simp
     go_wp2_with fail
     refine (order_any (P:Int) (M:Int) A k c w5).mono ?_
     rintro e w6 ⟨rfl,kb⟩
     rw [HORD.out]
     replace rf:=rowIs_on rf kb
     replace hB:=onS hB kb
     replace HLT:=hid (HLT.out.on kb)
     replace HN:=hid (HN.out.on kb)
     clear kb
     refine bkq hK ⟨rf.cell (i:=0) (by omega),rf.cell (i:=1) (by omega),rf.cell (i:=2) (by omega),rf.cell (i:=3) (by omega)⟩ (h:=fun hHeld=>?_)
     clear hK K
     refine rdq 10 (h:=fun K hK=>?_)
     go_simp
     go_wp2_with fail
     refine ((refPattern_any q N j w6 hq2 hq256 hN hlt).mono (fun e W'=>hpp.out _ e W')).mono ?_
     rintro e w7 ⟨Ta,ca,rfl,_,_,l3,kb⟩
     have L3:=hid l3
     replace rf:=rowIs_on rf kb
     replace hB:=onS hB kb
     replace HLT:=hid (HLT.out.on kb)
     replace HN:=hid (HN.out.on kb)
     clear kb l3
     refine bkq hK ⟨rf.cell (i:=0) (by omega),rf.cell (i:=1) (by omega),rf.cell (i:=2) (by omega),rf.cell (i:=3) (by omega)⟩ (h:=fun hHeld=>?_)
     clear hK K
     refine rdq 11 (h:=fun K hK=>?_)
     go_simp
     go_wp2_with fail
     refine ((refTimes_any NA Ta (dl u) nc PP ca u 200 (patR q N j) w7 HN.out.raw g1 g2 hdu (L3.out.tab hpat.out) hP65 hpat (by omega) (by omega)).mono (fun e W'=>hmu.out _ e W')).mono ?_
     rintro e w8 ⟨Tb,cb,rfl,_,_,l4,kb⟩
     have L4:=hid l4
     replace rf:=rowIs_on rf kb
     replace hB:=onS hB kb
     replace HLT:=hid (HLT.out.on kb)
     clear kb l4 L3 HN
     refine bkq hK ⟨rf.cell (i:=0) (by omega),rf.cell (i:=1) (by omega),rf.cell (i:=2) (by omega),rf.cell (i:=3) (by omega)⟩ (h:=fun hHeld=>?_)
     clear hK K
     refine rdq 12 (h:=fun K hK=>?_)
     go_simp
     go_wp2_with fail
     refine ((refPAdd_any PA Tb L pc tl cb 33000 S ts w8 ((HLT.out.tab hrk'.out)) (L4.out.tab htm.out) (by omega) (by omega) (by omega) hrk' htm).mono (fun e W'=>hpo.out _ e W')).mono ?_
     rintro e w9 ⟨Tc,cc,rfl,_,_,l5,kb⟩
     obtain ⟨L',hL'⟩:∃ L,L=(rrP q N xs (j+1)).1:=⟨_,rfl⟩
     rw [<-hL'] at l5 ⊢
     have L5:=hid l5
     have HL':=hid hL'
     replace rf:=rowIs_on rf kb
     replace hB:=onS hB kb
     clear kb l5 L4 HLT hL'
     refine bkq hK ⟨rf.cell (i:=0) (by omega),rf.cell (i:=1) (by omega),rf.cell (i:=2) (by omega),rf.cell (i:=3) (by omega)⟩ (h:=fun hHeld=>?_)
     clear hK K
     refine tkq 13 (h:=?_)
     refine wpAnyH_done (by kernel_rfl) ?_ _
     clear hHeld
     have hB0:=onS HB2.out hB
     have HRF2:=hid rf
     clear hu64 hB rf
     go_wp2
     go_roundg (gO - 1)
     case measure=>omega
     case rel=>exact ⟨j+1,Tc,cc,by go_num,by omega,by omega,by rw [HL'.out],by have:=L5.out; rw [HL'.out] at this; exact this,HRF2,hB0⟩
  ·have hlt':¬ (j:Int)<=(N:Int):=by omega
   obtain rfl:j=N+1:=by omega
   obtain ⟨L,hL⟩:∃ L,L=(rrP q N xs (N+1)).1:=⟨_,rfl⟩
   obtain ⟨S,hS⟩:∃ S,S=(rrP q N xs (N+1)).2:=⟨_,rfl⟩
   have hca:=hCA.out
   rw [<-hL] at hLj
   rw [<-hL,<-hS] at hl HRK hca
   rw [<-hL]
   have HC:=hid hca
   have HL:=hid hL
   have HS:=hid hS
   have ht:=hl.tab HRK.out
   clear hca hL hS hl
   obtain ⟨J,hJ⟩:∃ J,J=N+1:=⟨_,rfl⟩
   rw [<-hJ] at hlt' ht ⊢
   have HJ:=hid hJ
   clear hjg hj
   go_wp2_with fail
   refine (refCanon55_any PA L pc (1+J*501) S _ ht (by omega) (by omega)).mono ?_
   rintro e w2 ⟨Ar,cr,rfl,e1,e2,e3,kb⟩
   rw [HC.out] at e1 e3 ⊢
   replace hB:=onS hB kb
   clear kb ht q1 q3
   go_wp2
   go_ret
   rw [<-HL.out,<-HS.out]
   exact ⟨_,_,rfl,e1,e2,e3,hB⟩
def NatsPost (n:Nat) (x:Nat->Nat) (w:World) (e:Ending) (w':World):Prop :=
 ∃ T c,e=.returned (.slice T n c)/\n<=c/\c<=maxLen/\NatRTab w' w'.heap.size T n x 8/\Below w.heap.size w w'
theorem natsPost {w w':World} {v:Value} {n:Nat} {x:Nat->Nat} {base:Nat} (h:NatOwn w' base v n x) (hx:∀ i,i<n->x i<4294967296) (hB:Below w.heap.size w w'):NatsPost n x w (.returned v) w':=by
 obtain ⟨A,c,rfl,h1,h2,h3⟩:=h.tab
 refine ⟨A,c,rfl,h1,h2,fun i hi=>?_,hB⟩
 obtain ⟨b,off,B,d,e,hb,hc0,g1,g2,g3⟩:=h3 i hi
 exact ⟨b,off,B,dl (x i),d,e,hb,hc0,g3.raw,g1,g2,by have:=dl_le1 (hx i hi); omega⟩
theorem nats_any (A:Option Addr) (n c:Nat) (x:Nat->Nat) (w:World) (h:IntsR w w.heap.size A n (fun i=>(x i:Nat))) (hx:∀ i,i<n->x i<4294967296) (hn:n<=1048576) :
  Calls Tryz.prog 68 #[.slice A n c] w (NatsPost n x w):=by
 have HA:=hid h
 have HX:=hid hx
 clear h hx
 go_enter Tryz.func68, Tryz.ntmps68
 go_wp2
 go_loopg [3,8] n (fun gg sv iv wx=>∃ i:Nat,iv=.int .i64 (i:Nat)/\i<=n/\n<=i+gg/\NatOwn wx w.heap.size sv i x/\Below w.heap.size w wx)
 case atStart=>exact ⟨0,rfl,by omega,by omega,NatOwn.nil _ _ _,Below.refl _ _⟩
 case round =>
  obtain ⟨i,rfl,hi,hig,hO,hB⟩:=hrel
  have hi0:(0:Int)<=(i:Int):=by omega
  by_cases hlt:i<n
  ·have hlt':(i:Int)<(n:Int):=by omega
   obtain ⟨ab,ao,rfl,hab,x0⟩:=HA.out.at hlt
   replace x0:=(hB.cell (p:=⟨ab,ao+i,none⟩) hab).trans x0
   obtain ⟨u,hu⟩:∃ u,u=x i:=⟨_,rfl⟩
   have hux:u<4294967296:=by rw [hu]; exact HX.out i hlt
   rw [<-hu] at x0
   have HU:=hid hu
   have HO:=hid hO
   have hu64:IntKind.u64.wrap (u:Int)=(u:Int):=by rw [IntKind.wrap_u64]; omega
   clear hu hO
   obtain ⟨w1,hw1⟩:∃ X,X=wr:=⟨_,rfl⟩
   subst hw1
   go_wp2_with fail
   refine (natOf_any u w1 (by omega)).mono ?_
   rintro e w2 ⟨NA,nc,rfl,g1,g2,g3,kb⟩
   have kb2:=(Below.refl w2.heap.size w2).alloc (Nat.le_refl _) (Obj.cells #[Value.slice NA (dl u) nc] 29)
   have HO8:=hid ((HO.out.on kb).on kb2)
   have HB8:=hid (onS (onS hB kb) kb2)
   have HM:=hid (g3.on kb2)
   have HC8:Hid ((w2.alloc (Obj.cells #[Value.slice NA (dl u) nc] 29)).cell? ⟨w2.heap.size,0,none⟩=some (.slice NA (dl u) nc)):=tbox2
   have HZ8:=hid HB8.out.size
   clear kb kb2 hB x0 g3
   go_wp2_with (first | (at_builtin; (refine wpList_append_nat rfl (.tmp 12) (.tmp 16) rfl w.heap.size _ i x rfl HO8.out HZ8.out (by omega) w2.heap.size 1 rfl NA nc u HU.out.symm HC8.out HM.out g1 g2 ?_); intro v9 w9 o1 o2))
   have HO9:=hid o1
   have hB9:=HB8.out.trans o2
   clear o1 o2
   go_wp2
   go_roundg (gk - 1)
   case measure=>omega
   case rel=>exact ⟨i+1,by go_num,by omega,by omega,HO9.out,hB9⟩
  ·have hlt':¬ (i:Int)<(n:Int):=by omega
   obtain rfl:i=n:=by omega
   obtain ⟨NA,nc,rfl,_,_,_⟩:=hO.tab
   have HP:=hid (natsPost hO HX.out hB)
   go_wp2
   go_ret
   exact HP.out
end Go.Proofs.YtmgeblpnnaamnaaGreat