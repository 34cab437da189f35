/- Merged texts of a claim: Total, Secs47, SeesCode, Size47, Small47, Small49, PowPl, MinPlus, IntTab, ZeroV, ZeroR, BoundV, MaxV, Proves, SynMem, Turn09, RefForward, RefPaths, Cmp11, SameN, RefIs, Check47, RefCP, Syn, Cont47, TChk, CheckP, IRepeat, VPot. -/
import Derived.Test.YtgekjfpapmlndaaGreatTY12
import Derived.Laws.StructEq
namespace Go.Proofs.YtgekjfpapmlndaaGreat
set_option maxRecDepth 100000
set_option maxHeartbeats 32000000
open KA KB KC KD KE KF
open Go.RowKit Go.ChangeShapes Go.WideShapes Go.ChangeAt
theorem zf0 (q m most:Nat) (A:Option Addr) (c:Nat) (d:Nat->Int) (w:World) (h:IntsR w w.heap.size A m d) (hq:2<=q) (hq2:q<=256) (hm:m<=1048576) (hd:∀ i,i<m->d i<=1048576) (ho1:1<=most) (ho:most<=1048576) :
  Calls Tryz.prog 85 #[.int .i64 (q:Nat),.slice A m c,.int .i64 (most:Nat)] w fun e w'=>e=.returned (.int .i64 (min (powS q (fun i=>(d i).toNat) m) (most+1):Nat))/\Below w.heap.size w w':=by
 have HA:=hid h
 have HD:=hid hd
 clear h hd
 go_enter Tryz.func85, Tryz.ntmps85
 go_upto_region 3 with fail
 go_loopg [7,8] m (fun gg sv iv wx=>∃ i s:Nat,iv=.int .i64 (i:Nat)/\sv=.int .i64 (s:Nat)/\i<=m/\m<=i+gg/\Hid (s=min (powS q (fun i=>(d i).toNat) i) (most+1))/\s<=most+1/\Below w.heap.size w wx)
 case atStart=>exact ⟨0,0,rfl,rfl,by omega,by omega,hid (by show 0=min 0 (most+1); omega),by omega,Below.refl _ _⟩
 obtain ⟨i,s,rfl,rfl,hi,P,HS,hs,a⟩:=hrel
 have Q:(0:Int)<=(i:Int):=by omega
 have HB:=hid a
 obtain ⟨w3,F⟩:=exx wr
 subst F
 clear a
 by_cases hlt:i<m
 rotate_left
 ·have n:¬ (i:Int)<(m:Int):=by omega
  obtain rfl:i=m:=by omega
  go_wp2
  go_ret
  exact ⟨by rw [<-HS.out]; rfl,HB.out⟩
 have n:(i:Int)<(m:Int):=by omega
 obtain ⟨E,hE⟩:=exx (d i)
 obtain ⟨D,hD⟩:=exx E.toNat
 have R:E<=1048576:=by rw [hE]; exact HD.out i hlt
 have S:D<=1048576:=by omega
 have L:=hid hE
 have M:Hid (D=(d i).toNat):=hid (by rw [hD,hE])
 have v:∀ k:Nat,k<D↔(k:Int)<E:=fun k=>by omega
 have y:=hid v
 clear hD hE v
 obtain ⟨gO,J⟩:=exx gk
 subst J
 go_upto_region 7 with fail
 go_loopg [9,10] D (fun gg pv kv wx=>∃ k p:Nat,kv=.int .i64 (k:Nat)/\pv=.int .i64 (p:Nat)/\k<=D/\D<=k+gg/\Hid (p=q ^ k)/\p<=most*256/\Below w.heap.size w wx)
 case atStart=>exact ⟨0,1,rfl,rfl,by omega,by omega,hid rfl,by omega,HB.out⟩
 clear HB
 obtain ⟨k,p,rfl,rfl,hk,O,HP,hp,a⟩:=hrel
 have HB:=hid a
 obtain ⟨w4,C⟩:=exx wr
 subst C
 clear a
 obtain ⟨b,o,K,hb,e0⟩:=(HA.out.on HB.out).at hlt
 rw [<-L.out] at e0
 subst K
 have fin:∀ p2:Nat,p2=p->(p=q ^ D∨most<p/\p<=q ^ D)->∃ s2:Nat,(min ((s:Int)+(p:Int)) ((most:Int)+1)=(s2:Int))/\s2<=most+1/\Hid (s2=min (powS q (fun i=>(d i).toNat) (i+1)) (most+1)):=fun p2 _ hpp=>by
  refine ⟨min (s+p) (most+1),by omega,by omega,hid ?_⟩
  have h1:=HS.out
  have h2:powS q (fun i=>(d i).toNat) (i+1)=powS q (fun i=>(d i).toNat) i+q ^ D:=by rw [M.out]; rfl
  rw [h2]
  omega
 by_cases hkD:k<D
 rotate_left
 ·have r:¬ (k:Int)<E:=fun g=>hkD ((y.out k).2 g)
  have I:decide ((k:Int)<E)=false:=by simp; omega
  obtain rfl:k=D:=by omega
  obtain ⟨s2,G,j,t⟩:=fin p rfl (.inl HP.out)
  have x:most*256<=1048576*256:=Nat.mul_le_mul_right _ ho
  clear fin
  go_wp2
  all_goals
   go_roundg (gO - 1)
   case measure=>omega
   case rel=>exact ⟨i+1,s2,by go_num,by first | (congr 1; omega) | (congr 1),by omega,by omega,t,by omega,HB.out⟩
 have r:(k:Int)<E:=(y.out k).1 hkD
 have I:decide ((k:Int)<E)=true:=by simp; omega
 by_cases hpm:p<=most
 ·have l:(p:Int)<=(most:Int):=by omega
  have H:decide ((p:Int)<=(most:Int))=true:=by simp; omega
  have h2:p*q<=most*256:=Nat.mul_le_mul hpm hq2
  have x:most*256<=1048576*256:=Nat.mul_le_mul_right _ ho
  obtain ⟨z,hz⟩:=exx (p*q)
  have u:(p:Int)*(q:Int)=(z:Int):=by rw [hz]; push_cast; rfl
  have HZ:Hid (z=q ^ (k+1)):=hid (by rw [hz,Nat.pow_succ,<-HP.out])
  rw [<-hz] at h2
  have B:0<=(p:Int)*(q:Int):=by rw [u]; omega
  have N:(p:Int)*(q:Int)<=268435456:=by rw [u]; omega
  clear hz fin
  go_wp2
  go_roundg (gk - 1)
  case measure=>omega
  case rel=>exact ⟨k+1,z,by go_num,rfl,by omega,by omega,HZ,by omega,HB.out⟩
 have l:¬ (p:Int)<=(most:Int):=by omega
 have H:decide ((p:Int)<=(most:Int))=false:=by simp; omega
 obtain ⟨s2,G,j,t⟩:=fin p rfl (.inr ⟨by omega,by rw [HP.out]; exact Nat.pow_le_pow_right (by omega) hk⟩)
 have x:most*256<=1048576*256:=Nat.mul_le_mul_right _ ho
 clear fin
 go_wp2
 all_goals
  go_roundg (gO - 1)
  case measure=>omega
  case rel=>exact ⟨i+1,s2,by go_num,by first | (congr 1; omega) | (congr 1),by omega,by omega,t,by omega,HB.out⟩
def RanksSec (q:Nat) (add mul:Nat->Nat->Nat) (n N:Nat) (V:Nat->Nat->Nat) (t:Nat) (ra rb:Nat->Nat):Prop:=∀ i,i<t->RankIs q add mul n V 0 (i+1) (ra i)/\RankIs q add mul n V i (N - i) (rb i)
def SecsPost (q:Nat) (add mul:Nat->Nat->Nat) (n N:Nat) (V:Nat->Nat->Nat) (w:World) (e:Ending) (w':World):Prop :=
 ∃ g ra rb,e=.returned (.slice (some ⟨g,0,none⟩) (N) (N))/\w.heap.size<=g/\w'.rowIs g 3 (N) (fun i=>.int .i64 (((ra i+rb i:Nat):Int) - (n:Nat)))/\RanksSec q add mul n N V (N) ra rb/\Below w.heap.size w w'
theorem zhF (P M:Nat) (m:Nat->Nat) (A:Option Addr) (k c N:Nat) (T:Option Addr) (n d:Nat) (V:Nat->Nat->Nat) (w:World) (h:CodeR w P M m A k N T n V) :
  Calls Tryz.prog 86 #[.agg #[.int .i64 (P:Nat),.int .i64 (M:Nat),.slice A k c,.int .i64 (N:Nat),.slice T n d]] w (SecsPost (P ^ M) (addF P M) (mulF P M m) n N V w):=by
 have HC:=hid h
 have Y:=h.ln2
 have a6:=h.n_le
 clear h
 obtain ⟨w1,F,hB,rf⟩:=zaG w (.int .i64 (P:Nat)) (.int .i64 (M:Nat)) (.slice A k c) (.int .i64 (N:Nat)) (.slice T n d) 27
 have G:=fun W=>zaf (P:=Tryz.prog) 22 3 _ 8 Tryz.underlying22 Tryz.infoInt rfl (N:Int) (by omega) (by omega) (by omega) W
 simp only [Int.toNat_natCast] at G
 go_enter Tryz.func86, Tryz.ntmps86
 go_upto_region 1 with fail
 rw [<-F];clear F
 obtain ⟨b0,q⟩:=exx w.heap.size
 rw [<-q] at rf;rw [<-q];clear q
 have g:Hid (∀ X,Below w1.heap.size w1 X->(X.cell? ⟨b0,0,none⟩=some (.int .i64 (P:Nat))/\X.cell? ⟨b0,1,none⟩=some (.int .i64 (M:Nat))/\X.cell? ⟨b0,2,none⟩=some (.slice A k c)/\X.cell? ⟨b0,3,none⟩=some (.int .i64 (N:Nat))/\X.cell? ⟨b0,4,none⟩=some (.slice T n d))):=hid fun X hx =>
  ⟨(zaa rf hx).cell (i:=0) (by omega),(zaa rf hx).cell (i:=1) (by omega),(zaa rf hx).cell (i:=2) (by omega),(zaa rf hx).cell (i:=3) (by omega),(zaa rf hx).cell (i:=4) (by omega)⟩
 have HB:=hid hB
 have D:Hid (b0<w1.heap.size):=hid rf.lt
 clear hB rf
 obtain ⟨q0,q1,q2,q3,q4⟩:=g.out _ (Below.refl _ _)
 go_upto_region 2 with fail
 clear q0 q1 q2 q3 q4
 have rz:World.rowIs (World.alloc w1 (Obj.cells (madeCells #[Value.int .i64 0] (N)) 3)) w1.heap.size 3 (N) (fun _=>.int .i64 0):=World.rowIs_made _ (.int .i64 0) (N) 3
 have kb:=aly w1 (Obj.cells (madeCells #[Value.int .i64 0] (N)) 3)
 obtain ⟨w2,E⟩:=exx (World.alloc w1 (Obj.cells (madeCells #[Value.int .i64 0] (N)) 3))
 rw [<-E] at rz kb ⊢
 obtain ⟨go,s⟩:=exx w1.heap.size
 have B:w.heap.size<=go:=by rw [s]; exact HB.out.size
 have J:=hid s
 rw [<-s] at rz ⊢
 have K2:=hid kb
 clear kb E s G
 go_upto_region 3 with fail
 go_loopg [4] (N) (fun gg iv wx=>∃ (i:Nat) (ra rb:Nat->Nat),iv=.int .i64 (i:Nat)/\i<=N/\N<=i+gg/\Hid (RanksSec (P ^ M) (addF P M) (mulF P M m) n N V i ra rb)/\Hid (wx.rowIs go 3 (N) (fun t=>.int .i64 (if t<i then ((ra t+rb t:Nat):Int) - (n:Nat) else 0)))/\Below w1.heap.size w1 wx)
 case atStart=>exact ⟨0,fun _=>0,fun _=>0,rfl,by omega,by omega,hid fun _ h=>absurd h (by omega),rz.congr fun t _=>by rw [if_neg (by omega)],K2.out⟩
 clear rz K2
 obtain ⟨i,ra,rb,rfl,hi,a7,I,l,H⟩:=hrel
 have a8:(0:Int)<=(i:Int):=by omega
 have K2:=hid H
 obtain ⟨w3,L⟩:=exx wr
 subst L
 clear H
 by_cases hin:i<N
 rotate_left
 ·have v:¬ (i:Int)<(N:Int):=by omega
  obtain rfl:i=N:=by omega
  obtain ⟨q0,q1,q2,q3,q4⟩:=g.out _ K2.out
  have HF:Hid (w3.rowIs go 3 (i) (fun t=>.int .i64 (((ra t+rb t:Nat):Int) - (n:Nat)))):=hid (l.out.congr fun t ht=>by rw [if_pos ht])
  go_wp2
  go_ret
  exact ⟨go,ra,rb,rfl,B,HF.out,I.out,onS HB.out K2.out⟩
 have v:(i:Int)<(N:Int):=by omega
 have y:wrap64 ((i:Int)+1)=((i+1:Nat):Int):=by unfold wrap64; omega
 have x:IntKind.i64.wrap ((i:Int)+1)=((i+1:Nat):Int):=by rw [IntWalk.i64_in _ (by omega)]; omega
 obtain ⟨q0,q1,q2,q3,q4⟩:=g.out _ K2.out
 go_upto_region 5 with fail
 clear q0 q1 q2 q3 q4
 refine wp_region_held_drew (S:=fun X=>(X.cell? ⟨b0,0,none⟩=some (.int .i64 (P:Nat))/\X.cell? ⟨b0,1,none⟩=some (.int .i64 (M:Nat))/\X.cell? ⟨b0,2,none⟩=some (.slice A k c)/\X.cell? ⟨b0,3,none⟩=some (.int .i64 (N:Nat))/\X.cell? ⟨b0,4,none⟩=some (.slice T n d))) (by kernel_rfl) (g.out _ (onS K2.out (Below.refl _ _).drew)) (fun hHeld=>?_)
 obtain ⟨w4,hw,kb⟩:=dwx w3
 rw [<-hw] at hHeld ⊢;clear hw
 have K3:=hid kb
 clear kb
 refine tkq 0 (h:=tkq 1 (h:=tkq 2 (h:=tkq 3 (h:=tkq 4 (h:=tkq 6 (h:=tkq 7 (h:=tkq 8 (h:=tkq 9 (h:=tkq 12 (h:=tkq 13 (h:=tkq 14 (h:=?_))))))))))))
 clear hHeld y x
 refine rdq 5 (h:=fun K hK=>?_)
 go_simp
 go_wp2_with fail
 refine (zcj P M m A k c N T n d V 0 (i+1) w4 (HC.out.on (onS HB.out (onS K2.out K3.out))) (Nat.zero_le _) hin).mono ?_
 rintro e w5 ⟨a,rfl,ha,kb⟩
 have a5:=hid ha
 have aa:=ha.le
 replace K3:=hid (onS K3.out kb);clear kb ha
 refine bkq hK (g.out _ (onS K2.out K3.out)) (h:=fun hHeld=>?_)
 clear hK K hHeld
 refine rdq 10 (h:=fun K hK=>?_)
 go_simp
 go_wp2_with fail
 refine (zcj P M m A k c N T n d V i N w5 (HC.out.on (onS HB.out (onS K2.out K3.out))) (Nat.le_of_lt hin) (Nat.le_refl _)).mono ?_
 rintro e w6 ⟨b,rfl,hb,kb⟩
 have Z:=hid hb
 have a9:=hb.le
 replace K3:=hid (onS K3.out kb);clear kb hb
 refine bkq hK (g.out _ (onS K2.out K3.out)) (h:=fun hHeld=>?_)
 clear hK K
 have U:wrap64 ((a:Int)+(b:Int))=(a:Int)+(b:Int):=by unfold wrap64; omega
 have R:IntKind.i64.wrap ((a:Int)+(b:Int))=(a:Int)+(b:Int):=IntWalk.i64_in _ (by omega)
 obtain ⟨z,hz⟩:∃ z:Int,z=((a+b:Nat):Int) - (n:Nat):=⟨_,rfl⟩
 have Q:wrap64 ((a:Int)+(b:Int) - (n:Int))=z:=by unfold wrap64; omega
 have O:IntKind.i64.wrap ((a:Int)+(b:Int) - (n:Int))=z:=by rw [IntWalk.i64_in _ (by omega)]; omega
 have ab:(i:Int)<((N:Nat):Int):=by omega
 have HZ:=hid hz
 clear hz
 refine tkq 11 (h:=tkq 15 (h:=tkq 16 (h:=?_)))
 clear hHeld U R Q O
 refine rdq 17 (h:=fun K hK=>?_)
 have u0:=(zaa l.out K3.out).cell (i:=i) (by omega)
 have u1:=(zaa l.out K3.out).frozen i
 go_simp
 clear u0 u1
 have j:=(zaa l.out K3.out).set i (.int .i64 z)
 have kb:=(onS K2.out K3.out).setCell (p:=⟨go,i,none⟩) (by show _<=go; rw [J.out]; exact Nat.le_refl _) (.int .i64 z)
 have q:=g.out _ (onS K2.out K3.out)
 have o:b0≠go:=by rw [J.out]; exact Nat.ne_of_lt D.out
 obtain ⟨a0,a1,a2,a3,a4⟩:=q
 replace a0:=zab (p:=⟨go,i,none⟩) (u:=.int .i64 z) a0 o;replace a1:=zab (p:=⟨go,i,none⟩) (u:=.int .i64 z) a1 o;replace a2:=zab (p:=⟨go,i,none⟩) (u:=.int .i64 z) a2 o;replace a3:=zab (p:=⟨go,i,none⟩) (u:=.int .i64 z) a3 o;replace a4:=zab (p:=⟨go,i,none⟩) (u:=.int .i64 z) a4 o
 obtain ⟨w7,hw⟩:=exx (w6.setCell ⟨go,i,none⟩ (.int .i64 z))
 rw [<-hw] at j kb a0 a1 a2 a3 a4 ⊢
 have r:Hid (w7.rowIs go 3 (N) (fun t=>.int .i64 (if t<i+1 then (((if t=i then a else ra t)+(if t=i then b else rb t):Nat):Int) - (n:Nat) else 0))):=hid (j.congr fun t _=>by
  by_cases et:t=i
  ·rw [if_pos et,if_pos (by omega),if_pos et,if_pos et,HZ.out]
  have h1:(t<i)↔(t<i+1):=by omega
  rw [if_neg et,if_neg et,if_neg et]
  simp only [h1])
 have C:Hid (RanksSec (P ^ M) (addF P M) (mulF P M m) n N V (i+1) (fun t=>if t=i then a else ra t) (fun t=>if t=i then b else rb t)):=hid fun t ht=>by
  by_cases et:t=i
  ·subst et
   simp only [if_true]
   exact ⟨a5.out,Z.out⟩
  ·simp only [if_neg et]
   exact I.out t (by omega)
 have K9:=hid kb
 clear j kb hw o
 refine bkq hK ⟨a0,a1,a2,a3,a4⟩ (h:=fun hHeld=>?_)
 clear hK K a0 a1 a2 a3 a4
 refine wpAnyH_done (by kernel_rfl) ?_ _
 clear hHeld
 go_wp2
 go_roundg (gk - 1)
 case measure=>omega
 case rel=>exact ⟨i+1,_,_,by go_num,by omega,by omega,C,r,K9.out⟩
section
variable {H:Type} {enc:TypeId × Value->H} {w:World} {base:Nat} {spare:Nat->Bool} {held:Bool} {cs:List Value}
theorem ziJ (h:Sees enc Tryz.prog w base spare held 27 cs) :
  ∃ (P M:Int) (A:Option Addr) (k c:Nat) (N:Int) (T:Option Addr) (n d:Nat) (f:Nat->Int) (ln:Nat->Nat) (V:Nat->Nat->Int),cs=[.int .i64 P,.int .i64 M,.slice A k c,.int .i64 N,.slice T n d] /\
   -9223372036854775808<=N/\N<=9223372036854775807/\k<=c/\c<=maxLen/\n<=d/\d<=maxLen/\IntsR w w.heap.size A k f/\IntRows w T n ln V:=by
 obtain ⟨hl,_⟩:=zdu Tryz.underlying27 h
 match cs,hl.trans (show Tryz.prog.cellsOf 27 = 5 by kernel_rfl) with
 | [c0,c1,c2,c3,c4],_ =>
  have hc:Tryz.prog.cellsOf 3 = 1:=by kernel_rfl
  have g:Tryz.prog.cellsOf 22 = 1:=by kernel_rfl
  have b:Tryz.prog.cellsOf 25 = 1:=by kernel_rfl
  have e:Tryz.prog.cellsOf 24 = 3:=by kernel_rfl
  have gf:=zdv Tryz.underlying27 h 0 24 0 3 ⟨_,rfl,rfl,rfl⟩ e
  have gN:=zdv Tryz.underlying27 h 1 3 3 1 ⟨_,rfl,rfl,rfl⟩ hc
  have gT:=zdv Tryz.underlying27 h 2 25 4 1 ⟨_,rfl,rfl,rfl⟩ b
  have g0:=zdv Tryz.underlying24 gf 0 3 0 1 ⟨_,rfl,rfl,rfl⟩ hc
  have g1:=zdv Tryz.underlying24 gf 1 3 1 1 ⟨_,rfl,rfl,rfl⟩ hc
  have g2:=zdv Tryz.underlying24 gf 2 22 2 1 ⟨_,rfl,rfl,rfl⟩ g
  obtain ⟨P,hP,_⟩:=zcU Tryz.underlying3 g0
  obtain ⟨M,hM,_⟩:=zcU Tryz.underlying3 g1
  obtain ⟨A,k,c,f,hs,k1,k2,hr,_⟩:=zfw Tryz.underlying22 Tryz.underlying3 hc g2
  obtain ⟨N,hN,i⟩:=zcU Tryz.underlying3 gN
  obtain ⟨T,n,d,ln,V,hT,k3,k4,a⟩:=zhX gT
  simp at hP hM hs hN hT
  subst hP hM hs hN hT
  have:=zkb i
  exact ⟨P,M,A,k,c,N,T,n,d,f,ln,V,rfl,this.1,this.2,k1,k2,k3,k4,hr,a⟩
end
def ProfIs (q:Nat) (add mul:Nat->Nat->Nat) (n N:Nat) (V:Nat->Nat->Nat) (pr:Nat->Nat):Prop:=∀ i,i<N+1->∃ a b,RankIs q add mul n V 0 i a/\RankIs q add mul n V i (N - i) b/\pr i=a+b - n
def SecsIs (q:Nat) (add mul:Nat->Nat->Nat) (n N:Nat) (V:Nat->Nat->Nat) (se:Nat->Nat):Prop:=∀ i,i<N->∃ a b,RankIs q add mul n V 0 (i+1) a/\RankIs q add mul n V i (N - i) b/\se i=a+b - n
def SizeOk (q N:Nat) (pr se:Nat->Nat):Prop:=powS q pr (N+1)<=65536/\powS q se N<=262144
def Size47Post (P M:Int) (k:Nat) (f:Nat->Int) (N:Int) (n:Nat) (ln:Nat->Nat) (V:Nat->Nat->Int) (w:World) (e:Ending) (w':World):Prop :=
 Below w.heap.size w w'/\∃ u,FirstErr (CodeErrs P M k f N n ln V) u/\((u≠0/\e=.returned (.tuple #[.int .i64 0,.int .i64 u])) ∨
  (u=0/\∃ P' M' N':Nat,P=P'/\M=M'/\N=N'/\∃ pr se:Nat->Nat,ProfIs (P' ^ M') (addF P' M') (mulF P' M' fun i=>(f i).toNat) n N' (natT V) pr/\SecsIs (P' ^ M') (addF P' M') (mulF P' M' fun i=>(f i).toNat) n N' (natT V) se /\
   ((SizeOk (P' ^ M') N' pr se/\e=.returned (.tuple #[.int .i64 (powS (P' ^ M') se N':Nat),.int .i64 0]))∨(¬ SizeOk (P' ^ M') N' pr se/\e=.returned (.tuple #[.int .i64 0,.int .i64 8])))))
theorem zeO (P M:Int) (A:Option Addr) (k c:Nat) (f:Nat->Int) (N:Int) (TC:Option Addr) (n d:Nat) (ln:Nat->Nat) (V:Nat->Nat->Int) (w:World) (hr:IntsR w w.heap.size A k f) (h:IntRows w TC n ln V) :
  Calls Tryz.prog 33 #[.agg #[.int .i64 P,.int .i64 M,.slice A k c,.int .i64 N,.slice TC n d]] w (Size47Post P M k f N n ln V w):=by
 have HI:=hid hr
 have HT:=hid h
 clear hr h
 obtain ⟨w1,R,hB,rf⟩:=zaG w (.int .i64 P) (.int .i64 M) (.slice A k c) (.int .i64 N) (.slice TC n d) 27
 go_enter Tryz.func33, Tryz.ntmps33
 go_upto_region 1 with fail
 rw [<-R];clear R
 obtain ⟨b0,G⟩:=exx w.heap.size
 rw [<-G] at rf;rw [<-G];clear G
 have o:Hid (∀ X,Below w1.heap.size w1 X->(X.cell? ⟨b0,0,none⟩=some (.int .i64 P)/\X.cell? ⟨b0,1,none⟩=some (.int .i64 M)/\X.cell? ⟨b0,2,none⟩=some (.slice A k c)/\X.cell? ⟨b0,3,none⟩=some (.int .i64 N)/\X.cell? ⟨b0,4,none⟩=some (.slice TC n d))):=hid fun X hx =>
  ⟨(zaa rf hx).cell (i:=0) (by omega),(zaa rf hx).cell (i:=1) (by omega),(zaa rf hx).cell (i:=2) (by omega),(zaa rf hx).cell (i:=3) (by omega),(zaa rf hx).cell (i:=4) (by omega)⟩
 have HB:=hid hB
 clear hB rf
 obtain ⟨q0,q1,q2,q3,q4⟩:=o.out _ (Below.refl _ _)
 go_wp2_with fail
 refine (zcx P M A k c f N TC n d ln V w1 (HI.out.on HB.out) (HT.out.on HB.out)).mono ?_
 rintro e w2 ⟨u,rfl,hu,kb⟩
 have HU:=hid hu
 have KB:=hid kb
 clear kb hu q0 q1 q2 q3 q4
 by_cases hu0:u=0
 rotate_left
 ·have S:(u != 0)=true:=by simpa using hu0
  have a8:=hid hu0
  clear hu0
  go_wp2
  go_ret2
  exact ⟨onS HB.out KB.out,u,HU.out,.inl ⟨a8.out,rfl⟩⟩
 subst hu0
 have S:((0:Int) != 0)=false:=by simp
 obtain ⟨P',M',N',rfl,rfl,rfl,hC⟩:=zbB HI.out HT.out HU.out
 have HC:=hid hC
 have a2:=hC.ln2
 have ad:=hC.n_le
 have D:=(fieldLaws hC.fld).two
 have j:P' ^ M'<=256:=hC.fld.1.2.2.2
 clear hC
 have K:Hid (ordV (P':Int) (M':Int)=((P' ^ M':Nat):Int)):=hid (zb6 HC.out.fld.1)
 obtain ⟨q0,q1,q2,q3,q4⟩:=o.out _ KB.out
 go_wp2_with fail
 refine (zbQ (P':Int) (M':Int) A k c w2).mono ?_
 rintro e w3 ⟨rfl,kb⟩
 rw [K.out]
 obtain ⟨q,hq⟩:=exx (P' ^ M')
 have HQ:=hid hq
 rw [<-hq] at D j ⊢;replace KB:=hid (onS KB.out kb);clear kb q0 q1 q2 q3 q4 S hq
 obtain ⟨q0,q1,q2,q3,q4⟩:=o.out _ KB.out
 go_wp2_with fail
 refine (zhF P' M' (fun i=>(f i).toNat) A k c N' TC n d (natT V) w3 (HC.out.on (onS HB.out KB.out))).mono ?_
 rintro e w4 ⟨g,ra,rb,rfl,hg,a,b,kb⟩
 have m:Hid (SecsIs (P' ^ M') (addF P' M') (mulF P' M' fun i=>(f i).toNat) n N' (natT V) fun i=>ra i+rb i - n):=hid fun i hi=>⟨ra i,rb i,(b i hi).1,(b i hi).2,rfl⟩
 have z:∀ i,i<N'->((ra i+rb i:Nat):Int) - (n:Nat)<=1048576:=fun i hi=>by
  have h1:=(b i hi).1.le
  have h2:=(b i hi).2.le
  omega
 have B:=hid z
 have l:Hid (IntsR w4 w4.heap.size (some ⟨g,0,none⟩) N' (fun i=>((ra i+rb i:Nat):Int) - (n:Nat))):=hid (zbl a)
 replace KB:=hid (onS KB.out kb);clear kb hg a b z q0 q1 q2 q3 q4
 go_wp2_with fail
 refine (zf0 q N' 262144 (some ⟨g,0,none⟩) N' _ w4 l.out D j (by omega) B.out (by omega) (by omega)).mono ?_
 rintro e w5 ⟨rfl,kb⟩
 have y:powS q (fun i=>(((ra i+rb i:Nat):Int) - (n:Nat)).toNat) N'=powS q (fun i=>ra i+rb i - n) N':=zbP N' fun i _=>by omega
 rw [y]
 obtain ⟨se,T⟩:∃ se:Nat->Nat,se=fun i=>ra i+rb i - n:=⟨_,rfl⟩
 rw [<-T] at m ⊢
 obtain ⟨es,F⟩:=exx (powS q se N')
 rw [<-F]
 have Z:=hid F
 obtain ⟨em,Y⟩:=exx (min es (262144+1))
 rw [<-Y]
 have a1:em<=262145:=by omega
 have x:es<=262144->em=es:=fun _=>by omega
 have v:¬ es<=262144->262144<em:=fun _=>by omega
 have Q:=hid x
 have O:=hid v
 clear Y x v;replace KB:=hid (onS KB.out kb);clear kb y T F l B
 obtain ⟨q0,q1,q2,q3,q4⟩:=o.out _ KB.out
 go_wp2_with fail
 refine (zhv P' M' (fun i=>(f i).toNat) A k c N' TC n d (natT V) w5 (HC.out.on (onS HB.out KB.out))).mono ?_
 rintro e w6 ⟨g,ra,rb,rfl,hg,a,b,kb⟩
 have C:Hid (ProfIs (P' ^ M') (addF P' M') (mulF P' M' fun i=>(f i).toNat) n N' (natT V) fun i=>ra i+rb i - n):=hid fun i hi=>⟨ra i,rb i,(b i hi).1,(b i hi).2,rfl⟩
 have z:∀ i,i<N'+1->((ra i+rb i:Nat):Int) - (n:Nat)<=1048576:=fun i hi=>by
  have h1:=(b i hi).1.le
  have h2:=(b i hi).2.le
  omega
 have B:=hid z
 have l:Hid (IntsR w6 w6.heap.size (some ⟨g,0,none⟩) (N'+1) (fun i=>((ra i+rb i:Nat):Int) - (n:Nat))):=hid (zbl a)
 replace KB:=hid (onS KB.out kb);clear kb hg a b z q0 q1 q2 q3 q4
 go_wp2_with fail
 refine (zf0 q (N'+1) 65536 (some ⟨g,0,none⟩) (N'+1) _ w6 l.out D j (by omega) B.out (by omega) (by omega)).mono ?_
 rintro e w7 ⟨rfl,kb⟩
 have y:powS q (fun i=>(((ra i+rb i:Nat):Int) - (n:Nat)).toNat) (N'+1)=powS q (fun i=>ra i+rb i - n) (N'+1):=zbP (N'+1) fun i _=>by omega
 rw [y]
 obtain ⟨pr,U⟩:∃ pr:Nat->Nat,pr=fun i=>ra i+rb i - n:=⟨_,rfl⟩
 rw [<-U] at C ⊢
 obtain ⟨ps,E⟩:=exx (powS q pr (N'+1))
 rw [<-E]
 have a9:=hid E
 obtain ⟨pm,W⟩:=exx (min ps (65536+1))
 rw [<-W]
 have a0:pm<=65537:=by omega
 have s:ps<=65536->pm<=65536:=fun _=>by omega
 have r:¬ ps<=65536->65536<pm:=fun _=>by omega
 have J:=hid s
 have I:=hid r
 clear W s r;replace KB:=hid (onS KB.out kb);clear kb y U E l B
 have p:Hid (SizeOk (P' ^ M') N' pr se↔ps<=65536/\es<=262144):=hid (by unfold SizeOk; rw [a9.out,Z.out,<-HQ.out])
 by_cases h1:ps<=65536
 rotate_left
 ·have a5:=I.out h1
  have a7:(pm:Int) > 65536:=by omega
  have a6:decide ((pm:Int) > 65536)=true:=by simp; omega
  have L:Hid (¬ SizeOk (P' ^ M') N' pr se):=hid fun g=>h1 (p.out.1 g).1
  go_wp2
  go_ret2
  exact ⟨onS HB.out KB.out,0,HU.out,.inr ⟨rfl,P',M',N',rfl,rfl,rfl,pr,se,C.out,m.out,.inr ⟨L.out,rfl⟩⟩⟩
 have a5:=J.out h1
 have a7:¬ ((pm:Int) > 65536):=by omega
 have a6:decide ((pm:Int) > 65536)=false:=by simp; omega
 by_cases h2:es<=262144
 ·have H:=Q.out h2
  have ab:=hid H
  have ae:em<=262144:=by omega
  clear H
  have a4:¬ ((em:Int) > 262144):=by omega
  have a3:decide ((em:Int) > 262144)=false:=by simp; omega
  have aa:Hid (SizeOk (P' ^ M') N' pr se):=hid (p.out.2 ⟨h1,h2⟩)
  have ac:Hid (em=powS (P' ^ M') se N'):=hid (by rw [ab.out,Z.out,HQ.out])
  go_wp2
  go_ret2
  exact ⟨onS HB.out KB.out,0,HU.out,.inr ⟨rfl,P',M',N',rfl,rfl,rfl,pr,se,C.out,m.out,.inl ⟨aa.out,by rw [<-ac.out]; rfl⟩⟩⟩
 have H:=O.out h2
 have a4:(em:Int) > 262144:=by omega
 have a3:decide ((em:Int) > 262144)=true:=by simp; omega
 have L:Hid (¬ SizeOk (P' ^ M') N' pr se):=hid fun g=>h2 (p.out.1 g).2
 go_wp2
 go_ret2
 exact ⟨onS HB.out KB.out,0,HU.out,.inr ⟨rfl,P',M',N',rfl,rfl,rfl,pr,se,C.out,m.out,.inr ⟨L.out,rfl⟩⟩⟩
def BigC (P M:Int) (_:Nat) (f:Nat->Int) (N:Int) (n:Nat) (V:Nat->Nat->Int):Prop:=∃ P' M' N':Nat,P=P'/\M=M'/\N=N'/\∃ pr se:Nat->Nat,ProfIs (P' ^ M') (addF P' M') (mulF P' M' fun i=>(f i).toNat) n N' (natT V) pr/\SecsIs (P' ^ M') (addF P' M') (mulF P' M' fun i=>(f i).toNat) n N' (natT V) se/\¬ SizeOk (P' ^ M') N' pr se
def SmallPost (most:Nat) (P M:Int) (k:Nat) (f:Nat->Int) (N:Int) (n:Nat) (ln:Nat->Nat) (V:Nat->Nat->Int) (w:World) (e:Ending) (w':World):Prop :=
 Below w.heap.size w w'/\∃ b:Bool,e=.returned (.bool b)/\(b=true->(¬ FirstErr (CodeErrs P M k f N n ln V) 0)∨(P.toNat ^ M.toNat) ^ n<=most∨BigC P M k f N n V)
theorem zgw (P M:Int) (A:Option Addr) (k c:Nat) (f:Nat->Int) (N:Int) (TC:Option Addr) (n d:Nat) (ln:Nat->Nat) (V:Nat->Nat->Int) (w:World) (hr:IntsR w w.heap.size A k f) (h:IntRows w TC n ln V) :
  Calls Tryz.prog 29 #[.agg #[.int .i64 P,.int .i64 M,.slice A k c,.int .i64 N,.slice TC n d]] w (SmallPost 1024 P M k f N n ln V w):=by
 have HI:=hid hr
 have HT:=hid h
 clear hr h
 obtain ⟨w1,g,hB,rf⟩:=zaG w (.int .i64 P) (.int .i64 M) (.slice A k c) (.int .i64 N) (.slice TC n d) 27
 go_enter Tryz.func29, Tryz.ntmps29
 go_upto_region 1 with fail
 rw [<-g];clear g
 obtain ⟨b0,b⟩:=exx w.heap.size
 rw [<-b] at rf;rw [<-b];clear b
 have a:Hid (∀ X,Below w1.heap.size w1 X->(X.cell? ⟨b0,0,none⟩=some (.int .i64 P)/\X.cell? ⟨b0,1,none⟩=some (.int .i64 M)/\X.cell? ⟨b0,2,none⟩=some (.slice A k c)/\X.cell? ⟨b0,3,none⟩=some (.int .i64 N)/\X.cell? ⟨b0,4,none⟩=some (.slice TC n d))):=hid fun X hx =>
  ⟨(zaa rf hx).cell (i:=0) (by omega),(zaa rf hx).cell (i:=1) (by omega),(zaa rf hx).cell (i:=2) (by omega),(zaa rf hx).cell (i:=3) (by omega),(zaa rf hx).cell (i:=4) (by omega)⟩
 have HB:=hid hB
 clear hB rf
 obtain ⟨q0,q1,q2,q3,q4⟩:=a.out _ (Below.refl _ _)
 go_wp2_with fail
 refine (zcx P M A k c f N TC n d ln V w1 (HI.out.on HB.out) (HT.out.on HB.out)).mono ?_
 rintro e w2 ⟨u,rfl,hu,kb⟩
 have HU:=hid hu
 have KB:=hid kb
 clear kb hu q0 q1 q2 q3 q4
 obtain ⟨q0,q1,q2,q3,q4⟩:=a.out _ KB.out
 by_cases hu0:u=0
 rotate_left
 ·have l:(u != 0)=true:=by simpa using hu0
  have o:Hid (¬ FirstErr (CodeErrs P M k f N n ln V) 0):=hid fun h0=>hu0 (FirstErr.unique HU.out h0)
  clear hu0
  go_wp2
  go_ret
  exact ⟨onS HB.out KB.out,true,rfl,fun _=>.inl o.out⟩
 subst hu0
 have l:((0:Int) != 0)=false:=by simp
 go_wp2_with fail
 refine (zgi 1024 P M A k c f N TC n d ln V w2 (HI.out.on (onS HB.out KB.out)) (HT.out.on (onS HB.out KB.out)) (by omega)).mono ?_
 rintro e w3 ⟨v,rfl,hv,kb⟩
 replace KB:=hid (onS KB.out kb);clear kb q0 q1 q2 q3 q4
 by_cases hv0:v > 0
 ·have HC:Hid ((P.toNat ^ M.toNat) ^ n<=1024):=hid (by
   rcases hv with ⟨h1,_⟩ | ⟨_,h2,_⟩
   ·omega
   ·exact h2)
  have j:decide (v > 0)=true:=by simp; omega
  clear hv
  go_wp2
  go_ret
  exact ⟨onS HB.out KB.out,true,rfl,fun _=>.inr (.inl HC.out)⟩
 have j:decide (v > 0)=false:=by simp; omega
 clear hv
 obtain ⟨q0,q1,q2,q3,q4⟩:=a.out _ KB.out
 go_wp2_with fail
 refine (zeO P M A k c f N TC n d ln V w3 (HI.out.on (onS HB.out KB.out)) (HT.out.on (onS HB.out KB.out))).mono ?_
 rintro e w4 ⟨kb,u,hu,he⟩
 obtain rfl:u=0:=FirstErr.unique hu HU.out
 replace KB:=hid (onS KB.out kb);clear kb hu q0 q1 q2 q3 q4
 rcases he with ⟨h0,_⟩ | ⟨_,P',M',N',hP,hM,hN,pr,se,h1,h2,⟨h3,rfl⟩ | ⟨h3,rfl⟩⟩
 ·exact absurd rfl h0
 ·have m:((0:Int) == 8)=false:=by simp
  clear h1 h2 h3 hP hM hN
  go_wp2
  go_ret
  exact ⟨onS HB.out KB.out,false,rfl,fun h=>by cases h⟩
 have m:((8:Int) == 8)=true:=by simp
 have p:Hid (BigC P M k f N n V):=hid ⟨P',M',N',hP,hM,hN,pr,se,h1,h2,h3⟩
 clear h1 h2 h3 hP hM hN
 go_wp2
 go_ret
 exact ⟨onS HB.out KB.out,true,rfl,fun _=>.inr (.inr p.out)⟩
def SizeIn (q n N:Nat) (pv:Nat->Nat) (R:Nat->Nat->Nat):Prop:=powS q (fun i=>cntB (actA pv R N i) n) (N+1)<=65536/\powS q (fun i=>cntB (actE pv R N i) n) N<=262144
section
variable {q n N:Nat} {add mul:Nat->Nat->Nat} {pv:Nat->Nat} {R:Nat->Nat->Nat} {T:Trel}
theorem MinT.sums (hM:MinT q add mul n N pv R T):T.sumW (N+1)=(powS q (fun i=>cntB (actA pv R N i) n) (N+1):Nat)/\T.sumE N=powS q (fun i=>cntB (actE pv R N i) n) N:=by
 constructor
 ·have:∀ m,m<=N+1->T.sumW m=(powS q (fun i=>cntB (actA pv R N i) n) m:Nat):=by
   intro m
   induction m with
   | zero=>intro _; rfl
   | succ m ih =>
    intro h
    show T.sumW m+T.W m=((powS q (fun i=>cntB (actA pv R N i) n) m+q ^ cntB (actA pv R N m) n:Nat):Int)
    rw [ih (by omega),hM.w m (by omega)]
    push_cast
    rfl
  exact this _ (Nat.le_refl _)
 have:∀ m,m<=N->T.sumE m=powS q (fun i=>cntB (actE pv R N i) n) m:=by
  intro m
  induction m with
  | zero=>intro _; rfl
  | succ m ih =>
   intro h
   show T.sumE m+T.el m=powS q (fun i=>cntB (actE pv R N i) n) m+q ^ cntB (actE pv R N m) n
   rw [ih (by omega),hM.el m (by omega)]
 exact this _ (Nat.le_refl _)
theorem MinT.proper_in (hL:FieldLaws q add mul) (hq:q<=256) (hN:N<=64) (hM:MinT q add mul n N pv R T) (h:SizeIn q n N pv R):T.Proper :=
 hM.proper hL hq hN (by rw [hM.sums.1]; have:=h.1; omega) (by rw [hM.sums.2]; exact h.2)
theorem SpanF.ranks2 (hL:FieldLaws q add mul) {pv:Nat->Nat} {V R:Nat->Nat->Nat} (h:SpanF q n N pv R) (hV:∀ i,i<n->∀ j,j<N->V i j<q) (hS:SameSp q add mul N n n V R) (hd:∀ i j,i<j->j<n->lE (R i) N≠lE (R j) N)
  {i1 i a b:Nat} (hi1:i1<=N) (hi:i<=i1) (ha:RankIs q add mul n V 0 i1 a) (hb:RankIs q add mul n V i (N - i) b):a+b=cntB (fun s=>decide (pv s<i1) && decide ((i:Int)<=lE (R s) N)) n+n:=by
 obtain ⟨p1,W1,e,k⟩:=ha
 obtain ⟨p2,W2,d,f⟩:=hb
 have e1:SameSp q add mul i1 n a (fun s j=>R s (0+j)) W1:=fun x=>((hS.cut (lo:=0) (m:=i1) (by omega) x).symm.trans ((RowOps.sp hL (fun s hs j hj=>hV s hs (0+j) (by omega)) k).1 x)).trans (EchN.sp_top hL e x)
 have e2:SameSp q add mul (N - i) n b (fun s j=>R s (i+j)) W2:=fun x=>((hS.cut (lo:=i) (m:=N - i) (by omega) x).symm.trans ((RowOps.sp hL (fun s hs j hj=>hV s hs (i+j) (by omega)) f).1 x)).trans (EchN.sp_top hL d x)
 have k1:a=cntB (fun s=>decide (pv s<i1)) n:=by
  refine zd7 hL (κ:=pv) (μ:=fun s=>s) (fun s hs j hj=>h.lt s hs (0+j) (by omega)) e.top e1 (fun s hs hD=>?_) (fun s t hs ht hD hne=>?_) (fun s hs hD j hj=>?_)
  ·have hD:=of_decide_eq_true hD
   refine ⟨hD,?_⟩
   show R s (0+pv s)≠0
   rw [Nat.zero_add,h.one s hs]
   omega
  ·have hD:=of_decide_eq_true hD
   rcases Nat.lt_or_ge t s with g | g
   ·exact .inr ⟨decide_eq_true (by have:=h.inc t s g hs; omega),g⟩
   refine .inl ?_
   show R t (0+pv s)=0
   rw [Nat.zero_add]
   exact h.low t ht _ (h.inc s t (by omega) ht)
  have hD:=of_decide_eq_false hD
  show R s (0+j)=0
  rw [Nat.zero_add]
  exact h.low s hs j (by omega)
 have k2:b=cntB (fun s=>decide ((i:Int)<=lE (R s) N)) n:=by
  have c:=fun s=>zix (u:=R s) N
  refine zd7 hL (κ:=fun s=>(lE (R s) N).toNat - i) (μ:=fun s=>N - (lE (R s) N).toNat) (fun s hs j hj=>h.lt s hs (i+j) (by omega)) d.top e2 (fun s hs hD=>?_) (fun s t hs ht hD hne=>?_) (fun s hs hD j hj=>?_)
  ·have hD:=of_decide_eq_true hD
   have h1:=c s
   have h2:=zka (u:=R s) N (lE (R s) N).toNat (by omega)
   refine ⟨by omega,?_⟩
   show R s (i+((lE (R s) N).toNat - i))≠0
   rw [show i+((lE (R s) N).toNat - i)=(lE (R s) N).toNat by omega]
   exact h2.2
  rotate_left
  ·have hD:=of_decide_eq_false hD
   have h1:=c s
   show R s (i+j)=0
   exact zbs (n:=N) (by omega) (by omega)
  have hD:=of_decide_eq_true hD
  have h1:=c s
  have h2:=c t
  show R t (i+((lE (R s) N).toNat - i))=0∨_
  rw [show i+((lE (R s) N).toNat - i)=(lE (R s) N).toNat by omega]
  have l:lE (R s) N≠lE (R t) N:=by
   rcases Nat.lt_or_ge s t with g | g
   ·exact hd s t g ht
   ·exact (hd t s (by omega) hs).symm
  by_cases g:lE (R t) N<lE (R s) N
  ·exact .inl (zbs (n:=N) (by omega) (by omega))
  ·exact .inr ⟨decide_eq_true (by omega),by omega⟩
 rw [k1,k2]
 exact zd5 n fun s hs=>by
  have h1:=h.pos hs
  by_cases g:pv s<i1
  ·exact .inl (decide_eq_true g)
  ·exact .inr (decide_eq_true (by omega))
theorem SpanF.prof (hL:FieldLaws q add mul) {pv:Nat->Nat} {V R:Nat->Nat->Nat} (h:SpanF q n N pv R) (hV:∀ i,i<n->∀ j,j<N->V i j<q) (hS:SameSp q add mul N n n V R) (hd:∀ i j,i<j->j<n->lE (R i) N≠lE (R j) N)
  {i a b:Nat} (hi:i<=N) (ha:RankIs q add mul n V 0 i a) (hb:RankIs q add mul n V i (N - i) b):a+b=cntB (actA pv R N i) n+n:=SpanF.ranks hL h hV hS hd hi ha hb
theorem SpanF.sects (hL:FieldLaws q add mul) {pv:Nat->Nat} {V R:Nat->Nat->Nat} (h:SpanF q n N pv R) (hV:∀ i,i<n->∀ j,j<N->V i j<q) (hS:SameSp q add mul N n n V R) (hd:∀ i j,i<j->j<n->lE (R i) N≠lE (R j) N)
  {i a b:Nat} (hi:i<N) (ha:RankIs q add mul n V 0 (i+1) a) (hb:RankIs q add mul n V i (N - i) b):a+b=cntB (actE pv R N i) n+n:=by
 have:=SpanF.ranks2 hL h hV hS hd (i1:=i+1) (i:=i) (by omega) (by omega) ha hb
 rw [this]
 congr 1
 refine zeE n fun s _=>?_
 unfold actE
 congr 1
 exact decide_eq_decide.2 (by omega)
end
def updI (x:Nat->Nat->Int) (v k:Nat) (y:Int):Nat->Nat->Int:=fun u j=>if u=v/\j=k then y else x u j
theorem zkK (x:Nat->Nat->Int) (v k:Nat) (y:Int):updI x v k y v k=y:=if_pos ⟨rfl,rfl⟩
theorem zhG {x:Nat->Nat->Int} {v k u j:Nat} {y:Int} (h:¬ (u=v/\j=k)):updI x v k y u j=x u j:=if_neg h
def IntTab (w:World) (g base m:Nat) (F:Nat->Value) (n:Nat->Nat) (x:Nat->Nat->Int):Prop :=
 TabOwn w g base 22 3 1 m F n (fun v i _=>.int .i64 (x v i))
section
variable {w w':World} {g base m:Nat} {F:Nat->Value} {n n':Nat->Nat} {x x':Nat->Nat->Int}
theorem IntTab.on (h:IntTab w g base m F n x) (hb:Below w.heap.size w w'):IntTab w' g base m F n x:=⟨zaa h.row hb,fun v hv=>(h.own v hv).on hb,h.apart⟩
theorem IntTab.congr (h:IntTab w g base m F n x) (e1:∀ v,v<m->n v=n' v) (e2:∀ v,v<m->∀ k,k<n v->x v k=x' v k):IntTab w g base m F n' x' :=
 ⟨h.row,fun v hv=>by
  rw [<-e1 v hv]
  exact (h.own v hv).congr fun i hi j _=>by
   show Value.int .i64 (x v i)=.int .i64 (x' v i)
   rw [e2 v hv i hi],h.apart⟩
theorem IntTab.at (h:IntTab w g base m F n x) {v k:Nat} (hv:v<m) (hk:k<n v):∃ b o d,F v=.slice (some ⟨b,o,none⟩) (n v) d/\base<=b/\b<w.heap.size/\w.cell? ⟨b,o+k,none⟩=some (.int .i64 (x v k))/\w.frozen? ⟨b,o+k,none⟩=false:=by
 have h1:=h.own v hv
 obtain ⟨b,o,d,e,hb,hl,_,_,hc⟩:=h1.form (by omega)
 have a:=hc k hk 0 (by omega)
 rw [Nat.mul_one,Nat.add_zero] at a
 refine ⟨b,o,d,e,hb,hl,a,?_⟩
 rw [e] at h1
 exact h1.frozen (o+k)
theorem IntTab.set (h:IntTab w g base m F n x) (hgb:g<base) {v k b o d:Nat} {y:Int} (hv:v<m) (hk:k<n v) (hF:F v=.slice (some ⟨b,o,none⟩) (n v) d) :
  IntTab (w.setCell ⟨b,o+k,none⟩ (.int .i64 y)) g base m F n (updI x v k y):=by
 have c:(F v).ownBlock=some b:=by rw [hF]; rfl
 have l:=(h.own v hv).lt b c
 refine ⟨h.row.setOther (by simp; omega) _,fun u hu=>?_,h.apart⟩
 by_cases e:u=v
 ·subst e
  have k1:=h.own u hu
  rw [hF] at k1 ⊢
  have ks:=k1.set (a:=k) (b:=0) hk (by omega) (.int .i64 y)
  rw [Nat.mul_one,Nat.add_zero] at ks
  exact ks.congr fun i _ j hj=>by
   obtain rfl:j=0:=by omega
   show (if i=k/\0=0 then _ else _)=Value.int .i64 (updI x u k y u i)
   unfold updI
   by_cases ei:i=k
   ·rw [if_pos ⟨ei,rfl⟩,if_pos ⟨rfl,ei⟩]
   ·rw [if_neg fun hh=>ei hh.1,if_neg fun hh=>ei hh.2]
 have k1:=h.own u hu
 have f:(F u).ownBlock≠some b:=fun hh=>by
  rcases h.apart u v hu hv e with h0 | h0
  ·rw [h0] at hh; cases hh
  ·rw [c] at h0; exact h0 hh
 exact (k1.setCell (a:=⟨b,o+k,none⟩) f _).congr fun i _ j _=>by
  show Value.int .i64 (x u i)=.int .i64 (updI x v k y u i)
  rw [zhG fun hh=>e hh.1]
theorem IntTab.rows (h:IntTab w g base m F n x) (hx:∀ v,v<m->∀ k,k<n v -> -9223372036854775808<=x v k/\x v k<=9223372036854775807):IntRows w (some ⟨g,0,none⟩) m n x:=fun i hi=>by
 have h1:=h.own i hi
 obtain ⟨A,c,e⟩:=h1.shape
 have hc:=h.row.cell hi
 rw [e] at h1 hc
 exact ⟨g,0,A,c,rfl,h.row.lt,by rw [Nat.zero_add]; exact hc,h1.capL.1,h1.capL.2,h1.rd rfl,fun j hj=>hx i hi j hj⟩
end
theorem zfq {w:World} {g base m:Nat} {x:Nat->Nat->Int} (h:w.rowIs g 22 m (fun _=>.slice none 0 0)):IntTab w g base m (fun _=>.slice none 0 0) (fun _=>0) x :=
 ⟨h,fun _ _=>Own.nil _ _ _ _ _,fun _ _ _ _ _=>.inl rfl⟩
theorem zdr {ops:Array Oper} {o:Oper} {a:Act} {w:World} {K:Act->World->Prop} {Q:Exit->Act->World->Prop} {E:Prop} (hgd:o.guard=none) (sl y:Operand)
  (ho:o.op=.call { callee:=.builtin .append,args:=#[sl,y],argTypes:=#[22, 22] })
  (base:Nat) (v:Value) (k:Nat) (x:Nat->Int) (hv:a.eval sl=v) (h:Own w base 3 1 v k (fun i _=>.int .i64 (x i))) (hbase:base<=w.heap.size) (hk:k<=1048576)
  (b c:Nat) (hy:a.eval y=.slice (some ⟨b,0,none⟩) 1 c) (c0:w.cell? ⟨b,0,none⟩=some (.int .i64 (x k)))
  (hK:∀ v' w',Own w' base 3 1 v' (k+1) (fun i _=>.int .i64 (x i))->w.grownBy w' v.ownBlock->(v'.ownBlock=v.ownBlock∨v'.ownBlock=some w.heap.size)->K (a.put o.dst v') w') :
  if Region.wanted o (yielded ops a.tmps)=true then Oper.wp Tryz.prog o a w K Q else E:=by
 obtain ⟨i0,qi0,qz0,qz1,qz2⟩:=info_parts Tryz.infoInt
 exact zbX w hgd sl y _ ho base 3 i0 _ 1 8 Tryz.underlying22 qi0 qz0 qz1 qz2 rfl (by omega) v k _ hv h ⟨b,0,none⟩ c hy (fun j hj=>by
   obtain rfl:j=0:=by omega
   exact c0) (fun _ _=>rfl) (by unfold maxLen; omega) (by omega) hbase hK
theorem Tryz.infoTabs:(Tryz.prog.info? 25).map (fun i=>(i.zero,i.size,i.bytes))=some (some (.slice none 0 0),1,24):=by kernel_rfl
structure LTab (w:World) (base g m a:Nat) (P:Nat->Prop) (R:Nat->Value) (S:Nat->Nat->Nat):Prop where
 ge:base<=g
 row:w.rowIs g 22 m R
 yes:∀ u,u<m->P u->Own w base 3 1 (R u) a (fun k _=>.int .i64 (S u k:Nat))
 no:∀ u,u<m->¬ P u->R u=.slice none 0 0
section
variable {w w':World} {base g m a:Nat} {P:Nat->Prop} {R:Nat->Value} {S:Nat->Nat->Nat}
theorem LTab.on (h:LTab w base g m a P R S) (hb:Below w.heap.size w w'):LTab w' base g m a P R S:=⟨h.ge,zaa h.row hb,fun u hu hp=>(h.yes u hu hp).on hb,h.no⟩
theorem LTab.congr {P':Nat->Prop} {S':Nat->Nat->Nat} (h:LTab w base g m a P R S) (e1:∀ u,u<m->(P u↔P' u)) (e2:∀ u,u<m->P u->∀ k,k<a->S u k=S' u k):LTab w base g m a P' R S' :=
 ⟨h.ge,h.row,fun u hu hp=>(h.yes u hu ((e1 u hu).2 hp)).congr fun k hk _ _=>by rw [e2 u hu ((e1 u hu).2 hp) k hk],fun u hu hp=>h.no u hu fun g=>hp ((e1 u hu).1 g)⟩
theorem LTab.set (h:LTab w base g m a P R S) {u:Nat} {v:Value} {s:Nat->Nat} (hv:Own w base 3 1 v a (fun k _=>.int .i64 (s k:Nat))) :
  LTab (w.setCell ⟨g,u,none⟩ v) base g m a (fun x=>P x∨x=u) (fun x=>if x=u then v else R x) (fun x k=>if x=u then s k else S x k):=by
 have far:∀ {y:Value} {F:Nat->Nat->Value},Own w base 3 1 y a F->Own (w.setCell ⟨g,u,none⟩ v) base 3 1 y a F:=fun hy=>hy.setCell (a:=⟨g,u,none⟩) (fun e=>(zaS h.row hy (by decide)).elim (fun h=>by rw [h] at e; cases e) fun h=>h e) _
 refine ⟨h.ge,(h.row.set u v).congr fun x _=>rfl,fun x hx hp=>?_,fun x hx hp=>?_⟩
 ·by_cases e:x=u
  ·simp only [if_pos e]
   exact far hv
  ·simp only [if_neg e]
   exact far (h.yes x hx (hp.resolve_right e))
 have e:x≠u:=fun e=>hp (.inr e)
 show (if x=u then v else R x)=_
 rw [if_neg e]
 exact h.no x hx fun g=>hp (.inl g)
theorem LTab.kept {b:Nat} (h:LTab w base g m a P R S) (hg:w.grownBy w' (some b)) (h1:b≠g) (h2:∀ u,u<m->P u->(R u).ownBlock≠some b):LTab w' base g m a P R S :=
 ⟨h.ge,h.row.of_block (hg.block _ h.row.lt fun e=>h1 (Option.some.inj e).symm),fun u hu hp=>(h.yes u hu hp).kept hg (.inr (h2 u hu hp)),h.no⟩
theorem LTab.made {m:Nat} (w:World) (a:Nat) (S:Nat->Nat->Nat):LTab (w.alloc (.cells (madeCells #[.slice none 0 0] m) 22)) w.heap.size w.heap.size m a (fun _=>False) (fun _=>.slice none 0 0) S :=
 ⟨Nat.le_refl _,World.rowIs_made w (.slice none 0 0) m 22, fun _ _ h=>h.elim,fun _ _ _=>rfl⟩
end
theorem zhH (T:Option Addr) (n k c:Nat) (W:Nat->Nat->Nat) (w:World) (h:MRows w T n k W) (hk:k<=1048576) (hn:n<=1048576) :
  Calls Tryz.prog 87 #[.slice T n c,.int .i64 (k:Nat)] w (MPost k n (fun i j=>W j i) w):=by
 have HR:=hid h
 have H0:=hid (MTab.nil w w.heap.size n (fun i j=>W j i))
 clear h
 go_enter Tryz.func87, Tryz.ntmps87
 go_wp2
 obtain ⟨nv,l⟩:∃ x:Value,x=.slice none 0 0:=⟨_,rfl⟩
 have M:=hid l
 rw [<-l] at H0
 simp only [<-l]
 clear l
 go_loopg [5,6,7,8] k (fun gg ov iv _ _ wx=>∃ i:Nat,iv=.int .i64 (i:Nat)/\i<=k/\k<=i+gg/\Hid (MTab wx w.heap.size ov i n (fun i j=>W j i))/\Below w.heap.size w wx)
 case atStart=>exact ⟨0,rfl,by omega,by omega,H0,Below.refl _ _⟩
 clear H0
 obtain ⟨i,rfl,hi,P,HM,hB⟩:=hrel
 have Q:(0:Int)<=(i:Int):=by omega
 by_cases hlt:i<k
 rotate_left
 ·have s:¬ (i:Int)<(k:Int):=by omega
  obtain rfl:i=k:=by omega
  go_wp2
  go_ret
  exact ⟨_,rfl,HM.out,hB⟩
 have s:(i:Int)<(k:Int):=by omega
 obtain ⟨gO,I⟩:=exx gk
 subst I
 obtain ⟨w7,H⟩:=exx wr
 subst H
 have E:=hid hB
 have G:Hid (Own w7 w7.heap.size 3 1 nv 0 (fun j _=>.int .i64 ((W j i:Nat):Int))):=by rw [M.out]; exact hid (Own.nil w7 w7.heap.size 3 1 _)
 have F:=hid hB.size
 clear hB
 go_wp2
 go_loopg [7,8] n (fun gg cv jv wx=>∃ j:Nat,jv=.int .i64 (j:Nat)/\j<=n/\n<=j+gg/\Hid (Own wx w7.heap.size 3 1 cv j (fun j _=>.int .i64 (W j i:Nat)))/\Below w7.heap.size w7 wx)
 case atStart=>exact ⟨0,rfl,by omega,by omega,G,Below.refl _ _⟩
 clear G
 obtain ⟨j,rfl,hj,N,HC,hB⟩:=hrel
 have O:(0:Int)<=(j:Int):=by omega
 by_cases hjt:j<n
 ·have v:(j:Int)<(n:Int):=by omega
  obtain ⟨b,o,RA,rc,hT,hb,x0,_,_,d,_⟩:=HR.out j hjt
  subst hT
  replace x0:=(hB.cell (p:=⟨b,o+j,none⟩) (by have:=F.out; show b<_; omega)).trans ((E.out.cell (p:=⟨b,o+j,none⟩) hb).trans x0)
  obtain ⟨rb,ro,K,_,y0⟩:=(show IntsR wr wr.heap.size RA k (fun i=>((W j i:Nat):Int)) from (d.on (onS E.out hB))).at (i:=i) (by omega)
  subst K
  obtain ⟨x,hx⟩:=exx (W j i)
  rw [<-hx] at y0
  have a:=(Below.refl wr.heap.size wr).alloc (Nat.le_refl _) (Obj.cells #[Value.int .i64 (x:Int)] 3)
  have m:=hid (HC.out.on a)
  have r:=hid (onS hB a)
  have C:Hid ((wr.alloc (Obj.cells #[Value.int .i64 (x:Int)] 3)).cell? ((⟨wr.heap.size,0,none⟩:Addr).add 0)=some (.int .i64 (x:Nat))):=tbox2
  have g:=hid r.out.size
  have B:Hid (j<=1048576):=by show _<=_; omega
  have HX:=hid hx
  clear a hB hx d
  go_wp2_with (first | (at_builtin; (refine zaN rfl (.tmp 20) (.tmp 28) rfl m.out rfl (ad:=⟨wr.heap.size,0,none⟩) (c:=1) rfl C.out g.out B.out ?_); intro v9 w9 o1 o2 o3))
  have z:=hid (o1.congr (f':=fun j _=>.int .i64 (W j i:Nat)) fun u hu q _=>by
   by_cases e:u=j
   ·subst e; rw [if_pos rfl,HX.out]
   ·rw [if_neg e])
  have D:=hid (r.out.grown o2 g.out (fun q e=>(m.out.lt q e).1))
  clear o1 o2 o3
  go_wp2
  go_roundg (gk - 1)
  case measure=>omega
  case rel=>exact ⟨j+1,by go_num,by omega,by omega,z,D.out⟩
 have v:¬ (j:Int)<(n:Int):=by omega
 obtain rfl:j=n:=by omega
 obtain ⟨RA,rc,J⟩:=HC.out.shape
 subst J
 have a:=(Below.refl wr.heap.size wr).alloc (Nat.le_refl _) (Obj.cells #[Value.slice RA j rc] 22)
 have y:=onS (onS E.out hB) a
 have L:=hid ((HC.out.mono F.out).on a)
 have m:=hid (HM.out.on (onS hB a))
 have C:Hid ((wr.alloc (Obj.cells #[Value.slice RA j rc] 22)).cell? ((⟨wr.heap.size,0,none⟩:Addr).add 0)=some (.slice RA j rc)):=tbox2
 have r:=hid y
 have g:=hid y.size
 have B:Hid (i<=1048576):=by show _<=_; omega
 clear a hB y
 go_wp2_with (first | (at_builtin; (refine zaB rfl (.tmp 30) (.tmp 32) rfl m.out rfl (ad:=⟨wr.heap.size,0,none⟩) (c:=1) rfl C.out rfl L.out g.out B.out ?_); intro v9 w9 o1 o2 o3))
 have z:=hid (o1.congr (W':=fun i j=>W j i) fun u hu q _=>by
  by_cases e:u=i
  ·subst e; rw [if_pos rfl]
  ·rw [if_neg e])
 have D:=hid (r.out.grown o2 g.out o3)
 clear o1 o2 o3
 go_wp2
 go_roundg (gO - 1)
 case measure=>omega
 case rel=>exact ⟨i+1,by go_num,by omega,by omega,z,D.out⟩
def EqRow (n m:Nat) (f g:Nat->Int):Prop:=n=m/\∀ i,i<n->f i=g i
theorem zeP (A B:Option Addr) (n m c d:Nat) (f g:Nat->Int) (w:World) (ha:IntsR w w.heap.size A n f) (hb:IntsR w w.heap.size B m g) (hn:n<=140737488351232) (hm:m<=140737488351232) :
  Calls Tryz.prog 20 #[.slice A n c,.slice B m d] w fun e w'=>∃ r:Int,e=.returned (.int .i64 r)/\(r=0↔EqRow n m f g)/\Below w.heap.size w w':=by
 have HA:=hid ha
 have HB:=hid hb
 clear ha hb
 go_enter Tryz.func20, Tryz.ntmps20
 go_wp2
 go_loopg [5] n (fun gg iv wx=>∃ k:Nat,iv=.int .i64 (k:Nat)/\k<=n/\k<=m/\n<=k+gg/\(∀ i,i<k->f i=g i)/\Below w.heap.size w wx)
 case atStart=>exact ⟨0,rfl,by omega,by omega,by omega,fun i hi=>absurd hi (by omega),Below.refl _ _⟩
 obtain ⟨k,rfl,hk,q,s,j,hW⟩:=hrel
 have t:(0:Int)<=(k:Int):=by omega
 have l:=hid j
 clear j
 by_cases hlt:k<n
 rotate_left
 ·have a:¬ (k:Int)<(n:Int):=by omega
  have hd:decide ((k:Int)<(n:Int))=false:=by simp; omega
  by_cases h3:(n:Int)<(m:Int)
  ·go_wp2
   go_ret
   exact ⟨-1,rfl,⟨fun h=>absurd h (by omega),fun h=>absurd h.1 (by omega)⟩,hW⟩
  have h4:¬ (n:Int) > (m:Int):=by omega
  go_wp2
  go_ret
  exact ⟨0,rfl,⟨fun _=>⟨by omega,fun i hi=>l.out i (by omega)⟩,fun _=>rfl⟩,hW⟩
 have a:(k:Int)<(n:Int):=by omega
 by_cases hlm:k<m
 rotate_left
 ·have b:¬ (k:Int)<(m:Int):=by omega
  have hd:decide ((k:Int)<(n:Int))=true:=by simp; omega
  have o:decide ((k:Int)<(m:Int))=false:=by simp; omega
  have h3:¬ (n:Int)<(m:Int):=by omega
  have h4:(n:Int) > (m:Int):=by omega
  go_wp2
  go_ret
  exact ⟨1,rfl,⟨fun h=>absurd h (by omega),fun h=>absurd h.1 (by omega)⟩,hW⟩
 have b:(k:Int)<(m:Int):=by omega
 have hd:decide ((k:Int)<(n:Int))=true:=by simp; omega
 have o:decide ((k:Int)<(m:Int))=true:=by simp; omega
 obtain ⟨ab,ao,rfl,v,x0⟩:=(HA.out.on hW).at hlt
 obtain ⟨bb,bo,rfl,u,y0⟩:=(HB.out.on hW).at hlm
 obtain ⟨x,hx⟩:=exx (f k)
 obtain ⟨y,hy⟩:=exx (g k)
 rw [<-hx] at x0;rw [<-hy] at y0
 have HX:=hid hx
 have HY:=hid hy
 clear hx hy
 by_cases h1:x<y
 ·go_wp2
  go_quiet (fail)
  go_wp2
  go_ret
  exact ⟨-1,rfl,⟨fun h=>absurd h (by omega),fun h=>absurd (h.2 k hlt) (by rw [<-HX.out,<-HY.out]; omega)⟩,zac hW _⟩
 by_cases h2:y<x
 ·have p:x > y:=h2
  go_wp2
  go_quiet (fail)
  go_wp2
  go_quiet (fail)
  go_wp2
  go_ret
  exact ⟨1,rfl,⟨fun h=>absurd h (by omega),fun h=>absurd (h.2 k hlt) (by rw [<-HX.out,<-HY.out]; omega)⟩,zac (zac hW _) _⟩
 have p:¬ x > y:=h2
 go_wp2
 go_quiet (fail)
 go_wp2
 go_quiet (fail)
 go_wp2
 go_roundg (gk - 1)
 case measure=>omega
 refine ⟨k+1,by go_num,by omega,by omega,by omega,fun i hi=>?_,zac hW _⟩
 by_cases e:i=k
 ·subst e; rw [<-HX.out,<-HY.out]; omega
 ·exact l.out i (by omega)
def IsTr (q a:Nat) (add mul:Nat->Nat->Nat) (H:Nat->Nat->Nat) (T:Trel) (n:Nat):Prop :=
 T.SynOk add mul H q a/\(∀ k,k<a->T.syn add mul H T.n 0 k=0)/\T.fwd (fun _ _=>1) T.n 0=q ^ n
theorem rowIs_setCells_other' {b b':Nat} {t:TypeId} {n:Nat} {f:Nat->Value} {w:World} (hne:b'≠b) (v:Value) (o:Nat) (h:w.rowIs b' t n f):(w.setCell ⟨b,o,none⟩ v).rowIs b' t n f:=h.of_block ((zba w b o v).block _ h.lt fun e=>hne (Option.some.inj e))
def TSynP (P M:Nat) (m:Nat->Nat) (T:Trel) (H:Nat->Nat->Nat) (q a:Nat) (w:World) (e:Ending) (w':World):Prop :=
 Below w.heap.size w w'/\((T.SynOk (addF P M) (mulF P M m) H q a/\∃ go:Nat,e=.returned (.tuple #[.slice (some ⟨go,0,none⟩) T.nw T.nw,.bool true])/\∀ i,i<=T.n->∃ (g:Nat) (R:Nat->Value),w'.cell? ⟨go,i,none⟩=some (.slice (some ⟨g,0,none⟩) (T.W i).toNat (T.W i).toNat)/\LTab w' w.heap.size g (T.W i).toNat a (fun _=>True) R (T.syn (addF P M) (mulF P M m) H i)) ∨
  (¬ T.SynOk (addF P M) (mulF P M m) H q a/\e=.returned (.tuple #[.slice none 0 0,.bool false])))
theorem LTab.other {w:World} {base g m a:Nat} {P:Nat->Prop} {R:Nat->Value} {S:Nat->Nat->Nat} (h:LTab w base g m a P R S) {b m2 i:Nat} {t:TypeId} {F:Nat->Value} (hr:w.rowIs b t m2 F) (h1:t ≠ 3) (hb:g≠b) (v:Value):LTab (w.setCell ⟨b,i,none⟩ v) base g m a P R S :=
 ⟨h.ge,h.row.setOther (a:=⟨b,i,none⟩) (by simpa using hb) v,fun u hu hp=>(h.yes u hu hp).setCell (a:=⟨b,i,none⟩) (fun e=>(zaS hr (h.yes u hu hp) h1).elim (fun h=>by rw [h] at e; cases e) fun h=>h e) v,h.no⟩
def OldT (w:World) (base:Nat) (T:Trel) (a:Nat) (S:Nat->Nat->Nat->Nat) (F:Nat->Value) (x y i:Nat):Prop :=
 ∀ i',i'<i->∃ (g:Nat) (R:Nat->Value),g≠x/\g≠y/\F i'=.slice (some ⟨g,0,none⟩) (T.W i').toNat (T.W i').toNat/\LTab w base g (T.W i').toNat a (fun _=>True) R (S i')
section
variable {w w':World} {base a x y i:Nat} {T:Trel} {S:Nat->Nat->Nat->Nat} {F:Nat->Value}
theorem OldT.on (h:OldT w base T a S F x y i) (hb:Below w.heap.size w w'):OldT w' base T a S F x y i:=fun i' hi=>by
 obtain ⟨g,R,h1,h2,h3,h4⟩:=h i' hi
 exact ⟨g,R,h1,h2,h3,h4.on hb⟩
theorem OldT.put (h:OldT w base T a S F x y i) {b m2 k:Nat} {t:TypeId} {F2:Nat->Value} (hr:w.rowIs b t m2 F2) (h1:t ≠ 3) (hb:b=x∨b=y) (v:Value):OldT (w.setCell ⟨b,k,none⟩ v) base T a S F x y i:=fun i' hi=>by
 obtain ⟨g,R,k1,k2,k3,k4⟩:=h i' hi
 exact ⟨g,R,k1,k2,k3,k4.other hr h1 (by rcases hb with e | e <;> rw [e] <;> assumption) v⟩
end
theorem zeQ {P M gp:Nat} {m:Nat->Nat} (T:Trel) (A B HA:Option Addr) (c d hc a q:Nat) (H:Nat->Nat->Nat) (w:World) (HQ:Hid (q=P ^ M)) (hG:GF w w.heap.size gp P M m) (hT:T.Reads w A B) (hp:T.Proper) (hH:MRows w HA a T.n H) (hHq:∀ k,k<a->∀ i,i<T.n->H k i<q) (ha:a<=64) :
  Calls Tryz.prog 80 #[.pointer (some ⟨gp,0,none⟩),.slice HA a hc,.agg #[.slice A T.nw c,.slice B T.n d]] w (TSynP P M m T H q a w):=by
 have HG:=hid hG
 have HR:=hid hT
 have HP:=hid hp
 have ed:=hid hp.shape
 have HH:=hid hH
 have fs:=hid hHq
 have es:=hp.shape.n64
 have J:=hid hp.shape.nw
 have dl:T.nw<=65:=by have:=J.out; omega
 have c7:0<T.nw:=by have:=J.out; omega
 have HL:Hid (FieldLaws q (addF P M) (mulF P M m)):=by rw [HQ.out]; exact hid (fieldLaws hG.ok)
 have HW:Hid (∀ i,i<=T.n->1<=T.W i/\T.W i<=65536):=hid fun i hi=>hp.shape.wid hi
 clear hG hT hp hH hHq
 have bt:∀ (z:Nat),z<=65536->∀ W,_:=fun z hz W=>zaf (P:=Tryz.prog) 22 3 _ 8 Tryz.underlying22 Tryz.infoInt rfl (z:Int) (by omega) (by omega) (by omega) W
 have bs:∀ (z:Nat),z<=65536->∀ W,_:=fun z hz W=>zaf (P:=Tryz.prog) 25 22 _ 24 Tryz.underlying25 Tryz.infoInts rfl (z:Int) (by omega) (by omega) (by omega) W
 have br:∀ (z:Nat),z<=65536->∀ W,_:=fun z hz W=>zaf (P:=Tryz.prog) 119 25 _ 24 Tryz.underlying119 Tryz.infoTabs rfl (z:Int) (by omega) (by omega) (by omega) W
 simp only [Int.toNat_natCast] at bt bs br
 have bt:=hid bt
 have bs:=hid bs
 have br:=hid br
 have rb:=zai (w:=w) (a:=.slice A T.nw c) (b:=.slice B T.n d) (T := 53)
 have hB:=aly w (.cells #[.slice A T.nw c,.slice B T.n d] 53)
 obtain ⟨w1,c2⟩:=exx (w.alloc (.cells #[.slice A T.nw c,.slice B T.n d] 53))
 rw [<-c2] at hB rb
 go_enter Tryz.func80, Tryz.ntmps80
 go_upto_region 1 with fail
 rw [<-c2];clear c2
 obtain ⟨b5,bk⟩:=exx w.heap.size
 have f7:w.heap.size<=b5:=Nat.le_of_eq bk.symm
 rw [<-bk] at rb;rw [<-bk];clear bk
 have p0:=qc0 rb
 have au:=br.out T.nw (by omega)
 go_upto_region 2 with fail
 have rz:World.rowIs (World.alloc w1 (Obj.cells (madeCells #[Value.slice none 0 0] T.nw) 25)) w1.heap.size 25 T.nw (fun _=>.slice none 0 0):=World.rowIs_made _ (.slice none 0 0) T.nw 25
 have kb:=aly w1 (Obj.cells (madeCells #[Value.slice none 0 0] T.nw) 25)
 obtain ⟨w2,bw⟩:=exx (World.alloc w1 (Obj.cells (madeCells #[Value.slice none 0 0] T.nw) 25))
 rw [<-bw] at rz kb ⊢
 obtain ⟨go,aa⟩:=exx w1.heap.size
 have aw:w1.heap.size<=go:=Nat.le_of_eq aa.symm
 have ck:go<w2.heap.size:=by rw [bw,aa]; simp
 rw [<-aa] at rz ⊢;clear bw aa au p0
 have au:=bt.out a (by omega)
 have o0:w2.cell? ⟨go,0,none⟩=some (.slice none 0 0):=rz.cell c7
 have o1:=rz.frozen 0
 have dm:(0:Int)<(T.nw:Int):=by omega
 go_upto_region 3 with fail
 have Q:(w2.setCell ⟨go,0,none⟩ (.slice (some ⟨w2.heap.size+1,0,none⟩) 1 1)).rowIs go 25 T.nw (fun u=>if u=0 then .slice (some ⟨w2.heap.size+1,0,none⟩) 1 1 else .slice none 0 0):=rz.set 0 _
 have bg:=kb.setCell (p:=⟨go,0,none⟩) aw (.slice (some ⟨w2.heap.size+1,0,none⟩) 1 1)
 have an:(w2.setCell ⟨go,0,none⟩ (.slice (some ⟨w2.heap.size+1,0,none⟩) 1 1)).heap.size=w2.heap.size:=by simp
 obtain ⟨w3,dh⟩:=exx (w2.setCell ⟨go,0,none⟩ (.slice (some ⟨w2.heap.size+1,0,none⟩) 1 1))
 rw [<-dh] at Q bg an ⊢
 obtain ⟨gz,du⟩:=exx w2.heap.size
 rw [<-du] at Q an ⊢;clear dh rz kb o0 o1 au
 have rz4:World.rowIs (World.alloc w3 (Obj.cells (madeCells #[Value.int .i64 0] a) 3)) w3.heap.size 3 a (fun _=>.int .i64 ((0:Nat):Int)):=World.rowIs_made _ (.int .i64 0) a 3
 have bf:=aly w3 (Obj.cells (madeCells #[Value.int .i64 0] a) 3)
 have c5:(World.alloc w3 (Obj.cells (madeCells #[Value.int .i64 0] a) 3)).heap.size=w3.heap.size+1:=by simp
 obtain ⟨w4,dg⟩:=exx (World.alloc w3 (Obj.cells (madeCells #[Value.int .i64 0] a) 3))
 rw [<-dg] at rz4 bf c5 ⊢
 have rb5:(w4.alloc (.cells #[.slice (some ⟨gz,0,none⟩) a a] 22)).rowIs w4.heap.size 22 1 (fun _=>.slice (some ⟨gz,0,none⟩) a a):=⟨_,zaA rfl,rfl,fun i hi=>by
  obtain rfl:i=0:=by omega
  rfl⟩
 have al:=aly w4 (.cells #[.slice (some ⟨gz,0,none⟩) a a] 22)
 obtain ⟨w5,df⟩:=exx (w4.alloc (.cells #[.slice (some ⟨gz,0,none⟩) a a] 22))
 rw [<-df] at rb5 al ⊢;rw [c5,an] at rb5;rw [an] at rz4
 have db:w.heap.size<=gz:=by have:=hB.size; have:=bg.size; omega
 have e8:LTab w5 w.heap.size (gz+1) 1 a (fun _=>True) (fun _=>.slice (some ⟨gz,0,none⟩) a a) (T.syn (addF P M) (mulF P M m) H 0) :=
  ⟨by omega,rb5,fun u _ _=>(zaI (zaa rz4 al) db (by unfold maxLen; omega)).congr fun k _ _ _=>rfl,fun u _ h=>absurd trivial h⟩
 have a2:=zaa (zaa Q bf) al
 have HB:=hid hB
 have ay:∀ X,Below w1.heap.size w1 X->X.rowIs b5 53 2 (matCell (.slice A T.nw c) (.slice B T.n d)):=fun X hb=>zaa rb hb
 have en:=hid ay
 have ei:=hid (onS (onS bg bf) al)
 clear an c5 dg df rb5 rz4 bg bf al Q rb ay db du ck
 have p1:w5.cell? ⟨b5,1,none⟩=some (.slice B T.n d):=(en.out _ ei.out).cell (i:=1) (by omega)
 go_upto_region 4 with fail
 go_loopg [30] T.n (fun gg iv wx=>∃ (i g:Nat) (R F:Nat->Value),iv=.int .i64 (i:Nat)/\i<=T.n/\T.n<=i+gg/\Hid (∀ i',i'<i->∀ j,j<T.el i'->T.agree (addF P M) (mulF P M m) H q a i' j)/\wx.rowIs go 25 T.nw F/\F i=.slice (some ⟨g,0,none⟩) (T.W i).toNat (T.W i).toNat/\LTab wx w.heap.size g (T.W i).toNat a (fun _=>True) R (T.syn (addF P M) (mulF P M m) H i)/\Below w1.heap.size w1 wx/\Hid (OldT wx w.heap.size T a (T.syn (addF P M) (mulF P M m) H) F go go i))
 case atStart =>
  have di:(T.W 0).toNat=1:=by rw [HP.out.w0]; rfl
  refine ⟨0,gz+1,fun _=>.slice (some ⟨gz,0,none⟩) a a,fun u=>if u=0 then .slice (some ⟨gz+1,0,none⟩) 1 1 else .slice none 0 0,rfl,by omega,by omega,hid fun i' h=>absurd h (by omega),a2,?_,?_,ei.out,hid fun i' h=>absurd h (by omega)⟩
  ·show (if 0=0 then Value.slice (some ⟨gz+1,0,none⟩) 1 1 else .slice none 0 0)=_
   rw [if_pos rfl,di]
  ·rw [di]; exact e8
 clear a2 e8 p1
 obtain ⟨i,g,R,F,rfl,hi,g6,eg,a2,hF,b7,hB,I⟩:=hrel
 have g8:(0:Int)<=(i:Int):=by omega
 have r:=hid a2
 have HF:=hid hF
 have C:=hid b7
 have o:=hid hB
 obtain ⟨w6,eq⟩:=exx wr
 subst eq
 clear a2 hF b7 hB
 by_cases hin:i<T.n
 rotate_left
 ·have ch:¬ (i:Int)<(T.n:Int):=by omega
  have g7:i=T.n:=by omega
  have fg:=onS HB.out o.out
  have er:T.SynOk (addF P M) (mulF P M m) H q a:=fun i' h'=>eg.out i' (by omega)
  have d9:Hid (∀ i',i'<=T.n->∃ (g:Nat) (R:Nat->Value),w6.cell? ⟨go,i',none⟩=some (.slice (some ⟨g,0,none⟩) (T.W i').toNat (T.W i').toNat)/\LTab w6 w.heap.size g (T.W i').toNat a (fun _=>True) R (T.syn (addF P M) (mulF P M m) H i')):=hid fun i' hi'=>by
   have V:=r.out.cell (i:=i') (by have:=J.out; omega)
   by_cases e:i'=i
   ·subst e
    rw [HF.out] at V
    exact ⟨g,R,V,C.out⟩
   obtain ⟨g3,R3,_,_,k3,k4⟩:=I.out i' (by omega)
   rw [k3] at V
   exact ⟨g3,R3,V,k4⟩
  go_wp2
  go_ret2
  exact ⟨fg,.inl ⟨er,go,rfl,d9.out⟩⟩
 have ch:(i:Int)<(T.n:Int):=by omega
 obtain ⟨eb,eo,E,ec,ff,g9,e0w,f6,co,e9,cs⟩:=HR.out.sec hin
 have em:=hid e9
 have e0:=cellS (onS HB.out o.out) e0w
 subst ff
 obtain ⟨el,bj⟩:=exx (T.el i)
 have f5:el<=262144:=by rw [bj]; exact ed.out.elb hin
 rw [<-bj] at e0 e0w em
 have ak:=hid bj
 clear bj e9 cs f6 co e0w
 have p0:w6.cell? ⟨b5,0,none⟩=some (.slice A T.nw c):=(en.out _ o.out).cell (i:=0) (by omega)
 have f8:=HW.out (i+1) (by omega)
 obtain ⟨mm,dn⟩:∃ x:Nat,x=(T.W (i+1)).toNat:=⟨_,rfl⟩
 have cp:T.W (i+1)=(mm:Int):=by omega
 have c8:mm<=65536:=by omega
 obtain ⟨ab,ao,fh,_,a0,_⟩:=(HR.out.on (onS HB.out o.out)).width (i:=i+1) (by have:=J.out; omega)
 subst fh
 rw [cp] at a0
 have d2:=hid dn
 have fi:=hid cp
 clear dn cp f8
 have ex:IntKind.i64.wrap ((i:Int)+1)=((i+1:Nat):Int):=by rw [IntWalk.i64_in _ (by omega)]; rfl
 have au:=bs.out mm c8
 have cf:((i+1:Nat):Int)<(T.nw:Int):=by have:=J.out; omega
 have av:i+1<T.nw:=by have:=J.out; omega
 have dr:(i:Int)+1<(T.nw:Int):=by omega
 have ez:(0:Int)<=((i+1:Nat):Int):=by omega
 have c0:=r.out.cell av
 have c1:=r.out.frozen (i+1)
 have cj:=r.out.lt
 go_upto_region 8 with fail
 have ar:go≠g:=fun e=>(zaS r.out (zaI C.out.row (Nat.zero_le _) (by have:=HW.out i (by omega); unfold maxLen; omega)) (by decide)).elim (fun h=>by cases h) (fun h=>h (by rw [e]; rfl))
 have O:LTab (w6.setCell ⟨go,i+1,none⟩ (.slice (some ⟨w6.heap.size,0,none⟩) mm mm)) w.heap.size g (T.W i).toNat a (fun _=>True) R (T.syn (addF P M) (mulF P M m) H i):=C.out.kept (zba w6 go (i+1) _) ar fun u hu hp e=>(zaS r.out (C.out.yes u hu hp) (by decide)).elim (fun h=>by rw [h] at e; cases e) (fun h=>h e)
 have a5:(w6.setCell ⟨go,i+1,none⟩ (.slice (some ⟨w6.heap.size,0,none⟩) mm mm)).rowIs go 25 T.nw (fun u=>if u=i+1 then .slice (some ⟨w6.heap.size,0,none⟩) mm mm else F u):=r.out.set (i+1) _
 have ca:=o.out.setCell (p:=⟨go,i+1,none⟩) aw (.slice (some ⟨w6.heap.size,0,none⟩) mm mm)
 have bi:(w6.setCell ⟨go,i+1,none⟩ (.slice (some ⟨w6.heap.size,0,none⟩) mm mm)).heap.size=w6.heap.size:=by simp
 obtain ⟨w7,de⟩:=exx (w6.setCell ⟨go,i+1,none⟩ (.slice (some ⟨w6.heap.size,0,none⟩) mm mm))
 have ae:=I.out.put (k:=i+1) r.out (by decide) (.inl rfl) (.slice (some ⟨w6.heap.size,0,none⟩) mm mm)
 have e6:∀ i',i'<i->∀ g',F i'=.slice (some ⟨g',0,none⟩) (T.W i').toNat (T.W i').toNat->g'<w6.heap.size:=fun i' hi' g' e=>by
  obtain ⟨g3,R3,_,_,e3,h3⟩:=I.out i' hi'
  rw [e3] at e
  injection e with e
  injection e with e
  injection e with e
  have:=h3.row.lt
  omega
 have fa:=I.out
 have cr:=C.out.row.lt
 rw [<-de] at O a5 ca bi ae ⊢
 obtain ⟨g2,dv⟩:=exx w6.heap.size
 have cm:w.heap.size<=g2:=by have:=HB.out.size; have:=o.out.size; omega
 rw [<-dv] at a5 bi ⊢
 have U:=LTab.made (m:=mm) w7 a (T.synL (addF P M) (mulF P M m) H (T.syn (addF P M) (mulF P M m) H i) i 0)
 have ah:=aly w7 (.cells (madeCells #[.slice none 0 0] mm) 22)
 obtain ⟨w8,dd⟩:=exx (w7.alloc (.cells (madeCells #[.slice none 0 0] mm) 22))
 rw [<-dd] at U ah ⊢;rw [bi] at U
 have b4:LTab w8 w.heap.size g2 mm a (T.asg i 0) (fun _=>.slice none 0 0) (T.synL (addF P M) (mulF P M m) H (T.syn (addF P M) (mulF P M m) H i) i 0):=⟨cm,U.row,fun u _ h=>absurd h Trel.asg_zero,fun _ _ _=>rfl⟩
 have af:=O.on ah
 have a9:=zaa a5 ah
 have dp:=onS ca ah
 obtain ⟨F2,b8⟩:∃ F2:Nat->Value,F2=fun u=>if u=i+1 then .slice (some ⟨g2,0,none⟩) mm mm else F u:=⟨_,rfl⟩
 have ct:Hid (F2 i=.slice (some ⟨g,0,none⟩) (T.W i).toNat (T.W i).toNat):=hid (by rw [b8]; show (if i=i+1 then _ else F i)=_; rw [if_neg (by omega)]; exact HF.out)
 have bp:Hid (F2 (i+1)=.slice (some ⟨g2,0,none⟩) mm mm):=hid (by rw [b8]; exact if_pos rfl)
 have b3:OldT w8 w.heap.size T a (T.syn (addF P M) (mulF P M m) H) F2 go g2 i:=fun i' hi'=>by
  obtain ⟨g3,R3,k1,k2,k3,k4⟩:=ae.on ah i' hi'
  refine ⟨g3,R3,k1,?_,?_,k4⟩
  ·have:=e6 i' hi' g3 k3
   omega
  rw [b8]
  show (if i'=i+1 then _ else F i')=_
  rw [if_neg (by omega)]
  exact k3
 have bc:=hid b3
 rw [<-b8] at a9
 have f2:Hid (g2≠g):=hid (by have:=C.out.row.lt; omega)
 have d7:Hid (w1.heap.size<=g2):=hid (by have:=o.out.size; omega)
 clear U O a5 ca bi de dd ah b8 dv ae e6 fa b3 I cr r HF C c0 c1 cj ar au a0 e0 p0
 obtain ⟨wi,dc⟩:∃ x:Nat,x=(T.W i).toNat:=⟨_,rfl⟩
 have dy:T.W i=(wi:Int):=by have:=HW.out i (by omega); omega
 rw [<-dc] at af ct
 have cx:=hid dy
 clear dc dy
 obtain ⟨gO,f4⟩:=exx gk
 subst f4
 go_loopg [48] el (fun gg jv wx=>∃ (j:Nat) (R2:Nat->Value),jv=.int .i64 (j:Nat)/\j<=el/\el<=j+gg/\Hid (∀ e,e<j->T.agree (addF P M) (mulF P M m) H q a i e)/\wx.rowIs go 25 T.nw F2/\LTab wx w.heap.size g wi a (fun _=>True) R (T.syn (addF P M) (mulF P M m) H i)/\LTab wx w.heap.size g2 mm a (T.asg i j) R2 (T.synL (addF P M) (mulF P M m) H (T.syn (addF P M) (mulF P M m) H i) i j)/\Below w1.heap.size w1 wx/\Hid (OldT wx w.heap.size T a (T.syn (addF P M) (mulF P M m) H) F2 go g2 i))
 case atStart=>exact ⟨0,_,rfl,by omega,by omega,hid fun e h=>absurd h (by omega),a9,af,b4,dp,bc⟩
 clear a9 af b4 dp bc
 obtain ⟨j,R2,rfl,hj,g4,eh,aa,b7,e7,hB,I⟩:=hrel
 have g5:(0:Int)<=(j:Int):=by omega
 have r:=hid aa
 have C:=hid b7
 have D:=hid e7
 have o:=hid hB
 obtain ⟨w9,ep⟩:=exx wr
 subst ep
 clear aa b7 e7 hB
 by_cases hjl:j<el
 rotate_left
 ·obtain rfl:el=j:=by omega
  have cc:¬ (el:Int)<(el:Int):=by omega
  have b6:LTab w9 w.heap.size g2 (T.W (i+1)).toNat a (fun _=>True) R2 (T.syn (addF P M) (mulF P M m) H (i+1)):=by
   rw [<-d2.out]
   refine D.out.congr (fun u hu=>⟨fun _=>trivial,fun _=>?_⟩) fun u _ _ k _=>by
    show _=T.synL (addF P M) (mulF P M m) H (T.syn (addF P M) (mulF P M m) H i) i (T.el i) u k
    rw [<-ak.out]
   obtain ⟨e,he,h1⟩:=za2.1 ((HP.out.sec i hin).2.2 u (by rw [<-d2.out]; exact hu))
   exact ⟨e,by rw [ak.out]; exact he,by rw [h1]; exact Int.toNat_natCast _⟩
  have d4:=hid b6
  have ft:Hid (F2 (i+1)=.slice (some ⟨g2,0,none⟩) (T.W (i+1)).toNat (T.W (i+1)).toNat):=hid (by rw [bp.out,d2.out])
  have d0:Hid (∀ i',i'<i+1->∀ j,j<T.el i'->T.agree (addF P M) (mulF P M m) H q a i' j):=hid fun i' h' j hj=>by
   by_cases e:i'=i
   ·subst e
    exact eh.out j (by rw [ak.out]; exact hj)
   ·exact eg.out i' (by omega) j hj
  have ax:g2≠go:=fun e=>(zaS r.out (zaI D.out.row (Nat.zero_le _) (by unfold maxLen; omega)) (by decide)).elim (fun h=>by cases h) (fun h=>h (by rw [e]; rfl))
  have ac:g≠go:=fun e=>(zaS r.out (zaI C.out.row (Nat.zero_le _) (by have:=HW.out i (by omega); have:=cx.out; unfold maxLen; omega)) (by decide)).elim (fun h=>by cases h) (fun h=>h (by rw [e]; rfl))
  have cy:Hid (OldT w9 w.heap.size T a (T.syn (addF P M) (mulF P M m) H) F2 go go (i+1)):=hid fun i' hi'=>by
   by_cases e:i'=i
   ·subst e
    have h1:(T.W i').toNat=wi:=by rw [cx.out]; exact Int.toNat_natCast _
    exact ⟨g,R,ac,ac,by rw [ct.out,h1],by rw [h1]; exact C.out⟩
   ·obtain ⟨g3,R3,k1,_,k3,k4⟩:=I.out i' (by omega)
    exact ⟨g3,R3,k1,k1,k3,k4⟩
  clear b6 ax ac
  go_wp2
  go_roundg (gO - 1)
  case measure=>omega
  case rel=>exact ⟨i+1,g2,R2,F2,by go_num,by omega,by omega,d0,r.out,ft.out,d4.out,o.out,cy⟩
 have cc:(j:Int)<(el:Int):=by omega
 obtain ⟨xb,xo,fd,fx,x0,x1,x2⟩:=zdd em.out hjl
 subst fd
 have bn:=onS HB.out o.out
 replace x0:=cellS bn x0;replace x1:=cellS bn x1;replace x2:=cellS bn x2
 have cg:=ed.out.ins i hin j (by rw [<-ak.out]; exact hjl)
 obtain ⟨f0,f1,t0,t1⟩:=cg
 obtain ⟨fu,dw⟩:∃ x:Nat,x=(T.fr i j).toNat:=⟨_,rfl⟩
 obtain ⟨tu,dj⟩:∃ x:Nat,x=(T.to i j).toNat:=⟨_,rfl⟩
 have hf:T.fr i j=(fu:Int):=by omega
 have ht:T.to i j=(tu:Int):=by omega
 rw [hf] at x0 f0 f1;rw [ht] at x2 t0 t1;rw [cx.out] at f1;rw [fi.out] at t1
 have fv:=hid dw
 have bq:=hid dj
 obtain ⟨lb,ai⟩:∃ x:Int,x=T.lb i j:=⟨_,rfl⟩
 rw [<-ai] at x1
 have d6:=hid ai
 clear hf ht dw dj ai
 go_upto_region 10 with fail
 obtain ⟨w10,am,kb,rx⟩:=zao w9 (.int .i64 (fu:Nat)) (.int .i64 lb) (.int .i64 (tu:Nat)) 90
 rw [<-am] at ⊢;clear am
 obtain ⟨b12,b0⟩:=exx w9.heap.size
 rw [<-b0] at rx ⊢;clear b0 x0 x1 x2;replace r:=hid (zaa r.out kb);replace C:=hid (C.out.on kb);replace I:=hid (I.out.on kb);replace D:=hid (D.out.on kb);replace o:=hid (onS o.out kb);clear kb bn
 have y1:=qc1 rx
 go_wp2_with fail
 refine (zfa lb (HG.out.on (onS HB.out o.out))).mono ?_
 rintro e w11 ⟨rfl,kb⟩
 rw [<-HQ.out]
 have G:=hid (zaa rx kb)
 replace r:=hid (zaa r.out kb);replace C:=hid (C.out.on kb);replace I:=hid (I.out.on kb);replace D:=hid (D.out.on kb);replace o:=hid (onS o.out kb);clear kb rx y1
 have bo:isB q lb=true↔0<=lb/\lb<(q:Int):=by unfold isB; simp
 obtain hb | hb:=Bool.eq_false_or_eq_true (isB q lb)
 rotate_left
 ·rw [hb]
  have a8:¬ T.SynOk (addF P M) (mulF P M m) H q a:=fun h=>by
   have h1:=(h i hin j (by rw [<-ak.out]; exact hjl)).1
   rw [<-d6.out] at h1;rw [bo.2 h1] at hb
   cases hb
  have cv:=onS HB.out o.out
  clear hb bo
  go_wp2
  go_ret2
  exact ⟨cv,.inr ⟨a8,rfl⟩⟩
 have ai:=bo.1 hb
 rw [hb]
 obtain ⟨lu,rfl⟩:∃ x:Nat,lb=x:=⟨lb.toNat,by omega⟩
 have et:lu<q:=by omega
 have fn:Hid ((T.lb i j).toNat=lu):=hid (by rw [<-d6.out]; exact Int.toNat_natCast _)
 have fo:Hid (0<=T.lb i j/\T.lb i j<(q:Int)):=hid (by rw [<-d6.out]; exact ai)
 clear hb bo ai
 have ey:(0:Int)<=(i:Int)+1:=by omega
 have cn:fu<wi:=by omega
 have bh:tu<mm:=by omega
 have ds:(i:Int)<(T.nw:Int):=by omega
 obtain ⟨SF,fc,cq⟩:=(C.out.yes fu cn trivial).shape
 have fk:=hid cq
 have Y:=r.out.cell (i:=i) (by omega)
 rw [ct.out] at Y
 have aj:=C.out.row.cell cn
 rw [cq] at aj
 have b1:=qc0 G.out
 clear cq
 go_upto_region 12 with fail
 refine wp_region_held_drew (S:=fun w'=>w'.cell? ⟨go,i,none⟩=some (.slice (some ⟨g,0,none⟩) wi wi)/\w'.cell? ⟨g,fu,none⟩=some (.slice SF a fc)/\w'.cell? ⟨b12,0,none⟩=some (.int .i64 (fu:Nat))) (by kernel_rfl) ⟨cellS (Below.refl _ _).drew Y,cellS (Below.refl _ _).drew aj,cellS (Below.refl _ _).drew b1⟩ (fun l=>?_)
 obtain ⟨w12,hw,kb⟩:=dwx w11
 rw [<-hw] at l ⊢;clear hw;replace G:=hid (zaa G.out kb);replace r:=hid (zaa r.out kb);replace C:=hid (C.out.on kb);replace I:=hid (I.out.on kb);replace D:=hid (D.out.on kb);replace o:=hid (onS o.out kb);replace Y:=cellS kb Y;replace aj:=cellS kb aj;replace b1:=cellS kb b1;clear kb
 have fj:Hid (w.heap.size<=w12.heap.size):=hid (onS HB.out o.out).size
 refine tkq 0 (h:=tkq 1 (h:=tkq 2 (h:=tkq 3 (h:=tkq 4 (h:=tkq 5 (h:=tkq 6 (h:=tkq 7 (h:=?_))))))))
 clear l
 refine rdq 8 (h:=fun K hK=>?_)
 go_simp
 go_wp2_with fail
 have bl:=C.out.yes fu cn trivial
 rw [fk.out] at bl
 have ee:=hid (show IntsR w12 w12.heap.size SF a (fun k=>((T.syn (addF P M) (mulF P M m) H i fu k:Nat):Int)) from bl.rd rfl)
 have dx:=bl.capL
 clear bl
 refine (zaw SF a fc (fun k=>((T.syn (addF P M) (mulF P M m) H i fu k:Nat):Int)) w12 ee.out dx.1 (by omega)).mono ?_
 rintro e w13 ⟨SA,sc,rfl,hO,kb⟩
 have bd:=hid hO
 have b9:=hid kb
 refine bkq hK ⟨cellS kb Y,cellS kb aj,cellS kb b1⟩ (h:=fun l=>?_)
 clear hK K hO kb Y aj b1 ee dx
 refine tkq 9 (h:=?_)
 refine wpAnyH_done (by kernel_rfl) ?_ _
 clear l
 go_upto_region 14 with fail
 obtain ⟨gP,f3⟩:=exx gk
 subst f3
 go_loopg [68] a (fun gg kv wx=>∃ k:Nat,kv=.int .i64 (k:Nat)/\k<=a/\a<=k+gg/\Own wx w12.heap.size 3 1 (.slice SA a sc) a (fun t _=>.int .i64 ((if t<k then T.synv (addF P M) (mulF P M m) H (T.syn (addF P M) (mulF P M m) H i) i j t else T.syn (addF P M) (mulF P M m) H i fu t:Nat):Int))/\Below w12.heap.size w12 wx)
 case atStart=>exact ⟨0,rfl,by omega,by omega,bd.out.congr fun t _ _ _=>by rw [if_neg (by omega)],b9.out⟩
 obtain ⟨k,rfl,hk,g0,hO,hB⟩:=hrel
 have g1:(0:Int)<=(k:Int):=by omega
 have HO:=hid hO
 have KB:=hid hB
 obtain ⟨w14,bz⟩:=exx wr
 subst bz
 clear hO hB bd b9
 by_cases hka:k<a
 ·have c9:(k:Int)<(a:Int):=by omega
  have eu:IntKind.i64.wrap ((k:Int)+1)=((k+1:Nat):Int):=by rw [IntWalk.i64_in _ (by omega)]; rfl
  obtain ⟨hb,ho,RA,rc,fb,_,ea,_,_,ap,_⟩:=HH.out k hka
  subst fb
  obtain ⟨rb,ro,f9,_,r0w⟩:=ap.at hin
  subst f9
  have h0:=cellS (onS (onS HB.out o.out) KB.out) ea
  have ew:(i:Int)<(T.n:Int):=by omega
  obtain ⟨gs,os,sc2,dk,_,_,_,_,_⟩:=HO.out.form (by omega)
  obtain ⟨c4,c3⟩:SA=some ⟨gs,os,none⟩/\sc=sc2:=by injection dk with x _ y; exact ⟨x,y⟩
  subst c4 c3
  clear dk
  have bv:∀ X:World,Own X w12.heap.size 3 1 (.slice (some ⟨gs,os,none⟩) a sc) a (fun t _=>.int .i64 ((if t<k then T.synv (addF P M) (mulF P M m) H (T.syn (addF P M) (mulF P M m) H i) i j t else T.syn (addF P M) (mulF P M m) H i fu t:Nat):Int))->X.cell? ⟨gs,os+k,none⟩=some (.int .i64 (T.syn (addF P M) (mulF P M m) H i fu k:Nat)):=fun X hX=>by
   obtain ⟨g',o',c',e1,_,_,_,_,hc⟩:=hX.form (by omega)
   injection e1 with e1 _ _
   injection e1 with e1
   injection e1 with e1 e2
   subst e1 e2
   have h1:=hc k hka 0 (by omega)
   rw [Nat.mul_one,Nat.add_zero,if_neg (Nat.lt_irrefl k)] at h1
   exact h1
  have ci:∀ X,Below w12.heap.size w12 X->X.cell? ⟨rb,ro+i,none⟩=some (.int .i64 ((H k i:Nat):Int)):=fun X hb=>cellS (onS (onS HB.out o.out) hb) r0w
  have ce:inV (P ^ M) (T.syn (addF P M) (mulF P M m) H i fu k:Nat)=T.syn (addF P M) (mulF P M m) H i fu k:=zan (by rw [<-HQ.out]; exact Trel.syn_lt HL.out _ _ _)
  have cd:inV (P ^ M) (H k i:Nat)=H k i:=zan (by rw [<-HQ.out]; exact fs.out k hka i hin)
  have dt:inV (P ^ M) (lu:Nat)=lu:=zan (by rw [<-HQ.out]; exact et)
  obtain ⟨x,hx⟩:=exx (T.syn (addF P M) (mulF P M m) H i fu k)
  obtain ⟨y,hy⟩:=exx (H k i)
  rw [<-hx] at bv ce;rw [<-hy] at ci cd
  have HX:=hid hx
  have HY:=hid hy
  have fq:=hid ce
  have ej:=hid cd
  have ek:=hid dt
  have cw:=hid bv
  have a7:=hid ci
  clear hx hy ce cd dt bv ci r0w ea ap
  go_upto_region 16 with fail
  refine wp_region_held_drew (S:=fun w'=>w'.cell? ⟨b12,1,none⟩=some (.int .i64 (lu:Nat))/\w'.cell? ⟨rb,ro+i,none⟩=some (.int .i64 (y:Nat))) (by kernel_rfl) ⟨cellS (Below.refl _ _).drew ((zaa G.out KB.out).cell (i:=1) (by omega)),cellS (Below.refl _ _).drew (a7.out _ KB.out)⟩ (fun l=>?_)
  obtain ⟨w15,hw,kb⟩:=dwx w14
  rw [<-hw] at l ⊢;clear hw h0;replace HO:=hid (HO.out.on kb);replace KB:=hid (onS KB.out kb);clear kb
  refine tkq 0 (h:=tkq 1 (h:=tkq 2 (h:=tkq 3 (h:=tkq 4 (h:=tkq 5 (h:=tkq 7 (h:=tkq 8 (h:=tkq 9 (h:=tkq 10 (h:=tkq 11 (h:=tkq 12 (h:=?_))))))))))))
  refine tkq 13 (h:=?_)
  clear l
  refine rdq2 6 14 (h:=fun K hK=>?_) (h2:=fun K hK=>?_)
  focus
   have u0:w15.cell? ⟨gs,os+k,none⟩=some (.int .i64 (x:Nat)):=cw.out _ HO.out
   go_simp
   clear u0
   refine bkq hK ⟨(zaa G.out KB.out).cell (i:=1) (by omega),a7.out _ KB.out⟩ (h:=fun l=>?_)
   clear hK K l
   refine rdq 14 (h:=fun K hK=>?_)
   go_simp
   go_wp2_with fail
   refine (zaY (lu:Int) (y:Int) (HG.out.on (onS (onS HB.out o.out) KB.out))).mono ?_
   rintro e w16 ⟨rfl,kb⟩
   rw [ek.out,ej.out];replace HO:=hid (HO.out.on kb);replace KB:=hid (onS KB.out kb);clear kb
   obtain ⟨z,hz⟩:=exx (mulF P M m lu y)
   rw [<-hz]
   have HZ:=hid hz
   have dq:Hid (inV (P ^ M) (z:Nat)=z):=hid (zan (by rw [hz,<-HQ.out]; exact HL.out.mulLt _ _))
   clear hz
   refine bkq hK ⟨(zaa G.out KB.out).cell (i:=1) (by omega),a7.out _ KB.out⟩ (h:=fun l=>?_)
   clear hK K l
  rotate_left
  focus
   go_simp
   go_wp2_with fail
   refine (zaY (lu:Int) (y:Int) (HG.out.on (onS (onS HB.out o.out) KB.out))).mono ?_
   rintro e w16 ⟨rfl,kb⟩
   rw [ek.out,ej.out];replace HO:=hid (HO.out.on kb);replace KB:=hid (onS KB.out kb);clear kb
   obtain ⟨z,hz⟩:=exx (mulF P M m lu y)
   rw [<-hz]
   have HZ:=hid hz
   have dq:Hid (inV (P ^ M) (z:Nat)=z):=hid (zan (by rw [hz,<-HQ.out]; exact HL.out.mulLt _ _))
   clear hz
   refine bkq hK ⟨(zaa G.out KB.out).cell (i:=1) (by omega),a7.out _ KB.out⟩ (h:=fun l=>?_)
   clear hK K l
   refine rdq 6 (h:=fun K hK=>?_)
   have u0:w16.cell? ⟨gs,os+k,none⟩=some (.int .i64 (x:Nat)):=cw.out _ HO.out
   go_simp
   clear u0
   refine bkq hK ⟨(zaa G.out KB.out).cell (i:=1) (by omega),a7.out _ KB.out⟩ (h:=fun l=>?_)
   clear hK K l
  rotate_left
  all_goals
   refine rdq 15 (h:=fun K hK=>?_)
   go_simp
   go_wp2_with fail
   refine (zbS (x:Int) (z:Int) (HG.out.on (onS (onS HB.out o.out) KB.out))).mono ?_
   rintro e w17 ⟨rfl,kb⟩
   rw [fq.out,dq.out];replace HO:=hid (HO.out.on kb);replace KB:=hid (onS KB.out kb);clear kb
   obtain ⟨s,hs⟩:=exx (addF P M x z)
   rw [<-hs]
   have HS:=hid hs
   clear hs
   refine bkq hK ⟨(zaa G.out KB.out).cell (i:=1) (by omega),a7.out _ KB.out⟩ (h:=fun l=>?_)
   clear hK K l
   have l:w17.cell? ⟨b12,1,none⟩=some (.int .i64 (lu:Nat))/\w17.cell? ⟨rb,ro+i,none⟩=some (.int .i64 (y:Nat)):=⟨(zaa G.out KB.out).cell (i:=1) (by omega),a7.out _ KB.out⟩
   refine tkq 16 (h:=?_)
   clear l
   have u0:w17.cell? ⟨gs,os+k,none⟩=some (.int .i64 (x:Nat)):=cw.out _ HO.out
   have u1:=HO.out.frozen (os+k)
   refine rdq 17 (h:=fun K hK=>?_)
   go_simp
   have bm:=HO.out.set (a:=k) (b:=0) hka (by omega) (.int .i64 (s:Nat))
   rw [Nat.mul_one,Nat.add_zero] at bm
   have bu:=KB.out.setCell (p:=⟨gs,os+k,none⟩) (HO.out.lt gs rfl).1 (.int .i64 (s:Nat))
   obtain ⟨w18,hw⟩:=exx (World.setCell w17 ⟨gs,os+k,none⟩ (.int .i64 (s:Nat)))
   rw [<-hw] at bm bu ⊢;clear hw u0 u1
   have fl:Hid (Own w18 w12.heap.size 3 1 (.slice (some ⟨gs,os,none⟩) a sc) a (fun t _=>.int .i64 ((if t<k+1 then T.synv (addF P M) (mulF P M m) H (T.syn (addF P M) (mulF P M m) H i) i j t else T.syn (addF P M) (mulF P M m) H i fu t:Nat):Int))):=hid (bm.congr fun t _ u hu=>by
    obtain rfl:u=0:=by omega
    show (if t=k/\0=0 then Value.int .i64 (s:Nat) else .int .i64 ((if t<k then T.synv (addF P M) (mulF P M m) H (T.syn (addF P M) (mulF P M m) H i) i j t else T.syn (addF P M) (mulF P M m) H i fu t:Nat):Int))=.int .i64 ((if t<k+1 then T.synv (addF P M) (mulF P M m) H (T.syn (addF P M) (mulF P M m) H i) i j t else T.syn (addF P M) (mulF P M m) H i fu t:Nat):Int)
    by_cases e:t=k
    ·rw [if_pos ⟨e,rfl⟩,if_pos (by omega),e,HS.out,HZ.out,HX.out,HY.out,<-fn.out]
     unfold Trel.synv
     rw [<-fv.out]
    rw [if_neg fun g=>e g.1]
    by_cases e2:t<k
    ·rw [if_pos e2,if_pos (by omega)]
    ·rw [if_neg e2,if_neg (by omega)])
   replace KB:=hid bu;clear bm bu HO
   refine bkq hK ⟨(zaa G.out KB.out).cell (i:=1) (by omega),a7.out _ KB.out⟩ (h:=fun l=>?_)
   clear hK K l
   refine wpAnyH_done (by kernel_rfl) ?_ _
   go_wp2
   go_roundg (gk - 1)
   case measure=>omega
   case rel=>exact ⟨k+1,by go_num,by omega,by omega,fl.out,KB.out⟩
 obtain rfl:a=k:=by omega
 have c9:¬ (a:Int)<(a:Int):=by omega
 have ef:Hid (Own w14 w12.heap.size 3 1 (.slice SA a sc) a (fun t _=>.int .i64 (T.synv (addF P M) (mulF P M m) H (T.syn (addF P M) (mulF P M m) H i) i j t:Nat))):=hid (HO.out.congr fun t ht _ _=>by rw [if_pos ht])
 replace G:=hid (zaa G.out KB.out);replace r:=hid (zaa r.out KB.out);replace C:=hid (C.out.on KB.out);replace I:=hid (I.out.on KB.out);replace D:=hid (D.out.on KB.out);replace o:=hid (onS o.out KB.out)
 have L:=hid (ef.out.mono (show w.heap.size<=w12.heap.size from fj.out))
 clear HO KB ef
 have N:=r.out.cell (i:=i+1) (by have:=J.out; omega)
 rw [bp.out] at N
 have az:=qc2 G.out
 have cl:=D.out.row.cell bh
 have cf:((i+1:Nat):Int)<(T.nw:Int):=by have:=J.out; omega
 have fy:(tu:Int)<(mm:Int):=by omega
 have c6:∃ OA oc on,R2 tu=.slice OA on oc/\((T.asg i j tu/\on=a/\IntsR w14 w14.heap.size OA a (fun k=>((T.synL (addF P M) (mulF P M m) H (T.syn (addF P M) (mulF P M m) H i) i j tu k:Nat):Int)))∨(¬ T.asg i j tu/\OA=none/\on=0)):=by
  by_cases Z:T.asg i j tu
  ·have e5:=D.out.yes tu bh Z
   obtain ⟨OA,oc,e⟩:=e5.shape
   exact ⟨OA,oc,a,e,.inl ⟨Z,rfl,e5.rd e⟩⟩
  ·exact ⟨none,0,0,D.out.no tu bh Z,.inr ⟨Z,rfl,rfl⟩⟩
 obtain ⟨OA,oc,on,e4,a6⟩:=c6
 rw [e4] at cl;clear e4
 go_upto_region 18 with fail
 refine wp_region_held_drew (S:=fun w'=>w'.cell? ⟨go,i+1,none⟩=some (.slice (some ⟨g2,0,none⟩) mm mm)/\w'.cell? ⟨g2,tu,none⟩=some (.slice OA on oc)/\w'.cell? ⟨b12,2,none⟩=some (.int .i64 (tu:Nat))) (by kernel_rfl) ⟨cellS (Below.refl _ _).drew N,cellS (Below.refl _ _).drew cl,cellS (Below.refl _ _).drew az⟩ (fun l=>?_)
 obtain ⟨w15,hw,kb⟩:=dwx w14
 rw [<-hw] at l ⊢;clear hw
 refine tkq 0 (h:=tkq 1 (h:=tkq 2 (h:=tkq 3 (h:=tkq 4 (h:=tkq 5 (h:=tkq 6 (h:=tkq 7 (h:=?_))))))))
 refine tkq 8 (h:=tkq 9 (h:=?_))
 refine wpAnyH_done (by kernel_rfl) ?_ _
 clear l;replace G:=hid (zaa G.out kb);replace r:=hid (zaa r.out kb);replace C:=hid (C.out.on kb);replace I:=hid (I.out.on kb);replace D:=hid (D.out.on kb);replace o:=hid (onS o.out kb);replace L:=hid (L.out.on kb)
 have a4:=a6.imp (fun h=>(⟨h.1,h.2.1,h.2.2.on kb⟩:T.asg i j tu/\on=a/\IntsR w15 w15.heap.size OA a (fun k=>((T.synL (addF P M) (mulF P M m) H (T.syn (addF P M) (mulF P M m) H i) i j tu k:Nat):Int)))) id
 clear kb a6 cl az N
 go_upto_region 19 with fail
 go_cut [107] (fun v107 wx=>∃ bb:Bool,v107=.bool bb/\Below w15.heap.size w15 wx/\Hid (bb=true->¬ T.SynOk (addF P M) (mulF P M m) H q a)/\Hid (bb=false->T.asg i j tu->∀ k,k<a->T.synL (addF P M) (mulF P M m) H (T.syn (addF P M) (mulF P M m) H i) i j tu k=T.synv (addF P M) (mulF P M m) H (T.syn (addF P M) (mulF P M m) H i) i j k))
 case first =>
  rcases a4 with ⟨Z,rfl,hI⟩ | ⟨a8,rfl,rfl⟩
  rotate_left
  ·go_wp2
   go_meet
   exact ⟨false,rfl,Below.refl _ _,hid (fun h=>nomatch h),hid fun _ h=>absurd h a8⟩
  cases OA with
  | none =>
   have HI:=hid hI
   clear hI
   go_wp2
   go_meet
   exact ⟨false,rfl,Below.refl _ _,hid (fun h=>nomatch h),hid fun _ _ k hk=>by
    obtain ⟨_,_,e,_⟩:=HI.out.at hk
    cases e⟩
  | some oad =>
   obtain ⟨ob,oo,op⟩:=oad
   have HI:=hid hI
   have d1:=hid (show IntsR w15 w15.heap.size SA on (fun k=>((T.synv (addF P M) (mulF P M m) H (T.syn (addF P M) (mulF P M m) H i) i j k:Nat):Int)) from L.out.rd rfl)
   clear hI
   have fz:∀ W,(binOp .neq 22 (.slice (some ⟨ob,oo,op⟩) on oc) (.slice none 0 0)).run Tryz.prog W=.ok (.bool true) W:=fun _=>rfl
   go_wp2_with fail
   refine (zch (some ⟨ob,oo,op⟩) SA on on oc sc _ _ w15 HI.out d1.out (by omega) (by omega)).mono ?_
   rintro e w16 ⟨v,rfl,hv,kb⟩
   cases v with
   | true =>
    have fe:=(hv.1 rfl).2
    clear hv
    go_wp2
    go_meet
    exact ⟨false,rfl,kb,hid (fun h=>nomatch h),hid fun _ _ k hk=>by
     have:=fe k hk
     exact Int.ofNat.inj this⟩
   | false =>
    have a8:¬ T.SynOk (addF P M) (mulF P M m) H q on:=fun h=>by
     have h1:=(h i hin j (by rw [<-ak.out]; exact hjl)).2
     rw [<-bq.out] at h1
     have h2:=hv.2 ⟨rfl,fun k hk=>congrArg (fun x:Nat=>(x:Int)) (h1 Z k hk)⟩
     cases h2
    clear hv
    go_wp2
    go_meet
    exact ⟨true,rfl,kb,hid fun _=>a8,hid (fun h=>nomatch h)⟩
 obtain ⟨bb,rfl,kb,fm,d8⟩:=hcut
 obtain ⟨w16,bx⟩:=exx wc
 subst bx
 obtain hbb | hbb:=Bool.eq_false_or_eq_true bb
 ·subst hbb
  have a8:=fm.out rfl
  have cu:=onS (onS HB.out o.out) kb
  go_wp2
  go_ret2
  exact ⟨cu,.inr ⟨a8,rfl⟩⟩
 subst hbb
 have fw:=hid (d8.out rfl)
 replace G:=hid (zaa G.out kb);replace r:=hid (zaa r.out kb);replace C:=hid (C.out.on kb);replace I:=hid (I.out.on kb);replace D:=hid (D.out.on kb);replace o:=hid (onS o.out kb);replace L:=hid (L.out.on kb);clear kb a4
 have N:=r.out.cell (i:=i+1) (by have:=J.out; omega)
 rw [bp.out] at N
 have az:=qc2 G.out
 go_upto_region 21 with fail
 refine wp_region_held_drew (S:=fun w'=>w'.cell? ⟨go,i+1,none⟩=some (.slice (some ⟨g2,0,none⟩) mm mm)/\w'.cell? ⟨b12,2,none⟩=some (.int .i64 (tu:Nat))) (by kernel_rfl) ⟨cellS (Below.refl _ _).drew N,cellS (Below.refl _ _).drew az⟩ (fun l=>?_)
 obtain ⟨w17,hw,kb⟩:=dwx w16
 rw [<-hw] at l ⊢;clear hw N az;replace G:=hid (zaa G.out kb);replace r:=hid (zaa r.out kb);replace C:=hid (C.out.on kb);replace I:=hid (I.out.on kb);replace D:=hid (D.out.on kb);replace o:=hid (onS o.out kb);replace L:=hid (L.out.on kb);clear kb
 refine tkq 0 (h:=tkq 1 (h:=tkq 2 (h:=tkq 3 (h:=tkq 4 (h:=tkq 5 (h:=tkq 6 (h:=tkq 7 (h:=?_))))))))
 refine tkq 8 (h:=?_)
 clear l
 have u0:=D.out.row.cell bh
 have u1:=D.out.row.frozen tu
 refine rdq 9 (h:=fun K hK=>?_)
 go_simp
 have ag:=D.out.set (u:=tu) L.out
 have ad:=I.out.put (k:=tu) D.out.row (by decide) (.inr rfl) (.slice SA a sc)
 have O:=C.out.kept (zba w17 g2 tu (.slice SA a sc)) f2.out fun u hu hp e=>(zaS D.out.row (C.out.yes u hu hp) (by decide)).elim (fun h=>by rw [h] at e; cases e) (fun h=>h e)
 have ar:go≠g2:=fun e=>(zaS r.out (zaI D.out.row (Nat.zero_le _) (by unfold maxLen; omega)) (by decide)).elim (fun h=>by cases h) (fun h=>h (by rw [e]; rfl))
 have a3:=rowIs_setCells_other' ar (.slice SA a sc) tu r.out
 have cb:=o.out.setCell (p:=⟨g2,tu,none⟩) d7.out (.slice SA a sc)
 have aq:b12≠g2:=fun e=>(zaS G.out (zaI D.out.row (Nat.zero_le _) (by unfold maxLen; omega)) (by decide)).elim (fun h=>by cases h) (fun h=>h (by rw [e]; rfl))
 have a1:=rowIs_setCells_other' aq (.slice SA a sc) tu G.out
 obtain ⟨w18,hw⟩:=exx (World.setCell w17 ⟨g2,tu,none⟩ (.slice SA a sc))
 rw [<-hw] at ag O a3 cb a1 ad ⊢
 have cz:=hid ad
 have ba:=hid a1
 clear hw u0 u1 ar aq a1
 have be:=hid a3
 have d3:=hid O
 have fp:=hid cb
 have d5:=hid (ag.congr (P':=T.asg i (j+1)) (S':=T.synL (addF P M) (mulF P M m) H (T.syn (addF P M) (mulF P M m) H i) i (j+1)) (fun u _=>by rw [Trel.asg_succ,<-bq.out]; exact or_congr Iff.rfl eq_comm) fun u _ _ k _=>by
  show (if u=tu then T.synv (addF P M) (mulF P M m) H (T.syn (addF P M) (mulF P M m) H i) i j k else T.synL (addF P M) (mulF P M m) H (T.syn (addF P M) (mulF P M m) H i) i j u k)=if (T.to i j).toNat=u then T.synv (addF P M) (mulF P M m) H (T.syn (addF P M) (mulF P M m) H i) i j k else T.synL (addF P M) (mulF P M m) H (T.syn (addF P M) (mulF P M m) H i) i j u k
  rw [<-bq.out]
  by_cases e:u=tu
  ·rw [if_pos e,if_pos e.symm]
  ·rw [if_neg e,if_neg (fun g=>e g.symm)])
 have b2:T.agree (addF P M) (mulF P M m) H q a i j:=⟨fo.out,by rw [<-bq.out]; exact fw.out⟩
 have da:=hid b2
 clear ag O a3 cb b2 ad
 have dz:w18.cell? ⟨go,i+1,none⟩=some (.slice (some ⟨g2,0,none⟩) mm mm)/\w18.cell? ⟨b12,2,none⟩=some (.int .i64 (tu:Nat)):=by
  refine ⟨?_,?_⟩
  ·rw [<-bp.out]; exact be.out.cell (by have:=J.out; omega)
  ·exact ba.out.cell (i:=2) (by omega)
 refine bkq hK dz (h:=fun l=>?_)
 clear hK K l dz
 refine wpAnyH_done (by kernel_rfl) ?_ _
 have ev:IntKind.i64.wrap ((j:Int)+1)=((j+1:Nat):Int):=by rw [IntWalk.i64_in _ (by omega)]; rfl
 go_wp2
 go_roundg (gP - 1)
 case measure=>omega
 case rel=>exact ⟨j+1,_,by go_num,by omega,by omega,hid fun e he=>by
  by_cases h:e=j
  ·rw [h]; exact da.out
  ·exact eh.out e (by omega),be.out,d3.out,d5.out,fp.out,cz⟩
theorem IntTab.fresh {w w':World} {g base m:Nat} {F:Nat->Value} {n:Nat->Nat} {x:Nat->Nat->Int} (h:IntTab w g base m F n x) (hgb:g<base) (hbw:base<=w.heap.size) (kb:Below w.heap.size w w') {v:Nat} (hv:v<m) {v':Value} {k':Nat} {y:Nat->Int} (hown:Own w' w.heap.size 3 1 v' k' (fun i _=>.int .i64 (y i))) :
  IntTab (w'.setCell ⟨g,v,none⟩ v') g base m (fun u=>if u=v then v' else F u) (fun u=>if u=v then k' else n u) (fun u=>if u=v then y else x u):=by
 have h1:=h.on kb
 refine ⟨(h1.row.set v v').congr fun u _=>by split <;> rfl,fun u hu=>?_,fun a b ha hb hab=>?_⟩
 ·by_cases e:u=v
  ·subst e
   simp only [if_true]
   exact (hown.mono hbw).setCell (fun e=>by have h5:w.heap.size<=g:=(hown.lt _ e).1; omega) _
  ·simp only [if_neg e]
   exact (h1.own u hu).setCell (fun e=>by have h5:base<=g:=((h1.own u hu).lt _ e).1; omega) _
 by_cases ea:a=v
 ·have eb:¬ b=v:=fun e=>hab (by rw [ea,e])
  simp only [if_pos ea,if_neg eb]
  cases hfa:v'.ownBlock with
  | none=>exact .inl rfl
  | some k =>
   right
   intro e2
   have h5:=(hown.lt k hfa).1
   have h6:=((h.own b hb).lt k e2.symm).2
   omega
 simp only [if_neg ea]
 by_cases eb:b=v
 rotate_left
 ·simp only [if_neg eb]; exact h.apart a b ha hb hab
 simp only [if_pos eb]
 cases hfa:(F a).ownBlock with
 | none=>exact .inl rfl
 | some k =>
  right
  intro e2
  have h5:=(hown.lt k e2.symm).1
  have h6:=((h.own a ha).lt k hfa).2
  omega
end Go.Proofs.YtgekjfpapmlndaaGreat