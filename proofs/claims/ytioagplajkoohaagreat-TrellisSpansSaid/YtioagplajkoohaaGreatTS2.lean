/- Merged texts of a claim: Rank47, RankPl, SameC, SpansLaw. -/
import Derived.Test.YtioagplajkoohaaGreatTQ13
import Derived.Test.YtioagplajkoohaaGreatTS1
namespace Go.Proofs.YtioagplajkoohaaGreat
set_option maxRecDepth 100000
set_option maxHeartbeats 32000000
open Go.RowKit Go.ChangeShapes Go.WideShapes Go.ChangeAt
theorem ints_preN {w:World} {B n m:Nat} {A:Option Addr} {f:Nat->Int} (h:IntsR w B A n f) (hm:m<=n):IntsR w B A m f:=fun i hi=>h i (by omega)
theorem ints_sufN {w:World} {B n b o s:Nat} {f:Nat->Int} (h:IntsR w B (some ⟨b,o,none⟩) n f) (hs:s<=n):IntsR w B (some ⟨b,o+s,none⟩) (n - s) (fun j=>f (s+j)):=fun j hj=>by
 obtain ⟨b',o',e,hb,hc⟩:=h (s+j) (by omega)
 injection e with e
 injection e with e1 e2
 subst e1 e2
 refine ⟨b,o+s,rfl,hb,fun q hq=>?_⟩
 have h2:=hc q hq
 rw [show o+s+j*1+q=o+(s+j)*1+q by omega]
 exact h2
theorem wpList_append_val {w:World} {ops:Array Oper} {rest:List Oper} {o:Oper} {a:Act} {Q:Exit->Act->World->Prop} (hgd:o.guard=none) (sl x:Operand)
  (ho:o.op=.call { callee:=.builtin .append,args:=#[sl,x],argTypes:=#[25, 25] })
  {base n:Nat} {v:Value} {R:Nat->Value} (h:Own w base 22 1 v n (fun i _=>R i)) (hv:a.eval sl=v) {ad:Addr} {c:Nat} {r:Value} (hx:a.eval x=.slice (some ad) 1 c)
  (hcell:w.cell? (ad.add 0)=some r) (h1:r.oneCell'=true) (hbase:base<=w.heap.size) (hN:n<=1048576)
  (K:∀ v' w',Own w' base 22 1 v' (n+1) (fun i _=>if i=n then r else R i)->w.grownBy w' v.ownBlock->wpList Tryz.prog ops Q rest (a.put o.dst v') w'):wpList Tryz.prog ops Q (o :: rest) a w:=by
 obtain ⟨i0,qi0,qz0,qz1,qz2⟩:=info_parts Tryz.infoInts
 have hown:Own w base 22 1 v n (fun i _=>if i=n then r else R i):=h.congr fun i hi _ _=>by rw [if_neg (by omega)]
 refine zaK w hgd sl x _ ho base 22 i0 _ 1 24 Tryz.underlying25 qi0 qz0 qz1 qz2 rfl (by omega) v n _ hv hown ad c hx (fun j hj=>by
   obtain rfl:j=0:=by omega
   rw [if_pos rfl]
   exact hcell) (fun _ _=>by rw [if_pos rfl]; exact h1) (by unfold maxLen; omega) (by omega) hbase ?_
 intro v' w3 hown3 hg3 _
 exact K v' w3 hown3 hg3
theorem wpList_append_none {w:World} {ops:Array Oper} {rest:List Oper} {o:Oper} {a:Act} {Q:Exit->Act->World->Prop} (hgd:o.guard=none) (sl x:Operand)
  (ho:o.op=.call { callee:=.builtin .append,args:=#[sl,x],argTypes:=#[22, 22] }) (b0 o0:Nat) (hv:a.eval sl=.slice (some ⟨b0,o0,none⟩) 0 0)
  (A:Option Addr) (c:Nat) (hx:a.eval x=.slice A 0 c) (h:wpList Tryz.prog ops Q rest (a.put o.dst (.slice (some ⟨b0,o0,none⟩) 0 0)) w):wpList Tryz.prog ops Q (o :: rest) a w:=by
 obtain ⟨i0,qi0,qz0,qz1,qz2⟩:=info_parts Tryz.infoInt
 refine wpList_plain hgd fun K hK=>?_
 have hrun:=za4 (P:=Tryz.prog) w 22 o.type 3 i0 Tryz.underlying22 qi0 b0 o0 A c
 unfold Oper.wp execOp
 simp only [ho,resolve,invoke,builtin,Sem.run_bind,Sem.run_pure,Result.andThen_ok,List.map_toArray,List.map_cons,List.map_nil,hv,hx,hrun]
 exact hK _ _ h
theorem copy0_any (T:Option Addr) (n c:Nat) (W:Nat->Nat->Nat) (w:World) (h:MRows w T n 0 W) (hn:n<=1048576) :
  Calls Tryz.prog 216 #[.slice T n c] w fun e w'=>∃ A c',e=.returned (.slice A n c')/\n<=c'/\Below w.heap.size w w':=by
 have HR:=hid h
 have H0:Hid (∃ R:Nat->Value,Own w w.heap.size 22 1 (.slice none 0 0) 0 (fun i _=>R i)):=hid ⟨fun _=>undef,Own.nil _ _ _ _ _⟩
 clear h
 go_enter Tryz.func216, Tryz.ntmps216
 go_wp2
 obtain ⟨nv,hnv⟩:∃ x:Value,x=.slice none 0 0:=⟨_,rfl⟩
 rw [<-hnv] at H0 ⊢
 clear hnv
 go_loopg [3,4] n (fun gg mv iv wx=>∃ i:Nat,iv=.int .i64 (i:Nat)/\i<=n/\n<=i+gg/\Hid (∃ R:Nat->Value,Own wx w.heap.size 22 1 mv i (fun i _=>R i))/\Below w.heap.size w wx)
 case atStart=>exact ⟨0,rfl,by omega,by omega,H0,Below.refl _ _⟩
 case round =>
  clear H0
  obtain ⟨i,rfl,hi,hig,HM,hB⟩:=hrel
  have hi0:(0:Int)<=(i:Int):=by omega
  by_cases hlt:i<n
  ·have hlt':(i:Int)<(n:Int):=by omega
   obtain ⟨b,o,RA,rc,hT,hb,x0,_,_,hrow,_⟩:=HR.out i hlt
   subst hT
   have kb1:Below wr.heap.size wr (wr.alloc (Obj.cells #[] 3)):=(Below.refl _ _).alloc (Nat.le_refl _) _
   have hB1:=onS hB kb1
   have x1:=(hB1.cell (p:=⟨b,o+i,none⟩) hb).trans x0
   have x2:=(hB.cell (p:=⟨b,o+i,none⟩) hb).trans x0
   have kb3:Below (wr.alloc (Obj.cells #[] 3)).heap.size (wr.alloc (Obj.cells #[] 3)) ((wr.alloc (Obj.cells #[] 3)).alloc (Obj.cells #[.slice (some ⟨wr.heap.size,0,none⟩) 0 0] 22)):=(Below.refl _ _).alloc (Nat.le_refl _) _
   obtain ⟨R,hR⟩:=HM.out
   have HM2:=hid ((hR.on kb1).on kb3)
   have HB2:=hid (onS hB1 kb3)
   have HZ2:=hid HB2.out.size
   have HC2:Hid (((wr.alloc (Obj.cells #[] 3)).alloc (Obj.cells #[.slice (some ⟨wr.heap.size,0,none⟩) 0 0] 22)).cell? ((⟨wr.heap.size+1,0,none⟩:Addr).add 0)=some (.slice (some ⟨wr.heap.size,0,none⟩) 0 0)):=by
    have h1:(wr.alloc (Obj.cells #[] 3)).heap.size=wr.heap.size+1:=by simp
    rw [<-h1]
    exact hid tbox2
   have HL:Hid (i<=1048576):=by show _<=_; omega
   clear kb1 kb3 hR HM hB1
   go_upto_region 4 with (first | (at_builtin; (refine wpList_append_none rfl (.tmp 12) (.tmp 16) rfl wr.heap.size 0 rfl RA rc rfl ?_)) | (at_builtin; (refine wpList_append_val rfl (.tmp 11) (.tmp 18) rfl HM2.out rfl (ad:=⟨wr.heap.size+1,0,none⟩) (c:=1) rfl HC2.out rfl HZ2.out HL.out ?_); intro v9 w9 o1 o2))
   have HM9:Hid (∃ R:Nat->Value,Own w9 w.heap.size 22 1 v9 (i+1) (fun i _=>R i)):=hid ⟨_,o1⟩
   have HB9:=hid (HB2.out.grown o2 HZ2.out (fun q e=>(HM2.out.lt q e).1))
   clear o1 o2
   go_wp2
   go_roundg (gk - 1)
   case measure=>omega
   case rel=>exact ⟨i+1,by go_num,by omega,by omega,HM9,HB9.out⟩
  ·have hlt':¬ (i:Int)<(n:Int):=by omega
   obtain rfl:i=n:=by omega
   obtain ⟨R,hR⟩:=HM.out
   obtain ⟨A,c',rfl⟩:=hR.shape
   have hcl:=hR.capL
   go_wp2
   go_ret
   exact ⟨A,c',rfl,hcl.1,hB⟩
theorem elim0_any (P M:Int) (A:Option Addr) (k c:Nat) (T:Option Addr) (n d:Nat) (W:Nat->Nat->Nat) (w:World) (h:MRows w T n 0 W) (hn:n<=1048576) :
  Calls Tryz.prog 158 #[.agg #[.int .i64 P,.int .i64 M,.slice A k c],.slice T n d,.int .i64 0] w fun e w'=>∃ A c',e=.returned (.tuple #[.slice A n c',.slice none 0 0])/\n<=c'/\Below w.heap.size w w':=by
 have HR:=hid h
 clear h
 have hB:Below w.heap.size w (w.alloc (.cells #[.int .i64 P,.int .i64 M,.slice A k c] 24)):=(Below.refl _ _).alloc (Nat.le_refl _) _
 obtain ⟨w0,hw0⟩:∃ W,W=w.alloc (.cells #[.int .i64 P,.int .i64 M,.slice A k c] 24):=⟨_,rfl⟩
 rw [<-hw0] at hB
 have HB:=hid hB
 clear hB
 go_enter Tryz.func158, Tryz.ntmps158
 go_upto_region 1 with fail
 rw [<-hw0]
 clear hw0
 go_wp2_with fail
 refine (copy0_any T n d W w0 (IntRows.on HR.out HB.out) hn).mono ?_
 rintro e w1 ⟨A1,c1,rfl,hc1,kb⟩
 replace HB:=hid (onS HB.out kb)
 have HC1:=hid hc1
 clear kb hc1
 go_upto_region 5 with fail
 go_loopg [9,11] 0 (fun gg pv cv wx=>pv=.slice none 0 0/\cv=.int .i64 0/\wx=w1)
 case atStart=>exact ⟨rfl,rfl,rfl⟩
 case round =>
  obtain ⟨rfl,rfl,hwx⟩:=hrel
  obtain rfl:w1=wr:=hwx.symm
  go_wp2
  go_ret2
  exact ⟨A1,c1,rfl,HC1.out,HB.out⟩
theorem canon0_any (P M:Int) (A:Option Addr) (k c:Nat) (T:Option Addr) (n d:Nat) (W:Nat->Nat->Nat) (w:World) (h:MRows w T n 0 W) (hn:n<=1048576) :
  Calls Tryz.prog 81 #[.agg #[.int .i64 P,.int .i64 M,.slice A k c],.slice T n d,.int .i64 0] w fun e w'=>∃ v,e=.returned (.tuple #[v,.slice none 0 0])/\Below w.heap.size w w':=by
 have HR:=hid h
 clear h
 have rf:=zad (w:=w) (a:=.int .i64 P) (b:=.int .i64 M) (c:=.slice A k c) (T := 24)
 have hB:Below w.heap.size w (w.alloc (.cells #[.int .i64 P,.int .i64 M,.slice A k c] 24)):=(Below.refl _ _).alloc (Nat.le_refl _) _
 obtain ⟨w0,hw0⟩:∃ W,W=w.alloc (.cells #[.int .i64 P,.int .i64 M,.slice A k c] 24):=⟨_,rfl⟩
 rw [<-hw0] at hB rf
 have HB:=hid hB
 clear hB
 go_enter Tryz.func81, Tryz.ntmps81
 go_upto_region 1 with fail
 rw [<-hw0]
 clear hw0
 have q0:w0.cell? ⟨w.heap.size,0,none⟩=some (.int .i64 P):=rf.cell (i:=0) (by omega)
 have q1:w0.cell? ⟨w.heap.size,1,none⟩=some (.int .i64 M):=rf.cell (i:=1) (by omega)
 have q2:w0.cell? ⟨w.heap.size,2,none⟩=some (.slice A k c):=rf.cell (i:=2) (by omega)
 clear rf
 go_wp2_with fail
 refine (elim0_any P M A k c T n d W w0 (IntRows.on HR.out HB.out) hn).mono ?_
 rintro e w1 ⟨A1,c1,rfl,hc1,kb⟩
 replace HB:=hid (onS HB.out kb)
 clear kb q0 q1 q2
 have hc0:0<=c1:=Nat.zero_le _
 cases A1 with
 | none =>
  go_wp2
  go_ret2
  exact ⟨_,rfl,HB.out⟩
 | some a1 =>
  go_wp2
  go_ret2
  exact ⟨_,rfl,HB.out⟩
def RankIs (q:Nat) (add mul:Nat->Nat->Nat) (n:Nat) (V:Nat->Nat->Nat) (lo m a:Nat):Prop:=∃ p W,EchN q n m m a p W/\RowOps q add mul n m (fun i j=>V i (lo+j)) W
theorem rank47_any (P M:Nat) (m:Nat->Nat) (A:Option Addr) (k c N:Nat) (T:Option Addr) (n d:Nat) (V:Nat->Nat->Nat) (lo hi:Nat) (w:World) (h:CodeR w P M m A k N T n V) (hlh:lo<=hi) (hhN:hi<=N) :
  Calls Tryz.prog 115 #[.agg #[.int .i64 (P:Nat),.int .i64 (M:Nat),.slice A k c,.int .i64 (N:Nat),.slice T n d],.int .i64 (lo:Nat),.int .i64 (hi:Nat)] w fun e w'=>∃ a:Nat,e=.returned (.int .i64 (a:Nat))/\RankIs (P ^ M) (addF P M) (mulF P M m) n V lo (hi - lo) a/\Below w.heap.size w w':=by
 have HC:=hid h
 have hN64:=h.ln2
 have hnN:=h.n_le
 clear h
 have rf:=zam (w:=w) (a:=.int .i64 (P:Nat)) (b:=.int .i64 (M:Nat)) (c:=.slice A k c) (d:=.int .i64 (N:Nat)) (e:=.slice T n d) (T := 27)
 have hB:Below w.heap.size w (w.alloc (.cells #[.int .i64 (P:Nat),.int .i64 (M:Nat),.slice A k c,.int .i64 (N:Nat),.slice T n d] 27)):=(Below.refl _ _).alloc (Nat.le_refl _) _
 obtain ⟨w1,hw1⟩:∃ W,W=w.alloc (.cells #[.int .i64 (P:Nat),.int .i64 (M:Nat),.slice A k c,.int .i64 (N:Nat),.slice T n d] 27):=⟨_,rfl⟩
 rw [<-hw1] at hB rf
 go_enter Tryz.func115, Tryz.ntmps115
 go_upto_region 1 with fail
 rw [<-hw1]
 clear hw1
 obtain ⟨b0,hb0⟩:∃ b,b=w.heap.size:=⟨_,rfl⟩
 rw [<-hb0] at rf
 rw [<-hb0]
 clear hb0
 have HBOX:Hid (∀ X,Below w1.heap.size w1 X->(X.cell? ⟨b0,0,none⟩=some (.int .i64 (P:Nat))/\X.cell? ⟨b0,1,none⟩=some (.int .i64 (M:Nat))/\X.cell? ⟨b0,2,none⟩=some (.slice A k c)/\X.cell? ⟨b0,3,none⟩=some (.int .i64 (N:Nat))/\X.cell? ⟨b0,4,none⟩=some (.slice T n d))):=hid fun X hx =>
  ⟨(zaa rf hx).cell (i:=0) (by omega),(zaa rf hx).cell (i:=1) (by omega),(zaa rf hx).cell (i:=2) (by omega),(zaa rf hx).cell (i:=3) (by omega),(zaa rf hx).cell (i:=4) (by omega)⟩
 have HB:=hid hB
 clear hB rf
 go_upto_region 2 with fail
 have kb:=(Below.refl w1.heap.size w1).alloc (Nat.le_refl _) (Obj.cells #[] 22)
 have HO:Hid (Own (w1.alloc (Obj.cells #[] 22)) w1.heap.size 22 1 (.slice (some ⟨w1.heap.size,0,none⟩) 0 0) 0 (fun _ _=>undef)):=hid (Own.new (Nat.le_refl _) (Nat.le_refl _) (by unfold maxLen; omega) (by simp) fun k hk=>absurd hk (by omega))
 obtain ⟨w2,hw2⟩:∃ W,W=w1.alloc (Obj.cells #[] 22):=⟨_,rfl⟩
 rw [<-hw2] at HO kb ⊢
 obtain ⟨v0,hv0⟩:∃ v:Value,v=.slice (some ⟨w1.heap.size,0,none⟩) 0 0:=⟨_,rfl⟩
 rw [<-hv0] at HO ⊢
 have K2:=hid kb
 clear kb hw2 hv0
 go_upto_region 3 with fail
 go_loopg [7,8] n (fun gg tv iv wx=>∃ (i:Nat) (R:Nat->Value),iv=.int .i64 (i:Nat)/\i<=n/\n<=i+gg/\Hid (Own wx w1.heap.size 22 1 tv i (fun u _=>R u))/\Hid (∀ u,u<i->∃ X c,R u=.slice X (hi - lo) c/\hi - lo<=c/\c<=maxLen/\IntsR w1 w1.heap.size X (hi - lo) (fun j=>((V u (lo+j):Nat):Int)))/\Below w1.heap.size w1 wx)
 case atStart=>exact ⟨0,fun _=>undef,rfl,by omega,by omega,HO,hid fun _ h=>absurd h (by omega),K2.out⟩
 case round =>
  clear HO K2
  obtain ⟨i,R,rfl,hi',hig,HO,HRS,hBx⟩:=hrel
  have hi0:(0:Int)<=(i:Int):=by omega
  have K2:=hid hBx
  obtain ⟨w3,hw3⟩:∃ X,X=wr:=⟨_,rfl⟩
  subst hw3
  clear hBx
  obtain ⟨q0,q1,q2,q3,q4⟩:=HBOX.out _ K2.out
  by_cases hin:i<n
  ·have hin':(i:Int)<(n:Int):=by omega
   obtain ⟨pb,po,RA,rc,hTe,_,x0,hc1,hc2,hrow,hrng⟩:=(HC.out.on HB.out).rows i hin
   subst hTe
   have hrow:IntsR w1 w1.heap.size RA N (fun j=>((V i j:Nat):Int)):=hrow
   replace x0:=cellS K2.out x0
   have hc1:N<=rc:=hc1
   have hN1:=HC.out.ln1
   obtain ⟨ab,ao,hAe,_,_⟩:=hrow.at (i:=0) (by omega)
   subst hAe
   have hlo0:(0:Int)<=(lo:Int):=by omega
   have hlohi:(lo:Int)<=(hi:Int):=by omega
   have hhic:(hi:Int)<=(rc:Int):=by omega
   have HROW:=hid hrow
   have HK2:Hid (∀ v:Value,Below w3.heap.size w3 (w3.alloc (Obj.cells #[v] 22))):=hid fun v=>(Below.refl _ _).alloc (Nat.le_refl _) _
   have HO8:Hid (∀ v:Value,Own (w3.alloc (Obj.cells #[v] 22)) w1.heap.size 22 1 u7 i (fun u _=>R u)):=hid fun v=>HO.out.on (HK2.out v)
   have HZ8:Hid (∀ v:Value,w1.heap.size<=(w3.alloc (Obj.cells #[v] 22)).heap.size):=hid fun v=>Nat.le_trans K2.out.size (HK2.out v).size
   have HIL:Hid (i<=1048576):=by show _<=_; omega
   have HM1:Hid (rc<=maxLen):=hid hc2
   have HM2:Hid (N<=rc):=hid hc1
   clear hrow hrng hc1 hc2
   by_cases hcl:lo=rc
   ·subst hcl
    go_upto_region 4 with (first | (at_builtin; (refine wpList_append_val rfl (.tmp 19) (.tmp 28) rfl (HO8.out _) rfl (ad:=⟨w3.heap.size,0,none⟩) (c:=1) rfl tbox2 rfl (HZ8.out _) HIL.out ?_); intro v9 w9 o1 o2))
    have HM9:=hid o1
    have HB9:=hid (Below.grown (onS K2.out (HK2.out _)) o2 (HZ8.out _) (fun q e=>(HO.out.lt q e).1))
    have HRS2:Hid (∀ u,u<i+1->∃ X c,(if u=i then Value.slice (some ⟨ab,ao,none⟩) (hi - lo) 0 else R u)=.slice X (hi - lo) c/\hi - lo<=c/\c<=maxLen/\IntsR w1 w1.heap.size X (hi - lo) (fun j=>((V u (lo+j):Nat):Int))):=hid fun u hu=>by
     by_cases e:u=i
     ·refine ⟨_,_,if_pos e,by have:=HM2.out; omega,by unfold maxLen; omega,fun j hj=>absurd hj (by have:=HM2.out; omega)⟩
     ·rw [if_neg e]
      exact HRS.out u (by omega)
    clear o1 o2 q0 q1 q2 q3 q4 x0
    go_wp2
    go_roundg (gk - 1)
    case measure=>omega
    case rel=>exact ⟨i+1,_,by go_num,by omega,by omega,HM9,HRS2,HB9.out⟩
   ·have hcl2:¬ rc=lo:=fun h=>hcl h.symm
    go_upto_region 4 with (first | (at_builtin; (refine wpList_append_val rfl (.tmp 19) (.tmp 28) rfl (HO8.out _) rfl (ad:=⟨w3.heap.size,0,none⟩) (c:=1) rfl tbox2 rfl (HZ8.out _) HIL.out ?_); intro v9 w9 o1 o2))
    have HM9:=hid o1
    have HB9:=hid (Below.grown (onS K2.out (HK2.out _)) o2 (HZ8.out _) (fun q e=>(HO.out.lt q e).1))
    have HRS2:Hid (∀ u,u<i+1->∃ X c,(if u=i then Value.slice (some ⟨ab,ao+lo,none⟩) (hi - lo) (rc - lo) else R u)=.slice X (hi - lo) c/\hi - lo<=c/\c<=maxLen/\IntsR w1 w1.heap.size X (hi - lo) (fun j=>((V u (lo+j):Nat):Int))):=hid fun u hu=>by
     by_cases e:u=i
     ·refine ⟨_,_,if_pos e,by have:=HM2.out; omega,by have:=HM1.out; omega,?_⟩
      rw [e]
      exact ints_preN (ints_sufN HROW.out (by omega)) (by omega)
     ·rw [if_neg e]
      exact HRS.out u (by omega)
    clear o1 o2 q0 q1 q2 q3 q4 x0
    go_wp2
    go_roundg (gk - 1)
    case measure=>omega
    case rel=>exact ⟨i+1,_,by go_num,by omega,by omega,HM9,HRS2,HB9.out⟩
  ·have hin':¬ (i:Int)<(n:Int):=by omega
   obtain rfl:i=n:=by omega
   obtain ⟨tA,tc,hT⟩:=HO.out.shape
   subst hT
   obtain ⟨m1,hm1⟩:∃ x,x=hi - lo:=⟨_,rfl⟩
   have hsub:wrap64 ((hi:Int) - (lo:Int))=(m1:Int):=by unfold wrap64; omega
   have hsub2:IntKind.i64.wrap ((hi:Int) - (lo:Int))=(m1:Int):=by rw [IntWalk.i64_in _ (by omega)]; omega
   have HMR:Hid (MRows w3 tA i m1 (fun u j=>V u (lo+j))):=hid fun u hu=>by
    obtain ⟨X,cc,hR,h1,h2,h3⟩:=HRS.out u hu
    obtain ⟨b,off,e,hb,hcell⟩:=HO.out.rd rfl u hu
    have hc0:=hcell 0 (by omega)
    rw [Nat.mul_one,Nat.add_zero] at hc0
    have hc0:w3.cell? ⟨b,off+u,none⟩=some (R u):=hc0
    rw [hR] at hc0
    subst hm1
    exact ⟨b,off,X,cc,e,hb,hc0,h1,h2,h3.on K2.out,fun j hj=>by
     have hj:j<hi - lo:=hj
     have:=HC.out.lt u hu (lo+j) (by omega)
     show -9223372036854775808<=((V u (lo+j):Nat):Int)/\((V u (lo+j):Nat):Int)<=9223372036854775807
     have:=HC.out.fld.1.2.2.2
     omega⟩
   have HLT:Hid (∀ u,u<i->∀ j,j<m1->V u (lo+j)<P ^ M):=hid fun u hu j hj=>HC.out.lt u hu _ (by omega)
   have hm64:m1<=64:=by omega
   have HMM:=hid hm1
   clear hm1
   go_wp2_with fail
   by_cases hz:m1=0
   ·subst hz
    refine (canon0_any (P:Int) (M:Int) A k c tA i tc _ w3 HMR.out (by omega)).mono ?_
    rintro e w4 ⟨v,rfl,kb⟩
    have K3:=hid (onS HB.out (onS K2.out kb))
    clear kb q0 q1 q2 q3 q4
    go_wp2
    go_ret
    rw [<-HMM.out]
    refine ⟨0,rfl,⟨fun _=>0,fun u j=>V u (lo+j),?_,.refl⟩,K3.out⟩
    exact ⟨Nat.zero_le _,fun u hu j hj=>absurd hj (by omega),fun _ _ _ h=>absurd h (by omega),fun _ h=>absurd h (by omega),fun _ h=>absurd h (by omega),fun _ h=>absurd h (by omega),fun _ h=>absurd h (by omega),fun u _ _ j hj=>absurd hj (by omega)⟩
   ·have h1:=HC.out.on (onS HB.out K2.out)
    refine (zdA P M A k c m tA i tc m1 m1 (fun u j=>V u (lo+j)) w3 h1.fld h1.mod h1.km HMR.out HLT.out (Nat.le_refl _) (by omega) (by omega) (by omega)).mono ?_
    rintro e w4 ⟨lv,pv,a,p,W,rfl,_,hpv,kb,hE,hR⟩
    obtain ⟨pA,pc,rfl⟩:=hpv.shape
    have K3:=hid (onS HB.out (onS K2.out kb))
    have HRK:Hid (RankIs (P ^ M) (addF P M) (mulF P M m) i V lo m1 a):=hid ⟨p,W,hE,hR⟩
    clear kb q0 q1 q2 q3 q4 hpv hE hR h1 hz
    go_wp2
    go_ret
    rw [<-HMM.out]
    exact ⟨a,rfl,HRK.out,K3.out⟩
def RanksTo (q:Nat) (add mul:Nat->Nat->Nat) (n N:Nat) (V:Nat->Nat->Nat) (t:Nat) (ra rb:Nat->Nat):Prop:=∀ i,i<t->RankIs q add mul n V 0 i (ra i)/\RankIs q add mul n V i (N - i) (rb i)
theorem RankIs.le {q:Nat} {add mul:Nat->Nat->Nat} {n:Nat} {V:Nat->Nat->Nat} {lo m a:Nat} (h:RankIs q add mul n V lo m a):a<=n:=by
 obtain ⟨p,W,hE,_⟩:=h
 exact hE.le
def ProfPost (q:Nat) (add mul:Nat->Nat->Nat) (n N:Nat) (V:Nat->Nat->Nat) (w:World) (e:Ending) (w':World):Prop :=
 ∃ g ra rb,e=.returned (.slice (some ⟨g,0,none⟩) (N+1) (N+1))/\w.heap.size<=g/\w'.rowIs g 3 (N+1) (fun i=>.int .i64 (((ra i+rb i:Nat):Int) - (n:Nat)))/\RanksTo q add mul n N V (N+1) ra rb/\Below w.heap.size w w'
theorem prof47_any (P M:Nat) (m:Nat->Nat) (A:Option Addr) (k c N:Nat) (T:Option Addr) (n d:Nat) (V:Nat->Nat->Nat) (w:World) (h:CodeR w P M m A k N T n V) :
  Calls Tryz.prog 45 #[.agg #[.int .i64 (P:Nat),.int .i64 (M:Nat),.slice A k c,.int .i64 (N:Nat),.slice T n d]] w (ProfPost (P ^ M) (addF P M) (mulF P M m) n N V w):=by
 have HC:=hid h
 have hN64:=h.ln2
 have hnN:=h.n_le
 clear h
 have rf:=zam (w:=w) (a:=.int .i64 (P:Nat)) (b:=.int .i64 (M:Nat)) (c:=.slice A k c) (d:=.int .i64 (N:Nat)) (e:=.slice T n d) (T := 27)
 have hB:Below w.heap.size w (w.alloc (.cells #[.int .i64 (P:Nat),.int .i64 (M:Nat),.slice A k c,.int .i64 (N:Nat),.slice T n d] 27)):=(Below.refl _ _).alloc (Nat.le_refl _) _
 obtain ⟨w1,hw1⟩:∃ W,W=w.alloc (.cells #[.int .i64 (P:Nat),.int .i64 (M:Nat),.slice A k c,.int .i64 (N:Nat),.slice T n d] 27):=⟨_,rfl⟩
 rw [<-hw1] at hB rf
 have hN1w:wrap64 ((N:Int)+1)=(N:Int)+1:=by unfold wrap64; omega
 have hN1x:IntKind.i64.wrap ((N:Int)+1)=(N:Int)+1:=IntWalk.i64_in _ (by omega)
 have hmk:=fun W=>zaf (P:=Tryz.prog) 22 3 _ 8 Tryz.underlying22 Tryz.infoInt rfl ((N:Int)+1) (by omega) (by omega) (by omega) W
 simp only [show ((N:Int)+1).toNat=N+1 by omega] at hmk
 go_enter Tryz.func45, Tryz.ntmps45
 go_upto_region 1 with fail
 rw [<-hw1]
 clear hw1
 obtain ⟨b0,hb0⟩:∃ b,b=w.heap.size:=⟨_,rfl⟩
 rw [<-hb0] at rf
 rw [<-hb0]
 clear hb0
 have HBOX:Hid (∀ X,Below w1.heap.size w1 X->(X.cell? ⟨b0,0,none⟩=some (.int .i64 (P:Nat))/\X.cell? ⟨b0,1,none⟩=some (.int .i64 (M:Nat))/\X.cell? ⟨b0,2,none⟩=some (.slice A k c)/\X.cell? ⟨b0,3,none⟩=some (.int .i64 (N:Nat))/\X.cell? ⟨b0,4,none⟩=some (.slice T n d))):=hid fun X hx =>
  ⟨(zaa rf hx).cell (i:=0) (by omega),(zaa rf hx).cell (i:=1) (by omega),(zaa rf hx).cell (i:=2) (by omega),(zaa rf hx).cell (i:=3) (by omega),(zaa rf hx).cell (i:=4) (by omega)⟩
 have HB:=hid hB
 have HB0L:Hid (b0<w1.heap.size):=hid rf.lt
 clear hB rf
 obtain ⟨q0,q1,q2,q3,q4⟩:=HBOX.out _ (Below.refl _ _)
 go_upto_region 2 with fail
 clear q0 q1 q2 q3 q4
 have rz:World.rowIs (World.alloc w1 (Obj.cells (madeCells #[Value.int .i64 0] (N+1)) 3)) w1.heap.size 3 (N+1) (fun _=>.int .i64 0):=World.rowIs_made _ (.int .i64 0) (N+1) 3
 have kb:Below w1.heap.size w1 (World.alloc w1 (Obj.cells (madeCells #[Value.int .i64 0] (N+1)) 3)):=(Below.refl _ _).alloc (Nat.le_refl _) _
 obtain ⟨w2,hw2⟩:∃ W,W=World.alloc w1 (Obj.cells (madeCells #[Value.int .i64 0] (N+1)) 3):=⟨_,rfl⟩
 rw [<-hw2] at rz kb ⊢
 obtain ⟨go,hgo⟩:∃ g,g=w1.heap.size:=⟨_,rfl⟩
 have hgoB:w.heap.size<=go:=by rw [hgo]; exact HB.out.size
 have HGO:=hid hgo
 rw [<-hgo] at rz ⊢
 have K2:=hid kb
 clear kb hw2 hgo hmk hN1w hN1x
 go_upto_region 3 with fail
 go_loopg [4] (N+1) (fun gg iv wx=>∃ (i:Nat) (ra rb:Nat->Nat),iv=.int .i64 (i:Nat)/\i<=N+1/\N+1<=i+gg/\Hid (RanksTo (P ^ M) (addF P M) (mulF P M m) n N V i ra rb)/\Hid (wx.rowIs go 3 (N+1) (fun t=>.int .i64 (if t<i then ((ra t+rb t:Nat):Int) - (n:Nat) else 0)))/\Below w1.heap.size w1 wx)
 case atStart=>exact ⟨0,fun _=>0,fun _=>0,rfl,by omega,by omega,hid fun _ h=>absurd h (by omega),rz.congr fun t _=>by rw [if_neg (by omega)],K2.out⟩
 case round =>
  clear rz K2
  obtain ⟨i,ra,rb,rfl,hi,hig,HRK,HROW,hBx⟩:=hrel
  have hi0:(0:Int)<=(i:Int):=by omega
  have K2:=hid hBx
  obtain ⟨w3,hw3⟩:∃ X,X=wr:=⟨_,rfl⟩
  subst hw3
  clear hBx
  by_cases hin:i<=N
  ·have hin':(i:Int)<=(N:Int):=by omega
   obtain ⟨q0,q1,q2,q3,q4⟩:=HBOX.out _ K2.out
   go_upto_region 5 with fail
   clear q0 q1 q2 q3 q4
   refine wp_region_held_drew (S:=fun X=>(X.cell? ⟨b0,0,none⟩=some (.int .i64 (P:Nat))/\X.cell? ⟨b0,1,none⟩=some (.int .i64 (M:Nat))/\X.cell? ⟨b0,2,none⟩=some (.slice A k c)/\X.cell? ⟨b0,3,none⟩=some (.int .i64 (N:Nat))/\X.cell? ⟨b0,4,none⟩=some (.slice T n d))) (by kernel_rfl) (HBOX.out _ (onS K2.out (Below.refl _ _).drew)) (fun hHeld=>?_)
   obtain ⟨w4,hw⟩:∃ W,W=World.drew w3:=⟨_,rfl⟩
   have kb:Below w3.heap.size w3 w4:=by rw [hw]; exact (Below.refl _ _).drew
   rw [<-hw] at hHeld ⊢
   clear hw
   have K3:=hid kb
   clear kb
   refine tkq 0 (h:=tkq 1 (h:=tkq 2 (h:=tkq 3 (h:=tkq 5 (h:=tkq 6 (h:=tkq 7 (h:=tkq 8 (h:=tkq 11 (h:=tkq 12 (h:=tkq 13 (h:=?_)))))))))))
   clear hHeld
   refine rdq 4 (h:=fun K hK=>?_)
   go_simp
   go_wp2_with fail
   refine (rank47_any P M m A k c N T n d V 0 i w4 (HC.out.on (onS HB.out (onS K2.out K3.out))) (Nat.zero_le _) hin).mono ?_
   rintro e w5 ⟨a,rfl,ha,kb⟩
   have HRA:=hid ha
   have han:=ha.le
   replace K3:=hid (onS K3.out kb)
   clear kb ha
   refine bkq hK (HBOX.out _ (onS K2.out K3.out)) (h:=fun hHeld=>?_)
   clear hK K hHeld
   refine rdq 9 (h:=fun K hK=>?_)
   go_simp
   go_wp2_with fail
   refine (rank47_any P M m A k c N T n d V i N w5 (HC.out.on (onS HB.out (onS K2.out K3.out))) hin (Nat.le_refl _)).mono ?_
   rintro e w6 ⟨b,rfl,hb,kb⟩
   have HRB:=hid hb
   have hbn:=hb.le
   replace K3:=hid (onS K3.out kb)
   clear kb hb
   refine bkq hK (HBOX.out _ (onS K2.out K3.out)) (h:=fun hHeld=>?_)
   clear hK K
   have hs1:wrap64 ((a:Int)+(b:Int))=(a:Int)+(b:Int):=by unfold wrap64; omega
   have hs2:IntKind.i64.wrap ((a:Int)+(b:Int))=(a:Int)+(b:Int):=IntWalk.i64_in _ (by omega)
   obtain ⟨z,hz⟩:∃ z:Int,z=((a+b:Nat):Int) - (n:Nat):=⟨_,rfl⟩
   have hs3:wrap64 ((a:Int)+(b:Int) - (n:Int))=z:=by unfold wrap64; omega
   have hs4:IntKind.i64.wrap ((a:Int)+(b:Int) - (n:Int))=z:=by rw [IntWalk.i64_in _ (by omega)]; omega
   have hN1:(i:Int)<((N+1:Nat):Int):=by omega
   have hN2:(i:Int)<(N:Int)+1:=by omega
   have HZ:=hid hz
   clear hz
   refine tkq 10 (h:=tkq 14 (h:=tkq 15 (h:=?_)))
   clear hHeld hs1 hs2 hs3 hs4
   refine rdq 16 (h:=fun K hK=>?_)
   have u0:=(zaa HROW.out K3.out).cell (i:=i) (by omega)
   have u1:=(zaa HROW.out K3.out).frozen i
   go_simp
   clear u0 u1
   have hrow2:=(zaa HROW.out K3.out).set i (.int .i64 z)
   have kb:=(onS K2.out K3.out).setCell (p:=⟨go,i,none⟩) (by show _<=go; rw [HGO.out]; exact Nat.le_refl _) (.int .i64 z)
   have hb0:=HBOX.out _ (onS K2.out K3.out)
   have hne:b0≠go:=by rw [HGO.out]; exact Nat.ne_of_lt HB0L.out
   obtain ⟨a0,a1,a2,a3,a4⟩:=hb0
   replace a0:=zab (p:=⟨go,i,none⟩) (u:=.int .i64 z) a0 hne
   replace a1:=zab (p:=⟨go,i,none⟩) (u:=.int .i64 z) a1 hne
   replace a2:=zab (p:=⟨go,i,none⟩) (u:=.int .i64 z) a2 hne
   replace a3:=zab (p:=⟨go,i,none⟩) (u:=.int .i64 z) a3 hne
   replace a4:=zab (p:=⟨go,i,none⟩) (u:=.int .i64 z) a4 hne
   obtain ⟨w7,hw⟩:∃ W,W=w6.setCell ⟨go,i,none⟩ (.int .i64 z):=⟨_,rfl⟩
   rw [<-hw] at hrow2 kb a0 a1 a2 a3 a4 ⊢
   have HROW2:Hid (w7.rowIs go 3 (N+1) (fun t=>.int .i64 (if t<i+1 then (((if t=i then a else ra t)+(if t=i then b else rb t):Nat):Int) - (n:Nat) else 0))):=hid (hrow2.congr fun t _=>by
    by_cases et:t=i
    ·rw [if_pos et,if_pos (by omega),if_pos et,if_pos et,HZ.out]
    ·have h1:(t<i)↔(t<i+1):=by omega
     rw [if_neg et,if_neg et,if_neg et]
     simp only [h1])
   have HRK2:Hid (RanksTo (P ^ M) (addF P M) (mulF P M m) n N V (i+1) (fun t=>if t=i then a else ra t) (fun t=>if t=i then b else rb t)):=hid fun t ht=>by
    by_cases et:t=i
    ·subst et
     simp only [if_true]
     exact ⟨HRA.out,HRB.out⟩
    ·simp only [if_neg et]
     exact HRK.out t (by omega)
   have K9:=hid kb
   clear hrow2 kb hw hne
   refine bkq hK ⟨a0,a1,a2,a3,a4⟩ (h:=fun hHeld=>?_)
   clear hK K a0 a1 a2 a3 a4
   refine wpAnyH_done (by kernel_rfl) ?_ _
   clear hHeld
   go_wp2
   go_roundg (gk - 1)
   case measure=>omega
   case rel=>exact ⟨i+1,_,_,by go_num,by omega,by omega,HRK2,HROW2,K9.out⟩
  ·have hin':¬ (i:Int)<=(N:Int):=by omega
   obtain rfl:i=N+1:=by omega
   obtain ⟨q0,q1,q2,q3,q4⟩:=HBOX.out _ K2.out
   have HF:Hid (w3.rowIs go 3 (N+1) (fun t=>.int .i64 (((ra t+rb t:Nat):Int) - (n:Nat)))):=hid (HROW.out.congr fun t ht=>by rw [if_pos ht])
   go_wp2
   go_ret
   exact ⟨go,ra,rb,rfl,hgoB,HF.out,HRK.out,onS HB.out K2.out⟩
def cntB (D:Nat->Bool):Nat->Nat
 | 0=>0
 | n+1=>cntB D n+if D n then 1 else 0
theorem cntB_le (D:Nat->Bool):∀ n,cntB D n<=n
 | 0=>Nat.le_refl _
 | n+1=>by
  have:=cntB_le D n
  show cntB D n+(if D n then 1 else 0)<=n+1
  split <;> omega
theorem cntB_congr {D E:Nat->Bool}:∀ n,(∀ s,s<n->D s=E s)->cntB D n=cntB E n
 | 0,_=>rfl
 | n+1,h=>by
  show cntB D n+(if D n then 1 else 0)=cntB E n+if E n then 1 else 0
  rw [cntB_congr n fun s hs=>h s (by omega),h n (by omega)]
theorem cntB_both {A B:Nat->Bool}:∀ n,(∀ s,s<n->A s=true∨B s=true)->cntB A n+cntB B n=cntB (fun s=>A s && B s) n+n
 | 0,_=>rfl
 | n+1,h=>by
  have ih:=cntB_both n fun s hs=>h s (by omega)
  have h1:=h n (by omega)
  show cntB A n+(if A n then 1 else 0)+(cntB B n+if B n then 1 else 0)=cntB (fun s=>A s && B s) n+(if (A n && B n) then 1 else 0)+(n+1)
  cases hA:A n <;> cases hB:B n
  ·rw [hA,hB] at h1; simp at h1
  ·simp; omega
  ·simp; omega
  ·simp; omega
def packB (q:Nat) (D:Nat->Bool) (c:Nat->Nat):Nat->Nat
 | 0=>0
 | n+1=>if D n then packB q D c n*q+c n else packB q D c n
theorem packB_lt {q:Nat} {D:Nat->Bool} {c:Nat->Nat}:∀ n,(∀ s,s<n->c s<q)->packB q D c n<q ^ cntB D n
 | 0,_=>by show 0<q ^ 0; simp
 | n + 1, h => by
  have ih:=packB_lt (D:=D) n fun s hs=>h s (by omega)
  have h1:=h n (by omega)
  show (if D n then packB q D c n*q+c n else packB q D c n)<q ^ (cntB D n+if D n then 1 else 0)
  split
  ·rw [Nat.pow_succ]
   have:=Nat.mul_le_mul_right q (show packB q D c n+1<=q ^ cntB D n from ih)
   rw [Nat.add_mul,Nat.one_mul] at this
   omega
  ·exact ih
theorem packB_inj {q:Nat} {D:Nat->Bool} {c c':Nat->Nat}:∀ n,(∀ s,s<n->c s<q)->(∀ s,s<n->c' s<q)->packB q D c n=packB q D c' n->∀ s,s<n->D s=true->c s=c' s
 | 0,_,_,_,s,hs,_=>absurd hs (by omega)
 | n + 1, h, h', e, s, hs, hD => by
  have e:(if D n then packB q D c n*q+c n else packB q D c n)=if D n then packB q D c' n*q+c' n else packB q D c' n:=e
  have h1:=h n (by omega)
  have h2:=h' n (by omega)
  have ih:=packB_inj (D:=D) (c:=c) (c':=c') n (fun s hs=>h s (by omega)) (fun s hs=>h' s (by omega))
  by_cases hn:D n=true
  ·rw [if_pos hn,if_pos hn] at e
   have e1:c n=c' n:=by
    have:=congrArg (· % q) e
    simp only [Nat.mul_add_mod_self_right,Nat.mod_eq_of_lt h1,Nat.mod_eq_of_lt h2] at this
    exact this
   have e2:packB q D c n=packB q D c' n:=by
    rw [e1] at e
    exact Nat.eq_of_mul_eq_mul_right (show 0<q by omega) (by omega)
   by_cases en:s=n
   ·rw [en]; exact e1
   ·exact ih e2 s (by omega) hD
  ·rw [if_neg hn,if_neg hn] at e
   by_cases en:s=n
   ·rw [en] at hD; exact absurd hD hn
   ·exact ih e s (by omega) hD
theorem packB_congr {q:Nat} {D:Nat->Bool} {c c':Nat->Nat}:∀ n,(∀ s,s<n->D s=true->c s=c' s)->packB q D c n=packB q D c' n
 | 0,_=>rfl
 | n+1,h=>by
  show (if D n then packB q D c n*q+c n else packB q D c n)=if D n then packB q D c' n*q+c' n else packB q D c' n
  rw [packB_congr n fun s hs=>h s (by omega)]
  by_cases hn:D n=true
  ·rw [if_pos hn,if_pos hn,h n (by omega) hn]
  ·rw [if_neg hn,if_neg hn]
theorem packB_surj {q:Nat} (hq:0<q) {D:Nat->Bool}:∀ n y,y<q ^ cntB D n->∃ c:Nat->Nat,(∀ s,c s<q)/\(∀ s,D s=false->c s=0)/\packB q D c n=y
 | 0,y,h=>by
  have h:y<q ^ 0:=h
  rw [Nat.pow_zero] at h
  exact ⟨fun _=>0,fun _=>hq,fun _ _=>rfl,by show 0=y; omega⟩
 | n + 1, y, h => by
  have h:y<q ^ (cntB D n+if D n then 1 else 0):=h
  by_cases hn:D n=true
  ·rw [if_pos hn,Nat.pow_succ] at h
   obtain ⟨c,h1,h2,h3⟩:=packB_surj hq (D:=D) n (y / q) (Nat.div_lt_of_lt_mul (by rw [Nat.mul_comm]; exact h))
   refine ⟨fun s=>if s=n then y % q else c s,fun s=>?_,fun s hs=>?_,?_⟩
   ·show (if s=n then y % q else c s)<q
    split
    ·exact Nat.mod_lt _ hq
    ·exact h1 s
   ·show (if s=n then y % q else c s)=0
    rw [if_neg (fun e=>by rw [e,hn] at hs; cases hs)]
    exact h2 s hs
   ·show (if D n then packB q D (fun s=>if s=n then y % q else c s) n*q+(if n=n then y % q else c n) else _)=y
    rw [if_pos hn,if_pos rfl,packB_congr (c':=c) n fun s hs _=>if_neg (by omega),h3]
    exact Nat.div_add_mod' y q
  ·rw [if_neg hn,Nat.add_zero] at h
   obtain ⟨c,h1,h2,h3⟩:=packB_surj hq (D:=D) n y h
   refine ⟨c,h1,h2,?_⟩
   show (if D n then packB q D c n*q+c n else packB q D c n)=y
   rw [if_neg hn]; exact h3
section
variable {q n N:Nat} {add mul:Nat->Nat->Nat}
theorem add_left (hL:FieldLaws q add mul) {x y z:Nat} (hx:x<q) (hy:y<q) (hz:z<q) (h:add x y=add x z):y=z:=by
 obtain ⟨w,hw,e⟩:=hL.neg x hx
 have h2:add w (add x y)=add w (add x z):=by rw [h]
 rw [<-hL.addAssoc w x y hw hx hy,<-hL.addAssoc w x z hw hx hz,hL.addComm w x,e,hL.zeroAdd y hy,hL.zeroAdd z hz] at h2
 exact h2
theorem spE_one (hL:FieldLaws q add mul) {R:Nat->Nat->Nat} {c c':Nat->Nat} {j s:Nat}:∀ n,s<n->(∀ t,t<n->t≠s->mul (c t) (R t j)=mul (c' t) (R t j))->spE add mul R c n j=spE add mul R c' n j->mul (c s) (R s j)=mul (c' s) (R s j)
 | 0,h,_,_=>absurd h (by omega)
 | n + 1, h, ht, e => by
  have e:add (spE add mul R c n j) (mul (c n) (R n j))=add (spE add mul R c' n j) (mul (c' n) (R n j)):=e
  by_cases hn:s=n
  ·subst hn
   have h1:∀ m,m<=s->spE add mul R c m j=spE add mul R c' m j:=by
    intro m
    induction m with
    | zero=>intro _; rfl
    | succ m ih =>
     intro hm
     show add (spE add mul R c m j) (mul (c m) (R m j))=add (spE add mul R c' m j) (mul (c' m) (R m j))
     rw [ih (by omega),ht m (by omega) (by omega)]
   rw [h1 s (Nat.le_refl _)] at e
   exact add_left hL (zcL hL _ _ _) (hL.mulLt _ _) (hL.mulLt _ _) e
  ·rw [ht n (by omega) (by omega),hL.addComm _ (mul (c' n) (R n j)),hL.addComm _ (mul (c' n) (R n j))] at e
   exact spE_one hL n (by omega) (fun t h1 h2=>ht t (by omega) h2) (add_left hL (hL.mulLt _ _) (zcL hL _ _ _) (zcL hL _ _ _) e)
theorem spE_same {R:Nat->Nat->Nat} {c c':Nat->Nat} {j:Nat}:∀ n,(∀ t,t<n->mul (c t) (R t j)=mul (c' t) (R t j))->spE add mul R c n j=spE add mul R c' n j
 | 0,_=>rfl
 | n+1,h=>by
  show add (spE add mul R c n j) (mul (c n) (R n j))=add (spE add mul R c' n j) (mul (c' n) (R n j))
  rw [spE_same n fun t ht=>h t (by omega),h n (by omega)]
theorem mul_right (hL:FieldLaws q add mul) {x y z:Nat} (hx:x<q) (hy:y<q) (hz:z<q) (hz0:z≠0) (h:mul x z=mul y z):x=y:=by
 obtain ⟨v,hv,e⟩:=hL.inv z hz hz0
 have h2:mul (mul x z) v=mul (mul y z) v:=by rw [h]
 rw [hL.mulAssoc x z v hx hz hv,hL.mulAssoc y z v hy hz hv,e,hL.mulOne hx,hL.mulOne hy] at h2
 exact h2
theorem spE_shift {V:Nat->Nat->Nat} {c:Nat->Nat} {lo j:Nat}:∀ n,spE add mul (fun i j=>V i (lo+j)) c n j=spE add mul V c n (lo+j)
 | 0=>rfl
 | n+1=>by
  show add (spE add mul (fun i j=>V i (lo+j)) c n j) (mul (c n) (V n (lo+j)))=add (spE add mul V c n (lo+j)) (mul (c n) (V n (lo+j)))
  rw [spE_shift n]
theorem SameSp.cut {V R:Nat->Nat->Nat} {n' lo m:Nat} (h:SameSp q add mul N n n' V R) (hlm:lo+m<=N):SameSp q add mul m n n' (fun i j=>V i (lo+j)) (fun i j=>R i (lo+j)):=by
 have key:∀ {n n':Nat} {V R:Nat->Nat->Nat},(∀ x,InSp q add mul n N V x->InSp q add mul n' N R x)->∀ x,InSp q add mul n m (fun i j=>V i (lo+j)) x->InSp q add mul n' m (fun i j=>R i (lo+j)) x:=fun {n n' V R} h x ⟨c,hc,hx⟩=>by
  obtain ⟨c2,hc2,hx2⟩:=h (spE add mul V c n) ⟨c,hc,fun _ _=>rfl⟩
  refine ⟨c2,hc2,fun j hj=>?_⟩
  rw [hx j hj,spE_shift,spE_shift,hx2 (lo+j) (by omega)]
 exact fun x=>⟨key (fun x=>(h x).1) x,key (fun x=>(h x).2) x⟩
theorem rank_tri (hL:FieldLaws q add mul) {m a:Nat} {R W:Nat->Nat->Nat} {p:Nat->Nat} {D:Nat->Bool} {κ μ:Nat->Nat} (hR:∀ s,s<n->∀ j,j<m->R s j<q)
  (hE:EchN q a m m a p W) (hS:SameSp q add mul m n a R W)
  (hκ:∀ s,s<n->D s=true->κ s<m/\R s (κ s)≠0) (htri:∀ s t,s<n->t<n->D s=true->t≠s->R t (κ s)=0∨(D t=true/\μ t<μ s)) (hz:∀ s,s<n->D s=false->∀ j,j<m->R s j=0) :
  a=cntB D n:=by
 have hq2:=hL.two
 have hq:0<q:=by omega
 have uniq:∀ c c':Nat->Nat,(∀ s,s<n->c s<q)->(∀ s,s<n->c' s<q)->(∀ j,j<m->spE add mul R c n j=spE add mul R c' n j)->∀ b s,μ s<b->s<n->D s=true->c s=c' s:=fun c c' hc hc' h b=>by
  induction b with
  | zero=>intro s hb; omega
  | succ b ih =>
   intro s hb hs hD
   obtain ⟨k1,k2⟩:=hκ s hs hD
   have e:=spE_one hL (R:=R) (c:=c) (c':=c') (j:=κ s) (s:=s) n hs (fun t ht hne=>by
    rcases htri s t hs ht hD hne with e | ⟨e1,e2⟩
    ·rw [e,hL.mulZero (hc t ht),hL.mulZero (hc' t ht)]
    ·rw [ih t (by omega) ht e1]) (h _ k1)
   exact mul_right hL (hc s hs) (hc' s hs) (hR s hs _ k1) k2 e
 have uniq2:∀ c c':Nat->Nat,(∀ s,s<n->c s<q)->(∀ s,s<n->c' s<q)->(∀ j,j<m->spE add mul R c n j=spE add mul R c' n j)->∀ s,s<n->D s=true->c s=c' s:=fun c c' hc hc' h s hs hD=>uniq c c' hc hc' h (μ s+1) s (by omega) hs hD
 have same:∀ c c':Nat->Nat,(∀ s,s<n->c s<q)->(∀ s,s<n->c' s<q)->(∀ s,s<n->D s=true->c s=c' s)->∀ j,j<m->spE add mul R c n j=spE add mul R c' n j:=fun c c' hc hc' h j hj=>spE_same n fun t ht=>by
  cases hD:D t with
  | true=>rw [h t ht hD]
  | false=>rw [hz t ht hD j hj,hL.mulZero (hc t ht),hL.mulZero (hc' t ht)]
 have pw:∀ i,∃ c,(∀ s,s<n->c s<q)/\∀ j,j<m->spE add mul W (msgD q a i) a j=spE add mul R c n j:=fun i=>by
  obtain ⟨c,hc,hx⟩:=(hS (spE add mul W (msgD q a i) a)).2 ⟨msgD q a i,fun _ _=>zeb hq,fun _ _=>rfl⟩
  exact ⟨c,hc,hx⟩
 have le1:q ^ a<=q ^ cntB D n:=by
  refine pigeon (f:=fun i=>packB q D (pw i).choose n) (fun i _=>packB_lt n (pw i).choose_spec.1) fun i k hi hk e=>?_
  have h1:=packB_inj n (pw i).choose_spec.1 (pw k).choose_spec.1 e
  have h2:∀ j,j<m->spE add mul W (msgD q a i) a j=spE add mul W (msgD q a k) a j:=fun j hj=>by
   rw [(pw i).choose_spec.2 j hj,(pw k).choose_spec.2 j hj]
   exact same _ _ (pw i).choose_spec.1 (pw k).choose_spec.1 h1 j hj
  refine zjq hq hi hk fun t ht=>?_
  have h3:=h2 (p (a - 1 - t)) (hE.pvlt _ (by omega))
  rw [hE.spE_pv hL (fun _ _=>zeb hq) (by omega),hE.spE_pv hL (fun _ _=>zeb hq) (by omega)] at h3
  unfold msgD at h3
  rwa [show a - 1 - (a - 1 - t)=t by omega] at h3
 have le2:q ^ cntB D n<=q ^ a:=by
  have sj:∀ y,∃ c:Nat->Nat,(∀ s,c s<q)/\(y<q ^ cntB D n->packB q D c n=y):=fun y=>by
   by_cases hy:y<q ^ cntB D n
   ·obtain ⟨c,h1,_,h3⟩:=packB_surj hq (D:=D) n y hy
    exact ⟨c,h1,fun _=>h3⟩
   ·exact ⟨fun _=>0,fun _=>hq,fun h=>absurd h hy⟩
  refine pigeon (f:=fun y=>code q (fun s=>spE add mul R (sj y).choose n (p s)) a) (fun y _=>zgc fun s _=>zcL hL _ _ _) fun y z hy hz2 e=>?_
  have e1:=ziw (fun s _=>zcL hL _ _ _) (fun s _=>zcL hL _ _ _) e
  have hin:∀ y,InSp q add mul a m W (spE add mul R (sj y).choose n):=fun y=>(hS _).1 ⟨_,fun s _=>(sj y).choose_spec.1 s,fun _ _=>rfl⟩
  have co:∀ y j,j<m->spE add mul R (sj y).choose n j=spE add mul W (fun s=>spE add mul R (sj y).choose n (p s)) a j:=fun y j hj=>(inSp_coef hL hE (fun j _=>zcL hL _ _ _)).1 (hin y) j hj
  have h2:∀ j,j<m->spE add mul R (sj y).choose n j=spE add mul R (sj z).choose n j:=fun j hj=>by
   rw [co y j hj,co z j hj]
   exact zb3 a fun s hs=>⟨e1 s hs,rfl⟩
  have h3:=uniq2 _ _ (fun s _=>(sj y).choose_spec.1 s) (fun s _=>(sj z).choose_spec.1 s) h2
  have h4:=packB_congr (q:=q) (D:=D) n h3
  rw [(sj y).choose_spec.2 hy,(sj z).choose_spec.2 hz2] at h4
  exact h4
 have h1:=(Nat.pow_le_pow_iff_right (show 1<q by omega)).1 le1
 have h2:=(Nat.pow_le_pow_iff_right (show 1<q by omega)).1 le2
 omega
theorem SpanF.ranks (hL:FieldLaws q add mul) {pv:Nat->Nat} {V R:Nat->Nat->Nat} (h:SpanF q n N pv R) (hV:∀ i,i<n->∀ j,j<N->V i j<q) (hS:SameSp q add mul N n n V R) (hd:∀ i j,i<j->j<n->lE (R i) N≠lE (R j) N)
  {i a b:Nat} (hi:i<=N) (ha:RankIs q add mul n V 0 i a) (hb:RankIs q add mul n V i (N - i) b):a+b=cntB (fun s=>decide (pv s<i) && decide ((i:Int)<=lE (R s) N)) n+n:=by
 obtain ⟨p1,W1,hE1,hR1⟩:=ha
 obtain ⟨p2,W2,hE2,hR2⟩:=hb
 have e1:SameSp q add mul i n a (fun s j=>R s (0+j)) W1:=fun x=>((hS.cut (lo:=0) (m:=i) (by omega) x).symm.trans ((RowOps.sp hL (fun s hs j hj=>hV s hs (0+j) (by omega)) hR1).1 x)).trans (EchN.sp_top hL hE1 x)
 have e2:SameSp q add mul (N - i) n b (fun s j=>R s (i+j)) W2:=fun x=>((hS.cut (lo:=i) (m:=N - i) (by omega) x).symm.trans ((RowOps.sp hL (fun s hs j hj=>hV s hs (i+j) (by omega)) hR2).1 x)).trans (EchN.sp_top hL hE2 x)
 have k1:a=cntB (fun s=>decide (pv s<i)) n:=by
  refine rank_tri hL (κ:=pv) (μ:=fun s=>s) (fun s hs j hj=>h.lt s hs (0+j) (by omega)) hE1.top e1 (fun s hs hD=>?_) (fun s t hs ht hD hne=>?_) (fun s hs hD j hj=>?_)
  ·have hD:=of_decide_eq_true hD
   refine ⟨hD,?_⟩
   show R s (0+pv s)≠0
   rw [Nat.zero_add,h.one s hs]
   omega
  ·have hD:=of_decide_eq_true hD
   rcases Nat.lt_or_ge t s with g | g
   ·exact .inr ⟨decide_eq_true (by have:=h.inc t s g hs; omega),g⟩
   ·refine .inl ?_
    show R t (0+pv s)=0
    rw [Nat.zero_add]
    exact h.low t ht _ (h.inc s t (by omega) ht)
  ·have hD:=of_decide_eq_false hD
   show R s (0+j)=0
   rw [Nat.zero_add]
   exact h.low s hs j (by omega)
 have k2:b=cntB (fun s=>decide ((i:Int)<=lE (R s) N)) n:=by
  have hin:=fun s=>lE_in (u:=R s) N
  refine rank_tri hL (κ:=fun s=>(lE (R s) N).toNat - i) (μ:=fun s=>N - (lE (R s) N).toNat) (fun s hs j hj=>h.lt s hs (i+j) (by omega)) hE2.top e2 (fun s hs hD=>?_) (fun s t hs ht hD hne=>?_) (fun s hs hD j hj=>?_)
  ·have hD:=of_decide_eq_true hD
   have h1:=hin s
   have h2:=lE_ne (u:=R s) N (lE (R s) N).toNat (by omega)
   refine ⟨by omega,?_⟩
   show R s (i+((lE (R s) N).toNat - i))≠0
   rw [show i+((lE (R s) N).toNat - i)=(lE (R s) N).toNat by omega]
   exact h2.2
  ·have hD:=of_decide_eq_true hD
   have h1:=hin s
   have h2:=hin t
   show R t (i+((lE (R s) N).toNat - i))=0∨_
   rw [show i+((lE (R s) N).toNat - i)=(lE (R s) N).toNat by omega]
   have hdd:lE (R s) N≠lE (R t) N:=by
    rcases Nat.lt_or_ge s t with g | g
    ·exact hd s t g ht
    ·exact (hd t s (by omega) hs).symm
   by_cases g:lE (R t) N<lE (R s) N
   ·exact .inl (lE_above (n:=N) (by omega) (by omega))
   ·exact .inr ⟨decide_eq_true (by omega),by omega⟩
  ·have hD:=of_decide_eq_false hD
   have h1:=hin s
   show R s (i+j)=0
   exact lE_above (n:=N) (by omega) (by omega)
 rw [k1,k2]
 exact cntB_both n fun s hs=>by
  have h1:=h.pos hs
  by_cases g:pv s<i
  ·exact .inl (decide_eq_true g)
  ·exact .inr (decide_eq_true (by omega))
end
theorem sameF_any (P M:Int) (A B:Option Addr) (k c d:Nat) (f:Nat->Int) (w:World) (ha:IntsR w w.heap.size A k f) (hb:IntsR w w.heap.size B k f) (hk:k<=1048576) :
  Calls Tryz.prog 112 #[.agg #[.int .i64 P,.int .i64 M,.slice A k c],.agg #[.int .i64 P,.int .i64 M,.slice B k d]] w fun e w'=>e=.returned (.bool true)/\Below w.heap.size w w':=by
 have H1:=hid ha
 have H2:=hid hb
 clear ha hb
 have rf:=zad (w:=w) (a:=.int .i64 P) (b:=.int .i64 M) (c:=.slice A k c) (T := 24)
 have hB:Below w.heap.size w (w.alloc (.cells #[.int .i64 P,.int .i64 M,.slice A k c] 24)):=(Below.refl _ _).alloc (Nat.le_refl _) _
 obtain ⟨w1,hw1⟩:∃ W,W=w.alloc (.cells #[.int .i64 P,.int .i64 M,.slice A k c] 24):=⟨_,rfl⟩
 rw [<-hw1] at hB rf
 have rt:=zad (w:=w1) (a:=.int .i64 P) (b:=.int .i64 M) (c:=.slice B k d) (T := 24)
 have kb:Below w1.heap.size w1 (w1.alloc (.cells #[.int .i64 P,.int .i64 M,.slice B k d] 24)):=(Below.refl _ _).alloc (Nat.le_refl _) _
 obtain ⟨w2,hw2⟩:∃ W,W=w1.alloc (.cells #[.int .i64 P,.int .i64 M,.slice B k d] 24):=⟨_,rfl⟩
 rw [<-hw2] at kb rt
 replace rf:=zaa rf kb
 replace hB:=onS hB kb
 have hsz1:w1.heap.size=w.heap.size+1:=by rw [hw1]; simp
 rw [hsz1] at rt
 go_enter Tryz.func112, Tryz.ntmps112
 go_upto_region 1 with fail
 rw [<-hw1,<-hw2]
 clear hw1 hw2 kb hsz1
 obtain ⟨b0,hb0⟩:∃ b,b=w.heap.size:=⟨_,rfl⟩
 obtain ⟨b1,hb1⟩:∃ b,b=w.heap.size+1:=⟨_,rfl⟩
 rw [<-hb0] at rf
 rw [<-hb1] at rt
 rw [<-hb1,<-hb0]
 clear hb0 hb1
 have HBOX:Hid (∀ X,Below w2.heap.size w2 X->(X.cell? ⟨b0,0,none⟩=some (.int .i64 P)/\X.cell? ⟨b0,1,none⟩=some (.int .i64 M)/\X.cell? ⟨b0,2,none⟩=some (.slice A k c))/\X.cell? ⟨b1,0,none⟩=some (.int .i64 P)/\X.cell? ⟨b1,1,none⟩=some (.int .i64 M)/\X.cell? ⟨b1,2,none⟩=some (.slice B k d)):=hid fun X hx =>
  ⟨⟨(zaa rf hx).cell (i:=0) (by omega),(zaa rf hx).cell (i:=1) (by omega),(zaa rf hx).cell (i:=2) (by omega)⟩,(zaa rt hx).cell (i:=0) (by omega),(zaa rt hx).cell (i:=1) (by omega),(zaa rt hx).cell (i:=2) (by omega)⟩
 have HB:=hid hB
 clear hB rf rt
 obtain ⟨⟨q0,q1,q2⟩,p0,p1,p2⟩:=HBOX.out _ (Below.refl _ _)
 have hPP:(P != P)=false:=by simp
 have hMM:(M != M)=false:=by simp
 have hkk:((k:Int) != (k:Int))=false:=by simp
 go_upto_region 4 with fail
 clear q0 q1 q2 p0 p1 p2 hPP hMM hkk
 go_loopg [5] k (fun gg iv wx=>∃ i:Nat,iv=.int .i64 (i:Nat)/\i<=k/\k<=i+gg/\Below w2.heap.size w2 wx)
 case atStart=>exact ⟨0,rfl,by omega,by omega,Below.refl _ _⟩
 case round =>
  obtain ⟨i,rfl,hi,hig,hBx⟩:=hrel
  have hi0:(0:Int)<=(i:Int):=by omega
  have K2:=hid hBx
  obtain ⟨w3,hw3⟩:∃ X,X=wr:=⟨_,rfl⟩
  subst hw3
  clear hBx
  obtain ⟨⟨q0,q1,q2⟩,p0,p1,p2⟩:=HBOX.out _ K2.out
  by_cases hin:i<k
  ·have hin':(i:Int)<(k:Int):=by omega
   obtain ⟨b,o,hAe,_,x0⟩:=(H1.out.on (onS HB.out K2.out)).at hin
   obtain ⟨b',o',hBe,_,y0⟩:=(H2.out.on (onS HB.out K2.out)).at hin
   subst hAe hBe
   obtain ⟨x,hx⟩:∃ x,x=f i:=⟨_,rfl⟩
   rw [<-hx] at x0 y0
   clear hx
   have hxx:(x != x)=false:=by simp
   go_upto_region 6 with fail
   refine wp_region_held_drew (S:=fun X=>X.cell? ⟨b0,2,none⟩=some (.slice (some ⟨b,o,none⟩) k c)/\X.cell? ⟨b1,2,none⟩=some (.slice (some ⟨b',o',none⟩) k d)/\X.cell? ⟨b,o+i,none⟩=some (.int .i64 x)/\X.cell? ⟨b',o'+i,none⟩=some (.int .i64 x)) (by kernel_rfl) ⟨cellS (Below.refl _ _).drew q2,cellS (Below.refl _ _).drew p2,cellS (Below.refl _ _).drew x0,cellS (Below.refl _ _).drew y0⟩ (fun hHeld=>?_)
   obtain ⟨w4,hw⟩:∃ W,W=World.drew w3:=⟨_,rfl⟩
   have kb:Below w3.heap.size w3 w4:=by rw [hw]; exact (Below.refl _ _).drew
   rw [<-hw] at hHeld ⊢
   clear hw q0 q1 q2 p0 p1 p2 x0 y0
   replace K2:=hid (onS K2.out kb)
   clear kb
   refine tkq 0 (h:=tkq 1 (h:=tkq 2 (h:=tkq 3 (h:=tkq 4 (h:=tkq 5 (h:=tkq 6 (h:=tkq 7 (h:=tkq 8 (h:=tkq 9 (h:=tkq 10 (h:=?_)))))))))))
   refine wpAnyH_done (by kernel_rfl) ?_ _
   clear hHeld
   go_wp2
   go_roundg (gk - 1)
   case measure=>omega
   case rel=>exact ⟨i+1,by go_num,by omega,by omega,K2.out⟩
  ·have hin':¬ (i:Int)<(k:Int):=by omega
   obtain rfl:i=k:=by omega
   go_wp2
   go_ret
   exact ⟨rfl,onS HB.out K2.out⟩
theorem sameC_any (P M N:Int) (A B:Option Addr) (k c d:Nat) (f:Nat->Int) (S T:Option Addr) (n n' sc tc:Nat) (ln ln':Nat->Nat) (V W:Nat->Nat->Int) (w:World) (ha:IntsR w w.heap.size A k f) (hb:IntsR w w.heap.size B k f) (hk:k<=1048576)
  (hV:IntRows w S n ln V) (hW:IntRows w T n' ln' W) (hn:n<=1048576) (hn':n'<=1048576) (hE:EqT n n' ln ln' V W) :
  Calls Tryz.prog 43 #[.agg #[.int .i64 P,.int .i64 M,.slice A k c,.int .i64 N,.slice S n sc],.agg #[.int .i64 P,.int .i64 M,.slice B k d,.int .i64 N,.slice T n' tc]] w fun e w'=>e=.returned (.bool true)/\Below w.heap.size w w':=by
 have H1:=hid ha
 have H2:=hid hb
 have HV:=hid hV
 have HW:=hid hW
 have HE:=hid hE
 clear ha hb hV hW hE
 have rf:=zam (w:=w) (a:=.int .i64 P) (b:=.int .i64 M) (c:=.slice A k c) (d:=.int .i64 N) (e:=.slice S n sc) (T := 27)
 have hB:Below w.heap.size w (w.alloc (.cells #[.int .i64 P,.int .i64 M,.slice A k c,.int .i64 N,.slice S n sc] 27)):=(Below.refl _ _).alloc (Nat.le_refl _) _
 obtain ⟨w1,hw1⟩:∃ X,X=w.alloc (.cells #[.int .i64 P,.int .i64 M,.slice A k c,.int .i64 N,.slice S n sc] 27):=⟨_,rfl⟩
 rw [<-hw1] at hB rf
 have rt:=zam (w:=w1) (a:=.int .i64 P) (b:=.int .i64 M) (c:=.slice B k d) (d:=.int .i64 N) (e:=.slice T n' tc) (T := 27)
 have kb:Below w1.heap.size w1 (w1.alloc (.cells #[.int .i64 P,.int .i64 M,.slice B k d,.int .i64 N,.slice T n' tc] 27)):=(Below.refl _ _).alloc (Nat.le_refl _) _
 obtain ⟨w2,hw2⟩:∃ X,X=w1.alloc (.cells #[.int .i64 P,.int .i64 M,.slice B k d,.int .i64 N,.slice T n' tc] 27):=⟨_,rfl⟩
 rw [<-hw2] at kb rt
 replace rf:=zaa rf kb
 replace hB:=onS hB kb
 have hsz1:w1.heap.size=w.heap.size+1:=by rw [hw1]; simp
 rw [hsz1] at rt
 go_enter Tryz.func43, Tryz.ntmps43
 go_upto_region 1 with fail
 rw [<-hw1,<-hw2]
 clear hw1 hw2 kb hsz1
 obtain ⟨b0,hb0⟩:∃ b,b=w.heap.size:=⟨_,rfl⟩
 obtain ⟨b1,hb1⟩:∃ b,b=w.heap.size+1:=⟨_,rfl⟩
 rw [<-hb0] at rf
 rw [<-hb1] at rt
 rw [<-hb1,<-hb0]
 clear hb0 hb1
 have HBOX:Hid (∀ X,Below w2.heap.size w2 X->(X.cell? ⟨b0,0,none⟩=some (.int .i64 P)/\X.cell? ⟨b0,1,none⟩=some (.int .i64 M)/\X.cell? ⟨b0,2,none⟩=some (.slice A k c)/\X.cell? ⟨b0,3,none⟩=some (.int .i64 N)/\X.cell? ⟨b0,4,none⟩=some (.slice S n sc))/\X.cell? ⟨b1,0,none⟩=some (.int .i64 P)/\X.cell? ⟨b1,1,none⟩=some (.int .i64 M)/\X.cell? ⟨b1,2,none⟩=some (.slice B k d)/\X.cell? ⟨b1,3,none⟩=some (.int .i64 N)/\X.cell? ⟨b1,4,none⟩=some (.slice T n' tc)):=hid fun X hx =>
  ⟨⟨(zaa rf hx).cell (i:=0) (by omega),(zaa rf hx).cell (i:=1) (by omega),(zaa rf hx).cell (i:=2) (by omega),(zaa rf hx).cell (i:=3) (by omega),(zaa rf hx).cell (i:=4) (by omega)⟩,(zaa rt hx).cell (i:=0) (by omega),(zaa rt hx).cell (i:=1) (by omega),(zaa rt hx).cell (i:=2) (by omega),(zaa rt hx).cell (i:=3) (by omega),(zaa rt hx).cell (i:=4) (by omega)⟩
 have HB:=hid hB
 clear hB rf rt
 obtain ⟨⟨q0,q1,q2,_,_⟩,p0,p1,p2,_,_⟩:=HBOX.out _ (Below.refl _ _)
 go_wp2_with fail
 refine (sameF_any P M A B k c d f w2 (H1.out.on HB.out) (H2.out.on HB.out) hk).mono ?_
 rintro e w3 ⟨rfl,kb⟩
 have K2:=hid kb
 clear kb q0 q1 q2 p0 p1 p2
 obtain ⟨⟨_,_,_,q3,q4⟩,_,_,_,p3,p4⟩:=HBOX.out _ K2.out
 have hNN:(N == N)=true:=by simp
 go_wp2_with fail
 refine (zeG S T n n' sc tc ln ln' V W w3 (IntRows.on HV.out (onS HB.out K2.out)) (IntRows.on HW.out (onS HB.out K2.out)) (by omega) (by omega)).mono ?_
 rintro e w4 ⟨v,rfl,hv,kb⟩
 obtain rfl:v=true:=hv.2 HE.out
 replace K2:=hid (onS K2.out kb)
 clear kb hv hNN q3 q4 p3 p4
 go_wp2
 go_ret
 exact ⟨rfl,onS HB.out K2.out⟩
theorem same11eq_any (A B:Option Addr) (n c d:Nat) (f:Nat->Int) (w:World) (ha:IntsR w w.heap.size A n f) (hb:IntsR w w.heap.size B n f) (hn:n<=1048576) :
  Calls Tryz.prog 44 #[.slice A n c,.slice B n d] w fun e w'=>e=.returned (.bool true)/\Below w.heap.size w w':=by
 have H1:=hid ha
 have H2:=hid hb
 clear ha hb
 go_enter Tryz.func44, Tryz.ntmps44
 go_wp2_with fail
 refine (zeZ A B n c d f w H1.out H2.out hn).mono ?_
 rintro e w1 ⟨rfl,kb⟩
 have HB:=hid kb
 clear kb
 go_wp2
 go_ret
 exact ⟨rfl,HB.out⟩
section
variable {u:Nat->Nat}
theorem supL_nil:∀ n,(∀ j,j<n->u j=0)->supL (fun j=>((u j:Nat):Int)) n=[]
 | 0,_=>rfl
 | n+1,h=>by
  rw [supL_succ,supL_nil n fun j hj=>h j (by omega),if_pos (by rw [h n (by omega)]; rfl)]
  rfl
theorem supL_first {p:Nat} (hp:u p≠0) (h0:∀ j,j<p->u j=0):∀ n,p<n->0<(supL (fun j=>((u j:Nat):Int)) n).length/\(supL (fun j=>((u j:Nat):Int)) n).getD 0 0=(p:Int)
 | 0,h=>absurd h (by omega)
 | n + 1, h => by
  by_cases e:p=n
  ·subst e
   rw [supL_succ,supL_nil p h0,if_neg (by omega)]
   exact ⟨by simp,by simp⟩
  ·obtain ⟨h1,h2⟩:=supL_first hp h0 n (by omega)
   rw [supL_succ]
   refine ⟨by rw [List.length_append]; omega,?_⟩
   rw [List.getD_eq_getElem?_getD,List.getElem?_append_left h1,<-List.getD_eq_getElem?_getD]
   exact h2
theorem supL_last {t:Nat}:∀ n,lE u n=(t:Int)->0<(supL (fun j=>((u j:Nat):Int)) n).length/\(supL (fun j=>((u j:Nat):Int)) n).getD ((supL (fun j=>((u j:Nat):Int)) n).length - 1) 0=(t:Int)
 | 0,h=>by
  have h:(-1:Int)=t:=h
  omega
 | n + 1, h => by
  have h:(if u n=0 then lE u n else (n:Int))=t:=h
  rw [supL_succ]
  by_cases e:u n=0
  ·rw [if_pos e] at h
   rw [if_pos (by rw [e]; rfl),List.append_nil]
   exact supL_last n h
  ·rw [if_neg e] at h
   rw [if_neg (by omega),List.length_append]
   refine ⟨by simp,?_⟩
   rw [show (supL (fun j=>((u j:Nat):Int)) n).length+[(n:Int)].length - 1=(supL (fun j=>((u j:Nat):Int)) n).length by simp]
   rw [List.getD_eq_getElem?_getD]
   simp
   omega
end
def endB (R:Nat->Nat->Nat) (N:Nat):Nat->Nat->Bool
 | 0,_=>false
 | k+1,t=>endB R N k t || decide (lE (R k) N=(t:Int))
theorem endB_false {R:Nat->Nat->Nat} {N t:Nat}:∀ k,(∀ i,i<k->lE (R i) N≠(t:Int))->endB R N k t=false
 | 0,_=>rfl
 | k+1,h=>by
  show (endB R N k t || decide (lE (R k) N=(t:Int)))=false
  rw [endB_false k fun i hi=>h i (by omega),decide_eq_false (h k (by omega))]
  rfl
theorem wrapS (p:Nat) (h:p<=1048576):IntKind.i64.wrap ((p:Int)+1)=((p+1:Nat):Int):=by rw [IntWalk.i64_in _ (by omega)]; rfl
theorem wrapS64 (p:Nat) (h:p<=1048576):wrap64 ((p:Int)+1)=((p+1:Nat):Int):=by unfold wrap64; omega
def actB (pv:Nat->Nat) (R:Nat->Nat->Nat) (N t s:Nat):Bool:=decide (pv s<t) && decide ((t:Int)<=lE (R s) N)
theorem trellisSpans_any (P M:Int) (A:Option Addr) (k c:Nat) (f:Nat->Int) (N:Int) (TC:Option Addr) (n d:Nat) (ln:Nat->Nat) (V:Nat->Nat->Int) (w:World) (hr:IntsR w w.heap.size A k f) (h:IntRows w TC n ln V) :
  Calls Tryz.prog 7 #[.agg #[.int .i64 P,.int .i64 M,.slice A k c,.int .i64 N,.slice TC n d]] w fun e w'=>e=.returned (.bool true)/\Below w.heap.size w w':=by
 have HI:=hid hr
 have HT:=hid h
 clear hr h
 have rf:=zam (w:=w) (a:=.int .i64 P) (b:=.int .i64 M) (c:=.slice A k c) (d:=.int .i64 N) (e:=.slice TC n d) (T := 27)
 have hB:Below w.heap.size w (w.alloc (.cells #[.int .i64 P,.int .i64 M,.slice A k c,.int .i64 N,.slice TC n d] 27)):=(Below.refl _ _).alloc (Nat.le_refl _) _
 obtain ⟨w1,hw1⟩:∃ W,W=w.alloc (.cells #[.int .i64 P,.int .i64 M,.slice A k c,.int .i64 N,.slice TC n d] 27):=⟨_,rfl⟩
 rw [<-hw1] at hB rf
 go_enter Tryz.func7, Tryz.ntmps7
 go_upto_region 1 with fail
 rw [<-hw1]
 clear hw1
 obtain ⟨b0,hb0⟩:∃ b,b=w.heap.size:=⟨_,rfl⟩
 rw [<-hb0] at rf
 rw [<-hb0]
 clear hb0
 have HBOX:Hid (∀ X,Below w1.heap.size w1 X->(X.cell? ⟨b0,0,none⟩=some (.int .i64 P)/\X.cell? ⟨b0,1,none⟩=some (.int .i64 M)/\X.cell? ⟨b0,2,none⟩=some (.slice A k c)/\X.cell? ⟨b0,3,none⟩=some (.int .i64 N)/\X.cell? ⟨b0,4,none⟩=some (.slice TC n d))):=hid fun X hx =>
  ⟨(zaa rf hx).cell (i:=0) (by omega),(zaa rf hx).cell (i:=1) (by omega),(zaa rf hx).cell (i:=2) (by omega),(zaa rf hx).cell (i:=3) (by omega),(zaa rf hx).cell (i:=4) (by omega)⟩
 have HB:=hid hB
 have HB0L:Hid (b0<w1.heap.size):=hid rf.lt
 clear hB rf
 obtain ⟨q0,q1,q2,q3,q4⟩:=HBOX.out _ (Below.refl _ _)
 go_wp2_with fail
 refine (spans_any P M A k c f N TC n d ln V w1 (HI.out.on HB.out) (HT.out.on HB.out)).mono ?_
 rintro e w2 ⟨kb,u,hu,he⟩
 have HU:=hid hu
 have KB:=hid kb
 clear kb hu q0 q1 q2 q3 q4
 have hform:∃ (SA:Option Addr) (sn sc:Nat) (ev:Int),e=.returned (.tuple #[.slice SA sn sc,.int .i64 ev]):=by
  rcases he with ⟨_,h⟩ | ⟨_,P',M',N',_,_,_,g,F,pv,R,h,_⟩
  ·exact ⟨_,_,_,_,h⟩
  ·exact ⟨_,_,_,_,h⟩
 obtain ⟨SA,sn,sc,ev,rfl⟩:=hform
 have HE:=hid he
 clear he
 obtain ⟨q0,q1,q2,q3,q4⟩:=HBOX.out _ KB.out
 go_wp2_with fail
 refine (zdc P M A k c f N TC n d ln V w2 (HI.out.on (onS HB.out KB.out)) (HT.out.on (onS HB.out KB.out))).mono ?_
 rintro e w3 ⟨v,rfl,hv,kb⟩
 obtain rfl:u=v:=FirstErr.unique HU.out hv
 have K3:=hid kb
 replace KB:=hid (onS KB.out kb)
 clear kb hv q0 q1 q2 q3 q4
 rcases HE.out with ⟨hu0,he⟩ | ⟨hu0,P',M',N',rfl,rfl,rfl,g,F,pv,R,he,hg,hTB,hSF,hSP,hD⟩
 ·have hnz2:(u != 0)=true:=by simpa using hu0
  have huu:(u != u)=false:=by simp
  have he2:(SA=none/\sn=0/\sc=0)/\ev=u:=by simpa using he
  obtain ⟨⟨rfl,rfl,rfl⟩,rfl⟩:=he2
  clear he HE hu0
  go_wp2_with fail
  refine (alive47_any _).mono ?_
  rintro e w4 ⟨rfl,kb⟩
  replace KB:=hid (onS KB.out kb)
  clear kb
  go_wp2
  go_ret
  exact ⟨rfl,onS HB.out KB.out⟩
 subst hu0
 have he2:(SA=some ⟨g,0,none⟩/\sn=n/\sc=n)/\ev=0:=by simpa using he
 obtain ⟨⟨rfl,hsn,hsc⟩,rfl⟩:=he2
 have hsn:=hsn.symm
 have hsc:=hsc.symm
 subst hsn
 subst hsc
 obtain ⟨P2,M2,N2,e1,e2,e3,hC⟩:=zbP HI.out HT.out HU.out
 obtain rfl:P'=P2:=by omega
 obtain rfl:M'=M2:=by omega
 obtain rfl:N'=N2:=by omega
 have HC:=hid hC
 have hN64:=hC.ln2
 have hnN:=hC.n_le
 have HTB:=hid (hTB.on K3.out)
 have HSF:=hid hSF
 have HSP:=hid hSP
 have HDI:=hid hD
 clear he HE hTB hSF hSP hD hC e1 e2 e3 hg
 go_wp2_with fail
 refine (alive47_any _).mono ?_
 rintro e w4 ⟨rfl,kb⟩
 replace KB:=hid (onS KB.out kb)
 replace HTB:=hid (HTB.out.on kb)
 clear kb K3
 have hN1w:wrap64 ((N':Int)+1)=(N':Int)+1:=by unfold wrap64; omega
 have hN1x:IntKind.i64.wrap ((N':Int)+1)=(N':Int)+1:=IntWalk.i64_in _ (by omega)
 have hmk:=fun W=>zaf (P:=Tryz.prog) 22 3 _ 8 Tryz.underlying22 Tryz.infoInt rfl ((N':Int)+1) (by omega) (by omega) (by omega) W
 simp only [show ((N':Int)+1).toNat=N'+1 by omega] at hmk
 have hmk2:=fun W=>zaf (P:=Tryz.prog) 66 4 _ 1 Tryz.underlying66 Tryz.infoBool rfl (N':Int) (by omega) (by omega) (by omega) W
 simp only [Int.toNat_natCast] at hmk2
 obtain ⟨q0,q1,q2,q3,q4⟩:=HBOX.out _ KB.out
 go_upto_region 8 with fail
 clear q0 q1 q2 q3 q4
 have ra:=World.rowIs_made w4 (.int .i64 0) (N'+1) 3
 have kb:Below w4.heap.size w4 (World.alloc w4 (Obj.cells (madeCells #[Value.int .i64 0] (N'+1)) 3)):=(Below.refl _ _).alloc (Nat.le_refl _) _
 have hs5:(World.alloc w4 (Obj.cells (madeCells #[Value.int .i64 0] (N'+1)) 3)).heap.size=w4.heap.size+1:=by simp
 obtain ⟨w5,hw5⟩:∃ W,W=World.alloc w4 (Obj.cells (madeCells #[Value.int .i64 0] (N'+1)) 3):=⟨_,rfl⟩
 rw [<-hw5] at ra kb hs5 ⊢
 clear hw5
 obtain ⟨q0,q1,q2,q3,q4⟩:=HBOX.out _ (onS KB.out kb)
 go_upto_region 9 with fail
 clear q0 q1 q2 q3 q4
 have re:=World.rowIs_made w5 (.bool false) N' 4
 have kb2:Below w5.heap.size w5 (World.alloc w5 (Obj.cells (madeCells #[Value.bool false] N') 4)):=(Below.refl _ _).alloc (Nat.le_refl _) _
 have hs6:(World.alloc w5 (Obj.cells (madeCells #[Value.bool false] N') 4)).heap.size=w5.heap.size+1:=by simp
 obtain ⟨w6,hw6⟩:∃ W,W=World.alloc w5 (Obj.cells (madeCells #[Value.bool false] N') 4):=⟨_,rfl⟩
 rw [<-hw6] at re kb2 hs6 ⊢
 clear hw6
 rw [hs5] at re hs6
 have K6:=hid (onS kb kb2)
 replace ra:=zaa ra kb2
 obtain ⟨ga,hga⟩:∃ x,x=w4.heap.size:=⟨_,rfl⟩
 have HGA:=hid hga
 rw [<-hga]
 rw [<-hga] at ra re hs6
 have HRA:Hid (w6.rowIs ga 3 (N'+1) (fun t=>.int .i64 (cntB (actB pv R N' t) 0:Nat))):=hid (ra.congr fun _ _=>rfl)
 have HRE:Hid (w6.rowIs (ga+1) 4 N' (fun t=>.bool (endB R N' 0 t))):=hid (re.congr fun _ _=>rfl)
 have hsz6:ga+2<=w6.heap.size:=by omega
 clear ra re kb kb2 hs5 hs6 hmk hmk2 hN1w hN1x hga
 go_upto_region 11 with fail
 go_loopg [8,9] n (fun gg lv iv wx=>∃ kk:Nat,iv=.int .i64 (kk:Nat)/\lv=.int .i64 (if kk=0 then -1 else ((pv (kk - 1):Nat):Int))/\kk<=n/\n<=kk+gg/\Hid (wx.rowIs ga 3 (N'+1) (fun t=>.int .i64 (cntB (actB pv R N' t) kk:Nat)))/\Hid (wx.rowIs (ga+1) 4 N' (fun t=>.bool (endB R N' kk t)))/\ga+2<=wx.heap.size/\Below w4.heap.size w4 wx)
 case atStart=>exact ⟨0,rfl,rfl,by omega,by omega,HRA,HRE,hsz6,K6.out⟩
 case round =>
  clear HRA HRE K6 hsz6
  obtain ⟨kk,rfl,rfl,hkn,hkg,HRA,HRE,hsz,hBx⟩:=hrel
  have hk0:(0:Int)<=(kk:Int):=by omega
  have K6:=hid hBx
  obtain ⟨w7,hw7⟩:∃ X,X=wr:=⟨_,rfl⟩
  subst hw7
  clear hBx
  obtain ⟨lv,hlv⟩:∃ l:Int,l=if kk=0 then -1 else ((pv (kk - 1):Nat):Int):=⟨_,rfl⟩
  rw [<-hlv]
  by_cases hlt:kk<n
  ·have hlt':(kk:Int)<(n:Int):=by omega
   have hlp:lv<((pv kk:Nat):Int):=by
    rw [hlv]
    split
    ·omega
    ·have:=HSF.out.inc (kk - 1) kk (by omega) hlt
     omega
   clear hlv
   obtain ⟨rb,ro,rd,hF,hrb,_,_,_⟩:=(HTB.out.on K6.out).at (v:=kk) hlt (k:=pv kk) (HSF.out.pvlt kk hlt)
   have hown:=HTB.out.own kk hlt
   rw [hF] at hown
   have HRW:Hid (IntsR w4 w4.heap.size (some ⟨rb,ro,none⟩) N' (fun j=>((R kk j:Nat):Int))):=hid (hown.rd rfl)
   have c0:=HTB.out.row.cell hlt
   rw [hF] at c0
   have HS:Hid (∀ X,Below w4.heap.size w4 X->(X.cell? ⟨b0,0,none⟩=some (.int .i64 (P':Nat))/\X.cell? ⟨b0,1,none⟩=some (.int .i64 (M':Nat))/\X.cell? ⟨b0,2,none⟩=some (.slice A k c)/\X.cell? ⟨b0,3,none⟩=some (.int .i64 (N':Nat))/\X.cell? ⟨b0,4,none⟩=some (.slice TC n d))/\X.cell? ⟨g,kk,none⟩=some (.slice (some ⟨rb,ro,none⟩) N' rd)):=hid fun X hx=>⟨HBOX.out X (onS KB.out hx),cellS hx c0⟩
   clear c0 hown hF
   have hq:∀ j,j<N'->0<=((R kk j:Nat):Int)/\((R kk j:Nat):Int)<((P' ^ M':Nat):Int):=fun j hj=>by
    have:=HSF.out.lt kk hlt j hj
    omega
   have HQ:=hid hq
   clear hq
   go_upto_region 13 with fail
   refine wp_region_held_drew (S:=fun X=>(X.cell? ⟨b0,0,none⟩=some (.int .i64 (P':Nat))/\X.cell? ⟨b0,1,none⟩=some (.int .i64 (M':Nat))/\X.cell? ⟨b0,2,none⟩=some (.slice A k c)/\X.cell? ⟨b0,3,none⟩=some (.int .i64 (N':Nat))/\X.cell? ⟨b0,4,none⟩=some (.slice TC n d))/\X.cell? ⟨g,kk,none⟩=some (.slice (some ⟨rb,ro,none⟩) N' rd)) (by kernel_rfl) (HS.out _ (onS K6.out (Below.refl _ _).drew)) (fun hHeld=>?_)
   obtain ⟨w8,hw⟩:∃ W,W=World.drew w7:=⟨_,rfl⟩
   have kb:Below w7.heap.size w7 w8:=by rw [hw]; exact (Below.refl _ _).drew
   rw [<-hw] at hHeld ⊢
   clear hw
   have K8:=hid kb
   clear kb
   refine tkq 0 (h:=tkq 1 (h:=tkq 2 (h:=tkq 3 (h:=tkq 4 (h:=tkq 5 (h:=tkq 6 (h:=tkq 7 (h:=?_))))))))
   clear hHeld
   refine rdq 8 (h:=fun K hK=>?_)
   go_simp
   go_wp2_with fail
   refine (list12_any P' M' A k c (some ⟨rb,ro,none⟩) N' rd N' (fun j=>((R kk j:Nat):Int)) w8 HC.out.fld.1 (HRW.out.on (onS K6.out K8.out)) (by omega)).mono ?_
   rintro e w9 ⟨v,rfl,hv,kb⟩
   obtain rfl:v=0:=FirstErr.zero_all (fun x hx=>by
    simp only [WordErrs,List.mem_cons,List.mem_nil_iff,or_false] at hx
    rcases hx with rfl | rfl
    ·exact trivial
    ·exact fun j hj=>HQ.out j hj) hv
   replace K8:=hid (onS K8.out kb)
   clear kb hv
   refine bkq hK (HS.out _ (onS K6.out K8.out)) (h:=fun hHeld=>?_)
   clear hK K
   refine tkq 9 (h:=?_)
   refine wpAnyH_done (by kernel_rfl) ?_ _
   clear hHeld
   have hne:((0:Int) != 0)=false:=by simp
   go_upto_region 15 with fail
   clear hne
   refine wp_region_held_drew (S:=fun X=>(X.cell? ⟨b0,0,none⟩=some (.int .i64 (P':Nat))/\X.cell? ⟨b0,1,none⟩=some (.int .i64 (M':Nat))/\X.cell? ⟨b0,2,none⟩=some (.slice A k c)/\X.cell? ⟨b0,3,none⟩=some (.int .i64 (N':Nat))/\X.cell? ⟨b0,4,none⟩=some (.slice TC n d))/\X.cell? ⟨g,kk,none⟩=some (.slice (some ⟨rb,ro,none⟩) N' rd)) (by kernel_rfl) (HS.out _ (onS K6.out (onS K8.out (Below.refl _ _).drew))) (fun hHeld=>?_)
   obtain ⟨w10,hw⟩:∃ W,W=World.drew w9:=⟨_,rfl⟩
   have kb:Below w9.heap.size w9 w10:=by rw [hw]; exact (Below.refl _ _).drew
   rw [<-hw] at hHeld ⊢
   clear hw
   replace K8:=hid (onS K8.out kb)
   clear kb
   refine tkq 0 (h:=tkq 1 (h:=tkq 2 (h:=tkq 3 (h:=tkq 4 (h:=tkq 5 (h:=?_))))))
   clear hHeld
   refine rdq 6 (h:=fun K hK=>?_)
   go_simp
   go_wp2_with fail
   refine (support11_any P' M' A k c (some ⟨rb,ro,none⟩) N' rd (fun j=>((R kk j:Nat):Int)) w10 HC.out.fld.1 (HRW.out.on (onS K6.out K8.out)) (by omega) HQ.out).mono ?_
   rintro e w11 ⟨sv,rfl,hO,kb⟩
   refine bkq hK (HS.out _ (onS K6.out (onS K8.out kb))) (h:=fun hHeld=>?_)
   clear hK K
   refine tkq 7 (h:=?_)
   refine wpAnyH_done (by kernel_rfl) ?_ _
   clear hHeld
   have hsz10:ga+2<=w10.heap.size:=Nat.le_trans hsz K8.out.size
   replace K8:=hid (onS K8.out kb)
   clear kb
   obtain ⟨L,hLd⟩:∃ L,L=(supL (fun j=>((R kk j:Nat):Int)) N').length:=⟨_,rfl⟩
   obtain ⟨t,ht⟩:∃ t:Nat,lE (R kk) N'=(t:Int):=⟨(lE (R kk) N').toNat,by have:=HSF.out.pos hlt; omega⟩
   have htN:=(lE_ne N' t ht).1
   have hpt:pv kk<=t:=by have:=HSF.out.pos hlt; omega
   obtain ⟨hL1,hfst⟩:=supL_first (u:=R kk) (p:=pv kk) (by rw [HSF.out.one kk hlt]; omega) (HSF.out.low kk hlt) N' (HSF.out.pvlt kk hlt)
   obtain ⟨_,hlst⟩:=supL_last (u:=R kk) (t:=t) N' ht
   rw [<-hLd] at hL1 hlst
   have hLN:L<=N':=by rw [hLd,supL_len]; exact zif _ _ _
   obtain ⟨sA,sc,rfl⟩:=Own.shape hO
   rw [<-hLd]
   have hrd:=(show IntsR w11 w11.heap.size sA (supL (fun j=>((R kk j:Nat):Int)) N').length (fun j=>(supL (fun j=>((R kk j:Nat):Int)) N').getD j 0) from Own.rd hO rfl)
   rw [<-hLd] at hrd
   obtain ⟨sb,so,hsA,hsbl,x0⟩:=hrd.at (i:=0) hL1
   subst hsA
   obtain ⟨L1,hL1d⟩:∃ x,x=L - 1:=⟨_,rfl⟩
   have xl:=IntsR.here hrd (i:=L1) (by omega)
   rw [hfst,Nat.add_zero] at x0
   rw [<-hL1d] at hlst
   rw [hlst] at xl
   have hsb:w10.heap.size<=sb:=(Own.lt hO sb rfl).1
   obtain ⟨p,hp⟩:∃ p,p=pv kk:=⟨_,rfl⟩
   rw [<-hp] at hlp hpt x0
   have hone:=HSF.out.one kk hlt
   have hpN:=HSF.out.pvlt kk hlt
   rw [<-hp] at hone hpN
   have HPP:=hid hp
   have HTT:=hid ht
   have x1:=((HRW.out.on (onS K6.out K8.out))).here hpN
   rw [hone] at x1
   have x1:w11.cell? ⟨rb,ro+p,none⟩=some (.int .i64 1):=x1
   have HRE2:=zaa HRE.out K8.out
   have xe:=HRE2.cell (i:=t) htN
   rw [endB_false kk (fun i hi=>by rw [<-ht]; exact HDI.out i kk hi hlt)] at xe
   have xg:=(HS.out _ (onS K6.out K8.out)).2
   have hLz:((L:Int) == 0)=false:=by simp; omega
   have hle:decide ((p:Int)<=lv)=false:=by simp; omega
   have hle2:¬ (p:Int)<=lv:=by omega
   have hwl:wrap64 ((L:Int) - 1)=(L1:Int):=by unfold wrap64; omega
   have hwl2:IntKind.i64.wrap ((L:Int) - 1)=(L1:Int):=by rw [IntWalk.i64_in _ (by omega)]; omega
   have hL0:(0:Int)<(L:Int):=by omega
   have hL1i:(L1:Int)<(L:Int):=by omega
   have hL10:(0:Int)<=(L1:Int):=by omega
   have hp0:(0:Int)<=(p:Int):=by omega
   have hpNi:(p:Int)<(N':Int):=by omega
   have ht0:(0:Int)<=(t:Int):=by omega
   have htNi:(t:Int)<(N':Int):=by omega
   have h11:((1:Int) != 1)=false:=by simp
   have hne1:sb≠ga+1:=by omega
   have hne2:sb≠ga:=by omega
   have HNE:=hid (And.intro hne1 hne2)
   clear hO hrd hfst hlst ht hp hone hne1 hne2 hsb hsbl hL1d hLd
   go_upto_region 16 with fail
   refine wp_region_held_drew (S:=fun X=>X.cell? ⟨sb,so,none⟩=some (.int .i64 (p:Nat))/\X.cell? ⟨sb,so+L1,none⟩=some (.int .i64 (t:Nat))/\X.cell? ⟨g,kk,none⟩=some (.slice (some ⟨rb,ro,none⟩) N' rd)/\X.cell? ⟨rb,ro+p,none⟩=some (.int .i64 1)/\X.cell? ⟨ga+1,t,none⟩=some (.bool false)) (by kernel_rfl) ⟨cellS (Below.refl _ _).drew x0,cellS (Below.refl _ _).drew xl,cellS (Below.refl _ _).drew xg,cellS (Below.refl _ _).drew x1,cellS (Below.refl _ _).drew xe⟩ (fun hHeld=>?_)
   obtain ⟨w12,hw⟩:∃ W,W=World.drew w11:=⟨_,rfl⟩
   have kb:Below w11.heap.size w11 w12:=by rw [hw]; exact (Below.refl _ _).drew
   rw [<-hw] at hHeld ⊢
   clear hw
   replace x0:=cellS kb x0
   replace xl:=cellS kb xl
   replace K8:=hid (onS K8.out kb)
   clear kb x1 xe xg HRE2
   refine tkq 0 (h:=tkq 1 (h:=tkq 2 (h:=tkq 3 (h:=tkq 4 (h:=tkq 5 (h:=tkq 6 (h:=tkq 7 (h:=tkq 8 (h:=tkq 9 (h:=tkq 10 (h:=tkq 11 (h:=tkq 12 (h:=tkq 13 (h:=tkq 14 (h:=tkq 15 (h:=tkq 16 (h:=tkq 17 (h:=tkq 18 (h:=tkq 19 (h:=tkq 20 (h:=tkq 21 (h:=tkq 22 (h:=tkq 23 (h:=tkq 24 (h:=tkq 25 (h:=tkq 26 (h:=tkq 27 (h:=tkq 28 (h:=tkq 29 (h:=tkq 30 (h:=tkq 31 (h:=tkq 32 (h:=?_)))))))))))))))))))))))))))))))))
   refine wpAnyH_done (by kernel_rfl) ?_ _
   clear hHeld
   go_upto_region 19 with fail
   clear hle hle2 h11 hLz
   have HRE2:=zaa HRE.out K8.out
   have HRA2:=hid (zaa HRA.out K8.out)
   have e0:=HRE2.cell (i:=t) htN
   have e1:=HRE2.frozen t
   have he2:=HRE2.set t (.bool true)
   have ha2:=HRA2.out.setOther (a:=⟨ga+1,t,none⟩) (by simp) (.bool true)
   have y0:=zab (p:=⟨ga+1,t,none⟩) (u:=.bool true) x0 HNE.out.1
   have yl:=zab (p:=⟨ga+1,t,none⟩) (u:=.bool true) xl HNE.out.1
   have kb:=(onS K6.out K8.out).setCell (p:=⟨ga+1,t,none⟩) (by rw [HGA.out]; exact Nat.le_succ _) (.bool true)
   have hsz13:ga+2<=(w12.setCell ⟨ga+1,t,none⟩ (.bool true)).heap.size:=by rw [World.size_setCell]; exact Nat.le_trans hsz K8.out.size
   obtain ⟨w13,hw13⟩:∃ W,W=w12.setCell ⟨ga+1,t,none⟩ (.bool true):=⟨_,rfl⟩
   rw [<-hw13] at he2 ha2 y0 yl kb hsz13
   have HE2:Hid (w13.rowIs (ga+1) 4 N' (fun u=>.bool (endB R N' (kk+1) u))):=hid (he2.congr fun u _=>by
    show (if u=t then Value.bool true else .bool (endB R N' kk u))=.bool (endB R N' kk u || decide (lE (R kk) N'=(u:Int)))
    by_cases eu:u=t
    ·rw [if_pos eu,eu,decide_eq_true HTT.out,Bool.or_true]
    ·rw [if_neg eu,decide_eq_false (fun h=>eu (by have:=HTT.out; omega)),Bool.or_false])
   have HA2:=hid ha2
   have K13:=hid kb
   have HW13:=hid hw13
   clear he2 ha2 kb hw13 HRE2 HRA2
   go_upto_region 20 with fail
   rw [<-HW13.out]
   clear e0 e1 HW13 x0 xl
   have hwp:=wrapS64 p (Nat.le_trans (Nat.le_of_lt hpN) (Nat.le_trans hN64 (by decide)))
   have hwp2:=wrapS p (Nat.le_trans (Nat.le_of_lt hpN) (Nat.le_trans hN64 (by decide)))
   go_upto_region 21 with fail
   clear hwp hwp2
   obtain ⟨gO,hgO⟩:∃ x,x=gk:=⟨_,rfl⟩
   subst hgO
   have HYL:=hid yl
   go_loopg [11] (t+1 - p) (fun gg iv wx=>∃ x:Nat,iv=.int .i64 (x:Nat)/\p<x/\x<=t+1/\t+1<=x+gg/\Hid (wx.rowIs ga 3 (N'+1) (fun u=>.int .i64 ((cntB (actB pv R N' u) kk+(if p<u/\u<x then 1 else 0):Nat):Int)))/\Hid (wx.rowIs (ga+1) 4 N' (fun u=>.bool (endB R N' (kk+1) u)))/\Hid (wx.cell? ⟨sb,so+L1,none⟩=some (.int .i64 (t:Nat)))/\ga+2<=wx.heap.size/\Below w4.heap.size w4 wx)
   case atStart=>exact ⟨p+1,by go_num,by omega,by omega,by omega,HA2.out.congr fun u _=>by rw [if_neg (by omega),Nat.add_zero],HE2,HYL,hsz13,K13.out⟩
   case round =>
    clear HA2 HE2 HYL hsz13 K13 y0 yl
    obtain ⟨x,rfl,hpx,hxt,hxg,HA2,HE2,HYL,hsz13,hBx⟩:=hrel
    have hx0:(0:Int)<=(x:Int):=by omega
    have K13:=hid hBx
    obtain ⟨w14,hw14⟩:∃ X,X=wr:=⟨_,rfl⟩
    subst hw14
    clear hBx
    have yl:=HYL.out
    by_cases hxl:x<=t
    ·have hxl':(x:Int)<=(t:Int):=by omega
     have hxN:(x:Int)<(N':Int)+1:=by omega
     obtain ⟨cv,hcv⟩:∃ y,y=cntB (actB pv R N' x) kk:=⟨_,rfl⟩
     have hcb:cv<=kk:=by rw [hcv]; exact cntB_le _ _
     have a0:=HA2.out.cell (i:=x) (by omega)
     rw [if_neg (by omega),Nat.add_zero,<-hcv] at a0
     have a1:=HA2.out.frozen x
     have hc1:=wrapS64 cv (Nat.le_trans hcb (Nat.le_trans hkn (Nat.le_trans hnN (Nat.le_trans hN64 (by decide)))))
     have hc2:=wrapS cv (Nat.le_trans hcb (Nat.le_trans hkn (Nat.le_trans hnN (Nat.le_trans hN64 (by decide)))))
     obtain ⟨c1,hc1d⟩:∃ y,y=cv+1:=⟨_,rfl⟩
     rw [<-hc1d] at hc1 hc2
     have ha3:=HA2.out.set x (.int .i64 (c1:Nat))
     have he3:=HE2.out.setOther (a:=⟨ga,x,none⟩) (by simp) (.int .i64 (c1:Nat))
     have y2:=zab (p:=⟨ga,x,none⟩) (u:=.int .i64 (c1:Nat)) yl HNE.out.2
     have kb:=K13.out.setCell (p:=⟨ga,x,none⟩) (by rw [HGA.out]; exact Nat.le_refl _) (.int .i64 (c1:Nat))
     have hsz15:ga+2<=(w14.setCell ⟨ga,x,none⟩ (.int .i64 (c1:Nat))).heap.size:=by rw [World.size_setCell]; exact hsz13
     obtain ⟨w15,hw15⟩:∃ W,W=w14.setCell ⟨ga,x,none⟩ (.int .i64 (c1:Nat)):=⟨_,rfl⟩
     rw [<-hw15] at ha3 he3 y2 kb hsz15
     have HA3:Hid (w15.rowIs ga 3 (N'+1) (fun u=>.int .i64 ((cntB (actB pv R N' u) kk+(if p<u/\u<x+1 then 1 else 0):Nat):Int))):=hid (ha3.congr fun u _=>by
      by_cases eu:u=x
      ·rw [if_pos eu,eu,if_pos ⟨hpx,by omega⟩,<-hcv,hc1d]
      ·have h1:(p<u/\u<x)↔(p<u/\u<x+1):=by omega
       rw [if_neg eu]
       simp only [h1])
     have HE3:=hid he3
     have HY2:=hid y2
     have K15:=hid kb
     have HW15:=hid hw15
     clear ha3 he3 y2 kb hw15 hcv hc1d
     go_wp2
     rw [<-HW15.out]
     go_roundg (gk - 1)
     case measure=>omega
     case rel=>exact ⟨x+1,by go_num,by omega,by omega,by omega,HA3,HE3,HY2,hsz15,K15.out⟩
    ·have hxl':¬ (x:Int)<=(t:Int):=by omega
     have HA3:Hid (w14.rowIs ga 3 (N'+1) (fun u=>.int .i64 (cntB (actB pv R N' u) (kk+1):Nat))):=hid (HA2.out.congr fun u _=>by
      have h1:cntB (actB pv R N' u) (kk+1)=cntB (actB pv R N' u) kk+if actB pv R N' u kk then 1 else 0:=rfl
      rw [h1]
      have h2:(actB pv R N' u kk=true)↔(p<u/\u<x):=by
       unfold actB
       rw [<-HPP.out,HTT.out,Bool.and_eq_true,decide_eq_true_iff,decide_eq_true_iff]
       omega
      by_cases h3:p<u/\u<x
      ·rw [if_pos h3,if_pos (h2.2 h3)]
      ·rw [if_neg h3,if_neg (fun h=>h3 (h2.1 h))])
     have HLV:Hid ((p:Int)=if kk+1=0 then -1 else ((pv (kk+1 - 1):Nat):Int)):=hid (by rw [if_neg (by omega),Nat.add_sub_cancel,HPP.out])
     go_wp2
     go_roundg (gO - 1)
     case measure=>omega
     case rel=>exact ⟨kk+1,by go_num,by rw [<-HLV.out],by omega,by omega,HA3,HE2,hsz13,K13.out⟩
  ·have hlt':¬ (kk:Int)<(n:Int):=by omega
   obtain rfl:kk=n:=by omega
   clear hlv
   go_upto_region 24 with fail
   have HSB:Hid (∀ X,Below w7.heap.size w7 X->(X.cell? ⟨b0,0,none⟩=some (.int .i64 (P':Nat))/\X.cell? ⟨b0,1,none⟩=some (.int .i64 (M':Nat))/\X.cell? ⟨b0,2,none⟩=some (.slice A k c)/\X.cell? ⟨b0,3,none⟩=some (.int .i64 (N':Nat))/\X.cell? ⟨b0,4,none⟩=some (.slice TC kk d))):=hid fun X hx=>HBOX.out X (onS KB.out (onS K6.out hx))
   refine wp_region_held_drew (S:=fun X=>(X.cell? ⟨b0,0,none⟩=some (.int .i64 (P':Nat))/\X.cell? ⟨b0,1,none⟩=some (.int .i64 (M':Nat))/\X.cell? ⟨b0,2,none⟩=some (.slice A k c)/\X.cell? ⟨b0,3,none⟩=some (.int .i64 (N':Nat))/\X.cell? ⟨b0,4,none⟩=some (.slice TC kk d))) (by kernel_rfl) (HSB.out _ (Below.refl _ _).drew) (fun hHeld=>?_)
   obtain ⟨w8,hw⟩:∃ W,W=World.drew w7:=⟨_,rfl⟩
   have kb:Below w7.heap.size w7 w8:=by rw [hw]; exact (Below.refl _ _).drew
   rw [<-hw] at hHeld ⊢
   clear hw
   have K8:=hid kb
   clear kb
   refine tkq 0 (h:=tkq 1 (h:=tkq 2 (h:=tkq 3 (h:=tkq 4 (h:=tkq 6 (h:=?_))))))
   clear hHeld
   refine rdq 5 (h:=fun K hK=>?_)
   go_simp
   go_wp2_with fail
   have h1:=HC.out.on (onS HB.out (onS KB.out (onS K6.out K8.out)))
   have hmr:MRows w8 (some ⟨g,0,none⟩) kk N' R:=(HTB.out.on (onS K6.out K8.out)).rows fun v hv j hj=>by
    have:=HSF.out.lt v hv j hj
    have:=HC.out.fld.1.2.2.2
    omega
   refine (make_any P' M' (fun i=>(f i).toNat) A k c (some ⟨g,0,none⟩) kk kk N' R w8 h1.fld h1.mod h1.km h1.ints h1.k_le hmr HSF.out.lt (by have:=HC.out.ln1; omega) (by omega) (by omega)).mono ?_
   rintro e w9 ⟨mv,lv,a,p,W,rfl,hmv,hMT,kb,hE,hRO⟩
   obtain ⟨mA,mc,rfl⟩:=hmv.shape
   obtain ⟨lA,lc,rfl⟩:=hMT.shape
   have HL:=fieldLaws HC.out.fld
   have hEq:kk=a/\∀ s,s<kk->∀ j,j<N'->natT V s j=W s j:=by
    obtain ⟨pE,hEV⟩:=HC.out.rref
    obtain ⟨g1,_,g3⟩:=zcg HL hEV hE.top fun x=>((HSP.out x).trans ((RowOps.sp HL HSF.out.lt hRO).1 x)).trans (EchN.sp_top HL hE x)
    exact ⟨g1,g3⟩
   have hlt2:∀ i,i<a->∀ j,j<N'->W i j<P' ^ M':=fun i hi=>hE.lt i (Nat.lt_of_lt_of_le hi hE.le)
   have HMR:=hid (hMT.rd HC.out.fld.1.2.2.2 hlt2)
   have HMI:Hid (IntsR w9 w9.heap.size mA k (fun j=>(((f j).toNat:Nat):Int))):=hid (hmv.rd rfl)
   have HEQ:=hid hEq
   have K9:=hid (onS K8.out kb)
   clear kb hmv hMT hE hRO hEq hlt2 h1 hmr HL
   refine bkq hK (HSB.out _ K9.out) (h:=fun hHeld=>?_)
   clear hK K hHeld K8
   refine rdq 7 (h:=fun K hK=>?_)
   go_simp
   go_wp2_with fail
   have h1:=HC.out.on (onS HB.out (onS KB.out (onS K6.out K9.out)))
   refine (sameC_any (P':Int) (M':Int) (N':Int) mA A k mc c (fun j=>(((f j).toNat:Nat):Int)) lA TC a kk lc d (fun _=>N') (fun _=>N') (fun i j=>((W i j:Nat):Int)) (fun i j=>((natT V i j:Nat):Int)) w9 HMI.out h1.ints (by have:=HC.out.k_le; omega) HMR.out h1.rows (by have:=HEQ.out.1; omega) (by omega) ⟨HEQ.out.1.symm,fun i hi=>⟨rfl,fun j hj=>by show ((W i j:Nat):Int)=((natT V i j:Nat):Int); rw [HEQ.out.2 i (by have:=HEQ.out.1; omega) j hj]⟩⟩).mono ?_
   rintro e w10 ⟨rfl,kb⟩
   replace K9:=hid (onS K9.out kb)
   clear kb h1 HMR HMI HEQ
   refine bkq hK (HSB.out _ K9.out) (h:=fun hHeld=>?_)
   clear hK K
   refine tkq 8 (h:=tkq 9 (h:=tkq 10 (h:=?_)))
   clear hHeld
   refine rdq 11 (h:=fun K hK=>?_)
   go_simp
   go_wp2_with fail
   refine (prof47_any P' M' (fun i=>(f i).toNat) A k c N' TC kk d (natT V) w10 (HC.out.on (onS HB.out (onS KB.out (onS K6.out K9.out))))).mono ?_
   rintro e w11 ⟨gp,ra,rb,rfl,hgp,hrow,hrk,kb⟩
   have hir:IntsR w11 w11.heap.size (some ⟨gp,0,none⟩) (N'+1) (fun t=>((ra t+rb t:Nat):Int) - (kk:Nat)):=zbk hrow
   have HPR:Hid (IntsR w11 w11.heap.size (some ⟨gp,0,none⟩) (N'+1) (fun t=>((cntB (actB pv R N' t) kk:Nat):Int))):=hid (IntsR.congr hir fun t ht=>by
    obtain ⟨g1,g2⟩:=hrk t ht
    have:=HSF.out.ranks (fieldLaws HC.out.fld) HC.out.lt HSP.out HDI.out (by omega) g1 g2
    have h5:cntB (fun s=>decide (pv s<t) && decide ((t:Int)<=lE (R s) N')) kk=cntB (actB pv R N' t) kk:=rfl
    rw [h5] at this
    show ((ra t+rb t:Nat):Int) - (kk:Nat)=((cntB (actB pv R N' t) kk:Nat):Int)
    omega)
   have HAR:Hid (IntsR w11 w11.heap.size (some ⟨ga,0,none⟩) (N'+1) (fun t=>((cntB (actB pv R N' t) kk:Nat):Int))):=hid (zbk (zaa HRA.out (onS K9.out kb)))
   replace K9:=hid (onS K9.out kb)
   clear kb hgp hrow hrk hir
   refine bkq hK (HSB.out _ K9.out) (h:=fun hHeld=>?_)
   clear hK K hHeld
   refine rdq 12 (h:=fun K hK=>?_)
   go_simp
   go_wp2_with fail
   refine (same11eq_any (some ⟨ga,0,none⟩) (some ⟨gp,0,none⟩) (N'+1) (N'+1) (N'+1) _ w11 HAR.out HPR.out (by omega)).mono ?_
   rintro e w12 ⟨rfl,kb⟩
   replace K9:=hid (onS K9.out kb)
   clear kb HAR HPR
   refine bkq hK (HSB.out _ K9.out) (h:=fun hHeld=>?_)
   clear hK K
   refine tkq 13 (h:=tkq 14 (h:=?_))
   refine wpAnyH_done (by kernel_rfl) ?_ _
   clear hHeld
   go_wp2
   go_ret
   exact ⟨rfl,onS HB.out (onS KB.out (onS K6.out K9.out))⟩
theorem trellisSpans_law {H:Type} {enc:TypeId × Value->H} {w:World} {cs:Array Value}
  (h:Sees enc Tryz.prog w 0 (fun _=>true) true 27 cs.toList) :
  Calls Tryz.prog 7 #[.agg cs] w fun e w'=>e=.returned (.bool true)/\Below w.heap.size w w':=by
 obtain ⟨cs⟩:=cs
 obtain ⟨P,M,A,k,c1,N,T1,n,d,f,ln,V,rfl,_,_,hkc,_,_,_,hr,ht⟩:=zhy h
 exact trellisSpans_any P M A k c1 f N T1 n d ln V w hr ht
end Go.Proofs.YtioagplajkoohaaGreat