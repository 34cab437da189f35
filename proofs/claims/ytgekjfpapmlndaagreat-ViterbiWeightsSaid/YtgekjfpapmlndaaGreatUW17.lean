/- Merged texts of a claim: EnumW, EnumL, WtLaw. -/
import Derived.Test.YtgekjfpapmlndaaGreatUW16
namespace Go.Proofs.YtgekjfpapmlndaaGreat
set_option maxRecDepth 100000
set_option maxHeartbeats 32000000
open KA KB KC KD KE KF
open Go.RowKit Go.ChangeShapes Go.WideShapes Go.ChangeAt
def WtsPost (P M:Nat) (m:Nat->Nat) (n N:Nat) (V:Nat->Nat->Nat) (w:World) (e:Ending) (w':World):Prop :=
 Below w.heap.size w w'/\∃ g,w.heap.size<=g/\e=.returned (.tuple #[.slice (some ⟨g,0,none⟩) (N+1) (N+1),.int .i64 0])/\w'.rowIs g 3 (N+1) (fun t=>.int .i64 (cntK (wtK (P ^ M) (addF P M) (mulF P M m) n N V) t ((P ^ M) ^ n):Nat))
theorem IntsR.stp {E:Nat->Prop} {w w':World} {A:Option Addr} {n:Nat} {f:Nat->Int} (h:IntsR w w.heap.size A n f) (hs:Stp E w w') (ha:∀ a,A=some a->¬ E a.block):IntsR w' w'.heap.size A n f:=fun i hi=>by
 obtain ⟨q,o,e,hq,hc⟩:=h i hi
 exact ⟨q,o,e,Nat.lt_of_lt_of_le hq hs.size,fun j hj=>hs.cell (hc j hj) (ha ⟨q,o,none⟩ e)⟩
theorem zeh (P M:Nat) (m:Nat->Nat) (A:Option Addr) (k c N:Nat) (TC:Option Addr) (n d:Nat) (V:Nat->Nat->Nat) (w:World) (hC:CodeR w P M m A k N TC n V) (hqn:(P ^ M) ^ n<=65536) :
  Calls Tryz.prog 41 #[.agg #[.int .i64 (P:Nat),.int .i64 (M:Nat),.slice A k c,.int .i64 (N:Nat),.slice TC n d]] w (WtsPost P M m n N V w):=by
 have HC:=hid hC
 have aw:=hC.ln1
 have ag:=hC.ln2
 have hn:n<=64:=Nat.le_trans hC.n_le ag
 clear hC
 obtain ⟨L,hL⟩:=exx (N+1)
 have a6:=hid hL
 have ah:L<=65:=by omega
 have e1:((N:Int)+1)=(L:Int):=by omega
 have Z:=fun X=>zaf (P:=Tryz.prog) 22 3 _ 8 Tryz.underlying22 Tryz.infoInt rfl (L:Int) (by omega) (by omega) (by omega) X
 simp only [Int.toNat_natCast] at Z
 clear hL
 obtain ⟨w1,R,hB,rf⟩:=zbe w (.int .i64 (P:Nat)) (.int .i64 (M:Nat)) (.slice A k c) (.int .i64 (N:Nat)) (.slice TC n d) 27
 refine callsIn_wide.1 (callsIn_of_wp_marks (n:=1) Tryz.func41 rfl trivial ?_)
 refine (wpIn_wide).2 ?_
 simp only [Tryz.ntmps41, List.size_toArray,List.length_cons,List.length_nil,Nat.reduceAdd,Nat.reduceSub,Array.replicate_succ,Array.replicate_zero,List.push_toArray,List.append_toArray,List.nil_append,List.cons_append]
 go_upto_region 1 with fail
 rw [<-R];clear R
 obtain ⟨b0,u⟩:=exx w.heap.size
 rw [<-u] at rf;rw [<-u]
 have am:=hid u
 clear u
 have ax:=hid rf
 have g:Hid (∀ X,Below w1.heap.size w1 X->(X.cell? ⟨b0,0,none⟩=some (.int .i64 (P:Nat))/\X.cell? ⟨b0,1,none⟩=some (.int .i64 (M:Nat))/\X.cell? ⟨b0,2,none⟩=some (.slice A k c)/\X.cell? ⟨b0,3,none⟩=some (.int .i64 (N:Nat))/\X.cell? ⟨b0,4,none⟩=some (.slice TC n d))):=hid fun X hx =>
  ⟨(zab rf hx).cell (i:=0) (by omega),(zab rf hx).cell (i:=1) (by omega),(zab rf hx).cell (i:=2) (by omega),(zab rf hx).cell (i:=3) (by omega),(zab rf hx).cell (i:=4) (by omega)⟩
 have HB:=hid hB
 clear hB rf
 obtain ⟨q0,q1,q2,q3,q4⟩:=g.out _ (Below.refl _ _)
 go_wp2_with fail
 refine (zfl P M m A k c N TC n d V w1 (HC.out.on HB.out) hqn).mono ?_
 rintro e w2 ⟨rfl,kb⟩
 have K2:=hid kb
 clear kb q0 q1 q2 q3 q4
 obtain ⟨q0,q1,q2,q3,q4⟩:=g.out _ K2.out
 go_upto_region 5 with fail
 have ro:(w2.alloc (Obj.cells (madeCells #[Value.int .i64 0] L) 3)).rowIs w2.heap.size 3 L (fun _=>.int .i64 0):=World.rowIs_made w2 (.int .i64 0) L 3
 have ko:=aly w2 (Obj.cells (madeCells #[Value.int .i64 0] L) 3)
 have x:(w2.alloc (Obj.cells (madeCells #[Value.int .i64 0] L) 3)).heap.size=w2.heap.size+1:=by simp
 obtain ⟨w3,Q⟩:=exx (w2.alloc (Obj.cells (madeCells #[Value.int .i64 0] L) 3))
 rw [<-Q] at ro ko x ⊢;clear Q;rw [<-x]
 obtain ⟨ob,W⟩:=exx w2.heap.size
 rw [<-W] at ro ⊢
 have rs:(w3.alloc (Obj.cells #[.slice (some ⟨ob,0,none⟩) L L] 22)).rowIs w3.heap.size 22 1 (fun _=>.slice (some ⟨ob,0,none⟩) L L):=World.rowIs_alloc w3 _ _ _ (fun i hi=>match i,hi with
  | 0,_=>rfl)
 have ks:=aly w3 (Obj.cells #[.slice (some ⟨ob,0,none⟩) L L] 22)
 obtain ⟨w4,O⟩:=exx (w3.alloc (Obj.cells #[.slice (some ⟨ob,0,none⟩) L L] 22))
 rw [<-O] at rs ks ⊢;clear O
 obtain ⟨sb,T⟩:=exx w3.heap.size
 rw [<-T] at rs ⊢
 have ac:=ro.lt
 have aa:=rs.lt
 have ad:w2.heap.size<=ob:=by omega
 replace T:w3.heap.size<=sb:=by omega
 have ar:=K2.out.size
 have aq:=ks.size
 have au:=HB.out.size
 have aj:=hid (zab ro ks)
 have ai:=hid rs
 have K4:=hid (onS K2.out (onS ko ks))
 clear ro rs ko ks x W q0 q1 q2 q3 q4 Z e1
 obtain ⟨q0,q1,q2,q3,q4⟩:=g.out _ K4.out
 go_wp2_with fail
 refine (zhd _ _ _ _ _ _).mono ?_
 rintro e w5 ⟨rfl,v⟩
 clear q0 q1 q2 q3 q4
 go_wp2_with fail
 have rb:(w4.alloc (Obj.cells #[.int .i64 (P:Nat),.int .i64 (M:Nat),.slice A k c,.int .i64 (N:Nat),.slice TC n d] 27)).rowIs w4.heap.size 27 5 (codCell (.int .i64 (P:Nat)) (.int .i64 (M:Nat)) (.slice A k c) (.int .i64 (N:Nat)) (.slice TC n d)):=za2
 have kb:=aly w4 (Obj.cells #[.int .i64 (P:Nat),.int .i64 (M:Nat),.slice A k c,.int .i64 (N:Nat),.slice TC n d] 27)
 have ab:(w4.alloc (Obj.cells #[.int .i64 (P:Nat),.int .i64 (M:Nat),.slice A k c,.int .i64 (N:Nat),.slice TC n d] 27)).heap.size=w4.heap.size+1:=by simp
 obtain ⟨w5,v⟩:=exx (w4.alloc (Obj.cells #[.int .i64 (P:Nat),.int .i64 (M:Nat),.slice A k c,.int .i64 (N:Nat),.slice TC n d] 27))
 rw [<-v] at rb kb ab ⊢;clear v
 have G:=hid (zab aj.out kb)
 have F:=hid (zab ai.out kb)
 have K5:=hid (onS HB.out (onS K4.out kb))
 have a0:=zfi P M m A k c N TC n d V w4.heap.size w w5 (fun b=>b=ob∨b=w5.heap.size+1) HC.out rb (fun h=>by rcases h with h | h <;> omega) (fun b h=>by rcases h with h | h <;> omega) K5.out hqn
 refine zee (E0:=fun b=>b=ob) (N:=(P ^ M) ^ n) (Arg:=ArgW (P ^ M) (addF P M) (mulF P M m) n N V) rfl (fun _ _=>by kernel_rfl) a0 (fun B k X args h=>by
  obtain ⟨_,_,rfl,_⟩:=h
  rfl) (fun t X=>X.rowIs ob 3 L (fun j=>.int .i64 (cntK (wtK (P ^ M) (addF P M) (mulF P M m) n N V) j t:Nat))/\X.rowIs sb 22 1 (fun _=>.slice (some ⟨ob,0,none⟩) L L)/\Below w.heap.size w X) ?_ ?_ ?_ ?_ ?_
 ·rintro t X X' ⟨h1,h2,h3⟩ hs
  refine ⟨hs.row h1 (fun h=>?_),hs.row h2 (fun h=>?_),h3.trans (hs.below h3.size fun b hb h=>?_)⟩
  ·have h:w5.heap.size<=ob:=h
   omega
  ·have h:w5.heap.size<=sb:=h
   omega
  ·have h:w5.heap.size<=b:=h
   omega
 ·exact ⟨G.out.congr fun _ _=>rfl,F.out,K5.out⟩
 ·intro b h
  omega
 rotate_left
 ·rintro X ⟨h1,h2,h3⟩ hs hK
  have s0:=h2.cell (i:=0) (by omega)
  (try simp only [Exit.inBlock,Exit.then])
  go_wp2
  refine ⟨by simp,.inl ⟨_,_,rfl,run_takeDeferred hK,?_⟩⟩
  have o:Stp (fun b=>b=w5.heap.size) X (X.putObj w5.heap.size (Obj.deferred none)):=Stp.putObj _ _ rfl
  have C:WtsPost P M m n N V w (.returned (.tuple #[.slice (some ⟨ob,0,none⟩) L L,.int .i64 0])) (X.putObj w5.heap.size (Obj.deferred none)):=by
   unfold WtsPost
   rw [<-a6.out]
   exact ⟨h3.trans (o.below h3.size fun b hb h=>by omega),ob,by omega,rfl,o.row h1 fun h=>by omega⟩
  exact ⟨.tuple #[.slice (some ⟨ob,0,none⟩) L L,.int .i64 0],(by simp [results,Tryz.results41, go_sem]),C⟩
 intro t X args ht av ⟨y,q,af⟩ E
 obtain ⟨AA,cc,rfl,J,a2⟩:=E
 refine Exists.intro ?a1 (And.intro ?asg ?bod)
 case asg =>
  intro K hK
  refine zaQ (fun ⟨_,_,h⟩=>h) (by kernel_rfl) ?_
  go_wp2
  exact hK
 intro X2 hs2 hi2
 obtain ⟨U,D,a1⟩:=hi2
 refine wpIn_block ?_
 have kd:Below X2.heap.size X2 (World.drew X2):=(Below.refl _ _).drew
 have l:IntsR (World.drew X2) (World.drew X2).heap.size AA N (fun j=>((spE (addF P M) (mulF P M m) V (msgD (P ^ M) n t) n j:Nat):Int)):=(J.stp hs2 fun a e h=>by
  have:=a2 a e
  have h:a.block=w5.heap.size+1:=h
  omega).on kd
 have r:=zab U kd
 have s0:=(zab D kd).cell (i:=0) (by omega)
 obtain ⟨z,hz⟩:=exx (wtN (fun j=>spE (addF P M) (mulF P M m) V (msgD (P ^ M) n t) n j) N)
 have a9:z<L:=by have:=zg9 (fun j=>spE (addF P M) (mulF P M m) V (msgD (P ^ M) n t) n j) N; have:=a6.out; omega
 have an:(z:Int)<(L:Int):=by omega
 have ao:(0:Int)<=(z:Int):=by omega
 obtain ⟨cz,s⟩:=exx (cntK (wtK (P ^ M) (addF P M) (mulF P M m) n N V) z t)
 have ae:cz<=t:=by rw [s]; exact zg3 _ _ _
 have n0:(World.drew X2).cell? ⟨ob,z,none⟩=some (.int .i64 (cz:Int)):=by rw [s]; exact r.cell a9
 have z0:=r.frozen z
 have ap:IntKind.i64.wrap ((cz:Int)+1)=(cz:Int)+1:=IntWalk.i64_in _ (by omega)
 have HZ:=hid hz
 have ak:=hid s
 have H:=hid r
 have I:=hid (zab D kd)
 have a7:=hid a1
 have a4:=hid l
 have KD:=hid kd
 clear U D r a1 l hz s J y q af a2 kd hs2 a0
 refine zbl (S:=fun X=>X.cell? ⟨sb,0,none⟩=some (.slice (some ⟨ob,0,none⟩) L L)) (by kernel_rfl) s0 (fun hHeld=>?_)
 obtain ⟨X3,hw⟩:=exx (World.drew X2)
 rw [<-hw] at hHeld s0 n0 z0 H I a4 KD ⊢;clear hw
 refine tkw 0 (h:=tkw 1 (h:=?_))
 clear hHeld
 refine rdw 2 (h:=fun K hK=>?_)
 go_simp
 go_wp2_with fail
 refine (zcZ AA N cc _ X3 a4.out (by omega)).mono ?_
 rintro e X4 ⟨rfl,kb⟩
 rw [<-HZ.out];replace s0:=cellS kb s0;replace n0:=cellS kb n0
 have a5:=hid (zab H.out kb)
 have al:=hid (zab I.out kb)
 replace z0:=a5.out.frozen z
 have a3:=hid (onS KD.out kb)
 clear kb H I KD
 refine bkw hK s0 (h:=fun hHeld=>?_)
 clear hK K
 refine tkw 3 (h:=?_)
 clear hHeld
 refine rdw 4 (h:=fun K hK=>?_)
 go_simp
 refine bkw hK s0 (h:=fun hHeld=>?_)
 clear hK K
 refine tkw 5 (h:=tkw 6 (h:=?_))
 clear hHeld
 refine rdw 7 (h:=fun K hK=>?_)
 go_simp
 have Y:sb≠ob:=by omega
 refine bkw hK (zaa s0 (by simpa using Y)) (h:=fun hHeld=>?_)
 clear hK K hHeld
 refine zdg (by kernel_rfl) ?_ _
 have o:Stp (fun b=>b=ob) X4 (X4.setCell ⟨ob,z,none⟩ (.int .i64 ((cz:Int)+1))):=Stp.setCell _ _ rfl
 refine ⟨rfl,⟨(a5.out.set z (.int .i64 ((cz:Int)+1))).congr fun j hj=>?_,o.row al.out Y,(a7.out.trans (a3.out.mono a7.out.size)).setCell (p:=⟨ob,z,none⟩) (by show _<=ob; omega) _⟩,(Stp.of_on a3.out).trans o⟩
 show (if j=z then _ else _)=Value.int .i64 ((cntK (wtK (P ^ M) (addF P M) (mulF P M m) n N V) j t+(if wtK (P ^ M) (addF P M) (mulF P M m) n N V t=j then 1 else 0):Nat):Int)
 have a8:wtK (P ^ M) (addF P M) (mulF P M m) n N V t=z:=HZ.out.symm
 rw [a8]
 by_cases e:j=z
 ·rw [if_pos e,if_pos e.symm,e,<-ak.out]
  push_cast
  rfl
 ·rw [if_neg e,if_neg (fun h=>e h.symm),Nat.add_zero]
def Light23Post (P M:Nat) (m:Nat->Nat) (n N:Nat) (V:Nat->Nat->Nat) (w:World) (e:Ending) (w':World):Prop :=
 Below w.heap.size w w'/\((n=0/\e=.returned (.tuple #[.int .i64 0,.slice none 0 0,.int .i64 11]))∨(0<n/\∃ v,e=.returned (.tuple #[.int .i64 (minK (wtK (P ^ M) (addF P M) (mulF P M m) n N V) N ((P ^ M) ^ n):Nat),v,.int .i64 0])))
theorem zfX (P M:Nat) (m:Nat->Nat) (A:Option Addr) (k c N:Nat) (TC:Option Addr) (n d:Nat) (V:Nat->Nat->Nat) (w:World) (hC:CodeR w P M m A k N TC n V) (hqn:(P ^ M) ^ n<=65536) :
  Calls Tryz.prog 45 #[.agg #[.int .i64 (P:Nat),.int .i64 (M:Nat),.slice A k c,.int .i64 (N:Nat),.slice TC n d]] w (Light23Post P M m n N V w):=by
 have HC:=hid hC
 have aw:=hC.ln1
 have aj:=hC.ln2
 have hn:n<=64:=Nat.le_trans hC.n_le aj
 clear hC
 obtain ⟨w1,Z,hB,rf⟩:=zbe w (.int .i64 (P:Nat)) (.int .i64 (M:Nat)) (.slice A k c) (.int .i64 (N:Nat)) (.slice TC n d) 27
 refine callsIn_wide.1 (callsIn_of_wp_marks (n:=1) Tryz.func45 rfl trivial ?_)
 refine (wpIn_wide).2 ?_
 simp only [Tryz.ntmps45, List.size_toArray,List.length_cons,List.length_nil,Nat.reduceAdd,Nat.reduceSub,Array.replicate_succ,Array.replicate_zero,List.push_toArray,List.append_toArray,List.nil_append,List.cons_append]
 go_upto_region 1 with fail
 rw [<-Z];clear Z
 obtain ⟨b0,y⟩:=exx w.heap.size
 rw [<-y] at rf;rw [<-y]
 have ap:=hid y
 clear y
 have ax:=hid rf
 have g:Hid (∀ X,Below w1.heap.size w1 X->(X.cell? ⟨b0,0,none⟩=some (.int .i64 (P:Nat))/\X.cell? ⟨b0,1,none⟩=some (.int .i64 (M:Nat))/\X.cell? ⟨b0,2,none⟩=some (.slice A k c)/\X.cell? ⟨b0,3,none⟩=some (.int .i64 (N:Nat))/\X.cell? ⟨b0,4,none⟩=some (.slice TC n d))):=hid fun X hx =>
  ⟨(zab rf hx).cell (i:=0) (by omega),(zab rf hx).cell (i:=1) (by omega),(zab rf hx).cell (i:=2) (by omega),(zab rf hx).cell (i:=3) (by omega),(zab rf hx).cell (i:=4) (by omega)⟩
 have HB:=hid hB
 clear hB rf
 obtain ⟨q0,q1,q2,q3,q4⟩:=g.out _ (Below.refl _ _)
 go_wp2_with fail
 refine (zbL (P:Int) (M:Int) A k c (fun i=>(m i:Int)) (N:Int) TC n d (fun _=>N) (fun i j=>(V i j:Int)) w1 (HC.out.on HB.out).ints (HC.out.on HB.out).rows).mono ?_
 rintro e w2 ⟨v,rfl,hv,kb⟩
 obtain rfl:v=0:=FirstErr.unique hv HC.out.errs
 have K2:=hid kb
 clear kb hv q0 q1 q2 q3 q4
 obtain ⟨q0,q1,q2,q3,q4⟩:=g.out _ K2.out
 by_cases hn0:n=0
 ·have af:((n:Int) == 0)=true:=by simp; omega
  have O:=hid hn0
  clear hn0
  go_wp2
  have l:Light23Post P M m n N V w (.returned (.tuple #[.int .i64 0,.slice none 0 0,.int .i64 11])) w2:=⟨onS HB.out K2.out,.inl ⟨O.out,rfl⟩⟩
  exact ⟨.tuple #[.int .i64 0,.slice none 0 0,.int .i64 11],(by simp [results,Tryz.results45, go_sem]),l⟩
 have af:((n:Int) == 0)=false:=by simp; omega
 have O:Hid (0<n):=hid (by show _<_; omega)
 clear hn0
 go_wp2_with fail
 refine (zfl P M m A k c N TC n d V w2 (HC.out.on (onS HB.out K2.out)) hqn).mono ?_
 rintro e w3 ⟨rfl,kb⟩
 have K3:=hid (onS K2.out kb)
 clear kb q0 q1 q2 q3 q4
 obtain ⟨q0,q1,q2,q3,q4⟩:=g.out _ K3.out
 go_upto_region 11 with fail
 have e1:((N:Int)+1)=((N+1:Nat):Int):=by push_cast; rfl
 have ro:(w3.alloc (Obj.cells #[.int .i64 ((N:Int)+1)] 3)).rowIs w3.heap.size 3 1 (fun _=>.int .i64 ((N+1:Nat):Int)):=World.rowIs_alloc w3 _ _ _ (fun i hi=>match i,hi with
  | 0,_=>by rw [<-e1]; rfl)
 have ko:=aly w3 (Obj.cells #[.int .i64 ((N:Int)+1)] 3)
 have E:(w3.alloc (Obj.cells #[.int .i64 ((N:Int)+1)] 3)).heap.size=w3.heap.size+1:=by simp
 obtain ⟨w4,W⟩:=exx (w3.alloc (Obj.cells #[.int .i64 ((N:Int)+1)] 3))
 rw [<-W] at ro ko E ⊢;clear W e1;rw [<-E]
 obtain ⟨bb,a8⟩:=exx w3.heap.size
 rw [<-a8] at ro ⊢
 have rs:(w4.alloc (Obj.cells #[.slice none 0 0] 22)).rowIs w4.heap.size 22 1 (fun _=>.slice none 0 0):=World.rowIs_alloc w4 _ _ _ (fun i hi=>match i,hi with
  | 0,_=>rfl)
 have ks:=aly w4 (Obj.cells #[.slice none 0 0] 22)
 obtain ⟨w5,U⟩:=exx (w4.alloc (Obj.cells #[.slice none 0 0] 22))
 rw [<-U] at rs ks ⊢;clear U
 obtain ⟨vb,a0⟩:=exx w4.heap.size
 rw [<-a0] at rs ⊢
 have ah:=ro.lt
 have ab:=rs.lt
 have ai:w3.heap.size<=bb:=by omega
 replace a0:w4.heap.size<=vb:=by omega
 have ar:=K3.out.size
 have aq:=ks.size
 have au:=HB.out.size
 have am:=hid (zab ro ks)
 have al:=hid rs
 have K5:=hid (onS K3.out (onS ko ks))
 clear ro rs ko ks E a8 q0 q1 q2 q3 q4
 obtain ⟨q0,q1,q2,q3,q4⟩:=g.out _ K5.out
 go_wp2_with fail
 refine (zhd _ _ _ _ _ _).mono ?_
 rintro e w6 ⟨rfl,D⟩
 clear q0 q1 q2 q3 q4
 go_wp2_with fail
 have rb:(w5.alloc (Obj.cells #[.int .i64 (P:Nat),.int .i64 (M:Nat),.slice A k c,.int .i64 (N:Nat),.slice TC n d] 27)).rowIs w5.heap.size 27 5 (codCell (.int .i64 (P:Nat)) (.int .i64 (M:Nat)) (.slice A k c) (.int .i64 (N:Nat)) (.slice TC n d)):=za2
 have kb:=aly w5 (Obj.cells #[.int .i64 (P:Nat),.int .i64 (M:Nat),.slice A k c,.int .i64 (N:Nat),.slice TC n d] 27)
 have ae:(w5.alloc (Obj.cells #[.int .i64 (P:Nat),.int .i64 (M:Nat),.slice A k c,.int .i64 (N:Nat),.slice TC n d] 27)).heap.size=w5.heap.size+1:=by simp
 obtain ⟨w6,D⟩:=exx (w5.alloc (Obj.cells #[.int .i64 (P:Nat),.int .i64 (M:Nat),.slice A k c,.int .i64 (N:Nat),.slice TC n d] 27))
 rw [<-D] at rb kb ae ⊢;clear D
 have J:=hid (zab am.out kb)
 have I:=hid (zab al.out kb)
 have K6:=hid (onS HB.out (onS K5.out kb))
 have a6:=zfi P M m A k c N TC n d V w5.heap.size w w6 (fun b=>(b=bb∨b=vb)∨b=w6.heap.size+1) HC.out rb (fun h=>by rcases h with (h | h) | h <;> omega) (fun b h=>by rcases h with (h | h) | h <;> omega) K6.out hqn
 refine zee (E0:=fun b=>b=bb∨b=vb) (N:=(P ^ M) ^ n) (Arg:=ArgW (P ^ M) (addF P M) (mulF P M m) n N V) rfl (fun _ _=>by kernel_rfl) a6 (fun B k X args h=>by
  obtain ⟨_,_,rfl,_⟩:=h
  rfl) (fun t X=>X.rowIs bb 3 1 (fun _=>.int .i64 (minK (wtK (P ^ M) (addF P M) (mulF P M m) n N V) N t:Nat))/\(∃ v,X.rowIs vb 22 1 (fun _=>v))/\Below w.heap.size w X) ?_ ?_ ?_ ?_ ?_
 ·rintro t X X' ⟨h1,⟨v,h2⟩,h3⟩ hs
  refine ⟨hs.row h1 (fun h=>?_),⟨v,hs.row h2 (fun h=>?_)⟩,h3.trans (hs.below h3.size fun b hb h=>?_)⟩
  ·have h:w6.heap.size<=bb:=h
   omega
  ·have h:w6.heap.size<=vb:=h
   omega
  ·have h:w6.heap.size<=b:=h
   omega
 ·exact ⟨J.out,⟨_,I.out⟩,K6.out⟩
 ·intro b h
  omega
 rotate_left
 ·rintro X ⟨h1,⟨v,h2⟩,h3⟩ hs hK
  have s0:=h1.cell (i:=0) (by omega)
  have s1:=h2.cell (i:=0) (by omega)
  (try simp only [Exit.inBlock,Exit.then])
  go_upto_region 17 with fail
  have kd:Below X.heap.size X (World.drew X):=(Below.refl _ _).drew
  have H3:=hid h3
  have a5:(World.drew X).heap[w6.heap.size]?=some (.deferred (some [])):=(kd.block _ (Array.getElem?_eq_some_iff.1 hK).1).trans hK
  have HK:=hid a5
  replace s0:=cellS kd s0;replace s1:=cellS kd s1;clear h1 h2 h3 hs hK a5
  refine wp_mono (Q:=Exit.then ?K17 (fun _ _ _=>False)) ?w17 ?m17
  case m17 =>
   intro e a w h
   cases e <;> first | exact h | exact False.elim h
  refine wp_region_held_drew (S:=fun Y=>Y.cell? ⟨bb,0,none⟩=some (.int .i64 (minK (wtK (P ^ M) (addF P M) (mulF P M m) n N V) N ((P ^ M) ^ n):Nat))/\Y.cell? ⟨vb,0,none⟩=some v) (by kernel_rfl) ⟨s0,s1⟩ (fun hHeld=>?_)
  obtain ⟨Y,hw⟩:=exx (World.drew X)
  rw [<-hw] at hHeld s0 s1 kd HK ⊢
  have KD:=hid kd
  clear hw kd
  refine tkq 0 (h:=tkq 1 (h:=tkq 2 (h:=tkq 3 (h:=tkq 4 (h:=?_)))))
  clear hHeld
  refine wpAnyH_done (by kernel_rfl) ?_ _
  go_wp2
  refine ⟨by simp,.inl ⟨_,_,rfl,run_takeDeferred HK.out,?_⟩⟩
  have ad:Stp (fun b=>b=w6.heap.size) Y (Y.putObj w6.heap.size (Obj.deferred none)):=Stp.putObj _ _ rfl
  have h3:=H3.out.trans (KD.out.mono H3.out.size)
  have l:Light23Post P M m n N V w (.returned (.tuple #[.int .i64 (minK (wtK (P ^ M) (addF P M) (mulF P M m) n N V) N ((P ^ M) ^ n):Nat),v,.int .i64 0])) (Y.putObj w6.heap.size (Obj.deferred none)) :=
   ⟨h3.trans (ad.below h3.size fun b hb h=>by omega),.inr ⟨O.out,v,rfl⟩⟩
  exact ⟨.tuple #[.int .i64 (minK (wtK (P ^ M) (addF P M) (mulF P M m) n N V) N ((P ^ M) ^ n):Nat),v,.int .i64 0],(by simp [results,Tryz.results45, go_sem]),l⟩
 intro t X args ht av ⟨F,⟨v,s⟩,ag⟩ H
 obtain ⟨AA,cc,rfl,T,aa⟩:=H
 refine Exists.intro ?a1 (And.intro ?asg ?bod)
 case asg =>
  intro K hK
  refine wpIn_seq ?_
  refine zaQ (fun ⟨_,_,h⟩=>h) (by kernel_rfl) ?_
  go_wp2
  refine zaQ (fun ⟨_,_,h⟩=>h) (by kernel_rfl) ?_
  go_wp2
  exact hK
 intro X2 hs2 hi2
 obtain ⟨G,⟨v2,a7⟩,a9⟩:=hi2
 have r:IntsR X2 X2.heap.size AA N (fun j=>((spE (addF P M) (mulF P M m) V (msgD (P ^ M) n t) n j:Nat):Int)):=T.stp hs2 fun a e h=>by
  have:=aa a e
  have h:a.block=w6.heap.size+1:=h
  omega
 obtain ⟨z,hz⟩:=exx (wtN (fun j=>spE (addF P M) (mulF P M m) V (msgD (P ^ M) n t) n j) N)
 have R:wtK (P ^ M) (addF P M) (mulF P M m) n N V t=z:=hz.symm
 obtain ⟨bst,o⟩:=exx (minK (wtK (P ^ M) (addF P M) (mulF P M m) n N V) N t)
 have a3:minK (wtK (P ^ M) (addF P M) (mulF P M m) n N V) N (t+1)=if 0<t/\z<bst then z else bst:=by
  show (if 0<t/\wtK (P ^ M) (addF P M) (mulF P M m) n N V t<minK (wtK (P ^ M) (addF P M) (mulF P M m) n N V) N t then wtK (P ^ M) (addF P M) (mulF P M m) n N V t else minK (wtK (P ^ M) (addF P M) (mulF P M m) n N V) N t)=_
  rw [R,<-o]
 rw [<-o] at G
 have HZ:=hid hz
 have L:=hid a3
 have an:=hid G
 have ao:=hid a7
 have q:=hid a9
 have ak:=hid r
 have a4:bb≠vb:=by omega
 clear G a7 a9 r hz R o a3 T F s ag aa hs2 a6
 refine wpIn_block ?_
 refine wpIn_seq ?_
 refine zaQ (fun ⟨_,_,h⟩=>by have h:Exit.outgrown=Exit.normal/\_:=h; cases h.1) (by kernel_rfl) ?_
 go_wp2_with fail
 refine (zcZ AA N cc _ X2 ak.out (by omega)).mono ?_
 rintro e X3 ⟨rfl,kb⟩
 rw [<-HZ.out]
 have u:=hid (zab an.out kb)
 have x:=hid (zab ao.out kb)
 have KB:=hid kb
 clear kb
 have s0:=u.out.cell (i:=0) (by omega)
 have z0:=u.out.frozen 0
 have s1:=x.out.cell (i:=0) (by omega)
 have z1:=x.out.frozen 0
 go_wp2
 refine wpIn_seq ?_
 refine zaQ (fun ⟨_,_,h⟩=>by have h:Exit.outgrown=Exit.normal/\_:=h; cases h.1) (by kernel_rfl) ?_
 by_cases ht0:0<t
 rotate_left
 ·have ac:¬ (t:Int) > 0:=by omega
  go_wp2
  refine wpIn_cond_false rfl ?_
  refine wpIn_skip ?_
  refine ⟨rfl,⟨u.out.congr fun _ _=>?_,⟨_,x.out⟩,q.out.trans (KB.out.mono q.out.size)⟩,Stp.of_on KB.out⟩
  rw [L.out,if_neg fun h=>ht0 h.1]
 have ac:(t:Int) > 0:=by omega
 by_cases hzb:z<bst
 ·have C:(z:Int)<(bst:Int):=by omega
  go_wp2
  refine wpIn_cond_true rfl ?_
  refine zaQ (fun ⟨_,_,h⟩=>by have h:Exit.outgrown=Exit.normal/\_:=h; cases h.1) (by kernel_rfl) ?_
  go_wp2
  have a1:Stp (fun b=>b=bb) X3 (X3.setCell ⟨bb,0,none⟩ (.int .i64 (z:Int))):=Stp.setCell _ _ rfl
  have a2:Stp (fun b=>b=vb) (X3.setCell ⟨bb,0,none⟩ (.int .i64 (z:Int))) ((X3.setCell ⟨bb,0,none⟩ (.int .i64 (z:Int))).setCell ⟨vb,0,none⟩ (.slice AA N cc)):=Stp.setCell _ _ rfl
  refine ⟨trivial,⟨a2.row ((u.out.set 0 (.int .i64 (z:Int))).congr fun j hj=>?_) a4,⟨_,((a1.row x.out (fun h=>a4 (Eq.symm h))).set 0 (.slice AA N cc)).congr fun j hj=>if_pos (by omega)⟩,((q.out.trans (KB.out.mono q.out.size)).setCell (p:=⟨bb,0,none⟩) (by show _<=bb; omega) _).setCell (p:=⟨vb,0,none⟩) (by show _<=vb; omega) _⟩,(Stp.of_on KB.out).trans ((a1.mono fun b h=>.inl h).trans (a2.mono fun b h=>.inr h))⟩
  rw [if_pos (by omega),L.out,if_pos ⟨ht0,hzb⟩]
 have C:¬ (z:Int)<(bst:Int):=by omega
 go_wp2
 refine wpIn_cond_false rfl ?_
 refine wpIn_skip ?_
 refine ⟨rfl,⟨u.out.congr fun _ _=>?_,⟨_,x.out⟩,q.out.trans (KB.out.mono q.out.size)⟩,Stp.of_on KB.out⟩
 rw [L.out,if_neg fun h=>hzb h.2]
theorem zig {wt:Nat->Nat} {q n N:Nat} (h:n=0):minK wt N (q ^ n)=N+1:=by
 subst h
 rw [Nat.pow_zero]
 show (if 0<0/\_ then _ else minK wt N 0)=_
 rw [if_neg fun h=>absurd h.1 (by omega)]
 rfl
theorem zih {q n N:Nat} {add mul:Nat->Nat->Nat} {V:Nat->Nat->Nat} (hq:2<=q) (h:0<n):minK (wtK q add mul n N V) N (q ^ n)<=N:=by
 have h1:1<q ^ n:=Nat.lt_of_lt_of_le (show 1<q ^ 1 by rw [Nat.pow_one]; omega) (Nat.pow_le_pow_right (by omega) h)
 exact Nat.le_trans (zdK _ 1 (by omega) h1) (zg9 _ N)
theorem zb7 (P M:Int) (A:Option Addr) (k c:Nat) (f:Nat->Int) (N:Int) (TC:Option Addr) (n d:Nat) (ln:Nat->Nat) (V:Nat->Nat->Int) (w:World) (hr:IntsR w w.heap.size A k f) (h:IntRows w TC n ln V) :
  Calls Tryz.prog 8 #[.agg #[.int .i64 P,.int .i64 M,.slice A k c,.int .i64 N,.slice TC n d]] w fun e w'=>e=.returned (.bool true)/\Below w.heap.size w w':=by
 have HI:=hid hr
 have HT:=hid h
 clear hr h
 obtain ⟨w1,af,hB,rf⟩:=zbe w (.int .i64 P) (.int .i64 M) (.slice A k c) (.int .i64 N) (.slice TC n d) 27
 go_enter Tryz.func8, Tryz.ntmps8
 go_upto_region 1 with fail
 rw [<-af];clear af
 obtain ⟨b0,a6⟩:=exx w.heap.size
 rw [<-a6] at rf;rw [<-a6];clear a6
 have b:Hid (∀ X,Below w1.heap.size w1 X->(X.cell? ⟨b0,0,none⟩=some (.int .i64 P)/\X.cell? ⟨b0,1,none⟩=some (.int .i64 M)/\X.cell? ⟨b0,2,none⟩=some (.slice A k c)/\X.cell? ⟨b0,3,none⟩=some (.int .i64 N)/\X.cell? ⟨b0,4,none⟩=some (.slice TC n d))):=hid fun X hx =>
  ⟨(zab rf hx).cell (i:=0) (by omega),(zab rf hx).cell (i:=1) (by omega),(zab rf hx).cell (i:=2) (by omega),(zab rf hx).cell (i:=3) (by omega),(zab rf hx).cell (i:=4) (by omega)⟩
 have HB:=hid hB
 clear hB rf
 go_wp2_with fail
 refine (zfQ _).mono ?_
 rintro e w2 ⟨rfl,kb⟩
 have KB:=hid kb
 clear kb
 obtain ⟨q0,q1,q2,q3,q4⟩:=b.out _ KB.out
 go_wp2_with fail
 refine (zfw 1024 P M A k c f N TC n d ln V w2 (HI.out.on (onS HB.out KB.out)) (HT.out.on (onS HB.out KB.out)) (by omega)).mono ?_
 rintro e w3 ⟨v,rfl,a5,kb⟩
 replace KB:=hid (onS KB.out kb);clear kb q0 q1 q2 q3 q4
 rcases a5 with ⟨rfl,_⟩ | ⟨ab,C,rfl⟩
 ·go_wp2
  go_ret
  exact ⟨rfl,onS HB.out KB.out⟩
 obtain ⟨P',M',N',rfl,rfl,rfl,hC⟩:=zdw HI.out HT.out ab
 rw [Int.toNat_natCast,Int.toNat_natCast] at *
 have hL:=fieldLaws hC.fld
 have ag:=hL.two
 have ba:=hC.ln1
 have b9:=hC.ln2
 have m:=hid C
 have HC:=hid hC
 have HL:=hid hL
 have bj:=hid ab
 obtain ⟨z,hz⟩:∃ z,z=(P' ^ M') ^ n:=⟨_,rfl⟩
 have bl:1<=z:=by rw [hz]; exact Nat.pow_pos (by omega)
 rw [<-hz]
 have bk:((z:Int) == 0)=false:=by simp; omega
 clear C hC hL ab hz
 obtain ⟨q0,q1,q2,q3,q4⟩:=b.out _ KB.out
 go_wp2_with fail
 refine (zfO (P':Nat) (M':Nat) A k c f (N':Nat) TC n d ln V w3 (HI.out.on (onS HB.out KB.out)) (HT.out.on (onS HB.out KB.out))).mono ?_
 rintro e w4 D
 have kb:=D.1
 have K4:=hid (onS KB.out kb)
 obtain ⟨_,u,hu,a⟩:=D
 obtain rfl:u=0:=FirstErr.unique hu bj.out
 rcases a with ⟨h9,_⟩ | ⟨_,P2,M2,N2,e1,e2,e3,pv,R,ar,aq,bc,⟨h9,_⟩ | ⟨b8,S,y,GA,HA,gc,hc,a9,W,T,F,rfl⟩⟩
 ·exact absurd rfl h9
 ·obtain rfl:P'=P2:=by omega
  obtain rfl:M'=M2:=by omega
  obtain rfl:N'=N2:=by omega
  exact absurd (zg8 ag m.out ba b9) h9
 obtain rfl:P'=P2:=by omega
 obtain rfl:M'=M2:=by omega
 obtain rfl:N'=N2:=by omega
 have ax:Hid (∀ x:Nat->Nat,(S.re y).PathW x↔InSp (P' ^ M') (addF P' M') (mulF P' M' fun i=>(f i).toNat) n N' (natT V) x):=hid (zje HL.out ar a9 W T aq)
 have a0:Hid (S.re y).Proper:=hid (IsRen.proper W T)
 have ad:=hid (F.reads W T)
 have ap:(S.re y).n=N':=a9.nN
 have Z:=hid ap
 obtain ⟨U,hU⟩:=exx (S.re y)
 have a7:S.nw=U.nw:=by rw [hU]; rfl
 have a8:S.n=U.n:=by rw [hU]; rfl
 rw [a7,a8,<-hU] at ad;rw [<-hU] at ax a0 Z;rw [a7,a8];clear kb hu ar aq bc b8 a9 W T F ap hU a7 a8 e1 e2 e3 q0 q1 q2 q3 q4
 go_upto_region 6 with fail
 have rt:(w4.alloc (Obj.cells #[.slice GA U.nw gc,.slice HA U.n hc] 53)).rowIs w4.heap.size 53 2 (matCell (.slice GA U.nw gc) (.slice HA U.n hc)):=zaw
 have kb:=aly w4 (Obj.cells #[.slice GA U.nw gc,.slice HA U.n hc] 53)
 obtain ⟨w5,ae⟩:=exx (w4.alloc (Obj.cells #[.slice GA U.nw gc,.slice HA U.n hc] 53))
 rw [<-ae] at rt kb ⊢;clear ae
 obtain ⟨b1,al⟩:=exx w4.heap.size
 rw [<-al] at rt ⊢;clear al
 have Y:Hid (∀ X,Below w5.heap.size w5 X->X.cell? ⟨b1,0,none⟩=some (.slice GA U.nw gc)/\X.cell? ⟨b1,1,none⟩=some (.slice HA U.n hc)):=hid fun X hx=>⟨(zab rt hx).cell (i:=0) (by omega),(zab rt hx).cell (i:=1) (by omega)⟩
 have o:=hid (ad.out.1.on kb)
 replace KB:=hid (onS K4.out kb);clear rt kb K4
 obtain ⟨t0,t1⟩:=Y.out _ (Below.refl _ _)
 go_wp2_with fail
 refine (zcc U GA HA gc hc w5 o.out).mono ?_
 rintro e w6 ⟨kb,⟨h9,_⟩ | ⟨_,WA,wc,rfl,O⟩⟩
 ·exact absurd a0.out.E0 h9
 have ao:U.Reads w6 GA HA:=o.out.on kb
 have am:Hid (∀ X,Below w6.heap.size w6 X->X.cell? ⟨b1,0,none⟩=some (.slice GA U.nw gc)/\X.cell? ⟨b1,1,none⟩=some (.slice HA U.n hc)/\U.Reads X GA HA):=hid fun X hx=>⟨(Y.out X (onS kb hx)).1,(Y.out X (onS kb hx)).2,ao.on hx⟩
 rw [Z.out] at O ⊢
 have a1:U.pw N' 0=fun t=>cntK (wtK (P' ^ M') (addF P' M') (mulF P' M' fun i=>(f i).toNat) n N' (natT V)) t ((P' ^ M') ^ n):=funext fun t=>zjl HL.out HC.out.rref a0.out Z.out ax.out t
 have bf:=hid a1
 rw [a1] at O
 have av:=hid O
 replace KB:=hid (onS KB.out kb);clear kb O a1 ao t0 t1 Y ad o
 obtain ⟨q0,q1,q2,q3,q4⟩:=b.out _ KB.out
 go_wp2_with fail
 refine (zeh P' M' (fun i=>(f i).toNat) A k c N' TC n d (natT V) w6 (HC.out.on (onS HB.out KB.out)) (Nat.le_trans m.out (by omega))).mono ?_
 rintro e w7 ⟨kb,g,hg,rfl,B⟩
 have J:=hid B
 have p:=hid (av.out.on kb)
 have b7:Hid (∀ X,Below w7.heap.size w7 X->X.cell? ⟨b1,0,none⟩=some (.slice GA U.nw gc)/\X.cell? ⟨b1,1,none⟩=some (.slice HA U.n hc)/\U.Reads X GA HA):=hid fun X hx=>am.out X (onS kb hx)
 replace KB:=hid (onS KB.out kb);clear kb B q0 q1 q2 q3 q4 av am
 obtain ⟨L,aa⟩:=exx (N'+1)
 have bw:=hid aa
 have e1:((N':Int)+1)=(L:Int):=by omega
 rw [<-aa] at J p ⊢
 have bb:L<=65:=by omega
 have bq:((L:Int) != (L:Int))=false:=by simp
 clear aa
 obtain ⟨q0,q1,q2,q3,q4⟩:=b.out _ KB.out
 go_upto_region 11 with fail
 have E:NatTab w7 w7.heap.size WA L (fun t=>cntK (wtK (P' ^ M') (addF P' M') (mulF P' M' fun i=>(f i).toNat) n N' (natT V)) t ((P' ^ M') ^ n)):=by
  obtain ⟨A2,c2,e,_,_,ht⟩:=p.out.tab
  injection e with e _ _
  rw [e]
  exact ht
 have ac:=hid E
 clear E p q0 q1 q2 q3 q4
 go_loopg [9] L (fun gg iv wx=>∃ i:Nat,iv=.int .i64 (i:Nat)/\i<=L/\L<=i+gg/\Hid (Below w7.heap.size w7 wx))
 case atStart=>exact ⟨0,rfl,by omega,by omega,hid (Below.refl _ _)⟩
 obtain ⟨i,rfl,hi,br,KX⟩:=hrel
 have bt:(0:Int)<=(i:Int):=by omega
 obtain ⟨w8,ay⟩:=exx wr
 subst ay
 obtain ⟨_,_,_,q3,_⟩:=b.out _ (onS KB.out KX.out)
 by_cases hin:i<L
 ·have bs:(i:Int)<(L:Int):=by omega
  have b4:(i:Int)<=(N':Int):=by omega
  obtain ⟨tb,tof,XA,xc,b6,_,c0,aj,bo,l⟩:=(ac.out.on KX.out) i hin
  subst b6
  have v0:=(zab J.out KX.out).cell hin
  obtain ⟨ci,q⟩:=exx (cntK (wtK (P' ^ M') (addF P' M') (mulF P' M' fun i=>(f i).toNat) n N' (natT V)) i ((P' ^ M') ^ n))
  have bv:ci<=1024:=by rw [q]; exact Nat.le_trans (zg3 _ _ _) m.out
  replace c0:w8.cell? ⟨tb,tof+i,none⟩=some (.slice XA (dl ci) xc):=by rw [q]; exact c0
  replace v0:w8.cell? ⟨g,i,none⟩=some (.int .i64 (ci:Int)):=by rw [q]; exact v0
  replace aj:dl ci<=xc:=by rw [q]; exact aj
  replace l:NatOk w8 w8.heap.size XA ci:=by rw [q]; exact l
  have H:=hid l
  have b5:(0:Int)<=(ci:Int):=by omega
  have b3:max (0:Int) (ci:Int)=(ci:Int):=by omega
  have az:IntKind.u64.wrap (ci:Int)=(ci:Int):=by rw [IntKind.wrap_u64]; omega
  clear q l
  go_upto_region 13 with fail
  clear q3
  have kd:Below w8.heap.size w8 (World.drew w8):=(Below.refl _ _).drew
  replace c0:=cellS kd c0;replace v0:=cellS kd v0
  refine wp_region_held_drew (S:=fun X=>X.cell? ⟨tb,tof+i,none⟩=some (.slice XA (dl ci) xc)/\X.cell? ⟨g,i,none⟩=some (.int .i64 (ci:Int))) (by kernel_rfl) ⟨c0,v0⟩ (fun hHeld=>?_)
  obtain ⟨w9,hw⟩:=exx (World.drew w8)
  rw [<-hw] at hHeld c0 v0 kd ⊢
  have K9:=hid kd
  clear hw kd
  refine tkq 0 (h:=tkq 1 (h:=tkq 2 (h:=tkq 3 (h:=tkq 4 (h:=tkq 5 (h:=tkq 6 (h:=tkq 7 (h:=?_))))))))
  clear hHeld
  refine rdq 8 (h:=fun K hK=>?_)
  go_simp
  refine bkq hK ⟨c0,v0⟩ (h:=fun hHeld=>?_)
  clear hK K
  refine tkq 9 (h:=?_)
  clear hHeld
  refine rdq 10 (h:=fun K hK=>?_)
  go_simp
  go_wp2_with fail
  refine (zhk ci w9 (by omega)).mono ?_
  rintro e w10 ⟨YA,yc,rfl,bn,bm,r,kb⟩
  replace c0:=cellS kb c0;replace v0:=cellS kb v0
  have I:=hid ((H.out.on K9.out).on kb)
  have G:=hid r
  have au:=hid (onS K9.out kb)
  clear kb r K9 H
  refine bkq hK ⟨c0,v0⟩ (h:=fun hHeld=>?_)
  clear hK K hHeld
  refine rdq 11 (h:=fun K hK=>?_)
  go_simp
  go_wp2_with fail
  refine (zfn XA YA xc yc ci w10 I.out G.out (Nat.le_trans (zj6 (by omega)) (by omega))).mono ?_
  rintro e w11 ⟨rfl,kb⟩
  replace c0:=cellS kb c0;replace v0:=cellS kb v0
  have bd:=hid (onS KX.out (onS au.out kb))
  clear kb I G au
  refine bkq hK ⟨c0,v0⟩ (h:=fun hHeld=>?_)
  clear hK K
  refine tkq 12 (h:=?_)
  clear hHeld
  refine wpAnyH_done (by kernel_rfl) ?_ _
  clear c0 v0 KX
  go_wp2
  go_roundg (gk - 1)
  case measure=>omega
  case rel=>exact ⟨i+1,by go_num,by omega,by omega,bd⟩
 have b4:¬ (i:Int)<=(N':Int):=by omega
 obtain rfl:i=L:=by omega
 obtain ⟨mk,Q⟩:=exx (minK (wtK (P' ^ M') (addF P' M') (mulF P' M' fun i=>(f i).toNat) n N' (natT V)) N' ((P' ^ M') ^ n))
 have ai:n=0->mk=N'+1:=fun h=>by rw [Q]; exact zig h
 have ah:0<n->mk<=N':=fun h=>by rw [Q]; exact zih ag h
 have bh:=hid ai
 have bg:=hid ah
 have aw:=hid Q
 clear Q ai ah
 obtain ⟨t0,t1,an⟩:=b7.out _ KX.out
 have be:=hid an
 clear an
 go_wp2_with fail
 refine (zeJ U GA HA gc hc w8 be.out).mono ?_
 rintro e w9 ⟨kb,a3⟩
 rw [Z.out,bf.out,zif HL.out HC.out.rref,<-aw.out] at a3
 have a4:∃ (lw:Int) (SA:Option Addr) (sn sc:Nat) (ev:Int),e=.returned (.tuple #[.agg #[.int .i64 lw,.slice SA sn sc],.int .i64 ev])/\((n=0/\lw=0/\ev=11)∨(0<n/\lw=(mk:Int)/\ev=0)):=by
  rcases a3 with ⟨h9,_⟩ | ⟨_,h1,he⟩ | ⟨_,h1,LA,lc,he,_⟩
  ·exact absurd a0.out.E0 h9
  ·refine ⟨_,_,_,_,_,he,.inl ⟨?_,rfl,rfl⟩⟩
   refine Nat.eq_zero_of_not_pos fun h=>?_
   have:=bg.out h
   omega
  refine ⟨_,_,_,_,_,he,.inr ⟨?_,rfl,rfl⟩⟩
  refine Nat.pos_of_ne_zero fun h=>?_
  have:=bh.out h
  omega
 obtain ⟨lw,SA,sn,sc,ev,rfl,a⟩:=a4
 have j:=hid a
 replace KX:=hid (onS KX.out kb);clear kb a3 a t0 t1 q3
 go_upto_region 16 with fail
 have rl:(w9.alloc (Obj.cells #[.int .i64 lw,.slice SA sn sc] 73)).rowIs w9.heap.size 73 2 (matCell (.int .i64 lw) (.slice SA sn sc)):=zaw
 have kb:=aly w9 (Obj.cells #[.int .i64 lw,.slice SA sn sc] 73)
 obtain ⟨w10,s⟩:=exx (w9.alloc (Obj.cells #[.int .i64 lw,.slice SA sn sc] 73))
 rw [<-s] at rl kb ⊢;clear s
 obtain ⟨b2,ak⟩:=exx w9.heap.size
 rw [<-ak] at rl ⊢;clear ak
 have bi:Hid (∀ X,Below w10.heap.size w10 X->X.cell? ⟨b2,0,none⟩=some (.int .i64 lw)):=hid fun X hx=>(zab rl hx).cell (i:=0) (by omega)
 replace KX:=hid (onS KX.out kb);clear rl kb
 obtain ⟨q0,q1,q2,q3,q4⟩:=b.out _ (onS KB.out KX.out)
 go_wp2_with fail
 refine (zfX P' M' (fun i=>(f i).toNat) A k c N' TC n d (natT V) w10 (HC.out.on (onS HB.out (onS KB.out KX.out))) (Nat.le_trans m.out (by omega))).mono ?_
 rintro e w11 ⟨kb,a2⟩
 rw [<-aw.out] at a2
 have a4:∃ v,e=.returned (.tuple #[.int .i64 lw,v,.int .i64 ev]):=by
  rcases a2 with ⟨h0,he⟩ | ⟨h0,v,he⟩
  ·rcases j.out with ⟨_,rfl,rfl⟩ | ⟨h9,_,_⟩
   ·exact ⟨_,he⟩
   ·omega
  rcases j.out with ⟨h9,_,_⟩ | ⟨_,rfl,rfl⟩
  ·omega
  ·exact ⟨_,he⟩
 obtain ⟨v,rfl⟩:=a4
 have l0:=bi.out _ kb
 have bu:(ev == ev)=true:=by simp
 have bp:(lw == lw)=true:=by simp
 have HF:=hid (onS HB.out (onS KB.out (onS KX.out kb)))
 clear kb a2 q0 q1 q2 q3 q4 KX KB j
 go_wp2
 go_ret
 exact ⟨rfl,HF.out⟩
theorem viterbiWeights_law {H:Type} {enc:TypeId × Value->H} {w:World} {cs:Array Value}
  (h:Sees enc Tryz.prog w 0 (fun _=>true) true 27 cs.toList) :
  Calls Tryz.prog 8 #[.agg cs] w fun e w'=>e=.returned (.bool true)/\Below w.heap.size w w':=by
 obtain ⟨cs⟩:=cs
 obtain ⟨P,M,A,k,c1,N,T1,n,d,f,ln,V,rfl,_,_,a,_,_,_,hr,ht⟩:=zh0 h
 exact zb7 P M A k c1 f N T1 n d ln V w hr ht
end Go.Proofs.YtgekjfpapmlndaaGreat