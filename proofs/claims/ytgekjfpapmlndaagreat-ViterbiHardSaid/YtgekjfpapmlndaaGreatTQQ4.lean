/- Merged texts of a claim. -/
import Derived.Test.YtgekjfpapmlndaaGreatTM14
import Derived.Test.YtgekjfpapmlndaaGreatTQQ3
namespace Go.Proofs.YtgekjfpapmlndaaGreat
set_option maxRecDepth 100000
set_option maxHeartbeats 32000000
open Go.RowKit Go.ChangeShapes Go.WideShapes Go.ChangeAt
theorem ybf {P M : Int} {A : Option Addr} {k : Nat} {f : Nat → Int} {N : Int} {TC : Option Addr} {n : Nat} {ln : Nat → Nat} {V : Nat → Nat → Int} {l : Nat} {u : Nat → Int} {w0 w w' : World} {e : Ending} {v : Int} (hr : IntsR w0 w0.heap.size A k f) (h : IntRows w0 TC n ln V)
    (h1:HardPost P M k f N n ln V l u w e w') (h2:HardV P M k f N n ln V l u v) :
    (v ≠ 0 ∧ e = .returned (.tuple #[.slice none 0 0, .int .i64 0, .int .i64 v])) ∨ (v = 0 ∧ FirstErr (CodeErrs P M k f N n ln V) 0 ∧ ¬ BigC P M k f N n V ∧ ∃ P' M' : Nat, P = P' ∧ M = M' ∧ N = (l : Int) ∧ AllIn (P' ^ M') l u ∧
      ∃ g x,e=.returned (.tuple #[.slice (some ⟨g,0,none⟩) l l,.int .i64 (costW (hardC u) x l),.int .i64 0])/\w'.rowIs g 3 l (fun i=>.int .i64 ((x i:Nat):Int))/\InSp (P' ^ M') (addF P' M') (mulF P' M' fun i=>(f i).toNat) n l (natT V) x /\
           ∀ z,InSp (P' ^ M') (addF P' M') (mulF P' M' fun i=>(f i).toNat) n l (natT V) z->costW (hardC u) x l<=costW (hardC u) z l/\(costW (hardC u) z l=costW (hardC u) x l->(∀ t,t<l->x t=z t)∨LexLt (fun t=>((x t:Nat):Int)) (fun t=>((z t:Nat):Int)) l)):=by
  obtain ⟨_,x,hx,h1⟩:=h1
  obtain ⟨y,hy,h2⟩:=h2
  obtain rfl:x=y:=WordV.unique hx hy
  rcases h1 with ⟨h0,rfl⟩ | ⟨rfl,P',M',rfl,rfl,rfl,hAI,w2,hw2,hd⟩
  · rcases h2 with ⟨_,rfl⟩ | ⟨h3,_⟩
    · exact .inl ⟨h0,rfl⟩
    · exact absurd h3 h0
  · rcases h2 with ⟨h3,_⟩ | ⟨_,u1,hu1,h2⟩
    · exact absurd rfl h3
    obtain ⟨_,u0,hu0,hd⟩:=hd
    have hz:FirstErr (CodeErrs (P':Int) (M':Int) k f (l:Int) n ln V) 0:=by
      obtain ⟨x',hx',⟨h8,h9⟩ | ⟨rfl,_⟩⟩:=hx
      · exact absurd h9.symm h8
      · exact hx'
    obtain rfl:0=u0:=FirstErr.unique hz hu0
    obtain rfl:0=u1:=FirstErr.unique hz hu1
    rcases hd with ⟨h3,_⟩ | ⟨_,P2,M2,N2,e1,e2,e3,hd⟩
    · exact absurd rfl h3
    obtain rfl:P'=P2:=by omega
    obtain rfl:M'=M2:=by omega
    obtain rfl:l=N2:=by omega
    rcases hd with ⟨h3,_⟩ | ⟨_,h3,_⟩ | ⟨_,_,pv,R,hSF,hSP,hDI,hd⟩
    · exact absurd ⟨rfl,fun _ _=>rfl⟩ h3
    · refine absurd ?_ h3
      intro i _ a _
      unfold hardC
      split <;> omega
    rcases h2 with ⟨h3,_⟩ | ⟨_,P2,M2,N2,e1,e2,e3,pr,se,hp,hs,h2⟩
    · exact absurd rfl h3
    obtain rfl:P'=P2:=by omega
    obtain rfl:M'=M2:=by omega
    obtain rfl:l=N2:=by omega
    obtain ⟨P3,M3,N3,g1,g2,g3,hC⟩:=zb5 hr h hz
    obtain rfl:P'=P3:=by omega
    obtain rfl:M'=M3:=by omega
    obtain rfl:l=N3:=by omega
    have hsz:=yaS (fieldLaws hC.fld) hSF hC.rref.choose_spec.lt hSP hDI hp hs
    rcases hd with ⟨h5,rfl⟩ | ⟨h5,g,x,he,hrow,hg,hin,hopt⟩
    · rcases h2 with ⟨h7,_⟩ | ⟨_,rfl⟩
      · exact absurd (hsz.1 h7) h5
      · exact .inl ⟨by omega,rfl⟩
    · rcases h2 with ⟨_,rfl⟩ | ⟨h7,_⟩
      · refine .inr ⟨rfl,hz,?_,P',M',rfl,rfl,rfl,hAI,g,x,he,hrow,hin,hopt⟩
        rintro ⟨P4,M4,N4,f1,f2,f3,pr2,se2,hp2,hs2,h8⟩
        obtain rfl:P'=P4:=by omega
        obtain rfl:M'=M4:=by omega
        obtain rfl:l=N4:=by omega
        exact h8 ((yaS (fieldLaws hC.fld) hSF hC.rref.choose_spec.lt hSP hDI hp2 hs2).2 h5)
      · exact absurd (hsz.2 h5) h7
theorem yad (u:Nat->Int) (z:Nat->Nat):∀ N,costW (hardC u) z N=((disN (fun j=>((z j:Nat):Int)) u N:Nat):Int)
 | 0=>rfl
 | N+1=>by
  show costW (hardC u) z N+hardC u N (z N)=((disN (fun j=>((z j:Nat):Int)) u N+(if ((z N:Nat):Int)=u N then 0 else 1):Nat):Int)
  rw [yad u z N]
  unfold hardC
  split <;> push_cast <;> omega
theorem yaj (P M:Int) (A:Option Addr) (k c:Nat) (f:Nat->Int) (N:Int) (TC:Option Addr) (n d:Nat) (ln:Nat->Nat) (V:Nat->Nat->Int) (U:Option Addr) (l uc:Nat) (u:Nat->Int) (w:World) (hr:IntsR w w.heap.size A k f) (h:IntRows w TC n ln V) (hu:IntsR w w.heap.size U l u) (hlu:l<=uc) (hl:l<=9223372036854775807) :
  Calls Tryz.prog 11 #[.agg #[.int .i64 P,.int .i64 M,.slice A k c,.int .i64 N,.slice TC n d],.slice U l uc] w fun e w'=>e=.returned (.bool true)/\Below w.heap.size w w':=by
 have HI:=hid hr
 have HT:=hid h
 have HU:=hid hu
 clear hr h hu
 have rf:=zai (w:=w) (a:=.int .i64 P) (b:=.int .i64 M) (c:=.slice A k c) (d:=.int .i64 N) (e:=.slice TC n d) (T := 27)
 have hB:Below w.heap.size w (w.alloc (.cells #[.int .i64 P,.int .i64 M,.slice A k c,.int .i64 N,.slice TC n d] 27)):=(Below.refl _ _).alloc (Nat.le_refl _) _
 obtain ⟨w1,hw1⟩:∃ W,W=w.alloc (.cells #[.int .i64 P,.int .i64 M,.slice A k c,.int .i64 N,.slice TC n d] 27):=⟨_,rfl⟩
 rw [<-hw1] at hB rf
 go_enter Tryz.func11, Tryz.ntmps11
 go_upto_region 1 with fail
 rw [<-hw1];clear hw1
 obtain ⟨b0,hb0⟩:∃ b,b=w.heap.size:=⟨_,rfl⟩
 rw [<-hb0] at rf;rw [<-hb0];clear hb0
 have HBOX:Hid (∀ X,Below w1.heap.size w1 X->(X.cell? ⟨b0,0,none⟩=some (.int .i64 P)/\X.cell? ⟨b0,1,none⟩=some (.int .i64 M)/\X.cell? ⟨b0,2,none⟩=some (.slice A k c)/\X.cell? ⟨b0,3,none⟩=some (.int .i64 N)/\X.cell? ⟨b0,4,none⟩=some (.slice TC n d))):=hid fun X hx =>
  ⟨(zab rf hx).cell (i:=0) (by omega),(zab rf hx).cell (i:=1) (by omega),(zab rf hx).cell (i:=2) (by omega),(zab rf hx).cell (i:=3) (by omega),(zab rf hx).cell (i:=4) (by omega)⟩
 have HB:=hid hB
 clear hB rf
 obtain ⟨q0,q1,q2,q3,q4⟩:=HBOX.out _ (Below.refl _ _)
 go_wp2_with fail
 refine (yaD P M A k c f N TC n d ln V w1 (HI.out.on HB.out) (HT.out.on HB.out)).mono ?_
 rintro e w2 ⟨kb,b,rfl,hsm⟩
 have HSM:=hid hsm
 have KB:=hid kb
 clear kb hsm q0 q1 q2 q3 q4
 cases b with
 | false =>
  go_wp2_with fail
  refine (yac _).mono ?_
  rintro e w3 ⟨rfl,kb⟩
  replace KB:=hid (onS KB.out kb);clear kb
  go_wp2
  go_ret
  exact ⟨rfl,onS HB.out KB.out⟩
 | true =>
  obtain ⟨q0,q1,q2,q3,q4⟩:=HBOX.out _ KB.out
  go_wp2_with fail
  refine (ybx P M A k c f N TC n d ln V U l uc u w2 (HI.out.on (onS HB.out KB.out)) (HT.out.on (onS HB.out KB.out)) (HU.out.on (onS HB.out KB.out)) hlu).mono ?_
  rintro e w3 hh
  have kb:=hh.1
  have hform:∃ (GA:Option Addr) (gn gc:Nat) (cst ev:Int),e=.returned (.tuple #[.slice GA gn gc,.int .i64 cst,.int .i64 ev]):=by
   rcases hh.2 with ⟨_,_,⟨_,h⟩ | ⟨_,_,_,_,_,_,_,w5,_,hd⟩⟩
   ·exact ⟨_,_,_,_,_,h⟩
   ·rcases hd.2 with ⟨u,_,⟨_,h⟩ | ⟨_,P',M',N',_,_,_,⟨_,h⟩ | ⟨_,_,h⟩ | ⟨_,_,pv,R,_,_,_,⟨_,h⟩ | ⟨_,g,x,h,_⟩⟩⟩⟩ <;> exact ⟨_,_,_,_,_,h⟩
  obtain ⟨GA,gn,gc,cst,ev,rfl⟩:=hform
  have HH:=hid hh
  have K3:=hid kb
  replace KB:=hid (onS KB.out kb);clear kb hh q0 q1 q2 q3 q4
  obtain ⟨q0,q1,q2,q3,q4⟩:=HBOX.out _ KB.out
  go_wp2_with fail
  refine (ybe P M A k c f N TC n d ln V U l uc u w3 (HI.out.on (onS HB.out KB.out)) (HT.out.on (onS HB.out KB.out)) (HU.out.on (onS HB.out KB.out)) hl).mono ?_
  rintro e w4 ⟨kb,v,rfl,hv⟩
  have hcase:=ybf HI.out HT.out HH.out hv
  have HKB:=hid kb
  replace KB:=hid (onS KB.out kb);clear kb hv HH q0 q1 q2 q3 q4
  rcases hcase with ⟨hv0,he⟩ | ⟨rfl,hE0,hnb,P',M',rfl,rfl,rfl,hAI,g,x,he,hrow,hin,hopt⟩
  ·have he2:(GA=none/\gn=0/\gc=0)/\cst=0/\ev=v:=by simpa using he
   obtain ⟨⟨rfl,rfl,rfl⟩,rfl,rfl⟩:=he2
   have hne:(ev != ev)=false:=by simp
   have hnz:(ev != 0)=true:=by simpa using hv0
   clear he hv0
   go_wp2_with fail
   refine (yac _).mono ?_
   rintro e w5 ⟨rfl,kb⟩
   replace KB:=hid (onS KB.out kb);clear kb
   go_wp2
   go_ret
   exact ⟨rfl,onS HB.out KB.out⟩
  ·have he2:(GA=some ⟨g,0,none⟩/\gn=l/\gc=l)/\cst=costW (hardC u) x l/\ev=0:=by simpa using he
   obtain ⟨⟨rfl,rfl,rfl⟩,hcst,rfl⟩:=he2
   obtain ⟨P2,M2,N2,e1,e2,e3,hC⟩:=zb5 HI.out HT.out hE0
   obtain rfl:P'=P2:=by omega
   obtain rfl:M'=M2:=by omega
   obtain rfl:gc=N2:=by omega
   have hsz:(P' ^ M') ^ n<=512:=by
    rcases HSM.out trivial with h1 | h1 | h1
    ·exact absurd hE0 h1
    ·simpa only [Int.toNat_natCast] using h1
    ·exact absurd h1 hnb
   have HCST:=hid hcst
   have HIN:=hid hin
   have HOPT:=hid hopt
   have HGR:Hid (IntsR w4 w4.heap.size (some ⟨g,0,none⟩) gc (fun i=>((x i:Nat):Int))):=hid (zaH (zab hrow HKB.out))
   have HC:=hid hC
   have hN64:=hC.ln2
   clear he hcst hE0 hnb hAI hrow hin hopt hC HKB K3 HSM e1 e2 e3
   have hne:((0:Int) != 0)=false:=by simp
   go_wp2_with fail
   refine (yac _).mono ?_
   rintro e w5 ⟨rfl,kb⟩
   replace HGR:=hid (HGR.out.on kb);replace KB:=hid (onS KB.out kb);clear kb
   obtain ⟨q0,q1,q2,q3,q4⟩:=HBOX.out _ KB.out
   go_wp2_with fail
   refine (yaB P' M' (fun i=>(f i).toNat) A k c gc TC n d (natT V) w5 (HC.out.on (onS HB.out KB.out)) (by omega)).mono ?_
   rintro e w6 ⟨lv,rfl,hM,kb⟩
   obtain ⟨LA,lcp,hlv⟩:=hM.shape
   subst hlv
   have hL:=fieldLaws HC.out.fld
   have hq2:=hL.two
   have hmr:=hM.rd HC.out.fld.1.2.2.2 (fun i _ j _=>zbb hL _ _ _)
   obtain ⟨mw,hmw⟩:∃ mw,mw=(P' ^ M') ^ n:=⟨_,rfl⟩
   have hmw1:1<=mw:=by rw [hmw]; exact Nat.pow_pos (by omega)
   rw [<-hmw] at hsz hmr ⊢
   have HMW:=hid hmw
   have HWR:Hid (IntRows w6 LA mw (fun _=>gc) (fun t j=>((spE (addF P' M') (mulF P' M' fun i=>(f i).toNat) (natT V) (msgD (P' ^ M') n t) n j:Nat):Int))):=hid hmr
   replace HGR:=hid (HGR.out.on kb);replace KB:=hid (onS KB.out kb)
   have HL:=hid hL
   clear kb hM hmr hmw hL q0 q1 q2 q3 q4
   go_wp2_with fail
   refine (yaW false LA U mw lcp gc uc (fun t j=>((spE (addF P' M') (mulF P' M' fun i=>(f i).toNat) (natT V) (msgD (P' ^ M') n t) n j:Nat):Int)) u w6 HWR.out (HU.out.on (onS HB.out KB.out)) (by omega) (by omega)).mono ?_
   rintro e w7 ⟨wv,bv,rfl,hat,kb⟩
   have hfin:bv=.int .i64 cst/\∃ RA rc,wv=.slice RA gc rc/\IntsR w7 w7.heap.size RA gc (fun i=>((x i:Nat):Int)):=by
    obtain ⟨h1,h2⟩:=yas (D:=fun i=>disN (fun j=>((spE (addF P' M') (mulF P' M' fun i=>(f i).toNat) (natT V) (msgD (P' ^ M') n i) n j:Nat):Int)) u gc) (oth:=false) mw
    rcases hat with ⟨hn,_,_⟩ | ⟨b,RA,rc,hn,hbm,rfl,rfl,hRA⟩
    ·exact absurd (h1 hn 0 (by omega)).1 (by simp)
    ·obtain ⟨g1,_,g3⟩:=h2 b hn
     obtain ⟨c1,c2⟩:=yaH HL.out HC.out.rref HIN.out HOPT.out (b:=b) (by rw [<-HMW.out]; exact hbm) (fun t ht=>by
      rw [yad,yad]
      exact Int.ofNat_le.2 (g3 t (by rw [HMW.out]; exact ht) (by simp)).1) (fun t ht=>by
      rw [yad,yad]
      exact Int.ofNat_lt.2 ((g3 t (by omega) (by simp)).2 ht))
     refine ⟨?_,RA,rc,rfl,hRA.congr fun j hj=>by rw [c2 j hj]⟩
     rw [HCST.out,c1,yad]
   obtain ⟨rfl,RA,rc,rfl,hRA⟩:=hfin
   have HRA:=hid hRA
   replace HGR:=hid (HGR.out.on kb);replace KB:=hid (onS KB.out kb)
   have hcc:(cst == cst)=true:=by simp
   clear hat hRA kb
   go_wp2_with fail
   refine (yau (some ⟨g,0,none⟩) RA gc gc rc (fun i=>((x i:Nat):Int)) w7 HGR.out HRA.out (by omega)).mono ?_
   rintro e w8 ⟨rfl,kb⟩
   replace KB:=hid (onS KB.out kb);clear kb
   go_wp2
   go_ret
   exact ⟨rfl,onS HB.out KB.out⟩
theorem viterbiHard_law {H:Type} {enc:TypeId × Value->H} {w:World} {cs:Array Value} {u:Value}
  (h:Sees enc Tryz.prog w 0 (fun _=>true) true 27 cs.toList) (hu:Sees enc Tryz.prog w 0 (fun _=>true) true 22 [u]) :
  Calls Tryz.prog 11 #[.agg cs,u] w fun e w'=>e=.returned (.bool true)/\Below w.heap.size w w':=by
 obtain ⟨cs⟩:=cs
 obtain ⟨P,M,A,k,c1,N,T1,n,d,f,ln,V,rfl,_,_,_,_,_,_,hr,ht⟩:=zhH h
 obtain ⟨UA,l,uc,ms,e2,hl1,hl2,hI,_⟩:=zez Tryz.underlying22 Tryz.underlying3 (by kernel_rfl) hu
 injection e2 with e2 _
 subst e2
 exact yaj P M A k c1 f N T1 n d ln V UA l uc ms w hr ht hI hl1 (by unfold maxLen at hl2; omega)
end Go.Proofs.YtgekjfpapmlndaaGreat