/- Merged texts of a claim: VPot, RPot, Near23, PotsLaw. -/
import Derived.Test.YtioagplajkoohaaGreatTQ7
import Derived.Test.YtioagplajkoohaaGreatTQ14
import Derived.Test.YtioagplajkoohaaGreatTQ16
import Derived.Test.YtioagplajkoohaaGreatTQ17
namespace Go.Proofs.YtioagplajkoohaaGreat
set_option maxRecDepth 100000
set_option maxHeartbeats 32000000
open KA KB KC KD KE KF
open Go.RowKit Go.ChangeShapes Go.WideShapes Go.ChangeAt
def PotPost (P M : Int) (k : Nat) (f : Nat → Int) (N : Int) (n : Nat) (ln : Nat → Nat) (V : Nat → Nat → Int) (T : Trel) (w : World) (e : Ending) (w' : World) : Prop :=
  Below w.heap.size w w'/\∃ u,TChk P M k f N n ln V T u /\
    ((u≠0/\e=.returned (.tuple #[.agg #[.int .i64 0,.slice none 0 0],.int .i64 u])) ∨
     (u=0/\n=0/\e=.returned (.tuple #[.agg #[.int .i64 0,.slice none 0 0],.int .i64 11])) ∨
     (u=0/\1<=n/\∃ ze nd,T.ZP ze nd/\∃ g F base,e=.returned (.tuple #[.agg #[.int .i64 (T.pot nd T.n 0),.slice (some ⟨g,0,none⟩) T.nw T.nw],.int .i64 0])/\IntTab w' g base T.nw F (fun i=>(T.W i).toNat) (T.pot nd)))
theorem IntTab.other {w:World} {g base m b j:Nat} {F:Nat->Value} {n:Nat->Nat} {x:Nat->Nat->Int} (h:IntTab w g base m F n x) (hb:b≠g) (hb2:b<base) (v:Value):IntTab (w.setCell ⟨b,j,none⟩ v) g base m F n x :=
 ⟨h.row.setOther (by simp; omega) _,fun u hu=>(h.own u hu).setCell (a:=⟨b,j,none⟩) (fun e=>by have h5:base<=b:=((h.own u hu).lt _ e).1; omega) _,h.apart⟩
theorem IntTab.fresh {w w':World} {g base m:Nat} {F:Nat->Value} {n:Nat->Nat} {x:Nat->Nat->Int} (h:IntTab w g base m F n x) (hgb:g<base) (hbw:base<=w.heap.size) (kb:Below w.heap.size w w') {v:Nat} (hv:v<m) {v':Value} {k':Nat} {y:Nat->Int} (hown:Own w' w.heap.size 3 1 v' k' (fun i _=>.int .i64 (y i))) :
  IntTab (w'.setCell ⟨g,v,none⟩ v') g base m (fun u=>if u=v then v' else F u) (fun u=>if u=v then k' else n u) (fun u=>if u=v then y else x u):=by
 have h1:=h.on kb
 refine ⟨(h1.row.set v v').congr fun u _=>by split <;> rfl,fun u hu=>?_,fun a b ha hb hab=>?_⟩
 ·by_cases e:u=v
  ·subst e
   simp only [if_true]
   exact (hown.mono hbw).setCell (fun e=>by have h5:w.heap.size<=g:=(hown.lt _ e).1; omega) _
  ·simp only [if_neg e]
   exact (h1.own u hu).setCell (fun e=>by have h5:base<=g:=((h1.own u hu).lt _ e).1; omega) _
 ·by_cases ea:a=v
  ·have eb:¬ b=v:=fun e=>hab (by rw [ea,e])
   simp only [if_pos ea,if_neg eb]
   cases hfa:v'.ownBlock with
   | none=>exact .inl rfl
   | some k =>
    right
    intro e2
    have h5:=(hown.lt k hfa).1
    have h6:=((h.own b hb).lt k e2.symm).2
    omega
  ·simp only [if_neg ea]
   by_cases eb:b=v
   ·simp only [if_pos eb]
    cases hfa:(F a).ownBlock with
    | none=>exact .inl rfl
    | some k =>
     right
     intro e2
     have h5:=(hown.lt k e2.symm).1
     have h6:=((h.own a ha).lt k hfa).2
     omega
   ·simp only [if_neg eb]; exact h.apart a b ha hb hab
def Trel.potL (T:Trel) (nd:Nat->Nat) (i j:Nat):Nat->Nat->Int:=fun u v=>if u<=i then T.pot nd u v else if u=i+1 then T.potE nd (T.pot nd i) i j v else 4611686018427387904
theorem Trel.potL_in {T:Trel} {nd:Nat->Nat} {i j u v:Nat}:1<=T.potL nd i j u v/\T.potL nd i j u v<=4611686018427387904:=by
 unfold Trel.potL
 split
 ·exact Trel.pot_in _ _
 ·split
  ·exact Trel.potE_in (fun v=>Trel.pot_in i v) _ _
  ·omega
theorem Trel.potL_zero {T:Trel} {nd:Nat->Nat} (u v:Nat):T.potL nd 0 0 u v=4611686018427387904:=by
 unfold Trel.potL
 split
 ·rename_i h
  obtain rfl:u=0:=by omega
  rfl
 ·split <;> rfl
theorem Trel.potL_next {T:Trel} {nd:Nat->Nat} {i:Nat} (u v:Nat):T.potL nd i (T.el i) u v=T.potL nd (i+1) 0 u v:=by
 unfold Trel.potL
 by_cases h1:u<=i
 ·rw [if_pos h1,if_pos (by omega)]
 ·rw [if_neg h1]
  by_cases h2:u=i+1
  ·rw [if_pos h2,if_pos (by omega),h2]; rfl
  ·rw [if_neg h2,if_neg (by omega)]
   split <;> rfl
theorem Trel.potL_step {T:Trel} {nd:Nat->Nat} {i j:Nat} (u v:Nat):updI (T.potL nd i j) (i+1) (T.to i j).toNat (min (T.potL nd i j (i+1) (T.to i j).toNat) (bndV (T.fr i j) (T.lb i j) (T.potL nd i j i (T.fr i j).toNat) (nd i))) u v=T.potL nd i (j+1) u v:=by
 have e1:T.potL nd i j i (T.fr i j).toNat=T.pot nd i (T.fr i j).toNat:=if_pos (Nat.le_refl _)
 have e2:∀ v,T.potL nd i j (i+1) v=T.potE nd (T.pot nd i) i j v:=fun v=>by
  unfold Trel.potL
  rw [if_neg (by omega),if_pos rfl]
 rw [e1]
 by_cases h1:u=i+1
 ·subst h1
  have e3:T.potL nd i (j+1) (i+1) v=if (T.to i j).toNat=v then min (T.potE nd (T.pot nd i) i j v) (bndV (T.fr i j) (T.lb i j) (T.pot nd i (T.fr i j).toNat) (nd i)) else T.potE nd (T.pot nd i) i j v:=by
   unfold Trel.potL
   rw [if_neg (by omega),if_pos rfl]
   rfl
  rw [e3]
  by_cases h2:(T.to i j).toNat=v
  ·subst h2
   rw [zil,if_pos rfl,e2]
  ·rw [zcY (fun h=>h2 h.2.symm),if_neg h2,e2]
 ·rw [zcY (fun h=>h1 h.1)]
  unfold Trel.potL
  by_cases h2:u<=i
  ·rw [if_pos h2,if_pos h2]
  ·rw [if_neg h2,if_neg h2,if_neg h1,if_neg h1]
theorem zi3 (P M:Int) (A:Option Addr) (k c:Nat) (f:Nat->Int) (N:Int) (TC:Option Addr) (n d:Nat) (ln:Nat->Nat) (V:Nat->Nat->Int) (T:Trel) (TA TB:Option Addr) (ca cb:Nat) (w:World) (hr:IntsR w w.heap.size A k f) (h:IntRows w TC n ln V) (hkc:k<=c) (hT:T.Reads w TA TB) :
  Calls Tryz.prog 56 #[.agg #[.int .i64 P,.int .i64 M,.slice A k c,.int .i64 N,.slice TC n d],.agg #[.slice TA T.nw ca,.slice TB T.n cb]] w (PotPost P M k f N n ln V T w):=by
 have HI:=hid hr
 have HT:=hid h
 have HR:=hid hT
 clear hr h hT
 have rf:=zam (w:=w) (a:=.int .i64 P) (b:=.int .i64 M) (c:=.slice A k c) (d:=.int .i64 N) (e:=.slice TC n d) (T := 27)
 have hB:Below w.heap.size w (w.alloc (.cells #[.int .i64 P,.int .i64 M,.slice A k c,.int .i64 N,.slice TC n d] 27)):=(Below.refl _ _).alloc (Nat.le_refl _) _
 obtain ⟨w1,hw1⟩:∃ W,W=w.alloc (.cells #[.int .i64 P,.int .i64 M,.slice A k c,.int .i64 N,.slice TC n d] 27):=⟨_,rfl⟩
 rw [<-hw1] at hB rf
 have rt:=zae (w:=w1) (a:=.slice TA T.nw ca) (b:=.slice TB T.n cb) (T := 74)
 have kb:Below w1.heap.size w1 (w1.alloc (.cells #[.slice TA T.nw ca,.slice TB T.n cb] 74)):=(Below.refl _ _).alloc (Nat.le_refl _) _
 have hsz2:(w1.alloc (.cells #[.slice TA T.nw ca,.slice TB T.n cb] 74)).heap.size=w1.heap.size+1:=by simp
 obtain ⟨w2,hw2⟩:∃ W,W=w1.alloc (.cells #[.slice TA T.nw ca,.slice TB T.n cb] 74):=⟨_,rfl⟩
 rw [<-hw2] at kb rt hsz2;replace rf:=zaa rf kb;replace hB:=onS hB kb
 have hsz1:w1.heap.size=w.heap.size+1:=by rw [hw1]; simp
 rw [hsz1] at rt hsz2
 have rp:=zae (w:=w2) (a:=.int .i64 0) (b:=.slice none 0 0) (T := 81)
 have kb2:Below w2.heap.size w2 (w2.alloc (.cells #[.int .i64 0,.slice none 0 0] 81)):=(Below.refl _ _).alloc (Nat.le_refl _) _
 obtain ⟨w3,hw3⟩:∃ W,W=w2.alloc (.cells #[.int .i64 0,.slice none 0 0] 81):=⟨_,rfl⟩
 rw [<-hw3] at kb2 rp;rw [hsz2] at rp;replace rf:=zaa rf kb2;replace rt:=zaa rt kb2;replace hB:=onS hB kb2
 go_enter Tryz.func56, Tryz.ntmps56
 go_upto_region 1 with fail
 rw [<-hw1,<-hw2,<-hw3];clear hw1 hw2 hw3 kb kb2 hsz1 hsz2
 obtain ⟨b0,hb0⟩:∃ b,b=w.heap.size:=⟨_,rfl⟩
 obtain ⟨b1,hb1⟩:∃ b,b=w.heap.size+1:=⟨_,rfl⟩
 obtain ⟨b2,hb2⟩:∃ b,b=w.heap.size+1+1:=⟨_,rfl⟩
 have hb2w:w.heap.size<=b2:=by omega
 rw [<-hb0] at rf;rw [<-hb1] at rt;rw [<-hb2] at rp;rw [<-hb2,<-hb1,<-hb0];clear hb0 hb1 hb2
 have HBOX:Hid (∀ X,Below w3.heap.size w3 X->(X.cell? ⟨b0,0,none⟩=some (.int .i64 P)/\X.cell? ⟨b0,1,none⟩=some (.int .i64 M)/\X.cell? ⟨b0,2,none⟩=some (.slice A k c)/\X.cell? ⟨b0,3,none⟩=some (.int .i64 N)/\X.cell? ⟨b0,4,none⟩=some (.slice TC n d))/\(X.cell? ⟨b1,0,none⟩=some (.slice TA T.nw ca)/\X.cell? ⟨b1,1,none⟩=some (.slice TB T.n cb))/\X.rowIs b2 81 2 (matCell (.int .i64 0) (.slice none 0 0))):=hid fun X hx =>
  ⟨⟨(zaa rf hx).cell (i:=0) (by omega),(zaa rf hx).cell (i:=1) (by omega),(zaa rf hx).cell (i:=2) (by omega),(zaa rf hx).cell (i:=3) (by omega),(zaa rf hx).cell (i:=4) (by omega)⟩,⟨(zaa rt hx).cell (i:=0) (by omega),(zaa rt hx).cell (i:=1) (by omega)⟩,zaa rp hx⟩
 have HB:=hid hB
 clear hB rf rt rp
 obtain ⟨⟨q0,q1,q2,q3,q4⟩,⟨p0,p1⟩,_⟩:=HBOX.out _ (Below.refl _ _)
 go_wp2_with fail
 refine (zet P M A k c f N TC n d ln V T TA TB ca cb w3 (HI.out.on HB.out) (HT.out.on HB.out) hkc (HR.out.on HB.out)).mono ?_
 rintro e w4 ⟨u,rfl,hu,kb⟩
 have HU:=hid hu
 have KB:=hid kb
 clear hu kb q0 q1 q2 q3 q4 p0 p1
 obtain ⟨⟨_,_,_,_,q4⟩,⟨p0,p1⟩,hrp⟩:=HBOX.out _ KB.out
 have r0:=hrp.cell (i:=0) (by omega)
 have r1:=hrp.cell (i:=1) (by omega)
 have z0:=hrp.frozen 0
 have z1:=hrp.frozen 1
 have y0:=hrp.set 0 (.int .i64 0)
 have y1:=y0.cell (i:=1) (by omega)
 rw [if_neg (by omega)] at y1
 have y2:=y0.frozen 1
 have y3:=y0.set 1 (.slice none 0 0)
 have y4:=y3.cell (i:=0) (by omega)
 have y5:=y3.cell (i:=1) (by omega)
 rw [if_neg (by omega),if_pos rfl] at y4
 rw [if_pos rfl] at y5
 have HBF:=hid (((onS HB.out KB.out).setCell (p:=⟨b2,0,none⟩) hb2w (.int .i64 0)).setCell (p:=⟨b2,1,none⟩) hb2w (.slice none 0 0))
 clear y0 y3
 by_cases hu0:u=0
 rotate_left
 ·have hub:(u != 0)=true:=by simpa using hu0
  have HU0:=hid hu0
  clear hu0 hrp q4 p0 p1
  go_wp2
  refine bodyPost_ret (v:=.tuple #[.agg #[.int .i64 0,.slice none 0 0],.int .i64 u]) (by simp [results,Tryz.results56, go_sem,y4,y5]) rfl ?_
  exact ⟨HBF.out,u,HU.out,.inl ⟨HU0.out,rfl⟩⟩
 subst hu0
 by_cases hn0:n=0
 ·have hnb:((n:Int) == 0)=true:=by simp [hn0]
  have HN0:=hid hn0
  clear hn0 hrp p0 p1
  go_wp2
  refine bodyPost_ret (v:=.tuple #[.agg #[.int .i64 0,.slice none 0 0],.int .i64 11]) (by simp [results,Tryz.results56, go_sem,y4,y5]) rfl ?_
  exact ⟨HBF.out,0,HU.out,.inr (.inl ⟨rfl,HN0.out,rfl⟩)⟩
 have hnb:((n:Int) == 0)=false:=by simp; omega
 have HN1:Hid (1<=n):=hid (by omega)
 clear hn0 r0 r1 z0 z1 y1 y2 y4 y5 HBF hrp
 obtain ⟨hp,ze,nd,hz⟩:=TChk.zp HI.out HT.out HU.out
 have HP:=hid hp
 have HZ:=hid hz
 have HSH:=hid hp.shape
 have hn64:=hp.shape.n64
 have HNW1:=hid hp.shape.nw
 have hnw65:T.nw<=65:=by have:=HNW1.out; omega
 have HW:Hid (∀ i,i<=T.n->1<=T.W i/\T.W i<=65536):=hid fun i hi=>hp.shape.wid hi
 have hNT:N=(T.n:Int):=by
  rcases HU.out with ⟨a1,_⟩ | ⟨a1,b1⟩
  ·exact absurd rfl a1
  ·rcases b1 with ⟨c1,d1⟩ | ⟨c1,P',M',N',e1,e2,e3,d1⟩
   ·exact absurd d1.symm c1
   ·rcases d1 with ⟨_,k1⟩ | ⟨g1,_⟩
    ·exact absurd k1 (by omega)
    ·omega
 have HNT:=hid hNT
 clear hp hz hNT
 go_upto_region 6 with fail
 clear hnb q4
 go_wp2_with fail
 refine (zeu T ze nd TA TB ca cb w4 (HR.out.on (onS HB.out KB.out)) HP.out HZ.out).mono ?_
 rintro r w5 ⟨zb,rfl,hzb,hzr,kb⟩
 have hzlt:=hzr.lt
 have HZR:=hid hzr
 have HB5:=hid (onS HB.out (onS KB.out kb))
 replace KB:=hid (onS KB.out kb);clear kb hzr p0 p1 hzb
 obtain ⟨_,⟨p0,p1⟩,_⟩:=HBOX.out _ KB.out
 have hmk:=fun W=>zaf (P:=Tryz.prog) 25 22 _ 24 Tryz.underlying25 Tryz.infoInts rfl (T.nw:Int) (by omega) (by omega) (by omega) W
 simp only [Int.toNat_natCast] at hmk
 go_upto_region 8 with fail
 have rz:World.rowIs (World.alloc w5 (Obj.cells (madeCells #[Value.slice none 0 0] T.nw) 22)) w5.heap.size 22 T.nw (fun _=>.slice none 0 0):=World.rowIs_made _ (.slice none 0 0) T.nw 22
 have kb:Below w5.heap.size w5 (World.alloc w5 (Obj.cells (madeCells #[Value.slice none 0 0] T.nw) 22)):=(Below.refl _ _).alloc (Nat.le_refl _) _
 have hs6:(World.alloc w5 (Obj.cells (madeCells #[Value.slice none 0 0] T.nw) 22)).heap.size=w5.heap.size+1:=by simp
 obtain ⟨w6,hw6⟩:∃ W,W=World.alloc w5 (Obj.cells (madeCells #[Value.slice none 0 0] T.nw) 22):=⟨_,rfl⟩
 rw [<-hw6] at rz kb hs6 ⊢
 have rp:=zae (w:=w6) (a:=.int .i64 0) (b:=.slice (some ⟨w5.heap.size,0,none⟩) T.nw T.nw) (T := 81)
 have kb2:Below w6.heap.size w6 (w6.alloc (.cells #[.int .i64 0,.slice (some ⟨w5.heap.size,0,none⟩) T.nw T.nw] 81)):=(Below.refl _ _).alloc (Nat.le_refl _) _
 have hs7:(w6.alloc (.cells #[.int .i64 0,.slice (some ⟨w5.heap.size,0,none⟩) T.nw T.nw] 81)).heap.size=w6.heap.size+1:=by simp
 obtain ⟨w7,hw7⟩:∃ W,W=w6.alloc (.cells #[.int .i64 0,.slice (some ⟨w5.heap.size,0,none⟩) T.nw T.nw] 81):=⟨_,rfl⟩
 rw [<-hw7] at rp kb2 hs7 ⊢;rw [hs6] at rp hs7
 have K7:=hid (onS kb kb2)
 have hb0w:w.heap.size<=w5.heap.size:=HB5.out.size
 have hb25:b2<w5.heap.size:=(HBOX.out _ KB.out).2.2.lt
 obtain ⟨lt,hlt⟩:∃ x,x=w5.heap.size:=⟨_,rfl⟩
 rw [<-hlt] at rz rp hs7 hb0w hb25 ⊢
 have HLT5:Hid (lt=w5.heap.size):=hid hlt
 have HTB:Hid (IntTab w7 lt (lt+2) T.nw (fun _=>.slice none 0 0) (fun v=>if v<0 then (T.W v).toNat else 0) (fun _ _=>4611686018427387904)):=hid ((zbq (zaa rz kb2)).congr (fun v _=>by rw [if_neg (by omega)]) fun v _ k _=>rfl)
 have HPB:=hid rp
 have hbase7:lt+2<=w7.heap.size:=by omega
 clear rz rp kb kb2 hs6 hs7 hw6 hw7 hmk hlt p0 p1
 obtain ⟨_,⟨p0,p1⟩,_⟩:=HBOX.out _ (onS KB.out K7.out)
 go_upto_region 9 with fail
 clear p0 p1
 have HK7:Hid (∀ X,Below w7.heap.size w7 X->lt+2<=X.heap.size):=hid fun X hx=>Nat.le_trans hbase7 hx.size
 go_loopg [37] T.nw (fun gg iv wx=>∃ (i:Nat) (F:Nat->Value),iv=.int .i64 (i:Nat)/\i<=T.nw/\T.nw<=i+gg/\Hid (IntTab wx lt (lt+2) T.nw F (fun v=>if v<i then (T.W v).toNat else 0) (fun _ _=>4611686018427387904))/\Hid (wx.rowIs (lt+1) 81 2 (matCell (.int .i64 0) (.slice (some ⟨lt,0,none⟩) T.nw T.nw)))/\lt+2<=wx.heap.size/\Below w5.heap.size w5 wx)
 case atStart=>exact ⟨0,_,rfl,by omega,by omega,HTB,HPB,hbase7,K7.out⟩
 case round =>
  clear HTB HPB K7 hbase7 HK7
  obtain ⟨i,F,rfl,hi,hig,HTB,HPB,hbase,hBx⟩:=hrel
  have hi0:(0:Int)<=(i:Int):=by omega
  have K7:=hid hBx
  obtain ⟨w8,hw8⟩:∃ X,X=wr:=⟨_,rfl⟩
  subst hw8
  clear hBx
  obtain ⟨_,⟨p0,p1⟩,_⟩:=HBOX.out _ (onS KB.out K7.out)
  by_cases hin:i<T.nw
  ·have hin':(i:Int)<(T.nw:Int):=by omega
   obtain ⟨ab,ao,hAe,_,a0,_⟩:=(HR.out.on (onS HB5.out K7.out)).width hin
   subst hAe
   obtain ⟨W0,hW0⟩:∃ x:Nat,T.W i=(x:Nat):=⟨(T.W i).toNat,by have:=HW.out i (by have:=HNW1.out; omega); omega⟩
   have hW1:1<=W0/\W0<=65536:=by have:=HW.out i (by have:=HNW1.out; omega); omega
   rw [hW0] at a0
   have HW0:=hid hW0
   clear hW0
   go_upto_region 11 with fail
   clear a0 p0 p1
   have s0:=HPB.out.cell (i:=1) (by omega)
   refine wp_region_held_drew (S:=fun X=>X.cell? ⟨lt+1,1,none⟩=some (.slice (some ⟨lt,0,none⟩) T.nw T.nw)) (by kernel_rfl) (cellS (Below.refl _ _).drew s0) (fun hHeld=>?_)
   obtain ⟨w9,hw⟩:∃ W,W=World.drew w8:=⟨_,rfl⟩
   have kb:Below w8.heap.size w8 w9:=by rw [hw]; exact (Below.refl _ _).drew
   rw [<-hw] at hHeld ⊢;clear hw s0
   have K8:=hid kb
   clear kb
   refine tkq 0 (h:=tkq 1 (h:=tkq 2 (h:=tkq 4 (h:=?_))))
   clear hHeld
   refine rdq 3 (h:=fun K hK=>?_)
   go_simp
   have kb:=(Below.refl w9.heap.size w9).alloc (Nat.le_refl _) (Obj.cells #[Value.int .i64 4611686018427387904] 3)
   have hc:=(tbox2:(w9.alloc (Obj.cells #[Value.int .i64 4611686018427387904] 3)).cell? ((⟨w9.heap.size,0,none⟩:Addr).add 0)=some (.int .i64 4611686018427387904))
   obtain ⟨w10,hw⟩:∃ W,W=w9.alloc (Obj.cells #[Value.int .i64 4611686018427387904] 3):=⟨_,rfl⟩
   rw [<-hw] at kb hc ⊢;clear hw;rw [zbj,Nat.zero_add] at hc
   have HC:=hid hc
   replace K8:=hid (onS K8.out kb);clear kb hc
   refine bkq hK (cellS K8.out (qc1 HPB.out)) (h:=fun hHeld=>?_)
   clear hK K hHeld
   refine rdq 5 (h:=fun K hK=>?_)
   go_simp
   go_wp2_with fail
   refine (zf0 w9.heap.size (.int .i64 4611686018427387904) W0 1 w10 HC.out rfl hW1.1 (by omega)).mono ?_
   rintro e w11 ⟨g,rfl,hg,hrow,kb⟩
   have HOWN:Hid (Own w11 w8.heap.size 3 1 (.slice (some ⟨g,0,none⟩) W0 W0) W0 (fun _ _=>.int .i64 4611686018427387904)):=hid (zau hrow (Nat.le_trans K8.out.size hg) (by unfold maxLen; omega))
   replace K8:=hid (onS K8.out kb);clear kb hrow hg
   refine bkq hK (cellS K8.out (qc1 HPB.out)) (h:=fun hHeld=>?_)
   clear hK K
   refine tkq 6 (h:=?_)
   clear hHeld
   refine rdq 7 (h:=fun K hK=>?_)
   have r0:=(HTB.out.on K8.out).row.cell hin
   have z0:=(HTB.out.on K8.out).row.frozen i
   go_simp
   clear r0 z0
   have hn:=HTB.out.fresh (by omega) hbase K8.out hin (y:=fun _=>4611686018427387904) HOWN.out
   have hp9:=(zaa HPB.out K8.out).setOther (a:=⟨lt,i,none⟩) (by simp) (.slice (some ⟨g,0,none⟩) W0 W0)
   have kb:=(onS K7.out K8.out).setCell (p:=⟨lt,i,none⟩) (by have:=HLT5.out; show _<=lt; omega) (.slice (some ⟨g,0,none⟩) W0 W0)
   obtain ⟨w12,hw⟩:∃ W,W=w11.setCell ⟨lt,i,none⟩ (.slice (some ⟨g,0,none⟩) W0 W0):=⟨_,rfl⟩
   rw [<-hw] at hn hp9 kb ⊢
   have hsz:w12.heap.size=w11.heap.size:=by rw [hw]; simp
   have hbase12:lt+2<=w12.heap.size:=by have:=K8.out.size; omega
   clear hw hsz
   have HN:=hid (hn.congr (n':=fun v=>if v<i+1 then (T.W v).toNat else 0) (x':=fun _ _=>4611686018427387904) (fun v hv=>by
    by_cases e:v=i
    ·subst e
     rw [if_pos rfl,if_pos (by omega),HW0.out]; rfl
    ·have h1:(v<i)↔(v<i+1):=by omega
     simp only [if_neg e,h1]) fun v hv k hk=>by split <;> rfl)
   have HP9:=hid hp9
   have K9:=hid kb
   clear hn hp9 kb
   refine bkq hK (qc1 HP9.out) (h:=fun hHeld=>?_)
   clear hK K
   refine wpAnyH_done (by kernel_rfl) ?_ _
   clear hHeld
   go_wp2
   go_roundg (gk - 1)
   case measure=>omega
   case rel=>exact ⟨i+1,_,by go_num,by omega,by omega,HN,HP9,hbase12,K9.out⟩
  ·have hin':¬ (i:Int)<(T.nw:Int):=by omega
   obtain rfl:i=T.nw:=by omega
   have HTA:Hid (IntTab w8 lt (lt+2) T.nw F (fun v=>(T.W v).toNat) (T.potL nd 0 0)):=hid (HTB.out.congr (fun v hv=>if_pos hv) fun v _ k _=>(Trel.potL_zero v k).symm)
   clear HTB hin hi hig hi0
   go_upto_region 14 with fail
   clear p0 p1 hin'
   go_loopg [53] T.n (fun gg iv wx=>∃ i:Nat,iv=.int .i64 (i:Nat)/\i<=T.n/\T.n<=i+gg/\Hid (IntTab wx lt (lt+2) T.nw F (fun v=>(T.W v).toNat) (T.potL nd i 0))/\Hid (wx.rowIs (lt+1) 81 2 (matCell (.int .i64 0) (.slice (some ⟨lt,0,none⟩) T.nw T.nw)))/\lt+2<=wx.heap.size/\Below w5.heap.size w5 wx)
   case atStart=>exact ⟨0,rfl,by omega,by omega,HTA,HPB,hbase,K7.out⟩
   case round =>
    clear HTA HPB K7 hbase
    obtain ⟨i,rfl,hi,hig,HTB,HPB,hbase,hBx⟩:=hrel
    have hi0:(0:Int)<=(i:Int):=by omega
    have K7:=hid hBx
    obtain ⟨w9,hw9⟩:∃ X,X=wr:=⟨_,rfl⟩
    subst hw9
    clear hBx
    by_cases hin:i<T.n
    ·have hin':(i:Int)<(T.n:Int):=by omega
     obtain ⟨eb,eo,E,ec,hBe,heb,e0w,hec,hec2,hEd,hI64⟩:=HR.out.sec hin
     have HED:=hid hEd
     have e0:=cellS (onS HB5.out K7.out) e0w
     subst hBe
     obtain ⟨el,hel⟩:∃ x,x=T.el i:=⟨_,rfl⟩
     have hel2:el<=262144:=by rw [hel]; exact HSH.out.elb hin
     rw [<-hel] at e0 HED
     have HEL:=hid hel
     clear hel hEd hI64 hec hec2 e0w
     obtain ⟨gO,hgO⟩:∃ x,x=gk:=⟨_,rfl⟩
     subst hgO
     go_upto_region 17 with fail
     clear e0
     go_loopg [60] el (fun gg jv wx=>∃ j:Nat,jv=.int .i64 (j:Nat)/\j<=el/\el<=j+gg/\Hid (IntTab wx lt (lt+2) T.nw F (fun v=>(T.W v).toNat) (T.potL nd i j))/\Hid (wx.rowIs (lt+1) 81 2 (matCell (.int .i64 0) (.slice (some ⟨lt,0,none⟩) T.nw T.nw)))/\lt+2<=wx.heap.size/\Below w5.heap.size w5 wx)
     case atStart=>exact ⟨0,rfl,by omega,by omega,HTB,HPB,hbase,K7.out⟩
     case round =>
      clear HTB HPB K7 hbase
      obtain ⟨j,rfl,hj,hjg,HTB,HPB,hbase,hBx⟩:=hrel
      have hj0:(0:Int)<=(j:Int):=by omega
      have K7:=hid hBx
      obtain ⟨w10,hw10⟩:∃ X,X=wr:=⟨_,rfl⟩
      subst hw10
      clear hBx
      by_cases hjl:j<el
      ·have hjl':(j:Int)<(el:Int):=by omega
       obtain ⟨xb,xo,hEe,hxb,x0,x1,x2⟩:=zaS HED.out hjl
       subst hEe
       replace x0:=cellS (onS HB5.out K7.out) x0;replace x1:=cellS (onS HB5.out K7.out) x1;replace x2:=cellS (onS HB5.out K7.out) x2
       have hins:=HSH.out.ins i hin j (by rw [<-HEL.out]; exact hjl)
       unfold Trel.inside at hins
       obtain ⟨fu,hfu⟩:∃ x:Nat,T.fr i j=(x:Nat):=⟨(T.fr i j).toNat,by omega⟩
       obtain ⟨tu,htu⟩:∃ x:Nat,T.to i j=(x:Nat):=⟨(T.to i j).toNat,by omega⟩
       obtain ⟨lb,hlb⟩:∃ x:Int,T.lb i j=x:=⟨_,rfl⟩
       have hST:=fun u v=>Trel.potL_step (T:=T) (nd:=nd) (i:=i) (j:=j) u v
       rw [hfu,htu,hlb] at hST
       simp only [Int.toNat_natCast] at hST
       have HST:=hid hST
       have hfw:fu<(T.W i).toNat:=by omega
       have htw:tu<(T.W (i+1)).toNat:=by omega
       rw [hfu] at x0;rw [hlb] at x1;rw [htu] at x2;clear hfu htu hlb hins hST
       go_upto_region 19 with fail
       have rx:=zad (w:=w10) (a:=.int .i64 (fu:Nat)) (b:=.int .i64 lb) (c:=.int .i64 (tu:Nat)) (T := 148)
       have kb:Below w10.heap.size w10 (w10.alloc (.cells #[.int .i64 (fu:Nat),.int .i64 lb,.int .i64 (tu:Nat)] 148)):=(Below.refl _ _).alloc (Nat.le_refl _) _
       obtain ⟨w11,hw11⟩:∃ W,W=w10.alloc (.cells #[.int .i64 (fu:Nat),.int .i64 lb,.int .i64 (tu:Nat)] 148):=⟨_,rfl⟩
       rw [<-hw11] at rx kb ⊢;clear hw11
       obtain ⟨b14,hb14⟩:∃ b,b=w10.heap.size:=⟨_,rfl⟩
       have h14:lt+2<=b14:=by omega
       rw [<-hb14] at rx ⊢;clear x0 x1 x2
       obtain ⟨r0b,r0o,r0d,hF0,_,_,l0,_⟩:=HTB.out.at (v:=i) (by have:=HNW1.out; omega) hfw
       obtain ⟨r1b,r1o,r1d,hF1,hr1b,hr1l,l1,zf1⟩:=HTB.out.at (v:=i+1) (by have:=HNW1.out; omega) htw
       have hr01:r0b≠r1b:=fun e=>by
        rcases HTB.out.apart i (i+1) (by have:=HNW1.out; omega) (by have:=HNW1.out; omega) (by omega) with h1 | h1
        ·rw [hF0] at h1; cases h1
        ·rw [hF0,hF1,e] at h1; exact h1 rfl
       have HNE:Hid (lt+1≠r1b/\lt≠r1b/\r0b≠r1b/\zb≠r1b/\b14≠r1b):=hid ⟨by omega,by omega,hr01,by have:=HLT5.out; omega,by rw [hb14]; omega⟩
       replace l0:=cellS kb l0;replace l1:=cellS kb l1
       have c0:=(HTB.out.on kb).row.cell (i:=i) (by have:=HNW1.out; omega)
       have c1:=(HTB.out.on kb).row.cell (i:=i+1) (by have:=HNW1.out; omega)
       rw [hF0] at c0;rw [hF1] at c1
       have zc:=(zaa HZR.out (onS K7.out kb)).cell (i:=i) (by have:=HNW1.out; omega)
       have pc:=(zaa HPB.out kb).cell (i:=1) (by omega)
       obtain ⟨y0,hy0⟩:∃ y,y=T.potL nd i j i fu:=⟨_,rfl⟩
       obtain ⟨y1,hy1⟩:∃ y,y=T.potL nd i j (i+1) tu:=⟨_,rfl⟩
       have hin0:=Trel.potL_in (T:=T) (nd:=nd) (i:=i) (j:=j) (u:=i) (v:=fu)
       have hin1:=Trel.potL_in (T:=T) (nd:=nd) (i:=i) (j:=j) (u:=i+1) (v:=tu)
       rw [<-hy0] at l0 hin0 HST;rw [<-hy1] at l1 hin1 HST
       obtain ⟨W0,hW0⟩:∃ x,x=(T.W i).toNat:=⟨_,rfl⟩
       obtain ⟨W1,hW1⟩:∃ x,x=(T.W (i+1)).toNat:=⟨_,rfl⟩
       have htwT:=htw
       rw [<-hW0] at hfw c0;rw [<-hW1] at htw c1
       have HF1:=hid hF1
       have HW1:=hid hW1
       clear hW0 hW1 hy0 hy1 hF0 hF1 hb14 hr01 hr1l
       have hTB:=HTB.out.on kb
       have HTB2:=hid hTB
       have HPB2:=hid (zaa HPB.out kb)
       have K8:=hid (onS K7.out kb)
       have hbase11:lt+2<=w11.heap.size:=Nat.le_trans hbase kb.size
       clear hTB kb HTB HPB K7 hbase
       have HI1:Hid (i+1<T.nw):=hid (by have:=HNW1.out; omega)
       have HLTB:Hid (lt<lt+2):=hid (by omega)
       have HR1G:Hid (w5.heap.size<=r1b):=hid (by have:=HLT5.out; omega)
       have HYB:Hid (InI64 y0):=hid ⟨by omega,by omega⟩
       have hiw:(i:Int)<(T.nw:Int):=by have:=HNW1.out; omega
       have hfi:(fu:Int)<((W0:Nat):Int):=by omega
       have hti:(tu:Int)<((W1:Nat):Int):=by omega
       have hinw:((i+1:Nat):Int)<(T.nw:Int):=by have:=HNW1.out; omega
       have hinw2:(i:Int)+1<(T.nw:Int):=by have:=HNW1.out; omega
       have hi11:(0:Int)<=(i:Int)+1:=by omega
       have hi1w:IntKind.i64.wrap ((i:Int)+1)=(i:Int)+1:=IntWalk.i64_in _ (by omega)
       have hi1x:wrap64 ((i:Int)+1)=(i:Int)+1:=by unfold wrap64; omega
       have HSS:Hid (∀ X,Below w11.heap.size w11 X->(X.cell? ⟨lt+1,1,none⟩=some (.slice (some ⟨lt,0,none⟩) T.nw T.nw)/\X.cell? ⟨lt,i,none⟩=some (.slice (some ⟨r0b,r0o,none⟩) W0 r0d)/\X.cell? ⟨lt,i+1,none⟩=some (.slice (some ⟨r1b,r1o,none⟩) W1 r1d)/\X.cell? ⟨r0b,r0o+fu,none⟩=some (.int .i64 y0)/\X.cell? ⟨r1b,r1o+tu,none⟩=some (.int .i64 y1)/\X.cell? ⟨zb,i,none⟩=some (.int .i64 (nd i:Nat))/\X.cell? ⟨b14,0,none⟩=some (.int .i64 (fu:Nat))/\X.cell? ⟨b14,1,none⟩=some (.int .i64 lb)/\X.cell? ⟨b14,2,none⟩=some (.int .i64 (tu:Nat)))):=hid fun X hx=>by
        have hrx:=zaa rx hx
        exact ⟨cellS hx pc,cellS hx c0,cellS hx c1,cellS hx l0,cellS hx l1,cellS hx zc,hrx.cell (i:=0) (by omega),hrx.cell (i:=1) (by omega),hrx.cell (i:=2) (by omega)⟩
       clear pc c0 c1 l0 l1 zc rx zf1
       refine wp_region_held_drew (S:=fun X=>X.cell? ⟨lt+1,1,none⟩=some (.slice (some ⟨lt,0,none⟩) T.nw T.nw)/\X.cell? ⟨lt,i,none⟩=some (.slice (some ⟨r0b,r0o,none⟩) W0 r0d)/\X.cell? ⟨lt,i+1,none⟩=some (.slice (some ⟨r1b,r1o,none⟩) W1 r1d)/\X.cell? ⟨r0b,r0o+fu,none⟩=some (.int .i64 y0)/\X.cell? ⟨zb,i,none⟩=some (.int .i64 (nd i:Nat))/\X.cell? ⟨b14,0,none⟩=some (.int .i64 (fu:Nat))/\X.cell? ⟨b14,1,none⟩=some (.int .i64 lb)/\X.cell? ⟨b14,2,none⟩=some (.int .i64 (tu:Nat))) (by kernel_rfl) (by obtain ⟨a1,a2,a3,a4,_,a6⟩:=HSS.out _ (Below.refl _ _).drew; exact ⟨a1,a2,a3,a4,a6⟩) (fun hHeld=>?_)
       have HSO:Hid (∀ X,Below w11.heap.size w11 X->(X.cell? ⟨lt+1,1,none⟩=some (.slice (some ⟨lt,0,none⟩) T.nw T.nw)/\X.cell? ⟨lt,i,none⟩=some (.slice (some ⟨r0b,r0o,none⟩) W0 r0d)/\X.cell? ⟨lt,i+1,none⟩=some (.slice (some ⟨r1b,r1o,none⟩) W1 r1d)/\X.cell? ⟨r0b,r0o+fu,none⟩=some (.int .i64 y0)/\X.cell? ⟨zb,i,none⟩=some (.int .i64 (nd i:Nat))/\X.cell? ⟨b14,0,none⟩=some (.int .i64 (fu:Nat))/\X.cell? ⟨b14,1,none⟩=some (.int .i64 lb)/\X.cell? ⟨b14,2,none⟩=some (.int .i64 (tu:Nat)))):=hid fun X hx=>by
        obtain ⟨a1,a2,a3,a4,_,a6⟩:=HSS.out X hx
        exact ⟨a1,a2,a3,a4,a6⟩
       have HZF:Hid (∀ X,Below w11.heap.size w11 X->X.frozen? ⟨r1b,r1o+tu,none⟩=false):=hid fun X hx=>by
        have h1:=(HTB2.out.on hx).own (i+1) HI1.out
        rw [HF1.out] at h1
        exact h1.frozen _
       obtain ⟨w12,hw⟩:∃ W,W=World.drew w11:=⟨_,rfl⟩
       have kb:Below w11.heap.size w11 w12:=by rw [hw]; exact (Below.refl _ _).drew
       rw [<-hw] at hHeld ⊢;clear hw
       have K9:=hid kb
       clear kb
       refine tkq 0 (h:=tkq 1 (h:=tkq 2 (h:=tkq 3 (h:=tkq 4 (h:=tkq 5 (h:=tkq 6 (h:=tkq 7 (h:=tkq 8 (h:=tkq 9 (h:=tkq 10 (h:=tkq 11 (h:=tkq 12 (h:=tkq 13 (h:=tkq 14 (h:=tkq 15 (h:=tkq 16 (h:=tkq 18 (h:=tkq 19 (h:=tkq 20 (h:=tkq 21 (h:=tkq 22 (h:=tkq 23 (h:=tkq 24 (h:=tkq 25 (h:=tkq 26 (h:=tkq 27 (h:=tkq 28 (h:=tkq 29 (h:=tkq 30 (h:=tkq 31 (h:=?_)))))))))))))))))))))))))))))))
       clear hHeld
       obtain ⟨bv,hbv⟩:∃ x,x=bndV (fu:Int) lb y0 (nd i:Nat):=⟨_,rfl⟩
       rw [<-hbv] at HST
       have HBV:=hid hbv
       have hbin:1<=bv/\bv<=4611686018427387904:=by rw [hbv]; exact zim hin0
       clear hbv
       refine rdq2 17 32 (h:=fun K hK=>?_) (h2:=fun K hK=>?_)
       focus
        obtain ⟨_,_,_,_,u0,_⟩:=HSS.out _ K9.out
        go_simp
        clear u0
        refine bkq hK (HSO.out _ K9.out) (h:=fun hHeld=>?_)
        clear hK K hHeld
        refine rdq 32 (h:=fun K hK=>?_)
        go_simp
        go_wp2_with fail
        refine (zdS (fu:Int) lb (tu:Int) y0 (nd i:Int) w12 HYB.out).mono ?_
        rintro e w13 ⟨rfl,kb⟩
        rw [<-HBV.out]
        have K10:=hid (onS K9.out kb)
        clear kb
        refine bkq hK (HSO.out _ K10.out) (h:=fun hHeld=>?_)
        clear hK K K9
       rotate_left
       focus
        go_simp
        go_wp2_with fail
        refine (zdS (fu:Int) lb (tu:Int) y0 (nd i:Int) w12 HYB.out).mono ?_
        rintro e w13 ⟨rfl,kb⟩
        rw [<-HBV.out]
        have K10:=hid (onS K9.out kb)
        clear kb
        refine bkq hK (HSO.out _ K10.out) (h:=fun hHeld=>?_)
        clear hK K hHeld
        refine rdq 17 (h:=fun K hK=>?_)
        obtain ⟨_,_,_,_,u0,_⟩:=HSS.out _ K10.out
        go_simp
        clear u0
        refine bkq hK (HSO.out _ K10.out) (h:=fun hHeld=>?_)
        clear hK K K9
       all_goals
        refine tkq 33 (h:=tkq 34 (h:=?_))
        clear hHeld
        refine rdq 35 (h:=fun K hK=>?_)
        obtain ⟨_,_,_,_,u0,_⟩:=HSS.out _ K10.out
        have zf1:=HZF.out _ K10.out
        go_simp
        clear u0 zf1
        have hn:=((HTB2.out.on K10.out).set (v:=i+1) (k:=tu) HLTB.out HI1.out htwT HF1.out (y:=min y1 bv)).congr (x':=T.potL nd i (j+1)) (fun _ _=>rfl) fun v _ k _=>HST.out v k
        have hp9:=(zaa HPB2.out K10.out).setOther (a:=⟨r1b,r1o+tu,none⟩) HNE.out.1 (.int .i64 (min y1 bv))
        have kb:=(onS K8.out K10.out).setCell (p:=⟨r1b,r1o+tu,none⟩) HR1G.out (.int .i64 (min y1 bv))
        obtain ⟨a1,a2,a3,a4,a5,a6,a7,a8⟩:=HSO.out _ K10.out
        obtain ⟨n1,n2,n3,n4,n5⟩:=HNE.out
        replace a1:=zab (p:=⟨r1b,r1o+tu,none⟩) (u:=.int .i64 (min y1 bv)) a1 n1;replace a2:=zab (p:=⟨r1b,r1o+tu,none⟩) (u:=.int .i64 (min y1 bv)) a2 n2;replace a3:=zab (p:=⟨r1b,r1o+tu,none⟩) (u:=.int .i64 (min y1 bv)) a3 n2;replace a4:=zab (p:=⟨r1b,r1o+tu,none⟩) (u:=.int .i64 (min y1 bv)) a4 n3;replace a5:=zab (p:=⟨r1b,r1o+tu,none⟩) (u:=.int .i64 (min y1 bv)) a5 n4;replace a6:=zab (p:=⟨r1b,r1o+tu,none⟩) (u:=.int .i64 (min y1 bv)) a6 n5
        replace a7:=zab (p:=⟨r1b,r1o+tu,none⟩) (u:=.int .i64 (min y1 bv)) a7 n5;replace a8:=zab (p:=⟨r1b,r1o+tu,none⟩) (u:=.int .i64 (min y1 bv)) a8 n5
        obtain ⟨w14,hw⟩:∃ W,W=w13.setCell ⟨r1b,r1o+tu,none⟩ (.int .i64 (min y1 bv)):=⟨_,rfl⟩
        rw [<-hw] at hn hp9 kb a1 a2 a3 a4 a5 a6 a7 a8 ⊢
        have hbase14:lt+2<=w14.heap.size:=by rw [hw]; exact Nat.le_trans hbase11 (by rw [World.size_setCell]; exact K10.out.size)
        have HN:=hid hn
        have HP9:=hid hp9
        have K14:=hid kb
        clear hn hp9 kb hw n1 n2 n3 n4 n5
        refine bkq hK ⟨a1,a2,a3,a4,a5,a6,a7,a8⟩ (h:=fun hHeld=>?_)
        clear hK K a1 a2 a3 a4 a5 a6 a7 a8
        refine wpAnyH_done (by kernel_rfl) ?_ _
        clear hHeld hin0 hin1 hbin hi1w hi1x hinw hinw2 hfi hti hi11
        go_wp2
        go_roundg (gk - 1)
        case measure=>omega
        case rel=>exact ⟨j+1,by go_num,by omega,by omega,HN,HP9,hbase14,K14.out⟩
      ·have hjl':¬ (j:Int)<(el:Int):=by omega
       obtain rfl:el=j:=by omega
       have HTN:Hid (IntTab w10 lt (lt+2) T.nw F (fun v=>(T.W v).toNat) (T.potL nd (i+1) 0)):=hid (HTB.out.congr (fun _ _=>rfl) fun v _ k _=>by rw [HEL.out]; exact Trel.potL_next v k)
       go_wp2
       go_roundg (gO - 1)
       case measure=>omega
       case rel=>exact ⟨i+1,by go_num,by omega,by omega,HTN,HPB,hbase,K7.out⟩
    ·have hin':¬ (i:Int)<(T.n:Int):=by omega
     obtain rfl:i=T.n:=by omega
     have hwn:=HW.out T.n (Nat.le_refl _)
     have hnw:T.n<T.nw:=by have:=HNW1.out; omega
     have hnw':(T.n:Int)<(T.nw:Int):=by omega
     have hb8:lt+1≠b2:=by omega
     obtain ⟨⟨_,_,_,q3,_⟩,_,hr2⟩:=HBOX.out _ (onS KB.out K7.out)
     rw [HNT.out] at q3
     obtain ⟨rb,ro,rd,hF,_,_,l0,_⟩:=HTB.out.at (v:=T.n) hnw (k:=0) (by show 0<(T.W T.n).toNat; omega)
     have c0:=HTB.out.row.cell hnw
     rw [hF] at c0;rw [Nat.add_zero] at l0
     obtain ⟨y,hy⟩:∃ y,y=T.potL nd T.n 0 T.n 0:=⟨_,rfl⟩
     have hy2:y=T.pot nd T.n 0:=by rw [hy]; exact if_pos (Nat.le_refl _)
     rw [<-hy] at l0
     have HY:=hid hy2
     obtain ⟨W0,hW0⟩:∃ x,x=(T.W T.n).toNat:=⟨_,rfl⟩
     rw [<-hW0] at c0
     have hW1:(0:Int)<(W0:Int):=by omega
     have pc:=qc1 HPB.out
     have pc0:=qc0 HPB.out
     have zf:=HPB.out.frozen 0
     have hn0:(0:Int)<=(T.n:Int):=by omega
     clear hy hy2 hF hW0
     go_upto_region 23 with fail
     clear pc pc0 zf c0 l0 q3
     have hpw:=HPB.out.set 0 (.int .i64 y)
     have hn2:=HTB.out.other (b:=lt+1) (j:=0) (by omega) (by omega) (.int .i64 y)
     have hr3:=hr2.setOther (a:=⟨lt+1,0,none⟩) (fun e=>hb8 e.symm) (.int .i64 y)
     have kb:=(onS HB5.out K7.out).setCell (p:=⟨lt+1,0,none⟩) (by show _<=lt+1; omega) (.int .i64 y)
     obtain ⟨w10,hw⟩:∃ W,W=w9.setCell ⟨lt+1,0,none⟩ (.int .i64 y):=⟨_,rfl⟩
     rw [<-hw] at hpw hn2 hr3 kb ⊢;clear hw
     have p0:=hpw.cell (i:=0) (by omega)
     have p1:=hpw.cell (i:=1) (by omega)
     rw [if_pos rfl] at p0
     rw [if_neg (by omega)] at p1
     change w10.cell? ⟨lt+1,1,none⟩=some (.slice (some ⟨lt,0,none⟩) T.nw T.nw) at p1
     have r0:=hr3.cell (i:=0) (by omega)
     have r1:=hr3.cell (i:=1) (by omega)
     have z0:=hr3.frozen 0
     have z1:=hr3.frozen 1
     have y0:=hr3.set 0 (.int .i64 y)
     have y1:=y0.cell (i:=1) (by omega)
     rw [if_neg (by omega)] at y1
     have y2:=y0.frozen 1
     have y3:=y0.set 1 (.slice (some ⟨lt,0,none⟩) T.nw T.nw)
     have y4:=y3.cell (i:=0) (by omega)
     have y5:=y3.cell (i:=1) (by omega)
     rw [if_neg (by omega),if_pos rfl] at y4
     rw [if_pos rfl] at y5
     have HBF:=hid ((kb.setCell (p:=⟨b2,0,none⟩) hb2w (.int .i64 y)).setCell (p:=⟨b2,1,none⟩) hb2w (.slice (some ⟨lt,0,none⟩) T.nw T.nw))
     have HTF:=hid (((hn2.other (b:=b2) (j:=0) (by omega) (by omega) (.int .i64 y)).other (b:=b2) (j:=1) (by omega) (by omega) (.slice (some ⟨lt,0,none⟩) T.nw T.nw)).congr (x':=T.pot nd) (fun _ _=>rfl) fun v hv k _=>if_pos (by have:=HNW1.out; omega))
     clear y0 y3 hpw hn2 hr3 kb
     go_wp2
     refine bodyPost_ret (v:=.tuple #[.agg #[.int .i64 y,.slice (some ⟨lt,0,none⟩) T.nw T.nw],.int .i64 0]) (by simp [results,Tryz.results56, go_sem,y4,y5]) rfl ?_
     exact ⟨HBF.out,0,HU.out,.inr (.inr ⟨rfl,HN1.out,ze,nd,HZ.out,lt,F,lt+2,by rw [HY.out],HTF.out⟩)⟩
def RPotPost (T:Trel) (nd:Nat->Nat) (w:World) (e:Ending) (w':World):Prop :=
 ∃ g F base,e=.returned (.agg #[.int .i64 (T.pot nd T.n 0),.slice (some ⟨g,0,none⟩) T.nw T.nw])/\IntTab w' g base T.nw F (fun i=>(T.W i).toNat) (T.pot nd)/\Below w.heap.size w w'
theorem zi4 (T:Trel) (ze nd:Nat->Nat) (TA TB:Option Addr) (ca cb:Nat) (w:World) (hT:T.Reads w TA TB) (hp:T.Proper) (hz:T.ZP ze nd) :
  Calls Tryz.prog 58 #[.agg #[.slice TA T.nw ca,.slice TB T.n cb]] w (RPotPost T nd w):=by
 have HR:=hid hT
 have HP:=hid hp
 have HZ:=hid hz
 have HSH:=hid hp.shape
 have hn64:=hp.shape.n64
 have HNW1:=hid hp.shape.nw
 have hnw65:T.nw<=65:=by have:=HNW1.out; omega
 have HW:Hid (∀ i,i<=T.n->1<=T.W i/\T.W i<=65536):=hid fun i hi=>hp.shape.wid hi
 clear hT hp hz
 have rt:=zae (w:=w) (a:=.slice TA T.nw ca) (b:=.slice TB T.n cb) (T := 74)
 have hB:Below w.heap.size w (w.alloc (.cells #[.slice TA T.nw ca,.slice TB T.n cb] 74)):=(Below.refl _ _).alloc (Nat.le_refl _) _
 obtain ⟨w2,hw2⟩:∃ W,W=w.alloc (.cells #[.slice TA T.nw ca,.slice TB T.n cb] 74):=⟨_,rfl⟩
 rw [<-hw2] at hB rt
 have hsz2:w2.heap.size=w.heap.size+1:=by rw [hw2]; simp
 have rp:=zae (w:=w2) (a:=.int .i64 0) (b:=.slice none 0 0) (T := 81)
 have kb2:Below w2.heap.size w2 (w2.alloc (.cells #[.int .i64 0,.slice none 0 0] 81)):=(Below.refl _ _).alloc (Nat.le_refl _) _
 obtain ⟨w3,hw3⟩:∃ W,W=w2.alloc (.cells #[.int .i64 0,.slice none 0 0] 81):=⟨_,rfl⟩
 rw [<-hw3] at kb2 rp;rw [hsz2] at rp;replace rt:=zaa rt kb2;replace hB:=onS hB kb2
 go_enter Tryz.func58, Tryz.ntmps58
 go_upto_region 1 with fail
 rw [<-hw2,<-hw3];clear hw2 hw3 kb2 hsz2
 obtain ⟨b1,hb1⟩:∃ b,b=w.heap.size:=⟨_,rfl⟩
 obtain ⟨b2,hb2⟩:∃ b,b=w.heap.size+1:=⟨_,rfl⟩
 have hb2w:w.heap.size<=b2:=by omega
 rw [<-hb1] at rt;rw [<-hb2] at rp;rw [<-hb2,<-hb1];clear hb1 hb2
 have HBOX:Hid (∀ X,Below w3.heap.size w3 X->(X.cell? ⟨b1,0,none⟩=some (.slice TA T.nw ca)/\X.cell? ⟨b1,1,none⟩=some (.slice TB T.n cb))/\X.rowIs b2 81 2 (matCell (.int .i64 0) (.slice none 0 0))):=hid fun X hx =>
  ⟨⟨(zaa rt hx).cell (i:=0) (by omega),(zaa rt hx).cell (i:=1) (by omega)⟩,zaa rp hx⟩
 have HB:=hid hB
 clear hB rt rp
 obtain ⟨⟨p0,p1⟩,_⟩:=HBOX.out _ (Below.refl _ _)
 go_wp2_with fail
 refine (zg4 T ze nd TA TB ca cb w3 (HR.out.on HB.out) HP.out HZ.out).mono ?_
 rintro r w5 ⟨zv,rfl,hzr,kb⟩
 obtain ⟨zb,zo,zc,rfl,_,hzlt,hzc,hzm,hzz⟩:=hzr.form (by have:=HNW1.out; omega)
 have HZR:Hid (∀ X,Below w5.heap.size w5 X->∀ i,i<T.nw->X.cell? ⟨zb,zo+i,none⟩=some (.int .i64 (nd i:Nat))):=hid fun X hx i hi=>by
  have:=hzz i hi 0 (by omega)
  rw [Nat.mul_one,Nat.add_zero] at this
  exact cellS hx this
 have HB5:=hid (onS HB.out kb)
 have KB:=hid kb
 clear kb hzr p0 p1 hzz hzc hzm
 obtain ⟨⟨p0,p1⟩,_⟩:=HBOX.out _ KB.out
 have hmk:=fun W=>zaf (P:=Tryz.prog) 25 22 _ 24 Tryz.underlying25 Tryz.infoInts rfl (T.nw:Int) (by omega) (by omega) (by omega) W
 simp only [Int.toNat_natCast] at hmk
 go_upto_region 3 with fail
 have rz:World.rowIs (World.alloc w5 (Obj.cells (madeCells #[Value.slice none 0 0] T.nw) 22)) w5.heap.size 22 T.nw (fun _=>.slice none 0 0):=World.rowIs_made _ (.slice none 0 0) T.nw 22
 have kb:Below w5.heap.size w5 (World.alloc w5 (Obj.cells (madeCells #[Value.slice none 0 0] T.nw) 22)):=(Below.refl _ _).alloc (Nat.le_refl _) _
 have hs6:(World.alloc w5 (Obj.cells (madeCells #[Value.slice none 0 0] T.nw) 22)).heap.size=w5.heap.size+1:=by simp
 obtain ⟨w7,hw6⟩:∃ W,W=World.alloc w5 (Obj.cells (madeCells #[Value.slice none 0 0] T.nw) 22):=⟨_,rfl⟩
 rw [<-hw6] at rz kb hs6 ⊢
 have K7:=hid kb
 have hb0w:w.heap.size<=w5.heap.size:=HB5.out.size
 have hb25:b2<w5.heap.size:=(HBOX.out _ KB.out).2.lt
 obtain ⟨lt,hlt⟩:∃ x,x=w5.heap.size:=⟨_,rfl⟩
 rw [<-hlt] at rz hs6 hb0w hb25 ⊢
 have HLT5:Hid (lt=w5.heap.size):=hid hlt
 have HTB:Hid (IntTab w7 lt (lt+1) T.nw (fun _=>.slice none 0 0) (fun v=>if v<0 then (T.W v).toNat else 0) (fun _ _=>4611686018427387904)):=hid ((zbq rz).congr (fun v _=>by rw [if_neg (by omega)]) fun v _ k _=>rfl)
 have hbase7:lt+1<=w7.heap.size:=by omega
 clear rz kb hs6 hw6 hmk hlt p0 p1
 go_upto_region 4 with fail
 go_loopg [5] T.nw (fun gg iv wx=>∃ (i:Nat) (F:Nat->Value),iv=.int .i64 (i:Nat)/\i<=T.nw/\T.nw<=i+gg/\Hid (IntTab wx lt (lt+1) T.nw F (fun v=>if v<i then (T.W v).toNat else 0) (fun _ _=>4611686018427387904))/\lt+1<=wx.heap.size/\Below w5.heap.size w5 wx)
 case atStart=>exact ⟨0,_,rfl,by omega,by omega,HTB,hbase7,K7.out⟩
 case round =>
  clear HTB K7 hbase7
  obtain ⟨i,F,rfl,hi,hig,HTB,hbase,hBx⟩:=hrel
  have hi0:(0:Int)<=(i:Int):=by omega
  have K7:=hid hBx
  obtain ⟨w8,hw8⟩:∃ X,X=wr:=⟨_,rfl⟩
  subst hw8
  clear hBx
  obtain ⟨⟨p0,p1⟩,_⟩:=HBOX.out _ (onS KB.out K7.out)
  by_cases hin:i<T.nw
  ·have hin':(i:Int)<(T.nw:Int):=by omega
   obtain ⟨ab,ao,hAe,_,a0,_⟩:=(HR.out.on (onS HB5.out K7.out)).width hin
   subst hAe
   obtain ⟨W0,hW0⟩:∃ x:Nat,T.W i=(x:Nat):=⟨(T.W i).toNat,by have:=HW.out i (by have:=HNW1.out; omega); omega⟩
   have hW1:1<=W0/\W0<=65536:=by have:=HW.out i (by have:=HNW1.out; omega); omega
   rw [hW0] at a0
   have HW0:=hid hW0
   have hmk2:=fun W=>zaf (P:=Tryz.prog) 22 3 _ 8 Tryz.underlying22 Tryz.infoInt rfl (W0:Int) (by omega) (by omega) (by omega) W
   simp only [Int.toNat_natCast] at hmk2
   have kbm:Below w8.heap.size w8 (World.alloc w8 (Obj.cells (madeCells #[Value.int .i64 0] W0) 3)):=(Below.refl _ _).alloc (Nat.le_refl _) _
   have hmade:=World.rowIs_made w8 (.int .i64 0) W0 3
   have hn:=HTB.out.fresh (by omega) hbase kbm hin (y:=fun _=>0) (zau hmade (Nat.le_refl _) (by unfold maxLen; omega))
   have r0:=(HTB.out.on kbm).row.cell hin
   have z0:=(HTB.out.on kbm).row.frozen i
   have kb:=(onS K7.out kbm).setCell (p:=⟨lt,i,none⟩) (by have:=HLT5.out; show _<=lt; omega) (.slice (some ⟨w8.heap.size,0,none⟩) W0 W0)
   have hsz:lt+1<=((World.alloc w8 (Obj.cells (madeCells #[Value.int .i64 0] W0) 3)).setCell ⟨lt,i,none⟩ (.slice (some ⟨w8.heap.size,0,none⟩) W0 W0)).heap.size:=by rw [World.size_setCell]; exact Nat.le_trans hbase kbm.size
   obtain ⟨w9,hw9⟩:∃ X,X=(World.alloc w8 (Obj.cells (madeCells #[Value.int .i64 0] W0) 3)).setCell ⟨lt,i,none⟩ (.slice (some ⟨w8.heap.size,0,none⟩) W0 W0):=⟨_,rfl⟩
   rw [<-hw9] at hn kb hsz
   have HN:=hid (hn.congr (n':=fun v=>if v<i+1 then (T.W v).toNat else 0) (x':=fun u v=>if u=i/\¬ v<0 then 0 else 4611686018427387904) (fun v hv=>by
    by_cases e:v=i
    ·subst e
     rw [if_pos rfl,if_pos (by omega),HW0.out]; rfl
    ·have h1:(v<i)↔(v<i+1):=by omega
     simp only [if_neg e,h1]) fun v hv k hk=>by
    by_cases e:v=i
    ·rw [if_pos e,if_pos ⟨e,by omega⟩]
    ·rw [if_neg e,if_neg (fun h=>e h.1)])
   obtain ⟨F2,hF2⟩:∃ F2:Nat->Value,F2=fun u=>if u=i then .slice (some ⟨w8.heap.size,0,none⟩) W0 W0 else F u:=⟨_,rfl⟩
   obtain ⟨rg,ro,hrF⟩:∃ rg ro,F2 i=.slice (some ⟨rg,ro,none⟩) W0 W0:=⟨_,0,by rw [hF2]; exact if_pos rfl⟩
   rw [<-hF2] at HN
   have HRF:=hid hrF
   have K9:=hid kb
   have HW9:=hid hw9
   clear hn kb hF2 hrF hw9 hmade
   go_upto_region 7 with fail
   rw [<-HW9.out];clear HW9 hmk2 kbm r0 z0 a0 p0 p1 K7 hbase hW0
   obtain ⟨gO,hgO⟩:∃ x,x=gk:=⟨_,rfl⟩
   subst hgO
   go_upto_region 8 with fail
   go_loopg [6] W0 (fun gg jv wx=>∃ j:Nat,jv=.int .i64 (j:Nat)/\j<=W0/\W0<=j+gg/\Hid (IntTab wx lt (lt+1) T.nw F2 (fun v=>if v<i+1 then (T.W v).toNat else 0) (fun u v=>if u=i/\¬ v<j then 0 else 4611686018427387904))/\lt+1<=wx.heap.size/\Below w5.heap.size w5 wx)
   case atStart=>exact ⟨0,rfl,by omega,by omega,HN,hsz,K9.out⟩
   case round =>
    clear HN hsz K9 HTB
    obtain ⟨j,rfl,hj,hjg,HTB,hbase,hBx⟩:=hrel
    have hj0:(0:Int)<=(j:Int):=by omega
    have K7:=hid hBx
    obtain ⟨w10,hw10⟩:∃ X,X=wr:=⟨_,rfl⟩
    subst hw10
    clear hBx
    have c0:=HTB.out.row.cell hin
    rw [HRF.out] at c0
    by_cases hjl:j<W0
    ·have hjl':(j:Int)<(W0:Int):=by omega
     have hjw:j<(if i<i+1 then (T.W i).toNat else 0):=by rw [if_pos (by omega),HW0.out]; exact hjl
     have ho:=HTB.out.own i hin
     rw [HRF.out,if_pos (by omega:i<i+1),HW0.out] at ho
     have z1:=ho.frozen (ro+j)
     have hrg:lt+1<=rg:=(ho.lt rg rfl).1
     obtain ⟨hb9,ho9,hc9,he9,_,_,_,_,hcc⟩:=ho.form (by omega)
     injection he9 with h1 h2 h3
     injection h1 with h1
     injection h1 with g1 g2
     subst g1 g2
     clear h2 h3
     have r1:=hcc j (by omega) 0 (by omega)
     rw [Nat.mul_one,Nat.add_zero] at r1
     have hn:=(HTB.out.set (v:=i) (k:=j) (by omega) hin hjw (HRF.out.trans (by rw [if_pos (by omega:i<i+1),HW0.out]; rfl)) (y:=4611686018427387904)).congr (x':=fun u v=>if u=i/\¬ v<j+1 then 0 else 4611686018427387904) (fun _ _=>rfl) fun v _ k _=>by
      by_cases e1:v=i
      ·by_cases e2:k=j
       ·rw [e1,e2,zil,if_neg (by omega)]
       ·rw [zcY (fun h=>e2 h.2)]
        have h1:(v=i/\¬ k<j)↔(v=i/\¬ k<j+1):=by omega
        simp only [h1]
      ·rw [zcY (fun h=>e1 h.1),if_neg (fun h=>e1 h.1),if_neg (fun h=>e1 h.1)]
     have kb:=K7.out.setCell (p:=⟨rg,ro+j,none⟩) (by have:=HLT5.out; show _<=rg; omega) (.int .i64 4611686018427387904)
     have hsz:lt+1<=(w10.setCell ⟨rg,ro+j,none⟩ (.int .i64 4611686018427387904)).heap.size:=by rw [World.size_setCell]; exact hbase
     obtain ⟨w11,hw11⟩:∃ X,X=w10.setCell ⟨rg,ro+j,none⟩ (.int .i64 4611686018427387904):=⟨_,rfl⟩
     rw [<-hw11] at hn kb hsz
     have HN:=hid hn
     have K9:=hid kb
     have HW9:=hid hw11
     clear hn kb hw11 ho hcc hjw
     go_wp2
     rw [<-HW9.out]
     go_roundg (gk - 1)
     case measure=>omega
     case rel=>exact ⟨j+1,by go_num,by omega,by omega,HN,hsz,K9.out⟩
    ·have hjl':¬ (j:Int)<(W0:Int):=by omega
     obtain rfl:j=W0:=by omega
     have HN:Hid (IntTab w10 lt (lt+1) T.nw F2 (fun v=>if v<i+1 then (T.W v).toNat else 0) (fun _ _=>4611686018427387904)):=hid (HTB.out.congr (fun _ _=>rfl) fun v hv k hk=>by
      by_cases e:v=i
      ·subst e
       have hk:k<(if v<v+1 then (T.W v).toNat else 0):=hk
       rw [if_pos (by omega),HW0.out,Int.toNat_natCast] at hk
       rw [if_neg (fun h=>h.2 hk)]
      ·rw [if_neg (fun h=>e h.1)])
     go_wp2
     go_roundg (gO - 1)
     case measure=>omega
     case rel=>exact ⟨i+1,_,by go_num,by omega,by omega,HN,hbase,K7.out⟩
  ·have hin':¬ (i:Int)<(T.nw:Int):=by omega
   obtain rfl:i=T.nw:=by omega
   have HTA:Hid (IntTab w8 lt (lt+1) T.nw F (fun v=>(T.W v).toNat) (T.potL nd 0 0)):=hid (HTB.out.congr (fun v hv=>if_pos hv) fun v _ k _=>(Trel.potL_zero v k).symm)
   clear HTB hin hi hig hi0
   go_upto_region 12 with fail
   clear p0 p1 hin'
   go_loopg [7] T.n (fun gg iv wx=>∃ i:Nat,iv=.int .i64 (i:Nat)/\i<=T.n/\T.n<=i+gg/\Hid (IntTab wx lt (lt+1) T.nw F (fun v=>(T.W v).toNat) (T.potL nd i 0))/\lt+1<=wx.heap.size/\Below w5.heap.size w5 wx)
   case atStart=>exact ⟨0,rfl,by omega,by omega,HTA,hbase,K7.out⟩
   case round =>
    clear HTA K7 hbase
    obtain ⟨i,rfl,hi,hig,HTB,hbase,hBx⟩:=hrel
    have hi0:(0:Int)<=(i:Int):=by omega
    have K7:=hid hBx
    obtain ⟨w9,hw9⟩:∃ X,X=wr:=⟨_,rfl⟩
    subst hw9
    clear hBx
    obtain ⟨⟨p0,p1⟩,_⟩:=HBOX.out _ (onS KB.out K7.out)
    by_cases hin:i<T.n
    ·have hin':(i:Int)<(T.n:Int):=by omega
     obtain ⟨eb,eo,E,ec,hBe,heb,e0w,hec,hec2,hEd,hI64⟩:=HR.out.sec hin
     have HED:=hid hEd
     have HE0:=hid e0w
     subst hBe
     obtain ⟨el,hel⟩:∃ x,x=T.el i:=⟨_,rfl⟩
     have hel2:el<=262144:=by rw [hel]; exact HSH.out.elb hin
     rw [<-hel] at HE0 HED
     have HEL:=hid hel
     clear hel hEd hI64 hec hec2 e0w
     obtain ⟨gO,hgO⟩:∃ x,x=gk:=⟨_,rfl⟩
     subst hgO
     go_upto_region 15 with fail
     clear p0 p1
     go_loopg [8] el (fun gg jv wx=>∃ j:Nat,jv=.int .i64 (j:Nat)/\j<=el/\el<=j+gg/\Hid (IntTab wx lt (lt+1) T.nw F (fun v=>(T.W v).toNat) (T.potL nd i j))/\lt+1<=wx.heap.size/\Below w5.heap.size w5 wx)
     case atStart=>exact ⟨0,rfl,by omega,by omega,HTB,hbase,K7.out⟩
     case round =>
      clear HTB K7 hbase
      obtain ⟨j,rfl,hj,hjg,HTB,hbase,hBx⟩:=hrel
      have hj0:(0:Int)<=(j:Int):=by omega
      have K7:=hid hBx
      obtain ⟨w10,hw10⟩:∃ X,X=wr:=⟨_,rfl⟩
      subst hw10
      clear hBx
      have e0:=cellS (onS HB5.out K7.out) HE0.out
      obtain ⟨⟨p0,p1⟩,_⟩:=HBOX.out _ (onS KB.out K7.out)
      by_cases hjl:j<el
      ·have hjl':(j:Int)<(el:Int):=by omega
       obtain ⟨xb,xo,hEe,hxb,x0,x1,x2⟩:=zaS HED.out hjl
       subst hEe
       replace x0:=cellS (onS HB5.out K7.out) x0;replace x1:=cellS (onS HB5.out K7.out) x1;replace x2:=cellS (onS HB5.out K7.out) x2
       have hins:=HSH.out.ins i hin j (by rw [<-HEL.out]; exact hjl)
       unfold Trel.inside at hins
       obtain ⟨fu,hfu⟩:∃ x:Nat,T.fr i j=(x:Nat):=⟨(T.fr i j).toNat,by omega⟩
       obtain ⟨tu,htu⟩:∃ x:Nat,T.to i j=(x:Nat):=⟨(T.to i j).toNat,by omega⟩
       obtain ⟨lb,hlb⟩:∃ x:Int,T.lb i j=x:=⟨_,rfl⟩
       have hST:=fun u v=>Trel.potL_step (T:=T) (nd:=nd) (i:=i) (j:=j) u v
       rw [hfu,htu,hlb] at hST
       simp only [Int.toNat_natCast] at hST
       have HST:=hid hST
       have hfw:fu<(T.W i).toNat:=by omega
       have htw:tu<(T.W (i+1)).toNat:=by omega
       rw [hfu] at x0;rw [hlb] at x1;rw [htu] at x2;clear hfu htu hlb hins hST
       go_upto_region 18 with fail
       have rx:=zad (w:=w10) (a:=.int .i64 (fu:Nat)) (b:=.int .i64 lb) (c:=.int .i64 (tu:Nat)) (T := 148)
       have kb:Below w10.heap.size w10 (w10.alloc (.cells #[.int .i64 (fu:Nat),.int .i64 lb,.int .i64 (tu:Nat)] 148)):=(Below.refl _ _).alloc (Nat.le_refl _) _
       obtain ⟨w11,hw11⟩:∃ W,W=w10.alloc (.cells #[.int .i64 (fu:Nat),.int .i64 lb,.int .i64 (tu:Nat)] 148):=⟨_,rfl⟩
       rw [<-hw11] at rx kb ⊢;clear hw11
       obtain ⟨b14,hb14⟩:∃ b,b=w10.heap.size:=⟨_,rfl⟩
       have h14:lt+1<=b14:=by omega
       rw [<-hb14] at rx ⊢;clear x0 x1 x2 e0 p0 p1
       obtain ⟨r0b,r0o,r0d,hF0,_,_,l0,_⟩:=HTB.out.at (v:=i) (by have:=HNW1.out; omega) hfw
       obtain ⟨r1b,r1o,r1d,hF1,hr1b,hr1l,l1,zf1⟩:=HTB.out.at (v:=i+1) (by have:=HNW1.out; omega) htw
       have hr01:r0b≠r1b:=fun e=>by
        rcases HTB.out.apart i (i+1) (by have:=HNW1.out; omega) (by have:=HNW1.out; omega) (by omega) with h1 | h1
        ·rw [hF0] at h1; cases h1
        ·rw [hF0,hF1,e] at h1; exact h1 rfl
       have HNE:Hid (lt≠r1b/\r0b≠r1b/\b14≠r1b):=hid ⟨by omega,hr01,by rw [hb14]; omega⟩
       replace l0:=cellS kb l0;replace l1:=cellS kb l1
       have c0:=(HTB.out.on kb).row.cell (i:=i) (by have:=HNW1.out; omega)
       have c1:=(HTB.out.on kb).row.cell (i:=i+1) (by have:=HNW1.out; omega)
       rw [hF0] at c0;rw [hF1] at c1
       have zcc:=HZR.out _ (onS K7.out kb) i (by have:=HNW1.out; omega)
       obtain ⟨y0,hy0⟩:∃ y,y=T.potL nd i j i fu:=⟨_,rfl⟩
       obtain ⟨y1,hy1⟩:∃ y,y=T.potL nd i j (i+1) tu:=⟨_,rfl⟩
       have hin0:=Trel.potL_in (T:=T) (nd:=nd) (i:=i) (j:=j) (u:=i) (v:=fu)
       have hin1:=Trel.potL_in (T:=T) (nd:=nd) (i:=i) (j:=j) (u:=i+1) (v:=tu)
       rw [<-hy0] at l0 hin0 HST;rw [<-hy1] at l1 hin1 HST
       obtain ⟨W0,hW0⟩:∃ x,x=(T.W i).toNat:=⟨_,rfl⟩
       obtain ⟨W1,hW1⟩:∃ x,x=(T.W (i+1)).toNat:=⟨_,rfl⟩
       have htwT:=htw
       rw [<-hW0] at hfw c0;rw [<-hW1] at htw c1
       have HF1:=hid hF1
       have HW1:=hid hW1
       clear hW0 hW1 hy0 hy1 hF0 hF1 hb14 hr01 hr1l
       have HTB2:=hid (HTB.out.on kb)
       have K8:=hid (onS K7.out kb)
       have hbase11:lt+1<=w11.heap.size:=Nat.le_trans hbase kb.size
       clear kb HTB K7 hbase
       have HI1:Hid (i+1<T.nw):=hid (by have:=HNW1.out; omega)
       have HLTB:Hid (lt<lt+1):=hid (by omega)
       have HR1G:Hid (w5.heap.size<=r1b):=hid (by have:=HLT5.out; omega)
       have HZF:Hid (∀ X,Below w11.heap.size w11 X->X.frozen? ⟨r1b,r1o+tu,none⟩=false):=hid fun X hx=>by
        have h1:=(HTB2.out.on hx).own (i+1) HI1.out
        rw [HF1.out] at h1
        exact h1.frozen _
       have HSS:Hid (∀ X,Below w11.heap.size w11 X->(X.cell? ⟨lt,i,none⟩=some (.slice (some ⟨r0b,r0o,none⟩) W0 r0d)/\X.cell? ⟨lt,i+1,none⟩=some (.slice (some ⟨r1b,r1o,none⟩) W1 r1d)/\X.cell? ⟨r0b,r0o+fu,none⟩=some (.int .i64 y0)/\X.cell? ⟨r1b,r1o+tu,none⟩=some (.int .i64 y1)/\X.cell? ⟨zb,zo+i,none⟩=some (.int .i64 (nd i:Nat))/\X.cell? ⟨b14,0,none⟩=some (.int .i64 (fu:Nat))/\X.cell? ⟨b14,1,none⟩=some (.int .i64 lb)/\X.cell? ⟨b14,2,none⟩=some (.int .i64 (tu:Nat)))):=hid fun X hx=>by
        have hrx:=zaa rx hx
        exact ⟨cellS hx c0,cellS hx c1,cellS hx l0,cellS hx l1,cellS hx zcc,hrx.cell (i:=0) (by omega),hrx.cell (i:=1) (by omega),hrx.cell (i:=2) (by omega)⟩
       clear c0 c1 l0 l1 zcc rx zf1
       have hiw:(i:Int)<(T.nw:Int):=by have:=HNW1.out; omega
       have hfi:(fu:Int)<((W0:Nat):Int):=by omega
       have hti:(tu:Int)<((W1:Nat):Int):=by omega
       obtain ⟨bv,hbv⟩:∃ x,x=bndV (fu:Int) lb y0 (nd i:Nat):=⟨_,rfl⟩
       rw [<-hbv] at HST
       have hbv2:bv=if lb=0 then y0 else if (fu:Int)=(nd i:Int) then 1 else min (y0+1) 4611686018427387904:=by
        rw [hbv]
        unfold bndV
        by_cases e1:lb=0
        ·rw [if_neg (fun h=>h.1 e1),if_neg (fun h=>h.1 e1),if_pos e1]
        ·rw [if_neg e1]
         by_cases e2:(fu:Int)=(nd i:Int)
         ·rw [if_pos ⟨e1,e2⟩,if_pos e2,Int.min_eq_right]
          split <;> omega
         ·rw [if_neg (fun h=>e2 h.2),if_neg e2]
          by_cases e3:y0<4611686018427387904
          ·rw [if_pos ⟨e1,e3⟩,Int.min_eq_left (by omega)]
          ·rw [if_neg (fun h=>e3 h.2),Int.min_eq_right (by omega)]; omega
       clear hbv
       obtain ⟨s1,s2,s3,s4,s5,s6,s7,s8⟩:=HSS.out _ (Below.refl _ _).drew
       refine wp_region_held_drew (S:=fun X=>X.cell? ⟨lt,i,none⟩=some (.slice (some ⟨r0b,r0o,none⟩) W0 r0d)/\X.cell? ⟨r0b,r0o+fu,none⟩=some (.int .i64 y0)/\X.cell? ⟨b14,0,none⟩=some (.int .i64 (fu:Nat))) (by kernel_rfl) ⟨s1,s3,s6⟩ (fun hHeld=>?_)
       obtain ⟨w12,hw⟩:∃ W,W=World.drew w11:=⟨_,rfl⟩
       have kb:Below w11.heap.size w11 w12:=by rw [hw]; exact (Below.refl _ _).drew
       rw [<-hw] at hHeld ⊢;clear hw s1 s2 s3 s4 s5 s6 s7 s8
       have K9:=hid kb
       clear kb
       refine tkq 0 (h:=tkq 1 (h:=tkq 2 (h:=tkq 3 (h:=tkq 4 (h:=tkq 5 (h:=tkq 6 (h:=tkq 7 (h:=tkq 8 (h:=?_)))))))))
       refine wpAnyH_done (by kernel_rfl) ?_ _
       clear hHeld
       obtain ⟨_,_,_,_,_,_,s7,_⟩:=HSS.out _ K9.out
       go_upto_if 82 with fail
       clear s7
       go_cut [10] (fun v10 wx=>v10=.int .i64 bv/\Below w12.heap.size w12 wx)
       case first =>
        by_cases e1:lb=0
        ·have b1':(lb != 0)=false:=by simp [e1]
         rw [if_pos e1] at hbv2
         have HMM:=hid hbv2
         clear e1 hbv2
         go_wp2
         go_meet
         exact ⟨by rw [HMM.out],Below.refl _ _⟩
        have b1':(lb != 0)=true:=by simpa using e1
        rw [if_neg e1] at hbv2
        have hwl:wrap64 (y0+1)=y0+1:=by unfold wrap64; omega
        have hwl2:IntKind.i64.wrap (y0+1)=y0+1:=IntWalk.i64_in _ (by omega)
        go_upto_region 21 with fail
        obtain ⟨_,_,_,_,s5,s6,_,_⟩:=HSS.out _ (onS K9.out (Below.refl _ _).drew)
        refine wp_region_held_drew (S:=fun X=>X.cell? ⟨b14,0,none⟩=some (.int .i64 (fu:Nat))/\X.cell? ⟨zb,zo+i,none⟩=some (.int .i64 (nd i:Nat))) (by kernel_rfl) ⟨s6,s5⟩ (fun hHeld=>?_)
        obtain ⟨w13,hw⟩:∃ W,W=World.drew w12:=⟨_,rfl⟩
        have kb:Below w12.heap.size w12 w13:=by rw [hw]; exact (Below.refl _ _).drew
        rw [<-hw] at hHeld ⊢;clear hw s5 s6
        have K10:=hid kb
        clear kb
        by_cases e2:(fu:Int)=(nd i:Int)
        ·have b2':((fu:Int) == (nd i:Int))=true:=by simpa using e2
         rw [if_pos e2] at hbv2
         have HMM:=hid hbv2
         clear e1 e2 hbv2
         refine tkq 0 (h:=tkq 1 (h:=tkq 2 (h:=tkq 3 (h:=tkq 4 (h:=tkq 5 (h:=tkq 6 (h:=?_)))))))
         refine wpAnyH_done (by kernel_rfl) ?_ _
         clear hHeld
         go_wp2
         go_meet
         exact ⟨by rw [HMM.out],K10.out⟩
        ·have b2':((fu:Int) == (nd i:Int))=false:=by simpa using e2
         rw [if_neg e2] at hbv2
         have HMM:=hid hbv2
         clear e1 e2 hbv2
         refine tkq 0 (h:=tkq 1 (h:=tkq 2 (h:=tkq 3 (h:=tkq 4 (h:=tkq 5 (h:=tkq 6 (h:=?_)))))))
         refine wpAnyH_done (by kernel_rfl) ?_ _
         clear hHeld
         go_wp2
         go_meet
         exact ⟨by rw [HMM.out],K10.out⟩
       case rest =>
        obtain ⟨hv10,hBc⟩:=hcut
        subst hv10
        obtain ⟨w13,hw13⟩:∃ X,X=wc:=⟨_,rfl⟩
        subst hw13
        replace K9:=hid (onS K9.out hBc);clear hBc hbv2
        have hinw:((i+1:Nat):Int)<(T.nw:Int):=by have:=HNW1.out; omega
        have hinw2:(i:Int)+1<(T.nw:Int):=by have:=HNW1.out; omega
        have hi10:(0:Int)<=((i+1:Nat):Int):=by omega
        have hi11:(0:Int)<=(i:Int)+1:=by omega
        have hi1w:IntKind.i64.wrap ((i:Int)+1)=(i:Int)+1:=IntWalk.i64_in _ (by omega)
        have hi1x:wrap64 ((i:Int)+1)=(i:Int)+1:=by unfold wrap64; omega
        have HSO:Hid (∀ X,Below w11.heap.size w11 X->X.cell? ⟨lt,i+1,none⟩=some (.slice (some ⟨r1b,r1o,none⟩) W1 r1d)/\X.cell? ⟨b14,2,none⟩=some (.int .i64 (tu:Nat))):=hid fun X hx=>by
         obtain ⟨_,a2,_,_,_,_,_,a8⟩:=HSS.out X hx
         exact ⟨a2,a8⟩
        go_upto_region 23 with fail
        refine wp_region_held_drew (S:=fun X=>X.cell? ⟨lt,i+1,none⟩=some (.slice (some ⟨r1b,r1o,none⟩) W1 r1d)/\X.cell? ⟨b14,2,none⟩=some (.int .i64 (tu:Nat))) (by kernel_rfl) (HSO.out _ (onS K9.out (Below.refl _ _).drew)) (fun hHeld=>?_)
        obtain ⟨w14,hw⟩:∃ W,W=World.drew w13:=⟨_,rfl⟩
        have kb:Below w13.heap.size w13 w14:=by rw [hw]; exact (Below.refl _ _).drew
        rw [<-hw] at hHeld ⊢;clear hw;replace K9:=hid (onS K9.out kb);clear kb
        refine tkq 0 (h:=tkq 1 (h:=tkq 2 (h:=tkq 3 (h:=tkq 4 (h:=tkq 5 (h:=tkq 6 (h:=tkq 7 (h:=tkq 8 (h:=tkq 9 (h:=tkq 10 (h:=tkq 11 (h:=tkq 12 (h:=tkq 13 (h:=tkq 14 (h:=tkq 16 (h:=?_))))))))))))))))
        clear hHeld
        refine rdq 15 (h:=fun K hK=>?_)
        obtain ⟨_,_,_,u0,_⟩:=HSS.out _ K9.out
        go_simp
        refine bkq hK (HSO.out _ K9.out) (h:=fun hHeld=>?_)
        clear hK K
        refine tkq 17 (h:=tkq 18 (h:=?_))
        clear hHeld
        refine rdq 19 (h:=fun K hK=>?_)
        have zf1:=HZF.out _ K9.out
        go_simp
        clear u0 zf1
        have hn:=((HTB2.out.on K9.out).set (v:=i+1) (k:=tu) HLTB.out HI1.out htwT HF1.out (y:=min y1 bv)).congr (x':=T.potL nd i (j+1)) (fun _ _=>rfl) fun v _ k _=>HST.out v k
        have kb:=(onS K8.out K9.out).setCell (p:=⟨r1b,r1o+tu,none⟩) HR1G.out (.int .i64 (min y1 bv))
        obtain ⟨a2,a8⟩:=HSO.out _ K9.out
        obtain ⟨n2,n3,n5⟩:=HNE.out
        replace a2:=zab (p:=⟨r1b,r1o+tu,none⟩) (u:=.int .i64 (min y1 bv)) a2 n2;replace a8:=zab (p:=⟨r1b,r1o+tu,none⟩) (u:=.int .i64 (min y1 bv)) a8 n5
        obtain ⟨w15,hw⟩:∃ W,W=w14.setCell ⟨r1b,r1o+tu,none⟩ (.int .i64 (min y1 bv)):=⟨_,rfl⟩
        rw [<-hw] at hn kb a2 a8 ⊢
        have hbase14:lt+1<=w15.heap.size:=by rw [hw]; exact Nat.le_trans hbase11 (by rw [World.size_setCell]; exact K9.out.size)
        have HN:=hid hn
        have K14:=hid kb
        clear hn kb hw n2 n3 n5
        refine bkq hK ⟨a2,a8⟩ (h:=fun hHeld=>?_)
        clear hK K a2 a8
        refine wpAnyH_done (by kernel_rfl) ?_ _
        clear hHeld hin0 hin1 hi1w hi1x hinw hinw2 hfi hti hi11 hi10
        go_wp2
        go_roundg (gk - 1)
        case measure=>omega
        case rel=>exact ⟨j+1,by go_num,by omega,by omega,HN,hbase14,K14.out⟩
      ·have hjl':¬ (j:Int)<(el:Int):=by omega
       obtain rfl:el=j:=by omega
       have HTN:Hid (IntTab w10 lt (lt+1) T.nw F (fun v=>(T.W v).toNat) (T.potL nd (i+1) 0)):=hid (HTB.out.congr (fun _ _=>rfl) fun v _ k _=>by rw [HEL.out]; exact Trel.potL_next v k)
       go_wp2
       go_roundg (gO - 1)
       case measure=>omega
       case rel=>exact ⟨i+1,by go_num,by omega,by omega,HTN,hbase,K7.out⟩
    ·have hin':¬ (i:Int)<(T.n:Int):=by omega
     obtain rfl:i=T.n:=by omega
     have hwn:=HW.out T.n (Nat.le_refl _)
     have hnw:T.n<T.nw:=by have:=HNW1.out; omega
     have hnw':(T.n:Int)<(T.nw:Int):=by omega
     have hb8:lt≠b2:=by omega
     obtain ⟨_,hr2⟩:=HBOX.out _ (onS KB.out K7.out)
     obtain ⟨rb,ro,rd,hF,_,_,l0,_⟩:=HTB.out.at (v:=T.n) hnw (k:=0) (by show 0<(T.W T.n).toNat; omega)
     have c0:=HTB.out.row.cell hnw
     rw [hF] at c0;rw [Nat.add_zero] at l0
     obtain ⟨y,hy⟩:∃ y,y=T.potL nd T.n 0 T.n 0:=⟨_,rfl⟩
     have hy2:y=T.pot nd T.n 0:=by rw [hy]; exact if_pos (Nat.le_refl _)
     rw [<-hy] at l0
     have HY:=hid hy2
     obtain ⟨W0,hW0⟩:∃ x,x=(T.W T.n).toNat:=⟨_,rfl⟩
     rw [<-hW0] at c0
     have hW1:(0:Int)<(W0:Int):=by omega
     have hn0:(0:Int)<=(T.n:Int):=by omega
     have hsub:wrap64 ((T.nw:Int) - 1)=(T.n:Int):=by have:=HNW1.out; unfold wrap64; omega
     have hsub2:IntKind.i64.wrap ((T.nw:Int) - 1)=(T.n:Int):=by rw [IntWalk.i64_in _ (by omega)]; have:=HNW1.out; omega
     have r0:=hr2.cell (i:=0) (by omega)
     have r1:=hr2.cell (i:=1) (by omega)
     have z0:=hr2.frozen 0
     have z1:=hr2.frozen 1
     have y0:=hr2.set 0 (.int .i64 y)
     have y1:=y0.cell (i:=1) (by omega)
     rw [if_neg (by omega)] at y1
     have y2:=y0.frozen 1
     have y3:=y0.set 1 (.slice (some ⟨lt,0,none⟩) T.nw T.nw)
     have y4:=y3.cell (i:=0) (by omega)
     have y5:=y3.cell (i:=1) (by omega)
     rw [if_neg (by omega),if_pos rfl] at y4
     rw [if_pos rfl] at y5
     have HBF:=hid (((onS HB5.out K7.out).setCell (p:=⟨b2,0,none⟩) hb2w (.int .i64 y)).setCell (p:=⟨b2,1,none⟩) hb2w (.slice (some ⟨lt,0,none⟩) T.nw T.nw))
     have HTF:=hid (((HTB.out.other (b:=b2) (j:=0) (by omega) (by omega) (.int .i64 y)).other (b:=b2) (j:=1) (by omega) (by omega) (.slice (some ⟨lt,0,none⟩) T.nw T.nw)).congr (x':=T.pot nd) (fun _ _=>rfl) fun v hv k _=>if_pos (by have:=HNW1.out; omega))
     clear y0 y3 hy hy2 hF hW0 hr2
     go_wp2
     refine bodyPost_ret (v:=.agg #[.int .i64 y,.slice (some ⟨lt,0,none⟩) T.nw T.nw]) (by simp [results,Tryz.results58, go_sem,y4,y5]) rfl ?_
     exact ⟨lt,F,lt+1,by rw [HY.out],HTF.out,HBF.out⟩
theorem zhc (A B:Option Addr) (n c c':Nat) (f g:Nat->Int) (w:World) (h:IntsR w w.heap.size A n f) (h':IntsR w w.heap.size B n g) (hn:n<=1048576) :
  Calls Tryz.prog 138 #[.slice A n c,.slice B n c'] w fun e w'=>e=.returned (.int .i64 (disN f g n:Nat))/\Below w.heap.size w w':=by
 have HA:=hid h
 have HC:=hid h'
 clear h h'
 go_enter Tryz.func138, Tryz.ntmps138
 go_upto_region 3 with fail
 go_loopg [5,6] n (fun gg ov iv wx=>∃ k:Nat,iv=.int .i64 (k:Nat)/\ov=.int .i64 (disN f g k:Nat)/\k<=n/\n<=k+gg/\Below w.heap.size w wx)
 case atStart=>exact ⟨0,rfl,rfl,by omega,by omega,Below.refl _ _⟩
 case round =>
  obtain ⟨k,rfl,rfl,hk,hkg,hBx⟩:=hrel
  have hk0:(0:Int)<=(k:Int):=by omega
  have HB:=hid hBx
  obtain ⟨w3,hw3⟩:∃ X,X=wr:=⟨_,rfl⟩
  subst hw3
  clear hBx
  obtain ⟨D,hD⟩:∃ D,D=disN f g k:=⟨_,rfl⟩
  have hdl:=zif f g k
  rw [<-hD] at hdl ⊢
  by_cases hlt:k<n
  ·have hlt':(k:Int)<(n:Int):=by omega
   have hlt2:decide ((k:Int)<(n:Int))=true:=by simp [hlt]
   obtain ⟨b,o,hAe,hb,e0⟩:=(HA.out.on HB.out).at hlt
   obtain ⟨b2,o2,hBe,hb2,e2⟩:=(HC.out.on HB.out).at hlt
   subst hAe hBe
   obtain ⟨x,hx⟩:∃ x,x=f k:=⟨_,rfl⟩
   obtain ⟨y,hy⟩:∃ y,y=g k:=⟨_,rfl⟩
   rw [<-hx] at e0;rw [<-hy] at e2
   have hnx:disN f g (k+1)=D+if x=y then 0 else 1:=by rw [hD,hx,hy]; rfl
   have HNX:=hid hnx
   clear hx hy hD hnx
   go_upto_region 5 with fail
   refine wp_region_held_drew (S:=fun X=>X.cell? ⟨b,o+k,none⟩=some (.int .i64 x)/\X.cell? ⟨b2,o2+k,none⟩=some (.int .i64 y)) (by kernel_rfl) ⟨cellS (Below.refl _ _).drew e0,cellS (Below.refl _ _).drew e2⟩ (fun hHeld=>?_)
   obtain ⟨w4,hw⟩:∃ W,W=World.drew w3:=⟨_,rfl⟩
   have kb:Below w3.heap.size w3 w4:=by rw [hw]; exact (Below.refl _ _).drew
   rw [<-hw] at hHeld ⊢;clear hw e0 e2;replace HB:=hid (onS HB.out kb);clear kb
   by_cases hxy:x=y
   ·have hne:(x != y)=false:=by simp [hxy]
    have HN2:=hid (HNX.out.trans (by rw [if_pos hxy]))
    clear hxy
    refine tkq 0 (h:=tkq 1 (h:=tkq 2 (h:=tkq 3 (h:=tkq 4 (h:=tkq 5 (h:=tkq 6 (h:=tkq 7 (h:=tkq 8 (h:=?_)))))))))
    refine wpAnyH_done (by kernel_rfl) ?_ _
    clear hHeld
    go_wp2
    go_roundg (gk - 1)
    case measure=>omega
    case rel=>exact ⟨k+1,by go_num,by rw [HN2.out]; rfl,by omega,by omega,HB.out⟩
   ·have hne:(x != y)=true:=by simp [hxy]
    have HN2:=hid (HNX.out.trans (by rw [if_neg hxy]))
    clear hxy
    refine tkq 0 (h:=tkq 1 (h:=tkq 2 (h:=tkq 3 (h:=tkq 4 (h:=tkq 5 (h:=tkq 6 (h:=tkq 7 (h:=tkq 8 (h:=?_)))))))))
    refine wpAnyH_done (by kernel_rfl) ?_ _
    clear hHeld
    go_wp2
    go_roundg (gk - 1)
    case measure=>omega
    case rel=>exact ⟨k+1,by go_num,by rw [HN2.out]; go_num,by omega,by omega,HB.out⟩
  ·have hlt':¬ (k:Int)<(n:Int):=by omega
   have hlt2:decide ((k:Int)<(n:Int))=false:=by simp; omega
   obtain rfl:k=n:=by omega
   have HD:=hid hD
   clear hD
   go_wp2
   go_ret
   exact ⟨by rw [HD.out]; rfl,HB.out⟩
def nearI (D:Nat->Nat) (oth:Bool):Nat->Option Nat
 | 0=>none
 | i+1=>if oth=true/\D i=0 then nearI D oth i else match nearI D oth i with
  | none=>some i
  | some b=>if D i<D b then some i else some b
theorem zew {D:Nat->Nat} {oth:Bool}:∀ m,(nearI D oth m=none->∀ i,i<m->oth=true/\D i=0)/\∀ b,nearI D oth m=some b->b<m/\¬ (oth=true/\D b=0)/\∀ i,i<m->¬ (oth=true/\D i=0)->D b<=D i/\(i<b->D b<D i)
 | 0=>⟨fun _ i h=>absurd h (by omega),fun b h=>by simp [nearI] at h⟩
 | m + 1 => by
  obtain ⟨h1,h2⟩:=zew (D:=D) (oth:=oth) m
  have hd:nearI D oth (m+1)=if oth=true/\D m=0 then nearI D oth m else match nearI D oth m with
   | none=>some m
   | some b=>if D m<D b then some m else some b:=rfl
  rw [hd]
  by_cases hs:oth=true/\D m=0
  ·rw [if_pos hs]
   refine ⟨fun h i hi=>?_,fun b h=>?_⟩
   ·by_cases e:i=m
    ·rw [e]; exact hs
    ·exact h1 h i (by omega)
   ·obtain ⟨g1,g2,g3⟩:=h2 b h
    refine ⟨by omega,g2,fun i hi hn=>?_⟩
    by_cases e:i=m
    ·rw [e] at hn; exact absurd hs hn
    ·exact g3 i (by omega) hn
  ·rw [if_neg hs]
   cases hn:nearI D oth m with
   | none =>
    refine ⟨fun h=>(nomatch h),fun b h=>?_⟩
    injection h with h
    subst h
    refine ⟨by omega,hs,fun i hi hne=>?_⟩
    by_cases e:i=m
    ·rw [e]; exact ⟨Nat.le_refl _,fun h=>absurd h (by omega)⟩
    ·exact absurd (h1 hn i (by omega)) hne
   | some b0 =>
    obtain ⟨g1,g2,g3⟩:=h2 b0 hn
    refine ⟨fun h=>?_,fun b h=>?_⟩
    ·have h:(if D m<D b0 then some m else some b0)=none:=h
     by_cases hl:D m<D b0
     ·rw [if_pos hl] at h; cases h
     ·rw [if_neg hl] at h; cases h
    ·have h:(if D m<D b0 then some m else some b0)=some b:=h
     by_cases hl:D m<D b0
     ·rw [if_pos hl] at h
      injection h with h
      subst h
      refine ⟨by omega,hs,fun i hi hne=>?_⟩
      by_cases e:i=m
      ·rw [e]; exact ⟨Nat.le_refl _,fun h=>absurd h (by omega)⟩
      ·have:=g3 i (by omega) hne
       exact ⟨by omega,fun _=>by omega⟩
     ·rw [if_neg hl] at h
      injection h with h
      subst h
      refine ⟨by omega,g2,fun i hi hne=>?_⟩
      by_cases e:i=m
      ·rw [e]; exact ⟨by omega,fun h=>absurd h (by omega)⟩
      ·exact g3 i (by omega) hne
def NearAt (D:Nat->Nat) (m N:Nat) (U:Nat->Nat->Int) (o:Option Nat) (w:World) (wv bv:Value):Prop :=
 (o=none/\wv=.slice none 0 0/\bv=.int .i64 (-1))∨∃ b RA rc,o=some b/\b<m/\wv=.slice RA N rc/\bv=.int .i64 (D b:Nat)/\IntsR w w.heap.size RA N (U b)
theorem NearAt.on {D:Nat->Nat} {m N:Nat} {U:Nat->Nat->Int} {o:Option Nat} {w w':World} {wv bv:Value} (h:NearAt D m N U o w wv bv) (hb:Below w.heap.size w w'):NearAt D m N U o w' wv bv:=by
 rcases h with h | ⟨b,RA,rc,h1,h2,h3,h4,h5⟩
 ·exact .inl h
 ·exact .inr ⟨b,RA,rc,h1,h2,h3,h4,h5.on hb⟩
def NearPost (D:Nat->Nat) (m N:Nat) (U:Nat->Nat->Int) (oth:Bool) (w:World) (e:Ending) (w':World):Prop :=
 ∃ wv bv,e=.returned (.tuple #[wv,bv])/\NearAt D m N U (nearI D oth m) w' wv bv/\Below w.heap.size w w'
theorem zhd (oth:Bool) (T Y:Option Addr) (m d N yc:Nat) (U:Nat->Nat->Int) (y:Nat->Int) (w:World) (h:IntRows w T m (fun _=>N) U) (hy:IntsR w w.heap.size Y N y) (hm:m<=1048576) (hN:N<=1048576) :
  Calls Tryz.prog 59 #[.slice T m d,.slice Y N yc,.bool oth] w (NearPost (fun i=>disN (U i) y N) m N U oth w):=by
 have HT:=hid h
 have HY:=hid hy
 clear h hy
 obtain ⟨D,hD⟩:∃ D:Nat->Nat,D=fun i=>disN (U i) y N:=⟨_,rfl⟩
 rw [<-hD]
 have HD:Hid (∀ i,disN (U i) y N=D i):=hid fun i=>by rw [hD]
 clear hD
 go_enter Tryz.func59, Tryz.ntmps59
 go_upto_region 4 with fail
 go_loopg [8,9,10] m (fun gg bv wv iv wx=>∃ i:Nat,iv=.int .i64 (i:Nat)/\i<=m/\m<=i+gg/\Hid (NearAt D m N U (nearI D oth i) wx wv bv)/\Below w.heap.size w wx)
 case atStart=>exact ⟨0,rfl,by omega,by omega,.inl ⟨rfl,rfl,rfl⟩,Below.refl _ _⟩
 case round =>
  obtain ⟨i,rfl,hi,hig,HN,hBx⟩:=hrel
  have hi0:(0:Int)<=(i:Int):=by omega
  have HB:=hid hBx
  obtain ⟨w3,hw3⟩:∃ X,X=wr:=⟨_,rfl⟩
  subst hw3
  clear hBx
  by_cases hin:i<m
  ·have hin':(i:Int)<(m:Int):=by omega
   obtain ⟨pb,po,RA,rc,hTe,_,x0,hc1,hc2,hrow,hrng⟩:=HT.out i hin
   subst hTe
   have HX0:=hid x0
   replace x0:=cellS HB.out x0
   have HROW:=hid hrow
   clear hrow hrng hc1 hc2
   go_wp2_with fail
   refine (zhc RA Y N rc yc (U i) y w3 (HROW.out.on HB.out) (HY.out.on HB.out) hN).mono ?_
   rintro e w4 ⟨rfl,kb⟩
   rw [HD.out i];replace HN:=hid (HN.out.on kb);replace HB:=hid (onS HB.out kb);clear kb x0
   obtain ⟨dv,hdv⟩:∃ x,x=D i:=⟨_,rfl⟩
   rw [<-hdv]
   have hstep:nearI D oth (i+1)=if oth=true/\D i=0 then nearI D oth i else match nearI D oth i with
    | none=>some i
    | some b=>if D i<D b then some i else some b:=rfl
   have SKIP:oth=true->dv=0->Hid (NearAt D m N U (nearI D oth (i+1)) w4 u9 u8):=fun h1 h2=>by
    rw [hstep,if_pos ⟨h1,by rw [<-hdv]; exact h2⟩]; exact HN
   have TAKE:¬ (oth=true/\dv=0)->(∀ b,nearI D oth i=some b->dv<D b)->Hid (NearAt D m N U (nearI D oth (i+1)) w4 (.slice RA N rc) (.int .i64 (dv:Nat))):=fun h1 h2=>by
    rw [hstep,if_neg (by rw [<-hdv]; exact h1)]
    refine hid (.inr ⟨i,RA,rc,?_,hin,rfl,by rw [hdv],HROW.out.on HB.out⟩)
    cases hn:nearI D oth i with
    | none=>rfl
    | some b =>
     show (if D i<D b then some i else some b)=some i
     rw [if_pos (by rw [<-hdv]; exact h2 b hn)]
   have KEEP:¬ (oth=true/\dv=0)->∀ b,nearI D oth i=some b->¬ dv<D b->Hid (NearAt D m N U (nearI D oth (i+1)) w4 u9 u8):=fun h1 b hn h2=>by
    have:nearI D oth (i+1)=nearI D oth i:=by
     rw [hstep,if_neg (by rw [<-hdv]; exact h1),hn]
     show (if D i<D b then some i else some b)=some b
     rw [if_neg (by rw [<-hdv]; exact h2)]
    rw [this]
    exact HN
   have HS:=hid SKIP
   have HTK:=hid TAKE
   have HK:=hid KEEP
   clear SKIP TAKE KEEP hstep hdv
   by_cases hsk:oth=true/\dv=0
   ·obtain ⟨h1,h2⟩:=hsk
    have HN2:=HS.out h1 h2
    clear HS HTK HK
    subst h1
    have hz:((dv:Int) == 0)=true:=by simp [h2]
    clear h2
    go_wp2
    go_roundg (gk - 1)
    case measure=>omega
    case rel=>exact ⟨i+1,by go_num,by omega,by omega,HN2,HB.out⟩
   ·have HSK:=hid hsk
    have hor:oth=false∨oth=true/\¬ dv=0:=by
     cases oth
     ·exact .inl rfl
     ·exact .inr ⟨rfl,fun h=>hsk ⟨rfl,h⟩⟩
    clear hsk
    have x0:=cellS HB.out HX0.out
    rcases HN.out with ⟨hn,rfl,rfl⟩ | ⟨b,RB,rb,hn,hbm,rfl,rfl,hrb⟩
    ·have HN2:=HTK.out HSK.out (fun b h=>by rw [hn] at h; cases h)
     clear HS HTK HK hn HN
     rcases hor with h1 | ⟨h1,h2⟩
     ·subst h1
      go_wp2
      go_roundg (gk - 1)
      case measure=>omega
      case rel=>exact ⟨i+1,by go_num,by omega,by omega,HN2,HB.out⟩
     ·subst h1
      have hz:((dv:Int) == 0)=false:=by simp [h2]
      clear h2
      go_wp2
      go_roundg (gk - 1)
      case measure=>omega
      case rel=>exact ⟨i+1,by go_num,by omega,by omega,HN2,HB.out⟩
    ·obtain ⟨Db,hDb⟩:∃ x,x=D b:=⟨_,rfl⟩
     have hneg:decide ((Db:Int)<0)=false:=by simp
     have hneg2:¬ (Db:Int)<0:=by omega
     by_cases hl:dv<Db
     ·have HN2:=HTK.out HSK.out (fun b2 h=>by rw [hn] at h; injection h with h; rw [<-h,<-hDb]; exact hl)
      rw [<-hDb]
      have hl':decide ((dv:Int)<(Db:Int))=true:=by simp [hl]
      have hl2:(dv:Int)<(Db:Int):=by omega
      clear HS HTK HK hn hrb HN hDb hl
      rcases hor with h1 | ⟨h1,h2⟩
      ·subst h1
       go_wp2
       go_roundg (gk - 1)
       case measure=>omega
       case rel=>exact ⟨i+1,by go_num,by omega,by omega,HN2,HB.out⟩
      ·subst h1
       have hz:((dv:Int) == 0)=false:=by simp [h2]
       clear h2
       go_wp2
       go_roundg (gk - 1)
       case measure=>omega
       case rel=>exact ⟨i+1,by go_num,by omega,by omega,HN2,HB.out⟩
     ·have HN2:=HK.out HSK.out b hn (by rw [<-hDb]; exact hl)
      rw [<-hDb] at HN2 ⊢
      have hl':decide ((dv:Int)<(Db:Int))=false:=by simp; omega
      have hl2:¬ (dv:Int)<(Db:Int):=by omega
      clear HS HTK HK hn hrb HN hDb hl x0
      rcases hor with h1 | ⟨h1,h2⟩
      ·subst h1
       go_wp2
       go_roundg (gk - 1)
       case measure=>omega
       case rel=>exact ⟨i+1,by go_num,by omega,by omega,HN2,HB.out⟩
      ·subst h1
       have hz:((dv:Int) == 0)=false:=by simp [h2]
       clear h2
       go_wp2
       go_roundg (gk - 1)
       case measure=>omega
       case rel=>exact ⟨i+1,by go_num,by omega,by omega,HN2,HB.out⟩
  ·have hin':¬ (i:Int)<(m:Int):=by omega
   obtain rfl:i=m:=by omega
   go_wp2
   go_ret2
   exact ⟨_,_,rfl,HN.out,HB.out⟩
def rowsL (m:Nat) (n:Nat->Nat) (x:Nat->Nat->Int):List (List Int):=(List.range m).map fun i=>(List.range (n i)).map (x i)
theorem IntTab.tabL {w:World} {g base m:Nat} {F:Nat->Value} {n:Nat->Nat} {x:Nat->Nat->Int} (h:IntTab w g base m F n x) (hm:m<=maxLen):TabL w 0 (.slice (some ⟨g,0,none⟩) m m) (rowsL m n x):=by
 have hlen:(rowsL m n x).length=m:=by simp [rowsL]
 refine ⟨F,?_,fun i hi=>?_⟩
 ·rw [hlen]
  exact zau h.row (Nat.zero_le _) hm
 ·rw [hlen] at hi
  have h1:=(h.own i hi).mono (Nat.zero_le base)
  have h2:(rowsL m n x).getD i []=(List.range (n i)).map (x i):=by simp [rowsL,hi]
  rw [h2]
  unfold OwnL
  rw [List.length_map,List.length_range]
  exact h1.congr fun k hk j _=>by
   unfold listCell
   simp [hk]
theorem zf2 (D:Int) (g1 b1 g2 b2 m:Nat) (F1 F2:Nat->Value) (n:Nat->Nat) (x:Nat->Nat->Int) (w:World) (h1:IntTab w g1 b1 m F1 n x) (h2:IntTab w g2 b2 m F2 n x) (hm:m<=1048576) (hn:∀ i,i<m->n i<=1048576) :
  Calls Tryz.prog 57 #[.agg #[.int .i64 D,.slice (some ⟨g1,0,none⟩) m m],.agg #[.int .i64 D,.slice (some ⟨g2,0,none⟩) m m]] w fun e w'=>e=.returned (.bool true)/\Below w.heap.size w w':=by
 have H1:=hid (h1.tabL (by unfold maxLen; omega))
 have H2:=hid (h2.tabL (by unfold maxLen; omega))
 have HL:Hid (∀ l,l ∈ rowsL m n x->l.length<=1048576):=hid fun l hl=>by
  obtain ⟨i,hi,rfl⟩:=List.mem_map.1 hl
  rw [List.length_map,List.length_range]
  exact hn i (List.mem_range.1 hi)
 clear h1 h2 hn
 have rf:=zae (w:=w) (a:=.int .i64 D) (b:=.slice (some ⟨g1,0,none⟩) m m) (T := 81)
 have hB:Below w.heap.size w (w.alloc (.cells #[.int .i64 D,.slice (some ⟨g1,0,none⟩) m m] 81)):=(Below.refl _ _).alloc (Nat.le_refl _) _
 obtain ⟨w1,hw1⟩:∃ W,W=w.alloc (.cells #[.int .i64 D,.slice (some ⟨g1,0,none⟩) m m] 81):=⟨_,rfl⟩
 rw [<-hw1] at hB rf
 have rt:=zae (w:=w1) (a:=.int .i64 D) (b:=.slice (some ⟨g2,0,none⟩) m m) (T := 81)
 have kb:Below w1.heap.size w1 (w1.alloc (.cells #[.int .i64 D,.slice (some ⟨g2,0,none⟩) m m] 81)):=(Below.refl _ _).alloc (Nat.le_refl _) _
 obtain ⟨w2,hw2⟩:∃ W,W=w1.alloc (.cells #[.int .i64 D,.slice (some ⟨g2,0,none⟩) m m] 81):=⟨_,rfl⟩
 rw [<-hw2] at kb rt;replace rf:=zaa rf kb;replace hB:=onS hB kb
 have hsz1:w1.heap.size=w.heap.size+1:=by rw [hw1]; simp
 rw [hsz1] at rt
 go_enter Tryz.func57, Tryz.ntmps57
 go_upto_region 1 with fail
 rw [<-hw1,<-hw2];clear hw1 hw2 kb hsz1
 have p0:=qc0 rf
 have p1:=qc1 rf
 have p2:=qc0 rt
 have p3:=qc1 rt
 have hDD:(D == D)=true:=by simp
 have HB:=hid hB
 clear rf rt hB
 go_wp2_with fail
 refine (zeo 0 0 _ _ (rowsL m n x) w2 (H1.out.on HB.out) (H2.out.on HB.out) HL.out).mono ?_
 rintro e w3 ⟨rfl,kb⟩
 replace HB:=hid (onS HB.out kb);clear kb p0 p1 p2 p3
 go_wp2
 go_ret
 exact ⟨rfl,HB.out⟩
theorem zc5 (ALIVE:∀ w:World,Calls Tryz.prog 51 #[] w fun e w'=>e=.returned (.bool true)/\Below w.heap.size w w')
  (P M:Int) (A:Option Addr) (k c:Nat) (f:Nat->Int) (N:Int) (TC:Option Addr) (n d:Nat) (ln:Nat->Nat) (V:Nat->Nat->Int) (T:Trel) (TA TB:Option Addr) (ca cb:Nat) (w:World) (hr:IntsR w w.heap.size A k f) (h:IntRows w TC n ln V) (hkc:k<=c) (hT:T.Reads w TA TB) :
  Calls Tryz.prog 12 #[.agg #[.int .i64 P,.int .i64 M,.slice A k c,.int .i64 N,.slice TC n d],.agg #[.slice TA T.nw ca,.slice TB T.n cb]] w fun e w'=>e=.returned (.bool true)/\Below w.heap.size w w':=by
 have HA:=hid ALIVE
 have HI:=hid hr
 have HT:=hid h
 have HR:=hid hT
 clear hr h hT ALIVE
 have rf:=zam (w:=w) (a:=.int .i64 P) (b:=.int .i64 M) (c:=.slice A k c) (d:=.int .i64 N) (e:=.slice TC n d) (T := 27)
 have hB:Below w.heap.size w (w.alloc (.cells #[.int .i64 P,.int .i64 M,.slice A k c,.int .i64 N,.slice TC n d] 27)):=(Below.refl _ _).alloc (Nat.le_refl _) _
 obtain ⟨w1,hw1⟩:∃ W,W=w.alloc (.cells #[.int .i64 P,.int .i64 M,.slice A k c,.int .i64 N,.slice TC n d] 27):=⟨_,rfl⟩
 rw [<-hw1] at hB rf
 have rt:=zae (w:=w1) (a:=.slice TA T.nw ca) (b:=.slice TB T.n cb) (T := 74)
 have kb:Below w1.heap.size w1 (w1.alloc (.cells #[.slice TA T.nw ca,.slice TB T.n cb] 74)):=(Below.refl _ _).alloc (Nat.le_refl _) _
 obtain ⟨w2,hw2⟩:∃ W,W=w1.alloc (.cells #[.slice TA T.nw ca,.slice TB T.n cb] 74):=⟨_,rfl⟩
 rw [<-hw2] at kb rt;replace rf:=zaa rf kb;replace hB:=onS hB kb
 have hsz1:w1.heap.size=w.heap.size+1:=by rw [hw1]; simp
 rw [hsz1] at rt
 go_enter Tryz.func12, Tryz.ntmps12
 go_upto_region 1 with fail
 rw [<-hw1,<-hw2];clear hw1 hw2 kb hsz1
 obtain ⟨b0,hb0⟩:∃ b,b=w.heap.size:=⟨_,rfl⟩
 obtain ⟨b1,hb1⟩:∃ b,b=w.heap.size+1:=⟨_,rfl⟩
 rw [<-hb0] at rf;rw [<-hb1] at rt;rw [<-hb1,<-hb0];clear hb0 hb1
 have HBOX:Hid (∀ X,Below w2.heap.size w2 X->(X.cell? ⟨b0,0,none⟩=some (.int .i64 P)/\X.cell? ⟨b0,1,none⟩=some (.int .i64 M)/\X.cell? ⟨b0,2,none⟩=some (.slice A k c)/\X.cell? ⟨b0,3,none⟩=some (.int .i64 N)/\X.cell? ⟨b0,4,none⟩=some (.slice TC n d))/\X.cell? ⟨b1,0,none⟩=some (.slice TA T.nw ca)/\X.cell? ⟨b1,1,none⟩=some (.slice TB T.n cb)):=hid fun X hx =>
  ⟨⟨(zaa rf hx).cell (i:=0) (by omega),(zaa rf hx).cell (i:=1) (by omega),(zaa rf hx).cell (i:=2) (by omega),(zaa rf hx).cell (i:=3) (by omega),(zaa rf hx).cell (i:=4) (by omega)⟩,(zaa rt hx).cell (i:=0) (by omega),(zaa rt hx).cell (i:=1) (by omega)⟩
 have HB:=hid hB
 clear hB rt rf
 obtain ⟨⟨q0,q1,q2,q3,q4⟩,p0,p1⟩:=HBOX.out _ (Below.refl _ _)
 go_wp2_with fail
 refine (zi0 T TA TB ca cb 3000 (by omega) w2 (HR.out.on HB.out)).mono ?_
 rintro e w3 ⟨⟨r,rfl⟩,kb⟩
 have KB:=hid kb
 clear kb q0 q1 q2 q3 q4 p0 p1
 cases r with
 | false =>
  go_wp2_with fail
  refine (HA.out _).mono ?_
  rintro e w4 ⟨rfl,kb⟩
  replace KB:=hid (onS KB.out kb);clear kb
  go_wp2
  go_ret
  exact ⟨rfl,onS HB.out KB.out⟩
 | true =>
  obtain ⟨⟨q0,q1,q2,q3,q4⟩,p0,p1⟩:=HBOX.out _ KB.out
  go_wp2_with fail
  refine (zi3 P M A k c f N TC n d ln V T TA TB ca cb w3 (HI.out.on (onS HB.out KB.out)) (HT.out.on (onS HB.out KB.out)) hkc (HR.out.on (onS HB.out KB.out))).mono ?_
  rintro e w4 ⟨kb,u,hu,he⟩
  have HU:=hid hu
  replace KB:=hid (onS KB.out kb);clear kb hu q0 q1 q2 q3 q4 p0 p1
  have hform:∃ (D:Int) (PA:Option Addr) (pn pc:Nat) (ev:Int),e=.returned (.tuple #[.agg #[.int .i64 D,.slice PA pn pc],.int .i64 ev]):=by
   rcases he with ⟨_,h⟩ | ⟨_,_,h⟩ | ⟨_,_,ze,nd,_,g,F,base,h,_⟩
   ·exact ⟨_,_,_,_,_,h⟩
   ·exact ⟨_,_,_,_,_,h⟩
   ·exact ⟨_,_,_,_,_,h⟩
  obtain ⟨D,PA,pn,pc,ev,rfl⟩:=hform
  have HE:=hid he
  clear he
  go_upto_region 4 with fail
  have rp:=zae (w:=w4) (a:=.int .i64 D) (b:=.slice PA pn pc) (T := 81)
  have kb:Below w4.heap.size w4 (w4.alloc (.cells #[.int .i64 D,.slice PA pn pc] 81)):=(Below.refl _ _).alloc (Nat.le_refl _) _
  obtain ⟨w5,hw5⟩:∃ W,W=w4.alloc (.cells #[.int .i64 D,.slice PA pn pc] 81):=⟨_,rfl⟩
  rw [<-hw5] at rp kb ⊢;clear hw5
  obtain ⟨b5,hb5⟩:∃ b,b=w4.heap.size:=⟨_,rfl⟩
  rw [<-hb5] at rp ⊢;clear hb5
  have HPB:Hid (∀ X,Below w5.heap.size w5 X->X.cell? ⟨b5,0,none⟩=some (.int .i64 D)/\X.cell? ⟨b5,1,none⟩=some (.slice PA pn pc)):=hid fun X hx=>⟨(zaa rp hx).cell (i:=0) (by omega),(zaa rp hx).cell (i:=1) (by omega)⟩
  have K5:=hid kb
  replace KB:=hid (onS KB.out kb)
  have KB5:=KB
  clear kb rp
  obtain ⟨⟨q0,q1,q2,q3,q4⟩,p0,p1⟩:=HBOX.out _ KB.out
  go_wp2_with fail
  refine (zdO P M A k c f N TC n d ln V T TA TB ca cb w5 (HI.out.on (onS HB.out KB.out)) (HT.out.on (onS HB.out KB.out)) (HR.out.on (onS HB.out KB.out))).mono ?_
  rintro e w6 ⟨v,rfl,hv,kb⟩
  obtain rfl:u=v:=TChk.unique HI.out HT.out HU.out hv
  have K6:=hid kb
  replace KB:=hid (onS KB.out kb);clear kb hv q0 q1 q2 q3 q4 p0 p1
  rcases HE.out with ⟨hu0,he⟩ | ⟨hu0,hn0,he⟩ | ⟨hu0,hn1,ze,nd,hz,g,F,base,he,hpt⟩
  ·have hnz:(u == 0)=false:=by simpa using hu0
   have hnz2:(u != 0)=true:=by simpa using hu0
   have huu:(u != u)=false:=by simp
   have he2:(D=0/\PA=none/\pn=0/\pc=0)/\ev=u:=by simpa using he
   obtain ⟨⟨rfl,rfl,rfl,rfl⟩,rfl⟩:=he2
   clear he HE hu0
   go_wp2_with fail
   refine (HA.out _).mono ?_
   rintro e w7 ⟨rfl,kb⟩
   replace KB:=hid (onS KB.out kb);replace K6:=hid (onS K6.out kb);clear kb
   obtain ⟨s0,s1⟩:=HPB.out _ K6.out
   go_wp2
   go_ret
   exact ⟨rfl,onS HB.out KB.out⟩
  ·subst hu0
   have hnz:((n:Int) == 0)=true:=by simp [hn0]
   have he2:(D=0/\PA=none/\pn=0/\pc=0)/\ev=11:=by simpa using he
   obtain ⟨⟨rfl,rfl,rfl,rfl⟩,rfl⟩:=he2
   clear he HE hn0
   obtain ⟨⟨_,_,_,_,q4⟩,_,_⟩:=HBOX.out _ KB.out
   go_wp2_with fail
   clear q4
   refine (HA.out _).mono ?_
   rintro e w7 ⟨rfl,kb⟩
   replace KB:=hid (onS KB.out kb);replace K6:=hid (onS K6.out kb);clear kb
   obtain ⟨s0,s1⟩:=HPB.out _ K6.out
   go_wp2
   go_ret
   exact ⟨rfl,onS HB.out KB.out⟩
  ·subst hu0
   have hnz:((n:Int) == 0)=false:=by simp; omega
   have he2:(D=T.pot nd T.n 0/\PA=some ⟨g,0,none⟩/\pn=T.nw/\pc=T.nw)/\ev=0:=by simpa using he
   obtain ⟨⟨hD,rfl,rfl,rfl⟩,rfl⟩:=he2
   obtain ⟨P',M',N',rfl,rfl,rfl,hC,hS,hmin⟩:=TChk.least HI.out HT.out HU.out hz hn1
   obtain ⟨hp,_⟩:=TChk.zp HI.out HT.out HU.out
   have HP:=hid hp
   have HZ:=hid hz
   have HC:=hid hC
   have HSO:=hid hS
   have HMN:=hid hmin
   have HPT:=hid (hpt.on K5.out)
   have HDD:=hid hD
   have hnw65:T.nw<=65:=by have:=hp.shape.nw; have:=hp.shape.n64; omega
   have HNW:=hid hp.shape.nw
   have HWN:Hid (∀ i,i<T.nw->(T.W i).toNat<=1048576):=hid fun i hi=>by have:=(hp.shape.wid (i:=i) (by have:=hp.shape.nw; omega)).2; omega
   have HWI:Hid (∀ i,i<T.nw->(((T.W i).toNat:Nat):Int)=T.W i):=hid fun i hi=>by have:=(hp.shape.wid (i:=i) (by have:=hp.shape.nw; omega)).1; omega
   clear he HE hp hz hC hS hmin hpt hD
   obtain ⟨⟨_,_,_,_,q4⟩,_,_⟩:=HBOX.out _ KB.out
   go_wp2_with fail
   clear q4 hnz
   refine (HA.out _).mono ?_
   rintro e w7 ⟨rfl,kb⟩
   replace KB:=hid (onS KB.out kb);replace K6:=hid (onS K6.out kb);clear kb
   go_upto_region 11 with fail
   have HS:Hid (∀ X,Below w5.heap.size w5 X->((X.cell? ⟨b0,0,none⟩=some (.int .i64 (P':Nat))/\X.cell? ⟨b0,1,none⟩=some (.int .i64 (M':Nat))/\X.cell? ⟨b0,2,none⟩=some (.slice A k c)/\X.cell? ⟨b0,3,none⟩=some (.int .i64 (N':Nat))/\X.cell? ⟨b0,4,none⟩=some (.slice TC n d))/\X.cell? ⟨b1,0,none⟩=some (.slice TA T.nw ca)/\X.cell? ⟨b1,1,none⟩=some (.slice TB T.n cb))/\X.cell? ⟨b5,0,none⟩=some (.int .i64 D)/\X.cell? ⟨b5,1,none⟩=some (.slice (some ⟨g,0,none⟩) T.nw T.nw)):=hid fun X hx=>⟨HBOX.out X (onS KB5.out hx),HPB.out X hx⟩
   refine wp_region_held_drew (S:=fun X=>((X.cell? ⟨b0,0,none⟩=some (.int .i64 (P':Nat))/\X.cell? ⟨b0,1,none⟩=some (.int .i64 (M':Nat))/\X.cell? ⟨b0,2,none⟩=some (.slice A k c)/\X.cell? ⟨b0,3,none⟩=some (.int .i64 (N':Nat))/\X.cell? ⟨b0,4,none⟩=some (.slice TC n d))/\X.cell? ⟨b1,0,none⟩=some (.slice TA T.nw ca)/\X.cell? ⟨b1,1,none⟩=some (.slice TB T.n cb))/\X.cell? ⟨b5,0,none⟩=some (.int .i64 D)/\X.cell? ⟨b5,1,none⟩=some (.slice (some ⟨g,0,none⟩) T.nw T.nw)) (by kernel_rfl) (HS.out _ (onS K6.out (Below.refl _ _).drew)) (fun hHeld=>?_)
   obtain ⟨w8,hw⟩:∃ W,W=World.drew w7:=⟨_,rfl⟩
   have kb:Below w7.heap.size w7 w8:=by rw [hw]; exact (Below.refl _ _).drew
   rw [<-hw] at hHeld ⊢;clear hw;replace KB:=hid (onS KB.out kb);replace K6:=hid (onS K6.out kb);clear kb
   refine tkq 0 (h:=tkq 1 (h:=?_))
   clear hHeld
   refine rdq 2 (h:=fun K hK=>?_)
   go_simp
   go_wp2_with fail
   refine (zi4 T ze nd TA TB ca cb w8 (HR.out.on (onS HB.out KB.out)) HP.out HZ.out).mono ?_
   rintro e w9 ⟨g2,F2,base2,rfl,hpt2,kb⟩
   rw [<-HDD.out];replace KB:=hid (onS KB.out kb);replace K6:=hid (onS K6.out kb)
   have HPT2:=hid hpt2
   clear kb hpt2
   refine bkq hK (HS.out _ K6.out) (h:=fun hHeld=>?_)
   clear hK K hHeld
   refine rdq 3 (h:=fun K hK=>?_)
   go_simp
   go_wp2_with fail
   refine (zf2 D g base g2 base2 T.nw F F2 (fun i=>(T.W i).toNat) (T.pot nd) w9 (HPT.out.on K6.out) HPT2.out (by omega) HWN.out).mono ?_
   rintro e w10 ⟨rfl,kb⟩
   replace KB:=hid (onS KB.out kb);replace K6:=hid (onS K6.out kb);clear kb HPT2
   refine bkq hK (HS.out _ K6.out) (h:=fun hHeld=>?_)
   clear hK K
   refine tkq 4 (h:=tkq 5 (h:=tkq 6 (h:=tkq 7 (h:=tkq 8 (h:=?_)))))
   clear hHeld
   refine rdq 9 (h:=fun K hK=>?_)
   go_simp
   go_wp2_with fail
   refine (zfX (P':Int) (M':Int) A k c f (N':Int) TC n d ln V T TA TB ca cb D (some ⟨g,0,none⟩) T.nw T.nw (fun i=>(T.W i).toNat) (T.pot nd) w10 (HI.out.on (onS HB.out KB.out)) (HT.out.on (onS HB.out KB.out)) hkc (HR.out.on (onS HB.out KB.out)) ((HPT.out.on K6.out).rows fun v _ k _=>by have:=Trel.pot_in (T:=T) (nd:=nd) v k; omega)).mono ?_
   rintro e w11 ⟨v,rfl,hv,kb⟩
   obtain rfl:v=0:=PChk.unique HI.out HT.out hv ⟨0,HU.out,.inr ⟨rfl,ze,nd,HZ.out,.inl rfl,⟨fun _=>by rw [HDD.out]; exact Trel.pot_ok HWI.out,fun _=>rfl⟩⟩⟩
   replace KB:=hid (onS KB.out kb);replace K6:=hid (onS K6.out kb);clear kb hv
   refine bkq hK (HS.out _ K6.out) (h:=fun hHeld=>?_)
   clear hK K
   refine tkq 10 (h:=tkq 11 (h:=?_))
   refine wpAnyH_done (by kernel_rfl) ?_ _
   clear hHeld
   obtain ⟨⟨⟨q0,q1,q2,q3,q4⟩,_,_⟩,_⟩:=HS.out _ K6.out
   go_wp2_with fail
   refine (zfG 512 (P':Int) (M':Int) A k c f (N':Int) TC n d ln V w11 (HI.out.on (onS HB.out KB.out)) (HT.out.on (onS HB.out KB.out)) (by omega)).mono ?_
   rintro e w12 ⟨v,rfl,hv,kb⟩
   replace KB:=hid (onS KB.out kb);replace K6:=hid (onS K6.out kb);clear kb q0 q1 q2 q3 q4
   rcases hv with ⟨rfl,_⟩ | ⟨_,hsz,rfl⟩
   ·go_wp2
    go_ret
    exact ⟨rfl,onS HB.out KB.out⟩
   rw [Int.toNat_natCast,Int.toNat_natCast] at hsz ⊢
   have hq2:=(fieldLaws HC.out.fld).two
   have hmpos:0<(P' ^ M') ^ n:=Nat.pow_pos (by omega)
   obtain ⟨m,hm⟩:∃ m,m=(P' ^ M') ^ n:=⟨_,rfl⟩
   rw [<-hm] at hsz hmpos ⊢
   have HM:=hid hm
   have hmz:((m:Int) == 0)=false:=by simp; omega
   obtain ⟨⟨⟨q0,q1,q2,q3,q4⟩,_,_⟩,_⟩:=HS.out _ K6.out
   clear hm hq2
   go_wp2_with fail
   refine (zfI P' M' (fun i=>(f i).toNat) A k c N' TC n d (natT V) w12 (HC.out.on (onS HB.out KB.out)) (by rw [<-HM.out]; omega)).mono ?_
   rintro e w13 ⟨lv,rfl,hM,kb⟩
   rw [<-HM.out] at hM;replace KB:=hid (onS KB.out kb);replace K6:=hid (onS K6.out kb);clear kb q0 q1 q2 q3 q4 hmz
   rcases hM.form with ⟨_,h0⟩ | ⟨lb,lo,lc,rfl,hlc1,hlc2⟩
   ·omega
   have hq256:P' ^ M'<=256:=HC.out.fld.1.2.2.2
   have HMR:Hid (IntRows w13 (some ⟨lb,lo,none⟩) m (fun _=>N') (fun i j=>((spE (addF P' M') (mulF P' M' fun i=>(f i).toNat) (natT V) (msgD (P' ^ M') n i) n j:Nat):Int))):=hid (hM.rd hq256 fun i _ j _=>zcL (fieldLaws HC.out.fld) _ _ _)
   have hN64:=HC.out.ln2
   obtain ⟨⟨⟨q0,q1,q2,q3,q4⟩,_,_⟩,_⟩:=HS.out _ K6.out
   have hmk:=fun W=>zaf (P:=Tryz.prog) 22 3 _ 8 Tryz.underlying22 Tryz.infoInt rfl (N':Int) (by omega) (by omega) (by omega) W
   simp only [Int.toNat_natCast] at hmk
   have hmade:=World.rowIs_made w13 (.int .i64 0) N' 3
   have kb:Below w13.heap.size w13 (World.alloc w13 (Obj.cells (madeCells #[Value.int .i64 0] N') 3)):=(Below.refl _ _).alloc (Nat.le_refl _) _
   have HY:Hid (IntsR (World.alloc w13 (Obj.cells (madeCells #[Value.int .i64 0] N') 3)) (World.alloc w13 (Obj.cells (madeCells #[Value.int .i64 0] N') 3)).heap.size (some ⟨w13.heap.size,0,none⟩) N' (fun _=>0)):=hid (zbk hmade)
   have KY:=hid kb
   clear hM hmade kb hq256
   go_wp2_with fail
   refine (zhd true (some ⟨lb,lo,none⟩) (some ⟨w13.heap.size,0,none⟩) m lc N' N' _ (fun _=>0) _ (HMR.out.on KY.out) HY.out (by omega) (by omega)).mono ?_
   rintro e w14 ⟨wv,bv,rfl,hat,kb⟩
   replace KB:=hid (onS KB.out (onS KY.out kb));replace K6:=hid (onS K6.out (onS KY.out kb))
   obtain ⟨U,hU⟩:∃ U:Nat->Nat->Nat,U=fun i j=>spE (addF P' M') (mulF P' M' fun i=>(f i).toNat) (natT V) (msgD (P' ^ M') n i) n j:=⟨_,rfl⟩
   have hnear:bv=.int .i64 D:=by
    have hq:0<P' ^ M':=by have:=(fieldLaws HC.out.fld).two; omega
    obtain ⟨h1,h2⟩:=zew (D:=fun i=>disN (fun j=>((spE (addF P' M') (mulF P' M' fun i=>(f i).toNat) (natT V) (msgD (P' ^ M') n i) n j:Nat):Int)) (fun _=>0) N') (oth:=true) m
    obtain ⟨us,hus,hds⟩:=HMN.out
    have hpin:=Trel.pot_in (T:=T) (nd:=nd) T.n 0
    obtain ⟨cs,hcs,hes⟩:=hus
    obtain ⟨x,hx,hxd⟩:=zjr hcs
    have hdx:disN (fun j=>((spE (addF P' M') (mulF P' M' fun i=>(f i).toNat) (natT V) (msgD (P' ^ M') n x) n j:Nat):Int)) (fun _=>0) N'=disN (fun j=>((us j:Nat):Int)) (fun _=>0) N':=zb7 N' fun j hj=>⟨by
     show ((spE (addF P' M') (mulF P' M' fun i=>(f i).toNat) (natT V) (msgD (P' ^ M') n x) n j:Nat):Int)=(us j:Int)
     rw [hes j hj,zb3 (V':=natT V) (c:=msgD (P' ^ M') n x) (c':=cs) n fun t ht=>⟨hxd t ht,rfl⟩],rfl⟩
    rcases hat with ⟨hn,_,_⟩ | ⟨b,RA,rc,hn,hbm,_,rfl,_⟩
    ·have h3:=(h1 hn x (by rw [HM.out]; exact hx)).2
     have h3:disN (fun j=>((spE (addF P' M') (mulF P' M' fun i=>(f i).toNat) (natT V) (msgD (P' ^ M') n x) n j:Nat):Int)) (fun _=>0) N'=0:=h3
     rw [hdx] at h3
     omega
    ·obtain ⟨g1,g2,g3⟩:=h2 b hn
     have g3:=(g3 x (by rw [HM.out]; exact hx) (fun h=>by
      have h4:disN (fun j=>((spE (addF P' M') (mulF P' M' fun i=>(f i).toNat) (natT V) (msgD (P' ^ M') n x) n j:Nat):Int)) (fun _=>0) N'=0:=h.2
      rw [hdx] at h4
      omega)).1
     have g3:disN (fun j=>((spE (addF P' M') (mulF P' M' fun i=>(f i).toNat) (natT V) (msgD (P' ^ M') n b) n j:Nat):Int)) (fun _=>0) N'<=disN (fun j=>((spE (addF P' M') (mulF P' M' fun i=>(f i).toNat) (natT V) (msgD (P' ^ M') n x) n j:Nat):Int)) (fun _=>0) N':=g3
     rw [hdx] at g3
     have g2:¬ disN (fun j=>((spE (addF P' M') (mulF P' M' fun i=>(f i).toNat) (natT V) (msgD (P' ^ M') n b) n j:Nat):Int)) (fun _=>0) N'=0:=fun h=>g2 ⟨rfl,h⟩
     have g4:=HSO.out _ ⟨msgD (P' ^ M') n b,fun _ _=>zeb hq,fun _ _=>rfl⟩
     show Value.int .i64 ((disN (fun j=>((spE (addF P' M') (mulF P' M' fun i=>(f i).toNat) (natT V) (msgD (P' ^ M') n b) n j:Nat):Int)) (fun _=>0) N':Nat):Int)=.int .i64 D
     rw [HDD.out]
     congr 1
     omega
   subst hnear
   clear kb hat hU q0 q1 q2 q3 q4 hmk hmpos
   obtain ⟨_,s0,_⟩:=HS.out _ K6.out
   have hDD:(D == D)=true:=by simp
   go_wp2
   go_ret
   exact ⟨rfl,onS HB.out KB.out⟩
theorem viterbiPots_law {H:Type} {enc:TypeId × Value->H} {w:World} {cs cs2:Array Value}
  (h:Sees enc Tryz.prog w 0 (fun _=>true) true 27 cs.toList) (h2:SeesW enc Tryz.prog w 0 (fun _=>true) true 74 cs2.toList) :
  Calls Tryz.prog 12 #[.agg cs,.agg cs2] w fun e w'=>e=.returned (.bool true)/\Below w.heap.size w w':=by
 obtain ⟨cs⟩:=cs
 obtain ⟨cs2⟩:=cs2
 obtain ⟨P,M,A,k,c1,N,T1,n,d,f,ln,V,rfl,_,_,hkc,_,_,_,hr,ht⟩:=zhy h
 obtain ⟨T,TA,TB,ca,cb,rfl,hT,_⟩:=zhM h2
 exact zc5 zfZ P M A k c1 f N T1 n d ln V T TA TB ca cb w hr ht hkc hT
end Go.Proofs.YtioagplajkoohaaGreat