/- Merged texts of a claim: Base, Tk, IntsAll, FldP, PolW, FldLaw. -/
import Derived.Test.YtgekjfpapmlndaaGreatRows
import Derived.WalkKit
import Derived.WalkSpells
import Derived.WalkLawsBesides
import Derived.Deep.OwnRows
import Derived.ProofKit
import Derived.Deep.RegionHeld3
import Derived.Deep.Slices
import Derived.Lib.SmallJoins
import Derived.Deep.LoopGhost
import Derived.Deep.QuietTactic
import Derived.BigQuiet
import Derived.Deep.Cut
import Derived.Deep.CutBlock
import Derived.Deep.DeepCutAuto
import Derived.IntWalk
import Derived.StillTailTactics
import Derived.SizedLaws
namespace Go.Proofs.YtgekjfpapmlndaaGreat
set_option maxRecDepth 100000
set_option maxHeartbeats 32000000
theorem KE.qc0 {w:World} {g:Nat} {T:TypeId} {v:Value} (h:w.rowIs g T 1 (fun _=>v)) : w.cell? ⟨g,0,none⟩=some v:=h.cell (i:=0) (by decide)
open KE
open Go.RowKit
theorem hid {p:Prop} (h:p):Hid p:=h
theorem zao {k:IntKind} {a b:Int} (h:a=b):Ending.returned (.int k a)=.returned (.int k b):=by rw [h]
theorem cellS {X w1:World} {p:Addr} {v:Value} (hb:Below X.heap.size X w1) (h:X.cell? p=some v):w1.cell? p=some v :=
 (hb.cell (World.block_lt_of_cell? X p h)).trans h
theorem onS {w X w1:World} (h:Below w.heap.size w X) (hb:Below X.heap.size X w1):Below w.heap.size w w1:=h.trans (hb.mono h.size)
theorem zad {B:Nat} {a w:World} (h:Below B a w) (n:Nat):Below B a (w.drewN n):=⟨h.os,h.tape,h.output,h.size,h.block⟩
def Rd (w:World) (B:Nat) (A:Option Addr) (n s:Nat) (f:Nat->Nat->Value):Prop :=
 ∀ i,i<n->∃ b off,A=some ⟨b,off,none⟩/\b<B/\∀ j,j<s->w.cell? ⟨b,off+i*s+j,none⟩=some (f i j)
section
variable {w w':World} {B B' n s i:Nat} {A:Option Addr} {f:Nat->Nat->Value}
theorem Rd.keep (h:Rd w B A n s f) (hk:∀ p:Addr,p.block<B->w'.cell? p=w.cell? p):Rd w' B A n s f:=fun i hi=>by
 obtain ⟨b,off,e,hb,hc⟩:=h i hi
 exact ⟨b,off,e,hb,fun j hj=>(hk _ hb).trans (hc j hj)⟩
theorem Rd.mono (h:Rd w B A n s f) (hB:B<=B'):Rd w B' A n s f:=fun i hi=>by
 obtain ⟨b,off,e,hb,hc⟩:=h i hi
 exact ⟨b,off,e,by omega,hc⟩
theorem Rd.below (h:Rd w B A n s f) (hb:Below B' w w') (hB:B<=B'):Rd w' B A n s f:=h.keep fun _ hp=>hb.cell (by omega)
theorem Rd.alloc (h:Rd w B A n s f) (hB:B<=w.heap.size) (o:Obj):Rd (w.alloc o) B A n s f:=h.keep fun p hp=>World.cell?_alloc_lt w o p (by omega)
theorem Rd.at1 (h:Rd w B A n 1 f) (hi:i<n):∃ b off,A=some ⟨b,off,none⟩/\b<B/\w.cell? ⟨b,off+i,none⟩=some (f i 0):=by
 obtain ⟨b,off,e,hb,hc⟩:=h i hi
 exact ⟨b,off,e,hb,by simpa using hc 0 (by omega)⟩
theorem Rd.at3 (h:Rd w B A n 3 f) (hi:i<n):∃ b off,A=some ⟨b,off,none⟩/\b<B/\w.cell? ⟨b,off+i*3,none⟩=some (f i 0)/\w.cell? ⟨b,off+i*3+1,none⟩=some (f i 1)/\w.cell? ⟨b,off+i*3+2,none⟩=some (f i 2):=by
 obtain ⟨b,off,e,hb,hc⟩:=h i hi
 exact ⟨b,off,e,hb,by simpa using hc 0 (by omega),by simpa using hc 1 (by omega),by simpa using hc 2 (by omega)⟩
end
theorem zaf {P:Program} (t e:TypeId) (z:Value) (bytes:Nat) (ht:P.underlying t=some (.slice e)) (hinfo:(P.info? e).map (fun i=>(i.zero,i.size,i.bytes))=some (some z,1,bytes)) (hz1:z.cells=#[z])
  (x:Int) (h0:0<=x) (hbytes:bytes*x.toNat<=281474976710656) (h63:x.toNat<=9223372036854775807) (w:World) :
  (Instr.makeSlice t (.int .i64 x) (.int .i64 x)).run P w=.ok (.slice (some ⟨w.heap.size,0,none⟩) x.toNat x.toNat) (w.alloc (.cells (madeCells #[z] x.toNat) e)):=by
 obtain ⟨n,rfl⟩:=Int.eq_ofNat_of_zero_le h0
 simp only [Int.toNat_natCast] at hbytes h63 ⊢
 exact run_make_row' t e z bytes ht hinfo hz1 _ _ n hbytes h63 w
theorem za8 {w:World} {b:Nat} {t:TypeId} {n:Nat} {f:Nat->Value} (h:w.rowIs b t n f) (k:Nat):(w.drewN k).rowIs b t n f:=h
theorem zcH {w w':World} {B b:Nat} {t:TypeId} {n:Nat} {f:Nat->Value} (h:w.rowIs b t n f) (hb:Below B w w') (hB:b<B):w'.rowIs b t n f:=h.of_block (hb.block b hB)
theorem zab {w w':World} {b:Nat} {t:TypeId} {n:Nat} {f:Nat->Value} (h:w.rowIs b t n f) (hb:Below w.heap.size w w'):w'.rowIs b t n f:=h.of_block (hb.block b h.lt)
theorem zbd {w : World} {b : Nat} {t : TypeId} {n : Nat} {f : Nat → Value} (h : w.rowIs b t n f) : Rd w w.heap.size (some ⟨b, 0, none⟩) n 1 (fun i _ => f i) := fun i hi =>
  ⟨b, 0, rfl, h.lt, fun j hj => by obtain rfl : j = 0 := by omega
                                   simpa using h.cell hi⟩
theorem Tryz.infoInt:(Tryz.prog.info? 3).map (fun i=>(i.zero,i.size,i.bytes))=some (some (.int .i64 0),1,8):=by kernel_rfl
theorem Tryz.infoBool:(Tryz.prog.info? 4).map (fun i=>(i.zero,i.size,i.bytes))=some (some (.bool false),1,1):=by kernel_rfl
section
variable {P:Program} {md:Region.Mode} {ops:Array Oper} {Q:Exit->Act->World->Prop} {S:World->Prop}
theorem tkq (i:Nat) {oi:Oper} {v:Value} {fuel:Nat} {listed l':Array Bool} {a a':Act} {w:World}
  (hi:ops[i]?=some oi:=by simp only [List.getElem?_toArray,List.getElem?_cons_succ,List.getElem?_cons_zero]; rfl)
  (hs:Region.noSelect ops=true:=by kernel_rfl) (hf:Region.free md ops listed i=true:=by kernel_rfl) (hr:(Region.ready md ops listed).contains i=true:=by kernel_rfl)
  (hQ:∀ c a w,Q (.panic c) (a.put oi.dst v) w->Q (.panic c) a w:=by exact fun _ _ _ h=>h)
  (hw:Region.wanted oi (yielded ops a.tmps)=true:=by rfl)
  (hy:∀ w,S w->(execOp a.eval oi).run P w=.ok (.value v) w:=by (intro w hSw; (try dsimp only at hSw); go_simp); first | done | with_reducible rfl)
  (hS:S w:=by assumption)
  (ha:a.put oi.dst v=a':=by (try simp only [Act.put,List.setIfInBounds_toArray,List.set_cons_zero,List.set_cons_succ]); first | done | rfl)
  (hl:listed.setIfInBounds i true=l':=by (try simp only [List.setIfInBounds_toArray,List.set_cons_zero,List.set_cons_succ]); first | done | rfl)
  (h:wpAnyH P md ops Q S fuel l' a' w):wpAnyH P md ops Q S (fuel+1) listed a w:=by
 subst ha hl
 exact wpAnyH_take hi hs hf hr hQ (Or.inl ⟨hw,hy⟩) hS h
theorem tkn (i:Nat) {oi:Oper} {fuel:Nat} {listed l':Array Bool} {a a':Act} {w:World}
  (hi:ops[i]?=some oi:=by simp only [List.getElem?_toArray,List.getElem?_cons_succ,List.getElem?_cons_zero]; rfl)
  (hs:Region.noSelect ops=true:=by kernel_rfl) (hf:Region.free md ops listed i=true:=by kernel_rfl) (hr:(Region.ready md ops listed).contains i=true:=by kernel_rfl)
  (hQ:∀ c a w,Q (.panic c) (a.put oi.dst undef) w->Q (.panic c) a w:=by exact fun _ _ _ h=>h)
  (hw:Region.wanted oi (yielded ops a.tmps)=false:=by rfl)
  (hS:S w:=by assumption)
  (ha:a.put oi.dst undef=a':=by (try simp only [Act.put,List.setIfInBounds_toArray,List.set_cons_zero,List.set_cons_succ]); first | done | rfl)
  (hl:listed.setIfInBounds i true=l':=by (try simp only [List.setIfInBounds_toArray,List.set_cons_zero,List.set_cons_succ]); first | done | rfl)
  (h:wpAnyH P md ops Q S fuel l' a' w):wpAnyH P md ops Q S (fuel+1) listed a w:=by
 subst ha hl
 exact wpAnyH_take hi hs hf hr hQ (Or.inr ⟨hw,rfl⟩) hS h
theorem rdq (i:Nat) {o:Oper} {fuel:Nat} {listed l':Array Bool} {a:Act} {w:World}
  (hr:Region.ready md ops listed=[i]:=by kernel_rfl)
  (ho:ops[i]?=some o:=by simp only [List.getElem?_toArray,List.getElem?_cons_succ,List.getElem?_cons_zero]; rfl)
  (hl:listed.setIfInBounds i true=l':=by (try simp only [List.setIfInBounds_toArray,List.set_cons_zero,List.set_cons_succ]); first | done | rfl)
  (h:∀ K':Act->World->Prop,Shut (∀ a w,S w->(S w->wpAnyH P md ops Q S fuel l' a w)->K' a w)->if Region.wanted o (yielded ops a.tmps)=true then Oper.wp P o a w K' Q else K' (a.put o.dst undef) w) :
  wpAnyH P md ops Q S (fuel+1) listed a w:=by
 subst hl
 exact wpAnyH_ready hr (by simp) (AllReadyH.cons ho h AllReadyH.nil)
theorem rdq2 (i j:Nat) {o o2:Oper} {fuel:Nat} {listed l' l2:Array Bool} {a:Act} {w:World}
  (hr:Region.ready md ops listed=[i,j]:=by kernel_rfl)
  (ho:ops[i]?=some o:=by simp only [List.getElem?_toArray,List.getElem?_cons_succ,List.getElem?_cons_zero]; rfl)
  (ho2:ops[j]?=some o2:=by simp only [List.getElem?_toArray,List.getElem?_cons_succ,List.getElem?_cons_zero]; rfl)
  (hl:listed.setIfInBounds i true=l':=by (try simp only [List.setIfInBounds_toArray,List.set_cons_zero,List.set_cons_succ]); first | done | rfl)
  (hl2:listed.setIfInBounds j true=l2:=by (try simp only [List.setIfInBounds_toArray,List.set_cons_zero,List.set_cons_succ]); first | done | rfl)
  (h:∀ K':Act->World->Prop,Shut (∀ a w,S w->(S w->wpAnyH P md ops Q S fuel l' a w)->K' a w)->if Region.wanted o (yielded ops a.tmps)=true then Oper.wp P o a w K' Q else K' (a.put o.dst undef) w)
  (h2:∀ K':Act->World->Prop,Shut (∀ a w,S w->(S w->wpAnyH P md ops Q S fuel l2 a w)->K' a w)->if Region.wanted o2 (yielded ops a.tmps)=true then Oper.wp P o2 a w K' Q else K' (a.put o2.dst undef) w) :
  wpAnyH P md ops Q S (fuel+1) listed a w:=by
 subst hl hl2
 exact wpAnyH_ready hr (by simp) (AllReadyH.cons ho h (AllReadyH.cons ho2 h2 AllReadyH.nil))
theorem bkq {K:Act->World->Prop} {fuel:Nat} {l:Array Bool} {a a':Act} {w:World} (hK:Shut (∀ a w,S w->(S w->wpAnyH P md ops Q S fuel l a w)->K a w)) (hS:S w)
  (ha:a=a':=by (try simp only [Act.put,List.setIfInBounds_toArray,List.set_cons_zero,List.set_cons_succ]); first | done | rfl)
  (h:S w->wpAnyH P md ops Q S fuel l a' w):K a w:=by
 subst ha
 exact hK.out _ _ hS h
end
open Go.ChangeShapes Go.WideShapes Go.ChangeAt
section
variable {H:Type} {enc:TypeId × Value->H} {P:Program} {w:World} {base:Nat} {spare:Nat->Bool} {held:Bool} {fuel:Nat} {cs:List Value} {x:DataW H × List MemPlace} {t e s:Nat}
def Sees (enc:TypeId × Value->H) (P:Program) (w:World) (base:Nat) (spare:Nat->Bool) (held:Bool) (t:TypeId) (cs:List Value):Prop :=
 ∃ fuel x,DataW.trod enc P w base spare held fuel t cs=some x
theorem zci {k:IntKind} (ht:P.underlying t=some (.int k)) (h:Sees enc P w base spare held t cs):∃ n,cs=[.int k n]/\(Lit.int k n).wf=true:=by
 obtain ⟨fuel,x,h⟩:=h
 obtain ⟨n,h1,_,h2⟩:=DataW.trod_int ht h
 exact ⟨n,h1,h2⟩
theorem zb1 (b off j:Nat):(⟨b,off,none⟩:Addr).add j=⟨b,off+j,none⟩:=by
 unfold Addr.add; split <;> simp_all
theorem zdk (ht:P.underlying t=some (.slice e)) (hC:P.cellsOf e=s) (hs:0<s) (h:Sees enc P w base spare held t cs) :
  ∃ (A:Option Addr) (n c:Nat) (f:Nat->Nat->Value),cs=[.slice A n c]/\n<=c/\c<=maxLen/\Rd w w.heap.size A n s f/\∀ i,i<n->Sees enc P w base spare held e ((List.range s).map (f i)):=by
 obtain ⟨fuel,x,h⟩:=h
 rcases Go.Deep.open_slice ht h with ⟨rfl,_⟩ | ⟨a,len,cap,m,n,D,Pl,rfl,hb,hl,hm,u,_,hi⟩
 ·exact ⟨none,0,0,fun _ _=>undef,rfl,Nat.le_refl _,Nat.zero_le _,fun i hi=>absurd hi (by omega),fun i hi=>absurd hi (by omega)⟩
 have v:len<=m:=by rw [u]; split <;> omega
 refine ⟨some a,len,cap,fun i j=>(w.cell? (a.add (i*s+j))).getD undef,rfl,hl,hm,fun i hi'=>?_,fun i hi'=>?_⟩
 rotate_left
 ·obtain ⟨cs',hc,r⟩:=hi i (by omega)
  rw [hC] at hc
  obtain ⟨_,g,k⟩:=World.cells?_some hc
  refine ⟨n,(D i,Pl i),?_⟩
  have:(List.range s).map (fun j=>(w.cell? (a.add (i*s+j))).getD undef)=cs':=by
   apply List.ext_getElem
   ·simp [g]
   intro j h1 h2
   have:=k j (by omega)
   rw [Go.Deep.add_add,List.getElem?_eq_getElem h2] at this
   simp [this]
  rw [this]
  exact r
 obtain ⟨cs',hc,_⟩:=hi i (by omega)
 rw [hC] at hc
 obtain ⟨_,g,k⟩:=World.cells?_some hc
 have h0:=k 0 hs
 rw [List.getElem?_eq_getElem (by omega),Go.Deep.add_add] at h0
 have o:=World.block_lt_of_cell? _ _ h0
 obtain ⟨ab,ao,sp⟩:=a
 have d:w.cell? ((⟨ab,ao,sp⟩:Addr).add (i*s+0))=some (cs'[0]'(by omega)):=h0
 by_cases hz:i*s=0
 ·have:(⟨ab,ao,sp⟩:Addr).add (i*s+0)=⟨ab,ao,sp⟩:=by unfold Addr.add; rw [if_pos (by omega)]
  rw [this] at d o
  obtain rfl:sp=none:=World.cell?_spot d
  refine ⟨ab,ao,rfl,o,fun j hj=>?_⟩
  have b:=k j hj
  rw [Go.Deep.add_add,zb1] at b
  show w.cell? ⟨ab,ao+i*s+j,none⟩=some ((w.cell? ((⟨ab,ao,none⟩:Addr).add (i*s+j))).getD undef)
  rw [zb1,b,List.getElem?_eq_getElem (by omega)]
  rw [show ao+i*s+j=ao+(i*s+j) by omega,b,List.getElem?_eq_getElem (by omega)]
  rfl
 -- the first element tells that the address has no spot
 obtain ⟨cs0,q,_⟩:=hi 0 (by omega)
 rw [hC] at q
 obtain ⟨_,p,l⟩:=World.cells?_some q
 have k0:=l 0 hs
 rw [List.getElem?_eq_getElem (by omega),Go.Deep.add_add] at k0
 have:(⟨ab,ao,sp⟩:Addr).add (0*s+0)=⟨ab,ao,sp⟩:=by unfold Addr.add; rw [if_pos (by omega)]
 rw [this] at k0
 obtain rfl:sp=none:=World.cell?_spot k0
 refine ⟨ab,ao,rfl,World.block_lt_of_cell? _ _ k0,fun j hj=>?_⟩
 have b:=k j hj
 rw [Go.Deep.add_add,zb1] at b
 show w.cell? ⟨ab,ao+i*s+j,none⟩=some ((w.cell? ((⟨ab,ao,none⟩:Addr).add (i*s+j))).getD undef)
 rw [zb1]
 rw [show ao+i*s+j=ao+(i*s+j) by omega,b,List.getElem?_eq_getElem (by omega)]
 rfl
theorem zcI {fs:Array Field} (ht:P.underlying t=some (.struct fs)) (h:Sees enc P w base spare held t cs) :
  cs.length=P.cellsOf t/\∀ (i:Nat) (f:Field),fs[i]?=some f->Sees enc P w base spare held f.type ((cs.drop f.offset).take (P.cellsOf f.type)):=by
 obtain ⟨fuel,x,h⟩:=h
 obtain ⟨xs,n,_,_,a,b,hf⟩:=DataW.trod_struct ht h
 refine ⟨a,fun i f hi=>?_⟩
 have c:i<xs.length:=by rw [b]; exact (Array.getElem?_eq_some_iff.1 hi).1
 exact ⟨n,xs[i],(hf i f hi).trans (List.getElem?_eq_getElem c)⟩
theorem zcJ {fs:Array Field} (ht:P.underlying t=some (.struct fs)) (h:Sees enc P w base spare held t cs) (i T off m:Nat)
  (hi:∃ f,fs[i]?=some f/\f.type=T/\f.offset=off) (hC:P.cellsOf T=m):Sees enc P w base spare held T ((cs.drop off).take m):=by
 obtain ⟨f,hf,rfl,rfl⟩:=hi
 subst hC
 exact (zcI ht h).2 i f hf
theorem zej {k:IntKind} (ht:P.underlying t=some (.slice e)) (he:P.underlying e=some (.int k)) (hC:P.cellsOf e=1) (h:Sees enc P w base spare held t cs) :
  ∃ (A:Option Addr) (n c:Nat) (g:Nat->Int),cs=[.slice A n c]/\n<=c/\c<=maxLen/\Rd w w.heap.size A n 1 (fun i _=>.int k (g i))/\∀ i,i<n->(Lit.int k (g i)).wf=true:=by
 obtain ⟨A,n,c,f,d,h1,h2,hr,hf⟩:=zdk ht hC (by omega) h
 refine ⟨A,n,c,fun i=>intOf (f i 0),d,h1,h2,fun i hi=>?_,fun i hi=>?_⟩
 ·obtain ⟨z,hz,_⟩:=zci he (hf i hi)
  have a:f i 0=.int k z:=by simpa using hz
  obtain ⟨b,off,hA,hb,hc⟩:=hr i hi
  refine ⟨b,off,hA,hb,fun j hj=>?_⟩
  obtain rfl:j=0:=by omega
  show _=some (Value.int k (intOf (f i 0)))
  rw [hc 0 hj,a]
  rfl
 obtain ⟨z,hz,hw⟩:=zci he (hf i hi)
 have a:f i 0=.int k z:=by simpa using hz
 show (Lit.int k (intOf (f i 0))).wf=true
 rw [a]
 exact hw
end
theorem zhU {n:Int} (h:(Lit.int .i64 n).wf=true) : -9223372036854775808<=n/\n<=9223372036854775807:=by
 simpa [Lit.wf,IntKind.min,IntKind.max,IntKind.signed,IntKind.bits] using h
theorem Tryz.own:ownKnob Tryz.prog.godebug=none:=by kernel_rfl
theorem Tryz.laidOut:laidOutB Tryz.prog=true:=by kernel_rfl
def IntsR (w:World) (B:Nat) (A:Option Addr) (n:Nat) (f:Nat->Int):Prop:=Rd w B A n 1 (fun j _=>.int .i64 (f j))
theorem IntsR.on {w w':World} {A:Option Addr} {n:Nat} {f:Nat->Int} (h:IntsR w w.heap.size A n f) (hb:Below w.heap.size w w'):IntsR w' w'.heap.size A n f:=(Rd.below h hb (Nat.le_refl _)).mono hb.size
theorem IntsR.at {w:World} {B n i:Nat} {A:Option Addr} {f:Nat->Int} (h:IntsR w B A n f) (hi:i<n):∃ b off,A=some ⟨b,off,none⟩/\b<B/\w.cell? ⟨b,off+i,none⟩=some (.int .i64 (f i)):=Rd.at1 h hi
theorem IntsR.congr {w:World} {B n:Nat} {A:Option Addr} {f g:Nat->Int} (h:IntsR w B A n f) (e:∀ i,i<n->f i=g i):IntsR w B A n g:=fun i hi=>by
 obtain ⟨b,off,e1,hb,hc⟩:=h i hi
 exact ⟨b,off,e1,hb,fun j hj=>by rw [hc j hj]; show some (Value.int .i64 (f i))=some (.int .i64 (g i)); rw [e i hi]⟩
def IntRows (w:World) (T:Option Addr) (M:Nat) (ln:Nat->Nat) (W:Nat->Nat->Int):Prop :=
 ∀ i,i<M->∃ b off A c,T=some ⟨b,off,none⟩/\b<w.heap.size/\w.cell? ⟨b,off+i,none⟩=some (.slice A (ln i) c)/\ln i<=c/\c<=maxLen/\IntsR w w.heap.size A (ln i) (W i)/\∀ j,j<ln i -> -9223372036854775808<=W i j/\W i j<=9223372036854775807
theorem IntRows.on {w w':World} {T:Option Addr} {M:Nat} {ln:Nat->Nat} {W:Nat->Nat->Int} (h:IntRows w T M ln W) (hb:Below w.heap.size w w'):IntRows w' T M ln W:=fun i hi=>by
 obtain ⟨b,off,A,c,e,h1,h2,h3,h4,h5,h6⟩:=h i hi
 exact ⟨b,off,A,c,e,Nat.lt_of_lt_of_le h1 hb.size,(hb.cell (p:=⟨b,_,none⟩) h1).trans h2,h3,h4,h5.on hb,h6⟩
section
variable {H:Type} {enc:TypeId × Value->H} {w:World} {base:Nat} {spare:Nat->Bool} {held:Bool} {cs:List Value}
theorem zek (h:Sees enc Tryz.prog w base spare held 25 cs):∃ T M c ln W,cs=[.slice T M c]/\M<=c/\c<=maxLen/\IntRows w T M ln W:=by
 obtain ⟨T,m,c,f,k,h1,h2,hr,hf⟩:=zdk Tryz.underlying25 (show Tryz.prog.cellsOf 22 = 1 by kernel_rfl) (by omega) h
 have a:∀ i,∃ t:Option Addr × Nat × Nat × (Nat->Int),i<m->f i 0=.slice t.1 t.2.1 t.2.2.1/\t.2.1<=t.2.2.1/\t.2.2.1<=maxLen/\IntsR w w.heap.size t.1 t.2.1 t.2.2.2/\∀ j,j<t.2.1 -> -9223372036854775808<=t.2.2.2 j/\t.2.2.2 j<=9223372036854775807:=by
  intro i
  by_cases hi:i<m
  ·obtain ⟨A,n,c,g,e,g1,g2,hx,hw⟩:=zej Tryz.underlying22 Tryz.underlying3 (by kernel_rfl) (hf i hi)
   have e':[f i 0]=[.slice A n c]:=e
   simp only [List.cons.injEq,and_true] at e'
   exact ⟨(A,n,c,g),fun _=>⟨e',g1,g2,hx,fun j hj=>zhU (hw j hj)⟩⟩
  ·exact ⟨(none,0,0,fun _=>0),fun h=>absurd h hi⟩
 obtain ⟨t,a⟩:=Classical.axiomOfChoice a
 refine ⟨T,m,c,fun i=>(t i).2.1,fun i=>(t i).2.2.2,k,h1,h2,fun i hi=>?_⟩
 obtain ⟨e0,g1,g2,hx,hw⟩:=a i hi
 obtain ⟨b,off,e,hb,hc⟩:=hr i hi
 have d:=hc 0 (by omega)
 rw [e0] at d
 exact ⟨b,off,_,_,e,hb,by simpa using d,g1,g2,hx,hw⟩
end
def FldOk (P M:Nat):Prop:=2<=P/\1<=M/\M<=8/\P ^ M<=256
theorem FldOk.pow_le {P M i:Nat} (h:FldOk P M) (hi:i<=M):P ^ i<=256:=Nat.le_trans (Nat.pow_le_pow_right (by have:=h.1; omega) hi) h.2.2.2
theorem FldOk.P_le {P M:Nat} (h:FldOk P M):P<=256:=by
 have:=h.pow_le (i:=1) h.2.1
 simpa using this
theorem fieldBox {w:World} {P M:Int} {A:Option Addr} {k c:Nat} (T:TypeId) :
  (w.alloc (.cells #[.int .i64 P,.int .i64 M,.slice A k c] T)).cell? ⟨w.heap.size,0,none⟩=some (.int .i64 P)/\(w.alloc (.cells #[.int .i64 P,.int .i64 M,.slice A k c] T)).cell? ⟨w.heap.size,1,none⟩=some (.int .i64 M)/\(w.alloc (.cells #[.int .i64 P,.int .i64 M,.slice A k c] T)).cell? ⟨w.heap.size,2,none⟩=some (.slice A k c):=by
 have hg:=heap_alloc_new w (.cells #[.int .i64 P,.int .i64 M,.slice A k c] T)
 exact ⟨by rw [cell_of_row _ _ _ _ T (0,0) hg]; rfl,by rw [cell_of_row _ _ _ _ T (0,0) hg]; rfl,by rw [cell_of_row _ _ _ _ T (0,0) hg]; rfl⟩
def ordV (P M:Int):Int:=if 2<=P/\1<=M/\M<=8/\P.toNat ^ M.toNat<=256 then ((P.toNat ^ M.toNat:Nat):Int) else 0
theorem zbo {P M:Nat} (h:FldOk P M):ordV (P:Int) (M:Int)=((P ^ M:Nat):Int):=by
 obtain ⟨h1,h2,h3,h4⟩:=h
 unfold ordV
 rw [if_pos ⟨by omega,by omega,by omega,by simpa using h4⟩]
 simp
theorem zgW {P M:Int} (h:ordV P M≠0):∃ P' M':Nat,P=P'/\M=M'/\FldOk P' M':=by
 unfold ordV at h
 by_cases e:2<=P/\1<=M/\M<=8/\P.toNat ^ M.toNat<=256
 ·exact ⟨P.toNat,M.toNat,by omega,by omega,by omega,by omega,by omega,e.2.2.2⟩
 ·rw [if_neg e] at h; exact absurd rfl h
theorem zcK {P M:Int} (h:P<2∨M<1∨8<M):ordV P M=0:=by unfold ordV; rw [if_neg (by omega)]
def OrderPost (P M:Int) (w:World) (e:Ending) (w':World):Prop:=e=.returned (.int .i64 (ordV P M))/\Below w.heap.size w w'
theorem zaz {P M:Int} {w w':World} (h:ordV P M=0) (hB:Below w.heap.size w w'):OrderPost P M w (.returned (.int .i64 0)) w':=⟨by rw [h],hB⟩
theorem za2 (P M:Int) (A:Option Addr) (k c:Nat) (w:World) :
  Calls Tryz.prog 31 #[.agg #[.int .i64 P,.int .i64 M,.slice A k c]] w (OrderPost P M w):=by
 have hB:Below w.heap.size w (w.alloc (.cells #[.int .i64 P,.int .i64 M,.slice A k c] 24)):=(Below.refl _ _).alloc (Nat.le_refl _) _
 obtain ⟨f0,f1,f2⟩:=fieldBox (w:=w) (P:=P) (M:=M) (A:=A) (k:=k) (c:=c) 24
 obtain ⟨w0,a⟩:∃ W,W=w.alloc (.cells #[.int .i64 P,.int .i64 M,.slice A k c] 24):=⟨_,rfl⟩
 rw [<-a] at hB f0 f1 f2
 by_cases h1:P<2
 ·go_enter Tryz.func31, Tryz.ntmps31
  go_upto_region 1 with fail
  rw [<-a];clear a
  go_wp2
  go_ret
  exact zaz (zcK (.inl h1)) hB
 by_cases h2:M<1
 ·have j:¬ P<2:=h1
  go_enter Tryz.func31, Tryz.ntmps31
  go_upto_region 1 with fail
  rw [<-a];clear a
  go_wp2
  go_ret
  exact zaz (zcK (.inr (.inl h2))) hB
 by_cases h3:8<M
 ·have j:¬ P<2:=h1
  have x:¬ M<1:=h2
  go_enter Tryz.func31, Tryz.ntmps31
  go_upto_region 1 with fail
  rw [<-a];clear a
  go_wp2
  go_ret
  exact zaz (zcK (.inr (.inr h3))) hB
 obtain ⟨P,rfl⟩:=Int.eq_ofNat_of_zero_le (show 0<=P by omega)
 obtain ⟨M,rfl⟩:=Int.eq_ofNat_of_zero_le (show 0<=M by omega)
 have r:(2:Int)<=(P:Int):=by omega
 have v:(1:Int)<=(M:Int):=by omega
 have u:(M:Int)<=8:=by omega
 have s:¬ (P:Int)=0:=by omega
 have d1:decide ((P:Int)<2)=false:=by simp; omega
 have d2:decide ((M:Int)<1)=false:=by simp; omega
 have d3:decide ((8:Int)<(M:Int))=false:=by simp; omega
 clear h1 h2 h3
 go_enter Tryz.func31, Tryz.ntmps31
 go_upto_region 1 with fail
 rw [<-a];clear a
 go_wp2
 go_loop [3,4] (fun qv iv=>∃ i:Nat,iv=.int .i64 (i:Nat)/\i<=M/\qv=.int .i64 (P ^ i:Nat)/\P ^ i<=256) (fun _ iv=>M - (intOf iv).toNat)
 case atStart=>exact ⟨0,rfl,by omega,rfl,by simp⟩
 obtain ⟨i,rfl,hi,rfl,hq⟩:=hrel
 have q:(0:Int)<=(i:Int):=by omega
 obtain ⟨Q,hQ⟩:∃ Q,Q=P ^ i:=⟨_,rfl⟩
 rw [<-hQ] at hq;rw [<-hQ]
 have HQ:=hid hQ
 clear hQ
 by_cases hlt:i<M
 rotate_left
 ·obtain rfl:i=M:=by omega
  have d:¬ (i:Int)<(i:Int):=by omega
  go_wp2
  go_ret
  exact ⟨by rw [zbo ⟨by omega,by omega,by omega,by rw [<-HQ.out]; exact hq⟩,<-HQ.out]; rfl,hB⟩
 have d:(i:Int)<(M:Int):=by omega
 have o:(0:Int)<=(Q:Int):=by omega
 have n:(Q:Int)<=256:=by omega
 by_cases hbig:(256:Int) / (P:Int)<(Q:Int)
 ·have e:ordV (P:Int) (M:Int)=0:=by
   unfold ordV
   rw [if_neg]
   intro hc
   have h1:(256:Int) / (P:Int)=((256 / P:Nat):Int):=by simp
   rw [h1] at hbig
   have h2:¬ Q*P<=256:=fun h=>by
    have:=(Nat.le_div_iff_mul_le (show 0<P by omega)).2 h
    omega
   have h3:P ^ (i+1)<=P ^ M:=Nat.pow_le_pow_right (by omega) (by omega)
   have h4:=hc.2.2.2
   simp only [Int.toNat_natCast] at h4
   rw [Nat.pow_succ,<-HQ.out] at h3
   omega
  have l:=hid e
  clear e
  go_wp2
  go_ret
  exact zaz l.out hB
 have p:¬ (256:Int) / (P:Int)<(Q:Int):=hbig
 have g:Q*P<=256:=by
  have h1:(256:Int) / (P:Int)=((256 / P:Nat):Int):=by simp
  rw [h1] at hbig
  have h2:Q<=256 / P:=by omega
  exact (Nat.le_div_iff_mul_le (by omega)).1 h2
 have b:(Q:Int)*(P:Int)=((Q*P:Nat):Int):=by simp
 obtain ⟨R,hR⟩:∃ R,R=Q*P:=⟨_,rfl⟩
 rw [<-hR] at g b
 have HR:Hid (R=P ^ (i+1)):=by rw [hR,HQ.out,Nat.pow_succ]; rfl
 have m:IntKind.i64.wrap ((Q:Int)*(P:Int))=(R:Int):=by rw [b]; exact IntWalk.i64_in _ (by omega)
 clear hR hbig
 go_wp2
 go_round
 case rel=>exact ⟨i+1,by go_num,by omega,by rw [<-HR.out],by rw [<-HR.out]; exact g⟩
 case measure=>simp [intOf]; omega
def PrimeB (P:Nat):Prop:=∀ d,2<=d->d<P->P % d≠0
def PrimePost (P:Nat) (w:World) (e:Ending) (w':World):Prop:=∃ v:Bool,e=.returned (.bool v)/\(v=true↔PrimeB P)/\w=w'
theorem zf8 (P:Nat) (w:World) (hP:P<=256) :
  Calls Tryz.prog 133 #[.int .i64 (P:Nat)] w (PrimePost P w):=by
 go_enter Tryz.func133, Tryz.ntmps133
 go_wp2
 go_loop [3] (fun iv=>∃ d:Nat,iv=.int .i64 (d:Nat)/\2<=d/\d<=P+2/\∀ d',2<=d'->d'<d->P % d'≠0) (fun iv=>P+2 - (intOf iv).toNat)
 case atStart=>exact ⟨2,rfl,by omega,by omega,fun d' h1 h2=>by omega⟩
 obtain ⟨d,rfl,h2,hd,hg⟩:=hrel
 have HG:=hid hg
 clear hg
 have g:(2:Int)<=(d:Int):=by omega
 have i:¬ (d:Int)=0:=by omega
 have j:(0:Int)<=(P:Int):=by omega
 by_cases hlt:d<P
 rotate_left
 ·have b:¬ (d:Int)<(P:Int):=by omega
  go_wp2
  go_ret
  exact ⟨true,rfl,⟨fun _ d' e1 e2=>HG.out d' e1 (by omega),fun _=>rfl⟩,rfl⟩
 have b:(d:Int)<(P:Int):=by omega
 have a:(P:Int) % (d:Int)=((P % d:Nat):Int):=by simp
 obtain ⟨r,hr⟩:∃ r,r=P % d:=⟨_,rfl⟩
 rw [<-hr] at a
 have HR:=hid hr
 clear hr
 by_cases h0:r=0
 ·subst h0
  go_wp2
  go_ret
  exact ⟨false,rfl,⟨(fun h=>by cases h),fun h=>absurd HR.out.symm (h d h2 hlt)⟩,rfl⟩
 have hb:((r:Int) == 0)=false:=by simp; omega
 have c:Hid (∀ d',2<=d'->d'<d+1->P % d'≠0):=fun d' e1 e2=>by
  by_cases e:d'=d
  ·rw [e,<-HR.out]; exact h0
  ·exact HG.out d' e1 (by omega)
 go_wp2
 go_round
 case rel=>exact ⟨d+1,by go_num,by omega,by omega,c.out⟩
 case measure=>simp [intOf]; omega
def dig (p x i:Nat):Nat:=x / p ^ i % p
theorem zdl (x p n:Nat) (w:World) (hx:x<=1048576) (hp:1<=p) (hp2:p<=256) (hn:n<=64) :
  Calls Tryz.prog 190 #[.int .i64 (x:Nat),.int .i64 (p:Nat),.int .i64 (n:Nat)] w fun e w'=>e=.returned (.slice (some ⟨w.heap.size,0,none⟩) n n)/\w'.rowIs w.heap.size 3 n (fun i=>.int .i64 (dig p x i:Nat))/\Below w.heap.size w w':=by
 have o:=fun W=>zaf (P:=Tryz.prog) 22 3 _ 8 Tryz.underlying22 Tryz.infoInt rfl (n:Int) (by omega) (by omega) (by omega) W
 simp only [Int.toNat_natCast] at o
 have row:=World.rowIs_made w (.int .i64 0) n 3
 have hB:Below w.heap.size w (w.alloc (.cells (madeCells #[.int .i64 0] n) 3)):=(Below.refl _ _).alloc (Nat.le_refl _) _
 have I:(1:Int)<=(p:Int):=by omega
 have J:¬ (p:Int)=0:=by omega
 have H:(p:Int)<=256:=by omega
 go_enter Tryz.func190, Tryz.ntmps190
 go_wp2
 obtain ⟨w1,b⟩:∃ W,W=w.alloc (.cells (madeCells #[.int .i64 0] n) 3):=⟨_,rfl⟩
 obtain ⟨g,hg⟩:∃ g,g=w.heap.size:=⟨_,rfl⟩
 rw [<-b,<-hg];rw [<-b] at hB row;rw [<-hg] at row
 have u:w.heap.size<=g:=by omega
 have q:=hid hg
 clear b hg o
 go_loopg [0,8] n (fun gg xv iv wx=>∃ i:Nat,iv=.int .i64 (i:Nat)/\xv=.int .i64 (x / p ^ i:Nat)/\i<=n/\n<=i+gg/\wx.rowIs g 3 n (fun j=>.int .i64 (if j<i then (dig p x j:Nat) else 0:Int))/\Below w.heap.size w wx)
 case atStart=>exact ⟨0,rfl,by simp,by omega,by omega,row.congr fun i _=>rfl,hB⟩
 clear row hB
 obtain ⟨i,rfl,rfl,hi,K,row,hB⟩:=hrel
 have L:(0:Int)<=(i:Int):=by omega
 have s:x / p ^ i<=x:=Nat.div_le_self _ _
 have c:x / p ^ (i+1)=x / p ^ i / p:=by rw [Nat.pow_succ,Nat.div_div_eq_div_mul]
 have m:dig p x i=x / p ^ i % p:=rfl
 obtain ⟨y,hy⟩:∃ y,y=x / p ^ i:=⟨_,rfl⟩
 rw [<-hy] at s c m;rw [<-hy]
 have v:=hid c
 have B:=hid m
 clear hy c m
 by_cases hlt:i<n
 rotate_left
 ·obtain rfl:i=n:=by omega
  have k:¬ (i:Int)<(i:Int):=by omega
  have d:Hid (wr.rowIs g 3 i (fun j=>.int .i64 (dig p x j:Nat))):=row.congr fun j hj=>by rw [if_pos hj]
  clear row
  go_wp2
  go_ret
  exact ⟨by rw [q.out]; rfl,by rw [<-q.out]; exact d.out,hB⟩
 have k:(i:Int)<(n:Int):=by omega
 have G:(0:Int)<=(y:Int):=by omega
 have F:(y:Int)<=1048576:=by omega
 have h:(y:Int) % (p:Int)=((y % p:Nat):Int):=by simp
 have l:(y:Int) / (p:Int)=((y / p:Nat):Int):=by simp
 obtain ⟨r,hr⟩:∃ r,r=y % p:=⟨_,rfl⟩
 obtain ⟨z,hz⟩:∃ r,r=y / p:=⟨_,rfl⟩
 rw [<-hr] at h;rw [<-hz] at l
 have E:(0:Int)<=(z:Int):=by omega
 have D:(z:Int)<=1048576:=by have:y / p<=y:=Nat.div_le_self _ _; omega
 have HR:=hid hr
 have HZ:=hid hz
 clear hr hz
 have c0:=row.cell hlt
 have z0:=row.frozen i
 have row2:(wr.setCell ⟨g,i,none⟩ (.int .i64 (r:Int))).rowIs g 3 n (fun j=>.int .i64 (if j<i+1 then (dig p x j:Nat) else 0:Int)):=(row.set i _).congr fun j hj=>by
  by_cases e:j=i
  ·subst e
   rw [if_pos rfl,if_pos (by omega),B.out,HR.out]
  rw [if_neg e]
  by_cases e2:j<i
  ·rw [if_pos e2,if_pos (by omega)]
  ·rw [if_neg e2,if_neg (by omega)]
 have C:Hid (Below w.heap.size w (wr.setCell ⟨g,i,none⟩ (.int .i64 (r:Int)))):=hB.setCell u _
 have a:=hid row2
 clear row2
 go_wp2
 go_roundg (gk - 1)
 case measure=>omega
 case rel=>exact ⟨i+1,by go_num,by rw [v.out,HZ.out],by omega,by omega,a.out,C.out⟩
def fldCell (a b c:Value) (i:Nat):Value:=if i=0 then a else if i=1 then b else c
theorem KB.qc0 {w:World} {g:Nat} {T:TypeId} {a b c:Value} (h:w.rowIs g T 3 (fldCell a b c)) : w.cell? ⟨g,0,none⟩=some a:=h.cell (i:=0) (by decide)
theorem KB.qc1 {w:World} {g:Nat} {T:TypeId} {a b c:Value} (h:w.rowIs g T 3 (fldCell a b c)) : w.cell? ⟨g,1,none⟩=some b:=h.cell (i:=1) (by decide)
theorem KB.qc2 {w:World} {g:Nat} {T:TypeId} {a b c:Value} (h:w.rowIs g T 3 (fldCell a b c)) : w.cell? ⟨g,2,none⟩=some c:=h.cell (i:=2) (by decide)
open KB
theorem zaq {w:World} {a b c:Value} {T:TypeId}:(w.alloc (.cells #[a,b,c] T)).rowIs w.heap.size T 3 (fldCell a b c) :=
 ⟨_,heap_alloc_new w _,rfl,fun i hi=>by match i,hi with | 0,_=>rfl | 1,_=>rfl | 2,_=>rfl⟩
theorem zau {w w':World} {g g2:Nat} {t:TypeId} {n:Nat} {f:Nat->Value} (h:w.rowIs g2 t n f) (hg:w.grownBy w' (some g)) (hne:g2≠g):w'.rowIs g2 t n f:=h.of_block (hg.block g2 h.lt (by simp; omega))
theorem zca (w:World) (g i:Nat) (v:Value):w.grownBy (w.setCell ⟨g,i,none⟩ v) (some g):=by
 refine ⟨rfl,rfl,rfl,by simp,fun k hk hne=>?_⟩
 simp only [World.setCell,Array.getElem?_modify]
 rw [if_neg (fun e=>hne (by rw [e]))]
def isB (q:Nat) (x:Int):Bool:=decide (0<=x/\x<q)
def inV (q:Nat) (x:Int):Nat:=if 0<=x/\x<q then x.toNat else 0
theorem zdU {q:Nat} (hq:0<q) (x:Int):inV q x<q:=by unfold inV; split <;> omega
theorem zal {q x:Nat} (h:x<q):inV q (x:Int)=x:=by unfold inV; rw [if_pos ⟨by omega,by omega⟩]; simp
theorem zfe (P M:Nat) (A:Option Addr) (k c:Nat) (x:Int) (w:World) (hf:FldOk P M) :
  Calls Tryz.prog 185 #[.agg #[.int .i64 (P:Nat),.int .i64 (M:Nat),.slice A k c],.int .i64 x] w fun e w'=>e=.returned (.bool (isB (P ^ M) x))/\Below w.heap.size w w':=by
 by_cases h0:0<=x
 rotate_left
 ·have hv:Hid (isB (P ^ M) x=false):=by show _=_; simp [isB]; omega
  have hB:Below w.heap.size w (w.alloc (.cells #[.int .i64 (P:Nat),.int .i64 (M:Nat),.slice A k c] 24)):=(Below.refl _ _).alloc (Nat.le_refl _) _
  have rf:=zaq (w:=w) (a:=.int .i64 (P:Nat)) (b:=.int .i64 (M:Nat)) (c:=.slice A k c) (T := 24)
  obtain ⟨w0,d⟩:∃ W,W=w.alloc (.cells #[.int .i64 (P:Nat),.int .i64 (M:Nat),.slice A k c] 24):=⟨_,rfl⟩
  rw [<-d] at hB rf
  go_enter Tryz.func185, Tryz.ntmps185
  go_upto_region 1 with fail
  rw [<-d];clear d
  go_wp2
  go_ret
  exact ⟨by rw [hv.out]; rfl,hB⟩
 have hv:Hid (isB (P ^ M) x=decide (x<(P ^ M:Nat))):=by show _=_; simp [isB,h0]
 have ho:=hid (zbo hf)
 have hB:Below w.heap.size w (w.alloc (.cells #[.int .i64 (P:Nat),.int .i64 (M:Nat),.slice A k c] 24)):=(Below.refl _ _).alloc (Nat.le_refl _) _
 have rf:=zaq (w:=w) (a:=.int .i64 (P:Nat)) (b:=.int .i64 (M:Nat)) (c:=.slice A k c) (T := 24)
 obtain ⟨w0,d⟩:∃ W,W=w.alloc (.cells #[.int .i64 (P:Nat),.int .i64 (M:Nat),.slice A k c] 24):=⟨_,rfl⟩
 rw [<-d] at hB rf
 go_enter Tryz.func185, Tryz.ntmps185
 go_upto_region 1 with fail
 rw [<-d];clear d
 have q0:=qc0 rf
 have q1:=qc1 rf
 have q2:=qc2 rf
 go_wp2_with fail
 refine (za2 (P:Int) (M:Int) A k c _).mono ?_
 rintro e w1 ⟨rfl,kb⟩
 rw [ho.out];replace hB:=onS hB kb;clear kb q0 q1 q2
 obtain ⟨Q,hQ⟩:∃ Q,Q=P ^ M:=⟨_,rfl⟩
 rw [<-hQ] at hv;rw [<-hQ]
 have HQ:=hid hQ
 clear hQ
 go_wp2
 go_ret
 exact ⟨by rw [<-HQ.out,hv.out]; rfl,hB⟩
theorem zhc (P M:Nat) (A:Option Addr) (k c:Nat) (x:Int) (w:World) (hf:FldOk P M) :
  Calls Tryz.prog 250 #[.agg #[.int .i64 (P:Nat),.int .i64 (M:Nat),.slice A k c],.int .i64 x] w fun e w'=>e=.returned (.int .i64 (inV (P ^ M) x:Nat))/\Below w.heap.size w w':=by
 have hB:Below w.heap.size w (w.alloc (.cells #[.int .i64 (P:Nat),.int .i64 (M:Nat),.slice A k c] 24)):=(Below.refl _ _).alloc (Nat.le_refl _) _
 have rf:=zaq (w:=w) (a:=.int .i64 (P:Nat)) (b:=.int .i64 (M:Nat)) (c:=.slice A k c) (T := 24)
 obtain ⟨w0,d⟩:∃ W,W=w.alloc (.cells #[.int .i64 (P:Nat),.int .i64 (M:Nat),.slice A k c] 24):=⟨_,rfl⟩
 rw [<-d] at hB rf
 go_enter Tryz.func250, Tryz.ntmps250
 go_upto_region 1 with fail
 rw [<-d];clear d
 have q0:=qc0 rf
 have q1:=qc1 rf
 have q2:=qc2 rf
 go_wp2_with fail
 refine (zfe P M A k c x _ hf).mono ?_
 rintro e w1 ⟨rfl,kb⟩
 replace hB:=onS hB kb;clear kb q0 q1 q2
 by_cases hx:0<=x/\x<(P ^ M:Nat)
 ·have hv:Hid ((inV (P ^ M) x:Int)=x):=by show _=_; unfold inV; rw [if_pos hx]; omega
  have hd:isB (P ^ M) x=true:=by unfold isB; simpa using hx
  rw [hd];clear hx hd
  go_wp2
  go_ret
  exact ⟨by rw [hv.out]; rfl,hB⟩
 have hv:Hid (inV (P ^ M) x=0):=by show _=_; unfold inV; rw [if_neg hx]
 have hd:isB (P ^ M) x=false:=by unfold isB; simpa using hx
 rw [hd];clear hx hd
 go_wp2
 go_ret
 exact ⟨by rw [hv.out]; rfl,hB⟩
def RowPost (n:Nat) (f:Nat->Value) (w:World) (e:Ending) (w':World):Prop:=∃ g,e=.returned (.slice (some ⟨g,0,none⟩) n n)/\w.heap.size<=g/\w'.rowIs g 3 n f/\Below w.heap.size w w'
theorem zaW (P M:Nat) (A:Option Addr) (k c:Nat) (x:Int) (w:World) (hf:FldOk P M) :
  Calls Tryz.prog 210 #[.agg #[.int .i64 (P:Nat),.int .i64 (M:Nat),.slice A k c],.int .i64 x] w (RowPost M (fun i=>.int .i64 (dig P (inV (P ^ M) x) i:Nat)) w):=by
 have m:=hf.1
 have hP:=hf.P_le
 have n:=hf.2.2.1
 have l:=zdU (q:=P ^ M) (Nat.pow_pos (by omega)) x
 have hq:=hf.2.2.2
 have hB:Below w.heap.size w (w.alloc (.cells #[.int .i64 (P:Nat),.int .i64 (M:Nat),.slice A k c] 24)):=(Below.refl _ _).alloc (Nat.le_refl _) _
 have rf:=zaq (w:=w) (a:=.int .i64 (P:Nat)) (b:=.int .i64 (M:Nat)) (c:=.slice A k c) (T := 24)
 obtain ⟨w0,d⟩:∃ W,W=w.alloc (.cells #[.int .i64 (P:Nat),.int .i64 (M:Nat),.slice A k c] 24):=⟨_,rfl⟩
 rw [<-d] at hB rf
 go_enter Tryz.func210, Tryz.ntmps210
 go_upto_region 1 with fail
 rw [<-d];clear d
 have HS:Hid (∀ w':World,w'.rowIs w.heap.size 24 3 (fldCell (.int .i64 (P:Nat)) (.int .i64 (M:Nat)) (.slice A k c))->w'.cell? ⟨w.heap.size,0,none⟩=some (.int .i64 (P:Nat))/\w'.cell? ⟨w.heap.size,1,none⟩=some (.int .i64 (M:Nat))/\w'.cell? ⟨w.heap.size,2,none⟩=some (.slice A k c)):=fun w' hf  => ⟨hf.cell (i:=0) (by omega),hf.cell (i:=1) (by omega),hf.cell (i:=2) (by omega)⟩
 refine wp_region_held_drew (S:=fun w'=>w'.cell? ⟨w.heap.size,0,none⟩=some (.int .i64 (P:Nat))/\w'.cell? ⟨w.heap.size,1,none⟩=some (.int .i64 (M:Nat))/\w'.cell? ⟨w.heap.size,2,none⟩=some (.slice A k c)) (by kernel_rfl) (HS.out _ (show World.rowIs (World.drew _) _ _ _ _ from rf)) (fun hHeld=>?_)
 obtain ⟨w1,hw⟩:∃ W,W=World.drew w0:=⟨_,rfl⟩
 have kb:Below w0.heap.size w0 w1:=by rw [hw]; exact (Below.refl _ _).drew
 rw [<-hw] at hHeld ⊢;clear hw;replace rf:=zab rf kb;replace hB:=onS hB kb;clear kb
 refine tkq 0 (h:=tkq 1 (h:=tkq 3 (h:=tkq 4 (h:=tkq 5 (h:=tkq 6 (h:=?_))))))
 refine rdq 2 (h:=fun K hK=>?_)
 go_simp
 go_wp2_with fail
 refine (zhc P M A k c x _ hf).mono ?_
 rintro e w2 ⟨rfl,kb⟩
 replace rf:=zab rf kb;replace hB:=onS hB kb;clear kb
 obtain ⟨y,hy⟩:∃ y,y=inV (P ^ M) x:=⟨_,rfl⟩
 rw [<-hy] at l;rw [<-hy]
 have HY:=hid hy
 clear hy
 refine bkq hK (HS.out _ rf) (h:=fun hHeld=>?_)
 clear hK K
 refine rdq 7 (h:=fun K hK=>?_)
 go_simp
 go_wp2_with fail
 refine (zdl y P M _ (by omega) (by omega) (by omega) (by omega)).mono ?_
 have j:=hB.size
 obtain ⟨g,hg⟩:∃ g,g=w2.heap.size:=⟨_,rfl⟩
 rw [<-hg] at j ⊢
 rintro e w3 ⟨rfl,rd,kb⟩
 rw [hg] at kb;replace rf:=zab rf kb;replace hB:=onS hB kb;clear kb;clear hg
 refine bkq hK (HS.out _ rf) (h:=fun hHeld=>?_)
 clear hK K
 refine tkq 8 (h:=?_)
 refine wpAnyH_done (by kernel_rfl) ?_ _
 clear hHeld;clear HS
 go_wp2
 go_ret
 exact ⟨g,rfl,j,by rw [<-HY.out]; exact rd,hB⟩
def valN (p:Nat) (f:Nat->Nat):Nat->Nat
 | 0=>0
 | n+1=>f 0+p*valN p (fun i=>f (i+1)) n
theorem za3 {p:Nat}:∀ {n:Nat} {f:Nat->Nat},(∀ i,i<n->f i<p)->valN p f n<p ^ n
 | 0,_,_=>by show 0<1; omega
 | n+1,f,h=>by
  have h1:=za3 (p:=p) (n:=n) (f:=fun i=>f (i+1)) fun i hi=>h (i+1) (by omega)
  have h0:=h 0 (by omega)
  show f 0+p*_<p ^ (n+1)
  have h2:p*(valN p (fun i=>f (i+1)) n+1)<=p*p ^ n:=Nat.mul_le_mul_left p h1
  rw [Nat.mul_add,Nat.mul_one] at h2;rw [Nat.pow_succ,Nat.mul_comm (p ^ n) p]
  omega
theorem zaK {p:Nat}:∀ {n:Nat} {f g:Nat->Nat},(∀ i,i<n->f i=g i)->valN p f n=valN p g n
 | 0,_,_,_=>rfl
 | n+1,f,g,h=>by
  show f 0+p*_=g 0+p*_
  rw [h 0 (by omega),zaK fun i hi=>h (i+1) (by omega)]
theorem zbP (P M:Nat) (A:Option Addr) (k c:Nat) (T:Option Addr) (n d:Nat) (f:Nat->Nat) (w:World) (hP2:2<=P) (hP:P<=256) (h:IntsR w w.heap.size T n (fun i=>(f i:Nat))) (hd:Hid (∀ i,i<n->f i<P)) (hn:P ^ n<=256) (hn8:n<=8) :
  Calls Tryz.prog 211 #[.agg #[.int .i64 (P:Nat),.int .i64 (M:Nat),.slice A k c],.slice T n d] w fun e w'=>e=.returned (.int .i64 (valN P f n:Nat))/\Below w.heap.size w w':=by
 have hB:Below w.heap.size w (w.alloc (.cells #[.int .i64 (P:Nat),.int .i64 (M:Nat),.slice A k c] 24)):=(Below.refl _ _).alloc (Nat.le_refl _) _
 have rf:=zaq (w:=w) (a:=.int .i64 (P:Nat)) (b:=.int .i64 (M:Nat)) (c:=.slice A k c) (T := 24)
 obtain ⟨w0,m⟩:∃ W,W=w.alloc (.cells #[.int .i64 (P:Nat),.int .i64 (M:Nat),.slice A k c] 24):=⟨_,rfl⟩
 rw [<-m] at hB rf
 go_enter Tryz.func211, Tryz.ntmps211
 go_upto_region 1 with fail
 rw [<-m];clear m
 go_wp2
 go_loopg [5,6] n (fun gg xv iv wx=>∃ j:Nat,iv=.int .i64 ((n:Int) - 1 - (j:Nat))/\xv=.int .i64 (valN P (fun i=>f (n - j+i)) j:Nat)/\j<=n/\n<=j+gg/\wx.rowIs w.heap.size 24 3 (fldCell (.int .i64 (P:Nat)) (.int .i64 (M:Nat)) (.slice A k c))/\Below w.heap.size w wx)
 case atStart=>exact ⟨0,by go_num,rfl,by omega,by omega,rf,hB⟩
 clear rf hB
 obtain ⟨j,rfl,rfl,hj,I,rf,hB⟩:=hrel
 have q:=za3 (p:=P) (n:=j) (f:=fun i=>f (n - j+i)) (fun i hi=>hd.out _ (by omega))
 have H:P ^ j<=P ^ n:=Nat.pow_le_pow_right (by omega) hj
 by_cases hlt:j<n
 rotate_left
 ·obtain rfl:j=n:=by omega
  have u:¬ (0:Int)<=(j:Int) - 1 - (j:Int):=by omega
  have x:¬ (j:Int)<=(j:Int) - 1:=by omega
  have hv:valN P (fun i=>f (j - j+i)) j=valN P f j:=zaK fun i _=>by rw [show j - j+i=i by omega]
  rw [hv] at q ⊢
  obtain ⟨V,hV⟩:∃ V,V=valN P f j:=⟨_,rfl⟩
  rw [<-hV] at q ⊢
  have HV:=hid hV
  clear hV hv rf
  go_wp2
  go_ret
  exact ⟨by rw [HV.out]; rfl,hB⟩
 have u:(0:Int)<=(n:Int) - 1 - (j:Int):=by omega
 obtain ⟨i,hi⟩:∃ i:Nat,i=n - 1 - j:=⟨_,rfl⟩
 have r:(n:Int) - 1 - (j:Int)=(i:Int):=by omega
 have s:i<n:=by omega
 have v:(i:Int)<(n:Int):=by omega
 have J:(0:Int)<=(i:Int):=by omega
 rw [r]
 obtain ⟨b,o,rfl,hb,e0⟩:=(h.on hB).at s
 have y:=hd.out i s
 have l:valN P (fun t=>f (n - (j+1)+t)) (j+1)=f i+P*valN P (fun t=>f (n - j+t)) j:=by
  show f (n - (j+1)+0)+P*valN P (fun t=>f (n - (j+1)+(t+1))) j=_
  rw [show n - (j+1)+0=i by omega]
  congr 2
  exact zaK fun t _=>by rw [show n - (j+1)+(t+1)=n - j+t by omega]
 obtain ⟨V,hV⟩:∃ V,V=valN P (fun t=>f (n - j+t)) j:=⟨_,rfl⟩
 obtain ⟨D,hD⟩:∃ D,D=f i:=⟨_,rfl⟩
 rw [<-hV] at q l;rw [<-hD] at e0 y l;rw [<-hV]
 have B:=hid l
 have HI:=hid hi
 have C:=hid r
 clear hV hD l hi r u
 have L:(0:Int)<=(V:Int):=by omega
 have K:(V:Int)<=256:=by omega
 have O:(0:Int)<=(D:Int):=by omega
 have N:(D:Int)<=256:=by omega
 have z:V*P<=256*256:=Nat.mul_le_mul (by omega) hP
 have g:(V:Int)*(P:Int)=((V*P:Nat):Int):=by simp
 obtain ⟨R,hR⟩:∃ R,R=V*P:=⟨_,rfl⟩
 rw [<-hR] at z g
 have HR:=hid hR
 clear hR
 have G:IntKind.i64.wrap ((V:Int)*(P:Int))=(R:Int):=by rw [g]; exact IntWalk.i64_in _ (by omega)
 have F:IntKind.i64.wrap ((R:Int)+(D:Int))=(R:Int)+(D:Int):=IntWalk.i64_in _ (by omega)
 have E:IntKind.i64.wrap (R:Int)=(R:Int):=IntWalk.i64_in _ (by omega)
 have q0:=qc0 rf
 have q1:=qc1 rf
 have q2:=qc2 rf
 go_wp2
 go_quiet (fail)
 clear q0 q1 q2
 go_wp2
 go_roundg (gk - 1)
 case measure=>omega
 case rel=>exact ⟨j+1,by have:=C.out; go_num,by rw [B.out,Nat.mul_comm P V,<-HR.out]; go_num,by omega,by omega,za8 rf _,zad hB _⟩
def addF (P M x y:Nat):Nat:=valN P (fun i=>(dig P x i+dig P y i) % P) M
theorem zbD {p:Nat} (hp:0<p) (x i:Nat):dig p x i<p:=Nat.mod_lt _ hp
theorem zcL {P M:Nat} (hP:0<P) (x y:Nat):addF P M x y<P ^ M:=za3 fun _ _=>Nat.mod_lt _ hP
theorem rowInts {w:World} {g n:Nat} {f:Nat->Nat} (h:w.rowIs g 3 n (fun i=>.int .i64 (f i:Nat))):IntsR w w.heap.size (some ⟨g,0,none⟩) n (fun i=>(f i:Nat)):=zbd h
theorem zf9 (P M:Nat) (A:Option Addr) (k c:Nat) (x y:Int) (w:World) (hf:FldOk P M) :
  Calls Tryz.prog 159 #[.agg #[.int .i64 (P:Nat),.int .i64 (M:Nat),.slice A k c],.int .i64 x,.int .i64 y] w fun e w'=>e=.returned (.int .i64 (addF P M (inV (P ^ M) x) (inV (P ^ M) y):Nat))/\Below w.heap.size w w':=by
 have K:=hf.1
 have hP:=hf.P_le
 have L:=hf.2.2.1
 have hq:=hf.2.2.2
 have hB:Below w.heap.size w (w.alloc (.cells #[.int .i64 (P:Nat),.int .i64 (M:Nat),.slice A k c] 24)):=(Below.refl _ _).alloc (Nat.le_refl _) _
 have rf:=zaq (w:=w) (a:=.int .i64 (P:Nat)) (b:=.int .i64 (M:Nat)) (c:=.slice A k c) (T := 24)
 obtain ⟨w0,d⟩:∃ W,W=w.alloc (.cells #[.int .i64 (P:Nat),.int .i64 (M:Nat),.slice A k c] 24):=⟨_,rfl⟩
 rw [<-d] at hB rf
 go_enter Tryz.func159, Tryz.ntmps159
 go_upto_region 1 with fail
 rw [<-d];clear d
 have d:=rf.lt
 have q0:=qc0 rf
 have q1:=qc1 rf
 have q2:=qc2 rf
 go_wp2_with fail
 refine (zaW P M A k c x _ hf).mono ?_
 rintro e w1 ⟨ga,rfl,F,ra,kb⟩
 replace rf:=zab rf kb
 have s:=hB.size
 replace hB:=onS hB kb;clear kb q0 q1 q2
 have J:=ra.lt
 have q0:=qc0 rf
 have q1:=qc1 rf
 have q2:=qc2 rf
 go_wp2_with fail
 refine (zaW P M A k c y _ hf).mono ?_
 rintro e w2 ⟨gb,rfl,C,rb,kb⟩
 replace rf:=zab rf kb;replace ra:=zab ra kb;replace hB:=onS hB kb;clear kb q0 q1 q2
 obtain ⟨X,hX⟩:∃ X,X=inV (P ^ M) x:=⟨_,rfl⟩
 obtain ⟨Y,hY⟩:∃ X,X=inV (P ^ M) y:=⟨_,rfl⟩
 rw [<-hX] at ra;rw [<-hY] at rb
 have HX:=hid hX
 have HY:=hid hY
 clear hX hY
 have q:ga≠gb:=by omega
 have o:w.heap.size≠ga:=by omega
 have r:w.heap.size<=ga:=by omega
 clear F C J s d
 go_wp2
 go_loopg [9] M (fun gg iv wx=>∃ i:Nat,iv=.int .i64 (i:Nat)/\i<=M/\M<=i+gg/\wx.rowIs ga 3 M (fun t=>.int .i64 (if t<i then ((dig P X t+dig P Y t) % P:Nat) else (dig P X t:Nat):Nat))/\wx.rowIs gb 3 M (fun t=>.int .i64 (dig P Y t:Nat))/\wx.rowIs w.heap.size 24 3 (fldCell (.int .i64 (P:Nat)) (.int .i64 (M:Nat)) (.slice A k c))/\Below w.heap.size w wx)
 case atStart=>exact ⟨0,rfl,by omega,by omega,ra.congr fun t _=>rfl,rb,rf,hB⟩
 clear ra rb rf hB
 obtain ⟨i,rfl,hi,N,ra,rb,rf,hB⟩:=hrel
 have O:(0:Int)<=(i:Int):=by omega
 by_cases hlt:i<M
 rotate_left
 ·obtain rfl:M=i:=by omega
  have n:¬ (M:Int)<(M:Int):=by omega
  have hr:wr.rowIs ga 3 M (fun t=>.int .i64 ((dig P X t+dig P Y t) % P:Nat)):=ra.congr fun t ht=>by rw [if_pos ht]
  have j:=rowInts hr
  have l:Hid (valN P (fun t=>(dig P X t+dig P Y t) % P) M=addF P M (inV (P ^ M) x) (inV (P ^ M) y)):=by rw [HX.out,HY.out]; rfl
  have m:Hid (∀ t,t<M->(dig P X t+dig P Y t) % P<P):=fun t _=>Nat.mod_lt _ (by omega)
  clear ra rb hr
  have q0:=qc0 rf
  have q1:=qc1 rf
  have q2:=qc2 rf
  go_wp2_with fail
  refine (zbP P M A k c (some ⟨ga,0,none⟩) M M _ _ K hP j m hq L).mono ?_
  rintro e w3 ⟨rfl,kb⟩
  replace hB:=onS hB kb;clear kb q0 q1 q2 rf;rw [l.out]
  obtain ⟨R,hR⟩:∃ R,R=addF P M (inV (P ^ M) x) (inV (P ^ M) y):=⟨_,rfl⟩
  rw [<-hR]
  have HR:=hid hR
  clear hR j
  go_wp2
  go_ret
  exact ⟨by rw [HR.out]; rfl,hB⟩
 have n:(i:Int)<(M:Int):=by omega
 have I:=zbD (p:=P) (by omega) X i
 have H:=zbD (p:=P) (by omega) Y i
 have ca:wr.cell? ⟨ga,i,none⟩=some (.int .i64 (dig P X i:Nat)):=by have:=ra.cell hlt; simpa using this
 have cb:wr.cell? ⟨gb,i,none⟩=some (.int .i64 (dig P Y i:Nat)):=rb.cell hlt
 have q0:=qc0 rf
 have q1:=qc1 rf
 have q2:=qc2 rf
 have za:=ra.frozen i
 obtain ⟨R,hR⟩:∃ R,R=(dig P X i+dig P Y i) % P:=⟨_,rfl⟩
 have Q:R<P:=by rw [hR]; exact Nat.mod_lt _ (by omega)
 have ra2:(wr.setCell ⟨ga,i,none⟩ (.int .i64 (R:Int))).rowIs ga 3 M (fun t=>.int .i64 (if t<i+1 then ((dig P X t+dig P Y t) % P:Nat) else (dig P X t:Nat):Nat)):=(ra.set i _).congr fun t ht=>by
  by_cases e:t=i
  ·subst e
   rw [if_pos rfl,if_pos (by omega),hR]
  rw [if_neg e]
  by_cases e2:t<i
  ·rw [if_pos e2,if_pos (by omega)]
  ·rw [if_neg e2,if_neg (by omega)]
 have rb2:=rb.setOther (a:=⟨ga,i,none⟩) (by simpa using fun h=>q h.symm) (.int .i64 (R:Int))
 have rf2:=rf.setOther (a:=⟨ga,i,none⟩) (by simpa using o) (.int .i64 (R:Int))
 have u:Below w.heap.size w (wr.setCell ⟨ga,i,none⟩ (.int .i64 (R:Int))):=hB.setCell r _
 have RA:=hid ra2
 have RB:=hid rb2
 have RF:=hid rf2
 have HB:=hid u
 obtain ⟨D,hD⟩:∃ D,D=dig P X i:=⟨_,rfl⟩
 obtain ⟨E,hE⟩:∃ D,D=dig P Y i:=⟨_,rfl⟩
 rw [<-hD] at ca I hR;rw [<-hE] at cb H hR;clear ra2 rb2 rf2 u hD hE ra rb rf hB
 have a0:¬ (P:Int)=0:=by omega
 have V:(2:Int)<=(P:Int):=by omega
 have U:(0:Int)<=(R:Int):=by omega
 have S:(R:Int)<=256:=by omega
 have a2:(0:Int)<=(D:Int):=by omega
 have a1:(0:Int)<=(E:Int):=by omega
 have g:(0:Int)<=(D:Int)+(E:Int):=by omega
 have B:((D:Int)+(E:Int)).tmod (P:Int)=(R:Int):=by rw [Int.tmod_eq_emod_of_nonneg g,hR]; simp
 have v:IntKind.i64.wrap ((D:Int)+(E:Int))=(D:Int)+(E:Int):=IntWalk.i64_in _ (by omega)
 have z:IntKind.i64.wrap (R:Int)=(R:Int):=IntWalk.i64_in _ (by omega)
 have G:((D:Int)+(E:Int)) % (P:Int)=(R:Int):=by rw [hR]; simp
 have Z:¬ P=0:=by omega
 clear hR
 go_wp2
 go_still_tail 14,(by kernel_rfl)
 change wpList _ _ _ _ _ wr.drew
 go_wp2
 clear B v z G
 go_roundg (gk - 1)
 case measure=>omega
 case rel=>exact ⟨i+1,by go_num,by omega,by omega,RA.out,RB.out,RF.out,HB.out.drew⟩
def mIn (P:Nat) (a b:Nat->Nat) (i:Nat) (c:Nat->Nat):Nat->Nat->Nat
 | 0=>c
 | j+1=>fun t=>if t=i+j then (mIn P a b i c j (i+j)+a i*b j) % P else mIn P a b i c j t
def mOut (P:Nat) (a b:Nat->Nat) (M:Nat):Nat->Nat->Nat
 | 0=>fun _=>0
 | i+1=>mIn P a b i (mOut P a b M i) M
def rIn (P M:Nat) (m:Nat->Nat) (i:Nat) (c:Nat->Nat):Nat->Nat->Nat
 | 0=>c
 | j+1=>fun t=>if t=i - M+j then (rIn P M m i c j (i - M+j)+(P - rIn P M m i c j i)*m j) % P else rIn P M m i c j t
def rOut (P M:Nat) (m:Nat->Nat) (c:Nat->Nat):Nat->Nat->Nat
 | 0=>c
 | s+1=>rIn P M m (2*M - 2 - s) (rOut P M m c s) M
def mulF (P M:Nat) (m:Nat->Nat) (x y:Nat):Nat:=valN P (rOut P M m (mOut P (dig P x) (dig P y) M M) (M - 1)) M
theorem zhV {P:Nat} (hP:0<P) {a b c:Nat->Nat} {i:Nat} (hc:∀ t,c t<P):∀ j t,mIn P a b i c j t<P:=by
 intro j
 induction j with
 | zero=>exact hc
 | succ j ih =>
  intro t
  show (if t=i+j then _ else _)<P
  split
  ·exact Nat.mod_lt _ hP
  ·exact ih t
theorem zel {P:Nat} (hP:0<P) {a b:Nat->Nat} {M:Nat}:∀ i t,mOut P a b M i t<P:=by
 intro i
 induction i with
 | zero=>exact fun _=>hP
 | succ i ih=>exact zhV hP ih M
theorem zhd {P M:Nat} (hP:0<P) {m c:Nat->Nat} {i:Nat} (hc:∀ t,c t<P):∀ j t,rIn P M m i c j t<P:=by
 intro j
 induction j with
 | zero=>exact hc
 | succ j ih =>
  intro t
  show (if t=i - M+j then _ else _)<P
  split
  ·exact Nat.mod_lt _ hP
  ·exact ih t
theorem zdm {P M:Nat} (hP:0<P) {m c:Nat->Nat} (hc:∀ t,c t<P):∀ s t,rOut P M m c s t<P:=by
 intro s
 induction s with
 | zero=>exact hc
 | succ s ih=>exact zhd hP ih M
def ModOk (w:World) (P M:Nat) (A:Option Addr) (m:Nat->Nat):Prop:=M=1∨(IntsR w w.heap.size A M (fun i=>(m i:Nat))/\∀ i,i<M->m i<P)
theorem zcQ (P M:Nat) (A:Option Addr) (k c:Nat) (m:Nat->Nat) (x y:Int) (w:World) (hf:FldOk P M) (hm:ModOk w P M A m) (hkM:M=1∨k=M) :
  Calls Tryz.prog 160 #[.agg #[.int .i64 (P:Nat),.int .i64 (M:Nat),.slice A k c],.int .i64 x,.int .i64 y] w fun e w'=>e=.returned (.int .i64 (mulF P M m (inV (P ^ M) x) (inV (P ^ M) y):Nat))/\Below w.heap.size w w':=by
 have b6:=hf.1
 have hP:=hf.P_le
 have be:=hf.2.2.1
 have bt:=hf.2.1
 have hq:=hf.2.2.2
 have hB:Below w.heap.size w (w.alloc (.cells #[.int .i64 (P:Nat),.int .i64 (M:Nat),.slice A k c] 24)):=(Below.refl _ _).alloc (Nat.le_refl _) _
 have rf:=zaq (w:=w) (a:=.int .i64 (P:Nat)) (b:=.int .i64 (M:Nat)) (c:=.slice A k c) (T := 24)
 obtain ⟨w0,q⟩:∃ W,W=w.alloc (.cells #[.int .i64 (P:Nat),.int .i64 (M:Nat),.slice A k c] 24):=⟨_,rfl⟩
 rw [<-q] at hB rf
 go_enter Tryz.func160, Tryz.ntmps160
 go_upto_region 1 with fail
 rw [<-q];clear q
 have q:=rf.lt
 have q0:=qc0 rf
 have q1:=qc1 rf
 have q2:=qc2 rf
 go_wp2_with fail
 refine (zaW P M A k c x _ hf).mono ?_
 rintro e w1 ⟨ga,rfl,ar,ra,kb⟩
 replace rf:=zab rf kb
 have a6:=hB.size
 replace hB:=onS hB kb;clear kb q0 q1 q2
 have ax:=ra.lt
 have q0:=qc0 rf
 have q1:=qc1 rf
 have q2:=qc2 rf
 go_wp2_with fail
 refine (zaW P M A k c y _ hf).mono ?_
 rintro e w2 ⟨gb,rfl,aq,rb,kb⟩
 replace rf:=zab rf kb;replace ra:=zab ra kb;replace hB:=onS hB kb;clear kb q0 q1 q2
 have aj:=rb.lt
 obtain ⟨X,hX⟩:∃ X,X=inV (P ^ M) x:=⟨_,rfl⟩
 obtain ⟨Y,hY⟩:∃ X,X=inV (P ^ M) y:=⟨_,rfl⟩
 rw [<-hX] at ra;rw [<-hY] at rb
 have HX:=hid hX
 have HY:=hid hY
 clear hX hY
 obtain ⟨N1,bb⟩:∃ N,N=2*M - 1:=⟨_,rfl⟩
 have b8:2*(M:Int) - 1=(N1:Int):=by omega
 have ba:2*M<=N1+1:=by omega
 have b9:N1+1<=2*M:=by omega
 clear bb
 have ah:=fun W=>zaf (P:=Tryz.prog) 22 3 _ 8 Tryz.underlying22 Tryz.infoInt rfl (N1:Int) (by omega) (by omega) (by omega) W
 simp only [Int.toNat_natCast] at ah
 have rc:=World.rowIs_made w2 (.int .i64 0) N1 3
 have kb:Below w2.heap.size w2 (w2.alloc (.cells (madeCells #[.int .i64 0] N1) 3)):=(Below.refl _ _).alloc (Nat.le_refl _) _
 have q0:=qc0 rf
 have q1:=qc1 rf
 have q2:=qc2 rf
 replace ra:=zab ra kb;replace rb:=zab rb kb;replace rf:=zab rf kb;replace hB:=onS hB kb;clear kb
 have bq:(1:Int)<=(M:Int):=by omega
 have bc:(M:Int)<=8:=by omega
 go_wp2
 clear q0 q1 q2 ah
 obtain ⟨w3,S⟩:∃ W,W=w2.alloc (.cells (madeCells #[.int .i64 0] N1) 3):=⟨_,rfl⟩
 obtain ⟨gc,a5⟩:∃ g,g=w2.heap.size:=⟨_,rfl⟩
 rw [<-S,<-a5];rw [<-S] at ra rb rf rc hB;rw [<-a5] at rc aj
 have a1:ga≠gc:=by omega
 have a0:gb≠gc:=by omega
 have u:w.heap.size≠gc:=by omega
 have B:w.heap.size<=gc:=by omega
 clear S a5 ar aq ax a6 q aj
 replace rc:w3.rowIs gc 3 N1 (fun t=>.int .i64 (mOut P (dig P X) (dig P Y) M 0 t:Nat)):=rc
 go_loopg [10] M (fun gg iv wx=>∃ i:Nat,iv=.int .i64 (i:Nat)/\i<=M/\M<=i+gg/\wx.rowIs gc 3 N1 (fun t=>.int .i64 (mOut P (dig P X) (dig P Y) M i t:Nat))/\wx.rowIs ga 3 M (fun t=>.int .i64 (dig P X t:Nat))/\wx.rowIs gb 3 M (fun t=>.int .i64 (dig P Y t:Nat))/\wx.rowIs w.heap.size 24 3 (fldCell (.int .i64 (P:Nat)) (.int .i64 (M:Nat)) (.slice A k c))/\Below w.heap.size w wx)
 case atStart=>exact ⟨0,rfl,by omega,by omega,rc,ra,rb,rf,hB⟩
 clear ra rb rc rf hB
 obtain ⟨i,rfl,hi,bn,rc,ra,rb,rf,hB⟩:=hrel
 have bo:(0:Int)<=(i:Int):=by omega
 have q0:=qc0 rf
 have q1:=qc1 rf
 have q2:=qc2 rf
 by_cases hlt:i<M
 ·have a3:(i:Int)<(M:Int):=by omega
  go_wp2
  clear q0 q1 q2
  obtain ⟨gI,rfl⟩:∃ gK:Nat,gK=gk:=⟨_,rfl⟩
  obtain ⟨C0,h⟩:∃ C,C=mOut P (dig P X) (dig P Y) M i:=⟨_,rfl⟩
  have l:∀ t,C0 t<P:=by rw [h]; exact zel (by omega) i
  rw [<-h] at rc
  have ad:=hid h
  have O:=hid l
  clear h l
  go_loopg [11] M (fun gg jv wx=>∃ j:Nat,jv=.int .i64 (j:Nat)/\j<=M/\M<=j+gg/\wx.rowIs gc 3 N1 (fun t=>.int .i64 (mIn P (dig P X) (dig P Y) i C0 j t:Nat))/\wx.rowIs ga 3 M (fun t=>.int .i64 (dig P X t:Nat))/\wx.rowIs gb 3 M (fun t=>.int .i64 (dig P Y t:Nat))/\wx.rowIs w.heap.size 24 3 (fldCell (.int .i64 (P:Nat)) (.int .i64 (M:Nat)) (.slice A k c))/\Below w.heap.size w wx)
  case atStart=>exact ⟨0,rfl,by omega,by omega,rc,ra,rb,rf,hB⟩
  clear ra rb rc rf hB
  obtain ⟨j,rfl,hj,ao,rc,ra,rb,rf,hB⟩:=hrel
  have ap:(0:Int)<=(j:Int):=by omega
  have q0:=qc0 rf
  have q1:=qc1 rf
  have q2:=qc2 rf
  by_cases hlj:j<M
  rotate_left
  ·obtain rfl:M=j:=by omega
   have o:¬ (M:Int)<(M:Int):=by omega
   replace rc:wr.rowIs gc 3 N1 (fun t=>.int .i64 (mOut P (dig P X) (dig P Y) M (i+1) t:Nat)):=rc.congr fun t _=>by rw [ad.out]; rfl
   go_wp2
   go_roundg (gI - 1)
   case measure=>omega
   case rel=>exact ⟨i+1,by go_num,by omega,by omega,rc,ra,rb,rf,hB⟩
  have o:(j:Int)<(M:Int):=by omega
  have F:=zhV (P:=P) (by omega) (a:=dig P X) (b:=dig P Y) (i:=i) O.out j (i+j)
  have aw:=zbD (p:=P) (by omega) X i
  have av:=zbD (p:=P) (by omega) Y j
  obtain ⟨Q,hQ⟩:∃ Q,Q=i+j:=⟨_,rfl⟩
  have a9:Q<N1:=by omega
  have cc:=rc.cell (i:=Q) a9
  have zc:=rc.frozen Q
  have ca:=ra.cell (i:=i) hlt
  have cb:=rb.cell (i:=j) hlj
  have r:∀ t,mIn P (dig P X) (dig P Y) i C0 (j+1) t=if t=Q then (mIn P (dig P X) (dig P Y) i C0 j Q+dig P X i*dig P Y j) % P else mIn P (dig P X) (dig P Y) i C0 j t:=fun t=>by rw [hQ]; rfl
  obtain ⟨R,hR⟩:∃ R,R=(mIn P (dig P X) (dig P Y) i C0 j Q+dig P X i*dig P Y j) % P:=⟨_,rfl⟩
  have az:R<P:=by rw [hR]; exact Nat.mod_lt _ (by omega)
  rw [<-hQ] at F
  have rc2:(wr.setCell ⟨gc,Q,none⟩ (.int .i64 (R:Int))).rowIs gc 3 N1 (fun t=>.int .i64 (mIn P (dig P X) (dig P Y) i C0 (j+1) t:Nat)):=(rc.set Q _).congr fun t ht=>by
   rw [r t,<-hR]
   by_cases e:t=Q
   ·rw [if_pos e,if_pos e]
   ·rw [if_neg e,if_neg e]
  have ra2:=ra.setOther (a:=⟨gc,Q,none⟩) (by simpa using a1) (.int .i64 (R:Int))
  have rb2:=rb.setOther (a:=⟨gc,Q,none⟩) (by simpa using a0) (.int .i64 (R:Int))
  have rf2:=rf.setOther (a:=⟨gc,Q,none⟩) (by simpa using u) (.int .i64 (R:Int))
  have J:Below w.heap.size w (wr.setCell ⟨gc,Q,none⟩ (.int .i64 (R:Int))):=hB.setCell B _
  have RC:=hid rc2
  have RA:=hid ra2
  have RB:=hid rb2
  have RF:=hid rf2
  have HB:=hid J
  clear rc2 ra2 rb2 rf2 J
  obtain ⟨D,hD⟩:∃ D,D=mIn P (dig P X) (dig P Y) i C0 j Q:=⟨_,rfl⟩
  obtain ⟨E,hE⟩:∃ D,D=dig P X i:=⟨_,rfl⟩
  obtain ⟨G,hG⟩:∃ D,D=dig P Y j:=⟨_,rfl⟩
  rw [<-hD] at cc F hR;rw [<-hE] at ca aw hR;rw [<-hG] at cb av hR
  have ac:E*G<=256*256:=Nat.mul_le_mul (by omega) (by omega)
  obtain ⟨Hh,hH⟩:∃ H,H=E*G:=⟨_,rfl⟩
  rw [<-hH] at hR ac
  have a4:(i:Int)+(j:Int)=(Q:Int):=by omega
  have n:(E:Int)*(G:Int)=(Hh:Int):=by rw [hH]; simp
  clear hD hE hG hH r ra rb rc rf hB hQ
  have b3:(0:Int)<=(Q:Int):=by omega
  have b2:(Q:Int)<(N1:Int):=by omega
  have b7:¬ (P:Int)=0:=by omega
  have b4:(2:Int)<=(P:Int):=by omega
  have b1:(0:Int)<=(R:Int):=by omega
  have b0:(R:Int)<=256:=by omega
  have bk:(0:Int)<=(D:Int):=by omega
  have bj:(0:Int)<=(Hh:Int):=by omega
  have d:(0:Int)<=(D:Int)+(Hh:Int):=by omega
  have b5:¬ P=0:=by omega
  have w1:IntKind.i64.wrap (Q:Int)=(Q:Int):=IntWalk.i64_in _ (by omega)
  have w2:IntKind.i64.wrap (Hh:Int)=(Hh:Int):=IntWalk.i64_in _ (by omega)
  have w3:IntKind.i64.wrap ((D:Int)+(Hh:Int))=(D:Int)+(Hh:Int):=IntWalk.i64_in _ (by omega)
  have w4:IntKind.i64.wrap (R:Int)=(R:Int):=IntWalk.i64_in _ (by omega)
  have V:((D:Int)+(Hh:Int)).tmod (P:Int)=(R:Int):=by rw [Int.tmod_eq_emod_of_nonneg d,hR]; simp
  have a7:((D:Int)+(Hh:Int)) % (P:Int)=(R:Int):=by rw [hR]; simp
  clear hR
  go_wp2
  go_still_tail 23,(by kernel_rfl)
  change wpList _ _ _ _ _ wr.drew
  go_wp2
  clear w1 w2 w3 w4 V a7 a4 n
  go_roundg (gk - 1)
  case measure=>omega
  case rel=>exact ⟨j+1,by go_num,by omega,by omega,RC.out,RA.out,RB.out,RF.out,HB.out.drew⟩
 obtain rfl:M=i:=by omega
 have a3:¬ (M:Int)<(M:Int):=by omega
 have bs:(0:Int)<=2*(M:Int):=by omega
 have bf:2*(M:Int)<=16:=by omega
 go_wp2
 clear q0 q1 q2
 obtain ⟨C1,L⟩:∃ C,C=mOut P (dig P X) (dig P Y) M M:=⟨_,rfl⟩
 have l:∀ t,C1 t<P:=by rw [L]; exact zel (by omega) M
 rw [<-L] at rc
 have bl:=hid L
 have O:=hid l
 clear L l
 go_loopg [12] (M - 1) (fun gg iv wx=>∃ s:Nat,iv=.int .i64 (2*(M:Int) - 2 - (s:Int))/\s+1<=M/\M<=s+1+gg/\wx.rowIs gc 3 N1 (fun t=>.int .i64 (rOut P M m C1 s t:Nat))/\wx.rowIs w.heap.size 24 3 (fldCell (.int .i64 (P:Nat)) (.int .i64 (M:Nat)) (.slice A k c))/\Below w.heap.size w wx)
 case atStart=>exact ⟨0,by go_num,by omega,by omega,rc,rf,hB⟩
 clear ra rb rc rf hB
 obtain ⟨s,rfl,hs,an,rc,rf,hB⟩:=hrel
 have q0:=qc0 rf
 have q1:=qc1 rf
 have q2:=qc2 rf
 by_cases hlt2:s+1<M
 rotate_left
 ·obtain ⟨s2,ae⟩:∃ t,t=M - 1:=⟨_,rfl⟩
  obtain rfl:s=s2:=by omega
  obtain ⟨I,hI⟩:∃ I,I=M - 1:=⟨_,rfl⟩
  have v:2*(M:Int) - 2 - (s:Int)=(I:Int):=by omega
  rw [v]
  have bh:¬ M<=I:=by omega
  have aa:¬ (M:Int)<=(I:Int):=by omega
  have ab:(I:Int)<=16:=by omega
  have bi:(0:Int)<=(I:Int):=by omega
  have br:M<=N1:=by omega
  have bd:(M:Int)<=(N1:Int):=by omega
  have z:IntsR wr.drew wr.drew.heap.size (some ⟨gc,0,none⟩) M (fun t=>(rOut P M m C1 s t:Nat)):=fun i hi=>rowInts rc i (by omega)
  have U:Hid (valN P (rOut P M m C1 s) M=mulF P M m (inV (P ^ M) x) (inV (P ^ M) y)):=by rw [bl.out,HX.out,HY.out,ae]; rfl
  have a2:Hid (∀ t,t<M->rOut P M m C1 s t<P):=fun t _=>zdm (by omega) O.out s t
  clear rc ae hI v hs an
  go_wp2
  go_still_tail 5,(by kernel_rfl)
  change wpList _ _ _ _ _ wr.drew
  go_wp2_with fail
  refine (zbP P M A k c (some ⟨gc,0,none⟩) M N1 _ _ b6 hP z a2 hq be).mono ?_
  rintro e w5 ⟨rfl,kb⟩
  replace hB:=onS hB.drew kb;clear kb q0 q1 q2 rf;rw [U.out]
  obtain ⟨R,hR⟩:∃ R,R=mulF P M m (inV (P ^ M) x) (inV (P ^ M) y):=⟨_,rfl⟩
  rw [<-hR]
  have HR:=hid hR
  clear hR z
  go_wp2
  go_ret
  exact ⟨by rw [HR.out]; rfl,hB⟩
 obtain ⟨I,hI⟩:∃ I,I=2*M - 2 - s:=⟨_,rfl⟩
 have v:2*(M:Int) - 2 - (s:Int)=(I:Int):=by omega
 rw [v]
 have bh:M<=I:=by omega
 have aa:(M:Int)<=(I:Int):=by omega
 have ab:(I:Int)<=16:=by omega
 have bg:I<N1:=by omega
 have bi:(0:Int)<=(I:Int):=by omega
 have HI:=hid hI
 clear hI v
 go_wp2
 clear q0 q1 q2
 obtain ⟨gI,rfl⟩:∃ gK:Nat,gK=gk:=⟨_,rfl⟩
 obtain ⟨C0,h⟩:∃ C,C=rOut P M m C1 s:=⟨_,rfl⟩
 have l:∀ t,C0 t<P:=by rw [h]; exact zdm (by omega) O.out s
 rw [<-h] at rc
 have ad:=hid h
 have K:=hid l
 clear h l
 obtain ⟨af,ag⟩:IntsR w w.heap.size A M (fun i=>(m i:Nat))/\∀ i,i<M->m i<P:=hm.resolve_left (by omega)
 obtain rfl:k=M:=hkM.resolve_left (by omega)
 go_loopg [13] k (fun gg jv wx=>∃ j:Nat,jv=.int .i64 (j:Nat)/\j<=k/\k<=j+gg/\wx.rowIs gc 3 N1 (fun t=>.int .i64 (rIn P k m I C0 j t:Nat))/\wx.rowIs w.heap.size 24 3 (fldCell (.int .i64 (P:Nat)) (.int .i64 (k:Nat)) (.slice A k c))/\Below w.heap.size w wx)
 case atStart=>exact ⟨0,rfl,by omega,by omega,rc,rf,hB⟩
 clear rc rf hB
 obtain ⟨j,rfl,hj,ao,rc,rf,hB⟩:=hrel
 have ap:(0:Int)<=(j:Int):=by omega
 have q0:=qc0 rf
 have q1:=qc1 rf
 have q2:=qc2 rf
 by_cases hlj:j<k
 rotate_left
 ·obtain rfl:k=j:=by omega
  have o:¬ (k:Int)<(k:Int):=by omega
  replace rc:wr.rowIs gc 3 N1 (fun t=>.int .i64 (rOut P k m C1 (s+1) t:Nat)):=rc.congr fun t _=>by rw [ad.out,HI.out]; rfl
  have ak:=HI.out
  clear HI
  go_wp2
  go_roundg (gI - 1)
  case measure=>omega
  case rel=>exact ⟨s+1,by go_num,by omega,by omega,rc,rf,hB⟩
 have o:(j:Int)<(k:Int):=by omega
 have F:=zhd (P:=P) (M:=k) (m:=m) (i:=I) (by omega) K.out j (I - k+j)
 have a8:=zhd (P:=P) (M:=k) (m:=m) (i:=I) (by omega) K.out j I
 have au:=ag j hlj
 obtain ⟨mb,mo,rfl,bm,ai⟩:=af.at hlj
 have cm:=cellS hB ai
 obtain ⟨Z,hZ⟩:∃ Q,Q=I - k:=⟨_,rfl⟩
 have bu:(I:Int) - (k:Int)=(Z:Int):=by omega
 have ay:Z<=16:=by omega
 obtain ⟨Q,hQ⟩:∃ Q,Q=I - k+j:=⟨_,rfl⟩
 have ak:=HI.out
 have a9:Q<N1:=by omega
 have cc:=rc.cell (i:=Q) a9
 have zc:=rc.frozen Q
 have ci:=rc.cell (i:=I) bg
 have r:∀ t,rIn P k m I C0 (j+1) t=if t=Q then (rIn P k m I C0 j Q+(P - rIn P k m I C0 j I)*m j) % P else rIn P k m I C0 j t:=fun t=>by rw [hQ]; rfl
 obtain ⟨R,hR⟩:∃ R,R=(rIn P k m I C0 j Q+(P - rIn P k m I C0 j I)*m j) % P:=⟨_,rfl⟩
 have az:R<P:=by rw [hR]; exact Nat.mod_lt _ (by omega)
 rw [<-hQ] at F
 have rc2:(wr.setCell ⟨gc,Q,none⟩ (.int .i64 (R:Int))).rowIs gc 3 N1 (fun t=>.int .i64 (rIn P k m I C0 (j+1) t:Nat)):=(rc.set Q _).congr fun t ht=>by
  rw [r t,<-hR]
  by_cases e:t=Q
  ·rw [if_pos e,if_pos e]
  ·rw [if_neg e,if_neg e]
 have rf2:=rf.setOther (a:=⟨gc,Q,none⟩) (by simpa using u) (.int .i64 (R:Int))
 have J:Below w.heap.size w (wr.setCell ⟨gc,Q,none⟩ (.int .i64 (R:Int))):=hB.setCell B _
 have RC:=hid rc2
 have RF:=hid rf2
 have HB:=hid J
 clear rc2 rf2 J
 obtain ⟨D,hD⟩:∃ D,D=rIn P k m I C0 j Q:=⟨_,rfl⟩
 obtain ⟨D2,am⟩:∃ D,D=rIn P k m I C0 j I:=⟨_,rfl⟩
 obtain ⟨G,hG⟩:∃ D,D=m j:=⟨_,rfl⟩
 rw [<-hD] at cc F hR;rw [<-am] at ci a8 hR;rw [<-hG] at cm au hR
 obtain ⟨E,hE⟩:∃ D,D=P - D2:=⟨_,rfl⟩
 rw [<-hE] at hR
 have bp:(P:Int) - (D2:Int)=(E:Int):=by omega
 have ac:E*G<=256*256:=Nat.mul_le_mul (by omega) (by omega)
 obtain ⟨Hh,hH⟩:∃ H,H=E*G:=⟨_,rfl⟩
 rw [<-hH] at hR ac
 have a4:(Z:Int)+(j:Int)=(Q:Int):=by omega
 have n:(E:Int)*(G:Int)=(Hh:Int):=by rw [hH]; simp
 have al:E<=256:=by omega
 clear hD am hE hG hH r rc rf hB hQ hZ ak af ag ai
 have b3:(0:Int)<=(Q:Int):=by omega
 have b2:(Q:Int)<(N1:Int):=by omega
 have bv:(I:Int)<(N1:Int):=by omega
 have b7:¬ (P:Int)=0:=by omega
 have b4:(2:Int)<=(P:Int):=by omega
 have b1:(0:Int)<=(R:Int):=by omega
 have b0:(R:Int)<=256:=by omega
 have bk:(0:Int)<=(D:Int):=by omega
 have bj:(0:Int)<=(Hh:Int):=by omega
 have d:(0:Int)<=(D:Int)+(Hh:Int):=by omega
 have b5:¬ P=0:=by omega
 have w1:IntKind.i64.wrap (Q:Int)=(Q:Int):=IntWalk.i64_in _ (by omega)
 have w2:IntKind.i64.wrap (Hh:Int)=(Hh:Int):=IntWalk.i64_in _ (by omega)
 have w3:IntKind.i64.wrap ((D:Int)+(Hh:Int))=(D:Int)+(Hh:Int):=IntWalk.i64_in _ (by omega)
 have w4:IntKind.i64.wrap (R:Int)=(R:Int):=IntWalk.i64_in _ (by omega)
 have w5:IntKind.i64.wrap (Z:Int)=(Z:Int):=IntWalk.i64_in _ (by omega)
 have w6:IntKind.i64.wrap (E:Int)=(E:Int):=IntWalk.i64_in _ (by omega)
 have V:((D:Int)+(Hh:Int)).tmod (P:Int)=(R:Int):=by rw [Int.tmod_eq_emod_of_nonneg d,hR]; simp
 have a7:((D:Int)+(Hh:Int)) % (P:Int)=(R:Int):=by rw [hR]; simp
 clear hR
 go_wp2
 go_still_tail 33,(by kernel_rfl)
 change wpList _ _ _ _ _ wr.drew
 go_wp2
 clear w1 w2 w3 w4 w5 w6 V a7 a4 n
 go_roundg (gk - 1)
 case measure=>omega
 case rel=>exact ⟨j+1,by go_num,by omega,by omega,RC.out,RF.out,HB.out.drew⟩
theorem zbA (p i:Nat):dig p 0 i=0:=by simp [dig]
theorem zcb (p x:Nat):dig p x 0=x % p:=by simp [dig]
theorem zcR (p x i:Nat):dig p x (i+1)=dig p (x / p) i:=by
 unfold dig
 rw [Nat.pow_succ',Nat.div_div_eq_div_mul]
theorem zdV {p:Nat} (hp:0<p):∀ (n x:Nat),x<p ^ n->valN p (dig p x) n=x:=by
 intro n
 induction n with
 | zero =>
  intro x hx
  have:x<1:=by simpa using hx
  have:x=0:=by omega
  subst this
  rfl
 | succ n ih =>
  intro x hx
  have h1:x / p<p ^ n:=by
   rw [Nat.div_lt_iff_lt_mul hp,<-Nat.pow_succ]
   exact hx
  show dig p x 0+p*valN p (fun i=>dig p x (i+1)) n=x
  have h2:valN p (fun i=>dig p x (i+1)) n=valN p (dig p (x / p)) n:=zaK fun i _=>zcR p x i
  rw [h2,ih _ h1,zcb]
  exact Nat.mod_add_div x p
theorem zga {P M x:Nat} (hP:0<P) (hx:x<P ^ M):addF P M 0 x=x:=by
 have h:addF P M 0 x=valN P (dig P x) M:=zaK fun i _=>by
  rw [zbA,Nat.zero_add]
  exact Nat.mod_eq_of_lt (zbD hP x i)
 rw [h,zdV hP M x hx]
theorem zgb (P M x y:Nat):addF P M x y=addF P M y x:=zaK fun i _=>by rw [Nat.add_comm]
def sig:Nat->(Nat->Int)->Int
 | 0,_=>0
 | n+1,f=>sig n f+f n
theorem zae {n:Nat} {f g:Nat->Int} (h:∀ i,i<n->f i=g i):sig n f=sig n g:=by
 induction n with
 | zero=>rfl
 | succ n ih=>show sig n f+f n=sig n g+g n; rw [ih fun i hi=>h i (by omega),h n (by omega)]
theorem zdn (n:Nat) (f g:Nat->Int):sig n (fun i=>f i+g i)=sig n f+sig n g:=by
 induction n with
 | zero=>rfl
 | succ n ih=>show sig n _+(f n+g n)=sig n f+f n+(sig n g+g n); rw [ih]; omega
theorem zcj (n:Nat) (c:Int) (f:Nat->Int):sig n (fun i=>c*f i)=c*sig n f:=by
 induction n with
 | zero=>show (0:Int)=c*0; omega
 | succ n ih=>show sig n _+_=c*(sig n f+f n); rw [ih,Int.mul_add]
theorem zcS (n:Nat) (c:Int):sig n (fun _=>c)=n*c:=by
 induction n with
 | zero=>show (0:Int)=((0:Nat):Int)*c; simp
 | succ n ih=>show sig n _+c=_; rw [ih]; grind
theorem za6 (n:Nat):sig n (fun _=>0)=0:=by rw [zcS]; simp
theorem ziq {n:Nat} {f g:Nat->Int} (h:∀ i,i<n->f i<=g i):sig n f<=sig n g:=by
 induction n with
 | zero=>exact Int.le_refl _
 | succ n ih=>show sig n f+f n<=sig n g+g n; have:=ih fun i hi=>h i (by omega); have:=h n (by omega); omega
theorem zff (n m:Nat) (f:Nat->Nat->Int):sig n (fun i=>sig m (fun j=>f i j))=sig m (fun j=>sig n (fun i=>f i j)):=by
 induction n with
 | zero=>show (0:Int)=sig m (fun j=>0); rw [za6]
 | succ n ih=>show sig n _+sig m _=sig m (fun j=>sig n _+f n j); rw [ih,zdn]
theorem zby {n:Nat} {f:Nat->Int} {k:Nat} (hk:k<n) (h:∀ i,i<n->i≠k->f i=0):sig n f=f k:=by
 induction n with
 | zero=>omega
 | succ n ih =>
  show sig n f+f n=f k
  by_cases e:k=n
  ·subst e
   have:sig k f=0:=by rw [zae (g:=fun _=>0) fun i hi=>h i (by omega) (by omega),za6]
   rw [this]; omega
  ·rw [ih (by omega) fun i hi hne=>h i (by omega) hne,h n (by omega) (by omega)]; omega
def ind (p:Prop) [Decidable p]:Int:=if p then 1 else 0
theorem zhW (p:Prop) [Decidable p]:0<=ind p:=by unfold ind; split <;> omega
theorem zhe {n:Nat} {p:Nat->Prop} [∀ i,Decidable (p i)] (h:∀ i k,i<n->k<n->p i->p k->i=k):sig n (fun i=>ind (p i))<=1:=by
 by_cases e:∃ k,k<n/\p k
 ·obtain ⟨k,hk,hp⟩:=e
  rw [zby hk fun i hi hne=>by unfold ind; rw [if_neg fun hpi=>hne (h i k hi hk hpi hp)]]
  unfold ind; split <;> omega
 ·rw [zae (g:=fun _=>0) fun i hi=>by unfold ind; rw [if_neg fun hp=>e ⟨i,hi,hp⟩],za6]; omega
theorem pigeon {M N:Nat} {f:Nat->Nat} (hf:∀ i,i<M->f i<N) (hi:∀ i k,i<M->k<M->f i=f k->i=k):M<=N:=by
 have h1:sig N (fun v=>sig M (fun i=>ind (f i=v)))<=sig N (fun _=>1):=ziq fun v _=>zhe fun i k h1 h2 e1 e2=>hi i k h1 h2 (e1.trans e2.symm)
 rw [zff,zcS,zae (g:=fun _=>1) fun i hi'=>by
  rw [zby (hf i hi') fun v _ hne=>by unfold ind; rw [if_neg fun e=>hne e.symm]]
  unfold ind; rw [if_pos rfl],zcS] at h1
 omega
def code (q:Nat) (a:Nat->Nat):Nat->Nat
 | 0=>0
 | k+1=>code q a k+a k*q ^ k
theorem zck {q:Nat} {a:Nat->Nat} {k:Nat} (h:∀ j,j<k->a j<q):code q a k<q ^ k:=by
 induction k with
 | zero=>show 0<1; omega
 | succ k ih =>
  show code q a k+a k*q ^ k<q ^ (k+1)
  have h1:=ih fun j hj=>h j (by omega)
  have h2:(a k+1)*q ^ k<=q*q ^ k:=Nat.mul_le_mul_right _ (h k (by omega))
  rw [Nat.pow_succ,Nat.mul_comm (q ^ k) q];rw [Nat.add_mul,Nat.one_mul] at h2
  omega
theorem zdW {q:Nat} {a b:Nat->Nat} {k:Nat} (ha:∀ j,j<k->a j<q) (hb:∀ j,j<k->b j<q) (e:code q a k=code q b k):∀ j,j<k->a j=b j:=by
 induction k with
 | zero=>intro j hj; omega
 | succ k ih =>
  have h1:=zck (k:=k) fun j hj=>ha j (by omega)
  have h2:=zck (k:=k) fun j hj=>hb j (by omega)
  have e':code q a k+a k*q ^ k=code q b k+b k*q ^ k:=e
  have hp:0<q ^ k:=by omega
  have e1:(code q a k+a k*q ^ k) / q ^ k=a k:=by rw [Nat.add_mul_div_right _ _ hp,Nat.div_eq_of_lt h1,Nat.zero_add]
  have e2:(code q b k+b k*q ^ k) / q ^ k=b k:=by rw [Nat.add_mul_div_right _ _ hp,Nat.div_eq_of_lt h2,Nat.zero_add]
  have ek:a k=b k:=by rw [<-e1,<-e2,e']
  intro j hj
  by_cases hjk:j=k
  ·rw [hjk]; exact ek
  ·refine ih (fun j hj=>ha j (by omega)) (fun j hj=>hb j (by omega)) ?_ j (by omega)
   rw [ek] at e'; omega
theorem zgc (a b:Nat) (f:Nat->Int):sig (a+b) f=sig a f+sig b (fun j=>f (a+j)):=by
 induction b with
 | zero=>show sig a f=sig a f+0; omega
 | succ b ih=>show sig (a+b) f+f (a+b)=sig a f+(sig b _+f (a+b)); rw [ih]; omega
def cg (P:Nat) (a b:Int):Prop:=∃ k:Int,a=b+P*k
section
variable {P:Nat} {a b c d:Int}
theorem zah (a:Int):cg P a a:=⟨0,by simp⟩
theorem zbx (h:a=b):cg P a b:=h ▸ zah a
theorem cg.symm (h:cg P a b):cg P b a:=by obtain ⟨k,rfl⟩:=h; exact ⟨-k,by rw [Int.mul_neg]; omega⟩
theorem cg.trans (h:cg P a b) (g:cg P b c):cg P a c:=by obtain ⟨k,rfl⟩:=h; obtain ⟨l,rfl⟩:=g; exact ⟨l+k,by rw [Int.mul_add]; omega⟩
theorem cg.add (h:cg P a b) (g:cg P c d):cg P (a+c) (b+d):=by obtain ⟨k,rfl⟩:=h; obtain ⟨l,rfl⟩:=g; exact ⟨k+l,by rw [Int.mul_add]; omega⟩
theorem cg.neg (h:cg P a b):cg P (-a) (-b):=by obtain ⟨k,rfl⟩:=h; exact ⟨-k,by rw [Int.mul_neg]; omega⟩
theorem cg.mul (h:cg P a b) (g:cg P c d):cg P (a*c) (b*d):=by
 obtain ⟨k,rfl⟩:=h; obtain ⟨l,rfl⟩:=g
 exact ⟨b*l+k*d+P*k*l,by grind⟩
theorem cg.mulL (x:Int) (g:cg P c d):cg P (x*c) (x*d):=(zah x).mul g
theorem zeM (a:Int):cg P (a % P) a:=⟨-(a / P),by have:=Int.emod_add_mul_ediv a P; rw [Int.mul_neg]; omega⟩
theorem zdo (a:Nat):cg P ((a % P:Nat):Int) a:=by rw [Int.natCast_emod]; exact zeM _
theorem zfg {a b:Nat} (h:cg P a b) (ha:a<P) (hb:b<P):a=b:=by
 obtain ⟨k,hk⟩:=h
 have h1:k=0:=by
  rcases Int.lt_trichotomy k 0 with h | h | h
  ·have:(P:Int)*k<=P*(-1):=Int.mul_le_mul_of_nonneg_left (by omega) (by omega)
   omega
  ·exact h
  ·have:(P:Int)*1<=P*k:=Int.mul_le_mul_of_nonneg_left (by omega) (by omega)
   omega
 subst h1
 omega
theorem zhX {n:Nat} {f g:Nat->Int} (h:∀ i,i<n->cg P (f i) (g i)):cg P (sig n f) (sig n g):=by
 induction n with
 | zero=>exact zah _
 | succ n ih=>exact (ih fun i hi=>h i (by omega)).add (h n (by omega))
end
theorem zem (n:Nat) (f g:Nat->Int):sig n (fun i=>f i - g i)=sig n f - sig n g:=by
 induction n with
 | zero=>rfl
 | succ n ih=>show sig n _+(f n - g n)=sig n f+f n - (sig n g+g n); rw [ih]; omega
theorem zgX (n:Nat) (f:Nat->Int):sig n (fun i => - f i) = - sig n f:=by
 induction n with
 | zero=>rfl
 | succ n ih=>show sig n _+(- f n) = - (sig n f+f n); rw [ih]; omega
theorem zgY {n k:Nat} {f:Nat->Int} (hk:k<=n) (h:∀ i,k<=i->i<n->f i=0):sig n f=sig k f:=by
  induction n with
  | zero => have : k = 0 := by omega
            subst this; rfl
  | succ n ih =>
    by_cases e:k=n+1
    · subst e; rfl
    · show sig n f+f n=_
      rw [ih (by omega) fun i h1 h2=>h i h1 (by omega),h n (by omega) (by omega)]; omega
theorem zbE (n k:Nat) (x y:Nat->Int) (F:Nat->Nat->Int):sig n (fun i=>x i*sig k (fun j=>y j*F i j))=sig k (fun j=>y j*sig n (fun i=>x i*F i j)):=by
 have h1:sig n (fun i=>x i*sig k (fun j=>y j*F i j))=sig n (fun i=>sig k (fun j=>x i*(y j*F i j))):=zae fun i _=>(zcj _ _ _).symm
 have h2:sig k (fun j=>y j*sig n (fun i=>x i*F i j))=sig k (fun j=>sig n (fun i=>y j*(x i*F i j))):=zae fun i _=>(zcj _ _ _).symm
 rw [h1,h2,zff]
 exact zae fun j _=>zae fun i _=>by rw [<-Int.mul_assoc,<-Int.mul_assoc,Int.mul_comm (x i)]
theorem zgZ (n k:Nat) (x:Nat->Int) (W:Nat->Nat->Int) (F:Nat->Int):sig n (fun a=>sig k (fun i=>x i*W i a)*F a)=sig k (fun i=>x i*sig n (fun a=>W i a*F a)):=by
 have h1:sig n (fun a=>sig k (fun i=>x i*W i a)*F a)=sig n (fun a=>F a*sig k (fun i=>x i*W i a)):=zae fun a _=>Int.mul_comm _ _
 rw [h1,zbE]
 exact zae fun i _=>by congr 1; exact zae fun a _=>Int.mul_comm _ _
def pwX (M:Nat) (m:Nat->Nat):Nat->Nat->Int
 | 0,j=>if j=0 then 1 else 0
 | n+1,j=>if j<M then (if j=0 then 0 else pwX M m n (j - 1)) - m j*pwX M m n (M - 1) else 0
def one0 (j:Nat):Int:=if j=0 then 1 else 0
section
variable {M:Nat} {m:Nat->Nat}
theorem zhY (hM:1<=M) {n j:Nat} (hj:M<=j):pwX M m n j=0:=by
 cases n with
 | zero=>show (if j=0 then (1:Int) else 0)=0; rw [if_neg (by omega)]
 | succ n=>show (if j<M then _ else (0:Int))=0; rw [if_neg (by omega)]
theorem zbk:∀ {t:Nat},t<M->∀ j,pwX M m t j=if j=t then 1 else 0:=by
 intro t
 induction t with
 | zero=>exact fun _ _=>rfl
 | succ t ih =>
  intro ht j
  show (if j<M then (if j=0 then 0 else pwX M m t (j - 1)) - m j*pwX M m t (M - 1) else 0)=_
  rw [ih (by omega),ih (by omega),if_neg (show ¬ M - 1=t by omega)]
  by_cases e:j=t+1
  ·rw [if_pos e,if_pos (by omega),if_neg (by omega),if_pos (by omega)]; omega
  ·rw [if_neg e]
   by_cases e1:j<M
   ·rw [if_pos e1]
    by_cases e2:j=0
    ·rw [if_pos e2]; omega
    ·rw [if_neg e2,if_neg (by omega)]; omega
   ·rw [if_neg e1]
theorem zhZ (hM:1<=M) (j:Nat):pwX M m M j=if j<M then -(m j:Int) else 0:=by
 obtain ⟨k,rfl⟩:∃ k,M=k+1:=⟨M - 1,by omega⟩
 show (if j<k+1 then (if j=0 then 0 else pwX (k+1) m k (j - 1)) - m j*pwX (k+1) m k (k+1 - 1) else 0)=_
 rw [zbk (by omega),zbk (by omega),if_pos (show k+1 - 1=k by omega)]
 by_cases e1:j<k+1
 ·rw [if_pos e1,if_pos e1]
  by_cases e2:j=0
  ·rw [if_pos e2]; omega
  ·rw [if_neg e2,if_neg (by omega)]; omega
 ·rw [if_neg e1,if_neg e1]
theorem zg0 (hM:1<=M):∀ b n j,sig M (fun a=>pwX M m n a*pwX M m (a+b) j)=pwX M m (n+b) j:=by
 intro b
 induction b with
 | zero =>
  intro n j
  by_cases e:j<M
  ·rw [zby e fun i hi hne=>by rw [Nat.add_zero,zbk hi,if_neg (by omega)]; omega,Nat.add_zero,zbk e,if_pos rfl,Nat.add_zero]; omega
  ·rw [zae (g:=fun _=>0) fun i hi=>by rw [zhY hM (show M<=j by omega)]; omega,za6,zhY hM (by omega)]
 | succ b ih =>
  intro n j
  show sig M (fun a=>pwX M m n a*(if j<M then (if j=0 then 0 else pwX M m (a+b) (j - 1)) - m j*pwX M m (a+b) (M - 1) else 0))=(if j<M then (if j=0 then 0 else pwX M m (n+b) (j - 1)) - m j*pwX M m (n+b) (M - 1) else 0)
  by_cases e:j<M
  ·simp only [if_pos e]
   have h1:∀ a,pwX M m n a*((if j=0 then 0 else pwX M m (a+b) (j - 1)) - m j*pwX M m (a+b) (M - 1))=(if j=0 then 0 else pwX M m n a*pwX M m (a+b) (j - 1)) - m j*(pwX M m n a*pwX M m (a+b) (M - 1)):=fun a=>by
    split <;> grind
   rw [zae fun a _=>h1 a,zem,zcj,ih]
   by_cases e2:j=0
   ·simp only [if_pos e2]; rw [za6]
   ·simp only [if_neg e2]; rw [ih]
  ·simp only [if_neg e]
   rw [zae (g:=fun _=>0) fun i hi=>by omega,za6]
theorem zg1 (hM:1<=M) {i:Nat} (hi:M<=i) (q:Nat):pwX M m i q = - sig M (fun k=>m k*pwX M m (i - M+k) q):=by
 have h:=zg0 (m:=m) hM (i - M) M q
 rw [show M+(i - M)=i by omega] at h
 rw [<-h,<-zgX]
 exact zae fun k hk=>by
  rw [zhZ hM,if_pos hk,Int.neg_mul,show k+(i - M)=i - M+k by omega]
end
def mulI (M:Nat) (m:Nat->Nat) (x y:Nat->Int) (j:Nat):Int:=sig M fun i=>x i*sig M fun k=>y k*pwX M m (i+k) j
section
variable {M P:Nat} {m:Nat->Nat} {x y z x' y':Nat->Int}
theorem zaQ (x y:Nat->Int):mulI M m x y=mulI M m y x:=funext fun j=>by
 show sig M (fun i=>x i*sig M fun k=>y k*pwX M m (i+k) j)=sig M (fun i=>y i*sig M fun k=>x k*pwX M m (i+k) j)
 rw [zbE]
 exact zae fun k _=>by congr 1; exact zae fun i _=>by rw [Nat.add_comm]
theorem zbp (hx:∀ i,i<M->cg P (x i) (x' i)) (hy:∀ i,i<M->cg P (y i) (y' i)) (j:Nat):cg P (mulI M m x y j) (mulI M m x' y' j) :=
 zhX fun i hi=>(hx i hi).mul (zhX fun k hk=>(hy k hk).mul (zah _))
def mul3 (M:Nat) (m:Nat->Nat) (x y z:Nat->Int) (j:Nat):Int:=sig M fun i=>x i*sig M fun k=>y k*sig M fun l=>z l*pwX M m (i+k+l) j
theorem zen (hM:1<=M) (x y z:Nat->Int) (j:Nat):mulI M m (mulI M m x y) z j=mul3 M m x y z j:=by
 show sig M (fun a=>sig M (fun i=>x i*sig M fun k=>y k*pwX M m (i+k) a)*sig M fun l=>z l*pwX M m (a+l) j)=_
 rw [zgZ]
 refine zae fun i _=>?_
 congr 1
 rw [zgZ]
 refine zae fun k _=>?_
 congr 1
 rw [zbE]
 exact zae fun l _=>by rw [zg0 hM]
theorem zgd (x y z:Nat->Int) (j:Nat):mul3 M m x y z j=mul3 M m y z x j:=by
 show sig M (fun i=>x i*sig M fun k=>y k*sig M fun l=>z l*pwX M m (i+k+l) j)=sig M (fun k=>y k*sig M fun l=>z l*sig M fun i=>x i*pwX M m (k+l+i) j)
 rw [zbE]
 refine zae fun k _=>?_
 congr 1
 rw [zbE]
 refine zae fun l _=>?_
 congr 1
 exact zae fun i _=>by rw [show i+k+l=k+l+i by omega]
theorem zbF (hM:1<=M) (x y z:Nat->Int):mulI M m (mulI M m x y) z=mulI M m x (mulI M m y z):=funext fun j=>by
 rw [zaQ x (mulI M m y z),zen hM,zen hM,zgd]
theorem zge (x y z:Nat->Int) (j:Nat):mulI M m x (fun k=>y k+z k) j=mulI M m x y j+mulI M m x z j:=by
 unfold mulI
 rw [<-zdn]
 refine zae fun i _=>?_
 rw [<-Int.mul_add,<-zdn]
 congr 1
 exact zae fun k _=>by rw [Int.add_mul]
theorem zcT (c:Int) (x y:Nat->Int) (j:Nat):mulI M m (fun k=>c*x k) y j=c*mulI M m x y j:=by
 unfold mulI
 rw [<-zcj]
 exact zae fun i _=>by rw [Int.mul_assoc]
theorem zcU (x:Nat->Int) {j:Nat} (hj:j<M):mulI M m one0 x j=x j:=by
 unfold mulI
 rw [zby (k:=0) (by omega) fun i _ hne=>by unfold one0; rw [if_neg hne]; omega]
 rw [zby (k:=j) hj fun i hi hne=>by rw [Nat.zero_add,zbk hi,if_neg (by omega)]; omega]
 rw [Nat.zero_add,zbk hj,if_pos rfl]
 unfold one0
 rw [if_pos rfl]; omega
end
def evX (M:Nat) (m:Nat->Nat) (N:Nat) (c:Nat->Nat) (q:Nat):Int:=sig N fun t=>(c t:Int)*pwX M m t q
theorem zeo {M N s v q:Nat} {m c:Nat->Nat} (hs:s<N):evX M m N (fun t=>if t=s then v else c t) q=evX M m N c q+((v:Int) - c s)*pwX M m s q:=by
 have h:sig N (fun t=>if t=s then ((v:Int) - c s)*pwX M m s q else 0)=((v:Int) - c s)*pwX M m s q:=by
  rw [zby hs fun i _ hne=>by rw [if_neg hne],if_pos rfl]
 rw [<-h]
 unfold evX
 rw [<-zdn]
 refine zae fun t _=>?_
 simp only
 by_cases e:t=s
 ·subst e; rw [if_pos rfl,if_pos rfl]; grind
 ·rw [if_neg e,if_neg e]; omega
theorem zaX {p:Nat}:∀ {n:Nat} {f:Nat->Nat},(∀ i,i<n->f i<p)->∀ j,j<n->dig p (valN p f n) j=f j
 | 0,_,_,j,hj=>by omega
 | n + 1, f, h, j, hj => by
  have h0:=h 0 (by omega)
  show dig p (f 0+p*valN p (fun i=>f (i+1)) n) j=f j
  cases j with
  | zero=>rw [zcb,Nat.add_mul_mod_self_left]; exact Nat.mod_eq_of_lt h0
  | succ j =>
   rw [zcR,Nat.add_mul_div_left _ _ (by omega),Nat.div_eq_of_lt h0,Nat.zero_add]
   exact zaX (fun i hi=>h (i+1) (by omega)) j (by omega)
theorem zdp {p M x y:Nat} (hp:0<p) (hx:x<p ^ M) (hy:y<p ^ M) (h:∀ j,j<M->dig p x j=dig p y j):x=y:=by
 rw [<-zdV hp M x hx,<-zdV hp M y hy]
 exact zaK h
def dgt (p x j:Nat):Int:=(dig p x j:Nat)
theorem zbl {p M x y:Nat} (hp:0<p) (hx:x<p ^ M) (hy:y<p ^ M) (h:∀ j,j<M->cg p (dgt p x j) (dgt p y j)):x=y :=
 zdp hp hx hy fun j hj=>zfg (h j hj) (zbD hp _ _) (zbD hp _ _)
theorem zhf {P M:Nat} (hP:0<P) (x y:Nat) {j:Nat} (hj:j<M):cg P (dgt P (addF P M x y) j) (dgt P x j+dgt P y j):=by
 unfold dgt addF
 rw [zaX (fun _ _=>Nat.mod_lt _ hP) j hj]
 exact (zdo _).trans (zbx (by simp))
section
variable {P M:Nat} {m:Nat->Nat} {a b c:Nat->Nat}
theorem zir {N i:Nat} (q:Nat):∀ j,j<M+1->i+j<N+1->cg P (evX M m N (mIn P a b i c j) q) (evX M m N c q+a i*sig j fun k=>b k*pwX M m (i+k) q):=by
 intro j
 induction j with
 | zero=>intro _ _; exact zbx (by show evX M m N c q=evX M m N c q+a i*0; omega)
 | succ j ih =>
  intro hj hjN
  have h1:evX M m N (mIn P a b i c (j+1)) q=evX M m N (mIn P a b i c j) q+((((mIn P a b i c j (i+j)+a i*b j) % P:Nat):Int) - mIn P a b i c j (i+j))*pwX M m (i+j) q:=zeo (by omega)
  rw [h1]
  refine ((ih (by omega) (by omega)).add ((((zdo _).add (zah _))).mul (zah _))).trans (zbx ?_)
  show _=_+(a i:Int)*(sig j (fun k=>b k*pwX M m (i+k) q)+b j*pwX M m (i+j) q)
  simp only [Int.natCast_add,Int.natCast_mul]
  grind
theorem zh0 (hM:1<=M) (q:Nat):∀ i,i<M+1->cg P (evX M m (2*M - 1) (mOut P a b M i) q) (sig i fun i=>a i*sig M fun k=>b k*pwX M m (i+k) q):=by
 intro i
 induction i with
 | zero =>
  intro _
  refine zbx ?_
  show sig _ (fun t=>(((0:Nat):Int))*_)=0
  rw [zae (g:=fun _=>0) fun t _=>by simp,za6]
 | succ i ih =>
  intro hi
  exact (zir q M (by omega) (by omega)).trans ((ih (by omega)).add (zah _))
theorem zis (i j t:Nat) (h:t<i - M∨i - M+j<=t):rIn P M m i c j t=c t:=by
 induction j with
 | zero=>rfl
 | succ j ih =>
  show (if t=i - M+j then _ else _)=_
  rw [if_neg (by omega)]
  exact ih (by omega)
theorem zit {i:Nat} (hM:M<=i) (hc:c i<=P) (q:Nat):∀ j,j<M+1->cg P (evX M m i (rIn P M m i c j) q) (evX M m i c q - c i*sig j fun k=>m k*pwX M m (i - M+k) q):=by
 intro j
 induction j with
 | zero=>intro _; exact zbx (by show evX M m i c q=evX M m i c q - c i*0; omega)
 | succ j ih =>
  intro hj
  have h1:evX M m i (rIn P M m i c (j+1)) q=evX M m i (rIn P M m i c j) q+((((rIn P M m i c j (i - M+j)+(P - rIn P M m i c j i)*m j) % P:Nat):Int) - rIn P M m i c j (i - M+j))*pwX M m (i - M+j) q:=zeo (by omega)
  rw [h1,zis i j i (by omega)]
  refine ((ih (by omega)).add ((((zdo _).add (zah _))).mul (zah _))).trans ?_
  show cg P _ (_ - (c i:Int)*(sig j (fun k=>m k*pwX M m (i - M+k) q)+m j*pwX M m (i - M+j) q))
  refine ⟨m j*pwX M m (i - M+j) q,?_⟩
  simp only [Int.natCast_add,Int.natCast_mul,Int.natCast_sub hc]
  grind
theorem zh1 (hP:0<P) (hM:1<=M) (hc:∀ t,c t<P) (q:Nat):∀ s,s+1<=M->cg P (evX M m (2*M - 1 - s) (rOut P M m c s) q) (evX M m (2*M - 1) c q):=by
 intro s
 induction s with
 | zero=>intro _; exact zah _
 | succ s ih =>
  intro hs
  have hl:=zdm (M:=M) (m:=m) hP hc s (2*M - 2 - s)
  refine Go.Proofs.YtgekjfpapmlndaaGreat.cg.trans ?_ (ih (by omega))
  have e1:2*M - 1 - s=(2*M - 2 - s)+1:=by omega
  have e2:2*M - 1 - (s+1)=2*M - 2 - s:=by omega
  rw [e1,e2]
  have h:=zit (P:=P) (m:=m) (i:=2*M - 2 - s) (c:=rOut P M m c s) (show M<=2*M - 2 - s by omega) (by omega) q M (by omega)
  refine h.trans (zbx ?_)
  show _=evX M m (2*M - 2 - s) (rOut P M m c s) q+(rOut P M m c s (2*M - 2 - s):Int)*pwX M m (2*M - 2 - s) q
  rw [zg1 hM (show M<=2*M - 2 - s by omega),Int.mul_neg]
  omega
theorem zcV (hP:0<P) (hM:1<=M) (x y:Nat) {j:Nat} (hj:j<M):cg P (dgt P (mulF P M m x y) j) (mulI M m (dgt P x) (dgt P y) j):=by
 have hl:=zel (a:=dig P x) (b:=dig P y) (M:=M) hP M
 unfold dgt mulF
 rw [zaX (fun i _=>zdm hP hl (M - 1) i) j hj]
 have h1:evX M m M (rOut P M m (mOut P (dig P x) (dig P y) M M) (M - 1)) j=(rOut P M m (mOut P (dig P x) (dig P y) M M) (M - 1) j:Nat):=by
  unfold evX
  rw [zby hj fun t ht hne=>by rw [zbk ht,if_neg (by omega)]; omega,zbk hj,if_pos rfl]
  omega
 rw [<-h1]
 have h2:=zh1 (m:=m) hP hM hl j (M - 1) (by omega)
 rw [show 2*M - 1 - (M - 1)=M by omega] at h2
 exact h2.trans (zh0 hM j M (by omega))
theorem zaO (hP:0<P) (x y:Nat):mulF P M m x y<P ^ M:=za3 fun _ _=>zdm hP (zel hP M) _ _
end
def dIn (P d:Nat) (low:Nat->Nat) (i c:Nat) (r:Nat->Nat):Nat->Nat->Nat
 | 0=>r
 | j+1=>fun t=>if t=i - d+j then (dIn P d low i c r j (i - d+j)+(P - c)*low j) % P else dIn P d low i c r j t
def dOut (P d:Nat) (low:Nat->Nat) (M:Nat) (r:Nat->Nat):Nat->Nat->Nat
 | 0=>r
 | s+1=>fun t=>if t=M - s then 0 else dIn P d low (M - s) (dOut P d low M r s (M - s)) (dOut P d low M r s) d t
def modR (M:Nat) (m:Nat->Nat) (t:Nat):Nat:=if t<M then m t else 1
def DivB (P M:Nat) (m:Nat->Nat) (d:Nat) (low:Nat->Nat):Prop:=∀ t,t<M+1->dOut P d low M (modR M m) (M+1 - d) t=0
def IrrB (P M:Nat) (m:Nat->Nat):Prop:=∀ d,1<=d->2*d<=M->∀ v,v<P ^ d->¬ DivB P M m d (dig P v)
theorem zh2 {P d:Nat} (hP:0<P) {low r:Nat->Nat} {i c:Nat} (hr:∀ t,r t<P):∀ j t,dIn P d low i c r j t<P:=by
 intro j
 induction j with
 | zero=>exact hr
 | succ j ih =>
  intro t
  show (if t=i - d+j then _ else _)<P
  split
  ·exact Nat.mod_lt _ hP
  ·exact ih t
theorem zep {P d M:Nat} (hP:0<P) {low r:Nat->Nat} (hr:∀ t,r t<P):∀ s t,dOut P d low M r s t<P:=by
 intro s
 induction s with
 | zero=>exact hr
 | succ s ih =>
  intro t
  show (if t=M - s then 0 else _)<P
  split
  ·exact hP
  ·exact zh2 hP ih d t
theorem zh3 {P d:Nat} {low r:Nat->Nat} {i c:Nat} (j t:Nat) (h:t<i - d∨i - d+j<=t):dIn P d low i c r j t=r t:=by
 induction j with
 | zero=>rfl
 | succ j ih =>
  show (if t=i - d+j then _ else _)=_
  rw [if_neg (by omega)]
  exact ih (by omega)
theorem zeq {P d M:Nat} {low r:Nat->Nat} (hd:d<=M):∀ s,s<=M+1 - d->∀ t,M<t+s->t<=M->dOut P d low M r s t=0:=by
 intro s
 induction s with
 | zero=>intro _ t h1 h2; omega
 | succ s ih =>
  intro hs t h1 h2
  show (if t=M - s then 0 else _)=0
  by_cases e:t=M - s
  ·rw [if_pos e]
  ·rw [if_neg e,zh3 d t (by omega)]
   exact ih (by omega) t (by omega) h2
def hD (P d:Nat) (low:Nat->Nat) (M:Nat) (r:Nat->Nat):Nat->Nat->Int
 | 0=>fun _=>0
 | s+1=>fun t=>if t=M - s - d then (dOut P d low M r s (M - s):Nat) else hD P d low M r s t
def lead (d:Nat) (low:Nat->Nat) (k:Nat):Int:=if k<d then (low k:Nat) else if k=d then 1 else 0
section
variable {P M d:Nat} {m low:Nat->Nat}
theorem ziu (hd:d<=M):∀ s,s<=M+1 - d->∀ t,t+s<=M - d->hD P d low M (modR M m) s t=0:=by
 intro s
 induction s with
 | zero=>exact fun _ _ _=>rfl
 | succ s ih =>
  intro hs t ht
  show (if t=M - s - d then _ else _)=(0:Int)
  rw [if_neg (by omega)]
  exact ih (by omega) t (by omega)
theorem zg2 (hd:d<=M):∀ s,s<=M+1 - d->∀ t,M - d<t->hD P d low M (modR M m) s t=0:=by
 intro s
 induction s with
 | zero=>exact fun _ _ _=>rfl
 | succ s ih =>
  intro hs t ht
  show (if t=M - s - d then _ else _)=(0:Int)
  rw [if_neg (by omega)]
  exact ih (by omega) t ht
theorem zh4 (hd:d<=M):∀ s,s+1<=M+1 - d->hD P d low M (modR M m) (s+1) (M - d)=1:=by
 intro s
 induction s with
 | zero =>
  intro _
  show (if M - d=M - 0 - d then ((modR M m (M - 0):Nat):Int) else _)=1
  rw [if_pos (by omega)]
  unfold modR
  rw [if_neg (by omega)]; rfl
 | succ s ih =>
  intro hs
  show (if M - d=M - (s+1) - d then _ else _)=(1:Int)
  rw [if_neg (by omega)]
  exact ih (by omega)
theorem ziv {i c:Nat} {r:Nat->Nat} (hid:d<=i) (hiM:i<=M) (hc:c<=P) (q:Nat):∀ j,j<d+1->cg P (evX M m (M+1) (dIn P d low i c r j) q) (evX M m (M+1) r q - c*sig j fun k=>low k*pwX M m (i - d+k) q):=by
 intro j
 induction j with
 | zero=>intro _; exact zbx (by show evX M m (M+1) r q=evX M m (M+1) r q - c*0; omega)
 | succ j ih =>
  intro hj
  have h1:evX M m (M+1) (dIn P d low i c r (j+1)) q=evX M m (M+1) (dIn P d low i c r j) q+((((dIn P d low i c r j (i - d+j)+(P - c)*low j) % P:Nat):Int) - dIn P d low i c r j (i - d+j))*pwX M m (i - d+j) q:=zeo (by omega)
  rw [h1]
  refine ((ih (by omega)).add ((((zdo _).add (zah _))).mul (zah _))).trans ?_
  show cg P _ (_ - (c:Int)*(sig j (fun k=>low k*pwX M m (i - d+k) q)+low j*pwX M m (i - d+j) q))
  refine ⟨low j*pwX M m (i - d+j) q,?_⟩
  simp only [Int.natCast_add,Int.natCast_mul,Int.natCast_sub hc]
  grind
theorem zhg (t q:Nat):sig (d+1) (fun k=>lead d low k*pwX M m (t+k) q)=sig d (fun k=>low k*pwX M m (t+k) q)+pwX M m (t+d) q:=by
 show sig d _+_=_
 have h1:sig d (fun k=>lead d low k*pwX M m (t+k) q)=sig d (fun k=>low k*pwX M m (t+k) q):=zae fun k hk=>by unfold lead; rw [if_pos hk]
 have h2:lead d low d=1:=by unfold lead; rw [if_neg (by omega),if_pos rfl]
 rw [h1]
 show _+lead d low d*pwX M m (t+d) q=_
 rw [h2]; omega
theorem zh5 (hP:0<P) (hP1:1<P) (hm:∀ t,t<M->m t<P) (hM:1<=M) (hd:d<=M) (q:Nat):∀ s,s<=M+1 - d->cg P (evX M m (M+1) (dOut P d low M (modR M m) s) q) (- sig (M+1) fun t=>hD P d low M (modR M m) s t*sig (d+1) fun k=>lead d low k*pwX M m (t+k) q):=by
 intro s
 have hr:∀ t,modR M m t<P:=fun t=>by unfold modR; split; exact hm t (by assumption); exact hP1
 induction s with
 | zero =>
  intro _
  refine zbx ?_
  show sig M (fun t=>((modR M m t:Nat):Int)*pwX M m t q)+((modR M m M:Nat):Int)*pwX M m M q = - sig (M+1) (fun t=>0*_)
  rw [zae (n:=M+1) (g:=fun _=>0) fun t _=>by rw [Int.zero_mul],za6]
  rw [zae (n:=M) (g:=fun t=>(m t:Int)*pwX M m t q) fun t ht=>by unfold modR; rw [if_pos ht]]
  unfold modR
  rw [if_neg (by omega),zg1 hM (Nat.le_refl M),Nat.sub_self]
  simp only [Nat.zero_add]
  omega
 | succ s ih =>
  intro hs
  obtain ⟨c,a⟩:∃ c,c=dOut P d low M (modR M m) s (M - s):=⟨_,rfl⟩
  have hc:c<P:=by rw [a]; exact zep hP hr s _
  have h0:=ziu (P:=P) (m:=m) (low:=low) hd s (by omega) (M - s - d) (by omega)
  have h1:evX M m (M+1) (dOut P d low M (modR M m) (s+1)) q=evX M m (M+1) (dIn P d low (M - s) c (dOut P d low M (modR M m) s) d) q+(((0:Nat):Int) - dIn P d low (M - s) c (dOut P d low M (modR M m) s) d (M - s))*pwX M m (M - s) q:=by
   rw [a]; exact zeo (by omega)
  have h2:=ziv (P:=P) (M:=M) (m:=m) (low:=low) (i:=M - s) (c:=c) (r:=dOut P d low M (modR M m) s) (show d<=M - s by omega) (by omega) (by omega) q d (by omega)
  rw [h1,zh3 d (M - s) (by omega),<-a]
  refine (h2.add (zah _)).trans ?_
  refine (((ih (by omega)).add (zah _)).add (zah _)).trans (zbx ?_)
  have h3:sig (M+1) (fun t=>hD P d low M (modR M m) (s+1) t*sig (d+1) fun k=>lead d low k*pwX M m (t+k) q)=sig (M+1) (fun t=>hD P d low M (modR M m) s t*sig (d+1) fun k=>lead d low k*pwX M m (t+k) q)+sig (M+1) (fun t=>if t=M - s - d then (c:Int)*sig (d+1) (fun k=>lead d low k*pwX M m (t+k) q) else 0):=by
   rw [<-zdn]
   refine zae fun t _=>?_
   show (if t=M - s - d then ((dOut P d low M (modR M m) s (M - s):Nat):Int) else hD P d low M (modR M m) s t)*_=_
   rw [<-a]
   by_cases e:t=M - s - d
   ·rw [if_pos e,if_pos e,e,h0]; omega
   ·rw [if_neg e,if_neg e]; omega
  have h4:sig (M+1) (fun t=>if t=M - s - d then (c:Int)*sig (d+1) (fun k=>lead d low k*pwX M m (t+k) q) else 0)=(c:Int)*sig (d+1) (fun k=>lead d low k*pwX M m (M - s - d+k) q):=by
   rw [zby (k:=M - s - d) (by omega) fun t _ hne=>by rw [if_neg hne],if_pos rfl]
  rw [h3,h4,zhg,show M - s - d+d=M - s by omega]
  grind
theorem zg3 (hP1:1<P) (hm:∀ t,t<M->m t<P) (hd1:1<=d) (hd:d<M) {q:Nat} (hq:q<M):cg P (mulI M m (hD P d low M (modR M m) (M+1 - d)) (lead d low) q) (- (dOut P d low M (modR M m) (M+1 - d) q:Nat)):=by
 have h:=zh5 (low:=low) (by omega) hP1 hm (by omega) (show d<=M by omega) q (M+1 - d) (Nat.le_refl _)
 have hz:=zeq (P:=P) (low:=low) (r:=modR M m) (show d<=M by omega) (M+1 - d) (Nat.le_refl _)
 have h1:evX M m (M+1) (dOut P d low M (modR M m) (M+1 - d)) q=(dOut P d low M (modR M m) (M+1 - d) q:Nat):=by
  unfold evX
  rw [zby (k:=q) (by omega) fun t ht hne=>by
   by_cases e:t<M
   ·rw [zbk e,if_neg (by omega)]; omega
   ·rw [hz t (by omega) (by omega)]; omega]
  rw [zbk hq,if_pos rfl]; omega
 rw [h1] at h
 have h2:mulI M m (hD P d low M (modR M m) (M+1 - d)) (lead d low) q=sig (M+1) fun t=>hD P d low M (modR M m) (M+1 - d) t*sig (d+1) fun k=>lead d low k*pwX M m (t+k) q:=by
  unfold mulI
  rw [zgY (n:=M+1) (k:=M) (by omega) fun t h1 h2=>by rw [zg2 (by omega) _ (Nat.le_refl _) t (by omega)]; omega]
  refine zae fun t _=>?_
  congr 1
  exact zgY (by omega) fun k h1 h2=>by unfold lead; rw [if_neg (by omega),if_neg (by omega)]; omega
 rw [h2]
 have:=h.neg
 exact (zbx (by omega)).trans this.symm
end
theorem zgf {P:Nat} (hP:PrimeB P):∀ c,0<c->c<P->∃ u:Int,cg P (u*c) 1:=by
 intro c
 induction c using Nat.strongRecOn with
 | ind c ih =>
  intro h0 hc
  by_cases h1:c=1
  ·exact ⟨1,zbx (by rw [h1]; rfl)⟩
  ·have hr:P % c≠0:=hP c (by omega) hc
   have hl:P % c<c:=Nat.mod_lt _ h0
   obtain ⟨u,k,hu⟩:=ih (P % c) hl (by omega) (by omega)
   have a:((P % c:Nat):Int)=P - c*(P / c:Nat):=by
    have:=Nat.mod_add_div P c
    have h2:((P % c+c*(P / c):Nat):Int)=P:=by rw [this]
    rw [Int.natCast_add,Int.natCast_mul] at h2
    omega
   rw [a] at hu
   refine ⟨-u*(P / c:Nat),k - u,?_⟩
   grind
section
variable {P M:Nat} {m:Nat->Nat}
theorem zh6 (hP1:1<P) (hp:PrimeB P) (hM:1<=M) (hm:M=1∨∀ t,t<M->m t<P) (hi:IrrB P M m):∀ d,d<M->∀ A:Nat->Int,(∀ k,d<k->k<M->cg P (A k) 0)->¬ cg P (A d) 0->∃ B:Nat->Int,∀ j,j<M->cg P (mulI M m A B j) (one0 j):=by
 have o:∀ x:Int,¬ cg P x 0->∃ u:Int,cg P (u*x) 1:=fun x hx=>by
  have h0:0<=x % P:=Int.emod_nonneg _ (by omega)
  have h1:x % P<P:=Int.emod_lt_of_pos _ (by omega)
  obtain ⟨c,hc⟩:=Int.eq_ofNat_of_zero_le h0
  have L:c≠0:=fun e=>hx (((zeM x).symm).trans (zbx (by rw [hc,e]; rfl)))
  obtain ⟨u,hu⟩:=zgf hp c (by omega) (by omega)
  refine ⟨u,(Go.Proofs.YtgekjfpapmlndaaGreat.cg.mulL u ?_).trans hu⟩
  rw [<-hc]
  exact (zeM x).symm
 have p:¬ cg P 1 0:=fun h=>by
  have:=zfg (P:=P) (a:=1) (b:=0) h (by omega) (by omega)
  omega
 intro d
 induction d using Nat.strongRecOn with
 | ind d ih =>
  intro hd A hA hAd
  obtain ⟨u,hu⟩:=o _ hAd
  by_cases hd0:d=0
  ·subst hd0
   refine ⟨fun k=>u*one0 k,fun j hj=>?_⟩
   rw [zaQ,zcT]
   have h1:cg P (mulI M m one0 A j) (A j):=zbx (zcU A hj)
   refine (Go.Proofs.YtgekjfpapmlndaaGreat.cg.mulL u h1).trans ?_
   unfold one0
   by_cases e:j=0
   ·subst e; rw [if_pos rfl]; exact hu
   ·rw [if_neg e]
    exact (Go.Proofs.YtgekjfpapmlndaaGreat.cg.mulL u (hA j (by omega) hj)).trans (zbx (by omega))
  ·have C:∀ t,t<M->m t<P:=hm.resolve_left (by omega)
   obtain ⟨low,w⟩:∃ low:Nat->Nat,low=fun k=>((u*A k) % P).toNat:=⟨_,rfl⟩
   have E:∀ k,(low k:Int)=(u*A k) % P:=fun k=>by
    rw [w]
    have:=Int.emod_nonneg (u*A k) (show (P:Int)≠0 by omega)
    simp only; omega
   have D:∀ k,low k<P:=fun k=>by
    have:=Int.emod_lt_of_pos (u*A k) (show (0:Int)<P by omega)
    have:=E k; omega
   obtain ⟨low',f⟩:∃ l,l=dig P (valN P low d):=⟨_,rfl⟩
   have J:∀ k,k<d->low' k=low k:=fun k hk=>by rw [f]; exact zaX (fun i _=>D i) k hk
   have v:∀ k,k<M->cg P (lead d low' k) (u*A k):=fun k hk=>by
    unfold lead
    by_cases e:k<d
    ·rw [if_pos e,J k e,E]; exact zeM _
    ·rw [if_neg e]
     by_cases e2:k=d
     ·rw [if_pos e2,e2]; exact hu.symm
     ·rw [if_neg e2]
      exact ((Go.Proofs.YtgekjfpapmlndaaGreat.cg.mulL u (hA k (by omega) hk)).trans (zbx (by omega))).symm
   obtain ⟨h,hh⟩:∃ h,h=hD P d low' M (modR M m) (M+1 - d):=⟨_,rfl⟩
   obtain ⟨r,hr⟩:∃ r,r=dOut P d low' M (modR M m) (M+1 - d):=⟨_,rfl⟩
   have s:∀ q,q<M->cg P (mulI M m h (lead d low') q) (- (r q:Nat)):=fun q hq=>by
    rw [hh,hr]; exact zg3 hP1 C (by omega) hd hq
   have H:∀ t,r t<P:=fun t=>by
    rw [hr]
    exact zep (by omega) (fun t=>by unfold modR; split; exact C t (by assumption); exact hP1) _ t
   have y:∀ t,d<=t->t<=M->r t=0:=fun t h1 h2=>by rw [hr]; exact zeq (by omega) _ (Nat.le_refl _) t (by omega) h2
   have F:∀ X:Nat->Int,(∀ j,j<M->cg P (mulI M m (lead d low') X j) (one0 j))->∃ B:Nat->Int,∀ j,j<M->cg P (mulI M m A B j) (one0 j):=fun X hX=>by
    refine ⟨fun k=>u*X k,fun j hj=>?_⟩
    refine Go.Proofs.YtgekjfpapmlndaaGreat.cg.trans ?_ (hX j hj)
    rw [zaQ A,zcT,zaQ X,<-zcT]
    exact zbp (fun i hi=>(v i hi).symm) (fun i _=>zah _) j
   by_cases hz:∀ t,t<d->r t=0
   ·have z:∀ t,t<M+1->r t=0:=fun t ht=>by
     by_cases e:t<d
     ·exact hz t e
     ·exact y t (by omega) (by omega)
    by_cases h2d:2*d<=M
    ·exact absurd (show DivB P M m d (dig P (valN P low d)) by rw [<-f]; unfold DivB; rw [<-hr]; exact z) (hi d (by omega) h2d _ (za3 fun i _=>D i))
    ·obtain ⟨B,hB⟩:=ih (M - d) (by omega) (by omega) h (fun k h1 h2=>by rw [hh,zg2 (by omega) _ (Nat.le_refl _) k h1]; exact zah _) (by rw [hh,show M+1 - d=(M - d)+1 by omega,zh4 (by omega) (M - d) (by omega)]; exact p)
     exfalso
     apply p
     have e1:lead d low' d=1:=by unfold lead; rw [if_neg (by omega),if_pos rfl]
     rw [<-e1]
     have h1:cg P (mulI M m one0 (lead d low') d) (mulI M m (mulI M m h B) (lead d low') d):=zbp (fun i hi=>(hB i hi).symm) (fun i _=>zah _) d
     have h2:mulI M m (mulI M m h B) (lead d low')=mulI M m (mulI M m h (lead d low')) B:=by rw [zaQ h B,zbF hM,zaQ B]
     have h3:cg P (mulI M m (mulI M m h (lead d low')) B d) (mulI M m (fun _=>0) B d):=zbp (fun i hi'=>(s i hi').trans (zbx (by rw [z i (by omega)]; rfl))) (fun i _=>zah _) d
     have h4:mulI M m (fun _=>0) B d=0:=by
      unfold mulI
      rw [zae (g:=fun _=>0) fun i _=>by rw [Int.zero_mul],za6]
     rw [zcU _ hd,h2] at h1
     exact h1.trans (h3.trans (zbx h4))
   ·-- the greatest index with a remainder that is not 0
    have K:∃ t,t<d/\r t≠0/\∀ k,t<k->k<d->r k=0:=by
     have : ∀ n, n ≤ d → (∀ t, n ≤ t → t < d → r t = 0) ∨ ∃ t, n ≤ t ∧ t < d ∧ r t ≠ 0 ∧ ∀ k, t < k → k < d → r k = 0 := by
      intro n
      induction hk:d - n generalizing n with
      | zero=>intro hn; exact .inl fun t h1 h2=>by omega
      | succ k ihk =>
       intro hn
       rcases ihk (n+1) (by omega) (by omega) with h | ⟨t,h1,h2,h3,h4⟩
       ·by_cases e:r n=0
        ·exact .inl fun t h1 h2=>by
          by_cases e2:t=n
          ·rw [e2]; exact e
          ·exact h t (by omega) h2
        ·exact .inr ⟨n,Nat.le_refl _,by omega,e,fun k h1 h2=>h k (by omega) h2⟩
       ·exact .inr ⟨t,by omega,h2,h3,h4⟩
     rcases this 0 (by omega) with h | ⟨t,_,h2,h3,h4⟩
     ·exact absurd (fun t ht=>h t (by omega) ht) hz
     ·exact ⟨t,h2,h3,h4⟩
    obtain ⟨t,ht,G,I⟩:=K
    obtain ⟨B,hB⟩:=ih t ht (by omega) (fun k => - (r k:Int)) (fun k h1 h2=>by
     have:r k=0:=by
      by_cases e:k<d
      ·exact I k h1 e
      ·exact y k (by omega) (by omega)
     exact zbx (by rw [this]; rfl)) (fun h=>by
     have h':=h.neg
     rw [Int.neg_neg] at h'
     exact G (zfg (P:=P) (a:=r t) (b:=0) (h'.trans (zbx rfl)) (H t) (by omega)))
    refine F (mulI M m h B) fun j hj=>?_
    have e1:mulI M m (lead d low') (mulI M m h B)=mulI M m (mulI M m h (lead d low')) B:=by rw [<-zbF hM,zaQ (lead d low') h]
    rw [e1]
    exact (zbp (fun i hi'=>s i hi') (fun i _=>zah _) j).trans (hB j hj)
end
structure FieldLaws (q:Nat) (add mul:Nat->Nat->Nat):Prop where
 two:2<=q
 addLt:∀ x y,add x y<q
 mulLt:∀ x y,mul x y<q
 addComm:∀ x y,add x y=add y x
 addAssoc:∀ x y z,x<q->y<q->z<q->add (add x y) z=add x (add y z)
 zeroAdd:∀ x,x<q->add 0 x=x
 neg:∀ x,x<q->∃ y,y<q/\add x y=0
 mulComm:∀ x y,x<q->y<q->mul x y=mul y x
 mulAssoc:∀ x y z,x<q->y<q->z<q->mul (mul x y) z=mul x (mul y z)
 oneMul:∀ x,x<q->mul 1 x=x
 distrib:∀ x y z,x<q->y<q->z<q->mul x (add y z)=add (mul x y) (mul x z)
 inv:∀ x,x<q->x≠0->∃ y,y<q/\mul x y=1
def FieldOk (P M:Nat) (m:Nat->Nat):Prop:=FldOk P M/\PrimeB P/\(M=1∨∀ t,t<M->m t<P)/\IrrB P M m
theorem fieldLaws {P M:Nat} {m:Nat->Nat} (h:FieldOk P M m):FieldLaws (P ^ M) (addF P M) (mulF P M m):=by
 obtain ⟨⟨o,hM,_,_⟩,hp,hm,hi⟩:=h
 have a:0<P:=by omega
 have hq:P<=P ^ M:=by
  have:=Nat.pow_le_pow_right a hM
  simpa using this
 have one:∀ j,dgt P 1 j=one0 j:=fun j=>by
  unfold dgt one0
  cases j with
  | zero=>rw [zcb,Nat.mod_eq_of_lt (by omega)]; rfl
  | succ j=>rw [zcR,Nat.div_eq_of_lt (by omega),zbA]; rfl
 have aD:=fun (x y j:Nat) (hj:j<M)=>zhf (P:=P) a x y hj
 have mD:=fun (x y j:Nat) (hj:j<M)=>zcV (P:=P) (m:=m) a hM x y hj
 have val:∀ B:Nat->Int,∃ y,y<P ^ M/\∀ j,j<M->cg P (dgt P y j) (B j):=fun B=>by
  have hl:∀ j,(((B j) % P).toNat:Int)=B j % P:=fun j=>by
   have:=Int.emod_nonneg (B j) (show (P:Int)≠0 by omega)
   omega
  have c:∀ j,((B j) % P).toNat<P:=fun j=>by
   have:=Int.emod_lt_of_pos (B j) (show (0:Int)<P by omega)
   have:=hl j; omega
  refine ⟨valN P (fun j=>((B j) % P).toNat) M,za3 fun i _=>c i,fun j hj=>?_⟩
  unfold dgt
  rw [zaX (fun i _=>c i) j hj,hl]
  exact zeM _
 refine ⟨by omega,fun x y=>zcL a x y,fun x y=>zaO a x y,zgb P M,fun x y z hx hy hz=>?_,fun x hx=>zga a hx,fun x hx=>?_,fun x y hx hy=>?_,fun x y z hx hy hz=>?_,fun x hx=>?_,fun x y z hx hy hz=>?_,fun x hx h0=>?_⟩
 ·refine zbl a (zcL a _ _) (zcL a _ _) fun j hj=>?_
  refine (aD _ _ j hj).trans (((aD _ _ j hj).add (zah _)).trans ?_)
  exact (zbx (by omega)).trans ((aD _ _ j hj).trans ((zah _).add (aD _ _ j hj))).symm
 ·obtain ⟨y,hy,hB⟩:=val fun j => - dgt P x j
  refine ⟨y,hy,zbl a (zcL a _ _) (Nat.pow_pos a) fun j hj=>?_⟩
  refine (aD _ _ j hj).trans (((zah _).add (hB j hj)).trans (zbx ?_))
  unfold dgt; rw [zbA]; omega
 ·refine zbl a (zaO a _ _) (zaO a _ _) fun j hj=>?_
  exact (mD _ _ j hj).trans ((zbx (by rw [zaQ])).trans (mD _ _ j hj).symm)
 ·refine zbl a (zaO a _ _) (zaO a _ _) fun j hj=>?_
  refine (mD _ _ j hj).trans ((zbp (fun i hi=>mD _ _ i hi) (fun i _=>zah _) j).trans ?_)
  rw [zbF hM]
  exact ((mD _ _ j hj).trans (zbp (fun i _=>zah _) (fun i hi=>mD _ _ i hi) j)).symm
 ·refine zbl a (zaO a _ _) hx fun j hj=>?_
  refine (mD _ _ j hj).trans (zbx ?_)
  rw [show dgt P 1=one0 from funext one,zcU _ hj]
 ·refine zbl a (zaO a _ _) (zcL a _ _) fun j hj=>?_
  refine (mD _ _ j hj).trans ((zbp (fun i _=>zah _) (fun i hi=>aD _ _ i hi) j).trans ?_)
  rw [zge]
  exact ((aD _ _ j hj).trans ((mD _ _ j hj).add (mD _ _ j hj))).symm
 -- the leading digit
 have l:∃ d,d<M/\dig P x d≠0/\∀ k,d<k->k<M->dig P x k=0:=by
  have : ∀ n, n ≤ M → (∀ t, n ≤ t → t < M → dig P x t = 0) ∨ ∃ t, n ≤ t ∧ t < M ∧ dig P x t ≠ 0 ∧ ∀ k, t < k → k < M → dig P x k = 0 := by
   intro n
   induction hk:M - n generalizing n with
   | zero=>intro hn; exact .inl fun t h1 h2=>by omega
   | succ k ihk =>
    intro hn
    rcases ihk (n+1) (by omega) (by omega) with h | ⟨t,h1,h2,h3,h4⟩
    ·by_cases e:dig P x n=0
     ·exact .inl fun t h1 h2=>by
       by_cases e2:t=n
       ·rw [e2]; exact e
       ·exact h t (by omega) h2
     ·exact .inr ⟨n,Nat.le_refl _,by omega,e,fun k h1 h2=>h k (by omega) h2⟩
    ·exact .inr ⟨t,by omega,h2,h3,h4⟩
  rcases this 0 (by omega) with h | ⟨t,_,h2,h3,h4⟩
  ·exact absurd (zdp a hx (Nat.pow_pos a) fun j hj=>by rw [h j (by omega) hj,zbA]) h0
  ·exact ⟨t,h2,h3,h4⟩
 obtain ⟨d,hd,g,hk⟩:=l
 obtain ⟨B,hB⟩:=zh6 (by omega) hp hM hm hi d hd (dgt P x) (fun k h1 h2=>zbx (by unfold dgt; rw [hk k h1 h2]; rfl)) (fun h=>g (zfg (P:=P) (b:=0) h (zbD a _ _) a))
 obtain ⟨y,hy,f⟩:=val B
 refine ⟨y,hy,zbl a (zaO a _ _) (by omega) fun j hj=>?_⟩
 refine (mD _ _ j hj).trans ((zbp (fun i _=>zah _) (fun i hi'=>f i hi') j).trans ((hB j hj).trans (zbx (one j).symm)))
theorem exx {α:Sort _} (a:α):∃ x,x=a:=⟨a,rfl⟩
theorem dwx (w:World):∃ W,W=World.drew w/\Below w.heap.size w W:=⟨_,rfl,(Below.refl _ _).drew⟩
theorem aly (w:World) (o:Obj):Below w.heap.size w (w.alloc o):=(Below.refl _ _).alloc (Nat.le_refl _) _
theorem alx {a b:World} {o:Obj} (h:b=a.alloc o):Below a.heap.size a b:=by rw [h]; exact aly a o
theorem zaj (w:World) (a b c:Value) (T:TypeId):∃ W,W=w.alloc (.cells #[a,b,c] T)/\Below w.heap.size w W/\W.rowIs w.heap.size T 3 (fldCell a b c):=⟨_,rfl,(Below.refl _ _).alloc (Nat.le_refl _) _,zaq⟩
end Go.Proofs.YtgekjfpapmlndaaGreat
