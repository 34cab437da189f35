/- Merged texts of a claim: Base, Tk, IntsAll, FldP, Own, Copy, NatLow, NatLo2, FldQ, TabRow, TabAll, ElAll, Elim, Same09, Chk12, Null, CodeE, Gf1, Gf2, Gf3, Gf4, Gf5, GfObj, GfMul, GfDot, GfChk, GfNew, DTab, MAdd, MCl, MEach, MElim, MCan, MChk, MOpen, MCano, MKer, Spc, SpOpen, Dual12, PCode, PDual, ExpN, NatA, NatB, Volume, VolumeK, Gilbert, GreedyPl, GrDig, GrJoin, CNew, GTab, Greedy, GrRef, GrErr, Chosen, Dist24, HeavyLaw, SeesFld, HeavyTop, VarPl, VarLaw. -/
import Derived.Test.YtioagplajkoohaaTH7
import Derived.Test.YtioagplajkoohaaRows
import Derived.WalkKit
import Derived.WalkSpells
import Derived.WalkLawsBesides
import Derived.Deep.OwnRows
import Derived.ProofKit
import Derived.Deep.RegionHeld3
import Derived.Deep.Slices
import Derived.Lib.SmallJoins
import Derived.Deep.LoopGhost
import Derived.Deep.QuietTactic
import Derived.BigQuiet
import Derived.Deep.Cut
import Derived.Deep.CutBlock
import Derived.Deep.DeepCutAuto
import Derived.IntWalk
import Derived.StillTailTactics
import Derived.SizedLaws
import Derived.Deep.AppendSrc
import Derived.Maps.AppendAt
import Derived.Laws.Bits64b
import Derived.Shelf.Small.Bits
import Derived.Laws.CopyOwn
import Derived.Lib.SliceRun
import Derived.Lib.LazyBuf
namespace Go.Proofs.Ytioagplajkoohaa
set_option maxRecDepth 100000
set_option maxHeartbeats 32000000
open Go.RowKit
theorem ret_int {k:IntKind} {a b:Int} (h:a=b):Ending.returned (.int k a)=.returned (.int k b):=by rw [h]
open Go.ChangeShapes Go.WideShapes Go.ChangeAt
def dg (x i:Nat):Nat:=x / 4294967296 ^ i % 4294967296
def dl (x:Nat):Nat:=if h:x=0 then 0 else dl (x / 4294967296)+1
termination_by x
decreasing_by exact Nat.div_lt_self (by omega) (by omega)
theorem Bpow_pos (n:Nat):0<4294967296 ^ n:=Nat.pow_pos (by omega)
theorem nv_congr {f g:Nat->Nat} {n:Nat} (h:∀ i,i<n->f i=g i):nv f n=nv g n:=by
 induction n with
 | zero=>rfl
 | succ n ih=>simp only [nv]; rw [ih fun i hi=>h i (by omega),h n (by omega)]
theorem nv_lt {f:Nat->Nat} {n:Nat} (h:∀ i,i<n->f i<4294967296):nv f n<4294967296 ^ n:=by
 induction n with
 | zero=>simp [nv]
 | succ n ih =>
  have h1:=ih fun i hi=>h i (by omega)
  have h2:=h n (by omega)
  have h3:(f n+1)*4294967296 ^ n<=4294967296*4294967296 ^ n:=Nat.mul_le_mul_right _ h2
  simp only [nv,Nat.pow_succ]
  grind
theorem nv_zeros {f:Nat->Nat} {n m:Nat} (hnm:n<=m) (h:∀ i,n<=i->i<m->f i=0):nv f m=nv f n:=by
  induction m with
  | zero => have : n = 0 := by omega
            rw [this]
  | succ m ih =>
    by_cases e:n=m+1
    · rw [e]
    · simp only [nv]
      rw [ih (by omega) fun i h1 h2=>h i h1 (by omega),h m (by omega) (by omega)]
      omega
theorem nv_zero {f:Nat->Nat} {n:Nat} (h:∀ i,i<n->f i=0):nv f n=0:=nv_zeros (Nat.zero_le n) fun i _ hi=>h i hi
theorem nv_low (f:Nat->Nat) (n:Nat):nv f (n+1)=f 0+4294967296*nv (fun i=>f (i+1)) n:=by
 induction n with
 | zero=>simp [nv]
 | succ n ih =>
  have h1:nv f (n+1+1)=nv f (n+1)+f (n+1)*4294967296 ^ (n+1):=rfl
  have h2:nv (fun i=>f (i+1)) (n+1)=nv (fun i=>f (i+1)) n+f (n+1)*4294967296 ^ n:=rfl
  rw [h1,h2,ih,Nat.pow_succ]
  grind
theorem nv_ge {f:Nat->Nat} {n k:Nat} (hk:k<n) (h:f k≠0):4294967296 ^ k<=nv f n:=by
 induction n with
 | zero=>omega
 | succ n ih =>
  simp only [nv]
  by_cases e:k=n
  ·subst e
   have:1*4294967296 ^ k<=f k*4294967296 ^ k:=Nat.mul_le_mul_right _ (by omega)
   omega
  ·have:=ih (by omega)
   omega
theorem dg_lt (x i:Nat):dg x i<4294967296:=Nat.mod_lt _ (by omega)
theorem dg_succ (x i:Nat):dg x (i+1)=dg (x / 4294967296) i:=by
 unfold dg
 rw [Nat.pow_succ,Nat.mul_comm,Nat.div_div_eq_div_mul]
theorem dg_first (x:Nat):dg x 0=x % 4294967296:=by simp [dg]
theorem dl_zero:dl 0=0:=by unfold dl; simp
theorem dl_pos {x:Nat} (h:x≠0):dl x=dl (x / 4294967296)+1:=by rw [dl]; simp [h]
theorem nv_dg (x:Nat):nv (dg x) (dl x)=x:=by
 induction x using Nat.strongRecOn with
 | _ x ih =>
  by_cases h:x=0
  ·subst h; rw [dl_zero]; rfl
  ·rw [dl_pos h,nv_low,dg_first]
   have:=ih (x / 4294967296) (Nat.div_lt_self (by omega) (by omega))
   rw [show (fun i=>dg x (i+1))=dg (x / 4294967296) from funext fun i=>dg_succ x i,this]
   exact Nat.mod_add_div x 4294967296
theorem dg_last {x:Nat} (h:x≠0):dg x (dl x - 1)≠0:=by
 induction x using Nat.strongRecOn with
 | _ x ih =>
  rw [dl_pos h,Nat.add_sub_cancel]
  by_cases h1:x / 4294967296=0
  ·rw [h1,dl_zero,dg_first]
   have:=Nat.mod_add_div x 4294967296
   rw [h1] at this
   omega
  ·have h2:=ih (x / 4294967296) (Nat.div_lt_self (by omega) (by omega)) h1
   have h3:=dl_pos h1
   rw [h3,Nat.add_sub_cancel] at h2
   rw [h3,dg_succ]
   exact h2
theorem dl_eq_zero {x:Nat}:dl x=0↔x=0:=by
 constructor
 ·intro h
  rcases Nat.eq_zero_or_pos x with h0 | h0
  ·exact h0
  ·rw [dl_pos (by omega)] at h; omega
 ·intro h; rw [h]; exact dl_zero
theorem lt_pow_dl (x:Nat):x<4294967296 ^ dl x:=by
 have:=nv_lt (f:=dg x) (n:=dl x) fun i _=>dg_lt x i
 rwa [nv_dg] at this
theorem pow_dl_le {x:Nat} (h:x≠0):4294967296 ^ (dl x - 1)<=x:=by
 have h1:dl x≠0:=fun e=>h (dl_eq_zero.1 e)
 have:=nv_ge (f:=dg x) (n:=dl x) (k:=dl x - 1) (by omega) (dg_last h)
 rwa [nv_dg] at this
theorem dl_le {x n:Nat} (h:x<4294967296 ^ n):dl x<=n:=by
 by_cases h0:x=0
 ·rw [h0,dl_zero]; omega
 ·have h1:=pow_dl_le h0
  have h2:4294967296 ^ (dl x - 1)<4294967296 ^ n:=by omega
  have:=(Nat.pow_lt_pow_iff_right (a:=4294967296) (by omega)).1 h2
  omega
theorem dg_of {f:Nat->Nat} {n:Nat} (h:∀ i,i<n->f i<4294967296):∀ i,i<n->dg (nv f n) i=f i:=by
 induction n generalizing f with
 | zero=>intro i hi; omega
 | succ n ih =>
  intro i hi
  rw [nv_low]
  have h0:=h 0 (by omega)
  cases i with
  | zero =>
   rw [dg_first,Nat.add_mul_mod_self_left,Nat.mod_eq_of_lt h0]
  | succ i =>
   rw [dg_succ,Nat.add_mul_div_left _ _ (by omega),Nat.div_eq_of_lt h0,Nat.zero_add]
   exact ih (f:=fun i=>f (i+1)) (fun i hi=>h (i+1) (by omega)) i (by omega)
theorem dl_of {f:Nat->Nat} {n m:Nat} (hnm:n<=m) (h:∀ i,i<m->f i<4294967296) (hz:∀ i,n<=i->i<m->f i=0) (hl:n=0∨f (n - 1)≠0):dl (nv f m)=n/\∀ i,i<n->dg (nv f m) i=f i:=by
 have hv:=nv_zeros hnm hz
 rw [hv]
 refine ⟨?_,dg_of fun i hi=>h i (by omega)⟩
 have h1:=dl_le (nv_lt (f:=f) (n:=n) fun i hi=>h i (by omega))
 rcases hl with h0 | h0
 ·omega
 ·rcases Nat.eq_zero_or_pos n with e | e
  ·omega
  ·have h2:=nv_ge (f:=f) (n:=n) (k:=n - 1) (by omega) h0
   have h3:=lt_pow_dl (nv f n)
   have h4:4294967296 ^ (n - 1)<4294967296 ^ dl (nv f n):=by omega
   have:=(Nat.pow_lt_pow_iff_right (a:=4294967296) (by omega)).1 h4
   omega
theorem dl_mono {x y:Nat} (h:x<=y):dl x<=dl y:=dl_le (Nat.lt_of_le_of_lt h (lt_pow_dl y))
def upd (f:Nat->Nat) (k v:Nat):Nat->Nat:=fun i=>if i=k then v else f i
theorem upd_same (f:Nat->Nat) (k v:Nat):upd f k v k=v:=by simp [upd]
theorem upd_other {f:Nat->Nat} {k v i:Nat} (h:i≠k):upd f k v i=f i:=by simp [upd,h]
theorem nv_upd_ge {f:Nat->Nat} {k v n:Nat} (h:n<=k):nv (upd f k v) n=nv f n:=nv_congr fun i hi=>upd_other (by omega)
theorem nv_upd {f:Nat->Nat} {k v n:Nat} (h:k<n):nv (upd f k v) n+f k*4294967296 ^ k=nv f n+v*4294967296 ^ k:=by
 induction n with
 | zero=>omega
 | succ n ih =>
  simp only [nv]
  by_cases e:k=n
  ·subst e
   rw [nv_upd_ge (Nat.le_refl _),upd_same]
   omega
  ·rw [upd_other (by omega)]
   have:=ih (by omega)
   omega
theorem carry_step (s P:Nat) (n:Nat):(s % 4294967296)*4294967296 ^ n*P+(s / 4294967296)*4294967296 ^ (n+1)*P=s*4294967296 ^ n*P:=by
 have h:=Nat.mod_add_div s 4294967296
 have h2:s*4294967296 ^ n*P=(s % 4294967296+4294967296*(s / 4294967296))*4294967296 ^ n*P:=by rw [h]
 rw [h2,Nat.pow_succ]
 grind
theorem carry_step1 (s:Nat) (n:Nat):(s % 4294967296)*4294967296 ^ n+(s / 4294967296)*4294967296 ^ (n+1)=s*4294967296 ^ n:=by
 have:=carry_step s 1 n
 simpa using this
theorem hv_end (f:Nat->Nat) (n:Nat):hv f n n=0:=by simp [hv,nv]
theorem hv_all (f:Nat->Nat) (n:Nat):hv f 0 n=nv f n:=by unfold hv; simp
theorem hv_step {f:Nat->Nat} {i n:Nat} (h:i<n):hv f i n=f i+4294967296*hv f (i+1) n:=by
 unfold hv
 rw [show n - i=(n - (i+1))+1 by omega,nv_low]
 simp only [Nat.add_zero]
 rw [show (fun j=>f (i+(j+1)))=fun j=>f (i+1+j) from funext fun j=>by rw [show i+(j+1)=i+1+j by omega]]
theorem hv_congr {f g:Nat->Nat} {i n:Nat} (h:∀ j,i<=j->j<n->f j=g j):hv f i n=hv g i n:=nv_congr fun j hj=>h _ (by omega) (by omega)
def chs:Nat->Nat->Nat
 | _,0=>1
 | 0,_+1=>0
 | n+1,k+1=>chs n k+chs n (k+1)
theorem chs_zero (n:Nat):chs n 0=1:=by cases n <;> rfl
theorem chs_gt {n k:Nat} (h:n<k):chs n k=0:=by
 induction n generalizing k with
 | zero=>cases k with
  | zero=>omega
  | succ k=>rfl
 | succ n ih=>cases k with
  | zero=>omega
  | succ k=>simp only [chs]; rw [ih (by omega),ih (by omega)]
theorem chs_self (n:Nat):chs n n=1:=by
 induction n with
 | zero=>rfl
 | succ n ih=>simp only [chs]; rw [ih,chs_gt (by omega)]
theorem chs_pos {n k:Nat} (h:k<=n):0<chs n k:=by
  induction n generalizing k with
  | zero => have : k = 0 := by omega
            subst this; simp [chs]
  | succ n ih => cases k with
    | zero=>simp [chs]
    | succ k=>simp only [chs]; have:=ih (k:=k) (by omega); omega
theorem chs_step (n k:Nat):(k+1)*chs n (k+1)=(n - k)*chs n k:=by
 induction n generalizing k with
 | zero=>cases k <;> simp [chs]
 | succ n ih =>
  cases k with
  | zero =>
   have h1:=ih 0
   simp only [chs_zero] at h1
   simp only [chs,chs_zero]
   omega
  | succ k =>
   have h1:=ih k
   have h2:=ih (k+1)
   simp only [chs]
   by_cases h:k<=n
   ·by_cases h':k+1<=n
    ·obtain ⟨d,hd⟩:∃ d,n=k+1+d:=⟨n - (k+1),by omega⟩
     subst hd
     rw [show k+1+d - k=d+1 by omega] at h1
     rw [show k+1+d - (k+1)=d by omega] at h2
     rw [show k+1+d+1 - (k+1)=d+1 by omega]
     grind
    ·have:k=n:=by omega
     subst this
     rw [chs_gt (show k<k+1 by omega),chs_gt (show k<k+1+1 by omega)]
     simp
   ·rw [chs_gt (show n<k by omega),chs_gt (show n<k+1 by omega),chs_gt (show n<k+1+1 by omega)]
    simp
theorem chs_symm {n k : Nat} (h : k ≤ n) : chs n k = chs n (n - k) := by
  induction n generalizing k with
  | zero => have : k = 0 := by omega
            subst this; rfl
  | succ n ih =>
    cases k with
    | zero=>rw [chs_zero,Nat.sub_zero,chs_self]
    | succ k =>
      by_cases e:k=n
      · subst e; rw [chs_self,Nat.sub_self,chs_zero]
      · rw [show n+1 - (k+1)=(n - (k+1))+1 by omega]
        simp only [chs]
        rw [ih (k:=k) (by omega),ih (k:=k+1) (by omega),show n - k=n - (k+1)+1 by omega]
        omega
theorem chs_le_pow (n k:Nat):chs n k<=2 ^ n:=by
 induction n generalizing k with
 | zero=>cases k <;> simp [chs]
 | succ n ih =>
  cases k with
  | zero=>simp only [chs]; exact Nat.pow_pos (by omega)
  | succ k =>
   simp only [chs,Nat.pow_succ]
   have:=ih k
   have:=ih (k+1)
   omega
def Lims (w:World) (B:Nat) (A:Option Addr) (n:Nat) (f:Nat->Nat):Prop:=Rd w B A n 1 (fun i _=>.int .u32 (f i:Nat))
def NatOk (w:World) (B:Nat) (A:Option Addr) (x:Nat):Prop:=Lims w B A (dl x) (dg x)
section
variable {w w':World} {B B' n i:Nat} {A:Option Addr} {f:Nat->Nat} {x:Nat}
theorem Lims.at (h:Lims w B A n f) (hi:i<n):∃ b off,A=some ⟨b,off,none⟩/\b<B/\w.cell? ⟨b,off+i,none⟩=some (.int .u32 (f i:Nat)):=Rd.at1 h hi
theorem Lims.on (h:Lims w w.heap.size A n f) (hb:Below w.heap.size w w'):Lims w' w'.heap.size A n f:=(Rd.below h hb (Nat.le_refl _)).mono hb.size
theorem NatOk.on (h:NatOk w w.heap.size A x) (hb:Below w.heap.size w w'):NatOk w' w'.heap.size A x:=Lims.on h hb
end
theorem lims_row {w:World} {b n:Nat} {t:TypeId} {f:Nat->Nat} (h:w.rowIs b t n (fun i=>.int .u32 (f i:Nat))):Lims w w.heap.size (some ⟨b,0,none⟩) n f:=zbR h
def NatPost (x:Nat) (w:World) (e:Ending) (w':World):Prop :=
 ∃ A c,e=.returned (.slice A (dl x) c)/\dl x<=c/\c<=maxLen/\NatOk w' w'.heap.size A x/\Below w.heap.size w w'
theorem run_append_nil_none {P:Program} (w:World) (t ty e:TypeId) (i:TypeInfo) (ht:P.underlying t=some (.slice e)) (hi:P.info? e=some i) (A:Option Addr) (c:Nat) :
  (Builtin.append_ #[t,t] ty #[.slice none 0 0,.slice A 0 c]).run P w=.ok (.slice none 0 0) w:=by
 cases A with
 | none=>simp [Builtin.append_,run_underlying ht,sizeOf,typeInfo,hi,Builtin.lenOf,Builtin.firstCells]
 | some a=>simp [Builtin.append_,run_underlying ht,sizeOf,typeInfo,hi,Builtin.lenOf,Builtin.firstCells,loadCells,loadCellsFrom]
section
variable {P:Program} {w:World}
theorem wpList_append_nil_none {ops:Array Oper} {rest:List Oper} {o:Oper} {a:Act} {Q:Exit->Act->World->Prop} (hgd:o.guard=none) (sl x:Operand) (t:TypeId)
  (ho:o.op=.call { callee:=.builtin .append,args:=#[sl,x],argTypes:=#[t,t] })
  (e:TypeId) (i:TypeInfo) (ht:P.underlying t=some (.slice e)) (hi:P.info? e=some i) (hv:a.eval sl=.slice none 0 0)
  (A:Option Addr) (c:Nat) (hx:a.eval x=.slice A 0 c)
  (h:wpList P ops Q rest (a.put o.dst (.slice none 0 0)) w):wpList P ops Q (o :: rest) a w:=by
 refine wpList_plain hgd fun K hK=>?_
 have hrun:=run_append_nil_none (P:=P) w t o.type e i ht hi A c
 unfold Oper.wp execOp
 simp only [ho,resolve,invoke,builtin,Sem.run_bind,Sem.run_pure,Result.andThen_ok,List.map_toArray,List.map_cons,List.map_nil,hv,hx,hrun]
 exact hK _ _ h
end
theorem Try.infoU32:(Try.prog.info? 81).map (fun i=>(i.zero,i.size,i.bytes))=some (some (.int .u32 0),1,4):=by kernel_rfl
theorem short_any (A:Option Addr) (n c:Nat) (f:Nat->Nat) (w:World) (h:Lims w w.heap.size A n f) (hf:Hid (∀ i,i<n->f i<4294967296)) (hc:n<=c) (hm:c<=maxLen) :
  Calls Try.prog 52 #[.slice A n c] w fun e w'=>e=.returned (.slice A (dl (nv f n)) (dl (nv f n)))/\NatOk w w.heap.size A (nv f n)/\w=w':=by
 have hm9:c<=9223372036854775807:=by unfold maxLen at hm; omega
 go_enter Try.func52, Try.ntmps52
 go_wp2
 go_loopg [3] n (fun g kv wx=>∃ k:Nat,k<=n/\k<=g/\kv=.int .i64 (k:Nat)/\Hid (∀ i,k<=i->i<n->f i=0)/\w=wx)
 case atStart=>exact ⟨n,by omega,by omega,rfl,hid fun i h1 h2=>absurd h1 (by omega),rfl⟩
 case round =>
  obtain ⟨k,hk,hkg,rfl,hz,rfl⟩:=hrel
  by_cases h0:0<k
  ·obtain ⟨b,o,rfl,hb,e0⟩:=h.at (i:=k - 1) (by omega)
   have h0':(0:Int)<(k:Int):=by omega
   have hw2:((k:Int) - 1).toNat=k - 1:=by omega
   by_cases hz0:f (k - 1)=0
   ·rw [hz0] at e0
    have HN:Hid (∀ i,k - 1<=i->i<n->f i=0):=fun i h1 h2=>by
     by_cases e:i=k - 1
     ·rw [e]; exact hz0
     ·exact hz.out i (by omega) h2
    clear hz0
    go_wp2
    go_roundg (gk - 1)
    case measure=>omega
    case rel=>exact ⟨k - 1,by omega,by omega,by congr 1; omega,HN,rfl⟩
   ·obtain ⟨d1,d2⟩:=dl_of (f:=f) hk hf.out hz.out (.inr hz0)
    obtain ⟨v,hv⟩:∃ v:Int,v=(f (k - 1):Nat):=⟨_,rfl⟩
    rw [<-hv] at e0
    have hv2:(v == 0)=false:=by simp; omega
    have D1:=hid d1
    have hR:NatOk w w.heap.size (some ⟨b,o,none⟩) (nv f n):=by
     unfold NatOk Lims
     rw [d1]
     exact fun i hi=>by
      obtain ⟨b',o',e,hb',hc'⟩:=h i (by omega)
      exact ⟨b',o',e,hb',fun j hj=>by show _=some (Value.int .u32 (dg (nv f n) i:Nat)); rw [d2 i hi]; exact hc' j hj⟩
    clear hv d1 d2 hz0
    go_wp2
    go_ret
    exact ⟨by rw [D1.out]; rfl,hR,rfl⟩
  ·obtain rfl:k=0:=by omega
   obtain ⟨d1,d2⟩:=dl_of (f:=f) hk hf.out hz.out (.inl rfl)
   have D1:=hid d1
   have hR:NatOk w w.heap.size A (nv f n):=by
    unfold NatOk Lims
    rw [d1]
    exact fun i hi=>absurd hi (by omega)
   clear d1 d2
   cases A with
   | none =>
    go_wp2
    go_ret
    exact ⟨by rw [D1.out]; rfl,hR,rfl⟩
   | some a =>
    go_wp2
    go_ret
    exact ⟨by rw [D1.out]; rfl,hR,rfl⟩
theorem trim_any (A:Option Addr) (n c:Nat) (f:Nat->Nat) (w:World) (h:Lims w w.heap.size A n f) (hf:Hid (∀ i,i<n->f i<4294967296)) (hc:n<=c) (hm:c<=maxLen) (hn:n<=1073741824) :
  Calls Try.prog 67 #[.slice A n c] w (NatPost (nv f n) w):=by
 obtain ⟨i0,qi0,qz0,qz1,qz2⟩:=info_parts Try.infoU32
 have hl:dl (nv f n)<=n:=dl_le (nv_lt hf.out)
 obtain ⟨x,hx⟩:∃ x,nv f n=x:=⟨_,rfl⟩
 have HX:=hid hx
 rw [hx] at hl ⊢
 clear hx
 go_enter Try.func67, Try.ntmps67
 go_wp2_with fail
 refine (short_any A n c f w h hf hc hm).mono ?_
 rintro e w1 ⟨rfl,hR,rfl⟩
 rw [HX.out] at hR ⊢
 rcases Nat.eq_zero_or_pos (dl x) with h0 | h0
 ·have H0:=hid h0
  rw [h0]
  clear h0
  go_wp2_with (first | (at_builtin; (refine wpList_append_nil_none rfl (.const (.slice none 0 0)) (.tmp 4) _ rfl 81 i0 Try.underlying61 qi0 rfl A 0 rfl ?_)))
  go_ret
  exact ⟨none,0,by rw [H0.out]; rfl,by have:=H0.out; omega,by unfold maxLen; omega,fun i hi=>absurd hi (by have:=H0.out; omega),Below.refl _ _⟩
 ·have n3:Hid (dl x<=maxLen):=by show _<=_; unfold maxLen; omega
  have n4:Hid (dl x*4<=140737488355328):=by show _<=_; omega
  go_wp2_with (first | (at_builtin; (refine zah rfl (.const (.slice none 0 0)) (.tmp 4) _ rfl 81 i0 _ 1 4 Try.underlying61 qi0 qz0 qz1 qz2 rfl (by omega) none rfl A (dl x) (dl x) (fun i _=>.int .u32 (dg x i:Nat)) rfl hR h0 (fun _ _ _ _=>rfl) n3.out n4.out ?_); intro cap cur k1 k2 k3 k4))
  go_ret
  have hO:=Own.new (w:=w) (base:=w.heap.size) (e := 81) (Nat.le_refl _) k1 k2 k3 k4
  exact ⟨_,cap,rfl,k1,k2,hO.drew.rd rfl,(((Below.refl _ _).alloc (Nat.le_refl _) _).drew)⟩
theorem nv_two (x:Nat):nv (two x) 2=x:=by
 simp only [nv,two]
 have:=Nat.mod_add_div x 4294967296
 simp
 omega
theorem natOf_any (x:Nat) (w:World) (hx:x<18446744073709551616) :
  Calls Try.prog 71 #[.int .u64 (x:Nat)] w (NatPost x w):=by
 have hL:Lims (w.alloc (Obj.cells #[Value.int .u32 ((x:Int) % 4294967296),Value.int .u32 ((x:Int) / 4294967296)] 81)) (w.alloc (Obj.cells #[Value.int .u32 ((x:Int) % 4294967296),Value.int .u32 ((x:Int) / 4294967296)] 81)).heap.size (some ⟨w.heap.size,0,none⟩) 2 (two x):=by
  refine lims_row (t := 81) ⟨_,heap_alloc_new _ _,rfl,fun i hi=>?_⟩
  match i,hi with
  | 0,_=>simp [two]
  | 1,_=>simp [two]
 have H2:Hid (∀ i,i<2->two x i<4294967296):=fun i hi=>by
  unfold two
  split <;> omega
 go_enter Try.func71, Try.ntmps71
 go_wp2_with fail
 refine (trim_any _ 2 2 (two x) _ hL H2 (Nat.le_refl _) (by unfold maxLen; omega) (by omega)).mono ?_
 rintro e w2 ⟨A,c,rfl,g1,g2,g3,g4⟩
 rw [nv_two] at g1 g3 ⊢
 have hB:=onS ((Below.refl _ _).alloc (Nat.le_refl _) _) g4
 clear g4 hL
 go_wp2
 go_ret
 exact ⟨A,c,rfl,g1,g2,g3,hB⟩
def padded (g:Nat->Nat) (m:Nat) (i:Nat):Nat:=if i<m then g i else 0
theorem nv_padded (g:Nat->Nat) {m n:Nat} (h:m<=n):nv (padded g m) n=nv g m:=by
 rw [nv_zeros h fun i h1 _=>by unfold padded; rw [if_neg (by omega)]]
 exact nv_congr fun i hi=>by unfold padded; rw [if_pos hi]
theorem padded_lt {g:Nat->Nat} {m:Nat} (h:∀ i,i<m->g i<4294967296) (i:Nat):padded g m i<4294967296:=by
 unfold padded
 split
 ·exact h i ‹_›
 ·omega
theorem plus_any (A A2:Option Addr) (n c n2 c2:Nat) (f f2:Nat->Nat) (w:World) (h:Lims w w.heap.size A n f) (h2:Lims w w.heap.size A2 n2 f2) (hf:Hid (∀ i,i<n->f i<4294967296)) (hf2:Hid (∀ i,i<n2->f2 i<4294967296)) (hn:n<=536870912) (hn2:n2<=536870912) :
  Calls Try.prog 66 #[.slice A n c,.slice A2 n2 c2] w (NatPost (nv f n+nv f2 n2) w):=by
 have hmk:=fun (x:Int) (h0:0<=x) (h1:x<=1073741824) W=>zao (P:=Try.prog) 61 81 _ 4 Try.underlying61 Try.infoU32 rfl x h0 (by omega) (by omega) W
 go_enter Try.func66, Try.ntmps66
 go_upto_if 13 with fail
 go_cut [0,1] (fun v0 v1 wx=>∃ B m d,∃ g:Nat->Nat,∃ B2 m2 d2,∃ g2:Nat->Nat,v0=.slice B m d/\v1=.slice B2 m2 d2/\m2<=m/\m<=536870912/\Lims w w.heap.size B m g/\Lims w w.heap.size B2 m2 g2/\Hid (∀ i,i<m->g i<4294967296)/\Hid (∀ i,i<m2->g2 i<4294967296)/\Hid (nv f n+nv f2 n2=nv g m+nv g2 m2)/\w=wx)
 case first =>
  by_cases hlt:n<n2
  ·go_wp2
   go_meet
   exact ⟨A2,n2,c2,f2,A,n,c,f,rfl,rfl,by omega,hn2,h2,h,hf2,hf,Nat.add_comm _ _,rfl⟩
  ·go_wp2
   go_meet
   exact ⟨A,n,c,f,A2,n2,c2,f2,rfl,rfl,by omega,hn,h,h2,hf,hf2,rfl,rfl⟩
 case rest =>
  obtain ⟨B,m,d,g,B2,m2,d2,g2,rfl,rfl,hm,hmb,hg,hg2,hgb,hgb2,hsum,rfl⟩:=hcut
  clear h h2 hf hf2
  have hmk2:=fun W=>hmk ((m:Int)+1) (by omega) (by omega) W
  have e1:((m:Int)+1).toNat=m+1:=by omega
  have hrow0:=World.rowIs_made w (.int .u32 0) (m+1) 81
  clear hmk
  go_wp2
  go_loopg [22,6] m (fun gg iv cv wx=>∃ k cc:Nat,∃ o:Nat->Nat,iv=.int .i64 (k:Nat)/\cv=.int .u64 (cc:Nat)/\k<=m/\m<=k+gg/\cc<=1/\Below w.heap.size w wx/\wx.rowIs w.heap.size 81 (m+1) (fun i=>.int .u32 (o i:Nat))/\Hid (∀ i,o i<4294967296)/\Hid (nv o k+cc*4294967296 ^ k=nv g k+nv (padded g2 m2) k))
  case atStart=>exact ⟨0,0,fun _=>0,rfl,rfl,by omega,by omega,by omega,(Below.refl _ _).alloc (Nat.le_refl _) _,hrow0,hid fun _=>by show 0<_; omega,hid rfl⟩
  case round =>
   clear hrow0 hmk2
   obtain ⟨k,cc,o,rfl,rfl,hk,hkg,hcc,hB,hrow,HO,HV⟩:=hrel
   have hz:=hrow.lt
   by_cases hlt:k<m
   ·obtain ⟨b,o1,rfl,hb,e0⟩:=(hg.on hB).at hlt
    have q1:=hgb.out k hlt
    have y0:=hrow.cell (i:=k) (by omega)
    have z0:=hrow.frozen k
    have hlt':(k:Int)<(m:Int):=by omega
    have key:∀ t:Nat,t=padded g2 m2 k->Hid (nv (upd o k ((g k+cc+t) % 4294967296)) (k+1)+(g k+cc+t) / 4294967296*4294967296 ^ (k+1)=nv g (k+1)+nv (padded g2 m2) (k+1)):=fun t ht=>by
     show _=_
     simp only [nv]
     rw [nv_upd_ge (Nat.le_refl _),upd_same]
     have hv:=HV.out
     have hc:=carry_step1 (g k+cc+t) k
     rw [<-ht]
     grind
    have hrw:∀ s:Nat,∀ v:Int,v=((s % 4294967296:Nat):Int)->Hid ((wr.setCell ⟨w.heap.size,k,none⟩ (.int .u32 v)).rowIs w.heap.size 81 (m+1) (fun i=>.int .u32 (upd o k (s % 4294967296) i:Nat))):=fun s v hv=>by
     refine (hrow.set k _).congr fun i _=>?_
     unfold upd
     by_cases e:i=k
     ·rw [if_pos e,if_pos e,hv]
     ·rw [if_neg e,if_neg e]
    have hob:∀ s:Nat,Hid (∀ i,upd o k (s % 4294967296) i<4294967296):=fun s i=>by
     unfold upd
     split
     ·omega
     ·exact HO.out i
    by_cases hlt2:k<m2
    ·obtain ⟨b2,o2,rfl,hb2,e2⟩:=(hg2.on hB).at hlt2
     have q2:=hgb2.out k hlt2
     have hlt3:(k:Int)<(m2:Int):=by omega
     obtain ⟨x,hx⟩:∃ x,x=g k:=⟨_,rfl⟩
     obtain ⟨y,hy⟩:∃ y,y=g2 k:=⟨_,rfl⟩
     have K1:=key y (by rw [hy]; unfold padded; rw [if_pos hlt2])
     have K2:=hid (hrw (x+cc+y) (((x:Int)+cc+y) % 4294967296) (by omega))
     have K3:=hob (x+cc+y)
     rw [<-hx] at e0 q1 K1
     rw [<-hy] at e2 q2
     clear key hrw hob hx hy
     go_wp2
     go_roundg (gk - 1)
     case measure=>omega
     case rel=>exact ⟨k+1,(x+cc+y) / 4294967296,_,by go_num,by congr 1 <;> omega,by omega,by omega,by omega,hB.setCell (Nat.le_refl _) _,K2.out,K3,K1⟩
    ·have hlt3:¬ (k:Int)<(m2:Int):=by omega
     obtain ⟨x,hx⟩:∃ x,x=g k:=⟨_,rfl⟩
     have K1:=key 0 (by unfold padded; rw [if_neg hlt2])
     have K2:=hid (hrw (x+cc+0) (((x:Int)+cc) % 4294967296) (by omega))
     have K3:=hob (x+cc+0)
     rw [<-hx] at e0 q1 K1
     clear key hrw hob hx
     go_wp2
     go_roundg (gk - 1)
     case measure=>omega
     case rel=>exact ⟨k+1,(x+cc+0) / 4294967296,_,by go_num,by congr 1 <;> omega,by omega,by omega,by omega,hB.setCell (Nat.le_refl _) _,K2.out,K3,K1⟩
   ·obtain rfl:k=m:=by omega
    have y0:=hrow.cell (i:=k) (by omega)
    have z0:=hrow.frozen k
    have e2:(k:Int)<(k:Int)+1:=by omega
    have HS:Hid (nv f n+nv f2 n2=nv (upd o k cc) (k+1)):=by
     show _=_
     simp only [nv]
     rw [nv_upd_ge (Nat.le_refl _),upd_same,HV.out,nv_padded g2 hm,hsum.out]
    have hrow2:(wr.setCell ⟨w.heap.size,k,none⟩ (.int .u32 (cc:Nat))).rowIs w.heap.size 81 (k+1) (fun i=>.int .u32 (upd o k cc i:Nat)):=by
     refine (hrow.set k _).congr fun i _=>?_
     unfold upd
     by_cases e:i=k
     ·rw [if_pos e,if_pos e]
     ·rw [if_neg e,if_neg e]
    have hob:Hid (∀ i,i<k+1->upd o k cc i<4294967296):=fun i _=>by
     unfold upd
     split
     ·omega
     ·exact HO.out i
    have hB2:Below w.heap.size w (wr.setCell ⟨w.heap.size,k,none⟩ (.int .u32 (cc:Nat))):=hB.setCell (Nat.le_refl _) _
    go_wp2_with fail
    refine (short_any (some ⟨w.heap.size,0,none⟩) (k+1) (k+1) (upd o k cc) _ (lims_row hrow2) hob (Nat.le_refl _) (by unfold maxLen; omega)).mono ?_
    rintro e w1 ⟨rfl,hR,rfl⟩
    rw [<-HS.out] at hR ⊢
    have hdl:dl (nv f n+nv f2 n2)<=k+1:=by rw [HS.out]; exact dl_le (nv_lt hob.out)
    clear hrow hrow2 hB HV HO y0 z0
    go_wp2
    go_ret
    exact ⟨_,_,rfl,Nat.le_refl _,by unfold maxLen; omega,hR,hB2⟩
def NatTab (w:World) (B:Nat) (T:Option Addr) (m:Nat) (x:Nat->Nat):Prop :=
 ∀ v,v<m->∃ b off A c,T=some ⟨b,off,none⟩/\b<B/\w.cell? ⟨b,off+v,none⟩=some (.slice A (dl (x v)) c)/\dl (x v)<=c/\c<=maxLen/\NatOk w B A (x v)
theorem NatTab.on {w w':World} {T:Option Addr} {m:Nat} {x:Nat->Nat} (h:NatTab w w.heap.size T m x) (hb:Below w.heap.size w w'):NatTab w' w'.heap.size T m x:=fun v hv=>by
 obtain ⟨b,off,A,c,e,h1,h2,h3,h4,h5⟩:=h v hv
 have:=hb.size
 exact ⟨b,off,A,c,e,by omega,by rw [hb.cell (by simp; omega)]; exact h2,h3,h4,h5.on hb⟩
def sumN (x:Nat->Nat):Nat->Nat
 | 0=>0
 | k+1=>sumN x k+x k
theorem dg_all (x:Nat):Hid (∀ i,i<dl x->dg x i<4294967296):=fun i _=>dg_lt x i
theorem plus_nat (A A2:Option Addr) (c c2 x y:Nat) (w:World) (h:NatOk w w.heap.size A x) (h2:NatOk w w.heap.size A2 y) (hn:dl x<=536870912) (hn2:dl y<=536870912) :
  Calls Try.prog 66 #[.slice A (dl x) c,.slice A2 (dl y) c2] w (NatPost (x+y) w):=by
 have:=plus_any A A2 (dl x) c (dl y) c2 (dg x) (dg y) w h h2 (dg_all x) (dg_all y) hn hn2
 rwa [nv_dg,nv_dg] at this
theorem short_nat (A:Option Addr) (c x:Nat) (w:World) (h:NatOk w w.heap.size A x) (hc:dl x<=c) (hm:c<=maxLen) :
  Calls Try.prog 52 #[.slice A (dl x) c] w fun e w'=>e=.returned (.slice A (dl x) (dl x))/\w=w':=by
 refine (short_any A (dl x) c (dg x) w h (dg_all x) hc hm).mono ?_
 rintro e w' ⟨he,_,hw⟩
 rw [nv_dg] at he
 exact ⟨he,hw⟩
theorem trim_nat (A:Option Addr) (c x:Nat) (w:World) (h:NatOk w w.heap.size A x) (hc:dl x<=c) (hm:c<=maxLen) (hn:dl x<=1073741824) :
  Calls Try.prog 67 #[.slice A (dl x) c] w (NatPost x w):=by
 have:=trim_any A (dl x) c (dg x) w h (dg_all x) hc hm hn
 rwa [nv_dg] at this
theorem natAdd_any (T:Option Addr) (m c:Nat) (x:Nat->Nat) (w:World) (h:NatTab w w.heap.size T m x) (hm:m<=1048576) (hs:Hid (∀ k,k<=m->dl (sumN x k)<=536870912)) (hx:Hid (∀ k,k<m->dl (x k)<=536870912)) :
  Calls Try.prog 49 #[.slice T m c] w (NatPost (sumN x m) w):=by
 go_enter Try.func49, Try.ntmps49
 go_wp2
 go_loopg [8,3] m (fun g iv sv wx=>∃ k:Nat,∃ A c,iv=.int .i64 (k:Nat)/\sv=.slice A (dl (sumN x k)) c/\k<=m/\m<=k+g/\dl (sumN x k)<=c/\c<=maxLen/\NatOk wx wx.heap.size A (sumN x k)/\Below w.heap.size w wx)
 case atStart=>exact ⟨0,none,0,rfl,by simp [sumN,dl_zero],by omega,by omega,by simp [sumN,dl_zero],by omega,fun i hi=>absurd hi (by simp [sumN,dl_zero]),Below.refl _ _⟩
 case round =>
  obtain ⟨k,A,cA,rfl,rfl,hk,hkg,hc,hcm,hA,hB⟩:=hrel
  by_cases hlt:k<m
  ·obtain ⟨b,off,B,cB,rfl,hb,e0,hcB,hcB2,hBk⟩:=(h.on hB) k hlt
   have hlt':(k:Int)<(m:Int):=by omega
   have H1:=hs.out k hk
   have H2:=hx.out k hlt
   go_wp2_with fail
   refine (short_nat B cB (x k) wr hBk hcB hcB2).mono ?_
   rintro e w1 ⟨rfl,rfl⟩
   go_wp2_with fail
   refine (plus_nat A B cA (dl (x k)) (sumN x k) (x k) wr hA hBk H1 H2).mono ?_
   rintro e w1 ⟨A',c',rfl,g1,g2,g3,g4⟩
   have hB2:=onS hB g4
   clear g4 hA hB hBk e0
   go_wp2
   go_roundg (gk - 1)
   case measure=>omega
   case rel=>exact ⟨k+1,A',c',by go_num,rfl,by omega,by omega,g1,g2,g3,hB2⟩
  ·obtain rfl:k=m:=by omega
   have H1:=hs.out k (Nat.le_refl _)
   go_wp2_with fail
   refine (trim_nat A cA (sumN x k) wr hA hc hcm (by omega)).mono ?_
   rintro e w1 ⟨A',c',rfl,g1,g2,g3,g4⟩
   have hB2:=onS hB g4
   clear g4
   go_wp2
   go_ret
   exact ⟨A',c',rfl,g1,g2,g3,hB2⟩
theorem limb_mul {x y:Nat} (hx:x<4294967296) (hy:y<4294967296):x*y<=18446744065119617025:=by
 have:x*y<=4294967295*4294967295:=Nat.mul_le_mul (by omega) (by omega)
 omega
theorem times_step {o g:Nat->Nat} {N k j x cc y:Nat} {v:Nat} (hkj:k+j<N) (hv:nv o N+cc*4294967296 ^ (k+j)=v+x*nv g j*4294967296 ^ k) (hy:y=g j) :
  nv (upd o (k+j) ((x*y+o (k+j)+cc) % 4294967296)) N+(x*y+o (k+j)+cc) / 4294967296*4294967296 ^ (k+(j+1))=v+x*nv g (j+1)*4294967296 ^ k:=by
 have h1:=nv_upd (f:=o) (v:=(x*y+o (k+j)+cc) % 4294967296) hkj
 have h2:=carry_step1 (x*y+o (k+j)+cc) (k+j)
 have h3:(4294967296:Nat) ^ (k+j)=4294967296 ^ k*4294967296 ^ j:=Nat.pow_add _ _ _
 simp only [nv]
 rw [show k+(j+1)=k+j+1 by omega,<-hy]
 generalize (x*y+o (k+j)+cc) % 4294967296=r at *
 generalize (x*y+o (k+j)+cc) / 4294967296*4294967296 ^ (k+j+1)=q at *
 generalize nv (upd o (k+j) r) N=u at *
 grind
theorem times_any (A A2:Option Addr) (n c m c2:Nat) (f g:Nat->Nat) (w:World) (h:Lims w w.heap.size A n f) (h2:Lims w w.heap.size A2 m g) (hf:Hid (∀ i,i<n->f i<4294967296)) (hg:Hid (∀ i,i<m->g i<4294967296)) (hn:n<=536870912) (hm:m<=536870912) :
  Calls Try.prog 68 #[.slice A n c,.slice A2 m c2] w (NatPost (nv f n*nv g m) w):=by
 have hmk:=fun W=>zao (P:=Try.prog) 61 81 _ 4 Try.underlying61 Try.infoU32 rfl ((n:Int)+(m:Int)) (by omega) (by omega) (by omega) W
 have e1:((n:Int)+(m:Int)).toNat=n+m:=by omega
 have hrow0:=World.rowIs_made w (.int .u32 0) (n+m) 81
 go_enter Try.func68, Try.ntmps68
 go_wp2
 go_loopg [20] n (fun gg iv wx=>∃ k:Nat,∃ o:Nat->Nat,iv=.int .i64 (k:Nat)/\k<=n/\n<=k+gg/\Below w.heap.size w wx/\wx.rowIs w.heap.size 81 (n+m) (fun i=>.int .u32 (o i:Nat))/\Hid (∀ i,o i<4294967296)/\Hid (∀ i,k+m<=i->o i=0)/\Hid (nv o (n+m)=nv f k*nv g m))
 case atStart=>exact ⟨0,fun _=>0,rfl,by omega,by omega,(Below.refl _ _).alloc (Nat.le_refl _) _,hrow0,hid fun _=>by show 0<_; omega,hid fun _ _=>rfl,hid (by rw [nv_zero fun _ _=>rfl]; simp [nv])⟩
 case round =>
  clear hrow0 hmk e1
  obtain ⟨k,o,rfl,hk,hkg,hB,hrow,HO,HZ,HV⟩:=hrel
  by_cases hlt:k<n
  ·obtain ⟨b,o1,rfl,hb,e0⟩:=(h.on hB).at hlt
   have q1:=hf.out k hlt
   have hlt':(k:Int)<(n:Int):=by omega
   obtain ⟨x,hx⟩:∃ x,x=f k:=⟨_,rfl⟩
   rw [<-hx] at e0 q1
   have HX:=hid hx
   obtain ⟨wo,rfl⟩:∃ wo:World,wo=wr:=⟨_,rfl⟩
   obtain ⟨K,rfl⟩:∃ K:Nat,K=gk:=⟨_,rfl⟩
   clear hx
   go_wp2
   go_loopg [27,8] m (fun gg jv cv wx=>∃ j cc:Nat,∃ o':Nat->Nat,jv=.int .i64 (j:Nat)/\cv=.int .u64 (cc:Nat)/\j<=m/\m<=j+gg/\cc<4294967296/\Below w.heap.size w wx/\wx.rowIs w.heap.size 81 (n+m) (fun i=>.int .u32 (o' i:Nat))/\Hid (∀ i,o' i<4294967296)/\Hid (∀ i,k+m<=i->o' i=0)/\Hid (nv o' (n+m)+cc*4294967296 ^ (k+j)=nv o (n+m)+x*nv g j*4294967296 ^ k))
   case atStart=>exact ⟨0,0,o,rfl,rfl,by omega,by omega,by omega,hB,hrow,HO,HZ,hid (by simp [nv])⟩
   case round =>
    clear hB hrow e0
    obtain ⟨j,cc,o',rfl,rfl,hj,hjg,hcc,hB,hrow,HO',HZ',HV'⟩:=hrel
    have hz:=hrow.lt
    by_cases hjlt:j<m
    ·obtain ⟨b2,o2,rfl,hb2,e2⟩:=(h2.on hB).at hjlt
     have q2:=hg.out j hjlt
     have hjlt':(j:Int)<(m:Int):=by omega
     have y0:=hrow.cell (i:=k+j) (by omega)
     have z0:=hrow.frozen (k+j)
     have q3:=HO'.out (k+j)
     have hix:((k:Int)+(j:Int)).toNat=k+j:=by omega
     obtain ⟨y,hy⟩:∃ y,y=g j:=⟨_,rfl⟩
     obtain ⟨u,hu⟩:∃ u,u=o' (k+j):=⟨_,rfl⟩
     rw [<-hy] at e2 q2
     have K1:=hid (times_step (y:=y) (show k+j<n+m by omega) HV'.out hy)
     rw [<-hu] at y0 q3 K1
     have p0:(0:Int)<=(x:Int)*(y:Int):=by rw [<-Int.natCast_mul]; omega
     have p1:(x:Int)*(y:Int)<=18446744065119617025:=by rw [<-Int.natCast_mul]; have:=limb_mul q1 q2; omega
     have p2:(x:Int)*(y:Int)=((x*y:Nat):Int):=by rw [Int.natCast_mul]
     have p3:=limb_mul q1 q2
     have K2:Hid ((wr.setCell ⟨w.heap.size,k+j,none⟩ (.int .u32 (((x:Int)*y+u+cc) % 4294967296))).rowIs w.heap.size 81 (n+m) (fun i=>.int .u32 (upd o' (k+j) ((x*y+u+cc) % 4294967296) i:Nat))):=by
      refine (hrow.set (k+j) _).congr fun i _=>?_
      unfold upd
      by_cases e:i=k+j
      ·rw [if_pos e,if_pos e]; congr 1 <;> omega
      ·rw [if_neg e,if_neg e]
     have K3:Hid (∀ i,upd o' (k+j) ((x*y+u+cc) % 4294967296) i<4294967296):=fun i=>by
      unfold upd
      split
      ·omega
      ·exact HO'.out i
     have K4:Hid (∀ i,k+m<=i->upd o' (k+j) ((x*y+u+cc) % 4294967296) i=0):=fun i hi=>by
      rw [upd_other (by omega)]; exact HZ'.out i hi
     have K5:Hid ((((x:Int)*y+u+cc) / 4294967296)=(((x*y+u+cc) / 4294967296:Nat):Int)):=by show _=_; omega
     have K6:Hid ((x*y+u+cc) / 4294967296<4294967296):=by show _<_; omega
     clear hy hu p2 hrow
     go_wp2
     go_roundg (gk - 1)
     case measure=>omega
     case rel=>exact ⟨j+1,(x*y+u+cc) / 4294967296,_,by go_num,by rw [<-K5.out],by omega,by omega,K6.out,hB.setCell (Nat.le_refl _) _,K2.out,K3,K4,K1⟩
    ·obtain rfl:j=m:=by omega
     have y0:=hrow.cell (i:=k+j) (by omega)
     have z0:=hrow.frozen (k+j)
     have hix:((k:Int)+(j:Int)).toNat=k+j:=by omega
     have K1:Hid (nv (upd o' (k+j) cc) (n+j)=nv f (k+1)*nv g j):=by
      have h1:=nv_upd (f:=o') (v:=cc) (show k+j<n+j by omega)
      rw [HZ'.out (k+j) (Nat.le_refl _)] at h1
      have h3:=HV'.out
      rw [HV.out,HX.out] at h3
      show _=_
      simp only [nv]
      grind
     have K2:Hid ((wr.setCell ⟨w.heap.size,k+j,none⟩ (.int .u32 (cc:Nat))).rowIs w.heap.size 81 (n+j) (fun i=>.int .u32 (upd o' (k+j) cc i:Nat))):=by
      refine (hrow.set (k+j) _).congr fun i _=>?_
      unfold upd
      by_cases e:i=k+j
      ·rw [if_pos e,if_pos e]
      ·rw [if_neg e,if_neg e]
     have K3:Hid (∀ i,upd o' (k+j) cc i<4294967296):=fun i=>by
      unfold upd
      split
      ·omega
      ·exact HO'.out i
     have K4:Hid (∀ i,k+1+j<=i->upd o' (k+j) cc i=0):=fun i hi=>by
      rw [upd_other (by omega)]; exact HZ'.out i (by omega)
     clear hrow
     go_wp2
     go_roundg (K - 1)
     case measure=>omega
     case rel=>exact ⟨k+1,_,by go_num,by omega,by omega,hB.setCell (Nat.le_refl _) _,K2.out,K3,K4,K1⟩
  ·obtain rfl:k=n:=by omega
   have hob:Hid (∀ i,i<k+m->o i<4294967296):=fun i _=>HO.out i
   go_wp2_with fail
   refine (short_any (some ⟨w.heap.size,0,none⟩) (k+m) (k+m) o wr (lims_row hrow) hob (Nat.le_refl _) (by unfold maxLen; omega)).mono ?_
   rintro e w1 ⟨rfl,hR,rfl⟩
   rw [HV.out] at hR ⊢
   have hdl:dl (nv f k*nv g m)<=k+m:=by rw [<-HV.out]; exact dl_le (nv_lt hob.out)
   clear hrow HO HZ
   go_wp2
   go_ret
   exact ⟨_,_,rfl,Nat.le_refl _,by unfold maxLen; omega,hR,hB⟩
theorem times_nat (A A2:Option Addr) (c c2 x y:Nat) (w:World) (h:NatOk w w.heap.size A x) (h2:NatOk w w.heap.size A2 y) (hn:dl x<=536870912) (hn2:dl y<=536870912) :
  Calls Try.prog 68 #[.slice A (dl x) c,.slice A2 (dl y) c2] w (NatPost (x*y) w):=by
 have:=times_any A A2 (dl x) c (dl y) c2 (dg x) (dg y) w h h2 (dg_all x) (dg_all y) hn hn2
 rwa [nv_dg,nv_dg] at this
theorem dl_small {x:Nat} (h:0<x) (h1:x<4294967296):dl x=1:=by
 rw [dl_pos (by omega),Nat.div_eq_of_lt h1,dl_zero]
theorem dg_small {x:Nat} (h1:x<4294967296):dg x 0=x:=by rw [dg_first,Nat.mod_eq_of_lt h1]
theorem natOk_one {w:World} {x:Nat} (T:TypeId) (h:0<x) (h1:x<4294967296):NatOk (w.alloc (Obj.cells #[Value.int .u32 (x:Nat)] T)) (w.alloc (Obj.cells #[Value.int .u32 (x:Nat)] T)).heap.size (some ⟨w.heap.size,0,none⟩) x:=by
 refine lims_row (t:=T) ⟨_,heap_alloc_new _ _,by rw [dl_small h h1]; rfl,fun i hi=>?_⟩
 rw [dl_small h h1] at hi
 obtain rfl:i=0:=by omega
 show _=some (Value.int .u32 (dg x 0:Nat))
 rw [dg_small h1]
 rfl
def prodN (x:Nat->Nat):Nat->Nat
 | 0=>1
 | k+1=>prodN x k*x k
theorem natMul_any (T:Option Addr) (m c:Nat) (x:Nat->Nat) (w:World) (h:NatTab w w.heap.size T m x) (hm:m<=1048576) (hs:Hid (∀ k,k<=m->dl (prodN x k)<=536870912)) (hx:Hid (∀ k,k<m->dl (x k)<=536870912)) :
  Calls Try.prog 50 #[.slice T m c] w (NatPost (prodN x m) w):=by
 have d1:Hid (dl (prodN x 0)=1):=dl_small (by show 0<1; omega) (by show 1<_; omega)
 have hone:=natOk_one (w:=w) 81 (x:=1) (by omega) (by omega)
 go_enter Try.func50, Try.ntmps50
 go_wp2
 go_loopg [9,3] m (fun g iv sv wx=>∃ k:Nat,∃ A c,iv=.int .i64 (k:Nat)/\sv=.slice A (dl (prodN x k)) c/\k<=m/\m<=k+g/\dl (prodN x k)<=c/\c<=maxLen/\NatOk wx wx.heap.size A (prodN x k)/\Below w.heap.size w wx)
 case atStart=>exact ⟨0,_,1,rfl,by rw [d1.out],by omega,by omega,by rw [d1.out]; omega,by unfold maxLen; omega,hone,(Below.refl _ _).alloc (Nat.le_refl _) _⟩
 case round =>
  clear hone
  obtain ⟨k,A,cA,rfl,rfl,hk,hkg,hc,hcm,hA,hB⟩:=hrel
  by_cases hlt:k<m
  ·obtain ⟨b,off,B,cB,rfl,hb,e0,hcB,hcB2,hBk⟩:=(h.on hB) k hlt
   have hlt':(k:Int)<(m:Int):=by omega
   have H1:=hs.out k hk
   have H2:=hx.out k hlt
   go_wp2_with fail
   refine (short_nat B cB (x k) wr hBk hcB hcB2).mono ?_
   rintro e w1 ⟨rfl,rfl⟩
   go_wp2_with fail
   refine (times_nat A B cA (dl (x k)) (prodN x k) (x k) wr hA hBk H1 H2).mono ?_
   rintro e w1 ⟨A',c',rfl,g1,g2,g3,g4⟩
   have hB2:=onS hB g4
   clear g4 hA hB hBk e0
   go_wp2
   go_roundg (gk - 1)
   case measure=>omega
   case rel=>exact ⟨k+1,A',c',by go_num,rfl,by omega,by omega,g1,g2,g3,hB2⟩
  ·obtain rfl:k=m:=by omega
   have H1:=hs.out k (Nat.le_refl _)
   go_wp2_with fail
   refine (trim_nat A cA (prodN x k) wr hA hc hcm (by omega)).mono ?_
   rintro e w1 ⟨A',c',rfl,g1,g2,g3,g4⟩
   have hB2:=onS hB g4
   clear g4
   go_wp2
   go_ret
   exact ⟨A',c',rfl,g1,g2,g3,hB2⟩
open Go.Shelf
def Try.lays128_ren:Go.Shelf.Ren:=⟨fun | 128 => 84 | n=>n,fun | 51 => 81 | 3 => 3 | 4 => 4 | 46 => 98 | 5 => 5 | 9 => 9 | n=>n,fun | n=>n⟩
theorem Try.lays128:Go.Proofs.Lays.n128 Try.prog Try.lays128_ren:={
 mixed:=by kernel_rfl
 f128:=Try.func84.trans (congrArg some (by kernel_rfl))
 t3:=Try.underlying3
 a3:=Try.isAgg3
 z3:=Try.sizeOf3
 v3:=Try.zeroValue3
 t4:=Try.underlying4
 a4:=Try.isAgg4
 z4:=Try.sizeOf4
 v4:=Try.zeroValue4
 t5:=Try.underlying5
 a5:=Try.isAgg5
 z5:=Try.sizeOf5
 v5:=Try.zeroValue5
 t9:=Try.underlying9
 a9:=Try.isAgg9
 z9:=Try.sizeOf9
 v9:=Try.zeroValue9
 t46:=Try.underlying98
 a46:=Try.isAgg98
 z46:=Try.sizeOf98
 v46:=Try.zeroValue98
 t51:=Try.underlying81
 a51:=Try.isAgg81
 z51:=Try.sizeOf81
 v51:=Try.zeroValue81 }
theorem Try.bits_Len32 (x:Int) (w:World) (h0:0<=x) (h1:x<=4294967295) :
  Calls Try.prog 84 #[.int .u32 x] w fun e w'=>e=.returned (.int .i64 (Lib.bitLen x.toNat))/\w'=w:=Any.bits_Len32 Try.lays128 x w h0 h1
def nlen (x:Nat):Nat:=if h:x=0 then 0 else nlen (x / 2)+1
termination_by x
decreasing_by exact Nat.div_lt_self (by omega) (by omega)
theorem nlen_zero:nlen 0=0:=by unfold nlen; simp
theorem nlen_pos {x:Nat} (h:x≠0):nlen x=nlen (x / 2)+1:=by rw [nlen]; simp [h]
theorem nlen_eq_zero {x:Nat}:nlen x=0↔x=0:=by
 constructor
 ·intro h
  rcases Nat.eq_zero_or_pos x with h0 | h0
  ·exact h0
  ·rw [nlen_pos (by omega)] at h; omega
 ·intro h; rw [h]; exact nlen_zero
theorem nlen_one:nlen 1=1:=by rw [nlen_pos (by omega)]; simp [nlen_zero]
theorem nlen_eq_one {x:Nat}:nlen x=1↔x=1:=by
 constructor
 ·intro h
  have h0:x≠0:=fun e=>by rw [e,nlen_zero] at h; omega
  rw [nlen_pos h0] at h
  have:=nlen_eq_zero.1 (show nlen (x / 2)=0 by omega)
  omega
 ·intro h; rw [h]; exact nlen_one
theorem nlen_le {x k:Nat} (h:x<2 ^ k):nlen x<=k:=by
  induction k generalizing x with
  | zero => have : x = 0 := by simpa using h
            rw [this,nlen_zero]; omega
  | succ k ih =>
    by_cases h0:x=0
    · rw [h0,nlen_zero]; omega
    · rw [nlen_pos h0]
      have:=ih (x:=x / 2) (by rw [Nat.pow_succ] at h; omega)
      omega
theorem nlen_shift (k:Nat) {x:Nat} (h:2 ^ k<=x):nlen x=k+nlen (x / 2 ^ k):=by
 induction k generalizing x with
 | zero=>simp
 | succ k ih =>
  have hp:0<2 ^ k:=Nat.pow_pos (by omega)
  rw [Nat.pow_succ] at h
  rw [nlen_pos (by omega),ih (x:=x / 2) (by omega),Nat.pow_succ,Nat.mul_comm (2 ^ k) 2,<-Nat.div_div_eq_div_mul]
  omega
theorem nlen_dl {x:Nat} (h:x≠0):nlen x=32*(dl x - 1)+nlen (dg x (dl x - 1)):=by
 induction x using Nat.strongRecOn with
 | _ x ih =>
  rw [dl_pos h,Nat.add_sub_cancel]
  by_cases h1:x / 4294967296=0
  ·rw [h1,dl_zero,dg_first]
   have:x<4294967296:=by omega
   rw [Nat.mod_eq_of_lt this]; omega
  ·have h2:=ih (x / 4294967296) (Nat.div_lt_self (by omega) (by omega)) h1
   have h3:=dl_pos h1
   have h4:dl (x / 4294967296)=dl (x / 4294967296) - 1+1:=by omega
   rw [nlen_shift 32 (show 2 ^ 32<=x by omega),show (2:Nat) ^ 32=4294967296 from rfl,h2]
   rw [show dg x (dl (x / 4294967296))=dg (x / 4294967296) (dl (x / 4294967296) - 1) by rw [<-dg_succ,<-h4]]
   omega
theorem bitLen_nlen {x:Nat} (h:x<2 ^ 64):Lib.bitLen x=nlen x:=by
 induction x using Nat.strongRecOn with
 | _ x ih =>
  by_cases h0:x=0
  ·rw [h0,nlen_zero]; rfl
  ·rw [Lib.bitLen_half x h0 h,nlen_pos h0,ih (x / 2) (Nat.div_lt_self (by omega) (by omega)) (by omega)]
   omega
theorem natBits_any (A:Option Addr) (c x:Nat) (w:World) (h:NatOk w w.heap.size A x) (hc:dl x<=c) (hm:c<=maxLen) (hn:dl x<=1073741824) :
  Calls Try.prog 70 #[.slice A (dl x) c] w fun e w'=>e=.returned (.int .i64 (nlen x:Nat))/\w=w':=by
 go_enter Try.func70, Try.ntmps70
 go_wp2_with fail
 refine (short_nat A c x w h hc hm).mono ?_
 rintro e w1 ⟨rfl,rfl⟩
 by_cases h0:x=0
 ·have hd:dl x=0:=by rw [h0]; exact dl_zero
  have H:=hid (show nlen x=0 by rw [h0]; exact nlen_zero)
  rw [hd]
  clear h0 hd
  go_wp2
  go_ret
  exact ⟨ret_int (by rw [H.out]; rfl),rfl⟩
 ·have hd:0<dl x:=by have:=mt dl_eq_zero.1 h0; omega
  obtain ⟨b,o,rfl,hb,e0⟩:=Lims.at h (i:=dl x - 1) (by omega)
  have HL:=hid (nlen_dl h0)
  have hg:=dg_lt x (dl x - 1)
  have HB:=hid (bitLen_nlen (x:=dg x (dl x - 1)) (by omega))
  have hnl:=nlen_le (x:=dg x (dl x - 1)) (k:=32) hg
  obtain ⟨n,hn'⟩:∃ n,n=dl x:=⟨_,rfl⟩
  obtain ⟨v,hv⟩:∃ v,v=dg x (dl x - 1):=⟨_,rfl⟩
  rw [<-hv] at hg HB hnl e0 HL
  rw [<-hn'] at e0 hd HL hn hc ⊢
  have hw2:((n:Int) - 1).toNat=n - 1:=by omega
  have hn0:((n:Int) == 0)=false:=by simp; omega
  clear hn' hv h h0
  go_wp2_with fail
  refine (Try.bits_Len32 (v:Int) w (by omega) (by omega)).mono ?_
  rintro e w1 ⟨rfl,rfl⟩
  rw [Int.toNat_natCast,HB.out]
  go_wp2
  go_ret
  exact ⟨ret_int (by rw [HL.out]; omega),rfl⟩
namespace Fie
variable {K:Type} [Add K] [Mul K] [Neg K] [Zero K] [One K] (F:Fie K)
include F
end Fie
theorem digit_step {f o:Nat->Nat} {n k b r:Nat} (hk:k<n) (hv1:hv f (k+1) n=b*hv o (k+1) n+r) :
  hv f k n=b*hv (upd o k ((r*4294967296+f k) / b)) k n+(r*4294967296+f k) % b:=by
 rw [hv_step hk,hv_step hk,upd_same,hv_congr (g:=o) (fun j h1 _=>upd_other (by omega)),hv1]
 have:=Nat.div_add_mod (r*4294967296+f k) b
 generalize (r*4294967296+f k) / b=q at *
 generalize (r*4294967296+f k) % b=s at *
 grind
theorem digit_lt {r b x:Nat} (hr:r<b) (hx:x<4294967296):(r*4294967296+x) / b<4294967296:=by
 refine Nat.div_lt_of_lt_mul ?_
 have:(r+1)*4294967296<=b*4294967296:=Nat.mul_le_mul_right _ hr
 omega
theorem or_limbs {r x:Nat} (hr:r<4294967296) (hx:x<4294967296):bits .or .u64 ((r:Int)*4294967296) (x:Int)=((r*4294967296+x:Nat):Int):=by
 have h:=bits_or_u64_nat (r*4294967296) x (by omega) (by omega)
 rw [Int.natCast_mul] at h
 rw [show ((4294967296:Nat):Int)=4294967296 from rfl] at h
 rw [h]
 have e:=Nat.two_pow_add_eq_or_of_lt (i:=32) (b:=x) hx r
 rw [show (2:Nat) ^ 32=4294967296 from rfl,Nat.mul_comm] at e
 rw [<-e]
def DigitPost (x b:Nat) (w:World) (e:Ending) (w':World):Prop :=
 ∃ A c,e=.returned (.tuple #[.slice A (dl (x / b)) c,.int .u32 (x % b:Nat)])/\dl (x / b)<=c/\c<=maxLen/\NatOk w' w'.heap.size A (x / b)/\Below w.heap.size w w'
theorem digit_any (A:Option Addr) (n c b:Nat) (f:Nat->Nat) (w:World) (h:Lims w w.heap.size A n f) (hf:Hid (∀ i,i<n->f i<4294967296)) (hn:n<=536870912) (hb0:0<b) (hb1:b<4294967296) :
  Calls Try.prog 83 #[.slice A n c,.int .u32 (b:Nat)] w (DigitPost (nv f n) b w):=by
 have hmk:=fun W=>zao (P:=Try.prog) 61 81 _ 4 Try.underlying61 Try.infoU32 rfl (n:Int) (by omega) (by omega) (by omega) W
 have hrow0:=World.rowIs_made w (.int .u32 0) n 81
 go_enter Try.func83, Try.ntmps83
 go_wp2
 go_loopg [8,7] n (fun gg iv rv wx=>∃ k r:Nat,∃ o:Nat->Nat,iv=.int .i64 ((k:Nat) - 1:Int)/\rv=.int .u64 (r:Nat)/\k<=n/\k<=gg/\r<b/\Below w.heap.size w wx/\wx.rowIs w.heap.size 81 n (fun i=>.int .u32 (o i:Nat))/\Hid (∀ i,o i<4294967296)/\Hid (hv f k n=b*hv o k n+r))
 case atStart=>exact ⟨n,0,fun _=>0,rfl,rfl,by omega,by omega,hb0,(Below.refl _ _).alloc (Nat.le_refl _) _,hrow0,hid fun _=>by show 0<_; omega,hid (by rw [hv_end,hv_end]; rfl)⟩
 case round =>
  clear hrow0 hmk
  obtain ⟨k,r,o,rfl,rfl,hk,hkg,hr,hB,hrow,HO,HV⟩:=hrel
  have hz:=hrow.lt
  by_cases h0:0<k
  ·obtain ⟨k,rfl⟩:∃ k',k=k'+1:=⟨k - 1,by omega⟩
   have ek:(((k+1:Nat):Int) - 1)=(k:Int):=by omega
   rw [ek]
   obtain ⟨b1,o1,rfl,hb2,e0⟩:=(h.on hB).at (i:=k) (by omega)
   have q1:=hf.out k (by omega)
   have hlt':(k:Int)<(n:Int):=by omega
   have y0:=hrow.cell (i:=k) (by omega)
   have z0:=hrow.frozen k
   have K1:=hid (digit_step (show k<n by omega) HV.out)
   obtain ⟨x,hx⟩:∃ x,x=f k:=⟨_,rfl⟩
   rw [<-hx] at e0 q1 K1
   have K4:=hid (digit_lt hr q1)
   obtain ⟨t,ht⟩:∃ t,t=r*4294967296+x:=⟨_,rfl⟩
   have hor:bits .or .u64 ((r:Int)*4294967296) (x:Int)=(t:Int):=by rw [ht]; exact or_limbs (by omega) q1
   rw [<-ht] at K1 K4
   obtain ⟨q,hq⟩:∃ q,q=t / b:=⟨_,rfl⟩
   obtain ⟨s,hs⟩:∃ s,s=t % b:=⟨_,rfl⟩
   have hsb:s<b:=by rw [hs]; exact Nat.mod_lt _ hb0
   have hq1:(t:Int).tdiv (b:Int)=(q:Int):=by rw [hq,Int.tdiv_eq_ediv_of_nonneg (by omega)]; rfl
   have hs1:(t:Int).tmod (b:Int)=(s:Int):=by rw [hs,Int.tmod_eq_emod_of_nonneg (by omega)]; rfl
   rw [<-hq,<-hs] at K1
   rw [<-hq] at K4
   have hqb:=K4.out
   have hwq:IntKind.u64.wrap (q:Int)=(q:Int):=IntWalk.u64_in _ (by omega)
   have hwm:(q:Int) % 4294967296=(q:Int):=by omega
   have K2:Hid ((wr.setCell ⟨w.heap.size,k,none⟩ (.int .u32 (q:Nat))).rowIs w.heap.size 81 n (fun i=>.int .u32 (upd o k q i:Nat))):=by
    refine (hrow.set k _).congr fun i _=>?_
    unfold upd
    by_cases e:i=k
    ·rw [if_pos e,if_pos e]
    ·rw [if_neg e,if_neg e]
   have K3:Hid (∀ i,upd o k q i<4294967296):=fun i=>by
    unfold upd
    split
    ·exact hqb
    ·exact HO.out i
   have hbne:((b:Int) == 0)=false:=by simp; omega
   clear hx ek hq hs ht
   go_wp2
   go_roundg (gk - 1)
   case measure=>omega
   case rel=>exact ⟨k,s,_,rfl,rfl,by omega,by omega,hsb,hB.setCell (Nat.le_refl _) _,K2.out,K3,K1⟩
  ·obtain rfl:k=0:=by omega
   have HQ:Hid (nv f n / b=nv o n/\nv f n % b=r):=by
    have:=HV.out
    rw [hv_all,hv_all] at this
    show _/\_
    rw [this]
    exact ⟨by rw [Nat.mul_add_div hb0,Nat.div_eq_of_lt hr,Nat.add_zero],by rw [Nat.mul_add_mod,Nat.mod_eq_of_lt hr]⟩
   have hob:Hid (∀ i,i<n->o i<4294967296):=fun i _=>HO.out i
   have hr2:((r:Int) % 4294967296)=r:=by omega
   go_wp2_with fail
   refine (short_any (some ⟨w.heap.size,0,none⟩) n n o wr (lims_row hrow) hob (Nat.le_refl _) (by unfold maxLen; omega)).mono ?_
   rintro e w1 ⟨rfl,hR,rfl⟩
   rw [<-HQ.out.1] at hR ⊢
   have hdl:dl (nv f n / b)<=n:=by rw [HQ.out.1]; exact dl_le (nv_lt hob.out)
   clear hrow HO HV
   go_wp2
   go_ret2
   exact ⟨_,_,by rw [HQ.out.2]; rfl,Nat.le_refl _,by unfold maxLen; omega,hR,hB⟩
theorem i64_and1 (n:Int):bits .and .i64 n 1=n % 2:=by
 have h1:(BitVec.ofInt 64 1).toNat=2 ^ 1 - 1:=by decide
 have key:(BitVec.ofInt 64 n &&& BitVec.ofInt 64 1).toNat=(n % ((2 ^ 64:Nat):Int)).toNat % 2 ^ 1:=by
  rw [BitVec.toNat_and,BitVec.toNat_ofInt,h1,Nat.and_two_pow_sub_one_eq_mod]
 show IntKind.i64.wrap ((BitVec.ofInt 64 n &&& BitVec.ofInt 64 1).toNat:Nat)=n % 2
 rw [key,IntKind.wrap_i64]
 omega
theorem below_one (X:World) (o:Obj):Below X.heap.size X (X.alloc o):=(Below.refl _ _).alloc (Nat.le_refl _) _
def NatOkPost (x:Nat) (w:World) (e:Ending) (w':World):Prop :=
 ∃ A c,e=.returned (.tuple #[.slice A (dl x) c,.int .i64 0])/\dl x<=c/\c<=maxLen/\NatOk w' w'.heap.size A x/\Below w.heap.size w w'
theorem pow_odd {o s x n k:Nat} (h:o*s ^ k=x ^ n) (hk:k % 2=1):o*s*(s*s) ^ (k / 2)=x ^ n:=by
 rw [<-h,<-Nat.pow_two,<-Nat.pow_mul,Nat.mul_assoc,<-Nat.pow_add_one']
 congr 2
 omega
theorem pow_even {o s x n k:Nat} (h:o*s ^ k=x ^ n) (hk:k % 2=0):o*(s*s) ^ (k / 2)=x ^ n:=by
 rw [<-h,<-Nat.pow_two,<-Nat.pow_mul]
 congr 2
 omega
theorem pow_bounds {o s x n k:Nat} (h:o*s ^ k=x ^ n) (hk:0<k) (hx:0<x):o<=x ^ n/\s<=x ^ n:=by
 have hp:0<x ^ n:=Nat.pow_pos hx
 have ho:0<o:=by
  rcases Nat.eq_zero_or_pos o with e | e
  ·rw [e] at h; simp at h; omega
  ·exact e
 have hs:0<s:=by
  rcases Nat.eq_zero_or_pos s with e | e
  ·rw [e,Nat.zero_pow hk] at h; simp at h; omega
  ·exact e
 constructor
 ·rw [<-h]; exact Nat.le_mul_of_pos_right _ (Nat.pow_pos hs)
 ·rw [<-h]
  have h1:s<=s ^ k:=Nat.le_self_pow (by omega) s
  exact Nat.le_trans h1 (Nat.le_mul_of_pos_left _ ho)
theorem natPow_any (A:Option Addr) (c x n:Nat) (w:World) (h:NatOk w w.heap.size A x) (hc:dl x<=c) (hm:c<=maxLen) (hn:dl x<=1048576) (hnn:n<=131072) (hsz:nlen x<=1∨(nlen x - 1)*n<131072) (hbig:dl (x ^ n)<=4096) :
  Calls Try.prog 53 #[.slice A (dl x) c,.int .i64 (n:Nat)] w (NatOkPost (x ^ n) w):=by
 have hone:=natOk_one (w:=w) 81 (x:=1) (by omega) (by omega)
 have d1:=hid (dl_small (x:=1) (by omega) (by omega))
 go_enter Try.func53, Try.ntmps53
 go_wp2_with fail
 refine (natBits_any A c x w h hc hm (by omega)).mono ?_
 rintro e w1 ⟨rfl,rfl⟩
 have hlb:nlen x<=33554432:=by
  by_cases e:x=0
  ·rw [e,nlen_zero]; omega
  ·have:=nlen_dl e
   have:=nlen_le (x:=dg x (dl x - 1)) (k:=32) (dg_lt _ _)
   omega
 by_cases h0:n=0
 ·subst h0
  have H:=hid (show x ^ 0=1 from Nat.pow_zero x)
  go_wp2
  go_ret2
  exact ⟨_,1,by rw [H.out,d1.out]; rfl,by rw [H.out,d1.out]; omega,by unfold maxLen; omega,by rw [H.out]; exact hone,(Below.refl _ _).alloc (Nat.le_refl _) _⟩
 ·have n0 : ((n : Int) == 0) = false := by simp; omega
  by_cases h1:x=1
  ·have H:=hid (show x ^ n=1 by rw [h1]; exact Nat.one_pow n)
   have hl:nlen x=1:=nlen_eq_one.2 h1
   rw [hl]
   clear hl h1
   go_wp2
   go_ret2
   exact ⟨_,1,by rw [H.out,d1.out]; rfl,by rw [H.out,d1.out]; omega,by unfold maxLen; omega,by rw [H.out]; exact hone,(Below.refl _ _).alloc (Nat.le_refl _) _⟩
  ·by_cases h2:x=0
   ·have H:=hid (show x ^ n=0 by rw [h2]; exact Nat.zero_pow (by omega))
    have hl:nlen x=0:=nlen_eq_zero.2 h2
    rw [hl]
    clear hl h1 h2
    go_wp2
    go_ret2
    exact ⟨none,0,by rw [H.out,dl_zero]; rfl,by rw [H.out,dl_zero]; omega,by unfold maxLen; omega,by rw [H.out]; exact fun i hi=>absurd hi (by rw [dl_zero]; omega),Below.refl _ _⟩
   ·have hl0:=mt nlen_eq_zero.1 h2
    have hl1:=mt nlen_eq_one.1 h1
    have hx0:0<x:=by omega
    obtain ⟨l,hl⟩:∃ l,l=nlen x:=⟨_,rfl⟩
    rw [<-hl] at hl0 hl1 hsz hlb ⊢
    have hs1:(l - 1)*n<131072:=by omega
    have hs2:((l:Int) - 1)*(n:Int)=(((l - 1)*n:Nat):Int):=by rw [Int.natCast_mul]; congr 1; omega
    have hs3:(0:Int)<=((l:Int) - 1)*(n:Int):=by omega
    have hs4:((l:Int) - 1)*(n:Int)<131072:=by omega
    have l0:((l:Int) == 0)=false:=by simp; omega
    have l1:((l:Int) == 1)=false:=by simp; omega
    clear hl hs2 hs1 hsz hl0 hl1 h1 h2
    have hA1:=NatOk.on h (below_one w (Obj.cells #[Value.int .u32 ((1:Nat):Int)] 81))
    go_wp2_with fail
    refine (short_nat A c x _ hA1 hc hm).mono ?_
    rintro e w1 ⟨rfl,rfl⟩
    have HBG:=hid hbig
    have hBA:=below_one w (Obj.cells #[Value.int .u32 ((1:Nat):Int)] 81)
    have hl4:dl x<=536870912:=by omega
    go_wp2
    go_loopg [1,7,8] n (fun gg nv ov sv wx=>∃ k o s:Nat,∃ Ao co As cs,nv=.int .i64 (k:Nat)/\ov=.slice Ao (dl o) co/\sv=.slice As (dl s) cs/\0<k/\k<=gg/\k<=n/\Hid (o*s ^ k=x ^ n)/\(dl o<=co/\co<=maxLen)/\NatOk wx wx.heap.size Ao o/\NatOk wx wx.heap.size As s/\Below w.heap.size w wx)
    case atStart=>exact ⟨n,1,x,_,1,A,dl x,rfl,by rw [d1.out],rfl,by omega,by omega,by omega,hid (Nat.one_mul _),⟨by rw [d1.out]; omega,by unfold maxLen; omega⟩,hone,hA1,hBA⟩
    case round =>
     clear hone hA1 hBA h
     obtain ⟨k,o,s,Ao,co,As,cs,rfl,rfl,rfl,hk,hkg,hkn,HV,⟨ho1,ho2⟩,hAo,hAs,hB⟩:=hrel
     obtain ⟨hb1,hb2⟩:=pow_bounds HV.out hk hx0
     have hdo:dl o<=536870912:=by have:=dl_mono hb1; have:=HBG.out; omega
     have hds:dl s<=536870912:=by have:=dl_mono hb2; have:=HBG.out; omega
     clear hb1 hb2
     have hk2:((k:Int) / 2)=((k / 2:Nat):Int):=by omega
     have HK2:=hid hk2
     clear hk2
     by_cases hpar:k % 2=1
     ·have ha:bits .and .i64 (k:Int) 1=1:=by rw [i64_and1]; omega
      by_cases h1:k=1
      ·subst h1
       have HE:Hid (o*s=x ^ n):=by have:=HV.out; rwa [Nat.pow_one] at this
       go_wp2_with fail
       refine (times_nat Ao As co cs o s wr hAo hAs hdo hds).mono ?_
       rintro e w2 ⟨A2,c2,rfl,g1,g2,g3,g4⟩
       rw [HE.out] at g1 g3 ⊢
       have hB2:=onS hB g4
       have hbig4:((dl (x ^ n):Nat):Int)<=4096:=by have:=HBG.out; omega
       clear g4 hAo hAs hB
       go_wp2_with fail
       refine (trim_nat A2 c2 (x ^ n) w2 g3 g1 g2 (by omega)).mono ?_
       rintro e w3 ⟨A3,c3,rfl,f1,f2,f3,f4⟩
       have hB3:=onS hB2 f4
       clear f4
       go_wp2
       go_ret2
       exact ⟨A3,c3,rfl,f1,f2,f3,hB3⟩
      ·have hne:((k:Int) / 2 == 0)=false:=by simp; omega
       have HE:=hid (pow_odd HV.out hpar)
       go_wp2_with fail
       refine (times_nat Ao As co cs o s wr hAo hAs hdo hds).mono ?_
       rintro e w2 ⟨A2,c2,rfl,g1,g2,g3,g4⟩
       have hB2:=onS hB g4
       have hAs2:=hAs.on g4
       clear g4 hAo hAs hB
       go_wp2_with fail
       refine (times_nat As As cs cs s s w2 hAs2 hAs2 hds hds).mono ?_
       rintro e w3 ⟨A3,c3,rfl,f1,f2,f3,f4⟩
       have hB3:=onS hB2 f4
       have g5:=g3.on f4
       clear f4 hAs2 hB2
       go_wp2
       go_roundg (gk - 1)
       case measure=>omega
       case rel=>exact ⟨k / 2,o*s,s*s,A2,c2,A3,c3,by rw [HK2.out],rfl,rfl,by omega,by omega,by omega,HE,⟨g1,g2⟩,g5,f3,hB3⟩
     ·have ha:bits .and .i64 (k:Int) 1=0:=by rw [i64_and1]; omega
      have hne:((k:Int) / 2 == 0)=false:=by simp; omega
      have HE:=hid (pow_even HV.out (by omega))
      go_wp2_with fail
      refine (times_nat As As cs cs s s wr hAs hAs hds hds).mono ?_
      rintro e w3 ⟨A3,c3,rfl,f1,f2,f3,f4⟩
      have hB3:=onS hB f4
      have g5:=hAo.on f4
      clear f4 hAs hB
      go_wp2
      go_roundg (gk - 1)
      case measure=>omega
      case rel=>exact ⟨k / 2,o,s*s,Ao,co,A3,c3,by rw [HK2.out],rfl,rfl,by omega,by omega,by omega,HE,⟨ho1,ho2⟩,g5,f3,hB3⟩
theorem digit_nat (A:Option Addr) (c x b:Nat) (w:World) (h:NatOk w w.heap.size A x) (hn:dl x<=536870912) (hb0:0<b) (hb1:b<4294967296) :
  Calls Try.prog 83 #[.slice A (dl x) c,.int .u32 (b:Nat)] w (DigitPost x b w):=by
 have:=digit_any A (dl x) c b (dg x) w h (dg_all x) hn hb0 hb1
 rwa [nv_dg] at this
theorem chs_div (n k:Nat):chs n k*(n - k) / (k+1)=chs n (k+1):=by
 have h:=chs_step n k
 rw [Nat.mul_comm,<-h]
 exact Nat.mul_div_cancel_left _ (by omega)
theorem dl_chs (n k:Nat) (hn:n<=4096):dl (chs n k)<=129:=by
 obtain ⟨e,he⟩:∃ e,e=129:=⟨_,rfl⟩
 rw [<-he]
 refine dl_le (Nat.lt_of_le_of_lt (chs_le_pow n k) ?_)
 have h1:(2:Nat) ^ n<2 ^ (32*e):=Nat.pow_lt_pow_right (by omega) (by omega)
 rw [Nat.pow_mul] at h1
 exact h1
theorem binomial_any (n k:Nat) (w:World) (hn:n<=4096) (hk:k<=n) :
  Calls Try.prog 69 #[.int .i64 (n:Nat),.int .i64 (k:Nat)] w (NatOkPost (chs n k) w):=by
 obtain ⟨m,hm,hme,hmc⟩:∃ m:Nat,m<=n/\min (k:Int) ((n:Int) - (k:Int))=(m:Int)/\chs n k=chs n m:=by
  by_cases h:k<=n - k
  ·exact ⟨k,hk,by omega,rfl⟩
  ·exact ⟨n - k,by omega,by omega,chs_symm hk⟩
 have hone:=natOk_one (w:=w) 81 (x:=1) (by omega) (by omega)
 have d1:=hid (dl_small (x:=1) (by omega) (by omega))
 have c0:=hid (chs_zero n)
 have HMC:=hid hmc
 clear hmc
 have b1:decide ((n:Int)<0)=false:=by simp
 have b2:decide ((4096:Int)<(n:Int))=false:=by simp; omega
 have b3:decide ((k:Int)<0)=false:=by simp
 have b4:decide (n<k)=false:=by simp; omega
 go_enter Try.func69, Try.ntmps69
 go_wp2
 go_loopg [27,6] m (fun gg iv ov wx=>∃ i:Nat,∃ A c,iv=.int .i64 (i:Nat)/\ov=.slice A (dl (chs n i)) c/\i<=m/\m<=i+gg/\dl (chs n i)<=c/\c<=maxLen/\NatOk wx wx.heap.size A (chs n i)/\Below w.heap.size w wx)
 case atStart=>exact ⟨0,_,1,rfl,by rw [c0.out,d1.out],by omega,by omega,by rw [c0.out,d1.out]; omega,by unfold maxLen; omega,by rw [c0.out]; exact hone,(Below.refl _ _).alloc (Nat.le_refl _) _⟩
 case round =>
  clear hone
  obtain ⟨i,A,c,rfl,rfl,hi,hig,hc,hcm,hA,hB⟩:=hrel
  have hd:=dl_chs n i hn
  by_cases hlt:i<m
  ·have e1:((n - i:Nat):Int)=(n:Int) - (i:Int):=by omega
   have h1:=natOk_one (w:=wr) 81 (x:=n - i) (by omega) (by omega)
   have hd1:=dl_small (x:=n - i) (by omega) (by omega)
   rw [e1] at h1
   have hA1:=hA.on (below_one wr (Obj.cells #[Value.int .u32 ((n:Int) - (i:Int))] 81))
   have hB1:=hB.alloc hB.size (Obj.cells #[Value.int .u32 ((n:Int) - (i:Int))] 81)
   have CT:=fun W=>times_nat A (some ⟨wr.heap.size,0,none⟩) c 1 (chs n i) (n - i) W
   rw [hd1] at CT
   have CD:=fun A c x W (h:NatOk W W.heap.size A x) (hx:dl x<=536870912)=>digit_nat A c x (i+1) W h hx (by omega) (by omega)
   have HD:=hid (chs_div n i)
   have HDS:Hid (dl (chs n i*(n - i))<=536870912):=by
    have h2:=lt_pow_dl (chs n i)
    have h3:(4294967296:Nat) ^ dl (chs n i)<=4294967296 ^ 129:=Nat.pow_le_pow_right (by omega) hd
    have h4:chs n i*(n - i)<4294967296 ^ 130:=by
     rw [Nat.pow_succ]
     exact Nat.lt_of_lt_of_le (Nat.mul_lt_mul_of_lt_of_le (Nat.lt_of_lt_of_le h2 h3) (show n - i<=4294967296 by omega) (by omega)) (Nat.le_refl _)
    have:=dl_le h4
    show _<=_
    omega
   clear e1 hd1 hA hB
   go_wp2_with fail
   refine (CT _ hA1 h1 (by omega) (by omega)).mono ?_
   rintro e w2 ⟨A2,c2,rfl,g1,g2,g3,g4⟩
   have hB2:=onS hB1 g4
   clear g4 CT hA1 h1 hB1
   go_wp2_with fail
   refine (CD A2 c2 _ w2 g3 HDS.out).mono ?_
   rintro e w3 ⟨A3,c3,rfl,f1,f2,f3,f4⟩
   rw [HD.out] at f1 f3 ⊢
   have hB3:=onS hB2 f4
   clear f4 CD g3
   go_wp2
   go_roundg (gk - 1)
   case measure=>omega
   case rel=>exact ⟨i+1,A3,c3,by go_num,rfl,by omega,by omega,f1,f2,f3,hB3⟩
  ·obtain rfl:i=m:=by omega
   go_wp2_with fail
   refine (trim_nat A c (chs n i) wr hA hc hcm (by omega)).mono ?_
   rintro e w1 ⟨A',c',rfl,g1,g2,g3,g4⟩
   have hB2:=onS hB g4
   clear g4
   go_wp2
   go_ret2
   exact ⟨A',c',by rw [HMC.out]; rfl,by rw [HMC.out]; exact g1,g2,by rw [HMC.out]; exact g3,hB2⟩
def cmpN (x y:Nat):Int:=if x<y then -1 else if y<x then 1 else 0
theorem cmpN_lt {x y:Nat} (h:x<y):cmpN x y = -1:=by simp [cmpN,h]
theorem cmpN_gt {x y:Nat} (h:y<x):cmpN x y=1:=by unfold cmpN; rw [if_neg (by omega),if_pos h]
theorem cmpN_eq {x y:Nat} (h:x=y):cmpN x y=0:=by unfold cmpN; rw [if_neg (by omega),if_neg (by omega)]
theorem nv_cmp {f g:Nat->Nat} {n k:Nat} (hf:∀ i,i<n->f i<4294967296) (hk:k<n) (he:∀ j,k<j->j<n->f j=g j) (hl:f k<g k):nv f n<nv g n:=by
 induction n with
 | zero=>omega
 | succ n ih =>
  simp only [nv]
  by_cases e:k=n
  ·subst e
   have h1:=nv_lt (f:=f) (n:=k) fun i hi=>hf i (by omega)
   have h2:(f k+1)*4294967296 ^ k<=g k*4294967296 ^ k:=Nat.mul_le_mul_right _ hl
   rw [Nat.add_mul,Nat.one_mul] at h2
   omega
  ·have h1:=ih (fun i hi=>hf i (by omega)) (by omega) fun j h1 h2=>he j h1 (by omega)
   rw [he n (by omega) (by omega)]
   omega
theorem lt_of_dl {x y:Nat} (h:dl x<dl y):x<y:=by
 rcases Nat.lt_or_ge x y with h1 | h1
 ·exact h1
 ·have:=dl_mono h1; omega
theorem natCmp_any (A A2:Option Addr) (c c2 x y:Nat) (w:World) (h:NatOk w w.heap.size A x) (h2:NatOk w w.heap.size A2 y) (hc:dl x<=c) (hm:c<=maxLen) (hc2:dl y<=c2) (hm2:c2<=maxLen) (hn2:dl y<=1073741824) :
  Calls Try.prog 32 #[.slice A (dl x) c,.slice A2 (dl y) c2] w fun e w'=>e=.returned (.int .i64 (cmpN x y))/\Below w.heap.size w w':=by
 go_enter Try.func32, Try.ntmps32
 go_wp2_with fail
 refine (short_nat A c x w h hc hm).mono ?_
 rintro e w1 ⟨rfl,rfl⟩
 go_wp2_with fail
 refine (short_nat A2 c2 y w h2 hc2 hm2).mono ?_
 rintro e w1 ⟨rfl,rfl⟩
 by_cases hd:dl x=dl y
 ·obtain ⟨n,hn'⟩:∃ n,n=dl y:=⟨_,rfl⟩
  have hX:nv (dg x) n=x:=by rw [hn',<-hd,nv_dg]
  have hY:nv (dg y) n=y:=by rw [hn',nv_dg]
  have HX:=hid hX
  have HY:=hid hY
  have h3:Lims w w.heap.size A n (dg x):=by rw [hn',<-hd]; exact h
  have h4:Lims w w.heap.size A2 n (dg y):=by rw [hn']; exact h2
  rw [hd,<-hn']
  rw [<-hn'] at hn2
  clear hX hY h h2 hc hc2 hd hn'
  go_wp2
  go_loopg [5] n (fun gg iv wx=>∃ k:Nat,iv=.int .i64 ((k:Nat) - 1:Int)/\k<=n/\k<=gg/\Hid (∀ j,k<=j->j<n->dg x j=dg y j)/\Below w.heap.size w wx)
  case atStart=>exact ⟨n,rfl,by omega,by omega,hid fun j h1 h2=>absurd h1 (by omega),Below.refl _ _⟩
  case round =>
   obtain ⟨k,rfl,hk,hkg,HE,hB⟩:=hrel
   by_cases h0:0<k
   ·obtain ⟨k,rfl⟩:∃ k',k=k'+1:=⟨k - 1,by omega⟩
    have ek:(((k+1:Nat):Int) - 1)=(k:Int):=by omega
    rw [ek]
    obtain ⟨b,o,rfl,hb,e0⟩:=(h3.on hB).at (i:=k) (by omega)
    obtain ⟨b2,o2,rfl,hb2,e2⟩:=(h4.on hB).at (i:=k) (by omega)
    have hk0:(0:Int)<=(k:Int):=by omega
    have hk1:(k:Int)<(n:Int):=by omega
    have he:=HE.out
    by_cases c1:dg x k<dg y k
    ·have HC:=hid (cmpN_lt (x:=x) (y:=y) (by have:=nv_cmp (f:=dg x) (g:=dg y) (n:=n) (k:=k) (fun i _=>dg_lt x i) (by omega) (fun j h1 h2=>he j (by omega) h2) c1; rwa [HX.out,HY.out] at this))
     obtain ⟨u,hu⟩:∃ u,u=dg x k:=⟨_,rfl⟩
     obtain ⟨v,hv⟩:∃ v,v=dg y k:=⟨_,rfl⟩
     rw [<-hu] at e0 c1
     rw [<-hv] at e2 c1
     clear ek he hu hv
     go_wp2
     go_quiet (fail)
     go_wp2
     go_ret
     exact ⟨ret_int HC.out.symm,zai hB _⟩
    ·by_cases c2:dg y k<dg x k
     ·have HC:=hid (cmpN_gt (x:=x) (y:=y) (by have:=nv_cmp (f:=dg y) (g:=dg x) (n:=n) (k:=k) (fun i _=>dg_lt y i) (by omega) (fun j h1 h2=>(he j (by omega) h2).symm) c2; rwa [HX.out,HY.out] at this))
      obtain ⟨u,hu⟩:∃ u,u=dg x k:=⟨_,rfl⟩
      obtain ⟨v,hv⟩:∃ v,v=dg y k:=⟨_,rfl⟩
      rw [<-hu] at e0 c1 c2
      rw [<-hv] at e2 c1 c2
      clear ek he hu hv
      go_wp2
      go_quiet (fail)
      go_wp2
      go_quiet (fail)
      go_wp2
      go_ret
      exact ⟨ret_int HC.out.symm,zai (zai hB _) _⟩
     ·have heq:dg x k=dg y k:=by omega
      have HN:Hid (∀ j,k<=j->j<n->dg x j=dg y j):=fun j h1 h2=>by
       by_cases e:j=k
       ·rw [e]; exact heq
       ·exact he j (by omega) h2
      rw [heq] at e0
      obtain ⟨v,hv⟩:∃ v,v=dg y k:=⟨_,rfl⟩
      rw [<-hv] at e0 e2
      clear ek he hv heq c1 c2
      go_wp2
      go_quiet (fail)
      go_wp2
      go_quiet (fail)
      go_wp2
      go_roundg (gk - 1)
      case measure=>omega
      case rel=>exact ⟨k,rfl,by omega,by omega,HN,zai hB _⟩
   ·obtain rfl:k=0:=by omega
    have HC:=hid (cmpN_eq (x:=x) (y:=y) (by rw [<-HX.out,<-HY.out]; exact nv_congr fun i hi=>HE.out i (by omega) hi))
    go_wp2
    go_ret
    exact ⟨ret_int HC.out.symm,hB⟩
 ·by_cases hlt:dl x<dl y
  ·have HC:=hid (cmpN_lt (lt_of_dl hlt))
   have d1:((dl x:Nat):Int)<((dl y:Nat):Int):=by omega
   have d2:(((dl x:Nat):Int) != ((dl y:Nat):Int))=true:=by simp; omega
   clear h h2
   go_wp2
   go_ret
   exact ⟨ret_int HC.out.symm,Below.refl _ _⟩
  ·have HC:=hid (cmpN_gt (lt_of_dl (x:=y) (y:=x) (by omega)))
   have d1:¬ ((dl x:Nat):Int)<((dl y:Nat):Int):=by omega
   have d2:(((dl x:Nat):Int) != ((dl y:Nat):Int))=true:=by simp; omega
   clear h h2
   go_wp2
   go_ret
   exact ⟨ret_int HC.out.symm,Below.refl _ _⟩
def pairN (x y:Nat) (i:Nat):Nat:=if i=0 then x else y
theorem natTab_two {w:World} {A1 A2:Option Addr} {c1 c2 x y:Nat} (T:TypeId) (h1:NatOk w w.heap.size A1 x) (h2:NatOk w w.heap.size A2 y) (k1:dl x<=c1) (k2:dl y<=c2) (m1:c1<=maxLen) (m2:c2<=maxLen) :
  NatTab (w.alloc (Obj.cells #[.slice A1 (dl x) c1,.slice A2 (dl y) c2] T)) (w.alloc (Obj.cells #[.slice A1 (dl x) c1,.slice A2 (dl y) c2] T)).heap.size (some ⟨w.heap.size,0,none⟩) 2 (pairN x y):=fun v hv=>by
 have hb:=below_one w (Obj.cells #[.slice A1 (dl x) c1,.slice A2 (dl y) c2] T)
 match v,hv with
 | 0,_=>exact ⟨_,0,A1,c1,rfl,by simp,World.cell?_alloc_at _ _ _ _ rfl,k1,m1,h1.on hb⟩
 | 1,_=>exact ⟨_,0,A2,c2,rfl,by simp,World.cell?_alloc_at _ _ _ _ rfl,k2,m2,h2.on hb⟩
theorem add_two {w:World} {A1 A2:Option Addr} {c1 c2 x y:Nat} (T:TypeId) (h1:NatOk w w.heap.size A1 x) (h2:NatOk w w.heap.size A2 y) (k1:dl x<=c1) (k2:dl y<=c2) (m1:c1<=maxLen) (m2:c2<=maxLen) (d1:dl (x+y)<=536870912) :
  Calls Try.prog 49 #[.slice (some ⟨w.heap.size,0,none⟩) 2 2] (w.alloc (Obj.cells #[.slice A1 (dl x) c1,.slice A2 (dl y) c2] T)) (NatPost (x+y) (w.alloc (Obj.cells #[.slice A1 (dl x) c1,.slice A2 (dl y) c2] T))):=by
 have e:sumN (pairN x y) 2=x+y:=by simp [sumN,pairN]
 have:=natAdd_any (some ⟨w.heap.size,0,none⟩) 2 2 (pairN x y) _ (natTab_two T h1 h2 k1 k2 m1 m2) (by omega) (hid fun k hk=>?_) (hid fun k hk=>?_)
 ·rwa [e] at this
 ·refine Nat.le_trans (dl_mono ?_) d1
  match k,hk with
  | 0,_=>simp [sumN]
  | 1,_=>simp [sumN,pairN]
  | 2,_=>rw [e]; exact Nat.le_refl _
 ·refine Nat.le_trans (dl_mono ?_) d1
  match k,hk with
  | 0,_=>simp [pairN]
  | 1,_=>simp [pairN]
theorem mul_two {w:World} {A1 A2:Option Addr} {c1 c2 x y:Nat} (T:TypeId) (h1:NatOk w w.heap.size A1 x) (h2:NatOk w w.heap.size A2 y) (k1:dl x<=c1) (k2:dl y<=c2) (m1:c1<=maxLen) (m2:c2<=maxLen) (d1:dl x<=536870912) (d2:dl y<=536870912) (d3:dl (x*y)<=536870912) :
  Calls Try.prog 50 #[.slice (some ⟨w.heap.size,0,none⟩) 2 2] (w.alloc (Obj.cells #[.slice A1 (dl x) c1,.slice A2 (dl y) c2] T)) (NatPost (x*y) (w.alloc (Obj.cells #[.slice A1 (dl x) c1,.slice A2 (dl y) c2] T))):=by
 have e:prodN (pairN x y) 2=x*y:=by simp [prodN,pairN]
 have:=natMul_any (some ⟨w.heap.size,0,none⟩) 2 2 (pairN x y) _ (natTab_two T h1 h2 k1 k2 m1 m2) (by omega) (hid fun k hk=>?_) (hid fun k hk=>?_)
 ·rwa [e] at this
 ·match k,hk with
  | 0,_=>show dl 1<=_; rw [dl_small (by omega) (by omega)]; omega
  | 1,_=>simp [prodN,pairN]; exact d1
  | 2,_=>rw [e]; exact d3
 ·match k,hk with
  | 0,_=>exact d1
  | 1,_=>exact d2
theorem dl_power {q n:Nat} (hq:q<65536) (hn:n<=128):dl (q ^ n)<=65:=by
 obtain ⟨e,he⟩:∃ e,e=65:=⟨_,rfl⟩
 rw [<-he]
 refine dl_le ?_
 have h1:q ^ n<=(2 ^ 16) ^ n:=Nat.pow_le_pow_left (by omega) n
 rw [<-Nat.pow_mul] at h1
 have h2:(2:Nat) ^ (16*n)<2 ^ (32*e):=Nat.pow_lt_pow_right (by omega) (by omega)
 rw [Nat.pow_mul 2 32] at h2
 exact Nat.lt_of_le_of_lt h1 h2
theorem dl_mul_le {x y a b:Nat} (hx:dl x<=a) (hy:dl y<=b):dl (x*y)<=a+b:=by
 refine dl_le ?_
 have h1:x<4294967296 ^ a:=Nat.lt_of_lt_of_le (lt_pow_dl x) (Nat.pow_le_pow_right (by omega) hx)
 have h2:y<4294967296 ^ b:=Nat.lt_of_lt_of_le (lt_pow_dl y) (Nat.pow_le_pow_right (by omega) hy)
 rw [Nat.pow_add]
 exact Nat.mul_lt_mul_of_lt_of_le h1 (by omega) (Nat.pow_pos (by omega))
def vol (q n:Nat):Nat->Nat
 | 0=>0
 | k+1=>vol q n k+chs n k*(q - 1) ^ k
theorem dl_vol {q n k:Nat} (hq:q<=65536) (hn:n<=128) (hk:k<=129):dl (vol q n k)<=195:=by
 have key:∀ L,L=194->vol q n k<=k*4294967296 ^ L:=by
  intro L hL
  induction k with
  | zero=>simp [vol]
  | succ k ih =>
   simp only [vol]
   have h1:=ih (by omega)
   have h2:dl (chs n k*(q - 1) ^ k)<=L:=by
    have:=dl_mul_le (dl_chs n k (by omega)) (dl_power (q:=q - 1) (n:=k) (by omega) (by omega))
    omega
   have h3:chs n k*(q - 1) ^ k<=4294967296 ^ L:=Nat.le_of_lt (Nat.lt_of_lt_of_le (lt_pow_dl _) (Nat.pow_le_pow_right (by omega) h2))
   rw [Nat.add_mul,Nat.one_mul]
   omega
 obtain ⟨L,hL⟩:∃ L,L=194:=⟨_,rfl⟩
 have h:=key L hL
 rw [show 195=L+1 by omega]
 refine dl_le (Nat.lt_of_le_of_lt h ?_)
 rw [Nat.pow_succ,Nat.mul_comm (4294967296 ^ L)]
 exact Nat.mul_lt_mul_of_lt_of_le (by omega) (Nat.le_refl _) (Nat.pow_pos (by omega))
theorem whole_any (n:Nat) (w:World) (hn:n<9223372036854775808) :
  Calls Try.prog 54 #[.int .i64 (n:Nat)] w (NatPost n w):=by
 go_enter Try.func54, Try.ntmps54
 go_wp2_with fail
 refine (natOf_any n w (by omega)).mono ?_
 rintro e w1 ⟨A,c,rfl,h1,h2,h3,h4⟩
 go_wp2
 go_ret
 exact ⟨A,c,rfl,h1,h2,h3,h4⟩
theorem power_any (q n:Nat) (w:World) (hq:q<65536) (hn:n<=128) :
  Calls Try.prog 33 #[.int .i64 (q:Nat),.int .i64 (n:Nat)] w (NatPost (q ^ n) w):=by
 have hd:=dl_power hq hn
 have hq1:dl q<=1:=dl_le (by omega)
 have hl:=nlen_le (x:=q) (k:=16) (by omega)
 have hm:(nlen q - 1)*n<=15*128:=Nat.mul_le_mul (by omega) hn
 go_enter Try.func33, Try.ntmps33
 go_wp2_with fail
 refine (whole_any q w (by omega)).mono ?_
 rintro e w1 ⟨A,c,rfl,h1,h2,h3,h4⟩
 go_wp2_with fail
 refine (natPow_any A c q n w1 h3 h1 h2 (by omega) (by omega) (.inr (by omega)) (by omega)).mono ?_
 rintro e w2 ⟨A2,c2,rfl,g1,g2,g3,g4⟩
 have hB:=onS h4 g4
 clear g4
 go_wp2
 go_ret
 exact ⟨A2,c2,rfl,g1,g2,g3,hB⟩
theorem choose_any (n k:Nat) (w:World) (hn:n<=4096) (hk:k<=n) :
  Calls Try.prog 51 #[.int .i64 (n:Nat),.int .i64 (k:Nat)] w (NatPost (chs n k) w):=by
 go_enter Try.func51, Try.ntmps51
 go_wp2_with fail
 refine (binomial_any n k w hn hk).mono ?_
 rintro e w2 ⟨A2,c2,rfl,g1,g2,g3,g4⟩
 go_wp2
 go_ret
 exact ⟨A2,c2,rfl,g1,g2,g3,g4⟩
theorem volumeK_any (q n K:Nat) (w:World) (hq:1<=q) (hq2:q<=256) (hn:n<=64) (hK:K<=n+1) :
  Calls Try.prog 31 #[.int .i64 (q:Nat),.int .i64 (n:Nat),.int .i64 ((K:Nat) - 1:Int)] w (NatPost (vol q n K) w):=by
 have eq1:((q:Int) - 1)=((q - 1:Nat):Int):=by omega
 have HQ:=hid eq1
 clear eq1
 go_enter Try.func31, Try.ntmps31
 go_wp2
 go_loopg [8,7] K (fun gg iv ov wx=>∃ i:Nat,∃ A c,iv=.int .i64 (i:Nat)/\ov=.slice A (dl (vol q n i)) c/\i<=K/\K<=i+gg/\dl (vol q n i)<=c/\c<=maxLen/\NatOk wx wx.heap.size A (vol q n i)/\Below w.heap.size w wx)
 case atStart=>exact ⟨0,none,0,rfl,by simp [vol,dl_zero],by omega,by omega,by simp [vol,dl_zero],by unfold maxLen; omega,fun i hi=>absurd hi (by simp [vol,dl_zero]),Below.refl _ _⟩
 case round =>
  obtain ⟨i,A,c,rfl,rfl,hi,hig,hc,hcm,hA,hB⟩:=hrel
  by_cases hlt:i<K
  ·have hd:=dl_vol (q:=q) (n:=n) (k:=i+1) (by omega) (by omega) (by omega)
   have hdc:=dl_chs n i (by omega)
   have hdp:=dl_power (q:=q - 1) (n:=i) (by omega) (by omega)
   have hdm:=dl_mul_le hdc hdp
   go_wp2_with fail
   refine (choose_any n i wr (by omega) (by omega)).mono ?_
   rintro e w1 ⟨A1,c1,rfl,f1,f2,f3,f4⟩
   have hA1:=hA.on f4
   have hB1:=onS hB f4
   clear hA hB f4
   go_wp2_with fail
   rw [HQ.out]
   refine (power_any (q - 1) i w1 (by omega) (by omega)).mono ?_
   rintro e w2 ⟨A2,c2,rfl,g1,g2,g3,g4⟩
   have hA2:=hA1.on g4
   have f5:=f3.on g4
   have hB2:=onS hB1 g4
   clear hA1 hB1 g4 f3
   go_wp2_with fail
   refine (mul_two 61 f5 g3 f1 g1 f2 g2 (by omega) (by omega) (by omega)).mono ?_
   rintro e w3 ⟨A3,c3,rfl,k1,k2,k3,k4⟩
   have hb3:=onS (below_one w2 _) k4
   have hA3:=hA2.on hb3
   have hB3:=onS hB2 hb3
   clear hA2 hB2 hb3 k4 f5 g3
   go_wp2_with fail
   refine (add_two 61 hA3 k3 hc k1 hcm k2 (by simp only [vol] at hd; omega)).mono ?_
   rintro e w4 ⟨A4,c4,rfl,m1,m2,m3,m4⟩
   have hB4:=onS hB3 (onS (below_one w3 _) m4)
   clear hA3 hB3 k3 m4
   go_wp2
   go_roundg (gk - 1)
   case measure=>omega
   case rel=>exact ⟨i+1,A4,c4,by go_num,rfl,by omega,by omega,m1,m2,m3,hB4⟩
  ·obtain rfl:i=K:=by omega
   go_wp2
   go_ret
   exact ⟨A,c,rfl,hc,hcm,hA,hB⟩
def GilK (q n b k:Nat):Prop:=k<=n/\(k=0∨b<q ^ (n - k))/\∀ k',k<k'->k'<=n->q ^ (n - k')<=b
theorem gilbertOk_any (q n d:Nat) (w:World) (hout:Calls Try.prog 30 #[.int .i64 (q:Nat),.int .i64 (n:Nat),.int .i64 (d:Nat)] w fun e w'=>e=.returned (.bool false)/\w=w') (hq:2<=q) (hq2:q<=256) (hn1:1<=n) (hn:n<=64) (hd1:1<=d) (hd:d<=n) :
  Calls Try.prog 15 #[.int .i64 (q:Nat),.int .i64 (n:Nat),.int .i64 (d:Nat)] w fun e w'=>(∃ k:Nat,e=.returned (.tuple #[.int .i64 (k:Nat),.int .i64 0])/\GilK q n (vol q (n - 1) (d - 1)) k)/\Below w.heap.size w w':=by
 have HO:=hid hout
 have e1:((n:Int) - 1)=((n - 1:Nat):Int):=by omega
 have e2:((d:Int) - 2)=(((d - 1:Nat):Int) - 1):=by omega
 have E1:=hid e1
 have E2:=hid e2
 have hdv:=dl_vol (q:=q) (n:=n - 1) (k:=d - 1) (by omega) (by omega) (by omega)
 clear hout e1 e2
 go_enter Try.func15, Try.ntmps15
 go_wp2_with fail
 refine HO.out.mono ?_
 rintro e w1 ⟨rfl,rfl⟩
 go_wp2_with fail
 rw [E1.out,E2.out]
 refine (volumeK_any q (n - 1) (d - 1) w (by omega) hq2 (by omega) (by omega)).mono ?_
 rintro e w1 ⟨A,c,rfl,h1,h2,h3,h4⟩
 go_wp2
 go_loopg [9] n (fun gg kv wx=>∃ k:Nat,kv=.int .i64 (k:Nat)/\k<=n/\k<=gg/\Hid (∀ k',k<k'->k'<=n->q ^ (n - k')<=vol q (n - 1) (d - 1))/\NatOk wx wx.heap.size A (vol q (n - 1) (d - 1))/\Below w.heap.size w wx)
 case atStart=>exact ⟨n,rfl,by omega,by omega,hid fun k' a b=>absurd a (by omega),h3,h4⟩
 case round =>
  clear h3 h4
  obtain ⟨k,rfl,hk,hkg,HK,hA,hB⟩:=hrel
  by_cases h0:0<k
  ·have h0':(0:Int)<(k:Int):=by omega
   have E3:=hid (show ((n:Int) - (k:Int))=((n - k:Nat):Int) by omega)
   have hdp:=dl_power (q:=q) (n:=n - k) (by omega) (by omega)
   go_wp2_with fail
   rw [E3.out]
   refine (power_any q (n - k) wr (by omega) (by omega)).mono ?_
   rintro e w2 ⟨A2,c2,rfl,g1,g2,g3,g4⟩
   have hA2:=hA.on g4
   have hB2:=onS hB g4
   clear hA hB g4
   go_wp2_with fail
   refine (natCmp_any A2 A c2 c (q ^ (n - k)) (vol q (n - 1) (d - 1)) w2 g3 hA2 g1 g2 h1 h2 (by omega)).mono ?_
   rintro e w3 ⟨rfl,hb3⟩
   have hA3:=hA2.on hb3
   have hB3:=onS hB2 hb3
   clear hA2 hB2 hb3 g3
   by_cases hle:q ^ (n - k)<=vol q (n - 1) (d - 1)
   ·have hc:cmpN (q ^ (n - k)) (vol q (n - 1) (d - 1))<=0:=by
     rcases Nat.lt_or_ge (q ^ (n - k)) (vol q (n - 1) (d - 1)) with e | e
     ·rw [cmpN_lt e]; omega
     ·rw [cmpN_eq (by omega)]; omega
    have HN:Hid (∀ k',k - 1<k'->k'<=n->q ^ (n - k')<=vol q (n - 1) (d - 1)):=fun k' a b=>by
     by_cases e:k'=k
     ·rw [e]; exact hle
     ·exact HK.out k' (by omega) b
    obtain ⟨z,hz⟩:∃ z,z=cmpN (q ^ (n - k)) (vol q (n - 1) (d - 1)):=⟨_,rfl⟩
    rw [<-hz] at hc ⊢
    clear hz hle
    go_wp2
    go_roundg (gk - 1)
    case measure=>omega
    case rel=>exact ⟨k - 1,by rw [show ((k - 1:Nat):Int)=(k:Int) - 1 by omega],by omega,by omega,HN,hA3,hB3⟩
   ·have HG:=hid (show vol q (n - 1) (d - 1)<q ^ (n - k) by omega)
    have hc:¬ cmpN (q ^ (n - k)) (vol q (n - 1) (d - 1))<=0:=by rw [cmpN_gt HG.out]; omega
    obtain ⟨z,hz⟩:∃ z,z=cmpN (q ^ (n - k)) (vol q (n - 1) (d - 1)):=⟨_,rfl⟩
    rw [<-hz] at hc ⊢
    clear hz hle
    go_wp2
    go_ret2
    exact ⟨⟨k,rfl,hk,.inr HG.out,HK.out⟩,hB3⟩
  ·obtain rfl:k=0:=by omega
   go_wp2
   go_ret2
   exact ⟨⟨0,rfl,by omega,.inl rfl,HK.out⟩,hB⟩
def rangeOk (q n d:Int):Bool:=decide (2<=q/\q<=256/\1<=n/\n<=64/\1<=d/\d<=n)
theorem range_any (q n d:Int) (w:World) :
  Calls Try.prog 13 #[.int .i64 q,.int .i64 n,.int .i64 d] w fun e w'=>e=.returned (.bool (rangeOk q n d))/\w=w':=by
 have HT:Hid (∀ b:Bool,(b=true↔(2<=q/\q<=256/\1<=n/\n<=64/\1<=d/\d<=n))->Ending.returned (Value.bool b)=.returned (.bool (rangeOk q n d))):=fun b hb=>by
  unfold rangeOk
  rw [Bool.eq_iff_iff.2 (hb.trans (decide_eq_true_iff).symm)]
 go_enter Try.func13, Try.ntmps13
 go_wp2
 all_goals
  go_ret
  refine ⟨HT.out _ ?_,rfl⟩
  simp
  try omega
theorem out_any (q n d:Int) (w:World) :
  Calls Try.prog 30 #[.int .i64 q,.int .i64 n,.int .i64 d] w fun e w'=>e=.returned (.bool (!rangeOk q n d))/\w=w':=by
 have HT:Hid (∀ b:Bool,(b=true↔¬ (2<=q/\q<=256/\1<=n/\n<=64/\1<=d/\d<=n))->Ending.returned (Value.bool b)=.returned (.bool (!rangeOk q n d))):=fun b hb=>by
  have:b=!rangeOk q n d:=by
   rw [Bool.eq_iff_iff,hb]
   simp [rangeOk]
   omega
  rw [this]
 go_enter Try.func30, Try.ntmps30
 go_wp2
 all_goals
  go_ret
  refine ⟨HT.out _ ?_,rfl⟩
  simp
  try omega
theorem wtC_congr {c c':Nat->Nat}:∀ t,(∀ i,i<t->c i=c' i)->wtC c t=wtC c' t
 | 0,_=>rfl
 | t+1,h=>by
  show wtC c t+_=wtC c' t+_
  rw [wtC_congr t fun i hi=>h i (by omega),h t (by omega)]
section
variable {q r:Nat} {add mul:Nat->Nat->Nat}
theorem spE_upd {h:Nat->Nat->Nat} {c:Nat->Nat} {t a j:Nat}:∀ s,s<=t->spE add mul h (fun i=>if i=t then a else c i) s j=spE add mul h c s j:=fun s hs=>zbo s fun i hi=>⟨if_neg (by omega),rfl⟩
theorem GrSt.lower {d:Nat} {h:Nat->Nat->Nat} (hL:FieldLaws q add mul):∀ t L,GrSt q r add mul d t h L->∀ v,v<q ^ r->2<=d->L v<=d - 2->∃ c:Nat->Nat,(∀ i,c i<q)/\wtC c t<=L v/\v=idxW q (fun j=>spE add mul h c t j) r
 | 0, L, H, v, hv, hd, hle => by
  have hq:=hL.two
  rw [H v hv] at hle
  by_cases e:v=0
  ·refine ⟨fun _=>0,fun _=>by show 0<q; omega,Nat.zero_le _,?_⟩
   have e1:idxW q (fun _=>0) r=0:=by
    clear H hv hle
    induction r with
    | zero=>rfl
    | succ r ih=>show idxW q (fun _=>0) r*q+0=0; rw [ih]; omega
   rw [e]; exact e1.symm
  ·rw [if_neg e] at hle; omega
 | t + 1, L, H, v, hv, hd, hle => by
  have hlt:=H.lt (by have:=hL.two; omega)
  obtain ⟨L0,v0,h1,h2,h3,h4,h5,h6⟩:=H
  have hq:=hL.two
  have hht:=hlt t (by omega)
  rcases h6.from' v hv with g | ⟨a,u,hD,g1,g2⟩
  ·obtain ⟨c,k1,k2,k3⟩:=GrSt.lower hL t L0 h1 v hv hd (by omega)
   refine ⟨fun i=>if i=t then 0 else c i,fun i=>by show (if i=t then 0 else c i)<q; split; omega; exact k1 i,?_,?_⟩
   ·show wtC _ t+(if (if t=t then 0 else c t)=0 then 0 else 1)<=L v
    rw [if_pos rfl,if_pos rfl,wtC_congr t (c':=c) fun i hi=>if_neg (by omega)]
    omega
   ·refine k3.trans (zas _ fun j hj=>?_)
    show spE add mul h c t j=add (spE add mul h (fun i=>if i=t then 0 else c i) t j) (mul (if t=t then 0 else c t) (h t j))
    rw [if_pos rfl,spE_upd t (Nat.le_refl _),hL.mulComm 0 _ (by omega) (hht j hj),hL.mulZero (hht j hj),hL.addZero (zaR hL _ _ _)]
  ·obtain ⟨c,k1,k2,k3⟩:=GrSt.lower hL t L0 h1 u hD.2.2 hd (by omega)
   refine ⟨fun i=>if i=t then a else c i,fun i=>by show (if i=t then a else c i)<q; split; exact hD.2.1; exact k1 i,?_,?_⟩
   ·show wtC _ t+(if (if t=t then a else c t)=0 then 0 else 1)<=L v
    rw [if_pos rfl,if_neg (by have:=hD.1; omega),wtC_congr t (c':=c) fun i hi=>if_neg (by omega)]
    omega
   ·refine g1.trans (zas _ fun j hj=>?_)
    show add (digW q r u j) (mul a (h t j))=add (spE add mul h (fun i=>if i=t then a else c i) t j) (mul (if t=t then a else c t) (h t j))
    rw [if_pos rfl,spE_upd t (Nat.le_refl _),k3,zca (by omega) r (fun i _=>zaR hL _ _ _) j hj]
end
theorem chs_up (n k:Nat):chs n k<=chs (n+1) k:=by
 cases k with
 | zero=>simp [chs]
 | succ k=>show chs n (k+1)<=chs n k+chs n (k+1); omega
theorem vol_up (q:Nat) {n n':Nat} (h:n<=n') (k:Nat):vol q n k<=vol q n' k:=by
 obtain ⟨m,rfl⟩:∃ m,n'=n+m:=⟨n' - n,by omega⟩
 clear h
 induction m with
 | zero=>exact Nat.le_refl _
 | succ m ih =>
  refine Nat.le_trans ih ?_
  show vol q (n+m) k<=vol q (n+m+1) k
  clear ih
  induction k with
  | zero=>exact Nat.le_refl _
  | succ k ih=>exact Nat.add_le_add ih (Nat.mul_le_mul_right _ (chs_up _ _))
theorem vol_pascal (q n:Nat):∀ s,vol q (n+1) (s+1)=vol q n (s+1)+(q - 1)*vol q n s
 | 0=>by simp [vol,chs]
 | s+1=>by
  have ih:=vol_pascal q n s
  have e1:vol q (n+1) (s+1+1)=vol q (n+1) (s+1)+chs (n+1) (s+1)*(q - 1) ^ (s+1):=rfl
  have e2:vol q n (s+1+1)=vol q n (s+1)+chs n (s+1)*(q - 1) ^ (s+1):=rfl
  have e3:vol q n (s+1)=vol q n s+chs n s*(q - 1) ^ s:=rfl
  have e4:chs (n+1) (s+1)=chs n s+chs n (s+1):=rfl
  have e5:(q - 1)*(chs n s*(q - 1) ^ s)=chs n s*(q - 1) ^ (s+1):=by rw [Nat.pow_succ,Nat.mul_comm ((q - 1) ^ s),Nat.mul_left_comm]
  rw [e1,ih,e2,e4,Nat.add_mul]
  have e6:(q - 1)*vol q n (s+1)=(q - 1)*vol q n s+chs n s*(q - 1) ^ (s+1):=by rw [e3,Nat.mul_add,e5]
  omega
theorem vol_zero (q:Nat):∀ s,vol q 0 (s+1)=1
 | 0=>by simp [vol,chs]
 | s+1=>by
  show vol q 0 (s+1)+chs 0 (s+1)*(q - 1) ^ (s+1)=1
  rw [vol_zero q s,show chs 0 (s+1)=0 from rfl,Nat.zero_mul]
theorem vol_le {q:Nat} (hq:1<=q):∀ n s,vol q n s<=q ^ n
 | _,0=>Nat.zero_le _
 | 0,s+1=>by rw [vol_zero]; simp
 | n + 1, s + 1 => by
  rw [vol_pascal]
  have h1:=vol_le hq n (s+1)
  have h2:=Nat.mul_le_mul_left (q - 1) (vol_le hq n s)
  have h3:q ^ (n+1)=q ^ n+(q - 1)*q ^ n:=by
   obtain ⟨p,rfl⟩:∃ p,q=p+1:=⟨q - 1,by omega⟩
   rw [Nat.pow_succ,show p+1 - 1=p by omega,Nat.mul_comm,Nat.add_mul,Nat.one_mul,Nat.add_comm]
  omega
def rkW (q:Nat) (c:Nat->Nat):Nat->Nat->Nat
 | 0,_=>0
 | t+1,s=>if c t=0 then rkW q c t s else vol q t s+(c t - 1)*vol q t (s - 1)+rkW q c t (s - 1)
theorem rkW_lt {q:Nat} {c:Nat->Nat}:∀ t s,(∀ i,i<t->c i<q)->wtC c t<s->rkW q c t s<vol q t s
 | 0,s,_,h=>by
  obtain ⟨s,rfl⟩:∃ s',s=s'+1:=⟨s - 1,by have:0<s:=h; omega⟩
  rw [vol_zero]; show 0<1; omega
 | t + 1, s, hc, h => by
  obtain ⟨s,rfl⟩:∃ s',s=s'+1:=⟨s - 1,by omega⟩
  have h':wtC c t+(if c t=0 then 0 else 1)<s+1:=h
  have hct:=hc t (by omega)
  rw [vol_pascal]
  show (if c t=0 then rkW q c t (s+1) else vol q t (s+1)+(c t - 1)*vol q t s+rkW q c t s)<_
  by_cases e:c t=0
  ·rw [if_pos e] at h' ⊢
   have:=rkW_lt t (s+1) (fun i hi=>hc i (by omega)) (by omega)
   omega
  ·rw [if_neg e] at h' ⊢
   have h1:=rkW_lt t s (fun i hi=>hc i (by omega)) (by omega)
   have h2:(c t - 1+1)*vol q t s<=(q - 1)*vol q t s:=Nat.mul_le_mul_right _ (by omega)
   rw [Nat.add_mul,Nat.one_mul] at h2
   omega
theorem rkW_inj {q:Nat} {c c':Nat->Nat}:∀ t s,(∀ i,i<t->c i<q)->(∀ i,i<t->c' i<q)->wtC c t<s->wtC c' t<s->rkW q c t s=rkW q c' t s->∀ i,i<t->c i=c' i
 | 0,_,_,_,_,_,_,i,hi=>absurd hi (by omega)
 | t + 1, s, hc, hc', h, h', e, i, hi => by
  obtain ⟨s,rfl⟩:∃ s',s=s'+1:=⟨s - 1,by omega⟩
  have w1:wtC c t+(if c t=0 then 0 else 1)<s+1:=h
  have w2:wtC c' t+(if c' t=0 then 0 else 1)<s+1:=h'
  have e':(if c t=0 then rkW q c t (s+1) else vol q t (s+1)+(c t - 1)*vol q t s+rkW q c t s)=(if c' t=0 then rkW q c' t (s+1) else vol q t (s+1)+(c' t - 1)*vol q t s+rkW q c' t s):=e
  have k1:∀ i,i<t->c i<q:=fun i hi=>hc i (by omega)
  have k2:∀ i,i<t->c' i<q:=fun i hi=>hc' i (by omega)
  by_cases a:c t=0
  ·rw [if_pos a] at e' w1
   have r1:=rkW_lt t (s+1) k1 (by omega)
   by_cases b:c' t=0
   ·rw [if_pos b] at e' w2
    by_cases ei:i=t
    ·rw [ei,a,b]
    ·exact rkW_inj t (s+1) k1 k2 (by omega) (by omega) e' i (by omega)
   ·rw [if_neg b] at e'; omega
  ·rw [if_neg a] at e' w1
   by_cases b:c' t=0
   ·rw [if_pos b] at e' w2
    have r2:=rkW_lt t (s+1) k2 (by omega)
    omega
   ·rw [if_neg b] at e' w2
    have r1:=rkW_lt t s k1 (by omega)
    have r2:=rkW_lt t s k2 (by omega)
    have hab:c t - 1=c' t - 1:=by
     rcases Nat.lt_trichotomy (c t - 1) (c' t - 1) with x | x | x
     ·have:=Nat.mul_le_mul_right (vol q t s) (show c t - 1+1<=c' t - 1 by omega)
      rw [Nat.add_mul,Nat.one_mul] at this
      omega
     ·exact x
     ·have:=Nat.mul_le_mul_right (vol q t s) (show c' t - 1+1<=c t - 1 by omega)
      rw [Nat.add_mul,Nat.one_mul] at this
      omega
    rw [hab] at e'
    by_cases ei:i=t
    ·rw [ei]; omega
    ·exact rkW_inj t s k1 k2 (by omega) (by omega) (by omega) i (by omega)
section
variable {q r:Nat} {add mul:Nat->Nat->Nat}
theorem GrSt.ball {d:Nat} {h:Nat->Nat->Nat} {t:Nat} {L:Nat->Nat} (hL:FieldLaws q add mul) (H:GrSt q r add mul d t h L) (hs:∀ v,v<q ^ r->2<=d/\L v<=d - 2):q ^ r<=vol q t (d - 1):=by
 have hq:=hL.two
 have hch:∀ v,∃ c:Nat->Nat,v<q ^ r->(∀ i,c i<q)/\wtC c t<=L v/\v=idxW q (fun j=>spE add mul h c t j) r:=fun v=>by
  by_cases hv:v<q ^ r
  ·obtain ⟨h1,h2⟩:=hs v hv
   obtain ⟨c,g1,g2,g3⟩:=H.lower hL t L v hv h1 h2
   exact ⟨c,fun _=>⟨g1,g2,g3⟩⟩
  ·exact ⟨fun _=>0,fun g=>absurd g hv⟩
 obtain ⟨F,hF⟩:=Classical.skolem.1 hch
 refine pigeon (f:=fun v=>rkW q (F v) t (d - 1)) (fun v hv=>?_) fun v v' hv hv' e=>?_
 ·obtain ⟨g1,g2,_⟩:=hF v hv
  have:=hs v hv
  exact rkW_lt t (d - 1) (fun i _=>g1 i) (by omega)
 ·obtain ⟨g1,g2,g3⟩:=hF v hv
  obtain ⟨g1',g2',g3'⟩:=hF v' hv'
  have k1:=hs v hv
  have k2:=hs v' hv'
  have hc:=rkW_inj t (d - 1) (fun i _=>g1 i) (fun i _=>g1' i) (by omega) (by omega) e
  rw [g3,g3']
  exact zas r fun j _=>zbo t fun i hi=>⟨hc i hi,rfl⟩
theorem GrSt.varshamov {d n k:Nat} {h:Nat->Nat->Nat} {t:Nat} {L:Nat->Nat} (hL:FieldLaws q add mul) (H:GrSt q r add mul d t h L) (hs:∀ v,v<q ^ r->2<=d/\L v<=d - 2) (ht:t<n) (hr:r=n - k) (hk:k=0∨vol q (n - 1) (d - 1)<q ^ (n - k)):False:=by
 have hq:=hL.two
 have h1:=H.ball hL hs
 have h2:=vol_up q (show t<=n - 1 by omega) (d - 1)
 rcases hk with rfl | hk
 ·have h3:=vol_le (q:=q) (by omega) (n - 1) (d - 1)
  have h4:q ^ (n - 1)<q ^ r:=Nat.pow_lt_pow_right (by omega) (by omega)
  omega
 ·rw [hr] at h1; omega
end
theorem boundsVarshamov_any (P M:Int) (A:Option Addr) (k c:Nat) (f:Nat->Int) (n d:Int) (w:World) (hr:IntsR w w.heap.size A k f) (hkc:k<=c) :
  Calls Try.prog 4 #[.agg #[.int .i64 P,.int .i64 M,.slice A k c],.int .i64 n,.int .i64 d] w fun e w'=>e=.returned (.bool true)/\Below w.heap.size w w':=by
 have HR:=hid hr
 clear hr
 have hB:Below w.heap.size w (w.alloc (.cells #[.int .i64 P,.int .i64 M,.slice A k c] 24)):=(Below.refl _ _).alloc (Nat.le_refl _) _
 have rf:=zad (w:=w) (a:=.int .i64 P) (b:=.int .i64 M) (c:=.slice A k c) (T := 24)
 obtain ⟨w1,hw1⟩:∃ W,W=w.alloc (.cells #[.int .i64 P,.int .i64 M,.slice A k c] 24):=⟨_,rfl⟩
 rw [<-hw1] at hB rf
 go_enter Try.func4, Try.ntmps4
 go_upto_region 1 with fail
 rw [<-hw1]
 clear hw1
 obtain ⟨b0,hb0⟩:∃ b,b=w.heap.size:=⟨_,rfl⟩
 rw [<-hb0] at rf
 rw [<-hb0]
 clear hb0
 have q0:w1.cell? ⟨b0,0,none⟩=some (.int .i64 P):=rf.cell (i:=0) (by omega)
 have q1:w1.cell? ⟨b0,1,none⟩=some (.int .i64 M):=rf.cell (i:=1) (by omega)
 have q2:w1.cell? ⟨b0,2,none⟩=some (.slice A k c):=rf.cell (i:=2) (by omega)
 go_wp2_with fail
 refine (zdg P M A k c f w1 (HR.out.on hB)).mono ?_
 rintro e w2 ⟨v,rfl,hv,kb⟩
 replace rf:=zaa rf kb
 replace hB:=onS hB kb
 clear kb q0 q1 q2
 rcases hv with ⟨rfl,hg⟩ | ⟨rfl,_⟩
 rotate_left
 ·go_wp2
  go_ret
  exact ⟨rfl,hB⟩
 have hg2:=hg
 obtain ⟨P',M',hP,hM,hfo,hpr,hmo⟩:=hg2
 subst hP hM
 clear hmo hpr
 have HG:=hid hg
 have HFO:=hid hfo
 have HO:=hid (zbh hfo)
 obtain ⟨q,hq⟩:∃ q,q=P' ^ M':=⟨_,rfl⟩
 have HQ:=hid hq
 have hq256:q<=256:=by rw [hq]; exact hfo.2.2.2
 have h2q:2<=q:=by rw [hq]; exact (fieldLaws hg.field.1).two
 clear hq hg hfo
 have q0:w2.cell? ⟨b0,0,none⟩=some (.int .i64 (P':Nat)):=rf.cell (i:=0) (by omega)
 have q1:w2.cell? ⟨b0,1,none⟩=some (.int .i64 (M':Nat)):=rf.cell (i:=1) (by omega)
 have q2:w2.cell? ⟨b0,2,none⟩=some (.slice A k c):=rf.cell (i:=2) (by omega)
 go_wp2_with fail
 refine (za0 (P':Int) (M':Int) A k c w2).mono ?_
 rintro e w3 ⟨rfl,kb⟩
 rw [HO.out,<-HQ.out]
 replace rf:=zaa rf kb
 replace hB:=onS hB kb
 clear kb q0 q1 q2
 go_wp2_with fail
 refine (range_any (q:Int) n d w3).mono ?_
 rintro e w4 ⟨rfl,hw4⟩
 subst hw4
 obtain hro | hro:=Bool.eq_false_or_eq_true (rangeOk (q:Int) n d)
 rotate_left
 ·rw [hro]
  clear hro
  go_wp2
  go_ret
  exact ⟨rfl,hB⟩
 rw [hro]
 have hro2:2<=(q:Int)/\(q:Int)<=256/\1<=n/\n<=64/\1<=d/\d<=n:=by
  unfold rangeOk at hro
  exact of_decide_eq_true hro
 obtain ⟨_,_,hn1,hn64,hd1,hdn⟩:=hro2
 obtain ⟨n,rfl⟩:∃ x:Nat,n=x:=⟨n.toNat,by omega⟩
 obtain ⟨d,rfl⟩:∃ x:Nat,d=x:=⟨d.toNat,by omega⟩
 have HRO:=hid hro
 clear hro
 have q0:w3.cell? ⟨b0,0,none⟩=some (.int .i64 (P':Nat)):=rf.cell (i:=0) (by omega)
 have q1:w3.cell? ⟨b0,1,none⟩=some (.int .i64 (M':Nat)):=rf.cell (i:=1) (by omega)
 have q2:w3.cell? ⟨b0,2,none⟩=some (.slice A k c):=rf.cell (i:=2) (by omega)
 go_wp2_with fail
 refine (za0 (P':Int) (M':Int) A k c w3).mono ?_
 rintro e w5 ⟨rfl,kb⟩
 rw [HO.out,<-HQ.out]
 replace rf:=zaa rf kb
 replace hB:=onS hB kb
 clear kb q0 q1 q2
 go_wp2_with fail
 refine (gilbertOk_any q n d w5 ((out_any (q:Int) (n:Int) (d:Int) w5).mono fun e W h=>by rw [HRO.out] at h; exact h) h2q hq256 (by omega) (by omega) (by omega) (by omega)).mono ?_
 rintro e w6 ⟨⟨kk,rfl,hgk⟩,kb⟩
 have HGK:=hid hgk
 have hkn:kk<=n:=hgk.1
 replace rf:=zaa rf kb
 replace hB:=onS hB kb
 clear kb hgk
 have c1:decide ((kk:Int)<0)=false:=decide_eq_false (by omega)
 have c2:decide ((kk:Int) > (n:Int))=false:=decide_eq_false (by omega)
 obtain ⟨r,hr⟩:∃ r,r=n - kk:=⟨_,rfl⟩
 have hnk:IntKind.i64.wrap ((n:Int) - (kk:Int))=(r:Int):=by rw [IntWalk.i64_in _ (by omega)]; omega
 have HRR:=hid hr
 have hrn:r<=n:=by omega
 clear hr
 have q0:w6.cell? ⟨b0,0,none⟩=some (.int .i64 (P':Nat)):=rf.cell (i:=0) (by omega)
 have q1:w6.cell? ⟨b0,1,none⟩=some (.int .i64 (M':Nat)):=rf.cell (i:=1) (by omega)
 have q2:w6.cell? ⟨b0,2,none⟩=some (.slice A k c):=rf.cell (i:=2) (by omega)
 by_cases h16:(r:Int) > 16
 ·have h16':decide ((r:Int) > 16)=true:=decide_eq_true h16
  go_wp2
  go_ret
  exact ⟨rfl,hB⟩
 have h16':decide ((r:Int) > 16)=false:=decide_eq_false h16
 go_wp2_with fail
 refine (za0 (P':Int) (M':Int) A k c w6).mono ?_
 rintro e w7 ⟨rfl,kb⟩
 rw [HO.out,<-HQ.out]
 replace rf:=zaa rf kb
 replace hB:=onS hB kb
 clear kb q0 q1 q2
 go_wp2_with fail
 refine (zbg q r w7 (by omega) hq256 (by omega)).mono ?_
 rintro e w8 ⟨rfl,hw8⟩
 subst hw8
 by_cases hbig:q ^ r<=65536
 rotate_left
 ·have hvn:vecN q r=0:=by unfold vecN; rw [if_neg hbig]
  rw [hvn]
  clear hbig hvn
  go_wp2
  go_ret
  exact ⟨rfl,hB⟩
 obtain ⟨Q,hQ⟩:∃ Q,Q=q ^ r:=⟨_,rfl⟩
 rw [<-hQ] at hbig
 have hQ0:0<Q:=by rw [hQ]; exact Nat.pow_pos (by omega)
 have hvn:vecN q r=Q:=by unfold vecN; rw [<-hQ,if_pos hbig]
 rw [hvn]
 have hQz:((Q:Int) == 0)=false:=by
  have h0:¬ (Q:Int)=0:=by omega
  simpa using h0
 have HQr:=hid hQ
 clear hQ hvn
 have q0:w7.cell? ⟨b0,0,none⟩=some (.int .i64 (P':Nat)):=rf.cell (i:=0) (by omega)
 have q1:w7.cell? ⟨b0,1,none⟩=some (.int .i64 (M':Nat)):=rf.cell (i:=1) (by omega)
 have q2:w7.cell? ⟨b0,2,none⟩=some (.slice A k c):=rf.cell (i:=2) (by omega)
 go_wp2_with fail
 refine (zeo P' M' A k c n r q (d:Int) w7 HFO.out HQ (by omega)).mono ?_
 rintro e w8 ⟨⟨b,rfl,hb⟩,kb⟩
 replace rf:=zaa rf kb
 replace hB:=onS hB kb
 clear kb q0 q1 q2
 obtain hbt | hbt:=Bool.eq_false_or_eq_true b
 rotate_left
 ·subst hbt
  clear hb
  go_wp2
  go_ret
  exact ⟨rfl,hB⟩
 subst hbt
 clear hb
 obtain ⟨m,hm⟩:∃ m,m=fun i=>(f i).toNat:=⟨_,rfl⟩
 have HMm:=hid hm
 have hfld:FieldOk P' M' m:=by rw [hm]; exact HG.out.field.1
 have HFL:=hid hfld
 have hk8:k<=1048576:=by
  have h8:=HFO.out.2.2.1
  obtain ⟨P2,M2,h1,h2,h3,h4,h5⟩:=HG.out
  rcases h5 with ⟨_,e⟩ | ⟨_,e,_⟩ <;> omega
 clear hm hfld
 have q0:w8.cell? ⟨b0,0,none⟩=some (.int .i64 (P':Nat)):=rf.cell (i:=0) (by omega)
 have q1:w8.cell? ⟨b0,1,none⟩=some (.int .i64 (M':Nat)):=rf.cell (i:=1) (by omega)
 have q2:w8.cell? ⟨b0,2,none⟩=some (.slice A k c):=rf.cell (i:=2) (by omega)
 go_wp2_with fail
 refine (zdq P' M' m A k c f n r d Q q w8 (HR.out.on hB) HMm hkc hk8 HG.out HQ HQr hbig (by omega) (by omega) (by omega) (by omega) (by omega)).mono ?_
 rintro e w9 ⟨kb,hcase⟩
 have HB9:=hid (onS hB kb)
 have HLAW:Hid (FieldLaws q (addF P' M') (mulF P' M' m)):=by rw [HQ.out]; exact hid (fieldLaws HFL.out)
 clear q0 q1 q2 hB rf
 rcases hcase with ⟨t,h,L,htn,hgs,hst,rfl⟩ | ⟨h,L,v,lv,a,W,hgs,rfl,hO,hM,hrel⟩
 ·exact absurd (GrSt.varshamov (n:=n) (k:=kk) HLAW.out hgs hst htn HRR.out HGK.out.2.1) not_false
 ·obtain ⟨VA,vc,hvs⟩:=hO.shape
  subst hvs
  obtain ⟨LA,lc,hlv⟩:=hM.shape
  subst hlv
  have hltH:=hgs.lt (show 0<q by omega)
  have hneg:∀ x,x<q->negF P' M' x<q/\addF P' M' x (negF P' M' x)=0:=fun x _=>by
   have hP0:0<P':=by have:=HFO.out.1; omega
   rw [HQ.out]
   exact ⟨zcl hP0,zcV hP0⟩
  have hdim:n<=r+a:=hrel.rows HLAW.out hneg fun i hi j hj=>hltH j hj i hi
  have hak:kk<=a:=by have:=HRR.out; omega
  have hge:decide ((a:Int) ≥ (kk:Int))=true:=decide_eq_true (by omega)
  have hgeP:(a:Int) ≥ (kk:Int):=by omega
  clear hgs hrel hO hM hneg hltH kb
  go_upto_region 9 with fail
  have rb:=zaT (w:=w9) (a:=.int .i64 (P':Nat)) (b:=.int .i64 (M':Nat)) (c:=.slice VA k vc) (d:=.int .i64 (n:Nat)) (e:=.slice LA a lc) (T := 30)
  have kb:Below w9.heap.size w9 (w9.alloc (.cells #[.int .i64 (P':Nat),.int .i64 (M':Nat),.slice VA k vc,.int .i64 (n:Nat),.slice LA a lc] 30)):=(Below.refl _ _).alloc (Nat.le_refl _) _
  obtain ⟨w10,hw10⟩:∃ W,W=w9.alloc (.cells #[.int .i64 (P':Nat),.int .i64 (M':Nat),.slice VA k vc,.int .i64 (n:Nat),.slice LA a lc] 30):=⟨_,rfl⟩
  rw [<-hw10] at rb kb ⊢
  clear hw10
  have b3:w10.cell? ⟨w9.heap.size,3,none⟩=some (.int .i64 (n:Nat)):=rb.cell (i:=3) (by omega)
  have b4:w10.cell? ⟨w9.heap.size,4,none⟩=some (.slice LA a lc):=rb.cell (i:=4) (by omega)
  have hB10:=onS HB9.out kb
  go_wp2
  go_ret
  exact ⟨by simp,hB10⟩
theorem boundsVarshamov_law {H:Type} {enc:TypeId × Value->H} {w:World} {n d:Int} {cs:Array Value}
  (h:Sees enc Try.prog w 0 (fun _=>true) true 24 cs.toList) (_hn:(Lit.int .i64 n).wf=true) (_hd:(Lit.int .i64 d).wf=true) :
  Calls Try.prog 4 #[.agg cs,.int .i64 n,.int .i64 d] w fun e w'=>e=.returned (.bool true)/\Below w.heap.size w w':=by
 obtain ⟨cs⟩:=cs
 obtain ⟨P,M,A,k,c,f,rfl,hkc,_,hf⟩:=zd4 h
 exact boundsVarshamov_any P M A k c f n d w hf hkc
end Go.Proofs.Ytioagplajkoohaa