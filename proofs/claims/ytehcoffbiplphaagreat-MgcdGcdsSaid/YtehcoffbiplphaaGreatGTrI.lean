import Derived.Test.YtehcoffbiplphaaGreatGLims
set_option linter.all false
namespace Go.Proofs.YtehcoffbiplphaaGreat
open aG
def aed {n m:Nat}(f:Nat->Nat) (h:n<=m):nS n f<=nS m f:=by
 induction m with
 | zero=>rw [show n=0 by omega];exact aK
 | succ m ih=>
   rcases qz m n with hl | hl
   . rw [show n=m+1 by omega];exact aK
   . have:=ih hl
     show nS n f<=nS m f+f m;omega
namespace Poly
section
variable {R : Type} [aG R]
def cut (k:Nat) (f:Poly R):Poly R:=⟨fun i=>if i<k then f.co i else 0,k,fun i hi=>af (by omega)⟩
def uN (k:Nat) (f:Poly R) (i:Nat):(cut k f).co i=if i<k then f.co i else 0:=rfl
def EC (k:Nat) (f:Poly R):(cut k f).Sh k:=fun i hi=>af (by omega)
def Bw (f:Poly R):cut 0 f=0:=Lp (EC 0 f)
def My {k:Nat} {f:Poly R}(h:f.Sh k):cut k f=f:=ext fun i=>by
 rw [uN];split
 . rfl
 . rw [h i (by omega)]
def Ib (k:Nat) (f:Poly R):cut (k+1) f=cut k f+mono k (f.co k):=ext fun i=>by
 rw [pM,uN,uN,dV];rcases Vf i k with h | h | h
 . rw [aM (by omega),aM h,af (by omega),aG.add_zero]
 . rw [aM (by omega),af (by omega),aM h,aG.zero_add,h]
 . rw [af (by omega),af (by omega),af (by omega),aG.add_zero]
def part (f g:Poly R) (k m:Nat):Poly R:=cut k f*g+mono k (f.co k)*cut m g
def RH (f g:Poly R):part f g 0 0=0:=by unfold part;rw [Bw,Bw,aG.zero_mul,aG.mul_zero,aG.add_zero]
def WX (f g:Poly R) (k m:Nat):part f g k (m+1)=part f g k m+mono (k+m) (f.co k*g.co m):=by
 unfold part;rw [Ib m,aG.mul_add,Gs,aG.add_assoc]
def ZF {f g:Poly R} {k m:Nat}(h:g.Sh m):part f g k m=part f g (k+1) 0:=by
 unfold part;rw [My h,Bw,aG.mul_zero,aG.add_zero,Ib,aG.add_mul]
def ZG {f g:Poly R} {k:Nat}(h:f.Sh k):part f g k 0=f*g:=by
 unfold part;rw [My h,Bw,aG.mul_zero,aG.add_zero]
def adU (f g:Poly R) (k m j:Nat):(part f g k (m+1)).co j=if j=k+m then (part f g k m).co j+f.co k*g.co m else (part f g k m).co j:=by
 rw [WX,pM,dV];split
 . rfl
 . rw [aG.add_zero]
end
section
variable {R : Type} [aI R]
def Um (k:Nat) (f:Poly R):jT (cut k f)=nS k fun i=>aI.nm (f.co i):=by
 rw [jm (EC k f)];exact qd fun i hi=>by rw [uN,aM hi]
def Oc (k:Nat) (f:Poly R):(nS k fun i=>aI.nm (f.co i))<=jT f:=by
 rcases qz k f.len with h | h
 . exact aed _ (nK h)
 . exact kQ (jm ((az f).mono h)).symm
def Gq (k:Nat) (f:Poly R):jT (cut k f)<=jT f:=by rw [Um];exact Oc k f
def adS (f g:Poly R) (k m:Nat):jT (part f g k m)<=jT f*jT g:=by
 unfold part;have h1:=Aq (cut k f*g) (mono k (f.co k)*cut m g);have h2:=uD g k (cut k f) (EC k f);have h3:=aH (mI k (f.co k) (cut m g)) (bl _ (Gq m g));have h4:jT (cut k f)+aI.nm (f.co k)<=jT f:=by
  rw [Um];exact Oc (k+1) f
 have h5:=bI (jT g) h4;rw [bQ] at h5;omega
def SX {D:Nat->Nat} {f:Poly R}(h:∀i,aI.dg D (f.co i)) (k i:Nat):aI.dg D ((cut k f).co i):=by
 rw [uN];split
 . exact h i
 . exact aI.fQ _
def adT {D E:Nat->Nat} {f g:Poly R}(h:∀i,aI.dg D (f.co i)) (h2:∀i,aI.dg E (g.co i)) (k m i:Nat):aI.dg (fun j=>D j+E j) ((part f g k m).co i):=by
 unfold part;rw [pM,oZ,oZ];refine aI.vY _ _ _ (zY fun j _=>aI.jb D E _ _ (SX h k j) (h2 _)) (zY fun j _=>aI.jb D E _ _ ?_ (SX h2 m _));rw [dV];split
 . exact h k
 . exact aI.fQ _
end
end Poly
section
open Go.RowKit
variable {T : TypeId} {S X : Nat -> Prop} {w0 wr : World} {H n : Nat} {v : Value} {E : List KE} {g g' : Nat -> Pn n}
def jx.congr (h:jx T S X w0 H wr n v E g) (e:∀i,i<E.length->g i=g' i):jx T S X w0 H wr n v E g':=
 ⟨h.lo,h.own,fun i hi=>by rw [<- e i hi];exact h.ok i hi,h.aB⟩
def BO (m:Nat):(madeCells #[Value.bool false,.slice none 0 0,.slice none 0 0] (m*3)).toList=iB (List.replicate m KE.nought):=by
 rw [H8];induction m with
 | zero=>simp [madeCells]
 | succ m ih=>
   rw [acz,List.flatten_append,<- ih];unfold madeCells;simp only [Array.toList_map,Array.toList_range];rw [show (m+1)*3=m*3+1+1+1 by omega,zn,zn,zn];simp
def jx.Uj (T:TypeId) (S X:Nat->Prop) (w0 w:World) (H n m:Nat) (hH:w0.heap.size<=H) (hw:H<=w.heap.size) (hb:Below w0.heap.size w0 w) (hm:m<=maxLen):
 jx T S X w0 H (w.alloc (.cells (madeCells #[Value.bool false,.slice none 0 0,.slice none 0 0] (m*3)) T)) n (.slice (some ⟨w.heap.size,0,none⟩) m m) (List.replicate m KE.nought) (fun _=>0):=by
 refine ⟨hH,⟨by rw [pq],.inr ⟨w.heap.size,m,_,by rw [gI],hw,bO w _,by simp,hm,size_madeCells _ _,?_⟩⟩,fun i hi=> ?_,hb.alloc hb.size _⟩
 . rw [BO,gI]
   refine gZ ?_;rw [pq,gI];exact aK
 . rw [LJ]
   exact aO.nought _ _ n
