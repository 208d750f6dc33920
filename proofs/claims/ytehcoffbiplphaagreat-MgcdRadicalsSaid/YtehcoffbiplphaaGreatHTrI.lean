import Derived.Test.YtehcoffbiplphaaGreatHLims
set_option linter.all false
namespace Go.Proofs.YtehcoffbiplphaaGreat
open aF
def afr {n m:Nat}(f:Nat->Nat) (h:n<=m):nS n f<=nS m f:=by
 induction m with
 | zero=>rw [show n=0 by omega];exact aL
 | succ m ih=>
   rcases pT m n with hl | hl
   . rw [show n=m+1 by omega];exact aL
   . have:=ih hl
     show nS n f<=nS m f+f m;omega
namespace Poly
section
variable {R : Type} [aF R]
def cut (k:Nat) (f:Poly R):Poly R:=⟨fun i=>if i<k then f.co i else 0,k,fun i hi=>aY (by omega)⟩
def uQ (k:Nat) (f:Poly R) (i:Nat):(cut k f).co i=if i<k then f.co i else 0:=rfl
def Ef (k:Nat) (f:Poly R):(cut k f).Sh k:=fun i hi=>aY (by omega)
def Cw (f:Poly R):cut 0 f=0:=MQ (Ef 0 f)
def NV {k:Nat} {f:Poly R}(h:f.Sh k):cut k f=f:=ext fun i=>by
 rw [uQ];split
 . rfl
 . rw [h i (by omega)]
def JD (k:Nat) (f:Poly R):cut (k+1) f=cut k f+mono k (f.co k):=ext fun i=>by
 rw [pJ,uQ,uQ,dZ];rcases Nat.lt_trichotomy i k with h | h | h
 . rw [aM (by omega),aM h,aY (by omega),aF.add_zero]
 . rw [aM (by omega),aY (by omega),aM h,aF.zero_add,h]
 . rw [aY (by omega),aY (by omega),aY (by omega),aF.add_zero]
def part (f g:Poly R) (k m:Nat):Poly R:=cut k f*g+mono k (f.co k)*cut m g
def SH (f g:Poly R):part f g 0 0=0:=by unfold part;rw [Cw,Cw,aF.zero_mul,aF.mul_zero,aF.add_zero]
def XT (f g:Poly R) (k m:Nat):part f g k (m+1)=part f g k m+mono (k+m) (f.co k*g.co m):=by
 unfold part;rw [JD m,aF.mul_add,IW,aF.add_assoc]
def Z8 {f g:Poly R} {k m:Nat}(h:g.Sh m):part f g k m=part f g (k+1) 0:=by
 unfold part;rw [NV h,Cw,aF.mul_zero,aF.add_zero,JD,aF.add_mul]
def Z9 {f g:Poly R} {k:Nat}(h:f.Sh k):part f g k 0=f*g:=by
 unfold part;rw [NV h,Cw,aF.mul_zero,aF.add_zero]
def afh (f g:Poly R) (k m j:Nat):(part f g k (m+1)).co j=if j=k+m then (part f g k m).co j+f.co k*g.co m else (part f g k m).co j:=by
 rw [XT,pJ,dZ];split
 . rfl
 . rw [aF.add_zero]
end
section
variable {R : Type} [aH R]
def Vc (k:Nat) (f:Poly R):jS (cut k f)=nS k fun i=>aH.nm (f.co i):=by
 rw [jt (Ef k f)];exact qc fun i hi=>by rw [uQ,aM hi]
def PJ (k:Nat) (f:Poly R):(nS k fun i=>aH.nm (f.co i))<=jS f:=by
 rcases pT k f.len with h | h
 . exact afr _ (oy h)
 . exact ig (jt ((ay f).mono h)).symm
def IQ (k:Nat) (f:Poly R):jS (cut k f)<=jS f:=by rw [Vc];exact PJ k f
def aff (f g:Poly R) (k m:Nat):jS (part f g k m)<=jS f*jS g:=by
 unfold part;have h1:=Bc (cut k f*g) (mono k (f.co k)*cut m g);have h2:=uD g k (cut k f) (Ef k f);have h3:=aG (mR k (f.co k) (cut m g)) (bn _ (IQ m g));have h4:jS (cut k f)+aH.nm (f.co k)<=jS f:=by
  rw [Vc];exact PJ (k+1) f
 have h5:=bG (jS g) h4;rw [bO] at h5;omega
def Te {D:Nat->Nat} {f:Poly R}(h:∀i,aH.dg D (f.co i)) (k i:Nat):aH.dg D ((cut k f).co i):=by
 rw [uQ];split
 . exact h i
 . exact aH.en _
def afg {D E:Nat->Nat} {f g:Poly R}(h:∀i,aH.dg D (f.co i)) (h2:∀i,aH.dg E (g.co i)) (k m i:Nat):aH.dg (fun j=>D j+E j) ((part f g k m).co i):=by
 unfold part;rw [pJ,oZ,oZ];refine aH.vn _ _ _ (zq fun j _=>aH.jh D E _ _ (Te h k j) (h2 _)) (zq fun j _=>aH.jh D E _ _ ?_ (Te h2 m _));rw [dZ];split
 . exact h k
 . exact aH.en _
end
end Poly
section
open Go.RowKit
variable {T : TypeId} {S X : Nat -> Prop} {w0 wr : World} {H n : Nat} {v : Value} {E : List KE} {g g' : Nat -> Pn n}
def j6.congr (h:j6 T S X w0 H wr n v E g) (e:∀i,i<E.length->g i=g' i):j6 T S X w0 H wr n v E g':=
 ⟨h.lo,h.own,fun i hi=>by rw [<- e i hi];exact h.ok i hi,h.aC⟩
def Bk (m:Nat):(madeCells #[Value.bool false,.slice none 0 0,.slice none 0 0] (m*3)).toList=iL (List.replicate m KE.nought):=by
 rw [Ip];induction m with
 | zero=>simp [madeCells]
 | succ m ih=>
   rw [adz,List.flatten_append,<- ih];unfold madeCells;simp only [Array.toList_map,Array.toList_range];rw [show (m+1)*3=m*3+1+1+1 by omega,AR,AR,AR];simp
def j6.VZ (T:TypeId) (S X:Nat->Prop) (w0 w:World) (H n m:Nat) (hH:w0.heap.size<=H) (hw:H<=w.heap.size) (hb:Below w0.heap.size w0 w) (hm:m<=maxLen):
 j6 T S X w0 H (w.alloc (.cells (madeCells #[Value.bool false,.slice none 0 0,.slice none 0 0] (m*3)) T)) n (.slice (some ⟨w.heap.size,0,none⟩) m m) (List.replicate m KE.nought) (fun _=>0):=by
 refine ⟨hH,⟨by rw [pz],.inr ⟨w.heap.size,m,_,by rw [fQ],hw,bM w _,by simp,hm,size_madeCells _ _,?_⟩⟩,fun i hi=> ?_,hb.alloc hb.size _⟩
 . rw [Bk,fQ]
   refine iC ?_;rw [pz,fQ];exact aL
 . rw [zQ]
   exact aO.nought _ _ n
