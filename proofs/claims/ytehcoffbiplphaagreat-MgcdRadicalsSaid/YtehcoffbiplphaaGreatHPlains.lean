import Derived.Test.YtehcoffbiplphaaGreatHAl
set_option linter.all false
namespace Go.Proofs.YtehcoffbiplphaaGreat
variable {f:Nat->Nat} {g c n a b d e t H la lb L l h L' e' t' V:Nat}
class aF (R:Type) extends Add R,Mul R,Neg R,Sub R,Zero R,One R,NatPow R where
 add_assoc:∀a b c:R,a+b+c=a+(b+c)
 add_comm:∀a b:R,a+b=b+a
 add_zero:∀a:R,a+0=a
 add_neg:∀a:R,a+ -a=0
 mul_assoc:∀a b c:R,a*b*c=a*(b*c)
 mul_comm:∀a b:R,a*b=b*a
 mul_one:∀a:R,a*1=a
 mul_add:∀a b c:R,a*(b+c)=a*b+a*c
 sub_def:∀a b:R,a-b=a+ -b
 pow_zero:∀a:R,a^0=1
 pow_succ:∀(a:R) (n:Nat),a^(n+1)=a^n*a
namespace aF
variable {R : Type} [aF R]
def zero_add (a:R):0+a=a:=by rw [add_comm,add_zero]
def neg_add (a:R): -a+a=0:=by rw [add_comm,add_neg]
def one_mul (a:R):1*a=a:=by rw [mul_comm,mul_one]
def add_mul (a b c:R):(a+b)*c=a*c+b*c:=by rw [mul_comm,mul_add,mul_comm c a,mul_comm c b]
def add_left_comm (a b c:R):a+(b+c)=b+(a+c):=by rw [<- add_assoc,add_comm a b,add_assoc]
def add_left_cancel {a b c:R}(h:a+b=a+c):b=c:=by
 have: -a+(a+b)= -a+(a+c):=by rw [h]
 rwa [<- add_assoc,<- add_assoc,neg_add,zero_add,zero_add] at this
def mul_zero (a:R):a*0=0:=by
 have h:a*0+a*0=a*0+0:=by rw [<- mul_add,add_zero,add_zero]
 exact add_left_cancel h
def zero_mul (a:R):0*a=0:=by rw [mul_comm,mul_zero]
def kj {a b:R}(h:a+b=0):b= -a:=by
 apply add_left_cancel (a:=a);rw [h,add_neg]
def neg_mul (a b:R): -a*b= -(a*b):=by
 apply kj;rw [<- add_mul,add_neg,zero_mul]
def mul_neg (a b:R):a* -b= -(a*b):=by rw [mul_comm,neg_mul,mul_comm]
def neg_neg (a:R): - -a=a:=(kj (neg_add a)).symm
def neg_zero: -(0:R)=0:=(kj (add_zero (0:R))).symm
def oD (a b:R): -(a+b)= -a+ -b:=by
 symm;apply kj
 rw [add_assoc,add_left_comm b,add_neg,add_zero,add_neg]
def neg_eq_zero {a:R}: -a=0↔a=0:=⟨fun h=>by rw [<- neg_neg a,h,neg_zero],fun h=>by rw [h,neg_zero]⟩
def neg_inj {a b:R}(h: -a= -b):a=b:=by rw [<- neg_neg a,h,neg_neg]
instance:Std.Associative (α:=R) (· + ·):=⟨add_assoc⟩
instance:Std.Commutative (α:=R) (· + ·):=⟨add_comm⟩
instance:Std.Associative (α:=R) (· * ·):=⟨mul_assoc⟩
instance:Std.Commutative (α:=R) (· * ·):=⟨mul_comm⟩
def sub_self (a:R):a-a=0:=by rw [sub_def,add_neg]
def sub_eq_zero {a b:R}:a-b=0↔a=b:=by
 constructor
 . intro h
   rw [sub_def] at h;exact (neg_inj (kj h)).symm
 . rintro rfl;exact sub_self a
def sub_add_cancel (a b:R):a-b+b=a:=by rw [sub_def,add_assoc,neg_add,add_zero]
def add_sub_cancel (a b:R):a+b-b=a:=by rw [sub_def,add_assoc,add_neg,add_zero]
def mul_sub (a b c:R):a*(b-c)=a*b-a*c:=by rw [sub_def,mul_add,mul_neg,sub_def]
def sub_mul (a b c:R):(a-b)*c=a*c-b*c:=by rw [mul_comm,mul_sub,mul_comm c a,mul_comm c b]
def neg_sub (a b:R): -(a-b)=b-a:=by rw [sub_def,oD,neg_neg,add_comm,sub_def]
def sub_zero (a:R):a-0=a:=by rw [sub_def,neg_zero,add_zero]
def pow_one (a:R):a^1=a:=by rw [pow_succ,pow_zero,one_mul]
def pow_add (a:R) (m n:Nat):a^(m+n)=a^m*a^n:=by
 induction n with
 | zero=>rw [pow_zero,mul_one,ja]
 | succ n ih=>rw [<- jb,pow_succ,ih,pow_succ,mul_assoc]
def zero_pow {n:Nat}(h:0<n):(0:R)^n=0:=by
 obtain ⟨k,rfl⟩:∃k,n=k+1:=⟨n-1,by omega⟩;rw [pow_succ,mul_zero]
def nsmul:Nat->R->R
 | 0,_=>0
 | n+1,a=>nsmul n a+a
def nsmul_zero (a:R):nsmul 0 a=0:=rfl
def sR (n:Nat) (a:R):nsmul (n+1) a=nsmul n a+a:=rfl
def nsmul_add (m n:Nat) (a:R):nsmul (m+n) a=nsmul m a+nsmul n a:=by
 induction n with
 | zero=>rw [nsmul_zero,add_zero,ja]
 | succ n ih=>rw [<- jb,sR,ih,sR,add_assoc]
def IL (n:Nat) (a b:R):nsmul n a*b=nsmul n (a*b):=by
 induction n with
 | zero=>rw [nsmul_zero,nsmul_zero,zero_mul]
 | succ n ih=>rw [sR,add_mul,ih,sR]
def Mh (n:Nat) (a:R):nsmul n a=nsmul n 1*a:=by rw [IL,one_mul]
def J9 (n:Nat):nsmul n (0:R)=0:=by
 induction n with
 | zero=>rfl
 | succ n ih=>rw [sR,ih,add_zero]
def sum:Nat->(Nat->R)->R
 | 0,_=>0
 | n+1,f=>sum n f+f n
def kV (f:Nat->R):sum 0 f=0:=rfl
def ek (n:Nat) (f:Nat->R):sum (n+1) f=sum n f+f n:=rfl
def iW {n:Nat} {f g:Nat->R}(h:∀i,i<n->f i=g i):sum n f=sum n g:=by
 induction n with
 | zero=>rfl
 | succ n ih=>rw [ek,ek,ih (fun i hi=>h i (by omega)),h n (by omega)]
def sum_add (n:Nat) (f g:Nat->R):sum n (fun i=>f i+g i)=sum n f+sum n g:=by
 induction n with
 | zero=>rw [kV,kV,kV,add_zero]
 | succ n ih=>rw [ek,ih,ek,ek];ac_rfl
def GU (n:Nat) (f:Nat->R) (c:R):sum n f*c=sum n (fun i=>f i*c):=by
 induction n with
 | zero=>rw [kV,kV,zero_mul]
 | succ n ih=>rw [ek,ek,add_mul,ih]
def Vg (n:Nat) (f:Nat->R) (c:R):c*sum n f=sum n (fun i=>c*f i):=by
 rw [mul_comm,GU];exact iW fun i _=>mul_comm _ _
def MM (n:Nat):sum n (fun _=>(0:R))=0:=by
 induction n with
 | zero=>rfl
 | succ n ih=>rw [ek,ih,add_zero]
def qJ {n:Nat} {f:Nat->R}(h:∀i,i<n->f i=0):sum n f=0:=by
 rw [iW h,MM]
def XC (n:Nat) (f:Nat->R):sum (n+1) f=f 0+sum n (fun i=>f (i+1)):=by
 induction n with
 | zero=>rw [ek,kV,kV,zero_add,add_zero]
 | succ n ih=>rw [ek,ih,ek,add_assoc]
def sum_append (m n:Nat) (f:Nat->R):sum (m+n) f=sum m f+sum n (fun i=>f (m+i)):=by
 induction n with
 | zero=>rw [kV,add_zero,ja]
 | succ n ih=>rw [<- jb,ek,ih,ek,add_assoc]
def vN {n k:Nat} {f:Nat->R}(hk:k<n) (h:∀i,i<n->i≠k->f i=0):sum n f=f k:=by
 induction n with
 | zero=>omega
 | succ n ih=>
   rw [ek];by_cases e:k=n
   . subst e
     rw [qJ (fun i hi=>h i (by omega) (by omega)),zero_add]
   . rw [ih (by omega) (fun i hi hne=>h i (by omega) hne),h n (by omega) (fun e'=>e e'.symm),add_zero]
def Rp {m n:Nat} {f:Nat->R}(h:m<=n) (h0:∀i,m<=i->i<n->f i=0):sum n f=sum m f:=by
 obtain ⟨k,rfl⟩:=Nat.le.dest h;rw [sum_append,qJ (n:=k) (fun i hi=>h0 _ (by omega) (by omega)),add_zero]
def ZR (n:Nat) (f:Nat->R):sum n f=sum n (fun i=>f (n-1-i)):=by
 induction n with
 | zero=>rfl
 | succ n ih=>
   rw [ek,ih,XC,add_comm];congr 1
   . exact iW fun i hi=>by congr 1;omega
end aF
instance:aF Int where
 add_assoc:=Int.add_assoc
 add_comm:=Nl
 add_zero:=AP
 add_neg:=Int.add_right_neg
 mul_assoc:=Fw
 mul_comm:=nE
 mul_one:=Int.mul_one
 mul_add:=Jg
 sub_def:=fun _ _=>adl
 pow_zero:=Int.pow_zero
 pow_succ:=Int.pow_succ
open aF
structure Poly (F:Type) [aF F] where
 co:Nat->F
 fin:∃n,∀i,n<=i->co i=0
namespace Poly
variable {F : Type} [aF F]
def ext {a b:Poly F}(h:∀i,a.co i=b.co i):a=b:=by
 have h':a.co=b.co:=funext h;cases a;cases b;simp only [mk.injEq];exact h'
instance:Add (Poly F):=⟨fun a b=>⟨fun i=>a.co i+b.co i,by
 obtain ⟨n,hn⟩:=a.fin;obtain ⟨m,hm⟩:=b.fin;exact ⟨n+m,fun i hi=>by rw [hn i (by omega),hm i (by omega),add_zero]⟩⟩⟩
instance:Neg (Poly F):=⟨fun a=>⟨fun i=> -a.co i,by
 obtain ⟨n,hn⟩:=a.fin;exact ⟨n,fun i hi=>by rw [hn i hi,neg_zero]⟩⟩⟩
instance:Sub (Poly F):=⟨fun a b=>a+ -b⟩
instance:Zero (Poly F):=⟨⟨fun _=>0,0,fun _ _=>rfl⟩⟩
def mono (n:Nat) (c:F):Poly F:=⟨fun i=>if i=n then c else 0,n+1,fun i hi=>aY (by omega)⟩
def C (c:F):Poly F:=mono 0 c
instance:One (Poly F):=⟨C 1⟩
def EL (a b:Nat->F) (n:Nat):F:=sum (n+1) (fun k=>a k*b (n-k))
def K3 {a b:Nat->F} {n m i:Nat}(ha:∀i,n<=i->a i=0) (hb:∀i,m<=i->b i=0) (h:n+m<=i+1):EL a b i=0:=by
 unfold EL;refine qJ fun k hk=> ?_;by_cases h1:n<=k
 . rw [ha k h1,zero_mul]
 . rw [hb (i-k) (by omega),mul_zero]
instance:Mul (Poly F):=⟨fun a b=>⟨EL a.co b.co,by
 obtain ⟨n,hn⟩:=a.fin;obtain ⟨m,hm⟩:=b.fin;exact ⟨n+m,fun i hi=>K3 hn hm (by omega)⟩⟩⟩
def npow (a:Poly F):Nat->Poly F
 | 0=>1
 | n+1=>npow a n*a
instance:NatPow (Poly F):=⟨npow⟩
def pJ (a b:Poly F) (i:Nat):(a+b).co i=a.co i+b.co i:=rfl
def zv (a:Poly F) (i:Nat):(-a).co i= -a.co i:=rfl
def oW (a b:Poly F) (i:Nat):(a-b).co i=a.co i-b.co i:=by
 rw [aF.sub_def];rfl
def C7 (i:Nat):(0:Poly F).co i=0:=rfl
def dZ (n:Nat) (c:F) (i:Nat):(mono n c).co i=if i=n then c else 0:=rfl
def wW (c:F) (i:Nat):(C c).co i=if i=0 then c else 0:=rfl
def uP (i:Nat):(1:Poly F).co i=if i=0 then 1 else 0:=rfl
def oZ (a b:Poly F) (n:Nat):(a*b).co n=sum (n+1) (fun k=>a.co k*b.co (n-k)):=rfl
def Xi (a b:Nat->F) (n:Nat):EL a b n=EL b a n:=by
 unfold EL;rw [ZR];refine iW fun k hk=> ?_;rw [mul_comm];congr 2<;>omega
def VH (n:Nat) (h:Nat->Nat->F):sum (n+1) (fun k=>sum (k+1) (fun j=>h k j))=sum (n+1) (fun j=>sum (n+1-j) (fun i=>h (j+i) j)):=by
 induction n with
 | zero=>rfl
 | succ n ih=>
   rw [ek,ih];have e:sum (n+1+1) (fun j=>sum (n+1+1-j) (fun i=>h (j+i) j))=sum (n+1+1) (fun j=>sum (n+1-j) (fun i=>h (j+i) j)+h (n+1) j):=by
    refine iW fun j hj=> ?_;rw [show n+1+1-j=(n+1-j)+1 by omega,ek,show j+(n+1-j)=n+1 by omega]
   rw [e,sum_add,ek (n+1) (fun j=>sum (n+1-j) (fun i=>h (j+i) j)),vC,kV,add_zero]
def SU (a b c:Nat->F) (n:Nat):EL (EL a b) c n=EL a (EL b c) n:=by
 unfold EL;have e1:sum (n+1) (fun k=>sum (k+1) (fun j=>a j*b (k-j))*c (n-k))=sum (n+1) (fun k=>sum (k+1) (fun j=>a j*b (k-j)*c (n-k))):=iW fun k _=>GU _ _ _;rw [e1,VH];refine iW fun j hj=> ?_;rw [Vg,show n+1-j=n-j+1 by omega];refine iW fun i hi=> ?_;rw [mul_assoc,show j+i-j=i by omega,show n-(j+i)=n-j-i by omega]
def aaw (a:Nat->F) (n:Nat):EL a (fun i=>if i=0 then 1 else 0) n=a n:=by
 unfold EL;rw [vN (k:=n) (by omega) (fun i hi hne=>by show a i*(if n-i=0 then 1 else 0)=0;rw [aY (by omega),mul_zero]),vC];show a n*(if 0=0 then 1 else 0)=a n;rw [aM rfl,mul_one]
instance:aF (Poly F) where
 add_assoc a b c:=ext fun i=>add_assoc _ _ _
 add_comm a b:=ext fun i=>add_comm _ _
 add_zero a:=ext fun i=>add_zero _
 add_neg a:=ext fun i=>add_neg _
 mul_assoc a b c:=ext fun i=>SU _ _ _ _
 mul_comm a b:=ext fun i=>Xi _ _ _
 mul_one a:=ext fun i=>aaw _ _
 mul_add a b c:=ext fun i=>by
  rw [pJ,oZ,oZ,oZ,<- sum_add];exact iW fun k _=>mul_add _ _ _
 sub_def a b:=rfl
 pow_zero a:=rfl
 pow_succ a n:=rfl
def Sh (a:Poly F) (n:Nat):Prop:=∀i,n<=i->a.co i=0
def Sh.mono {a:Poly F} {n m:Nat}(h:a.Sh n) (hm:n<=m):a.Sh m:=fun i hi=>h i (by omega)
def Sh.add {a b:Poly F} {n:Nat}(ha:a.Sh n) (hb:b.Sh n):(a+b).Sh n:=fun i hi=>by rw [pJ,ha i hi,hb i hi,add_zero]
def Sh.neg {a:Poly F} {n:Nat}(ha:a.Sh n):(-a).Sh n:=fun i hi=>by rw [zv,ha i hi,neg_zero]
def Sh.sub {a b:Poly F} {n:Nat}(ha:a.Sh n) (hb:b.Sh n):(a-b).Sh n:=ha.add hb.neg
def Sh.mul {a b:Poly F} {n m k:Nat}(ha:a.Sh n) (hb:b.Sh m) (hk:n+m<=k+1):(a*b).Sh k:=fun i hi=>K3 ha hb (by omega)
def J3 (c:F):(C c).Sh 1:=fun i hi=>by rw [wW,aY (by omega)]
def MQ {a:Poly F}(h:a.Sh 0):a=0:=ext fun i=>h i (by omega)
def MC (n:Nat):(0:Poly F).Sh n:=fun _ _=>rfl
def Tg {a b:Poly F} {n m:Nat}(ha:a.Sh (n+1)) (hb:b.Sh (m+1)):(a*b).co (n+m)=a.co n*b.co m:=by
 rw [oZ,vN (k:=n) (by omega) (fun i hi hne=> ?_),show n+m-n=m by omega];by_cases h1:i<n
 . rw [hb (n+m-i) (by omega),mul_zero]
 . rw [ha i (by omega),zero_mul]
def jW (n:Nat) (c:F) (a:Poly F) (i:Nat):(mono n c*a).co i=if n<=i then c*a.co (i-n) else 0:=by
 rw [oZ];by_cases h:n<=i
 . rw [aM h,vN (k:=n) (by omega) (fun k hk hne=>by rw [dZ,aY hne,zero_mul]),dZ,aM rfl]
 . rw [aY h]
   exact qJ fun k hk=>by rw [dZ,aY (by omega),zero_mul]
def kX (c:F) (a:Poly F) (i:Nat):(C c*a).co i=c*a.co i:=by
 unfold C;rw [jW,aM (by omega),Nat.sub_zero]
def mW (a b:F):C a*C b=C (a*b):=ext fun i=>by
 rw [kX,wW,wW];split
 . rfl
 . exact mul_zero _
def RO:C (1:F)=1:=rfl
def FL:C (0:F)=0:=ext fun i=>by rw [wW];split<;>rfl
def atP (a:F):C (-a)= -C a:=ext fun i=>by
 rw [zv,wW,wW];split
 . rfl
 . exact neg_zero.symm
def atQ {a b:F}(h:C a=C b):a=b:=by
 have:=dh (fun q=>q.co 0) h;simpa [wW] using this
def IW (n m:Nat) (a b:F):mono n a*mono m b=mono (n+m) (a*b):=ext fun i=>by
 rw [jW,dZ,dZ];by_cases h:n<=i
 . rw [aM h]
   by_cases e:i-n=m
   . rw [aM e,aM (by omega)]
   . rw [aY e,aY (by omega),mul_zero]
 . rw [aY h,aY (by omega)]
def agM {a:Poly F}(h:a.Sh 1):a=C (a.co 0):=ext fun i=>by
 rw [wW];split
 . next e=>rw [e]
 . exact h i (by omega)
def least (P:Nat->Prop) (h:∃n,P n):∃n,P n∧∀m,m<n->¬P m:=by
 obtain ⟨n,hn⟩:=h;induction n using Nat.strongRecOn with
 | ind n ih=>
   by_cases h':∃m,m<n∧P m
   . obtain ⟨m,hm,hp⟩:=h'
     exact ih m hm hp
   . exact ⟨n,hn,fun m hm hp=>h' ⟨m,hm,hp⟩⟩
noncomputable def len (a:Poly F):Nat:=Classical.choose (least a.Sh a.fin)
def ay (a:Poly F):a.Sh a.len:=(UF (least a.Sh a.fin)).1
def bV {a:Poly F} {n:Nat}(h:a.Sh n):a.len<=n:=Nat.le_of_not_lt fun hl=>(UF (least a.Sh a.fin)).2 n hl h
def ve {a:Poly F}(h:0<a.len):a.co (a.len-1)≠0:=fun e=>by
 have:a.Sh (a.len-1):=fun i hi=>by
  by_cases e':i=a.len-1
  . rw [e',e]
  . exact ay a i (by omega)
 have:=bV this;omega
def EO {a:Poly F} {n:Nat}(h:a.Sh (n+1)) (ht:a.co n≠0):a.len=n+1:=by
 have h1:=bV h;refine Um h1 (Nat.le_of_not_lt fun hl=>ht (ay a n (by omega)))
def gI:(0:Poly F).len=0:=Nat.le_zero.1 (bV (MC 0))
def lz {a:Poly F}:a.len=0↔a=0:=⟨fun h=>MQ (h ▸ ay a),fun h=>h ▸ gI⟩
def cI {a:Poly F}(h:a≠0):0<a.len:=uS fun e=>h (lz.1 e)
noncomputable def lc (a:Poly F):F:=a.co (a.len-1)
def Fc {a:Poly F}(h:a≠0):a.lc≠0:=ve (cI h)
end Poly
structure Hom {F R:Type} [aF F] [aF R] (φ:F->R):Prop where
 add:∀a b,φ (a+b)=φ a+φ b
 mul:∀a b,φ (a*b)=φ a*φ b
 one:φ 1=1
def Hom.zero {F R:Type} [aF F] [aF R] {φ:F->R}(h:Hom φ):φ 0=0:=by
 have:=h.add 0 0;rw [add_zero] at this;exact add_left_cancel (a:=φ 0) (by rw [add_zero];exact this.symm)
def Hom.sum {F R:Type} [aF F] [aF R] {φ:F->R}(h:Hom φ) (n:Nat) (f:Nat->F):φ (sum n f)=aF.sum n (fun i=>φ (f i)):=by
 induction n with
 | zero=>exact h.zero
 | succ n ih=>rw [ek,h.add,ih,ek]
def jw {F:Type} [aF F]:Hom (fun a:F=>a):=⟨fun _ _=>rfl,fun _ _=>rfl,rfl⟩
namespace Poly
section
variable {F R : Type} [aF F] [aF R] {φ : F -> R}
def Yy (φ:F->R) (P:Poly F) (v:R) (n:Nat):R:=sum n (fun i=>φ (P.co i)*v^i)
def amz (hφ:Hom φ) {P:Poly F} {n m:Nat}(h:P.Sh n) (hm:n<=m) (v:R):Yy φ P v m=Yy φ P v n:=
 Rp hm fun i h1 _=>by rw [h i h1,hφ.zero,zero_mul]
noncomputable def ev (φ:F->R) (P:Poly F) (v:R):R:=Yy φ P v P.len
section
variable (hφ:Hom φ)
include hφ
theorem Cf {P:Poly F} {n:Nat}(h:P.Sh n) (v:R):ev φ P v=Yy φ P v n:=by
 have h1:=bV h;exact (amz hφ (ay P) h1 v).symm
theorem TZ (P Q:Poly F) (v:R):ev φ (P+Q) v=ev φ P v+ev φ Q v:=by
 have hp:=(ay P).mono (show P.len<=max P.len Q.len by omega);have hq:=(ay Q).mono (show Q.len<=max P.len Q.len by omega);rw [Cf hφ (hp.add hq),Cf hφ hp,Cf hφ hq];unfold Yy;rw [<- sum_add];exact iW fun i _=>by rw [pJ,hφ.add,add_mul]
theorem QY (c:F) (v:R):ev φ (C c) v=φ c:=by
 rw [Cf hφ (J3 c)];unfold Yy;rw [ek,kV,zero_add,aF.pow_zero,aF.mul_one];rfl
theorem agK (v:R):ev φ 0 v=0:=by rw [<- FL,QY hφ,hφ.zero]
theorem agL (n:Nat) (c:F) (v:R):ev φ (mono n c) v=φ c*v^n:=by
 rw [Cf hφ (n:=n+1) (fun i hi=>by rw [dZ,aY (by omega)])];unfold Yy;rw [vN (k:=n) (by omega) (fun i _ hne=>by rw [dZ,aY hne,hφ.zero,zero_mul]),dZ,aM rfl]
theorem NQ (P Q:Poly F) (v:R):ev φ (P*Q) v=ev φ P v*ev φ Q v:=by
 have e1:ev φ (P*Q) v=Yy φ (P*Q) v (P.len+Q.len+1):=Cf hφ ((ay P).mul (ay Q) (by omega)) v;rw [e1];unfold Yy;have e2:sum (P.len+Q.len+1) (fun n=>φ ((P*Q).co n)*v^n)=sum (P.len+Q.len+1) (fun n=>sum (n+1) (fun k=>φ (P.co k)*φ (Q.co (n-k))*v^n)):=by
  refine iW fun n _=> ?_;rw [oZ,hφ.sum,GU];exact iW fun k _=>by rw [hφ.mul]
 rw [e2,VH (P.len+Q.len) (fun n k=>φ (P.co k)*φ (Q.co (n-k))*v^n)];have e3:∀j,j<P.len+Q.len+1->sum (P.len+Q.len+1-j) (fun i=>φ (P.co j)*φ (Q.co (j+i-j))*v^(j+i))=φ (P.co j)*v^j*ev φ Q v:=by
  intro j hj;by_cases hjp:j<P.len
  . have:ev φ Q v=Yy φ Q v (P.len+Q.len+1-j):=Cf hφ ((ay Q).mono (by omega)) v
    rw [this];unfold Yy;rw [Vg];refine iW fun i _=> ?_;rw [show j+i-j=i by omega,aF.pow_add];ac_rfl
  . rw [ay P j (by omega),hφ.zero,zero_mul,zero_mul]
    exact qJ fun i _=>by rw [zero_mul,zero_mul]
 rw [iW e3,<- GU];congr 1
 exact (Cf hφ ((ay P).mono (by omega)) v).symm
theorem amx (P:Poly F) (v:R):ev φ (-P) v= -ev φ P v:=kj (by rw [<- TZ hφ,add_neg,agK hφ])
theorem NP (P Q:Poly F) (v:R):ev φ (P-Q) v=ev φ P v-ev φ Q v:=by rw [aF.sub_def,TZ hφ,amx hφ,aF.sub_def]
end
end
def X (F:Type) [aF F]:Poly F:=mono 1 1
def amy {F R:Type} [aF F] [aF R] {φ:F->R}(hφ:Hom φ) (v:R):ev φ (X F) v=v:=by
 unfold X;rw [agL hφ,hφ.one,aF.one_mul,aF.pow_one]
end Poly
class Dom (R:Type) extends aF R where
 mg:(1:R)≠0
 nz:∀a b:R,a*b=0->a=0∨b=0
def Dv {R:Type} [aF R] (a b:R):Prop:=∃c,b=a*c
structure nh {R:Type} [aF R] (g a b:R):Prop where
 l:Dv g a
 r:Dv g b
 top:∀d,Dv d a->Dv d b->Dv d g
class Dc (R:Type) extends Dom R where
 zo:∀a b:R,∃g,nh g a b
section
variable {R : Type} [aF R] {a b c d g : R}
def Dv.refl (a:R):Dv a a:=⟨1,(mul_one a).symm⟩
def Dv.trans (h:Dv a b) (k:Dv b c):Dv a c:=by
 obtain ⟨x,rfl⟩:=h;obtain ⟨y,rfl⟩:=k;exact ⟨x*y,mul_assoc _ _ _⟩
def Dv.mulR (h:Dv a b) (c:R):Dv a (b*c):=by
 obtain ⟨x,rfl⟩:=h;exact ⟨x*c,mul_assoc _ _ _⟩
def Dv.mulL (h:Dv a b) (c:R):Dv a (c*b):=by rw [mul_comm];exact h.mulR c
def Dv.left (a b:R):Dv a (a*b):=⟨b,rfl⟩
def Dv.right (a b:R):Dv b (a*b):=⟨a,mul_comm _ _⟩
def Dv.zero (a:R):Dv a 0:=⟨0,(mul_zero a).symm⟩
def Dv.one (a:R):Dv 1 a:=⟨a,(one_mul a).symm⟩
def Dv.add (h:Dv a b) (k:Dv a c):Dv a (b+c):=by
 obtain ⟨x,rfl⟩:=h;obtain ⟨y,rfl⟩:=k;exact ⟨x+y,(mul_add _ _ _).symm⟩
def Dv.neg (h:Dv a b):Dv a (-b):=by
 obtain ⟨x,rfl⟩:=h;exact ⟨-x,(mul_neg _ _).symm⟩
def Dv.sub (h:Dv a b) (k:Dv a c):Dv a (b-c):=by rw [sub_def];exact h.add k.neg
def Dv.ape (h:Dv a (b+c)) (k:Dv a b):Dv a c:=by
 have e:c=(b+c)-b:=by rw [add_comm,add_sub_cancel]
 rw [e];exact h.sub k
def Dv.mul (h:Dv a b) (k:Dv c d):Dv (a*c) (b*d):=by
 obtain ⟨x,rfl⟩:=h;obtain ⟨y,rfl⟩:=k;exact ⟨x*y,by ac_rfl⟩
def Dv.of0 (h:Dv (0:R) a):a=0:=by
 obtain ⟨x,rfl⟩:=h;exact zero_mul x
def nh.symm (h:nh g a b):nh g b a:=⟨h.r,h.l,fun d k l=>h.top d l k⟩
def ajT {n:Nat} {f:Nat->R}(h:∀i,i<n->Dv a (f i)):Dv a (sum n f):=by
 induction n with
 | zero=>exact Dv.zero a
 | succ n ih=>rw [ek];exact (ih fun i hi=>h i (by omega)).add (h n (by omega))
end
section
variable {R : Type} [Dom R] {a b c d g : R}
def Dom.vW (ha:a≠0) (hb:b≠0):a*b≠0:=fun e=>by
 rcases Dom.nz a b e with h | h
 . exact ha h
 . exact hb h
def Dom.cancel (ha:a≠0) (h:a*b=a*c):b=c:=by
 have e:a*(b-c)=0:=by rw [mul_sub,h,sub_self]
 rcases Dom.nz a _ e with h1 | h1
 . exact absurd h1 ha
 . exact sub_eq_zero.1 h1
def Dv.cancel (ha:a≠0) (h:Dv (a*b) (a*c)):Dv b c:=by
 obtain ⟨x,e⟩:=h;exact ⟨x,Dom.cancel ha (by rw [e,mul_assoc])⟩
def Dom.SF (ha:a≠0):∀n:Nat,a^n≠0
 | 0=>by rw [aF.pow_zero];exact Dom.mg
 | n+1=>by rw [aF.pow_succ];exact Dom.vW (Dom.SF ha n) ha
end
section
variable {R : Type} [Dc R] {a b c d g : R}
def nh.mul (hc:c≠0) (h:nh g a b):nh (c*g) (c*a) (c*b):=by
 obtain ⟨x,hx⟩:=Dc.zo (c*a) (c*b);obtain ⟨k,rfl⟩:=hx.top c (Dv.left _ _) (Dv.left _ _);have h1:=h.top k (hx.l.cancel hc) (hx.r.cancel hc);exact ⟨(Dv.refl c).mul h.l,(Dv.refl c).mul h.r,fun d h2 h3=>(hx.top d h2 h3).trans ((Dv.refl c).mul h1)⟩
def amA (h:nh 1 a b) (k:Dv a (b*c)):Dv a c:=by
 by_cases hc:c=0
 . rw [hc];exact Dv.zero a
 . have h1:=(nh.mul hc h).top a (Dv.right _ _) (by rw [mul_comm];exact k)
   rwa [mul_one] at h1
end
namespace Poly
section
variable {R : Type} [aF R]
def zD (d:R) (f:Poly R):Prop:=∀i,Dv d (f.co i)
def Prim (f:Poly R):Prop:=∀d,zD d f->Dv d 1
structure Cont (c:R) (f:Poly R):Prop where
 dv:zD c f
 top:∀d,zD d f->Dv d c
def zD.add {d:R} {f g:Poly R}(h:zD d f) (k:zD d g):zD d (f+g):=fun i=>(h i).add (k i)
def zD.sub {d:R} {f g:Poly R}(h:zD d f) (k:zD d g):zD d (f-g):=fun i=>by rw [oW];exact (h i).sub (k i)
def zD.mulR {d:R} {f:Poly R}(h:zD d f) (g:Poly R):zD d (f*g):=fun i=>by
 rw [oZ];exact ajT fun k _=>(h k).mulR _
def zD.trans {d e:R} {f:Poly R}(h:zD d f) (k:Dv e d):zD e f:=fun i=>k.trans (h i)
def zD.C (c:R) (f:Poly R):zD c (C c*f):=fun i=>by rw [kX];exact Dv.left _ _
def zD.dv {d:R} {f:Poly R}(h:zD d f):Dv (Poly.C d) f:=by
 obtain ⟨q,hq⟩:∃q:Nat->R,∀i,f.co i=d*q i:=⟨fun i=>Classical.choose (h i),fun i=>UF (h i)⟩;obtain ⟨n,hn⟩:=f.fin;refine ⟨⟨fun i=>if i<n then q i else 0,n,fun i hi=>aY (by omega)⟩,ext fun i=> ?_⟩;rw [kX];show f.co i=d*(if i<n then q i else 0);by_cases hi:i<n
 . rw [aM hi];exact hq i
 . rw [aY hi,mul_zero];exact hn i (by omega)
def zD.apd {d:R} {f:Poly R}(h:Dv (Poly.C d) f):zD d f:=by
 obtain ⟨q,rfl⟩:=h;exact zD.C d q
def Sj {f:Poly R}(h:f≠0):∃f1:Poly R,f=mono (f.len-1) f.lc+f1∧f1.len<f.len:=by
 have h1:=cI h;refine ⟨f-mono (f.len-1) f.lc,?_,?_⟩
 . rw [sub_def,add_left_comm,add_neg,add_zero]
 . have h2:(f-mono (f.len-1) f.lc).Sh (f.len-1):=fun i hi=>by
    rw [oW,dZ];by_cases e:i=f.len-1
    . rw [aM e,e];exact sub_self _
    . rw [aY e,ay f i (by omega),sub_self]
   have:=bV h2;omega
end
section
variable {R : Type} [Dom R]
def lu {a b:Poly R}(ha:a≠0) (hb:b≠0):(a*b).len=a.len+b.len-1∧(a*b).lc=a.lc*b.lc:=by
 have h1:=cI ha;have h2:=cI hb;have ea:a.len=(a.len-1)+1:=by omega
 have eb:b.len=(b.len-1)+1:=by omega
 have hsa:a.Sh ((a.len-1)+1):=ea ▸ ay a;have hsb:b.Sh ((b.len-1)+1):=eb ▸ ay b;have abf:=Tg hsa hsb;have hne:(a*b).co ((a.len-1)+(b.len-1))≠0:=by
  rw [abf];exact Dom.vW (ve h1) (ve h2)
 have hl:=EO (hsa.mul hsb (by omega)) hne;refine ⟨by rw [hl];omega,?_⟩;unfold lc;rw [hl,DK,abf]
def ya {a b:Poly R}(ha:a≠0) (hb:b≠0):a*b≠0:=fun e=>by
 have h1:=(lu ha hb).1;rw [e,gI] at h1;have:=cI ha;have:=cI hb;omega
instance aia:Dom (Poly R) where
 mg h:=by
  have h1:=dh (fun q:Poly R=>q.co 0) h;have h2:(1:R)=0:=by simpa [uP,C7] using h1
  exact Dom.mg h2
 nz a b h:=kQ fun k=>by
  have ha:a≠0:=fun e=>k (.inl e);have hb:b≠0:=fun e=>k (.inr e);exact ya ha hb h
def Dd {c:R}(h:c≠0):C c≠0:=fun e=>h (atQ (e.trans FL.symm))
def Si {c:R}(h:c≠0):(C c).len=1:=EO (n:=0) (J3 c) (by rw [wW,aM rfl];exact h)
def fo {c:R}(h:c≠0) (a:Poly R):(C c*a).len=a.len:=by
 by_cases ha:a=0
 . rw [ha,aF.mul_zero]
 . rw [(lu (Dd h) ha).1,Si h];omega
def Prim.ne {f:Poly R}(h:Prim f):f≠0:=fun e=>by
 have h1:=h 0 fun i=>by rw [e];exact Dv.zero 0
 exact Dom.mg h1.of0
def Dv.bV {a b:Poly R}(h:Dv a b) (hb:b≠0):a.len<=b.len:=by
 obtain ⟨c,rfl⟩:=h;have ha:a≠0:=fun e=>hb (by rw [e,aF.zero_mul]);have hc:c≠0:=fun e=>hb (by rw [e,aF.mul_zero]);have h1:=(lu ha hc).1;have:=cI hc;omega
def akk {y:Poly R}(hy:y≠0):∀(N:Nat) (x:Poly R),x.len<=N->∃(k:Nat) (q r:Poly R),C (y.lc^k)*x=q*y+r∧r.len<y.len:=by
 intro N;induction N with
 | zero=>
   intro x hx;exact ⟨0,0,0,by rw [lz.1 (by omega:x.len=0),aF.mul_zero,aF.zero_mul,aF.add_zero],by rw [gI];exact cI hy⟩
 | succ N ih=>
   intro x hx;by_cases hlt:x.len<y.len
   . exact ⟨0,0,x,by rw [aF.pow_zero,RO,aF.one_mul,aF.zero_mul,aF.zero_add],hlt⟩
   . have wM:=cI hy
     have hs:(C y.lc*x-mono (x.len-y.len) x.lc*y).Sh (x.len-1):=fun i hi=>by
      rw [oW,kX,jW,aM (by omega)];by_cases e:i=x.len-1
      . have e2:i-(x.len-y.len)=y.len-1:=by omega
        rw [e2,e];show y.co (y.len-1)*x.co (x.len-1)-x.co (x.len-1)*y.co (y.len-1)=0;rw [aF.mul_comm,sub_self]
      . rw [ay x i (by omega),ay y _ (by omega),aF.mul_zero,aF.mul_zero,sub_self]
     obtain ⟨k,q,r,h1,h2⟩:=ih _ (aG (bV hs) (by omega));refine ⟨k+1,q+C (y.lc^k)*mono (x.len-y.len) x.lc,r,?_,h2⟩;have e1:C (y.lc^(k+1))*x=C (y.lc^k)*(C y.lc*x-mono (x.len-y.len) x.lc*y)+C (y.lc^k)*(mono (x.len-y.len) x.lc*y):=by
      rw [<- aF.mul_add,sub_add_cancel,<- aF.mul_assoc,mW,aF.pow_succ]
     rw [e1,h1,add_mul,aF.mul_assoc];ac_rfl
end
section
variable {R : Type} [Dc R]
def Qf (f:Nat->R):∀n:Nat,∃c,(∀i,i<n->Dv c (f i))∧∀d,(∀i,i<n->Dv d (f i))->Dv d c
 | 0=>⟨0,fun i hi=>absurd hi (rK i),fun d _=>Dv.zero d⟩
 | n+1=>by
   obtain ⟨c,h1,h2⟩:=Qf f n;obtain ⟨g,hg⟩:=Dc.zo c (f n);refine ⟨g,fun i hi=> ?_,fun d hd=>hg.top d (h2 d fun i hi=>hd i (by omega)) (hd n (by omega))⟩;by_cases e:i=n
   . rw [e];exact hg.r
   . exact hg.l.trans (h1 i (by omega))
def WL (f:Poly R):∃c,Cont c f:=by
 obtain ⟨n,hn⟩:=f.fin;obtain ⟨c,h1,h2⟩:=Qf f.co n;refine ⟨c,fun i=> ?_,fun d hd=>h2 d fun i _=>hd i⟩;by_cases hi:i<n
 . exact h1 i hi
 . rw [hn i (by omega)];exact Dv.zero c
def Cont.ne {c:R} {f:Poly R}(h:Cont c f) (hf:f≠0):c≠0:=fun e=>hf (ext fun i=>by
 have h1:=h.dv i;rw [e] at h1;exact h1.of0)
def Cont.aeX {c:R} {f f':Poly R}(h:Cont c f) (hf:f≠0) (e:f=C c*f'):Prim f':=fun d hd=>by
 have hc:=h.ne hf;have h1:=h.top (c*d) fun i=>by rw [e,kX];exact (Dv.refl c).mul (hd i)
 have h2:Dv (c*d) (c*1):=by rw [aF.mul_one];exact h1
 exact h2.cancel hc
def si {f:Poly R}(hf:f≠0):∃c f',Cont c f∧c≠0∧f=C c*f'∧Prim f':=by
 obtain ⟨c,hc⟩:=WL f;obtain ⟨f',e⟩:=hc.dv.dv;exact ⟨c,f',hc,hc.ne hf,e,hc.aeX hf e⟩
def Prim.cdv {h:Poly R}(hp:Prim h) {c e:R}(hd:zD e (C c*h)):Dv e c:=by
 by_cases hc:c=0
 . rw [hc];exact Dv.zero e
 . obtain ⟨k,hk⟩:=WL (C c*h)
   obtain ⟨m,rfl⟩:=hk.top c (zD.C c h);have h1:=hp m fun i=>by
    have:=hk.dv i;rw [kX] at this;exact this.cancel hc
   have h2:=(hk.top e hd).trans ((Dv.refl c).mul h1);rwa [aF.mul_one] at h2
def I7 {N:Nat}(ih:∀f g:Poly R,f.len+g.len<=N->Prim f->Prim g->Prim (f*g)) {f g:Poly R}(hl:f.len+g.len<=N+1) (hf:Prim f) (hg:Prim g) {d e:R}(hd:zD d (f*g)) (h1:Dv e d) (h2:Dv e f.lc):Dv e 1:=by
 obtain ⟨f1,e1,e2⟩:=Sj hf.ne;have hm:zD e (mono (f.len-1) f.lc):=fun i=>by
  rw [dZ];split
  . exact h2
  . exact Dv.zero e
 refine hf e ?_;rw [e1];refine hm.add ?_;by_cases h0:f1=0
 . rw [h0];exact fun i=>Dv.zero e
 . obtain ⟨c1,f1',k1,k2,k3,k4⟩:=si h0
   have GK:f1'.len=f1.len:=by rw [k3,fo k2]
   have hp:=ih f1' g (by omega) k4 hg;have h3:zD e (C c1*(f1'*g)):=by
    rw [<- aF.mul_assoc,<- k3];have h4:f1*g=f*g-mono (f.len-1) f.lc*g:=by
     (have h5:f*g=mono (f.len-1) f.lc*g+f1*g:=by rw [<- add_mul,<- e1]);rw [h5,aF.add_comm,add_sub_cancel]
    rw [h4];exact (hd.trans h1).sub (hm.mulR g)
   have h5:=hp.cdv h3;rw [k3];exact fun i=>by rw [kX];exact h5.mulR _
def TP:∀(N:Nat) (f g:Poly R),f.len+g.len<=N->Prim f->Prim g->Prim (f*g):=by
 intro N;induction N with
 | zero=>
   intro f g hl hf _;have:=cI hf.ne;omega
 | succ N ih=>
   intro f g hl hf hg d hd;obtain ⟨x,hx⟩:=Dc.zo d f.lc;have u1:=I7 ih hl hf hg hd hx.l hx.r;obtain ⟨y,hy⟩:=Dc.zo d g.lc;have u2:=I7 (f:=g) (g:=f) (fun a b h p q=>ih a b h p q) (by omega) hg hf (by rw [aF.mul_comm];exact hd) hy.l hy.r;have h1:nh 1 d f.lc:=⟨Dv.one _,Dv.one _,fun e k l=>(hx.top e k l).trans u1⟩;have h2:Dv d (f.lc*g.lc):=by
    rw [<-(lu hf.ne hg.ne).2];exact hd _
   exact (hy.top d (Dv.refl d) (amA h1 h2)).trans u2
def Prim.mul {f g:Poly R}(hf:Prim f) (hg:Prim g):Prim (f*g):=TP _ f g (Nat.le_refl _) hf hg
def Prim.ofC {d f:Poly R} {c:R}(hd:Prim d) (hc:c≠0) (h:Dv d (C c*f)):Dv d f:=by
 by_cases hf:f=0
 . rw [hf];exact Dv.zero d
 . obtain ⟨g,e⟩:=h
   have hg:g≠0:=fun e0=>ya (Dd hc) hf (by rw [e,e0,aF.mul_zero]);obtain ⟨k,f',_,k2,k3,k4⟩:=si hf;obtain ⟨x,g',_,x2,x3,x4⟩:=si hg;have hp:=hd.mul x4;have e2:C (c*k)*f'=C x*(d*g'):=by
    rw [<- mW,aF.mul_assoc,<- k3,e,x3];ac_rfl
   have h1:Dv x (c*k):=k4.cdv (by rw [e2];exact zD.C x _);have h2:Dv (c*k) x:=hp.cdv (by rw [<- e2];exact zD.C _ _);obtain ⟨u,hu⟩:=h1;obtain ⟨v,hv⟩:=h2;have h3:u*v=1:=Dom.cancel x2 (by rw [<- aF.mul_assoc,<- hu,<- hv,aF.mul_one]);have h4:C u*f'=d*g':=Dom.cancel (Dd x2) (by rw [<- aF.mul_assoc,mW,<- hu,e2]);have h5:f'=d*(C v*g'):=by
    (have h6:C v*(C u*f')=f':=by rw [<- aF.mul_assoc,mW,aF.mul_comm v,h3,RO,aF.one_mul]);rw [<- h6,h4];ac_rfl
   rw [k3];exact Dv.mulL ⟨_,h5⟩ _
structure PG (g x y:Poly R):Prop where
 pr:Prim g
 l:Dv g x
 r:Dv g y
 top:∀d,Prim d->Dv d x->Dv d y->Dv d g
def PG.zero {x:Poly R}(hx:Prim x):PG x x 0:=⟨hx,Dv.refl x,Dv.zero x,fun _ _ h _=>h⟩
def PG.step {g x y q r r':Poly R} {l c:R}(hl:l≠0) (hc:c≠0) (e:C l*x=q*y+r) (er:r=C c*r') (h:PG g y r'):PG g x y:=
 ⟨h.pr,h.pr.ofC hl (by rw [e,er];exact (h.l.mulL q).add (h.r.mulL _)),h.l,fun d hd h1 h2=>h.top d hd h2 (hd.ofC hc (by rw [<- er];exact Dv.ape (by rw [<- e];exact h1.mulL _) (h2.mulL q)))⟩
def aoY:∀(N:Nat) (x y:Poly R),y.len<=N->Prim x->(y=0∨Prim y)->∃g,PG g x y:=by
 intro N;induction N with
 | zero=>
   intro x y hl hx _;rw [lz.1 (by omega:y.len=0)];exact ⟨x,PG.zero hx⟩
 | succ N ih=>
   intro x y hl hx hy;rcases hy with rfl | hy
   . exact ⟨x,PG.zero hx⟩
   . obtain ⟨k,q,r,h1,h2⟩:=akk hy.ne x.len x (Nat.le_refl _)
     have M9:=Dom.SF (Fc hy.ne) k;by_cases h0:r=0
     . obtain ⟨g,hg⟩:=ih y 0 (by rw [gI];omega) hy (.inl rfl)
       exact ⟨g,PG.step M9 Dom.mg h1 (by rw [h0,aF.mul_zero]) hg⟩
     . obtain ⟨c,r',_,k2,k3,k4⟩:=si h0
       obtain ⟨g,hg⟩:=ih y r' (by (have:r'.len=r.len:=by rw [k3,fo k2]);omega) hy (.inr k4);exact ⟨g,PG.step M9 k2 h1 k3 hg⟩
def aaY {f g f' g' h:Poly R} {a b c:R}(ha:Cont a f) (hb:Cont b g) (hf:f≠0) (hg:g≠0) (ef:f=C a*f') (eg:g=C b*g') (hc:nh c a b) (hp:PG h f' g'):nh (C c*h) f g:=by
 have a0:=ha.ne hf;have b0:=hb.ne hg;have hCd:∀{x y:R},Dv x y->Dv (C x) (C y):=fun {x y} hxy=>by
  obtain ⟨z,rfl⟩:=hxy;exact ⟨C z,(mW x z).symm⟩
 refine ⟨by rw [ef];exact (hCd hc.l).mul hp.l,by rw [eg];exact (hCd hc.r).mul hp.r,fun d h1 h2=> ?_⟩;have hd:d≠0:=fun e=>hf (Dv.of0 (by rw [e] at h1;exact h1));obtain ⟨e,d',k1,k2,k3,k4⟩:=si hd;have h3:Dv e c:=hc.top e (ha.top e (zD.apd (by rw [k3] at h1;exact (Dv.left _ _).trans h1))) (hb.top e (zD.apd (by rw [k3] at h2;exact (Dv.left _ _).trans h2)));have h4:Dv d' h:=hp.top d' k4 (k4.ofC a0 (by rw [<- ef];rw [k3] at h1;exact (Dv.right _ _).trans h1)) (k4.ofC b0 (by rw [<- eg];rw [k3] at h2;exact (Dv.right _ _).trans h2));rw [k3];exact (hCd h3).mul h4
def Bu {R:Type} [aF R] (a:R):nh a a 0:=⟨Dv.refl a,Dv.zero a,fun _ h _=>h⟩
instance afR:Dc (Poly R) where
 zo f g:=by
  by_cases hf:f=0
  . rw [hf];exact ⟨g,(Bu g).symm⟩
  . by_cases hg:g=0
    . rw [hg];exact ⟨f,Bu f⟩
    . obtain ⟨a,f',a1,a2,a3,a4⟩:=si hf
      obtain ⟨b,g',b1,b2,b3,b4⟩:=si hg;obtain ⟨c,hc⟩:=Dc.zo a b;obtain ⟨h,hh⟩:=aoY g'.len f' g' (Nat.le_refl _) a4 (.inr b4);exact ⟨_,aaY a1 b1 hf hg a3 b3 hc hh⟩
end
end Poly
def nS:Nat->(Nat->Nat)->Nat
 | 0,_=>0
 | n+1,f=>nS n f+f n
def qc {n:Nat} {g:Nat->Nat}(h:∀i,i<n->f i=g i):nS n f=nS n g:=by
 induction n with
 | zero=>rfl
 | succ n ih=>show nS n f+f n=nS n g+g n;rw [ih fun i hi=>h i (by omega),h n (by omega)]
def K0 {n:Nat} {g:Nat->Nat}(h:∀i,i<n->f i<=g i):nS n f<=nS n g:=by
 induction n with
 | zero=>exact Nat.le_refl _
 | succ n ih=>have h1:=ih fun i hi=>h i (by omega);have h2:=h n (by omega);show nS n f+f n<=nS n g+g n;omega
def aav (n:Nat) (f g:Nat->Nat):nS n (fun i=>f i+g i)=nS n f+nS n g:=by
 induction n with
 | zero=>rfl
 | succ n ih=>show nS n (fun i=>f i+g i)+(f n+g n)=nS n f+f n+(nS n g+g n);rw [ih];omega
def Mk (n c:Nat) (f:Nat->Nat):nS n (fun i=>c*f i)=c*nS n f:=by
 induction n with
 | zero=>rfl
 | succ n ih=>show nS n (fun i=>c*f i)+c*f n=c*(nS n f+f n);rw [ih,ak]
def afq {n m:Nat} (hm:n<=m) (h:∀i,n<=i->f i=0):nS m f=nS n f:=by
 induction m with
 | zero=>rw [show n=0 by omega]
 | succ m ih=>
   rcases pT m n with hl | hl
   . rw [show n=m+1 by omega]
   . show nS m f+f m=nS n f;rw [ih hl,h m hl];omega
def Be (n c:Nat):nS n (fun _=>c)=n*c:=by
 induction n with
 | zero=>show 0=0*c;rw [AQ]
 | succ n ih=>show nS n (fun _=>c)+c=(n+1)*c;rw [ih,bO,bN]
def akv {n:Nat} {i:Nat}(hi:i<n):f i<=nS n f:=by
 induction n with
 | zero=>omega
 | succ n ih=>
   show f i<=nS n f+f n;by_cases e:i=n
   . rw [e];omega
   . have:=ih (by omega);omega
def aau (n k:Nat) (f:Nat->Nat) (h:∀i,i<k->f i=0):nS (n+k) f=nS n (fun i=>f (i+k)):=by
 induction n with
 | zero=>
   rw [bh];show nS k f=0;have h1:nS k f=nS k fun _=>0:=qc h;rw [h1,Be,jZ]
 | succ n ih=>rw [show n+1+k=(n+k)+1 by omega];show nS (n+k) f+f (n+k)=nS n _+f (n+k);rw [ih]
class aH (R:Type) extends Dc R where
 nm:R->Nat
 kJ:nm 0=0
 rB:∀a:R,a≠0->0<nm a
 sS:nm 1=1
 nm_add:∀a b:R,nm (a+b)<=nm a+nm b
 zZ:∀a:R,nm (-a)=nm a
 mh:∀a b:R,nm (a*b)<=nm a*nm b
 vV:∀(j:Nat) (a:R),nm (nsmul j a)=j*nm a
 dg:(Nat->Nat)->R->Prop
 en:∀D,dg D 0
 Eb:∀D,dg D 1
 vn:∀D (a b:R),dg D a->dg D b->dg D (a+b)
 Ec:∀D (a:R),dg D a->dg D (-a)
 jh:∀D E (a b:R),dg D a->dg E b->dg (fun j=>D j+E j) (a*b)
 jr:∀D E (a:R),(∀j,D j<=E j)->dg D a->dg E a
 Cj:∀D (j:Nat) (a:R),j≠0->dg D (nsmul j a)->dg D a
 uk:(Nat->Nat)->Nat
 lH:∀D,0<uk D
 factor:∀D (f g:R),f≠0->dg D f->Dv g f->dg D g∧nm g<=uk D*nm f
 jo:(Nat->Nat)->Nat
 nQ:∀D,0<jo D
 NR:∀D E (a:R),dg D a->dg E a->dg (fun j=>min (D j) (E j)) a
 box:∀D X,∃L:List R,L.Pairwise (· ≠ ·)∧L.length=(X+1)^jo D∧∀a∈L,dg D a∧nm a<=X*jo D
 WM:∀D Y,∃L:List R,L.length<=(2*Y+1)^jo D∧∀a,dg D a->nm a<=Y->a∈L
section
variable {R : Type} [aH R]
def IP (a b:R):aH.nm (a-b)<=aH.nm a+aH.nm b:=by
 rw [sub_def];have h:=aH.nm_add a (-b);rwa [aH.zZ] at h
def JA {D:Nat->Nat} {a b:R}(h:aH.dg D a) (k:aH.dg D b):aH.dg D (a-b):=by
 rw [sub_def];exact aH.vn D _ _ h (aH.Ec D _ k)
def zq {D:Nat->Nat} {n:Nat} {f:Nat->R}(h:∀i,i<n->aH.dg D (f i)):aH.dg D (sum n f):=by
 induction n with
 | zero=>exact aH.en D
 | succ n ih=>rw [ek];exact aH.vn D _ _ (ih fun i hi=>h i (by omega)) (h n (by omega))
def aku (n:Nat) (f:Nat->R):aH.nm (sum n f)<=nS n fun i=>aH.nm (f i):=by
 induction n with
 | zero=>rw [kV,aH.kJ];exact bL _
 | succ n ih=>
   rw [ek];have:=aH.nm_add (sum n f) (f n);show _<=nS n _+aH.nm (f n);omega
def aae (a:R) (h:1<=aH.nm a):∀n:Nat,aH.nm (a^n)<=aH.nm a^n
 | 0=>by rw [aF.pow_zero,aH.sS,wQ];exact Nat.le_refl _
 | n+1=>by
   rw [aF.pow_succ,kY];exact aG (aH.mh _ _) (bG _ (aae a h n))
def pG (R:Type) [aF R] (j:Nat):R:=nsmul j 1
def SM (j:Nat):aH.nm (pG R j)=j:=by
 unfold pG;rw [aH.vV,aH.sS,bl]
def Td (D:Nat->Nat):∀j:Nat,aH.dg D (pG R j)
 | 0=>aH.en D
 | j+1=>by
   show aH.dg D (nsmul j 1+1);exact aH.vn D _ _ (Td D j) (aH.Eb D)
def VW (j:Nat) (a:R):pG R j*a=nsmul j a:=(Mh j a).symm
def VX (i j:Nat):pG R (i+j)=pG R i+pG R j:=nsmul_add i j 1
def Qb {i j:Nat}(h:i≠j) (a:R):aH.nm a<=aH.nm ((pG R i-pG R j)*a)∧∀D,aH.dg D ((pG R i-pG R j)*a)->aH.dg D a:=by
 rcases pT i j with hl | hl
 . obtain ⟨k,rfl⟩:∃k,j=i+(k+1):=⟨j-i-1,by omega⟩
   have e:(pG R i-pG R (i+(k+1)))*a= -(nsmul (k+1) a):=by
    rw [VX,<- VW,<- aF.neg_mul];congr 1
    rw [sub_def,oD,<- aF.add_assoc,add_neg,aF.zero_add]
   rw [e];refine ⟨?_,fun D hd=> ?_⟩
   . rw [aH.zZ,aH.vV];exact iT _ (by omega)
   . have h2:=aH.Ec D _ hd
     rw [aF.neg_neg] at h2;exact aH.Cj D _ a (by omega) h2
 . obtain ⟨k,rfl⟩:∃k,i=j+(k+1):=⟨i-j-1,by omega⟩
   have e:(pG R (j+(k+1))-pG R j)*a=nsmul (k+1) a:=by
    rw [VX,<- VW];congr 1
    rw [aF.add_comm,add_sub_cancel]
   rw [e];exact ⟨by rw [aH.vV];exact iT _ (by omega),fun D hd=>aH.Cj D _ a (by omega) hd⟩
def akr {i j:Nat}(h:i≠j):pG R i-pG R j≠0:=fun e=>by
 have h1:=(Qb (R:=R) h 1).1;rw [e,aF.zero_mul,aH.kJ,aH.sS] at h1;omega
end
namespace Poly
section
variable {R : Type} [aH R]
noncomputable def jS (f:Poly R):Nat:=nS f.len fun i=>aH.nm (f.co i)
def jt {f:Poly R} {n:Nat}(h:f.Sh n):jS f=nS n fun i=>aH.nm (f.co i):=
 (afq (bV h) fun i hi=>by rw [ay f i hi,aH.kJ]).symm
def BZ:jS (0:Poly R)=0:=by unfold jS;rw [gI];rfl
def rC (f:Poly R) (i:Nat):aH.nm (f.co i)<=jS f:=by
 rcases pT i f.len with h | h
 . exact akv (f:=fun i=>aH.nm (f.co i)) h
 . rw [ay f i h,aH.kJ];exact bL _
def Bc (f g:Poly R):jS (f+g)<=jS f+jS g:=by
 have hf:=(ay f).mono (show f.len<=f.len+g.len by omega);have hg:=(ay g).mono (show g.len<=f.len+g.len by omega);rw [jt hf,jt hg,jt (hf.add hg),<- aav];exact K0 fun i _=>aH.nm_add _ _
def Vb (f:Poly R):jS (-f)=jS f:=by
 rw [jt (ay f).neg,jt (ay f)];exact qc fun i _=>aH.zZ _
def mR (n:Nat) (c:R) (g:Poly R):jS (mono n c*g)<=aH.nm c*jS g:=by
 have hs:(mono n c*g).Sh (g.len+n):=fun i hi=>by
  rw [jW];split
  . rw [ay g _ (by omega),aF.mul_zero]
  . rfl
 rw [jt hs,aau g.len n _ fun i hi=>by rw [jW,aY (by omega),aH.kJ]];unfold jS;rw [<- Mk];exact K0 fun i _=>by rw [jW,aM (by omega),DK];exact aH.mh _ _
def Xc {f f1:Poly R} {n:Nat}(hf:f.Sh (n+1)) (h1:f1.Sh n) (e:f=mono n (f.co n)+f1):jS f=aH.nm (f.co n)+jS f1:=by
 rw [jt hf,jt h1];show nS n _+aH.nm (f.co n)=_;rw [xk];congr 1
 refine qc fun i hi=> ?_;rw [e,pJ,dZ,aY (by omega),aF.zero_add]
def W6 (f:Poly R) {n:Nat}(hf:f.Sh (n+1)):∃f1:Poly R,f1.Sh n∧f=mono n (f.co n)+f1:=by
 refine ⟨f-mono n (f.co n),fun i hi=> ?_,by rw [sub_def,add_left_comm,add_neg,aF.add_zero]⟩;rw [oW,dZ];by_cases e:i=n
 . rw [aM e,e,sub_self]
 . rw [aY e,hf i (by omega),sub_self]
def uD (g:Poly R):∀(n:Nat) (f:Poly R),f.Sh n->jS (f*g)<=jS f*jS g
 | 0,f,h=>by rw [MQ h,aF.zero_mul,BZ];exact bL _
 | n+1,f,h=>by
   obtain ⟨f1,h1,e⟩:=W6 f h;have ih:=uD g n f1 h1;have h2:=mR n (f.co n) g;have h3:f*g=mono n (f.co n)*g+f1*g:=by rw [<- add_mul,<- e]
   have h4:=Bc (mono n (f.co n)*g) (f1*g);rw [Xc h h1 e,h3,bO];omega
def BV (j:Nat) (f:Poly R) (i:Nat):(nsmul j f).co i=nsmul j (f.co i):=by
 induction j with
 | zero=>rfl
 | succ j ih=>show (nsmul j f+f).co i=nsmul j (f.co i)+f.co i;rw [pJ,ih]
def afm (j:Nat):nsmul j (0:R)=0:=J9 j
def aah (j:Nat) (f:Poly R):jS (nsmul j f)=j*jS f:=by
 have hs:(nsmul j f).Sh f.len:=fun i hi=>by rw [BV,ay f i hi,afm]
 rw [jt hs,jt (ay f),<- Mk];exact qc fun i _=>by rw [BV,aH.vV]
def mo (D:Nat->Nat) (f:Poly R):Prop:=f.Sh (D 0+1)∧∀i,aH.dg (fun j=>D (j+1)) (f.co i)
def agR {D:Nat->Nat} {f g:Poly R}(h:mo D f) (k:mo D g):mo D (f+g):=⟨h.1.add k.1,fun i=>aH.vn _ _ _ (h.2 i) (k.2 i)⟩
def agO {D:Nat->Nat} {f:Poly R}(h:mo D f):mo D (-f):=⟨h.1.neg,fun i=>aH.Ec _ _ (h.2 i)⟩
def agP {D E:Nat->Nat} {f g:Poly R}(h:mo D f) (k:mo E g):mo (fun j=>D j+E j) (f*g):=
 ⟨h.1.mul k.1 (by show D 0+1+(E 0+1)<=D 0+E 0+1+1;omega),fun i=>by
   rw [oZ];exact zq fun k' _=>aH.jh (fun j=>D (j+1)) (fun j=>E (j+1)) _ _ (h.2 _) (k.2 _)⟩
def Qc {D E:Nat->Nat} {f:Poly R}(h:∀j,D j<=E j) (k:mo D f):mo E f:=⟨k.1.mono (by have:=h 0;omega),fun i=>aH.jr _ _ _ (fun j=>h (j+1)) (k.2 i)⟩
def synth (r:R):∀(n:Nat) (g:Poly R),g.Sh (n+1)->∃g1:Poly R,g1.Sh n∧g=C (ev (fun a=>a) g r)+(X R-C r)*g1
 | 0,g,h=>⟨0,MC 0,by
   have e:=agM h;rw [aF.mul_zero,aF.add_zero];conv=>rhs;rw [e,QY jw]
   exact e⟩
 | n+1,g,h=>by
   have hm:(X R-C r)*mono n (g.co (n+1))=mono (n+1) (g.co (n+1))-C r*mono n (g.co (n+1)):=by
    rw [sub_mul];unfold X;rw [IW,aF.one_mul,xk 1 n]
   have hs:(g-(X R-C r)*mono n (g.co (n+1))).Sh (n+1):=fun i hi=>by
    rw [hm,oW,oW,dZ,kX,dZ];by_cases e:i=n+1
    . rw [aM e,aY (by omega),e,aF.mul_zero,aF.sub_zero,sub_self]
    . rw [aY e,aY (by omega),h i (by omega),aF.mul_zero,aF.sub_zero,sub_self]
   obtain ⟨g1,h1,h2⟩:=synth r n _ hs;have hev:ev (fun a=>a) (g-(X R-C r)*mono n (g.co (n+1))) r=ev (fun a=>a) g r:=by
    rw [NP jw,NQ jw,NP jw,amy jw,QY jw,sub_self,aF.zero_mul,aF.sub_zero]
   rw [hev] at h2;refine ⟨g1+mono n (g.co (n+1)),(h1.mono (by omega)).add fun i hi=>by rw [dZ,aY (by omega)],?_⟩;rw [aF.mul_add,<- aF.add_assoc,<- h2,sub_add_cancel]
def Ou:∀(n:Nat) (f:Poly R),f≠0->f.Sh (n+1)->∀L:List Nat,L.Pairwise (· ≠ ·)->(∀j∈L,ev (fun a=>a) f (pG R j)=0)->L.length<=n
 | n,f,hf,hs,[],_,_=>bL _
 | 0,f,hf,hs,j::L,_,hL=>by
   exfalso;have h1:=hL j aV;rw [agM hs,QY jw] at h1;exact hf (by rw [agM hs,h1,FL])
 | n+1,f,hf,hs,j::L,hp,hL=>by
   obtain ⟨h1,h2⟩:=gQ.1 hp;obtain ⟨g,k1,k2⟩:=synth (pG R j) (n+1) f hs;rw [hL j aV,FL,aF.zero_add] at k2;have hg:g≠0:=fun e=>hf (by rw [k2,e,aF.mul_zero]);have:=Ou n g hg k1 L h2 fun i hi=>by
    have h3:=hL i (bX _ hi);rw [k2,NQ jw,NP jw,amy jw,QY jw] at h3;rcases Dom.nz _ _ h3 with h4 | h4
    . exact absurd h4 (akr (fun e=>h1 i hi e.symm))
    . exact h4
   show L.length+1<=n+1;omega
def aad {f:Poly R} {D:Nat}(hf:f≠0) (hs:f.Sh (D+1)):∃P:List Nat,P.Pairwise (· ≠ ·)∧D+1<=P.length∧∀j∈P,j<=2*D∧ev (fun a=>a) f (pG R j)≠0:=by
 have hr:(List.range (2*D+1)).Pairwise (· ≠ ·):=List.pairwise_lt_range.imp fun h e=>by omega
 refine ⟨(List.range (2*D+1)).filter fun j=> @decide (ev (fun a=>a) f (pG R j)≠0) (Classical.propDecidable _),hr.filter _,?_,fun j hj=> ?_⟩
 . have h1:=Ou D f hf hs ((List.range (2*D+1)).filter fun j=> !(@decide (ev (fun a=>a) f (pG R j)≠0) (Classical.propDecidable _))) (hr.filter _) fun j hj=>by
    have h2:=(Ew.1 hj).2;refine kQ fun h3=> ?_;rw [@decide_eq_true _ (Classical.propDecidable _) h3] at h2;cases h2
   have h2:∀(l:List Nat) (p:Nat->Bool),(l.filter p).length+(l.filter fun x=> !p x).length=l.length:=fun l p=>by
    induction l with
    | nil=>rfl
    | cons x l ih=>cases hx:p x<;>simp [JX,hx]<;>omega
   have h3:=h2 (List.range (2*D+1)) fun j=> @decide (ev (fun a=>a) f (pG R j)≠0) (Classical.propDecidable _);rw [Ev] at h3;omega
 . obtain ⟨h1,h2⟩:=Ew.1 hj
   have:=om.1 h1;exact ⟨by omega,@of_decide_eq_true _ (Classical.propDecidable _) h2⟩
def interp {B V:Nat} {D:Nat->Nat}:∀(m:Nat) (g:Poly R) (V:Nat) (P:List Nat),g.Sh (m+1)->P.Pairwise (· ≠ ·)->m+1<=P.length->(∀j∈P,j<=B∧aH.nm (ev (fun a=>a) g (pG R j))<=V∧aH.dg D (ev (fun a=>a) g (pG R j)))->jS g<=V*(m+1)*(2*(B+1))^m∧∀i,aH.dg D (g.co i)
 | _,_,_,[],_,_,hl,_=>absurd hl (by simp)
 | 0,g,V,p::P,hs,hp,hl,hv=>by
   have e:=agM hs;obtain ⟨_,h1,h2⟩:=hv p aV;rw [e,QY jw] at h1 h2;refine ⟨?_,fun i=> ?_⟩
   . rw [jt hs,wQ]
     show 0+aH.nm (g.co 0)<=_;omega
   . rw [e,wW]
     split
     . exact h2
     . exact aH.en D
 | m+1,g,V,p::P,hs,hp,hl,hv=>by
   obtain ⟨h1,h2⟩:=gQ.1 hp;obtain ⟨hpB,hpV,hpD⟩:=hv p aV;obtain ⟨g1,k1,k2⟩:=synth (pG R p) (m+1) g hs;have ih:=interp (B:=B) (V:=V) (D:=D) m g1 (2*V) P k1 h2 (by simpa using hl) fun j hj=>by
    obtain ⟨hjB,hjV,hjD⟩:=hv j (bX _ hj);have hne:j≠p:=fun e=>h1 j hj e.symm;have e1:(pG R j-pG R p)*ev (fun a=>a) g1 (pG R j)=ev (fun a=>a) g (pG R j)-ev (fun a=>a) g (pG R p):=by
     (have e2:ev (fun a=>a) g (pG R j)=ev (fun a=>a) (C (ev (fun a=>a) g (pG R p))+(X R-C (pG R p))*g1) (pG R j):=by rw [<- k2]);rw [e2,TZ jw,QY jw,NQ jw,NP jw,amy jw,QY jw,aF.add_comm,add_sub_cancel]
    obtain ⟨b1,b2⟩:=Qb (R:=R) hne (ev (fun a=>a) g1 (pG R j));rw [e1] at b1 b2;have h3:=IP (ev (fun a=>a) g (pG R j)) (ev (fun a=>a) g (pG R p));exact ⟨hjB,by omega,b2 D (JA hjD hpD)⟩
   obtain ⟨i1,i2⟩:=ih;have hC:jS (C (ev (fun a=>a) g (pG R p)))<=V:=by
    rw [jt (J3 _)];show 0+aH.nm ((C (ev (fun a=>a) g (pG R p))).co 0)<=V;rw [wW,aM rfl];omega
   have hX:jS (X R*g1)<=jS g1:=by
    have h3:=mR 1 (1:R) g1;rw [aH.sS,bN] at h3;exact h3
   have hCg:jS (C (pG R p)*g1)<=p*jS g1:=by
    have h3:=mR 0 (pG R p) g1;rw [SM] at h3;exact h3
   refine ⟨?_,fun i=> ?_⟩
   . have e3:g=C (ev (fun a=>a) g (pG R p))+(X R*g1+ -(C (pG R p)*g1)):=by
      conv=>lhs;rw [k2,sub_mul,sub_def]
     have h3:=Bc (C (ev (fun a=>a) g (pG R p))) (X R*g1+ -(C (pG R p)*g1));have h4:=Bc (X R*g1) (-(C (pG R p)*g1));rw [Vb] at h4;rw [<- e3] at h3;have h5:(p+1)*jS g1<=(B+1)*(2*V*(m+1)*(2*(B+1))^m):=ct (by omega) i1;have e4:(B+1)*(2*V*(m+1)*(2*(B+1))^m)=V*(m+1)*(2*(B+1))^(m+1):=by
      rw [kY];ac_rfl
     have h6:V*1<=V*(2*(B+1))^(m+1):=bn _ (iN (by omega));rw [bO,bN] at h5;rw [ak V (m+1) 1,bO,bl V];omega
   . rw [k2,pJ,wW,sub_mul,oW,kX]
     have d1:aH.dg D ((X R*g1).co i):=by
      unfold X;rw [jW];split
      . rw [aF.one_mul];exact i2 _
      . exact aH.en D
     have d2:aH.dg D (pG R p*g1.co i):=aH.jr _ _ _ (fun j=>by show 0+D j<=D j;omega) (aH.jh (fun _=>0) D _ _ (Td _ p) (i2 i));refine aH.vn D _ _ ?_ (JA d1 d2);split
     . exact hpD
     . exact aH.en D
def arR {f:Poly R} {D j:Nat}(hs:f.Sh (D+1)) (hj:j<=2*D):aH.nm (ev (fun a=>a) f (pG R j))<=jS f*(2*D+1)^D:=by
 rw [Cf jw hs,jt hs,aq,<- Mk];unfold Yy;refine aG (aku _ _) (K0 fun i hi=> ?_);refine aG (aH.mh _ _) ?_;rw [aq];refine bG _ ?_;by_cases h0:j=0
 . subst h0
   have e:(pG R 0)^i=if i=0 then 1 else 0:=by
    by_cases rT:i=0
    . rw [aM rT,rT,aF.pow_zero]
    . rw [aY rT];exact aF.zero_pow (by omega)
   rw [e];have h1:1<=(2*D+1)^D:=iN (by omega);split
   . rw [aH.sS];exact h1
   . rw [aH.kJ];omega
 . refine aG (aae _ (by rw [SM];omega) i) ?_
   rw [SM];exact aG (AJ (show j<=2*D+1 by omega) i) (fP (by omega) (by omega))
def arS {f:Poly R} {D:Nat->Nat}(h:∀i,aH.dg D (f.co i)) (j:Nat):aH.dg D (ev (fun a=>a) f (pG R j)):=by
 have axy:∀i:Nat,aH.dg (fun _=>0) ((pG R j)^i):=fun i=>by
  induction i with
  | zero=>rw [aF.pow_zero];exact aH.Eb _
  | succ i ih=>rw [aF.pow_succ];exact aH.jh (fun _=>0) (fun _=>0) _ _ ih (Td _ j)
 exact zq fun i _=>aH.jr _ _ _ (fun k=>by show D k+0<=D k;omega) (aH.jh D (fun _=>0) _ _ (h i) (axy i))
def ED (R:Type) [aH R] (D:Nat->Nat):Nat:=aH.uk R (fun j=>D (j+1))*(2*D 0+1)^D 0*(D 0+1)*(2*(2*D 0+1))^D 0
def NM {D:Nat->Nat} {f g:Poly R}(hf:f≠0) (hd:mo D f) (hg:Dv g f):mo D g∧jS g<=ED R D*jS f:=by
 have KF:g.Sh (D 0+1):=(ay g).mono (aG (Dv.bV hg hf) (bV hd.1));obtain ⟨P,p1,p2,p3⟩:=aad hf hd.1;have h:=interp (B:=2*D 0) (V:=0) (D:=fun j=>D (j+1)) (D 0) g (aH.uk R (fun j=>D (j+1))*(jS f*(2*D 0+1)^D 0)) P KF p1 p2 fun j hj=>by
  obtain ⟨k1,k2⟩:=p3 j hj;obtain ⟨c,e⟩:=hg;have WA:Dv (ev (fun a=>a) g (pG R j)) (ev (fun a=>a) f (pG R j)):=⟨ev (fun a=>a) c (pG R j),by rw [e,NQ jw]⟩;obtain ⟨m1,m2⟩:=aH.factor (fun j=>D (j+1)) _ _ k2 (arS hd.2 j) WA;exact ⟨k1,aG m2 (bn _ (arR hd.1 k1)),m1⟩
 refine ⟨⟨KF,h.2⟩,aG h.1 (ig ?_)⟩;unfold ED;ac_rfl
end
end Poly
def oQ {α:Type}(L:List α):Nat->List (List α)
 | 0=> [[]]
 | k+1=>(oQ L k).flatMap fun l=>L.map fun x=>x::l
def QW {α β:Type} {f:α->List β}:∀{l:List α},(∀a∈l,(f a).length=c)->(l.flatMap f).length=l.length*c
 | [],_=>by simp
 | a::l,h=>by
   rw [vz,eC,h a aV,QW fun b hb=>h b (bX _ hb),rL,bO,bN,xk]
def qd {α:Type}(L:List α):∀k,(oQ L k).length=L.length^k
 | 0=>rfl
 | k+1=>by
   show ((oQ L k).flatMap _).length=_;rw [QW (c:=L.length) fun a _=>dJ _,qd L k,kY]
def lW {α:Type} {L:List α}:∀{k:Nat} {l:List α},l∈oQ L k->l.length=k∧∀x∈l,x∈L
 | 0,l,h=>by
   rw [dS.1 h];exact ⟨rfl,fun x hx=>by cases hx⟩
 | k+1,l,h=>by
   obtain ⟨m,hm,h2⟩:=tG.1 h;obtain ⟨x,hx,rfl⟩:=af.1 h2;obtain ⟨k1,k2⟩:=lW hm;exact ⟨by rw [rL,k1],fun y hy=>(iH.1 hy).elim (fun e=>by rw [e];exact hx) (k2 y)⟩
def zi {α:Type} {L:List α}:∀{l:List α},(∀x∈l,x∈L)->l∈oQ L l.length
 | [],_=>aV
 | x::l,h=>tG.2 ⟨l,zi fun y hy=>h y (bX _ hy),af.2 ⟨x,h x aV,rfl⟩⟩
def QV {α β:Type} {f:α->List β}:∀{l:List α},l.Pairwise (· ≠ ·)->(∀a∈l,(f a).Pairwise (· ≠ ·))->(∀a∈l,∀b∈l,∀x,x∈f a->x∈f b->a=b)->(l.flatMap f).Pairwise (· ≠ ·)
 | [],_,_,_=>List.Pairwise.nil
 | a::l,h,h1,h2=>by
   obtain ⟨k1,k2⟩:=gQ.1 h;rw [vz];refine Ez.2 ⟨h1 a aV,QV k2 (fun b hb=>h1 b (bX _ hb)) fun b hb c hc=>h2 b (bX _ hb) c (bX _ hc),fun x hx y hy e=> ?_⟩;obtain ⟨b,hb,hy⟩:=tG.1 hy;subst e;exact k1 b hb (h2 a aV b (bX _ hb) x hx hy)
def xT {α:Type} {L:List α}(h:L.Pairwise (· ≠ ·)):∀k,(oQ L k).Pairwise (· ≠ ·)
 | 0=>xz _ _
 | k+1=>QV (xT h k) (fun l _=>mG.2 (h.imp fun hne e=>hne (mF e).1)) fun a _ b _ x hx hy=>by
   obtain ⟨u,_,rfl⟩:=af.1 hx;obtain ⟨v,_,e⟩:=af.1 hy;exact (mF e).2.symm
instance ahZ:Dc Int where
 mg:=by decide
 nz a b h:=Int.mul_eq_zero.1 h
 zo a b:=by
  refine ⟨(Int.gcd a b:Int),?_,?_,fun d h k=> ?_⟩
  . exact Int.gcd_dvd_left a b
  . exact Int.gcd_dvd_right a b
  . have h1:d∣a:=h
    have h2:d∣b:=k;exact Int.dvd_coe_gcd h1 h2
def Xa (j:Nat) (a:Int):nsmul j a=(j:Int)*a:=by
 induction j with
 | zero=>show (0:Int)=((0:Nat):Int)*a;simp
 | succ j ih=>
   show nsmul j a+a=_;rw [ih];show (j:Int)*a+a=((j+1:Nat):Int)*a;rw [lI,rJ];simp
instance Sr:aH Int where
 nm:=Int.natAbs
 kJ:=rfl
 rB a h:=Int.natAbs_pos.2 h
 sS:=rfl
 nm_add:=Int.natAbs_add_le
 zZ:=UL
 mh a b:=ig (sw a b)
 vV j a:=by rw [Xa,sw];rfl
 dg _ _:=True
 en _:=trivial
 Eb _:=trivial
 vn _ _ _ _ _:=trivial
 Ec _ _ _:=trivial
 jh _ _ _ _ _ _:=trivial
 jr _ _ _ _ _:=trivial
 Cj _ _ _ _ _:=trivial
 uk _:=1
 lH _:=Nat.one_pos
 factor D f g hf _ hg:=by
  refine ⟨trivial,?_⟩;obtain ⟨c,e⟩:=hg;have e2:f=g*c:=e;have hc:c≠0:=fun e0=>hf (by rw [e2,e0];exact xu g);rw [e2,bN,sw];exact jR _ (Int.natAbs_pos.2 hc)
 jo _:=1
 nQ _:=Nat.one_pos
 NR _ _ _ _ _:=trivial
 box _ X:=by
  refine ⟨(List.range (X+1)).map fun (i:Nat)=>(i:Int),mG.2 (List.pairwise_lt_range.imp fun h e=>by omega),by rw [dJ,Ev,UE],fun a ha=>⟨trivial,?_⟩⟩;obtain ⟨i,hi,rfl⟩:=af.1 ha;have:=om.1 hi;show ((i:Int)).natAbs<=_;omega
 WM _ Y:=by
  refine ⟨(List.range (2*Y+1)).map fun (i:Nat)=>(i:Int)-Y,by rw [dJ,Ev,UE];exact Nat.le_refl _,fun a _ h=>af.2 ⟨(a+Y).toNat,om.2 ?_,?_⟩⟩
  . have h2:a.natAbs<=Y:=h
    omega
  . have h2:a.natAbs<=Y:=h
    show ((a+Y).toNat:Int)-Y=a;omega
namespace Poly
section
variable {R : Type} [aH R]
def vG (l:List R):Poly R:=⟨fun i=>l.getD i 0,l.length,fun i hi=>by simp [List.getD,hi]⟩
def zu {l:List R} {i:Nat}(h:i<l.length):(vG l).co i=l[i]:=by
 show l.getD i 0=_;simp [List.getD,h]
def xP (l:List R):(vG l).Sh l.length:=fun i hi=>by show l.getD i 0=0;simp [List.getD,hi]
def Mg {l m:List R}(hl:l.length=m.length) (h:vG l=vG m):l=m:=
 anb hl fun i h1 h2=>by
  have:=dh (fun q:Poly R=>q.co i) h;rwa [zu h1,zu h2] at this
def aey (R:Type) [aH R] (D:Nat->Nat):Nat:=(D 0+1)*aH.jo R (fun j=>D (j+1))
def aks {D:Nat->Nat} {l:List R}(hl:l.length=D 0+1) (h:∀a∈l,aH.dg (fun j=>D (j+1)) a):mo D (vG l):=by
 refine ⟨by rw [<- hl];exact xP l,fun i=> ?_⟩;rcases pT i l.length with hi | hi
 . rw [zu hi];exact h _ (bR hi)
 . rw [xP l i hi];exact aH.en _
noncomputable instance P8:aH (Poly R) where
 nm:=jS
 kJ:=BZ
 rB f h:=by
  have h1:=rC f (f.len-1);have h2:=aH.rB _ (ve (cI h));omega
 sS:=by
  rw [jt (f:=(1:Poly R)) (n:=1) (J3 1)];show 0+aH.nm ((1:Poly R).co 0)=1;rw [uP,aM rfl,aH.sS]
 nm_add:=Bc
 zZ:=Vb
 mh f g:=uD g f.len f (ay f)
 vV:=aah
 dg:=mo
 en D:=⟨MC _,fun _=>aH.en _⟩
 Eb D:=⟨(J3 1).mono (by omega),fun i=>by
  rw [uP];split
  . exact aH.Eb _
  . exact aH.en _⟩
 vn D _ _:=agR
 Ec D _:=agO
 jh D E _ _:=agP
 jr D E _:=Qc
 Cj D j f hj h:=⟨fun i hi=>by
  have h1:=h.1 i hi;rw [BV] at h1;refine kQ fun hne=> ?_;have h2:=aH.rB _ hne;have h3:=aH.vV (R:=R) j (f.co i);rw [h1,aH.kJ] at h3;have h4:0<j*aH.nm (f.co i):=iR (by omega) h2;omega,fun i=>by
  have h1:=h.2 i;rw [BV] at h1;exact aH.Cj _ j _ hj h1⟩
 uk:=ED R
 lH D:=iR (iR (iR (aH.lH _) (iN (by omega))) (by omega)) (iN (by omega))
 factor D f g hf hd hg:=NM hf hd hg
 jo:=aey R
 nQ D:=iR (by omega) (aH.nQ _)
 NR D E f h k:=⟨fun i hi=>by
  by_cases h0:D 0<=E 0
  . exact h.1 i (by have:min (D 0) (E 0)=D 0:=oz h0
                    have yz:min (D 0) (E 0)+1<=i:=hi;omega)
  . exact k.1 i (by have:min (D 0) (E 0)=E 0:=Nat.min_eq_right (by omega)
                    have yz:min (D 0) (E 0)+1<=i:=hi;omega),fun i=>aH.NR _ _ _ (h.2 i) (k.2 i)⟩
 box D X:=by
  obtain ⟨L,l1,l2,l3⟩:=aH.box (R:=R) (fun j=>D (j+1)) X;refine ⟨(oQ L (D 0+1)).map vG,mG.2 ((xT l1 _).imp_of_mem fun {a b} ha hb hne e=>hne (Mg ((lW ha).1.trans (lW hb).1.symm) e)),?_,fun a ha=> ?_⟩
  . rw [dJ,qd,l2,<- uW]
    unfold aey;rw [aq (D 0+1)]
  . obtain ⟨l,hl,rfl⟩:=af.1 ha
    obtain ⟨k1,k2⟩:=lW hl;refine ⟨aks k1 fun x hx=>(l3 x (k2 x hx)).1,?_⟩;show jS (vG l)<=_;rw [jt (xP l),k1];refine aG (K0 (g:=fun _=>X*aH.jo R (fun j=>D (j+1))) fun i hi=> ?_) ?_
    . rw [zu (by omega)]
      exact (l3 _ (k2 _ (bR (by omega)))).2
    . rw [Be]
      unfold aey;exact ig (by ac_rfl)
 WM D Y:=by
  obtain ⟨L,l1,l2⟩:=aH.WM (R:=R) (fun j=>D (j+1)) Y;refine ⟨(oQ L (D 0+1)).map vG,?_,fun a ha hn=> ?_⟩
  . rw [dJ,qd]
    unfold aey;rw [aq (D 0+1),uW];exact AJ l1 _
  . have hl:((List.range (D 0+1)).map a.co).length=D 0+1:=by rw [dJ,Ev]
    have h1:=zi (L:=L) (l:=(List.range (D 0+1)).map a.co) fun x hx=>by
     obtain ⟨i,_,rfl⟩:=af.1 hx;exact l2 _ (ha.2 i) (aG (rC a i) hn)
    rw [hl] at h1;refine af.2 ⟨_,h1,ext fun i=> ?_⟩;rcases pT i (D 0+1) with hi | hi
    . rw [zu (by omega),List.getElem_map,List.getElem_range]
    . rw [xP _ i (by omega),ha.1 i hi]
end
end Poly
abbrev fI:=List Int
abbrev mH:=fI×Int
abbrev Mv:=List mH
def eM {α:Type}(f:α->Int):List α->Int
 | []=>0
 | a::L=>f a+eM f L
section
variable {α β : Type}
def qN (f:α->Int):∀L M:List α,eM f (L++M)=eM f L+eM f M
 | [],M=>by show eM f M=0+_;omega
 | a::L,M=>by show f a+eM f (L++M)=f a+eM f L+_;rw [qN f L M];omega
def fk {f g:α->Int}:∀{L:List α},(∀a∈L,f a=g a)->eM f L=eM g L
 | [],_=>rfl
 | a::L,h=>by show f a+_=g a+_;rw [h a aV,fk fun b hb=>h b (bX _ hb)]
def pE:∀L:List α,eM (fun _=>(0:Int)) L=0
 | []=>rfl
 | a::L=>by show 0+eM _ L=0;rw [pE L];rfl
def Ob (f g:α->Int):∀L:List α,eM (fun a=>f a+g a) L=eM f L+eM g L
 | []=>rfl
 | a::L=>by show f a+g a+eM _ L=f a+_+(g a+_);rw [Ob f g L];omega
def BF (c:Int) (f:α->Int):∀L:List α,eM (fun a=>c*f a) L=c*eM f L
 | []=>by show 0=c*0;rw [xu]
 | a::L=>by show c*f a+eM _ L=c*(f a+_);rw [BF c f L,Jg]
def XF (c:Int) (f:α->Int) (L:List α):eM (fun a=>f a*c) L=eM f L*c:=by
 rw [nE,<- BF];exact fk fun a _=>nE _ _
def xG (g:β->α) (f:α->Int):∀L:List β,eM f (L.map g)=eM (fun b=>f (g b)) L
 | []=>rfl
 | b::L=>by show f (g b)+eM f (L.map g)=_;rw [xG g f L];rfl
def Dy (g:β->List α) (f:α->Int):∀L:List β,eM f (L.flatMap g)=eM (fun b=>eM f (g b)) L
 | []=>rfl
 | b::L=>by rw [vz,qN,Dy g f L];rfl
def Kg (f:α->β->Int):∀(L:List α) (M:List β),eM (fun a=>eM (f a) M) L=eM (fun b=>eM (fun a=>f a b) L) M
 | [],M=>(pE M).symm
 | a::L,M=>by
   show eM (f a) M+eM _ L=_;rw [Kg f L M,<- Ob];rfl
def XE (f:α->Int) {L M:List α}(h:L.Perm M):eM f L=eM f M:=by
 induction h with
 | nil=>rfl
 | cons a _ ih=>show f a+_=f a+_;rw [ih]
 | swap a b L=>show f b+(f a+_)=f a+(f b+_);omega
 | trans _ _ ih1 ih2=>rw [ih1,ih2]
def Kh [DecidableEq α] {f:α->Int}:∀{L:List α} {a:α},L.Pairwise (· ≠ ·)->a∈L->(∀b∈L,b≠a->f b=0)->eM f L=f a
 | b::L,a,hp,ha,h0=>by
   obtain ⟨h1,h2⟩:=gQ.1 hp;show f b+eM f L=f a;rcases iH.1 ha with rfl | ha
   . rw [fk (g:=fun _=>0) fun c hc=>h0 c (bX _ hc) (fun e=>h1 c hc e.symm),pE];omega
   . rw [h0 b aV (h1 a ha),Kh h2 ha fun c hc=>h0 c (bX _ hc)];omega
end
def gh (L:Mv) (p:fI):Int:=eM (fun t:mH=>if t.1=p then t.2 else 0) L
def ic (L M:Mv) (p:fI):gh (L++M) p=gh L p+gh M p:=qN _ _ _
def aj (t:mH) (L:Mv) (p:fI):gh (t::L) p=(if t.1=p then t.2 else 0)+gh L p:=rfl
def qF (p:fI):gh [] p=0:=rfl
def Qg {L M:Mv}(h:L.Perm M) (p:fI):gh L p=gh M p:=XE _ h
def l7 {L:Mv} {p:fI}(h:∀t∈L,t.1≠p):gh L p=0:=by
 unfold gh;rw [fk (g:=fun _=>0) fun t ht=>aY (h t ht),pE]
def fS (c:Int) (L:Mv):Mv:=L.map fun t=>(t.1,c*t.2)
def uy (c:Int) (L:Mv) (p:fI):gh (fS c L) p=c*gh L p:=by
 unfold gh fS;rw [xG,<- BF];refine fk fun t _=> ?_;show (if t.1=p then c*t.2 else 0)=c*(if t.1=p then t.2 else 0);split
 . rfl
 . rw [xu]
def dI (a b:fI):fI:=List.zipWith (· + ·) a b
def Rq (a b:fI):fI:=List.zipWith (· - ·) a b
def kF {a b:fI} (ha:a.length=n) (hb:b.length=n):(dI a b).length=n:=by unfold dI;rw [adp];omega
def pM:∀a b:fI,dI a b=dI b a
 | [],b=>by cases b<;>rfl
 | x::a,[]=>rfl
 | x::a,y::b=>by
   show (x+y)::dI a b=(y+x)::dI b a;rw [pM a b,Nl]
def vB:∀{a b p:fI},a.length=b.length->a.length=p.length->(dI a b=p↔a=Rq p b)
 | [],[],[],_,_=>⟨fun _=>rfl,fun _=>rfl⟩
 | x::a,y::b,z::p,h1,h2=>by
   have ih:=vB (a:=a) (b:=b) (p:=p) (by simpa using h1) (by simpa using h2);show (x+y)::dI a b=z::p↔x::a=(z-y)::Rq p b;constructor
   . intro h
     injection h with h3 h4
     rw [<- ih.1 h4,show x=z-y by omega]
   . intro h
     injection h with h3 h4
     rw [ih.2 h4,show x+y=z by omega]
def mulM (L M:Mv):Mv:=L.flatMap fun a=>M.map fun b=>(dI a.1 b.1,a.2*b.2)
def agX (L M:Mv) (p:fI):gh (mulM L M) p=eM (fun a:mH=>eM (fun b:mH=>if dI a.1 b.1=p then a.2*b.2 else 0) M) L:=by
 unfold gh mulM;rw [Dy];exact fk fun a _=>xG _ _ _
def FV (L M N:Mv):mulM (L++M) N=mulM L N++mulM M N:=by unfold mulM;rw [Lt]
def I9 {α β:Type} {f g:α->List β}:∀{L:List α},(∀a∈L,f a=g a)->L.flatMap f=L.flatMap g
 | [],_=>rfl
 | a::L,h=>by rw [vz,vz,h a aV,I9 fun b hb=>h b (bX _ hb)]
def eW (n:Nat) (L:Mv):Prop:=∀t∈L,t.1.length=n
def eW.append {L M:Mv}(h:eW n L) (k:eW n M):eW n (L++M):=fun t ht=>(gT.1 ht).elim (h t) (k t)
def eW.scale {L:Mv}(h:eW n L) (c:Int):eW n (fS c L):=fun t ht=>by
 obtain ⟨x,hx,rfl⟩:=af.1 ht;exact h x hx
def eW.mul {L M:Mv}(h:eW n L) (k:eW n M):eW n (mulM L M):=fun t ht=>by
 obtain ⟨a,ha,ht⟩:=tG.1 ht;obtain ⟨b,hb,rfl⟩:=af.1 ht;exact kF (h a ha) (k b hb)
def jI (n:Nat) (L M:Mv):Prop:=∀p:fI,p.length=n->gh L p=gh M p
section
variable {n : Nat} {L L' M M' N : Mv}
def jI.refl (n:Nat) (L:Mv):jI n L L:=fun _ _=>rfl
def jI.symm (h:jI n L M):jI n M L:=fun p hp=>(h p hp).symm
def jI.trans (h:jI n L M) (k:jI n M N):jI n L N:=fun p hp=>(h p hp).trans (k p hp)
def jI.add (h:jI n L L') (k:jI n M M'):jI n (L++M) (L'++M'):=fun p hp=>by rw [ic,ic,h p hp,k p hp]
def jI.scale (h:jI n L L') (c:Int):jI n (fS c L) (fS c L'):=fun p hp=>by rw [uy,uy,h p hp]
def jI.perm (h:L.Perm M):jI n L M:=fun p _=>Qg h p
def Qh (hL:eW n L) (hM:eW n M) {p:fI}(hp:p.length=n):gh (mulM L M) p=eM (fun b:mH=>gh L (Rq p b.1)*b.2) M:=by
 rw [agX,Kg];refine fk fun b hb=> ?_;unfold gh;rw [<- XF];refine fk fun a ha=> ?_;have h:=vB (a:=a.1) (b:=b.1) (p:=p) ((hL a ha).trans (hM b hb).symm) ((hL a ha).trans hp.symm);by_cases e:dI a.1 b.1=p
 . rw [aM e,aM (h.1 e)]
 . rw [aY e,aY (fun e2=>e (h.2 e2)),uV]
end
def ir:fI->fI->Prop
 | x::a,y::b=>x<y∨(x=y∧ir a b)
 | _,_=>False
instance amG:∀a b:fI,Decidable (ir a b)
 | [],_=> .isFalse id
 | _::_,[]=> .isFalse id
 | _x::a,_y::b=> @instDecidableOr _ _ _ (@instDecidableAnd _ _ _ (amG a b))
def ir.irrefl:∀a:fI,¬ir a a
 | [],h=>h
 | x::a,h=>by
   rcases h with h | ⟨_,h⟩
   . omega
   . exact ir.irrefl a h
def ir.trans:∀{a b c:fI},ir a b->ir b c->ir a c
 | x::a,y::b,z::c,h,k=>by
   rcases h with h | ⟨rfl,h⟩
   . rcases k with k | ⟨rfl,k⟩
     . exact .inl (by omega)
     . exact .inl h
   . rcases k with k | ⟨rfl,k⟩
     . exact .inl k
     . exact .inr ⟨rfl,ir.trans h k⟩
def ir.tri:∀{a b:fI},a.length=b.length->ir a b∨a=b∨ir b a
 | [],[],_=> .inr (.inl rfl)
 | x::a,y::b,h=>by
   rcases WX x y with h1 | rfl | h1
   . exact .inl (.inl h1)
   . rcases ir.tri (a:=a) (b:=b) (by simpa using h) with h2 | rfl | h2
     . exact .inl (.inr ⟨rfl,h2⟩)
     . exact .inr (.inl rfl)
     . exact .inr (.inr (.inr ⟨rfl,h2⟩))
   . exact .inr (.inr (.inl h1))
def ir.add:∀{a b c d:fI},a.length=c.length->b.length=d.length->a.length=b.length->ir a b->(ir c d∨c=d)->ir (dI a c) (dI b d)
 | x::a,y::b,z::c,u::d,h1,h2,h3,h,k=>by
   have ih:=ir.add (a:=a) (b:=b) (c:=c) (d:=d) (by simpa using h1) (by simpa using h2) (by simpa using h3);show x+z<y+u∨(x+z=y+u∧ir (dI a c) (dI b d));rcases k with k | k
   . rcases h with h | ⟨rfl,h⟩<;>rcases k with k | ⟨rfl,k⟩
     . exact .inl (by omega)
     . exact .inl (by omega)
     . exact .inl (by omega)
     . exact .inr ⟨rfl,ih h (.inl k)⟩
   . injection k with k1 k2
     subst k1;rcases h with h | ⟨rfl,h⟩
     . exact .inl (by omega)
     . exact .inr ⟨rfl,ih h (.inr k2)⟩
structure av (n:Nat) (L:Mv):Prop where
 len:eW n L
 ord:L.Pairwise fun s t=>ir t.1 s.1
 ne:∀t∈L,t.2≠0
section
variable {n : Nat} {L M : Mv}
def av.nil (n:Nat):av n []:=⟨fun t h=>(by cases h),List.Pairwise.nil,fun t h=>(by cases h)⟩
def av.tail {t:mH}(h:av n (t::L)):av n L:=⟨fun s hs=>h.len s (bX _ hs),(gQ.1 h.ord).2,fun s hs=>h.ne s (bX _ hs)⟩
def av.mU {t:mH}(h:av n (t::L)):gh (t::L) t.1=t.2:=by
 rw [aj,aM rfl,l7 fun s hs e=>ir.irrefl t.1 (by have:=(gQ.1 h.ord).1 s hs;rwa [e] at this)];omega
def av.JF {t:mH}(h:av n (t::L)) {p:fI}(hp:ir t.1 p):gh (t::L) p=0:=by
 refine l7 fun s hs e=> ?_;subst e;rcases iH.1 hs with rfl | hs
 . exact ir.irrefl _ hp
 . exact ir.irrefl _ (ir.trans hp ((gQ.1 h.ord).1 s hs))
def av.JE:∀{L:Mv},av n L->∀t∈L,gh L t.1=t.2
 | s::L,h,t,ht=>by
   rcases iH.1 ht with rfl | ht
   . exact h.mU
   . rw [aj,aY fun e=>ir.irrefl s.1 (by have:=(gQ.1 h.ord).1 t ht;rwa [<- e] at this),h.tail.JE t ht];omega
def av.Xp (_h:av n L) {p:fI}(hp:gh L p≠0):∃t∈L,t.1=p:=by
 by_cases hx:∃t∈L,t.1=p
 . exact hx
 . exact absurd (l7 fun t ht e=>hx ⟨t,ht,e⟩) hp
def av.unique:∀{L M:Mv},av n L->av n M->jI n L M->L=M
 | [],[],_,_,_=>rfl
 | [],t::M,_,k,e=>by
   have h:=e t.1 (k.len t aV);rw [k.mU,qF] at h;exact absurd h.symm (k.ne t aV)
 | s::L,[],h,_,e=>by
   have h':=e s.1 (h.len s aV);rw [h.mU,qF] at h';exact absurd h' (h.ne s aV)
 | s::L,t::M,h,k,e=>by
   have e1:s.1=t.1:=by
    rcases ir.tri ((h.len s aV).trans (k.len t aV).symm) with h1 | h1 | h1
    . have h2:=e t.1 (k.len t aV)
      rw [k.mU,h.JF h1] at h2;exact absurd h2.symm (k.ne t aV)
    . exact h1
    . have h2:=e s.1 (h.len s aV)
      rw [h.mU,k.JF h1] at h2;exact absurd h2 (h.ne s aV)
   have e2:s.2=t.2:=by
    have h2:=e s.1 (h.len s aV);rw [h.mU,e1,k.mU] at h2;exact h2
   have e3:s=t:=WY e1 e2;subst e3;rw [av.unique h.tail k.tail fun p hp=>by have:=e p hp;rw [aj,aj] at this;omega]
def av.PW {s t:mH} {L M N:Mv}(h:av n (s::L)) (k:av n (t::M)) (hN:av n N) (e:jI n N (mulM (s::L) (t::M))):∃N',N=(dI s.1 t.1,s.2*t.2)::N':=by
 have hs:=h.len s aV;have ht:=k.len t aV;have mj:∀a∈s::L,∀b∈t::M,(a=s∧b=t)∨ir (dI a.1 b.1) (dI s.1 t.1):=fun a ha b hb=>by
  have la:=h.len a ha;have lb:=k.len b hb;rcases iH.1 ha with rfl | ha'
  . rcases iH.1 hb with rfl | nI
    . exact .inl ⟨rfl,rfl⟩
    . refine .inr ?_
      rw [pM,pM a.1];exact ir.add (by omega) (by omega) (by omega) ((gQ.1 k.ord).1 b nI) (.inr rfl)
  . refine .inr (ir.add (by omega) (by omega) (by omega) ((gQ.1 h.ord).1 a ha') ?_)
    rcases iH.1 hb with rfl | nI
    . exact .inr rfl
    . exact .inl ((gQ.1 k.ord).1 b nI)
 have qm:=kF hs ht;have LR:gh (mulM (s::L) (t::M)) (dI s.1 t.1)=s.2*t.2:=by
  rw [Qh h.len k.len qm];show gh (s::L) (Rq (dI s.1 t.1) t.1)*t.2+eM _ M=_;have e1:s.1=Rq (dI s.1 t.1) t.1:=(vB (by omega) (by omega)).1 rfl;rw [<- e1,h.mU,fk (g:=fun _=>0) fun b hb=> ?_,pE]
  . omega
  . have lb:=k.len b (bX _ hb)
    rw [l7,uV];intro a ha e2;have la:=h.len a ha;have e3:=(vB (a:=a.1) (b:=b.1) (p:=dI s.1 t.1) (by omega) (by omega)).2 e2;rcases mj a ha b (bX _ hb) with ⟨_,h2⟩ | h2
    . subst h2
      exact ir.irrefl _ ((gQ.1 k.ord).1 b hb)
    . rw [e3] at h2;exact ir.irrefl _ h2
 have hne:s.2*t.2≠0:=Int.mul_ne_zero (h.ne s aV) (k.ne t aV);obtain ⟨u,hu,hup⟩:=hN.Xp (p:=dI s.1 t.1) (by rw [e _ qm,LR];exact hne);match N,hN,e,hu with
 | v::N',hN,e,hu=>
   have hv:v.1=dI s.1 t.1:=by
    rcases iH.1 hu with rfl | hu
    . exact hup
    . have h1:=(gQ.1 hN.ord).1 u hu
      rw [hup] at h1;exfalso;have h2:=e v.1 (hN.len v aV);rw [hN.mU,l7] at h2
      . exact hN.ne v aV h2
      . intro x hx e3
        obtain ⟨a,ha,hx⟩:=tG.1 hx;obtain ⟨b,hb,rfl⟩:=af.1 hx;have e4:dI a.1 b.1=v.1:=e3;rcases mj a ha b hb with ⟨rfl,rfl⟩ | h3
        . rw [e4] at h1;exact ir.irrefl _ h1
        . rw [e4] at h3;exact ir.irrefl _ (ir.trans h1 h3)
   have hc:v.2=s.2*t.2:=by
    have h2:=e v.1 (hN.len v aV);rw [hN.mU,hv,LR] at h2;exact h2
   exact ⟨N',by rw [<- hv,<- hc]⟩
def av.afu {N:Mv}(hN:av n N) (e:jI n N []):N=[]:=hN.unique (av.nil n) e
end
section
variable {n : Nat} {L M N : Mv}
def Th {L:Mv} {p:fI}(h:gh L p≠0):∃t∈L,t.1=p:=by
 by_cases hx:∃t∈L,t.1=p
 . exact hx
 . exact absurd (l7 fun t ht e=>hx ⟨t,ht,e⟩) h
def av.from_ (h:av n L) (e:jI n L M) {t:mH}(ht:t∈L):∃s∈M,s.1=t.1:=by
 refine Th (L:=M) ?_;rw [<- e t.1 (h.len t ht),h.JE t ht];exact h.ne t ht
def av.nodup (h:av n L):(L.map (·.1)).Pairwise (· ≠ ·):=
 mG.2 (h.ord.imp fun {s t}(hlt:ir t.1 s.1) (e:s.1=t.1)=>ir.irrefl t.1 (by rw [e] at hlt;exact hlt))
def IM {α:Type} [DecidableEq α]:∀{l m:List α},l.Pairwise (· ≠ ·)->(∀x∈l,x∈m)->l.length<=m.length
 | [],_,_,_=>bL _
 | x::l,m,h,hs=>by
   obtain ⟨h1,h2⟩:=gQ.1 h;have hx:=hs x aV;have h3:=IM (l:=l) (m:=m.erase x) h2 fun y hy=>by
    have hne:y≠x:=fun e=>h1 y hy e.symm;exact (List.mem_erase_of_ne hne).2 (hs y (bX _ hy))
   have h4:=List.length_erase_of_mem hx;have h5:=List.length_pos_of_mem hx;show l.length+1<=_;omega
def av.count (h:av n L) (e:jI n L M):L.length<=M.length:=by
 have h1:=IM (l:=L.map (·.1)) (m:=M.map (·.1)) h.nodup fun p hp=>by
  obtain ⟨t,ht,rfl⟩:=af.1 hp;obtain ⟨s,hs,e2⟩:=h.from_ e ht;exact af.2 ⟨s,hs,e2⟩
 simpa using h1
def bJ (L:Mv):Nat:=(L.map fun t=>t.2.natAbs).sum
def NY:∀(L:Mv) (p:fI),(gh L p).natAbs<=bJ L
 | [],_=>by show (0:Int).natAbs<=0;omega
 | t::L,p=>by
   have ih:=NY L p;rw [aj];show _<=t.2.natAbs+bJ L;split<;>omega
def qu (L M:Mv):bJ (L++M)=bJ L+bJ M:=by unfold bJ;rw [ij,List.sum_append]
def DJ {B:Nat}:∀{L:Mv},(∀t∈L,t.2.natAbs<=B)->bJ L<=L.length*B
 | [],_=>bL _
 | t::L,h=>by
   have ih:=DJ (L:=L) fun s hs=>h s (bX _ hs);have h1:=h t aV;show t.2.natAbs+bJ L<=(L.length+1)*B;rw [bO,bN];omega
def Fv (a:mH):∀M:Mv,bJ (M.map fun b=>(dI a.1 b.1,a.2*b.2))=a.2.natAbs*bJ M
 | []=>by show 0=_*0;rw [jZ]
 | b::M=>by
   show (a.2*b.2).natAbs+bJ (M.map _)=a.2.natAbs*(b.2.natAbs+bJ M);rw [Fv a M,sw,ak]
def Qu:∀L M:Mv,bJ (mulM L M)=bJ L*bJ M
 | [],M=>by show 0=0*_;rw [AQ]
 | a::L,M=>by
   show bJ ((M.map fun b=>(dI a.1 b.1,a.2*b.2))++mulM L M)=(a.2.natAbs+bJ L)*bJ M;rw [qu,Fv,Qu L M,bO]
def av.small (h:av n L) (e:jI n L M) {t:mH}(ht:t∈L):t.2.natAbs<=bJ M:=by
 rw [<- h.JE t ht,e t.1 (h.len t ht)];exact NY M t.1
def FU (L M:Mv):(mulM L M).length=L.length*M.length:=by
 induction L with
 | nil=>show 0=0*_;rw [AQ]
 | cons a L ih=>
   show ((M.map fun b=>(dI a.1 b.1,a.2*b.2))++mulM L M).length=_;rw [eC,dJ,ih,rL,bO,bN];omega
def Dj (d:Int) (L:Mv):Prop:=∀t∈L,∀x∈t.1,0<=x∧x<=d
def Dj.mono {d e:Int}(h:Dj d L) (hd:d<=e):Dj e L:=fun t ht x hx=>by have:=h t ht x hx;omega
def PZ:∀{a b:fI} {x:Int},x∈dI a b->∃y∈a,∃z∈b,x=y+z
 | [],b,x,h=>by cases b<;>cases h
 | y::a,[],x,h=>by cases h
 | y::a,z::b,x,h=>by
   rcases iH.1 (show x∈(y+z)::dI a b from h) with rfl | h
   . exact ⟨y,aV,z,aV,rfl⟩
   . obtain ⟨u,hu,v,hv,e⟩:=PZ h
     exact ⟨u,bX _ hu,v,bX _ hv,e⟩
def av.bd {d:Int}(h:av n L) (e:jI n L M) (hb:Dj d M):Dj d L:=fun t ht x hx=>by
 obtain ⟨s,hs,e2⟩:=h.from_ e ht;exact hb s hs x (by rw [e2];exact hx)
def GD (hl:eW n L) (hd:(L.map (·.1)).Pairwise (· ≠ ·)) (hz:∀t∈L,t.2≠0) (hs:L.Pairwise fun s t=>¬ir s.1 t.1):av n L:=by
 refine ⟨hl,?_,hz⟩;have Ra:=mG.1 hd;have h3:L.Pairwise fun s t=>¬ir s.1 t.1∧s.1≠t.1:=by
  clear hl hz hd;induction L with
  | nil=>exact List.Pairwise.nil
  | cons a L ih=>
    obtain ⟨h1,h2⟩:=gQ.1 hs;obtain ⟨k1,k2⟩:=gQ.1 Ra;exact gQ.2 ⟨fun b hb=>⟨h1 b hb,k1 b hb⟩,ih h2 k2⟩
 refine h3.imp_of_mem fun {s t} hs ht ⟨h1,h2⟩=> ?_;rcases ir.tri ((hl s hs).trans (hl t ht).symm) with h | h | h
 . exact absurd h h1
 . exact absurd h h2
 . exact h
end
def mV:∀{L:Mv},(L.map (·.1)).Pairwise (· ≠ ·)->∀t∈L,gh L t.1=t.2
 | s::L,h,t,ht=>by
   obtain ⟨h1,h2⟩:=gQ.1 (show (s.1::L.map (·.1)).Pairwise (· ≠ ·) from h);rcases iH.1 ht with rfl | ht
   . rw [aj,aM rfl,l7 fun u hu e=>h1 u.1 (af.2 ⟨u,hu,rfl⟩) e.symm];omega
   . rw [aj,aY fun e=>h1 t.1 (af.2 ⟨t,ht,rfl⟩) e,mV h2 t ht];omega
def akn {α β:Type}(f:α->β) {l:List α} {m:List β}(hn:l.Pairwise (· ≠ ·)) (hm:∀x∈l,f x∈m) (hl:m.length<l.length):∃x∈l,∃y∈l,x≠y∧f x=f y:=by
 refine kQ fun h=> ?_;have h1:(l.map f).Pairwise (· ≠ ·):=mG.2 (hn.imp_of_mem fun {x y} hx hy hne e=>h ⟨x,hx,y,hy,hne,e⟩);have h2:=@IM _ (fun a b=>Classical.propDecidable (a=b)) _ m h1 fun y hy=>by
  obtain ⟨x,hx,rfl⟩:=af.1 hy;exact hm x hx
 rw [dJ] at h2;omega
namespace Poly
section
variable {R : Type} [Dom R] {a b x y u v u' v' : Poly R} {A B D : R}
structure Seq (a b x y u v u' v':Poly R) (A B D:R):Prop where
 hA:A≠0
 hB:B≠0
 hD:D≠0
 ex:C A*x=u*a+v*b
 ey:C B*y=u'*a+v'*b
 det:u*v'-u'*v=C D
 lv:v.len+x.len<=a.len+1
 lv':v'.len+x.len<=a.len+1
def Sd {f g:Poly R}(hf:f≠0):(f*g).len<=f.len+g.len-1:=by
 by_cases hg:g=0
 . rw [hg,aF.mul_zero,gI];omega
 . rw [(lu hf hg).1];exact Nat.le_refl _
def xV (f g:Poly R):(f*g).len<=f.len+g.len-1:=by
 by_cases hf:f=0
 . rw [hf,aF.zero_mul,gI];omega
 . exact Sd hf
def Ik (f g:Poly R):(f-g).len<=max f.len g.len:=bV (((ay f).mono (by omega)).sub ((ay g).mono (by omega)))
def Sg (f g:Poly R):(f+g).len<=max f.len g.len:=bV (((ay f).mono (by omega)).add ((ay g).mono (by omega)))
def Seq.next {q r:Poly R} {l c:R}(h:Seq a b x y u v u' v' A B D) (hl:l≠0) (hc:c≠0) (e:C l*x=q*y+C c*r) (hq:q.len+y.len<=x.len+1) (hyx:y.len<=x.len):
 Seq a b y r u' v' (C (B*l)*u-C A*(q*u')) (C (B*l)*v-C A*(q*v')) B (A*B*c) (-(B*l*D)):=by
 obtain ⟨hA,hB,hD,ex,ey,det,lv,lv'⟩:=h;have hBl:=Dom.vW hB hl;refine ⟨hB,Dom.vW (Dom.vW hA hB) hc,fun e0=>Dom.vW hBl hD (aF.neg_eq_zero.1 e0),ey,?_,?_,by omega,?_⟩
 . have e1:C (A*B*c)*r=C (B*l)*(C A*x)-C A*(q*(C B*y)):=by
    (have e2:C c*r=C l*x-q*y:=by rw [e,aF.add_comm,add_sub_cancel]);rw [<- mW,aF.mul_assoc,e2,aF.mul_sub,<- mW,<- mW];congr 1<;>ac_rfl
   rw [e1,ex,ey,aF.mul_add,sub_mul,sub_mul,aF.mul_add,aF.mul_add,sub_def,sub_def,sub_def,oD];have k1:C (B*l)*(u*a)=C (B*l)*u*a:=by ac_rfl
   have k2:C (B*l)*(v*b)=C (B*l)*v*b:=by ac_rfl
   have k3:C A*(q*(u'*a))=C A*(q*u')*a:=by ac_rfl
   have k4:C A*(q*(v'*b))=C A*(q*v')*b:=by ac_rfl
   rw [k1,k2,k3,k4];ac_rfl
 . have e3:u'*(C (B*l)*v-C A*(q*v'))-(C (B*l)*u-C A*(q*u'))*v'= -(C (B*l)*(u*v'-u'*v)):=by
    (have k1:u'*(C A*(q*v'))=C A*(q*u')*v':=by ac_rfl);(have k2:u'*(C (B*l)*v)=C (B*l)*(u'*v):=by ac_rfl);(have k3:C (B*l)*u*v'=C (B*l)*(u*v'):=by ac_rfl);rw [aF.mul_sub,sub_mul,aF.mul_sub,k1,k2,k3,aF.neg_sub];generalize C (B*l)*(u'*v)=s;generalize C A*(q*u')*v'=t;generalize C (B*l)*(u*v')=w;have k5:s-t-(w-t)=s-w:=by
     rw [sub_def,sub_def,sub_def,sub_def,oD,aF.neg_neg,aF.add_assoc,aF.add_comm (-w),<- aF.add_assoc (-t),aF.neg_add,aF.zero_add]
    exact k5
   rw [e3,det,mW,atP]
 . have h1:=Ik (C (B*l)*v) (C A*(q*v'))
   have h2:=fo hBl v;have h3:=fo hA (q*v');have h4:=xV q v';omega
end
section
variable {R : Type} [Dc R] {a b x y u v u' v' al be : Poly R} {A B D : R}
def Seq.span (h:Seq a b x y u v u' v' A B D) (hp:Prim y) (hyx:y.len<x.len) (hS:(al*a+be*b).len<x.len) (hb:be.len+x.len<=a.len+1) (h0:al≠0∨be≠0):al*a+be*b≠0∧Dv y (al*a+be*b):=by
 obtain ⟨hA,hB,hD,ex,ey,det,lv,lv'⟩:=h;obtain ⟨S,hSe⟩:∃S,al*a+be*b=S:=⟨_,rfl⟩;rw [hSe] at hS ⊢;have e1:S*v'-C B*y*be=a*(al*v'-u'*be):=by
  rw [<- hSe,ey,add_mul,add_mul,aF.mul_sub];have k1:al*a*v'=a*(al*v'):=by ac_rfl
  have k2:u'*a*be=a*(u'*be):=by ac_rfl
  have k3:be*b*v'=v'*b*be:=by ac_rfl
  rw [k1,k2,k3];generalize a*(al*v')=s;generalize a*(u'*be)=t;generalize v'*b*be=w;rw [sub_def,sub_def,oD,aF.add_assoc,aF.add_comm (-t),<- aF.add_assoc w,aF.add_neg,aF.zero_add]
 have hz:al*v'-u'*be=0:=kQ fun hne=>by
  by_cases ha:a=0
  . rw [ha,gI] at lv' hb
    have z1:v'=0:=lz.1 (by omega);have z2:be=0:=lz.1 (by omega);exact hne (by rw [z1,z2,aF.mul_zero,aF.mul_zero,sub_self])
  . have h1:=(lu ha hne).1
    have h2:=cI hne;have h3:=cI ha;rw [<- e1] at h1;have h4:=Ik (S*v') (C B*y*be);have h5:=xV S v';have h6:(C B*y*be).len<=y.len+be.len-1:=by
     have:=xV (C B*y) be;rwa [fo hB] at this
    omega
 have hav:al*v'=u'*be:=sub_eq_zero.1 hz;have s1:S*v'=C B*y*be:=sub_eq_zero.1 (by rw [e1,hz,aF.mul_zero]);have s2:S*u'=C B*y*al:=by
  rw [<- hSe,ey,add_mul,add_mul];have k1:al*a*u'=u'*a*al:=by ac_rfl
  have k2:be*b*u'=b*(u'*be):=by ac_rfl
  have k3:v'*b*al=b*(al*v'):=by ac_rfl
  rw [k1,k2,k3,hav]
 have hBy:C B*y≠0:=ya (Dd hB) hp.ne;refine ⟨fun e=> ?_,?_⟩
 . rw [e,aF.zero_mul] at s1 s2
   rcases h0 with h0 | h0
   . exact ya hBy h0 s2.symm
   . exact ya hBy h0 s1.symm
 . have e3:C D*S=y*(C B*(u*be-al*v)):=by
    have k1:C D*S=u*(S*v')-v*(S*u'):=by
     rw [<- det,sub_mul];congr 1<;>ac_rfl
    rw [k1,s1,s2,aF.mul_sub,aF.mul_sub];congr 1<;>ac_rfl
   exact hp.ofC hD ⟨_,e3⟩
end
section
variable {R : Type} [aH R]
def ajX {a b:Poly R} {lx H X Y:Nat} {D E:Nat->Nat}(h1:1<=lx) (ha:lx<=a.len) (hb:lx<=b.len) (da:∀i,aH.dg D (a.co i)) (db:∀i,aH.dg D (b.co i)) (na:aH.nm a<=H) (nb:aH.nm b<=H)
 (hY:(a.len+b.len-2*lx+2)*(X*aH.jo R E)*H<=Y) (hc:(2*Y+1)^(aH.jo R (fun j=>E j+D j)*(a.len+b.len-2*lx+1))<(X+1)^(aH.jo R E*(a.len+b.len-2*lx+2))):
 ∃al be:Poly R,(al≠0∨be≠0)∧(al*a+be*b).len<lx∧be.len+lx<=a.len+1∧aH.nm (al*a+be*b)<=2*Y∧∀i,aH.dg (fun j=>E j+D j) ((al*a+be*b).co i):=by
 obtain ⟨L,l1,l2,l3⟩:=aH.box (R:=R) E X;obtain ⟨L',m1,m2⟩:=aH.WM (R:=R) (fun j=>E j+D j) Y;obtain ⟨t,ht⟩:∃t,a.len+b.len-2*lx=t:=⟨_,rfl⟩;obtain ⟨p,hp⟩:∃p,b.len+1-lx=p:=⟨_,rfl⟩;rw [ht] at hY hc;have sp:∀l∈oQ L (t+2),(vG (l.take p)).Sh p∧(vG (l.drop p)).Sh (a.len+1-lx)∧aH.nm (vG (l.take p)*a+vG (l.drop p)*b)<=Y∧∀i,aH.dg (fun j=>E j+D j) ((vG (l.take p)*a+vG (l.drop p)*b).co i):=fun l hl=>by
  obtain ⟨k1,k2⟩:=lW hl;have lt:(l.take p).length=p:=by rw [cQ];omega
  have ld:(l.drop p).length=a.len+1-lx:=by rw [xw];omega
  have s1:=xP (l.take p);have s2:=xP (l.drop p);rw [lt] at s1;rw [ld] at s2;have nmL:∀(m:List R),(∀z∈m,z∈L)->jS (vG m)<=m.length*(X*aH.jo R E):=fun m hm=>by
   rw [jt (xP m)];refine aG (K0 (g:=fun _=>X*aH.jo R E) fun i hi=> ?_) (ig (Be _ _));rw [zu hi];exact (l3 _ (hm _ (bR hi))).2
  have n1:=nmL (l.take p) fun z hz=>k2 z (uU hz);have n2:=nmL (l.drop p) fun z hz=>k2 z (vu hz);rw [lt] at n1;rw [ld] at n2;have Qd:∀(m:List R),(∀z∈m,z∈L)->∀i,aH.dg E ((vG m).co i):=fun m hm i=>by
   rcases pT i m.length with hi | hi
   . rw [zu hi];exact (l3 _ (hm _ (bR hi))).1
   . rw [xP m i hi];exact aH.en _
  refine ⟨s1,s2,?_,fun i=> ?_⟩
  . refine aG (aH.nm_add _ _) (aG (JW (aH.mh _ _) (aH.mh _ _)) (aG (JW (ct n1 na) (ct n2 nb)) ?_))
    rw [<- bO,<- bO];rwa [show p+(a.len+1-lx)=t+2 by omega]
  . rw [pJ,oZ,oZ]
    exact aH.vn _ _ _ (zq fun k _=>aH.jh E D _ _ (Qd _ (fun z hz=>k2 z (uU hz)) k) (da _)) (zq fun k _=>aH.jh E D _ _ (Qd _ (fun z hz=>k2 z (vu hz)) k) (db _))
 obtain ⟨l,hl,m,hm,hne,he⟩:=akn (fun l:List R=>(List.range (t+1)).map fun i=>(vG (l.take p)*a+vG (l.drop p)*b).co (lx-1+i)) (l:=oQ L (t+2)) (m:=oQ L' (t+1)) (xT l1 _) (fun l hl=>by
  obtain ⟨_,_,k3,k4⟩:=sp l hl;have h2:=zi (L:=L') (l:=(List.range (t+1)).map fun i=>(vG (l.take p)*a+vG (l.drop p)*b).co (lx-1+i)) fun z hz=>by
   obtain ⟨i,_,rfl⟩:=af.1 hz;exact m2 _ (k4 _) (aG (rC _ _) k3)
  rwa [dJ,Ev] at h2) (by
  rw [qd,qd,l2,<- uW];refine aR (AJ m1 _) ?_;rw [<- uW];exact hc)
 obtain ⟨a1,a2,a3,a4⟩:=sp l hl;obtain ⟨b1,b2,b3,b4⟩:=sp m hm;have eS:(vG (l.take p)-vG (m.take p))*a+(vG (l.drop p)-vG (m.drop p))*b=(vG (l.take p)*a+vG (l.drop p)*b)-(vG (m.take p)*a+vG (m.drop p)*b):=by
  rw [sub_mul,sub_mul,sub_def,sub_def,sub_def,oD];ac_rfl
 have nj:=a2.sub b2;have hlen:=bV nj;refine ⟨vG (l.take p)-vG (m.take p),vG (l.drop p)-vG (m.drop p),?_,?_,?_,?_,?_⟩
 . refine kQ fun h=>hne ?_
   have k1:=(lW hl).1;have k2:=(lW hm).1;have e1:l.take p=m.take p:=Mg (by rw [cQ,cQ,k1,k2]) (sub_eq_zero.1 (kQ fun h2=>h (.inl h2)));have e2:l.drop p=m.drop p:=Mg (by rw [xw,xw,k1,k2]) (sub_eq_zero.1 (kQ fun h2=>h (.inr h2)));rw [<- DR p l,<- DR p m,e1,e2]
 . have hs:((vG (l.take p)-vG (m.take p))*a+(vG (l.drop p)-vG (m.drop p))*b).Sh (lx-1):=fun i hi=>by
    rcases pT i (lx-1+(t+1)) with h2 | h2
    . rw [eS,oW]
      have h3:(vG (l.take p)*a+vG (l.drop p)*b).co (lx-1+(i-(lx-1)))=(vG (m.take p)*a+vG (m.drop p)*b).co (lx-1+(i-(lx-1))):=List.map_inj_left.1 he (i-(lx-1)) (om.2 (by omega));rw [show lx-1+(i-(lx-1))=i by omega] at h3;rw [h3,sub_self]
    . exact (((a1.sub b1).mul (ay a) (k:=lx-1+(t+1)) (by omega)).add (nj.mul (ay b) (by omega))) i h2
   have:=bV hs;omega
 . omega
 . rw [eS]
   refine aG (IP _ _) ?_;omega
 . intro i
   rw [eS,oW];exact JA (a4 i) (b4 i)
end
end Poly
def lg (n:Nat):Nat:=Nat.log2 n+1
def apn (n:Nat):n<2^lg n:=by
 unfold lg;exact Nat.lt_log2_self
def pH (n:Nat):n<=2^lg n:=oy (apn n)
def jF {k:Nat}(h:a<=2^b):a^k<=2^(b*k):=by
 rw [uW];exact AJ h k
def ai {x y:Nat}(h:a<=2^x) (k:b<=2^y):a*b<=2^(x+y):=by
 rw [iD];exact ct h k
def acF {Q M N X Y:Nat}(hX:X=Q^c) (hQ:1<=Q) (hY:2*Y+1<=Q*X) (hN:0<N) (hc:(c+1)*M<=c*N):(2*Y+1)^M<(X+1)^N:=by
 refine aR (AJ hY M) ?_;have h1:(Q*X)^M<=X^N:=by
  have e1:Q*X=Q^(c+1):=by rw [hX,kY,aq]
  rw [e1,hX,<- uW,<- uW];exact fP hQ hc
 exact aR h1 (Nat.pow_lt_pow_left (xy X) (by omega))
namespace Poly
section
variable {R : Type} [aH R] {a b x y u v u' v' : Poly R} {A B D : R}
def bg (d:Nat) (E:Nat->Nat):Nat->Nat
 | 0=>d
 | j+1=>E j
def Seq.small {H X Y:Nat} {Di E:Nat->Nat}(h:Seq a b x y u v u' v' A B D) (hp:Prim y) (hyx:y.len<x.len) (ha:x.len<=a.len) (hb:x.len<=b.len) (da:∀i,aH.dg Di (a.co i)) (db:∀i,aH.dg Di (b.co i)) (na:aH.nm a<=H) (nb:aH.nm b<=H)
 (hY:(a.len+b.len-2*x.len+2)*(X*aH.jo R E)*H<=Y) (hc:(2*Y+1)^(aH.jo R (fun j=>E j+Di j)*(a.len+b.len-2*x.len+1))<(X+1)^(aH.jo R E*(a.len+b.len-2*x.len+2))):
 mo (bg (x.len-2) fun j=>E j+Di j) y∧jS y<=ED R (bg (x.len-2) fun j=>E j+Di j)*(2*Y):=by
 have rz:=cI hp.ne;obtain ⟨al,be,k1,k2,k3,k4,k5⟩:=ajX (X:=X) (Y:=Y) (D:=Di) (E:=E) (show 1<=x.len by omega) ha hb da db na nb hY hc;obtain ⟨s1,s2⟩:=h.span hp hyx k2 k3 k1;have hd:mo (bg (x.len-2) fun j=>E j+Di j) (al*a+be*b):=⟨(ay _).mono (by show _<=x.len-2+1;omega),k5⟩;obtain ⟨f1,f2⟩:=NM s1 hd s2;exact ⟨f1,aG f2 (bn _ k4)⟩
end
end Poly
noncomputable def PnS:Nat->(R:Type)×aH R
 | 0=>⟨Int,Sr⟩
 | n+1=>⟨@Poly (PnS n).1 (PnS n).2.toDc.toDom.toaF,@Poly.P8 (PnS n).1 (PnS n).2⟩
def Pn (n:Nat):Type:=(PnS n).1
noncomputable instance awL (n:Nat):aH (Pn n):=(PnS n).2
def Yp (z:Int):Pn 0:=z
def vM (z:Pn 0):Int:=z
def kids (f:Pn (n+1)):Poly (Pn n):=f
def mkK (f:Poly (Pn n)):Pn (n+1):=f
section
variable {n : Nat}
def uE (f:Poly (Pn n)):kids (mkK f)=f:=rfl
def afC (f:Pn (n+1)):mkK (kids f)=f:=rfl
def Il (f g:Pn (n+1)):kids (f+g)=kids f+kids g:=rfl
def Pr (f g:Pn (n+1)):kids (f*g)=kids f*kids g:=rfl
def Bo (f:Pn (n+1)):kids (-f)= -kids f:=rfl
def LD:kids (0:Pn (n+1))=0:=rfl
def aeI (a b:Pn 0):vM (a+b)=vM a+vM b:=rfl
def VF (a b:Pn 0):vM (a*b)=vM a*vM b:=rfl
def MH (a:Pn 0):vM (-a)= -vM a:=rfl
def jC {f:Pn (n+1)}:(kids f).len=0↔f=0:=Poly.lz (a:=kids f)
def aaU {f g h:Pn (n+1)}:nh f g h↔nh (kids f) (kids g) (kids h):=⟨fun k=>⟨k.l,k.r,k.top⟩,fun k=>⟨k.l,k.r,k.top⟩⟩
def yX (f:Pn (n+1)):aH.nm f=Poly.jS (kids f):=rfl
def akt (z:Pn 0):aH.nm z=(vM z).natAbs:=rfl
end
namespace Poly
section
variable {R : Type} [Dc R] {a b x y e : Poly R}
def lq {f:Poly R}(he:e≠0) (hf:f≠0):(e*f).len=e.len+f.len-1:=(lu he hf).1
def Dv.Zp {f g:Poly R}(hg:Prim g) (h:Dv f g):Prim f:=fun d hd=>hg d fun i=>by
 obtain ⟨c,rfl⟩:=h;exact hd.mulR c i
def St (e a b x y:Poly R):Prop:=∃(a1 b1:Poly R) (A A' B B':R),x=e*a1∧y=e*b1∧Prim a1∧Prim b1∧A≠0∧A'≠0∧B≠0∧B'≠0∧C A*a1=C A'*a∧C B*b1=C B'*b
def Eu (P:Nat->Poly R->Prop) (e a b x y:Poly R):Prop:=∃(x1 y1 u v u' v':Poly R) (A B D:R),x=e*x1∧y=e*y1∧Seq a b x1 y1 u v u' v' A B D∧Prim x1∧(y1=0∨Prim y1)∧y1.len<x1.len∧x1.len<=a.len∧x1.len<=b.len∧P x1.len x1∧P x1.len y1
structure Kn (P:Nat->Poly R->Prop) (a b:Poly R):Prop where
 ok:∀{x1 y1 u v u' v':Poly R} {A B D:R},Seq a b x1 y1 u v u' v' A B D->Prim y1->y1.len<x1.len->x1.len<=a.len->x1.len<=b.len->P x1.len y1
 zero:∀l,P l 0
 less:∀k l f,l<=k->P k f->P l f
 st:∀f,Prim f->Dv f a∨Dv f b->P (a.len+b.len) f
def ajU {a1 b1:Poly R} {A A' B B':R}(hA:A≠0) (hA':A'≠0) (hB:B≠0) (LW:B'≠0) (ea:C A*a1=C A'*a) (eb:C B*b1=C B'*b):Seq a b a1 b1 (C A') 0 0 (C B') A B (A'*B'):=by
 have l1:a1.len=a.len:=by rw [<- fo hA a1,ea,fo hA']
 have l2:(C B').len=1:=Si LW;exact ⟨hA,hB,Dom.vW hA' LW,by rw [aF.zero_mul,aF.add_zero,ea],by rw [aF.zero_mul,aF.zero_add,eb],by rw [aF.zero_mul,aF.sub_zero,mW],by rw [gI];omega,by omega⟩
def D7 {a1:Poly R} {A A':R}(hA:A≠0) (hA':A'≠0) (ea:C A*a1=C A'*a):a1.len=a.len:=by rw [<- fo hA a1,ea,fo hA']
def Od {a1:Poly R} {A A':R}(hp:Prim a1) (hA':A'≠0) (ea:C A*a1=C A'*a):Dv a1 a:=hp.ofC hA' (by rw [<- ea];exact Dv.right _ _)
def Hh {x1 y1 q r r':Poly R} {l c:R}(he:Prim e) (hc:c≠0) (eq:C l*(e*x1)=q*(e*y1)+r) (er:r=C c*r'):∃r1,r'=e*r1∧C l*x1=q*y1+C c*r1:=by
 have e1:r=e*(C l*x1-q*y1):=by
  have h1:r=C l*(e*x1)-q*(e*y1):=by rw [eq,aF.add_comm,add_sub_cancel]
  rw [h1,aF.mul_sub];congr 1<;>ac_rfl
 obtain ⟨r1,hr⟩:=he.ofC hc (show Dv e (C c*r') from ⟨_,by rw [<- er,e1]⟩);refine ⟨r1,hr,?_⟩;have h2:e*(C c*r1)=e*(C l*x1-q*y1):=by
  rw [<- e1,er,hr];ac_rfl
 rw [Dom.cancel he.ne h2,aF.add_comm,aF.sub_add_cancel]
variable {P : Nat -> Poly R -> Prop}
def VO {r1 r':Poly R}(h:r'=0∨Prim r') (he:e≠0) (e1:r'=e*r1):r1=0∨Prim r1:=by
 rcases h with h | h
 . rw [h] at e1
   rcases Dom.nz _ _ e1.symm with h2 | h2
   . exact absurd h2 he
   . exact .inl h2
 . exact .inr (Dv.Zp h (by rw [e1];exact Dv.right _ _))
def Eu.next {q r r':Poly R} {l c:R}(hk:Kn P a b) (he:Prim e) (h:Eu P e a b x y) (hy:y≠0) (hl:l≠0) (hc:c≠0) (eq:C l*x=q*y+r) (hr:r.len<y.len) (hq:q=0∨q.len+y.len<=x.len+1) (er:r=C c*r') (hp:r'=0∨Prim r'):Eu P e a b y r':=by
 obtain ⟨x1,y1,u,v,u',v',A,B,D,rfl,rfl,hs,px,py,hlt,ha,hb,p1,p2⟩:=h;obtain ⟨r1,Js,eq1⟩:=Hh he hc eq er;have xZ:y1≠0:=fun e0=>hy (by rw [e0,aF.mul_zero]);have py':Prim y1:=py.resolve_left xZ;have CB:x1≠0:=px.ne;have mj:=cI he.ne;have ly:=cI xZ;rw [lq he.ne CB,lq he.ne xZ] at hq;have lx1:=cI CB;have hq:q.len+y1.len<=x1.len+1:=by
  rcases hq with h0 | h0
  . rw [h0,gI];omega
  . omega
 have V5:r1.len<y1.len:=by
  by_cases h0:r1=0
  . rw [h0,gI];exact ly
  . have h1:=lq he.ne h0
    rw [<- Js] at h1;rw [er,fo hc,lq he.ne xZ] at hr;have:=cI h0;omega
 have pr:=VO hp he.ne Js;have uu:=hs.next hl hc eq1 (by omega) (oy hlt);have p3:P y1.len r1:=by
  rcases pr with h0 | h0
  . rw [h0];exact hk.zero _
  . exact hk.ok uu h0 V5 (by omega) (by omega)
 exact ⟨y1,r1,_,_,_,_,_,_,_,rfl,Js,uu,py',pr,V5,by omega,by omega,hk.less _ _ _ (oy hlt) p2,p3⟩
def St.next {q r r':Poly R} {l c:R}(hk:Kn P a b) (he:Prim e) (h:St e a b x y) (hl:l≠0) (hc:c≠0) (eq:C l*x=q*y+r) (hr:r.len<y.len) (hq:q=0∨q.len+y.len<=x.len+1) (er:r=C c*r') (hp:r'=0∨Prim r'):Eu P e a b y r'∨St e b a y r':=by
 obtain ⟨a1,b1,A,A',B,B',rfl,rfl,pa,pb,hA,hA',hB,LW,ea,eb⟩:=h;obtain ⟨r1,Js,eq1⟩:=Hh he hc eq er;have l1:=D7 hA hA' ea;have l2:=D7 hB LW eb;have mj:=cI he.ne;have la:=cI pa.ne;have lb:=cI pb.ne;have pr:=VO hp he.ne Js;rw [lq he.ne pa.ne,lq he.ne pb.ne] at hq;rcases pT a.len b.len with hlt | xC
 . right
   have q0:q=0:=hq.elim id fun h=>lz.1 (by omega);rw [q0,aF.zero_mul,aF.zero_add] at eq1;have r0:r1≠0:=fun e0=>by
    rw [e0,aF.mul_zero] at eq1;exact ya (Dd hl) pa.ne eq1
   refine ⟨b1,r1,B,B',A*c,l*A',rfl,Js,pb,pr.resolve_left r0,hB,LW,Dom.vW hA hc,Dom.vW hl hA',eb,?_⟩;rw [<- mW,aF.mul_assoc,<- eq1,<- mW,aF.mul_assoc,<- ea];ac_rfl
 . left
   have V5:r1.len<b1.len:=by
    by_cases h0:r1=0
    . rw [h0,gI];exact lb
    . have h1:=lq he.ne h0
      rw [<- Js] at h1;rw [er,fo hc,lq he.ne pb.ne] at hr;have:=cI h0;omega
   have uu:=(ajU hA hA' hB LW ea eb).next hl hc eq1 (by
    rcases hq with h0 | h0
    . rw [h0,gI];omega
    . omega) (by omega)
   have cZ:P b1.len b1:=hk.less _ _ _ (by omega) (hk.st b1 pb (.inr (Od pb LW eb)));have p3:P b1.len r1:=by
    rcases pr with h0 | h0
    . rw [h0];exact hk.zero _
    . exact hk.ok uu h0 V5 (by omega) (by omega)
   exact ⟨b1,r1,_,_,_,_,_,_,_,rfl,Js,uu,pb,pr,V5,by omega,by omega,cZ,p3⟩
end
end Poly
namespace Poly
section
variable {R : Type} [aH R] {f q p : Poly R} {D E : Nat -> Nat} {k : Nat}
noncomputable def J4 (q p:Poly R):Poly R:=p*C q.lc-mono (p.len-q.len) p.lc*q
structure RI (f q:Poly R) (D E:Nat->Nat) (k:Nat) (p:Poly R):Prop where
 eq:∃Q,C (q.lc^k)*f=Q*q+p∧(Q=0∨Q.len+q.len<=f.len+1)
 len:p.len+k<=f.len
 rounds:k=0∨k+q.len<=f.len+1
 nm:jS p<=(2*jS q)^k*jS f
 dg:mo (fun j=>D j+k*E j) p
def RI.start (f q:Poly R) (E:Nat->Nat) (h:mo D f):RI f q D E 0 f:=
 ⟨⟨0,by rw [aF.zero_mul,aF.zero_add];rw [aF.pow_zero,RO,aF.one_mul],.inl rfl⟩,Nat.le_refl _,.inl rfl,by show jS f<=1*jS f;rw [bN];exact Nat.le_refl _,Qc (fun j=>by show _<=_+0*_;omega) h⟩
def WN (a:Poly R) (c:R) (i:Nat):(a*C c).co i=a.co i*c:=by rw [aF.mul_comm,kX,aF.mul_comm]
def Vk {n:Nat} {c:R}(h:c≠0):(mono n c).len=n+1:=EO (fun i hi=>by rw [dZ,aY (by omega)]) (by rw [dZ,aM rfl];exact h)
def yY (n:Nat) (c:R):jS (mono n c)<=aH.nm c:=by
 have h:=mR n c (1:Poly R);have h1:jS (1:Poly R)=1:=aH.sS (R:=Poly R);rwa [h1,bl,aF.mul_one] at h
def MW (hq:q≠0) (hp:q.len<=p.len):(J4 q p).Sh (p.len-1):=fun i hi=>by
 have h0:=cI hq;unfold J4;rw [oW,WN,jW];by_cases e:i=p.len-1
 . rw [aM (by omega),e,show p.len-1-(p.len-q.len)=q.len-1 by omega]
   exact sub_self _
 . rw [ay p i (by omega),aF.zero_mul]
   split
   . rw [ay q _ (by omega),aF.mul_zero,sub_self]
   . exact sub_self _
def RI.next (h:RI f q D E k p) (hq:q≠0) (dq:mo E q) (hp:q.len<=p.len):RI f q D E (k+1) (J4 q p):=by
 obtain ⟨⟨Q,e1,e2⟩,h2,h3,h4,h5⟩:=h;have h0:=cI hq;have hl:=bV (MW hq hp);have hp0:p≠0:=fun e=>by rw [e,gI] at hp;omega
 have uG:=Vk (n:=p.len-q.len) (Fc hp0);refine ⟨⟨C q.lc*Q+mono (p.len-q.len) p.lc,?_,.inr ?_⟩,by omega,.inr (by omega),?_,?_,fun i=> ?_⟩
 . have k1:C (q.lc^(k+1))*f=C q.lc*(C (q.lc^k)*f):=by
    have:q.lc^(k+1)=q.lc^k*q.lc:=aF.pow_succ _ _;rw [this,<- mW];ac_rfl
   rw [k1,e1,aF.mul_add,aF.add_mul];unfold J4;rw [aF.add_assoc,aF.mul_assoc,aF.add_comm (mono (p.len-q.len) p.lc*q),aF.sub_add_cancel,aF.mul_comm p]
 . have k2:=Sg (C q.lc*Q) (mono (p.len-q.len) p.lc)
   rw [fo (Fc hq),uG] at k2;rcases e2 with e2 | e2
   . subst e2;rw [gI] at k2;omega
   . omega
 . have k3:jS (J4 q p)<=2*(jS q*jS p):=by
    unfold J4;have m1:=IP (R:=Poly R) (p*C q.lc) (mono (p.len-q.len) p.lc*q);have m2:=uD (C q.lc) _ p (ay p);have m3:=mR (p.len-q.len) p.lc q;have m4:jS (C q.lc)<=jS q:=aG (yY 0 q.lc) (rC q _);have m5:aH.nm p.lc<=jS p:=rC p _;have m6:=aG m2 (bn (jS p) m4);have m7:=aG m3 (bG (jS q) m5);have m8:jS (p*C q.lc-mono (p.len-q.len) p.lc*q)<=jS (p*C q.lc)+jS (mono (p.len-q.len) p.lc*q):=m1;rw [aq (jS q)];omega
   refine aG k3 ?_;rw [kY,show (2*jS q)^k*(2*jS q)*jS f=2*(jS q*((2*jS q)^k*jS f)) by ac_rfl];exact bn _ (bn _ h4)
 . refine (MW hq hp).mono ?_
   have:=bV h5.1;show _<=D 0+(k+1)*E 0+1;have:D 0+k*E 0<=D 0+(k+1)*E 0:=JZ (bG _ (rI k)) _;have h6:=bV h5.1;have h7:p.len<=D 0+k*E 0+1:=h6;omega
 . unfold J4
   rw [oW,WN,jW];have e3:(fun j=>D (j+1)+(k+1)*E (j+1))=fun j=>(D (j+1)+k*E (j+1))+E (j+1):=funext fun j=>by rw [bO,bN,jb]
   show aH.dg (fun j=>D (j+1)+(k+1)*E (j+1)) _;rw [e3];refine JA (aH.jh (fun j=>D (j+1)+k*E (j+1)) (fun j=>E (j+1)) _ _ (h5.2 i) (dq.2 _)) ?_;split
   . exact aH.jh (fun j=>D (j+1)+k*E (j+1)) (fun j=>E (j+1)) _ _ (h5.2 _) (dq.2 _)
   . exact aH.en _
end
end Poly
def LY (g:fI->Int):∀(k:Nat) (L:Mv),L.length<=k->eW n L->(∀p,p.length=n->gh L p=0)->eM (fun t:mH=>t.2*g t.1) L=0
 | _,[],_,_,_=>rfl
 | 0,t::L,hk,_,_=>by simp at hk
 | k+1,t::L,hk,hl,h0=>by
   have split:∀M:Mv,eM (fun s:mH=>s.2*g s.1) M=eM (fun s:mH=>s.2*g s.1) (M.filter fun s=>decide (s.1=t.1))+eM (fun s:mH=>s.2*g s.1) (M.filter fun s=> !decide (s.1=t.1)):=fun M=>by
    induction M with
    | nil=>rfl
    | cons a M ih=>
      by_cases e:a.1=t.1
      . rw [xx (by simp [e]),vw (by simp [e])]
        show a.2*g a.1+eM _ M=a.2*g a.1+eM _ _+_;rw [ih];omega
      . rw [vw (by simp [e]),xx (by simp [e])]
        show a.2*g a.1+eM _ M=_+(a.2*g a.1+eM _ _);rw [ih];omega
   have same:∀M:Mv,eM (fun s:mH=>s.2*g s.1) (M.filter fun s=>decide (s.1=t.1))=gh M t.1*g t.1:=fun M=>by
    induction M with
    | nil=>show 0=0*_;rw [uV]
    | cons a M ih=>
      rw [aj];by_cases e:a.1=t.1
      . rw [xx (by simp [e]),aM e,rJ]
        show a.2*g a.1+eM _ _=_;rw [ih,e]
      . rw [vw (by simp [e]),aY e,ih];rw [FD]
   have rest:∀(M:Mv) (p:fI),gh (M.filter fun s=> !decide (s.1=t.1)) p=if p=t.1 then 0 else gh M p:=fun M p=>by
    induction M with
    | nil=>show 0=_;split<;>rfl
    | cons a M ih=>
      by_cases e:a.1=t.1
      . rw [vw (by simp [e]),ih,aj]
        by_cases ep:p=t.1
        . rw [aM ep,aM ep]
        . rw [aY ep,aY ep,aY (fun h=>ep (h.symm.trans e))];omega
      . rw [xx (by simp [e]),aj,ih,aj]
        by_cases ep:p=t.1
        . rw [aM ep,aM ep,aY (fun h=>e (h.trans ep))];rfl
        . rw [aY ep,aY ep]
   rw [split,same,h0 t.1 (hl t aV),uV,FD];refine LY g k _ ?_ (fun s hs=>hl s (Ew.1 hs).1) fun p hp=> ?_
   . have h1:((t::L).filter fun s=> !decide (s.1=t.1))=L.filter fun s=> !decide (s.1=t.1):=vw (by simp)
     rw [h1];have:=Nr (fun s:mH=> !decide (s.1=t.1)) L;simp at hk;omega
   . rw [rest]
     split
     . rfl
     . exact h0 p hp
def agG (g:fI->Int) {L M:Mv}(hL:eW n L) (hM:eW n M) (h:jI n L M):eM (fun t:mH=>t.2*g t.1) L=eM (fun t:mH=>t.2*g t.1) M:=by
 have h1:=LY (n:=n) g _ (L++fS (-1) M) (Nat.le_refl _) (hL.append (hM.scale _)) fun p hp=>by
  rw [ic,uy,h p hp];omega
 rw [qN] at h1;have h2:eM (fun t:mH=>t.2*g t.1) (fS (-1) M)= -1*eM (fun t:mH=>t.2*g t.1) M:=by
  unfold fS;rw [xG,<- BF];exact fk fun t _=>Fw _ _ _
 rw [h2] at h1;omega
def mapM (f:fI->fI) (g:fI->Int) (L:Mv):Mv:=L.map fun t=>(f t.1,t.2*g t.1)
def mapM_append (f:fI->fI) (g:fI->Int) (L M:Mv):mapM f g (L++M)=mapM f g L++mapM f g M:=ij
def NX (f:fI->fI) (g:fI->Int) (L:Mv) (p:fI):gh (mapM f g L) p=eM (fun t:mH=>t.2*(if f t.1=p then g t.1 else 0)) L:=by
 unfold gh mapM;rw [xG];refine fk fun t _=> ?_;show (if f t.1=p then t.2*g t.1 else 0)=_;split
 . rfl
 . rw [xu]
def afF (f:fI->fI) (g:fI->Int) {L M:Mv}(hL:eW n L) (hM:eW n M) (h:jI n L M):jI n (mapM f g L) (mapM f g M):=fun p _=>by
 rw [NX,NX,agG (fun q=>if f q=p then g q else 0) hL hM h]
def Ph {f:fI->fI} {g:fI->Int} {L:Mv}(h:eW n L) (hf:∀p,p.length=n->(f p).length=n):eW n (mapM f g L):=fun t ht=>by
 obtain ⟨s,hs,rfl⟩:=af.1 ht;exact hf _ (h s hs)
def j8 (L:Mv):Nat:=L.foldl (fun g t=>Nat.gcd g t.2.natAbs) 0
def sA:Mv->Int
 | []=>0
 | t::L=>if t.2<0 then -(j8 (t::L):Int) else (j8 (t::L):Int)
def BR (L:Mv):Mv:=L.map fun t=>(t.1,t.2 / sA L)
def Ld (L:Mv) (t:mH):j8 (L++[t])=Nat.gcd (j8 L) t.2.natAbs:=by unfold j8;rw [List.foldl_append];rfl
def zx:∀(L:Mv) (g:Nat),L.foldl (fun g t=>Nat.gcd g t.2.natAbs) g=Nat.gcd g (j8 L)
 | [],g=>by show g=Nat.gcd g 0;rw [UG]
 | t::L,g=>by
   show L.foldl _ (Nat.gcd g t.2.natAbs)=Nat.gcd g (L.foldl _ (Nat.gcd 0 t.2.natAbs));rw [zx L,zx L,Nat.gcd_zero_left,Nat.gcd_assoc]
def Eg (t:mH) (L:Mv):j8 (t::L)=Nat.gcd t.2.natAbs (j8 L):=by
 show L.foldl _ (Nat.gcd 0 t.2.natAbs)=_;rw [zx,Nat.gcd_zero_left]
def JH:∀{L:Mv} {t:mH},t∈L->j8 L∣t.2.natAbs
 | s::L,t,h=>by
   rw [Eg];rcases iH.1 h with rfl | h1
   . exact Nat.gcd_dvd_left _ _
   . exact Nat.dvd_trans (Nat.gcd_dvd_right _ _) (JH h1)
def Qi {t:mH} {L:Mv}(ht:t∈L) (h:t.2≠0):0<j8 L:=by
 rcases jM (j8 L) with h0 | h0
 . have:=JH ht
   rw [h0] at this;have:=Nat.eq_zero_of_zero_dvd this;omega
 . exact h0
def Gg (L:Mv):(sA L).natAbs=j8 L:=by
 cases L with
 | nil=>rfl
 | cons t L=>
   show (if t.2<0 then -(j8 (t::L):Int) else (j8 (t::L):Int)).natAbs=_;split
   . rw [UL,Et]
   . rw [Et]
def uI {L:Mv} {t:mH}(ht:t∈L):t.2 % sA L=0:=by
 have h:=JH ht;rw [<- Gg] at h;exact Int.emod_eq_zero_of_dvd (adk.1 h)
def PV {s t:mH} {L M:Mv}(h:av n (s::L)) (k:av n (t::M)):gh (mulM (s::L) (t::M)) (dI s.1 t.1)=s.2*t.2:=by
 have hs:=h.len s aV;have ht:=k.len t aV;have qm:=kF hs ht;rw [Qh h.len k.len qm];show gh (s::L) (Rq (dI s.1 t.1) t.1)*t.2+eM _ M=_;have e1:s.1=Rq (dI s.1 t.1) t.1:=(vB (by omega) (by omega)).1 rfl;rw [<- e1,h.mU,fk (g:=fun _=>0) fun b hb=> ?_,pE]
 . omega
 . have lb:=k.len b (bX _ hb)
   rw [l7,uV];intro a ha e2;have la:=h.len a ha;have e3:=(vB (a:=a.1) (b:=b.1) (p:=dI s.1 t.1) (by omega) (by omega)).2 e2;have hlt:ir (dI a.1 b.1) (dI s.1 t.1):=by
    have cZ:=(gQ.1 k.ord).1 b hb;rcases iH.1 ha with rfl | ha'
    . rw [pM,pM a.1]
      exact ir.add (by omega) (by omega) (by omega) cZ (.inr rfl)
    . exact ir.add (by omega) (by omega) (by omega) ((gQ.1 h.ord).1 a ha') (.inl cZ)
   rw [e3] at hlt;exact ir.irrefl _ hlt
section
variable {n : Nat} {A B N : Mv}
def zw (z:Int):∀L:Mv,j8 (fS z L)=z.natAbs*j8 L
 | []=>by show (0:Nat)=z.natAbs*0;rw [jZ]
 | t::L=>by
   show j8 ((t.1,z*t.2)::fS z L)=_;rw [Eg,Eg,zw z L,sw,Nat.gcd_mul_left]
def Om (L:Mv):fS (sA L) (BR L)=L:=by
 unfold fS BR;rw [jl];conv=>rhs;rw [<- List.map_id L]
 refine E6 fun t ht=> ?_;have h:=tJ t.2 (sA L);rw [uI ht] at h;show (t.1,sA L*(t.2 / sA L))=t;rw [show sA L*(t.2 / sA L)=t.2 by omega]
def C8 {L:Mv}(h:av n L) (hL:L≠ []):0<j8 L:=by
 match L,hL with
 | t::L',_=>exact Qi aV (h.ne t aV)
def amN {L:Mv}(h:av n L) (hL:L≠ []):j8 (BR L)=1:=by
 have h1:=zw (sA L) (BR L);rw [Om,Gg] at h1;have h2:=C8 h hL;have h3:j8 L*1=j8 L*j8 (BR L):=by omega
 exact (Nat.eq_of_mul_eq_mul_left h2 h3).symm
def O4 {L:Mv}(h:av n L):av n (BR L):=
 ⟨fun t ht=>by
   obtain ⟨s,hs,rfl⟩:=af.1 ht;exact h.len s hs,by
   unfold BR;rw [mG];exact h.ord,fun t ht=>by
   obtain ⟨s,hs,rfl⟩:=af.1 ht;intro e;have e2:s.2 / sA L=0:=e;have e1:=tJ s.2 (sA L);rw [e2,uI hs] at e1;exact h.ne s hs (by omega)⟩
end
namespace Poly
section
variable {R : Type} [Dc R] {P : Nat -> Poly R -> Prop} {e a b F G x y : Poly R}
def Cont.assoc {c c':R} {f:Poly R}(h:Cont c f) (k:Cont c' f):Dv c c':=k.top c h.dv
def nh.assoc {R:Type} [aF R] {h c d c' d':R}(hg:nh h c d) (h1:Dv c c') (h2:Dv c' c) (h3:Dv d d') (h4:Dv d' d):nh h c' d':=⟨hg.l.trans h1,hg.r.trans h3,fun k k1 k2=>hg.top k (k1.trans h2) (k2.trans h4)⟩
structure Inv (P:Nat->Poly R->Prop) (e a b F G x y:Poly R):Prop where
 seq:St e a b x y∨St e b a x y∨Eu P e a b x y∨Eu P e b a x y
 px:Prim x
 py:y=0∨Prim y
 gc:∀g c d h,PG g x y->Cont c F->Cont d G->nh h c d->nh (C h*g) F G
def Inv.start {q:Poly R} {cq c d:R}(hF:F≠0) (hG:G≠0) (he:Prim e) (hcq:cq≠0) (eq:q=C cq*e) (ea:F=q*a) (eb:G=q*b) (hc:Cont c F) (hd:Cont d G) (ex:F=C c*x) (ey:G=C d*y):Inv P e a b F G x y:=by
 have hc0:=hc.ne hF;have vh:=hd.ne hG;have px:=hc.aeX hF ex;have py:=hd.aeX hG ey;have key:∀{c:R} {f x a:Poly R},c≠0->Prim x->f=q*a->f=C c*x->∃a1,x=e*a1∧Prim a1∧C c*a1=C cq*a:=fun {c f x a} h0 hp e1 e2=>by
  obtain ⟨a1,h1⟩:=he.ofC h0 (show Dv e (C c*x) from ⟨C cq*a,by rw [<- e2,e1,eq];ac_rfl⟩);refine ⟨a1,h1,Dv.Zp hp ⟨e,by rw [h1,aF.mul_comm]⟩,Dom.cancel he.ne ?_⟩;have h2:C c*x=q*a:=e2.symm.trans e1;rw [h1,eq] at h2;have h3:e*(C c*a1)=C c*(e*a1):=by ac_rfl
  have h4:e*(C cq*a)=C cq*e*a:=by ac_rfl
  rw [h3,h4,h2]
 obtain ⟨a1,h1,h2,h3⟩:=key hc0 px ea ex;obtain ⟨b1,k1,k2,k3⟩:=key vh py eb ey;refine ⟨.inl ⟨a1,b1,c,cq,d,cq,h1,k1,h2,k2,hc0,hcq,vh,hcq,h3,k3⟩,px,.inr py,fun g c' d' h hg hc' Ra hh=> ?_⟩;exact aaY hc hd hF hG ex ey (nh.assoc hh (Cont.assoc hc' hc) (Cont.assoc hc hc') (Cont.assoc Ra hd) (Cont.assoc hd Ra)) hg
def Inv.next {q r r':Poly R} {l c:R}(hk:Kn P a b) (Gc:Kn P b a) (he:Prim e) (h:Inv P e a b F G x y) (hy:y≠0) (hl:l≠0) (hc:c≠0) (eq:C l*x=q*y+r) (hr:r.len<y.len) (hq:q=0∨q.len+y.len<=x.len+1) (er:r=C c*r') (hp:r'=0∨Prim r'):Inv P e a b F G y r':=by
 refine ⟨?_,h.py.resolve_left hy,hp,fun g c' d' h' hg=>h.gc g c' d' h' (PG.step hl hc eq er hg)⟩;rcases h.seq with h1 | h1 | h1 | h1
 . rcases h1.next hk he hl hc eq hr hq er hp with h2 | h2
   . exact .inr (.inr (.inl h2))
   . exact .inr (.inl h2)
 . rcases h1.next Gc he hl hc eq hr hq er hp with h2 | h2
   . exact .inr (.inr (.inr h2))
   . exact .inl h2
 . exact .inr (.inr (.inl (h1.next hk he hy hl hc eq hr hq er hp)))
 . exact .inr (.inr (.inr (h1.next Gc he hy hl hc eq hr hq er hp)))
def Inv.done {c d h:R}(hi:Inv P e a b F G x 0) (hc:Cont c F) (hd:Cont d G) (hh:nh h c d):nh (C h*x) F G:=hi.gc x c d h (PG.zero hi.px) hc hd hh
def Inv.known (hk:Kn P a b) (h:Inv P e a b F G x y):∃(l:Nat) (x1 y1:Poly R),x=e*x1∧y=e*y1∧x1≠0∧P l x1∧P l y1∧((x1.len=l∧y1.len<l∧l<=min a.len b.len)∨(l=a.len+b.len∧((x1.len=a.len∧y1.len=b.len)∨(x1.len=b.len∧y1.len=a.len)))):=by
 rcases h.seq with h1 | h1 | h1 | h1
 . obtain ⟨a1,b1,A,A',B,B',e1,e2,p1,p2,n1,n2,n3,n4,q1,q2⟩:=h1
   exact ⟨a.len+b.len,a1,b1,e1,e2,p1.ne,hk.st a1 p1 (.inl (Od p1 n2 q1)),hk.st b1 p2 (.inr (Od p2 n4 q2)),.inr ⟨rfl,.inl ⟨D7 n1 n2 q1,D7 n3 n4 q2⟩⟩⟩
 . obtain ⟨a1,b1,A,A',B,B',e1,e2,p1,p2,n1,n2,n3,n4,q1,q2⟩:=h1
   exact ⟨a.len+b.len,a1,b1,e1,e2,p1.ne,hk.st a1 p1 (.inr (Od p1 n2 q1)),hk.st b1 p2 (.inl (Od p2 n4 q2)),.inr ⟨rfl,.inr ⟨D7 n1 n2 q1,D7 n3 n4 q2⟩⟩⟩
 . obtain ⟨x1,y1,u,v,u',v',A,B,D,e1,e2,_,p1,_,hlt,ha,hb,q1,q2⟩:=h1
   exact ⟨x1.len,x1,y1,e1,e2,p1.ne,q1,q2,.inl ⟨rfl,hlt,by omega⟩⟩
 . obtain ⟨x1,y1,u,v,u',v',A,B,D,e1,e2,_,p1,_,hlt,ha,hb,q1,q2⟩:=h1
   exact ⟨x1.len,x1,y1,e1,e2,p1.ne,q1,q2,.inl ⟨rfl,hlt,by omega⟩⟩
end
end Poly
namespace Poly
section
variable {R : Type} [aH R] {a b x y u v u' v' : Poly R} {A B D : R}
def wX (t V H c:Nat):Nat:=(t+2)*(((2*(t+2)*V*H+1)^c)*V)*H
def amO {t V V' H c:Nat}(hV:0<V) (hc:(c+1)*(V'*(t+1))<=c*(V*(t+2))):(2*wX t V H c+1)^(V'*(t+1))<((2*(t+2)*V*H+1)^c+1)^(V*(t+2)):=by
 refine acF (Q:=2*(t+2)*V*H+1) rfl (by omega) ?_ (iR hV (by omega)) hc;have h1:1<=(2*(t+2)*V*H+1)^c:=iN (by omega);unfold wX;have h3:(2*(t+2)*V*H+1)*(2*(t+2)*V*H+1)^c=2*(t+2)*V*H*(2*(t+2)*V*H+1)^c+(2*(t+2)*V*H+1)^c:=by rw [bO (2*(t+2)*V*H) 1,bN]
 have h2:2*((t+2)*((2*(t+2)*V*H+1)^c*V)*H)=2*(t+2)*V*H*(2*(t+2)*V*H+1)^c:=by ac_rfl
 omega
def Seq.cap {H c:Nat} {Di E:Nat->Nat}(h:Seq a b x y u v u' v' A B D) (hp:Prim y) (hyx:y.len<x.len) (ha:x.len<=a.len) (hb:x.len<=b.len) (da:∀i,aH.dg Di (a.co i)) (db:∀i,aH.dg Di (b.co i)) (na:aH.nm a<=H) (nb:aH.nm b<=H)
 (hc:(c+1)*(aH.jo R (fun j=>E j+Di j)*(a.len+b.len-2*x.len+1))<=c*(aH.jo R E*(a.len+b.len-2*x.len+2))):
 (∀i,aH.dg (fun j=>E j+Di j) (y.co i))∧jS y<=ED R (bg (x.len-2) fun j=>E j+Di j)*(2*wX (a.len+b.len-2*x.len) (aH.jo R E) H c):=by
 obtain ⟨h1,h2⟩:=h.small (X:=(2*(a.len+b.len-2*x.len+2)*aH.jo R E*H+1)^c) (Y:=wX (a.len+b.len-2*x.len) (aH.jo R E) H c) (E:=E) hp hyx ha hb da db na nb (Nat.le_refl _) (amO (aH.nQ E) hc);exact ⟨h1.2,h2⟩
end
end Poly
namespace Poly
section
variable {R : Type} [aH R] {a b : Poly R}
def PB (Dm:Nat->Nat->Nat) (M:Nat->Nat) (l:Nat) (f:Poly R):Prop:=(∀i,aH.dg (Dm l) (f.co i))∧jS f<=M l
def Jr (R:Type) [aH R] (Di E:Nat->Nat) (t c:Nat):Prop:=(c+1)*(aH.jo R (fun j=>E j+Di j)*(t+1))<=c*(aH.jo R E*(t+2))
structure Lad (R:Type) [aH R] (la lb H:Nat) (Di:Nat->Nat) (Dm:Nat->Nat->Nat) (M:Nat->Nat):Prop where
 cap:∀l,l<=min la lb->∃E c,Jr R Di E (la+lb-2*l) c∧ED R (bg (l-2) fun j=>E j+Di j)*(2*wX (la+lb-2*l) (aH.jo R E) H c)<=M l
 deg:∀l,l<=min la lb->∃E1 c1 E2 c2,Jr R Di E1 (la+lb-2*l) c1∧Jr R Di E2 (la+lb-2*l) c2∧∀j,min (E1 j+Di j) (E2 j+Di j)<=Dm l j
 less:∀k l,l<=k->M k<=M l∧∀j,Dm k j<=Dm l j
 stM:ED R (bg (max la lb-1) Di)*H<=M (la+lb)
 stD:∀j,Di j<=Dm (la+lb) j
def Lad.symm {la lb H:Nat} {Di:Nat->Nat} {Dm:Nat->Nat->Nat} {M:Nat->Nat}(h:Lad R la lb H Di Dm M):Lad R lb la H Di Dm M:=by
 have e2:max lb la=max la lb:=Nat.max_comm _ _;have e3:lb+la=la+lb:=xk _ _;exact ⟨fun l hl=>by rw [e3];exact h.cap l (by omega),fun l hl=>by rw [e3];exact h.deg l (by omega),h.less,by rw [e3,e2];exact h.stM,by rw [e3];exact h.stD⟩
def Lad.kn {H:Nat} {Di:Nat->Nat} {Dm:Nat->Nat->Nat} {M:Nat->Nat}(h:Lad R a.len b.len H Di Dm M) (WE:a≠0) (rF:b≠0) (da:∀i,aH.dg Di (a.co i)) (db:∀i,aH.dg Di (b.co i)) (na:aH.nm a<=H) (nb:aH.nm b<=H):Kn (PB Dm M) a b:=by
 refine ⟨fun {x1 y1 u v u' v' A B D} hs hp hlt h1 h2=> ?_,fun l=>⟨fun i=>aH.en _,by rw [BZ];exact bL _⟩,fun k l f hl hf=>⟨fun i=>aH.jr _ _ _ (h.less k l hl).2 (hf.1 i),aG hf.2 (h.less k l hl).1⟩,fun f hp hd=> ?_⟩
 . have hm:x1.len<=min a.len b.len:=by omega
   obtain ⟨E,c,c1,c2⟩:=h.cap x1.len hm;obtain ⟨E1,k1,E2,k2,d1,d2,d3⟩:=h.deg x1.len hm;have s0:=hs.cap hp hlt h1 h2 da db na nb c1;have s1:=hs.cap hp hlt h1 h2 da db na nb d1;have s2:=hs.cap hp hlt h1 h2 da db na nb d2;exact ⟨fun i=>aH.jr _ _ _ d3 (aH.NR _ _ _ (s1.1 i) (s2.1 i)),aG s0.2 c2⟩
 . have key:∀g:Poly R,g≠0->g.len<=max a.len b.len->(∀i,aH.dg Di (g.co i))->aH.nm g<=H->Dv f g->PB Dm M (a.len+b.len) f:=fun g g0 hl dg' ng hfg=>by
    have Ra:mo (bg (max a.len b.len-1) Di) g:=⟨(ay g).mono (by show g.len<=max a.len b.len-1+1;omega),dg'⟩;obtain ⟨f1,f2⟩:=NM g0 Ra hfg;exact ⟨fun i=>aH.jr _ _ _ h.stD (f1.2 i),aG f2 (aG (bn _ ng) h.stM)⟩
   rcases hd with hd | hd
   . exact key a WE (by omega) da na hd
   . exact key b rF (by omega) db nb hd
end
end Poly
open Poly
def yy (d:Nat):Nat:=1*(2*d+1)^d*(d+1)*(2*(2*d+1))^d
def VT (d:Nat) (E:Nat->Nat):ED (Pn 0) (bg d E)=yy d:=rfl
def mQ {m:Nat}(h:a<=b) (k:m<=n) (h0:0<b):a^m<=b^n:=aG (AJ h m) (fP h0 k)
def uj (h:d<=e):yy d<=yy e:=by
 unfold yy;exact ct (ct (bn 1 (mQ (by omega) h (by omega))) (by omega)) (mQ (by omega) h (by omega))
def Z7 (d:Nat):0<yy d:=by
 unfold yy;exact iR (iR (iR Nat.one_pos (iN (by omega))) (by omega)) (iN (by omega))
def Nb (t H:Nat):Nat:=wX t 1 H (t+1)
def Ya {s:Nat}(h:t<=s):Nb t H<=Nb s H:=by
 unfold Nb wX;refine bG _ (ct (by omega) (bG _ (mQ (adj (bG _ (bG _ (bn _ (by omega)))) _) (by omega) (by omega))))
def ahc (t H:Nat):H<=Nb t H:=by
 unfold Nb wX;refine iT _ (iR (by omega) (iR (iN (by omega)) Nat.one_pos))
def M1 (la lb H L l:Nat):Nat:=yy L*(2*Nb (la+lb-2*l) H)
def awH (Di:Nat->Nat) (hL:max la lb<=L+1):Lad (Pn 0) la lb H Di (fun _ j=>Di j) (M1 la lb H L):=by
 have cc:∀t,Jr (Pn 0) Di (fun _=>0) t (t+1):=fun t=>by
  show (t+1+1)*(1*(t+1))<=(t+1)*(1*(t+2));rw [bN,bN,aq];exact Nat.le_refl _
 refine ⟨fun l hl=>⟨fun _=>0,_,cc _,?_⟩,fun l hl=>⟨fun _=>0,_,fun _=>0,_,cc _,cc _,fun j=>by show min (0+Di j) (0+Di j)<=Di j;omega⟩,fun k l Ds=>⟨?_,fun j=>Nat.le_refl _⟩,?_,fun j=>Nat.le_refl _⟩
 . rw [VT]
   exact bG _ (uj (by omega))
 . exact bn _ (bn _ (Ya (by omega)))
 . rw [VT]
   refine ct (uj (by omega)) (aG (ahc _ H) (iT _ (by omega)))
def aag {c:Pn 0} {r z:Poly (Pn 0)}(h:r=C c*z):aH.nm c*jS z=jS r:=by
 by_cases hc:c=0
 . rw [h,hc,FL,aF.zero_mul,BZ,aH.kJ,AQ]
 . have hl:(C c*z).len=z.len:=fo hc z
   rw [h];unfold jS;rw [hl,<- Mk];refine qc fun i _=> ?_;rw [kX];exact (sw (c:Int) (z.co i:Int)).symm
def Wl (sY:la<=L+1) (uv:lb<=L+1) (hg:4*L+8<=2^g) (hH:H<=2^h):M1 la lb H L l<=2^(g*(2*L+1)+1+(g+h+2)*(la+lb-2*l+2)):=by
 obtain ⟨t,ht⟩:∃t,la+lb-2*l=t:=⟨_,rfl⟩;have htL:t+2<=2^g:=by omega
 unfold M1;rw [ht];have p1:yy L<=2^(g*(2*L+1)):=by
  unfold yy;have a1:(2*L+1)^L<=2^(g*L):=jF (by omega);have a2:(2*(2*L+1))^L<=2^(g*L):=jF (by omega);have a3:L+1<=2^g:=by omega
  have:=ai (ai a1 a3) a2;rw [bN];refine aG this (ig ?_);congr 1
  rw [ak,bl,oh g 2 L];omega
 have q1:2*(t+2)*1*H+1<=2^(g+h+2):=by
  have b1:(t+2)*H<=2^(g+h):=ai htL hH;have b2:2*(t+2)*1*H=2*((t+2)*H):=by rw [bl,dA]
  have b3:1<=2^(g+h):=iN (by omega);rw [b2,show 2^(g+h+2)=4*2^(g+h) by rw [iD];omega];omega
 have c1:Nb t H<=2^((g+h+2)*(t+2)):=by
  unfold Nb wX;rw [bl ((2*(t+2)*1*H+1)^(t+1))];have d1:=ai (ai htL (jF (k:=t+1) q1)) hH;refine aG d1 (fP (by omega) ?_);rw [show (g+h+2)*(t+2)=(g+h+2)*(t+1)+(g+h+2) by rw [show t+2=t+1+1 by omega,ak (g+h+2) (t+1),bl]];omega
 have:=ai p1 (ai (show 2<=2^1 by decide) c1);refine aG this (ig ?_);congr 1
 omega
def BS (d:Nat):Nat->Nat:=bg d fun _=>0
def PI (d e j:Nat):BS d j+BS e j=BS (d+e) j:=by
 cases j<;>rfl
def awc (E:Nat->Nat):aH.jo (Pn 1) E=(E 0+1)*1:=rfl
def VS (E:Nat->Nat):aH.uk (Pn 1) E=yy (E 0):=rfl
def xN (L e:Nat):Nat:=yy e*(2*L+1)^L*(L+1)*(2*(2*L+1))^L
def Md (L:Nat) (E:Nat->Nat):ED (Pn 1) (bg L E)=xN L (E 0):=rfl
def rZ (h:L<=L') (k:e<=e'):xN L e<=xN L' e':=by
 unfold xN;exact ct (ct (ct (uj k) (mQ (by omega) h (by omega))) (by omega)) (mQ (by omega) h (by omega))
def Z6 (L e:Nat):0<xN L e:=by
 unfold xN;exact iR (iR (iR (Z7 e) (iN (by omega))) (by omega)) (iN (by omega))
def Lh {V' c':Nat}(h:t<=t') (k:V<=V') (m:c<=c'):wX t V H c<=wX t' V' H c':=by
 unfold wX;exact bG _ (ct (by omega) (ct (mQ (adj (bG _ (ct (bn _ (by omega)) k)) _) m (by omega)) k))
def Na (t H c:Nat) (hV:0<V):H<=wX t V H c:=by
 unfold wX;exact iT _ (iR (by omega) (iR (iN (by omega)) hV))
def c5 (t:Nat):Nat:=(5*(t+1)+4) / 4
def ash (d t:Nat):Jr (Pn 1) (BS d) (BS (5*(t+1)*d)) t (c5 t):=by
 show (c5 t+1)*((5*(t+1)*d+d+1)*1*(t+1))<=c5 t*((5*(t+1)*d+1)*1*(t+2));obtain ⟨s,hs⟩:∃s,t+1=s:=⟨_,rfl⟩;obtain ⟨c,hc⟩:∃c,c5 t=c:=⟨_,rfl⟩;have h1:5*s+1<=4*c:=by unfold c5 at hc;omega
 have h2:s<=c:=by omega
 rw [hc,hs,show t+2=s+1 by omega,bl,bl];obtain ⟨P,hP⟩:∃P,s*d=P:=⟨_,rfl⟩;have e1:5*s*d=5*P:=by rw [dA,hP]
 rw [e1];have e2:(5*P+d+1)*s=5*P*s+P+s:=by rw [bO,bO,bN,aq d s,hP]
 have e3:(5*P+1)*(s+1)=5*P*s+P+s+(4*P+1):=by rw [bO,ak,bN,bl];omega
 rw [e2,e3];obtain ⟨X,hX⟩:∃X,5*P*s+P+s=X:=⟨_,rfl⟩;rw [hX,bO c 1 X,bN,ak c X];have e4:(5*s+1)*P<=4*c*P:=bG _ h1;have e5:(5*s+1)*P=5*P*s+P:=by rw [bO,bN,dA,aq s P,dA]
 have e6:c*(4*P+1)=4*c*P+c:=by rw [ak,bl,oh,dA]
 omega
def asg (d t:Nat):∃c,Jr (Pn 1) (BS d) (BS ((t+1)*d)) t c:=by
 refine ⟨((t+1)*d+d+1)*1*(t+1),?_⟩;show (((t+1)*d+d+1)*1*(t+1)+1)*(((t+1)*d+d+1)*1*(t+1))<=(((t+1)*d+d+1)*1*(t+1))*(((t+1)*d+1)*1*(t+2));have e:((t+1)*d+d+1)*1*(t+1)+1=((t+1)*d+1)*1*(t+2):=by
  obtain ⟨P,hP⟩:∃P,(t+1)*d=P:=⟨_,rfl⟩;rw [hP,bl,bl,show t+2=(t+1)+1 by omega,ak (P+1),bl,bO,bO,bN,aq d,hP,bO,bN];omega
 rw [e,aq];exact Nat.le_refl _
def M2 (la lb H L d l:Nat):Nat:=xN L (5*(la+lb-2*l+1)*d+d)*(2*wX (la+lb-2*l) ((5*(la+lb-2*l+1)*d+1)*1) H (c5 (la+lb-2*l)))
def awG (hL:max la lb<=L+1):Lad (Pn 1) la lb H (BS d) (fun l=>BS ((la+lb-2*l+2)*d)) (M2 la lb H L d):=by
 refine ⟨fun l hl=>⟨_,_,ash d _,?_⟩,fun l hl=> ?_,fun k l Ds=>⟨?_,fun j=> ?_⟩,?_,fun j=> ?_⟩
 . rw [Md,awc]
   exact bG _ (rZ (by omega) (Nat.le_refl _))
 . obtain ⟨c,hc⟩:=asg d (la+lb-2*l)
   refine ⟨_,c,_,c,hc,hc,fun j=> ?_⟩;have e9:(la+lb-2*l+1)*d+d=(la+lb-2*l+2)*d:=by rw [show la+lb-2*l+2=(la+lb-2*l+1)+1 by omega,bO (la+lb-2*l+1) 1 d,bN]
   rw [PI,Nat.min_self,e9];exact Nat.le_refl _
 . have ht:la+lb-2*k<=la+lb-2*l:=by omega
   have h5:5*(la+lb-2*k+1)*d<=5*(la+lb-2*l+1)*d:=bG _ (by omega);exact ct (rZ (Nat.le_refl _) (by omega)) (bn _ (Lh ht (by omega) (by unfold c5;omega)))
 . cases j with
   | zero=>exact bG _ (by omega)
   | succ j=>exact Nat.le_refl _
 . rw [Md]
   refine ct (rZ (by omega) ?_) (aG (Na _ H _ (by omega)) (iT _ (by omega)));show d<=_;omega
 . cases j with
   | zero=>
     show d<=(la+lb-2*(la+lb)+2)*d;exact iT _ (by omega)
   | succ j=>exact Nat.le_refl _
def Kt (hg:4*e+8<=2^g):yy e<=2^(g*(2*e+1)):=by
 unfold yy;have a1:(2*e+1)^e<=2^(g*e):=jF (by omega);have a2:(2*(2*e+1))^e<=2^(g*e):=jF (by omega);have a3:e+1<=2^g:=by omega
 have:=ai (ai a1 a3) a2;rw [bN];refine aG this (ig ?_);congr 1
 rw [ak,bl,oh g 2 e];omega
def Ks (hg:4*e+8<=2^g) (hL:4*L+8<=2^g):xN L e<=2^(g*(2*e+1)+g*(2*L+1)):=by
 have h1:=Kt hg;have a1:(2*L+1)^L<=2^(g*L):=jF (by omega);have a2:(2*(2*L+1))^L<=2^(g*L):=jF (by omega);have a3:L+1<=2^g:=by omega
 unfold xN;refine aG (ai (ai (ai h1 a1) a3) a2) (ig ?_);congr 1
 rw [ak g (2*L) 1,bl,oh g 2 L];omega
def YZ (ht:t+2<=2^g) (hV:V<=2^g) (hH:H<=2^h):wX t V H c<=2^((2*g+h+2)*(c+1)):=by
 have q1:2*(t+2)*V*H+1<=2^(2*g+h+2):=by
  have b1:(t+2)*V*H<=2^(g+g+h):=ai (ai ht hV) hH;have b2:2*(t+2)*V*H=2*((t+2)*V*H):=by rw [dA 2,dA 2]
  have b3:1<=2^(g+g+h):=iN (by omega);rw [b2,show 2^(2*g+h+2)=4*2^(g+g+h) by rw [show 2*g+h+2=(g+g+h)+2 by omega,iD];omega];omega
 unfold wX;have d1:=ai (ai ht (ai (jF (k:=c) q1) hV)) hH;refine aG d1 (fP (by omega) ?_);rw [ak (2*g+h+2) c 1,bl];omega
def ahn (sY:la<=L+1) (uv:lb<=L+1) (hg:4*(5*(2*L+3)*d+d)+8<=2^g) (hgL:4*L+8<=2^g) (hH:H<=2^h):
 M2 la lb H L d l<=2^(g*(2*(5*(la+lb-2*l+1)*d+d)+1)+g*(2*L+1)+1+(2*g+h+2)*(c5 (la+lb-2*l)+1)):=by
 obtain ⟨t,ht⟩:∃t,la+lb-2*l=t:=⟨_,rfl⟩;have he:5*(t+1)*d<=5*(2*L+3)*d:=bG _ (by omega);unfold M2;rw [ht];have p1:=Ks (L:=L) (e:=5*(t+1)*d+d) (g:=g) (by omega) hgL;have c1:=YZ (t:=t) (V:=(5*(t+1)*d+1)*1) (H:=H) (c:=c5 t) (g:=g) (h:=h) (by omega) (by omega) hH;refine aG (ai p1 (ai (show 2<=2^1 by decide) c1)) (ig ?_);congr 1
 omega
def oo (d e:Nat):Nat->Nat:=bg d (BS e)
def OV (d e d' e' j:Nat):oo d e j+oo d' e' j=oo (d+d') (e+e') j:=by
 cases j with
 | zero=>rfl
 | succ j=>exact PI e e' j
def awb (E:Nat->Nat):aH.jo (Pn 2) E=(E 0+1)*((E 1+1)*1):=rfl
def VR (E:Nat->Nat):aH.uk (Pn 2) E=xN (E 0) (E 1):=rfl
def uh (L d e:Nat):Nat:=xN d e*(2*L+1)^L*(L+1)*(2*(2*L+1))^L
def Mc (L:Nat) (E:Nat->Nat):ED (Pn 2) (bg L E)=uh L (E 0) (E 1):=rfl
def ug {d':Nat}(h:L<=L') (k:d<=d') (m:e<=e'):uh L d e<=uh L' d' e':=by
 unfold uh;exact ct (ct (ct (rZ k m) (mQ (by omega) h (by omega))) (by omega)) (mQ (by omega) h (by omega))
def Z4 (L d e:Nat):0<uh L d e:=by
 unfold uh;exact iR (iR (iR (Z6 d e) (iN (by omega))) (by omega)) (iN (by omega))
def c3 (t:Nat):Nat:=(5*(t+1)+6) / 3
def asl (s d:Nat):5*s*(5*s*d+d+1)<=(5*s+1)*(5*s*d+1):=by
 obtain ⟨P,hP⟩:∃P,5*s*d=P:=⟨_,rfl⟩;obtain ⟨F,hF⟩:∃F,5*s=F:=⟨_,rfl⟩;rw [hF] at hP;rw [hF,hP];have e1:F*(P+d+1)=F*P+P+F:=by rw [ak,ak,bl,hP]
 have e2:(F+1)*(P+1)=F*P+P+F+1:=by rw [bO,ak,bN,bl];omega
 omega
def asi (d e t:Nat):Jr (Pn 2) (oo d e) (oo (5*(t+1)*d) (5*(t+1)*e)) t (c3 t):=by
 show (c3 t+1)*((5*(t+1)*d+d+1)*((5*(t+1)*e+e+1)*1)*(t+1))<=c3 t*((5*(t+1)*d+1)*((5*(t+1)*e+1)*1)*(t+2));obtain ⟨s,hs⟩:∃s,t+1=s:=⟨_,rfl⟩;obtain ⟨c,hc⟩:∃c,c3 t=c:=⟨_,rfl⟩;have h1:5*s+4<=3*c:=by unfold c3 at hc;omega
 have h2:1+c<=10*s:=by unfold c3 at hc;omega
 rw [hc,hs,show t+2=s+1 by omega,bl,bl];have p1:=asl s d;have p2:=asl s e;obtain ⟨P,hP⟩:∃P,5*s*d+1=P:=⟨_,rfl⟩;obtain ⟨P',hP'⟩:∃P',5*s*d+d+1=P':=⟨_,rfl⟩;obtain ⟨Q,hQ⟩:∃Q,5*s*e+1=Q:=⟨_,rfl⟩;obtain ⟨Q',hQ'⟩:∃Q',5*s*e+e+1=Q':=⟨_,rfl⟩;rw [hP,hP'] at p1;rw [hQ,hQ'] at p2;rw [hP,hP',hQ,hQ'];have key:25*(s*s)*(P'*Q')<=(25*(s*s)+10*s+1)*(P*Q):=by
  have:=ct p1 p2;have e1:5*s*P'*(5*s*Q')=25*(s*s)*(P'*Q'):=by
   rw [Er,show 5*s*(5*s)=25*(s*s) by rw [Er]]
  have e2:(5*s+1)*P*((5*s+1)*Q)=(25*(s*s)+10*s+1)*(P*Q):=by
   rw [Er];congr 1
   rw [bO,ak,bl,bN,show 5*s*(5*s)=25*(s*s) by rw [Er]];omega
  omega
 have awJ:(c+1)*(25*(s*s)+10*s+1)<=c*(25*(s*s)+25*s):=by
  have e1:(c+1)*(25*(s*s)+10*s+1)=c*(25*(s*s))+c*(10*s)+c+(25*(s*s)+10*s+1):=by rw [bO,ak,ak,bl,bN]
  have e2:c*(25*(s*s)+25*s)=c*(25*(s*s))+c*(25*s):=ak _ _ _;have e3:c*(10*s)=10*(c*s):=oh _ _ _;have e4:c*(25*s)=25*(c*s):=oh _ _ _;have e5:(5*s+4)*s<=3*c*s:=bG _ h1;have e6:(5*s+4)*s=5*(s*s)+4*s:=by rw [bO,dA]
  have e7:3*c*s=3*(c*s):=dA _ _ _;rw [e1,e2,e3,e4];omega
 have Ah:0<25*s:=by omega
 refine Nat.le_of_mul_le_mul_left ?_ Ah;have f1:25*s*((c+1)*(P'*Q'*s))=(c+1)*(25*(s*s)*(P'*Q')):=by ac_rfl
 have f2:25*s*(c*(P*Q*(s+1)))=c*(25*(s*s)+25*s)*(P*Q):=by
  have g1:25*(s*s)+25*s=25*s*(s+1):=by rw [ak,bl,dA]
  rw [g1];ac_rfl
 rw [f1,f2];refine aG (bn _ key) ?_;rw [<- dA];exact bG _ awJ
def acN {Di E:Nat->Nat} (h:aH.jo (Pn n) (fun j=>E j+Di j)*(t+1)+1<=aH.jo (Pn n) E*(t+2)):∃c,Jr (Pn n) Di E t c:=by
 refine ⟨aH.jo (Pn n) (fun j=>E j+Di j)*(t+1),?_⟩;unfold Jr;rw [aq];exact bn _ h
def asj (s d:Nat):(s*d+1)*(s+1)=(s*d+d+1)*s+1:=by
 obtain ⟨P,hP⟩:∃P,s*d=P:=⟨_,rfl⟩;rw [hP,ak,bl,bO (P+d) 1 s,bN,bO P d s,aq d s,hP,bO,bN];omega
def amR (d e t:Nat):∃X c,Jr (Pn 2) (oo d e) (oo ((t+1)*d) X) t c:=by
 refine ⟨e*(((t+1)*d+d+1)*(t+1)),acN ?_⟩;show ((t+1)*d+d+1)*((e*(((t+1)*d+d+1)*(t+1))+e+1)*1)*(t+1)+1<=((t+1)*d+1)*((e*(((t+1)*d+d+1)*(t+1))+1)*1)*(t+1+1);have h1:=asj (t+1) d;obtain ⟨s,hs⟩:∃s,t+1=s:=⟨_,rfl⟩;rw [hs] at h1 ⊢;obtain ⟨X,hX⟩:∃X,(s*d+d+1)*s=X:=⟨_,rfl⟩;rw [hX] at h1 ⊢;have e1:(s*d+d+1)*((e*X+e+1)*1)*s=(e*X+e+1)*X:=by
  rw [bl,aq (s*d+d+1),dA,hX]
 have e2:(s*d+1)*((e*X+1)*1)*(s+1)=(e*X+1)*(X+1):=by
  rw [bl,aq (s*d+1),dA,h1]
 rw [e1,e2,ak (e*X+1),bl,bO (e*X+e),bO (e*X) e,bO (e*X) 1,bN];omega
def amQ (d e t:Nat):∃X c,Jr (Pn 2) (oo d e) (oo X ((t+1)*e)) t c:=by
 refine ⟨d*(((t+1)*e+e+1)*(t+1)),acN ?_⟩;show (d*(((t+1)*e+e+1)*(t+1))+d+1)*(((t+1)*e+e+1)*1)*(t+1)+1<=(d*(((t+1)*e+e+1)*(t+1))+1)*(((t+1)*e+1)*1)*(t+1+1);have h1:=asj (t+1) e;obtain ⟨s,hs⟩:∃s,t+1=s:=⟨_,rfl⟩;rw [hs] at h1 ⊢;obtain ⟨X,hX⟩:∃X,(s*e+e+1)*s=X:=⟨_,rfl⟩;rw [hX] at h1 ⊢;have e1:(d*X+d+1)*((s*e+e+1)*1)*s=(d*X+d+1)*X:=by
  rw [bl,dA,hX]
 have e2:(d*X+1)*((s*e+1)*1)*(s+1)=(d*X+1)*(X+1):=by
  rw [bl,dA,h1]
 rw [e1,e2,ak (d*X+1),bl,bO (d*X+d),bO (d*X) d,bO (d*X) 1,bN];omega
def Ny (H L d e t:Nat):Nat:=uh L (5*(t+1)*d+d) (5*(t+1)*e+e)*(2*wX t ((5*(t+1)*d+1)*((5*(t+1)*e+1)*1)) H (c3 t))
def Q9 (h:t<=t'):Ny H L d e t<=Ny H L d e t':=by
 have h5:5*(t+1)*d<=5*(t'+1)*d:=bG _ (by omega);have h6:5*(t+1)*e<=5*(t'+1)*e:=bG _ (by omega);unfold Ny;exact ct (ug (Nat.le_refl _) (by omega) (by omega)) (bn _ (Lh h (ct (by omega) (bG _ (by omega))) (by unfold c3;omega)))
def awF (hL:max la lb<=L+1):Lad (Pn 2) la lb H (oo d e) (fun l=>oo ((la+lb-2*l+2)*d) ((la+lb-2*l+2)*e)) (fun l=>Ny H L d e (la+lb-2*l)):=by
 have e9:∀t x,(t+1)*x+x=(t+2)*x:=fun t x=>by rw [show t+2=(t+1)+1 by omega,bO (t+1) 1 x,bN]
 refine ⟨fun l hl=>⟨_,_,asi d e _,?_⟩,fun l hl=> ?_,fun k l Ds=>⟨Q9 (by omega),fun j=> ?_⟩,?_,fun j=> ?_⟩
 . rw [Mc,awb]
   exact bG _ (ug (by omega) (Nat.le_refl _) (Nat.le_refl _))
 . obtain ⟨X,c,hc⟩:=amR d e (la+lb-2*l)
   obtain ⟨Y,k,hk⟩:=amQ d e (la+lb-2*l);refine ⟨_,c,_,k,hc,hk,fun j=> ?_⟩;rw [OV,OV,e9,e9];match j with
   | 0=>exact Nat.min_le_left _ _
   | 1=>exact Nat.min_le_right _ _
   | j+2=>exact Nat.min_le_left _ _
 . match j with
   | 0=>exact bG _ (by omega)
   | 1=>exact bG _ (by omega)
   | j+2=>exact Nat.le_refl _
 . rw [Mc]
   refine ct (ug (by omega) ?_ ?_) (aG (Na _ H _ (iR (by omega) (by omega))) (iT _ (by omega)))
   . show d<=_
     omega
   . show e<=_
     omega
 . match j with
   | 0=>exact iT d (by omega)
   | 1=>exact iT e (by omega)
   | j+2=>exact Nat.le_refl _
