import Derived.Test.YtehcoffbiplphaaGreatGAl
set_option linter.all false
namespace Go.Proofs.YtehcoffbiplphaaGreat
variable {f:Nat->Nat} {g c n a b d e t H la lb L l h L' e' t' V:Nat}
class aG (R:Type) extends Add R,Mul R,Neg R,Sub R,Zero R,One R,NatPow R where
 add_assoc:∀a b c:R,a+b+c=a+(b+c)
 add_comm:∀a b:R,a+b=b+a
 add_zero:∀a:R,a+0=a
 add_neg:∀a:R,a+ -a=0
 mul_assoc:∀a b c:R,a*b*c=a*(b*c)
 mul_comm:∀a b:R,a*b=b*a
 mul_one:∀a:R,a*1=a
 mul_add:∀a b c:R,a*(b+c)=a*b+a*c
 sub_def:∀a b:R,a-b=a+ -b
 pow_zero:∀a:R,a^0=1
 pow_succ:∀(a:R) (n:Nat),a^(n+1)=a^n*a
namespace aG
variable {R : Type} [aG R]
def zero_add (a:R):0+a=a:=by rw [add_comm,add_zero]
def neg_add (a:R): -a+a=0:=by rw [add_comm,add_neg]
def one_mul (a:R):1*a=a:=by rw [mul_comm,mul_one]
def add_mul (a b c:R):(a+b)*c=a*c+b*c:=by rw [mul_comm,mul_add,mul_comm c a,mul_comm c b]
def add_left_comm (a b c:R):a+(b+c)=b+(a+c):=by rw [<- add_assoc,add_comm a b,add_assoc]
def add_left_cancel {a b c:R}(h:a+b=a+c):b=c:=by
 have: -a+(a+b)= -a+(a+c):=by rw [h]
 rwa [<- add_assoc,<- add_assoc,neg_add,zero_add,zero_add] at this
def mul_zero (a:R):a*0=0:=by
 have h:a*0+a*0=a*0+0:=by rw [<- mul_add,add_zero,add_zero]
 exact add_left_cancel h
def zero_mul (a:R):0*a=0:=by rw [mul_comm,mul_zero]
def kV {a b:R}(h:a+b=0):b= -a:=by
 apply add_left_cancel (a:=a);rw [h,add_neg]
def neg_mul (a b:R): -a*b= -(a*b):=by
 apply kV;rw [<- add_mul,add_neg,zero_mul]
def mul_neg (a b:R):a* -b= -(a*b):=by rw [mul_comm,neg_mul,mul_comm]
def neg_neg (a:R): - -a=a:=(kV (neg_add a)).symm
def neg_zero: -(0:R)=0:=(kV (add_zero (0:R))).symm
def oF (a b:R): -(a+b)= -a+ -b:=by
 symm;apply kV
 rw [add_assoc,add_left_comm b,add_neg,add_zero,add_neg]
def neg_eq_zero {a:R}: -a=0↔a=0:=⟨fun h=>by rw [<- neg_neg a,h,neg_zero],fun h=>by rw [h,neg_zero]⟩
def neg_inj {a b:R}(h: -a= -b):a=b:=by rw [<- neg_neg a,h,neg_neg]
instance:Std.Associative (α:=R) (· + ·):=⟨add_assoc⟩
instance:Std.Commutative (α:=R) (· + ·):=⟨add_comm⟩
instance:Std.Associative (α:=R) (· * ·):=⟨mul_assoc⟩
instance:Std.Commutative (α:=R) (· * ·):=⟨mul_comm⟩
def sub_self (a:R):a-a=0:=by rw [sub_def,add_neg]
def sub_eq_zero {a b:R}:a-b=0↔a=b:=by
 constructor
 . intro h
   rw [sub_def] at h;exact (neg_inj (kV h)).symm
 . rintro rfl;exact sub_self a
def sub_add_cancel (a b:R):a-b+b=a:=by rw [sub_def,add_assoc,neg_add,add_zero]
def add_sub_cancel (a b:R):a+b-b=a:=by rw [sub_def,add_assoc,add_neg,add_zero]
def mul_sub (a b c:R):a*(b-c)=a*b-a*c:=by rw [sub_def,mul_add,mul_neg,sub_def]
def sub_mul (a b c:R):(a-b)*c=a*c-b*c:=by rw [mul_comm,mul_sub,mul_comm c a,mul_comm c b]
def neg_sub (a b:R): -(a-b)=b-a:=by rw [sub_def,oF,neg_neg,add_comm,sub_def]
def sub_zero (a:R):a-0=a:=by rw [sub_def,neg_zero,add_zero]
def pow_one (a:R):a^1=a:=by rw [pow_succ,pow_zero,one_mul]
def pow_add (a:R) (m n:Nat):a^(m+n)=a^m*a^n:=by
 induction n with
 | zero=>rw [pow_zero,mul_one,je]
 | succ n ih=>rw [<- j9,pow_succ,ih,pow_succ,mul_assoc]
def zero_pow {n:Nat}(h:0<n):(0:R)^n=0:=by
 obtain ⟨k,rfl⟩:∃k,n=k+1:=⟨n-1,by omega⟩;rw [pow_succ,mul_zero]
def nsmul:Nat->R->R
 | 0,_=>0
 | n+1,a=>nsmul n a+a
def nsmul_zero (a:R):nsmul 0 a=0:=rfl
def sU (n:Nat) (a:R):nsmul (n+1) a=nsmul n a+a:=rfl
def nsmul_add (m n:Nat) (a:R):nsmul (m+n) a=nsmul m a+nsmul n a:=by
 induction n with
 | zero=>rw [nsmul_zero,add_zero,je]
 | succ n ih=>rw [<- j9,sU,ih,sU,add_assoc]
def Gm (n:Nat) (a b:R):nsmul n a*b=nsmul n (a*b):=by
 induction n with
 | zero=>rw [nsmul_zero,nsmul_zero,zero_mul]
 | succ n ih=>rw [sU,add_mul,ih,sU]
def ME (n:Nat) (a:R):nsmul n a=nsmul n 1*a:=by rw [Gm,one_mul]
def Jj (n:Nat):nsmul n (0:R)=0:=by
 induction n with
 | zero=>rfl
 | succ n ih=>rw [sU,ih,add_zero]
def sum:Nat->(Nat->R)->R
 | 0,_=>0
 | n+1,f=>sum n f+f n
def kO (f:Nat->R):sum 0 f=0:=rfl
def eW (n:Nat) (f:Nat->R):sum (n+1) f=sum n f+f n:=rfl
def iW {n:Nat} {f g:Nat->R}(h:∀i,i<n->f i=g i):sum n f=sum n g:=by
 induction n with
 | zero=>rfl
 | succ n ih=>rw [eW,eW,ih (fun i hi=>h i (by omega)),h n (by omega)]
def sum_add (n:Nat) (f g:Nat->R):sum n (fun i=>f i+g i)=sum n f+sum n g:=by
 induction n with
 | zero=>rw [kO,kO,kO,add_zero]
 | succ n ih=>rw [eW,ih,eW,eW];ac_rfl
def Fl (n:Nat) (f:Nat->R) (c:R):sum n f*c=sum n (fun i=>f i*c):=by
 induction n with
 | zero=>rw [kO,kO,zero_mul]
 | succ n ih=>rw [eW,eW,add_mul,ih]
def Up (n:Nat) (f:Nat->R) (c:R):c*sum n f=sum n (fun i=>c*f i):=by
 rw [mul_comm,Fl];exact iW fun i _=>mul_comm _ _
def Lj (n:Nat):sum n (fun _=>(0:R))=0:=by
 induction n with
 | zero=>rfl
 | succ n ih=>rw [eW,ih,add_zero]
def qO {n:Nat} {f:Nat->R}(h:∀i,i<n->f i=0):sum n f=0:=by
 rw [iW h,Lj]
def WG (n:Nat) (f:Nat->R):sum (n+1) f=f 0+sum n (fun i=>f (i+1)):=by
 induction n with
 | zero=>rw [eW,kO,kO,zero_add,add_zero]
 | succ n ih=>rw [eW,ih,eW,add_assoc]
def sum_append (m n:Nat) (f:Nat->R):sum (m+n) f=sum m f+sum n (fun i=>f (m+i)):=by
 induction n with
 | zero=>rw [kO,add_zero,je]
 | succ n ih=>rw [<- j9,eW,ih,eW,add_assoc]
def vH {n k:Nat} {f:Nat->R}(hk:k<n) (h:∀i,i<n->i≠k->f i=0):sum n f=f k:=by
 induction n with
 | zero=>omega
 | succ n ih=>
   rw [eW];by_cases e:k=n
   . subst e
     rw [qO (fun i hi=>h i (by omega) (by omega)),zero_add]
   . rw [ih (by omega) (fun i hi hne=>h i (by omega) hne),h n (by omega) (fun e'=>e e'.symm),add_zero]
def Qq {m n:Nat} {f:Nat->R}(h:m<=n) (h0:∀i,m<=i->i<n->f i=0):sum n f=sum m f:=by
 obtain ⟨k,rfl⟩:=Nat.le.dest h;rw [sum_append,qO (n:=k) (fun i hi=>h0 _ (by omega) (by omega)),add_zero]
def YQ (n:Nat) (f:Nat->R):sum n f=sum n (fun i=>f (n-1-i)):=by
 induction n with
 | zero=>rfl
 | succ n ih=>
   rw [eW,ih,WG,add_comm];congr 1
   . exact iW fun i hi=>by congr 1;omega
end aG
instance:aG Int where
 add_assoc:=Int.add_assoc
 add_comm:=NJ
 add_zero:=zl
 add_neg:=Int.add_right_neg
 mul_assoc:=FP
 mul_comm:=mg
 mul_one:=Int.mul_one
 mul_add:=I9
 sub_def:=fun _ _=>ace
 pow_zero:=Int.pow_zero
 pow_succ:=Int.pow_succ
open aG
structure Poly (F:Type) [aG F] where
 co:Nat->F
 fin:∃n,∀i,n<=i->co i=0
namespace Poly
variable {F : Type} [aG F]
def ext {a b:Poly F}(h:∀i,a.co i=b.co i):a=b:=by
 have h':a.co=b.co:=funext h;cases a;cases b;simp only [mk.injEq];exact h'
instance:Add (Poly F):=⟨fun a b=>⟨fun i=>a.co i+b.co i,by
 obtain ⟨n,hn⟩:=a.fin;obtain ⟨m,hm⟩:=b.fin;exact ⟨n+m,fun i hi=>by rw [hn i (by omega),hm i (by omega),add_zero]⟩⟩⟩
instance:Neg (Poly F):=⟨fun a=>⟨fun i=> -a.co i,by
 obtain ⟨n,hn⟩:=a.fin;exact ⟨n,fun i hi=>by rw [hn i hi,neg_zero]⟩⟩⟩
instance:Sub (Poly F):=⟨fun a b=>a+ -b⟩
instance:Zero (Poly F):=⟨⟨fun _=>0,0,fun _ _=>rfl⟩⟩
def mono (n:Nat) (c:F):Poly F:=⟨fun i=>if i=n then c else 0,n+1,fun i hi=>af (by omega)⟩
def C (c:F):Poly F:=mono 0 c
instance:One (Poly F):=⟨C 1⟩
def Dc (a b:Nat->F) (n:Nat):F:=sum (n+1) (fun k=>a k*b (n-k))
def KY {a b:Nat->F} {n m i:Nat}(ha:∀i,n<=i->a i=0) (hb:∀i,m<=i->b i=0) (h:n+m<=i+1):Dc a b i=0:=by
 unfold Dc;refine qO fun k hk=> ?_;by_cases h1:n<=k
 . rw [ha k h1,zero_mul]
 . rw [hb (i-k) (by omega),mul_zero]
instance:Mul (Poly F):=⟨fun a b=>⟨Dc a.co b.co,by
 obtain ⟨n,hn⟩:=a.fin;obtain ⟨m,hm⟩:=b.fin;exact ⟨n+m,fun i hi=>KY hn hm (by omega)⟩⟩⟩
def npow (a:Poly F):Nat->Poly F
 | 0=>1
 | n+1=>npow a n*a
instance:NatPow (Poly F):=⟨npow⟩
def pM (a b:Poly F) (i:Nat):(a+b).co i=a.co i+b.co i:=rfl
def ze (a:Poly F) (i:Nat):(-a).co i= -a.co i:=rfl
def oW (a b:Poly F) (i:Nat):(a-b).co i=a.co i-b.co i:=by
 rw [aG.sub_def];rfl
def Bz (i:Nat):(0:Poly F).co i=0:=rfl
def dV (n:Nat) (c:F) (i:Nat):(mono n c).co i=if i=n then c else 0:=rfl
def wT (c:F) (i:Nat):(C c).co i=if i=0 then c else 0:=rfl
def uM (i:Nat):(1:Poly F).co i=if i=0 then 1 else 0:=rfl
def oZ (a b:Poly F) (n:Nat):(a*b).co n=sum (n+1) (fun k=>a.co k*b.co (n-k)):=rfl
def Wp (a b:Nat->F) (n:Nat):Dc a b n=Dc b a n:=by
 unfold Dc;rw [YQ];refine iW fun k hk=> ?_;rw [mul_comm];congr 2<;>omega
def UR (n:Nat) (h:Nat->Nat->F):sum (n+1) (fun k=>sum (k+1) (fun j=>h k j))=sum (n+1) (fun j=>sum (n+1-j) (fun i=>h (j+i) j)):=by
 induction n with
 | zero=>rfl
 | succ n ih=>
   rw [eW,ih];have e:sum (n+1+1) (fun j=>sum (n+1+1-j) (fun i=>h (j+i) j))=sum (n+1+1) (fun j=>sum (n+1-j) (fun i=>h (j+i) j)+h (n+1) j):=by
    refine iW fun j hj=> ?_;rw [show n+1+1-j=(n+1-j)+1 by omega,eW,show j+(n+1-j)=n+1 by omega]
   rw [e,sum_add,eW (n+1) (fun j=>sum (n+1-j) (fun i=>h (j+i) j)),pT,kO,add_zero]
def RT (a b c:Nat->F) (n:Nat):Dc (Dc a b) c n=Dc a (Dc b c) n:=by
 unfold Dc;have e1:sum (n+1) (fun k=>sum (k+1) (fun j=>a j*b (k-j))*c (n-k))=sum (n+1) (fun k=>sum (k+1) (fun j=>a j*b (k-j)*c (n-k))):=iW fun k _=>Fl _ _ _;rw [e1,UR];refine iW fun j hj=> ?_;rw [Up,show n+1-j=n-j+1 by omega];refine iW fun i hi=> ?_;rw [mul_assoc,show j+i-j=i by omega,show n-(j+i)=n-j-i by omega]
def Zc (a:Nat->F) (n:Nat):Dc a (fun i=>if i=0 then 1 else 0) n=a n:=by
 unfold Dc;rw [vH (k:=n) (by omega) (fun i hi hne=>by show a i*(if n-i=0 then 1 else 0)=0;rw [af (by omega),mul_zero]),pT];show a n*(if 0=0 then 1 else 0)=a n;rw [aM rfl,mul_one]
instance:aG (Poly F) where
 add_assoc a b c:=ext fun i=>add_assoc _ _ _
 add_comm a b:=ext fun i=>add_comm _ _
 add_zero a:=ext fun i=>add_zero _
 add_neg a:=ext fun i=>add_neg _
 mul_assoc a b c:=ext fun i=>RT _ _ _ _
 mul_comm a b:=ext fun i=>Wp _ _ _
 mul_one a:=ext fun i=>Zc _ _
 mul_add a b c:=ext fun i=>by
  rw [pM,oZ,oZ,oZ,<- sum_add];exact iW fun k _=>mul_add _ _ _
 sub_def a b:=rfl
 pow_zero a:=rfl
 pow_succ a n:=rfl
def Sh (a:Poly F) (n:Nat):Prop:=∀i,n<=i->a.co i=0
def Sh.mono {a:Poly F} {n m:Nat}(h:a.Sh n) (hm:n<=m):a.Sh m:=fun i hi=>h i (by omega)
def Sh.add {a b:Poly F} {n:Nat}(ha:a.Sh n) (hb:b.Sh n):(a+b).Sh n:=fun i hi=>by rw [pM,ha i hi,hb i hi,add_zero]
def Sh.neg {a:Poly F} {n:Nat}(ha:a.Sh n):(-a).Sh n:=fun i hi=>by rw [ze,ha i hi,neg_zero]
def Sh.sub {a b:Poly F} {n:Nat}(ha:a.Sh n) (hb:b.Sh n):(a-b).Sh n:=ha.add hb.neg
def Sh.mul {a b:Poly F} {n m k:Nat}(ha:a.Sh n) (hb:b.Sh m) (hk:n+m<=k+1):(a*b).Sh k:=fun i hi=>KY ha hb (by omega)
def Je (c:F):(C c).Sh 1:=fun i hi=>by rw [wT,af (by omega)]
def Lp {a:Poly F}(h:a.Sh 0):a=0:=ext fun i=>h i (by omega)
def LP (n:Nat):(0:Poly F).Sh n:=fun _ _=>rfl
def SY {a b:Poly F} {n m:Nat}(ha:a.Sh (n+1)) (hb:b.Sh (m+1)):(a*b).co (n+m)=a.co n*b.co m:=by
 rw [oZ,vH (k:=n) (by omega) (fun i hi hne=> ?_),show n+m-n=m by omega];by_cases h1:i<n
 . rw [hb (n+m-i) (by omega),mul_zero]
 . rw [ha i (by omega),zero_mul]
def jW (n:Nat) (c:F) (a:Poly F) (i:Nat):(mono n c*a).co i=if n<=i then c*a.co (i-n) else 0:=by
 rw [oZ];by_cases h:n<=i
 . rw [aM h,vH (k:=n) (by omega) (fun k hk hne=>by rw [dV,af hne,zero_mul]),dV,aM rfl]
 . rw [af h]
   exact qO fun k hk=>by rw [dV,af (by omega),zero_mul]
def kP (c:F) (a:Poly F) (i:Nat):(C c*a).co i=c*a.co i:=by
 unfold C;rw [jW,aM (by omega),Nat.sub_zero]
def mO (a b:F):C a*C b=C (a*b):=ext fun i=>by
 rw [kP,wT,wT];split
 . rfl
 . exact mul_zero _
def QX:C (1:F)=1:=rfl
def Ef:C (0:F)=0:=ext fun i=>by rw [wT];split<;>rfl
def asf (a:F):C (-a)= -C a:=ext fun i=>by
 rw [ze,wT,wT];split
 . rfl
 . exact neg_zero.symm
def asg {a b:F}(h:C a=C b):a=b:=by
 have:=fN (fun q=>q.co 0) h;simpa [wT] using this
def Gs (n m:Nat) (a b:F):mono n a*mono m b=mono (n+m) (a*b):=ext fun i=>by
 rw [jW,dV,dV];by_cases h:n<=i
 . rw [aM h]
   by_cases e:i-n=m
   . rw [aM e,aM (by omega)]
   . rw [af e,af (by omega),mul_zero]
 . rw [af h,af (by omega)]
def afx {a:Poly F}(h:a.Sh 1):a=C (a.co 0):=ext fun i=>by
 rw [wT];split
 . next e=>rw [e]
 . exact h i (by omega)
def least (P:Nat->Prop) (h:∃n,P n):∃n,P n∧∀m,m<n->¬P m:=by
 obtain ⟨n,hn⟩:=h;induction n using Nat.strongRecOn with
 | ind n ih=>
   by_cases h':∃m,m<n∧P m
   . obtain ⟨m,hm,hp⟩:=h'
     exact ih m hm hp
   . exact ⟨n,hn,fun m hm hp=>h' ⟨m,hm,hp⟩⟩
noncomputable def len (a:Poly F):Nat:=Classical.choose (least a.Sh a.fin)
def az (a:Poly F):a.Sh a.len:=(S5 (least a.Sh a.fin)).1
def bU {a:Poly F} {n:Nat}(h:a.Sh n):a.len<=n:=Nat.le_of_not_lt fun hl=>(S5 (least a.Sh a.fin)).2 n hl h
def vU {a:Poly F}(h:0<a.len):a.co (a.len-1)≠0:=fun e=>by
 have:a.Sh (a.len-1):=fun i hi=>by
  by_cases e':i=a.len-1
  . rw [e',e]
  . exact az a i (by omega)
 have:=bU this;omega
def Dl {a:Poly F} {n:Nat}(h:a.Sh (n+1)) (ht:a.co n≠0):a.len=n+1:=by
 have h1:=bU h;refine Tc h1 (Nat.le_of_not_lt fun hl=>ht (az a n (by omega)))
def fo:(0:Poly F).len=0:=Nat.le_zero.1 (bU (LP 0))
def lq {a:Poly F}:a.len=0↔a=0:=⟨fun h=>Lp (h ▸ az a),fun h=>h ▸ fo⟩
def cH {a:Poly F}(h:a≠0):0<a.len:=pV fun e=>h (lq.1 e)
noncomputable def lc (a:Poly F):F:=a.co (a.len-1)
def E0 {a:Poly F}(h:a≠0):a.lc≠0:=vU (cH h)
end Poly
structure Hom {F R:Type} [aG F] [aG R] (φ:F->R):Prop where
 add:∀a b,φ (a+b)=φ a+φ b
 mul:∀a b,φ (a*b)=φ a*φ b
 one:φ 1=1
def Hom.zero {F R:Type} [aG F] [aG R] {φ:F->R}(h:Hom φ):φ 0=0:=by
 have:=h.add 0 0;rw [add_zero] at this;exact add_left_cancel (a:=φ 0) (by rw [add_zero];exact this.symm)
def Hom.sum {F R:Type} [aG F] [aG R] {φ:F->R}(h:Hom φ) (n:Nat) (f:Nat->F):φ (sum n f)=aG.sum n (fun i=>φ (f i)):=by
 induction n with
 | zero=>exact h.zero
 | succ n ih=>rw [eW,h.add,ih,eW]
def js {F:Type} [aG F]:Hom (fun a:F=>a):=⟨fun _ _=>rfl,fun _ _=>rfl,rfl⟩
namespace Poly
section
variable {F R : Type} [aG F] [aG R] {φ : F -> R}
def YD (φ:F->R) (P:Poly F) (v:R) (n:Nat):R:=sum n (fun i=>φ (P.co i)*v^i)
def alb (hφ:Hom φ) {P:Poly F} {n m:Nat}(h:P.Sh n) (hm:n<=m) (v:R):YD φ P v m=YD φ P v n:=
 Qq hm fun i h1 _=>by rw [h i h1,hφ.zero,zero_mul]
noncomputable def ev (φ:F->R) (P:Poly F) (v:R):R:=YD φ P v P.len
section
variable (hφ:Hom φ)
include hφ
theorem Br {P:Poly F} {n:Nat}(h:P.Sh n) (v:R):ev φ P v=YD φ P v n:=by
 have h1:=bU h;exact (alb hφ (az P) h1 v).symm
theorem SS (P Q:Poly F) (v:R):ev φ (P+Q) v=ev φ P v+ev φ Q v:=by
 have hp:=(az P).mono (show P.len<=max P.len Q.len by omega);have hq:=(az Q).mono (show Q.len<=max P.len Q.len by omega);rw [Br hφ (hp.add hq),Br hφ hp,Br hφ hq];unfold YD;rw [<- sum_add];exact iW fun i _=>by rw [pM,hφ.add,add_mul]
theorem Pj (c:F) (v:R):ev φ (C c) v=φ c:=by
 rw [Br hφ (Je c)];unfold YD;rw [eW,kO,zero_add,aG.pow_zero,aG.mul_one];rfl
theorem afv (v:R):ev φ 0 v=0:=by rw [<- Ef,Pj hφ,hφ.zero]
theorem afw (n:Nat) (c:F) (v:R):ev φ (mono n c) v=φ c*v^n:=by
 rw [Br hφ (n:=n+1) (fun i hi=>by rw [dV,af (by omega)])];unfold YD;rw [vH (k:=n) (by omega) (fun i _ hne=>by rw [dV,af hne,hφ.zero,zero_mul]),dV,aM rfl]
theorem Mu (P Q:Poly F) (v:R):ev φ (P*Q) v=ev φ P v*ev φ Q v:=by
 have e1:ev φ (P*Q) v=YD φ (P*Q) v (P.len+Q.len+1):=Br hφ ((az P).mul (az Q) (by omega)) v;rw [e1];unfold YD;have e2:sum (P.len+Q.len+1) (fun n=>φ ((P*Q).co n)*v^n)=sum (P.len+Q.len+1) (fun n=>sum (n+1) (fun k=>φ (P.co k)*φ (Q.co (n-k))*v^n)):=by
  refine iW fun n _=> ?_;rw [oZ,hφ.sum,Fl];exact iW fun k _=>by rw [hφ.mul]
 rw [e2,UR (P.len+Q.len) (fun n k=>φ (P.co k)*φ (Q.co (n-k))*v^n)];have e3:∀j,j<P.len+Q.len+1->sum (P.len+Q.len+1-j) (fun i=>φ (P.co j)*φ (Q.co (j+i-j))*v^(j+i))=φ (P.co j)*v^j*ev φ Q v:=by
  intro j hj;by_cases hjp:j<P.len
  . have:ev φ Q v=YD φ Q v (P.len+Q.len+1-j):=Br hφ ((az Q).mono (by omega)) v
    rw [this];unfold YD;rw [Up];refine iW fun i _=> ?_;rw [show j+i-j=i by omega,aG.pow_add];ac_rfl
  . rw [az P j (by omega),hφ.zero,zero_mul,zero_mul]
    exact qO fun i _=>by rw [zero_mul,zero_mul]
 rw [iW e3,<- Fl];congr 1
 exact (Br hφ ((az P).mono (by omega)) v).symm
theorem akZ (P:Poly F) (v:R):ev φ (-P) v= -ev φ P v:=kV (by rw [<- SS hφ,add_neg,afv hφ])
theorem Mt (P Q:Poly F) (v:R):ev φ (P-Q) v=ev φ P v-ev φ Q v:=by rw [aG.sub_def,SS hφ,akZ hφ,aG.sub_def]
end
end
def X (F:Type) [aG F]:Poly F:=mono 1 1
def ala {F R:Type} [aG F] [aG R] {φ:F->R}(hφ:Hom φ) (v:R):ev φ (X F) v=v:=by
 unfold X;rw [afw hφ,hφ.one,aG.one_mul,aG.pow_one]
end Poly
class Dom (R:Type) extends aG R where
 nh:(1:R)≠0
 nz:∀a b:R,a*b=0->a=0∨b=0
def Dv {R:Type} [aG R] (a b:R):Prop:=∃c,b=a*c
structure nL {R:Type} [aG R] (g a b:R):Prop where
 l:Dv g a
 r:Dv g b
 top:∀d,Dv d a->Dv d b->Dv d g
class CY (R:Type) extends Dom R where
 zX:∀a b:R,∃g,nL g a b
section
variable {R : Type} [aG R] {a b c d g : R}
def Dv.refl (a:R):Dv a a:=⟨1,(mul_one a).symm⟩
def Dv.trans (h:Dv a b) (k:Dv b c):Dv a c:=by
 obtain ⟨x,rfl⟩:=h;obtain ⟨y,rfl⟩:=k;exact ⟨x*y,mul_assoc _ _ _⟩
def Dv.mulR (h:Dv a b) (c:R):Dv a (b*c):=by
 obtain ⟨x,rfl⟩:=h;exact ⟨x*c,mul_assoc _ _ _⟩
def Dv.mulL (h:Dv a b) (c:R):Dv a (c*b):=by rw [mul_comm];exact h.mulR c
def Dv.left (a b:R):Dv a (a*b):=⟨b,rfl⟩
def Dv.right (a b:R):Dv b (a*b):=⟨a,mul_comm _ _⟩
def Dv.zero (a:R):Dv a 0:=⟨0,(mul_zero a).symm⟩
def Dv.one (a:R):Dv 1 a:=⟨a,(one_mul a).symm⟩
def Dv.add (h:Dv a b) (k:Dv a c):Dv a (b+c):=by
 obtain ⟨x,rfl⟩:=h;obtain ⟨y,rfl⟩:=k;exact ⟨x+y,(mul_add _ _ _).symm⟩
def Dv.neg (h:Dv a b):Dv a (-b):=by
 obtain ⟨x,rfl⟩:=h;exact ⟨-x,(mul_neg _ _).symm⟩
def Dv.sub (h:Dv a b) (k:Dv a c):Dv a (b-c):=by rw [sub_def];exact h.add k.neg
def Dv.anC (h:Dv a (b+c)) (k:Dv a b):Dv a c:=by
 have e:c=(b+c)-b:=by rw [add_comm,add_sub_cancel]
 rw [e];exact h.sub k
def Dv.mul (h:Dv a b) (k:Dv c d):Dv (a*c) (b*d):=by
 obtain ⟨x,rfl⟩:=h;obtain ⟨y,rfl⟩:=k;exact ⟨x*y,by ac_rfl⟩
def Dv.of0 (h:Dv (0:R) a):a=0:=by
 obtain ⟨x,rfl⟩:=h;exact zero_mul x
def nL.symm (h:nL g a b):nL g b a:=⟨h.r,h.l,fun d k l=>h.top d l k⟩
def aiB {n:Nat} {f:Nat->R}(h:∀i,i<n->Dv a (f i)):Dv a (sum n f):=by
 induction n with
 | zero=>exact Dv.zero a
 | succ n ih=>rw [eW];exact (ih fun i hi=>h i (by omega)).add (h n (by omega))
end
section
variable {R : Type} [Dom R] {a b c d g : R}
def Dom.vR (ha:a≠0) (hb:b≠0):a*b≠0:=fun e=>by
 rcases Dom.nz a b e with h | h
 . exact ha h
 . exact hb h
def Dom.cancel (ha:a≠0) (h:a*b=a*c):b=c:=by
 have e:a*(b-c)=0:=by rw [mul_sub,h,sub_self]
 rcases Dom.nz a _ e with h1 | h1
 . exact absurd h1 ha
 . exact sub_eq_zero.1 h1
def Dv.cancel (ha:a≠0) (h:Dv (a*b) (a*c)):Dv b c:=by
 obtain ⟨x,e⟩:=h;exact ⟨x,Dom.cancel ha (by rw [e,mul_assoc])⟩
def Dom.RD (ha:a≠0):∀n:Nat,a^n≠0
 | 0=>by rw [aG.pow_zero];exact Dom.nh
 | n+1=>by rw [aG.pow_succ];exact Dom.vR (Dom.RD ha n) ha
end
section
variable {R : Type} [CY R] {a b c d g : R}
def nL.mul (hc:c≠0) (h:nL g a b):nL (c*g) (c*a) (c*b):=by
 obtain ⟨x,hx⟩:=CY.zX (c*a) (c*b);obtain ⟨k,rfl⟩:=hx.top c (Dv.left _ _) (Dv.left _ _);have h1:=h.top k (hx.l.cancel hc) (hx.r.cancel hc);exact ⟨(Dv.refl c).mul h.l,(Dv.refl c).mul h.r,fun d h2 h3=>(hx.top d h2 h3).trans ((Dv.refl c).mul h1)⟩
def alc (h:nL 1 a b) (k:Dv a (b*c)):Dv a c:=by
 by_cases hc:c=0
 . rw [hc];exact Dv.zero a
 . have h1:=(nL.mul hc h).top a (Dv.right _ _) (by rw [mul_comm];exact k)
   rwa [mul_one] at h1
end
namespace Poly
section
variable {R : Type} [aG R]
def yq (d:R) (f:Poly R):Prop:=∀i,Dv d (f.co i)
def Prim (f:Poly R):Prop:=∀d,yq d f->Dv d 1
structure Cont (c:R) (f:Poly R):Prop where
 dv:yq c f
 top:∀d,yq d f->Dv d c
def yq.add {d:R} {f g:Poly R}(h:yq d f) (k:yq d g):yq d (f+g):=fun i=>(h i).add (k i)
def yq.sub {d:R} {f g:Poly R}(h:yq d f) (k:yq d g):yq d (f-g):=fun i=>by rw [oW];exact (h i).sub (k i)
def yq.mulR {d:R} {f:Poly R}(h:yq d f) (g:Poly R):yq d (f*g):=fun i=>by
 rw [oZ];exact aiB fun k _=>(h k).mulR _
def yq.trans {d e:R} {f:Poly R}(h:yq d f) (k:Dv e d):yq e f:=fun i=>k.trans (h i)
def yq.C (c:R) (f:Poly R):yq c (C c*f):=fun i=>by rw [kP];exact Dv.left _ _
def yq.dv {d:R} {f:Poly R}(h:yq d f):Dv (Poly.C d) f:=by
 obtain ⟨q,hq⟩:∃q:Nat->R,∀i,f.co i=d*q i:=⟨fun i=>Classical.choose (h i),fun i=>S5 (h i)⟩;obtain ⟨n,hn⟩:=f.fin;refine ⟨⟨fun i=>if i<n then q i else 0,n,fun i hi=>af (by omega)⟩,ext fun i=> ?_⟩;rw [kP];show f.co i=d*(if i<n then q i else 0);by_cases hi:i<n
 . rw [aM hi];exact hq i
 . rw [af hi,mul_zero];exact hn i (by omega)
def yq.anB {d:R} {f:Poly R}(h:Dv (Poly.C d) f):yq d f:=by
 obtain ⟨q,rfl⟩:=h;exact yq.C d q
def Rj {f:Poly R}(h:f≠0):∃f1:Poly R,f=mono (f.len-1) f.lc+f1∧f1.len<f.len:=by
 have h1:=cH h;refine ⟨f-mono (f.len-1) f.lc,?_,?_⟩
 . rw [sub_def,add_left_comm,add_neg,add_zero]
 . have h2:(f-mono (f.len-1) f.lc).Sh (f.len-1):=fun i hi=>by
    rw [oW,dV];by_cases e:i=f.len-1
    . rw [aM e,e];exact sub_self _
    . rw [af e,az f i (by omega),sub_self]
   have:=bU h2;omega
end
section
variable {R : Type} [Dom R]
def lZ {a b:Poly R}(ha:a≠0) (hb:b≠0):(a*b).len=a.len+b.len-1∧(a*b).lc=a.lc*b.lc:=by
 have h1:=cH ha;have h2:=cH hb;have ea:a.len=(a.len-1)+1:=by omega
 have eb:b.len=(b.len-1)+1:=by omega
 have hsa:a.Sh ((a.len-1)+1):=ea ▸ az a;have hsb:b.Sh ((b.len-1)+1):=eb ▸ az b;have Z9:=SY hsa hsb;have hne:(a*b).co ((a.len-1)+(b.len-1))≠0:=by
  rw [Z9];exact Dom.vR (vU h1) (vU h2)
 have hl:=Dl (hsa.mul hsb (by omega)) hne;refine ⟨by rw [hl];omega,?_⟩;unfold lc;rw [hl,vt,Z9]
def yL {a b:Poly R}(ha:a≠0) (hb:b≠0):a*b≠0:=fun e=>by
 have h1:=(lZ ha hb).1;rw [e,fo] at h1;have:=cH ha;have:=cH hb;omega
instance agH:Dom (Poly R) where
 nh h:=by
  have h1:=fN (fun q:Poly R=>q.co 0) h;have h2:(1:R)=0:=by simpa [uM,Bz] using h1
  exact Dom.nh h2
 nz a b h:=nw fun k=>by
  have ha:a≠0:=fun e=>k (.inl e);have hb:b≠0:=fun e=>k (.inr e);exact yL ha hb h
def CZ {c:R}(h:c≠0):C c≠0:=fun e=>h (asg (e.trans Ef.symm))
def Ri {c:R}(h:c≠0):(C c).len=1:=Dl (n:=0) (Je c) (by rw [wT,aM rfl];exact h)
def fU {c:R}(h:c≠0) (a:Poly R):(C c*a).len=a.len:=by
 by_cases ha:a=0
 . rw [ha,aG.mul_zero]
 . rw [(lZ (CZ h) ha).1,Ri h];omega
def Prim.ne {f:Poly R}(h:Prim f):f≠0:=fun e=>by
 have h1:=h 0 fun i=>by rw [e];exact Dv.zero 0
 exact Dom.nh h1.of0
def Dv.bU {a b:Poly R}(h:Dv a b) (hb:b≠0):a.len<=b.len:=by
 obtain ⟨c,rfl⟩:=h;have ha:a≠0:=fun e=>hb (by rw [e,aG.zero_mul]);have hc:c≠0:=fun e=>hb (by rw [e,aG.mul_zero]);have h1:=(lZ ha hc).1;have:=cH hc;omega
def aiL {y:Poly R}(hy:y≠0):∀(N:Nat) (x:Poly R),x.len<=N->∃(k:Nat) (q r:Poly R),C (y.lc^k)*x=q*y+r∧r.len<y.len:=by
 intro N;induction N with
 | zero=>
   intro x hx;exact ⟨0,0,0,by rw [lq.1 (by omega:x.len=0),aG.mul_zero,aG.zero_mul,aG.add_zero],by rw [fo];exact cH hy⟩
 | succ N ih=>
   intro x hx;by_cases hlt:x.len<y.len
   . exact ⟨0,0,x,by rw [aG.pow_zero,QX,aG.one_mul,aG.zero_mul,aG.zero_add],hlt⟩
   . have uJ:=cH hy
     have hs:(C y.lc*x-mono (x.len-y.len) x.lc*y).Sh (x.len-1):=fun i hi=>by
      rw [oW,kP,jW,aM (by omega)];by_cases e:i=x.len-1
      . have e2:i-(x.len-y.len)=y.len-1:=by omega
        rw [e2,e];show y.co (y.len-1)*x.co (x.len-1)-x.co (x.len-1)*y.co (y.len-1)=0;rw [aG.mul_comm,sub_self]
      . rw [az x i (by omega),az y _ (by omega),aG.mul_zero,aG.mul_zero,sub_self]
     obtain ⟨k,q,r,h1,h2⟩:=ih _ (aH (bU hs) (by omega));refine ⟨k+1,q+C (y.lc^k)*mono (x.len-y.len) x.lc,r,?_,h2⟩;have e1:C (y.lc^(k+1))*x=C (y.lc^k)*(C y.lc*x-mono (x.len-y.len) x.lc*y)+C (y.lc^k)*(mono (x.len-y.len) x.lc*y):=by
      rw [<- aG.mul_add,sub_add_cancel,<- aG.mul_assoc,mO,aG.pow_succ]
     rw [e1,h1,add_mul,aG.mul_assoc];ac_rfl
end
section
variable {R : Type} [CY R]
def Pt (f:Nat->R):∀n:Nat,∃c,(∀i,i<n->Dv c (f i))∧∀d,(∀i,i<n->Dv d (f i))->Dv d c
 | 0=>⟨0,fun i hi=>absurd hi (tG i),fun d _=>Dv.zero d⟩
 | n+1=>by
   obtain ⟨c,h1,h2⟩:=Pt f n;obtain ⟨g,hg⟩:=CY.zX c (f n);refine ⟨g,fun i hi=> ?_,fun d hd=>hg.top d (h2 d fun i hi=>hd i (by omega)) (hd n (by omega))⟩;by_cases e:i=n
   . rw [e];exact hg.r
   . exact hg.l.trans (h1 i (by omega))
def VS (f:Poly R):∃c,Cont c f:=by
 obtain ⟨n,hn⟩:=f.fin;obtain ⟨c,h1,h2⟩:=Pt f.co n;refine ⟨c,fun i=> ?_,fun d hd=>h2 d fun i _=>hd i⟩;by_cases hi:i<n
 . exact h1 i hi
 . rw [hn i (by omega)];exact Dv.zero c
def Cont.ne {c:R} {f:Poly R}(h:Cont c f) (hf:f≠0):c≠0:=fun e=>hf (ext fun i=>by
 have h1:=h.dv i;rw [e] at h1;exact h1.of0)
def Cont.adN {c:R} {f f':Poly R}(h:Cont c f) (hf:f≠0) (e:f=C c*f'):Prim f':=fun d hd=>by
 have hc:=h.ne hf;have h1:=h.top (c*d) fun i=>by rw [e,kP];exact (Dv.refl c).mul (hd i)
 have h2:Dv (c*d) (c*1):=by rw [aG.mul_one];exact h1
 exact h2.cancel hc
def sj {f:Poly R}(hf:f≠0):∃c f',Cont c f∧c≠0∧f=C c*f'∧Prim f':=by
 obtain ⟨c,hc⟩:=VS f;obtain ⟨f',e⟩:=hc.dv.dv;exact ⟨c,f',hc,hc.ne hf,e,hc.adN hf e⟩
def Prim.cdv {h:Poly R}(hp:Prim h) {c e:R}(hd:yq e (C c*h)):Dv e c:=by
 by_cases hc:c=0
 . rw [hc];exact Dv.zero e
 . obtain ⟨k,hk⟩:=VS (C c*h)
   obtain ⟨m,rfl⟩:=hk.top c (yq.C c h);have h1:=hp m fun i=>by
    have:=hk.dv i;rw [kP] at this;exact this.cancel hc
   have h2:=(hk.top e hd).trans ((Dv.refl c).mul h1);rwa [aG.mul_one] at h2
def IU {N:Nat}(ih:∀f g:Poly R,f.len+g.len<=N->Prim f->Prim g->Prim (f*g)) {f g:Poly R}(hl:f.len+g.len<=N+1) (hf:Prim f) (hg:Prim g) {d e:R}(hd:yq d (f*g)) (h1:Dv e d) (h2:Dv e f.lc):Dv e 1:=by
 obtain ⟨f1,e1,e2⟩:=Rj hf.ne;have hm:yq e (mono (f.len-1) f.lc):=fun i=>by
  rw [dV];split
  . exact h2
  . exact Dv.zero e
 refine hf e ?_;rw [e1];refine hm.add ?_;by_cases h0:f1=0
 . rw [h0];exact fun i=>Dv.zero e
 . obtain ⟨c1,f1',k1,k2,k3,k4⟩:=sj h0
   have zA:f1'.len=f1.len:=by rw [k3,fU k2]
   have hp:=ih f1' g (by omega) k4 hg;have h3:yq e (C c1*(f1'*g)):=by
    rw [<- aG.mul_assoc,<- k3];have h4:f1*g=f*g-mono (f.len-1) f.lc*g:=by
     (have h5:f*g=mono (f.len-1) f.lc*g+f1*g:=by rw [<- add_mul,<- e1]);rw [h5,aG.add_comm,add_sub_cancel]
    rw [h4];exact (hd.trans h1).sub (hm.mulR g)
   have h5:=hp.cdv h3;rw [k3];exact fun i=>by rw [kP];exact h5.mulR _
def SK:∀(N:Nat) (f g:Poly R),f.len+g.len<=N->Prim f->Prim g->Prim (f*g):=by
 intro N;induction N with
 | zero=>
   intro f g hl hf _;have:=cH hf.ne;omega
 | succ N ih=>
   intro f g hl hf hg d hd;obtain ⟨x,hx⟩:=CY.zX d f.lc;have u1:=IU ih hl hf hg hd hx.l hx.r;obtain ⟨y,hy⟩:=CY.zX d g.lc;have u2:=IU (f:=g) (g:=f) (fun a b h p q=>ih a b h p q) (by omega) hg hf (by rw [aG.mul_comm];exact hd) hy.l hy.r;have h1:nL 1 d f.lc:=⟨Dv.one _,Dv.one _,fun e k l=>(hx.top e k l).trans u1⟩;have h2:Dv d (f.lc*g.lc):=by
    rw [<-(lZ hf.ne hg.ne).2];exact hd _
   exact (hy.top d (Dv.refl d) (alc h1 h2)).trans u2
def Prim.mul {f g:Poly R}(hf:Prim f) (hg:Prim g):Prim (f*g):=SK _ f g (Nat.le_refl _) hf hg
def Prim.ofC {d f:Poly R} {c:R}(hd:Prim d) (hc:c≠0) (h:Dv d (C c*f)):Dv d f:=by
 by_cases hf:f=0
 . rw [hf];exact Dv.zero d
 . obtain ⟨g,e⟩:=h
   have hg:g≠0:=fun e0=>yL (CZ hc) hf (by rw [e,e0,aG.mul_zero]);obtain ⟨k,f',_,k2,k3,k4⟩:=sj hf;obtain ⟨x,g',_,x2,x3,x4⟩:=sj hg;have hp:=hd.mul x4;have e2:C (c*k)*f'=C x*(d*g'):=by
    rw [<- mO,aG.mul_assoc,<- k3,e,x3];ac_rfl
   have h1:Dv x (c*k):=k4.cdv (by rw [e2];exact yq.C x _);have h2:Dv (c*k) x:=hp.cdv (by rw [<- e2];exact yq.C _ _);obtain ⟨u,hu⟩:=h1;obtain ⟨v,hv⟩:=h2;have h3:u*v=1:=Dom.cancel x2 (by rw [<- aG.mul_assoc,<- hu,<- hv,aG.mul_one]);have h4:C u*f'=d*g':=Dom.cancel (CZ x2) (by rw [<- aG.mul_assoc,mO,<- hu,e2]);have h5:f'=d*(C v*g'):=by
    (have h6:C v*(C u*f')=f':=by rw [<- aG.mul_assoc,mO,aG.mul_comm v,h3,QX,aG.one_mul]);rw [<- h6,h4];ac_rfl
   rw [k3];exact Dv.mulL ⟨_,h5⟩ _
structure PG (g x y:Poly R):Prop where
 pr:Prim g
 l:Dv g x
 r:Dv g y
 top:∀d,Prim d->Dv d x->Dv d y->Dv d g
def PG.zero {x:Poly R}(hx:Prim x):PG x x 0:=⟨hx,Dv.refl x,Dv.zero x,fun _ _ h _=>h⟩
def PG.step {g x y q r r':Poly R} {l c:R}(hl:l≠0) (hc:c≠0) (e:C l*x=q*y+r) (er:r=C c*r') (h:PG g y r'):PG g x y:=
 ⟨h.pr,h.pr.ofC hl (by rw [e,er];exact (h.l.mulL q).add (h.r.mulL _)),h.l,fun d hd h1 h2=>h.top d hd h2 (hd.ofC hc (by rw [<- er];exact Dv.anC (by rw [<- e];exact h1.mulL _) (h2.mulL q)))⟩
def anv:∀(N:Nat) (x y:Poly R),y.len<=N->Prim x->(y=0∨Prim y)->∃g,PG g x y:=by
 intro N;induction N with
 | zero=>
   intro x y hl hx _;rw [lq.1 (by omega:y.len=0)];exact ⟨x,PG.zero hx⟩
 | succ N ih=>
   intro x y hl hx hy;rcases hy with rfl | hy
   . exact ⟨x,PG.zero hx⟩
   . obtain ⟨k,q,r,h1,h2⟩:=aiL hy.ne x.len x (Nat.le_refl _)
     have Mf:=Dom.RD (E0 hy.ne) k;by_cases h0:r=0
     . obtain ⟨g,hg⟩:=ih y 0 (by rw [fo];omega) hy (.inl rfl)
       exact ⟨g,PG.step Mf Dom.nh h1 (by rw [h0,aG.mul_zero]) hg⟩
     . obtain ⟨c,r',_,k2,k3,k4⟩:=sj h0
       obtain ⟨g,hg⟩:=ih y r' (by (have:r'.len=r.len:=by rw [k3,fU k2]);omega) hy (.inr k4);exact ⟨g,PG.step Mf k2 h1 k3 hg⟩
def Zz {f g f' g' h:Poly R} {a b c:R}(ha:Cont a f) (hb:Cont b g) (hf:f≠0) (hg:g≠0) (ef:f=C a*f') (eg:g=C b*g') (hc:nL c a b) (hp:PG h f' g'):nL (C c*h) f g:=by
 have a0:=ha.ne hf;have b0:=hb.ne hg;have hCd:∀{x y:R},Dv x y->Dv (C x) (C y):=fun {x y} hxy=>by
  obtain ⟨z,rfl⟩:=hxy;exact ⟨C z,(mO x z).symm⟩
 refine ⟨by rw [ef];exact (hCd hc.l).mul hp.l,by rw [eg];exact (hCd hc.r).mul hp.r,fun d h1 h2=> ?_⟩;have hd:d≠0:=fun e=>hf (Dv.of0 (by rw [e] at h1;exact h1));obtain ⟨e,d',k1,k2,k3,k4⟩:=sj hd;have h3:Dv e c:=hc.top e (ha.top e (yq.anB (by rw [k3] at h1;exact (Dv.left _ _).trans h1))) (hb.top e (yq.anB (by rw [k3] at h2;exact (Dv.left _ _).trans h2)));have h4:Dv d' h:=hp.top d' k4 (k4.ofC a0 (by rw [<- ef];rw [k3] at h1;exact (Dv.right _ _).trans h1)) (k4.ofC b0 (by rw [<- eg];rw [k3] at h2;exact (Dv.right _ _).trans h2));rw [k3];exact (hCd h3).mul h4
def BZ {R:Type} [aG R] (a:R):nL a a 0:=⟨Dv.refl a,Dv.zero a,fun _ h _=>h⟩
instance aeD:CY (Poly R) where
 zX f g:=by
  by_cases hf:f=0
  . rw [hf];exact ⟨g,(BZ g).symm⟩
  . by_cases hg:g=0
    . rw [hg];exact ⟨f,BZ f⟩
    . obtain ⟨a,f',a1,a2,a3,a4⟩:=sj hf
      obtain ⟨b,g',b1,b2,b3,b4⟩:=sj hg;obtain ⟨c,hc⟩:=CY.zX a b;obtain ⟨h,hh⟩:=anv g'.len f' g' (Nat.le_refl _) a4 (.inr b4);exact ⟨_,Zz a1 b1 hf hg a3 b3 hc hh⟩
end
end Poly
def nS:Nat->(Nat->Nat)->Nat
 | 0,_=>0
 | n+1,f=>nS n f+f n
def qd {n:Nat} {g:Nat->Nat}(h:∀i,i<n->f i=g i):nS n f=nS n g:=by
 induction n with
 | zero=>rfl
 | succ n ih=>show nS n f+f n=nS n g+g n;rw [ih fun i hi=>h i (by omega),h n (by omega)]
def KX {n:Nat} {g:Nat->Nat}(h:∀i,i<n->f i<=g i):nS n f<=nS n g:=by
 induction n with
 | zero=>exact Nat.le_refl _
 | succ n ih=>have h1:=ih fun i hi=>h i (by omega);have h2:=h n (by omega);show nS n f+f n<=nS n g+g n;omega
def Zb (n:Nat) (f g:Nat->Nat):nS n (fun i=>f i+g i)=nS n f+nS n g:=by
 induction n with
 | zero=>rfl
 | succ n ih=>show nS n (fun i=>f i+g i)+(f n+g n)=nS n f+f n+(nS n g+g n);rw [ih];omega
def MI (n c:Nat) (f:Nat->Nat):nS n (fun i=>c*f i)=c*nS n f:=by
 induction n with
 | zero=>rfl
 | succ n ih=>show nS n (fun i=>c*f i)+c*f n=c*(nS n f+f n);rw [ih,ak]
def aec {n m:Nat} (hm:n<=m) (h:∀i,n<=i->f i=0):nS m f=nS n f:=by
 induction m with
 | zero=>rw [show n=0 by omega]
 | succ m ih=>
   rcases qz m n with hl | hl
   . rw [show n=m+1 by omega]
   . show nS m f+f m=nS n f;rw [ih hl,h m hl];omega
def BI (n c:Nat):nS n (fun _=>c)=n*c:=by
 induction n with
 | zero=>show 0=0*c;rw [zm]
 | succ n ih=>show nS n (fun _=>c)+c=(n+1)*c;rw [ih,bQ,bP]
def aiW {n:Nat} {i:Nat}(hi:i<n):f i<=nS n f:=by
 induction n with
 | zero=>omega
 | succ n ih=>
   show f i<=nS n f+f n;by_cases e:i=n
   . rw [e];omega
   . have:=ih (by omega);omega
def Za (n k:Nat) (f:Nat->Nat) (h:∀i,i<k->f i=0):nS (n+k) f=nS n (fun i=>f (i+k)):=by
 induction n with
 | zero=>
   rw [ct];show nS k f=0;have h1:nS k f=nS k fun _=>0:=qd h;rw [h1,BI,jv]
 | succ n ih=>rw [show n+1+k=(n+k)+1 by omega];show nS (n+k) f+f (n+k)=nS n _+f (n+k);rw [ih]
class aI (R:Type) extends CY R where
 nm:R->Nat
 kF:nm 0=0
 rC:∀a:R,a≠0->0<nm a
 sV:nm 1=1
 nm_add:∀a b:R,nm (a+b)<=nm a+nm b
 zN:∀a:R,nm (-a)=nm a
 mV:∀a b:R,nm (a*b)<=nm a*nm b
 vP:∀(j:Nat) (a:R),nm (nsmul j a)=j*nm a
 dg:(Nat->Nat)->R->Prop
 fQ:∀D,dg D 0
 EA:∀D,dg D 1
 vY:∀D (a b:R),dg D a->dg D b->dg D (a+b)
 EB:∀D (a:R),dg D a->dg D (-a)
 jb:∀D E (a b:R),dg D a->dg E b->dg (fun j=>D j+E j) (a*b)
 jk:∀D E (a:R),(∀j,D j<=E j)->dg D a->dg E a
 Bt:∀D (j:Nat) (a:R),j≠0->dg D (nsmul j a)->dg D a
 uk:(Nat->Nat)->Nat
 ki:∀D,0<uk D
 factor:∀D (f g:R),f≠0->dg D f->Dv g f->dg D g∧nm g<=uk D*nm f
 j6:(Nat->Nat)->Nat
 nN:∀D,0<j6 D
 Mw:∀D E (a:R),dg D a->dg E a->dg (fun j=>min (D j) (E j)) a
 box:∀D X,∃L:List R,L.Pairwise (· ≠ ·)∧L.length=(X+1)^j6 D∧∀a∈L,dg D a∧nm a<=X*j6 D
 VT:∀D Y,∃L:List R,L.length<=(2*Y+1)^j6 D∧∀a,dg D a->nm a<=Y->a∈L
section
variable {R : Type} [aI R]
def Gp (a b:R):aI.nm (a-b)<=aI.nm a+aI.nm b:=by
 rw [sub_def];have h:=aI.nm_add a (-b);rwa [aI.zN] at h
def IX {D:Nat->Nat} {a b:R}(h:aI.dg D a) (k:aI.dg D b):aI.dg D (a-b):=by
 rw [sub_def];exact aI.vY D _ _ h (aI.EB D _ k)
def zY {D:Nat->Nat} {n:Nat} {f:Nat->R}(h:∀i,i<n->aI.dg D (f i)):aI.dg D (sum n f):=by
 induction n with
 | zero=>exact aI.fQ D
 | succ n ih=>rw [eW];exact aI.vY D _ _ (ih fun i hi=>h i (by omega)) (h n (by omega))
def aiV (n:Nat) (f:Nat->R):aI.nm (sum n f)<=nS n fun i=>aI.nm (f i):=by
 induction n with
 | zero=>rw [kO,aI.kF];exact dc _
 | succ n ih=>
   rw [eW];have:=aI.nm_add (sum n f) (f n);show _<=nS n _+aI.nm (f n);omega
def ZK (a:R) (h:1<=aI.nm a):∀n:Nat,aI.nm (a^n)<=aI.nm a^n
 | 0=>by rw [aG.pow_zero,aI.sV,wH];exact Nat.le_refl _
 | n+1=>by
   rw [aG.pow_succ,kR];exact aH (aI.mV _ _) (bI _ (ZK a h n))
def pJ (R:Type) [aG R] (j:Nat):R:=nsmul j 1
def RN (j:Nat):aI.nm (pJ R j)=j:=by
 unfold pJ;rw [aI.vP,aI.sV,bg]
def SV (D:Nat->Nat):∀j:Nat,aI.dg D (pJ R j)
 | 0=>aI.fQ D
 | j+1=>by
   show aI.dg D (nsmul j 1+1);exact aI.vY D _ _ (SV D j) (aI.EA D)
def Ug (j:Nat) (a:R):pJ R j*a=nsmul j a:=(ME j a).symm
def Uh (i j:Nat):pJ R (i+j)=pJ R i+pJ R j:=nsmul_add i j 1
def Pp {i j:Nat}(h:i≠j) (a:R):aI.nm a<=aI.nm ((pJ R i-pJ R j)*a)∧∀D,aI.dg D ((pJ R i-pJ R j)*a)->aI.dg D a:=by
 rcases qz i j with hl | hl
 . obtain ⟨k,rfl⟩:∃k,j=i+(k+1):=⟨j-i-1,by omega⟩
   have e:(pJ R i-pJ R (i+(k+1)))*a= -(nsmul (k+1) a):=by
    rw [Uh,<- Ug,<- aG.neg_mul];congr 1
    rw [sub_def,oF,<- aG.add_assoc,add_neg,aG.zero_add]
   rw [e];refine ⟨?_,fun D hd=> ?_⟩
   . rw [aI.zN,aI.vP];exact iT _ (by omega)
   . have h2:=aI.EB D _ hd
     rw [aG.neg_neg] at h2;exact aI.Bt D _ a (by omega) h2
 . obtain ⟨k,rfl⟩:∃k,i=j+(k+1):=⟨i-j-1,by omega⟩
   have e:(pJ R (j+(k+1))-pJ R j)*a=nsmul (k+1) a:=by
    rw [Uh,<- Ug];congr 1
    rw [aG.add_comm,add_sub_cancel]
   rw [e];exact ⟨by rw [aI.vP];exact iT _ (by omega),fun D hd=>aI.Bt D _ a (by omega) hd⟩
def aiS {i j:Nat}(h:i≠j):pJ R i-pJ R j≠0:=fun e=>by
 have h1:=(Pp (R:=R) h 1).1;rw [e,aG.zero_mul,aI.kF,aI.sV] at h1;omega
end
namespace Poly
section
variable {R : Type} [aI R]
noncomputable def jT (f:Poly R):Nat:=nS f.len fun i=>aI.nm (f.co i)
def jm {f:Poly R} {n:Nat}(h:f.Sh n):jT f=nS n fun i=>aI.nm (f.co i):=
 (aec (bU h) fun i hi=>by rw [az f i hi,aI.kF]).symm
def Am:jT (0:Poly R)=0:=by unfold jT;rw [fo];rfl
def rD (f:Poly R) (i:Nat):aI.nm (f.co i)<=jT f:=by
 rcases qz i f.len with h | h
 . exact aiW (f:=fun i=>aI.nm (f.co i)) h
 . rw [az f i h,aI.kF];exact dc _
def Aq (f g:Poly R):jT (f+g)<=jT f+jT g:=by
 have hf:=(az f).mono (show f.len<=f.len+g.len by omega);have hg:=(az g).mono (show g.len<=f.len+g.len by omega);rw [jm hf,jm hg,jm (hf.add hg),<- Zb];exact KX fun i _=>aI.nm_add _ _
def Ul (f:Poly R):jT (-f)=jT f:=by
 rw [jm (az f).neg,jm (az f)];exact qd fun i _=>aI.zN _
def mI (n:Nat) (c:R) (g:Poly R):jT (mono n c*g)<=aI.nm c*jT g:=by
 have hs:(mono n c*g).Sh (g.len+n):=fun i hi=>by
  rw [jW];split
  . rw [az g _ (by omega),aG.mul_zero]
  . rfl
 rw [jm hs,Za g.len n _ fun i hi=>by rw [jW,af (by omega),aI.kF]];unfold jT;rw [<- MI];exact KX fun i _=>by rw [jW,aM (by omega),vt];exact aI.mV _ _
def Wj {f f1:Poly R} {n:Nat}(hf:f.Sh (n+1)) (h1:f1.Sh n) (e:f=mono n (f.co n)+f1):jT f=aI.nm (f.co n)+jT f1:=by
 rw [jm hf,jm h1];show nS n _+aI.nm (f.co n)=_;rw [xZ];congr 1
 refine qd fun i hi=> ?_;rw [e,pM,dV,af (by omega),aG.zero_add]
def WA (f:Poly R) {n:Nat}(hf:f.Sh (n+1)):∃f1:Poly R,f1.Sh n∧f=mono n (f.co n)+f1:=by
 refine ⟨f-mono n (f.co n),fun i hi=> ?_,by rw [sub_def,add_left_comm,add_neg,aG.add_zero]⟩;rw [oW,dV];by_cases e:i=n
 . rw [aM e,e,sub_self]
 . rw [af e,hf i (by omega),sub_self]
def uD (g:Poly R):∀(n:Nat) (f:Poly R),f.Sh n->jT (f*g)<=jT f*jT g
 | 0,f,h=>by rw [Lp h,aG.zero_mul,Am];exact dc _
 | n+1,f,h=>by
   obtain ⟨f1,h1,e⟩:=WA f h;have ih:=uD g n f1 h1;have h2:=mI n (f.co n) g;have h3:f*g=mono n (f.co n)*g+f1*g:=by rw [<- add_mul,<- e]
   have h4:=Aq (mono n (f.co n)*g) (f1*g);rw [Wj h h1 e,h3,bQ];omega
def Al (j:Nat) (f:Poly R) (i:Nat):(nsmul j f).co i=nsmul j (f.co i):=by
 induction j with
 | zero=>rfl
 | succ j ih=>show (nsmul j f+f).co i=nsmul j (f.co i)+f.co i;rw [pM,ih]
def adY (j:Nat):nsmul j (0:R)=0:=Jj j
def ZN (j:Nat) (f:Poly R):jT (nsmul j f)=j*jT f:=by
 have hs:(nsmul j f).Sh f.len:=fun i hi=>by rw [Al,az f i hi,adY]
 rw [jm hs,jm (az f),<- MI];exact qd fun i _=>by rw [Al,aI.vP]
def mX (D:Nat->Nat) (f:Poly R):Prop:=f.Sh (D 0+1)∧∀i,aI.dg (fun j=>D (j+1)) (f.co i)
def afC {D:Nat->Nat} {f g:Poly R}(h:mX D f) (k:mX D g):mX D (f+g):=⟨h.1.add k.1,fun i=>aI.vY _ _ _ (h.2 i) (k.2 i)⟩
def afz {D:Nat->Nat} {f:Poly R}(h:mX D f):mX D (-f):=⟨h.1.neg,fun i=>aI.EB _ _ (h.2 i)⟩
def afA {D E:Nat->Nat} {f g:Poly R}(h:mX D f) (k:mX E g):mX (fun j=>D j+E j) (f*g):=
 ⟨h.1.mul k.1 (by show D 0+1+(E 0+1)<=D 0+E 0+1+1;omega),fun i=>by
   rw [oZ];exact zY fun k' _=>aI.jb (fun j=>D (j+1)) (fun j=>E (j+1)) _ _ (h.2 _) (k.2 _)⟩
def Pq {D E:Nat->Nat} {f:Poly R}(h:∀j,D j<=E j) (k:mX D f):mX E f:=⟨k.1.mono (by have:=h 0;omega),fun i=>aI.jk _ _ _ (fun j=>h (j+1)) (k.2 i)⟩
def synth (r:R):∀(n:Nat) (g:Poly R),g.Sh (n+1)->∃g1:Poly R,g1.Sh n∧g=C (ev (fun a=>a) g r)+(X R-C r)*g1
 | 0,g,h=>⟨0,LP 0,by
   have e:=afx h;rw [aG.mul_zero,aG.add_zero];conv=>rhs;rw [e,Pj js]
   exact e⟩
 | n+1,g,h=>by
   have hm:(X R-C r)*mono n (g.co (n+1))=mono (n+1) (g.co (n+1))-C r*mono n (g.co (n+1)):=by
    rw [sub_mul];unfold X;rw [Gs,aG.one_mul,xZ 1 n]
   have hs:(g-(X R-C r)*mono n (g.co (n+1))).Sh (n+1):=fun i hi=>by
    rw [hm,oW,oW,dV,kP,dV];by_cases e:i=n+1
    . rw [aM e,af (by omega),e,aG.mul_zero,aG.sub_zero,sub_self]
    . rw [af e,af (by omega),h i (by omega),aG.mul_zero,aG.sub_zero,sub_self]
   obtain ⟨g1,h1,h2⟩:=synth r n _ hs;have hev:ev (fun a=>a) (g-(X R-C r)*mono n (g.co (n+1))) r=ev (fun a=>a) g r:=by
    rw [Mt js,Mu js,Mt js,ala js,Pj js,sub_self,aG.zero_mul,aG.sub_zero]
   rw [hev] at h2;refine ⟨g1+mono n (g.co (n+1)),(h1.mono (by omega)).add fun i hi=>by rw [dV,af (by omega)],?_⟩;rw [aG.mul_add,<- aG.add_assoc,<- h2,sub_add_cancel]
def OE:∀(n:Nat) (f:Poly R),f≠0->f.Sh (n+1)->∀L:List Nat,L.Pairwise (· ≠ ·)->(∀j∈L,ev (fun a=>a) f (pJ R j)=0)->L.length<=n
 | n,f,hf,hs,[],_,_=>dc _
 | 0,f,hf,hs,j::L,_,hL=>by
   exfalso;have h1:=hL j ay;rw [afx hs,Pj js] at h1;exact hf (by rw [afx hs,h1,Ef])
 | n+1,f,hf,hs,j::L,hp,hL=>by
   obtain ⟨h1,h2⟩:=jC.1 hp;obtain ⟨g,k1,k2⟩:=synth (pJ R j) (n+1) f hs;rw [hL j ay,Ef,aG.zero_add] at k2;have hg:g≠0:=fun e=>hf (by rw [k2,e,aG.mul_zero]);have:=OE n g hg k1 L h2 fun i hi=>by
    have h3:=hL i (bn _ hi);rw [k2,Mu js,Mt js,ala js,Pj js] at h3;rcases Dom.nz _ _ h3 with h4 | h4
    . exact absurd h4 (aiS (fun e=>h1 i hi e.symm))
    . exact h4
   show L.length+1<=n+1;omega
def ZJ {f:Poly R} {D:Nat}(hf:f≠0) (hs:f.Sh (D+1)):∃P:List Nat,P.Pairwise (· ≠ ·)∧D+1<=P.length∧∀j∈P,j<=2*D∧ev (fun a=>a) f (pJ R j)≠0:=by
 have hr:(List.range (2*D+1)).Pairwise (· ≠ ·):=List.pairwise_lt_range.imp fun h e=>by omega
 refine ⟨(List.range (2*D+1)).filter fun j=> @decide (ev (fun a=>a) f (pJ R j)≠0) (Classical.propDecidable _),hr.filter _,?_,fun j hj=> ?_⟩
 . have h1:=OE D f hf hs ((List.range (2*D+1)).filter fun j=> !(@decide (ev (fun a=>a) f (pJ R j)≠0) (Classical.propDecidable _))) (hr.filter _) fun j hj=>by
    have h2:=(EN.1 hj).2;refine nw fun h3=> ?_;rw [@decide_eq_true _ (Classical.propDecidable _) h3] at h2;cases h2
   have h2:∀(l:List Nat) (p:Nat->Bool),(l.filter p).length+(l.filter fun x=> !p x).length=l.length:=fun l p=>by
    induction l with
    | nil=>rfl
    | cons x l ih=>cases hx:p x<;>simp [I2,hx]<;>omega
   have h3:=h2 (List.range (2*D+1)) fun j=> @decide (ev (fun a=>a) f (pJ R j)≠0) (Classical.propDecidable _);rw [EM] at h3;omega
 . obtain ⟨h1,h2⟩:=EN.1 hj
   have:=oo.1 h1;exact ⟨by omega,@of_decide_eq_true _ (Classical.propDecidable _) h2⟩
def interp {B V:Nat} {D:Nat->Nat}:∀(m:Nat) (g:Poly R) (V:Nat) (P:List Nat),g.Sh (m+1)->P.Pairwise (· ≠ ·)->m+1<=P.length->(∀j∈P,j<=B∧aI.nm (ev (fun a=>a) g (pJ R j))<=V∧aI.dg D (ev (fun a=>a) g (pJ R j)))->jT g<=V*(m+1)*(2*(B+1))^m∧∀i,aI.dg D (g.co i)
 | _,_,_,[],_,_,hl,_=>absurd hl (by simp)
 | 0,g,V,p::P,hs,hp,hl,hv=>by
   have e:=afx hs;obtain ⟨_,h1,h2⟩:=hv p ay;rw [e,Pj js] at h1 h2;refine ⟨?_,fun i=> ?_⟩
   . rw [jm hs,wH]
     show 0+aI.nm (g.co 0)<=_;omega
   . rw [e,wT]
     split
     . exact h2
     . exact aI.fQ D
 | m+1,g,V,p::P,hs,hp,hl,hv=>by
   obtain ⟨h1,h2⟩:=jC.1 hp;obtain ⟨hpB,hpV,hpD⟩:=hv p ay;obtain ⟨g1,k1,k2⟩:=synth (pJ R p) (m+1) g hs;have ih:=interp (B:=B) (V:=V) (D:=D) m g1 (2*V) P k1 h2 (by simpa using hl) fun j hj=>by
    obtain ⟨hjB,hjV,hjD⟩:=hv j (bn _ hj);have hne:j≠p:=fun e=>h1 j hj e.symm;have e1:(pJ R j-pJ R p)*ev (fun a=>a) g1 (pJ R j)=ev (fun a=>a) g (pJ R j)-ev (fun a=>a) g (pJ R p):=by
     (have e2:ev (fun a=>a) g (pJ R j)=ev (fun a=>a) (C (ev (fun a=>a) g (pJ R p))+(X R-C (pJ R p))*g1) (pJ R j):=by rw [<- k2]);rw [e2,SS js,Pj js,Mu js,Mt js,ala js,Pj js,aG.add_comm,add_sub_cancel]
    obtain ⟨b1,b2⟩:=Pp (R:=R) hne (ev (fun a=>a) g1 (pJ R j));rw [e1] at b1 b2;have h3:=Gp (ev (fun a=>a) g (pJ R j)) (ev (fun a=>a) g (pJ R p));exact ⟨hjB,by omega,b2 D (IX hjD hpD)⟩
   obtain ⟨i1,i2⟩:=ih;have hC:jT (C (ev (fun a=>a) g (pJ R p)))<=V:=by
    rw [jm (Je _)];show 0+aI.nm ((C (ev (fun a=>a) g (pJ R p))).co 0)<=V;rw [wT,aM rfl];omega
   have hX:jT (X R*g1)<=jT g1:=by
    have h3:=mI 1 (1:R) g1;rw [aI.sV,bP] at h3;exact h3
   have hCg:jT (C (pJ R p)*g1)<=p*jT g1:=by
    have h3:=mI 0 (pJ R p) g1;rw [RN] at h3;exact h3
   refine ⟨?_,fun i=> ?_⟩
   . have e3:g=C (ev (fun a=>a) g (pJ R p))+(X R*g1+ -(C (pJ R p)*g1)):=by
      conv=>lhs;rw [k2,sub_mul,sub_def]
     have h3:=Aq (C (ev (fun a=>a) g (pJ R p))) (X R*g1+ -(C (pJ R p)*g1));have h4:=Aq (X R*g1) (-(C (pJ R p)*g1));rw [Ul] at h4;rw [<- e3] at h3;have h5:(p+1)*jT g1<=(B+1)*(2*V*(m+1)*(2*(B+1))^m):=dN (by omega) i1;have e4:(B+1)*(2*V*(m+1)*(2*(B+1))^m)=V*(m+1)*(2*(B+1))^(m+1):=by
      rw [kR];ac_rfl
     have h6:V*1<=V*(2*(B+1))^(m+1):=bl _ (iG (by omega));rw [bQ,bP] at h5;rw [ak V (m+1) 1,bQ,bg V];omega
   . rw [k2,pM,wT,sub_mul,oW,kP]
     have d1:aI.dg D ((X R*g1).co i):=by
      unfold X;rw [jW];split
      . rw [aG.one_mul];exact i2 _
      . exact aI.fQ D
     have d2:aI.dg D (pJ R p*g1.co i):=aI.jk _ _ _ (fun j=>by show 0+D j<=D j;omega) (aI.jb (fun _=>0) D _ _ (SV _ p) (i2 i));refine aI.vY D _ _ ?_ (IX d1 d2);split
     . exact hpD
     . exact aI.fQ D
def aqm {f:Poly R} {D j:Nat}(hs:f.Sh (D+1)) (hj:j<=2*D):aI.nm (ev (fun a=>a) f (pJ R j))<=jT f*(2*D+1)^D:=by
 rw [Br js hs,jm hs,aq,<- MI];unfold YD;refine aH (aiV _ _) (KX fun i hi=> ?_);refine aH (aI.mV _ _) ?_;rw [aq];refine bI _ ?_;by_cases h0:j=0
 . subst h0
   have e:(pJ R 0)^i=if i=0 then 1 else 0:=by
    by_cases uA:i=0
    . rw [aM uA,uA,aG.pow_zero]
    . rw [af uA];exact aG.zero_pow (by omega)
   rw [e];have h1:1<=(2*D+1)^D:=iG (by omega);split
   . rw [aI.sV];exact h1
   . rw [aI.kF];omega
 . refine aH (ZK _ (by rw [RN];omega) i) ?_
   rw [RN];exact aH (zk (show j<=2*D+1 by omega) i) (fM (by omega) (by omega))
def aqn {f:Poly R} {D:Nat->Nat}(h:∀i,aI.dg D (f.co i)) (j:Nat):aI.dg D (ev (fun a=>a) f (pJ R j)):=by
 have avD:∀i:Nat,aI.dg (fun _=>0) ((pJ R j)^i):=fun i=>by
  induction i with
  | zero=>rw [aG.pow_zero];exact aI.EA _
  | succ i ih=>rw [aG.pow_succ];exact aI.jb (fun _=>0) (fun _=>0) _ _ ih (SV _ j)
 exact zY fun i _=>aI.jk _ _ _ (fun k=>by show D k+0<=D k;omega) (aI.jb D (fun _=>0) _ _ (h i) (avD i))
def DR (R:Type) [aI R] (D:Nat->Nat):Nat:=aI.uk R (fun j=>D (j+1))*(2*D 0+1)^D 0*(D 0+1)*(2*(2*D 0+1))^D 0
def Mr {D:Nat->Nat} {f g:Poly R}(hf:f≠0) (hd:mX D f) (hg:Dv g f):mX D g∧jT g<=DR R D*jT f:=by
 have Fx:g.Sh (D 0+1):=(az g).mono (aH (Dv.bU hg hf) (bU hd.1));obtain ⟨P,p1,p2,p3⟩:=ZJ hf hd.1;have h:=interp (B:=2*D 0) (V:=0) (D:=fun j=>D (j+1)) (D 0) g (aI.uk R (fun j=>D (j+1))*(jT f*(2*D 0+1)^D 0)) P Fx p1 p2 fun j hj=>by
  obtain ⟨k1,k2⟩:=p3 j hj;obtain ⟨c,e⟩:=hg;have hdv:Dv (ev (fun a=>a) g (pJ R j)) (ev (fun a=>a) f (pJ R j)):=⟨ev (fun a=>a) c (pJ R j),by rw [e,Mu js]⟩;obtain ⟨m1,m2⟩:=aI.factor (fun j=>D (j+1)) _ _ k2 (aqn hd.2 j) hdv;exact ⟨k1,aH m2 (bl _ (aqm hd.1 k1)),m1⟩
 refine ⟨⟨Fx,h.2⟩,aH h.1 (kQ ?_)⟩;unfold DR;ac_rfl
end
end Poly
def oQ {α:Type}(L:List α):Nat->List (List α)
 | 0=> [[]]
 | k+1=>(oQ L k).flatMap fun l=>L.map fun x=>x::l
def Ph {α β:Type} {f:α->List β}:∀{l:List α},(∀a∈l,(f a).length=c)->(l.flatMap f).length=l.length*c
 | [],_=>by simp
 | a::l,h=>by
   rw [vo,eF,h a ay,Ph fun b hb=>h b (bn _ hb),rI,bQ,bP,xZ]
def qh {α:Type}(L:List α):∀k,(oQ L k).length=L.length^k
 | 0=>rfl
 | k+1=>by
   show ((oQ L k).flatMap _).length=_;rw [Ph (c:=L.length) fun a _=>dW _,qh L k,kR]
def lT {α:Type} {L:List α}:∀{k:Nat} {l:List α},l∈oQ L k->l.length=k∧∀x∈l,x∈L
 | 0,l,h=>by
   rw [en.1 h];exact ⟨rfl,fun x hx=>by cases hx⟩
 | k+1,l,h=>by
   obtain ⟨m,hm,h2⟩:=uR.1 h;obtain ⟨x,hx,rfl⟩:=aj.1 h2;obtain ⟨k1,k2⟩:=lT hm;exact ⟨by rw [rI,k1],fun y hy=>(iV.1 hy).elim (fun e=>by rw [e];exact hx) (k2 y)⟩
def zS {α:Type} {L:List α}:∀{l:List α},(∀x∈l,x∈L)->l∈oQ L l.length
 | [],_=>ay
 | x::l,h=>uR.2 ⟨l,zS fun y hy=>h y (bn _ hy),aj.2 ⟨x,h x ay,rfl⟩⟩
def Pf {α β:Type} {f:α->List β}:∀{l:List α},l.Pairwise (· ≠ ·)->(∀a∈l,(f a).Pairwise (· ≠ ·))->(∀a∈l,∀b∈l,∀x,x∈f a->x∈f b->a=b)->(l.flatMap f).Pairwise (· ≠ ·)
 | [],_,_,_=>List.Pairwise.nil
 | a::l,h,h1,h2=>by
   obtain ⟨k1,k2⟩:=jC.1 h;rw [vo];refine EP.2 ⟨h1 a ay,Pf k2 (fun b hb=>h1 b (bn _ hb)) fun b hb c hc=>h2 b (bn _ hb) c (bn _ hc),fun x hx y hy e=> ?_⟩;obtain ⟨b,hb,hy⟩:=uR.1 hy;subst e;exact k1 b hb (h2 a ay b (bn _ hb) x hx hy)
def xO {α:Type} {L:List α}(h:L.Pairwise (· ≠ ·)):∀k,(oQ L k).Pairwise (· ≠ ·)
 | 0=>EO _ _
 | k+1=>Pf (xO h k) (fun l _=>mZ.2 (h.imp fun hne e=>hne (l6 e).1)) fun a _ b _ x hx hy=>by
   obtain ⟨u,_,rfl⟩:=aj.1 hx;obtain ⟨v,_,e⟩:=aj.1 hy;exact (l6 e).2.symm
instance agG:CY Int where
 nh:=by decide
 nz a b h:=Int.mul_eq_zero.1 h
 zX a b:=by
  refine ⟨(Int.gcd a b:Int),?_,?_,fun d h k=> ?_⟩
  . exact Int.gcd_dvd_left a b
  . exact Int.gcd_dvd_right a b
  . have h1:d∣a:=h
    have h2:d∣b:=k;exact Int.dvd_coe_gcd h1 h2
def Wh (j:Nat) (a:Int):nsmul j a=(j:Int)*a:=by
 induction j with
 | zero=>show (0:Int)=((0:Nat):Int)*a;simp
 | succ j ih=>
   show nsmul j a+a=_;rw [ih];show (j:Int)*a+a=((j+1:Nat):Int)*a;rw [k9,sw];simp
instance Ro:aI Int where
 nm:=Int.natAbs
 kF:=rfl
 rC a h:=Int.natAbs_pos.2 h
 sV:=rfl
 nm_add:=Int.natAbs_add_le
 zN:=TD
 mV a b:=kQ (vn a b)
 vP j a:=by rw [Wh,vn];rfl
 dg _ _:=True
 fQ _:=trivial
 EA _:=trivial
 vY _ _ _ _ _:=trivial
 EB _ _ _:=trivial
 jb _ _ _ _ _ _:=trivial
 jk _ _ _ _ _:=trivial
 Bt _ _ _ _ _:=trivial
 uk _:=1
 ki _:=Nat.one_pos
 factor D f g hf _ hg:=by
  refine ⟨trivial,?_⟩;obtain ⟨c,e⟩:=hg;have e2:f=g*c:=e;have hc:c≠0:=fun e0=>hf (by rw [e2,e0];exact NG g);rw [e2,bP,vn];exact jP _ (Int.natAbs_pos.2 hc)
 j6 _:=1
 nN _:=Nat.one_pos
 Mw _ _ _ _ _:=trivial
 box _ X:=by
  refine ⟨(List.range (X+1)).map fun (i:Nat)=>(i:Int),mZ.2 (List.pairwise_lt_range.imp fun h e=>by omega),by rw [dW,EM,S4],fun a ha=>⟨trivial,?_⟩⟩;obtain ⟨i,hi,rfl⟩:=aj.1 ha;have:=oo.1 hi;show ((i:Int)).natAbs<=_;omega
 VT _ Y:=by
  refine ⟨(List.range (2*Y+1)).map fun (i:Nat)=>(i:Int)-Y,by rw [dW,EM,S4];exact Nat.le_refl _,fun a _ h=>aj.2 ⟨(a+Y).toNat,oo.2 ?_,?_⟩⟩
  . have h2:a.natAbs<=Y:=h
    omega
  . have h2:a.natAbs<=Y:=h
    show ((a+Y).toNat:Int)-Y=a;omega
namespace Poly
section
variable {R : Type} [aI R]
def vC (l:List R):Poly R:=⟨fun i=>l.getD i 0,l.length,fun i hi=>by simp [List.getD,hi]⟩
def zZ {l:List R} {i:Nat}(h:i<l.length):(vC l).co i=l[i]:=by
 show l.getD i 0=_;simp [List.getD,h]
def xJ (l:List R):(vC l).Sh l.length:=fun i hi=>by show l.getD i 0=0;simp [List.getD,hi]
def MD {l m:List R}(hl:l.length=m.length) (h:vC l=vC m):l=m:=
 alG hl fun i h1 h2=>by
  have:=fN (fun q:Poly R=>q.co i) h;rwa [zZ h1,zZ h2] at this
def adr (R:Type) [aI R] (D:Nat->Nat):Nat:=(D 0+1)*aI.j6 R (fun j=>D (j+1))
def aiT {D:Nat->Nat} {l:List R}(hl:l.length=D 0+1) (h:∀a∈l,aI.dg (fun j=>D (j+1)) a):mX D (vC l):=by
 refine ⟨by rw [<- hl];exact xJ l,fun i=> ?_⟩;rcases qz i l.length with hi | hi
 . rw [zZ hi];exact h _ (bw hi)
 . rw [xJ l i hi];exact aI.fQ _
noncomputable instance PI:aI (Poly R) where
 nm:=jT
 kF:=Am
 rC f h:=by
  have h1:=rD f (f.len-1);have h2:=aI.rC _ (vU (cH h));omega
 sV:=by
  rw [jm (f:=(1:Poly R)) (n:=1) (Je 1)];show 0+aI.nm ((1:Poly R).co 0)=1;rw [uM,aM rfl,aI.sV]
 nm_add:=Aq
 zN:=Ul
 mV f g:=uD g f.len f (az f)
 vP:=ZN
 dg:=mX
 fQ D:=⟨LP _,fun _=>aI.fQ _⟩
 EA D:=⟨(Je 1).mono (by omega),fun i=>by
  rw [uM];split
  . exact aI.EA _
  . exact aI.fQ _⟩
 vY D _ _:=afC
 EB D _:=afz
 jb D E _ _:=afA
 jk D E _:=Pq
 Bt D j f hj h:=⟨fun i hi=>by
  have h1:=h.1 i hi;rw [Al] at h1;refine nw fun hne=> ?_;have h2:=aI.rC _ hne;have h3:=aI.vP (R:=R) j (f.co i);rw [h1,aI.kF] at h3;have h4:0<j*aI.nm (f.co i):=iR (by omega) h2;omega,fun i=>by
  have h1:=h.2 i;rw [Al] at h1;exact aI.Bt _ j _ hj h1⟩
 uk:=DR R
 ki D:=iR (iR (iR (aI.ki _) (iG (by omega))) (by omega)) (iG (by omega))
 factor D f g hf hd hg:=Mr hf hd hg
 j6:=adr R
 nN D:=iR (by omega) (aI.nN _)
 Mw D E f h k:=⟨fun i hi=>by
  by_cases h0:D 0<=E 0
  . exact h.1 i (by have:min (D 0) (E 0)=D 0:=pF h0
                    have yh:min (D 0) (E 0)+1<=i:=hi;omega)
  . exact k.1 i (by have:min (D 0) (E 0)=E 0:=Nat.min_eq_right (by omega)
                    have yh:min (D 0) (E 0)+1<=i:=hi;omega),fun i=>aI.Mw _ _ _ (h.2 i) (k.2 i)⟩
 box D X:=by
  obtain ⟨L,l1,l2,l3⟩:=aI.box (R:=R) (fun j=>D (j+1)) X;refine ⟨(oQ L (D 0+1)).map vC,mZ.2 ((xO l1 _).imp_of_mem fun {a b} ha hb hne e=>hne (MD ((lT ha).1.trans (lT hb).1.symm) e)),?_,fun a ha=> ?_⟩
  . rw [dW,qh,l2,<- uT]
    unfold adr;rw [aq (D 0+1)]
  . obtain ⟨l,hl,rfl⟩:=aj.1 ha
    obtain ⟨k1,k2⟩:=lT hl;refine ⟨aiT k1 fun x hx=>(l3 x (k2 x hx)).1,?_⟩;show jT (vC l)<=_;rw [jm (xJ l),k1];refine aH (KX (g:=fun _=>X*aI.j6 R (fun j=>D (j+1))) fun i hi=> ?_) ?_
    . rw [zZ (by omega)]
      exact (l3 _ (k2 _ (bw (by omega)))).2
    . rw [BI]
      unfold adr;exact kQ (by ac_rfl)
 VT D Y:=by
  obtain ⟨L,l1,l2⟩:=aI.VT (R:=R) (fun j=>D (j+1)) Y;refine ⟨(oQ L (D 0+1)).map vC,?_,fun a ha hn=> ?_⟩
  . rw [dW,qh]
    unfold adr;rw [aq (D 0+1),uT];exact zk l1 _
  . have hl:((List.range (D 0+1)).map a.co).length=D 0+1:=by rw [dW,EM]
    have h1:=zS (L:=L) (l:=(List.range (D 0+1)).map a.co) fun x hx=>by
     obtain ⟨i,_,rfl⟩:=aj.1 hx;exact l2 _ (ha.2 i) (aH (rD a i) hn)
    rw [hl] at h1;refine aj.2 ⟨_,h1,ext fun i=> ?_⟩;rcases qz i (D 0+1) with hi | hi
    . rw [zZ (by omega),List.getElem_map,List.getElem_range]
    . rw [xJ _ i (by omega),ha.1 i hi]
end
end Poly
abbrev fE:=List Int
abbrev mj:=fE×Int
abbrev Mv:=List mj
def fD {α:Type}(f:α->Int):List α->Int
 | []=>0
 | a::L=>f a+fD f L
section
variable {α β : Type}
def qP (f:α->Int):∀L M:List α,fD f (L++M)=fD f L+fD f M
 | [],M=>by show fD f M=0+_;omega
 | a::L,M=>by show f a+fD f (L++M)=f a+fD f L+_;rw [qP f L M];omega
def gP {f g:α->Int}:∀{L:List α},(∀a∈L,f a=g a)->fD f L=fD g L
 | [],_=>rfl
 | a::L,h=>by show f a+_=g a+_;rw [h a ay,gP fun b hb=>h b (bn _ hb)]
def rZ:∀L:List α,fD (fun _=>(0:Int)) L=0
 | []=>rfl
 | a::L=>by show 0+fD _ L=0;rw [rZ L];rfl
def N1 (f g:α->Int):∀L:List α,fD (fun a=>f a+g a) L=fD f L+fD g L
 | []=>rfl
 | a::L=>by show f a+g a+fD _ L=f a+_+(g a+_);rw [N1 f g L];omega
def AQ (c:Int) (f:α->Int):∀L:List α,fD (fun a=>c*f a) L=c*fD f L
 | []=>by show 0=c*0;rw [NG]
 | a::L=>by show c*f a+fD _ L=c*(f a+_);rw [AQ c f L,I9]
def WJ (c:Int) (f:α->Int) (L:List α):fD (fun a=>f a*c) L=fD f L*c:=by
 rw [mg,<- AQ];exact gP fun a _=>mg _ _
def xB (g:β->α) (f:α->Int):∀L:List β,fD f (L.map g)=fD (fun b=>f (g b)) L
 | []=>rfl
 | b::L=>by show f (g b)+fD f (L.map g)=_;rw [xB g f L];rfl
def DG (g:β->List α) (f:α->Int):∀L:List β,fD f (L.flatMap g)=fD (fun b=>fD f (g b)) L
 | []=>rfl
 | b::L=>by rw [vo,qP,DG g f L];rfl
def J5 (f:α->β->Int):∀(L:List α) (M:List β),fD (fun a=>fD (f a) M) L=fD (fun b=>fD (fun a=>f a b) L) M
 | [],M=>(rZ M).symm
 | a::L,M=>by
   show fD (f a) M+fD _ L=_;rw [J5 f L M,<- N1];rfl
def WI (f:α->Int) {L M:List α}(h:L.Perm M):fD f L=fD f M:=by
 induction h with
 | nil=>rfl
 | cons a _ ih=>show f a+_=f a+_;rw [ih]
 | swap a b L=>show f b+(f a+_)=f a+(f b+_);omega
 | trans _ _ ih1 ih2=>rw [ih1,ih2]
def J6 [DecidableEq α] {f:α->Int}:∀{L:List α} {a:α},L.Pairwise (· ≠ ·)->a∈L->(∀b∈L,b≠a->f b=0)->fD f L=f a
 | b::L,a,hp,ha,h0=>by
   obtain ⟨h1,h2⟩:=jC.1 hp;show f b+fD f L=f a;rcases iV.1 ha with rfl | ha
   . rw [gP (g:=fun _=>0) fun c hc=>h0 c (bn _ hc) (fun e=>h1 c hc e.symm),rZ];omega
   . rw [h0 b ay (h1 a ha),J6 h2 ha fun c hc=>h0 c (bn _ hc)];omega
end
def iA (L:Mv) (p:fE):Int:=fD (fun t:mj=>if t.1=p then t.2 else 0) L
def jI (L M:Mv) (p:fE):iA (L++M) p=iA L p+iA M p:=qP _ _ _
def av (t:mj) (L:Mv) (p:fE):iA (t::L) p=(if t.1=p then t.2 else 0)+iA L p:=rfl
def rU (p:fE):iA [] p=0:=rfl
def Pv {L M:Mv}(h:L.Perm M) (p:fE):iA L p=iA M p:=WI _ h
def oc {L:Mv} {p:fE}(h:∀t∈L,t.1≠p):iA L p=0:=by
 unfold iA;rw [gP (g:=fun _=>0) fun t ht=>af (h t ht),rZ]
def gD (c:Int) (L:Mv):Mv:=L.map fun t=>(t.1,c*t.2)
def uy (c:Int) (L:Mv) (p:fE):iA (gD c L) p=c*iA L p:=by
 unfold iA gD;rw [xB,<- AQ];refine gP fun t _=> ?_;show (if t.1=p then c*t.2 else 0)=c*(if t.1=p then t.2 else 0);split
 . rfl
 . rw [NG]
def eE (a b:fE):fE:=List.zipWith (· + ·) a b
def YS (a b:fE):fE:=List.zipWith (· - ·) a b
def oI {a b:fE} (ha:a.length=n) (hb:b.length=n):(eE a b).length=n:=by unfold eE;rw [aci];omega
def EG:∀a b:fE,eE a b=eE b a
 | [],b=>by cases b<;>rfl
 | x::a,[]=>rfl
 | x::a,y::b=>by
   show (x+y)::eE a b=(y+x)::eE b a;rw [EG a b,NJ]
def CE:∀{a b p:fE},a.length=b.length->a.length=p.length->(eE a b=p↔a=YS p b)
 | [],[],[],_,_=>⟨fun _=>rfl,fun _=>rfl⟩
 | x::a,y::b,z::p,h1,h2=>by
   have ih:=CE (a:=a) (b:=b) (p:=p) (by simpa using h1) (by simpa using h2);show (x+y)::eE a b=z::p↔x::a=(z-y)::YS p b;constructor
   . intro h
     injection h with h3 h4
     rw [<- ih.1 h4,show x=z-y by omega]
   . intro h
     injection h with h3 h4
     rw [ih.2 h4,show x+y=z by omega]
def mulM (L M:Mv):Mv:=L.flatMap fun a=>M.map fun b=>(eE a.1 b.1,a.2*b.2)
def afH (L M:Mv) (p:fE):iA (mulM L M) p=fD (fun a:mj=>fD (fun b:mj=>if eE a.1 b.1=p then a.2*b.2 else 0) M) L:=by
 unfold iA mulM;rw [DG];exact gP fun a _=>xB _ _ _
def Et (L M N:Mv):mulM (L++M) N=mulM L N++mulM M N:=by unfold mulM;rw [Ed]
def IW {α β:Type} {f g:α->List β}:∀{L:List α},(∀a∈L,f a=g a)->L.flatMap f=L.flatMap g
 | [],_=>rfl
 | a::L,h=>by rw [vo,vo,h a ay,IW fun b hb=>h b (bn _ hb)]
def fI (n:Nat) (L:Mv):Prop:=∀t∈L,t.1.length=n
def fI.append {L M:Mv}(h:fI n L) (k:fI n M):fI n (L++M):=fun t ht=>(gV.1 ht).elim (h t) (k t)
def fI.scale {L:Mv}(h:fI n L) (c:Int):fI n (gD c L):=fun t ht=>by
 obtain ⟨x,hx,rfl⟩:=aj.1 ht;exact h x hx
def fI.mul {L M:Mv}(h:fI n L) (k:fI n M):fI n (mulM L M):=fun t ht=>by
 obtain ⟨a,ha,ht⟩:=uR.1 ht;obtain ⟨b,hb,rfl⟩:=aj.1 ht;exact oI (h a ha) (k b hb)
def jR (n:Nat) (L M:Mv):Prop:=∀p:fE,p.length=n->iA L p=iA M p
section
variable {n : Nat} {L L' M M' N : Mv}
def jR.refl (n:Nat) (L:Mv):jR n L L:=fun _ _=>rfl
def jR.symm (h:jR n L M):jR n M L:=fun p hp=>(h p hp).symm
def jR.trans (h:jR n L M) (k:jR n M N):jR n L N:=fun p hp=>(h p hp).trans (k p hp)
def jR.add (h:jR n L L') (k:jR n M M'):jR n (L++M) (L'++M'):=fun p hp=>by rw [jI,jI,h p hp,k p hp]
def jR.scale (h:jR n L L') (c:Int):jR n (gD c L) (gD c L'):=fun p hp=>by rw [uy,uy,h p hp]
def jR.perm (h:L.Perm M):jR n L M:=fun p _=>Pv h p
def abB (hL:fI n L) (hM:fI n M) {p:fE}(hp:p.length=n):iA (mulM L M) p=fD (fun b:mj=>iA L (YS p b.1)*b.2) M:=by
 rw [afH,J5];refine gP fun b hb=> ?_;unfold iA;rw [<- WJ];refine gP fun a ha=> ?_;have h:=CE (a:=a.1) (b:=b.1) (p:=p) ((hL a ha).trans (hM b hb).symm) ((hL a ha).trans hp.symm);by_cases e:eE a.1 b.1=p
 . rw [aM e,aM (h.1 e)]
 . rw [af e,af (fun e2=>e (h.2 e2)),I5]
end
def jN:fE->fE->Prop
 | x::a,y::b=>x<y∨(x=y∧jN a b)
 | _,_=>False
instance alj:∀a b:fE,Decidable (jN a b)
 | [],_=> .isFalse id
 | _::_,[]=> .isFalse id
 | _x::a,_y::b=> @instDecidableOr _ _ _ (@instDecidableAnd _ _ _ (alj a b))
def jN.irrefl:∀a:fE,¬jN a a
 | [],h=>h
 | x::a,h=>by
   rcases h with h | ⟨_,h⟩
   . omega
   . exact jN.irrefl a h
def jN.trans:∀{a b c:fE},jN a b->jN b c->jN a c
 | x::a,y::b,z::c,h,k=>by
   rcases h with h | ⟨rfl,h⟩
   . rcases k with k | ⟨rfl,k⟩
     . exact .inl (by omega)
     . exact .inl h
   . rcases k with k | ⟨rfl,k⟩
     . exact .inl k
     . exact .inr ⟨rfl,jN.trans h k⟩
def jN.tri:∀{a b:fE},a.length=b.length->jN a b∨a=b∨jN b a
 | [],[],_=> .inr (.inl rfl)
 | x::a,y::b,h=>by
   rcases Vd x y with h1 | rfl | h1
   . exact .inl (.inl h1)
   . rcases jN.tri (a:=a) (b:=b) (by simpa using h) with h2 | rfl | h2
     . exact .inl (.inr ⟨rfl,h2⟩)
     . exact .inr (.inl rfl)
     . exact .inr (.inr (.inr ⟨rfl,h2⟩))
   . exact .inr (.inr (.inl h1))
def jN.add:∀{a b c d:fE},a.length=c.length->b.length=d.length->a.length=b.length->jN a b->(jN c d∨c=d)->jN (eE a c) (eE b d)
 | x::a,y::b,z::c,u::d,h1,h2,h3,h,k=>by
   have ih:=jN.add (a:=a) (b:=b) (c:=c) (d:=d) (by simpa using h1) (by simpa using h2) (by simpa using h3);show x+z<y+u∨(x+z=y+u∧jN (eE a c) (eE b d));rcases k with k | k
   . rcases h with h | ⟨rfl,h⟩<;>rcases k with k | ⟨rfl,k⟩
     . exact .inl (by omega)
     . exact .inl (by omega)
     . exact .inl (by omega)
     . exact .inr ⟨rfl,ih h (.inl k)⟩
   . injection k with k1 k2
     subst k1;rcases h with h | ⟨rfl,h⟩
     . exact .inl (by omega)
     . exact .inr ⟨rfl,ih h (.inr k2)⟩
structure bC (n:Nat) (L:Mv):Prop where
 len:fI n L
 ord:L.Pairwise fun s t=>jN t.1 s.1
 ne:∀t∈L,t.2≠0
section
variable {n : Nat} {L M : Mv}
def bC.nil (n:Nat):bC n []:=⟨fun t h=>(by cases h),List.Pairwise.nil,fun t h=>(by cases h)⟩
def bC.tail {t:mj}(h:bC n (t::L)):bC n L:=⟨fun s hs=>h.len s (bn _ hs),(jC.1 h.ord).2,fun s hs=>h.ne s (bn _ hs)⟩
def bC.qD {t:mj}(h:bC n (t::L)):iA (t::L) t.1=t.2:=by
 rw [av,aM rfl,oc fun s hs e=>jN.irrefl t.1 (by have:=(jC.1 h.ord).1 s hs;rwa [e] at this)];omega
def bC.Pu {t:mj}(h:bC n (t::L)) {p:fE}(hp:jN t.1 p):iA (t::L) p=0:=by
 refine oc fun s hs e=> ?_;subst e;rcases iV.1 hs with rfl | hs
 . exact jN.irrefl _ hp
 . exact jN.irrefl _ (jN.trans hp ((jC.1 h.ord).1 s hs))
def bC.Mz:∀{L:Mv},bC n L->∀t∈L,iA L t.1=t.2
 | s::L,h,t,ht=>by
   rcases iV.1 ht with rfl | ht
   . exact h.qD
   . rw [av,af fun e=>jN.irrefl s.1 (by have:=(jC.1 h.ord).1 t ht;rwa [<- e] at this),h.tail.Mz t ht];omega
def bC.Wv (_h:bC n L) {p:fE}(hp:iA L p≠0):∃t∈L,t.1=p:=by
 by_cases hx:∃t∈L,t.1=p
 . exact hx
 . exact absurd (oc fun t ht e=>hx ⟨t,ht,e⟩) hp
def bC.unique:∀{L M:Mv},bC n L->bC n M->jR n L M->L=M
 | [],[],_,_,_=>rfl
 | [],t::M,_,k,e=>by
   have h:=e t.1 (k.len t ay);rw [k.qD,rU] at h;exact absurd h.symm (k.ne t ay)
 | s::L,[],h,_,e=>by
   have h':=e s.1 (h.len s ay);rw [h.qD,rU] at h';exact absurd h' (h.ne s ay)
 | s::L,t::M,h,k,e=>by
   have e1:s.1=t.1:=by
    rcases jN.tri ((h.len s ay).trans (k.len t ay).symm) with h1 | h1 | h1
    . have h2:=e t.1 (k.len t ay)
      rw [k.qD,h.Pu h1] at h2;exact absurd h2.symm (k.ne t ay)
    . exact h1
    . have h2:=e s.1 (h.len s ay)
      rw [h.qD,k.Pu h1] at h2;exact absurd h2 (h.ne s ay)
   have e2:s.2=t.2:=by
    have h2:=e s.1 (h.len s ay);rw [h.qD,e1,k.qD] at h2;exact h2
   have e3:s=t:=Ve e1 e2;subst e3;rw [bC.unique h.tail k.tail fun p hp=>by have:=e p hp;rw [av,av] at this;omega]
def bC.Oq {s t:mj} {L M N:Mv}(h:bC n (s::L)) (k:bC n (t::M)) (hN:bC n N) (e:jR n N (mulM (s::L) (t::M))):∃N',N=(eE s.1 t.1,s.2*t.2)::N':=by
 have hs:=h.len s ay;have ht:=k.len t ay;have mS:∀a∈s::L,∀b∈t::M,(a=s∧b=t)∨jN (eE a.1 b.1) (eE s.1 t.1):=fun a ha b hb=>by
  have la:=h.len a ha;have lb:=k.len b hb;rcases iV.1 ha with rfl | ha'
  . rcases iV.1 hb with rfl | pL
    . exact .inl ⟨rfl,rfl⟩
    . refine .inr ?_
      rw [EG,EG a.1];exact jN.add (by omega) (by omega) (by omega) ((jC.1 k.ord).1 b pL) (.inr rfl)
  . refine .inr (jN.add (by omega) (by omega) (by omega) ((jC.1 h.ord).1 a ha') ?_)
    rcases iV.1 hb with rfl | pL
    . exact .inr rfl
    . exact .inl ((jC.1 k.ord).1 b pL)
 have th:=oI hs ht;have Kt:iA (mulM (s::L) (t::M)) (eE s.1 t.1)=s.2*t.2:=by
  rw [abB h.len k.len th];show iA (s::L) (YS (eE s.1 t.1) t.1)*t.2+fD _ M=_;have e1:s.1=YS (eE s.1 t.1) t.1:=(CE (by omega) (by omega)).1 rfl;rw [<- e1,h.qD,gP (g:=fun _=>0) fun b hb=> ?_,rZ]
  . omega
  . have lb:=k.len b (bn _ hb)
    rw [oc,I5];intro a ha e2;have la:=h.len a ha;have e3:=(CE (a:=a.1) (b:=b.1) (p:=eE s.1 t.1) (by omega) (by omega)).2 e2;rcases mS a ha b (bn _ hb) with ⟨_,h2⟩ | h2
    . subst h2
      exact jN.irrefl _ ((jC.1 k.ord).1 b hb)
    . rw [e3] at h2;exact jN.irrefl _ h2
 have hne:s.2*t.2≠0:=Int.mul_ne_zero (h.ne s ay) (k.ne t ay);obtain ⟨u,hu,hup⟩:=hN.Wv (p:=eE s.1 t.1) (by rw [e _ th,Kt];exact hne);match N,hN,e,hu with
 | v::N',hN,e,hu=>
   have hv:v.1=eE s.1 t.1:=by
    rcases iV.1 hu with rfl | hu
    . exact hup
    . have h1:=(jC.1 hN.ord).1 u hu
      rw [hup] at h1;exfalso;have h2:=e v.1 (hN.len v ay);rw [hN.qD,oc] at h2
      . exact hN.ne v ay h2
      . intro x hx e3
        obtain ⟨a,ha,hx⟩:=uR.1 hx;obtain ⟨b,hb,rfl⟩:=aj.1 hx;have e4:eE a.1 b.1=v.1:=e3;rcases mS a ha b hb with ⟨rfl,rfl⟩ | h3
        . rw [e4] at h1;exact jN.irrefl _ h1
        . rw [e4] at h3;exact jN.irrefl _ (jN.trans h1 h3)
   have hc:v.2=s.2*t.2:=by
    have h2:=e v.1 (hN.len v ay);rw [hN.qD,hv,Kt] at h2;exact h2
   exact ⟨N',by rw [<- hv,<- hc]⟩
def bC.aeg {N:Mv}(hN:bC n N) (e:jR n N []):N=[]:=hN.unique (bC.nil n) e
end
section
variable {n : Nat} {L M N : Mv}
def SZ {L:Mv} {p:fE}(h:iA L p≠0):∃t∈L,t.1=p:=by
 by_cases hx:∃t∈L,t.1=p
 . exact hx
 . exact absurd (oc fun t ht e=>hx ⟨t,ht,e⟩) h
def bC.from_ (h:bC n L) (e:jR n L M) {t:mj}(ht:t∈L):∃s∈M,s.1=t.1:=by
 refine SZ (L:=M) ?_;rw [<- e t.1 (h.len t ht),h.Mz t ht];exact h.ne t ht
def bC.nodup (h:bC n L):(L.map (·.1)).Pairwise (· ≠ ·):=
 mZ.2 (h.ord.imp fun {s t}(hlt:jN t.1 s.1) (e:s.1=t.1)=>jN.irrefl t.1 (by rw [e] at hlt;exact hlt))
def Gn {α:Type} [DecidableEq α]:∀{l m:List α},l.Pairwise (· ≠ ·)->(∀x∈l,x∈m)->l.length<=m.length
 | [],_,_,_=>dc _
 | x::l,m,h,hs=>by
   obtain ⟨h1,h2⟩:=jC.1 h;have hx:=hs x ay;have h3:=Gn (l:=l) (m:=m.erase x) h2 fun y hy=>by
    have hne:y≠x:=fun e=>h1 y hy e.symm;exact (List.mem_erase_of_ne hne).2 (hs y (bn _ hy))
   have h4:=List.length_erase_of_mem hx;have h5:=List.length_pos_of_mem hx;show l.length+1<=_;omega
def bC.count (h:bC n L) (e:jR n L M):L.length<=M.length:=by
 have h1:=Gn (l:=L.map (·.1)) (m:=M.map (·.1)) h.nodup fun p hp=>by
  obtain ⟨t,ht,rfl⟩:=aj.1 hp;obtain ⟨s,hs,e2⟩:=h.from_ e ht;exact aj.2 ⟨s,hs,e2⟩
 simpa using h1
def bM (L:Mv):Nat:=(L.map fun t=>t.2.natAbs).sum
def M0:∀(L:Mv) (p:fE),(iA L p).natAbs<=bM L
 | [],_=>by show (0:Int).natAbs<=0;omega
 | t::L,p=>by
   have ih:=M0 L p;rw [av];show _<=t.2.natAbs+bM L;split<;>omega
def qy (L M:Mv):bM (L++M)=bM L+bM M:=by unfold bM;rw [jK,List.sum_append]
def CJ {B:Nat}:∀{L:Mv},(∀t∈L,t.2.natAbs<=B)->bM L<=L.length*B
 | [],_=>dc _
 | t::L,h=>by
   have ih:=CJ (L:=L) fun s hs=>h s (bn _ hs);have h1:=h t ay;show t.2.natAbs+bM L<=(L.length+1)*B;rw [bQ,bP];omega
def FN (a:mj):∀M:Mv,bM (M.map fun b=>(eE a.1 b.1,a.2*b.2))=a.2.natAbs*bM M
 | []=>by show 0=_*0;rw [jv]
 | b::M=>by
   show (a.2*b.2).natAbs+bM (M.map _)=a.2.natAbs*(b.2.natAbs+bM M);rw [FN a M,vn,ak]
def QB:∀L M:Mv,bM (mulM L M)=bM L*bM M
 | [],M=>by show 0=0*_;rw [zm]
 | a::L,M=>by
   show bM ((M.map fun b=>(eE a.1 b.1,a.2*b.2))++mulM L M)=(a.2.natAbs+bM L)*bM M;rw [qy,FN,QB L M,bQ]
def bC.small (h:bC n L) (e:jR n L M) {t:mj}(ht:t∈L):t.2.natAbs<=bM M:=by
 rw [<- h.Mz t ht,e t.1 (h.len t ht)];exact M0 M t.1
def Er (L M:Mv):(mulM L M).length=L.length*M.length:=by
 induction L with
 | nil=>show 0=0*_;rw [zm]
 | cons a L ih=>
   show ((M.map fun b=>(eE a.1 b.1,a.2*b.2))++mulM L M).length=_;rw [eF,dW,ih,rI,bQ,bP];omega
def C8 (d:Int) (L:Mv):Prop:=∀t∈L,∀x∈t.1,0<=x∧x<=d
def C8.mono {d e:Int}(h:C8 d L) (hd:d<=e):C8 e L:=fun t ht x hx=>by have:=h t ht x hx;omega
def Ov:∀{a b:fE} {x:Int},x∈eE a b->∃y∈a,∃z∈b,x=y+z
 | [],b,x,h=>by cases b<;>cases h
 | y::a,[],x,h=>by cases h
 | y::a,z::b,x,h=>by
   rcases iV.1 (show x∈(y+z)::eE a b from h) with rfl | h
   . exact ⟨y,ay,z,ay,rfl⟩
   . obtain ⟨u,hu,v,hv,e⟩:=Ov h
     exact ⟨u,bn _ hu,v,bn _ hv,e⟩
def bC.bd {d:Int}(h:bC n L) (e:jR n L M) (hb:C8 d M):C8 d L:=fun t ht x hx=>by
 obtain ⟨s,hs,e2⟩:=h.from_ e ht;exact hb s hs x (by rw [e2];exact hx)
def FY (hl:fI n L) (hd:(L.map (·.1)).Pairwise (· ≠ ·)) (hz:∀t∈L,t.2≠0) (hs:L.Pairwise fun s t=>¬jN s.1 t.1):bC n L:=by
 refine ⟨hl,?_,hz⟩;have Qe:=mZ.1 hd;have h3:L.Pairwise fun s t=>¬jN s.1 t.1∧s.1≠t.1:=by
  clear hl hz hd;induction L with
  | nil=>exact List.Pairwise.nil
  | cons a L ih=>
    obtain ⟨h1,h2⟩:=jC.1 hs;obtain ⟨k1,k2⟩:=jC.1 Qe;exact jC.2 ⟨fun b hb=>⟨h1 b hb,k1 b hb⟩,ih h2 k2⟩
 refine h3.imp_of_mem fun {s t} hs ht ⟨h1,h2⟩=> ?_;rcases jN.tri ((hl s hs).trans (hl t ht).symm) with h | h | h
 . exact absurd h h1
 . exact absurd h h2
 . exact h
end
def mN:∀{L:Mv},(L.map (·.1)).Pairwise (· ≠ ·)->∀t∈L,iA L t.1=t.2
 | s::L,h,t,ht=>by
   obtain ⟨h1,h2⟩:=jC.1 (show (s.1::L.map (·.1)).Pairwise (· ≠ ·) from h);rcases iV.1 ht with rfl | ht
   . rw [av,aM rfl,oc fun u hu e=>h1 u.1 (aj.2 ⟨u,hu,rfl⟩) e.symm];omega
   . rw [av,af fun e=>h1 t.1 (aj.2 ⟨t,ht,rfl⟩) e,mN h2 t ht];omega
def aiO {α β:Type}(f:α->β) {l:List α} {m:List β}(hn:l.Pairwise (· ≠ ·)) (hm:∀x∈l,f x∈m) (hl:m.length<l.length):∃x∈l,∃y∈l,x≠y∧f x=f y:=by
 refine nw fun h=> ?_;have h1:(l.map f).Pairwise (· ≠ ·):=mZ.2 (hn.imp_of_mem fun {x y} hx hy hne e=>h ⟨x,hx,y,hy,hne,e⟩);have h2:=@Gn _ (fun a b=>Classical.propDecidable (a=b)) _ m h1 fun y hy=>by
  obtain ⟨x,hx,rfl⟩:=aj.1 hy;exact hm x hx
 rw [dW] at h2;omega
namespace Poly
section
variable {R : Type} [Dom R] {a b x y u v u' v' : Poly R} {A B D : R}
structure Seq (a b x y u v u' v':Poly R) (A B D:R):Prop where
 hA:A≠0
 hB:B≠0
 hD:D≠0
 ex:C A*x=u*a+v*b
 ey:C B*y=u'*a+v'*b
 det:u*v'-u'*v=C D
 lv:v.len+x.len<=a.len+1
 lv':v'.len+x.len<=a.len+1
def Rg {f g:Poly R}(hf:f≠0):(f*g).len<=f.len+g.len-1:=by
 by_cases hg:g=0
 . rw [hg,aG.mul_zero,fo];omega
 . rw [(lZ hf hg).1];exact Nat.le_refl _
def xQ (f g:Poly R):(f*g).len<=f.len+g.len-1:=by
 by_cases hf:f=0
 . rw [hf,aG.zero_mul,fo];omega
 . exact Rg hf
def HJ (f g:Poly R):(f-g).len<=max f.len g.len:=bU (((az f).mono (by omega)).sub ((az g).mono (by omega)))
def Rh (f g:Poly R):(f+g).len<=max f.len g.len:=bU (((az f).mono (by omega)).add ((az g).mono (by omega)))
def Seq.next {q r:Poly R} {l c:R}(h:Seq a b x y u v u' v' A B D) (hl:l≠0) (hc:c≠0) (e:C l*x=q*y+C c*r) (hq:q.len+y.len<=x.len+1) (hyx:y.len<=x.len):
 Seq a b y r u' v' (C (B*l)*u-C A*(q*u')) (C (B*l)*v-C A*(q*v')) B (A*B*c) (-(B*l*D)):=by
 obtain ⟨hA,hB,hD,ex,ey,det,lv,lv'⟩:=h;have hBl:=Dom.vR hB hl;refine ⟨hB,Dom.vR (Dom.vR hA hB) hc,fun e0=>Dom.vR hBl hD (aG.neg_eq_zero.1 e0),ey,?_,?_,by omega,?_⟩
 . have e1:C (A*B*c)*r=C (B*l)*(C A*x)-C A*(q*(C B*y)):=by
    (have e2:C c*r=C l*x-q*y:=by rw [e,aG.add_comm,add_sub_cancel]);rw [<- mO,aG.mul_assoc,e2,aG.mul_sub,<- mO,<- mO];congr 1<;>ac_rfl
   rw [e1,ex,ey,aG.mul_add,sub_mul,sub_mul,aG.mul_add,aG.mul_add,sub_def,sub_def,sub_def,oF];have k1:C (B*l)*(u*a)=C (B*l)*u*a:=by ac_rfl
   have k2:C (B*l)*(v*b)=C (B*l)*v*b:=by ac_rfl
   have k3:C A*(q*(u'*a))=C A*(q*u')*a:=by ac_rfl
   have k4:C A*(q*(v'*b))=C A*(q*v')*b:=by ac_rfl
   rw [k1,k2,k3,k4];ac_rfl
 . have e3:u'*(C (B*l)*v-C A*(q*v'))-(C (B*l)*u-C A*(q*u'))*v'= -(C (B*l)*(u*v'-u'*v)):=by
    (have k1:u'*(C A*(q*v'))=C A*(q*u')*v':=by ac_rfl);(have k2:u'*(C (B*l)*v)=C (B*l)*(u'*v):=by ac_rfl);(have k3:C (B*l)*u*v'=C (B*l)*(u*v'):=by ac_rfl);rw [aG.mul_sub,sub_mul,aG.mul_sub,k1,k2,k3,aG.neg_sub];generalize C (B*l)*(u'*v)=s;generalize C A*(q*u')*v'=t;generalize C (B*l)*(u*v')=w;have k5:s-t-(w-t)=s-w:=by
     rw [sub_def,sub_def,sub_def,sub_def,oF,aG.neg_neg,aG.add_assoc,aG.add_comm (-w),<- aG.add_assoc (-t),aG.neg_add,aG.zero_add]
    exact k5
   rw [e3,det,mO,asf]
 . have h1:=HJ (C (B*l)*v) (C A*(q*v'))
   have h2:=fU hBl v;have h3:=fU hA (q*v');have h4:=xQ q v';omega
end
section
variable {R : Type} [CY R] {a b x y u v u' v' al be : Poly R} {A B D : R}
def Seq.span (h:Seq a b x y u v u' v' A B D) (hp:Prim y) (hyx:y.len<x.len) (hS:(al*a+be*b).len<x.len) (hb:be.len+x.len<=a.len+1) (h0:al≠0∨be≠0):al*a+be*b≠0∧Dv y (al*a+be*b):=by
 obtain ⟨hA,hB,hD,ex,ey,det,lv,lv'⟩:=h;obtain ⟨S,hSe⟩:∃S,al*a+be*b=S:=⟨_,rfl⟩;rw [hSe] at hS ⊢;have e1:S*v'-C B*y*be=a*(al*v'-u'*be):=by
  rw [<- hSe,ey,add_mul,add_mul,aG.mul_sub];have k1:al*a*v'=a*(al*v'):=by ac_rfl
  have k2:u'*a*be=a*(u'*be):=by ac_rfl
  have k3:be*b*v'=v'*b*be:=by ac_rfl
  rw [k1,k2,k3];generalize a*(al*v')=s;generalize a*(u'*be)=t;generalize v'*b*be=w;rw [sub_def,sub_def,oF,aG.add_assoc,aG.add_comm (-t),<- aG.add_assoc w,aG.add_neg,aG.zero_add]
 have hz:al*v'-u'*be=0:=nw fun hne=>by
  by_cases ha:a=0
  . rw [ha,fo] at lv' hb
    have z1:v'=0:=lq.1 (by omega);have z2:be=0:=lq.1 (by omega);exact hne (by rw [z1,z2,aG.mul_zero,aG.mul_zero,sub_self])
  . have h1:=(lZ ha hne).1
    have h2:=cH hne;have h3:=cH ha;rw [<- e1] at h1;have h4:=HJ (S*v') (C B*y*be);have h5:=xQ S v';have h6:(C B*y*be).len<=y.len+be.len-1:=by
     have:=xQ (C B*y) be;rwa [fU hB] at this
    omega
 have hav:al*v'=u'*be:=sub_eq_zero.1 hz;have s1:S*v'=C B*y*be:=sub_eq_zero.1 (by rw [e1,hz,aG.mul_zero]);have s2:S*u'=C B*y*al:=by
  rw [<- hSe,ey,add_mul,add_mul];have k1:al*a*u'=u'*a*al:=by ac_rfl
  have k2:be*b*u'=b*(u'*be):=by ac_rfl
  have k3:v'*b*al=b*(al*v'):=by ac_rfl
  rw [k1,k2,k3,hav]
 have hBy:C B*y≠0:=yL (CZ hB) hp.ne;refine ⟨fun e=> ?_,?_⟩
 . rw [e,aG.zero_mul] at s1 s2
   rcases h0 with h0 | h0
   . exact yL hBy h0 s2.symm
   . exact yL hBy h0 s1.symm
 . have e3:C D*S=y*(C B*(u*be-al*v)):=by
    have k1:C D*S=u*(S*v')-v*(S*u'):=by
     rw [<- det,sub_mul];congr 1<;>ac_rfl
    rw [k1,s1,s2,aG.mul_sub,aG.mul_sub];congr 1<;>ac_rfl
   exact hp.ofC hD ⟨_,e3⟩
end
section
variable {R : Type} [aI R]
def aiD {a b:Poly R} {lx H X Y:Nat} {D E:Nat->Nat}(h1:1<=lx) (ha:lx<=a.len) (hb:lx<=b.len) (da:∀i,aI.dg D (a.co i)) (db:∀i,aI.dg D (b.co i)) (na:aI.nm a<=H) (nb:aI.nm b<=H)
 (hY:(a.len+b.len-2*lx+2)*(X*aI.j6 R E)*H<=Y) (hc:(2*Y+1)^(aI.j6 R (fun j=>E j+D j)*(a.len+b.len-2*lx+1))<(X+1)^(aI.j6 R E*(a.len+b.len-2*lx+2))):
 ∃al be:Poly R,(al≠0∨be≠0)∧(al*a+be*b).len<lx∧be.len+lx<=a.len+1∧aI.nm (al*a+be*b)<=2*Y∧∀i,aI.dg (fun j=>E j+D j) ((al*a+be*b).co i):=by
 obtain ⟨L,l1,l2,l3⟩:=aI.box (R:=R) E X;obtain ⟨L',m1,m2⟩:=aI.VT (R:=R) (fun j=>E j+D j) Y;obtain ⟨t,ht⟩:∃t,a.len+b.len-2*lx=t:=⟨_,rfl⟩;obtain ⟨p,hp⟩:∃p,b.len+1-lx=p:=⟨_,rfl⟩;rw [ht] at hY hc;have sp:∀l∈oQ L (t+2),(vC (l.take p)).Sh p∧(vC (l.drop p)).Sh (a.len+1-lx)∧aI.nm (vC (l.take p)*a+vC (l.drop p)*b)<=Y∧∀i,aI.dg (fun j=>E j+D j) ((vC (l.take p)*a+vC (l.drop p)*b).co i):=fun l hl=>by
  obtain ⟨k1,k2⟩:=lT hl;have lt:(l.take p).length=p:=by rw [cS];omega
  have ld:(l.drop p).length=a.len+1-lx:=by rw [xh];omega
  have s1:=xJ (l.take p);have s2:=xJ (l.drop p);rw [lt] at s1;rw [ld] at s2;have nmL:∀(m:List R),(∀z∈m,z∈L)->jT (vC m)<=m.length*(X*aI.j6 R E):=fun m hm=>by
   rw [jm (xJ m)];refine aH (KX (g:=fun _=>X*aI.j6 R E) fun i hi=> ?_) (kQ (BI _ _));rw [zZ hi];exact (l3 _ (hm _ (bw hi))).2
  have n1:=nmL (l.take p) fun z hz=>k2 z (uU hz);have n2:=nmL (l.drop p) fun z hz=>k2 z (vh hz);rw [lt] at n1;rw [ld] at n2;have Pr:∀(m:List R),(∀z∈m,z∈L)->∀i,aI.dg E ((vC m).co i):=fun m hm i=>by
   rcases qz i m.length with hi | hi
   . rw [zZ hi];exact (l3 _ (hm _ (bw hi))).1
   . rw [xJ m i hi];exact aI.fQ _
  refine ⟨s1,s2,?_,fun i=> ?_⟩
  . refine aH (aI.nm_add _ _) (aH (I1 (aI.mV _ _) (aI.mV _ _)) (aH (I1 (dN n1 na) (dN n2 nb)) ?_))
    rw [<- bQ,<- bQ];rwa [show p+(a.len+1-lx)=t+2 by omega]
  . rw [pM,oZ,oZ]
    exact aI.vY _ _ _ (zY fun k _=>aI.jb E D _ _ (Pr _ (fun z hz=>k2 z (uU hz)) k) (da _)) (zY fun k _=>aI.jb E D _ _ (Pr _ (fun z hz=>k2 z (vh hz)) k) (db _))
 obtain ⟨l,hl,m,hm,hne,he⟩:=aiO (fun l:List R=>(List.range (t+1)).map fun i=>(vC (l.take p)*a+vC (l.drop p)*b).co (lx-1+i)) (l:=oQ L (t+2)) (m:=oQ L' (t+1)) (xO l1 _) (fun l hl=>by
  obtain ⟨_,_,k3,k4⟩:=sp l hl;have h2:=zS (L:=L') (l:=(List.range (t+1)).map fun i=>(vC (l.take p)*a+vC (l.drop p)*b).co (lx-1+i)) fun z hz=>by
   obtain ⟨i,_,rfl⟩:=aj.1 hz;exact m2 _ (k4 _) (aH (rD _ _) k3)
  rwa [dW,EM] at h2) (by
  rw [qh,qh,l2,<- uT];refine aR (zk m1 _) ?_;rw [<- uT];exact hc)
 obtain ⟨a1,a2,a3,a4⟩:=sp l hl;obtain ⟨b1,b2,b3,b4⟩:=sp m hm;have eS:(vC (l.take p)-vC (m.take p))*a+(vC (l.drop p)-vC (m.drop p))*b=(vC (l.take p)*a+vC (l.drop p)*b)-(vC (m.take p)*a+vC (m.drop p)*b):=by
  rw [sub_mul,sub_mul,sub_def,sub_def,sub_def,oF];ac_rfl
 have kG:=a2.sub b2;have hlen:=bU kG;refine ⟨vC (l.take p)-vC (m.take p),vC (l.drop p)-vC (m.drop p),?_,?_,?_,?_,?_⟩
 . refine nw fun h=>hne ?_
   have k1:=(lT hl).1;have k2:=(lT hm).1;have e1:l.take p=m.take p:=MD (by rw [cS,cS,k1,k2]) (sub_eq_zero.1 (nw fun h2=>h (.inl h2)));have e2:l.drop p=m.drop p:=MD (by rw [xh,xh,k1,k2]) (sub_eq_zero.1 (nw fun h2=>h (.inr h2)));rw [<- CO p l,<- CO p m,e1,e2]
 . have hs:((vC (l.take p)-vC (m.take p))*a+(vC (l.drop p)-vC (m.drop p))*b).Sh (lx-1):=fun i hi=>by
    rcases qz i (lx-1+(t+1)) with h2 | h2
    . rw [eS,oW]
      have h3:(vC (l.take p)*a+vC (l.drop p)*b).co (lx-1+(i-(lx-1)))=(vC (m.take p)*a+vC (m.drop p)*b).co (lx-1+(i-(lx-1))):=List.map_inj_left.1 he (i-(lx-1)) (oo.2 (by omega));rw [show lx-1+(i-(lx-1))=i by omega] at h3;rw [h3,sub_self]
    . exact (((a1.sub b1).mul (az a) (k:=lx-1+(t+1)) (by omega)).add (kG.mul (az b) (by omega))) i h2
   have:=bU hs;omega
 . omega
 . rw [eS]
   refine aH (Gp _ _) ?_;omega
 . intro i
   rw [eS,oW];exact IX (a4 i) (b4 i)
end
end Poly
def lg (n:Nat):Nat:=Nat.log2 n+1
def anL (n:Nat):n<2^lg n:=by
 unfold lg;exact Nat.lt_log2_self
def sA (n:Nat):n<=2^lg n:=nK (anL n)
def jE {k:Nat}(h:a<=2^b):a^k<=2^(b*k):=by
 rw [uT];exact zk h k
def ai {x y:Nat}(h:a<=2^x) (k:b<=2^y):a*b<=2^(x+y):=by
 rw [iH];exact dN h k
def abw {Q M N X Y:Nat}(hX:X=Q^c) (hQ:1<=Q) (hY:2*Y+1<=Q*X) (hN:0<N) (hc:(c+1)*M<=c*N):(2*Y+1)^M<(X+1)^N:=by
 refine aR (zk hY M) ?_;have h1:(Q*X)^M<=X^N:=by
  have e1:Q*X=Q^(c+1):=by rw [hX,kR,aq]
  rw [e1,hX,<- uT,<- uT];exact fM hQ hc
 exact aR h1 (Nat.pow_lt_pow_left (xm X) (by omega))
namespace Poly
section
variable {R : Type} [aI R] {a b x y u v u' v' : Poly R} {A B D : R}
def bZ (d:Nat) (E:Nat->Nat):Nat->Nat
 | 0=>d
 | j+1=>E j
def Seq.small {H X Y:Nat} {Di E:Nat->Nat}(h:Seq a b x y u v u' v' A B D) (hp:Prim y) (hyx:y.len<x.len) (ha:x.len<=a.len) (hb:x.len<=b.len) (da:∀i,aI.dg Di (a.co i)) (db:∀i,aI.dg Di (b.co i)) (na:aI.nm a<=H) (nb:aI.nm b<=H)
 (hY:(a.len+b.len-2*x.len+2)*(X*aI.j6 R E)*H<=Y) (hc:(2*Y+1)^(aI.j6 R (fun j=>E j+Di j)*(a.len+b.len-2*x.len+1))<(X+1)^(aI.j6 R E*(a.len+b.len-2*x.len+2))):
 mX (bZ (x.len-2) fun j=>E j+Di j) y∧jT y<=DR R (bZ (x.len-2) fun j=>E j+Di j)*(2*Y):=by
 have uK:=cH hp.ne;obtain ⟨al,be,k1,k2,k3,k4,k5⟩:=aiD (X:=X) (Y:=Y) (D:=Di) (E:=E) (show 1<=x.len by omega) ha hb da db na nb hY hc;obtain ⟨s1,s2⟩:=h.span hp hyx k2 k3 k1;have hd:mX (bZ (x.len-2) fun j=>E j+Di j) (al*a+be*b):=⟨(az _).mono (by show _<=x.len-2+1;omega),k5⟩;obtain ⟨f1,f2⟩:=Mr s1 hd s2;exact ⟨f1,aH f2 (bl _ k4)⟩
end
end Poly
noncomputable def PnS:Nat->(R:Type)×aI R
 | 0=>⟨Int,Ro⟩
 | n+1=>⟨@Poly (PnS n).1 (PnS n).2.toCY.toDom.toaG,@Poly.PI (PnS n).1 (PnS n).2⟩
def Pn (n:Nat):Type:=(PnS n).1
noncomputable instance auR (n:Nat):aI (Pn n):=(PnS n).2
def X6 (z:Int):Pn 0:=z
def vG (z:Pn 0):Int:=z
def kids (f:Pn (n+1)):Poly (Pn n):=f
def mkK (f:Poly (Pn n)):Pn (n+1):=f
section
variable {n : Nat}
def uE (f:Poly (Pn n)):kids (mkK f)=f:=rfl
def aeo (f:Pn (n+1)):mkK (kids f)=f:=rfl
def Hh (f g:Pn (n+1)):kids (f+g)=kids f+kids g:=rfl
def O8 (f g:Pn (n+1)):kids (f*g)=kids f*kids g:=rfl
def BR (f:Pn (n+1)):kids (-f)= -kids f:=rfl
def Kh:kids (0:Pn (n+1))=0:=rfl
def adz (a b:Pn 0):vG (a+b)=vG a+vG b:=rfl
def UN (a b:Pn 0):vG (a*b)=vG a*vG b:=rfl
def LW (a:Pn 0):vG (-a)= -vG a:=rfl
def jB {f:Pn (n+1)}:(kids f).len=0↔f=0:=Poly.lq (a:=kids f)
def Zv {f g h:Pn (n+1)}:nL f g h↔nL (kids f) (kids g) (kids h):=⟨fun k=>⟨k.l,k.r,k.top⟩,fun k=>⟨k.l,k.r,k.top⟩⟩
def yI (f:Pn (n+1)):aI.nm f=Poly.jT (kids f):=rfl
def aiU (z:Pn 0):aI.nm z=(vG z).natAbs:=rfl
end
namespace Poly
section
variable {R : Type} [CY R] {a b x y e : Poly R}
def lW {f:Poly R}(he:e≠0) (hf:f≠0):(e*f).len=e.len+f.len-1:=(lZ he hf).1
def Dv.Ys {f g:Poly R}(hg:Prim g) (h:Dv f g):Prim f:=fun d hd=>hg d fun i=>by
 obtain ⟨c,rfl⟩:=h;exact hd.mulR c i
def St (e a b x y:Poly R):Prop:=∃(a1 b1:Poly R) (A A' B B':R),x=e*a1∧y=e*b1∧Prim a1∧Prim b1∧A≠0∧A'≠0∧B≠0∧B'≠0∧C A*a1=C A'*a∧C B*b1=C B'*b
def Eu (P:Nat->Poly R->Prop) (e a b x y:Poly R):Prop:=∃(x1 y1 u v u' v':Poly R) (A B D:R),x=e*x1∧y=e*y1∧Seq a b x1 y1 u v u' v' A B D∧Prim x1∧(y1=0∨Prim y1)∧y1.len<x1.len∧x1.len<=a.len∧x1.len<=b.len∧P x1.len x1∧P x1.len y1
structure Kn (P:Nat->Poly R->Prop) (a b:Poly R):Prop where
 ok:∀{x1 y1 u v u' v':Poly R} {A B D:R},Seq a b x1 y1 u v u' v' A B D->Prim y1->y1.len<x1.len->x1.len<=a.len->x1.len<=b.len->P x1.len y1
 zero:∀l,P l 0
 less:∀k l f,l<=k->P k f->P l f
 st:∀f,Prim f->Dv f a∨Dv f b->P (a.len+b.len) f
def aiC {a1 b1:Poly R} {A A' B B':R}(hA:A≠0) (hA':A'≠0) (hB:B≠0) (Ky:B'≠0) (ea:C A*a1=C A'*a) (eb:C B*b1=C B'*b):Seq a b a1 b1 (C A') 0 0 (C B') A B (A'*B'):=by
 have l1:a1.len=a.len:=by rw [<- fU hA a1,ea,fU hA']
 have l2:(C B').len=1:=Ri Ky;exact ⟨hA,hB,Dom.vR hA' Ky,by rw [aG.zero_mul,aG.add_zero,ea],by rw [aG.zero_mul,aG.zero_add,eb],by rw [aG.zero_mul,aG.sub_zero,mO],by rw [fo];omega,by omega⟩
def DI {a1:Poly R} {A A':R}(hA:A≠0) (hA':A'≠0) (ea:C A*a1=C A'*a):a1.len=a.len:=by rw [<- fU hA a1,ea,fU hA']
def N3 {a1:Poly R} {A A':R}(hp:Prim a1) (hA':A'≠0) (ea:C A*a1=C A'*a):Dv a1 a:=hp.ofC hA' (by rw [<- ea];exact Dv.right _ _)
def GZ {x1 y1 q r r':Poly R} {l c:R}(he:Prim e) (hc:c≠0) (eq:C l*(e*x1)=q*(e*y1)+r) (er:r=C c*r'):∃r1,r'=e*r1∧C l*x1=q*y1+C c*r1:=by
 have e1:r=e*(C l*x1-q*y1):=by
  have h1:r=C l*(e*x1)-q*(e*y1):=by rw [eq,aG.add_comm,add_sub_cancel]
  rw [h1,aG.mul_sub];congr 1<;>ac_rfl
 obtain ⟨r1,hr⟩:=he.ofC hc (show Dv e (C c*r') from ⟨_,by rw [<- er,e1]⟩);refine ⟨r1,hr,?_⟩;have h2:e*(C c*r1)=e*(C l*x1-q*y1):=by
  rw [<- e1,er,hr];ac_rfl
 rw [Dom.cancel he.ne h2,aG.add_comm,aG.sub_add_cancel]
variable {P : Nat -> Poly R -> Prop}
def UY {r1 r':Poly R}(h:r'=0∨Prim r') (he:e≠0) (e1:r'=e*r1):r1=0∨Prim r1:=by
 rcases h with h | h
 . rw [h] at e1
   rcases Dom.nz _ _ e1.symm with h2 | h2
   . exact absurd h2 he
   . exact .inl h2
 . exact .inr (Dv.Ys h (by rw [e1];exact Dv.right _ _))
def Eu.next {q r r':Poly R} {l c:R}(hk:Kn P a b) (he:Prim e) (h:Eu P e a b x y) (hy:y≠0) (hl:l≠0) (hc:c≠0) (eq:C l*x=q*y+r) (hr:r.len<y.len) (hq:q=0∨q.len+y.len<=x.len+1) (er:r=C c*r') (hp:r'=0∨Prim r'):Eu P e a b y r':=by
 obtain ⟨x1,y1,u,v,u',v',A,B,D,rfl,rfl,hs,px,py,hlt,ha,hb,p1,p2⟩:=h;obtain ⟨r1,JX,eq1⟩:=GZ he hc eq er;have yg:y1≠0:=fun e0=>hy (by rw [e0,aG.mul_zero]);have py':Prim y1:=py.resolve_left yg;have Bg:x1≠0:=px.ne;have mS:=cH he.ne;have ly:=cH yg;rw [lW he.ne Bg,lW he.ne yg] at hq;have lx1:=cH Bg;have hq:q.len+y1.len<=x1.len+1:=by
  rcases hq with h0 | h0
  . rw [h0,fo];omega
  . omega
 have VF:r1.len<y1.len:=by
  by_cases h0:r1=0
  . rw [h0,fo];exact ly
  . have h1:=lW he.ne h0
    rw [<- JX] at h1;rw [er,fU hc,lW he.ne yg] at hr;have:=cH h0;omega
 have pr:=UY hp he.ne JX;have wO:=hs.next hl hc eq1 (by omega) (nK hlt);have p3:P y1.len r1:=by
  rcases pr with h0 | h0
  . rw [h0];exact hk.zero _
  . exact hk.ok wO h0 VF (by omega) (by omega)
 exact ⟨y1,r1,_,_,_,_,_,_,_,rfl,JX,wO,py',pr,VF,by omega,by omega,hk.less _ _ _ (nK hlt) p2,p3⟩
def St.next {q r r':Poly R} {l c:R}(hk:Kn P a b) (he:Prim e) (h:St e a b x y) (hl:l≠0) (hc:c≠0) (eq:C l*x=q*y+r) (hr:r.len<y.len) (hq:q=0∨q.len+y.len<=x.len+1) (er:r=C c*r') (hp:r'=0∨Prim r'):Eu P e a b y r'∨St e b a y r':=by
 obtain ⟨a1,b1,A,A',B,B',rfl,rfl,pa,pb,hA,hA',hB,Ky,ea,eb⟩:=h;obtain ⟨r1,JX,eq1⟩:=GZ he hc eq er;have l1:=DI hA hA' ea;have l2:=DI hB Ky eb;have mS:=cH he.ne;have la:=cH pa.ne;have lb:=cH pb.ne;have pr:=UY hp he.ne JX;rw [lW he.ne pa.ne,lW he.ne pb.ne] at hq;rcases qz a.len b.len with hlt | wZ
 . right
   have q0:q=0:=hq.elim id fun h=>lq.1 (by omega);rw [q0,aG.zero_mul,aG.zero_add] at eq1;have r0:r1≠0:=fun e0=>by
    rw [e0,aG.mul_zero] at eq1;exact yL (CZ hl) pa.ne eq1
   refine ⟨b1,r1,B,B',A*c,l*A',rfl,JX,pb,pr.resolve_left r0,hB,Ky,Dom.vR hA hc,Dom.vR hl hA',eb,?_⟩;rw [<- mO,aG.mul_assoc,<- eq1,<- mO,aG.mul_assoc,<- ea];ac_rfl
 . left
   have VF:r1.len<b1.len:=by
    by_cases h0:r1=0
    . rw [h0,fo];exact lb
    . have h1:=lW he.ne h0
      rw [<- JX] at h1;rw [er,fU hc,lW he.ne pb.ne] at hr;have:=cH h0;omega
   have wO:=(aiC hA hA' hB Ky ea eb).next hl hc eq1 (by
    rcases hq with h0 | h0
    . rw [h0,fo];omega
    . omega) (by omega)
   have dH:P b1.len b1:=hk.less _ _ _ (by omega) (hk.st b1 pb (.inr (N3 pb Ky eb)));have p3:P b1.len r1:=by
    rcases pr with h0 | h0
    . rw [h0];exact hk.zero _
    . exact hk.ok wO h0 VF (by omega) (by omega)
   exact ⟨b1,r1,_,_,_,_,_,_,_,rfl,JX,wO,pb,pr,VF,by omega,by omega,dH,p3⟩
end
end Poly
namespace Poly
section
variable {R : Type} [aI R] {f q p : Poly R} {D E : Nat -> Nat} {k : Nat}
noncomputable def Jf (q p:Poly R):Poly R:=p*C q.lc-mono (p.len-q.len) p.lc*q
structure RI (f q:Poly R) (D E:Nat->Nat) (k:Nat) (p:Poly R):Prop where
 eq:∃Q,C (q.lc^k)*f=Q*q+p∧(Q=0∨Q.len+q.len<=f.len+1)
 len:p.len+k<=f.len
 rounds:k=0∨k+q.len<=f.len+1
 nm:jT p<=(2*jT q)^k*jT f
 dg:mX (fun j=>D j+k*E j) p
def RI.start (f q:Poly R) (E:Nat->Nat) (h:mX D f):RI f q D E 0 f:=
 ⟨⟨0,by rw [aG.zero_mul,aG.zero_add];rw [aG.pow_zero,QX,aG.one_mul],.inl rfl⟩,Nat.le_refl _,.inl rfl,by show jT f<=1*jT f;rw [bP];exact Nat.le_refl _,Pq (fun j=>by show _<=_+0*_;omega) h⟩
def VU (a:Poly R) (c:R) (i:Nat):(a*C c).co i=a.co i*c:=by rw [aG.mul_comm,kP,aG.mul_comm]
def Uv {n:Nat} {c:R}(h:c≠0):(mono n c).len=n+1:=Dl (fun i hi=>by rw [dV,af (by omega)]) (by rw [dV,aM rfl];exact h)
def yJ (n:Nat) (c:R):jT (mono n c)<=aI.nm c:=by
 have h:=mI n c (1:Poly R);have h1:jT (1:Poly R)=1:=aI.sV (R:=Poly R);rwa [h1,bg,aG.mul_one] at h
def L4 (hq:q≠0) (hp:q.len<=p.len):(Jf q p).Sh (p.len-1):=fun i hi=>by
 have h0:=cH hq;unfold Jf;rw [oW,VU,jW];by_cases e:i=p.len-1
 . rw [aM (by omega),e,show p.len-1-(p.len-q.len)=q.len-1 by omega]
   exact sub_self _
 . rw [az p i (by omega),aG.zero_mul]
   split
   . rw [az q _ (by omega),aG.mul_zero,sub_self]
   . exact sub_self _
def RI.next (h:RI f q D E k p) (hq:q≠0) (dq:mX E q) (hp:q.len<=p.len):RI f q D E (k+1) (Jf q p):=by
 obtain ⟨⟨Q,e1,e2⟩,h2,h3,h4,h5⟩:=h;have h0:=cH hq;have hl:=bU (L4 hq hp);have hp0:p≠0:=fun e=>by rw [e,fo] at hp;omega
 have oL:=Uv (n:=p.len-q.len) (E0 hp0);refine ⟨⟨C q.lc*Q+mono (p.len-q.len) p.lc,?_,.inr ?_⟩,by omega,.inr (by omega),?_,?_,fun i=> ?_⟩
 . have k1:C (q.lc^(k+1))*f=C q.lc*(C (q.lc^k)*f):=by
    have:q.lc^(k+1)=q.lc^k*q.lc:=aG.pow_succ _ _;rw [this,<- mO];ac_rfl
   rw [k1,e1,aG.mul_add,aG.add_mul];unfold Jf;rw [aG.add_assoc,aG.mul_assoc,aG.add_comm (mono (p.len-q.len) p.lc*q),aG.sub_add_cancel,aG.mul_comm p]
 . have k2:=Rh (C q.lc*Q) (mono (p.len-q.len) p.lc)
   rw [fU (E0 hq),oL] at k2;rcases e2 with e2 | e2
   . subst e2;rw [fo] at k2;omega
   . omega
 . have k3:jT (Jf q p)<=2*(jT q*jT p):=by
    unfold Jf;have m1:=Gp (R:=Poly R) (p*C q.lc) (mono (p.len-q.len) p.lc*q);have m2:=uD (C q.lc) _ p (az p);have m3:=mI (p.len-q.len) p.lc q;have m4:jT (C q.lc)<=jT q:=aH (yJ 0 q.lc) (rD q _);have m5:aI.nm p.lc<=jT p:=rD p _;have m6:=aH m2 (bl (jT p) m4);have m7:=aH m3 (bI (jT q) m5);have m8:jT (p*C q.lc-mono (p.len-q.len) p.lc*q)<=jT (p*C q.lc)+jT (mono (p.len-q.len) p.lc*q):=m1;rw [aq (jT q)];omega
   refine aH k3 ?_;rw [kR,show (2*jT q)^k*(2*jT q)*jT f=2*(jT q*((2*jT q)^k*jT f)) by ac_rfl];exact bl _ (bl _ h4)
 . refine (L4 hq hp).mono ?_
   have:=bU h5.1;show _<=D 0+(k+1)*E 0+1;have:D 0+k*E 0<=D 0+(k+1)*E 0:=JG (bI _ (rG k)) _;have h6:=bU h5.1;have h7:p.len<=D 0+k*E 0+1:=h6;omega
 . unfold Jf
   rw [oW,VU,jW];have e3:(fun j=>D (j+1)+(k+1)*E (j+1))=fun j=>(D (j+1)+k*E (j+1))+E (j+1):=funext fun j=>by rw [bQ,bP,j9]
   show aI.dg (fun j=>D (j+1)+(k+1)*E (j+1)) _;rw [e3];refine IX (aI.jb (fun j=>D (j+1)+k*E (j+1)) (fun j=>E (j+1)) _ _ (h5.2 i) (dq.2 _)) ?_;split
   . exact aI.jb (fun j=>D (j+1)+k*E (j+1)) (fun j=>E (j+1)) _ _ (h5.2 _) (dq.2 _)
   . exact aI.fQ _
end
end Poly
def Kz (g:fE->Int):∀(k:Nat) (L:Mv),L.length<=k->fI n L->(∀p,p.length=n->iA L p=0)->fD (fun t:mj=>t.2*g t.1) L=0
 | _,[],_,_,_=>rfl
 | 0,t::L,hk,_,_=>by simp at hk
 | k+1,t::L,hk,hl,h0=>by
   have split:∀M:Mv,fD (fun s:mj=>s.2*g s.1) M=fD (fun s:mj=>s.2*g s.1) (M.filter fun s=>decide (s.1=t.1))+fD (fun s:mj=>s.2*g s.1) (M.filter fun s=> !decide (s.1=t.1)):=fun M=>by
    induction M with
    | nil=>rfl
    | cons a M ih=>
      by_cases e:a.1=t.1
      . rw [xk (by simp [e]),vk (by simp [e])]
        show a.2*g a.1+fD _ M=a.2*g a.1+fD _ _+_;rw [ih];omega
      . rw [vk (by simp [e]),xk (by simp [e])]
        show a.2*g a.1+fD _ M=_+(a.2*g a.1+fD _ _);rw [ih];omega
   have same:∀M:Mv,fD (fun s:mj=>s.2*g s.1) (M.filter fun s=>decide (s.1=t.1))=iA M t.1*g t.1:=fun M=>by
    induction M with
    | nil=>show 0=0*_;rw [I5]
    | cons a M ih=>
      rw [av];by_cases e:a.1=t.1
      . rw [xk (by simp [e]),aM e,sw]
        show a.2*g a.1+fD _ _=_;rw [ih,e]
      . rw [vk (by simp [e]),af e,ih];rw [EU]
   have rest:∀(M:Mv) (p:fE),iA (M.filter fun s=> !decide (s.1=t.1)) p=if p=t.1 then 0 else iA M p:=fun M p=>by
    induction M with
    | nil=>show 0=_;split<;>rfl
    | cons a M ih=>
      by_cases e:a.1=t.1
      . rw [vk (by simp [e]),ih,av]
        by_cases ep:p=t.1
        . rw [aM ep,aM ep]
        . rw [af ep,af ep,af (fun h=>ep (h.symm.trans e))];omega
      . rw [xk (by simp [e]),av,ih,av]
        by_cases ep:p=t.1
        . rw [aM ep,aM ep,af (fun h=>e (h.trans ep))];rfl
        . rw [af ep,af ep]
   rw [split,same,h0 t.1 (hl t ay),I5,EU];refine Kz g k _ ?_ (fun s hs=>hl s (EN.1 hs).1) fun p hp=> ?_
   . have h1:((t::L).filter fun s=> !decide (s.1=t.1))=L.filter fun s=> !decide (s.1=t.1):=vk (by simp)
     rw [h1];have:=NQ (fun s:mj=> !decide (s.1=t.1)) L;simp at hk;omega
   . rw [rest]
     split
     . rfl
     . exact h0 p hp
def afr (g:fE->Int) {L M:Mv}(hL:fI n L) (hM:fI n M) (h:jR n L M):fD (fun t:mj=>t.2*g t.1) L=fD (fun t:mj=>t.2*g t.1) M:=by
 have h1:=Kz (n:=n) g _ (L++gD (-1) M) (Nat.le_refl _) (hL.append (hM.scale _)) fun p hp=>by
  rw [jI,uy,h p hp];omega
 rw [qP] at h1;have h2:fD (fun t:mj=>t.2*g t.1) (gD (-1) M)= -1*fD (fun t:mj=>t.2*g t.1) M:=by
  unfold gD;rw [xB,<- AQ];exact gP fun t _=>FP _ _ _
 rw [h2] at h1;omega
def mapM (f:fE->fE) (g:fE->Int) (L:Mv):Mv:=L.map fun t=>(f t.1,t.2*g t.1)
def mapM_append (f:fE->fE) (g:fE->Int) (L M:Mv):mapM f g (L++M)=mapM f g L++mapM f g M:=jK
def VW (f:fE->fE) (g:fE->Int) (L:Mv) (p:fE):iA (mapM f g L) p=fD (fun t:mj=>t.2*(if f t.1=p then g t.1 else 0)) L:=by
 unfold iA mapM;rw [xB];refine gP fun t _=> ?_;show (if f t.1=p then t.2*g t.1 else 0)=_;split
 . rfl
 . rw [NG]
def aer (f:fE->fE) (g:fE->Int) {L M:Mv}(hL:fI n L) (hM:fI n M) (h:jR n L M):jR n (mapM f g L) (mapM f g M):=fun p _=>by
 rw [VW,VW,afr (fun q=>if f q=p then g q else 0) hL hM h]
def Zm {f:fE->fE} {g:fE->Int} {L:Mv}(h:fI n L) (hf:∀p,p.length=n->(f p).length=n):fI n (mapM f g L):=fun t ht=>by
 obtain ⟨s,hs,rfl⟩:=aj.1 ht;exact hf _ (h s hs)
def uO (L:Mv):Nat:=L.foldl (fun g t=>Nat.gcd g t.2.natAbs) 0
def zB:Mv->Int
 | []=>0
 | t::L=>if t.2<0 then -(uO (t::L):Int) else (uO (t::L):Int)
def QY (L:Mv):Mv:=L.map fun t=>(t.1,t.2 / zB L)
def Xj (L:Mv) (t:mj):uO (L++[t])=Nat.gcd (uO L) t.2.natAbs:=by unfold uO;rw [List.foldl_append];rfl
def zf:∀(L:Mv) (g:Nat),L.foldl (fun g t=>Nat.gcd g t.2.natAbs) g=Nat.gcd g (uO L)
 | [],g=>by show g=Nat.gcd g 0;rw [S6]
 | t::L,g=>by
   show L.foldl _ (Nat.gcd g t.2.natAbs)=Nat.gcd g (L.foldl _ (Nat.gcd 0 t.2.natAbs));rw [zf L,zf L,Nat.gcd_zero_left,Nat.gcd_assoc]
def Xk (t:mj) (L:Mv):uO (t::L)=Nat.gcd t.2.natAbs (uO L):=by
 show L.foldl _ (Nat.gcd 0 t.2.natAbs)=_;rw [zf,Nat.gcd_zero_left]
def Ie:∀{L:Mv} {t:mj},t∈L->uO L∣t.2.natAbs
 | s::L,t,h=>by
   rw [Xk];rcases iV.1 h with rfl | h1
   . exact Nat.gcd_dvd_left _ _
   . exact Nat.dvd_trans (Nat.gcd_dvd_right _ _) (Ie h1)
def abC {t:mj} {L:Mv}(ht:t∈L) (h:t.2≠0):0<uO L:=by
 rcases jJ (uO L) with h0 | h0
 . have:=Ie ht
   rw [h0] at this;have:=Nat.eq_zero_of_zero_dvd this;omega
 . exact h0
def VR (L:Mv):(zB L).natAbs=uO L:=by
 cases L with
 | nil=>rfl
 | cons t L=>
   show (if t.2<0 then -(uO (t::L):Int) else (uO (t::L):Int)).natAbs=_;split
   . rw [TD,EL]
   . rw [EL]
def yR {L:Mv} {t:mj}(ht:t∈L):t.2 % zB L=0:=by
 have h:=Ie ht;rw [<- VR] at h;exact Int.emod_eq_zero_of_dvd (acd.1 h)
section
variable {n : Nat} {A B N : Mv}
def YX (L:Mv):gD (zB L) (QY L)=L:=by
 unfold gD QY;rw [jw];conv=>rhs;rw [<- List.map_id L]
 refine ER fun t ht=> ?_;have h:=uS t.2 (zB L);rw [yR ht] at h;show (t.1,zB L*(t.2 / zB L))=t;rw [show zB L*(t.2 / zB L)=t.2 by omega]
def OQ {L:Mv}(h:bC n L):bC n (QY L):=
 ⟨fun t ht=>by
   obtain ⟨s,hs,rfl⟩:=aj.1 ht;exact h.len s hs,by
   unfold QY;rw [mZ];exact h.ord,fun t ht=>by
   obtain ⟨s,hs,rfl⟩:=aj.1 ht;intro e;have e2:s.2 / zB L=0:=e;have e1:=uS s.2 (zB L);rw [e2,yR hs] at e1;exact h.ne s hs (by omega)⟩
end
namespace Poly
section
variable {R : Type} [CY R] {P : Nat -> Poly R -> Prop} {e a b F G x y : Poly R}
def Cont.assoc {c c':R} {f:Poly R}(h:Cont c f) (k:Cont c' f):Dv c c':=k.top c h.dv
def nL.assoc {R:Type} [aG R] {h c d c' d':R}(hg:nL h c d) (h1:Dv c c') (h2:Dv c' c) (h3:Dv d d') (h4:Dv d' d):nL h c' d':=⟨hg.l.trans h1,hg.r.trans h3,fun k k1 k2=>hg.top k (k1.trans h2) (k2.trans h4)⟩
structure Inv (P:Nat->Poly R->Prop) (e a b F G x y:Poly R):Prop where
 seq:St e a b x y∨St e b a x y∨Eu P e a b x y∨Eu P e b a x y
 px:Prim x
 py:y=0∨Prim y
 gc:∀g c d h,PG g x y->Cont c F->Cont d G->nL h c d->nL (C h*g) F G
def Inv.start {q:Poly R} {cq c d:R}(hF:F≠0) (hG:G≠0) (he:Prim e) (hcq:cq≠0) (eq:q=C cq*e) (ea:F=q*a) (eb:G=q*b) (hc:Cont c F) (hd:Cont d G) (ex:F=C c*x) (ey:G=C d*y):Inv P e a b F G x y:=by
 have hc0:=hc.ne hF;have uw:=hd.ne hG;have px:=hc.adN hF ex;have py:=hd.adN hG ey;have key:∀{c:R} {f x a:Poly R},c≠0->Prim x->f=q*a->f=C c*x->∃a1,x=e*a1∧Prim a1∧C c*a1=C cq*a:=fun {c f x a} h0 hp e1 e2=>by
  obtain ⟨a1,h1⟩:=he.ofC h0 (show Dv e (C c*x) from ⟨C cq*a,by rw [<- e2,e1,eq];ac_rfl⟩);refine ⟨a1,h1,Dv.Ys hp ⟨e,by rw [h1,aG.mul_comm]⟩,Dom.cancel he.ne ?_⟩;have h2:C c*x=q*a:=e2.symm.trans e1;rw [h1,eq] at h2;have h3:e*(C c*a1)=C c*(e*a1):=by ac_rfl
  have h4:e*(C cq*a)=C cq*e*a:=by ac_rfl
  rw [h3,h4,h2]
 obtain ⟨a1,h1,h2,h3⟩:=key hc0 px ea ex;obtain ⟨b1,k1,k2,k3⟩:=key uw py eb ey;refine ⟨.inl ⟨a1,b1,c,cq,d,cq,h1,k1,h2,k2,hc0,hcq,uw,hcq,h3,k3⟩,px,.inr py,fun g c' d' h hg hc' Qe hh=> ?_⟩;exact Zz hc hd hF hG ex ey (nL.assoc hh (Cont.assoc hc' hc) (Cont.assoc hc hc') (Cont.assoc Qe hd) (Cont.assoc hd Qe)) hg
def Inv.next {q r r':Poly R} {l c:R}(hk:Kn P a b) (F3:Kn P b a) (he:Prim e) (h:Inv P e a b F G x y) (hy:y≠0) (hl:l≠0) (hc:c≠0) (eq:C l*x=q*y+r) (hr:r.len<y.len) (hq:q=0∨q.len+y.len<=x.len+1) (er:r=C c*r') (hp:r'=0∨Prim r'):Inv P e a b F G y r':=by
 refine ⟨?_,h.py.resolve_left hy,hp,fun g c' d' h' hg=>h.gc g c' d' h' (PG.step hl hc eq er hg)⟩;rcases h.seq with h1 | h1 | h1 | h1
 . rcases h1.next hk he hl hc eq hr hq er hp with h2 | h2
   . exact .inr (.inr (.inl h2))
   . exact .inr (.inl h2)
 . rcases h1.next F3 he hl hc eq hr hq er hp with h2 | h2
   . exact .inr (.inr (.inr h2))
   . exact .inl h2
 . exact .inr (.inr (.inl (h1.next hk he hy hl hc eq hr hq er hp)))
 . exact .inr (.inr (.inr (h1.next F3 he hy hl hc eq hr hq er hp)))
def Inv.done {c d h:R}(hi:Inv P e a b F G x 0) (hc:Cont c F) (hd:Cont d G) (hh:nL h c d):nL (C h*x) F G:=hi.gc x c d h (PG.zero hi.px) hc hd hh
def Inv.known (hk:Kn P a b) (h:Inv P e a b F G x y):∃(l:Nat) (x1 y1:Poly R),x=e*x1∧y=e*y1∧x1≠0∧P l x1∧P l y1∧((x1.len=l∧y1.len<l∧l<=min a.len b.len)∨(l=a.len+b.len∧((x1.len=a.len∧y1.len=b.len)∨(x1.len=b.len∧y1.len=a.len)))):=by
 rcases h.seq with h1 | h1 | h1 | h1
 . obtain ⟨a1,b1,A,A',B,B',e1,e2,p1,p2,n1,n2,n3,n4,q1,q2⟩:=h1
   exact ⟨a.len+b.len,a1,b1,e1,e2,p1.ne,hk.st a1 p1 (.inl (N3 p1 n2 q1)),hk.st b1 p2 (.inr (N3 p2 n4 q2)),.inr ⟨rfl,.inl ⟨DI n1 n2 q1,DI n3 n4 q2⟩⟩⟩
 . obtain ⟨a1,b1,A,A',B,B',e1,e2,p1,p2,n1,n2,n3,n4,q1,q2⟩:=h1
   exact ⟨a.len+b.len,a1,b1,e1,e2,p1.ne,hk.st a1 p1 (.inr (N3 p1 n2 q1)),hk.st b1 p2 (.inl (N3 p2 n4 q2)),.inr ⟨rfl,.inr ⟨DI n1 n2 q1,DI n3 n4 q2⟩⟩⟩
 . obtain ⟨x1,y1,u,v,u',v',A,B,D,e1,e2,_,p1,_,hlt,ha,hb,q1,q2⟩:=h1
   exact ⟨x1.len,x1,y1,e1,e2,p1.ne,q1,q2,.inl ⟨rfl,hlt,by omega⟩⟩
 . obtain ⟨x1,y1,u,v,u',v',A,B,D,e1,e2,_,p1,_,hlt,ha,hb,q1,q2⟩:=h1
   exact ⟨x1.len,x1,y1,e1,e2,p1.ne,q1,q2,.inl ⟨rfl,hlt,by omega⟩⟩
end
end Poly
namespace Poly
section
variable {R : Type} [aI R] {a b x y u v u' v' : Poly R} {A B D : R}
def wU (t V H c:Nat):Nat:=(t+2)*(((2*(t+2)*V*H+1)^c)*V)*H
def alr {t V V' H c:Nat}(hV:0<V) (hc:(c+1)*(V'*(t+1))<=c*(V*(t+2))):(2*wU t V H c+1)^(V'*(t+1))<((2*(t+2)*V*H+1)^c+1)^(V*(t+2)):=by
 refine abw (Q:=2*(t+2)*V*H+1) rfl (by omega) ?_ (iR hV (by omega)) hc;have h1:1<=(2*(t+2)*V*H+1)^c:=iG (by omega);unfold wU;have h3:(2*(t+2)*V*H+1)*(2*(t+2)*V*H+1)^c=2*(t+2)*V*H*(2*(t+2)*V*H+1)^c+(2*(t+2)*V*H+1)^c:=by rw [bQ (2*(t+2)*V*H) 1,bP]
 have h2:2*((t+2)*((2*(t+2)*V*H+1)^c*V)*H)=2*(t+2)*V*H*(2*(t+2)*V*H+1)^c:=by ac_rfl
 omega
def Seq.cap {H c:Nat} {Di E:Nat->Nat}(h:Seq a b x y u v u' v' A B D) (hp:Prim y) (hyx:y.len<x.len) (ha:x.len<=a.len) (hb:x.len<=b.len) (da:∀i,aI.dg Di (a.co i)) (db:∀i,aI.dg Di (b.co i)) (na:aI.nm a<=H) (nb:aI.nm b<=H)
 (hc:(c+1)*(aI.j6 R (fun j=>E j+Di j)*(a.len+b.len-2*x.len+1))<=c*(aI.j6 R E*(a.len+b.len-2*x.len+2))):
 (∀i,aI.dg (fun j=>E j+Di j) (y.co i))∧jT y<=DR R (bZ (x.len-2) fun j=>E j+Di j)*(2*wU (a.len+b.len-2*x.len) (aI.j6 R E) H c):=by
 obtain ⟨h1,h2⟩:=h.small (X:=(2*(a.len+b.len-2*x.len+2)*aI.j6 R E*H+1)^c) (Y:=wU (a.len+b.len-2*x.len) (aI.j6 R E) H c) (E:=E) hp hyx ha hb da db na nb (Nat.le_refl _) (alr (aI.nN E) hc);exact ⟨h1.2,h2⟩
end
end Poly
namespace Poly
section
variable {R : Type} [aI R] {a b : Poly R}
def PB (Dm:Nat->Nat->Nat) (M:Nat->Nat) (l:Nat) (f:Poly R):Prop:=(∀i,aI.dg (Dm l) (f.co i))∧jT f<=M l
def JW (R:Type) [aI R] (Di E:Nat->Nat) (t c:Nat):Prop:=(c+1)*(aI.j6 R (fun j=>E j+Di j)*(t+1))<=c*(aI.j6 R E*(t+2))
structure Lad (R:Type) [aI R] (la lb H:Nat) (Di:Nat->Nat) (Dm:Nat->Nat->Nat) (M:Nat->Nat):Prop where
 cap:∀l,l<=min la lb->∃E c,JW R Di E (la+lb-2*l) c∧DR R (bZ (l-2) fun j=>E j+Di j)*(2*wU (la+lb-2*l) (aI.j6 R E) H c)<=M l
 deg:∀l,l<=min la lb->∃E1 c1 E2 c2,JW R Di E1 (la+lb-2*l) c1∧JW R Di E2 (la+lb-2*l) c2∧∀j,min (E1 j+Di j) (E2 j+Di j)<=Dm l j
 less:∀k l,l<=k->M k<=M l∧∀j,Dm k j<=Dm l j
 stM:DR R (bZ (max la lb-1) Di)*H<=M (la+lb)
 stD:∀j,Di j<=Dm (la+lb) j
def Lad.symm {la lb H:Nat} {Di:Nat->Nat} {Dm:Nat->Nat->Nat} {M:Nat->Nat}(h:Lad R la lb H Di Dm M):Lad R lb la H Di Dm M:=by
 have e2:max lb la=max la lb:=Nat.max_comm _ _;have e3:lb+la=la+lb:=xZ _ _;exact ⟨fun l hl=>by rw [e3];exact h.cap l (by omega),fun l hl=>by rw [e3];exact h.deg l (by omega),h.less,by rw [e3,e2];exact h.stM,by rw [e3];exact h.stD⟩
def Lad.kn {H:Nat} {Di:Nat->Nat} {Dm:Nat->Nat->Nat} {M:Nat->Nat}(h:Lad R a.len b.len H Di Dm M) (VM:a≠0) (ox:b≠0) (da:∀i,aI.dg Di (a.co i)) (db:∀i,aI.dg Di (b.co i)) (na:aI.nm a<=H) (nb:aI.nm b<=H):Kn (PB Dm M) a b:=by
 refine ⟨fun {x1 y1 u v u' v' A B D} hs hp hlt h1 h2=> ?_,fun l=>⟨fun i=>aI.fQ _,by rw [Am];exact dc _⟩,fun k l f hl hf=>⟨fun i=>aI.jk _ _ _ (h.less k l hl).2 (hf.1 i),aH hf.2 (h.less k l hl).1⟩,fun f hp hd=> ?_⟩
 . have hm:x1.len<=min a.len b.len:=by omega
   obtain ⟨E,c,c1,c2⟩:=h.cap x1.len hm;obtain ⟨E1,k1,E2,k2,d1,d2,d3⟩:=h.deg x1.len hm;have s0:=hs.cap hp hlt h1 h2 da db na nb c1;have s1:=hs.cap hp hlt h1 h2 da db na nb d1;have s2:=hs.cap hp hlt h1 h2 da db na nb d2;exact ⟨fun i=>aI.jk _ _ _ d3 (aI.Mw _ _ _ (s1.1 i) (s2.1 i)),aH s0.2 c2⟩
 . have key:∀g:Poly R,g≠0->g.len<=max a.len b.len->(∀i,aI.dg Di (g.co i))->aI.nm g<=H->Dv f g->PB Dm M (a.len+b.len) f:=fun g g0 hl dg' ng hfg=>by
    have Qe:mX (bZ (max a.len b.len-1) Di) g:=⟨(az g).mono (by show g.len<=max a.len b.len-1+1;omega),dg'⟩;obtain ⟨f1,f2⟩:=Mr g0 Qe hfg;exact ⟨fun i=>aI.jk _ _ _ h.stD (f1.2 i),aH f2 (aH (bl _ ng) h.stM)⟩
   rcases hd with hd | hd
   . exact key a VM (by omega) da na hd
   . exact key b ox (by omega) db nb hd
end
end Poly
open Poly
def yf (d:Nat):Nat:=1*(2*d+1)^d*(d+1)*(2*(2*d+1))^d
def Ud (d:Nat) (E:Nat->Nat):DR (Pn 0) (bZ d E)=yf d:=rfl
def mH {m:Nat}(h:a<=b) (k:m<=n) (h0:0<b):a^m<=b^n:=aH (zk h m) (fM h0 k)
def uj (h:d<=e):yf d<=yf e:=by
 unfold yf;exact dN (dN (bl 1 (mH (by omega) h (by omega))) (by omega)) (mH (by omega) h (by omega))
def ZE (d:Nat):0<yf d:=by
 unfold yf;exact iR (iR (iR Nat.one_pos (iG (by omega))) (by omega)) (iG (by omega))
def M6 (t H:Nat):Nat:=wU t 1 H (t+1)
def Xo {s:Nat}(h:t<=s):M6 t H<=M6 s H:=by
 unfold M6 wU;refine bI _ (dN (by omega) (bI _ (mH (abZ (bI _ (bI _ (bl _ (by omega)))) _) (by omega) (by omega))))
def afN (t H:Nat):H<=M6 t H:=by
 unfold M6 wU;refine iT _ (iR (by omega) (iR (iG (by omega)) Nat.one_pos))
def M1 (la lb H L l:Nat):Nat:=yf L*(2*M6 (la+lb-2*l) H)
def auN (Di:Nat->Nat) (hL:max la lb<=L+1):Lad (Pn 0) la lb H Di (fun _ j=>Di j) (M1 la lb H L):=by
 have cc:∀t,JW (Pn 0) Di (fun _=>0) t (t+1):=fun t=>by
  show (t+1+1)*(1*(t+1))<=(t+1)*(1*(t+2));rw [bP,bP,aq];exact Nat.le_refl _
 refine ⟨fun l hl=>⟨fun _=>0,_,cc _,?_⟩,fun l hl=>⟨fun _=>0,_,fun _=>0,_,cc _,cc _,fun j=>by show min (0+Di j) (0+Di j)<=Di j;omega⟩,fun k l D7=>⟨?_,fun j=>Nat.le_refl _⟩,?_,fun j=>Nat.le_refl _⟩
 . rw [Ud]
   exact bI _ (uj (by omega))
 . exact bl _ (bl _ (Xo (by omega)))
 . rw [Ud]
   refine dN (uj (by omega)) (aH (afN _ H) (iT _ (by omega)))
def ZM {c:Pn 0} {r z:Poly (Pn 0)}(h:r=C c*z):aI.nm c*jT z=jT r:=by
 by_cases hc:c=0
 . rw [h,hc,Ef,aG.zero_mul,Am,aI.kF,zm]
 . have hl:(C c*z).len=z.len:=fU hc z
   rw [h];unfold jT;rw [hl,<- MI];refine qd fun i _=> ?_;rw [kP];exact (vn (c:Int) (z.co i:Int)).symm
def Vq (si:la<=L+1) (wF:lb<=L+1) (hg:4*L+8<=2^g) (hH:H<=2^h):M1 la lb H L l<=2^(g*(2*L+1)+1+(g+h+2)*(la+lb-2*l+2)):=by
 obtain ⟨t,ht⟩:∃t,la+lb-2*l=t:=⟨_,rfl⟩;have htL:t+2<=2^g:=by omega
 unfold M1;rw [ht];have p1:yf L<=2^(g*(2*L+1)):=by
  unfold yf;have a1:(2*L+1)^L<=2^(g*L):=jE (by omega);have a2:(2*(2*L+1))^L<=2^(g*L):=jE (by omega);have a3:L+1<=2^g:=by omega
  have:=ai (ai a1 a3) a2;rw [bP];refine aH this (kQ ?_);congr 1
  rw [ak,bg,om g 2 L];omega
 have q1:2*(t+2)*1*H+1<=2^(g+h+2):=by
  have b1:(t+2)*H<=2^(g+h):=ai htL hH;have b2:2*(t+2)*1*H=2*((t+2)*H):=by rw [bg,cn]
  have b3:1<=2^(g+h):=iG (by omega);rw [b2,show 2^(g+h+2)=4*2^(g+h) by rw [iH];omega];omega
 have c1:M6 t H<=2^((g+h+2)*(t+2)):=by
  unfold M6 wU;rw [bg ((2*(t+2)*1*H+1)^(t+1))];have d1:=ai (ai htL (jE (k:=t+1) q1)) hH;refine aH d1 (fM (by omega) ?_);rw [show (g+h+2)*(t+2)=(g+h+2)*(t+1)+(g+h+2) by rw [show t+2=t+1+1 by omega,ak (g+h+2) (t+1),bg]];omega
 have:=ai p1 (ai (show 2<=2^1 by decide) c1);refine aH this (kQ ?_);congr 1
 omega
def Aj (d:Nat):Nat->Nat:=bZ d fun _=>0
def Ob (d e j:Nat):Aj d j+Aj e j=Aj (d+e) j:=by
 cases j<;>rfl
def aui (E:Nat->Nat):aI.j6 (Pn 1) E=(E 0+1)*1:=rfl
def Uc (E:Nat->Nat):aI.uk (Pn 1) E=yf (E 0):=rfl
def xH (L e:Nat):Nat:=yf e*(2*L+1)^L*(L+1)*(2*(2*L+1))^L
def MA (L:Nat) (E:Nat->Nat):DR (Pn 1) (bZ L E)=xH L (E 0):=rfl
def rq (h:L<=L') (k:e<=e'):xH L e<=xH L' e':=by
 unfold xH;exact dN (dN (dN (uj k) (mH (by omega) h (by omega))) (by omega)) (mH (by omega) h (by omega))
def ZC (L e:Nat):0<xH L e:=by
 unfold xH;exact iR (iR (iR (ZE e) (iG (by omega))) (by omega)) (iG (by omega))
def K7 {V' c':Nat}(h:t<=t') (k:V<=V') (m:c<=c'):wU t V H c<=wU t' V' H c':=by
 unfold wU;exact bI _ (dN (by omega) (dN (mH (abZ (bI _ (dN (bl _ (by omega)) k)) _) m (by omega)) k))
def M5 (t H c:Nat) (hV:0<V):H<=wU t V H c:=by
 unfold wU;exact iT _ (iR (by omega) (iR (iG (by omega)) hV))
def c5 (t:Nat):Nat:=(5*(t+1)+4) / 4
def aqB (d t:Nat):JW (Pn 1) (Aj d) (Aj (5*(t+1)*d)) t (c5 t):=by
 show (c5 t+1)*((5*(t+1)*d+d+1)*1*(t+1))<=c5 t*((5*(t+1)*d+1)*1*(t+2));obtain ⟨s,hs⟩:∃s,t+1=s:=⟨_,rfl⟩;obtain ⟨c,hc⟩:∃c,c5 t=c:=⟨_,rfl⟩;have h1:5*s+1<=4*c:=by unfold c5 at hc;omega
 have h2:s<=c:=by omega
 rw [hc,hs,show t+2=s+1 by omega,bg,bg];obtain ⟨P,hP⟩:∃P,s*d=P:=⟨_,rfl⟩;have e1:5*s*d=5*P:=by rw [cn,hP]
 rw [e1];have e2:(5*P+d+1)*s=5*P*s+P+s:=by rw [bQ,bQ,bP,aq d s,hP]
 have e3:(5*P+1)*(s+1)=5*P*s+P+s+(4*P+1):=by rw [bQ,ak,bP,bg];omega
 rw [e2,e3];obtain ⟨X,hX⟩:∃X,5*P*s+P+s=X:=⟨_,rfl⟩;rw [hX,bQ c 1 X,bP,ak c X];have e4:(5*s+1)*P<=4*c*P:=bI _ h1;have e5:(5*s+1)*P=5*P*s+P:=by rw [bQ,bP,cn,aq s P,cn]
 have e6:c*(4*P+1)=4*c*P+c:=by rw [ak,bg,om,cn]
 omega
def aqA (d t:Nat):∃c,JW (Pn 1) (Aj d) (Aj ((t+1)*d)) t c:=by
 refine ⟨((t+1)*d+d+1)*1*(t+1),?_⟩;show (((t+1)*d+d+1)*1*(t+1)+1)*(((t+1)*d+d+1)*1*(t+1))<=(((t+1)*d+d+1)*1*(t+1))*(((t+1)*d+1)*1*(t+2));have e:((t+1)*d+d+1)*1*(t+1)+1=((t+1)*d+1)*1*(t+2):=by
  obtain ⟨P,hP⟩:∃P,(t+1)*d=P:=⟨_,rfl⟩;rw [hP,bg,bg,show t+2=(t+1)+1 by omega,ak (P+1),bg,bQ,bQ,bP,aq d,hP,bQ,bP];omega
 rw [e,aq];exact Nat.le_refl _
def M2 (la lb H L d l:Nat):Nat:=xH L (5*(la+lb-2*l+1)*d+d)*(2*wU (la+lb-2*l) ((5*(la+lb-2*l+1)*d+1)*1) H (c5 (la+lb-2*l)))
def auM (hL:max la lb<=L+1):Lad (Pn 1) la lb H (Aj d) (fun l=>Aj ((la+lb-2*l+2)*d)) (M2 la lb H L d):=by
 refine ⟨fun l hl=>⟨_,_,aqB d _,?_⟩,fun l hl=> ?_,fun k l D7=>⟨?_,fun j=> ?_⟩,?_,fun j=> ?_⟩
 . rw [MA,aui]
   exact bI _ (rq (by omega) (Nat.le_refl _))
 . obtain ⟨c,hc⟩:=aqA d (la+lb-2*l)
   refine ⟨_,c,_,c,hc,hc,fun j=> ?_⟩;have e9:(la+lb-2*l+1)*d+d=(la+lb-2*l+2)*d:=by rw [show la+lb-2*l+2=(la+lb-2*l+1)+1 by omega,bQ (la+lb-2*l+1) 1 d,bP]
   rw [Ob,Nat.min_self,e9];exact Nat.le_refl _
 . have ht:la+lb-2*k<=la+lb-2*l:=by omega
   have h5:5*(la+lb-2*k+1)*d<=5*(la+lb-2*l+1)*d:=bI _ (by omega);exact dN (rq (Nat.le_refl _) (by omega)) (bl _ (K7 ht (by omega) (by unfold c5;omega)))
 . cases j with
   | zero=>exact bI _ (by omega)
   | succ j=>exact Nat.le_refl _
 . rw [MA]
   refine dN (rq (by omega) ?_) (aH (M5 _ H _ (by omega)) (iT _ (by omega)));show d<=_;omega
 . cases j with
   | zero=>
     show d<=(la+lb-2*(la+lb)+2)*d;exact iT _ (by omega)
   | succ j=>exact Nat.le_refl _
def KN (hg:4*e+8<=2^g):yf e<=2^(g*(2*e+1)):=by
 unfold yf;have a1:(2*e+1)^e<=2^(g*e):=jE (by omega);have a2:(2*(2*e+1))^e<=2^(g*e):=jE (by omega);have a3:e+1<=2^g:=by omega
 have:=ai (ai a1 a3) a2;rw [bP];refine aH this (kQ ?_);congr 1
 rw [ak,bg,om g 2 e];omega
def KL (hg:4*e+8<=2^g) (hL:4*L+8<=2^g):xH L e<=2^(g*(2*e+1)+g*(2*L+1)):=by
 have h1:=KN hg;have a1:(2*L+1)^L<=2^(g*L):=jE (by omega);have a2:(2*(2*L+1))^L<=2^(g*L):=jE (by omega);have a3:L+1<=2^g:=by omega
 unfold xH;refine aH (ai (ai (ai h1 a1) a3) a2) (kQ ?_);congr 1
 rw [ak g (2*L) 1,bg,om g 2 L];omega
def Xn (ht:t+2<=2^g) (hV:V<=2^g) (hH:H<=2^h):wU t V H c<=2^((2*g+h+2)*(c+1)):=by
 have q1:2*(t+2)*V*H+1<=2^(2*g+h+2):=by
  have b1:(t+2)*V*H<=2^(g+g+h):=ai (ai ht hV) hH;have b2:2*(t+2)*V*H=2*((t+2)*V*H):=by rw [cn 2,cn 2]
  have b3:1<=2^(g+g+h):=iG (by omega);rw [b2,show 2^(2*g+h+2)=4*2^(g+g+h) by rw [show 2*g+h+2=(g+g+h)+2 by omega,iH];omega];omega
 unfold wU;have d1:=ai (ai ht (ai (jE (k:=c) q1) hV)) hH;refine aH d1 (fM (by omega) ?_);rw [ak (2*g+h+2) c 1,bg];omega
def afX (si:la<=L+1) (wF:lb<=L+1) (hg:4*(5*(2*L+3)*d+d)+8<=2^g) (hgL:4*L+8<=2^g) (hH:H<=2^h):
 M2 la lb H L d l<=2^(g*(2*(5*(la+lb-2*l+1)*d+d)+1)+g*(2*L+1)+1+(2*g+h+2)*(c5 (la+lb-2*l)+1)):=by
 obtain ⟨t,ht⟩:∃t,la+lb-2*l=t:=⟨_,rfl⟩;have he:5*(t+1)*d<=5*(2*L+3)*d:=bI _ (by omega);unfold M2;rw [ht];have p1:=KL (L:=L) (e:=5*(t+1)*d+d) (g:=g) (by omega) hgL;have c1:=Xn (t:=t) (V:=(5*(t+1)*d+1)*1) (H:=H) (c:=c5 t) (g:=g) (h:=h) (by omega) (by omega) hH;refine aH (ai p1 (ai (show 2<=2^1 by decide) c1)) (kQ ?_);congr 1
 omega
def oy (d e:Nat):Nat->Nat:=bZ d (Aj e)
def Nv (d e d' e' j:Nat):oy d e j+oy d' e' j=oy (d+d') (e+e') j:=by
 cases j with
 | zero=>rfl
 | succ j=>exact Ob e e' j
def auh (E:Nat->Nat):aI.j6 (Pn 2) E=(E 0+1)*((E 1+1)*1):=rfl
def Ub (E:Nat->Nat):aI.uk (Pn 2) E=xH (E 0) (E 1):=rfl
def uh (L d e:Nat):Nat:=xH d e*(2*L+1)^L*(L+1)*(2*(2*L+1))^L
def L9 (L:Nat) (E:Nat->Nat):DR (Pn 2) (bZ L E)=uh L (E 0) (E 1):=rfl
def ug {d':Nat}(h:L<=L') (k:d<=d') (m:e<=e'):uh L d e<=uh L' d' e':=by
 unfold uh;exact dN (dN (dN (rq k m) (mH (by omega) h (by omega))) (by omega)) (mH (by omega) h (by omega))
def ZB (L d e:Nat):0<uh L d e:=by
 unfold uh;exact iR (iR (iR (ZC d e) (iG (by omega))) (by omega)) (iG (by omega))
def c3 (t:Nat):Nat:=(5*(t+1)+6) / 3
def aqE (s d:Nat):5*s*(5*s*d+d+1)<=(5*s+1)*(5*s*d+1):=by
 obtain ⟨P,hP⟩:∃P,5*s*d=P:=⟨_,rfl⟩;obtain ⟨F,hF⟩:∃F,5*s=F:=⟨_,rfl⟩;rw [hF] at hP;rw [hF,hP];have e1:F*(P+d+1)=F*P+P+F:=by rw [ak,ak,bg,hP]
 have e2:(F+1)*(P+1)=F*P+P+F+1:=by rw [bQ,ak,bP,bg];omega
 omega
def aqC (d e t:Nat):JW (Pn 2) (oy d e) (oy (5*(t+1)*d) (5*(t+1)*e)) t (c3 t):=by
 show (c3 t+1)*((5*(t+1)*d+d+1)*((5*(t+1)*e+e+1)*1)*(t+1))<=c3 t*((5*(t+1)*d+1)*((5*(t+1)*e+1)*1)*(t+2));obtain ⟨s,hs⟩:∃s,t+1=s:=⟨_,rfl⟩;obtain ⟨c,hc⟩:∃c,c3 t=c:=⟨_,rfl⟩;have h1:5*s+4<=3*c:=by unfold c3 at hc;omega
 have h2:1+c<=10*s:=by unfold c3 at hc;omega
 rw [hc,hs,show t+2=s+1 by omega,bg,bg];have p1:=aqE s d;have p2:=aqE s e;obtain ⟨P,hP⟩:∃P,5*s*d+1=P:=⟨_,rfl⟩;obtain ⟨P',hP'⟩:∃P',5*s*d+d+1=P':=⟨_,rfl⟩;obtain ⟨Q,hQ⟩:∃Q,5*s*e+1=Q:=⟨_,rfl⟩;obtain ⟨Q',hQ'⟩:∃Q',5*s*e+e+1=Q':=⟨_,rfl⟩;rw [hP,hP'] at p1;rw [hQ,hQ'] at p2;rw [hP,hP',hQ,hQ'];have key:25*(s*s)*(P'*Q')<=(25*(s*s)+10*s+1)*(P*Q):=by
  have:=dN p1 p2;have e1:5*s*P'*(5*s*Q')=25*(s*s)*(P'*Q'):=by
   rw [EK,show 5*s*(5*s)=25*(s*s) by rw [EK]]
  have e2:(5*s+1)*P*((5*s+1)*Q)=(25*(s*s)+10*s+1)*(P*Q):=by
   rw [EK];congr 1
   rw [bQ,ak,bg,bP,show 5*s*(5*s)=25*(s*s) by rw [EK]];omega
  omega
 have auP:(c+1)*(25*(s*s)+10*s+1)<=c*(25*(s*s)+25*s):=by
  have e1:(c+1)*(25*(s*s)+10*s+1)=c*(25*(s*s))+c*(10*s)+c+(25*(s*s)+10*s+1):=by rw [bQ,ak,ak,bg,bP]
  have e2:c*(25*(s*s)+25*s)=c*(25*(s*s))+c*(25*s):=ak _ _ _;have e3:c*(10*s)=10*(c*s):=om _ _ _;have e4:c*(25*s)=25*(c*s):=om _ _ _;have e5:(5*s+4)*s<=3*c*s:=bI _ h1;have e6:(5*s+4)*s=5*(s*s)+4*s:=by rw [bQ,cn]
  have e7:3*c*s=3*(c*s):=cn _ _ _;rw [e1,e2,e3,e4];omega
 have IB:0<25*s:=by omega
 refine Nat.le_of_mul_le_mul_left ?_ IB;have f1:25*s*((c+1)*(P'*Q'*s))=(c+1)*(25*(s*s)*(P'*Q')):=by ac_rfl
 have f2:25*s*(c*(P*Q*(s+1)))=c*(25*(s*s)+25*s)*(P*Q):=by
  have g1:25*(s*s)+25*s=25*s*(s+1):=by rw [ak,bg,cn]
  rw [g1];ac_rfl
 rw [f1,f2];refine aH (bl _ key) ?_;rw [<- cn];exact bI _ auP
def abF {Di E:Nat->Nat} (h:aI.j6 (Pn n) (fun j=>E j+Di j)*(t+1)+1<=aI.j6 (Pn n) E*(t+2)):∃c,JW (Pn n) Di E t c:=by
 refine ⟨aI.j6 (Pn n) (fun j=>E j+Di j)*(t+1),?_⟩;unfold JW;rw [aq];exact bl _ h
def aqD (s d:Nat):(s*d+1)*(s+1)=(s*d+d+1)*s+1:=by
 obtain ⟨P,hP⟩:∃P,s*d=P:=⟨_,rfl⟩;rw [hP,ak,bg,bQ (P+d) 1 s,bP,bQ P d s,aq d s,hP,bQ,bP];omega
def alv (d e t:Nat):∃X c,JW (Pn 2) (oy d e) (oy ((t+1)*d) X) t c:=by
 refine ⟨e*(((t+1)*d+d+1)*(t+1)),abF ?_⟩;show ((t+1)*d+d+1)*((e*(((t+1)*d+d+1)*(t+1))+e+1)*1)*(t+1)+1<=((t+1)*d+1)*((e*(((t+1)*d+d+1)*(t+1))+1)*1)*(t+1+1);have h1:=aqD (t+1) d;obtain ⟨s,hs⟩:∃s,t+1=s:=⟨_,rfl⟩;rw [hs] at h1 ⊢;obtain ⟨X,hX⟩:∃X,(s*d+d+1)*s=X:=⟨_,rfl⟩;rw [hX] at h1 ⊢;have e1:(s*d+d+1)*((e*X+e+1)*1)*s=(e*X+e+1)*X:=by
  rw [bg,aq (s*d+d+1),cn,hX]
 have e2:(s*d+1)*((e*X+1)*1)*(s+1)=(e*X+1)*(X+1):=by
  rw [bg,aq (s*d+1),cn,h1]
 rw [e1,e2,ak (e*X+1),bg,bQ (e*X+e),bQ (e*X) e,bQ (e*X) 1,bP];omega
def alu (d e t:Nat):∃X c,JW (Pn 2) (oy d e) (oy X ((t+1)*e)) t c:=by
 refine ⟨d*(((t+1)*e+e+1)*(t+1)),abF ?_⟩;show (d*(((t+1)*e+e+1)*(t+1))+d+1)*(((t+1)*e+e+1)*1)*(t+1)+1<=(d*(((t+1)*e+e+1)*(t+1))+1)*(((t+1)*e+1)*1)*(t+1+1);have h1:=aqD (t+1) e;obtain ⟨s,hs⟩:∃s,t+1=s:=⟨_,rfl⟩;rw [hs] at h1 ⊢;obtain ⟨X,hX⟩:∃X,(s*e+e+1)*s=X:=⟨_,rfl⟩;rw [hX] at h1 ⊢;have e1:(d*X+d+1)*((s*e+e+1)*1)*s=(d*X+d+1)*X:=by
  rw [bg,cn,hX]
 have e2:(d*X+1)*((s*e+1)*1)*(s+1)=(d*X+1)*(X+1):=by
  rw [bg,cn,h1]
 rw [e1,e2,ak (d*X+1),bg,bQ (d*X+d),bQ (d*X) d,bQ (d*X) 1,bP];omega
def NU (H L d e t:Nat):Nat:=uh L (5*(t+1)*d+d) (5*(t+1)*e+e)*(2*wU t ((5*(t+1)*d+1)*((5*(t+1)*e+1)*1)) H (c3 t))
def QK (h:t<=t'):NU H L d e t<=NU H L d e t':=by
 have h5:5*(t+1)*d<=5*(t'+1)*d:=bI _ (by omega);have h6:5*(t+1)*e<=5*(t'+1)*e:=bI _ (by omega);unfold NU;exact dN (ug (Nat.le_refl _) (by omega) (by omega)) (bl _ (K7 h (dN (by omega) (bI _ (by omega))) (by unfold c3;omega)))
def auL (hL:max la lb<=L+1):Lad (Pn 2) la lb H (oy d e) (fun l=>oy ((la+lb-2*l+2)*d) ((la+lb-2*l+2)*e)) (fun l=>NU H L d e (la+lb-2*l)):=by
 have e9:∀t x,(t+1)*x+x=(t+2)*x:=fun t x=>by rw [show t+2=(t+1)+1 by omega,bQ (t+1) 1 x,bP]
 refine ⟨fun l hl=>⟨_,_,aqC d e _,?_⟩,fun l hl=> ?_,fun k l D7=>⟨QK (by omega),fun j=> ?_⟩,?_,fun j=> ?_⟩
 . rw [L9,auh]
   exact bI _ (ug (by omega) (Nat.le_refl _) (Nat.le_refl _))
 . obtain ⟨X,c,hc⟩:=alv d e (la+lb-2*l)
   obtain ⟨Y,k,hk⟩:=alu d e (la+lb-2*l);refine ⟨_,c,_,k,hc,hk,fun j=> ?_⟩;rw [Nv,Nv,e9,e9];match j with
   | 0=>exact Nat.min_le_left _ _
   | 1=>exact Nat.min_le_right _ _
   | j+2=>exact Nat.min_le_left _ _
 . match j with
   | 0=>exact bI _ (by omega)
   | 1=>exact bI _ (by omega)
   | j+2=>exact Nat.le_refl _
 . rw [L9]
   refine dN (ug (by omega) ?_ ?_) (aH (M5 _ H _ (iR (by omega) (by omega))) (iT _ (by omega)))
   . show d<=_
     omega
   . show e<=_
     omega
 . match j with
   | 0=>exact iT d (by omega)
   | 1=>exact iT e (by omega)
   | j+2=>exact Nat.le_refl _
