/- Commutative rings, their powers and sums, the binomial theorem, and the p-th power of a sum. No program in sight.
   Plain facts on residues: rests, primes, inverses. No program in sight.
   Where p times anything is nought, the p-th power of a sum is the sum of p-th powers; Fermat's theorem.
   The field of residues by a prime, as a type. No program in sight.
   Polynomials over a commutative ring: they are one themselves; degrees; values. No program in sight. (From XPolyB, the part that asks for no field.)
   Domains with greatest common divisors; polynomials over one are one. No program in sight.
   Sizes in towers of polynomials: the sum of amounts, degrees, boxes; a divisor is hardly greater than what it divides. No program in sight.
   The integers, and polynomials over what has sizes, have sizes. No program in sight.
   Polynomials of several variables as lists of terms: what each place holds; sums, products; plain lists are one. No program in sight.
   Plain lists of terms: how many, which places, how great; sorting; sums kept place by place. No program in sight.
   Small members of what two polynomials span, by counting; what stands in Euclid's sequence divides them. No program in sight.
   How great what stands in Euclid's sequence is. No program in sight.
   The tower of polynomials over the integers. No program in sight.
   Euclid's sequence of two polynomials that have a factor in common: what stays, and how great it is. No program in sight.
   Division with multiples, round by round: what holds, and how great it is. No program in sight.
   The invariant of Euclid's way with contents: where it stands, and that what it finds is the greatest common divisor. No program in sight.
   How great what stands in Euclid's sequence is: the counting done. No program in sight.
   Euclid's sequence by numbers alone: from bounds for lengths, degrees and sizes to what is known of every place. No program in sight.
   The ladder of bounds where the coefficients are integers. No program in sight.
   The sizes over the integers, in bits. No program in sight.
   The ladder of bounds where the coefficients have one variable. No program in sight.
   The sizes where the coefficients have one variable, in bits. No program in sight.
   The ladder of bounds where the coefficients have two variables. No program in sight.
   Plain facts: what all coefficients have in common.
   Gauss's lemma: what the coefficients of a product have in common. No program in sight.
   Values and derivatives of lists of terms: they go by what stands at each place; sums and products. No program in sight. -/
set_option linter.unusedVariables false
set_option linter.unusedSimpArgs false
namespace Cl
class CRing (R:Type) extends Add R,Mul R,Neg R,Sub R,Zero R,One R,NatPow R where
 add_assoc:∀a b c:R,a+b+c=a+(b+c)
 add_comm:∀a b:R,a+b=b+a
 add_zero:∀a:R,a+0=a
 add_neg:∀a:R,a+ -a=0
 mul_assoc:∀a b c:R,a*b*c=a*(b*c)
 mul_comm:∀a b:R,a*b=b*a
 mul_one:∀a:R,a*1=a
 mul_add:∀a b c:R,a*(b+c)=a*b+a*c
 sub_def:∀a b:R,a - b=a+ -b
 pow_zero:∀a:R,a^0=1
 pow_succ:∀(a:R) (n:Nat),a^(n+1)=a^n*a
namespace CRing
variable {R : Type} [CRing R]
theorem zero_add (a:R):0+a=a:=by rw [add_comm,add_zero]
theorem neg_add (a:R): -a+a=0:=by rw [add_comm,add_neg]
theorem one_mul (a:R):1*a=a:=by rw [mul_comm,mul_one]
theorem add_mul (a b c:R):(a+b)*c=a*c+b*c:=by rw [mul_comm,mul_add,mul_comm c a,mul_comm c b]
theorem add_left_comm (a b c:R):a+(b+c)=b+(a+c):=by rw [← add_assoc,add_comm a b,add_assoc]
theorem add_left_cancel {a b c:R}(h:a+b=a+c):b=c:=by
 have: -a+(a+b)= -a+(a+c):=by rw [h]
 rwa [← add_assoc,← add_assoc,neg_add,zero_add,zero_add] at this
theorem mul_zero (a:R):a*0=0:=by
 have h:a*0+a*0=a*0+0:=by rw [← mul_add,add_zero,add_zero]
 exact add_left_cancel h
theorem zero_mul (a:R):0*a=0:=by rw [mul_comm,mul_zero]
theorem eq_neg_of_add {a b:R}(h:a+b=0):b= -a:=by
 apply add_left_cancel (a:=a);rw [h,add_neg]
theorem neg_mul (a b:R): -a*b= -(a*b):=by
 apply eq_neg_of_add;rw [← add_mul,add_neg,zero_mul]
theorem mul_neg (a b:R):a* -b= -(a*b):=by rw [mul_comm,neg_mul,mul_comm]
theorem neg_neg (a:R): - -a=a:=(eq_neg_of_add (neg_add a)).symm
theorem neg_zero: -(0:R)=0:=(eq_neg_of_add (add_zero (0:R))).symm
theorem neg_add_rev (a b:R): -(a+b)= -a+ -b:=by
 symm;apply eq_neg_of_add
 rw [add_assoc,add_left_comm b,add_neg,add_zero,add_neg]
theorem neg_eq_zero {a:R}: -a=0↔a=0:=⟨fun h=>by rw [← neg_neg a,h,neg_zero],fun h=>by rw [h,neg_zero]⟩
theorem neg_inj {a b:R}(h: -a= -b):a=b:=by rw [← neg_neg a,h,neg_neg]
instance:Std.Associative (α:=R) (· + ·):=⟨add_assoc⟩
instance:Std.Commutative (α:=R) (· + ·):=⟨add_comm⟩
instance:Std.Associative (α:=R) (· * ·):=⟨mul_assoc⟩
instance:Std.Commutative (α:=R) (· * ·):=⟨mul_comm⟩
theorem sub_self (a:R):a - a=0:=by rw [sub_def,add_neg]
theorem sub_eq_zero {a b:R}:a - b=0↔a=b:=by
 constructor
 · intro h
   rw [sub_def] at h;exact (neg_inj (eq_neg_of_add h)).symm
 · rintro rfl;exact sub_self a
theorem sub_add_cancel (a b:R):a - b+b=a:=by rw [sub_def,add_assoc,neg_add,add_zero]
theorem add_sub_cancel (a b:R):a+b - b=a:=by rw [sub_def,add_assoc,add_neg,add_zero]
theorem mul_sub (a b c:R):a*(b - c)=a*b - a*c:=by rw [sub_def,mul_add,mul_neg,sub_def]
theorem sub_mul (a b c:R):(a - b)*c=a*c - b*c:=by rw [mul_comm,mul_sub,mul_comm c a,mul_comm c b]
theorem neg_sub (a b:R): -(a - b)=b - a:=by rw [sub_def,neg_add_rev,neg_neg,add_comm,sub_def]
theorem sub_zero (a:R):a - 0=a:=by rw [sub_def,neg_zero,add_zero]
theorem pow_one (a:R):a^1=a:=by rw [pow_succ,pow_zero,one_mul]
theorem pow_add (a:R) (m n:Nat):a^(m+n)=a^m*a^n:=by
 induction n with
 | zero=>rw [pow_zero,mul_one,Nat.add_zero]
 | succ n ih=>rw [← Nat.add_assoc,pow_succ,ih,pow_succ,mul_assoc]
theorem zero_pow {n:Nat}(h:0<n):(0:R)^n=0:=by
 obtain ⟨k,rfl⟩:∃k,n=k+1:=⟨n - 1,by omega⟩
 rw [pow_succ,mul_zero]
def nsmul:Nat→R→R
 | 0,_=>0
 | n+1,a=>nsmul n a+a
theorem nsmul_zero (a:R):nsmul 0 a=0:=rfl
theorem nsmul_succ (n:Nat) (a:R):nsmul (n+1) a=nsmul n a+a:=rfl
theorem nsmul_add (m n:Nat) (a:R):nsmul (m+n) a=nsmul m a+nsmul n a:=by
 induction n with
 | zero=>rw [nsmul_zero,add_zero,Nat.add_zero]
 | succ n ih=>rw [← Nat.add_assoc,nsmul_succ,ih,nsmul_succ,add_assoc]
theorem nsmul_mul_left (n:Nat) (a b:R):nsmul n a*b=nsmul n (a*b):=by
 induction n with
 | zero=>rw [nsmul_zero,nsmul_zero,zero_mul]
 | succ n ih=>rw [nsmul_succ,add_mul,ih,nsmul_succ]
theorem nsmul_eq_mul (n:Nat) (a:R):nsmul n a=nsmul n 1*a:=by rw [nsmul_mul_left,one_mul]
theorem nsmul_of_zero (n:Nat):nsmul n (0:R)=0:=by
 induction n with
 | zero=>rfl
 | succ n ih=>rw [nsmul_succ,ih,add_zero]
def sum:Nat→(Nat→R)→R
 | 0,_=>0
 | n+1,f=>sum n f+f n
theorem sum_zero (f:Nat→R):sum 0 f=0:=rfl
theorem sum_succ (n:Nat) (f:Nat→R):sum (n+1) f=sum n f+f n:=rfl
theorem sum_congr {n:Nat} {f g:Nat→R}(h:∀i,i<n→f i=g i):sum n f=sum n g:=by
 induction n with
 | zero=>rfl
 | succ n ih=>rw [sum_succ,sum_succ,ih (fun i hi=>h i (by omega)),h n (by omega)]
theorem sum_add (n:Nat) (f g:Nat→R):sum n (fun i=>f i+g i)=sum n f+sum n g:=by
 induction n with
 | zero=>rw [sum_zero,sum_zero,sum_zero,add_zero]
 | succ n ih=>rw [sum_succ,ih,sum_succ,sum_succ];ac_rfl
theorem sum_mul (n:Nat) (f:Nat→R) (c:R):sum n f*c=sum n (fun i=>f i*c):=by
 induction n with
 | zero=>rw [sum_zero,sum_zero,zero_mul]
 | succ n ih=>rw [sum_succ,sum_succ,add_mul,ih]
theorem mul_sum (n:Nat) (f:Nat→R) (c:R):c*sum n f=sum n (fun i=>c*f i):=by
 rw [mul_comm,sum_mul];exact sum_congr fun i _=>mul_comm _ _
theorem sum_zero_fun (n:Nat):sum n (fun _=>(0:R))=0:=by
 induction n with
 | zero=>rfl
 | succ n ih=>rw [sum_succ,ih,add_zero]
theorem sum_eq_zero {n:Nat} {f:Nat→R}(h:∀i,i<n→f i=0):sum n f=0:=by
 rw [sum_congr h,sum_zero_fun]
theorem sum_succ' (n:Nat) (f:Nat→R):sum (n+1) f=f 0+sum n (fun i=>f (i+1)):=by
 induction n with
 | zero=>rw [sum_succ,sum_zero,sum_zero,zero_add,add_zero]
 | succ n ih=>rw [sum_succ,ih,sum_succ,add_assoc]
theorem sum_append (m n:Nat) (f:Nat→R):sum (m+n) f=sum m f+sum n (fun i=>f (m+i)):=by
 induction n with
 | zero=>rw [sum_zero,add_zero,Nat.add_zero]
 | succ n ih=>rw [← Nat.add_assoc,sum_succ,ih,sum_succ,add_assoc]
theorem sum_single {n k:Nat} {f:Nat→R}(hk:k<n) (h:∀i,i<n→i≠k→f i=0):sum n f=f k:=by
 induction n with
 | zero=>omega
 | succ n ih=>
   rw [sum_succ];by_cases e:k=n
   · subst e
     rw [sum_eq_zero (fun i hi=>h i (by omega) (by omega)),zero_add]
   · rw [ih (by omega) (fun i hi hne=>h i (by omega) hne),h n (by omega) (fun e'=>e e'.symm),add_zero]
theorem sum_extend {m n:Nat} {f:Nat→R}(h:m≤n) (h0:∀i,m≤i→i<n→f i=0):sum n f=sum m f:=by
 obtain ⟨k,rfl⟩:=Nat.le.dest h
 rw [sum_append,sum_eq_zero (n:=k) (fun i hi=>h0 _ (by omega) (by omega)),add_zero]
theorem sum_flip (n:Nat) (f:Nat→R):sum n f=sum n (fun i=>f (n - 1 - i)):=by
 induction n with
 | zero=>rfl
 | succ n ih=>
   rw [sum_succ,ih,sum_succ',add_comm];congr 1
   · exact sum_congr fun i hi=>by congr 1;omega
end CRing
instance:CRing Int where
 add_assoc:=Int.add_assoc
 add_comm:=Int.add_comm
 add_zero:=Int.add_zero
 add_neg:=Int.add_right_neg
 mul_assoc:=Int.mul_assoc
 mul_comm:=Int.mul_comm
 mul_one:=Int.mul_one
 mul_add:=Int.mul_add
 sub_def:=fun _ _=>Int.sub_eq_add_neg
 pow_zero:=Int.pow_zero
 pow_succ:=Int.pow_succ
end Cl
namespace Cl
open CRing
structure Poly (F:Type) [CRing F] where
 co:Nat→F
 fin:∃n,∀i,n≤i→co i=0
namespace Poly
variable {F : Type} [CRing F]
theorem ext {a b:Poly F}(h:∀i,a.co i=b.co i):a=b:=by
 have h':a.co=b.co:=funext h
 cases a;cases b;simp only [mk.injEq];exact h'
instance:Add (Poly F):=⟨fun a b=>⟨fun i=>a.co i+b.co i,by
 obtain ⟨n,hn⟩:=a.fin
 obtain ⟨m,hm⟩:=b.fin
 exact ⟨n+m,fun i hi=>by rw [hn i (by omega),hm i (by omega),add_zero]⟩⟩⟩
instance:Neg (Poly F):=⟨fun a=>⟨fun i=> -a.co i,by
 obtain ⟨n,hn⟩:=a.fin
 exact ⟨n,fun i hi=>by rw [hn i hi,neg_zero]⟩⟩⟩
instance:Sub (Poly F):=⟨fun a b=>a+ -b⟩
instance:Zero (Poly F):=⟨⟨fun _=>0,0,fun _ _=>rfl⟩⟩
def mono (n:Nat) (c:F):Poly F:=⟨fun i=>if i=n then c else 0,n+1,fun i hi=>if_neg (by omega)⟩
def C (c:F):Poly F:=mono 0 c
instance:One (Poly F):=⟨C 1⟩
def mulc (a b:Nat→F) (n:Nat):F:=sum (n+1) (fun k=>a k*b (n - k))
theorem mulc_zero {a b:Nat→F} {n m i:Nat}(ha:∀i,n≤i→a i=0) (hb:∀i,m≤i→b i=0) (h:n+m≤i+1):mulc a b i=0:=by
 unfold mulc
 refine sum_eq_zero fun k hk=> ?_
 by_cases h1:n≤k
 · rw [ha k h1,zero_mul]
 · rw [hb (i - k) (by omega),mul_zero]
instance:Mul (Poly F):=⟨fun a b=>⟨mulc a.co b.co,by
 obtain ⟨n,hn⟩:=a.fin
 obtain ⟨m,hm⟩:=b.fin
 exact ⟨n+m,fun i hi=>mulc_zero hn hm (by omega)⟩⟩⟩
def npow (a:Poly F):Nat→Poly F
 | 0=>1
 | n+1=>npow a n*a
instance:NatPow (Poly F):=⟨npow⟩
theorem co_add (a b:Poly F) (i:Nat):(a+b).co i=a.co i+b.co i:=rfl
theorem co_neg (a:Poly F) (i:Nat):(-a).co i= -a.co i:=rfl
theorem co_sub (a b:Poly F) (i:Nat):(a - b).co i=a.co i - b.co i:=by
 rw [CRing.sub_def];rfl
theorem co_zero (i:Nat):(0:Poly F).co i=0:=rfl
theorem co_mono (n:Nat) (c:F) (i:Nat):(mono n c).co i=if i=n then c else 0:=rfl
theorem co_C (c:F) (i:Nat):(C c).co i=if i=0 then c else 0:=rfl
theorem co_one (i:Nat):(1:Poly F).co i=if i=0 then 1 else 0:=rfl
theorem co_mul (a b:Poly F) (n:Nat):(a*b).co n=sum (n+1) (fun k=>a.co k*b.co (n - k)):=rfl
theorem mulc_comm (a b:Nat→F) (n:Nat):mulc a b n=mulc b a n:=by
 unfold mulc
 rw [sum_flip]
 refine sum_congr fun k hk=> ?_
 rw [mul_comm]
 congr 2<;>omega
theorem sum_tri (n:Nat) (h:Nat→Nat→F):sum (n+1) (fun k=>sum (k+1) (fun j=>h k j))=sum (n+1) (fun j=>sum (n+1 - j) (fun i=>h (j+i) j)):=by
 induction n with
 | zero=>rfl
 | succ n ih=>
   rw [sum_succ,ih];have e:sum (n+1+1) (fun j=>sum (n+1+1 - j) (fun i=>h (j+i) j))=sum (n+1+1) (fun j=>sum (n+1 - j) (fun i=>h (j+i) j)+h (n+1) j):=by
    refine sum_congr fun j hj=> ?_;rw [show n+1+1 - j=(n+1 - j)+1 by omega,sum_succ,show j+(n+1 - j)=n+1 by omega]
   rw [e,sum_add,sum_succ (n+1) (fun j=>sum (n+1 - j) (fun i=>h (j+i) j)),Nat.sub_self,sum_zero,add_zero]
theorem mulc_assoc (a b c:Nat→F) (n:Nat):mulc (mulc a b) c n=mulc a (mulc b c) n:=by
 unfold mulc
 have e1:sum (n+1) (fun k=>sum (k+1) (fun j=>a j*b (k - j))*c (n - k))=sum (n+1) (fun k=>sum (k+1) (fun j=>a j*b (k - j)*c (n - k))):=sum_congr fun k _=>sum_mul _ _ _
 rw [e1,sum_tri]
 refine sum_congr fun j hj=> ?_
 rw [mul_sum,show n+1 - j=n - j+1 by omega]
 refine sum_congr fun i hi=> ?_
 rw [mul_assoc,show j+i - j=i by omega,show n - (j+i)=n - j - i by omega]
theorem mulc_one (a:Nat→F) (n:Nat):mulc a (fun i=>if i=0 then 1 else 0) n=a n:=by
 unfold mulc
 rw [sum_single (k:=n) (by omega) (fun i hi hne=>by show a i*(if n - i=0 then 1 else 0)=0;rw [if_neg (by omega),mul_zero]),Nat.sub_self]
 show a n*(if 0=0 then 1 else 0)=a n
 rw [if_pos rfl,mul_one]
instance:CRing (Poly F) where
 add_assoc a b c:=ext fun i=>add_assoc _ _ _
 add_comm a b:=ext fun i=>add_comm _ _
 add_zero a:=ext fun i=>add_zero _
 add_neg a:=ext fun i=>add_neg _
 mul_assoc a b c:=ext fun i=>mulc_assoc _ _ _ _
 mul_comm a b:=ext fun i=>mulc_comm _ _ _
 mul_one a:=ext fun i=>mulc_one _ _
 mul_add a b c:=ext fun i=>by
  rw [co_add,co_mul,co_mul,co_mul,← sum_add];exact sum_congr fun k _=>mul_add _ _ _
 sub_def a b:=rfl
 pow_zero a:=rfl
 pow_succ a n:=rfl
def Sh (a:Poly F) (n:Nat):Prop:=∀i,n≤i→a.co i=0
theorem Sh.mono {a:Poly F} {n m:Nat}(h:a.Sh n) (hm:n≤m):a.Sh m:=fun i hi=>h i (by omega)
theorem Sh.add {a b:Poly F} {n:Nat}(ha:a.Sh n) (hb:b.Sh n):(a+b).Sh n:=fun i hi=>by rw [co_add,ha i hi,hb i hi,add_zero]
theorem Sh.neg {a:Poly F} {n:Nat}(ha:a.Sh n):(-a).Sh n:=fun i hi=>by rw [co_neg,ha i hi,neg_zero]
theorem Sh.sub {a b:Poly F} {n:Nat}(ha:a.Sh n) (hb:b.Sh n):(a - b).Sh n:=ha.add hb.neg
theorem Sh.mul {a b:Poly F} {n m k:Nat}(ha:a.Sh n) (hb:b.Sh m) (hk:n+m≤k+1):(a*b).Sh k:=fun i hi=>mulc_zero ha hb (by omega)
theorem sh_C (c:F):(C c).Sh 1:=fun i hi=>by rw [co_C,if_neg (by omega)]
theorem sh_zero {a:Poly F}(h:a.Sh 0):a=0:=ext fun i=>h i (by omega)
theorem zero_sh (n:Nat):(0:Poly F).Sh n:=fun _ _=>rfl
theorem co_mul_top {a b:Poly F} {n m:Nat}(ha:a.Sh (n+1)) (hb:b.Sh (m+1)):(a*b).co (n+m)=a.co n*b.co m:=by
 rw [co_mul,sum_single (k:=n) (by omega) (fun i hi hne=> ?_),show n+m - n=m by omega]
 by_cases h1:i<n
 · rw [hb (n+m - i) (by omega),mul_zero]
 · rw [ha i (by omega),zero_mul]
theorem co_mono_mul (n:Nat) (c:F) (a:Poly F) (i:Nat):(mono n c*a).co i=if n≤i then c*a.co (i - n) else 0:=by
 rw [co_mul]
 by_cases h:n≤i
 · rw [if_pos h,sum_single (k:=n) (by omega) (fun k hk hne=>by rw [co_mono,if_neg hne,zero_mul]),co_mono,if_pos rfl]
 · rw [if_neg h]
   exact sum_eq_zero fun k hk=>by rw [co_mono,if_neg (by omega),zero_mul]
theorem co_C_mul (c:F) (a:Poly F) (i:Nat):(C c*a).co i=c*a.co i:=by
 unfold C;rw [co_mono_mul,if_pos (by omega),Nat.sub_zero]
theorem C_mul_C (a b:F):C a*C b=C (a*b):=ext fun i=>by
 rw [co_C_mul,co_C,co_C];split
 · rfl
 · exact mul_zero _
theorem C_one:C (1:F)=1:=rfl
theorem C_zero:C (0:F)=0:=ext fun i=>by rw [co_C];split<;>rfl
theorem C_neg (a:F):C (-a)= -C a:=ext fun i=>by
 rw [co_neg,co_C,co_C];split
 · rfl
 · exact neg_zero.symm
theorem C_inj {a b:F}(h:C a=C b):a=b:=by
 have:=congrArg (fun q=>q.co 0) h
 simpa [co_C] using this
theorem mono_mul (n m:Nat) (a b:F):mono n a*mono m b=mono (n+m) (a*b):=ext fun i=>by
 rw [co_mono_mul,co_mono,co_mono]
 by_cases h:n≤i
 · rw [if_pos h]
   by_cases e:i - n=m
   · rw [if_pos e,if_pos (by omega)]
   · rw [if_neg e,if_neg (by omega),mul_zero]
 · rw [if_neg h,if_neg (by omega)]
theorem eq_C {a:Poly F}(h:a.Sh 1):a=C (a.co 0):=ext fun i=>by
 rw [co_C];split
 · next e=>rw [e]
 · exact h i (by omega)
theorem least (P:Nat→Prop) (h:∃n,P n):∃n,P n∧∀m,m<n→¬P m:=by
 obtain ⟨n,hn⟩:=h
 induction n using Nat.strongRecOn with
 | ind n ih=>
   by_cases h':∃m,m<n∧P m
   · obtain ⟨m,hm,hp⟩:=h'
     exact ih m hm hp
   · exact ⟨n,hn,fun m hm hp=>h' ⟨m,hm,hp⟩⟩
noncomputable def len (a:Poly F):Nat:=Classical.choose (least a.Sh a.fin)
theorem len_sh (a:Poly F):a.Sh a.len:=(Classical.choose_spec (least a.Sh a.fin)).1
theorem len_le {a:Poly F} {n:Nat}(h:a.Sh n):a.len≤n:=Nat.le_of_not_lt fun hl=>(Classical.choose_spec (least a.Sh a.fin)).2 n hl h
theorem len_top {a:Poly F}(h:0<a.len):a.co (a.len - 1)≠0:=fun e=>by
 have:a.Sh (a.len - 1):=fun i hi=>by
  by_cases e':i=a.len - 1
  · rw [e',e]
  · exact len_sh a i (by omega)
 have:=len_le this
 omega
theorem len_eq {a:Poly F} {n:Nat}(h:a.Sh (n+1)) (ht:a.co n≠0):a.len=n+1:=by
 have h1:=len_le h
 refine Nat.le_antisymm h1 (Nat.le_of_not_lt fun hl=>ht (len_sh a n (by omega)))
theorem len_zero:(0:Poly F).len=0:=Nat.le_zero.1 (len_le (zero_sh 0))
theorem len_eq_zero {a:Poly F}:a.len=0↔a=0:=⟨fun h=>sh_zero (h ▸ len_sh a),fun h=>h ▸ len_zero⟩
theorem len_pos {a:Poly F}(h:a≠0):0<a.len:=Nat.pos_of_ne_zero fun e=>h (len_eq_zero.1 e)
noncomputable def lc (a:Poly F):F:=a.co (a.len - 1)
theorem lc_ne {a:Poly F}(h:a≠0):a.lc≠0:=len_top (len_pos h)
end Poly
structure Hom {F R:Type} [CRing F] [CRing R] (φ:F→R):Prop where
 add:∀a b,φ (a+b)=φ a+φ b
 mul:∀a b,φ (a*b)=φ a*φ b
 one:φ 1=1
theorem Hom.zero {F R:Type} [CRing F] [CRing R] {φ:F→R}(h:Hom φ):φ 0=0:=by
 have:=h.add 0 0
 rw [add_zero] at this
 exact add_left_cancel (a:=φ 0) (by rw [add_zero];exact this.symm)
theorem Hom.sum {F R:Type} [CRing F] [CRing R] {φ:F→R}(h:Hom φ) (n:Nat) (f:Nat→F):φ (sum n f)=CRing.sum n (fun i=>φ (f i)):=by
 induction n with
 | zero=>exact h.zero
 | succ n ih=>rw [sum_succ,h.add,ih,sum_succ]
theorem hom_id {F:Type} [CRing F]:Hom (fun a:F=>a):=⟨fun _ _=>rfl,fun _ _=>rfl,rfl⟩
namespace Poly
section
variable {F R : Type} [CRing F] [CRing R] {φ : F → R}
def evN (φ:F→R) (P:Poly F) (v:R) (n:Nat):R:=sum n (fun i=>φ (P.co i)*v^i)
theorem evN_sh (hφ:Hom φ) {P:Poly F} {n m:Nat}(h:P.Sh n) (hm:n≤m) (v:R):evN φ P v m=evN φ P v n:=
 sum_extend hm fun i h1 _=>by rw [h i h1,hφ.zero,zero_mul]
noncomputable def ev (φ:F→R) (P:Poly F) (v:R):R:=evN φ P v P.len
theorem ev_eq (hφ:Hom φ) {P:Poly F} {n:Nat}(h:P.Sh n) (v:R):ev φ P v=evN φ P v n:=by
 have h1:=len_le h
 exact (evN_sh hφ (len_sh P) h1 v).symm
theorem ev_add (hφ:Hom φ) (P Q:Poly F) (v:R):ev φ (P+Q) v=ev φ P v+ev φ Q v:=by
 have hp:=(len_sh P).mono (show P.len≤max P.len Q.len by omega)
 have hq:=(len_sh Q).mono (show Q.len≤max P.len Q.len by omega)
 rw [ev_eq hφ (hp.add hq),ev_eq hφ hp,ev_eq hφ hq]
 unfold evN
 rw [← sum_add]
 exact sum_congr fun i _=>by rw [co_add,hφ.add,add_mul]
theorem ev_C (hφ:Hom φ) (c:F) (v:R):ev φ (C c) v=φ c:=by
 rw [ev_eq hφ (sh_C c)]
 unfold evN
 rw [sum_succ,sum_zero,zero_add,CRing.pow_zero,CRing.mul_one];rfl
theorem ev_zero (hφ:Hom φ) (v:R):ev φ 0 v=0:=by rw [← C_zero,ev_C hφ,hφ.zero]
theorem ev_mono (hφ:Hom φ) (n:Nat) (c:F) (v:R):ev φ (mono n c) v=φ c*v^n:=by
 rw [ev_eq hφ (n:=n+1) (fun i hi=>by rw [co_mono,if_neg (by omega)])]
 unfold evN
 rw [sum_single (k:=n) (by omega) (fun i _ hne=>by rw [co_mono,if_neg hne,hφ.zero,zero_mul]),co_mono,if_pos rfl]
theorem ev_mul (hφ:Hom φ) (P Q:Poly F) (v:R):ev φ (P*Q) v=ev φ P v*ev φ Q v:=by
 have e1:ev φ (P*Q) v=evN φ (P*Q) v (P.len+Q.len+1):=ev_eq hφ ((len_sh P).mul (len_sh Q) (by omega)) v
 rw [e1]
 unfold evN
 have e2:sum (P.len+Q.len+1) (fun n=>φ ((P*Q).co n)*v^n)=sum (P.len+Q.len+1) (fun n=>sum (n+1) (fun k=>φ (P.co k)*φ (Q.co (n - k))*v^n)):=by
  refine sum_congr fun n _=> ?_;rw [co_mul,hφ.sum,sum_mul];exact sum_congr fun k _=>by rw [hφ.mul]
 rw [e2,sum_tri (P.len+Q.len) (fun n k=>φ (P.co k)*φ (Q.co (n - k))*v^n)]
 have e3:∀j,j<P.len+Q.len+1→sum (P.len+Q.len+1 - j) (fun i=>φ (P.co j)*φ (Q.co (j+i - j))*v^(j+i))=φ (P.co j)*v^j*ev φ Q v:=by
  intro j hj;by_cases hjp:j<P.len
  · have:ev φ Q v=evN φ Q v (P.len+Q.len+1 - j):=ev_eq hφ ((len_sh Q).mono (by omega)) v
    rw [this];unfold evN;rw [mul_sum];refine sum_congr fun i _=> ?_;rw [show j+i - j=i by omega,CRing.pow_add];ac_rfl
  · rw [len_sh P j (by omega),hφ.zero,zero_mul,zero_mul]
    exact sum_eq_zero fun i _=>by rw [zero_mul,zero_mul]
 rw [sum_congr e3,← sum_mul]
 congr 1
 exact (ev_eq hφ ((len_sh P).mono (by omega)) v).symm
theorem ev_neg (hφ:Hom φ) (P:Poly F) (v:R):ev φ (-P) v= -ev φ P v:=eq_neg_of_add (by rw [← ev_add hφ,add_neg,ev_zero hφ])
theorem ev_sub (hφ:Hom φ) (P Q:Poly F) (v:R):ev φ (P - Q) v=ev φ P v - ev φ Q v:=by rw [CRing.sub_def,ev_add hφ,ev_neg hφ,CRing.sub_def]
end
def X (F:Type) [CRing F]:Poly F:=mono 1 1
theorem ev_X {F R:Type} [CRing F] [CRing R] {φ:F→R}(hφ:Hom φ) (v:R):ev φ (X F) v=v:=by
 unfold X;rw [ev_mono hφ,hφ.one,CRing.one_mul,CRing.pow_one]
end Poly
end Cl
namespace Cl
open CRing
class Dom (R:Type) extends CRing R where
 one_ne:(1:R)≠0
 nz:∀a b:R,a*b=0→a=0∨b=0
def Dv {R:Type} [CRing R] (a b:R):Prop:=∃c,b=a*c
structure IsG {R:Type} [CRing R] (g a b:R):Prop where
 l:Dv g a
 r:Dv g b
 top:∀d,Dv d a→Dv d b→Dv d g
class GDom (R:Type) extends Dom R where
 gcd_ex:∀a b:R,∃g,IsG g a b
section
variable {R : Type} [CRing R] {a b c d g : R}
theorem Dv.refl (a:R):Dv a a:=⟨1,(mul_one a).symm⟩
theorem Dv.trans (h:Dv a b) (k:Dv b c):Dv a c:=by
 obtain ⟨x,rfl⟩:=h
 obtain ⟨y,rfl⟩:=k
 exact ⟨x*y,mul_assoc _ _ _⟩
theorem Dv.mulR (h:Dv a b) (c:R):Dv a (b*c):=by
 obtain ⟨x,rfl⟩:=h
 exact ⟨x*c,mul_assoc _ _ _⟩
theorem Dv.mulL (h:Dv a b) (c:R):Dv a (c*b):=by rw [mul_comm];exact h.mulR c
theorem Dv.left (a b:R):Dv a (a*b):=⟨b,rfl⟩
theorem Dv.right (a b:R):Dv b (a*b):=⟨a,mul_comm _ _⟩
theorem Dv.zero (a:R):Dv a 0:=⟨0,(mul_zero a).symm⟩
theorem Dv.one (a:R):Dv 1 a:=⟨a,(one_mul a).symm⟩
theorem Dv.add (h:Dv a b) (k:Dv a c):Dv a (b+c):=by
 obtain ⟨x,rfl⟩:=h
 obtain ⟨y,rfl⟩:=k
 exact ⟨x+y,(mul_add _ _ _).symm⟩
theorem Dv.neg (h:Dv a b):Dv a (-b):=by
 obtain ⟨x,rfl⟩:=h
 exact ⟨-x,(mul_neg _ _).symm⟩
theorem Dv.sub (h:Dv a b) (k:Dv a c):Dv a (b - c):=by rw [sub_def];exact h.add k.neg
theorem Dv.ofAdd (h:Dv a (b+c)) (k:Dv a b):Dv a c:=by
 have e:c=(b+c) - b:=by rw [add_comm,add_sub_cancel]
 rw [e];exact h.sub k
theorem Dv.mul (h:Dv a b) (k:Dv c d):Dv (a*c) (b*d):=by
 obtain ⟨x,rfl⟩:=h
 obtain ⟨y,rfl⟩:=k
 exact ⟨x*y,by ac_rfl⟩
theorem Dv.of0 (h:Dv (0:R) a):a=0:=by
 obtain ⟨x,rfl⟩:=h
 exact zero_mul x
theorem IsG.symm (h:IsG g a b):IsG g b a:=⟨h.r,h.l,fun d k l=>h.top d l k⟩
theorem sum_dv {n:Nat} {f:Nat→R}(h:∀i,i<n→Dv a (f i)):Dv a (sum n f):=by
 induction n with
 | zero=>exact Dv.zero a
 | succ n ih=>rw [sum_succ];exact (ih fun i hi=>h i (by omega)).add (h n (by omega))
end
section
variable {R : Type} [Dom R] {a b c d g : R}
theorem Dom.mul_ne (ha:a≠0) (hb:b≠0):a*b≠0:=fun e=>by
 rcases Dom.nz a b e with h | h
 · exact ha h
 · exact hb h
theorem Dom.cancel (ha:a≠0) (h:a*b=a*c):b=c:=by
 have e:a*(b - c)=0:=by rw [mul_sub,h,sub_self]
 rcases Dom.nz a _ e with h1 | h1
 · exact absurd h1 ha
 · exact sub_eq_zero.1 h1
theorem Dv.cancel (ha:a≠0) (h:Dv (a*b) (a*c)):Dv b c:=by
 obtain ⟨x,e⟩:=h
 exact ⟨x,Dom.cancel ha (by rw [e,mul_assoc])⟩
theorem Dom.pow_ne (ha:a≠0):∀n:Nat,a^n≠0
 | 0=>by rw [CRing.pow_zero];exact Dom.one_ne
 | n+1=>by rw [CRing.pow_succ];exact Dom.mul_ne (Dom.pow_ne ha n) ha
end
section
variable {R : Type} [GDom R] {a b c d g : R}
theorem IsG.mul (hc:c≠0) (h:IsG g a b):IsG (c*g) (c*a) (c*b):=by
 obtain ⟨x,hx⟩:=GDom.gcd_ex (c*a) (c*b)
 obtain ⟨k,rfl⟩:=hx.top c (Dv.left _ _) (Dv.left _ _)
 have h1:=h.top k (hx.l.cancel hc) (hx.r.cancel hc)
 exact ⟨(Dv.refl c).mul h.l,(Dv.refl c).mul h.r,fun d h2 h3=>(hx.top d h2 h3).trans ((Dv.refl c).mul h1)⟩
theorem euclid (h:IsG 1 a b) (k:Dv a (b*c)):Dv a c:=by
 by_cases hc:c=0
 · rw [hc];exact Dv.zero a
 · have h1:=(IsG.mul hc h).top a (Dv.right _ _) (by rw [mul_comm];exact k)
   rwa [mul_one] at h1
end
namespace Poly
section
variable {R : Type} [CRing R]
def CDv (d:R) (f:Poly R):Prop:=∀i,Dv d (f.co i)
def Prim (f:Poly R):Prop:=∀d,CDv d f→Dv d 1
structure Cont (c:R) (f:Poly R):Prop where
 dv:CDv c f
 top:∀d,CDv d f→Dv d c
theorem CDv.add {d:R} {f g:Poly R}(h:CDv d f) (k:CDv d g):CDv d (f+g):=fun i=>(h i).add (k i)
theorem CDv.sub {d:R} {f g:Poly R}(h:CDv d f) (k:CDv d g):CDv d (f - g):=fun i=>by rw [co_sub];exact (h i).sub (k i)
theorem CDv.mulR {d:R} {f:Poly R}(h:CDv d f) (g:Poly R):CDv d (f*g):=fun i=>by
 rw [co_mul];exact sum_dv fun k _=>(h k).mulR _
theorem CDv.trans {d e:R} {f:Poly R}(h:CDv d f) (k:Dv e d):CDv e f:=fun i=>k.trans (h i)
theorem CDv.C (c:R) (f:Poly R):CDv c (C c*f):=fun i=>by rw [co_C_mul];exact Dv.left _ _
theorem CDv.dv {d:R} {f:Poly R}(h:CDv d f):Dv (Poly.C d) f:=by
 obtain ⟨q,hq⟩:∃q:Nat→R,∀i,f.co i=d*q i:=⟨fun i=>Classical.choose (h i),fun i=>Classical.choose_spec (h i)⟩
 obtain ⟨n,hn⟩:=f.fin
 refine ⟨⟨fun i=>if i<n then q i else 0,n,fun i hi=>if_neg (by omega)⟩,ext fun i=> ?_⟩
 rw [co_C_mul]
 show f.co i=d*(if i<n then q i else 0)
 by_cases hi:i<n
 · rw [if_pos hi];exact hq i
 · rw [if_neg hi,mul_zero];exact hn i (by omega)
theorem CDv.ofDv {d:R} {f:Poly R}(h:Dv (Poly.C d) f):CDv d f:=by
 obtain ⟨q,rfl⟩:=h
 exact CDv.C d q
theorem lead_split {f:Poly R}(h:f≠0):∃f1:Poly R,f=mono (f.len - 1) f.lc+f1∧f1.len<f.len:=by
 have h1:=len_pos h
 refine ⟨f - mono (f.len - 1) f.lc,?_,?_⟩
 · rw [sub_def,add_left_comm,add_neg,add_zero]
 · have h2:(f - mono (f.len - 1) f.lc).Sh (f.len - 1):=fun i hi=>by
    rw [co_sub,co_mono];by_cases e:i=f.len - 1
    · rw [if_pos e,e];exact sub_self _
    · rw [if_neg e,len_sh f i (by omega),sub_self]
   have:=len_le h2;omega
end
section
variable {R : Type} [Dom R]
theorem len_mulD {a b:Poly R}(ha:a≠0) (hb:b≠0):(a*b).len=a.len+b.len - 1∧(a*b).lc=a.lc*b.lc:=by
 have h1:=len_pos ha
 have h2:=len_pos hb
 have ea:a.len=(a.len - 1)+1:=by omega
 have eb:b.len=(b.len - 1)+1:=by omega
 have hsa:a.Sh ((a.len - 1)+1):=ea ▸ len_sh a
 have hsb:b.Sh ((b.len - 1)+1):=eb ▸ len_sh b
 have htop:=co_mul_top hsa hsb
 have hne:(a*b).co ((a.len - 1)+(b.len - 1))≠0:=by
  rw [htop];exact Dom.mul_ne (len_top h1) (len_top h2)
 have hl:=len_eq (hsa.mul hsb (by omega)) hne
 refine ⟨by rw [hl];omega,?_⟩
 unfold lc
 rw [hl,Nat.add_sub_cancel,htop]
theorem mul_neD {a b:Poly R}(ha:a≠0) (hb:b≠0):a*b≠0:=fun e=>by
 have h1:=(len_mulD ha hb).1
 rw [e,len_zero] at h1
 have:=len_pos ha
 have:=len_pos hb
 omega
instance instDomPoly:Dom (Poly R) where
 one_ne h:=by
  have h1:=congrArg (fun q:Poly R=>q.co 0) h;have h2:(1:R)=0:=by simpa [co_one,co_zero] using h1
  exact Dom.one_ne h2
 nz a b h:=Classical.byContradiction fun k=>by
  have ha:a≠0:=fun e=>k (.inl e);have hb:b≠0:=fun e=>k (.inr e);exact mul_neD ha hb h
theorem C_neD {c:R}(h:c≠0):C c≠0:=fun e=>h (C_inj (e.trans C_zero.symm))
theorem len_CD {c:R}(h:c≠0):(C c).len=1:=len_eq (n:=0) (sh_C c) (by rw [co_C,if_pos rfl];exact h)
theorem len_C_mulD {c:R}(h:c≠0) (a:Poly R):(C c*a).len=a.len:=by
 by_cases ha:a=0
 · rw [ha,CRing.mul_zero]
 · rw [(len_mulD (C_neD h) ha).1,len_CD h];omega
theorem Prim.ne {f:Poly R}(h:Prim f):f≠0:=fun e=>by
 have h1:=h 0 fun i=>by rw [e];exact Dv.zero 0
 exact Dom.one_ne h1.of0
theorem Dv.len_le {a b:Poly R}(h:Dv a b) (hb:b≠0):a.len≤b.len:=by
 obtain ⟨c,rfl⟩:=h
 have ha:a≠0:=fun e=>hb (by rw [e,CRing.zero_mul])
 have hc:c≠0:=fun e=>hb (by rw [e,CRing.mul_zero])
 have h1:=(len_mulD ha hc).1
 have:=len_pos hc
 omega
theorem pseudo {y:Poly R}(hy:y≠0):∀(N:Nat) (x:Poly R),x.len≤N→∃(k:Nat) (q r:Poly R),C (y.lc^k)*x=q*y+r∧r.len<y.len:=by
 intro N
 induction N with
 | zero=>
   intro x hx;exact ⟨0,0,0,by rw [len_eq_zero.1 (by omega:x.len=0),CRing.mul_zero,CRing.zero_mul,CRing.add_zero],by rw [len_zero];exact len_pos hy⟩
 | succ N ih=>
   intro x hx;by_cases hlt:x.len<y.len
   · exact ⟨0,0,x,by rw [CRing.pow_zero,C_one,CRing.one_mul,CRing.zero_mul,CRing.zero_add],hlt⟩
   · have hyl:=len_pos hy
     have hs:(C y.lc*x - mono (x.len - y.len) x.lc*y).Sh (x.len - 1):=fun i hi=>by
      rw [co_sub,co_C_mul,co_mono_mul,if_pos (by omega)];by_cases e:i=x.len - 1
      · have e2:i - (x.len - y.len)=y.len - 1:=by omega
        rw [e2,e];show y.co (y.len - 1)*x.co (x.len - 1) - x.co (x.len - 1)*y.co (y.len - 1)=0;rw [CRing.mul_comm,sub_self]
      · rw [len_sh x i (by omega),len_sh y _ (by omega),CRing.mul_zero,CRing.mul_zero,sub_self]
     obtain ⟨k,q,r,h1,h2⟩:=ih _ (Nat.le_trans (len_le hs) (by omega));refine ⟨k+1,q+C (y.lc^k)*mono (x.len - y.len) x.lc,r,?_,h2⟩;have e1:C (y.lc^(k+1))*x=C (y.lc^k)*(C y.lc*x - mono (x.len - y.len) x.lc*y)+C (y.lc^k)*(mono (x.len - y.len) x.lc*y):=by
      rw [← CRing.mul_add,sub_add_cancel,← CRing.mul_assoc,C_mul_C,CRing.pow_succ]
     rw [e1,h1,add_mul,CRing.mul_assoc];ac_rfl
end
section
variable {R : Type} [GDom R]
theorem cont_pre (f:Nat→R):∀n:Nat,∃c,(∀i,i<n→Dv c (f i))∧∀d,(∀i,i<n→Dv d (f i))→Dv d c
 | 0=>⟨0,fun i hi=>absurd hi (Nat.not_lt_zero i),fun d _=>Dv.zero d⟩
 | n+1=>by
   obtain ⟨c,h1,h2⟩:=cont_pre f n;obtain ⟨g,hg⟩:=GDom.gcd_ex c (f n);refine ⟨g,fun i hi=> ?_,fun d hd=>hg.top d (h2 d fun i hi=>hd i (by omega)) (hd n (by omega))⟩;by_cases e:i=n
   · rw [e];exact hg.r
   · exact hg.l.trans (h1 i (by omega))
theorem cont_ex (f:Poly R):∃c,Cont c f:=by
 obtain ⟨n,hn⟩:=f.fin
 obtain ⟨c,h1,h2⟩:=cont_pre f.co n
 refine ⟨c,fun i=> ?_,fun d hd=>h2 d fun i _=>hd i⟩
 by_cases hi:i<n
 · exact h1 i hi
 · rw [hn i (by omega)];exact Dv.zero c
theorem Cont.ne {c:R} {f:Poly R}(h:Cont c f) (hf:f≠0):c≠0:=fun e=>hf (ext fun i=>by
 have h1:=h.dv i
 rw [e] at h1
 exact h1.of0)
theorem Cont.prim {c:R} {f f':Poly R}(h:Cont c f) (hf:f≠0) (e:f=C c*f'):Prim f':=fun d hd=>by
 have hc:=h.ne hf
 have h1:=h.top (c*d) fun i=>by rw [e,co_C_mul];exact (Dv.refl c).mul (hd i)
 have h2:Dv (c*d) (c*1):=by rw [CRing.mul_one];exact h1
 exact h2.cancel hc
theorem cont_fac {f:Poly R}(hf:f≠0):∃c f',Cont c f∧c≠0∧f=C c*f'∧Prim f':=by
 obtain ⟨c,hc⟩:=cont_ex f
 obtain ⟨f',e⟩:=hc.dv.dv
 exact ⟨c,f',hc,hc.ne hf,e,hc.prim hf e⟩
theorem Prim.cdv {h:Poly R}(hp:Prim h) {c e:R}(hd:CDv e (C c*h)):Dv e c:=by
 by_cases hc:c=0
 · rw [hc];exact Dv.zero e
 · obtain ⟨k,hk⟩:=cont_ex (C c*h)
   obtain ⟨m,rfl⟩:=hk.top c (CDv.C c h);have h1:=hp m fun i=>by
    have:=hk.dv i;rw [co_C_mul] at this;exact this.cancel hc
   have h2:=(hk.top e hd).trans ((Dv.refl c).mul h1);rwa [CRing.mul_one] at h2
theorem gauss_half {N:Nat}(ih:∀f g:Poly R,f.len+g.len≤N→Prim f→Prim g→Prim (f*g)) {f g:Poly R}(hl:f.len+g.len≤N+1) (hf:Prim f) (hg:Prim g) {d e:R}(hd:CDv d (f*g)) (h1:Dv e d) (h2:Dv e f.lc):Dv e 1:=by
 obtain ⟨f1,e1,e2⟩:=lead_split hf.ne
 have hm:CDv e (mono (f.len - 1) f.lc):=fun i=>by
  rw [co_mono];split
  · exact h2
  · exact Dv.zero e
 refine hf e ?_
 rw [e1]
 refine hm.add ?_
 by_cases h0:f1=0
 · rw [h0];exact fun i=>Dv.zero e
 · obtain ⟨c1,f1',k1,k2,k3,k4⟩:=cont_fac h0
   have hl1:f1'.len=f1.len:=by rw [k3,len_C_mulD k2]
   have hp:=ih f1' g (by omega) k4 hg;have h3:CDv e (C c1*(f1'*g)):=by
    rw [← CRing.mul_assoc,← k3];have h4:f1*g=f*g - mono (f.len - 1) f.lc*g:=by
     (have h5:f*g=mono (f.len - 1) f.lc*g+f1*g:=by rw [← add_mul,← e1]);rw [h5,CRing.add_comm,add_sub_cancel]
    rw [h4];exact (hd.trans h1).sub (hm.mulR g)
   have h5:=hp.cdv h3;rw [k3];exact fun i=>by rw [co_C_mul];exact h5.mulR _
theorem gauss_prim:∀(N:Nat) (f g:Poly R),f.len+g.len≤N→Prim f→Prim g→Prim (f*g):=by
 intro N
 induction N with
 | zero=>
   intro f g hl hf _;have:=len_pos hf.ne;omega
 | succ N ih=>
   intro f g hl hf hg d hd;obtain ⟨x,hx⟩:=GDom.gcd_ex d f.lc;have u1:=gauss_half ih hl hf hg hd hx.l hx.r;obtain ⟨y,hy⟩:=GDom.gcd_ex d g.lc;have u2:=gauss_half (f:=g) (g:=f) (fun a b h p q=>ih a b h p q) (by omega) hg hf (by rw [CRing.mul_comm];exact hd) hy.l hy.r;have h1:IsG 1 d f.lc:=⟨Dv.one _,Dv.one _,fun e k l=>(hx.top e k l).trans u1⟩;have h2:Dv d (f.lc*g.lc):=by
    rw [←(len_mulD hf.ne hg.ne).2];exact hd _
   exact (hy.top d (Dv.refl d) (euclid h1 h2)).trans u2
theorem Prim.mul {f g:Poly R}(hf:Prim f) (hg:Prim g):Prim (f*g):=gauss_prim _ f g (Nat.le_refl _) hf hg
theorem Prim.ofC {d f:Poly R} {c:R}(hd:Prim d) (hc:c≠0) (h:Dv d (C c*f)):Dv d f:=by
 by_cases hf:f=0
 · rw [hf];exact Dv.zero d
 · obtain ⟨g,e⟩:=h
   have hg:g≠0:=fun e0=>mul_neD (C_neD hc) hf (by rw [e,e0,CRing.mul_zero]);obtain ⟨k,f',_,k2,k3,k4⟩:=cont_fac hf;obtain ⟨x,g',_,x2,x3,x4⟩:=cont_fac hg;have hp:=hd.mul x4;have e2:C (c*k)*f'=C x*(d*g'):=by
    rw [← C_mul_C,CRing.mul_assoc,← k3,e,x3];ac_rfl
   have h1:Dv x (c*k):=k4.cdv (by rw [e2];exact CDv.C x _);have h2:Dv (c*k) x:=hp.cdv (by rw [← e2];exact CDv.C _ _);obtain ⟨u,hu⟩:=h1;obtain ⟨v,hv⟩:=h2;have h3:u*v=1:=Dom.cancel x2 (by rw [← CRing.mul_assoc,← hu,← hv,CRing.mul_one]);have h4:C u*f'=d*g':=Dom.cancel (C_neD x2) (by rw [← CRing.mul_assoc,C_mul_C,← hu,e2]);have h5:f'=d*(C v*g'):=by
    (have h6:C v*(C u*f')=f':=by rw [← CRing.mul_assoc,C_mul_C,CRing.mul_comm v,h3,C_one,CRing.one_mul]);rw [← h6,h4];ac_rfl
   rw [k3];exact Dv.mulL ⟨_,h5⟩ _
structure PG (g x y:Poly R):Prop where
 pr:Prim g
 l:Dv g x
 r:Dv g y
 top:∀d,Prim d→Dv d x→Dv d y→Dv d g
theorem PG.zero {x:Poly R}(hx:Prim x):PG x x 0:=⟨hx,Dv.refl x,Dv.zero x,fun _ _ h _=>h⟩
theorem PG.step {g x y q r r':Poly R} {l c:R}(hl:l≠0) (hc:c≠0) (e:C l*x=q*y+r) (er:r=C c*r') (h:PG g y r'):PG g x y:=
 ⟨h.pr,h.pr.ofC hl (by rw [e,er];exact (h.l.mulL q).add (h.r.mulL _)),h.l,fun d hd h1 h2=>h.top d hd h2 (hd.ofC hc (by rw [← er];exact Dv.ofAdd (by rw [← e];exact h1.mulL _) (h2.mulL q)))⟩
theorem pg_ex:∀(N:Nat) (x y:Poly R),y.len≤N→Prim x→(y=0∨Prim y)→∃g,PG g x y:=by
 intro N
 induction N with
 | zero=>
   intro x y hl hx _;rw [len_eq_zero.1 (by omega:y.len=0)];exact ⟨x,PG.zero hx⟩
 | succ N ih=>
   intro x y hl hx hy;rcases hy with rfl | hy
   · exact ⟨x,PG.zero hx⟩
   · obtain ⟨k,q,r,h1,h2⟩:=pseudo hy.ne x.len x (Nat.le_refl _)
     have hlk:=Dom.pow_ne (lc_ne hy.ne) k;by_cases h0:r=0
     · obtain ⟨g,hg⟩:=ih y 0 (by rw [len_zero];omega) hy (.inl rfl)
       exact ⟨g,PG.step hlk Dom.one_ne h1 (by rw [h0,CRing.mul_zero]) hg⟩
     · obtain ⟨c,r',_,k2,k3,k4⟩:=cont_fac h0
       obtain ⟨g,hg⟩:=ih y r' (by have:r'.len=r.len:=by rw [k3,len_C_mulD k2]
                                  omega) hy (.inr k4)
       exact ⟨g,PG.step hlk k2 h1 k3 hg⟩
theorem isG_of {f g f' g' h:Poly R} {a b c:R}(ha:Cont a f) (hb:Cont b g) (hf:f≠0) (hg:g≠0) (ef:f=C a*f') (eg:g=C b*g') (hc:IsG c a b) (hp:PG h f' g'):IsG (C c*h) f g:=by
 have a0:=ha.ne hf
 have b0:=hb.ne hg
 have hCd:∀{x y:R},Dv x y→Dv (C x) (C y):=fun {x y} hxy=>by
  obtain ⟨z,rfl⟩:=hxy;exact ⟨C z,(C_mul_C x z).symm⟩
 refine ⟨by rw [ef];exact (hCd hc.l).mul hp.l,by rw [eg];exact (hCd hc.r).mul hp.r,fun d h1 h2=> ?_⟩
 have hd:d≠0:=fun e=>hf (Dv.of0 (by rw [e] at h1;exact h1))
 obtain ⟨e,d',k1,k2,k3,k4⟩:=cont_fac hd
 have h3:Dv e c:=hc.top e (ha.top e (CDv.ofDv (by rw [k3] at h1;exact (Dv.left _ _).trans h1))) (hb.top e (CDv.ofDv (by rw [k3] at h2;exact (Dv.left _ _).trans h2)))
 have h4:Dv d' h:=hp.top d' k4 (k4.ofC a0 (by rw [← ef];rw [k3] at h1;exact (Dv.right _ _).trans h1)) (k4.ofC b0 (by rw [← eg];rw [k3] at h2;exact (Dv.right _ _).trans h2))
 rw [k3]
 exact (hCd h3).mul h4
theorem isG_zero {R:Type} [CRing R] (a:R):IsG a a 0:=⟨Dv.refl a,Dv.zero a,fun _ h _=>h⟩
instance instGDomPoly:GDom (Poly R) where
 gcd_ex f g:=by
  by_cases hf:f=0
  · rw [hf];exact ⟨g,(isG_zero g).symm⟩
  · by_cases hg:g=0
    · rw [hg];exact ⟨f,isG_zero f⟩
    · obtain ⟨a,f',a1,a2,a3,a4⟩:=cont_fac hf
      obtain ⟨b,g',b1,b2,b3,b4⟩:=cont_fac hg;obtain ⟨c,hc⟩:=GDom.gcd_ex a b;obtain ⟨h,hh⟩:=pg_ex g'.len f' g' (Nat.le_refl _) a4 (.inr b4);exact ⟨_,isG_of a1 b1 hf hg a3 b3 hc hh⟩
end
end Poly
end Cl
namespace Cl
open CRing
def nS:Nat→(Nat→Nat)→Nat
 | 0,_=>0
 | n+1,f=>nS n f+f n
theorem nS_congr {n:Nat} {f g:Nat→Nat}(h:∀i,i<n→f i=g i):nS n f=nS n g:=by
 induction n with
 | zero=>rfl
 | succ n ih=>show nS n f+f n=nS n g+g n;rw [ih fun i hi=>h i (by omega),h n (by omega)]
theorem nS_le {n:Nat} {f g:Nat→Nat}(h:∀i,i<n→f i≤g i):nS n f≤nS n g:=by
 induction n with
 | zero=>exact Nat.le_refl _
 | succ n ih=>have h1:=ih fun i hi=>h i (by omega);have h2:=h n (by omega);show nS n f+f n≤nS n g+g n;omega
theorem nS_add (n:Nat) (f g:Nat→Nat):nS n (fun i=>f i+g i)=nS n f+nS n g:=by
 induction n with
 | zero=>rfl
 | succ n ih=>show nS n (fun i=>f i+g i)+(f n+g n)=nS n f+f n+(nS n g+g n);rw [ih];omega
theorem nS_mul (n c:Nat) (f:Nat→Nat):nS n (fun i=>c*f i)=c*nS n f:=by
 induction n with
 | zero=>rfl
 | succ n ih=>show nS n (fun i=>c*f i)+c*f n=c*(nS n f+f n);rw [ih,Nat.mul_add]
theorem nS_more {n m:Nat} {f:Nat→Nat}(hm:n≤m) (h:∀i,n≤i→f i=0):nS m f=nS n f:=by
 induction m with
 | zero=>rw [show n=0 by omega]
 | succ m ih=>
   rcases Nat.lt_or_ge m n with hl | hl
   · rw [show n=m+1 by omega]
   · show nS m f+f m=nS n f;rw [ih hl,h m hl];omega
theorem nS_const (n c:Nat):nS n (fun _=>c)=n*c:=by
 induction n with
 | zero=>show 0=0*c;rw [Nat.zero_mul]
 | succ n ih=>show nS n (fun _=>c)+c=(n+1)*c;rw [ih,Nat.add_mul,Nat.one_mul]
theorem nS_one {n:Nat} {f:Nat→Nat} {i:Nat}(hi:i<n):f i≤nS n f:=by
 induction n with
 | zero=>omega
 | succ n ih=>
   show f i≤nS n f+f n;by_cases e:i=n
   · rw [e];omega
   · have:=ih (by omega);omega
theorem nS_shift (n k:Nat) (f:Nat→Nat) (h:∀i,i<k→f i=0):nS (n+k) f=nS n (fun i=>f (i+k)):=by
 induction n with
 | zero=>
   rw [Nat.zero_add];show nS k f=0;have h1:nS k f=nS k fun _=>0:=nS_congr h;rw [h1,nS_const,Nat.mul_zero]
 | succ n ih=>rw [show n+1+k=(n+k)+1 by omega];show nS (n+k) f+f (n+k)=nS n _+f (n+k);rw [ih]
class Siz (R:Type) extends GDom R where
 nm:R→Nat
 nm_zero:nm 0=0
 nm_pos:∀a:R,a≠0→0<nm a
 nm_one:nm 1=1
 nm_add:∀a b:R,nm (a+b)≤nm a+nm b
 nm_neg:∀a:R,nm (-a)=nm a
 nm_mul:∀a b:R,nm (a*b)≤nm a*nm b
 nm_smul:∀(j:Nat) (a:R),nm (nsmul j a)=j*nm a
 dg:(Nat→Nat)→R→Prop
 dg_zero:∀D,dg D 0
 dg_one:∀D,dg D 1
 dg_add:∀D (a b:R),dg D a→dg D b→dg D (a+b)
 dg_neg:∀D (a:R),dg D a→dg D (-a)
 dg_mul:∀D E (a b:R),dg D a→dg E b→dg (fun j=>D j+E j) (a*b)
 dg_mono:∀D E (a:R),(∀j,D j≤E j)→dg D a→dg E a
 dg_smul:∀D (j:Nat) (a:R),j≠0→dg D (nsmul j a)→dg D a
 phi:(Nat→Nat)→Nat
 phi_pos:∀D,0<phi D
 factor:∀D (f g:R),f≠0→dg D f→Dv g f→dg D g∧nm g≤phi D*nm f
 vol:(Nat→Nat)→Nat
 vol_pos:∀D,0<vol D
 dg_inf:∀D E (a:R),dg D a→dg E a→dg (fun j=>min (D j) (E j)) a
 box:∀D X,∃L:List R,L.Pairwise (· ≠ ·)∧L.length=(X+1)^vol D∧∀a∈L,dg D a∧nm a≤X*vol D
 cobox:∀D Y,∃L:List R,L.length≤(2*Y+1)^vol D∧∀a,dg D a→nm a≤Y→a∈L
section
variable {R : Type} [Siz R]
theorem nm_sub (a b:R):Siz.nm (a - b)≤Siz.nm a+Siz.nm b:=by
 rw [sub_def]
 have h:=Siz.nm_add a (-b)
 rwa [Siz.nm_neg] at h
theorem dg_sub {D:Nat→Nat} {a b:R}(h:Siz.dg D a) (k:Siz.dg D b):Siz.dg D (a - b):=by
 rw [sub_def];exact Siz.dg_add D _ _ h (Siz.dg_neg D _ k)
theorem dg_sum {D:Nat→Nat} {n:Nat} {f:Nat→R}(h:∀i,i<n→Siz.dg D (f i)):Siz.dg D (sum n f):=by
 induction n with
 | zero=>exact Siz.dg_zero D
 | succ n ih=>rw [sum_succ];exact Siz.dg_add D _ _ (ih fun i hi=>h i (by omega)) (h n (by omega))
theorem nm_sum (n:Nat) (f:Nat→R):Siz.nm (sum n f)≤nS n fun i=>Siz.nm (f i):=by
 induction n with
 | zero=>rw [sum_zero,Siz.nm_zero];exact Nat.zero_le _
 | succ n ih=>
   rw [sum_succ];have:=Siz.nm_add (sum n f) (f n);show _≤nS n _+Siz.nm (f n);omega
theorem nm_pow (a:R) (h:1≤Siz.nm a):∀n:Nat,Siz.nm (a^n)≤Siz.nm a^n
 | 0=>by rw [CRing.pow_zero,Siz.nm_one,Nat.pow_zero];exact Nat.le_refl _
 | n+1=>by
   rw [CRing.pow_succ,Nat.pow_succ];exact Nat.le_trans (Siz.nm_mul _ _) (Nat.mul_le_mul_right _ (nm_pow a h n))
def ofN (R:Type) [CRing R] (j:Nat):R:=nsmul j 1
theorem nm_ofN (j:Nat):Siz.nm (ofN R j)=j:=by
 unfold ofN
 rw [Siz.nm_smul,Siz.nm_one,Nat.mul_one]
theorem dg_ofN (D:Nat→Nat):∀j:Nat,Siz.dg D (ofN R j)
 | 0=>Siz.dg_zero D
 | j+1=>by
   show Siz.dg D (nsmul j 1+1);exact Siz.dg_add D _ _ (dg_ofN D j) (Siz.dg_one D)
theorem ofN_mul (j:Nat) (a:R):ofN R j*a=nsmul j a:=(nsmul_eq_mul j a).symm
theorem ofN_add (i j:Nat):ofN R (i+j)=ofN R i+ofN R j:=nsmul_add i j 1
theorem diff_big {i j:Nat}(h:i≠j) (a:R):Siz.nm a≤Siz.nm ((ofN R i - ofN R j)*a)∧∀D,Siz.dg D ((ofN R i - ofN R j)*a)→Siz.dg D a:=by
 rcases Nat.lt_or_ge i j with hl | hl
 · obtain ⟨k,rfl⟩:∃k,j=i+(k+1):=⟨j - i - 1,by omega⟩
   have e:(ofN R i - ofN R (i+(k+1)))*a= -(nsmul (k+1) a):=by
    rw [ofN_add,← ofN_mul,← CRing.neg_mul];congr 1
    rw [sub_def,neg_add_rev,← CRing.add_assoc,add_neg,CRing.zero_add]
   rw [e];refine ⟨?_,fun D hd=> ?_⟩
   · rw [Siz.nm_neg,Siz.nm_smul];exact Nat.le_mul_of_pos_left _ (by omega)
   · have h2:=Siz.dg_neg D _ hd
     rw [CRing.neg_neg] at h2;exact Siz.dg_smul D _ a (by omega) h2
 · obtain ⟨k,rfl⟩:∃k,i=j+(k+1):=⟨i - j - 1,by omega⟩
   have e:(ofN R (j+(k+1)) - ofN R j)*a=nsmul (k+1) a:=by
    rw [ofN_add,← ofN_mul];congr 1
    rw [CRing.add_comm,add_sub_cancel]
   rw [e];exact ⟨by rw [Siz.nm_smul];exact Nat.le_mul_of_pos_left _ (by omega),fun D hd=>Siz.dg_smul D _ a (by omega) hd⟩
theorem ofN_ne {i j:Nat}(h:i≠j):ofN R i - ofN R j≠0:=fun e=>by
 have h1:=(diff_big (R:=R) h 1).1
 rw [e,CRing.zero_mul,Siz.nm_zero,Siz.nm_one] at h1
 omega
end
namespace Poly
section
variable {R : Type} [Siz R]
noncomputable def nmP (f:Poly R):Nat:=nS f.len fun i=>Siz.nm (f.co i)
theorem nmP_eq {f:Poly R} {n:Nat}(h:f.Sh n):nmP f=nS n fun i=>Siz.nm (f.co i):=
 (nS_more (len_le h) fun i hi=>by rw [len_sh f i hi,Siz.nm_zero]).symm
theorem nmP_zero:nmP (0:Poly R)=0:=by unfold nmP;rw [len_zero];rfl
theorem nmP_co (f:Poly R) (i:Nat):Siz.nm (f.co i)≤nmP f:=by
 rcases Nat.lt_or_ge i f.len with h | h
 · exact nS_one (f:=fun i=>Siz.nm (f.co i)) h
 · rw [len_sh f i h,Siz.nm_zero];exact Nat.zero_le _
theorem nmP_add (f g:Poly R):nmP (f+g)≤nmP f+nmP g:=by
 have hf:=(len_sh f).mono (show f.len≤f.len+g.len by omega)
 have hg:=(len_sh g).mono (show g.len≤f.len+g.len by omega)
 rw [nmP_eq hf,nmP_eq hg,nmP_eq (hf.add hg),← nS_add]
 exact nS_le fun i _=>Siz.nm_add _ _
theorem nmP_neg (f:Poly R):nmP (-f)=nmP f:=by
 rw [nmP_eq (len_sh f).neg,nmP_eq (len_sh f)]
 exact nS_congr fun i _=>Siz.nm_neg _
theorem nmP_mono_mul (n:Nat) (c:R) (g:Poly R):nmP (mono n c*g)≤Siz.nm c*nmP g:=by
 have hs:(mono n c*g).Sh (g.len+n):=fun i hi=>by
  rw [co_mono_mul];split
  · rw [len_sh g _ (by omega),CRing.mul_zero]
  · rfl
 rw [nmP_eq hs,nS_shift g.len n _ fun i hi=>by rw [co_mono_mul,if_neg (by omega),Siz.nm_zero]]
 unfold nmP
 rw [← nS_mul]
 exact nS_le fun i _=>by rw [co_mono_mul,if_pos (by omega),Nat.add_sub_cancel];exact Siz.nm_mul _ _
theorem nmP_split {f f1:Poly R} {n:Nat}(hf:f.Sh (n+1)) (h1:f1.Sh n) (e:f=mono n (f.co n)+f1):nmP f=Siz.nm (f.co n)+nmP f1:=by
 rw [nmP_eq hf,nmP_eq h1]
 show nS n _+Siz.nm (f.co n)=_
 rw [Nat.add_comm]
 congr 1
 refine nS_congr fun i hi=> ?_
 rw [e,co_add,co_mono,if_neg (by omega),CRing.zero_add]
theorem top_split (f:Poly R) {n:Nat}(hf:f.Sh (n+1)):∃f1:Poly R,f1.Sh n∧f=mono n (f.co n)+f1:=by
 refine ⟨f - mono n (f.co n),fun i hi=> ?_,by rw [sub_def,add_left_comm,add_neg,CRing.add_zero]⟩
 rw [co_sub,co_mono]
 by_cases e:i=n
 · rw [if_pos e,e,sub_self]
 · rw [if_neg e,hf i (by omega),sub_self]
theorem nmP_mul (g:Poly R):∀(n:Nat) (f:Poly R),f.Sh n→nmP (f*g)≤nmP f*nmP g
 | 0,f,h=>by rw [sh_zero h,CRing.zero_mul,nmP_zero];exact Nat.zero_le _
 | n+1,f,h=>by
   obtain ⟨f1,h1,e⟩:=top_split f h;have ih:=nmP_mul g n f1 h1;have h2:=nmP_mono_mul n (f.co n) g;have h3:f*g=mono n (f.co n)*g+f1*g:=by rw [← add_mul,← e]
   have h4:=nmP_add (mono n (f.co n)*g) (f1*g);rw [nmP_split h h1 e,h3,Nat.add_mul];omega
theorem nsmul_co (j:Nat) (f:Poly R) (i:Nat):(nsmul j f).co i=nsmul j (f.co i):=by
 induction j with
 | zero=>rfl
 | succ j ih=>show (nsmul j f+f).co i=nsmul j (f.co i)+f.co i;rw [co_add,ih]
theorem nsmul_z (j:Nat):nsmul j (0:R)=0:=nsmul_of_zero j
theorem nmP_smul (j:Nat) (f:Poly R):nmP (nsmul j f)=j*nmP f:=by
 have hs:(nsmul j f).Sh f.len:=fun i hi=>by rw [nsmul_co,len_sh f i hi,nsmul_z]
 rw [nmP_eq hs,nmP_eq (len_sh f),← nS_mul]
 exact nS_congr fun i _=>by rw [nsmul_co,Siz.nm_smul]
def dgP (D:Nat→Nat) (f:Poly R):Prop:=f.Sh (D 0+1)∧∀i,Siz.dg (fun j=>D (j+1)) (f.co i)
theorem dgP_add {D:Nat→Nat} {f g:Poly R}(h:dgP D f) (k:dgP D g):dgP D (f+g):=⟨h.1.add k.1,fun i=>Siz.dg_add _ _ _ (h.2 i) (k.2 i)⟩
theorem dgP_neg {D:Nat→Nat} {f:Poly R}(h:dgP D f):dgP D (-f):=⟨h.1.neg,fun i=>Siz.dg_neg _ _ (h.2 i)⟩
theorem dgP_mul {D E:Nat→Nat} {f g:Poly R}(h:dgP D f) (k:dgP E g):dgP (fun j=>D j+E j) (f*g):=
 ⟨h.1.mul k.1 (by show D 0+1+(E 0+1)≤D 0+E 0+1+1;omega),fun i=>by
   rw [co_mul];exact dg_sum fun k' _=>Siz.dg_mul (fun j=>D (j+1)) (fun j=>E (j+1)) _ _ (h.2 _) (k.2 _)⟩
theorem dgP_mono {D E:Nat→Nat} {f:Poly R}(h:∀j,D j≤E j) (k:dgP D f):dgP E f:=⟨k.1.mono (by have:=h 0;omega),fun i=>Siz.dg_mono _ _ _ (fun j=>h (j+1)) (k.2 i)⟩
theorem synth (r:R):∀(n:Nat) (g:Poly R),g.Sh (n+1)→∃g1:Poly R,g1.Sh n∧g=C (ev (fun a=>a) g r)+(X R - C r)*g1
 | 0,g,h=>⟨0,zero_sh 0,by
   have e:=eq_C h;rw [CRing.mul_zero,CRing.add_zero];conv=>rhs;rw [e,ev_C hom_id]
   exact e⟩
 | n+1,g,h=>by
   have hm:(X R - C r)*mono n (g.co (n+1))=mono (n+1) (g.co (n+1)) - C r*mono n (g.co (n+1)):=by
    rw [sub_mul];unfold X;rw [mono_mul,CRing.one_mul,Nat.add_comm 1 n]
   have hs:(g - (X R - C r)*mono n (g.co (n+1))).Sh (n+1):=fun i hi=>by
    rw [hm,co_sub,co_sub,co_mono,co_C_mul,co_mono];by_cases e:i=n+1
    · rw [if_pos e,if_neg (by omega),e,CRing.mul_zero,CRing.sub_zero,sub_self]
    · rw [if_neg e,if_neg (by omega),h i (by omega),CRing.mul_zero,CRing.sub_zero,sub_self]
   obtain ⟨g1,h1,h2⟩:=synth r n _ hs;have hev:ev (fun a=>a) (g - (X R - C r)*mono n (g.co (n+1))) r=ev (fun a=>a) g r:=by
    rw [ev_sub hom_id,ev_mul hom_id,ev_sub hom_id,ev_X hom_id,ev_C hom_id,sub_self,CRing.zero_mul,CRing.sub_zero]
   rw [hev] at h2;refine ⟨g1+mono n (g.co (n+1)),(h1.mono (by omega)).add fun i hi=>by rw [co_mono,if_neg (by omega)],?_⟩;rw [CRing.mul_add,← CRing.add_assoc,← h2,sub_add_cancel]
theorem roots_le:∀(n:Nat) (f:Poly R),f≠0→f.Sh (n+1)→∀L:List Nat,L.Pairwise (· ≠ ·)→(∀j∈L,ev (fun a=>a) f (ofN R j)=0)→L.length≤n
 | n,f,hf,hs,[],_,_=>Nat.zero_le _
 | 0,f,hf,hs,j::L,_,hL=>by
   exfalso;have h1:=hL j List.mem_cons_self;rw [eq_C hs,ev_C hom_id] at h1;exact hf (by rw [eq_C hs,h1,C_zero])
 | n+1,f,hf,hs,j::L,hp,hL=>by
   obtain ⟨h1,h2⟩:=List.pairwise_cons.1 hp;obtain ⟨g,k1,k2⟩:=synth (ofN R j) (n+1) f hs;rw [hL j List.mem_cons_self,C_zero,CRing.zero_add] at k2;have hg:g≠0:=fun e=>hf (by rw [k2,e,CRing.mul_zero]);have:=roots_le n g hg k1 L h2 fun i hi=>by
    have h3:=hL i (List.mem_cons_of_mem _ hi);rw [k2,ev_mul hom_id,ev_sub hom_id,ev_X hom_id,ev_C hom_id] at h3;rcases Dom.nz _ _ h3 with h4 | h4
    · exact absurd h4 (ofN_ne (fun e=>h1 i hi e.symm))
    · exact h4
   show L.length+1≤n+1;omega
theorem nonroots {f:Poly R} {D:Nat}(hf:f≠0) (hs:f.Sh (D+1)):∃P:List Nat,P.Pairwise (· ≠ ·)∧D+1≤P.length∧∀j∈P,j≤2*D∧ev (fun a=>a) f (ofN R j)≠0:=by
 have hr:(List.range (2*D+1)).Pairwise (· ≠ ·):=List.pairwise_lt_range.imp fun h e=>by omega
 refine ⟨(List.range (2*D+1)).filter fun j=> @decide (ev (fun a=>a) f (ofN R j)≠0) (Classical.propDecidable _),hr.filter _,?_,fun j hj=> ?_⟩
 · have h1:=roots_le D f hf hs ((List.range (2*D+1)).filter fun j=> !(@decide (ev (fun a=>a) f (ofN R j)≠0) (Classical.propDecidable _))) (hr.filter _) fun j hj=>by
    have h2:=(List.mem_filter.1 hj).2;refine Classical.byContradiction fun h3=> ?_;rw [@decide_eq_true _ (Classical.propDecidable _) h3] at h2;cases h2
   have h2:∀(l:List Nat) (p:Nat→Bool),(l.filter p).length+(l.filter fun x=> !p x).length=l.length:=fun l p=>by
    induction l with
    | nil=>rfl
    | cons x l ih=>cases hx:p x<;>simp [List.filter_cons,hx]<;>omega
   have h3:=h2 (List.range (2*D+1)) fun j=> @decide (ev (fun a=>a) f (ofN R j)≠0) (Classical.propDecidable _);rw [List.length_range] at h3;omega
 · obtain ⟨h1,h2⟩:=List.mem_filter.1 hj
   have:=List.mem_range.1 h1;exact ⟨by omega,@of_decide_eq_true _ (Classical.propDecidable _) h2⟩
theorem interp {B V:Nat} {D:Nat→Nat}:∀(m:Nat) (g:Poly R) (V:Nat) (P:List Nat),g.Sh (m+1)→P.Pairwise (· ≠ ·)→m+1≤P.length→(∀j∈P,j≤B∧Siz.nm (ev (fun a=>a) g (ofN R j))≤V∧Siz.dg D (ev (fun a=>a) g (ofN R j)))→nmP g≤V*(m+1)*(2*(B+1))^m∧∀i,Siz.dg D (g.co i)
 | _,_,_,[],_,_,hl,_=>absurd hl (by simp)
 | 0,g,V,p::P,hs,hp,hl,hv=>by
   have e:=eq_C hs;obtain ⟨_,h1,h2⟩:=hv p List.mem_cons_self;rw [e,ev_C hom_id] at h1 h2;refine ⟨?_,fun i=> ?_⟩
   · rw [nmP_eq hs,Nat.pow_zero]
     show 0+Siz.nm (g.co 0)≤_;omega
   · rw [e,co_C]
     split
     · exact h2
     · exact Siz.dg_zero D
 | m+1,g,V,p::P,hs,hp,hl,hv=>by
   obtain ⟨h1,h2⟩:=List.pairwise_cons.1 hp;obtain ⟨hpB,hpV,hpD⟩:=hv p List.mem_cons_self;obtain ⟨g1,k1,k2⟩:=synth (ofN R p) (m+1) g hs;have ih:=interp (B:=B) (V:=V) (D:=D) m g1 (2*V) P k1 h2 (by simpa using hl) fun j hj=>by
    obtain ⟨hjB,hjV,hjD⟩:=hv j (List.mem_cons_of_mem _ hj);have hne:j≠p:=fun e=>h1 j hj e.symm;have e1:(ofN R j - ofN R p)*ev (fun a=>a) g1 (ofN R j)=ev (fun a=>a) g (ofN R j) - ev (fun a=>a) g (ofN R p):=by
     (have e2:ev (fun a=>a) g (ofN R j)=ev (fun a=>a) (C (ev (fun a=>a) g (ofN R p))+(X R - C (ofN R p))*g1) (ofN R j):=by rw [← k2]);rw [e2,ev_add hom_id,ev_C hom_id,ev_mul hom_id,ev_sub hom_id,ev_X hom_id,ev_C hom_id,CRing.add_comm,add_sub_cancel]
    obtain ⟨b1,b2⟩:=diff_big (R:=R) hne (ev (fun a=>a) g1 (ofN R j));rw [e1] at b1 b2;have h3:=nm_sub (ev (fun a=>a) g (ofN R j)) (ev (fun a=>a) g (ofN R p));exact ⟨hjB,by omega,b2 D (dg_sub hjD hpD)⟩
   obtain ⟨i1,i2⟩:=ih;have hC:nmP (C (ev (fun a=>a) g (ofN R p)))≤V:=by
    rw [nmP_eq (sh_C _)];show 0+Siz.nm ((C (ev (fun a=>a) g (ofN R p))).co 0)≤V;rw [co_C,if_pos rfl];omega
   have hX:nmP (X R*g1)≤nmP g1:=by
    have h3:=nmP_mono_mul 1 (1:R) g1;rw [Siz.nm_one,Nat.one_mul] at h3;exact h3
   have hCg:nmP (C (ofN R p)*g1)≤p*nmP g1:=by
    have h3:=nmP_mono_mul 0 (ofN R p) g1;rw [nm_ofN] at h3;exact h3
   refine ⟨?_,fun i=> ?_⟩
   · have e3:g=C (ev (fun a=>a) g (ofN R p))+(X R*g1+ -(C (ofN R p)*g1)):=by
      conv=>lhs;rw [k2,sub_mul,sub_def]
     have h3:=nmP_add (C (ev (fun a=>a) g (ofN R p))) (X R*g1+ -(C (ofN R p)*g1));have h4:=nmP_add (X R*g1) (-(C (ofN R p)*g1));rw [nmP_neg] at h4;rw [← e3] at h3;have h5:(p+1)*nmP g1≤(B+1)*(2*V*(m+1)*(2*(B+1))^m):=Nat.mul_le_mul (by omega) i1;have e4:(B+1)*(2*V*(m+1)*(2*(B+1))^m)=V*(m+1)*(2*(B+1))^(m+1):=by
      rw [Nat.pow_succ];ac_rfl
     have h6:V*1≤V*(2*(B+1))^(m+1):=Nat.mul_le_mul_left _ (Nat.pow_pos (by omega));rw [Nat.add_mul,Nat.one_mul] at h5;rw [Nat.mul_add V (m+1) 1,Nat.add_mul,Nat.mul_one V];omega
   · rw [k2,co_add,co_C,sub_mul,co_sub,co_C_mul]
     have d1:Siz.dg D ((X R*g1).co i):=by
      unfold X;rw [co_mono_mul];split
      · rw [CRing.one_mul];exact i2 _
      · exact Siz.dg_zero D
     have d2:Siz.dg D (ofN R p*g1.co i):=Siz.dg_mono _ _ _ (fun j=>by show 0+D j≤D j;omega) (Siz.dg_mul (fun _=>0) D _ _ (dg_ofN _ p) (i2 i));refine Siz.dg_add D _ _ ?_ (dg_sub d1 d2);split
     · exact hpD
     · exact Siz.dg_zero D
theorem ev_nm {f:Poly R} {D j:Nat}(hs:f.Sh (D+1)) (hj:j≤2*D):Siz.nm (ev (fun a=>a) f (ofN R j))≤nmP f*(2*D+1)^D:=by
 rw [ev_eq hom_id hs,nmP_eq hs,Nat.mul_comm,← nS_mul]
 unfold evN
 refine Nat.le_trans (nm_sum _ _) (nS_le fun i hi=> ?_)
 refine Nat.le_trans (Siz.nm_mul _ _) ?_
 rw [Nat.mul_comm]
 refine Nat.mul_le_mul_right _ ?_
 by_cases h0:j=0
 · subst h0
   have e:(ofN R 0)^i=if i=0 then 1 else 0:=by
    by_cases hi0:i=0
    · rw [if_pos hi0,hi0,CRing.pow_zero]
    · rw [if_neg hi0];exact CRing.zero_pow (by omega)
   rw [e];have h1:1≤(2*D+1)^D:=Nat.pow_pos (by omega);split
   · rw [Siz.nm_one];exact h1
   · rw [Siz.nm_zero];omega
 · refine Nat.le_trans (nm_pow _ (by rw [nm_ofN];omega) i) ?_
   rw [nm_ofN];exact Nat.le_trans (Nat.pow_le_pow_left (show j≤2*D+1 by omega) i) (Nat.pow_le_pow_right (by omega) (by omega))
theorem ev_dg {f:Poly R} {D:Nat→Nat}(h:∀i,Siz.dg D (f.co i)) (j:Nat):Siz.dg D (ev (fun a=>a) f (ofN R j)):=by
 have hpow:∀i:Nat,Siz.dg (fun _=>0) ((ofN R j)^i):=fun i=>by
  induction i with
  | zero=>rw [CRing.pow_zero];exact Siz.dg_one _
  | succ i ih=>rw [CRing.pow_succ];exact Siz.dg_mul (fun _=>0) (fun _=>0) _ _ ih (dg_ofN _ j)
 exact dg_sum fun i _=>Siz.dg_mono _ _ _ (fun k=>by show D k+0≤D k;omega) (Siz.dg_mul D (fun _=>0) _ _ (h i) (hpow i))
def phiP (R:Type) [Siz R] (D:Nat→Nat):Nat:=Siz.phi R (fun j=>D (j+1))*(2*D 0+1)^D 0*(D 0+1)*(2*(2*D 0+1))^D 0
theorem factorP {D:Nat→Nat} {f g:Poly R}(hf:f≠0) (hd:dgP D f) (hg:Dv g f):dgP D g∧nmP g≤phiP R D*nmP f:=by
 have hsg:g.Sh (D 0+1):=(len_sh g).mono (Nat.le_trans (Dv.len_le hg hf) (len_le hd.1))
 obtain ⟨P,p1,p2,p3⟩:=nonroots hf hd.1
 have h:=interp (B:=2*D 0) (V:=0) (D:=fun j=>D (j+1)) (D 0) g (Siz.phi R (fun j=>D (j+1))*(nmP f*(2*D 0+1)^D 0)) P hsg p1 p2 fun j hj=>by
  obtain ⟨k1,k2⟩:=p3 j hj;obtain ⟨c,e⟩:=hg;have hdv:Dv (ev (fun a=>a) g (ofN R j)) (ev (fun a=>a) f (ofN R j)):=⟨ev (fun a=>a) c (ofN R j),by rw [e,ev_mul hom_id]⟩;obtain ⟨m1,m2⟩:=Siz.factor (fun j=>D (j+1)) _ _ k2 (ev_dg hd.2 j) hdv;exact ⟨k1,Nat.le_trans m2 (Nat.mul_le_mul_left _ (ev_nm hd.1 k1)),m1⟩
 refine ⟨⟨hsg,h.2⟩,Nat.le_trans h.1 (Nat.le_of_eq ?_)⟩
 unfold phiP
 ac_rfl
end
end Poly
end Cl
namespace Cl
open CRing
def listsOf {α:Type}(L:List α):Nat→List (List α)
 | 0=> [[]]
 | k+1=>(listsOf L k).flatMap fun l=>L.map fun x=>x::l
theorem flat_len {α β:Type} {f:α→List β} {c:Nat}:∀{l:List α},(∀a∈l,(f a).length=c)→(l.flatMap f).length=l.length*c
 | [],_=>by simp
 | a::l,h=>by
   rw [List.flatMap_cons,List.length_append,h a List.mem_cons_self,flat_len fun b hb=>h b (List.mem_cons_of_mem _ hb),List.length_cons,Nat.add_mul,Nat.one_mul,Nat.add_comm]
theorem listsOf_len {α:Type}(L:List α):∀k,(listsOf L k).length=L.length^k
 | 0=>rfl
 | k+1=>by
   show ((listsOf L k).flatMap _).length=_;rw [flat_len (c:=L.length) fun a _=>List.length_map _,listsOf_len L k,Nat.pow_succ]
theorem mem_listsOf {α:Type} {L:List α}:∀{k:Nat} {l:List α},l∈listsOf L k→l.length=k∧∀x∈l,x∈L
 | 0,l,h=>by
   rw [List.mem_singleton.1 h];exact ⟨rfl,fun x hx=>by cases hx⟩
 | k+1,l,h=>by
   obtain ⟨m,hm,h2⟩:=List.mem_flatMap.1 h;obtain ⟨x,hx,rfl⟩:=List.mem_map.1 h2;obtain ⟨k1,k2⟩:=mem_listsOf hm;exact ⟨by rw [List.length_cons,k1],fun y hy=>(List.mem_cons.1 hy).elim (fun e=>by rw [e];exact hx) (k2 y)⟩
theorem in_listsOf {α:Type} {L:List α}:∀{l:List α},(∀x∈l,x∈L)→l∈listsOf L l.length
 | [],_=>List.mem_cons_self
 | x::l,h=>List.mem_flatMap.2 ⟨l,in_listsOf fun y hy=>h y (List.mem_cons_of_mem _ hy),List.mem_map.2 ⟨x,h x List.mem_cons_self,rfl⟩⟩
theorem flat_nod {α β:Type} {f:α→List β}:∀{l:List α},l.Pairwise (· ≠ ·)→(∀a∈l,(f a).Pairwise (· ≠ ·))→(∀a∈l,∀b∈l,∀x,x∈f a→x∈f b→a=b)→(l.flatMap f).Pairwise (· ≠ ·)
 | [],_,_,_=>List.Pairwise.nil
 | a::l,h,h1,h2=>by
   obtain ⟨k1,k2⟩:=List.pairwise_cons.1 h;rw [List.flatMap_cons];refine List.pairwise_append.2 ⟨h1 a List.mem_cons_self,flat_nod k2 (fun b hb=>h1 b (List.mem_cons_of_mem _ hb)) fun b hb c hc=>h2 b (List.mem_cons_of_mem _ hb) c (List.mem_cons_of_mem _ hc),fun x hx y hy e=> ?_⟩;obtain ⟨b,hb,hy⟩:=List.mem_flatMap.1 hy;subst e;exact k1 b hb (h2 a List.mem_cons_self b (List.mem_cons_of_mem _ hb) x hx hy)
theorem listsOf_nod {α:Type} {L:List α}(h:L.Pairwise (· ≠ ·)):∀k,(listsOf L k).Pairwise (· ≠ ·)
 | 0=>List.pairwise_singleton _ _
 | k+1=>flat_nod (listsOf_nod h k) (fun l _=>List.pairwise_map.2 (h.imp fun hne e=>hne (List.cons.inj e).1)) fun a _ b _ x hx hy=>by
   obtain ⟨u,_,rfl⟩:=List.mem_map.1 hx;obtain ⟨v,_,e⟩:=List.mem_map.1 hy;exact (List.cons.inj e).2.symm
instance instGDomInt:GDom Int where
 one_ne:=by decide
 nz a b h:=Int.mul_eq_zero.1 h
 gcd_ex a b:=by
  refine ⟨(Int.gcd a b:Int),?_,?_,fun d h k=> ?_⟩
  · exact Int.gcd_dvd_left a b
  · exact Int.gcd_dvd_right a b
  · have h1:d∣a:=h
    have h2:d∣b:=k;exact Int.dvd_coe_gcd h1 h2
theorem nsmul_int (j:Nat) (a:Int):nsmul j a=(j:Int)*a:=by
 induction j with
 | zero=>show (0:Int)=((0:Nat):Int)*a;simp
 | succ j ih=>
   show nsmul j a+a=_;rw [ih];show (j:Int)*a+a=((j+1:Nat):Int)*a;rw [Int.natCast_add,Int.add_mul];simp
instance instSizInt:Siz Int where
 nm:=Int.natAbs
 nm_zero:=rfl
 nm_pos a h:=Int.natAbs_pos.2 h
 nm_one:=rfl
 nm_add:=Int.natAbs_add_le
 nm_neg:=Int.natAbs_neg
 nm_mul a b:=Nat.le_of_eq (Int.natAbs_mul a b)
 nm_smul j a:=by rw [nsmul_int,Int.natAbs_mul];rfl
 dg _ _:=True
 dg_zero _:=trivial
 dg_one _:=trivial
 dg_add _ _ _ _ _:=trivial
 dg_neg _ _ _:=trivial
 dg_mul _ _ _ _ _ _:=trivial
 dg_mono _ _ _ _ _:=trivial
 dg_smul _ _ _ _ _:=trivial
 phi _:=1
 phi_pos _:=Nat.one_pos
 factor D f g hf _ hg:=by
  refine ⟨trivial,?_⟩;obtain ⟨c,e⟩:=hg;have e2:f=g*c:=e;have hc:c≠0:=fun e0=>hf (by rw [e2,e0];exact Int.mul_zero g);rw [e2,Nat.one_mul,Int.natAbs_mul];exact Nat.le_mul_of_pos_right _ (Int.natAbs_pos.2 hc)
 vol _:=1
 vol_pos _:=Nat.one_pos
 dg_inf _ _ _ _ _:=trivial
 box _ X:=by
  refine ⟨(List.range (X+1)).map fun (i:Nat)=>(i:Int),List.pairwise_map.2 (List.pairwise_lt_range.imp fun h e=>by omega),by rw [List.length_map,List.length_range,Nat.pow_one],fun a ha=>⟨trivial,?_⟩⟩;obtain ⟨i,hi,rfl⟩:=List.mem_map.1 ha;have:=List.mem_range.1 hi;show ((i:Int)).natAbs≤_;omega
 cobox _ Y:=by
  refine ⟨(List.range (2*Y+1)).map fun (i:Nat)=>(i:Int) - Y,by rw [List.length_map,List.length_range,Nat.pow_one];exact Nat.le_refl _,fun a _ h=>List.mem_map.2 ⟨(a+Y).toNat,List.mem_range.2 ?_,?_⟩⟩
  · have h2:a.natAbs≤Y:=h
    omega
  · have h2:a.natAbs≤Y:=h
    show ((a+Y).toNat:Int) - Y=a;omega
namespace Poly
section
variable {R : Type} [Siz R]
def ofL (l:List R):Poly R:=⟨fun i=>l.getD i 0,l.length,fun i hi=>by simp [List.getD,hi]⟩
theorem co_ofL {l:List R} {i:Nat}(h:i<l.length):(ofL l).co i=l[i]:=by
 show l.getD i 0=_
 simp [List.getD,h]
theorem ofL_sh (l:List R):(ofL l).Sh l.length:=fun i hi=>by show l.getD i 0=0;simp [List.getD,hi]
theorem ofL_inj {l m:List R}(hl:l.length=m.length) (h:ofL l=ofL m):l=m:=
 List.ext_getElem hl fun i h1 h2=>by
  have:=congrArg (fun q:Poly R=>q.co i) h;rwa [co_ofL h1,co_ofL h2] at this
def volP (R:Type) [Siz R] (D:Nat→Nat):Nat:=(D 0+1)*Siz.vol R (fun j=>D (j+1))
theorem ofL_dg {D:Nat→Nat} {l:List R}(hl:l.length=D 0+1) (h:∀a∈l,Siz.dg (fun j=>D (j+1)) a):dgP D (ofL l):=by
 refine ⟨by rw [← hl];exact ofL_sh l,fun i=> ?_⟩
 rcases Nat.lt_or_ge i l.length with hi | hi
 · rw [co_ofL hi];exact h _ (List.getElem_mem hi)
 · rw [ofL_sh l i hi];exact Siz.dg_zero _
noncomputable instance instSizPoly:Siz (Poly R) where
 nm:=nmP
 nm_zero:=nmP_zero
 nm_pos f h:=by
  have h1:=nmP_co f (f.len - 1);have h2:=Siz.nm_pos _ (len_top (len_pos h));omega
 nm_one:=by
  rw [nmP_eq (f:=(1:Poly R)) (n:=1) (sh_C 1)];show 0+Siz.nm ((1:Poly R).co 0)=1;rw [co_one,if_pos rfl,Siz.nm_one]
 nm_add:=nmP_add
 nm_neg:=nmP_neg
 nm_mul f g:=nmP_mul g f.len f (len_sh f)
 nm_smul:=nmP_smul
 dg:=dgP
 dg_zero D:=⟨zero_sh _,fun _=>Siz.dg_zero _⟩
 dg_one D:=⟨(sh_C 1).mono (by omega),fun i=>by
  rw [co_one];split
  · exact Siz.dg_one _
  · exact Siz.dg_zero _⟩
 dg_add D _ _:=dgP_add
 dg_neg D _:=dgP_neg
 dg_mul D E _ _:=dgP_mul
 dg_mono D E _:=dgP_mono
 dg_smul D j f hj h:=⟨fun i hi=>by
  have h1:=h.1 i hi;rw [nsmul_co] at h1;refine Classical.byContradiction fun hne=> ?_;have h2:=Siz.nm_pos _ hne;have h3:=Siz.nm_smul (R:=R) j (f.co i);rw [h1,Siz.nm_zero] at h3;have h4:0<j*Siz.nm (f.co i):=Nat.mul_pos (by omega) h2;omega,fun i=>by
  have h1:=h.2 i;rw [nsmul_co] at h1;exact Siz.dg_smul _ j _ hj h1⟩
 phi:=phiP R
 phi_pos D:=Nat.mul_pos (Nat.mul_pos (Nat.mul_pos (Siz.phi_pos _) (Nat.pow_pos (by omega))) (by omega)) (Nat.pow_pos (by omega))
 factor D f g hf hd hg:=factorP hf hd hg
 vol:=volP R
 vol_pos D:=Nat.mul_pos (by omega) (Siz.vol_pos _)
 dg_inf D E f h k:=⟨fun i hi=>by
  by_cases h0:D 0≤E 0
  · exact h.1 i (by have:min (D 0) (E 0)=D 0:=Nat.min_eq_left h0
                    have hi':min (D 0) (E 0)+1≤i:=hi;omega)
  · exact k.1 i (by have:min (D 0) (E 0)=E 0:=Nat.min_eq_right (by omega)
                    have hi':min (D 0) (E 0)+1≤i:=hi;omega),fun i=>Siz.dg_inf _ _ _ (h.2 i) (k.2 i)⟩
 box D X:=by
  obtain ⟨L,l1,l2,l3⟩:=Siz.box (R:=R) (fun j=>D (j+1)) X;refine ⟨(listsOf L (D 0+1)).map ofL,List.pairwise_map.2 ((listsOf_nod l1 _).imp_of_mem fun {a b} ha hb hne e=>hne (ofL_inj ((mem_listsOf ha).1.trans (mem_listsOf hb).1.symm) e)),?_,fun a ha=> ?_⟩
  · rw [List.length_map,listsOf_len,l2,← Nat.pow_mul]
    unfold volP;rw [Nat.mul_comm (D 0+1)]
  · obtain ⟨l,hl,rfl⟩:=List.mem_map.1 ha
    obtain ⟨k1,k2⟩:=mem_listsOf hl;refine ⟨ofL_dg k1 fun x hx=>(l3 x (k2 x hx)).1,?_⟩;show nmP (ofL l)≤_;rw [nmP_eq (ofL_sh l),k1];refine Nat.le_trans (nS_le (g:=fun _=>X*Siz.vol R (fun j=>D (j+1))) fun i hi=> ?_) ?_
    · rw [co_ofL (by omega)]
      exact (l3 _ (k2 _ (List.getElem_mem (by omega)))).2
    · rw [nS_const]
      unfold volP;exact Nat.le_of_eq (by ac_rfl)
 cobox D Y:=by
  obtain ⟨L,l1,l2⟩:=Siz.cobox (R:=R) (fun j=>D (j+1)) Y;refine ⟨(listsOf L (D 0+1)).map ofL,?_,fun a ha hn=> ?_⟩
  · rw [List.length_map,listsOf_len]
    unfold volP;rw [Nat.mul_comm (D 0+1),Nat.pow_mul];exact Nat.pow_le_pow_left l1 _
  · have hl:((List.range (D 0+1)).map a.co).length=D 0+1:=by rw [List.length_map,List.length_range]
    have h1:=in_listsOf (L:=L) (l:=(List.range (D 0+1)).map a.co) fun x hx=>by
     obtain ⟨i,_,rfl⟩:=List.mem_map.1 hx;exact l2 _ (ha.2 i) (Nat.le_trans (nmP_co a i) hn)
    rw [hl] at h1;refine List.mem_map.2 ⟨_,h1,ext fun i=> ?_⟩;rcases Nat.lt_or_ge i (D 0+1) with hi | hi
    · rw [co_ofL (by omega),List.getElem_map,List.getElem_range]
    · rw [ofL_sh _ i (by omega),ha.1 i hi]
end
end Poly
end Cl
namespace Cl
abbrev Plc:=List Int
abbrev Trm:=Plc×Int
abbrev Mv:=List Trm
def sumL {α:Type}(f:α→Int):List α→Int
 | []=>0
 | a::L=>f a+sumL f L
section
variable {α β : Type}
theorem sumL_append (f:α→Int):∀L M:List α,sumL f (L++M)=sumL f L+sumL f M
 | [],M=>by show sumL f M=0+_;omega
 | a::L,M=>by show f a+sumL f (L++M)=f a+sumL f L+_;rw [sumL_append f L M];omega
theorem sumL_congr {f g:α→Int}:∀{L:List α},(∀a∈L,f a=g a)→sumL f L=sumL g L
 | [],_=>rfl
 | a::L,h=>by show f a+_=g a+_;rw [h a List.mem_cons_self,sumL_congr fun b hb=>h b (List.mem_cons_of_mem _ hb)]
theorem sumL_zero:∀L:List α,sumL (fun _=>(0:Int)) L=0
 | []=>rfl
 | a::L=>by show 0+sumL _ L=0;rw [sumL_zero L];rfl
theorem sumL_add (f g:α→Int):∀L:List α,sumL (fun a=>f a+g a) L=sumL f L+sumL g L
 | []=>rfl
 | a::L=>by show f a+g a+sumL _ L=f a+_+(g a+_);rw [sumL_add f g L];omega
theorem sumL_mul (c:Int) (f:α→Int):∀L:List α,sumL (fun a=>c*f a) L=c*sumL f L
 | []=>by show 0=c*0;rw [Int.mul_zero]
 | a::L=>by show c*f a+sumL _ L=c*(f a+_);rw [sumL_mul c f L,Int.mul_add]
theorem sumL_mulr (c:Int) (f:α→Int) (L:List α):sumL (fun a=>f a*c) L=sumL f L*c:=by
 rw [Int.mul_comm,← sumL_mul];exact sumL_congr fun a _=>Int.mul_comm _ _
theorem sumL_map (g:β→α) (f:α→Int):∀L:List β,sumL f (L.map g)=sumL (fun b=>f (g b)) L
 | []=>rfl
 | b::L=>by show f (g b)+sumL f (L.map g)=_;rw [sumL_map g f L];rfl
theorem sumL_flat (g:β→List α) (f:α→Int):∀L:List β,sumL f (L.flatMap g)=sumL (fun b=>sumL f (g b)) L
 | []=>rfl
 | b::L=>by rw [List.flatMap_cons,sumL_append,sumL_flat g f L];rfl
theorem sumL_swap (f:α→β→Int):∀(L:List α) (M:List β),sumL (fun a=>sumL (f a) M) L=sumL (fun b=>sumL (fun a=>f a b) L) M
 | [],M=>(sumL_zero M).symm
 | a::L,M=>by
   show sumL (f a) M+sumL _ L=_;rw [sumL_swap f L M,← sumL_add];rfl
theorem sumL_perm (f:α→Int) {L M:List α}(h:L.Perm M):sumL f L=sumL f M:=by
 induction h with
 | nil=>rfl
 | cons a _ ih=>show f a+_=f a+_;rw [ih]
 | swap a b L=>show f b+(f a+_)=f a+(f b+_);omega
 | trans _ _ ih1 ih2=>rw [ih1,ih2]
theorem sumL_only [DecidableEq α] {f:α→Int}:∀{L:List α} {a:α},L.Pairwise (· ≠ ·)→a∈L→(∀b∈L,b≠a→f b=0)→sumL f L=f a
 | b::L,a,hp,ha,h0=>by
   obtain ⟨h1,h2⟩:=List.pairwise_cons.1 hp;show f b+sumL f L=f a;rcases List.mem_cons.1 ha with rfl | ha
   · rw [sumL_congr (g:=fun _=>0) fun c hc=>h0 c (List.mem_cons_of_mem _ hc) (fun e=>h1 c hc e.symm),sumL_zero];omega
   · rw [h0 b List.mem_cons_self (h1 a ha),sumL_only h2 ha fun c hc=>h0 c (List.mem_cons_of_mem _ hc)];omega
end
def coM (L:Mv) (p:Plc):Int:=sumL (fun t:Trm=>if t.1=p then t.2 else 0) L
theorem coM_append (L M:Mv) (p:Plc):coM (L++M) p=coM L p+coM M p:=sumL_append _ _ _
theorem coM_cons (t:Trm) (L:Mv) (p:Plc):coM (t::L) p=(if t.1=p then t.2 else 0)+coM L p:=rfl
theorem coM_nil (p:Plc):coM [] p=0:=rfl
theorem coM_perm {L M:Mv}(h:L.Perm M) (p:Plc):coM L p=coM M p:=sumL_perm _ h
theorem coM_none {L:Mv} {p:Plc}(h:∀t∈L,t.1≠p):coM L p=0:=by
 unfold coM
 rw [sumL_congr (g:=fun _=>0) fun t ht=>if_neg (h t ht),sumL_zero]
def scaleM (c:Int) (L:Mv):Mv:=L.map fun t=>(t.1,c*t.2)
theorem coM_scale (c:Int) (L:Mv) (p:Plc):coM (scaleM c L) p=c*coM L p:=by
 unfold coM scaleM
 rw [sumL_map,← sumL_mul]
 refine sumL_congr fun t _=> ?_
 show (if t.1=p then c*t.2 else 0)=c*(if t.1=p then t.2 else 0)
 split
 · rfl
 · rw [Int.mul_zero]
def addP (a b:Plc):Plc:=List.zipWith (· + ·) a b
def subP (a b:Plc):Plc:=List.zipWith (· - ·) a b
theorem addP_length {a b:Plc} {n:Nat}(ha:a.length=n) (hb:b.length=n):(addP a b).length=n:=by unfold addP;rw [List.length_zipWith];omega
theorem subP_length {a b:Plc} {n:Nat}(ha:a.length=n) (hb:b.length=n):(subP a b).length=n:=by unfold subP;rw [List.length_zipWith];omega
theorem addP_comm:∀a b:Plc,addP a b=addP b a
 | [],b=>by cases b<;>rfl
 | x::a,[]=>rfl
 | x::a,y::b=>by
   show (x+y)::addP a b=(y+x)::addP b a;rw [addP_comm a b,Int.add_comm]
theorem addP_iff:∀{a b p:Plc},a.length=b.length→a.length=p.length→(addP a b=p↔a=subP p b)
 | [],[],[],_,_=>⟨fun _=>rfl,fun _=>rfl⟩
 | x::a,y::b,z::p,h1,h2=>by
   have ih:=addP_iff (a:=a) (b:=b) (p:=p) (by simpa using h1) (by simpa using h2);show (x+y)::addP a b=z::p↔x::a=(z - y)::subP p b;constructor
   · intro h
     injection h with h3 h4
     rw [← ih.1 h4,show x=z - y by omega]
   · intro h
     injection h with h3 h4
     rw [ih.2 h4,show x+y=z by omega]
def mulM (L M:Mv):Mv:=L.flatMap fun a=>M.map fun b=>(addP a.1 b.1,a.2*b.2)
theorem coM_mul (L M:Mv) (p:Plc):coM (mulM L M) p=sumL (fun a:Trm=>sumL (fun b:Trm=>if addP a.1 b.1=p then a.2*b.2 else 0) M) L:=by
 unfold coM mulM
 rw [sumL_flat]
 exact sumL_congr fun a _=>sumL_map _ _ _
theorem mulM_comm (L M:Mv) (p:Plc):coM (mulM L M) p=coM (mulM M L) p:=by
 rw [coM_mul,coM_mul,sumL_swap]
 exact sumL_congr fun b _=>sumL_congr fun a _=>by rw [addP_comm,Int.mul_comm]
theorem mulM_append (L M N:Mv):mulM (L++M) N=mulM L N++mulM M N:=by unfold mulM;rw [List.flatMap_append]
theorem flat_congr {α β:Type} {f g:α→List β}:∀{L:List α},(∀a∈L,f a=g a)→L.flatMap f=L.flatMap g
 | [],_=>rfl
 | a::L,h=>by rw [List.flatMap_cons,List.flatMap_cons,h a List.mem_cons_self,flat_congr fun b hb=>h b (List.mem_cons_of_mem _ hb)]
def LenM (n:Nat) (L:Mv):Prop:=∀t∈L,t.1.length=n
theorem LenM.append {n:Nat} {L M:Mv}(h:LenM n L) (k:LenM n M):LenM n (L++M):=fun t ht=>(List.mem_append.1 ht).elim (h t) (k t)
theorem LenM.scale {n:Nat} {L:Mv}(h:LenM n L) (c:Int):LenM n (scaleM c L):=fun t ht=>by
 obtain ⟨x,hx,rfl⟩:=List.mem_map.1 ht
 exact h x hx
theorem LenM.mul {n:Nat} {L M:Mv}(h:LenM n L) (k:LenM n M):LenM n (mulM L M):=fun t ht=>by
 obtain ⟨a,ha,ht⟩:=List.mem_flatMap.1 ht
 obtain ⟨b,hb,rfl⟩:=List.mem_map.1 ht
 exact addP_length (h a ha) (k b hb)
def EqM (n:Nat) (L M:Mv):Prop:=∀p:Plc,p.length=n→coM L p=coM M p
section
variable {n : Nat} {L L' M M' N : Mv}
theorem EqM.refl (n:Nat) (L:Mv):EqM n L L:=fun _ _=>rfl
theorem EqM.trans (h:EqM n L M) (k:EqM n M N):EqM n L N:=fun p hp=>(h p hp).trans (k p hp)
theorem EqM.add (h:EqM n L L') (k:EqM n M M'):EqM n (L++M) (L'++M'):=fun p hp=>by rw [coM_append,coM_append,h p hp,k p hp]
theorem EqM.perm (h:L.Perm M):EqM n L M:=fun p _=>coM_perm h p
theorem coM_mulR (hL:LenM n L) (hM:LenM n M) {p:Plc}(hp:p.length=n):coM (mulM L M) p=sumL (fun b:Trm=>coM L (subP p b.1)*b.2) M:=by
 rw [coM_mul,sumL_swap]
 refine sumL_congr fun b hb=> ?_
 unfold coM
 rw [← sumL_mulr]
 refine sumL_congr fun a ha=> ?_
 have h:=addP_iff (a:=a.1) (b:=b.1) (p:=p) ((hL a ha).trans (hM b hb).symm) ((hL a ha).trans hp.symm)
 by_cases e:addP a.1 b.1=p
 · rw [if_pos e,if_pos (h.1 e)]
 · rw [if_neg e,if_neg (fun e2=>e (h.2 e2)),Int.zero_mul]
theorem EqM.mulL (h:EqM n L L') (hL:LenM n L) (hL':LenM n L') (hM:LenM n M):EqM n (mulM L M) (mulM L' M):=fun p hp=>by
 rw [coM_mulR hL hM hp,coM_mulR hL' hM hp]
 exact sumL_congr fun b hb=>by rw [h _ (subP_length hp (hM b hb))]
theorem EqM.mul (h:EqM n L L') (k:EqM n M M') (hL:LenM n L) (hL':LenM n L') (hM:LenM n M) (hM':LenM n M'):EqM n (mulM L M) (mulM L' M'):=
 (h.mulL hL hL' hM).trans fun p hp=>by rw [mulM_comm,mulM_comm L'];exact k.mulL hM hM' hL' p hp
end
def ltP:Plc→Plc→Prop
 | x::a,y::b=>x<y∨(x=y∧ltP a b)
 | _,_=>False
instance decLtP:∀a b:Plc,Decidable (ltP a b)
 | [],_=> .isFalse id
 | _::_,[]=> .isFalse id
 | _x::a,_y::b=> @instDecidableOr _ _ _ (@instDecidableAnd _ _ _ (decLtP a b))
theorem ltP.irrefl:∀a:Plc,¬ltP a a
 | [],h=>h
 | x::a,h=>by
   rcases h with h | ⟨_,h⟩
   · omega
   · exact ltP.irrefl a h
theorem ltP.trans:∀{a b c:Plc},ltP a b→ltP b c→ltP a c
 | x::a,y::b,z::c,h,k=>by
   rcases h with h | ⟨rfl,h⟩
   · rcases k with k | ⟨rfl,k⟩
     · exact .inl (by omega)
     · exact .inl h
   · rcases k with k | ⟨rfl,k⟩
     · exact .inl k
     · exact .inr ⟨rfl,ltP.trans h k⟩
theorem ltP.tri:∀{a b:Plc},a.length=b.length→ltP a b∨a=b∨ltP b a
 | [],[],_=> .inr (.inl rfl)
 | x::a,y::b,h=>by
   rcases Int.lt_trichotomy x y with h1 | rfl | h1
   · exact .inl (.inl h1)
   · rcases ltP.tri (a:=a) (b:=b) (by simpa using h) with h2 | rfl | h2
     · exact .inl (.inr ⟨rfl,h2⟩)
     · exact .inr (.inl rfl)
     · exact .inr (.inr (.inr ⟨rfl,h2⟩))
   · exact .inr (.inr (.inl h1))
theorem ltP.add:∀{a b c d:Plc},a.length=c.length→b.length=d.length→a.length=b.length→ltP a b→(ltP c d∨c=d)→ltP (addP a c) (addP b d)
 | x::a,y::b,z::c,u::d,h1,h2,h3,h,k=>by
   have ih:=ltP.add (a:=a) (b:=b) (c:=c) (d:=d) (by simpa using h1) (by simpa using h2) (by simpa using h3);show x+z<y+u∨(x+z=y+u∧ltP (addP a c) (addP b d));rcases k with k | k
   · rcases h with h | ⟨rfl,h⟩<;>rcases k with k | ⟨rfl,k⟩
     · exact .inl (by omega)
     · exact .inl (by omega)
     · exact .inl (by omega)
     · exact .inr ⟨rfl,ih h (.inl k)⟩
   · injection k with k1 k2
     subst k1;rcases h with h | ⟨rfl,h⟩
     · exact .inl (by omega)
     · exact .inr ⟨rfl,ih h (.inr k2)⟩
structure PlainM (n:Nat) (L:Mv):Prop where
 len:LenM n L
 ord:L.Pairwise fun s t=>ltP t.1 s.1
 ne:∀t∈L,t.2≠0
section
variable {n : Nat} {L M : Mv}
theorem PlainM.nil (n:Nat):PlainM n []:=⟨fun t h=>(by cases h),List.Pairwise.nil,fun t h=>(by cases h)⟩
theorem PlainM.tail {t:Trm}(h:PlainM n (t::L)):PlainM n L:=⟨fun s hs=>h.len s (List.mem_cons_of_mem _ hs),(List.pairwise_cons.1 h.ord).2,fun s hs=>h.ne s (List.mem_cons_of_mem _ hs)⟩
theorem PlainM.co_head {t:Trm}(h:PlainM n (t::L)):coM (t::L) t.1=t.2:=by
 rw [coM_cons,if_pos rfl,coM_none fun s hs e=>ltP.irrefl t.1 (by have:=(List.pairwise_cons.1 h.ord).1 s hs;rwa [e] at this)];omega
theorem PlainM.co_above {t:Trm}(h:PlainM n (t::L)) {p:Plc}(hp:ltP t.1 p):coM (t::L) p=0:=by
 refine coM_none fun s hs e=> ?_
 subst e
 rcases List.mem_cons.1 hs with rfl | hs
 · exact ltP.irrefl _ hp
 · exact ltP.irrefl _ (ltP.trans hp ((List.pairwise_cons.1 h.ord).1 s hs))
theorem PlainM.co_mem:∀{L:Mv},PlainM n L→∀t∈L,coM L t.1=t.2
 | s::L,h,t,ht=>by
   rcases List.mem_cons.1 ht with rfl | ht
   · exact h.co_head
   · rw [coM_cons,if_neg fun e=>ltP.irrefl s.1 (by have:=(List.pairwise_cons.1 h.ord).1 t ht;rwa [← e] at this),h.tail.co_mem t ht];omega
theorem PlainM.unique:∀{L M:Mv},PlainM n L→PlainM n M→EqM n L M→L=M
 | [],[],_,_,_=>rfl
 | [],t::M,_,k,e=>by
   have h:=e t.1 (k.len t List.mem_cons_self);rw [k.co_head,coM_nil] at h;exact absurd h.symm (k.ne t List.mem_cons_self)
 | s::L,[],h,_,e=>by
   have h':=e s.1 (h.len s List.mem_cons_self);rw [h.co_head,coM_nil] at h';exact absurd h' (h.ne s List.mem_cons_self)
 | s::L,t::M,h,k,e=>by
   have e1:s.1=t.1:=by
    rcases ltP.tri ((h.len s List.mem_cons_self).trans (k.len t List.mem_cons_self).symm) with h1 | h1 | h1
    · have h2:=e t.1 (k.len t List.mem_cons_self)
      rw [k.co_head,h.co_above h1] at h2;exact absurd h2.symm (k.ne t List.mem_cons_self)
    · exact h1
    · have h2:=e s.1 (h.len s List.mem_cons_self)
      rw [h.co_head,k.co_above h1] at h2;exact absurd h2 (h.ne s List.mem_cons_self)
   have e2:s.2=t.2:=by
    have h2:=e s.1 (h.len s List.mem_cons_self);rw [h.co_head,e1,k.co_head] at h2;exact h2
   have e3:s=t:=Prod.ext e1 e2;subst e3;rw [PlainM.unique h.tail k.tail fun p hp=>by have:=e p hp;rw [coM_cons,coM_cons] at this;omega]
end
end Cl
namespace Cl
section
variable {n : Nat} {L M N : Mv}
theorem coM_ne {L:Mv} {p:Plc}(h:coM L p≠0):∃t∈L,t.1=p:=by
 by_cases hx:∃t∈L,t.1=p
 · exact hx
 · exact absurd (coM_none fun t ht e=>hx ⟨t,ht,e⟩) h
theorem PlainM.from_ (h:PlainM n L) (e:EqM n L M) {t:Trm}(ht:t∈L):∃s∈M,s.1=t.1:=by
 refine coM_ne (L:=M) ?_
 rw [← e t.1 (h.len t ht),h.co_mem t ht]
 exact h.ne t ht
theorem PlainM.nodup (h:PlainM n L):(L.map (·.1)).Pairwise (· ≠ ·):=
 List.pairwise_map.2 (h.ord.imp fun {s t}(hlt:ltP t.1 s.1) (e:s.1=t.1)=>ltP.irrefl t.1 (by rw [e] at hlt;exact hlt))
theorem nodup_le {α:Type} [DecidableEq α]:∀{l m:List α},l.Pairwise (· ≠ ·)→(∀x∈l,x∈m)→l.length≤m.length
 | [],_,_,_=>Nat.zero_le _
 | x::l,m,h,hs=>by
   obtain ⟨h1,h2⟩:=List.pairwise_cons.1 h;have hx:=hs x List.mem_cons_self;have h3:=nodup_le (l:=l) (m:=m.erase x) h2 fun y hy=>by
    have hne:y≠x:=fun e=>h1 y hy e.symm;exact (List.mem_erase_of_ne hne).2 (hs y (List.mem_cons_of_mem _ hy))
   have h4:=List.length_erase_of_mem hx;have h5:=List.length_pos_of_mem hx;show l.length+1≤_;omega
theorem PlainM.count (h:PlainM n L) (e:EqM n L M):L.length≤M.length:=by
 have h1:=nodup_le (l:=L.map (·.1)) (m:=M.map (·.1)) h.nodup fun p hp=>by
  obtain ⟨t,ht,rfl⟩:=List.mem_map.1 hp;obtain ⟨s,hs,e2⟩:=h.from_ e ht;exact List.mem_map.2 ⟨s,hs,e2⟩
 simpa using h1
def absM (L:Mv):Nat:=(L.map fun t=>t.2.natAbs).sum
theorem coM_abs:∀(L:Mv) (p:Plc),(coM L p).natAbs≤absM L
 | [],_=>by show (0:Int).natAbs≤0;omega
 | t::L,p=>by
   have ih:=coM_abs L p;rw [coM_cons];show _≤t.2.natAbs+absM L;split<;>omega
theorem absM_append (L M:Mv):absM (L++M)=absM L+absM M:=by unfold absM;rw [List.map_append,List.sum_append]
theorem absM_le {B:Nat}:∀{L:Mv},(∀t∈L,t.2.natAbs≤B)→absM L≤L.length*B
 | [],_=>Nat.zero_le _
 | t::L,h=>by
   have ih:=absM_le (L:=L) fun s hs=>h s (List.mem_cons_of_mem _ hs);have h1:=h t List.mem_cons_self;show t.2.natAbs+absM L≤(L.length+1)*B;rw [Nat.add_mul,Nat.one_mul];omega
theorem PlainM.small (h:PlainM n L) (e:EqM n L M) {t:Trm}(ht:t∈L):t.2.natAbs≤absM M:=by
 rw [← h.co_mem t ht,e t.1 (h.len t ht)]
 exact coM_abs M t.1
theorem mulM_length (L M:Mv):(mulM L M).length=L.length*M.length:=by
 induction L with
 | nil=>show 0=0*_;rw [Nat.zero_mul]
 | cons a L ih=>
   show ((M.map fun b=>(addP a.1 b.1,a.2*b.2))++mulM L M).length=_;rw [List.length_append,List.length_map,ih,List.length_cons,Nat.add_mul,Nat.one_mul];omega
def BdM (d:Int) (L:Mv):Prop:=∀t∈L,∀x∈t.1,0≤x∧x≤d
theorem BdM.mono {d e:Int}(h:BdM d L) (hd:d≤e):BdM e L:=fun t ht x hx=>by have:=h t ht x hx;omega
theorem mem_addP:∀{a b:Plc} {x:Int},x∈addP a b→∃y∈a,∃z∈b,x=y+z
 | [],b,x,h=>by cases b<;>cases h
 | y::a,[],x,h=>by cases h
 | y::a,z::b,x,h=>by
   rcases List.mem_cons.1 (show x∈(y+z)::addP a b from h) with rfl | h
   · exact ⟨y,List.mem_cons_self,z,List.mem_cons_self,rfl⟩
   · obtain ⟨u,hu,v,hv,e⟩:=mem_addP h
     exact ⟨u,List.mem_cons_of_mem _ hu,v,List.mem_cons_of_mem _ hv,e⟩
theorem BdM.mul {d e:Int}(h:BdM d L) (k:BdM e M):BdM (d+e) (mulM L M):=fun t ht x hx=>by
 obtain ⟨a,ha,ht⟩:=List.mem_flatMap.1 ht
 obtain ⟨b,hb,rfl⟩:=List.mem_map.1 ht
 obtain ⟨y,hy,z,hz,rfl⟩:=mem_addP hx
 have h1:=h a ha y hy
 have h2:=k b hb z hz
 omega
theorem PlainM.bd {d:Int}(h:PlainM n L) (e:EqM n L M) (hb:BdM d M):BdM d L:=fun t ht x hx=>by
 obtain ⟨s,hs,e2⟩:=h.from_ e ht
 exact hb s hs x (by rw [e2];exact hx)
theorem plain_of_sorted (hl:LenM n L) (hd:(L.map (·.1)).Pairwise (· ≠ ·)) (hz:∀t∈L,t.2≠0) (hs:L.Pairwise fun s t=>¬ltP s.1 t.1):PlainM n L:=by
 refine ⟨hl,?_,hz⟩
 have hd':=List.pairwise_map.1 hd
 have h3:L.Pairwise fun s t=>¬ltP s.1 t.1∧s.1≠t.1:=by
  clear hl hz hd;induction L with
  | nil=>exact List.Pairwise.nil
  | cons a L ih=>
    obtain ⟨h1,h2⟩:=List.pairwise_cons.1 hs;obtain ⟨k1,k2⟩:=List.pairwise_cons.1 hd';exact List.pairwise_cons.2 ⟨fun b hb=>⟨h1 b hb,k1 b hb⟩,ih h2 k2⟩
 refine h3.imp_of_mem fun {s t} hs ht ⟨h1,h2⟩=> ?_
 rcases ltP.tri ((hl s hs).trans (hl t ht).symm) with h | h | h
 · exact absurd h h1
 · exact absurd h h2
 · exact h
end
theorem coM_mem_of_nodup:∀{L:Mv},(L.map (·.1)).Pairwise (· ≠ ·)→∀t∈L,coM L t.1=t.2
 | s::L,h,t,ht=>by
   obtain ⟨h1,h2⟩:=List.pairwise_cons.1 (show (s.1::L.map (·.1)).Pairwise (· ≠ ·) from h);rcases List.mem_cons.1 ht with rfl | ht
   · rw [coM_cons,if_pos rfl,coM_none fun u hu e=>h1 u.1 (List.mem_map.2 ⟨u,hu,rfl⟩) e.symm];omega
   · rw [coM_cons,if_neg fun e=>h1 t.1 (List.mem_map.2 ⟨t,ht,rfl⟩) e,coM_mem_of_nodup h2 t ht];omega
end Cl
namespace Cl
open CRing
theorem pigeon {α β:Type}(f:α→β) {l:List α} {m:List β}(hn:l.Pairwise (· ≠ ·)) (hm:∀x∈l,f x∈m) (hl:m.length<l.length):∃x∈l,∃y∈l,x≠y∧f x=f y:=by
 refine Classical.byContradiction fun h=> ?_
 have h1:(l.map f).Pairwise (· ≠ ·):=List.pairwise_map.2 (hn.imp_of_mem fun {x y} hx hy hne e=>h ⟨x,hx,y,hy,hne,e⟩)
 have h2:=@nodup_le _ (fun a b=>Classical.propDecidable (a=b)) _ m h1 fun y hy=>by
  obtain ⟨x,hx,rfl⟩:=List.mem_map.1 hy;exact hm x hx
 rw [List.length_map] at h2
 omega
namespace Poly
section
variable {R : Type} [Dom R] {a b x y u v u' v' : Poly R} {A B D : R}
structure Seq (a b x y u v u' v':Poly R) (A B D:R):Prop where
 hA:A≠0
 hB:B≠0
 hD:D≠0
 ex:C A*x=u*a+v*b
 ey:C B*y=u'*a+v'*b
 det:u*v' - u'*v=C D
 lv:v.len+x.len≤a.len+1
 lv':v'.len+x.len≤a.len+1
theorem len_mul_le {f g:Poly R}(hf:f≠0):(f*g).len≤f.len+g.len - 1:=by
 by_cases hg:g=0
 · rw [hg,CRing.mul_zero,len_zero];omega
 · rw [(len_mulD hf hg).1];exact Nat.le_refl _
theorem len_mul_le2 (f g:Poly R):(f*g).len≤f.len+g.len - 1:=by
 by_cases hf:f=0
 · rw [hf,CRing.zero_mul,len_zero];omega
 · exact len_mul_le hf
theorem len_sub_le (f g:Poly R):(f - g).len≤max f.len g.len:=len_le (((len_sh f).mono (by omega)).sub ((len_sh g).mono (by omega)))
theorem len_add_le (f g:Poly R):(f+g).len≤max f.len g.len:=len_le (((len_sh f).mono (by omega)).add ((len_sh g).mono (by omega)))
theorem Seq.next {q r:Poly R} {l c:R}(h:Seq a b x y u v u' v' A B D) (hl:l≠0) (hc:c≠0) (e:C l*x=q*y+C c*r) (hq:q.len+y.len≤x.len+1) (hyx:y.len≤x.len):
 Seq a b y r u' v' (C (B*l)*u - C A*(q*u')) (C (B*l)*v - C A*(q*v')) B (A*B*c) (-(B*l*D)):=by
 obtain ⟨hA,hB,hD,ex,ey,det,lv,lv'⟩:=h
 have hBl:=Dom.mul_ne hB hl
 refine ⟨hB,Dom.mul_ne (Dom.mul_ne hA hB) hc,fun e0=>Dom.mul_ne hBl hD (CRing.neg_eq_zero.1 e0),ey,?_,?_,by omega,?_⟩
 · have e1:C (A*B*c)*r=C (B*l)*(C A*x) - C A*(q*(C B*y)):=by
    (have e2:C c*r=C l*x - q*y:=by rw [e,CRing.add_comm,add_sub_cancel]);rw [← C_mul_C,CRing.mul_assoc,e2,CRing.mul_sub,← C_mul_C,← C_mul_C];congr 1<;>ac_rfl
   rw [e1,ex,ey,CRing.mul_add,sub_mul,sub_mul,CRing.mul_add,CRing.mul_add,sub_def,sub_def,sub_def,neg_add_rev];have k1:C (B*l)*(u*a)=C (B*l)*u*a:=by ac_rfl
   have k2:C (B*l)*(v*b)=C (B*l)*v*b:=by ac_rfl
   have k3:C A*(q*(u'*a))=C A*(q*u')*a:=by ac_rfl
   have k4:C A*(q*(v'*b))=C A*(q*v')*b:=by ac_rfl
   rw [k1,k2,k3,k4];ac_rfl
 · have e3:u'*(C (B*l)*v - C A*(q*v')) - (C (B*l)*u - C A*(q*u'))*v'= -(C (B*l)*(u*v' - u'*v)):=by
    (have k1:u'*(C A*(q*v'))=C A*(q*u')*v':=by ac_rfl);(have k2:u'*(C (B*l)*v)=C (B*l)*(u'*v):=by ac_rfl);(have k3:C (B*l)*u*v'=C (B*l)*(u*v'):=by ac_rfl);rw [CRing.mul_sub,sub_mul,CRing.mul_sub,k1,k2,k3,CRing.neg_sub];generalize C (B*l)*(u'*v)=s;generalize C A*(q*u')*v'=t;generalize C (B*l)*(u*v')=w;have k5:s - t - (w - t)=s - w:=by
     rw [sub_def,sub_def,sub_def,sub_def,neg_add_rev,CRing.neg_neg,CRing.add_assoc,CRing.add_comm (-w),← CRing.add_assoc (-t),CRing.neg_add,CRing.zero_add]
    exact k5
   rw [e3,det,C_mul_C,C_neg]
 · have h1:=len_sub_le (C (B*l)*v) (C A*(q*v'))
   have h2:=len_C_mulD hBl v;have h3:=len_C_mulD hA (q*v');have h4:=len_mul_le2 q v';omega
end
section
variable {R : Type} [GDom R] {a b x y u v u' v' al be : Poly R} {A B D : R}
theorem Seq.span (h:Seq a b x y u v u' v' A B D) (hp:Prim y) (hyx:y.len<x.len) (hS:(al*a+be*b).len<x.len) (hb:be.len+x.len≤a.len+1) (h0:al≠0∨be≠0):al*a+be*b≠0∧Dv y (al*a+be*b):=by
 obtain ⟨hA,hB,hD,ex,ey,det,lv,lv'⟩:=h
 obtain ⟨S,hSe⟩:∃S,al*a+be*b=S:=⟨_,rfl⟩
 rw [hSe] at hS ⊢
 have e1:S*v' - C B*y*be=a*(al*v' - u'*be):=by
  rw [← hSe,ey,add_mul,add_mul,CRing.mul_sub];have k1:al*a*v'=a*(al*v'):=by ac_rfl
  have k2:u'*a*be=a*(u'*be):=by ac_rfl
  have k3:be*b*v'=v'*b*be:=by ac_rfl
  rw [k1,k2,k3];generalize a*(al*v')=s;generalize a*(u'*be)=t;generalize v'*b*be=w;rw [sub_def,sub_def,neg_add_rev,CRing.add_assoc,CRing.add_comm (-t),← CRing.add_assoc w,CRing.add_neg,CRing.zero_add]
 have hz:al*v' - u'*be=0:=Classical.byContradiction fun hne=>by
  by_cases ha:a=0
  · rw [ha,len_zero] at lv' hb
    have z1:v'=0:=len_eq_zero.1 (by omega);have z2:be=0:=len_eq_zero.1 (by omega);exact hne (by rw [z1,z2,CRing.mul_zero,CRing.mul_zero,sub_self])
  · have h1:=(len_mulD ha hne).1
    have h2:=len_pos hne;have h3:=len_pos ha;rw [← e1] at h1;have h4:=len_sub_le (S*v') (C B*y*be);have h5:=len_mul_le2 S v';have h6:(C B*y*be).len≤y.len+be.len - 1:=by
     have:=len_mul_le2 (C B*y) be;rwa [len_C_mulD hB] at this
    omega
 have hav:al*v'=u'*be:=sub_eq_zero.1 hz
 have s1:S*v'=C B*y*be:=sub_eq_zero.1 (by rw [e1,hz,CRing.mul_zero])
 have s2:S*u'=C B*y*al:=by
  rw [← hSe,ey,add_mul,add_mul];have k1:al*a*u'=u'*a*al:=by ac_rfl
  have k2:be*b*u'=b*(u'*be):=by ac_rfl
  have k3:v'*b*al=b*(al*v'):=by ac_rfl
  rw [k1,k2,k3,hav]
 have hBy:C B*y≠0:=mul_neD (C_neD hB) hp.ne
 refine ⟨fun e=> ?_,?_⟩
 · rw [e,CRing.zero_mul] at s1 s2
   rcases h0 with h0 | h0
   · exact mul_neD hBy h0 s2.symm
   · exact mul_neD hBy h0 s1.symm
 · have e3:C D*S=y*(C B*(u*be - al*v)):=by
    have k1:C D*S=u*(S*v') - v*(S*u'):=by
     rw [← det,sub_mul];congr 1<;>ac_rfl
    rw [k1,s1,s2,CRing.mul_sub,CRing.mul_sub];congr 1<;>ac_rfl
   exact hp.ofC hD ⟨_,e3⟩
end
section
variable {R : Type} [Siz R]
theorem siegel {a b:Poly R} {lx H X Y:Nat} {D E:Nat→Nat}(h1:1≤lx) (ha:lx≤a.len) (hb:lx≤b.len) (da:∀i,Siz.dg D (a.co i)) (db:∀i,Siz.dg D (b.co i)) (na:Siz.nm a≤H) (nb:Siz.nm b≤H)
 (hY:(a.len+b.len - 2*lx+2)*(X*Siz.vol R E)*H≤Y) (hc:(2*Y+1)^(Siz.vol R (fun j=>E j+D j)*(a.len+b.len - 2*lx+1))<(X+1)^(Siz.vol R E*(a.len+b.len - 2*lx+2))):
 ∃al be:Poly R,(al≠0∨be≠0)∧(al*a+be*b).len<lx∧be.len+lx≤a.len+1∧Siz.nm (al*a+be*b)≤2*Y∧∀i,Siz.dg (fun j=>E j+D j) ((al*a+be*b).co i):=by
 obtain ⟨L,l1,l2,l3⟩:=Siz.box (R:=R) E X
 obtain ⟨L',m1,m2⟩:=Siz.cobox (R:=R) (fun j=>E j+D j) Y
 obtain ⟨t,ht⟩:∃t,a.len+b.len - 2*lx=t:=⟨_,rfl⟩
 obtain ⟨p,hp⟩:∃p,b.len+1 - lx=p:=⟨_,rfl⟩
 rw [ht] at hY hc
 have sp:∀l∈listsOf L (t+2),(ofL (l.take p)).Sh p∧(ofL (l.drop p)).Sh (a.len+1 - lx)∧Siz.nm (ofL (l.take p)*a+ofL (l.drop p)*b)≤Y∧∀i,Siz.dg (fun j=>E j+D j) ((ofL (l.take p)*a+ofL (l.drop p)*b).co i):=fun l hl=>by
  obtain ⟨k1,k2⟩:=mem_listsOf hl;have lt:(l.take p).length=p:=by rw [List.length_take];omega
  have ld:(l.drop p).length=a.len+1 - lx:=by rw [List.length_drop];omega
  have s1:=ofL_sh (l.take p);have s2:=ofL_sh (l.drop p);rw [lt] at s1;rw [ld] at s2;have nmL:∀(m:List R),(∀z∈m,z∈L)→nmP (ofL m)≤m.length*(X*Siz.vol R E):=fun m hm=>by
   rw [nmP_eq (ofL_sh m)];refine Nat.le_trans (nS_le (g:=fun _=>X*Siz.vol R E) fun i hi=> ?_) (Nat.le_of_eq (nS_const _ _));rw [co_ofL hi];exact (l3 _ (hm _ (List.getElem_mem hi))).2
  have n1:=nmL (l.take p) fun z hz=>k2 z (List.mem_of_mem_take hz);have n2:=nmL (l.drop p) fun z hz=>k2 z (List.mem_of_mem_drop hz);rw [lt] at n1;rw [ld] at n2;have dgL:∀(m:List R),(∀z∈m,z∈L)→∀i,Siz.dg E ((ofL m).co i):=fun m hm i=>by
   rcases Nat.lt_or_ge i m.length with hi | hi
   · rw [co_ofL hi];exact (l3 _ (hm _ (List.getElem_mem hi))).1
   · rw [ofL_sh m i hi];exact Siz.dg_zero _
  refine ⟨s1,s2,?_,fun i=> ?_⟩
  · refine Nat.le_trans (Siz.nm_add _ _) (Nat.le_trans (Nat.add_le_add (Siz.nm_mul _ _) (Siz.nm_mul _ _)) (Nat.le_trans (Nat.add_le_add (Nat.mul_le_mul n1 na) (Nat.mul_le_mul n2 nb)) ?_))
    rw [← Nat.add_mul,← Nat.add_mul];rwa [show p+(a.len+1 - lx)=t+2 by omega]
  · rw [co_add,co_mul,co_mul]
    exact Siz.dg_add _ _ _ (dg_sum fun k _=>Siz.dg_mul E D _ _ (dgL _ (fun z hz=>k2 z (List.mem_of_mem_take hz)) k) (da _)) (dg_sum fun k _=>Siz.dg_mul E D _ _ (dgL _ (fun z hz=>k2 z (List.mem_of_mem_drop hz)) k) (db _))
 obtain ⟨l,hl,m,hm,hne,he⟩:=pigeon (fun l:List R=>(List.range (t+1)).map fun i=>(ofL (l.take p)*a+ofL (l.drop p)*b).co (lx - 1+i)) (l:=listsOf L (t+2)) (m:=listsOf L' (t+1)) (listsOf_nod l1 _) (fun l hl=>by
  obtain ⟨_,_,k3,k4⟩:=sp l hl;have h2:=in_listsOf (L:=L') (l:=(List.range (t+1)).map fun i=>(ofL (l.take p)*a+ofL (l.drop p)*b).co (lx - 1+i)) fun z hz=>by
   obtain ⟨i,_,rfl⟩:=List.mem_map.1 hz;exact m2 _ (k4 _) (Nat.le_trans (nmP_co _ _) k3)
  rwa [List.length_map,List.length_range] at h2) (by
  rw [listsOf_len,listsOf_len,l2,← Nat.pow_mul];refine Nat.lt_of_le_of_lt (Nat.pow_le_pow_left m1 _) ?_;rw [← Nat.pow_mul];exact hc)
 obtain ⟨a1,a2,a3,a4⟩:=sp l hl
 obtain ⟨b1,b2,b3,b4⟩:=sp m hm
 have eS:(ofL (l.take p) - ofL (m.take p))*a+(ofL (l.drop p) - ofL (m.drop p))*b=(ofL (l.take p)*a+ofL (l.drop p)*b) - (ofL (m.take p)*a+ofL (m.drop p)*b):=by
  rw [sub_mul,sub_mul,sub_def,sub_def,sub_def,neg_add_rev];ac_rfl
 have hsub:=a2.sub b2
 have hlen:=len_le hsub
 refine ⟨ofL (l.take p) - ofL (m.take p),ofL (l.drop p) - ofL (m.drop p),?_,?_,?_,?_,?_⟩
 · refine Classical.byContradiction fun h=>hne ?_
   have k1:=(mem_listsOf hl).1;have k2:=(mem_listsOf hm).1;have e1:l.take p=m.take p:=ofL_inj (by rw [List.length_take,List.length_take,k1,k2]) (sub_eq_zero.1 (Classical.byContradiction fun h2=>h (.inl h2)));have e2:l.drop p=m.drop p:=ofL_inj (by rw [List.length_drop,List.length_drop,k1,k2]) (sub_eq_zero.1 (Classical.byContradiction fun h2=>h (.inr h2)));rw [← List.take_append_drop p l,← List.take_append_drop p m,e1,e2]
 · have hs:((ofL (l.take p) - ofL (m.take p))*a+(ofL (l.drop p) - ofL (m.drop p))*b).Sh (lx - 1):=fun i hi=>by
    rcases Nat.lt_or_ge i (lx - 1+(t+1)) with h2 | h2
    · rw [eS,co_sub]
      have h3:(ofL (l.take p)*a+ofL (l.drop p)*b).co (lx - 1+(i - (lx - 1)))=(ofL (m.take p)*a+ofL (m.drop p)*b).co (lx - 1+(i - (lx - 1))):=List.map_inj_left.1 he (i - (lx - 1)) (List.mem_range.2 (by omega));rw [show lx - 1+(i - (lx - 1))=i by omega] at h3;rw [h3,sub_self]
    · exact (((a1.sub b1).mul (len_sh a) (k:=lx - 1+(t+1)) (by omega)).add (hsub.mul (len_sh b) (by omega))) i h2
   have:=len_le hs;omega
 · omega
 · rw [eS]
   refine Nat.le_trans (nm_sub _ _) ?_;omega
 · intro i
   rw [eS,co_sub];exact dg_sub (a4 i) (b4 i)
end
end Poly
end Cl
namespace Cl
open CRing
def lg (n:Nat):Nat:=Nat.log2 n+1
theorem lt_lg (n:Nat):n<2^lg n:=by
 unfold lg
 exact Nat.lt_log2_self
theorem le_pow_lg (n:Nat):n≤2^lg n:=Nat.le_of_lt (lt_lg n)
theorem pow_le_bits {a b k:Nat}(h:a≤2^b):a^k≤2^(b*k):=by
 rw [Nat.pow_mul];exact Nat.pow_le_pow_left h k
theorem mul_le_bits {a b x y:Nat}(h:a≤2^x) (k:b≤2^y):a*b≤2^(x+y):=by
 rw [Nat.pow_add];exact Nat.mul_le_mul h k
theorem count_ok {Q c M N X Y:Nat}(hX:X=Q^c) (hQ:1≤Q) (hY:2*Y+1≤Q*X) (hN:0<N) (hc:(c+1)*M≤c*N):(2*Y+1)^M<(X+1)^N:=by
 refine Nat.lt_of_le_of_lt (Nat.pow_le_pow_left hY M) ?_
 have h1:(Q*X)^M≤X^N:=by
  have e1:Q*X=Q^(c+1):=by rw [hX,Nat.pow_succ,Nat.mul_comm]
  rw [e1,hX,← Nat.pow_mul,← Nat.pow_mul];exact Nat.pow_le_pow_right hQ hc
 exact Nat.lt_of_le_of_lt h1 (Nat.pow_lt_pow_left (Nat.lt_succ_self X) (by omega))
namespace Poly
section
variable {R : Type} [Siz R] {a b x y u v u' v' : Poly R} {A B D : R}
def consD (d:Nat) (E:Nat→Nat):Nat→Nat
 | 0=>d
 | j+1=>E j
theorem Seq.small {H X Y:Nat} {Di E:Nat→Nat}(h:Seq a b x y u v u' v' A B D) (hp:Prim y) (hyx:y.len<x.len) (ha:x.len≤a.len) (hb:x.len≤b.len) (da:∀i,Siz.dg Di (a.co i)) (db:∀i,Siz.dg Di (b.co i)) (na:Siz.nm a≤H) (nb:Siz.nm b≤H)
 (hY:(a.len+b.len - 2*x.len+2)*(X*Siz.vol R E)*H≤Y) (hc:(2*Y+1)^(Siz.vol R (fun j=>E j+Di j)*(a.len+b.len - 2*x.len+1))<(X+1)^(Siz.vol R E*(a.len+b.len - 2*x.len+2))):
 dgP (consD (x.len - 2) fun j=>E j+Di j) y∧nmP y≤phiP R (consD (x.len - 2) fun j=>E j+Di j)*(2*Y):=by
 have hy0:=len_pos hp.ne
 obtain ⟨al,be,k1,k2,k3,k4,k5⟩:=siegel (X:=X) (Y:=Y) (D:=Di) (E:=E) (show 1≤x.len by omega) ha hb da db na nb hY hc
 obtain ⟨s1,s2⟩:=h.span hp hyx k2 k3 k1
 have hd:dgP (consD (x.len - 2) fun j=>E j+Di j) (al*a+be*b):=⟨(len_sh _).mono (by show _≤x.len - 2+1;omega),k5⟩
 obtain ⟨f1,f2⟩:=factorP s1 hd s2
 exact ⟨f1,Nat.le_trans f2 (Nat.mul_le_mul_left _ k4)⟩
end
end Poly
end Cl
namespace Cl
open CRing
noncomputable def PnS:Nat→(R:Type)×Siz R
 | 0=>⟨Int,instSizInt⟩
 | n+1=>⟨@Poly (PnS n).1 (PnS n).2.toGDom.toDom.toCRing,@Poly.instSizPoly (PnS n).1 (PnS n).2⟩
def Pn (n:Nat):Type:=(PnS n).1
noncomputable instance instPn (n:Nat):Siz (Pn n):=(PnS n).2
def ofZ (z:Int):Pn 0:=z
def toZ (z:Pn 0):Int:=z
def kids {n:Nat}(f:Pn (n+1)):Poly (Pn n):=f
def mkK {n:Nat}(f:Poly (Pn n)):Pn (n+1):=f
section
variable {n : Nat}
theorem kids_mk (f:Poly (Pn n)):kids (mkK f)=f:=rfl
theorem mk_kids (f:Pn (n+1)):mkK (kids f)=f:=rfl
theorem kids_add (f g:Pn (n+1)):kids (f+g)=kids f+kids g:=rfl
theorem kids_mul (f g:Pn (n+1)):kids (f*g)=kids f*kids g:=rfl
theorem kids_neg (f:Pn (n+1)):kids (-f)= -kids f:=rfl
theorem kids_zero:kids (0:Pn (n+1))=0:=rfl
theorem toZ_add (a b:Pn 0):toZ (a+b)=toZ a+toZ b:=rfl
theorem toZ_mul (a b:Pn 0):toZ (a*b)=toZ a*toZ b:=rfl
theorem toZ_neg (a:Pn 0):toZ (-a)= -toZ a:=rfl
theorem len_zero_iff {f:Pn (n+1)}:(kids f).len=0↔f=0:=Poly.len_eq_zero (a:=kids f)
theorem kids_isG {f g h:Pn (n+1)}:IsG f g h↔IsG (kids f) (kids g) (kids h):=⟨fun k=>⟨k.l,k.r,k.top⟩,fun k=>⟨k.l,k.r,k.top⟩⟩
theorem nm_kids (f:Pn (n+1)):Siz.nm f=Poly.nmP (kids f):=rfl
theorem nm_toZ (z:Pn 0):Siz.nm z=(toZ z).natAbs:=rfl
end
end Cl
namespace Cl
open CRing
namespace Poly
section
variable {R : Type} [GDom R] {a b x y e : Poly R}
theorem len_mulE {f:Poly R}(he:e≠0) (hf:f≠0):(e*f).len=e.len+f.len - 1:=(len_mulD he hf).1
theorem Dv.primOf {f g:Poly R}(hg:Prim g) (h:Dv f g):Prim f:=fun d hd=>hg d fun i=>by
 obtain ⟨c,rfl⟩:=h
 exact hd.mulR c i
def St (e a b x y:Poly R):Prop:=∃(a1 b1:Poly R) (A A' B B':R),x=e*a1∧y=e*b1∧Prim a1∧Prim b1∧A≠0∧A'≠0∧B≠0∧B'≠0∧C A*a1=C A'*a∧C B*b1=C B'*b
def Eu (P:Nat→Poly R→Prop) (e a b x y:Poly R):Prop:=∃(x1 y1 u v u' v':Poly R) (A B D:R),x=e*x1∧y=e*y1∧Seq a b x1 y1 u v u' v' A B D∧Prim x1∧(y1=0∨Prim y1)∧y1.len<x1.len∧x1.len≤a.len∧x1.len≤b.len∧P x1.len x1∧P x1.len y1
structure Kn (P:Nat→Poly R→Prop) (a b:Poly R):Prop where
 ok:∀{x1 y1 u v u' v':Poly R} {A B D:R},Seq a b x1 y1 u v u' v' A B D→Prim y1→y1.len<x1.len→x1.len≤a.len→x1.len≤b.len→P x1.len y1
 zero:∀l,P l 0
 less:∀k l f,l≤k→P k f→P l f
 st:∀f,Prim f→Dv f a∨Dv f b→P (a.len+b.len) f
theorem st_seq {a1 b1:Poly R} {A A' B B':R}(hA:A≠0) (hA':A'≠0) (hB:B≠0) (hB':B'≠0) (ea:C A*a1=C A'*a) (eb:C B*b1=C B'*b):Seq a b a1 b1 (C A') 0 0 (C B') A B (A'*B'):=by
 have l1:a1.len=a.len:=by rw [← len_C_mulD hA a1,ea,len_C_mulD hA']
 have l2:(C B').len=1:=len_CD hB'
 exact ⟨hA,hB,Dom.mul_ne hA' hB',by rw [CRing.zero_mul,CRing.add_zero,ea],by rw [CRing.zero_mul,CRing.zero_add,eb],by rw [CRing.zero_mul,CRing.sub_zero,C_mul_C],by rw [len_zero];omega,by omega⟩
theorem st_len {a1:Poly R} {A A':R}(hA:A≠0) (hA':A'≠0) (ea:C A*a1=C A'*a):a1.len=a.len:=by rw [← len_C_mulD hA a1,ea,len_C_mulD hA']
theorem st_dv {a1:Poly R} {A A':R}(hp:Prim a1) (hA':A'≠0) (ea:C A*a1=C A'*a):Dv a1 a:=hp.ofC hA' (by rw [← ea];exact Dv.right _ _)
theorem rest_split {x1 y1 q r r':Poly R} {l c:R}(he:Prim e) (hc:c≠0) (eq:C l*(e*x1)=q*(e*y1)+r) (er:r=C c*r'):∃r1,r'=e*r1∧C l*x1=q*y1+C c*r1:=by
 have e1:r=e*(C l*x1 - q*y1):=by
  have h1:r=C l*(e*x1) - q*(e*y1):=by rw [eq,CRing.add_comm,add_sub_cancel]
  rw [h1,CRing.mul_sub];congr 1<;>ac_rfl
 obtain ⟨r1,hr⟩:=he.ofC hc (show Dv e (C c*r') from ⟨_,by rw [← er,e1]⟩)
 refine ⟨r1,hr,?_⟩
 have h2:e*(C c*r1)=e*(C l*x1 - q*y1):=by
  rw [← e1,er,hr];ac_rfl
 rw [Dom.cancel he.ne h2,CRing.add_comm,CRing.sub_add_cancel]
variable {P : Nat → Poly R → Prop}
theorem prim_or {r1 r':Poly R}(h:r'=0∨Prim r') (he:e≠0) (e1:r'=e*r1):r1=0∨Prim r1:=by
 rcases h with h | h
 · rw [h] at e1
   rcases Dom.nz _ _ e1.symm with h2 | h2
   · exact absurd h2 he
   · exact .inl h2
 · exact .inr (Dv.primOf h (by rw [e1];exact Dv.right _ _))
theorem Eu.next {q r r':Poly R} {l c:R}(hk:Kn P a b) (he:Prim e) (h:Eu P e a b x y) (hy:y≠0) (hl:l≠0) (hc:c≠0) (eq:C l*x=q*y+r) (hr:r.len<y.len) (hq:q=0∨q.len+y.len≤x.len+1) (er:r=C c*r') (hp:r'=0∨Prim r'):Eu P e a b y r':=by
 obtain ⟨x1,y1,u,v,u',v',A,B,D,rfl,rfl,hs,px,py,hlt,ha,hb,p1,p2⟩:=h
 obtain ⟨r1,hr1,eq1⟩:=rest_split he hc eq er
 have hy1:y1≠0:=fun e0=>hy (by rw [e0,CRing.mul_zero])
 have py':Prim y1:=py.resolve_left hy1
 have hx1:x1≠0:=px.ne
 have hle:=len_pos he.ne
 have ly:=len_pos hy1
 rw [len_mulE he.ne hx1,len_mulE he.ne hy1] at hq
 have lx1:=len_pos hx1
 have hq:q.len+y1.len≤x1.len+1:=by
  rcases hq with h0 | h0
  · rw [h0,len_zero];omega
  · omega
 have hlr:r1.len<y1.len:=by
  by_cases h0:r1=0
  · rw [h0,len_zero];exact ly
  · have h1:=len_mulE he.ne h0
    rw [← hr1] at h1;rw [er,len_C_mulD hc,len_mulE he.ne hy1] at hr;have:=len_pos h0;omega
 have pr:=prim_or hp he.ne hr1
 have hs':=hs.next hl hc eq1 (by omega) (Nat.le_of_lt hlt)
 have p3:P y1.len r1:=by
  rcases pr with h0 | h0
  · rw [h0];exact hk.zero _
  · exact hk.ok hs' h0 hlr (by omega) (by omega)
 exact ⟨y1,r1,_,_,_,_,_,_,_,rfl,hr1,hs',py',pr,hlr,by omega,by omega,hk.less _ _ _ (Nat.le_of_lt hlt) p2,p3⟩
theorem St.next {q r r':Poly R} {l c:R}(hk:Kn P a b) (he:Prim e) (h:St e a b x y) (hl:l≠0) (hc:c≠0) (eq:C l*x=q*y+r) (hr:r.len<y.len) (hq:q=0∨q.len+y.len≤x.len+1) (er:r=C c*r') (hp:r'=0∨Prim r'):Eu P e a b y r'∨St e b a y r':=by
 obtain ⟨a1,b1,A,A',B,B',rfl,rfl,pa,pb,hA,hA',hB,hB',ea,eb⟩:=h
 obtain ⟨r1,hr1,eq1⟩:=rest_split he hc eq er
 have l1:=st_len hA hA' ea
 have l2:=st_len hB hB' eb
 have hle:=len_pos he.ne
 have la:=len_pos pa.ne
 have lb:=len_pos pb.ne
 have pr:=prim_or hp he.ne hr1
 rw [len_mulE he.ne pa.ne,len_mulE he.ne pb.ne] at hq
 rcases Nat.lt_or_ge a.len b.len with hlt | hge
 · right
   have q0:q=0:=hq.elim id fun h=>len_eq_zero.1 (by omega);rw [q0,CRing.zero_mul,CRing.zero_add] at eq1;have r0:r1≠0:=fun e0=>by
    rw [e0,CRing.mul_zero] at eq1;exact mul_neD (C_neD hl) pa.ne eq1
   refine ⟨b1,r1,B,B',A*c,l*A',rfl,hr1,pb,pr.resolve_left r0,hB,hB',Dom.mul_ne hA hc,Dom.mul_ne hl hA',eb,?_⟩;rw [← C_mul_C,CRing.mul_assoc,← eq1,← C_mul_C,CRing.mul_assoc,← ea];ac_rfl
 · left
   have hlr:r1.len<b1.len:=by
    by_cases h0:r1=0
    · rw [h0,len_zero];exact lb
    · have h1:=len_mulE he.ne h0
      rw [← hr1] at h1;rw [er,len_C_mulD hc,len_mulE he.ne pb.ne] at hr;have:=len_pos h0;omega
   have hs':=(st_seq hA hA' hB hB' ea eb).next hl hc eq1 (by
    rcases hq with h0 | h0
    · rw [h0,len_zero];omega
    · omega) (by omega)
   have hb1:P b1.len b1:=hk.less _ _ _ (by omega) (hk.st b1 pb (.inr (st_dv pb hB' eb)));have p3:P b1.len r1:=by
    rcases pr with h0 | h0
    · rw [h0];exact hk.zero _
    · exact hk.ok hs' h0 hlr (by omega) (by omega)
   exact ⟨b1,r1,_,_,_,_,_,_,_,rfl,hr1,hs',pb,pr,hlr,by omega,by omega,hb1,p3⟩
end
end Poly
end Cl
namespace Cl
open CRing
namespace Poly
section
variable {R : Type} [Siz R] {f q p : Poly R} {D E : Nat → Nat} {k : Nat}
noncomputable def rnd (q p:Poly R):Poly R:=p*C q.lc - mono (p.len - q.len) p.lc*q
structure RI (f q:Poly R) (D E:Nat→Nat) (k:Nat) (p:Poly R):Prop where
 eq:∃Q,C (q.lc^k)*f=Q*q+p∧(Q=0∨Q.len+q.len≤f.len+1)
 len:p.len+k≤f.len
 rounds:k=0∨k+q.len≤f.len+1
 nm:nmP p≤(2*nmP q)^k*nmP f
 dg:dgP (fun j=>D j+k*E j) p
theorem RI.start (f q:Poly R) (E:Nat→Nat) (h:dgP D f):RI f q D E 0 f:=
 ⟨⟨0,by rw [CRing.zero_mul,CRing.zero_add];rw [CRing.pow_zero,C_one,CRing.one_mul],.inl rfl⟩,Nat.le_refl _,.inl rfl,by show nmP f≤1*nmP f;rw [Nat.one_mul];exact Nat.le_refl _,dgP_mono (fun j=>by show _≤_+0*_;omega) h⟩
theorem co_mulC (a:Poly R) (c:R) (i:Nat):(a*C c).co i=a.co i*c:=by rw [CRing.mul_comm,co_C_mul,CRing.mul_comm]
theorem mono_ne {n:Nat} {c:R}(h:c≠0):(mono n c).len=n+1:=len_eq (fun i hi=>by rw [co_mono,if_neg (by omega)]) (by rw [co_mono,if_pos rfl];exact h)
theorem nmP_monoC (n:Nat) (c:R):nmP (mono n c)≤Siz.nm c:=by
 have h:=nmP_mono_mul n c (1:Poly R)
 have h1:nmP (1:Poly R)=1:=Siz.nm_one (R:=Poly R)
 rwa [h1,Nat.mul_one,CRing.mul_one] at h
theorem rnd_sh (hq:q≠0) (hp:q.len≤p.len):(rnd q p).Sh (p.len - 1):=fun i hi=>by
 have h0:=len_pos hq
 unfold rnd
 rw [co_sub,co_mulC,co_mono_mul]
 by_cases e:i=p.len - 1
 · rw [if_pos (by omega),e,show p.len - 1 - (p.len - q.len)=q.len - 1 by omega]
   exact sub_self _
 · rw [len_sh p i (by omega),CRing.zero_mul]
   split
   · rw [len_sh q _ (by omega),CRing.mul_zero,sub_self]
   · exact sub_self _
theorem RI.next (h:RI f q D E k p) (hq:q≠0) (dq:dgP E q) (hp:q.len≤p.len):RI f q D E (k+1) (rnd q p):=by
 obtain ⟨⟨Q,e1,e2⟩,h2,h3,h4,h5⟩:=h
 have h0:=len_pos hq
 have hl:=len_le (rnd_sh hq hp)
 have hp0:p≠0:=fun e=>by rw [e,len_zero] at hp;omega
 have hlm:=mono_ne (n:=p.len - q.len) (lc_ne hp0)
 refine ⟨⟨C q.lc*Q+mono (p.len - q.len) p.lc,?_,.inr ?_⟩,by omega,.inr (by omega),?_,?_,fun i=> ?_⟩
 · have k1:C (q.lc^(k+1))*f=C q.lc*(C (q.lc^k)*f):=by
    have:q.lc^(k+1)=q.lc^k*q.lc:=CRing.pow_succ _ _;rw [this,← C_mul_C];ac_rfl
   rw [k1,e1,CRing.mul_add,CRing.add_mul];unfold rnd;rw [CRing.add_assoc,CRing.mul_assoc,CRing.add_comm (mono (p.len - q.len) p.lc*q),CRing.sub_add_cancel,CRing.mul_comm p]
 · have k2:=len_add_le (C q.lc*Q) (mono (p.len - q.len) p.lc)
   rw [len_C_mulD (lc_ne hq),hlm] at k2;rcases e2 with e2 | e2
   · subst e2;rw [len_zero] at k2;omega
   · omega
 · have k3:nmP (rnd q p)≤2*(nmP q*nmP p):=by
    unfold rnd;have m1:=nm_sub (R:=Poly R) (p*C q.lc) (mono (p.len - q.len) p.lc*q);have m2:=nmP_mul (C q.lc) _ p (len_sh p);have m3:=nmP_mono_mul (p.len - q.len) p.lc q;have m4:nmP (C q.lc)≤nmP q:=Nat.le_trans (nmP_monoC 0 q.lc) (nmP_co q _);have m5:Siz.nm p.lc≤nmP p:=nmP_co p _;have m6:=Nat.le_trans m2 (Nat.mul_le_mul_left (nmP p) m4);have m7:=Nat.le_trans m3 (Nat.mul_le_mul_right (nmP q) m5);have m8:nmP (p*C q.lc - mono (p.len - q.len) p.lc*q)≤nmP (p*C q.lc)+nmP (mono (p.len - q.len) p.lc*q):=m1;rw [Nat.mul_comm (nmP q)];omega
   refine Nat.le_trans k3 ?_;rw [Nat.pow_succ,show (2*nmP q)^k*(2*nmP q)*nmP f=2*(nmP q*((2*nmP q)^k*nmP f)) by ac_rfl];exact Nat.mul_le_mul_left _ (Nat.mul_le_mul_left _ h4)
 · refine (rnd_sh hq hp).mono ?_
   have:=len_le h5.1;show _≤D 0+(k+1)*E 0+1;have:D 0+k*E 0≤D 0+(k+1)*E 0:=Nat.add_le_add_left (Nat.mul_le_mul_right _ (Nat.le_succ k)) _;have h6:=len_le h5.1;have h7:p.len≤D 0+k*E 0+1:=h6;omega
 · unfold rnd
   rw [co_sub,co_mulC,co_mono_mul];have e3:(fun j=>D (j+1)+(k+1)*E (j+1))=fun j=>(D (j+1)+k*E (j+1))+E (j+1):=funext fun j=>by rw [Nat.add_mul,Nat.one_mul,Nat.add_assoc]
   show Siz.dg (fun j=>D (j+1)+(k+1)*E (j+1)) _;rw [e3];refine dg_sub (Siz.dg_mul (fun j=>D (j+1)+k*E (j+1)) (fun j=>E (j+1)) _ _ (h5.2 i) (dq.2 _)) ?_;split
   · exact Siz.dg_mul (fun j=>D (j+1)+k*E (j+1)) (fun j=>E (j+1)) _ _ (h5.2 _) (dq.2 _)
   · exact Siz.dg_zero _
end
end Poly
end Cl
namespace Cl
open CRing
namespace Poly
section
variable {R : Type} [GDom R] {P : Nat → Poly R → Prop} {e a b F G x y : Poly R}
theorem Cont.assoc {c c':R} {f:Poly R}(h:Cont c f) (k:Cont c' f):Dv c c':=k.top c h.dv
theorem IsG.assoc {R:Type} [CRing R] {h c d c' d':R}(hg:IsG h c d) (h1:Dv c c') (h2:Dv c' c) (h3:Dv d d') (h4:Dv d' d):IsG h c' d':=⟨hg.l.trans h1,hg.r.trans h3,fun k k1 k2=>hg.top k (k1.trans h2) (k2.trans h4)⟩
structure Inv (P:Nat→Poly R→Prop) (e a b F G x y:Poly R):Prop where
 seq:St e a b x y∨St e b a x y∨Eu P e a b x y∨Eu P e b a x y
 px:Prim x
 py:y=0∨Prim y
 gc:∀g c d h,PG g x y→Cont c F→Cont d G→IsG h c d→IsG (C h*g) F G
theorem Inv.start {q:Poly R} {cq c d:R}(hF:F≠0) (hG:G≠0) (he:Prim e) (hcq:cq≠0) (eq:q=C cq*e) (ea:F=q*a) (eb:G=q*b) (hc:Cont c F) (hd:Cont d G) (ex:F=C c*x) (ey:G=C d*y):Inv P e a b F G x y:=by
 have hc0:=hc.ne hF
 have hd0:=hd.ne hG
 have px:=hc.prim hF ex
 have py:=hd.prim hG ey
 have key:∀{c:R} {f x a:Poly R},c≠0→Prim x→f=q*a→f=C c*x→∃a1,x=e*a1∧Prim a1∧C c*a1=C cq*a:=fun {c f x a} h0 hp e1 e2=>by
  obtain ⟨a1,h1⟩:=he.ofC h0 (show Dv e (C c*x) from ⟨C cq*a,by rw [← e2,e1,eq];ac_rfl⟩);refine ⟨a1,h1,Dv.primOf hp ⟨e,by rw [h1,CRing.mul_comm]⟩,Dom.cancel he.ne ?_⟩;have h2:C c*x=q*a:=e2.symm.trans e1;rw [h1,eq] at h2;have h3:e*(C c*a1)=C c*(e*a1):=by ac_rfl
  have h4:e*(C cq*a)=C cq*e*a:=by ac_rfl
  rw [h3,h4,h2]
 obtain ⟨a1,h1,h2,h3⟩:=key hc0 px ea ex
 obtain ⟨b1,k1,k2,k3⟩:=key hd0 py eb ey
 refine ⟨.inl ⟨a1,b1,c,cq,d,cq,h1,k1,h2,k2,hc0,hcq,hd0,hcq,h3,k3⟩,px,.inr py,fun g c' d' h hg hc' hd' hh=> ?_⟩
 exact isG_of hc hd hF hG ex ey (IsG.assoc hh (Cont.assoc hc' hc) (Cont.assoc hc hc') (Cont.assoc hd' hd) (Cont.assoc hd hd')) hg
theorem Inv.next {q r r':Poly R} {l c:R}(hk:Kn P a b) (hk':Kn P b a) (he:Prim e) (h:Inv P e a b F G x y) (hy:y≠0) (hl:l≠0) (hc:c≠0) (eq:C l*x=q*y+r) (hr:r.len<y.len) (hq:q=0∨q.len+y.len≤x.len+1) (er:r=C c*r') (hp:r'=0∨Prim r'):Inv P e a b F G y r':=by
 refine ⟨?_,h.py.resolve_left hy,hp,fun g c' d' h' hg=>h.gc g c' d' h' (PG.step hl hc eq er hg)⟩
 rcases h.seq with h1 | h1 | h1 | h1
 · rcases h1.next hk he hl hc eq hr hq er hp with h2 | h2
   · exact .inr (.inr (.inl h2))
   · exact .inr (.inl h2)
 · rcases h1.next hk' he hl hc eq hr hq er hp with h2 | h2
   · exact .inr (.inr (.inr h2))
   · exact .inl h2
 · exact .inr (.inr (.inl (h1.next hk he hy hl hc eq hr hq er hp)))
 · exact .inr (.inr (.inr (h1.next hk' he hy hl hc eq hr hq er hp)))
theorem Inv.done {c d h:R}(hi:Inv P e a b F G x 0) (hc:Cont c F) (hd:Cont d G) (hh:IsG h c d):IsG (C h*x) F G:=hi.gc x c d h (PG.zero hi.px) hc hd hh
theorem Inv.known (hk:Kn P a b) (h:Inv P e a b F G x y):∃(l:Nat) (x1 y1:Poly R),x=e*x1∧y=e*y1∧x1≠0∧P l x1∧P l y1∧((x1.len=l∧y1.len<l∧l≤min a.len b.len)∨(l=a.len+b.len∧((x1.len=a.len∧y1.len=b.len)∨(x1.len=b.len∧y1.len=a.len)))):=by
 rcases h.seq with h1 | h1 | h1 | h1
 · obtain ⟨a1,b1,A,A',B,B',e1,e2,p1,p2,n1,n2,n3,n4,q1,q2⟩:=h1
   exact ⟨a.len+b.len,a1,b1,e1,e2,p1.ne,hk.st a1 p1 (.inl (st_dv p1 n2 q1)),hk.st b1 p2 (.inr (st_dv p2 n4 q2)),.inr ⟨rfl,.inl ⟨st_len n1 n2 q1,st_len n3 n4 q2⟩⟩⟩
 · obtain ⟨a1,b1,A,A',B,B',e1,e2,p1,p2,n1,n2,n3,n4,q1,q2⟩:=h1
   exact ⟨a.len+b.len,a1,b1,e1,e2,p1.ne,hk.st a1 p1 (.inr (st_dv p1 n2 q1)),hk.st b1 p2 (.inl (st_dv p2 n4 q2)),.inr ⟨rfl,.inr ⟨st_len n1 n2 q1,st_len n3 n4 q2⟩⟩⟩
 · obtain ⟨x1,y1,u,v,u',v',A,B,D,e1,e2,_,p1,_,hlt,ha,hb,q1,q2⟩:=h1
   exact ⟨x1.len,x1,y1,e1,e2,p1.ne,q1,q2,.inl ⟨rfl,hlt,by omega⟩⟩
 · obtain ⟨x1,y1,u,v,u',v',A,B,D,e1,e2,_,p1,_,hlt,ha,hb,q1,q2⟩:=h1
   exact ⟨x1.len,x1,y1,e1,e2,p1.ne,q1,q2,.inl ⟨rfl,hlt,by omega⟩⟩
end
end Poly
end Cl
namespace Cl
open CRing
namespace Poly
section
variable {R : Type} [Siz R] {a b x y u v u' v' : Poly R} {A B D : R}
def capN (t V H c:Nat):Nat:=(t+2)*(((2*(t+2)*V*H+1)^c)*V)*H
theorem cap_ok {t V V' H c:Nat}(hV:0<V) (hc:(c+1)*(V'*(t+1))≤c*(V*(t+2))):(2*capN t V H c+1)^(V'*(t+1))<((2*(t+2)*V*H+1)^c+1)^(V*(t+2)):=by
 refine count_ok (Q:=2*(t+2)*V*H+1) rfl (by omega) ?_ (Nat.mul_pos hV (by omega)) hc
 have h1:1≤(2*(t+2)*V*H+1)^c:=Nat.pow_pos (by omega)
 unfold capN
 have h3:(2*(t+2)*V*H+1)*(2*(t+2)*V*H+1)^c=2*(t+2)*V*H*(2*(t+2)*V*H+1)^c+(2*(t+2)*V*H+1)^c:=by rw [Nat.add_mul (2*(t+2)*V*H) 1,Nat.one_mul]
 have h2:2*((t+2)*((2*(t+2)*V*H+1)^c*V)*H)=2*(t+2)*V*H*(2*(t+2)*V*H+1)^c:=by ac_rfl
 omega
theorem Seq.cap {H c:Nat} {Di E:Nat→Nat}(h:Seq a b x y u v u' v' A B D) (hp:Prim y) (hyx:y.len<x.len) (ha:x.len≤a.len) (hb:x.len≤b.len) (da:∀i,Siz.dg Di (a.co i)) (db:∀i,Siz.dg Di (b.co i)) (na:Siz.nm a≤H) (nb:Siz.nm b≤H)
 (hc:(c+1)*(Siz.vol R (fun j=>E j+Di j)*(a.len+b.len - 2*x.len+1))≤c*(Siz.vol R E*(a.len+b.len - 2*x.len+2))):
 (∀i,Siz.dg (fun j=>E j+Di j) (y.co i))∧nmP y≤phiP R (consD (x.len - 2) fun j=>E j+Di j)*(2*capN (a.len+b.len - 2*x.len) (Siz.vol R E) H c):=by
 obtain ⟨h1,h2⟩:=h.small (X:=(2*(a.len+b.len - 2*x.len+2)*Siz.vol R E*H+1)^c) (Y:=capN (a.len+b.len - 2*x.len) (Siz.vol R E) H c) (E:=E) hp hyx ha hb da db na nb (Nat.le_refl _) (cap_ok (Siz.vol_pos E) hc)
 exact ⟨h1.2,h2⟩
end
end Poly
end Cl
namespace Cl
open CRing
namespace Poly
section
variable {R : Type} [Siz R] {a b : Poly R}
def PB (Dm:Nat→Nat→Nat) (M:Nat→Nat) (l:Nat) (f:Poly R):Prop:=(∀i,Siz.dg (Dm l) (f.co i))∧nmP f≤M l
def CapC (R:Type) [Siz R] (Di E:Nat→Nat) (t c:Nat):Prop:=(c+1)*(Siz.vol R (fun j=>E j+Di j)*(t+1))≤c*(Siz.vol R E*(t+2))
structure Lad (R:Type) [Siz R] (la lb H:Nat) (Di:Nat→Nat) (Dm:Nat→Nat→Nat) (M:Nat→Nat):Prop where
 cap:∀l,l≤min la lb→∃E c,CapC R Di E (la+lb - 2*l) c∧phiP R (consD (l - 2) fun j=>E j+Di j)*(2*capN (la+lb - 2*l) (Siz.vol R E) H c)≤M l
 deg:∀l,l≤min la lb→∃E1 c1 E2 c2,CapC R Di E1 (la+lb - 2*l) c1∧CapC R Di E2 (la+lb - 2*l) c2∧∀j,min (E1 j+Di j) (E2 j+Di j)≤Dm l j
 less:∀k l,l≤k→M k≤M l∧∀j,Dm k j≤Dm l j
 stM:phiP R (consD (max la lb - 1) Di)*H≤M (la+lb)
 stD:∀j,Di j≤Dm (la+lb) j
theorem Lad.symm {la lb H:Nat} {Di:Nat→Nat} {Dm:Nat→Nat→Nat} {M:Nat→Nat}(h:Lad R la lb H Di Dm M):Lad R lb la H Di Dm M:=by
 have e2:max lb la=max la lb:=Nat.max_comm _ _
 have e3:lb+la=la+lb:=Nat.add_comm _ _
 exact ⟨fun l hl=>by rw [e3];exact h.cap l (by omega),fun l hl=>by rw [e3];exact h.deg l (by omega),h.less,by rw [e3,e2];exact h.stM,by rw [e3];exact h.stD⟩
theorem Lad.kn {H:Nat} {Di:Nat→Nat} {Dm:Nat→Nat→Nat} {M:Nat→Nat}(h:Lad R a.len b.len H Di Dm M) (ha0:a≠0) (hb0:b≠0) (da:∀i,Siz.dg Di (a.co i)) (db:∀i,Siz.dg Di (b.co i)) (na:Siz.nm a≤H) (nb:Siz.nm b≤H):Kn (PB Dm M) a b:=by
 refine ⟨fun {x1 y1 u v u' v' A B D} hs hp hlt h1 h2=> ?_,fun l=>⟨fun i=>Siz.dg_zero _,by rw [nmP_zero];exact Nat.zero_le _⟩,fun k l f hl hf=>⟨fun i=>Siz.dg_mono _ _ _ (h.less k l hl).2 (hf.1 i),Nat.le_trans hf.2 (h.less k l hl).1⟩,fun f hp hd=> ?_⟩
 · have hm:x1.len≤min a.len b.len:=by omega
   obtain ⟨E,c,c1,c2⟩:=h.cap x1.len hm;obtain ⟨E1,k1,E2,k2,d1,d2,d3⟩:=h.deg x1.len hm;have s0:=hs.cap hp hlt h1 h2 da db na nb c1;have s1:=hs.cap hp hlt h1 h2 da db na nb d1;have s2:=hs.cap hp hlt h1 h2 da db na nb d2;exact ⟨fun i=>Siz.dg_mono _ _ _ d3 (Siz.dg_inf _ _ _ (s1.1 i) (s2.1 i)),Nat.le_trans s0.2 c2⟩
 · have key:∀g:Poly R,g≠0→g.len≤max a.len b.len→(∀i,Siz.dg Di (g.co i))→Siz.nm g≤H→Dv f g→PB Dm M (a.len+b.len) f:=fun g g0 hl dg' ng hfg=>by
    have hd':dgP (consD (max a.len b.len - 1) Di) g:=⟨(len_sh g).mono (by show g.len≤max a.len b.len - 1+1;omega),dg'⟩;obtain ⟨f1,f2⟩:=factorP g0 hd' hfg;exact ⟨fun i=>Siz.dg_mono _ _ _ h.stD (f1.2 i),Nat.le_trans f2 (Nat.le_trans (Nat.mul_le_mul_left _ ng) h.stM)⟩
   rcases hd with hd | hd
   · exact key a ha0 (by omega) da na hd
   · exact key b hb0 (by omega) db nb hd
end
end Poly
end Cl
namespace Cl
open CRing Poly
def phi1 (d:Nat):Nat:=1*(2*d+1)^d*(d+1)*(2*(2*d+1))^d
theorem phi1_eq (d:Nat) (E:Nat→Nat):phiP (Pn 0) (consD d E)=phi1 d:=rfl
theorem pow_mono2 {a b m n:Nat}(h:a≤b) (k:m≤n) (h0:0<b):a^m≤b^n:=Nat.le_trans (Nat.pow_le_pow_left h m) (Nat.pow_le_pow_right h0 k)
theorem phi1_mono {d e:Nat}(h:d≤e):phi1 d≤phi1 e:=by
 unfold phi1
 exact Nat.mul_le_mul (Nat.mul_le_mul (Nat.mul_le_mul_left 1 (pow_mono2 (by omega) h (by omega))) (by omega)) (pow_mono2 (by omega) h (by omega))
theorem phi1_pos (d:Nat):0<phi1 d:=by
 unfold phi1
 exact Nat.mul_pos (Nat.mul_pos (Nat.mul_pos Nat.one_pos (Nat.pow_pos (by omega))) (by omega)) (Nat.pow_pos (by omega))
def cap1 (t H:Nat):Nat:=capN t 1 H (t+1)
theorem cap1_mono {t s H:Nat}(h:t≤s):cap1 t H≤cap1 s H:=by
 unfold cap1 capN
 refine Nat.mul_le_mul_right _ (Nat.mul_le_mul (by omega) (Nat.mul_le_mul_right _ (pow_mono2 (Nat.add_le_add_right (Nat.mul_le_mul_right _ (Nat.mul_le_mul_right _ (Nat.mul_le_mul_left _ (by omega)))) _) (by omega) (by omega))))
theorem cap1_ge (t H:Nat):H≤cap1 t H:=by
 unfold cap1 capN
 refine Nat.le_mul_of_pos_left _ (Nat.mul_pos (by omega) (Nat.mul_pos (Nat.pow_pos (by omega)) Nat.one_pos))
def M1 (la lb H L l:Nat):Nat:=phi1 L*(2*cap1 (la+lb - 2*l) H)
theorem lad1 {la lb H L:Nat}(Di:Nat→Nat) (hL:max la lb≤L+1):Lad (Pn 0) la lb H Di (fun _ j=>Di j) (M1 la lb H L):=by
 have cc:∀t,CapC (Pn 0) Di (fun _=>0) t (t+1):=fun t=>by
  show (t+1+1)*(1*(t+1))≤(t+1)*(1*(t+2));rw [Nat.one_mul,Nat.one_mul,Nat.mul_comm];exact Nat.le_refl _
 refine ⟨fun l hl=>⟨fun _=>0,_,cc _,?_⟩,fun l hl=>⟨fun _=>0,_,fun _=>0,_,cc _,cc _,fun j=>by show min (0+Di j) (0+Di j)≤Di j;omega⟩,fun k l hkl=>⟨?_,fun j=>Nat.le_refl _⟩,?_,fun j=>Nat.le_refl _⟩
 · rw [phi1_eq]
   exact Nat.mul_le_mul_right _ (phi1_mono (by omega))
 · exact Nat.mul_le_mul_left _ (Nat.mul_le_mul_left _ (cap1_mono (by omega)))
 · rw [phi1_eq]
   refine Nat.mul_le_mul (phi1_mono (by omega)) (Nat.le_trans (cap1_ge _ H) (Nat.le_mul_of_pos_left _ (by omega)))
theorem nm_exact {c:Pn 0} {r z:Poly (Pn 0)}(h:r=C c*z):Siz.nm c*nmP z=nmP r:=by
 by_cases hc:c=0
 · rw [h,hc,C_zero,CRing.zero_mul,nmP_zero,Siz.nm_zero,Nat.zero_mul]
 · have hl:(C c*z).len=z.len:=len_C_mulD hc z
   rw [h];unfold nmP;rw [hl,← nS_mul];refine nS_congr fun i _=> ?_;rw [co_C_mul];exact (Int.natAbs_mul (c:Int) (z.co i:Int)).symm
end Cl
namespace Cl
open CRing Poly
theorem M1_bits {la lb H L l g h:Nat}(hla:la≤L+1) (hlb:lb≤L+1) (hg:4*L+8≤2^g) (hH:H≤2^h):M1 la lb H L l≤2^(g*(2*L+1)+1+(g+h+2)*(la+lb - 2*l+2)):=by
 obtain ⟨t,ht⟩:∃t,la+lb - 2*l=t:=⟨_,rfl⟩
 have htL:t+2≤2^g:=by omega
 unfold M1
 rw [ht]
 have p1:phi1 L≤2^(g*(2*L+1)):=by
  unfold phi1;have a1:(2*L+1)^L≤2^(g*L):=pow_le_bits (by omega);have a2:(2*(2*L+1))^L≤2^(g*L):=pow_le_bits (by omega);have a3:L+1≤2^g:=by omega
  have:=mul_le_bits (mul_le_bits a1 a3) a2;rw [Nat.one_mul];refine Nat.le_trans this (Nat.le_of_eq ?_);congr 1
  rw [Nat.mul_add,Nat.mul_one,Nat.mul_left_comm g 2 L];omega
 have q1:2*(t+2)*1*H+1≤2^(g+h+2):=by
  have b1:(t+2)*H≤2^(g+h):=mul_le_bits htL hH;have b2:2*(t+2)*1*H=2*((t+2)*H):=by rw [Nat.mul_one,Nat.mul_assoc]
  have b3:1≤2^(g+h):=Nat.pow_pos (by omega);rw [b2,show 2^(g+h+2)=4*2^(g+h) by rw [Nat.pow_add];omega];omega
 have c1:cap1 t H≤2^((g+h+2)*(t+2)):=by
  unfold cap1 capN;rw [Nat.mul_one ((2*(t+2)*1*H+1)^(t+1))];have d1:=mul_le_bits (mul_le_bits htL (pow_le_bits (k:=t+1) q1)) hH;refine Nat.le_trans d1 (Nat.pow_le_pow_right (by omega) ?_);rw [show (g+h+2)*(t+2)=(g+h+2)*(t+1)+(g+h+2) by rw [show t+2=t+1+1 by omega,Nat.mul_add (g+h+2) (t+1),Nat.mul_one]];omega
 have:=mul_le_bits p1 (mul_le_bits (show 2≤2^1 by decide) c1)
 refine Nat.le_trans this (Nat.le_of_eq ?_)
 congr 1
 omega
end Cl
namespace Cl
open CRing Poly
def one1 (d:Nat):Nat→Nat:=consD d fun _=>0
theorem one1_add (d e j:Nat):one1 d j+one1 e j=one1 (d+e) j:=by
 cases j<;>rfl
theorem vol1 (E:Nat→Nat):Siz.vol (Pn 1) E=(E 0+1)*1:=rfl
theorem phi_one (E:Nat→Nat):Siz.phi (Pn 1) E=phi1 (E 0):=rfl
def phi2 (L e:Nat):Nat:=phi1 e*(2*L+1)^L*(L+1)*(2*(2*L+1))^L
theorem phi2_eq (L:Nat) (E:Nat→Nat):phiP (Pn 1) (consD L E)=phi2 L (E 0):=rfl
theorem phi2_mono {L L' e e':Nat}(h:L≤L') (k:e≤e'):phi2 L e≤phi2 L' e':=by
 unfold phi2
 exact Nat.mul_le_mul (Nat.mul_le_mul (Nat.mul_le_mul (phi1_mono k) (pow_mono2 (by omega) h (by omega))) (by omega)) (pow_mono2 (by omega) h (by omega))
theorem phi2_pos (L e:Nat):0<phi2 L e:=by
 unfold phi2
 exact Nat.mul_pos (Nat.mul_pos (Nat.mul_pos (phi1_pos e) (Nat.pow_pos (by omega))) (by omega)) (Nat.pow_pos (by omega))
theorem capN_mono {t t' V V' H c c':Nat}(h:t≤t') (k:V≤V') (m:c≤c'):capN t V H c≤capN t' V' H c':=by
 unfold capN
 exact Nat.mul_le_mul_right _ (Nat.mul_le_mul (by omega) (Nat.mul_le_mul (pow_mono2 (Nat.add_le_add_right (Nat.mul_le_mul_right _ (Nat.mul_le_mul (Nat.mul_le_mul_left _ (by omega)) k)) _) m (by omega)) k))
theorem capN_ge (t H c:Nat) {V:Nat}(hV:0<V):H≤capN t V H c:=by
 unfold capN
 exact Nat.le_mul_of_pos_left _ (Nat.mul_pos (by omega) (Nat.mul_pos (Nat.pow_pos (by omega)) hV))
def c5 (t:Nat):Nat:=(5*(t+1)+4) / 4
theorem capC5 (d t:Nat):CapC (Pn 1) (one1 d) (one1 (5*(t+1)*d)) t (c5 t):=by
 show (c5 t+1)*((5*(t+1)*d+d+1)*1*(t+1))≤c5 t*((5*(t+1)*d+1)*1*(t+2))
 obtain ⟨s,hs⟩:∃s,t+1=s:=⟨_,rfl⟩
 obtain ⟨c,hc⟩:∃c,c5 t=c:=⟨_,rfl⟩
 have h1:5*s+1≤4*c:=by unfold c5 at hc;omega
 have h2:s≤c:=by omega
 rw [hc,hs,show t+2=s+1 by omega,Nat.mul_one,Nat.mul_one]
 obtain ⟨P,hP⟩:∃P,s*d=P:=⟨_,rfl⟩
 have e1:5*s*d=5*P:=by rw [Nat.mul_assoc,hP]
 rw [e1]
 have e2:(5*P+d+1)*s=5*P*s+P+s:=by rw [Nat.add_mul,Nat.add_mul,Nat.one_mul,Nat.mul_comm d s,hP]
 have e3:(5*P+1)*(s+1)=5*P*s+P+s+(4*P+1):=by rw [Nat.add_mul,Nat.mul_add,Nat.one_mul,Nat.mul_one];omega
 rw [e2,e3]
 obtain ⟨X,hX⟩:∃X,5*P*s+P+s=X:=⟨_,rfl⟩
 rw [hX,Nat.add_mul c 1 X,Nat.one_mul,Nat.mul_add c X]
 have e4:(5*s+1)*P≤4*c*P:=Nat.mul_le_mul_right _ h1
 have e5:(5*s+1)*P=5*P*s+P:=by rw [Nat.add_mul,Nat.one_mul,Nat.mul_assoc,Nat.mul_comm s P,Nat.mul_assoc]
 have e6:c*(4*P+1)=4*c*P+c:=by rw [Nat.mul_add,Nat.mul_one,Nat.mul_left_comm,Nat.mul_assoc]
 omega
theorem capCd (d t:Nat):∃c,CapC (Pn 1) (one1 d) (one1 ((t+1)*d)) t c:=by
 refine ⟨((t+1)*d+d+1)*1*(t+1),?_⟩
 show (((t+1)*d+d+1)*1*(t+1)+1)*(((t+1)*d+d+1)*1*(t+1))≤(((t+1)*d+d+1)*1*(t+1))*(((t+1)*d+1)*1*(t+2))
 have e:((t+1)*d+d+1)*1*(t+1)+1=((t+1)*d+1)*1*(t+2):=by
  obtain ⟨P,hP⟩:∃P,(t+1)*d=P:=⟨_,rfl⟩;rw [hP,Nat.mul_one,Nat.mul_one,show t+2=(t+1)+1 by omega,Nat.mul_add (P+1),Nat.mul_one,Nat.add_mul,Nat.add_mul,Nat.one_mul,Nat.mul_comm d,hP,Nat.add_mul,Nat.one_mul];omega
 rw [e,Nat.mul_comm]
 exact Nat.le_refl _
def M2 (la lb H L d l:Nat):Nat:=phi2 L (5*(la+lb - 2*l+1)*d+d)*(2*capN (la+lb - 2*l) ((5*(la+lb - 2*l+1)*d+1)*1) H (c5 (la+lb - 2*l)))
theorem lad2 {la lb H L d:Nat}(hL:max la lb≤L+1):Lad (Pn 1) la lb H (one1 d) (fun l=>one1 ((la+lb - 2*l+2)*d)) (M2 la lb H L d):=by
 refine ⟨fun l hl=>⟨_,_,capC5 d _,?_⟩,fun l hl=> ?_,fun k l hkl=>⟨?_,fun j=> ?_⟩,?_,fun j=> ?_⟩
 · rw [phi2_eq,vol1]
   exact Nat.mul_le_mul_right _ (phi2_mono (by omega) (Nat.le_refl _))
 · obtain ⟨c,hc⟩:=capCd d (la+lb - 2*l)
   refine ⟨_,c,_,c,hc,hc,fun j=> ?_⟩;have e9:(la+lb - 2*l+1)*d+d=(la+lb - 2*l+2)*d:=by rw [show la+lb - 2*l+2=(la+lb - 2*l+1)+1 by omega,Nat.add_mul (la+lb - 2*l+1) 1 d,Nat.one_mul]
   rw [one1_add,Nat.min_self,e9];exact Nat.le_refl _
 · have ht:la+lb - 2*k≤la+lb - 2*l:=by omega
   have h5:5*(la+lb - 2*k+1)*d≤5*(la+lb - 2*l+1)*d:=Nat.mul_le_mul_right _ (by omega);exact Nat.mul_le_mul (phi2_mono (Nat.le_refl _) (by omega)) (Nat.mul_le_mul_left _ (capN_mono ht (by omega) (by unfold c5;omega)))
 · cases j with
   | zero=>exact Nat.mul_le_mul_right _ (by omega)
   | succ j=>exact Nat.le_refl _
 · rw [phi2_eq]
   refine Nat.mul_le_mul (phi2_mono (by omega) ?_) (Nat.le_trans (capN_ge _ H _ (by omega)) (Nat.le_mul_of_pos_left _ (by omega)));show d≤_;omega
 · cases j with
   | zero=>
     show d≤(la+lb - 2*(la+lb)+2)*d;exact Nat.le_mul_of_pos_left _ (by omega)
   | succ j=>exact Nat.le_refl _
end Cl
namespace Cl
open CRing Poly
theorem phi1_bits {e g:Nat}(hg:4*e+8≤2^g):phi1 e≤2^(g*(2*e+1)):=by
 unfold phi1
 have a1:(2*e+1)^e≤2^(g*e):=pow_le_bits (by omega)
 have a2:(2*(2*e+1))^e≤2^(g*e):=pow_le_bits (by omega)
 have a3:e+1≤2^g:=by omega
 have:=mul_le_bits (mul_le_bits a1 a3) a2
 rw [Nat.one_mul]
 refine Nat.le_trans this (Nat.le_of_eq ?_)
 congr 1
 rw [Nat.mul_add,Nat.mul_one,Nat.mul_left_comm g 2 e]
 omega
theorem phi2_bits {L e g:Nat}(hg:4*e+8≤2^g) (hL:4*L+8≤2^g):phi2 L e≤2^(g*(2*e+1)+g*(2*L+1)):=by
 have h1:=phi1_bits hg
 have a1:(2*L+1)^L≤2^(g*L):=pow_le_bits (by omega)
 have a2:(2*(2*L+1))^L≤2^(g*L):=pow_le_bits (by omega)
 have a3:L+1≤2^g:=by omega
 unfold phi2
 refine Nat.le_trans (mul_le_bits (mul_le_bits (mul_le_bits h1 a1) a3) a2) (Nat.le_of_eq ?_)
 congr 1
 rw [Nat.mul_add g (2*L) 1,Nat.mul_one,Nat.mul_left_comm g 2 L]
 omega
theorem capN_bits {t V H c g h:Nat}(ht:t+2≤2^g) (hV:V≤2^g) (hH:H≤2^h):capN t V H c≤2^((2*g+h+2)*(c+1)):=by
 have q1:2*(t+2)*V*H+1≤2^(2*g+h+2):=by
  have b1:(t+2)*V*H≤2^(g+g+h):=mul_le_bits (mul_le_bits ht hV) hH;have b2:2*(t+2)*V*H=2*((t+2)*V*H):=by rw [Nat.mul_assoc 2,Nat.mul_assoc 2]
  have b3:1≤2^(g+g+h):=Nat.pow_pos (by omega);rw [b2,show 2^(2*g+h+2)=4*2^(g+g+h) by rw [show 2*g+h+2=(g+g+h)+2 by omega,Nat.pow_add];omega];omega
 unfold capN
 have d1:=mul_le_bits (mul_le_bits ht (mul_le_bits (pow_le_bits (k:=c) q1) hV)) hH
 refine Nat.le_trans d1 (Nat.pow_le_pow_right (by omega) ?_)
 rw [Nat.mul_add (2*g+h+2) c 1,Nat.mul_one]
 omega
theorem M2_bits {la lb H L d l g h:Nat}(hla:la≤L+1) (hlb:lb≤L+1) (hg:4*(5*(2*L+3)*d+d)+8≤2^g) (hgL:4*L+8≤2^g) (hH:H≤2^h):
 M2 la lb H L d l≤2^(g*(2*(5*(la+lb - 2*l+1)*d+d)+1)+g*(2*L+1)+1+(2*g+h+2)*(c5 (la+lb - 2*l)+1)):=by
 obtain ⟨t,ht⟩:∃t,la+lb - 2*l=t:=⟨_,rfl⟩
 have he:5*(t+1)*d≤5*(2*L+3)*d:=Nat.mul_le_mul_right _ (by omega)
 unfold M2
 rw [ht]
 have p1:=phi2_bits (L:=L) (e:=5*(t+1)*d+d) (g:=g) (by omega) hgL
 have c1:=capN_bits (t:=t) (V:=(5*(t+1)*d+1)*1) (H:=H) (c:=c5 t) (g:=g) (h:=h) (by omega) (by omega) hH
 refine Nat.le_trans (mul_le_bits p1 (mul_le_bits (show 2≤2^1 by decide) c1)) (Nat.le_of_eq ?_)
 congr 1
 omega
end Cl
namespace Cl
open CRing Poly
def two1 (d e:Nat):Nat→Nat:=consD d (one1 e)
theorem two1_add (d e d' e' j:Nat):two1 d e j+two1 d' e' j=two1 (d+d') (e+e') j:=by
 cases j with
 | zero=>rfl
 | succ j=>exact one1_add e e' j
theorem vol2 (E:Nat→Nat):Siz.vol (Pn 2) E=(E 0+1)*((E 1+1)*1):=rfl
theorem phi_two (E:Nat→Nat):Siz.phi (Pn 2) E=phi2 (E 0) (E 1):=rfl
def phi3 (L d e:Nat):Nat:=phi2 d e*(2*L+1)^L*(L+1)*(2*(2*L+1))^L
theorem phi3_eq (L:Nat) (E:Nat→Nat):phiP (Pn 2) (consD L E)=phi3 L (E 0) (E 1):=rfl
theorem phi3_mono {L L' d d' e e':Nat}(h:L≤L') (k:d≤d') (m:e≤e'):phi3 L d e≤phi3 L' d' e':=by
 unfold phi3
 exact Nat.mul_le_mul (Nat.mul_le_mul (Nat.mul_le_mul (phi2_mono k m) (pow_mono2 (by omega) h (by omega))) (by omega)) (pow_mono2 (by omega) h (by omega))
theorem phi3_pos (L d e:Nat):0<phi3 L d e:=by
 unfold phi3
 exact Nat.mul_pos (Nat.mul_pos (Nat.mul_pos (phi2_pos d e) (Nat.pow_pos (by omega))) (by omega)) (Nat.pow_pos (by omega))
def c3 (t:Nat):Nat:=(5*(t+1)+6) / 3
theorem box5 (s d:Nat):5*s*(5*s*d+d+1)≤(5*s+1)*(5*s*d+1):=by
 obtain ⟨P,hP⟩:∃P,5*s*d=P:=⟨_,rfl⟩
 obtain ⟨F,hF⟩:∃F,5*s=F:=⟨_,rfl⟩
 rw [hF] at hP
 rw [hF,hP]
 have e1:F*(P+d+1)=F*P+P+F:=by rw [Nat.mul_add,Nat.mul_add,Nat.mul_one,hP]
 have e2:(F+1)*(P+1)=F*P+P+F+1:=by rw [Nat.add_mul,Nat.mul_add,Nat.one_mul,Nat.mul_one];omega
 omega
theorem capC3 (d e t:Nat):CapC (Pn 2) (two1 d e) (two1 (5*(t+1)*d) (5*(t+1)*e)) t (c3 t):=by
 show (c3 t+1)*((5*(t+1)*d+d+1)*((5*(t+1)*e+e+1)*1)*(t+1))≤c3 t*((5*(t+1)*d+1)*((5*(t+1)*e+1)*1)*(t+2))
 obtain ⟨s,hs⟩:∃s,t+1=s:=⟨_,rfl⟩
 obtain ⟨c,hc⟩:∃c,c3 t=c:=⟨_,rfl⟩
 have h1:5*s+4≤3*c:=by unfold c3 at hc;omega
 have h2:1+c≤10*s:=by unfold c3 at hc;omega
 rw [hc,hs,show t+2=s+1 by omega,Nat.mul_one,Nat.mul_one]
 have p1:=box5 s d
 have p2:=box5 s e
 obtain ⟨P,hP⟩:∃P,5*s*d+1=P:=⟨_,rfl⟩
 obtain ⟨P',hP'⟩:∃P',5*s*d+d+1=P':=⟨_,rfl⟩
 obtain ⟨Q,hQ⟩:∃Q,5*s*e+1=Q:=⟨_,rfl⟩
 obtain ⟨Q',hQ'⟩:∃Q',5*s*e+e+1=Q':=⟨_,rfl⟩
 rw [hP,hP'] at p1
 rw [hQ,hQ'] at p2
 rw [hP,hP',hQ,hQ']
 have key:25*(s*s)*(P'*Q')≤(25*(s*s)+10*s+1)*(P*Q):=by
  have:=Nat.mul_le_mul p1 p2;have e1:5*s*P'*(5*s*Q')=25*(s*s)*(P'*Q'):=by
   rw [Nat.mul_mul_mul_comm,show 5*s*(5*s)=25*(s*s) by rw [Nat.mul_mul_mul_comm]]
  have e2:(5*s+1)*P*((5*s+1)*Q)=(25*(s*s)+10*s+1)*(P*Q):=by
   rw [Nat.mul_mul_mul_comm];congr 1
   rw [Nat.add_mul,Nat.mul_add,Nat.mul_one,Nat.one_mul,show 5*s*(5*s)=25*(s*s) by rw [Nat.mul_mul_mul_comm]];omega
  omega
 have key2:(c+1)*(25*(s*s)+10*s+1)≤c*(25*(s*s)+25*s):=by
  have e1:(c+1)*(25*(s*s)+10*s+1)=c*(25*(s*s))+c*(10*s)+c+(25*(s*s)+10*s+1):=by rw [Nat.add_mul,Nat.mul_add,Nat.mul_add,Nat.mul_one,Nat.one_mul]
  have e2:c*(25*(s*s)+25*s)=c*(25*(s*s))+c*(25*s):=Nat.mul_add _ _ _;have e3:c*(10*s)=10*(c*s):=Nat.mul_left_comm _ _ _;have e4:c*(25*s)=25*(c*s):=Nat.mul_left_comm _ _ _;have e5:(5*s+4)*s≤3*c*s:=Nat.mul_le_mul_right _ h1;have e6:(5*s+4)*s=5*(s*s)+4*s:=by rw [Nat.add_mul,Nat.mul_assoc]
  have e7:3*c*s=3*(c*s):=Nat.mul_assoc _ _ _;rw [e1,e2,e3,e4];omega
 have hs0:0<25*s:=by omega
 refine Nat.le_of_mul_le_mul_left ?_ hs0
 have f1:25*s*((c+1)*(P'*Q'*s))=(c+1)*(25*(s*s)*(P'*Q')):=by ac_rfl
 have f2:25*s*(c*(P*Q*(s+1)))=c*(25*(s*s)+25*s)*(P*Q):=by
  have g1:25*(s*s)+25*s=25*s*(s+1):=by rw [Nat.mul_add,Nat.mul_one,Nat.mul_assoc]
  rw [g1];ac_rfl
 rw [f1,f2]
 refine Nat.le_trans (Nat.mul_le_mul_left _ key) ?_
 rw [← Nat.mul_assoc]
 exact Nat.mul_le_mul_right _ key2
theorem capOne {n:Nat} {Di E:Nat→Nat} {t:Nat}(h:Siz.vol (Pn n) (fun j=>E j+Di j)*(t+1)+1≤Siz.vol (Pn n) E*(t+2)):∃c,CapC (Pn n) Di E t c:=by
 refine ⟨Siz.vol (Pn n) (fun j=>E j+Di j)*(t+1),?_⟩
 unfold CapC
 rw [Nat.mul_comm]
 exact Nat.mul_le_mul_left _ h
theorem boxD (s d:Nat):(s*d+1)*(s+1)=(s*d+d+1)*s+1:=by
 obtain ⟨P,hP⟩:∃P,s*d=P:=⟨_,rfl⟩
 rw [hP,Nat.mul_add,Nat.mul_one,Nat.add_mul (P+d) 1 s,Nat.one_mul,Nat.add_mul P d s,Nat.mul_comm d s,hP,Nat.add_mul,Nat.one_mul]
 omega
theorem capCd1 (d e t:Nat):∃X c,CapC (Pn 2) (two1 d e) (two1 ((t+1)*d) X) t c:=by
 refine ⟨e*(((t+1)*d+d+1)*(t+1)),capOne ?_⟩
 show ((t+1)*d+d+1)*((e*(((t+1)*d+d+1)*(t+1))+e+1)*1)*(t+1)+1≤((t+1)*d+1)*((e*(((t+1)*d+d+1)*(t+1))+1)*1)*(t+1+1)
 have h1:=boxD (t+1) d
 obtain ⟨s,hs⟩:∃s,t+1=s:=⟨_,rfl⟩
 rw [hs] at h1 ⊢
 obtain ⟨X,hX⟩:∃X,(s*d+d+1)*s=X:=⟨_,rfl⟩
 rw [hX] at h1 ⊢
 have e1:(s*d+d+1)*((e*X+e+1)*1)*s=(e*X+e+1)*X:=by
  rw [Nat.mul_one,Nat.mul_comm (s*d+d+1),Nat.mul_assoc,hX]
 have e2:(s*d+1)*((e*X+1)*1)*(s+1)=(e*X+1)*(X+1):=by
  rw [Nat.mul_one,Nat.mul_comm (s*d+1),Nat.mul_assoc,h1]
 rw [e1,e2,Nat.mul_add (e*X+1),Nat.mul_one,Nat.add_mul (e*X+e),Nat.add_mul (e*X) e,Nat.add_mul (e*X) 1,Nat.one_mul]
 omega
theorem capCd2 (d e t:Nat):∃X c,CapC (Pn 2) (two1 d e) (two1 X ((t+1)*e)) t c:=by
 refine ⟨d*(((t+1)*e+e+1)*(t+1)),capOne ?_⟩
 show (d*(((t+1)*e+e+1)*(t+1))+d+1)*(((t+1)*e+e+1)*1)*(t+1)+1≤(d*(((t+1)*e+e+1)*(t+1))+1)*(((t+1)*e+1)*1)*(t+1+1)
 have h1:=boxD (t+1) e
 obtain ⟨s,hs⟩:∃s,t+1=s:=⟨_,rfl⟩
 rw [hs] at h1 ⊢
 obtain ⟨X,hX⟩:∃X,(s*e+e+1)*s=X:=⟨_,rfl⟩
 rw [hX] at h1 ⊢
 have e1:(d*X+d+1)*((s*e+e+1)*1)*s=(d*X+d+1)*X:=by
  rw [Nat.mul_one,Nat.mul_assoc,hX]
 have e2:(d*X+1)*((s*e+1)*1)*(s+1)=(d*X+1)*(X+1):=by
  rw [Nat.mul_one,Nat.mul_assoc,h1]
 rw [e1,e2,Nat.mul_add (d*X+1),Nat.mul_one,Nat.add_mul (d*X+d),Nat.add_mul (d*X) d,Nat.add_mul (d*X) 1,Nat.one_mul]
 omega
def M3t (H L d e t:Nat):Nat:=phi3 L (5*(t+1)*d+d) (5*(t+1)*e+e)*(2*capN t ((5*(t+1)*d+1)*((5*(t+1)*e+1)*1)) H (c3 t))
theorem M3t_mono {H L d e t t':Nat}(h:t≤t'):M3t H L d e t≤M3t H L d e t':=by
 have h5:5*(t+1)*d≤5*(t'+1)*d:=Nat.mul_le_mul_right _ (by omega)
 have h6:5*(t+1)*e≤5*(t'+1)*e:=Nat.mul_le_mul_right _ (by omega)
 unfold M3t
 exact Nat.mul_le_mul (phi3_mono (Nat.le_refl _) (by omega) (by omega)) (Nat.mul_le_mul_left _ (capN_mono h (Nat.mul_le_mul (by omega) (Nat.mul_le_mul_right _ (by omega))) (by unfold c3;omega)))
theorem lad3 {la lb H L d e:Nat}(hL:max la lb≤L+1):Lad (Pn 2) la lb H (two1 d e) (fun l=>two1 ((la+lb - 2*l+2)*d) ((la+lb - 2*l+2)*e)) (fun l=>M3t H L d e (la+lb - 2*l)):=by
 have e9:∀t x,(t+1)*x+x=(t+2)*x:=fun t x=>by rw [show t+2=(t+1)+1 by omega,Nat.add_mul (t+1) 1 x,Nat.one_mul]
 refine ⟨fun l hl=>⟨_,_,capC3 d e _,?_⟩,fun l hl=> ?_,fun k l hkl=>⟨M3t_mono (by omega),fun j=> ?_⟩,?_,fun j=> ?_⟩
 · rw [phi3_eq,vol2]
   exact Nat.mul_le_mul_right _ (phi3_mono (by omega) (Nat.le_refl _) (Nat.le_refl _))
 · obtain ⟨X,c,hc⟩:=capCd1 d e (la+lb - 2*l)
   obtain ⟨Y,k,hk⟩:=capCd2 d e (la+lb - 2*l);refine ⟨_,c,_,k,hc,hk,fun j=> ?_⟩;rw [two1_add,two1_add,e9,e9];match j with
   | 0=>exact Nat.min_le_left _ _
   | 1=>exact Nat.min_le_right _ _
   | j+2=>exact Nat.min_le_left _ _
 · match j with
   | 0=>exact Nat.mul_le_mul_right _ (by omega)
   | 1=>exact Nat.mul_le_mul_right _ (by omega)
   | j+2=>exact Nat.le_refl _
 · rw [phi3_eq]
   refine Nat.mul_le_mul (phi3_mono (by omega) ?_ ?_) (Nat.le_trans (capN_ge _ H _ (Nat.mul_pos (by omega) (by omega))) (Nat.le_mul_of_pos_left _ (by omega)))
   · show d≤_
     omega
   · show e≤_
     omega
 · match j with
   | 0=>exact Nat.le_mul_of_pos_left d (by omega)
   | 1=>exact Nat.le_mul_of_pos_left e (by omega)
   | j+2=>exact Nat.le_refl _
end Cl
namespace Cl
def cntM (L:Mv):Nat:=L.foldl (fun g t=>Nat.gcd g t.2.natAbs) 0
def czM:Mv→Int
 | []=>0
 | t::L=>if t.2<0 then -(cntM (t::L):Int) else (cntM (t::L):Int)
def prM (L:Mv):Mv:=L.map fun t=>(t.1,t.2 / czM L)
theorem cntM_snoc (L:Mv) (t:Trm):cntM (L++[t])=Nat.gcd (cntM L) t.2.natAbs:=by unfold cntM;rw [List.foldl_append];rfl
theorem cntM_foldl:∀(L:Mv) (g:Nat),L.foldl (fun g t=>Nat.gcd g t.2.natAbs) g=Nat.gcd g (cntM L)
 | [],g=>by show g=Nat.gcd g 0;rw [Nat.gcd_zero_right]
 | t::L,g=>by
   show L.foldl _ (Nat.gcd g t.2.natAbs)=Nat.gcd g (L.foldl _ (Nat.gcd 0 t.2.natAbs));rw [cntM_foldl L,cntM_foldl L,Nat.gcd_zero_left,Nat.gcd_assoc]
theorem cntM_cons (t:Trm) (L:Mv):cntM (t::L)=Nat.gcd t.2.natAbs (cntM L):=by
 show L.foldl _ (Nat.gcd 0 t.2.natAbs)=_
 rw [cntM_foldl,Nat.gcd_zero_left]
theorem cntM_dvd:∀{L:Mv} {t:Trm},t∈L→cntM L∣t.2.natAbs
 | s::L,t,h=>by
   rw [cntM_cons];rcases List.mem_cons.1 h with rfl | h1
   · exact Nat.gcd_dvd_left _ _
   · exact Nat.dvd_trans (Nat.gcd_dvd_right _ _) (cntM_dvd h1)
theorem cntM_pos {t:Trm} {L:Mv}(ht:t∈L) (h:t.2≠0):0<cntM L:=by
 rcases Nat.eq_zero_or_pos (cntM L) with h0 | h0
 · have:=cntM_dvd ht
   rw [h0] at this;have:=Nat.eq_zero_of_zero_dvd this;omega
 · exact h0
theorem czM_abs (L:Mv):(czM L).natAbs=cntM L:=by
 cases L with
 | nil=>rfl
 | cons t L=>
   show (if t.2<0 then -(cntM (t::L):Int) else (cntM (t::L):Int)).natAbs=_;split
   · rw [Int.natAbs_neg,Int.natAbs_natCast]
   · rw [Int.natAbs_natCast]
theorem czM_dvd {L:Mv} {t:Trm}(ht:t∈L):t.2 % czM L=0:=by
 have h:=cntM_dvd ht
 rw [← czM_abs] at h
 exact Int.emod_eq_zero_of_dvd (Int.natAbs_dvd_natAbs.1 h)
end Cl
namespace Cl
section
variable {n : Nat} {A B N : Mv}
theorem cntM_scale (z:Int):∀L:Mv,cntM (scaleM z L)=z.natAbs*cntM L
 | []=>by show (0:Nat)=z.natAbs*0;rw [Nat.mul_zero]
 | t::L=>by
   show cntM ((t.1,z*t.2)::scaleM z L)=_;rw [cntM_cons,cntM_cons,cntM_scale z L,Int.natAbs_mul,Nat.gcd_mul_left]
theorem scale_pr (L:Mv):scaleM (czM L) (prM L)=L:=by
 unfold scaleM prM
 rw [List.map_map]
 conv=>rhs;rw [← List.map_id L]
 refine List.map_congr_left fun t ht=> ?_
 have h:=Int.mul_ediv_add_emod t.2 (czM L)
 rw [czM_dvd ht] at h
 show (t.1,czM L*(t.2 / czM L))=t
 rw [show czM L*(t.2 / czM L)=t.2 by omega]
theorem cntM_eq_zero {L:Mv}(h:PlainM n L) (hL:L≠ []):0<cntM L:=by
 match L,hL with
 | t::L',_=>exact cntM_pos List.mem_cons_self (h.ne t List.mem_cons_self)
theorem cnt_pr {L:Mv}(h:PlainM n L) (hL:L≠ []):cntM (prM L)=1:=by
 have h1:=cntM_scale (czM L) (prM L)
 rw [scale_pr,czM_abs] at h1
 have h2:=cntM_eq_zero h hL
 have h3:cntM L*1=cntM L*cntM (prM L):=by omega
 exact (Nat.eq_of_mul_eq_mul_left h2 h3).symm
theorem pr_plain {L:Mv}(h:PlainM n L):PlainM n (prM L):=
 ⟨fun t ht=>by
   obtain ⟨s,hs,rfl⟩:=List.mem_map.1 ht;exact h.len s hs,by
   unfold prM;rw [List.pairwise_map];exact h.ord,fun t ht=>by
   obtain ⟨s,hs,rfl⟩:=List.mem_map.1 ht;intro e;have e2:s.2 / czM L=0:=e;have e1:=Int.mul_ediv_add_emod s.2 (czM L);rw [e2,czM_dvd hs] at e1;exact h.ne s hs (by omega)⟩
end
end Cl
namespace Cl
theorem func_zero {n:Nat}(g:Plc→Int):∀(k:Nat) (L:Mv),L.length≤k→LenM n L→(∀p,p.length=n→coM L p=0)→sumL (fun t:Trm=>t.2*g t.1) L=0
 | _,[],_,_,_=>rfl
 | 0,t::L,hk,_,_=>by simp at hk
 | k+1,t::L,hk,hl,h0=>by
   have split:∀M:Mv,sumL (fun s:Trm=>s.2*g s.1) M=sumL (fun s:Trm=>s.2*g s.1) (M.filter fun s=>decide (s.1=t.1))+sumL (fun s:Trm=>s.2*g s.1) (M.filter fun s=> !decide (s.1=t.1)):=fun M=>by
    induction M with
    | nil=>rfl
    | cons a M ih=>
      by_cases e:a.1=t.1
      · rw [List.filter_cons_of_pos (by simp [e]),List.filter_cons_of_neg (by simp [e])]
        show a.2*g a.1+sumL _ M=a.2*g a.1+sumL _ _+_;rw [ih];omega
      · rw [List.filter_cons_of_neg (by simp [e]),List.filter_cons_of_pos (by simp [e])]
        show a.2*g a.1+sumL _ M=_+(a.2*g a.1+sumL _ _);rw [ih];omega
   have same:∀M:Mv,sumL (fun s:Trm=>s.2*g s.1) (M.filter fun s=>decide (s.1=t.1))=coM M t.1*g t.1:=fun M=>by
    induction M with
    | nil=>show 0=0*_;rw [Int.zero_mul]
    | cons a M ih=>
      rw [coM_cons];by_cases e:a.1=t.1
      · rw [List.filter_cons_of_pos (by simp [e]),if_pos e,Int.add_mul]
        show a.2*g a.1+sumL _ _=_;rw [ih,e]
      · rw [List.filter_cons_of_neg (by simp [e]),if_neg e,ih];rw [Int.zero_add]
   have rest:∀(M:Mv) (p:Plc),coM (M.filter fun s=> !decide (s.1=t.1)) p=if p=t.1 then 0 else coM M p:=fun M p=>by
    induction M with
    | nil=>show 0=_;split<;>rfl
    | cons a M ih=>
      by_cases e:a.1=t.1
      · rw [List.filter_cons_of_neg (by simp [e]),ih,coM_cons]
        by_cases ep:p=t.1
        · rw [if_pos ep,if_pos ep]
        · rw [if_neg ep,if_neg ep,if_neg (fun h=>ep (h.symm.trans e))];omega
      · rw [List.filter_cons_of_pos (by simp [e]),coM_cons,ih,coM_cons]
        by_cases ep:p=t.1
        · rw [if_pos ep,if_pos ep,if_neg (fun h=>e (h.trans ep))];rfl
        · rw [if_neg ep,if_neg ep]
   rw [split,same,h0 t.1 (hl t List.mem_cons_self),Int.zero_mul,Int.zero_add];refine func_zero g k _ ?_ (fun s hs=>hl s (List.mem_filter.1 hs).1) fun p hp=> ?_
   · have h1:((t::L).filter fun s=> !decide (s.1=t.1))=L.filter fun s=> !decide (s.1=t.1):=List.filter_cons_of_neg (by simp)
     rw [h1];have:=List.length_filter_le (fun s:Trm=> !decide (s.1=t.1)) L;simp at hk;omega
   · rw [rest]
     split
     · rfl
     · exact h0 p hp
theorem func_eq {n:Nat}(g:Plc→Int) {L M:Mv}(hL:LenM n L) (hM:LenM n M) (h:EqM n L M):sumL (fun t:Trm=>t.2*g t.1) L=sumL (fun t:Trm=>t.2*g t.1) M:=by
 have h1:=func_zero (n:=n) g _ (L++scaleM (-1) M) (Nat.le_refl _) (hL.append (hM.scale _)) fun p hp=>by
  rw [coM_append,coM_scale,h p hp];omega
 rw [sumL_append] at h1
 have h2:sumL (fun t:Trm=>t.2*g t.1) (scaleM (-1) M)= -1*sumL (fun t:Trm=>t.2*g t.1) M:=by
  unfold scaleM;rw [sumL_map,← sumL_mul];exact sumL_congr fun t _=>Int.mul_assoc _ _ _
 rw [h2] at h1
 omega
def mapM (f:Plc→Plc) (g:Plc→Int) (L:Mv):Mv:=L.map fun t=>(f t.1,t.2*g t.1)
theorem mapM_append (f:Plc→Plc) (g:Plc→Int) (L M:Mv):mapM f g (L++M)=mapM f g L++mapM f g M:=List.map_append
theorem coM_map (f:Plc→Plc) (g:Plc→Int) (L:Mv) (p:Plc):coM (mapM f g L) p=sumL (fun t:Trm=>t.2*(if f t.1=p then g t.1 else 0)) L:=by
 unfold coM mapM
 rw [sumL_map]
 refine sumL_congr fun t _=> ?_
 show (if f t.1=p then t.2*g t.1 else 0)=_
 split
 · rfl
 · rw [Int.mul_zero]
theorem mapM_eq {n:Nat}(f:Plc→Plc) (g:Plc→Int) {L M:Mv}(hL:LenM n L) (hM:LenM n M) (h:EqM n L M):EqM n (mapM f g L) (mapM f g M):=fun p _=>by
 rw [coM_map,coM_map,func_eq (fun q=>if f q=p then g q else 0) hL hM h]
theorem mapM_len {n:Nat} {f:Plc→Plc} {g:Plc→Int} {L:Mv}(h:LenM n L) (hf:∀p,p.length=n→(f p).length=n):LenM n (mapM f g L):=fun t ht=>by
 obtain ⟨s,hs,rfl⟩:=List.mem_map.1 ht
 exact hf _ (h s hs)
end Cl
