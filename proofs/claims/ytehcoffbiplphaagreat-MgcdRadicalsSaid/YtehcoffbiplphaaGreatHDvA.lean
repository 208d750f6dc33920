import Derived.Test.YtehcoffbiplphaaGreatHLen64
import Derived.Test.YtehcoffbiplphaaGreatHNatA
set_option linter.all false
set_option maxHeartbeats 4000000
set_option maxRecDepth 100000
namespace Go.Proofs.YtehcoffbiplphaaGreat
open Go.Proofs.Tryz
variable {b s V v v1 v0 u2 u1 u0 X L k n K m i N:Nat} {Y y1 y0 u q r c a c1 c0 y x:Int} {xs os ys rs:List Int} {w w':World} {e:Ending}
def amC {Y y1 y0 u q r:Nat}(hY:Y=y1*b+y0) (hu:q*y1+r=u):q*Y+r*b=u*b+q*y0:=by
 subst hY;subst hu;rw [ak,bO,dA];omega
def acs {y1 u q r:Nat}(hu:q*y1+r=u) (hq:0<q):(q-1)*y1+(r+y1)=u:=by
 obtain ⟨k,rfl⟩:∃k,q=k+1:=⟨q-1,by omega⟩;rw [DK];rw [bO] at hu;omega
def YU {Y y1 y0 u c:Nat}(hY:Y=y1*b+y0) (h1:0<y1) (hc:c<b):u*b+c<(u / y1+1)*Y:=by
 have h2:u<(u / y1+1)*y1:=by
  have:=su u y1;have:=jy u h1;rw [bO,aq (u / y1) y1];omega
 have h3:(u+1)*b<=(u / y1+1)*y1*b:=bG b h2;have h4:(u / y1+1)*y1*b<=(u / y1+1)*Y:=by
  rw [dA];exact bn _ (by omega)
 rw [bO] at h3;omega
def Qa {X q Y:Nat}(h1:q*Y<=X) (h2:X<(q+1)*Y):X / Y=q∧X-q*Y=X % Y:=by
 have hY:0<Y:=by
  rcases jM Y with h0 | h0
  . subst h0;omega
  . exact h0
 have h3:X / Y=q:=by
  apply Um
  . have:=(L9 hY).2 h2
    omega
  . exact (Ul hY).2 h1
 refine ⟨h3,?_⟩;have:=su X Y;rw [h3,aq Y q] at this;omega
def amB {Y u c:Nat}(hc:c<b) (huY:u<Y):(u*b+c) / Y<b:=by
 have hY:0<Y:=by omega
 rw [L9 hY];have h1:(u+1)*b<=Y*b:=bG b huY;rw [bO,aq Y b] at h1;omega
def YT (a b:Nat) (hs:0<s):a*s / (b*s)=a / b∧a*s % (b*s) / s=a % b:=by
 refine ⟨Nat.mul_div_mul_right a b hs,?_⟩;rw [Nat.mul_mod_mul_right,Nat.mul_div_cancel _ hs]
def YQ {P u E q:Nat}(hv:v*E<=V) (hu:P<(u+1)*E) (h:q*V<=P):q*v<=u:=by
 have h1:q*v*E<=q*V:=by rw [dA];exact bn q hv
 have h2:q*v*E<(u+1)*E:=by omega
 have:=Jh h2;omega
def ach {B q r:Nat}(hr:q*v1+r=u2*B+u1) (h:r*B+u0<q*v0):(u2*B+u1)*B+u0<q*(v1*B+v0):=by
 have:=amC (b:=B) (Y:=v1*B+v0) rfl hr;omega
def Sk {q q':Nat}(h:X<q*V) (h':q'*V<=X):q'<=q-1:=by
 have:q'<q:=Jh (aR h' h);omega
open Go.RowKit
def Lj (x:Int) (w:World) (h0:0<=x) (h1:x<=18446744073709551615) (k:Nat) (hk:Lib.bitLen x.toNat=k) (zP:k<=64):
 aB 114 #[.int .u64 x] w fun e w'=>e=.returned (.int .i64 ((64-k:Nat):Int))∧w'=w:=by
 have C:=aA (Tn x w h0 h1);rw [hk] at C;clear h0 h1 hk;go_enter func114,ntmps114
 go_wp2_with fail
 refine C.o.mono ?_;rintro e w' ⟨rfl,rfl⟩;have e1:IntKind.i64.wrap (64-(k:Int))=((64-k:Nat):Int):=by rw [bP _ (by omega)];omega
 go_wp2_with fail
 go_ret;exact ⟨rfl,rfl⟩
structure Dh (Y y1 y0:Int):Prop where
 eq:Y=y1*4294967296+y0
 h1:2147483648<=y1
 h1':y1<4294967296
 h0:0<=y0
 h0':y0<4294967296
structure Du (Y u c:Int):Prop where
 u0:0<=u
 u1:u<Y
 c0:0<=c
 c1:c<4294967296
structure Dg (Y y1 y0 u c q r:Int):Prop where
 du:Du Y u c
 q0:0<=q
 r0:0<=r
 eq:q*y1+r=u
 big:u*4294967296+c<(q+1)*Y
 cap:q<=4294967297
 rb:r<4294967296
structure Dn (Y u c q:Int):Prop where
 du:Du Y u c
 eq:q=(u*4294967296+c) / Y
def ag (x:Int):IntKind.u64.wrap x=x % 18446744073709551616:=by
 simp [IntKind.wrap,IntKind.bits,IntKind.signed]
def Dn.of (h:Du Y u c) (h1:q*Y<=u*4294967296+c) (h2:u*4294967296+c<(q+1)*Y):Dn Y u c q:=by
 have hY:0<Y:=by have:=h.u0;have:=h.u1;omega
 refine ⟨h,?_⟩;apply Int.le_antisymm
 . exact (Int.le_ediv_iff_mul_le hY).2 h1
 . have:=(FH hY).2 h2
   omega
def Dg.id (H:Dh Y y1 y0) (h:Dg Y y1 y0 u c q r):q*Y+r*4294967296=u*4294967296+q*y0:=by
 rw [H.eq,<- h.eq,Jg,rJ,Fw];omega
def PU {b:Int}(h0:0<=a) (h1:a<=4294967296) (h2:0<=b) (h3:b<=4294967295):0<=a*b∧a*b<=4294967296*4294967295:=
 ⟨yC h0 h2,Nu h1 h3 h2 (by omega)⟩
def Dg.test (H:Dh Y y1 y0) (h:Dg Y y1 y0 u c q r) (hq:q<4294967296):IntKind.u64.wrap (q*y0)=q*y0∧IntKind.u64.wrap (IntKind.u64.wrap (4294967296*r)+c)=4294967296*r+c:=by
 have h1:=PU h.q0 (by omega) H.h0 (by have:=H.h0';omega);have h2:=h.r0;have h3:=h.rb;have h4:=h.du.c0;have h5:=h.du.c1;rw [ag,ag,ag];omega
def Dg.stop (h:Dg Y y1 y0 u c q r) (H:Dh Y y1 y0) (hq:q<4294967296) (ht:¬IntKind.u64.wrap (IntKind.u64.wrap (4294967296*r)+c)<IntKind.u64.wrap (q*y0)):Dn Y u c q:=by
 obtain ⟨e1,e2⟩:=h.test H hq;rw [e1,e2] at ht;have:=h.id H;exact .of h.du (by omega) h.big
def Dg.less (h:Dg Y y1 y0 u c q r) (H:Dh Y y1 y0) (ht:4294967296<=q∨IntKind.u64.wrap (IntKind.u64.wrap (4294967296*r)+c)<IntKind.u64.wrap (q*y0)):u*4294967296+c<q*Y:=by
 have h1:=h.du.c1;have h2:=h.du.u1;have h3:=h.id H;by_cases hq:4294967296<=q
 . have h4:4294967296*(u+1)<=q*Y:=Nu hq h2 (by have:=h.du.u0;omega) h.q0
   omega
 . obtain ⟨e1,e2⟩:=h.test H (by omega)
   rw [e1,e2] at ht;omega
def Dg.pos (h:Dg Y y1 y0 u c q r) (hl:u*4294967296+c<q*Y):0<q:=by
 have h1:=h.q0;have h2:=h.du.c0;have h3:=h.du.u0;by_cases h4:q=0
 . subst h4;omega
 . omega
section
variable (h:Dg Y y1 y0 u c q r) (H:Dh Y y1 y0) (ht:4294967296<=q∨IntKind.u64.wrap (IntKind.u64.wrap (4294967296*r)+c)<IntKind.u64.wrap (q*y0))
include h H ht
theorem Dg.next:
 u*4294967296+c<q*Y∧0<q∧IntKind.u64.wrap (q-1)=q-1∧IntKind.u64.wrap (r+y1)=r+y1∧(q-1)*y1+(r+y1)=u:=by
 have h1:=h.less H ht;have h2:=h.pos h1;have h3:=h.r0;have h4:=h.rb;have h5:=H.h1';have h6:=H.h1;have h7:=h.cap;have h8:=h.eq;refine ⟨h1,h2,?_,?_,?_⟩
 . rw [ag];omega
 . rw [ag];omega
 . rw [Int.sub_mul];omega
theorem Dg.brk (hb:4294967296<=IntKind.u64.wrap (r+y1)):Dn Y u c (IntKind.u64.wrap (q-1)):=by
 obtain ⟨h1,h2,h3,h4,h5⟩:=h.next H ht;rw [h3];rw [h4] at hb;refine .of h.du ?_ (by rw [adD];exact h1);have h6:=PU (a:=q-1) (b:=y0) (by omega) (by have:=h.cap;omega) H.h0 (by have:=H.h0';omega);have h7:(q-1)*Y+(r+y1)*4294967296=u*4294967296+(q-1)*y0:=by
  rw [H.eq,<- h5];generalize q-1=p;rw [Jg,rJ (p*y1) (r+y1) 4294967296,Fw p y1 4294967296];omega
 have h8:=h.du.c0;have h9:4294967296*4294967296<=(r+y1)*4294967296:=Nt hb (by omega);omega
theorem Dg.on (hb:¬4294967296<=IntKind.u64.wrap (r+y1)):Dg Y y1 y0 u c (IntKind.u64.wrap (q-1)) (IntKind.u64.wrap (r+y1))∧(IntKind.u64.wrap (q-1)).toNat<q.toNat:=by
 obtain ⟨h1,h2,h3,h4,h5⟩:=h.next H ht;rw [h3];rw [h4] at hb ⊢;exact ⟨⟨h.du,by omega,by have:=h.r0;have:=H.h1;omega,h5,by rw [adD];exact h1,by have:=h.cap;omega,by omega⟩,by omega⟩
end
def Dg.start (h:Du Y u c) (H:Dh Y y1 y0):Dg Y y1 y0 u c (IntKind.u64.wrap (u.tdiv y1)) (IntKind.u64.wrap (u-IntKind.u64.wrap (IntKind.u64.wrap (u.tdiv y1)*y1))):=by
 have h0:=h.u0;have h1:=h.u1;have h2:=H.h1;have h3:=H.h1';have h4:=H.eq;have h5:=H.h0';have h6:=H.h0;have hu:u<18446744073709551616:=by omega
 have Aj:0<=u / y1:=FE h0 (by omega);have hq1:u / y1<=u:=Uk _ h0;have e1:IntKind.u64.wrap (u.tdiv y1)=u / y1:=by
  rw [Qx h0,ag];omega
 have e2:=tJ u y1;have e3:=Je u (b:=y1) (by omega);have e4:=Jd u (b:=y1) (by omega);rw [nE] at e2;have e5:0<=u / y1*y1:=yC Aj (by omega);have e6:IntKind.u64.wrap (u / y1*y1)=u / y1*y1:=by rw [ag];omega
 have e7:IntKind.u64.wrap (u-u / y1*y1)=u % y1:=by rw [ag];omega
 rw [e1,e6,e7];refine ⟨h,Aj,e3,e2,?_,?_,by omega⟩
 . have h7:u+1<=(u / y1+1)*y1:=by rw [rJ];omega
   have h8:(u+1)*4294967296<=(u / y1+1)*y1*4294967296:=Nt h7 (by omega);have h9:(u / y1+1)*y1*4294967296<=(u / y1+1)*Y:=by
    rw [Fw];exact Uj (by omega) (by omega)
   have:=h.c1;omega
 . have h7:u<(4294967298)*y1:=by omega
   have:=(FH (by omega)).2 h7;omega
def Dn.lt (h:Dn Y u c q):0<=q∧q<4294967296:=by
 have h1:=h.du.u0;have h2:=h.du.u1;have h3:=h.du.c0;have h4:=h.du.c1;rw [h.eq];refine ⟨FE (by omega) (by omega),?_⟩;rw [FH (by omega)];omega
def Dn.rest (h:Dn Y u c q) (hY:Y<18446744073709551616):IntKind.u64.wrap (IntKind.u64.wrap (IntKind.u64.wrap (u*4294967296)+c)-IntKind.u64.wrap (q*Y))=(u*4294967296+c) % Y:=by
 have h1:=h.du.u0;have h2:=h.du.u1;have e1:=tJ (u*4294967296+c) Y;have e3:=Je (u*4294967296+c) (b:=Y) (by omega);have e4:=Jd (u*4294967296+c) (b:=Y) (by omega);rw [<- h.eq,nE] at e1;rw [ag,ag,ag,ag];omega
structure Dz (hi lo y:Int) (s:Nat) (Y u c1 c0:Int):Prop where
 eY:Y=y*2^s
 Y1:Y<18446744073709551616
 du:Du Y u c1
 z0:0<=c0
 z1:c0<4294967296
 eq:(u*4294967296+c1)*4294967296+c0=(hi*18446744073709551616+lo)*2^s
def gm (s:Nat):((2^s:Nat):Int)=2^s:=Int.natCast_pow 2 s
def qz (s:Nat):(0:Int)<2^s:=Int.pow_pos (by omega)
def Dz.final {hi lo y:Int} {q1 q0:Int}(h:Dz hi lo y s Y u c1 c0) (h1:Dn Y u c1 q1) (hr:(u*4294967296+c1) % Y=r) (h2:Dn Y r c0 q0):
 IntKind.u64.wrap (IntKind.u64.wrap (q1*4294967296)+q0)=(hi*18446744073709551616+lo) / y∧IntKind.u64.wrap (IntKind.u64.wrap (IntKind.u64.wrap (r*4294967296)+c0)-IntKind.u64.wrap (q0*Y)) / 2^s=(hi*18446744073709551616+lo) % y:=by
 obtain ⟨l1,l2⟩:=h1.lt;obtain ⟨l3,l4⟩:=h2.lt;have hP:=qz s;have hY:0<Y:=by have:=h1.du.u0;have:=h1.du.u1;omega
 rw [h2.rest h.Y1];have e0:IntKind.u64.wrap (IntKind.u64.wrap (q1*4294967296)+q0)=q1*4294967296+q0:=by rw [ag,ag];omega
 rw [e0];have e1:=tJ (u*4294967296+c1) Y;have e2:=tJ (r*4294967296+c0) Y;have e3:=Je (r*4294967296+c0) (b:=Y) (by omega);have e4:=Jd (r*4294967296+c0) hY;rw [<- h1.eq,hr] at e1;rw [<- h2.eq] at e2;have e5:=h.eq;have e6:=h.eY;generalize (r*4294967296+c0) % Y=ρ at*
 generalize hi*18446744073709551616+lo=N at*
 have e7:y*(q1*4294967296+q0)*2^s+ρ=N*2^s:=by
  rw [<- e5,<- e1,adC,<- e6,Jg,rJ,<- Fw];omega
 have e8:ρ=(N-y*(q1*4294967296+q0))*2^s:=by rw [Int.sub_mul];omega
 have hy:0<y:=by
  rcases Ui 0 y with h0 | h0
  . exact h0
  . exfalso
    have:y*2^s<=0:=Int.mul_nonpos_of_nonpos_of_nonneg h0 (by omega);omega
 have e9:ρ / 2^s=N-y*(q1*4294967296+q0):=by rw [e8,Uh _ (by omega)]
 have t0:0<=N-y*(q1*4294967296+q0):=by rw [<- e9];exact FE e3 (by omega)
 have t1:N-y*(q1*4294967296+q0)<y:=by
  rw [<- e9];rw [FH hP,<- e6];exact e4
 rw [e9];obtain ⟨f1,f2⟩:=(Ug hy (a:=N) (q:=q1*4294967296+q0) (r:=N-y*(q1*4294967296+q0))).2 ⟨by omega,t0,t1⟩;exact ⟨f1.symm,f2.symm⟩
def Dz.du2 {hi lo:Int} (h:Dz hi lo y s Y u c1 c0) (hr:(u*4294967296+c1) % Y=r):Du Y r c0:=by
 have hY:0<Y:=by have:=h.du.u0;have:=h.du.u1;omega
 have e3:=Je (u*4294967296+c1) (b:=Y) (by omega);have e4:=Jd (u*4294967296+c1) hY;rw [hr] at e3 e4;exact ⟨e3,e4,h.z0,h.z1⟩
def vJ (x:Int) (h0:0<=x) (h1:x<18446744073709551616):bits .and .u64 x 4294967295=x % 4294967296:=by
 obtain ⟨n,rfl⟩:=JR h0;have e:=u64_and_nat n 4294967295 (by omega) (by omega);have e2:((4294967295:Nat):Int)=4294967295:=rfl;rw [e2] at e;rw [e,show (4294967295:Nat)=2^32-1 by decide,Nat.and_two_pow_sub_one_eq_mod];omega
def zT {b:Int} (ha:0<=a) (hb:0<=b) (cN:b<2^s) (h:a*2^s<18446744073709551616) (h2:b<18446744073709551616):bits .or .u64 (a*2^s) b=a*2^s+b:=by
 obtain ⟨m,rfl⟩:=JR ha;obtain ⟨n,rfl⟩:=JR hb;have e1:((m:Int)*2^s)=((2^s*m:Nat):Int):=by rw [sr,gm,nE]
 rw [e1] at h ⊢;have nZ:n<2^s:=by rw [<- gm] at cN;exact Int.ofNat_lt.1 cN
 rw [Nk _ _ (by omega) (by omega),<- ajb nZ,lI]
def arT {hi lo y:Int} {k s:Nat}(h0:0<=hi) (h1:hi<y) (h2:0<=lo) (h3:lo<18446744073709551616) (h4:y<18446744073709551616) (hk:Lib.bitLen y.toNat=k) (hs:64-k=s) (zP:k<=64) {L:Int}
 (eY:IntKind.u64.wrap (y*2^s)=Y) (eu:bits .or .u64 (IntKind.u64.wrap (hi*2^s)) (lo / 2^(64-s))=u) (eL:IntKind.u64.wrap (lo*2^s)=L) (e1:L / 4294967296=c1) (e0:bits .and .u64 L 4294967295=c0):
 Dz hi lo y s Y u c1 c0∧Dh Y (Y / 4294967296) (bits .and .u64 Y 4294967295)∧s<=63:=by
 have S1:0<k:=by
  rcases jM k with h | h
  . have:=EM (x:=y.toNat) (by omega)
    rw [hk,h] at this;omega
  . exact h
 have X9:s<=63:=by omega
 have hP:=qz s;have hR:=qz (64-s);have YK:(2:Int)^s*2^(64-s)=18446744073709551616:=by
  rw [<- Int.pow_add,show s+(64-s)=64 by omega];rfl
 have hyR:y<2^(64-s):=by
  have:=EM (x:=y.toNat) (by omega);rw [hk,show k=64-s by omega] at this;have h5:((y.toNat:Nat):Int)<((2^(64-s):Nat):Int):=by exact_mod_cast this
  rw [gm] at h5;omega
 have hyL:2^(63-s)<=y:=by
  rcases Ui y (2^(63-s)) with h | h
  . exfalso
    have h5:y.toNat<2^(63-s):=by
     (have:((y.toNat:Nat):Int)<((2^(63-s):Nat):Int):=by rw [gm];omega);exact_mod_cast this
    have:=Lib.bitLen_le y.toNat (63-s) (by omega) h5;omega
  . exact h
 have hY1:y*2^s<18446744073709551616:=by
  rw [<- YK,nE];exact Int.mul_lt_mul_of_pos_left hyR hP
 have hY0:9223372036854775808<=y*2^s:=by
  have h5:(2:Int)^(63-s)*2^s<=y*2^s:=Nt hyL (by omega);rw [<- Int.pow_add,show 63-s+s=63 by omega] at h5;exact h5
 have rz:0<=y*2^s:=by omega
 have hh0:0<=hi*2^s:=yC h0 (by omega);have hh1:(hi+1)*2^s<=y*2^s:=Nt h1 (by omega);rw [rJ,Jc] at hh1;have w1:IntKind.u64.wrap (y*2^s)=y*2^s:=by rw [ag];omega
 have w2:IntKind.u64.wrap (hi*2^s)=hi*2^s:=by rw [ag];omega
 rw [w1] at eY;rw [w2] at eu;rw [ag] at eL;have xB:0<=lo / 2^(64-s):=FE h2 (by omega);have GK:lo / 2^(64-s)<2^s:=by rw [FH hR,YK];exact h3
 have OD:lo / 2^(64-s)<=lo:=Uk _ h2;rw [zT h0 xB GK (by omega) (by omega)] at eu;have hL0:0<=L:=by omega
 have hL1:L<18446744073709551616:=by omega
 rw [vJ L hL0 hL1] at e0;have hL:L=lo % 2^(64-s)*2^s:=by
  rw [<- eL,<- YK,nE lo,Int.mul_emod_mul_of_pos _ _ hP,nE]
 have e5:=tJ lo (2^(64-s));subst eY;refine ⟨⟨rfl,hY1,⟨by omega,by omega,by omega,by omega⟩,by omega,by omega,?_⟩,?_,X9⟩
 . have e6:(hi*18446744073709551616+lo)*2^s=hi*2^s*18446744073709551616+(lo / 2^(64-s)*18446744073709551616+L):=by
    rw [hL,rJ,adC];congr 1
    rw [<- YK];have e7:lo / 2^(64-s)*(2^s*2^(64-s))+lo % 2^(64-s)*2^s=(2^(64-s)*(lo / 2^(64-s))+lo % 2^(64-s))*2^s:=by
     rw [rJ];congr 1
     rw [nE (2^s),<- Fw,nE (lo / 2^(64-s))]
    rw [e7,e5]
   rw [e6];omega
 . rw [vJ _ rz hY1]
   exact ⟨by omega,by omega,by omega,by omega,by omega⟩
def aiS (hi lo y:Int) (w:World) (h0:0<=hi) (h1:hi<y) (h2:0<=lo) (h3:lo<18446744073709551616) (h4:y<18446744073709551616):
 aB 140 #[.int .u64 hi,.int .u64 lo,.int .u64 y] w fun e w'=>e=.returned (.tuple #[.int .u64 ((hi*18446744073709551616+lo) / y),.int .u64 ((hi*18446744073709551616+lo) % y)])∧∃j,w'=w.drewN j:=by
 by_cases hz:hi=0
 . have rz:(y==0)=false:=by simp;omega
   have hyn:¬y=0:=by omega
   have mj:¬y<=hi:=by omega
   subst hz;rw [uV,FD];have Hq:Hid (IntKind.u64.wrap (lo.tdiv y)=lo / y):=by
    show _=_;rw [Qx h2];exact T6 _ ⟨FE h2 (by omega),by have:=Uk y h2;omega⟩
   have Hr:Hid (lo.tmod y=lo % y):=Wc h2;clear h0 h2 h3 h4;go_enter func140,ntmps140
   go_wp2_with fail
   go_quiet (fail)
   go_wp2_with fail
   go_ret2;refine ⟨?_,_,rfl⟩;rw [<- Hq.o,<- Hr.o];rfl
 . have rz:(y==0)=false:=by simp;omega
   have jE:(hi==0)=false:=by simp;omega
   have mj:¬y<=hi:=by omega
   obtain ⟨k,hk⟩:∃k,Lib.bitLen y.toNat=k:=⟨_,rfl⟩;have zP:k<=64:=by rw [<- hk];exact Lib.bitLen_le _ 64 (by omega) (by omega)
   have C:=aA (Lj y w (by omega) (by omega) k hk zP);obtain ⟨s,hs⟩:∃s,64-k=s:=⟨_,rfl⟩;rw [hs] at C;obtain ⟨Y,eY⟩:∃Y,IntKind.u64.wrap (y*2^s)=Y:=⟨_,rfl⟩;obtain ⟨u,eu⟩:∃Y,bits .or .u64 (IntKind.u64.wrap (hi*2^s)) (lo / 2^(64-s))=Y:=⟨_,rfl⟩;obtain ⟨L,eL⟩:∃Y,IntKind.u64.wrap (lo*2^s)=Y:=⟨_,rfl⟩;obtain ⟨c1,ec1⟩:∃Y,L / 4294967296=Y:=⟨_,rfl⟩;obtain ⟨c0,ec0⟩:∃Y,bits .and .u64 L 4294967295=Y:=⟨_,rfl⟩;obtain ⟨HZ',HH',X9⟩:=arT h0 h1 h2 h3 h4 hk hs zP eY eu eL ec1 ec0;have HZ:=aA HZ';obtain ⟨y1,ey1⟩:∃y1,Y / 4294967296=y1:=⟨_,rfl⟩;obtain ⟨y0,ey0⟩:∃y0,bits .and .u64 Y 4294967295=y0:=⟨_,rfl⟩;rw [ey1,ey0] at HH';have H:=aA HH';have xZ:(y1==0)=false:=by have:=HH'.h1;simp;omega
   have aJl:¬y1=0:=by have:=HH'.h1;omega
   have uu:IntKind.u64.wrap (s:Int)=(s:Int):=T6 _ (by omega);have vH:IntKind.u64.wrap (64-(s:Int))=((64-s:Nat):Int):=by rw [T6 _ (by omega)];omega
   have D1:=aA (Dg.start HZ'.du HH');have hY1:=aA HZ'.Y1;clear HZ' HH' h0 h1 h2 h3 h4 hk hs zP;go_enter func140,ntmps140
   go_wp2_with fail
   refine C.o.mono ?_;rintro e w' ⟨rfl,rfl⟩;go_wp2_with fail
   clear C;go_loopw [15,16] (fun qv rv wr=>∃q r:Int,qv=.int .u64 q∧rv=.int .u64 r∧wr=w'∧Hid (Dg Y y1 y0 u c1 q r)) (fun qv _ _=>(intOf qv).toNat)
   case atStart=>exact ⟨_,_,rfl,rfl,(by first | trivial | rfl),D1⟩
   case round=>
    obtain ⟨q,r,rfl,rfl,rfl,D⟩:=hrel;obtain ⟨t1,OC⟩:∃t,IntKind.u64.wrap (q*y0)=t:=⟨_,rfl⟩;obtain ⟨t2,OB⟩:∃t,IntKind.u64.wrap (4294967296*r)=t:=⟨_,rfl⟩;obtain ⟨t3,OA⟩:∃t,IntKind.u64.wrap (t2+c1)=t:=⟨_,rfl⟩;obtain ⟨q',hq'⟩:∃t,IntKind.u64.wrap (q-1)=t:=⟨_,rfl⟩;obtain ⟨r',CI⟩:∃t,IntKind.u64.wrap (r+y1)=t:=⟨_,rfl⟩;have Hs:Hid (q<4294967296->¬t3<t1->Dn Y u c1 q):=fun h1 h2=>D.o.stop H.o h1 (by rw [OC];rw [OB,OA];exact h2);have Hb:Hid ((4294967296<=q∨t3<t1)->4294967296<=r'->Dn Y u c1 q'):=fun h1 h2=>by
     rw [<- hq'];exact D.o.brk H.o (by rw [OC,OB,OA];exact h1) (by rw [CI];exact h2)
    have Ho:Hid ((4294967296<=q∨t3<t1)->¬4294967296<=r'->Dg Y y1 y0 u c1 q' r'∧q'.toNat<q.toNat):=fun h1 h2=>by
     rw [<- hq'];rw [<- CI];exact D.o.on H.o (by rw [OC,OB,OA];exact h1) (by rw [CI];exact h2)
    clear D;by_cases xC:4294967296<=q
    . have dH:¬q<4294967296:=by omega
      by_cases Fp:4294967296<=r'
      . have DN:=aA (Hb.o (.inl xC) Fp)
        clear Hs Hb Ho;have DN1:=DN;obtain ⟨N9,WI⟩:∃t,IntKind.u64.wrap (IntKind.u64.wrap (IntKind.u64.wrap (u*4294967296)+c1)-IntKind.u64.wrap (q'*Y))=t:=⟨_,rfl⟩;(have HR:Hid ((u*4294967296+c1) % Y=N9):=by rw [<- WI];exact (DN.o.rest hY1.o).symm);have D2:=aA (Dg.start (HZ.o.du2 HR.o) H.o);(go_wp2_with fail);clear OC OB OA;(try clear hq');(try clear CI);(try clear xC);(try clear dH);(try clear yg);(try clear Fp);clear DN;go_loopw [18,16] (fun qv rv ws=>∃x r:Int,qv=.int .u64 x∧rv=.int .u64 r∧ws=wr∧Hid (Dg Y y1 y0 N9 c0 x r)) (fun qv _ _=>(intOf qv).toNat)
        case atStart=>exact ⟨_,_,rfl,rfl,(by first | trivial | rfl),D2⟩
        case round=>
         obtain ⟨x,r,rfl,rfl,rfl,D⟩:=hrel;obtain ⟨t1,OC⟩:∃t,IntKind.u64.wrap (x*y0)=t:=⟨_,rfl⟩;obtain ⟨t2,OB⟩:∃t,IntKind.u64.wrap (4294967296*r)=t:=⟨_,rfl⟩;obtain ⟨t3,OA⟩:∃t,IntKind.u64.wrap (t2+c0)=t:=⟨_,rfl⟩;obtain ⟨x',Dl⟩:∃t,IntKind.u64.wrap (x-1)=t:=⟨_,rfl⟩;obtain ⟨s',uu⟩:∃t,IntKind.u64.wrap (r+y1)=t:=⟨_,rfl⟩;have Hs:Hid (x<4294967296->¬t3<t1->Dn Y N9 c0 x):=fun h1 h2=>D.o.stop H.o h1 (by rw [OC];rw [OB,OA];exact h2);have Hb:Hid ((4294967296<=x∨t3<t1)->4294967296<=s'->Dn Y N9 c0 x'):=fun h1 h2=>by
          rw [<- Dl];exact D.o.brk H.o (by rw [OC,OB,OA];exact h1) (by rw [uu];exact h2)
         have Ho:Hid ((4294967296<=x∨t3<t1)->¬4294967296<=s'->Dg Y y1 y0 N9 c0 x' s'∧x'.toNat<x.toNat):=fun h1 h2=>by
          rw [<- Dl];rw [<- uu];exact D.o.on H.o (by rw [OC,OB,OA];exact h1) (by rw [uu];exact h2)
         clear D;by_cases xC:4294967296<=x
         . have dH:¬x<4294967296:=by omega
           by_cases Fp:4294967296<=s'
           . have DN:=aA (Hb.o (.inl xC) Fp)
             clear Hs Hb Ho;have HF:=aA (HZ.o.final DN1.o HR.o DN.o);clear WI;(go_wp2_with fail);go_ret2;exact ⟨by rw [<- HF.o.1,<- HF.o.2];rfl,0,rfl⟩
           . have DO:=aA (Ho.o (.inl xC) Fp)
             clear Hs Hb Ho;(go_wp2_with fail);go_roundw
             case rel=>exact ⟨_,_,rfl,rfl,(by first | trivial | rfl),DO.o.1⟩
             case measure=>simpa [intOf] using DO.o.2
         . have dH:x<4294967296:=by omega
           by_cases yg:t3<t1
           . skip
             by_cases Fp:4294967296<=s'
             . have DN:=aA (Hb.o (.inr yg) Fp)
               clear Hs Hb Ho;have HF:=aA (HZ.o.final DN1.o HR.o DN.o);clear WI;(go_wp2_with fail);go_ret2;exact ⟨by rw [<- HF.o.1,<- HF.o.2];rfl,0,rfl⟩
             . have DO:=aA (Ho.o (.inr yg) Fp)
               clear Hs Hb Ho;(go_wp2_with fail);go_roundw
               case rel=>exact ⟨_,_,rfl,rfl,(by first | trivial | rfl),DO.o.1⟩
               case measure=>simpa [intOf] using DO.o.2
           . have DN:=aA (Hs.o dH yg)
             clear Hs Hb Ho Dl uu;have HF:=aA (HZ.o.final DN1.o HR.o DN.o);clear WI;(go_wp2_with fail);go_ret2;exact ⟨by rw [<- HF.o.1,<- HF.o.2];rfl,0,rfl⟩
      . have DO:=aA (Ho.o (.inl xC) Fp)
        clear Hs Hb Ho;(go_wp2_with fail);go_roundw
        case rel=>exact ⟨_,_,rfl,rfl,(by first | trivial | rfl),DO.o.1⟩
        case measure=>simpa [intOf] using DO.o.2
    . have dH:q<4294967296:=by omega
      by_cases yg:t3<t1
      . skip
        by_cases Fp:4294967296<=r'
        . have DN:=aA (Hb.o (.inr yg) Fp)
          clear Hs Hb Ho;have DN1:=DN;obtain ⟨N9,WI⟩:∃t,IntKind.u64.wrap (IntKind.u64.wrap (IntKind.u64.wrap (u*4294967296)+c1)-IntKind.u64.wrap (q'*Y))=t:=⟨_,rfl⟩;(have HR:Hid ((u*4294967296+c1) % Y=N9):=by rw [<- WI];exact (DN.o.rest hY1.o).symm);have D2:=aA (Dg.start (HZ.o.du2 HR.o) H.o);(go_wp2_with fail);clear OC OB OA;(try clear hq');(try clear CI);(try clear xC);(try clear dH);(try clear yg);(try clear Fp);clear DN;go_loopw [18,16] (fun qv rv ws=>∃x r:Int,qv=.int .u64 x∧rv=.int .u64 r∧ws=wr∧Hid (Dg Y y1 y0 N9 c0 x r)) (fun qv _ _=>(intOf qv).toNat)
          case atStart=>exact ⟨_,_,rfl,rfl,(by first | trivial | rfl),D2⟩
          case round=>
           obtain ⟨x,r,rfl,rfl,rfl,D⟩:=hrel;obtain ⟨t1,OC⟩:∃t,IntKind.u64.wrap (x*y0)=t:=⟨_,rfl⟩;obtain ⟨t2,OB⟩:∃t,IntKind.u64.wrap (4294967296*r)=t:=⟨_,rfl⟩;obtain ⟨t3,OA⟩:∃t,IntKind.u64.wrap (t2+c0)=t:=⟨_,rfl⟩;obtain ⟨x',Dl⟩:∃t,IntKind.u64.wrap (x-1)=t:=⟨_,rfl⟩;obtain ⟨s',uu⟩:∃t,IntKind.u64.wrap (r+y1)=t:=⟨_,rfl⟩;have Hs:Hid (x<4294967296->¬t3<t1->Dn Y N9 c0 x):=fun h1 h2=>D.o.stop H.o h1 (by rw [OC];rw [OB,OA];exact h2);have Hb:Hid ((4294967296<=x∨t3<t1)->4294967296<=s'->Dn Y N9 c0 x'):=fun h1 h2=>by
            rw [<- Dl];exact D.o.brk H.o (by rw [OC,OB,OA];exact h1) (by rw [uu];exact h2)
           have Ho:Hid ((4294967296<=x∨t3<t1)->¬4294967296<=s'->Dg Y y1 y0 N9 c0 x' s'∧x'.toNat<x.toNat):=fun h1 h2=>by
            rw [<- Dl];rw [<- uu];exact D.o.on H.o (by rw [OC,OB,OA];exact h1) (by rw [uu];exact h2)
           clear D;by_cases xC:4294967296<=x
           . have dH:¬x<4294967296:=by omega
             by_cases Fp:4294967296<=s'
             . have DN:=aA (Hb.o (.inl xC) Fp)
               clear Hs Hb Ho;have HF:=aA (HZ.o.final DN1.o HR.o DN.o);clear WI;(go_wp2_with fail);go_ret2;exact ⟨by rw [<- HF.o.1,<- HF.o.2];rfl,0,rfl⟩
             . have DO:=aA (Ho.o (.inl xC) Fp)
               clear Hs Hb Ho;(go_wp2_with fail);go_roundw
               case rel=>exact ⟨_,_,rfl,rfl,(by first | trivial | rfl),DO.o.1⟩
               case measure=>simpa [intOf] using DO.o.2
           . have dH:x<4294967296:=by omega
             by_cases yg:t3<t1
             . skip
               by_cases Fp:4294967296<=s'
               . have DN:=aA (Hb.o (.inr yg) Fp)
                 clear Hs Hb Ho;have HF:=aA (HZ.o.final DN1.o HR.o DN.o);clear WI;(go_wp2_with fail);go_ret2;exact ⟨by rw [<- HF.o.1,<- HF.o.2];rfl,0,rfl⟩
               . have DO:=aA (Ho.o (.inr yg) Fp)
                 clear Hs Hb Ho;(go_wp2_with fail);go_roundw
                 case rel=>exact ⟨_,_,rfl,rfl,(by first | trivial | rfl),DO.o.1⟩
                 case measure=>simpa [intOf] using DO.o.2
             . have DN:=aA (Hs.o dH yg)
               clear Hs Hb Ho Dl uu;have HF:=aA (HZ.o.final DN1.o HR.o DN.o);clear WI;(go_wp2_with fail);go_ret2;exact ⟨by rw [<- HF.o.1,<- HF.o.2];rfl,0,rfl⟩
        . have DO:=aA (Ho.o (.inr yg) Fp)
          clear Hs Hb Ho;(go_wp2_with fail);go_roundw
          case rel=>exact ⟨_,_,rfl,rfl,(by first | trivial | rfl),DO.o.1⟩
          case measure=>simpa [intOf] using DO.o.2
      . have DN:=aA (Hs.o dH yg)
        clear Hs Hb Ho hq' CI;have DN1:=DN;obtain ⟨N9,WI⟩:∃t,IntKind.u64.wrap (IntKind.u64.wrap (IntKind.u64.wrap (u*4294967296)+c1)-IntKind.u64.wrap (q*Y))=t:=⟨_,rfl⟩;(have HR:Hid ((u*4294967296+c1) % Y=N9):=by rw [<- WI];exact (DN.o.rest hY1.o).symm);have D2:=aA (Dg.start (HZ.o.du2 HR.o) H.o);(go_wp2_with fail);clear OC OB OA;(try clear hq');(try clear CI);(try clear xC);(try clear dH);(try clear yg);(try clear Fp);clear DN;go_loopw [18,16] (fun qv rv ws=>∃x r:Int,qv=.int .u64 x∧rv=.int .u64 r∧ws=wr∧Hid (Dg Y y1 y0 N9 c0 x r)) (fun qv _ _=>(intOf qv).toNat)
        case atStart=>exact ⟨_,_,rfl,rfl,(by first | trivial | rfl),D2⟩
        case round=>
         obtain ⟨x,r,rfl,rfl,rfl,D⟩:=hrel;obtain ⟨t1,OC⟩:∃t,IntKind.u64.wrap (x*y0)=t:=⟨_,rfl⟩;obtain ⟨t2,OB⟩:∃t,IntKind.u64.wrap (4294967296*r)=t:=⟨_,rfl⟩;obtain ⟨t3,OA⟩:∃t,IntKind.u64.wrap (t2+c0)=t:=⟨_,rfl⟩;obtain ⟨x',Dl⟩:∃t,IntKind.u64.wrap (x-1)=t:=⟨_,rfl⟩;obtain ⟨s',uu⟩:∃t,IntKind.u64.wrap (r+y1)=t:=⟨_,rfl⟩;have Hs:Hid (x<4294967296->¬t3<t1->Dn Y N9 c0 x):=fun h1 h2=>D.o.stop H.o h1 (by rw [OC];rw [OB,OA];exact h2);have Hb:Hid ((4294967296<=x∨t3<t1)->4294967296<=s'->Dn Y N9 c0 x'):=fun h1 h2=>by
          rw [<- Dl];exact D.o.brk H.o (by rw [OC,OB,OA];exact h1) (by rw [uu];exact h2)
         have Ho:Hid ((4294967296<=x∨t3<t1)->¬4294967296<=s'->Dg Y y1 y0 N9 c0 x' s'∧x'.toNat<x.toNat):=fun h1 h2=>by
          rw [<- Dl];rw [<- uu];exact D.o.on H.o (by rw [OC,OB,OA];exact h1) (by rw [uu];exact h2)
         clear D;by_cases xC:4294967296<=x
         . have dH:¬x<4294967296:=by omega
           by_cases Fp:4294967296<=s'
           . have DN:=aA (Hb.o (.inl xC) Fp)
             clear Hs Hb Ho;have HF:=aA (HZ.o.final DN1.o HR.o DN.o);clear WI;(go_wp2_with fail);go_ret2;exact ⟨by rw [<- HF.o.1,<- HF.o.2];rfl,0,rfl⟩
           . have DO:=aA (Ho.o (.inl xC) Fp)
             clear Hs Hb Ho;(go_wp2_with fail);go_roundw
             case rel=>exact ⟨_,_,rfl,rfl,(by first | trivial | rfl),DO.o.1⟩
             case measure=>simpa [intOf] using DO.o.2
         . have dH:x<4294967296:=by omega
           by_cases yg:t3<t1
           . skip
             by_cases Fp:4294967296<=s'
             . have DN:=aA (Hb.o (.inr yg) Fp)
               clear Hs Hb Ho;have HF:=aA (HZ.o.final DN1.o HR.o DN.o);clear WI;(go_wp2_with fail);go_ret2;exact ⟨by rw [<- HF.o.1,<- HF.o.2];rfl,0,rfl⟩
             . have DO:=aA (Ho.o (.inr yg) Fp)
               clear Hs Hb Ho;(go_wp2_with fail);go_roundw
               case rel=>exact ⟨_,_,rfl,rfl,(by first | trivial | rfl),DO.o.1⟩
               case measure=>simpa [intOf] using DO.o.2
           . have DN:=aA (Hs.o dH yg)
             clear Hs Hb Ho Dl uu;have HF:=aA (HZ.o.final DN1.o HR.o DN.o);clear WI;(go_wp2_with fail);go_ret2;exact ⟨by rw [<- HF.o.1,<- HF.o.2];rfl,0,rfl⟩
def zf (h:k<xs.length):limbs (xs.drop k)=(nth xs k).toNat+18446744073709551616*limbs (xs.drop (k+1)):=by
 rw [xm h,fV h];rfl
def Fs (v:Int):(xs.set k v).drop (k+1)=xs.drop (k+1):=by
 rw [List.drop_set];rw [aM (by omega)]
structure DV (xs:List Int) (x:Int) (k:Nat) (os:List Int) (r:Int):Prop where
 len:os.length=xs.length
 ok:aQ os
 r0:0<=r
 r1:r<x
 eq:limbs (os.drop k)*x.toNat+r.toNat=limbs (xs.drop k)
def DV.step (h:DV xs x (k+1) os r) (hxs:aQ xs) (hk:k<xs.length) (hx:0<x):
 DV xs x k (os.set k ((r*18446744073709551616+nth xs k) / x)) ((r*18446744073709551616+nth xs k) % x):=by
 have hl:=hxs k;have h0:=h.r0;have h1:=h.r1;have hd:=tJ (r*18446744073709551616+nth xs k) x;have hm:=Je (r*18446744073709551616+nth xs k) (b:=x) (by omega);have hm2:=Jd (r*18446744073709551616+nth xs k) hx;have Aj:0<=(r*18446744073709551616+nth xs k) / x:=FE (by omega) (by omega);have hq1:(r*18446744073709551616+nth xs k) / x<18446744073709551616:=by
  rw [FH hx];omega
 generalize (r*18446744073709551616+nth xs k) / x=q at*
 generalize (r*18446744073709551616+nth xs k) % x=m at*
 refine ⟨by rw [fW];exact h.len,h.ok.set k Aj hq1,hm,hm2,?_⟩;have Gc:k<(os.set k q).length:=by rw [fW,h.len];exact hk
 rw [zf Gc,zf hk,Fs,gK (by rw [h.len];exact hk),aM rfl,<- h.eq];have e:q.toNat*x.toNat+m.toNat=r.toNat*18446744073709551616+(nth xs k).toNat:=by
  have e1:((q.toNat*x.toNat+m.toNat:Nat):Int)=((r.toNat*18446744073709551616+(nth xs k).toNat:Nat):Int):=by
   rw [lI,sr,lI,sr,Jb Aj,Jb (by omega),Jb hm,Jb h0,Jb hl.1,nE q x];exact hd
  exact Int.ofNat.inj e1
 rw [bO,ak,dA];omega
def Xe (A:Option Addr) (n c:Nat) (xs:List Int) (x:Int) (w:World) (hx:aD w A n xs) (hn:n<=4000000000000) (LM:0<x) (CB:x<18446744073709551616):
 aB 113 #[.slice A n c,.int .u64 x] w fun e w'=>∃qs r A' k c',e=.returned (.tuple #[.slice A' k c',.int .u64 r])∧k<=n∧k<=c'∧c'<=9223372036854775807∧aD w' A' k qs∧bY qs∧(0<=r∧r<x∧limbs qs*x.toNat+r.toNat=limbs xs)∧Below w.heap.size w w':=by
 obtain ⟨i0,hi,jE,jD,jJ⟩:=eG fN;obtain rfl:=hx.len;have KI:=iQ underlying39 hi jE jD jJ xs.length (by omega) w;have CH:Hid (iJ (w.alloc (.cells (bI (List.replicate xs.length 0)).toArray 38)) w.heap.size 38 (List.replicate xs.length 0)):=iJ.new w _ _;have rF:Below w.heap.size w (w.alloc (.cells (bI (List.replicate xs.length 0)).toArray 38)):=aU.alloc aL _;have Ah:Hid (DV xs x xs.length (List.replicate xs.length 0) 0):=⟨fQ,fun i=>by
  by_cases h:i<(List.replicate xs.length (0:Int)).length
  . rw [fV h,zQ];omega
  . rw [bw (by omega)];omega,by omega,LM,by rw [DT (ig fQ),DT aL];show 0*_+_=0;simp⟩
 have Hx:=aA hx;have HX:Hid (0<x∧x<18446744073709551616):=⟨LM,CB⟩;clear hx LM CB;generalize List.replicate xs.length (0:Int)=R0 at*
 go_enter func113,ntmps113
 go_wp2_with fail
 clear KI;go_loopw [7,8] (fun rv i wr=>∃(k:Nat) (os:List Int) (r:Int),k<=xs.length∧rv=.int .u64 r∧i=.int .i64 ((k:Int)-1)∧Hid (iJ wr w.heap.size 38 os)∧Hid (DV xs x k os r)∧Below w.heap.size w wr) (fun _ i _=>(intOf i+1).toNat)
 case atStart=>exact ⟨xs.length,R0,0,aL,rfl,rfl,CH,Ah,rF⟩
 case round=>
  clear CH Ah rF;obtain ⟨k,os,r,hk,rfl,rfl,fM,GH,bC⟩:=hrel;obtain ⟨wo,rfl⟩:∃wo:World,wo=wr:=⟨_,rfl⟩;cases k with
  | zero=>
    have e0:(((0:Nat):Int)-1)= -1:=rfl;rw [e0];have RX:=GH.o.len;have hL:=fM.o.limbs GH.o.ok;rw [RX] at hL;have HL:=aA hL;have uG:=cS os xs.length;have HP:=aA (bF GH.o.ok RX);have HE:Hid (0<=r∧r<x∧limbs (os.take (cU os xs.length))*x.toNat+r.toNat=limbs xs):=⟨GH.o.r0,GH.o.r1,by rw [HP.o.2];exact GH.o.eq⟩;clear hL fM GH RX;(go_wp2_with fail);refine (cH (some ⟨w.heap.size,0,none⟩) xs.length xs.length os wo HL.o aL (by omega)).mono ?_;rintro e w3 ⟨rfl,rfl⟩;(go_wp2_with fail);go_ret2;exact ⟨os.take (cU os xs.length),r,some ⟨w.heap.size,0,none⟩,_,xs.length,rfl,uG,uG,by omega,HL.o.take uG,HP.o.1,HE.o,bC⟩
  | succ k=>
    (have e0:(((k+1:Nat):Int)-1)=(k:Int):=by omega);rw [e0];obtain ⟨b,o,rfl,hb,hc⟩:=Hx.o.at_ (by omega);have CP:=(bC.cell (p:=⟨b,o+k,none⟩) hb).trans (hc k (by omega));(have RY:(0:Int)<=(k:Int):=by omega);(have Gd:(k:Int)<(xs.length:Int):=by omega);have abw:=Hx.o.ok k;have Cd:=aA (aiS r (nth xs k) x wo GH.o.r0 GH.o.r1 abw.1 abw.2 HX.o.2);have hst:=aA (GH.o.step Hx.o.ok (by omega) HX.o.1);have RX:=aA GH.o.len;have hlt:=fM.o.lt;clear hc e0 abw GH;generalize (r*18446744073709551616+nth xs k) / x=q at*
    generalize (r*18446744073709551616+nth xs k) % x=m at*
    (go_wp2_with fail);refine Cd.o.mono ?_;rintro e w1 ⟨rfl,j1,aln⟩;(have fu:Below wo.heap.size wo w1:=by subst aln;exact below_drewN aU _);have Vz:=fM.o.aC fu;have hfo:=Vz.frozen k;have LR:=Vz.cell (i:=k) (by rw [RX.o];omega);have yD:=aA (Vz.set k q);have cN:=aA ((bC.tm fu).setCell (p:=⟨w.heap.size,k,none⟩) aL (.int .u64 q));clear aln CP Cd fM Vz RX bC fu;(go_wp2_with fail);go_roundw
    case rel=>exact ⟨k,_,m,by omega,rfl,rfl,yD,hst,cN.o⟩
    case measure=>simp [intOf]
structure RJ (u2 u1 u0 v1 v0 q r:Nat):Prop where
 eq:q*v1+r=u2*18446744073709551616+u1
 rl:r<18446744073709551616
 ql:q<18446744073709551616
 top:∀q',q'*(v1*18446744073709551616+v0)<=(u2*18446744073709551616+u1)*18446744073709551616+u0->q'<=q
def RJ.start (h2:u2<v1) (h1:u1<18446744073709551616) (h0:u0<18446744073709551616) (hv:v1<18446744073709551616):RJ u2 u1 u0 v1 v0 ((u2*18446744073709551616+u1) / v1) ((u2*18446744073709551616+u1) % v1):=by
 have hp:0<v1:=by omega
 have e:=su (u2*18446744073709551616+u1) v1;have m:=jy (u2*18446744073709551616+u1) hp;rw [aq] at e;refine ⟨e,by omega,amB h1 h2,fun q' h=> ?_⟩;have h3:(u2*18446744073709551616+u1)*18446744073709551616+u0<((u2*18446744073709551616+u1) / v1+1)*(v1*18446744073709551616+v0):=YU rfl hp h0;have h4:q'<(u2*18446744073709551616+u1) / v1+1:=Jh (aR h h3);omega
def RJ.next {u2 u1 u0 v1 v0 q r:Nat}(h:RJ u2 u1 u0 v1 v0 q r) (hg:r*18446744073709551616+u0<q*v0):0<q∧(q-1)*v1+(r+v1)=u2*18446744073709551616+u1∧∀q',q'*(v1*18446744073709551616+v0)<=(u2*18446744073709551616+u1)*18446744073709551616+u0->q'<=q-1:=by
 have h0:0<q:=by
  rcases jM q with h0 | h0
  . subst h0;omega
  . exact h0
 have h1:=ach (B:=18446744073709551616) h.eq hg;exact ⟨h0,acs h.eq h0,fun q' hq=>Sk h1 hq⟩
def Yl (u2 u1 u0 v1 v0 g:Nat):Prop:=g<18446744073709551616∧∀q',q'<18446744073709551616->q'*(v1*18446744073709551616+v0)<=(u2*18446744073709551616+u1)*18446744073709551616+u0->q'<=g
def W4 {p r u:Nat}(hu:u<18446744073709551616):(p / 18446744073709551616<r∨p / 18446744073709551616=r∧p % 18446744073709551616<=u)↔p<=r*18446744073709551616+u:=by omega
def Xg (u2 u1 u0 v1 v0:Nat) (w:World) (h1:u1<18446744073709551616) (h0:u0<18446744073709551616) (wN:v1<18446744073709551616) (Vy:v0<18446744073709551616):
 aB 116 #[.int .u64 (u2:Int),.int .u64 (u1:Int),.int .u64 (u0:Int),.int .u64 (v1:Int),.int .u64 (v0:Int)] w fun e w'=>∃g:Nat,e=.returned (.int .u64 (g:Int))∧Yl u2 u1 u0 v1 v0 g∧∃j,w'=w.drewN j:=by
 by_cases xC:v1<=u2
 . have ayQ:(v1:Int)<=(u2:Int):=by omega
   have F:Hid (Yl u2 u1 u0 v1 v0 18446744073709551615):=⟨by omega,fun q' hq _=>by omega⟩;clear h1 h0 wN Vy;go_enter func116,ntmps116
   go_wp2_with fail
   go_ret;exact ⟨18446744073709551615,rfl,F.o,0,rfl⟩
 . have ayQ:¬(v1:Int)<=(u2:Int):=by omega
   have Cd:=aA (aiS (u2:Int) (u1:Int) (v1:Int) w (by omega) (by omega) (by omega) (by omega) (by omega));have S0:=aA (RJ.start (v0:=v0) (Nat.lt_of_not_le xC) h1 h0 wN);have eq1:((u2:Int)*18446744073709551616+(u1:Int)) / (v1:Int)=(((u2*18446744073709551616+u1) / v1:Nat):Int):=by
    rw [Qz,lI,sr];rfl
   have eq2:((u2:Int)*18446744073709551616+(u1:Int)) % (v1:Int)=(((u2*18446744073709551616+u1) % v1:Nat):Int):=by
    rw [ada,lI,sr];rfl
   rw [eq1,eq2] at Cd;clear eq1 eq2;generalize (u2*18446744073709551616+u1) / v1=q0 at*
   generalize (u2*18446744073709551616+u1) % v1=r0 at*
   have H:Hid (u0<18446744073709551616∧v1<18446744073709551616∧v0<18446744073709551616):=⟨h0,wN,Vy⟩;clear h1 h0 wN Vy;go_enter func116,ntmps116
   go_wp2_with fail
   refine Cd.o.mono ?_;rintro e w1 ⟨rfl,j1,rfl⟩;clear Cd;go_wp2_with fail
   go_loopw [11,12,13,14,15,16] (fun qv rv _ _ _ _ wr=>∃q r:Nat,qv=.int .u64 (q:Int)∧rv=.int .u64 (r:Int)∧Hid (RJ u2 u1 u0 v1 v0 q r)∧∃j,wr=w.drewN j) (fun qv _ _ _ _ _ _=>(intOf qv).toNat)
   case atStart=>exact ⟨q0,r0,rfl,rfl,S0,j1,rfl⟩
   case round=>
    obtain ⟨q,r,rfl,rfl,S,j,rfl⟩:=hrel;have Cm:=aA (fun W=>JM q v0 S.o.ql H.o.2.2 W);obtain ⟨h,hh⟩:∃h,q*v0 / 18446744073709551616=h:=⟨_,rfl⟩;obtain ⟨l,hl⟩:∃h,q*v0 % 18446744073709551616=h:=⟨_,rfl⟩;have ht:=W4 (p:=q*v0) (r:=r) H.o.1;rw [hh,hl] at Cm ht;have Ht:=aA ht;have F:Hid (Yl u2 u1 u0 v1 v0 q):=⟨S.o.ql,fun q' _ hq=>S.o.top q' hq⟩;obtain ⟨sv,hsv⟩:∃s,(r+v1+0) % 18446744073709551616=s:=⟨_,rfl⟩;obtain ⟨cv,hcv⟩:∃s,(r+v1+0) / 18446744073709551616=s:=⟨_,rfl⟩;have qa:∀W,(callFunc 123 #[.int .u64 (r:Int),.int .u64 (v1:Int),.int .u64 0]).run prog W=.ok (.value (.tuple #[.int .u64 (sv:Int),.int .u64 (cv:Int)])) W:=fun W=>by
     have:=yq r v1 0 (by omega) W;rw [hsv,hcv] at this;exact this
    (have Hc:Hid (cv=0->sv=r+v1∧sv<18446744073709551616):=fun h=>by omega);have Hn:Hid (¬(h<r∨h=r∧l<=u0)->0<q∧(q-1)*v1+(r+v1)=u2*18446744073709551616+u1∧∀q',q'*(v1*18446744073709551616+v0)<=(u2*18446744073709551616+u1)*18446744073709551616+u0->q'<=q-1):=fun hn=>by
     have:¬q*v0<=r*18446744073709551616+u0:=fun hp=>hn (Ht.o.2 hp);exact S.o.next (by omega)
    have Hq:Hid (q<18446744073709551616):=S.o.ql;clear ht hh hl hsv hcv Ht S;(go_wp2_with fail);refine (Cm.o _).mono ?_;rintro e w2 ⟨rfl,rfl⟩;clear Cm;by_cases h1:h<r
    . have h1':(h:Int)<(r:Int):=by omega
      clear Hn Hc Hq;(go_wp2_with fail);go_ret;exact ⟨q,rfl,F.o,j,rfl⟩
    . have h1':¬(h:Int)<(r:Int):=by omega
      by_cases h2:h=r
      . have h2':((h:Int)==(r:Int))=true:=by simp;omega
        by_cases h3:l<=u0
        . have h3':(l:Int)<=(u0:Int):=by omega
          clear h1 h2 h3;clear Hn Hc Hq;(go_wp2_with fail);go_ret;exact ⟨q,rfl,F.o,j,rfl⟩
        . have h3':¬(l:Int)<=(u0:Int):=by omega
          obtain ⟨Aj,Jt,hqt⟩:=Hn.o (fun hh=>hh.elim h1 (fun h4=>h3 h4.2));(have ew:IntKind.u64.wrap ((q:Int)-1)=((q-1:Nat):Int):=by rw [ag];have:=Hq.o;omega);have F2:Hid (Yl u2 u1 u0 v1 v0 (q-1)):=⟨by have:=Hq.o;omega,fun q' _ hq=>hqt q' hq⟩;have S2:Hid (sv=r+v1∧sv<18446744073709551616->RJ u2 u1 u0 v1 v0 (q-1) sv):=fun h=>⟨by rw [h.1];exact Jt,h.2,by have:=Hq.o;omega,hqt⟩;(have hlt:q-1<q:=by omega);clear Hn Jt hqt Hq F Aj;generalize q-1=q' at*
          by_cases S8:cv=0
          . have alF:¬(0:Int)<(cv:Int):=by omega
            have S3:=aA (S2.o (Hc.o S8));have RD:=aA hlt;clear S8 hlt S2 Hc;(go_wp2_with fail);go_roundw
            case rel=>exact ⟨q',sv,rfl,rfl,S3,j,rfl⟩
            case measure=>simpa [intOf] using RD.o
          . have alF:(0:Int)<(cv:Int):=by omega
            clear S8 hlt S2 Hc;(go_wp2_with fail);go_ret;exact ⟨q',rfl,F2.o,j,rfl⟩
      . have h2':((h:Int)==(r:Int))=false:=by simp;omega
        obtain ⟨Aj,Jt,hqt⟩:=Hn.o (fun hh=>hh.elim h1 (fun h4=>h2 h4.1));(have ew:IntKind.u64.wrap ((q:Int)-1)=((q-1:Nat):Int):=by rw [ag];have:=Hq.o;omega);have F2:Hid (Yl u2 u1 u0 v1 v0 (q-1)):=⟨by have:=Hq.o;omega,fun q' _ hq=>hqt q' hq⟩;have S2:Hid (sv=r+v1∧sv<18446744073709551616->RJ u2 u1 u0 v1 v0 (q-1) sv):=fun h=>⟨by rw [h.1];exact Jt,h.2,by have:=Hq.o;omega,hqt⟩;(have hlt:q-1<q:=by omega);clear Hn Jt hqt Hq F Aj;generalize q-1=q' at*
        by_cases S8:cv=0
        . have alF:¬(0:Int)<(cv:Int):=by omega
          have S3:=aA (S2.o (Hc.o S8));have RD:=aA hlt;clear S8 hlt S2 Hc;(go_wp2_with fail);go_roundw
          case rel=>exact ⟨q',sv,rfl,rfl,S3,j,rfl⟩
          case measure=>simpa [intOf] using RD.o
        . have alF:(0:Int)<(cv:Int):=by omega
          clear S8 hlt S2 Hc;(go_wp2_with fail);go_ret;exact ⟨q',rfl,F2.o,j,rfl⟩
def pZ (w:World) (v K:Nat) (e:Ending) (w':World):Prop:=
 ∃A k c ls,e=.returned (.slice A k c)∧k<=c∧c<=9223372036854775807∧k<=K∧aD w' A k ls∧bY ls∧limbs ls=v∧Below w.heap.size w w'
def N5 (w:World) (v K:Nat) (e:Ending) (w':World):Prop:=
 ∃A k c ds,e=.returned (.slice A k c)∧k<=c∧c<=9223372036854775807∧k<=K∧aD w' A k ds∧Y9 ds∧v32 ds=v∧Below w.heap.size w w'
def js {base:Nat} {t:TypeId} {A:Option Addr} {c:Nat} {xs:List Value}(h:w.ownsRow base t 1 (.slice A n c) n xs):n<=c∧c<=9223372036854775807:=by
 rcases h.2 with ⟨hv,h0⟩ | ⟨g,cap,cur,hv,_,_,jV,zA,_⟩
 . injection hv;omega
 . injection hv with _ _ e
   unfold maxLen at zA;omega
def Zk (A:Option Addr) (n c:Nat) (xs:List Int) (w:World) (hx:aD w A n xs) (hn:n<=c) (hc:c<=9223372036854775807):
 aB 147 #[.slice A n c] w fun e w'=>e=.returned (.slice A (cU xs n) c)∧w'=w:=by
 go_enter func147,ntmps147
 obtain ⟨wo,rfl⟩:∃wo:World,wo=w:=⟨_,rfl⟩;go_wp2
 go_loopg [3] (n+1) (fun gk s wr=>∃m:Nat,m<=n∧m<gk∧s=.int .i64 m∧Hid (cU xs n=cU xs m)∧wr=wo)
 case atStart=>exact ⟨n,by omega,by omega,rfl,rfl,rfl⟩
 case round=>
  obtain ⟨m,hm,OE,rfl,qm,rfl⟩:=hrel;cases m with
  | zero=>
    have wH:Hid (cU xs n=0):=qm.o;(go_wp2);go_ret;refine ⟨?_,rfl⟩;rw [wH.o];rfl
  | succ m=>
    obtain ⟨b,o,rfl,hb,hc'⟩:=hx.at_ (by omega);have hcy:=hc' m (by omega);clear hc';(have hmc:m<=c:=by omega);(have aqn:(m:Int)<=(c:Int):=by omega);(have hmp:(0:Int)<(m:Int)+1:=by omega);by_cases hz:nth xs m=0
    . rw [hz] at hcy
      have Hz:=aA hz;clear hz;(go_wp2);go_roundg (gk-1)
      case measure=>omega
      case rel=>exact ⟨m,by omega,by omega,by go_num,by show _=_;rw [qm.o];exact uf Hz.o,rfl⟩
    . have Vx:(nth xs m==0)=false:=mD.2 hz
      have wH:Hid (cU xs n=m+1):=qm.o.trans (ue hz);clear hz;(go_wp2);go_ret;refine ⟨?_,rfl⟩;rw [wH.o];rfl
def Wu (w:World) (v K:Nat) (e:Ending) (w':World):Prop:=
 ∃A k c ls,e=.returned (.slice A k c)∧k<=c∧c<=9223372036854775807∧k<=K∧aD w' A k ls∧bY ls∧limbs ls=v∧(0<k->∀y,A=some y->w.heap.size<=y.block)∧Below w.heap.size w w'
section
variable (A:Option Addr)
include A
theorem VL (n c:Nat) (xs:List Int) (w:World) (hx:aD w A n xs) (hn:n<=c) (hc:c<=9223372036854775807) (Dp:n<=17000000000000):
 aB 101 #[.slice A n c] w (Wu w (limbs xs) n):=by
 obtain ⟨i0,hi,jE,jD,jJ⟩:=eG fN;have Hpl:=aA (bF hx.ok hx.len);have Hr:=aA (fun m (h:m<=n)=>(hx.take h).reads);have Hk:=aA (fun m (h:m<=n)=>(hx.take h).len);have KV:=aA (fun m (h:m<=n)=>(hx.take h).ok);go_enter func101,ntmps101
 obtain ⟨wo,rfl⟩:∃wo:World,wo=w:=⟨_,rfl⟩;go_wp2
 go_loopg [3] (n+1) (fun gk s wr=>∃m:Nat,m<=n∧m<gk∧s=.int .i64 m∧Hid (cU xs n=cU xs m)∧wr=wo)
 case atStart=>exact ⟨n,by omega,by omega,rfl,rfl,rfl⟩
 case round=>
  obtain ⟨m,hm,OE,rfl,qm,rfl⟩:=hrel;have fin:∀(q:Nat) (v':Value) (w1:World),q<=n->cU xs n=q->w1.ownsRow wr.heap.size 38 1 v' (0+q) ([]++bI (xs.take q))->(wr.alloc (.cells #[] 38)).grownBy w1 (some wr.heap.size)->Wu wr (limbs xs) n (.returned v') w1:=fun q v' w1 hq he aa hg=>by
   subst he;rw [bh,og] at aa;obtain ⟨A',c',rfl⟩:=fD aa;obtain ⟨k1,k2⟩:=js aa;have hb:Below wr.heap.size wr w1:=((Below.refl _ wr).alloc aL _).grown hg (by simp) (fun k hk=>by injection hk;omega);exact ⟨A',_,c',_,rfl,k1,k2,hq,aD.ia aa (KV.o _ hq),Hpl.o.1,Hpl.o.2,fun _ y hy=>(aa.lt y.block (by subst hy;rfl)).1,hb⟩
  have Fin:=aA fin;clear fin;cases m with
  | zero=>
    have wH:Hid (cU xs n=0):=qm.o;have CH:=aA (Hr.o 0 (by omega));clear hx;(go_wp2_with (at_builtin;refine bU (w:=wr.alloc (.cells #[] 38)) rfl _ _ 39 rfl wr.heap.size 38 i0 (.int .u64 0) 1 8 underlying39 hi jE jD jJ rfl (by decide) _ 0 [] rfl (bA wr 38 aL) wr.heap.size A 0 c (bI (xs.take 0)) rfl (CH.o.alloc aL _) (jU _) (by unfold maxLen;omega) (by omega) (by simp) ?_;intro v' w1 aa aW gZ));(go_wp2);go_ret;exact Fin.o 0 _ _ (by omega) wH.o aa aW
  | succ m=>
    obtain ⟨b,o,rfl,hb,hc'⟩:=hx.at_ (by omega);have hcy:=hc' m (by omega);clear hc';(have hmc:m<=c:=by omega);(have aqn:(m:Int)+1<=(c:Int):=by omega);(have hmp:(0:Int)<(m:Int)+1:=by omega);by_cases hz:nth xs m=0
    . rw [hz] at hcy
      have Hz:=aA hz;clear hz;(go_wp2);go_roundg (gk-1)
      case measure=>omega
      case rel=>exact ⟨m,by omega,by omega,by go_num,by show _=_;rw [qm.o];exact uf Hz.o,rfl⟩
    . have Vx:(nth xs m==0)=false:=mD.2 hz
      have wH:Hid (cU xs n=m+1):=qm.o.trans (ue hz);have CH:=aA (Hr.o (m+1) (by omega));clear hz;(go_wp2_with (at_builtin;refine bU (w:=wr.alloc (.cells #[] 38)) rfl _ _ 39 rfl wr.heap.size 38 i0 (.int .u64 0) 1 8 underlying39 hi jE jD jJ rfl (by decide) _ 0 [] rfl (bA wr 38 aL) wr.heap.size (some ⟨b,o,none⟩) (m+1) c (bI (xs.take (m+1))) rfl (CH.o.alloc aL _) (jU _) (by unfold maxLen;omega) (by omega) (by simp) ?_;intro v' w1 aa aW gZ));(go_wp2);go_ret;exact Fin.o (m+1) _ _ (by omega) wH.o aa aW
theorem akf (n c:Nat) (xs:List Int) (w:World) (hx:aD w A n xs) (hn:n<=c) (hc:c<=9223372036854775807) (Dp:n<=17000000000000):
 aB 101 #[.slice A n c] w (pZ w (limbs xs) n):=
 (VL A n c xs w hx hn hc Dp).mono fun _ _ ⟨A,k,c,ls,h1,h2,h3,h4,h5,h6,h7,_,h8⟩=>⟨A,k,c,ls,h1,h2,h3,h4,h5,h6,h7,h8⟩
theorem XP (n c:Nat) (xs:List Int) (k:Nat) (w:World) (hx:aD w A n xs) (hn:n<=9223372036854775807) (hk:k<=9223372036854775807):
 aB 131 #[.slice A n c,.int .i64 (k:Int)] w fun e w'=>e=.returned (.int .u64 (nth xs k))∧w=w':=by
 by_cases hlt:k<n
 . obtain ⟨b,o,rfl,hb,hc⟩:=hx.at_ (by omega)
   have h1:=hc k hlt;have dH:(k:Int)<(n:Int):=by omega
   have wT:(0:Int)<=(k:Int):=by omega
   clear hc hx;go_enter func131,ntmps131
   go_wp2
   go_ret;exact ⟨rfl,rfl⟩
 . have dH:¬(k:Int)<(n:Int):=by omega
   have hz:Hid (nth xs k=0):=bw (by rw [hx.len];omega);clear hx;go_enter func131,ntmps131
   go_wp2
   go_ret;rw [hz.o];exact ⟨rfl,rfl⟩
theorem qV (n c:Nat) (xs:List Int) (w:World) (hx:aD w A n xs) (hn:n<=8500000000000):
 aB 130 #[.slice A n c] w (N5 w (limbs xs) (2*n)):=by
 obtain ⟨i0,hi,jE,jD,jJ⟩:=eG fN;have Hl:=aA hx.len;have Hv:=aA (VA hx.ok);have KV:=aA (acw hx.ok);go_enter func130,ntmps130
 go_wp2
 go_loopw [3,4] (fun v i wr=>∃k:Nat,k<=n∧i=.int .i64 k∧wr.ownsRow w.heap.size 38 1 v (2*k) (bI (Qd (xs.take k)))∧Below w.heap.size w wr) (fun _ i _=>n-(intOf i).toNat)
 case atStart=>exact ⟨0,by omega,rfl,nv _ _ _ _,aU⟩
 case round=>
  obtain ⟨k,hk,rfl,aa,bC⟩:=hrel;by_cases hlt:k<n
  . obtain ⟨b,o,rfl,hb,hc⟩:=hx.at_ (by omega)
    have CP:wr.cell? ⟨b,o+k,none⟩=some (.int .u64 (nth xs k)):=(bC.cell (p:=⟨b,o+k,none⟩) hb).trans (hc k hlt);(have dH:(k:Int)<(n:Int):=by omega);have oH:=hx.ok k;have e1:=vJ (nth xs k) oH.1 oH.2;have asN:=aA (KQ (xs:=xs) (k:=k) (by rw [Hl.o];omega));(go_wp2);go_region_held3 (fun W=>W.cell? ⟨b,o+k,none⟩=some (.int .u64 (nth xs k)))
     (first | go_keep | (have cZ:=ym bC aa aW bC.size;exact (cZ.cell (p:=⟨b,o+k,none⟩) hb).trans (hc k hlt)))
     (first | (refine pN _ (by rfl) _ _ _ (by rfl) w.heap.size 38 i0 _ 1 8 underlying39 hi jE jD jJ rfl (by omega) u3 (2*k) (bI (Qd (xs.take k))) (by rfl) ((aa.alloc _).drew) ⟨wr.heap.size,0,none⟩ 2 2 [.int .u64 (nth xs k % 4294967296),.int .u64 (nth xs k / 4294967296)] (by rfl) (by rfl) (gw (cs:=#[.int .u64 (nth xs k % 4294967296),.int .u64 (nth xs k / 4294967296)]) (t:=38) (fr:=(0,0)) (bM wr _)) (by simp [Value.oneCell']) (by omega) (by unfold maxLen;omega) (by omega) (by have:=bC.size;simp;omega) (wr.heap.size+1) (by simp) ?_;intro gg cap w1 jH aW gZ KJ))
    have cZ:=ym bC aa aW bC.size;have bp:w1.ownsRow w.heap.size 38 1 (.slice (some ⟨gg,0,none⟩) (2*k+2) cap) (2*(k+1)) (bI (Qd (xs.take (k+1)))):=by
     rw [asN.o,fH];exact jH
    clear aW gZ jH aa;(go_wp2);go_roundw
    case rel=>exact ⟨k+1,by omega,by go_num,bp,cZ⟩
    case measure=>simp [intOf];omega
  . obtain rfl:k=n:=by omega
    rw [iC (by rw [Hl.o];omega)] at aa;obtain ⟨A1,c1,rfl⟩:=fD aa;obtain ⟨g1,g2⟩:=js aa;have sZ:=aD.ia aa KV.o.lm;have Cc:=aA (Zk A1 (2*k) c1 _ wr sZ g1 g2);have Hp:=aA (II KV.o sZ.len);have Hle:=aA (cS (Qd xs) (2*k));have Hin:=aA sZ;clear sZ aa;(go_wp2_with fail);refine Cc.o.mono ?_;rintro e w' ⟨rfl,rfl⟩;(go_wp2_with fail);go_ret;exact ⟨A1,_,c1,_,rfl,aG Hle.o g1,g2,Hle.o,Hin.o.take Hle.o,Hp.o.1,Hp.o.2.trans Hv.o,bC⟩
theorem BQ (n c:Nat) (ds:List Int) (w:World) (hx:aD w A n ds) (hd:fZ ds) (hn:n<=17000000000000):
 aB 132 #[.slice A n c] w (pZ w (v32 ds) n):=by
 obtain ⟨i0,hi,jE,jD,jJ⟩:=eG fN;have Hl:=aA hx.len;have KV:=aA (aoX hd);have Hf:=aA (Zt hd);have Hd:=aA hd;clear hd;go_enter func132,ntmps132
 go_wp2
 go_loopw [3,4] (fun v i wr=>∃k j:Nat,Hid (j=2*k)∧j<=n+1∧i=.int .i64 j∧wr.ownsRow w.heap.size 38 1 v k (bI (tab k (RP ds)))∧Below w.heap.size w wr) (fun _ i _=>n+1-(intOf i).toNat)
 case atStart=>exact ⟨0,0,rfl,by omega,rfl,nv _ _ _ _,aU⟩
 case round=>
  obtain ⟨k,j,hj,hk,rfl,aa,bC⟩:=hrel;by_cases hlt:j<n
  . obtain ⟨b,o,rfl,hb,hc⟩:=hx.at_ (by omega)
    have CP:wr.cell? ⟨b,o+j,none⟩=some (.int .u64 (nth ds j)):=(bC.cell (p:=⟨b,o+j,none⟩) hb).trans (hc j hlt);(have dH:(j:Int)<(n:Int):=by omega);obtain ⟨d1,d2⟩:=Hd.o j;obtain ⟨d3,d4⟩:=Hd.o (j+1);(have e1:IntKind.u64.wrap (nth ds (j+1)*4294967296)=nth ds (j+1)*4294967296:=by rw [ag];omega);(have e2:IntKind.u64.wrap (nth ds j+nth ds (j+1)*4294967296)=nth ds j+nth ds (j+1)*4294967296:=by rw [ag];omega);(have Hpr:Hid (RP ds k=nth ds j+nth ds (j+1)*4294967296):=by show _=_;unfold RP;rw [hj.o]);by_cases CK:j+1<n
    . have aqs:(j:Int)+1<(n:Int):=by omega
      have aLn:wr.cell? ⟨b,o+(j+1),none⟩=some (.int .u64 (nth ds (j+1))):=(bC.cell (p:=⟨b,o+(j+1),none⟩) hb).trans (hc (j+1) CK);clear hc hx;(go_wp2_with (at_builtin;refine rG _ (by rfl) _ _ _ (by rfl) w.heap.size 38 i0 _ 1 8 underlying39 hi jE jD jJ rfl (by omega) u3 (k) (bI (tab k (RP ds))) (by rfl) (aa.alloc _) ⟨wr.heap.size,0,none⟩ 1 1 [.int .u64 (nth ds j+nth ds (j+1)*4294967296)] (by rfl) (by rfl) (gw (cs:=#[.int .u64 (nth ds j+nth ds (j+1)*4294967296)]) (t:=38) (fr:=(0,0)) (bM wr _)) (by simp [Value.oneCell']) (by omega) (by have:=hj.o;unfold maxLen;omega) (by have:=hj.o;omega) (by have:=bC.size;simp;omega) (wr.heap.size+1) (by simp) ?_;intro gg cap w1 jH aW gZ KJ));have nZ:=pL bC aa aW bC.size;have bp:w1.ownsRow w.heap.size 38 1 (.slice (some ⟨gg,0,none⟩) (k+1) cap) (k+1) (bI (tab (k+1) (RP ds))):=by
       rw [Gv,fH,Hpr.o];exact jH
      clear aW gZ jH aa;(go_wp2);go_roundw
      case rel=>exact ⟨k+1,j+2,by have:=hj.o;show _=_;omega,by omega,by go_num,bp,nZ⟩
      case measure=>simp [intOf];omega
    . have aqs:¬(j:Int)+1<(n:Int):=by omega
      have aBs:Hid (RP ds k=nth ds j):=by
       show _=_;rw [Hpr.o,bw (xs:=ds) (i:=j+1) (by rw [Hl.o];omega)];omega
      clear hc hx;(go_wp2_with (at_builtin;refine rG _ (by rfl) _ _ _ (by rfl) w.heap.size 38 i0 _ 1 8 underlying39 hi jE jD jJ rfl (by omega) u3 (k) (bI (tab k (RP ds))) (by rfl) (aa.alloc _) ⟨wr.heap.size,0,none⟩ 1 1 [.int .u64 (nth ds j)] (by rfl) (by rfl) (gw (cs:=#[.int .u64 (nth ds j)]) (t:=38) (fr:=(0,0)) (bM wr _)) (by simp [Value.oneCell']) (by omega) (by have:=hj.o;unfold maxLen;omega) (by have:=hj.o;omega) (by have:=bC.size;simp;omega) (wr.heap.size+1) (by simp) ?_;intro gg cap w1 jH aW gZ KJ));have nZ:=pL bC aa aW bC.size;have bp:w1.ownsRow w.heap.size 38 1 (.slice (some ⟨gg,0,none⟩) (k+1) cap) (k+1) (bI (tab (k+1) (RP ds))):=by
       rw [Gv,fH,aBs.o];exact jH
      clear aW gZ jH aa;(go_wp2);go_roundw
      case rel=>exact ⟨k+1,j+2,by have:=hj.o;show _=_;omega,by omega,by go_num,bp,nZ⟩
      case measure=>simp [intOf];omega
  . have dH:¬(j:Int)<(n:Int):=by omega
    obtain ⟨A1,c1,rfl⟩:=fD aa;obtain ⟨g1,g2⟩:=js aa;have Cc:=aA (akf A1 k c1 _ wr (aD.ia aa (KV.o k)) g1 g2 (by have:=hj.o;omega));have He:=aA (Zq Hd.o (k:=k) (by have:=hj.o;rw [Hl.o];omega));rw [He.o] at Cc;clear aa;(go_wp2_with fail);refine Cc.o.mono ?_;rintro e w' ⟨A2,k2,c2,l2,rfl,q1,q2,q3,q4,q5,q6,q7⟩;have F:Hid (pZ w (v32 ds) n (.returned (.slice A2 k2 c2)) w'):=⟨A2,k2,c2,l2,rfl,q1,q2,by have:=hj.o;omega,q4,q5,q6,bC.tm q7⟩;clear q4 q5 q6 q7;(go_wp2_with fail);go_ret;exact F.o
end
def Jq (w:World) (v K:Nat) (e:Ending) (w':World):Prop:=
 ∃A k c ds,e=.returned (.slice A k c)∧k<=c∧c<=9223372036854775807∧k<=K∧aD w' A k ds∧Y9 ds∧v32 ds=v∧(∀y,A=some y->w.heap.size<=y.block)∧Below w.heap.size w w'
def Jq.dg (h:Jq w v K e w'):N5 w v K e w':=by
 obtain ⟨A,k,c,ds,h1,h2,h3,h4,h5,h6,h7,_,h8⟩:=h;exact ⟨A,k,c,ds,h1,h2,h3,h4,h5,h6,h7,h8⟩
def pZ.from_ {w0:World} (h:pZ w v K e w') (hb:Below w0.heap.size w0 w):pZ w0 v K e w':=by
 obtain ⟨A,k,c,ds,h1,h2,h3,h4,h5,h6,h7,h8⟩:=h;exact ⟨A,k,c,ds,h1,h2,h3,h4,h5,h6,h7,hb.tm h8⟩
def vQ {ls:List Int}(h:bY ls) {j:Nat}(hv:limbs ls<2^(64*j)):ls.length<=j:=by
 rcases pT j ls.length with hl | hl
 . exfalso
   have h1:=h.low (by omega);have h3:2^(64*j)<=2^(64*(ls.length-1)):=fP (by omega) (by omega);omega
 . exact hl
def pZ.len {j:Nat} (h:pZ w v K e w') (hv:v<2^(64*j)):pZ w v j e w':=by
 obtain ⟨A,k,c,ds,h1,h2,h3,h4,h5,h6,h7,h8⟩:=h;exact ⟨A,k,c,ds,h1,h2,h3,by have:=vQ h6 (j:=j) (by omega);have:=h5.len;omega,h5,h6,h7,h8⟩
def acU (hx:fZ xs) (hy:fZ ys) (k c:Nat) (hc:c<=1):((od xs ys k c).1:Int)=(nth xs k+nth ys k+(c:Int)) % 4294967296∧((od xs ys k c).2:Int)=(nth xs k+nth ys k+(c:Int)) / 4294967296∧0<=nth xs k+nth ys k∧nth xs k+nth ys k<18446744073709551616∧nth xs k+nth ys k+(c:Int)<18446744073709551616:=by
 have h1:=hx k;have h2:=hy k;unfold od;simp only;omega
def aaS (hx:fZ xs) (hy:fZ ys) (k c:Nat) (hc:c<=1):((oq xs ys k c).1:Int)=(nth xs k+4294967296-nth ys k-(c:Int)) % 4294967296∧((oq xs ys k c).2:Int)=1-(nth xs k+4294967296-nth ys k-(c:Int)) / 4294967296∧0<=nth xs k+4294967296-nth ys k-(c:Int)∧nth xs k+4294967296-nth ys k-(c:Int)<18446744073709551616∧nth xs k+4294967296<18446744073709551616∧0<=nth xs k+4294967296-nth ys k∧0<=nth xs k∧0<=nth ys k∧0<=1-(nth xs k+4294967296-nth ys k-(c:Int)) / 4294967296:=by
 have h1:=hx k;have h2:=hy k;unfold oq;simp only;omega
section
variable (A B:Option Addr)
include A B
theorem Kl (n m c d:Nat) (xs ys:List Int) (w:World) (hx:aD w A n xs) (hy:aD w B m ys) (hdx:fZ xs) (hdy:fZ ys) (hn:n<=17000000000000) (hm:m<=17000000000000):
 aB 133 #[.slice A n c,.slice B m d] w fun e w'=>e=.returned (.int .i64 (ji (v32 xs) (v32 ys)))∧w=w':=by
 have Hl:=aA hx.len;have Hm:=aA hy.len;have Cx:=aA (fun k (h:k<=17000000000000)=>XP A n c xs k w hx (by omega) (by omega));have Cy:=aA (fun k (h:k<=17000000000000)=>XP B m d ys k w hy (by omega) (by omega));have atg:Hid (∀k M,nth xs k<nth ys k->(∀j,k+1<=j->j<M->nth xs j=nth ys j)->k<M->n<=M->m<=M->ji (v32 xs) (v32 ys)= -1):=fun k M h1 h2 h3 h4 h5=>by
  have:=OS hdx hdy h1 h2 h3 (by rw [Hl.o];exact h4) (by rw [Hm.o];exact h5);unfold ji;rw [aM this]
 have asX:Hid (∀k M,nth ys k<nth xs k->(∀j,k+1<=j->j<M->nth xs j=nth ys j)->k<M->n<=M->m<=M->ji (v32 xs) (v32 ys)=1):=fun k M h1 h2 h3 h4 h5=>by
  have:=OS hdy hdx h1 (fun j a b=>(h2 j a b).symm) h3 (by rw [Hm.o];exact h5) (by rw [Hl.o];exact h4);unfold ji;rw [aY (by omega),aM this]
 have asO:Hid (∀M,(∀j,0<=j->j<M->nth xs j=nth ys j)->n<=M->m<=M->ji (v32 xs) (v32 ys)=0):=fun M h2 h4 h5=>by
  have:=ZL (fun j h=>h2 j (bL _) h) (by rw [Hl.o];exact h4) (by rw [Hm.o];exact h5);unfold ji;rw [this,aY (by omega),aY (by omega)]
 clear hx hy hdx hdy;generalize ji (v32 xs) (v32 ys)=r at*
 go_enter func133,ntmps133
 obtain ⟨wo,rfl⟩:∃wo:World,wo=w:=⟨_,rfl⟩;by_cases CU:(n:Int)<(m:Int);all_goals
  obtain ⟨M,LU,acd,hMe⟩:∃M,n<=M∧m<=M∧((n:Int)<(m:Int)∧M=m∨¬(n:Int)<(m:Int)∧M=n):=by
   by_cases h:(n:Int)<(m:Int)
   . exact ⟨m,by omega,aL,.inl ⟨h,rfl⟩⟩
   . exact ⟨n,aL,by omega,.inr ⟨h,rfl⟩⟩
  have hMb:M<=17000000000000:=by omega
  have hMx:max (n:Int) (m:Int)=(M:Int):=by omega
  rcases hMe with ⟨hq,hMe⟩ | ⟨hq,hMe⟩;all_goals
   first
    | exact absurd hq CU
    | exact absurd CU hq
    | skip
  clear hq;have HMe:=aA hMe;clear hMe;go_wp2
  go_loopw [5] (fun i wr=>∃(k:Nat) (z:Int),k<=M∧Hid (z=(k:Int)-1)∧i=.int .i64 z∧Hid (∀j,k<=j->j<M->nth xs j=nth ys j)∧wr=wo) (fun i _=>(intOf i+1).toNat)
  case atStart=>exact ⟨M,(M:Int)-1,aL,rfl,by have:=HMe.o;first | rfl | go_num | (subst this;rfl),fun j h1 h2=>absurd h1 (by omega),rfl⟩
  case round=>
   obtain ⟨k,z,hk,hz,rfl,eR,rfl⟩:=hrel;cases k with
   | zero=>
     obtain rfl:z= -1:=hz.o;have Hr:=aA (asO.o M eR.o LU acd);(go_wp2);go_ret;rw [Hr.o];exact ⟨rfl,rfl⟩
   | succ k=>
     (obtain rfl:z=(k:Int):=by have:=hz.o;omega);(have wT:(0:Int)<=(k:Int):=by omega);by_cases h1:nth xs k<nth ys k
     . have Hr:=aA (atg.o k M h1 eR.o (by omega) LU acd)
       (go_wp2_with ((go_at_call 131;first | ((with_reducible show Calls _ _ #[.slice A _ _,_] _ _);refine (Cx.o k (by omega)).mono ?_;rintro e w' ⟨rfl,rfl⟩) | ((with_reducible show Calls _ _ #[.slice B _ _,_] _ _);refine (Cy.o k (by omega)).mono ?_;rintro e w' ⟨rfl,rfl⟩))));(go_wp2);go_ret;rw [Hr.o];exact ⟨rfl,rfl⟩
     . by_cases h2:nth ys k<nth xs k
       . have Hr:=aA (asX.o k M h2 eR.o (by omega) LU acd)
         (go_wp2_with ((go_at_call 131;first | ((with_reducible show Calls _ _ #[.slice A _ _,_] _ _);refine (Cx.o k (by omega)).mono ?_;rintro e w' ⟨rfl,rfl⟩) | ((with_reducible show Calls _ _ #[.slice B _ _,_] _ _);refine (Cy.o k (by omega)).mono ?_;rintro e w' ⟨rfl,rfl⟩))));(go_wp2);go_ret;rw [Hr.o];exact ⟨rfl,rfl⟩
       . have Hs:Hid (∀j,k<=j->j<M->nth xs j=nth ys j):=fun j a b=>by
          rcases Nat.eq_or_lt_of_le a with e | e
          . subst e;omega
          . exact eR.o j e b
         (go_wp2_with ((go_at_call 131;first | ((with_reducible show Calls _ _ #[.slice A _ _,_] _ _);refine (Cx.o k (by omega)).mono ?_;rintro e w' ⟨rfl,rfl⟩) | ((with_reducible show Calls _ _ #[.slice B _ _,_] _ _);refine (Cy.o k (by omega)).mono ?_;rintro e w' ⟨rfl,rfl⟩))));(go_wp2);go_roundw
         case rel=>exact ⟨k,(k:Int)-1,by omega,rfl,by go_num,Hs.o,trivial⟩
         case measure=>simp [intOf]<;>omega
theorem VM (n m c d:Nat) (xs ys:List Int) (w:World) (hx:aD w A n xs) (hy:aD w B m ys) (hdx:fZ xs) (hdy:fZ ys) (hn:n<=17000000000000) (hmn:m<=n) (hv:v32 ys<=v32 xs):
 aB 134 #[.slice A n c,.slice B m d] w (Jq w (v32 xs-v32 ys) n):=by
 obtain ⟨i0,hi,jE,jD,jJ⟩:=eG fN;have Hl:=aA hx.len;have Cx:=aA (fun k W (h:Below w.heap.size w W) (hk:k<=17000000000000)=>XP A n c xs k W (hx.aC h) (by omega) (by omega));have Cy:=aA (fun k W (h:Below w.heap.size w W) (hk:k<=17000000000000)=>XP B m d ys k W (hy.aC h) (by omega) (by omega));have Hc:=aA (fun k=>(Ij hdx hdy k).1);have Hi:=aA (fun k q (h:q<=1)=>aaS hdx hdy k q h);have KV:=aA (DB (Vp xs ys));have Hw:Hid (v32 (ah (oq xs ys) n).1=v32 xs-v32 ys):=by
  have:=Sc hdx hdy (by rw [hx.len,hy.len];exact hmn) hv;rw [hx.len] at this;exact this
 have zC:=aA (cn (oq xs ys));have Hs:Hid (∀k,(ah (oq xs ys) (k+1)).1=(ah (oq xs ys) k).1++[((oq xs ys k (ah (oq xs ys) k).2).1:Int)]∧(ah (oq xs ys) (k+1)).2=(oq xs ys k (ah (oq xs ys) k).2).2):=fun k=>⟨rfl,rfl⟩;clear hx hy hdx hdy;generalize oq xs ys=F at*
 generalize v32 xs-v32 ys=V at*
 go_enter func134,ntmps134
 go_wp2
 go_loopw [5,6,7] (fun v q i wr=>∃k:Nat,k<=n∧i=.int .i64 k∧q=.int .u64 ((ah F k).2:Int)∧wr.ownsRow w.heap.size 38 1 v k (bI (ah F k).1)∧Below w.heap.size w wr) (fun _ _ i _=>n-(intOf i).toNat)
 case atStart=>exact ⟨0,by omega,rfl,rfl,nv _ _ _ _,aU⟩
 case round=>
  obtain ⟨k,hk,rfl,rfl,aa,bC⟩:=hrel;by_cases hlt:k<n
  . have dH:(k:Int)<(n:Int):=by omega
    obtain ⟨uF,vH⟩:=Hs.o k;have hq:=Hc.o k;generalize hL:(ah F k).1=L at*
    obtain ⟨q,Jt⟩:∃q:Nat,(ah F k).2=q:=⟨_,rfl⟩;rw [Jt] at uF vH hq ⊢;obtain ⟨i1,i2,i3,i4,i5,i6,i7,i8,i9⟩:=Hi.o k q hq;have HL:=aA hL;have Hs1:=aA uF;have Hs2:=aA vH;have Hi1:=aA i1;have Hi2:=aA i2;clear hL Jt uF vH i1 i2;(have e1:IntKind.u64.wrap (nth xs k+4294967296)=nth xs k+4294967296:=by rw [ag];omega);(have e2:IntKind.u64.wrap (nth xs k+4294967296-nth ys k)=nth xs k+4294967296-nth ys k:=by rw [ag];omega);(have e3:IntKind.u64.wrap (nth xs k+4294967296-nth ys k-(q:Int))=nth xs k+4294967296-nth ys k-(q:Int):=by rw [ag];omega);have e4:=vJ (nth xs k+4294967296-nth ys k-(q:Int)) i3 i4;(have e5:IntKind.u64.wrap (1-(nth xs k+4294967296-nth ys k-(q:Int)) / 4294967296)=1-(nth xs k+4294967296-nth ys k-(q:Int)) / 4294967296:=by rw [ag];omega);go_wp2_with (first
     | (go_at_call 131;first | ((with_reducible show Calls _ _ #[.slice A _ _,_] _ _);refine (Cx.o k _ bC (by omega)).mono ?_;rintro e w' ⟨rfl,rfl⟩) | ((with_reducible show Calls _ _ #[.slice B _ _,_] _ _);refine (Cy.o k _ bC (by omega)).mono ?_;rintro e w' ⟨rfl,rfl⟩))
     | (at_builtin;refine rG _ (by rfl) _ _ _ (by rfl) w.heap.size 38 i0 _ 1 8 underlying39 hi jE jD jJ rfl (by omega) u5 (k) (bI (L)) (by rfl) (aa.alloc _) ⟨wr.heap.size,0,none⟩ 1 1 [.int .u64 ((nth xs k+4294967296-nth ys k-(q:Int)) % 4294967296)] (by rfl) (by rfl) (gw (cs:=#[.int .u64 ((nth xs k+4294967296-nth ys k-(q:Int)) % 4294967296)]) (t:=38) (fr:=(0,0)) (bM wr _)) (by simp [Value.oneCell']) (by omega) (by unfold maxLen;omega) (by omega) (by have:=bC.size;simp;omega) (wr.heap.size+1) (by simp) ?_;intro gg cap w1 jH aW gZ KJ))
    have nZ:=pL bC aa aW bC.size;have bp:w1.ownsRow w.heap.size 38 1 (.slice (some ⟨gg,0,none⟩) (k+1) cap) (k+1) (bI (ah F (k+1)).1):=by
     rw [Hs1.o,fH,Hi1.o];exact jH
    have Hq:Hid (((ah F (k+1)).2:Int)=1-(nth xs k+4294967296-nth ys k-(q:Int)) / 4294967296):=by
     show _=_;rw [Hs2.o];exact Hi2.o
    clear aW gZ jH aa;(go_wp2);go_roundw
    case rel=>exact ⟨k+1,by omega,by go_num,by rw [Hq.o],bp,nZ⟩
    case measure=>simp [intOf];omega
  . obtain rfl:k=n:=by omega
    obtain ⟨A1,c1,rfl⟩:=fD aa;obtain ⟨g1,g2⟩:=js aa;have sZ:=aD.ia aa (KV.o k).lm;have Cc:=aA (Zk A1 k c1 _ wr sZ g1 g2);have Hp:=aA (II (KV.o k) sZ.len);have Hle:=aA (cS (ah F k).1 k);have Hin:=aA sZ;have Hfr:Hid (∀y,A1=some y->w.heap.size<=y.block):=fun y hy=>(aa.lt y.block (by subst hy;rfl)).1;clear sZ aa;(go_wp2_with fail);refine Cc.o.mono ?_;rintro e w' ⟨rfl,rfl⟩;(go_wp2_with fail);go_ret;exact ⟨A1,_,c1,_,rfl,aG Hle.o g1,g2,Hle.o,Hin.o.take Hle.o,Hp.o.1,Hp.o.2.trans Hw.o,Hfr.o,bC⟩
theorem akg (n m c d:Nat) (xs ys:List Int) (w:World) (hx:aD w A n xs) (hy:aD w B m ys) (hdx:fZ xs) (hdy:fZ ys) (hn:n<=17000000000000) (hmn:m<=n) (hv:v32 ys<=v32 xs):
 aB 134 #[.slice A n c,.slice B m d] w (N5 w (v32 xs-v32 ys) n):=
 (VM A B n m c d xs ys w hx hy hdx hdy hn hmn hv).mono fun _ _ h=>h.dg
theorem aoS (n m c d:Nat) (xs ys:List Int) (w:World) (hx:aD w A n xs) (hy:aD w B m ys) (hn:n<=4000000000000) (hm:m<=4000000000000):
 aB 99 #[.slice A n c,.slice B m d] w (pZ w (limbs xs+limbs ys) (max n m+1)):=by
 obtain ⟨i0,hi,jE,jD,jJ⟩:=eG fN;have Ca:=aA (qV A n c xs w hx (by omega));have Cb:=aA (fun W (h:Below w.heap.size w W)=>qV B m d ys W (hy.aC h) (by omega));have RD:Hid (limbs xs+limbs ys<2^(64*(max n m+1))):=by
  have h1:=dc hx.ok;have h2:=dc hy.ok;rw [hx.len] at h1;rw [hy.len] at h2;have h3:2^(64*n)<=2^(64*max n m):=fP (by omega) (by omega);have h4:2^(64*m)<=2^(64*max n m):=fP (by omega) (by omega);show _<_;rw [sO];omega
 clear hx hy;generalize limbs xs=X at*
 generalize limbs ys=Y at*
 obtain ⟨N,hN⟩:∃N,N=max n m+1:=⟨_,rfl⟩;rw [<- hN] at RD ⊢;clear hN;go_enter func99,ntmps99
 go_wp2_with fail
 refine Ca.o.mono ?_;rintro e w1 ⟨A1,n1,c1,ds,rfl,p1,p2,p3,p4,p5,p6,p7⟩;have Cb1:=aA (Cb.o w1 p7);have P4:=aA p4;have P5:=aA p5;have P6:=aA p6;have P7:=aA p7;clear p4 p5 p6 p7;go_wp2_with fail
 refine Cb1.o.mono ?_;rintro e w2 ⟨A2,n2,c2,es,rfl,q1,q2,q3,q4,q5,q6,q7⟩;have cN:=P7.o.tm q7;have Cx:=aA (fun k W (h:Below w2.heap.size w2 W) (hk:k<=17000000000000)=>XP A1 n1 c1 ds k W ((P4.o.aC q7).aC h) (by omega) (by omega));have Cy:=aA (fun k W (h:Below w2.heap.size w2 W) (hk:k<=17000000000000)=>XP A2 n2 c2 es k W (q4.aC h) (by omega) (by omega));have Hc:=aA (fun k=>(JO P5.o.ok q5.ok k).1);have Hi:=aA (fun k q (h:q<=1)=>acU P5.o.ok q5.ok k q h);have KV:=aA (DB (ahk ds es));have Hw:Hid (∀M,n1<=M->n2<=M->v32 (ah (od ds es) (M+1)).1=X+Y):=fun M h1 h2=>by
  rw [Tt P5.o.ok q5.ok (by rw [P4.o.len];exact h1) (by rw [q4.len];exact h2),P6.o,q6]
 have Hs:Hid (∀k,(ah (od ds es) (k+1)).1=(ah (od ds es) k).1++[((od ds es k (ah (od ds es) k).2).1:Int)]∧(ah (od ds es) (k+1)).2=(od ds es k (ah (od ds es) k).2).2):=fun k=>⟨rfl,rfl⟩;have wI:=aA cN;clear cN q4 q5 q6 q7 P4 P5 P6 P7 Ca Cb Cb1;generalize od ds es=F at*
 by_cases CU:(n1:Int)<(n2:Int);all_goals
  obtain ⟨M,LU,acd,hMe⟩:∃M,n1<=M∧n2<=M∧((n1:Int)<(n2:Int)∧M=n2∨¬(n1:Int)<(n2:Int)∧M=n1):=by
   by_cases h:(n1:Int)<(n2:Int)
   . exact ⟨n2,by omega,aL,.inl ⟨h,rfl⟩⟩
   . exact ⟨n1,aL,by omega,.inr ⟨h,rfl⟩⟩
  have hMb:M<=9000000000000:=by omega
  have hMx:max (n1:Int) (n2:Int)=(M:Int):=by omega
  rcases hMe with ⟨hq,hMe⟩ | ⟨hq,hMe⟩;all_goals
   first
    | exact absurd hq CU
    | exact absurd CU hq
    | skip
  clear hq;obtain rfl:=hMe;go_wp2
  go_loopw [7,8,9] (fun v q i wr=>∃k:Nat,k<=M+1∧i=.int .i64 k∧q=.int .u64 ((ah F k).2:Int)∧wr.ownsRow w2.heap.size 38 1 v k (bI (ah F k).1)∧Below w2.heap.size w2 wr) (fun _ _ i _=>M+1-(intOf i).toNat)
  case atStart=>exact ⟨0,by omega,rfl,rfl,nv _ _ _ _,aU⟩
  case round=>
   obtain ⟨k,hk,rfl,rfl,aa,bC⟩:=hrel;by_cases hlt:k<M+1
   . have dH:(k:Int)<(M:Int)+1:=by omega
     obtain ⟨uF,vH⟩:=Hs.o k;have hq:=Hc.o k;generalize hL:(ah F k).1=L at*
     obtain ⟨q,Jt⟩:∃q:Nat,(ah F k).2=q:=⟨_,rfl⟩;rw [Jt] at uF vH hq ⊢;obtain ⟨i1,i2,i3,i4,i5⟩:=Hi.o k q hq;have HL:=aA hL;have Hs1:=aA uF;have Hs2:=aA vH;have Hi1:=aA i1;have Hi2:=aA i2;clear hL Jt uF vH i1 i2;(have e1:IntKind.u64.wrap (nth ds k+nth es k)=nth ds k+nth es k:=by rw [ag];omega);(have e2:IntKind.u64.wrap (nth ds k+nth es k+(q:Int))=nth ds k+nth es k+(q:Int):=by rw [ag];omega);have e4:=vJ (nth ds k+nth es k+(q:Int)) (by omega) i5;go_wp2_with (first
      | (go_at_call 131;first | ((with_reducible show Calls _ _ #[.slice A1 _ _,_] _ _);refine (Cx.o k _ bC (by omega)).mono ?_;rintro e w' ⟨rfl,rfl⟩) | ((with_reducible show Calls _ _ #[.slice A2 _ _,_] _ _);refine (Cy.o k _ bC (by omega)).mono ?_;rintro e w' ⟨rfl,rfl⟩))
      | (at_builtin;refine rG _ (by rfl) _ _ _ (by rfl) w2.heap.size 38 i0 _ 1 8 underlying39 hi jE jD jJ rfl (by omega) u7 (k) (bI (L)) (by rfl) (aa.alloc _) ⟨wr.heap.size,0,none⟩ 1 1 [.int .u64 ((nth ds k+nth es k+(q:Int)) % 4294967296)] (by rfl) (by rfl) (gw (cs:=#[.int .u64 ((nth ds k+nth es k+(q:Int)) % 4294967296)]) (t:=38) (fr:=(0,0)) (bM wr _)) (by simp [Value.oneCell']) (by omega) (by unfold maxLen;omega) (by omega) (by have:=bC.size;simp;omega) (wr.heap.size+1) (by simp) ?_;intro gg cap w3 jH aW gZ KJ))
     have nZ:=pL bC aa aW bC.size;have bp:w3.ownsRow w2.heap.size 38 1 (.slice (some ⟨gg,0,none⟩) (k+1) cap) (k+1) (bI (ah F (k+1)).1):=by
      rw [Hs1.o,fH,Hi1.o];exact jH
     have Hq:Hid (((ah F (k+1)).2:Int)=(nth ds k+nth es k+(q:Int)) / 4294967296):=by
      show _=_;rw [Hs2.o];exact Hi2.o
     clear aW gZ jH aa;(go_wp2);go_roundw
     case rel=>exact ⟨k+1,by omega,by go_num,by rw [Hq.o],bp,nZ⟩
     case measure=>simp [intOf];omega
   . obtain rfl:k=M+1:=by omega
     (have dH:¬((M+1:Nat):Int)<(M:Int)+1:=by omega);obtain ⟨A3,c3,rfl⟩:=fD aa;obtain ⟨g1,g2⟩:=js aa;have sZ:=aD.ia aa (KV.o (M+1)).lm;have Cc:=aA (BQ A3 (M+1) c3 _ wr sZ (KV.o (M+1)) (by omega));rw [Hw.o M LU acd] at Cc;have aBJ:=aA bC;clear sZ aa bC;(go_wp2_with fail);refine Cc.o.mono ?_;intro e w' h;have h2:=(h.from_ (wI.o.tm aBJ.o)).len RD.o;obtain ⟨A4,n4,c4,l4,rfl,r⟩:=h2;have F:Hid (pZ w (X+Y) N (.returned (.slice A4 n4 c4)) w'):=⟨A4,n4,c4,l4,rfl,r⟩;clear r h;(go_wp2_with fail);go_ret;exact F.o
end
def pV (w:World) (X Y K:Nat) (e:Ending) (w':World):Prop:=
 if Y<=X then∃A k c ls,e=.returned (.tuple #[.slice A k c,.int .i64 0])∧k<=c∧c<=9223372036854775807∧k<=K∧aD w' A k ls∧bY ls∧limbs ls=X-Y∧Below w.heap.size w w'
 else e=.returned (.tuple #[.slice none 0 0,.int .i64 1])∧Below w.heap.size w w'
def pV.yes {Y:Nat} (h:pV w X Y K e w') (mj:Y<=X):∃A k c ls,e=.returned (.tuple #[.slice A k c,.int .i64 0])∧k<=c∧c<=9223372036854775807∧k<=K∧aD w' A k ls∧bY ls∧limbs ls=X-Y∧Below w.heap.size w w':=by
 unfold pV at h;rwa [aM mj] at h
def pV.no {Y:Nat} (h:pV w X Y K e w') (mj:¬Y<=X):e=.returned (.tuple #[.slice none 0 0,.int .i64 1])∧Below w.heap.size w w':=by
 unfold pV at h;rwa [aY mj] at h
def O0 (A B:Option Addr) (n m c d:Nat) (xs ys:List Int) (w:World) (hx:aD w A n xs) (hy:aD w B m ys) (hn:n<=4000000000000) (hm:m<=4000000000000):
 aB 100 #[.slice A n c,.slice B m d] w (pV w (limbs xs) (limbs ys) n):=by
 have Ca:=aA (qV A n c xs w hx (by omega));have Cb:=aA (fun W (h:Below w.heap.size w W)=>qV B m d ys W (hy.aC h) (by omega));have RD:Hid (limbs xs<2^(64*n)):=by have:=dc hx.ok;rwa [hx.len] at this
 clear hx hy;generalize limbs xs=X at*
 generalize limbs ys=Y at*
 go_enter func100,ntmps100
 go_wp2_with fail
 refine Ca.o.mono ?_;rintro e w1 ⟨A1,n1,c1,ds,rfl,p1,p2,p3,p4,p5,p6,p7⟩;have Cb1:=aA (Cb.o w1 p7);have P4:=aA p4;have P5:=aA p5;have P6:=aA p6;have P7:=aA p7;clear p4 p5 p6 p7;go_wp2_with fail
 refine Cb1.o.mono ?_;rintro e w2 ⟨A2,n2,c2,es,rfl,q1,q2,q3,q4,q5,q6,q7⟩;have cN:=P7.o.tm q7;have Cc:=Kl A1 A2 n1 n2 c1 c2 ds es w2 (P4.o.aC q7) q4 P5.o.ok q5.ok (by omega) (by omega);rw [P6.o,q6] at Cc;have Cl:=aA (fun (h:Y<=X)=>akg A1 A2 n1 n2 c1 c2 ds es w2 (P4.o.aC q7) q4 P5.o.ok q5.ok (by omega) (by have:=P5.o.bV q5 (by rw [P6.o,q6];exact h);rw [P4.o.len,q4.len] at this;exact this) (by rw [P6.o,q6];exact h));rw [P6.o,q6] at Cl;have wI:=aA cN;clear cN q4 q5 q6 q7 P4 P5 P6 P7 Ca Cb Cb1;by_cases mj:Y<=X
 . obtain ⟨r,hr,CH⟩:∃r:Int,ji X Y=r∧¬r<0:=⟨_,rfl,by unfold ji;rw [aY (by omega)];split<;>omega⟩
   rw [hr] at Cc;have CC:=aA Cc;have CL:=aA (Cl.o mj);have Hle:=aA mj;clear Cc Cl hr mj;go_wp2_with fail
   refine CC.o.mono ?_;rintro e w' ⟨rfl,rfl⟩;go_wp2_with fail
   refine CL.o.mono ?_;rintro e w3 ⟨A3,n3,c3,fs,rfl,r1,r2,r3,r4,r5,r6,r7⟩;have Cm:=BQ A3 n3 c3 fs w3 r4 r5.ok (by omega);rw [r6] at Cm;have CM:=aA Cm;have RH:=aA (wI.o.tm r7);clear Cm r4 r5 r6 r7;go_wp2_with fail
   refine CM.o.mono ?_;intro e w' h;have h2:=(h.from_ RH.o).len (j:=n) (aR (Nat.sub_le _ _) RD.o);obtain ⟨A4,n4,c4,l4,rfl,r⟩:=h2;have F:Hid (pV w X Y n (.returned (.tuple #[.slice A4 n4 c4,.int .i64 0])) w'):=by
    show pV _ _ _ _ _ _;unfold pV;rw [aM Hle.o];exact ⟨A4,n4,c4,l4,rfl,r⟩
   clear r h;go_wp2_with fail
   go_ret2;exact F.o
 . have hr:ji X Y= -1:=by unfold ji;rw [aM (by omega)]
   rw [hr] at Cc;have CC:=aA Cc;have F:Hid (pV w X Y n (.returned (.tuple #[.slice none 0 0,.int .i64 1])) w2):=by
    show pV _ _ _ _ _ _;unfold pV;rw [aY mj];exact ⟨rfl,wI.o⟩
   clear Cc Cl hr mj;go_wp2_with fail
   refine CC.o.mono ?_;rintro e w' ⟨rfl,rfl⟩;go_wp2_with fail
   go_ret2;exact F.o
structure Jm (xs ys:List Int) (n m i k q:Nat) (os:List Int):Prop where
 len:os.length=n+m
 ok:fZ os
 cq:q<4294967296
 val:v32 os+4294967296^(i+k)*q=v32 (xs.take i)*v32 ys+4294967296^i*(nth xs i).toNat*v32 (ys.take k)
 top:∀j,i+m<=j->nth os j=0
structure wG (xs ys:List Int) (n m i:Nat) (os:List Int):Prop where
 len:os.length=n+m
 ok:fZ os
 val:v32 os=v32 (xs.take i)*v32 ys
 top:∀j,i+m<=j->nth os j=0
def wG.zero (xs ys:List Int) (n m:Nat):wG xs ys n m 0 (List.replicate (n+m) 0):=
 ⟨fQ,fZ.rep _,by rw [U9];show 0=0*_;rw [AQ],fun j _=>by
   unfold nth;rw [adF,adE];split<;>simp⟩
def wG.start (h:wG xs ys n m i os):Jm xs ys n m i 0 0 os:=
 ⟨h.len,h.ok,by omega,by rw [h.val];show _+_*0=_+_*0;rfl,h.top⟩
def Vh {o:Int}(hx:0<=x∧x<4294967296) (hy:0<=y∧y<4294967296) (ho:0<=o∧o<4294967296) (hq:0<=q∧q<4294967296):0<=x*y∧x*y<=18446744065119617025∧0<=x*y+o∧x*y+o<18446744073709551616∧0<=x*y+o+q∧x*y+o+q<18446744073709551616:=by
 have h1:0<=x*y:=yC hx.1 hy.1;have h2:x*y<=4294967295*4294967295:=Nu (by omega) (by omega) hy.1 (by omega);omega
def Jm.step {q:Nat} (h:Jm xs ys n m i k q os) (hx:fZ xs) (hy:fZ ys) (hi:i<n) (hk:k<m) {s:Int}(hs:s=nth xs i*nth ys k+nth os (i+k)+(q:Int)):
 Jm xs ys n m i (k+1) (s / 4294967296).toNat (os.set (i+k) (s % 4294967296)):=by
 have a1:=hx i;have a2:=hy k;have a3:=h.ok (i+k);have a4:=h.cq;have hb:=Vh a1 a2 a3 (q:=(q:Int)) (by omega);rw [<- hs] at hb;have hv:=h.val;have ur:=ME (xs:=os) (i:=i+k) (by rw [h.len];omega) (s % 4294967296);obtain ⟨x,ex⟩:∃x:Nat,nth xs i=(x:Int):=⟨(nth xs i).toNat,by omega⟩;obtain ⟨y,ey⟩:∃y:Nat,nth ys k=(y:Int):=⟨(nth ys k).toNat,by omega⟩;obtain ⟨o,eo⟩:∃o:Nat,nth os (i+k)=(o:Int):=⟨(nth os (i+k)).toNat,by omega⟩;obtain ⟨t,et⟩:∃t:Nat,s=(t:Int):=⟨s.toNat,by omega⟩;have ht:t=x*y+o+q:=by
  rw [ex,ey,eo,et] at hs;rw [<- sr] at hs;omega
 refine ⟨by rw [fW];exact h.len,h.ok.set _ (by omega) (by omega),by omega,?_,fun j hj=> ?_⟩
 . rw [dV,<- jb,kY,ak,ey]
   rw [ex] at hv ⊢;rw [eo] at ur;rw [et] at ur ⊢;simp only [jc] at hv ur ⊢;have e1:((t:Int) % 4294967296).toNat=t % 4294967296:=by omega
   have e2:((t:Int) / 4294967296).toNat=t / 4294967296:=by omega
   rw [e1] at ur;rw [e2];have e3:4294967296^i*x*(4294967296^k*y)=4294967296^(i+k)*(x*y):=by
    rw [iD,dA,dA,oh x]
   rw [e3];generalize v32 (xs.take i)*v32 ys=S at*
   generalize 4294967296^i*x*v32 (ys.take k)=T at*
   generalize 4294967296^(i+k)=P at*
   have e4:P*(t % 4294967296)+P*4294967296*(t / 4294967296)=P*t:=by
    rw [dA,<- ak];congr 1;omega
   have e5:P*t=P*(x*y)+P*o+P*q:=by rw [ht,ak,ak]
   omega
 . rw [gK (by rw [h.len];omega),aY (by omega)]
   exact h.top j hj
def Jm.last {q:Nat} (h:Jm xs ys n m i m q os) (hi:i<n) (hm:ys.length=m):wG xs ys n m (i+1) (os.set (i+m) (q:Int)):=by
 have hv:=h.val;have h4:=h.cq;have ur:=ME (xs:=os) (i:=i+m) (by rw [h.len];omega) (q:Int);rw [h.top _ aL] at ur;refine ⟨by rw [fW];exact h.len,h.ok.set _ (by omega) (by omega),?_,fun j hj=> ?_⟩
 . rw [dV,bO]
   rw [eE (xs:=ys) (n:=m) (by omega)] at hv;rw [jc] at ur;have e:(0:Int).toNat=0:=rfl;rw [e,jZ] at ur;omega
 . rw [gK (by rw [h.len];omega),aY (by omega)]
   exact h.top j (by omega)
def aoQ (A B:Option Addr) (n m c d:Nat) (xs ys:List Int) (w:World) (hx:aD w A n xs) (hy:aD w B m ys) (hn:n<=4000000000000) (hm:m<=4000000000000):
 aB 129 #[.slice A n c,.slice B m d] w (pZ w (limbs xs*limbs ys) (n+m)):=by
 obtain ⟨i0,hi,jE,jD,jJ⟩:=eG fN;have Ca:=aA (qV A n c xs w hx (by omega));have Cb:=aA (fun W (h:Below w.heap.size w W)=>qV B m d ys W (hy.aC h) (by omega));have RD:Hid (limbs xs*limbs ys<2^(64*(n+m))):=by
  have h1:=dc hx.ok;have h2:=dc hy.ok;rw [hx.len] at h1;rw [hy.len] at h2;show _<_;rw [ak,iD];exact Lu h1 h2
 clear hx hy;generalize limbs xs=X at*
 generalize limbs ys=Y at*
 obtain ⟨N,hN⟩:∃N,N=n+m:=⟨_,rfl⟩;rw [<- hN] at RD ⊢;clear hN;go_enter func129,ntmps129
 go_wp2_with fail
 refine Ca.o.mono ?_;rintro e w1 ⟨A1,n1,c1,ds,rfl,p1,p2,p3,p4,p5,p6,p7⟩;have Cb1:=aA (Cb.o w1 p7);have P4:=aA p4;have P5:=aA p5;have P6:=aA p6;have P7:=aA p7;clear p4 p5 p6 p7;go_wp2_with fail
 refine Cb1.o.mono ?_;rintro e w2 ⟨A2,n2,c2,es,rfl,q1,q2,q3,q4,q5,q6,q7⟩;have wI:=aA (P7.o.tm q7);have Hx:=aA (P4.o.aC q7);have Hy:=aA q4;have Hdx:=aA P5.o.ok;have Hdy:=aA q5.ok;have Hv:Hid (∀os,wG ds es n1 n2 n1 os->v32 os=X*Y):=fun os h=>by
  have:=h.val;rw [eE (by rw [P4.o.len];exact aL),P6.o,q6] at this;exact this
 have Hel:=aA q4.len;clear q4 q5 q6 q7 P4 P5 P6 P7 Ca Cb Cb1;have KI:=iQ underlying39 hi jE jD jJ (n1+n2) (by omega) w2;obtain ⟨T,hT⟩:∃T:Nat,T=n1+n2:=⟨_,rfl⟩;have hTi:(n1:Int)+(n2:Int)=(T:Int):=by omega
 rw [<- hT] at KI;have CH:Hid (iJ (w2.alloc (.cells (bI (List.replicate T 0)).toArray 38)) w2.heap.size 38 (List.replicate T 0)):=iJ.new w2 _ _;have M7:Hid (wG ds es n1 n2 0 (List.replicate T 0)):=by rw [hT];exact wG.zero _ _ _ _
 have rF:Hid (Below w2.heap.size w2 (w2.alloc (.cells (bI (List.replicate T 0)).toArray 38))):=aU.alloc aL _;have HT:=aA hT;have hT1:T<=16000000000000:=by omega
 clear hT;generalize List.replicate T (0:Int)=R0 at*
 go_wp2_with fail
 clear KI;go_loopw [8] (fun i wr=>∃(k:Nat) (os:List Int),k<=n1∧i=.int .i64 (k:Int)∧Hid (iJ wr w2.heap.size 38 os)∧Hid (wG ds es n1 n2 k os)∧Hid (Below w2.heap.size w2 wr)) (fun i _=>n1-(intOf i).toNat)
 case atStart=>exact ⟨0,R0,by omega,rfl,CH,M7,rF⟩
 case round=>
  clear CH M7 rF;obtain ⟨i,os,hk,rfl,fM,hmr,bC⟩:=hrel;obtain ⟨wo,rfl⟩:∃wo:World,wo=wr:=⟨_,rfl⟩;by_cases hlt:i<n1
  . have dH:(i:Int)<(n1:Int):=by omega
    obtain ⟨b,o,rfl,hb,hc⟩:=Hx.o.at_ (by omega);have Hck:Hid (∀W,Below w2.heap.size w2 W->W.cell? ⟨b,o+i,none⟩=some (.int .u64 (nth ds i))):=fun W h=>(h.cell (p:=⟨b,o+i,none⟩) hb).trans (hc i hlt);have hms:=aA hmr.o.start;clear hc;(go_wp2_with fail);go_loopw [9,10] (fun cv i' wr=>∃(k q:Nat) (ot:List Int),k<=n2∧cv=.int .u64 (q:Int)∧i'=.int .i64 (k:Int)∧Hid (iJ wr w2.heap.size 38 ot)∧Hid (Jm ds es n1 n2 i k q ot)∧Hid (Below w2.heap.size w2 wr)) (fun _ i _=>n2-(intOf i).toNat)
    case atStart=>exact ⟨0,0,os,by omega,rfl,rfl,fM,hms,bC⟩
    case round=>
     clear fM hmr bC hms;obtain ⟨k,q,ot,zP,rfl,rfl,hrt,QE,NJ⟩:=hrel;by_cases M9:k<n2
     . have alh:(k:Int)<(n2:Int):=by omega
       obtain ⟨b2,o2,rfl,cN,NH⟩:=Hy.o.at_ (by omega);have hcy:wr.cell? ⟨b2,o2+k,none⟩=some (.int .u64 (nth es k)):=(NJ.o.cell (p:=⟨b2,o2+k,none⟩) cN).trans (NH k M9);have LQ:=Hck.o wr NJ.o;obtain ⟨z,hz⟩:∃z:Nat,z=i+k:=⟨_,rfl⟩;(have hzi:(i:Int)+(k:Int)=(z:Int):=by omega);(have hzT:(z:Int)<(T:Int):=by have:=HT.o;omega);(have jE:(0:Int)<=(z:Int):=by omega);(have hzl:z<ot.length:=by have:=QE.o.len;omega);have LR:=hrt.o.cell hzl;have hfo:=hrt.o.frozen z;have hq:=QE.o.cq;have qx:=Vh (Hdx.o i) (Hdy.o k) (QE.o.ok z) (q:=(q:Int)) (by omega);obtain ⟨s,hs⟩:∃s:Int,s=nth ds i*nth es k+nth ot z+(q:Int):=⟨_,rfl⟩;have Hst:=aA (QE.o.step Hdx.o Hdy.o hlt M9 (s:=s) (by rw [hs,hz]));(have e1:IntKind.u64.wrap (nth ds i*nth es k)=nth ds i*nth es k:=by rw [ag];omega);(have e2:IntKind.u64.wrap (nth ds i*nth es k+nth ot z)=nth ds i*nth es k+nth ot z:=by rw [ag];omega);(have e3:IntKind.u64.wrap (nth ds i*nth es k+nth ot z+(q:Int))=s:=by rw [ag,hs];omega);(have Ah:0<=s:=by omega);(have uF:s<18446744073709551616:=by omega);have e4:=vJ s Ah uF;(have e5:s / 4294967296=((s / 4294967296).toNat:Int):=by omega);have Hz:=aA hz;rw [<- hz] at Hst;have yD:=aA (hrt.o.set z (s % 4294967296));have Yi:Hid (∀nq,Below w2.heap.size w2 ((wr.drewN nq).setCell ⟨w2.heap.size,z,none⟩ (.int .u64 (s % 4294967296)))):=fun nq=>(below_drewN NJ.o nq).setCell (p:=⟨w2.heap.size,z,none⟩) aL _;generalize hq2:(s / 4294967296).toNat=q2 at*
       have Hq2:=aA hq2;generalize nth ot z=ov at*
       clear NH hrt QE qx hz hs hq2 hq;(go_wp2_with fail);go_quiet (fail)
       (go_wp2_with fail);go_roundw
       case rel=>exact ⟨k+1,q2,_,by omega,rfl,by go_num,yD,Hst,Yi.o _⟩
       case measure=>simp [intOf];omega
     . obtain rfl:k=n2:=by omega
       (have alh:¬(k:Int)<(k:Int):=by omega);obtain ⟨z,hz⟩:∃z:Nat,z=i+k:=⟨_,rfl⟩;(have hzi:(i:Int)+(k:Int)=(z:Int):=by omega);(have hzT:(z:Int)<(T:Int):=by have:=HT.o;omega);(have jE:(0:Int)<=(z:Int):=by omega);(have hzl:z<ot.length:=by have:=QE.o.len;omega);have LR:=hrt.o.cell hzl;have hfo:=hrt.o.frozen z;have Hst:=aA (QE.o.last hlt Hel.o);rw [<- hz] at Hst;have yD:=aA (hrt.o.set z (q:Int));have Yi:Hid (Below w2.heap.size w2 (wr.setCell ⟨w2.heap.size,z,none⟩ (.int .u64 (q:Int)))):=NJ.o.setCell (p:=⟨w2.heap.size,z,none⟩) aL _;clear hrt QE hz;(go_wp2_with fail);go_roundw
       case rel=>exact ⟨i+1,_,by omega,by go_num,yD,Hst,Yi⟩
       case measure=>simp [intOf];omega
  . obtain rfl:i=n1:=by omega
    (have dH:¬(i:Int)<(i:Int):=by omega);have hL:=fM.o.limbs hmr.o.ok.lm;have RX:=hmr.o.len;rw [RX,<- HT.o] at hL;have Cl:=BQ (some ⟨w2.heap.size,0,none⟩) T T os wo hL hmr.o.ok (by omega);rw [Hv.o _ hmr.o] at Cl;have CL:=aA Cl;clear Cl hL RX;(go_wp2_with fail);refine CL.o.mono ?_;intro e w' h;have h2:=(h.from_ (wI.o.tm bC.o)).len RD.o;obtain ⟨A4,n4,c4,l4,rfl,r⟩:=h2;have F:Hid (pZ w (X*Y) N (.returned (.slice A4 n4 c4)) w'):=⟨A4,n4,c4,l4,rfl,r⟩;clear r h;(go_wp2_with fail);go_ret;exact F.o
def oV (rs:List Int) (b:Nat):Nat->List Int×Nat
 | 0=>([],b)
 | k+1=>((oV rs b k).1++[((((nth rs k).toNat*2+(oV rs b k).2) % 4294967296:Nat):Int)],(nth rs k).toNat / 2147483648)
def Ck (rs:List Int) (b:Nat):∀k,(oV rs b k).1.length=k
 | 0=>rfl
 | k+1=>by show ((oV rs b k).1++[_]).length=_;rw [eC,Ck rs b k];rfl
def JC (h:fZ rs) (hb:b<=1):∀k,(oV rs b k).2<=1∧fZ (oV rs b k).1∧v32 (oV rs b k).1+4294967296^k*(oV rs b k).2=2*v32 (rs.take k)+b
 | 0=>⟨hb,fZ.nil,by show 0+1*b=2*0+b;omega⟩
 | k+1=>by
   obtain ⟨h1,h2,h3⟩:=JC h hb k;have a1:=h k;obtain ⟨x,ex⟩:∃x:Nat,(nth rs k).toNat=x:=⟨_,rfl⟩;have hx:x<4294967296:=by omega
   have e1:(oV rs b (k+1)).1=(oV rs b k).1++[(((x*2+(oV rs b k).2) % 4294967296:Nat):Int)]:=by rw [<- ex];rfl
   have e2:(oV rs b (k+1)).2=x / 2147483648:=by rw [<- ex];rfl
   rw [e1,e2];refine ⟨by omega,h2.snoc (by omega) (by omega),?_⟩;rw [Am,Ck,dV,ex,kY,jc];generalize (oV rs b k).2=c at*
   generalize 4294967296^k=Q at*
   have e3:x / 2147483648=(x*2+c) / 4294967296:=by omega
   have e4:Q*((x*2+c) % 4294967296)+Q*4294967296*((x*2+c) / 4294967296)=Q*(x*2+c):=by
    rw [dA,<- ak];congr 1;omega
   rw [e3];rw [ak,<- dA] at e4;rw [aq (Q*x) 2] at e4;rw [ak];omega
def YW (h:fZ rs) (hb:b<=1) (hn:rs.length=n):fZ ((oV rs b n).1++[((oV rs b n).2:Int)])∧v32 ((oV rs b n).1++[((oV rs b n).2:Int)])=2*v32 rs+b:=by
 obtain ⟨h1,h2,h3⟩:=JC h hb n;refine ⟨h2.snoc (by omega) (by omega),?_⟩;rw [Am,Ck,jc,h3,eE (by omega)]
def Gf (N:Nat) (hV:0<V) (i:Nat):
 (V<=2*(N / 2^(i+1) % V)+N / 2^i % 2->N / 2^i / V=2*(N / 2^(i+1) / V)+1∧N / 2^i % V=2*(N / 2^(i+1) % V)+N / 2^i % 2-V)∧
 (¬V<=2*(N / 2^(i+1) % V)+N / 2^i % 2->N / 2^i / V=2*(N / 2^(i+1) / V)∧N / 2^i % V=2*(N / 2^(i+1) % V)+N / 2^i % 2):=by
 have e1:N / 2^(i+1)=N / 2^i / 2:=by rw [kY,Wd]
 rw [e1];generalize N / 2^i=A;have h1:=su A 2;have h2:=su (A / 2) V;have h3:=jy (A / 2) hV;generalize A / 2 / V=q at*
 generalize A / 2 % V=r at*
 generalize A % 2=b at*
 have hb:b<=1:=by omega
 have hA:A=V*(2*q)+(2*r+b):=by
  rw [<- h1,<- h2,ak,oh];omega
 constructor
 . intro h
   have hA2:A=(2*r+b-V)+V*(2*q+1):=by rw [ak,bl];omega
   rw [hA2];refine ⟨?_,?_⟩
   . rw [Uf _ _ hV,Fx (by omega),bh]
   . rw [Ue,Fz (by omega)]
 . intro h
   have hA2:A=(2*r+b)+V*(2*q):=by omega
   rw [hA2];refine ⟨?_,?_⟩
   . rw [Uf _ _ hV,Fx (by omega),bh]
   . rw [Ue,Fz (by omega)]
def VY (h:fZ xs) (j:Nat):(nth xs j).toNat=v32 xs / 4294967296^j % 4294967296:=by
 have hP:0<4294967296^j:=iN (by omega);have h1:=qH h j;have a:=h j;by_cases hj:j<xs.length
 . have e:v32 xs=v32 (xs.take j)+4294967296^j*((nth xs j).toNat+4294967296*v32 (xs.drop (j+1))):=by
    have e0:=Gp (xs.take (j+1)) (xs.drop (j+1));rw [DR,dV,cQ,oz (by omega),kY,dA,jb,<- ak] at e0;exact e0
   rw [e,Uf _ _ hP,Fx h1,bh,Ue,Fz (by omega)]
 . have h2:=qH h j
   rw [eE (by omega)] at h2;rw [bw (by omega),Fx h2];rfl
def k9 (s:Nat):((2^s:Nat):Int)=2^s:=Int.natCast_pow 2 s
def Zw (i:Nat):2^i=4294967296^(i / 32)*2^(i % 32):=by
 rw [show (4294967296:Nat)=2^32 by decide,<- uW,<- iD];congr 1;omega
def ahd (h:fZ xs) (i:Nat):(nth xs (i / 32)).toNat / 2^(i % 32) % 2=v32 xs / 2^i % 2:=by
 have he:i % 32<32:=jy _ (by omega);rw [VY h,Zw i,<- Wd];generalize v32 xs / 4294967296^(i / 32)=A;generalize i % 32=e at*
 have e1:(4294967296:Nat)=2^e*2^(32-e):=by rw [<- iD,show e+(32-e)=32 by omega]
 have e2:2^(32-e)=2*2^(31-e):=by rw [<- Nat.pow_succ'];congr 1;omega
 rw [e1,Nat.mod_mul_right_div_self,e2,Nat.mod_mul_right_mod]
def afI (h:fZ xs) {t:Nat}(hv:v32 xs=t*2^(i+1)):∃u:Nat,(nth xs (i / 32)).toNat=u*2^(i % 32+1)∧u*2^(i % 32+1)+2^(i % 32)<4294967296:=by
 have he:i % 32<32:=jy _ (by omega);have hp:=Zw i;rw [VY h,hv,kY,hp];generalize i % 32=e at*
 have hP:0<4294967296^(i / 32):=iN (by omega);generalize 4294967296^(i / 32)=P at*
 have e0:t*(P*2^e*2)=P*(2^(e+1)*t):=by
  rw [kY,dA P,oh t P,aq t]
 have e1:(4294967296:Nat)=2^(e+1)*2^(31-e):=by rw [<- iD,show e+1+(31-e)=32 by omega]
 refine ⟨t % 2^(31-e),?_,?_⟩
 . rw [e0,Nat.mul_div_cancel_left _ hP,e1,Nat.mul_mod_mul_left,aq]
 . have h1:=jy t (lJ (31-e))
   have h2:2^(e+1)*(t % 2^(31-e)+1)<=2^(e+1)*2^(31-e):=bn _ h1;rw [<- e1,ak,bl,aq] at h2;have h3:2^(e+1)=2^e*2:=kY ..;have h4:=lJ e;omega
structure yH (N V L I:Nat) (os:List Int):Prop where
 len:os.length=L
 ok:fZ os
 val:v32 os=N / 2^I / V*2^I
def yH.zero (h:N<4294967296^L):yH N V L (32*L) (List.replicate L 0)∧N / 2^(32*L) % V=0:=by
 have e:N / 2^(32*L)=0:=Fx (by rw [uW];exact h);exact ⟨⟨fQ,fZ.rep _,by rw [U9,e,Nat.zero_div,AQ]⟩,by rw [e,Nat.zero_mod]⟩
def yH.stay (h:yH N V L (i+1) os) (hV:0<V) (hs:¬V<=2*(N / 2^(i+1) % V)+N / 2^i % 2):yH N V L i os:=
 ⟨h.len,h.ok,by rw [h.val,((Gf N hV i).2 hs).1,kY,aq 2,dA,aq (2^i) 2]⟩
def yH.put (h:yH N V L (i+1) os) (hV:0<V) (hs:V<=2*(N / 2^(i+1) % V)+N / 2^i % 2) (hi:i / 32<L):
 yH N V L i (os.set (i / 32) (nth os (i / 32)+2^(i % 32)))∧0<=nth os (i / 32)∧nth os (i / 32)+2^(i % 32)<4294967296∧∃u:Int,0<=u∧nth os (i / 32)=u*2^(i % 32+1):=by
 obtain ⟨u,hu,hl⟩:=afI h.ok h.val;have a:=h.ok (i / 32);have ur:=ME (xs:=os) (i:=i / 32) (by rw [h.len];exact hi) (nth os (i / 32)+2^(i % 32));obtain ⟨d,hd⟩:∃d:Nat,nth os (i / 32)=(d:Int):=⟨(nth os (i / 32)).toNat,by omega⟩;have hp:=Zw i;rw [hd] at ur hu a ⊢;rw [jc] at hu ur;have e1:(d:Int)+2^(i % 32)=((d+2^(i % 32):Nat):Int):=by rw [lI,k9]
 rw [e1,jc] at ur;rw [e1];rw [<- hu] at hl;have hw:(0:Int)<=((d+2^(i % 32):Nat):Int)∧((d+2^(i % 32):Nat):Int)<4294967296:=by
  generalize d+2^(i % 32)=W at*
  omega
 refine ⟨⟨by rw [fW];exact h.len,h.ok.set _ hw.1 hw.2,?_⟩,by omega,hw.2,(u:Int),by omega,?_⟩
 . have hv:=h.val
   rw [((Gf N hV i).1 hs).1,bO,aq 2,dA,bN];rw [kY,aq (2^i) 2] at hv;rw [ak,<- hp] at ur;rw [show N / 2^(i+1)=N / (2*2^i) by rw [kY,aq]];omega
 . rw [hu,sr,k9]
def Gj (w:World) (n m X Y:Nat) (e:Ending) (w':World):Prop:=
 ∃A1 k1 c1 l1 A2 k2 c2 l2,e=.returned (.tuple #[.slice A1 k1 c1,.slice A2 k2 c2,.int .i64 0])∧k1<=c1∧c1<=9223372036854775807∧k1<=n∧aD w' A1 k1 l1∧bY l1∧limbs l1=X / Y∧k2<=c2∧c2<=9223372036854775807∧k2<=m∧aD w' A2 k2 l2∧bY l2∧limbs l2=X % Y∧Below w.heap.size w w'
def ahe {e:Nat}(h0:0<=x) (h1:x<4294967296):bits .and .u64 (x / 2^e) 1=((x.toNat / 2^e % 2:Nat):Int):=by
 obtain ⟨n,rfl⟩:=JR h0;have h2:n / 2^e<=n:=Nat.div_le_self _ _;have e1:(n:Int) / 2^e=((n / 2^e:Nat):Int):=by rw [Qz,k9]
 have e2:=u64_and_nat (n / 2^e) 1 (by omega) (by omega);rw [e1,jc];have e3:((1:Nat):Int)=1:=rfl;rw [e3] at e2;rw [e2,Nat.and_one_is_mod]
def aoR (A B:Option Addr) (n m c d:Nat) (xs ys:List Int) (w:World) (hx:aD w A n xs) (hy:aD w B m ys) (hn:n<=4000000000000) (hm:m<=4000000000000) (hY:0<limbs ys):
 aB 128 #[.slice A n c,.slice B m d] w (Gj w n m (limbs xs) (limbs ys)):=by
 obtain ⟨i0,hi,jE,jD,jJ⟩:=eG fN;have Cb:=aA (qV B m d ys w hy (by omega));have Ca:=aA (fun W (h:Below w.heap.size w W)=>qV A n c xs W (hx.aC h) (by omega));have aBB:Hid (limbs xs<2^(64*n)):=by have:=dc hx.ok;rwa [hx.len] at this
 have aBA:Hid (limbs ys<2^(64*m)):=by have:=dc hy.ok;rwa [hy.len] at this
 have HY:=aA hY;clear hx hy hY;generalize limbs xs=X at*
 generalize limbs ys=Y at*
 go_enter func128,ntmps128
 go_wp2_with fail
 refine Cb.o.mono ?_;rintro e w1 ⟨A2,n2,c2,es,rfl,p1,p2,p3,p4,p5,p6,p7⟩;have hn2:0<n2:=by
  rcases jM n2 with h | h
  . have h1:=p5.kN.2 (by rw [p4.len];exact h)
    have:=HY.o;omega
  . exact h
 have aJT:¬(n2:Int)=0:=by omega
 have Ca1:=aA (Ca.o w1 p7);have P4:=aA p4;have P5:=aA p5;have P6:=aA p6;have P7:=aA p7;clear p4 p5 p6 p7;go_wp2_with fail
 refine Ca1.o.mono ?_;rintro e w2 ⟨A1,L,c1,ds,rfl,q1,q2,q3,q4,q5,q6,q7⟩;have wI:=aA (P7.o.tm q7);have Hy:=aA (P4.o.aC q7);have Hx:=aA q4;have Hdx:=aA q5.ok;have Hpy:=aA P5.o;have Hvy:=aA P6.o;have Hvx:=aA q6;have HL:Hid (X<4294967296^L):=by have:=Rk q5.ok;rwa [q6,q4.len] at this
 clear q4 q5 q6 q7 P4 P5 P6 P7 Ca Cb Ca1;have KI:=iQ underlying39 hi jE jD jJ L (by omega) w2;have CH:Hid (iJ (w2.alloc (.cells (bI (List.replicate L 0)).toArray 38)) w2.heap.size 38 (List.replicate L 0)):=iJ.new w2 _ _;have zj:=yH.zero (V:=Y) HL.o;have vh:Hid (yH X Y L (32*L) (List.replicate L 0)):=zj.1;have Vy:Hid (v32 []=X / 2^(32*L) % Y):=by show _=_;rw [zj.2];rfl
 have rF:Hid (Below w2.heap.size w2 (w2.alloc (.cells (bI (List.replicate L 0)).toArray 38))):=aU.alloc aL _;have hp0:Hid (Y9 []):=⟨fZ.nil,fun h=>absurd h (by simp)⟩;clear zj;generalize List.replicate L (0:Int)=R0 at*
 have axj:Hid (IntKind.i64.wrap (32*(L:Int))=32*(L:Int)):=bP _ (by omega);go_wp2_with fail
 clear KI;go_loopw [10,11] (fun rv i wr=>∃(I:Nat) (z:Int) (Ar:Option Addr) (kr cr:Nat) (rs os:List Int),I<=32*L∧Hid (z=(I:Int)-1)∧i=.int .i64 z∧rv=.slice Ar kr cr∧kr<=cr∧cr<=9223372036854775807∧kr<=n2∧Hid (aD wr Ar kr rs)∧Hid (Y9 rs)∧Hid (v32 rs=X / 2^I % Y)∧Hid (iJ wr w2.heap.size 38 os)∧Hid (yH X Y L I os)∧Hid (Below w2.heap.size w2 wr)) (fun _ i _=>(intOf i+1).toNat)
 case atStart=>exact ⟨32*L,_,none,0,0,[],R0,aL,by show _=_;rw [show ((32*L:Nat):Int)=32*(L:Int) by omega],rfl,rfl,by omega,by omega,by omega,aD.nil _ _,hp0,Vy,CH,vh,rF⟩
 case round=>
  clear CH vh Vy rF hp0;obtain ⟨I,z,Ar,kr,cr,rs,os,hI,hz,rfl,rfl,hkc,hcr,hkn,V5,Sw,hvr,fM,WA,hbO⟩:=hrel;obtain ⟨wo,rfl⟩:∃wo:World,wo=wr:=⟨_,rfl⟩;cases I with
  | zero=>
    obtain rfl:z= -1:=hz.o;have RX:=WA.o.len;have hL:=fM.o.limbs WA.o.ok.lm;rw [RX] at hL;have hvq:=WA.o.val;rw [wQ,bl,Nat.div_one] at hvq;have akM:=hvr.o;rw [wQ,Nat.div_one] at akM;have Cq:=BQ (some ⟨w2.heap.size,0,none⟩) L L os wo hL WA.o.ok (by omega);rw [hvq] at Cq;have CQ:=aA Cq;have Cr:=aA (fun W (h:Below wo.heap.size wo W)=>BQ Ar kr cr rs W (V5.o.aC h) Sw.o.ok (by omega));rw [akM] at Cr;clear Cq hL hvq akM RX;(go_wp2_with fail);refine CQ.o.mono ?_;intro e w3 h;obtain ⟨A3,k3,c3,l3,rfl,g1,g2,g3,g4,g5,g6,g7⟩:=h.len (aR (Nat.div_le_self _ _) aBB.o);have Cr3:=aA (Cr.o w3 g7);have G4:=aA g4;have G5:=aA g5;have G6:=aA g6;have G7:=aA g7;clear g4 g5 g6 g7 h;(go_wp2_with fail);refine Cr3.o.mono ?_;intro e w4 h;obtain ⟨A4,k4,c4,l4,rfl,f1,f2,f3,f4,f5,f6,f7⟩:=h.len (iE (jy _ HY.o) (oy aBA.o));have F:Hid (Gj w n m X Y (.returned (.tuple #[.slice A3 k3 c3,.slice A4 k4 c4,.int .i64 0])) w4):=
     ⟨A3,k3,c3,l3,A4,k4,c4,l4,rfl,g1,g2,g3,G4.o.aC f7,G5.o,G6.o,f1,f2,f3,f4,f5,f6,wI.o.trans ((hbO.o.trans ((G7.o.tm f7).mono hbO.o.size)).mono wI.o.size)⟩
    clear f4 f5 f6 f7 h;go_wp2_with fail
    (try simp only [Exit.inBlock,Exit.then]);refine bK (Ni rfl _ _ _) rfl ?_
    exact F.o
  | succ i=>
    (obtain rfl:z=(i:Int):=by have:=hz.o;omega);obtain ⟨j,hj⟩:∃j,j=i / 32:=⟨_,rfl⟩;obtain ⟨e,he⟩:∃e,e=i % 32:=⟨_,rfl⟩;(have hjL:j<L:=by omega);(have aKH:(j:Int)<(L:Int):=by omega);(have aLh:e<32:=by omega);(have rT:(0:Int)<=(i:Int):=by omega);(have RY:(0:Int)<=(j:Int):=by omega);(have he0:(0:Int)<=(e:Int):=by omega);(have he1:¬(e:Int)<0:=by omega);(have td:(i:Int).tdiv 32=(j:Int):=by rw [Qx (by omega)];omega);(have tm:(i:Int).tmod 32=(e:Int):=by rw [Wc (by omega)];omega);obtain ⟨b,o,rfl,hb,hc⟩:=Hx.o.at_ (by omega);have LQ:wo.cell? ⟨b,o+j,none⟩=some (.int .u64 (nth ds j)):=(hbO.o.cell (p:=⟨b,o+j,none⟩) hb).trans (hc j hjL);have hxb:=Hdx.o j;have alR:=ahd Hdx.o i;rw [Hvx.o,<- hj,<- he] at alR;have nH:=ahe (e:=e) hxb.1 hxb.2;rw [alR] at nH;obtain ⟨bt,NJ⟩:∃bt,bt=X / 2^i % 2:=⟨_,rfl⟩;(have arf:bt<=1:=by omega);rw [<- NJ] at nH;have Hj:=aA hj;have He:=aA he;have Yi:=aA NJ;have aNq:=aA (fun W (h:Below wo.heap.size wo W) k (hk:k<kr)=>V5.o.aC h);have Hdl:=aA (JC Sw.o.ok arf);have Hdn:=aA (Ck rs bt);have aBp:=aA Sw.o.ok;have Hdw:=aA (YW Sw.o.ok arf (n:=kr) V5.o.len);clear hc alR hj he NJ hz;(go_wp2_with fail);go_loopw [12,13,14] (fun tv cv kv wr=>∃k:Nat,k<=kr∧kv=.int .i64 k∧cv=.int .u64 ((oV rs bt k).2:Int)∧wr.ownsRow wo.heap.size 38 1 tv k (bI (oV rs bt k).1)∧Below wo.heap.size wo wr) (fun _ _ kv _=>kr-(intOf kv).toNat)
    case atStart=>exact ⟨0,by omega,rfl,rfl,nv _ _ _ _,aU⟩
    case round=>
     obtain ⟨k,hk,rfl,rfl,aa,bC⟩:=hrel;by_cases M9:k<kr
     . have alh:(k:Int)<(kr:Int):=by omega
       obtain ⟨b2,o2,rfl,cN,NH⟩:=V5.o.at_ (by omega);have CP:wr.cell? ⟨b2,o2+k,none⟩=some (.int .u64 (nth rs k)):=(bC.cell (p:=⟨b2,o2+k,none⟩) cN).trans (NH k M9);have hrk:=aBp.o k;have uF:(oV rs bt (k+1)).1=(oV rs bt k).1++[((((nth rs k).toNat*2+(oV rs bt k).2) % 4294967296:Nat):Int)]:=rfl;have vH:(oV rs bt (k+1)).2=(nth rs k).toNat / 2147483648:=rfl;have hq:=(Hdl.o k).1;generalize hD:(oV rs bt k).1=D at*
       obtain ⟨q,Jt⟩:∃q:Nat,(oV rs bt k).2=q:=⟨_,rfl⟩;rw [Jt] at uF hq ⊢;have Hs1:=aA uF;have Hs2:=aA vH;have HD:=aA hD;(have e1:IntKind.u64.wrap (nth rs k*2)=nth rs k*2:=by rw [ag];omega);(have e2:IntKind.u64.wrap (nth rs k*2+(q:Int))=nth rs k*2+(q:Int):=by rw [ag];omega);have e3:=vJ (nth rs k*2+(q:Int)) (by omega) (by omega);(have Hi1:Hid (((((nth rs k).toNat*2+q) % 4294967296:Nat):Int)=(nth rs k*2+(q:Int)) % 4294967296):=by show _=_;omega);(have Hi2:Hid ((((nth rs k).toNat / 2147483648:Nat):Int)=nth rs k / 2147483648):=by show _=_;omega);clear uF vH hD Jt;(go_wp2_with (at_builtin;refine rG _ (by rfl) _ _ _ (by rfl) wo.heap.size 38 i0 _ 1 8 underlying39 hi jE jD jJ rfl (by omega) u12 (k) (bI (D)) (by rfl) (aa.alloc _) ⟨wr.heap.size,0,none⟩ 1 1 [.int .u64 ((nth rs k*2+(q:Int)) % 4294967296)] (by rfl) (by rfl) (gw (cs:=#[.int .u64 ((nth rs k*2+(q:Int)) % 4294967296)]) (t:=38) (fr:=(0,0)) (bM wr _)) (by simp [Value.oneCell']) (by omega) (by unfold maxLen;omega) (by omega) (by have:=bC.size;simp;omega) (wr.heap.size+1) (by simp) ?_;intro gg cap w3 jH aW gZ KJ;have nZ:=pL bC aa aW bC.size;have aLm:w3.cell? ⟨b2,o2+k,none⟩=some (.int .u64 (nth rs k)):=(nZ.cell (p:=⟨b2,o2+k,none⟩) cN).trans (NH k M9)));have bp:w3.ownsRow wo.heap.size 38 1 (.slice (some ⟨gg,0,none⟩) (k+1) cap) (k+1) (bI (oV rs bt (k+1)).1):=by
        rw [Hs1.o,fH,Hi1.o];exact jH
       have Hq:Hid (((oV rs bt (k+1)).2:Int)=nth rs k / 2147483648):=by
        show _=_;rw [Hs2.o];exact Hi2.o
       clear aW gZ jH aa;(go_wp2);go_roundw
       case rel=>exact ⟨k+1,by omega,by go_num,by rw [Hq.o],bp,nZ⟩
       case measure=>simp [intOf];omega
     . obtain rfl:k=kr:=by omega
       (have alh:¬(k:Int)<(k:Int):=by omega);have hw:=Hdw.o;rw [hvr.o] at hw;generalize hD:(oV rs bt k).1=D at*
       obtain ⟨q,Jt⟩:∃q:Nat,(oV rs bt k).2=q:=⟨_,rfl⟩;rw [Jt] at hw ⊢;obtain ⟨R,hR⟩:∃R,R=2*(X / 2^(i+1) % Y)+bt:=⟨_,rfl⟩;rw [<- hR] at hw;have HR:=aA hR;have Hw:=aA hw;clear hD Jt hw hR;(go_wp2_with (at_builtin;refine rG _ (by rfl) _ _ _ (by rfl) wo.heap.size 38 i0 _ 1 8 underlying39 hi jE jD jJ rfl (by omega) u12 (k) (bI (D)) (by rfl) (aa.alloc _) ⟨wr.heap.size,0,none⟩ 1 1 [.int .u64 ((q:Int))] (by rfl) (by rfl) (gw (cs:=#[.int .u64 ((q:Int))]) (t:=38) (fr:=(0,0)) (bM wr _)) (by simp [Value.oneCell']) (by omega) (by unfold maxLen;omega) (by omega) (by have:=bC.size;simp;omega) (wr.heap.size+1) (by simp) ?_;intro gg cap w3 jH aW gZ KJ));have nZ:=pL bC aa aW bC.size;(have bp:w3.ownsRow wo.heap.size 38 1 (.slice (some ⟨gg,0,none⟩) (k+1) cap) (k+1) (bI (D++[(q:Int)])):=by rw [fH];exact jH);obtain ⟨g1,g2⟩:=js bp;have sZ:=aD.ia bp Hw.o.1.lm;have Cc:=aA (Zk (some ⟨gg,0,none⟩) (k+1) cap _ w3 sZ g1 g2);obtain ⟨hp2,RU⟩:=II Hw.o.1 sZ.len;rw [Hw.o.2] at RU;have mj:=cS (D++[(q:Int)]) (k+1);have S4:=sZ.take mj;generalize cU (D++[(q:Int)]) (k+1)=kz at*
       generalize (D++[(q:Int)]).take kz=r2 at*
       (have hkz:kz<=cap:=by omega);have ahv:=aA (hbO.o.tm nZ);have HB3:=aA nZ;have adL:=aA (fM.o.aC nZ);have Cm:=Kl (some ⟨gg,0,none⟩) A2 kz n2 cap c2 r2 es w3 S4 (Hy.o.aC ahv.o) hp2.ok Hpy.o.ok (by omega) (by omega);rw [RU,Hvy.o] at Cm;have Hp2:=aA hp2;have Hv2:=aA RU;have ahu:=aA S4;clear aW gZ jH aa bp sZ nZ hp2 RU S4 fM;refine Cc.o.mono ?_;rintro ee w' ⟨rfl,rfl⟩;by_cases xC:Y<=R
       . obtain ⟨r,hr,CH⟩:∃r:Int,ji R Y=r∧0<=r:=⟨_,rfl,by unfold ji;rw [aY (by omega)];split<;>omega⟩
         rw [hr] at Cm;have CM:=aA Cm;have Cl:=VM (some ⟨gg,0,none⟩) A2 kz n2 cap c2 r2 es w' ahu.o (Hy.o.aC ahv.o) Hp2.o.ok Hpy.o.ok (by omega) (by have h:=Hp2.o.bV Hpy.o (by rw [Hv2.o,Hvy.o];exact xC);rw [ahu.o.len,(Hy.o).len] at h;exact h) (by rw [Hv2.o,Hvy.o];exact xC);rw [Hv2.o,Hvy.o] at Cl;have CL:=aA Cl;(have hs:Y<=2*(X / 2^(i+1) % Y)+X / 2^i % 2:=by rw [<- Yi.o,<- HR.o];exact xC);have Hrv:Hid (R-Y=X / 2^i % Y):=by
          show _=_;rw [((Gf X HY.o i).1 hs).2,HR.o,Yi.o]
         obtain ⟨d1,d2,d3,u,d4,d5⟩:=WA.o.put HY.o hs (by rw [<- Hj.o];exact hjL);rw [<- Hj.o,<- He.o] at d1 d3 d5;rw [<- Hj.o] at d2;have hoj:=WA.o.len;have hor:bits .or .u64 (nth os j) (2^e)=nth os j+2^e:=by
          have hp1:(2:Int)^e=((2^e:Nat):Int):=(k9 e).symm;have hp2:(2:Nat)^(e+1)=2^e*2:=kY ..;have hp3:(2:Int)^(e+1)=((2^(e+1):Nat):Int):=(k9 (e+1)).symm;have hp4:=lJ e;rw [d5] at d3 ⊢;refine zT d4 ?_ ?_ ?_ ?_
          . rw [hp1];omega
          . rw [hp1,hp3,hp2];omega
          . rw [hp1] at d3;omega
          . rw [hp1]
            have:(0:Int)<=u*2^(e+1):=yC d4 (by rw [hp3];omega);rw [hp1] at d3;omega
         have GH:IntKind.u64.wrap (2^e)=2^e:=by
          have hp1:(2:Int)^e=((2^e:Nat):Int):=(k9 e).symm;have h31:2^e<=2^31:=fP (by omega) (by omega);rw [ag,hp1];generalize 2^e=pe at*
          omega
         (have aJC:IntKind.u64.wrap (1*2^e)=2^e:=by rw [Jc];exact GH);have D1:=aA d1;clear d1 d3 d5 hs hr Cm Cl;(go_wp2_with fail);refine CM.o.mono ?_;rintro ee w5 ⟨rfl,rfl⟩;(go_wp2_with fail);refine CL.o.mono ?_;rintro ee w4 ⟨A5,k5,c5,r5,rfl,f1,f2,f3,f4,f5,f6,f8,f7⟩;have Wm:=adL.o.aC f7;have hcq:=Wm.cell (i:=j) (by rw [hoj];exact hjL);have hfq:=Wm.frozen j;have yD:=aA (Wm.set j (nth os j+2^e));have aBK:=aA (ahv.o.tm f7);have Hbs:Hid (∀nq,Below w2.heap.size w2 ((w4.drewN nq).setCell ⟨w2.heap.size,j,none⟩ (.int .u64 (nth os j+2^e)))):=fun nq=>(below_drewN aBK.o nq).setCell (p:=⟨w2.heap.size,j,none⟩) aL _;have F4:=aA f4;have F5:=aA f5;have F6:=aA (f6.trans Hrv.o);have hk5:k5<=n2:=by
          have h:=Hpy.o.bV f5 (by rw [f6,Hrv.o,Hvy.o];exact oy (jy _ HY.o));rw [f4.len,Hy.o.len] at h;exact h
         have aKf:=adL.o.lt;have ati:Hid (∀v,aD (w4.setCell ⟨w2.heap.size,j,none⟩ v) A5 k5 r5):=fun v=>f4.only ((Only.refl (fun b=>b=w2.heap.size) w4).setCell (p:=⟨w2.heap.size,j,none⟩) rfl v) (fun y hy e=>by have:=f8 y hy;omega);generalize nth os j+2^e=dv at*
         generalize nth os j=dw at*
         clear f4 f5 f6 f7 Wm;(go_wp2_with fail);go_region
         have Hkp:=aA ((ati.o (.int .u64 dv)).drew);(go_wp2_with fail);go_roundw
         case rel=>exact ⟨i,(i:Int)-1,A5,k5,c5,r5,_,by omega,rfl,by go_num,rfl,f1,f2,hk5,Hkp,F5,F6,yD,D1,(Hbs.o 0).drew⟩
         case measure=>simp [intOf]<;>omega
       . have hr:ji R Y= -1:=by unfold ji;rw [aM (by omega)]
         rw [hr] at Cm;have CM:=aA Cm;(have hs:¬Y<=2*(X / 2^(i+1) % Y)+X / 2^i % 2:=by rw [<- Yi.o,<- HR.o];exact xC);have Hrv:Hid (v32 r2=X / 2^i % Y):=by
          show _=_;rw [((Gf X HY.o i).2 hs).2,Hv2.o,HR.o,Yi.o]
         have Hst:=aA (WA.o.stay HY.o hs);have hk5:kz<=n2:=by
          have h:=Hpy.o.bV Hp2.o (by rw [Hrv.o,Hvy.o];exact oy (jy _ HY.o));rw [ahu.o.len,Hy.o.len] at h;exact h
         clear hs hr Cm;(go_wp2_with fail);refine CM.o.mono ?_;rintro ee w5 ⟨rfl,rfl⟩;(go_wp2_with fail);go_roundw
         case rel=>exact ⟨i,(i:Int)-1,some ⟨gg,0,none⟩,kz,cap,r2,os,by omega,rfl,by go_num,rfl,hkz,g2,hk5,ahu,Hp2,Hrv,adL,Hst,ahv⟩
         case measure=>simp [intOf]<;>omega
