/- Plain facts for divisions of naturals: a digit, a guess, limbs moved by bits.
   Contract: bits.Div64, whole: quotient and rest of two limbs by one (printed by gen/div64.py).
   Contract: nat.short: a natural by one limb.
   Contract: nat.guess: how often the highest limbs of a divisor go into three limbs, at most (printed by gen/guess.py). -/
import Derived.Test.YtehcoffbiplphaaGreatSLen64
import Derived.Laws.BitsAllLaws
import Derived.Laws.Bits64b
import Derived.Test.YtehcoffbiplphaaGreatSNatA
set_option linter.unusedVariables false
set_option linter.unusedSimpArgs false
set_option maxHeartbeats 4000000
set_option maxRecDepth 100000
namespace Cl
theorem dig_id {b Y y1 y0 u q r:Nat}(hY:Y=y1*b+y0) (hu:q*y1+r=u):q*Y+r*b=u*b+q*y0:=by
 subst hY;subst hu
 rw [Nat.mul_add,Nat.add_mul,Nat.mul_assoc]
 omega
theorem dig_next {y1 u q r:Nat}(hu:q*y1+r=u) (hq:0<q):(q - 1)*y1+(r+y1)=u:=by
 obtain ⟨k,rfl⟩:∃k,q=k+1:=⟨q - 1,by omega⟩
 rw [Nat.add_sub_cancel]
 rw [Nat.add_mul] at hu
 omega
theorem dig_start {b Y y1 y0 u c:Nat}(hY:Y=y1*b+y0) (h1:0<y1) (hc:c<b):u*b+c<(u / y1+1)*Y:=by
 have h2:u<(u / y1+1)*y1:=by
  have:=Nat.div_add_mod u y1;have:=Nat.mod_lt u h1;rw [Nat.add_mul,Nat.mul_comm (u / y1) y1];omega
 have h3:(u+1)*b≤(u / y1+1)*y1*b:=Nat.mul_le_mul_right b h2
 have h4:(u / y1+1)*y1*b≤(u / y1+1)*Y:=by
  rw [Nat.mul_assoc];exact Nat.mul_le_mul_left _ (by omega)
 rw [Nat.add_mul] at h3
 omega
theorem dig_done {X q Y:Nat}(h1:q*Y≤X) (h2:X<(q+1)*Y):X / Y=q∧X - q*Y=X % Y:=by
 have hY:0<Y:=by
  rcases Nat.eq_zero_or_pos Y with h0 | h0
  · subst h0;omega
  · exact h0
 have h3:X / Y=q:=by
  apply Nat.le_antisymm
  · have:=(Nat.div_lt_iff_lt_mul hY).2 h2
    omega
  · exact (Nat.le_div_iff_mul_le hY).2 h1
 refine ⟨h3,?_⟩
 have:=Nat.div_add_mod X Y
 rw [h3,Nat.mul_comm Y q] at this
 omega
theorem dig_lt {b Y u c:Nat}(hc:c<b) (huY:u<Y):(u*b+c) / Y<b:=by
 have hY:0<Y:=by omega
 rw [Nat.div_lt_iff_lt_mul hY]
 have h1:(u+1)*b≤Y*b:=Nat.mul_le_mul_right b huY
 rw [Nat.add_mul,Nat.mul_comm Y b] at h1
 omega
theorem div_moved (a b:Nat) {s:Nat}(hs:0<s):a*s / (b*s)=a / b∧a*s % (b*s) / s=a % b:=by
 refine ⟨Nat.mul_div_mul_right a b hs,?_⟩
 rw [Nat.mul_mod_mul_right,Nat.mul_div_cancel _ hs]
theorem guess_top {V P v u E q:Nat}(hv:v*E≤V) (hu:P<(u+1)*E) (h:q*V≤P):q*v≤u:=by
 have h1:q*v*E≤q*V:=by rw [Nat.mul_assoc];exact Nat.mul_le_mul_left q hv
 have h2:q*v*E<(u+1)*E:=by omega
 have:=Nat.lt_of_mul_lt_mul_right h2
 omega
theorem guess_on {B v1 v0 u2 u1 u0 q r:Nat}(hr:q*v1+r=u2*B+u1) (h:r*B+u0<q*v0):(u2*B+u1)*B+u0<q*(v1*B+v0):=by
 have:=dig_id (b:=B) (Y:=v1*B+v0) rfl hr
 omega
theorem le_pred_of {X q q' V:Nat}(h:X<q*V) (h':q'*V≤X):q'≤q - 1:=by
 have:q'<q:=Nat.lt_of_mul_lt_mul_right (Nat.lt_of_le_of_lt h' h)
 omega
end Cl
namespace Go.Proofs.YtehcoffbiplphaaGreat
open Go.RowKit Cl
attribute [local go_sem ↓] Go.wp_at_zero Go.wp_at_succ
theorem bits_lz64 (x:Int) (w:World) (h0:0≤x) (h1:x≤18446744073709551615) (k:Nat) (hk:Lib.bitLen x.toNat=k) (hk2:k≤64):
 Calls Tryz.prog 114 #[.int .u64 x] w fun e w'=>e=.returned (.int .i64 ((64 - k:Nat):Int))∧w'=w:=by
 have C:=hiD (bits_len64 x w h0 h1)
 rw [hk] at C
 clear h0 h1 hk
 go_enter Tryz.func114,Tryz.ntmps114
 go_wp2_with fail
 refine C.out.mono ?_
 rintro e w' ⟨rfl,rfl⟩
 have e1:IntKind.i64.wrap (64 - (k:Int))=((64 - k:Nat):Int):=by rw [IntWalk.i64_in _ (by omega)];omega
 go_wp2_with fail
 go_ret
 exact ⟨rfl,rfl⟩
structure Dh (Y y1 y0:Int):Prop where
 eq:Y=y1*4294967296+y0
 h1:2147483648≤y1
 h1':y1<4294967296
 h0:0≤y0
 h0':y0<4294967296
structure Du (Y u c:Int):Prop where
 u0:0≤u
 u1:u<Y
 c0:0≤c
 c1:c<4294967296
structure Dg (Y y1 y0 u c q r:Int):Prop where
 du:Du Y u c
 q0:0≤q
 r0:0≤r
 eq:q*y1+r=u
 big:u*4294967296+c<(q+1)*Y
 cap:q≤4294967297
 rb:r<4294967296
structure Dn (Y u c q:Int):Prop where
 du:Du Y u c
 eq:q=(u*4294967296+c) / Y
theorem u64_wrap_eq (x:Int):IntKind.u64.wrap x=x % 18446744073709551616:=by
 simp [IntKind.wrap,IntKind.bits,IntKind.signed]
theorem Dn.of {Y u c q:Int}(h:Du Y u c) (h1:q*Y≤u*4294967296+c) (h2:u*4294967296+c<(q+1)*Y):Dn Y u c q:=by
 have hY:0<Y:=by have:=h.u0;have:=h.u1;omega
 refine ⟨h,?_⟩
 apply Int.le_antisymm
 · exact (Int.le_ediv_iff_mul_le hY).2 h1
 · have:=(Int.ediv_lt_iff_lt_mul hY).2 h2
   omega
theorem Dg.id {Y y1 y0 u c q r:Int}(H:Dh Y y1 y0) (h:Dg Y y1 y0 u c q r):q*Y+r*4294967296=u*4294967296+q*y0:=by
 rw [H.eq,← h.eq,Int.mul_add,Int.add_mul,Int.mul_assoc]
 omega
theorem mul_le_b {a b:Int}(h0:0≤a) (h1:a≤4294967296) (h2:0≤b) (h3:b≤4294967295):0≤a*b∧a*b≤4294967296*4294967295:=
 ⟨Int.mul_nonneg h0 h2,Int.mul_le_mul h1 h3 h2 (by omega)⟩
theorem Dg.test {Y y1 y0 u c q r:Int}(H:Dh Y y1 y0) (h:Dg Y y1 y0 u c q r) (hq:q<4294967296):IntKind.u64.wrap (q*y0)=q*y0∧IntKind.u64.wrap (IntKind.u64.wrap (4294967296*r)+c)=4294967296*r+c:=by
 have h1:=mul_le_b h.q0 (by omega) H.h0 (by have:=H.h0';omega)
 have h2:=h.r0
 have h3:=h.rb
 have h4:=h.du.c0
 have h5:=h.du.c1
 rw [u64_wrap_eq,u64_wrap_eq,u64_wrap_eq]
 omega
theorem Dg.stop {Y y1 y0 u c q r:Int}(h:Dg Y y1 y0 u c q r) (H:Dh Y y1 y0) (hq:q<4294967296) (ht:¬IntKind.u64.wrap (IntKind.u64.wrap (4294967296*r)+c)<IntKind.u64.wrap (q*y0)):Dn Y u c q:=by
 obtain ⟨e1,e2⟩:=h.test H hq
 rw [e1,e2] at ht
 have:=h.id H
 exact .of h.du (by omega) h.big
theorem Dg.less {Y y1 y0 u c q r:Int}(h:Dg Y y1 y0 u c q r) (H:Dh Y y1 y0) (ht:4294967296≤q∨IntKind.u64.wrap (IntKind.u64.wrap (4294967296*r)+c)<IntKind.u64.wrap (q*y0)):u*4294967296+c<q*Y:=by
 have h1:=h.du.c1
 have h2:=h.du.u1
 have h3:=h.id H
 by_cases hq:4294967296≤q
 · have h4:4294967296*(u+1)≤q*Y:=Int.mul_le_mul hq h2 (by have:=h.du.u0;omega) h.q0
   omega
 · obtain ⟨e1,e2⟩:=h.test H (by omega)
   rw [e1,e2] at ht;omega
theorem Dg.pos {Y y1 y0 u c q r:Int}(h:Dg Y y1 y0 u c q r) (hl:u*4294967296+c<q*Y):0<q:=by
 have h1:=h.q0
 have h2:=h.du.c0
 have h3:=h.du.u0
 by_cases h4:q=0
 · subst h4;omega
 · omega
theorem Dg.next {Y y1 y0 u c q r:Int}(h:Dg Y y1 y0 u c q r) (H:Dh Y y1 y0) (ht:4294967296≤q∨IntKind.u64.wrap (IntKind.u64.wrap (4294967296*r)+c)<IntKind.u64.wrap (q*y0)):
 u*4294967296+c<q*Y∧0<q∧IntKind.u64.wrap (q - 1)=q - 1∧IntKind.u64.wrap (r+y1)=r+y1∧(q - 1)*y1+(r+y1)=u:=by
 have h1:=h.less H ht
 have h2:=h.pos h1
 have h3:=h.r0
 have h4:=h.rb
 have h5:=H.h1'
 have h6:=H.h1
 have h7:=h.cap
 have h8:=h.eq
 refine ⟨h1,h2,?_,?_,?_⟩
 · rw [u64_wrap_eq];omega
 · rw [u64_wrap_eq];omega
 · rw [Int.sub_mul];omega
theorem Dg.brk {Y y1 y0 u c q r:Int}(h:Dg Y y1 y0 u c q r) (H:Dh Y y1 y0) (ht:4294967296≤q∨IntKind.u64.wrap (IntKind.u64.wrap (4294967296*r)+c)<IntKind.u64.wrap (q*y0)) (hb:4294967296≤IntKind.u64.wrap (r+y1)):Dn Y u c (IntKind.u64.wrap (q - 1)):=by
 obtain ⟨h1,h2,h3,h4,h5⟩:=h.next H ht
 rw [h3]
 rw [h4] at hb
 refine .of h.du ?_ (by rw [Int.sub_add_cancel];exact h1)
 have h6:=mul_le_b (a:=q - 1) (b:=y0) (by omega) (by have:=h.cap;omega) H.h0 (by have:=H.h0';omega)
 have h7:(q - 1)*Y+(r+y1)*4294967296=u*4294967296+(q - 1)*y0:=by
  rw [H.eq,← h5];generalize q - 1=p;rw [Int.mul_add,Int.add_mul (p*y1) (r+y1) 4294967296,Int.mul_assoc p y1 4294967296];omega
 have h8:=h.du.c0
 have h9:4294967296*4294967296≤(r+y1)*4294967296:=Int.mul_le_mul_of_nonneg_right hb (by omega)
 omega
theorem Dg.on {Y y1 y0 u c q r:Int}(h:Dg Y y1 y0 u c q r) (H:Dh Y y1 y0) (ht:4294967296≤q∨IntKind.u64.wrap (IntKind.u64.wrap (4294967296*r)+c)<IntKind.u64.wrap (q*y0)) (hb:¬4294967296≤IntKind.u64.wrap (r+y1)):Dg Y y1 y0 u c (IntKind.u64.wrap (q - 1)) (IntKind.u64.wrap (r+y1))∧(IntKind.u64.wrap (q - 1)).toNat<q.toNat:=by
 obtain ⟨h1,h2,h3,h4,h5⟩:=h.next H ht
 rw [h3]
 rw [h4] at hb ⊢
 exact ⟨⟨h.du,by omega,by have:=h.r0;have:=H.h1;omega,h5,by rw [Int.sub_add_cancel];exact h1,by have:=h.cap;omega,by omega⟩,by omega⟩
theorem Dg.start {Y y1 y0 u c:Int}(h:Du Y u c) (H:Dh Y y1 y0):Dg Y y1 y0 u c (IntKind.u64.wrap (u.tdiv y1)) (IntKind.u64.wrap (u - IntKind.u64.wrap (IntKind.u64.wrap (u.tdiv y1)*y1))):=by
 have h0:=h.u0
 have h1:=h.u1
 have h2:=H.h1
 have h3:=H.h1'
 have h4:=H.eq
 have h5:=H.h0'
 have h6:=H.h0
 have hu:u<18446744073709551616:=by omega
 have hq0:0≤u / y1:=Int.ediv_nonneg h0 (by omega)
 have hq1:u / y1≤u:=Int.ediv_le_self _ h0
 have e1:IntKind.u64.wrap (u.tdiv y1)=u / y1:=by
  rw [Int.tdiv_eq_ediv_of_nonneg h0,u64_wrap_eq];omega
 have e2:=Int.mul_ediv_add_emod u y1
 have e3:=Int.emod_nonneg u (b:=y1) (by omega)
 have e4:=Int.emod_lt_of_pos u (b:=y1) (by omega)
 rw [Int.mul_comm] at e2
 have e5:0≤u / y1*y1:=Int.mul_nonneg hq0 (by omega)
 have e6:IntKind.u64.wrap (u / y1*y1)=u / y1*y1:=by rw [u64_wrap_eq];omega
 have e7:IntKind.u64.wrap (u - u / y1*y1)=u % y1:=by rw [u64_wrap_eq];omega
 rw [e1,e6,e7]
 refine ⟨h,hq0,e3,e2,?_,?_,by omega⟩
 · have h7:u+1≤(u / y1+1)*y1:=by rw [Int.add_mul];omega
   have h8:(u+1)*4294967296≤(u / y1+1)*y1*4294967296:=Int.mul_le_mul_of_nonneg_right h7 (by omega);have h9:(u / y1+1)*y1*4294967296≤(u / y1+1)*Y:=by
    rw [Int.mul_assoc];exact Int.mul_le_mul_of_nonneg_left (by omega) (by omega)
   have:=h.c1;omega
 · have h7:u<(4294967298)*y1:=by omega
   have:=(Int.ediv_lt_iff_lt_mul (by omega)).2 h7;omega
theorem Dn.lt {Y u c q:Int}(h:Dn Y u c q):0≤q∧q<4294967296:=by
 have h1:=h.du.u0
 have h2:=h.du.u1
 have h3:=h.du.c0
 have h4:=h.du.c1
 rw [h.eq]
 refine ⟨Int.ediv_nonneg (by omega) (by omega),?_⟩
 rw [Int.ediv_lt_iff_lt_mul (by omega)]
 omega
theorem Dn.rest {Y u c q:Int}(h:Dn Y u c q) (hY:Y<18446744073709551616):IntKind.u64.wrap (IntKind.u64.wrap (IntKind.u64.wrap (u*4294967296)+c) - IntKind.u64.wrap (q*Y))=(u*4294967296+c) % Y:=by
 have h1:=h.du.u0
 have h2:=h.du.u1
 have e1:=Int.mul_ediv_add_emod (u*4294967296+c) Y
 have e3:=Int.emod_nonneg (u*4294967296+c) (b:=Y) (by omega)
 have e4:=Int.emod_lt_of_pos (u*4294967296+c) (b:=Y) (by omega)
 rw [← h.eq,Int.mul_comm] at e1
 rw [u64_wrap_eq,u64_wrap_eq,u64_wrap_eq,u64_wrap_eq]
 omega
structure Dz (hi lo y:Int) (s:Nat) (Y u c1 c0:Int):Prop where
 eY:Y=y*2^s
 Y1:Y<18446744073709551616
 du:Du Y u c1
 z0:0≤c0
 z1:c0<4294967296
 eq:(u*4294967296+c1)*4294967296+c0=(hi*18446744073709551616+lo)*2^s
theorem cast_two_pow (s:Nat):((2^s:Nat):Int)=2^s:=Int.natCast_pow 2 s
theorem two_pow_pos_int (s:Nat):(0:Int)<2^s:=Int.pow_pos (by omega)
theorem Dz.final {hi lo y:Int} {s:Nat} {Y u c1 c0 q1 r q0:Int}(h:Dz hi lo y s Y u c1 c0) (h1:Dn Y u c1 q1) (hr:(u*4294967296+c1) % Y=r) (h2:Dn Y r c0 q0):
 IntKind.u64.wrap (IntKind.u64.wrap (q1*4294967296)+q0)=(hi*18446744073709551616+lo) / y∧IntKind.u64.wrap (IntKind.u64.wrap (IntKind.u64.wrap (r*4294967296)+c0) - IntKind.u64.wrap (q0*Y)) / 2^s=(hi*18446744073709551616+lo) % y:=by
 obtain ⟨l1,l2⟩:=h1.lt
 obtain ⟨l3,l4⟩:=h2.lt
 have hP:=two_pow_pos_int s
 have hY:0<Y:=by have:=h1.du.u0;have:=h1.du.u1;omega
 rw [h2.rest h.Y1]
 have e0:IntKind.u64.wrap (IntKind.u64.wrap (q1*4294967296)+q0)=q1*4294967296+q0:=by rw [u64_wrap_eq,u64_wrap_eq];omega
 rw [e0]
 have e1:=Int.mul_ediv_add_emod (u*4294967296+c1) Y
 have e2:=Int.mul_ediv_add_emod (r*4294967296+c0) Y
 have e3:=Int.emod_nonneg (r*4294967296+c0) (b:=Y) (by omega)
 have e4:=Int.emod_lt_of_pos (r*4294967296+c0) hY
 rw [← h1.eq,hr] at e1
 rw [← h2.eq] at e2
 have e5:=h.eq
 have e6:=h.eY
 generalize (r*4294967296+c0) % Y=ρ at*
 generalize hi*18446744073709551616+lo=N at*
 have e7:y*(q1*4294967296+q0)*2^s+ρ=N*2^s:=by
  rw [← e5,← e1,Int.mul_right_comm,← e6,Int.mul_add,Int.add_mul,← Int.mul_assoc];omega
 have e8:ρ=(N - y*(q1*4294967296+q0))*2^s:=by rw [Int.sub_mul];omega
 have hy:0<y:=by
  rcases Int.lt_or_le 0 y with h0 | h0
  · exact h0
  · exfalso
    have:y*2^s≤0:=Int.mul_nonpos_of_nonpos_of_nonneg h0 (by omega);omega
 have e9:ρ / 2^s=N - y*(q1*4294967296+q0):=by rw [e8,Int.mul_ediv_cancel _ (by omega)]
 have t0:0≤N - y*(q1*4294967296+q0):=by rw [← e9];exact Int.ediv_nonneg e3 (by omega)
 have t1:N - y*(q1*4294967296+q0)<y:=by
  rw [← e9];rw [Int.ediv_lt_iff_lt_mul hP,← e6];exact e4
 rw [e9]
 obtain ⟨f1,f2⟩:=(Int.ediv_emod_unique hy (a:=N) (q:=q1*4294967296+q0) (r:=N - y*(q1*4294967296+q0))).2 ⟨by omega,t0,t1⟩
 exact ⟨f1.symm,f2.symm⟩
theorem Dz.du2 {hi lo y:Int} {s:Nat} {Y u c1 c0 r:Int}(h:Dz hi lo y s Y u c1 c0) (hr:(u*4294967296+c1) % Y=r):Du Y r c0:=by
 have hY:0<Y:=by have:=h.du.u0;have:=h.du.u1;omega
 have e3:=Int.emod_nonneg (u*4294967296+c1) (b:=Y) (by omega)
 have e4:=Int.emod_lt_of_pos (u*4294967296+c1) hY
 rw [hr] at e3 e4
 exact ⟨e3,e4,h.z0,h.z1⟩
theorem u64_low (x:Int) (h0:0≤x) (h1:x<18446744073709551616):bits .and .u64 x 4294967295=x % 4294967296:=by
 obtain ⟨n,rfl⟩:=Int.eq_ofNat_of_zero_le h0
 have e:=u64_and_nat n 4294967295 (by omega) (by omega)
 have e2:((4294967295:Nat):Int)=4294967295:=rfl
 rw [e2] at e
 rw [e,show (4294967295:Nat)=2^32 - 1 by decide,Nat.and_two_pow_sub_one_eq_mod]
 omega
theorem u64_or_add {a b:Int} {s:Nat}(ha:0≤a) (hb:0≤b) (hb2:b<2^s) (h:a*2^s<18446744073709551616) (h2:b<18446744073709551616):bits .or .u64 (a*2^s) b=a*2^s+b:=by
 obtain ⟨m,rfl⟩:=Int.eq_ofNat_of_zero_le ha
 obtain ⟨n,rfl⟩:=Int.eq_ofNat_of_zero_le hb
 have e1:((m:Int)*2^s)=((2^s*m:Nat):Int):=by rw [Int.natCast_mul,cast_two_pow,Int.mul_comm]
 rw [e1] at h ⊢
 have hb3:n<2^s:=by rw [← cast_two_pow] at hb2;exact Int.ofNat_lt.1 hb2
 rw [u64_or_nat _ _ (by omega) (by omega),← Nat.two_pow_add_eq_or_of_lt hb3,Int.natCast_add]
theorem dz_of {hi lo y:Int} {k s:Nat}(h0:0≤hi) (h1:hi<y) (h2:0≤lo) (h3:lo<18446744073709551616) (h4:y<18446744073709551616) (hk:Lib.bitLen y.toNat=k) (hs:64 - k=s) (hk2:k≤64) {Y u L c1 c0:Int}
 (eY:IntKind.u64.wrap (y*2^s)=Y) (eu:bits .or .u64 (IntKind.u64.wrap (hi*2^s)) (lo / 2^(64 - s))=u) (eL:IntKind.u64.wrap (lo*2^s)=L) (e1:L / 4294967296=c1) (e0:bits .and .u64 L 4294967295=c0):
 Dz hi lo y s Y u c1 c0∧Dh Y (Y / 4294967296) (bits .and .u64 Y 4294967295)∧s≤63:=by
 have hk1:0<k:=by
  rcases Nat.eq_zero_or_pos k with h | h
  · have:=lt_bitLen (x:=y.toNat) (by omega)
    rw [hk,h] at this;omega
  · exact h
 have hs63:s≤63:=by omega
 have hP:=two_pow_pos_int s
 have hR:=two_pow_pos_int (64 - s)
 have hPR:(2:Int)^s*2^(64 - s)=18446744073709551616:=by
  rw [← Int.pow_add,show s+(64 - s)=64 by omega];rfl
 have hyR:y<2^(64 - s):=by
  have:=lt_bitLen (x:=y.toNat) (by omega);rw [hk,show k=64 - s by omega] at this;have h5:((y.toNat:Nat):Int)<((2^(64 - s):Nat):Int):=by exact_mod_cast this
  rw [cast_two_pow] at h5;omega
 have hyL:2^(63 - s)≤y:=by
  rcases Int.lt_or_le y (2^(63 - s)) with h | h
  · exfalso
    have h5:y.toNat<2^(63 - s):=by
     (have:((y.toNat:Nat):Int)<((2^(63 - s):Nat):Int):=by rw [cast_two_pow];omega);exact_mod_cast this
    have:=Lib.bitLen_le y.toNat (63 - s) (by omega) h5;omega
  · exact h
 have hY1:y*2^s<18446744073709551616:=by
  rw [← hPR,Int.mul_comm];exact Int.mul_lt_mul_of_pos_left hyR hP
 have hY0:9223372036854775808≤y*2^s:=by
  have h5:(2:Int)^(63 - s)*2^s≤y*2^s:=Int.mul_le_mul_of_nonneg_right hyL (by omega);rw [← Int.pow_add,show 63 - s+s=63 by omega] at h5;exact h5
 have hy0:0≤y*2^s:=by omega
 have hh0:0≤hi*2^s:=Int.mul_nonneg h0 (by omega)
 have hh1:(hi+1)*2^s≤y*2^s:=Int.mul_le_mul_of_nonneg_right h1 (by omega)
 rw [Int.add_mul,Int.one_mul] at hh1
 have w1:IntKind.u64.wrap (y*2^s)=y*2^s:=by rw [u64_wrap_eq];omega
 have w2:IntKind.u64.wrap (hi*2^s)=hi*2^s:=by rw [u64_wrap_eq];omega
 rw [w1] at eY
 rw [w2] at eu
 rw [u64_wrap_eq] at eL
 have hl0:0≤lo / 2^(64 - s):=Int.ediv_nonneg h2 (by omega)
 have hl1:lo / 2^(64 - s)<2^s:=by rw [Int.ediv_lt_iff_lt_mul hR,hPR];exact h3
 have hl2:lo / 2^(64 - s)≤lo:=Int.ediv_le_self _ h2
 rw [u64_or_add h0 hl0 hl1 (by omega) (by omega)] at eu
 have hL0:0≤L:=by omega
 have hL1:L<18446744073709551616:=by omega
 rw [u64_low L hL0 hL1] at e0
 have hL:L=lo % 2^(64 - s)*2^s:=by
  rw [← eL,← hPR,Int.mul_comm lo,Int.mul_emod_mul_of_pos _ _ hP,Int.mul_comm]
 have e5:=Int.mul_ediv_add_emod lo (2^(64 - s))
 subst eY
 refine ⟨⟨rfl,hY1,⟨by omega,by omega,by omega,by omega⟩,by omega,by omega,?_⟩,?_,hs63⟩
 · have e6:(hi*18446744073709551616+lo)*2^s=hi*2^s*18446744073709551616+(lo / 2^(64 - s)*18446744073709551616+L):=by
    rw [hL,Int.add_mul,Int.mul_right_comm];congr 1
    rw [← hPR];have e7:lo / 2^(64 - s)*(2^s*2^(64 - s))+lo % 2^(64 - s)*2^s=(2^(64 - s)*(lo / 2^(64 - s))+lo % 2^(64 - s))*2^s:=by
     rw [Int.add_mul];congr 1
     rw [Int.mul_comm (2^s),← Int.mul_assoc,Int.mul_comm (lo / 2^(64 - s))]
    rw [e7,e5]
   rw [e6];omega
 · rw [u64_low _ hy0 hY1]
   exact ⟨by omega,by omega,by omega,by omega,by omega⟩
theorem div64 (hi lo y:Int) (w:World) (h0:0≤hi) (h1:hi<y) (h2:0≤lo) (h3:lo<18446744073709551616) (h4:y<18446744073709551616):
 Calls Tryz.prog 140 #[.int .u64 hi,.int .u64 lo,.int .u64 y] w fun e w'=>e=.returned (.tuple #[.int .u64 ((hi*18446744073709551616+lo) / y),.int .u64 ((hi*18446744073709551616+lo) % y)])∧∃j,w'=w.drewN j:=by
 by_cases hz:hi=0
 · have hy0:(y==0)=false:=by simp;omega
   have hyn:¬y=0:=by omega
   have hle:¬y≤hi:=by omega
   subst hz;rw [Int.zero_mul,Int.zero_add];have Hq:Hid (IntKind.u64.wrap (lo.tdiv y)=lo / y):=by
    show _=_;rw [Int.tdiv_eq_ediv_of_nonneg h2];exact IntWalk.u64_in _ ⟨Int.ediv_nonneg h2 (by omega),by have:=Int.ediv_le_self y h2;omega⟩
   have Hr:Hid (lo.tmod y=lo % y):=Int.tmod_eq_emod_of_nonneg h2;clear h0 h2 h3 h4;go_enter Tryz.func140,Tryz.ntmps140
   go_wp2_with fail
   go_quiet (fail)
   go_wp2_with fail
   go_ret2;refine ⟨?_,_,rfl⟩;rw [← Hq.out,← Hr.out];rfl
 · have hy0:(y==0)=false:=by simp;omega
   have hz0:(hi==0)=false:=by simp;omega
   have hle:¬y≤hi:=by omega
   obtain ⟨k,hk⟩:∃k,Lib.bitLen y.toNat=k:=⟨_,rfl⟩;have hk2:k≤64:=by rw [← hk];exact Lib.bitLen_le _ 64 (by omega) (by omega)
   have C:=hiD (bits_lz64 y w (by omega) (by omega) k hk hk2);obtain ⟨s,hs⟩:∃s,64 - k=s:=⟨_,rfl⟩;rw [hs] at C;obtain ⟨Y,eY⟩:∃Y,IntKind.u64.wrap (y*2^s)=Y:=⟨_,rfl⟩;obtain ⟨u,eu⟩:∃Y,bits .or .u64 (IntKind.u64.wrap (hi*2^s)) (lo / 2^(64 - s))=Y:=⟨_,rfl⟩;obtain ⟨L,eL⟩:∃Y,IntKind.u64.wrap (lo*2^s)=Y:=⟨_,rfl⟩;obtain ⟨c1,ec1⟩:∃Y,L / 4294967296=Y:=⟨_,rfl⟩;obtain ⟨c0,ec0⟩:∃Y,bits .and .u64 L 4294967295=Y:=⟨_,rfl⟩;obtain ⟨HZ',HH',hs63⟩:=dz_of h0 h1 h2 h3 h4 hk hs hk2 eY eu eL ec1 ec0;have HZ:=hiD HZ';obtain ⟨y1,ey1⟩:∃y1,Y / 4294967296=y1:=⟨_,rfl⟩;obtain ⟨y0,ey0⟩:∃y0,bits .and .u64 Y 4294967295=y0:=⟨_,rfl⟩;rw [ey1,ey0] at HH';have H:=hiD HH';have hy1:(y1==0)=false:=by have:=HH'.h1;simp;omega
   have hy1n:¬y1=0:=by have:=HH'.h1;omega
   have hs':IntKind.u64.wrap (s:Int)=(s:Int):=IntWalk.u64_in _ (by omega);have hs2:IntKind.u64.wrap (64 - (s:Int))=((64 - s:Nat):Int):=by rw [IntWalk.u64_in _ (by omega)];omega
   have D1:=hiD (Dg.start HZ'.du HH');have hY1:=hiD HZ'.Y1;clear HZ' HH' h0 h1 h2 h3 h4 hk hs hk2;go_enter Tryz.func140,Tryz.ntmps140
   go_wp2_with fail
   refine C.out.mono ?_;rintro e w' ⟨rfl,rfl⟩;go_wp2_with fail
   clear C;go_loopw [15,16] (fun qv rv wr=>∃q r:Int,qv=.int .u64 q∧rv=.int .u64 r∧wr=w'∧Hid (Dg Y y1 y0 u c1 q r)) (fun qv _ _=>(intOf qv).toNat)
   case atStart=>exact ⟨_,_,rfl,rfl,(by first | trivial | rfl),D1⟩
   case round=>
    obtain ⟨q,r,rfl,rfl,rfl,D⟩:=hrel;obtain ⟨t1,ht1⟩:∃t,IntKind.u64.wrap (q*y0)=t:=⟨_,rfl⟩;obtain ⟨t2,ht2⟩:∃t,IntKind.u64.wrap (4294967296*r)=t:=⟨_,rfl⟩;obtain ⟨t3,ht3⟩:∃t,IntKind.u64.wrap (t2+c1)=t:=⟨_,rfl⟩;obtain ⟨q',hq'⟩:∃t,IntKind.u64.wrap (q - 1)=t:=⟨_,rfl⟩;obtain ⟨r',hr'⟩:∃t,IntKind.u64.wrap (r+y1)=t:=⟨_,rfl⟩;have Hs:Hid (q<4294967296→¬t3<t1→Dn Y u c1 q):=fun h1 h2=>D.out.stop H.out h1 (by rw [ht1];rw [ht2,ht3];exact h2);have Hb:Hid ((4294967296≤q∨t3<t1)→4294967296≤r'→Dn Y u c1 q'):=fun h1 h2=>by
     rw [← hq'];exact D.out.brk H.out (by rw [ht1,ht2,ht3];exact h1) (by rw [hr'];exact h2)
    have Ho:Hid ((4294967296≤q∨t3<t1)→¬4294967296≤r'→Dg Y y1 y0 u c1 q' r'∧q'.toNat<q.toNat):=fun h1 h2=>by
     rw [← hq'];rw [← hr'];exact D.out.on H.out (by rw [ht1,ht2,ht3];exact h1) (by rw [hr'];exact h2)
    clear D;by_cases hge:4294967296≤q
    · have hlt':¬q<4294967296:=by omega
      by_cases hbr:4294967296≤r'
      · have DN:=hiD (Hb.out (.inl hge) hbr)
        clear Hs Hb Ho;have DN1:=DN;obtain ⟨r21,e21⟩:∃t,IntKind.u64.wrap (IntKind.u64.wrap (IntKind.u64.wrap (u*4294967296)+c1) - IntKind.u64.wrap (q'*Y))=t:=⟨_,rfl⟩;(have HR:Hid ((u*4294967296+c1) % Y=r21):=by rw [← e21];exact (DN.out.rest hY1.out).symm);have D2:=hiD (Dg.start (HZ.out.du2 HR.out) H.out);(go_wp2_with fail);clear ht1 ht2 ht3;(try clear hq');(try clear hr');(try clear hge);(try clear hlt');(try clear hgt);(try clear hbr);clear DN;go_loopw [18,16] (fun qv rv ws=>∃x r:Int,qv=.int .u64 x∧rv=.int .u64 r∧ws=wr∧Hid (Dg Y y1 y0 r21 c0 x r)) (fun qv _ _=>(intOf qv).toNat)
        case atStart=>exact ⟨_,_,rfl,rfl,(by first | trivial | rfl),D2⟩
        case round=>
         obtain ⟨x,r,rfl,rfl,rfl,D⟩:=hrel;obtain ⟨t1,ht1⟩:∃t,IntKind.u64.wrap (x*y0)=t:=⟨_,rfl⟩;obtain ⟨t2,ht2⟩:∃t,IntKind.u64.wrap (4294967296*r)=t:=⟨_,rfl⟩;obtain ⟨t3,ht3⟩:∃t,IntKind.u64.wrap (t2+c0)=t:=⟨_,rfl⟩;obtain ⟨x',hx'⟩:∃t,IntKind.u64.wrap (x - 1)=t:=⟨_,rfl⟩;obtain ⟨s',hs'⟩:∃t,IntKind.u64.wrap (r+y1)=t:=⟨_,rfl⟩;have Hs:Hid (x<4294967296→¬t3<t1→Dn Y r21 c0 x):=fun h1 h2=>D.out.stop H.out h1 (by rw [ht1];rw [ht2,ht3];exact h2);have Hb:Hid ((4294967296≤x∨t3<t1)→4294967296≤s'→Dn Y r21 c0 x'):=fun h1 h2=>by
          rw [← hx'];exact D.out.brk H.out (by rw [ht1,ht2,ht3];exact h1) (by rw [hs'];exact h2)
         have Ho:Hid ((4294967296≤x∨t3<t1)→¬4294967296≤s'→Dg Y y1 y0 r21 c0 x' s'∧x'.toNat<x.toNat):=fun h1 h2=>by
          rw [← hx'];rw [← hs'];exact D.out.on H.out (by rw [ht1,ht2,ht3];exact h1) (by rw [hs'];exact h2)
         clear D;by_cases hge:4294967296≤x
         · have hlt':¬x<4294967296:=by omega
           by_cases hbr:4294967296≤s'
           · have DN:=hiD (Hb.out (.inl hge) hbr)
             clear Hs Hb Ho;have HF:=hiD (HZ.out.final DN1.out HR.out DN.out);clear e21;(go_wp2_with fail);go_ret2;exact ⟨by rw [← HF.out.1,← HF.out.2];rfl,0,rfl⟩
           · have DO:=hiD (Ho.out (.inl hge) hbr)
             clear Hs Hb Ho;(go_wp2_with fail);go_roundw
             case rel=>exact ⟨_,_,rfl,rfl,(by first | trivial | rfl),DO.out.1⟩
             case measure=>simpa [intOf] using DO.out.2
         · have hlt':x<4294967296:=by omega
           by_cases hgt:t3<t1
           · skip
             by_cases hbr:4294967296≤s'
             · have DN:=hiD (Hb.out (.inr hgt) hbr)
               clear Hs Hb Ho;have HF:=hiD (HZ.out.final DN1.out HR.out DN.out);clear e21;(go_wp2_with fail);go_ret2;exact ⟨by rw [← HF.out.1,← HF.out.2];rfl,0,rfl⟩
             · have DO:=hiD (Ho.out (.inr hgt) hbr)
               clear Hs Hb Ho;(go_wp2_with fail);go_roundw
               case rel=>exact ⟨_,_,rfl,rfl,(by first | trivial | rfl),DO.out.1⟩
               case measure=>simpa [intOf] using DO.out.2
           · have DN:=hiD (Hs.out hlt' hgt)
             clear Hs Hb Ho hx' hs';have HF:=hiD (HZ.out.final DN1.out HR.out DN.out);clear e21;(go_wp2_with fail);go_ret2;exact ⟨by rw [← HF.out.1,← HF.out.2];rfl,0,rfl⟩
      · have DO:=hiD (Ho.out (.inl hge) hbr)
        clear Hs Hb Ho;(go_wp2_with fail);go_roundw
        case rel=>exact ⟨_,_,rfl,rfl,(by first | trivial | rfl),DO.out.1⟩
        case measure=>simpa [intOf] using DO.out.2
    · have hlt':q<4294967296:=by omega
      by_cases hgt:t3<t1
      · skip
        by_cases hbr:4294967296≤r'
        · have DN:=hiD (Hb.out (.inr hgt) hbr)
          clear Hs Hb Ho;have DN1:=DN;obtain ⟨r21,e21⟩:∃t,IntKind.u64.wrap (IntKind.u64.wrap (IntKind.u64.wrap (u*4294967296)+c1) - IntKind.u64.wrap (q'*Y))=t:=⟨_,rfl⟩;(have HR:Hid ((u*4294967296+c1) % Y=r21):=by rw [← e21];exact (DN.out.rest hY1.out).symm);have D2:=hiD (Dg.start (HZ.out.du2 HR.out) H.out);(go_wp2_with fail);clear ht1 ht2 ht3;(try clear hq');(try clear hr');(try clear hge);(try clear hlt');(try clear hgt);(try clear hbr);clear DN;go_loopw [18,16] (fun qv rv ws=>∃x r:Int,qv=.int .u64 x∧rv=.int .u64 r∧ws=wr∧Hid (Dg Y y1 y0 r21 c0 x r)) (fun qv _ _=>(intOf qv).toNat)
          case atStart=>exact ⟨_,_,rfl,rfl,(by first | trivial | rfl),D2⟩
          case round=>
           obtain ⟨x,r,rfl,rfl,rfl,D⟩:=hrel;obtain ⟨t1,ht1⟩:∃t,IntKind.u64.wrap (x*y0)=t:=⟨_,rfl⟩;obtain ⟨t2,ht2⟩:∃t,IntKind.u64.wrap (4294967296*r)=t:=⟨_,rfl⟩;obtain ⟨t3,ht3⟩:∃t,IntKind.u64.wrap (t2+c0)=t:=⟨_,rfl⟩;obtain ⟨x',hx'⟩:∃t,IntKind.u64.wrap (x - 1)=t:=⟨_,rfl⟩;obtain ⟨s',hs'⟩:∃t,IntKind.u64.wrap (r+y1)=t:=⟨_,rfl⟩;have Hs:Hid (x<4294967296→¬t3<t1→Dn Y r21 c0 x):=fun h1 h2=>D.out.stop H.out h1 (by rw [ht1];rw [ht2,ht3];exact h2);have Hb:Hid ((4294967296≤x∨t3<t1)→4294967296≤s'→Dn Y r21 c0 x'):=fun h1 h2=>by
            rw [← hx'];exact D.out.brk H.out (by rw [ht1,ht2,ht3];exact h1) (by rw [hs'];exact h2)
           have Ho:Hid ((4294967296≤x∨t3<t1)→¬4294967296≤s'→Dg Y y1 y0 r21 c0 x' s'∧x'.toNat<x.toNat):=fun h1 h2=>by
            rw [← hx'];rw [← hs'];exact D.out.on H.out (by rw [ht1,ht2,ht3];exact h1) (by rw [hs'];exact h2)
           clear D;by_cases hge:4294967296≤x
           · have hlt':¬x<4294967296:=by omega
             by_cases hbr:4294967296≤s'
             · have DN:=hiD (Hb.out (.inl hge) hbr)
               clear Hs Hb Ho;have HF:=hiD (HZ.out.final DN1.out HR.out DN.out);clear e21;(go_wp2_with fail);go_ret2;exact ⟨by rw [← HF.out.1,← HF.out.2];rfl,0,rfl⟩
             · have DO:=hiD (Ho.out (.inl hge) hbr)
               clear Hs Hb Ho;(go_wp2_with fail);go_roundw
               case rel=>exact ⟨_,_,rfl,rfl,(by first | trivial | rfl),DO.out.1⟩
               case measure=>simpa [intOf] using DO.out.2
           · have hlt':x<4294967296:=by omega
             by_cases hgt:t3<t1
             · skip
               by_cases hbr:4294967296≤s'
               · have DN:=hiD (Hb.out (.inr hgt) hbr)
                 clear Hs Hb Ho;have HF:=hiD (HZ.out.final DN1.out HR.out DN.out);clear e21;(go_wp2_with fail);go_ret2;exact ⟨by rw [← HF.out.1,← HF.out.2];rfl,0,rfl⟩
               · have DO:=hiD (Ho.out (.inr hgt) hbr)
                 clear Hs Hb Ho;(go_wp2_with fail);go_roundw
                 case rel=>exact ⟨_,_,rfl,rfl,(by first | trivial | rfl),DO.out.1⟩
                 case measure=>simpa [intOf] using DO.out.2
             · have DN:=hiD (Hs.out hlt' hgt)
               clear Hs Hb Ho hx' hs';have HF:=hiD (HZ.out.final DN1.out HR.out DN.out);clear e21;(go_wp2_with fail);go_ret2;exact ⟨by rw [← HF.out.1,← HF.out.2];rfl,0,rfl⟩
        · have DO:=hiD (Ho.out (.inr hgt) hbr)
          clear Hs Hb Ho;(go_wp2_with fail);go_roundw
          case rel=>exact ⟨_,_,rfl,rfl,(by first | trivial | rfl),DO.out.1⟩
          case measure=>simpa [intOf] using DO.out.2
      · have DN:=hiD (Hs.out hlt' hgt)
        clear Hs Hb Ho hq' hr';have DN1:=DN;obtain ⟨r21,e21⟩:∃t,IntKind.u64.wrap (IntKind.u64.wrap (IntKind.u64.wrap (u*4294967296)+c1) - IntKind.u64.wrap (q*Y))=t:=⟨_,rfl⟩;(have HR:Hid ((u*4294967296+c1) % Y=r21):=by rw [← e21];exact (DN.out.rest hY1.out).symm);have D2:=hiD (Dg.start (HZ.out.du2 HR.out) H.out);(go_wp2_with fail);clear ht1 ht2 ht3;(try clear hq');(try clear hr');(try clear hge);(try clear hlt');(try clear hgt);(try clear hbr);clear DN;go_loopw [18,16] (fun qv rv ws=>∃x r:Int,qv=.int .u64 x∧rv=.int .u64 r∧ws=wr∧Hid (Dg Y y1 y0 r21 c0 x r)) (fun qv _ _=>(intOf qv).toNat)
        case atStart=>exact ⟨_,_,rfl,rfl,(by first | trivial | rfl),D2⟩
        case round=>
         obtain ⟨x,r,rfl,rfl,rfl,D⟩:=hrel;obtain ⟨t1,ht1⟩:∃t,IntKind.u64.wrap (x*y0)=t:=⟨_,rfl⟩;obtain ⟨t2,ht2⟩:∃t,IntKind.u64.wrap (4294967296*r)=t:=⟨_,rfl⟩;obtain ⟨t3,ht3⟩:∃t,IntKind.u64.wrap (t2+c0)=t:=⟨_,rfl⟩;obtain ⟨x',hx'⟩:∃t,IntKind.u64.wrap (x - 1)=t:=⟨_,rfl⟩;obtain ⟨s',hs'⟩:∃t,IntKind.u64.wrap (r+y1)=t:=⟨_,rfl⟩;have Hs:Hid (x<4294967296→¬t3<t1→Dn Y r21 c0 x):=fun h1 h2=>D.out.stop H.out h1 (by rw [ht1];rw [ht2,ht3];exact h2);have Hb:Hid ((4294967296≤x∨t3<t1)→4294967296≤s'→Dn Y r21 c0 x'):=fun h1 h2=>by
          rw [← hx'];exact D.out.brk H.out (by rw [ht1,ht2,ht3];exact h1) (by rw [hs'];exact h2)
         have Ho:Hid ((4294967296≤x∨t3<t1)→¬4294967296≤s'→Dg Y y1 y0 r21 c0 x' s'∧x'.toNat<x.toNat):=fun h1 h2=>by
          rw [← hx'];rw [← hs'];exact D.out.on H.out (by rw [ht1,ht2,ht3];exact h1) (by rw [hs'];exact h2)
         clear D;by_cases hge:4294967296≤x
         · have hlt':¬x<4294967296:=by omega
           by_cases hbr:4294967296≤s'
           · have DN:=hiD (Hb.out (.inl hge) hbr)
             clear Hs Hb Ho;have HF:=hiD (HZ.out.final DN1.out HR.out DN.out);clear e21;(go_wp2_with fail);go_ret2;exact ⟨by rw [← HF.out.1,← HF.out.2];rfl,0,rfl⟩
           · have DO:=hiD (Ho.out (.inl hge) hbr)
             clear Hs Hb Ho;(go_wp2_with fail);go_roundw
             case rel=>exact ⟨_,_,rfl,rfl,(by first | trivial | rfl),DO.out.1⟩
             case measure=>simpa [intOf] using DO.out.2
         · have hlt':x<4294967296:=by omega
           by_cases hgt:t3<t1
           · skip
             by_cases hbr:4294967296≤s'
             · have DN:=hiD (Hb.out (.inr hgt) hbr)
               clear Hs Hb Ho;have HF:=hiD (HZ.out.final DN1.out HR.out DN.out);clear e21;(go_wp2_with fail);go_ret2;exact ⟨by rw [← HF.out.1,← HF.out.2];rfl,0,rfl⟩
             · have DO:=hiD (Ho.out (.inr hgt) hbr)
               clear Hs Hb Ho;(go_wp2_with fail);go_roundw
               case rel=>exact ⟨_,_,rfl,rfl,(by first | trivial | rfl),DO.out.1⟩
               case measure=>simpa [intOf] using DO.out.2
           · have DN:=hiD (Hs.out hlt' hgt)
             clear Hs Hb Ho hx' hs';have HF:=hiD (HZ.out.final DN1.out HR.out DN.out);clear e21;(go_wp2_with fail);go_ret2;exact ⟨by rw [← HF.out.1,← HF.out.2];rfl,0,rfl⟩
end Go.Proofs.YtehcoffbiplphaaGreat
namespace Cl
theorem limbs_drop {xs:List Int} {k:Nat}(h:k<xs.length):limbs (xs.drop k)=(nth xs k).toNat+18446744073709551616*limbs (xs.drop (k+1)):=by
 rw [List.drop_eq_getElem_cons h,nth_lt h]
 rfl
theorem drop_set_eq {xs:List Int} {k:Nat}(v:Int):(xs.set k v).drop (k+1)=xs.drop (k+1):=by
 rw [List.drop_set]
 rw [if_pos (by omega)]
structure ShortAt (xs:List Int) (x:Int) (k:Nat) (os:List Int) (r:Int):Prop where
 len:os.length=xs.length
 ok:IsLimbs os
 r0:0≤r
 r1:r<x
 eq:limbs (os.drop k)*x.toNat+r.toNat=limbs (xs.drop k)
theorem ShortAt.step {xs:List Int} {x:Int} {k:Nat} {os:List Int} {r:Int}(h:ShortAt xs x (k+1) os r) (hxs:IsLimbs xs) (hk:k<xs.length) (hx:0<x):
 ShortAt xs x k (os.set k ((r*18446744073709551616+nth xs k) / x)) ((r*18446744073709551616+nth xs k) % x):=by
 have hl:=hxs k
 have h0:=h.r0
 have h1:=h.r1
 have hd:=Int.mul_ediv_add_emod (r*18446744073709551616+nth xs k) x
 have hm:=Int.emod_nonneg (r*18446744073709551616+nth xs k) (b:=x) (by omega)
 have hm2:=Int.emod_lt_of_pos (r*18446744073709551616+nth xs k) hx
 have hq0:0≤(r*18446744073709551616+nth xs k) / x:=Int.ediv_nonneg (by omega) (by omega)
 have hq1:(r*18446744073709551616+nth xs k) / x<18446744073709551616:=by
  rw [Int.ediv_lt_iff_lt_mul hx];omega
 generalize (r*18446744073709551616+nth xs k) / x=q at*
 generalize (r*18446744073709551616+nth xs k) % x=m at*
 refine ⟨by rw [List.length_set];exact h.len,h.ok.set k hq0 hq1,hm,hm2,?_⟩
 have hk':k<(os.set k q).length:=by rw [List.length_set,h.len];exact hk
 rw [limbs_drop hk',limbs_drop hk,drop_set_eq,nth_set (by rw [h.len];exact hk),if_pos rfl,← h.eq]
 have e:q.toNat*x.toNat+m.toNat=r.toNat*18446744073709551616+(nth xs k).toNat:=by
  have e1:((q.toNat*x.toNat+m.toNat:Nat):Int)=((r.toNat*18446744073709551616+(nth xs k).toNat:Nat):Int):=by
   rw [Int.natCast_add,Int.natCast_mul,Int.natCast_add,Int.natCast_mul,Int.toNat_of_nonneg hq0,Int.toNat_of_nonneg (by omega),Int.toNat_of_nonneg hm,Int.toNat_of_nonneg h0,Int.toNat_of_nonneg hl.1,Int.mul_comm q x];exact hd
  exact Int.ofNat.inj e1
 rw [Nat.add_mul,Nat.mul_add,Nat.mul_assoc]
 omega
end Cl
namespace Go.Proofs.YtehcoffbiplphaaGreat
open Go.RowKit Cl
attribute [local go_sem ↓] Go.wp_at_zero Go.wp_at_succ
theorem nat_short (A:Option Addr) (n c:Nat) (xs:List Int) (x:Int) (w:World) (hx:Limbs w A n xs) (hn:n≤4000000000000) (hx0:0<x) (hx1:x<18446744073709551616):
 Calls Tryz.prog 113 #[.slice A n c,.int .u64 x] w fun e w'=>∃qs r A' k c',e=.returned (.tuple #[.slice A' k c',.int .u64 r])∧k≤n∧k≤c'∧c'≤9223372036854775807∧Limbs w' A' k qs∧PlainL qs∧(0≤r∧r<x∧limbs qs*x.toNat+r.toNat=limbs xs)∧Below w.heap.size w w':=by
 obtain ⟨i0,hi,hz0,hz1,hz2⟩:=info_parts uint_info
 obtain rfl:=hx.len
 have hmk:=run_make_limbs Tryz.underlying39 hi hz0 hz1 hz2 xs.length (by omega) w
 have hr0:Hid (RowL (w.alloc (.cells (lmbs (List.replicate xs.length 0)).toArray 38)) w.heap.size 38 (List.replicate xs.length 0)):=RowL.new w _ _
 have hb0:Below w.heap.size w (w.alloc (.cells (lmbs (List.replicate xs.length 0)).toArray 38)):=bRr.alloc lRr _
 have hs0:Hid (ShortAt xs x xs.length (List.replicate xs.length 0) 0):=⟨List.length_replicate,fun i=>by
  by_cases h:i<(List.replicate xs.length (0:Int)).length
  · rw [nth_lt h,List.getElem_replicate];omega
  · rw [nth_ge (by omega)];omega,by omega,hx0,by rw [List.drop_eq_nil_of_le (Nat.le_of_eq List.length_replicate),List.drop_eq_nil_of_le lRr];show 0*_+_=0;simp⟩
 have Hx:=hiD hx
 have HX:Hid (0<x∧x<18446744073709551616):=⟨hx0,hx1⟩
 clear hx hx0 hx1
 generalize List.replicate xs.length (0:Int)=R0 at*
 go_enter Tryz.func113,Tryz.ntmps113
 go_wp2_with fail
 clear hmk
 go_loopw [7,8] (fun rv i wr=>∃(k:Nat) (os:List Int) (r:Int),k≤xs.length∧rv=.int .u64 r∧i=.int .i64 ((k:Int) - 1)∧Hid (RowL wr w.heap.size 38 os)∧Hid (ShortAt xs x k os r)∧Below w.heap.size w wr) (fun _ i _=>(intOf i+1).toNat)
 case atStart=>exact ⟨xs.length,R0,0,lRr,rfl,rfl,hr0,hs0,hb0⟩
 case round=>
  clear hr0 hs0 hb0;obtain ⟨k,os,r,hk,rfl,rfl,hrow,hsh,hbel⟩:=hrel;obtain ⟨wo,rfl⟩:∃wo:World,wo=wr:=⟨_,rfl⟩;cases k with
  | zero=>
    have e0:(((0:Nat):Int) - 1)= -1:=rfl;rw [e0];have hol:=hsh.out.len;have hL:=hrow.out.limbs hsh.out.ok;rw [hol] at hL;have HL:=hiD hL;have hlm:=lmN_le os xs.length;have HP:=hiD (plainL_take hsh.out.ok hol);have HE:Hid (0≤r∧r<x∧limbs (os.take (lmN os xs.length))*x.toNat+r.toNat=limbs xs):=⟨hsh.out.r0,hsh.out.r1,by rw [HP.out.2];exact hsh.out.eq⟩;clear hL hrow hsh hol;(go_wp2_with fail);refine (nplain_any (some ⟨w.heap.size,0,none⟩) xs.length xs.length os wo HL.out lRr (by omega)).mono ?_;rintro e w3 ⟨rfl,rfl⟩;(go_wp2_with fail);go_ret2;exact ⟨os.take (lmN os xs.length),r,some ⟨w.heap.size,0,none⟩,_,xs.length,rfl,hlm,hlm,by omega,HL.out.take hlm,HP.out.1,HE.out,hbel⟩
  | succ k=>
    (have e0:(((k+1:Nat):Int) - 1)=(k:Int):=by omega);rw [e0];obtain ⟨b,o,rfl,hb,hc⟩:=Hx.out.at_ (by omega);have hck:=(hbel.cell (p:=⟨b,o+k,none⟩) hb).trans (hc k (by omega));(have hj0:(0:Int)≤(k:Int):=by omega);(have hj1:(k:Int)<(xs.length:Int):=by omega);have hlim:=Hx.out.ok k;have Cd:=hiD (div64 r (nth xs k) x wo hsh.out.r0 hsh.out.r1 hlim.1 hlim.2 HX.out.2);have hst:=hiD (hsh.out.step Hx.out.ok (by omega) HX.out.1);have hol:=hiD hsh.out.len;have hlt:=hrow.out.lt;clear hc e0 hlim hsh;generalize (r*18446744073709551616+nth xs k) / x=q at*
    generalize (r*18446744073709551616+nth xs k) % x=m at*
    (go_wp2_with fail);refine Cd.out.mono ?_;rintro e w1 ⟨rfl,j1,hj1'⟩;(have hbw1:Below wo.heap.size wo w1:=by subst hj1';exact below_drewN bRr _);have hrow1:=hrow.out.bel hbw1;have hfo:=hrow1.frozen k;have hco:=hrow1.cell (i:=k) (by rw [hol.out];omega);have Hset:=hiD (hrow1.set k q);have hb2:=hiD ((hbel.tm hbw1).setCell (p:=⟨w.heap.size,k,none⟩) lRr (.int .u64 q));clear hj1' hck Cd hrow hrow1 hol hbel hbw1;(go_wp2_with fail);go_roundw
    case rel=>exact ⟨k,_,m,by omega,rfl,rfl,Hset,hst,hb2.out⟩
    case measure=>simp [intOf]
end Go.Proofs.YtehcoffbiplphaaGreat
namespace Cl
structure GuAt (u2 u1 u0 v1 v0 q r:Nat):Prop where
 eq:q*v1+r=u2*18446744073709551616+u1
 rl:r<18446744073709551616
 ql:q<18446744073709551616
 top:∀q',q'*(v1*18446744073709551616+v0)≤(u2*18446744073709551616+u1)*18446744073709551616+u0→q'≤q
theorem GuAt.start {u2 u1 u0 v1 v0:Nat}(h2:u2<v1) (h1:u1<18446744073709551616) (h0:u0<18446744073709551616) (hv:v1<18446744073709551616):GuAt u2 u1 u0 v1 v0 ((u2*18446744073709551616+u1) / v1) ((u2*18446744073709551616+u1) % v1):=by
 have hp:0<v1:=by omega
 have e:=Nat.div_add_mod (u2*18446744073709551616+u1) v1
 have m:=Nat.mod_lt (u2*18446744073709551616+u1) hp
 rw [Nat.mul_comm] at e
 refine ⟨e,by omega,dig_lt h1 h2,fun q' h=> ?_⟩
 have h3:(u2*18446744073709551616+u1)*18446744073709551616+u0<((u2*18446744073709551616+u1) / v1+1)*(v1*18446744073709551616+v0):=dig_start rfl hp h0
 have h4:q'<(u2*18446744073709551616+u1) / v1+1:=Nat.lt_of_mul_lt_mul_right (Nat.lt_of_le_of_lt h h3)
 omega
theorem GuAt.next {u2 u1 u0 v1 v0 q r:Nat}(h:GuAt u2 u1 u0 v1 v0 q r) (hg:r*18446744073709551616+u0<q*v0):0<q∧(q - 1)*v1+(r+v1)=u2*18446744073709551616+u1∧∀q',q'*(v1*18446744073709551616+v0)≤(u2*18446744073709551616+u1)*18446744073709551616+u0→q'≤q - 1:=by
 have h0:0<q:=by
  rcases Nat.eq_zero_or_pos q with h0 | h0
  · subst h0;omega
  · exact h0
 have h1:=guess_on (B:=18446744073709551616) h.eq hg
 exact ⟨h0,dig_next h.eq h0,fun q' hq=>le_pred_of h1 hq⟩
def GuOk (u2 u1 u0 v1 v0 g:Nat):Prop:=g<18446744073709551616∧∀q',q'<18446744073709551616→q'*(v1*18446744073709551616+v0)≤(u2*18446744073709551616+u1)*18446744073709551616+u0→q'≤g
theorem two_limbs {p r u:Nat}(hu:u<18446744073709551616):(p / 18446744073709551616<r∨p / 18446744073709551616=r∧p % 18446744073709551616≤u)↔p≤r*18446744073709551616+u:=by omega
end Cl
namespace Go.Proofs.YtehcoffbiplphaaGreat
open Go.RowKit Cl
attribute [local go_sem ↓] Go.wp_at_zero Go.wp_at_succ
theorem nat_guess (u2 u1 u0 v1 v0:Nat) (w:World) (h1:u1<18446744073709551616) (h0:u0<18446744073709551616) (hv1:v1<18446744073709551616) (hv0:v0<18446744073709551616):
 Calls Tryz.prog 116 #[.int .u64 (u2:Int),.int .u64 (u1:Int),.int .u64 (u0:Int),.int .u64 (v1:Int),.int .u64 (v0:Int)] w fun e w'=>∃g:Nat,e=.returned (.int .u64 (g:Int))∧GuOk u2 u1 u0 v1 v0 g∧∃j,w'=w.drewN j:=by
 by_cases hge:v1≤u2
 · have hge':(v1:Int)≤(u2:Int):=by omega
   have F:Hid (GuOk u2 u1 u0 v1 v0 18446744073709551615):=⟨by omega,fun q' hq _=>by omega⟩;clear h1 h0 hv1 hv0;go_enter Tryz.func116,Tryz.ntmps116
   go_wp2_with fail
   go_ret;exact ⟨18446744073709551615,rfl,F.out,0,rfl⟩
 · have hge':¬(v1:Int)≤(u2:Int):=by omega
   have Cd:=hiD (div64 (u2:Int) (u1:Int) (v1:Int) w (by omega) (by omega) (by omega) (by omega) (by omega));have S0:=hiD (GuAt.start (v0:=v0) (Nat.lt_of_not_le hge) h1 h0 hv1);have eq1:((u2:Int)*18446744073709551616+(u1:Int)) / (v1:Int)=(((u2*18446744073709551616+u1) / v1:Nat):Int):=by
    rw [Int.natCast_ediv,Int.natCast_add,Int.natCast_mul];rfl
   have eq2:((u2:Int)*18446744073709551616+(u1:Int)) % (v1:Int)=(((u2*18446744073709551616+u1) % v1:Nat):Int):=by
    rw [Int.natCast_emod,Int.natCast_add,Int.natCast_mul];rfl
   rw [eq1,eq2] at Cd;clear eq1 eq2;generalize (u2*18446744073709551616+u1) / v1=q0 at*
   generalize (u2*18446744073709551616+u1) % v1=r0 at*
   have H:Hid (u0<18446744073709551616∧v1<18446744073709551616∧v0<18446744073709551616):=⟨h0,hv1,hv0⟩;clear h1 h0 hv1 hv0;go_enter Tryz.func116,Tryz.ntmps116
   go_wp2_with fail
   refine Cd.out.mono ?_;rintro e w1 ⟨rfl,j1,rfl⟩;clear Cd;go_wp2_with fail
   go_loopw [11,12,13,14,15,16] (fun qv rv _ _ _ _ wr=>∃q r:Nat,qv=.int .u64 (q:Int)∧rv=.int .u64 (r:Int)∧Hid (GuAt u2 u1 u0 v1 v0 q r)∧∃j,wr=w.drewN j) (fun qv _ _ _ _ _ _=>(intOf qv).toNat)
   case atStart=>exact ⟨q0,r0,rfl,rfl,S0,j1,rfl⟩
   case round=>
    obtain ⟨q,r,rfl,rfl,S,j,rfl⟩:=hrel;have Cm:=hiD (fun W=>bits_mul64 q v0 S.out.ql H.out.2.2 W);obtain ⟨h,hh⟩:∃h,q*v0 / 18446744073709551616=h:=⟨_,rfl⟩;obtain ⟨l,hl⟩:∃h,q*v0 % 18446744073709551616=h:=⟨_,rfl⟩;have ht:=two_limbs (p:=q*v0) (r:=r) H.out.1;rw [hh,hl] at Cm ht;have Ht:=hiD ht;have F:Hid (GuOk u2 u1 u0 v1 v0 q):=⟨S.out.ql,fun q' _ hq=>S.out.top q' hq⟩;obtain ⟨sv,hsv⟩:∃s,(r+v1+0) % 18446744073709551616=s:=⟨_,rfl⟩;obtain ⟨cv,hcv⟩:∃s,(r+v1+0) / 18446744073709551616=s:=⟨_,rfl⟩;have qa:∀W,(callFunc 123 #[.int .u64 (r:Int),.int .u64 (v1:Int),.int .u64 0]).run Tryz.prog W=.ok (.value (.tuple #[.int .u64 (sv:Int),.int .u64 (cv:Int)])) W:=fun W=>by
     have:=add64_run r v1 0 (by omega) W;rw [hsv,hcv] at this;exact this
    (have Hc:Hid (cv=0→sv=r+v1∧sv<18446744073709551616):=fun h=>by omega);have Hn:Hid (¬(h<r∨h=r∧l≤u0)→0<q∧(q - 1)*v1+(r+v1)=u2*18446744073709551616+u1∧∀q',q'*(v1*18446744073709551616+v0)≤(u2*18446744073709551616+u1)*18446744073709551616+u0→q'≤q - 1):=fun hn=>by
     have:¬q*v0≤r*18446744073709551616+u0:=fun hp=>hn (Ht.out.2 hp);exact S.out.next (by omega)
    have Hq:Hid (q<18446744073709551616):=S.out.ql;clear ht hh hl hsv hcv Ht S;(go_wp2_with fail);refine (Cm.out _).mono ?_;rintro e w2 ⟨rfl,rfl⟩;clear Cm;by_cases h1:h<r
    · have h1':(h:Int)<(r:Int):=by omega
      clear Hn Hc Hq;(go_wp2_with fail);go_ret;exact ⟨q,rfl,F.out,j,rfl⟩
    · have h1':¬(h:Int)<(r:Int):=by omega
      by_cases h2:h=r
      · have h2':((h:Int)==(r:Int))=true:=by simp;omega
        by_cases h3:l≤u0
        · have h3':(l:Int)≤(u0:Int):=by omega
          clear h1 h2 h3;clear Hn Hc Hq;(go_wp2_with fail);go_ret;exact ⟨q,rfl,F.out,j,rfl⟩
        · have h3':¬(l:Int)≤(u0:Int):=by omega
          obtain ⟨hq0,hqe,hqt⟩:=Hn.out (fun hh=>hh.elim h1 (fun h4=>h3 h4.2));(have ew:IntKind.u64.wrap ((q:Int) - 1)=((q - 1:Nat):Int):=by rw [u64_wrap_eq];have:=Hq.out;omega);have F2:Hid (GuOk u2 u1 u0 v1 v0 (q - 1)):=⟨by have:=Hq.out;omega,fun q' _ hq=>hqt q' hq⟩;have S2:Hid (sv=r+v1∧sv<18446744073709551616→GuAt u2 u1 u0 v1 v0 (q - 1) sv):=fun h=>⟨by rw [h.1];exact hqe,h.2,by have:=Hq.out;omega,hqt⟩;(have hlt:q - 1<q:=by omega);clear Hn hqe hqt Hq F hq0;generalize q - 1=q' at*
          by_cases hcz:cv=0
          · have hcz':¬(0:Int)<(cv:Int):=by omega
            have S3:=hiD (S2.out (Hc.out hcz));have Hlt:=hiD hlt;clear hcz hlt S2 Hc;(go_wp2_with fail);go_roundw
            case rel=>exact ⟨q',sv,rfl,rfl,S3,j,rfl⟩
            case measure=>simpa [intOf] using Hlt.out
          · have hcz':(0:Int)<(cv:Int):=by omega
            clear hcz hlt S2 Hc;(go_wp2_with fail);go_ret;exact ⟨q',rfl,F2.out,j,rfl⟩
      · have h2':((h:Int)==(r:Int))=false:=by simp;omega
        obtain ⟨hq0,hqe,hqt⟩:=Hn.out (fun hh=>hh.elim h1 (fun h4=>h2 h4.1));(have ew:IntKind.u64.wrap ((q:Int) - 1)=((q - 1:Nat):Int):=by rw [u64_wrap_eq];have:=Hq.out;omega);have F2:Hid (GuOk u2 u1 u0 v1 v0 (q - 1)):=⟨by have:=Hq.out;omega,fun q' _ hq=>hqt q' hq⟩;have S2:Hid (sv=r+v1∧sv<18446744073709551616→GuAt u2 u1 u0 v1 v0 (q - 1) sv):=fun h=>⟨by rw [h.1];exact hqe,h.2,by have:=Hq.out;omega,hqt⟩;(have hlt:q - 1<q:=by omega);clear Hn hqe hqt Hq F hq0;generalize q - 1=q' at*
        by_cases hcz:cv=0
        · have hcz':¬(0:Int)<(cv:Int):=by omega
          have S3:=hiD (S2.out (Hc.out hcz));have Hlt:=hiD hlt;clear hcz hlt S2 Hc;(go_wp2_with fail);go_roundw
          case rel=>exact ⟨q',sv,rfl,rfl,S3,j,rfl⟩
          case measure=>simpa [intOf] using Hlt.out
        · have hcz':(0:Int)<(cv:Int):=by omega
          clear hcz hlt S2 Hc;(go_wp2_with fail);go_ret;exact ⟨q',rfl,F2.out,j,rfl⟩
end Go.Proofs.YtehcoffbiplphaaGreat
