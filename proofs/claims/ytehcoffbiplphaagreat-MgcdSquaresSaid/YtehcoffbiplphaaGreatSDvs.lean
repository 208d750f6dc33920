/- Contracts: nat.Shl and nat.Shr by less than a limb (printed by gen/shlr.py).
   Noughts appended to an own row ('append(s, make([]T, k)...)'), in place or in a new row.
   Contracts of nat.Sub, less, moved, Shl that tell what they own (printed by gen/subo.py).
   Plain facts for the long division of naturals: one digit after the other.
   Limbs at the head of a block with spare cells; steps of regions: noughts appended, limbs copied.
   Contract: nat.row with its capacity told (nat_row of XNatK turned; printed by gen/subo.py).
   Contract step: noughts appended to what is owned, the head read again. -/
import Derived.Test.YtehcoffbiplphaaGreatSDvOne
import Derived.Lib.AppendZerosOnto
set_option linter.unusedVariables false
set_option linter.unusedSimpArgs false
set_option maxHeartbeats 2000000
set_option maxRecDepth 100000
namespace Go.Proofs.YtehcoffbiplphaaGreat
open Go.RowKit Cl
theorem two_pow_split {s:Nat}(hs:s≤64):(2:Nat)^s*2^(64 - s)=18446744073709551616:=by
 rw [← Nat.pow_add,show s+(64 - s)=64 by omega]
theorem shl_nat {v q s:Nat}(hs:s≤64) (hq:q<2^s):(v*2^s+q) % 18446744073709551616=v % 2^(64 - s)*2^s+q∧(v*2^s+q) / 18446744073709551616=v / 2^(64 - s):=by
 have hp:=two_pow_split hs
 have hP:0<2^s:=Nat.two_pow_pos s
 have hR:0<2^(64 - s):=Nat.two_pow_pos _
 have h1:=Nat.div_add_mod v (2^(64 - s))
 have h2:=Nat.mod_lt v hR
 have h3:v % 2^(64 - s)*2^s+q<18446744073709551616:=by
  have h4:(v % 2^(64 - s)+1)*2^s≤2^(64 - s)*2^s:=Nat.mul_le_mul_right _ h2;rw [Nat.mul_comm (2^(64 - s)),hp,Nat.add_mul] at h4;omega
 have h5:v*2^s+q=18446744073709551616*(v / 2^(64 - s))+(v % 2^(64 - s)*2^s+q):=by
  have h6:v*2^s=2^s*2^(64 - s)*(v / 2^(64 - s))+v % 2^(64 - s)*2^s:=by
   rw [Nat.mul_assoc,Nat.mul_comm (2^s),← Nat.add_mul,h1]
  rw [hp] at h6;omega
 rw [h5,Nat.mul_add_mod,Nat.mod_eq_of_lt h3,Nat.mul_add_div (by omega),Nat.div_eq_of_lt h3]
 exact ⟨rfl,rfl⟩
theorem shl_low {u:Int} {q s:Nat}(hs:s<64) (h0:0≤u) (h1:u<18446744073709551616) (hq:q<2^s):
 bits .or .u64 (IntKind.u64.wrap (u*2^s)) (q:Int)=(((u.toNat*2^s+q) % 18446744073709551616:Nat):Int)∧u / 2 / 2^(63 - s)=(((u.toNat*2^s+q) / 18446744073709551616:Nat):Int):=by
 obtain ⟨v,rfl⟩:=Int.eq_ofNat_of_zero_le h0
 have hp:=two_pow_split (s:=s) (by omega)
 obtain ⟨e1,e2⟩:=shl_nat (v:=v) (by omega) hq
 rw [Int.toNat_natCast,e1,e2]
 have hq2:(q:Int)<2^s:=by rw [← cast_two_pow];exact Int.ofNat_lt.2 hq
 have hR:0<2^(64 - s):=Nat.two_pow_pos _
 have h2:=Nat.mod_lt v hR
 have h4:(v % 2^(64 - s)+1)*2^s≤2^(64 - s)*2^s:=Nat.mul_le_mul_right _ h2
 rw [Nat.mul_comm (2^(64 - s)),hp,Nat.add_mul] at h4
 have e3:IntKind.u64.wrap ((v:Int)*2^s)=((v % 2^(64 - s):Nat):Int)*2^s:=by
  rw [u64_wrap_eq,← cast_two_pow,← Int.natCast_mul,← Int.natCast_mul];have e4:=(shl_nat (v:=v) (q:=0) (by omega) (Nat.two_pow_pos s)).1;rw [Nat.add_zero,Nat.add_zero] at e4;rw [← e4];rfl
 constructor
 · rw [e3,u64_or_add (by omega) (by omega) hq2 ?_ (by omega),Int.natCast_add,Int.natCast_mul,cast_two_pow]
   rw [← cast_two_pow,← Int.natCast_mul];omega
 · have e5:(v:Int) / 2 / 2^(63 - s)=((v / 2 / 2^(63 - s):Nat):Int):=by rw [Int.natCast_ediv,Int.natCast_ediv,cast_two_pow];rfl
   rw [e5,Nat.div_div_eq_div_mul,← Nat.pow_succ',show (63 - s).succ=64 - s by omega]
theorem carL_shl {xs:List Int}(hx:IsLimbs xs) {s:Nat}(hs:s<64):∀k,(carL (rowF xs (2^s)) k).2<2^s
 | 0=>Nat.two_pow_pos s
 | k+1=>by
   have ih:=carL_shl hx hs k;show ((nth xs k).toNat*2^s+(carL (rowF xs (2^s)) k).2) / 18446744073709551616<2^s;have h:=hx k;rw [Nat.div_lt_iff_lt_mul (by omega)];have h1:((nth xs k).toNat+1)*2^s≤18446744073709551616*2^s:=Nat.mul_le_mul_right _ (by omega);rw [Nat.add_mul] at h1;rw [Nat.mul_comm (2^s)];omega
theorem two_pow_lt64 {s:Nat}(hs:s<64):2^s<18446744073709551616:=by
 have:=two_pow_split (s:=s) (by omega)
 have h1:2≤2^(64 - s):=by
  rw [show 64 - s=(63 - s)+1 by omega,Nat.pow_succ];have:=Nat.two_pow_pos (63 - s);omega
 have h2:2^s*2≤2^s*2^(64 - s):=Nat.mul_le_mul_left _ h1
 have:=Nat.two_pow_pos s
 omega
end Go.Proofs.YtehcoffbiplphaaGreat
namespace Go.Proofs.YtehcoffbiplphaaGreat
open Go.RowKit Cl
attribute [local go_sem ↓] Go.wp_at_zero Go.wp_at_succ
theorem nat_shl1 (A:Option Addr) (n c ga gb:Nat) (xs:List Int) (s k q:Nat) (w:World) (ha:w.cell? ⟨ga,0,none⟩=some (.slice A n c)) (hb:w.cell? ⟨gb,0,none⟩=some (.int .i64 (s:Int))) (hx:Limbs w A n xs)
 (hk:k<n) (hn:n≤8500000000000) (hs:s<64) (hq:q<2^s):
 Calls Tryz.prog 142 #[.int .i64 (k:Int),.int .u64 (q:Int),.pointer (some ⟨ga,0,none⟩),.pointer (some ⟨gb,0,none⟩)] w fun e w'=>e=.returned (.tuple #[.int .u64 ((rowF xs (2^s) k q).1:Int),.int .u64 ((rowF xs (2^s) k q).2:Int)])∧∃j,w'=w.drewN j:=by
 have h1:=hx.ok k
 obtain ⟨b,o,rfl,hbb,hc⟩:=hx.at_ (by omega)
 have hck:=hc k hk
 obtain ⟨e1,e2⟩:=shl_low (u:=nth xs k) hs h1.1 h1.2 hq
 have f1:((rowF xs (2^s) k q).1:Int)=((((nth xs k).toNat*2^s+q) % 18446744073709551616:Nat):Int):=rfl
 have f2:((rowF xs (2^s) k q).2:Int)=((((nth xs k).toNat*2^s+q) / 18446744073709551616:Nat):Int):=rfl
 rw [f1,f2]
 have hk0:(0:Int)≤(k:Int):=by omega
 have hkn:(k:Int)<(n:Int):=by omega
 have e3:(s:Int).tmod 64=(s:Int):=by rw [Int.tmod_eq_emod_of_nonneg (by omega)];omega
 have e4:IntKind.i64.wrap (63 - (s:Int))=((63 - s:Nat):Int):=by rw [IntWalk.i64_in _ (by omega)];omega
 have hs0:(0:Int)≤(s:Int):=by omega
 have hs1:¬(s:Int)<0:=by omega
 generalize ((nth xs k).toNat*2^s+q) % 18446744073709551616=r1 at*
 generalize ((nth xs k).toNat*2^s+q) / 18446744073709551616=r2 at*
 generalize nth xs k=u at*
 clear hc hx h1 f1 f2 hq
 go_enter Tryz.func142,Tryz.ntmps142
 go_wp2_with fail
 go_quiet (fail)
 go_wp2_with fail
 go_ret2
 exact ⟨rfl,_,rfl⟩
end Go.Proofs.YtehcoffbiplphaaGreat
namespace Go.Proofs.YtehcoffbiplphaaGreat
open Go.RowKit Cl
attribute [local go_sem ↓] Go.wp_at_zero Go.wp_at_succ
theorem nat_carriedL (p1 p2:Option Addr) (f:Nat→Nat→Nat×Nat) (n cb:Nat) (w:World) (hn:n≤17500000000000) (hfc:∀k,k≤n→(carL f k).2<cb)
 (hF:∀(k c:Nat) (W:World),k<n→c<cb→Below w.heap.size w W→Calls Tryz.prog 142 #[.int .i64 (k:Int),.int .u64 (c:Int),.pointer p1,.pointer p2] W fun e w'=>e=.returned (.tuple #[.int .u64 ((f k c).1:Int),.int .u64 ((f k c).2:Int)])∧∃j,w'=W.drewN j):
 Calls Tryz.prog 121 #[.int .i64 (n:Int),.func (.func 142) #[] #[.pointer p1,.pointer p2]] w fun e w'=>e=.returned (.tuple #[.slice (some ⟨w.heap.size,0,none⟩) n n,.int .u64 ((carL f n).2:Int)])∧RowL w' w.heap.size 38 (carL f n).1∧Below w.heap.size w w':=by
 obtain ⟨i0,hi,hz0,hz1,hz2⟩:=info_parts uint_info
 have hmk:=run_make_limbs Tryz.underlying39 hi hz0 hz1 hz2 n (by omega) w
 have HF:=hiD hF
 have Hfc:=hiD hfc
 have hr0:Hid (RowL (w.alloc (.cells (lmbs (List.replicate n 0)).toArray 38)) w.heap.size 38 (midL f n 0)):=by
  show RowL _ _ _ _;rw [midL_zero];exact RowL.new w _ _
 have hb0:Below w.heap.size w (w.alloc (.cells (lmbs (List.replicate n 0)).toArray 38)):=bRr.alloc lRr _
 clear hF hfc
 generalize (lmbs (List.replicate n 0)).toArray=cs at*
 go_enter Tryz.func121,Tryz.ntmps121
 go_wp2_with fail
 clear hmk
 go_loopw [7,13] (fun cv i wr=>∃k:Nat,k≤n∧cv=.int .u64 ((carL f k).2:Int)∧i=.int .i64 (k:Int)∧Hid (RowL wr w.heap.size 38 (midL f n k))∧Below w.heap.size w wr) (fun _ i _=>n - (intOf i).toNat)
 case atStart=>exact ⟨0,by omega,rfl,rfl,hr0,hb0⟩
 case round=>
  obtain ⟨k,hk,rfl,rfl,hrow,hbel⟩:=hrel;by_cases hlt:k<n
  · have hlt':(k:Int)<(n:Int):=by omega
    (have hk0:(0:Int)≤(k:Int):=by omega);have hc:=Hfc.out k hk;have C:=hiD (HF.out k (carL f k).2 wr hlt hc hbel);have e2:Hid ((carL f (k+1)).2=(f k (carL f k).2).2):=rfl;have hset:=hrow.out.set k ((f k (carL f k).2).1:Int);rw [midL_set f hlt] at hset;have Hset:=hiD hset;have hfz:=hrow.out.frozen k;have hcl:=hrow.out.cell (i:=k) (by rw [midL_length f hk];exact hlt);have hbs:=hbel.setCell (p:=⟨w.heap.size,k,none⟩) lRr (.int .u64 ((f k (carL f k).2).1:Int));clear hset;generalize hcc:(carL f k).2=q at*
    (go_wp2_with fail);refine C.out.mono ?_;rintro e w1 ⟨rfl,j,rfl⟩;have hfz2:(wr.drewN j).frozen? ⟨w.heap.size,k,none⟩=false:=hfz;have hcl2:(wr.drewN j).cell? ⟨w.heap.size,k,none⟩=some (.int .u64 (nth (midL f n k) k)):=hcl;(go_wp2_with fail);go_roundw
    case rel=>exact ⟨k+1,by omega,by rw [e2.out],by go_num,by first | exact Hset | exact Hset.out.drewN j,by first | exact hbs | exact below_drewN hbs _⟩
    case measure=>simp [intOf];omega
  · obtain rfl:k=n:=by omega
    (have hlt':¬(k:Int)<(k:Int):=by omega);have hr:=hrow.out;rw [midL_full] at hr;have Hr:=hiD hr;clear hr hrow;(go_wp2_with fail);go_ret2;exact ⟨rfl,Hr.out,hbel⟩
end Go.Proofs.YtehcoffbiplphaaGreat
namespace Go.Proofs.YtehcoffbiplphaaGreat
open Go.RowKit Cl
theorem u64_or_comm (a b:Nat) (ha:a<18446744073709551616) (hb:b<18446744073709551616):bits .or .u64 (a:Int) (b:Int)=bits .or .u64 (b:Int) (a:Int):=by
 rw [u64_or_nat a b ha hb,u64_or_nat b a hb ha,Nat.or_comm]
def shrF (xs:List Int) (s k _c:Nat):Nat×Nat:=((nth xs k).toNat / 2^s+(nth xs (k+1)).toNat % 2^s*2^(64 - s),0)
theorem shrF_lt {xs:List Int}(hx:IsLimbs xs) {s:Nat}(hs:s<64) (k c:Nat):(shrF xs s k c).1<18446744073709551616:=by
 show (nth xs k).toNat / 2^s+(nth xs (k+1)).toNat % 2^s*2^(64 - s)<_
 have hp:=two_pow_split (s:=s) (by omega)
 have hP:0<2^s:=Nat.two_pow_pos s
 have h1:=hx k
 have h2:(nth xs k).toNat / 2^s<2^(64 - s):=by
  rw [Nat.div_lt_iff_lt_mul hP,Nat.mul_comm,hp];omega
 have h3:=Nat.mod_lt (nth xs (k+1)).toNat hP
 have h4:((nth xs (k+1)).toNat % 2^s+1)*2^(64 - s)≤2^s*2^(64 - s):=Nat.mul_le_mul_right _ h3
 rw [hp,Nat.add_mul] at h4
 omega
theorem shrF_val {xs:List Int}(hx:IsLimbs xs) {s:Nat}(hs:s<64):∀k,k≤xs.length→limbs (carL (shrF xs s) k).1*2^s+(nth xs 0).toNat % 2^s=limbs (xs.take k)+2^(64*k)*((nth xs k).toNat % 2^s)
 | 0,_=>by
   show 0*_+_=limbs []+2^0*_;show 0*_+_=0+1*_;omega
 | k+1,hk=>by
   have ih:=shrF_val hx hs k (by omega);have hl:=carL_length (shrF xs s) k;have e1:(carL (shrF xs s) (k+1)).1=(carL (shrF xs s) k).1++[((shrF xs s k (carL (shrF xs s) k).2).1:Int)]:=rfl;rw [e1,limbs_snoc,hl,Int.toNat_natCast,limbs_take_succ (by omega),Nat.add_mul];show _+2^(64*k)*((nth xs k).toNat / 2^s+(nth xs (k+1)).toNat % 2^s*2^(64 - s))*2^s+_=_;have hp:=two_pow_split (s:=s) (by omega);have h1:=Nat.div_add_mod (nth xs k).toNat (2^s);have e2:2^(64*k)*((nth xs k).toNat / 2^s+(nth xs (k+1)).toNat % 2^s*2^(64 - s))*2^s=2^(64*k)*(2^s*((nth xs k).toNat / 2^s))+2^(64*(k+1))*((nth xs (k+1)).toNat % 2^s):=by
    rw [Nat.mul_assoc,Nat.add_mul,Nat.mul_add,Nat.mul_comm (2^s),Nat.mul_assoc ((nth xs (k+1)).toNat % 2^s),Nat.mul_comm (2^(64 - s)),hp,show 64*(k+1)=64*k+64 by omega,Nat.pow_add,Nat.mul_assoc (2^(64*k)) (2^64)];congr 2
    rw [Nat.mul_comm]
   have e3:2^(64*k)*(nth xs k).toNat=2^(64*k)*(2^s*((nth xs k).toNat / 2^s))+2^(64*k)*((nth xs k).toNat % 2^s):=by rw [← Nat.mul_add,h1]
   rw [e2,e3];omega
theorem shr_val {xs:List Int}(hx:IsLimbs xs) {s:Nat}(hs:s<64):limbs (carL (shrF xs s) xs.length).1=limbs xs / 2^s:=by
 have h:=shrF_val hx hs xs.length lRr
 rw [nth_ge lRr,List.take_length] at h
 have h0:(0:Int).toNat % 2^s=0:=Nat.zero_mod _
 rw [h0,Nat.mul_zero,Nat.add_zero] at h
 have hP:0<2^s:=Nat.two_pow_pos s
 rw [← h,Nat.mul_comm,Nat.mul_add_div hP,Nat.div_eq_of_lt (Nat.mod_lt _ hP)]
 rfl
theorem shr_low {u v:Int} {s:Nat}(hs:s<64) (h0:0≤u) (h1:u<18446744073709551616) (h2:0≤v) (h3:v<18446744073709551616):
 bits .or .u64 (u / 2^s) (IntKind.u64.wrap (IntKind.u64.wrap (v*2)*2^(63 - s)))=((u.toNat / 2^s+v.toNat % 2^s*2^(64 - s):Nat):Int):=by
 obtain ⟨a,rfl⟩:=Int.eq_ofNat_of_zero_le h0
 obtain ⟨b,rfl⟩:=Int.eq_ofNat_of_zero_le h2
 rw [Int.toNat_natCast,Int.toNat_natCast]
 have hp:=two_pow_split (s:=s) (by omega)
 have hP:0<2^s:=Nat.two_pow_pos s
 have h4:a / 2^s<2^(64 - s):=by
  rw [Nat.div_lt_iff_lt_mul hP,Nat.mul_comm,hp];omega
 have h5:=Nat.mod_lt b hP
 have h6:(b % 2^s+1)*2^(64 - s)≤2^s*2^(64 - s):=Nat.mul_le_mul_right _ h5
 rw [hp,Nat.add_mul] at h6
 have hR:=Nat.two_pow_pos (64 - s)
 have e1:IntKind.u64.wrap (IntKind.u64.wrap ((b:Int)*2)*2^(63 - s))=((b % 2^s*2^(64 - s):Nat):Int):=by
  have e2:IntKind.u64.wrap (IntKind.u64.wrap ((b:Int)*2)*2^(63 - s))=(((b*2^(64 - s)) % 18446744073709551616:Nat):Int):=by
   rw [u64_wrap_eq,u64_wrap_eq,Int.mul_emod,Int.emod_emod_of_dvd _ (Int.dvd_refl _),← Int.mul_emod,Int.natCast_emod,Int.natCast_mul,cast_two_pow,Int.mul_assoc,← Int.pow_succ',show 63 - s+1=64 - s by omega];rfl
  rw [e2];have e4:=(shl_nat (v:=b) (q:=0) (s:=64 - s) (by omega) hR).1;rw [show 64 - (64 - s)=s by omega,Nat.add_zero,Nat.add_zero] at e4;rw [e4]
 have e5:(a:Int) / 2^s=((a / 2^s:Nat):Int):=by rw [Int.natCast_ediv,cast_two_pow]
 rw [e1,e5,u64_or_comm _ _ (by omega) (by omega),u64_or_nat _ _ (by omega) (by omega),Nat.mul_comm,← Nat.two_pow_add_eq_or_of_lt h4]
 omega
end Go.Proofs.YtehcoffbiplphaaGreat
namespace Go.Proofs.YtehcoffbiplphaaGreat
open Go.RowKit Cl
attribute [local go_sem ↓] Go.wp_at_zero Go.wp_at_succ
theorem nat_shr1 (A:Option Addr) (n c ga gb:Nat) (xs:List Int) (s k q:Nat) (w:World) (ha:w.cell? ⟨ga,0,none⟩=some (.slice A n c)) (hb:w.cell? ⟨gb,0,none⟩=some (.int .i64 (s:Int))) (hx:Limbs w A n xs)
 (hk:k<n) (hn:n≤8500000000000) (hs:s<64):
 Calls Tryz.prog 145 #[.int .i64 (k:Int),.int .u64 (q:Int),.pointer (some ⟨ga,0,none⟩),.pointer (some ⟨gb,0,none⟩)] w fun e w'=>e=.returned (.tuple #[.int .u64 ((shrF xs s k q).1:Int),.int .u64 ((shrF xs s k q).2:Int)])∧∃j,w'=w.drewN j:=by
 have h1:=hx.ok k
 have h2:=hx.ok (k+1)
 have C:=hiD (fun W (h:Limbs W A n xs)=>nat_at A n c xs (k+1) W h (by omega) (by omega))
 have Hx:=hiD hx
 obtain ⟨b,o,rfl,hbb,hc⟩:=hx.at_ (by omega)
 have hck:=hc k hk
 have e1:=shr_low (u:=nth xs k) (v:=nth xs (k+1)) hs h1.1 h1.2 h2.1 h2.2
 have f1:((shrF xs s k q).1:Int)=(((nth xs k).toNat / 2^s+(nth xs (k+1)).toNat % 2^s*2^(64 - s):Nat):Int):=rfl
 have f2:((shrF xs s k q).2:Int)=0:=rfl
 rw [f1,f2]
 have hk0:(0:Int)≤(k:Int):=by omega
 have hkn:(k:Int)<(n:Int):=by omega
 have e4:IntKind.i64.wrap (63 - (s:Int))=((63 - s:Nat):Int):=by rw [IntWalk.i64_in _ (by omega)];omega
 have e5:IntKind.i64.wrap ((k:Int)+1)=((k+1:Nat):Int):=by rw [IntWalk.i64_in _ (by omega)];omega
 have hs0:(0:Int)≤(s:Int):=by omega
 have hs1:¬(s:Int)<0:=by omega
 generalize (nth xs k).toNat / 2^s+(nth xs (k+1)).toNat % 2^s*2^(64 - s)=r1 at*
 generalize nth xs (k+1)=v at*
 generalize nth xs k=u at*
 clear hc hx h1 h2 f1 f2
 go_enter Tryz.func145,Tryz.ntmps145
 go_wp2_with fail
 go_quiet (first | ((go_at_call 124);first | exact quiet_add_left (C.out _ (Hx.out.drewN _)) | exact quiet_left (C.out _ (Hx.out.drewN _))))
 go_wp2_with fail
 go_ret2
 exact ⟨rfl,_,rfl⟩
end Go.Proofs.YtehcoffbiplphaaGreat
namespace Go.Proofs.YtehcoffbiplphaaGreat
open Go.RowKit Cl
attribute [local go_sem ↓] Go.wp_at_zero Go.wp_at_succ
theorem nat_carriedH (p1 p2:Option Addr) (f:Nat→Nat→Nat×Nat) (n cb:Nat) (w:World) (hn:n≤17500000000000) (hfc:∀k,k≤n→(carL f k).2<cb)
 (hF:∀(k c:Nat) (W:World),k<n→c<cb→Below w.heap.size w W→Calls Tryz.prog 145 #[.int .i64 (k:Int),.int .u64 (c:Int),.pointer p1,.pointer p2] W fun e w'=>e=.returned (.tuple #[.int .u64 ((f k c).1:Int),.int .u64 ((f k c).2:Int)])∧∃j,w'=W.drewN j):
 Calls Tryz.prog 121 #[.int .i64 (n:Int),.func (.func 145) #[] #[.pointer p1,.pointer p2]] w fun e w'=>e=.returned (.tuple #[.slice (some ⟨w.heap.size,0,none⟩) n n,.int .u64 ((carL f n).2:Int)])∧RowL w' w.heap.size 38 (carL f n).1∧Below w.heap.size w w':=by
 obtain ⟨i0,hi,hz0,hz1,hz2⟩:=info_parts uint_info
 have hmk:=run_make_limbs Tryz.underlying39 hi hz0 hz1 hz2 n (by omega) w
 have HF:=hiD hF
 have Hfc:=hiD hfc
 have hr0:Hid (RowL (w.alloc (.cells (lmbs (List.replicate n 0)).toArray 38)) w.heap.size 38 (midL f n 0)):=by
  show RowL _ _ _ _;rw [midL_zero];exact RowL.new w _ _
 have hb0:Below w.heap.size w (w.alloc (.cells (lmbs (List.replicate n 0)).toArray 38)):=bRr.alloc lRr _
 clear hF hfc
 generalize (lmbs (List.replicate n 0)).toArray=cs at*
 go_enter Tryz.func121,Tryz.ntmps121
 go_wp2_with fail
 clear hmk
 go_loopw [7,13] (fun cv i wr=>∃k:Nat,k≤n∧cv=.int .u64 ((carL f k).2:Int)∧i=.int .i64 (k:Int)∧Hid (RowL wr w.heap.size 38 (midL f n k))∧Below w.heap.size w wr) (fun _ i _=>n - (intOf i).toNat)
 case atStart=>exact ⟨0,by omega,rfl,rfl,hr0,hb0⟩
 case round=>
  obtain ⟨k,hk,rfl,rfl,hrow,hbel⟩:=hrel;by_cases hlt:k<n
  · have hlt':(k:Int)<(n:Int):=by omega
    (have hk0:(0:Int)≤(k:Int):=by omega);have hc:=Hfc.out k hk;have C:=hiD (HF.out k (carL f k).2 wr hlt hc hbel);have e2:Hid ((carL f (k+1)).2=(f k (carL f k).2).2):=rfl;have hset:=hrow.out.set k ((f k (carL f k).2).1:Int);rw [midL_set f hlt] at hset;have Hset:=hiD hset;have hfz:=hrow.out.frozen k;have hcl:=hrow.out.cell (i:=k) (by rw [midL_length f hk];exact hlt);have hbs:=hbel.setCell (p:=⟨w.heap.size,k,none⟩) lRr (.int .u64 ((f k (carL f k).2).1:Int));clear hset;generalize hcc:(carL f k).2=q at*
    (go_wp2_with fail);refine C.out.mono ?_;rintro e w1 ⟨rfl,j,rfl⟩;have hfz2:(wr.drewN j).frozen? ⟨w.heap.size,k,none⟩=false:=hfz;have hcl2:(wr.drewN j).cell? ⟨w.heap.size,k,none⟩=some (.int .u64 (nth (midL f n k) k)):=hcl;(go_wp2_with fail);go_roundw
    case rel=>exact ⟨k+1,by omega,by rw [e2.out],by go_num,by first | exact Hset | exact Hset.out.drewN j,by first | exact hbs | exact below_drewN hbs _⟩
    case measure=>simp [intOf];omega
  · obtain rfl:k=n:=by omega
    (have hlt':¬(k:Int)<(k:Int):=by omega);have hr:=hrow.out;rw [midL_full] at hr;have Hr:=hiD hr;clear hr hrow;(go_wp2_with fail);go_ret2;exact ⟨rfl,Hr.out,hbel⟩
theorem nat_shr (A:Option Addr) (n c:Nat) (xs:List Int) (s:Nat) (w:World) (hx:Limbs w A n xs) (hn:n≤4000000000000) (hs:s<64) (hn0:0<n) (hnc:n≤c) (_hc:c≤9223372036854775807):
 Calls Tryz.prog 119 #[.slice A n c,.int .i64 (s:Int)] w fun e w'=>∃zs,PlainL zs∧limbs zs=limbs xs / 2^s∧zs.length≤n∧GivesNew w zs e w':=by
 obtain rfl:=hx.len
 have hok:=hiD (carL_ok (fun k c=>shrF_lt hx.ok hs k c) xs.length)
 have hlen:=hiD (carL_length (shrF xs s) xs.length)
 have hval:=hiD (shr_val hx.ok hs)
 have hal0:Below w.heap.size w ((w.alloc (.cells #[.slice A xs.length c] 39)).alloc (.cells #[.int .i64 (s:Int)] 3)):=(bRr.alloc lRr _).alloc (by simp) _
 have Hca:Hid (((w.alloc (.cells #[.slice A xs.length c] 39)).alloc (.cells #[.int .i64 (s:Int)] 3)).cell? ⟨w.heap.size,0,none⟩=some (.slice A xs.length c)):=cell_old0 _ _ _ _
 have Hcb:Hid (((w.alloc (.cells #[.slice A xs.length c] 39)).alloc (.cells #[.int .i64 (s:Int)] 3)).cell? ⟨w.heap.size+1,0,none⟩=some (.int .i64 (s:Int))):=cell_new1 _ _ _ _
 have Hx:=hiD (hx.bel hal0)
 have hc0:∀k,(carL (shrF xs s) k).2=0:=fun k=>by cases k<;>rfl
 have C:Hid (Calls Tryz.prog 121 #[.int .i64 (xs.length:Int),.func (.func 145) #[] #[.pointer (some ⟨w.heap.size,0,none⟩),.pointer (some ⟨w.heap.size+1,0,none⟩)]] ((w.alloc (.cells #[.slice A xs.length c] 39)).alloc (.cells #[.int .i64 (s:Int)] 3)) fun e w'=>e=.returned (.tuple #[.slice (some ⟨w.heap.size+1+1,0,none⟩) xs.length xs.length,.int .u64 ((carL (shrF xs s) xs.length).2:Int)])∧RowL w' (w.heap.size+1+1) 38 (carL (shrF xs s) xs.length).1∧Below (w.heap.size+1+1) ((w.alloc (.cells #[.slice A xs.length c] 39)).alloc (.cells #[.int .i64 (s:Int)] 3)) w'):=by
  have h:=nat_carriedH (some ⟨w.heap.size,0,none⟩) (some ⟨w.heap.size+1,0,none⟩) (shrF xs s) xs.length 1 ((w.alloc (.cells #[.slice A xs.length c] 39)).alloc (.cells #[.int .i64 (s:Int)] 3)) (by omega) (fun j hj=>by rw [hc0];omega) (fun j q W hj hq hW=> ?_)
  · simp only [World.size_alloc] at h
    exact h
  · have hsz:=hW.size
    simp only [World.size_alloc] at hsz hW;exact nat_shr1 A xs.length c w.heap.size (w.heap.size+1) xs s j q W ((hW.cell (p:=⟨w.heap.size,0,none⟩) (by show w.heap.size<_;omega)).trans Hca.out) ((hW.cell (p:=⟨w.heap.size+1,0,none⟩) (by show w.heap.size+1<_;omega)).trans Hcb.out) (Hx.out.below hW (by simp)) hj (by omega) hs
 have hmax:max (s:Int) 0=(s:Int):=by omega
 have hs0:(0:Int)≤(s:Int):=by omega
 have hsd:(s:Int).tdiv 64=0:=by rw [Int.tdiv_eq_ediv_of_nonneg (by omega)];omega
 have hsm:(s:Int).tmod 64=(s:Int):=by rw [Int.tmod_eq_emod_of_nonneg (by omega)];omega
 obtain ⟨k,hk⟩:∃k,xs.length=k:=⟨_,rfl⟩
 clear hx Hca Hcb Hx hc0
 rw [hk] at C hok hlen hal0 hval hn hn0 hnc ⊢
 clear hk
 have hn1:¬(k:Int)≤0:=by omega
 have hn2:(0:Int)≤(k:Int):=by omega
 have hn3:(k:Int)≤(c:Int):=by omega
 go_enter Tryz.func119,Tryz.ntmps119
 go_wp2_with fail
 all_goals
  refine C.out.mono ?_;rintro e w1 ⟨rfl,hrow,hb1⟩;have hb01:=hiD (hal0.trans (hb1.mono (by omega)));have hL:=hrow.limbs hok.out;rw [hlen.out] at hL;have HL:=hiD hL;have hge:Hid (w.heap.size≤w.heap.size+1+1):=by show _≤_;omega
  have hpl:=hiD (plainL_take hok.out hlen.out);clear hL hb1 hrow;generalize (carL (shrF xs s) k).2=q at*
  generalize (carL (shrF xs s) k).1=us at*
  generalize w.heap.size+1+1=g at*
  go_wp2_with fail
  refine (nplain_any (some ⟨g,0,none⟩) k k us w1 HL.out lRr (by omega)).mono ?_;rintro e w2 ⟨rfl,rfl⟩;have hlm:=lmN_le us k;have hln:(us.take (lmN us k)).length=lmN us k:=by rw [List.length_take,hlen.out];omega
  have F:Hid (∃zs,PlainL zs∧limbs zs=limbs xs / 2^s∧zs.length≤k∧GivesNew w zs (.returned (.slice (some ⟨g,0,none⟩) (lmN us k) k)) w2):=
   ⟨us.take (lmN us k),hpl.out.1,by rw [hpl.out.2];exact hval.out,by omega,some ⟨g,0,none⟩,lmN us k,k,rfl,hlm,by omega,HL.out.take hlm,fun y hy=>by injection hy with hy;subst hy;exact hge.out,hb01.out⟩
  clear hlm hln;go_wp2_with fail
  go_ret;exact F.out
end Go.Proofs.YtehcoffbiplphaaGreat
namespace Cl
open Go Go.RowKit
theorem lmbs_take (xs:List Int) (k:Nat):lmbs (xs.take k)=(lmbs xs).take k:=by simp [lmbs]
theorem ownsRow_take {w:World} {base:Nat} {e:TypeId} {A:Option Addr} {n m c:Nat} {xs:List Value}(h:w.ownsRow base e 1 (.slice A n c) n xs) (hm:m≤n):w.ownsRow base e 1 (.slice A m c) m (xs.take m):=by
 refine ⟨by rw [List.length_take,h.1];omega,?_⟩
 rcases h.2 with ⟨hv,h0⟩ | ⟨g,cap,cur,hv,hb,hg,hnc,hcm,hcs,ht⟩
 · injection hv with h1 h2 h3
   subst h1;subst h3;have:m=0:=by omega
   subst this;exact .inl ⟨rfl,rfl⟩
 · injection hv with h1 h2 h3
   subst h1;subst h3;refine .inr ⟨g,c,cur,rfl,hb,hg,by omega,hcm,hcs,?_⟩;rw [← ht,List.take_take,Nat.mul_one,Nat.mul_one,Nat.min_eq_left hm]
theorem zeroCells_eq (z:Value) (k:Nat):Builtin.zeroCells #[z] k=(List.replicate k z).toArray:=by
 apply Array.ext
 · simp [Builtin.zeroCells]
 · intro i h1 h2
   simp [Builtin.zeroCells,Nat.mod_one]
theorem run_append_zeros_own {P:Program}(w:World) (base:Nat) (t tn ty e:TypeId) (i:TypeInfo) (z:Value) (kq kn:IntKind) (ht:P.underlying t=some (.slice e)) (htn:P.underlying tn=some (.int kn)) (hi:P.info? e=some i) (hz:i.zero=some z)
 (hsize:i.size=1) (hby:i.bytes=8) (hzc:z.cells=#[z]) (hz1:z.oneCell'=true) (v:Value) (n:Nat) (xs:List Value) (hown:w.ownsRow base e 1 v n xs) (k:Nat) (hbytes:n+k≤17592186044416) (hbase:base≤w.heap.size):
 ∃v' w',(Builtin.append_ #[t,tn] ty #[v,.int kq (k:Int)]).run P w=.ok v' w'∧w'.ownsRow base e 1 v' (n+k) (xs++List.replicate k z)∧w.grownBy w' v.ownBlock∧(v'.ownBlock=v.ownBlock∨v'.ownBlock=some w.heap.size):=by
 have hlen:(xs++List.replicate k z).length=(n+k)*1:=by rw [List.length_append,hown.1,List.length_replicate];omega
 have hw:IntKind.i64.wrap (k:Int)=k:=by rw [IntKind.wrap_i64];omega
 have hneg:¬((k:Int)<0):=by omega
 have h48i:¬(281474976710656<(k:Int)*(i.bytes:Int)):=by rw [hby];omega
 by_cases hk:k=0
 · subst hk
   have hw0:IntKind.i64.wrap 0=0:=by decide
   refine ⟨v,w,?_,by simpa using hown,⟨rfl,rfl,rfl,lRr,fun _ _ _=>rfl⟩,.inl rfl⟩;rcases hown.2 with ⟨rfl,rfl⟩ | ⟨g,cap,cur,rfl,hbg,hg,hnc,hcm,hcs,htake⟩
   · simp [Builtin.append_,run_underlying ht,run_underlying htn,Go.sizeOf,typeInfo,hi,asInt,asIntOf,hw0]
   · simp [Builtin.append_,run_underlying ht,run_underlying htn,Go.sizeOf,typeInfo,hi,asInt,asIntOf,hw0,hnc,storeCells]
 · rcases hown.2 with ⟨rfl,rfl⟩ | ⟨g,cap,cur,rfl,hbg,hg,hnc,hcm,hcs,htake⟩
   · have hx:xs=[]:=List.eq_nil_of_length_eq_zero (by simpa using hown.1)
     subst hx;have hr:=Lib.run_append_nil_zeros (P:=P) w t tn ty e i z kq kn ht htn hi hz k (by omega) (by omega) (by omega) (by rw [hby];omega);have hge:=grownCap_ge w k 0 e;refine ⟨_,_,hr,⟨by simp,.inr ⟨w.heap.size,_,_,by simp,hbase,heap_alloc_new w.drew _,by simpa using hge,grownCap_le_maxLen w k 0 e (by unfold maxLen;omega),?_,?_⟩⟩,⟨rfl,rfl,rfl,by simp,fun j hj _=>heap_alloc_old w.drew _ hj⟩,.inr rfl⟩
     · rw [hzc,zeroCells_eq,zeroCells_eq]
       simp;omega
     · rw [hzc,zeroCells_eq,zeroCells_eq]
       simp
   · by_cases hroom:n+k≤cap
     · have hst:=run_storeCells_at P g (n*1) e (List.replicate k z) 0 cur w hg (by rw [List.length_replicate];omega) (fun u hu=>by rw [List.eq_of_mem_replicate hu];exact hz1)
       simp only [Nat.add_zero] at hst;refine ⟨.slice (some ⟨g,0,none⟩) (n+k) cap,w.setRow g (cur.toList.take (n*1)++List.replicate k z++cur.toList.drop (n*1+k)).toArray,?_,⟨hlen,.inr ⟨g,cap,_,rfl,hbg,setRow_heap w g cur _ e _ hg,hroom,hcm,?_,?_⟩⟩,⟨rfl,rfl,rfl,by simp [World.setRow],fun j _ hj=>setRow_other w g j _ (fun e=>hj (by simp [Value.ownBlock,e]))⟩,.inl rfl⟩
       · simp [Builtin.append_,run_underlying ht,run_underlying htn,Go.sizeOf,typeInfo,zeroValue,hi,hz,hzc,zeroCells_eq,asInt,asIntOf,hw,hneg,h48i,hroom,hsize,Addr.add_lit] at hst ⊢
         simp [hst];exact fun h=>absurd h hk
       · simp only [List.size_toArray,List.length_append,List.length_take,List.length_drop,Array.length_toList,List.length_replicate]
         omega
       · rw [htake]
         show ((xs++List.replicate k z)++_).take ((n+k)*1)=_;rw [← hlen];exact List.take_left
     · have hcells:=hown.cells (g:=g) rfl
       have hold:(Builtin.firstCells i.size n (.slice (some ⟨g,0,none⟩) n cap)).run P w.drew=.ok xs.toArray w.drew:=run_firstCells_some (P:=P) w.drew i.size n ⟨g,0,none⟩ n cap xs (by rw [hsize];exact hown.1) hcells;have hr:=Lib.run_append_grow_zeros (P:=P) w t tn ty e i z kq kn ht htn hi hz (some ⟨g,0,none⟩) n cap xs hold k (by omega) (by omega) (by omega) (by omega) (by rw [hby];omega) (growslice_fits (by omega) (by rw [hby];omega));have hge:=grownCap_ge w (n+k) cap e;refine ⟨_,_,hr,⟨hlen,.inr ⟨w.heap.size,_,_,rfl,hbase,heap_alloc_new w.drew _,hge,grownCap_le_maxLen w (n+k) cap e (by unfold maxLen;omega),?_,?_⟩⟩,⟨rfl,rfl,rfl,by simp,fun j hj _=>heap_alloc_old w.drew _ hj⟩,.inr rfl⟩
       · have:=hown.1
         rw [hzc,zeroCells_eq,zeroCells_eq];simp;omega
       · rw [hzc,zeroCells_eq,zeroCells_eq]
         simp only [Array.toList_append,List.append_assoc];rw [← List.append_assoc,← hlen];exact List.take_left
end Cl
namespace Go.Proofs.YtehcoffbiplphaaGreat
open Go.RowKit Cl
attribute [local go_sem ↓] Go.wp_at_zero Go.wp_at_succ
def GivesOwn (w:World) (xs:List Int) (e:Ending) (w':World):Prop:=
 ∃A n c,e=.returned (.slice A n c)∧n≤c∧c≤9223372036854775807∧Limbs w' A n xs∧w'.ownsRow w.heap.size 38 1 (.slice A n c) n (lmbs xs)∧(∀x,A=some x→w.heap.size≤x.block)∧Below w.heap.size w w'
def GivesOwnE (w:World) (xs:List Int) (e:Ending) (w':World):Prop:=
 ∃A n c,e=.returned (.tuple #[.slice A n c,.int .i64 0])∧n≤c∧c≤9223372036854775807∧Limbs w' A n xs∧w'.ownsRow w.heap.size 38 1 (.slice A n c) n (lmbs xs)∧(∀x,A=some x→w.heap.size≤x.block)∧Below w.heap.size w w'
def ShlOut (w:World) (xs:List Int) (s n:Nat) (e:Ending) (w':World):Prop:=
 ∃zs A k c,e=.returned (.tuple #[.slice A k c,.int .i64 0])∧PlainL zs∧limbs zs=limbs xs*2^s∧k≤n+1∧k≤c∧c≤9223372036854775807∧Limbs w' A k zs∧w'.ownsRow w.heap.size 38 1 (.slice A k c) k (lmbs zs)∧(∀x,A=some x→w.heap.size≤x.block)∧Below w.heap.size w w'
theorem own_mono {w:World} {base base':Nat} {e:TypeId} {size:Nat} {v:Value} {n:Nat} {xs:List Value}(h:w.ownsRow base e size v n xs) (hb:base'≤base):w.ownsRow base' e size v n xs:=by
 refine ⟨h.1,?_⟩
 rcases h.2 with h2 | ⟨g,cap,cur,hv,hg,r⟩
 · exact .inl h2
 · exact .inr ⟨g,cap,cur,hv,Nat.le_trans hb hg,r⟩
theorem nat_subO (A B:Option Addr) (n m c d:Nat) (xs ys:List Int) (w:World) (hx:Limbs w A n xs) (hy:Limbs w B m ys) (hn:n≤8500000000000) (hm:m≤8500000000000) (hle:limbs ys≤limbs xs):
 Calls Tryz.prog 89 #[.slice A n c,.slice B m d] w (GivesOwnE w (subL xs ys)):=by
 obtain ⟨i0,hi,hz0,hz1,hz2⟩:=info_parts uint_info
 have hxl:=hx.len
 have hyl:=hy.len
 obtain ⟨k,hk⟩:∃k:Nat,k=max n m:=⟨_,rfl⟩
 have hk8:k≤8500000000000:=by omega
 have hok:=hiD (carL_ok (subF_lt xs ys) k)
 have hlen:=hiD (carL_length (subF xs ys) k)
 have hres:Hid (subL xs ys=(carL (subF xs ys) k).1.take (lmN (carL (subF xs ys) k).1 k)):=by
  show _=_;unfold subL;rw [hxl,hyl,← hk]
 have hb0:Hid ((carL (subF xs ys) k).2=0):=by
  have h:=(subL_spec hx.ok hy.ok hle).1;rw [hxl,hyl,← hk] at h;exact h
 have hal0:Below w.heap.size w ((w.alloc (.cells #[.slice A n c] 39)).alloc (.cells #[.slice B m d] 39)):=(bRr.alloc lRr _).alloc (by simp) _
 have ca:((w.alloc (.cells #[.slice A n c] 39)).alloc (.cells #[.slice B m d] 39)).cell? ⟨w.heap.size,0,none⟩=some (.slice A n c):=cell_old0 _ _ _ _
 have cb:((w.alloc (.cells #[.slice A n c] 39)).alloc (.cells #[.slice B m d] 39)).cell? ⟨w.heap.size+1,0,none⟩=some (.slice B m d):=cell_new1 _ _ _ _
 have Hx:=hiD (hx.bel hal0)
 have Hy:=hiD (hy.bel hal0)
 have Hca:=hiD ca
 have Hcb:=hiD cb
 have C:Hid (Calls Tryz.prog 121 #[.int .i64 (k:Int),.func (.func 126) #[] #[.pointer (some ⟨w.heap.size,0,none⟩),.pointer (some ⟨w.heap.size+1,0,none⟩)]] ((w.alloc (.cells #[.slice A n c] 39)).alloc (.cells #[.slice B m d] 39)) fun e w'=>e=.returned (.tuple #[.slice (some ⟨w.heap.size+1+1,0,none⟩) k k,.int .u64 0])∧RowL w' (w.heap.size+1+1) 38 (carL (subF xs ys) k).1∧Below (w.heap.size+1+1) ((w.alloc (.cells #[.slice A n c] 39)).alloc (.cells #[.slice B m d] 39)) w'):=by
  have h:=nat_carriedS (some ⟨w.heap.size,0,none⟩) (some ⟨w.heap.size+1,0,none⟩) (subF xs ys) k 2 ((w.alloc (.cells #[.slice A n c] 39)).alloc (.cells #[.slice B m d] 39)) (by omega) (fun j hj=>by have:=(subF_val hx.ok hy.ok j).1;omega) (fun j q W hj hq hW=> ?_)
  · simp only [World.size_alloc] at h
    rw [hb0.out] at h;exact h
  · have hs:=hW.size
    simp only [World.size_alloc] at hs hW;exact nat_sub1 A B n m c d w.heap.size (w.heap.size+1) xs ys j q W ((hW.cell (p:=⟨w.heap.size,0,none⟩) (by show w.heap.size<_;omega)).trans Hca.out) ((hW.cell (p:=⟨w.heap.size+1,0,none⟩) (by show w.heap.size+1<_;omega)).trans Hcb.out) (Hx.out.below hW (by simp)) (Hy.out.below hW (by simp)) (by omega) (by omega) (by omega) (by omega)
 clear hx hy hxl hyl ca cb Hca Hcb hb0 hle
 rcases Nat.lt_trichotomy m n with hmn | hmn | hmn
 · obtain rfl:k=n:=by omega
   have hmx:¬(k:Int)≤(m:Int):=by omega
   have hmx2:(m:Int)<(k:Int):=by omega
   have hmax:max (k:Int) (m:Int)=(k:Int):=by omega
   clear hk;go_enter Tryz.func89,Tryz.ntmps89
   go_wp2_with fail
   refine C.out.mono ?_;rintro e w1 ⟨rfl,hrow,hb1⟩;have hb01:Below w.heap.size w w1:=hal0.trans (hb1.mono (by omega));have hL1:=hrow.limbs hok.out;rw [hlen.out] at hL1;have HL1:=hiD hL1;have Hrow:=hiD hrow;clear C hrow Hx Hy hL1;generalize (carL (subF xs ys) k).1=us at*
   go_wp2_with fail
   refine (nplain_any (some ⟨w.heap.size+1+1,0,none⟩) k k us w1 HL1.out lRr (by omega)).mono ?_;rintro e w3 ⟨rfl,rfl⟩;have hlm:=lmN_le us k;go_wp2_with fail
   go_ret2;refine ⟨some ⟨w.heap.size+1+1,0,none⟩,_,k,rfl,hlm,by omega,?_,?_,fun x hx=> ?_,hb01⟩
   · rw [hres.out]
     exact HL1.out.take hlm
   · have h:=Hrow.out.own (base:=w.heap.size) (by omega) (n:=lmN us k) (by rw [hlen.out];exact hlm) (by rw [hlen.out];unfold maxLen;omega)
     rw [hlen.out,← hres.out] at h;exact h
   · injection hx with hx
     rw [← hx];show w.heap.size≤w.heap.size+1+1;omega
 · obtain rfl:k=n:=by omega
   obtain rfl:k=m:=by omega
   have hmx:max (k:Int) (k:Int)=(k:Int):=by omega
   clear hk;go_enter Tryz.func89,Tryz.ntmps89
   go_wp2_with fail
   refine C.out.mono ?_;rintro e w1 ⟨rfl,hrow,hb1⟩;have hb01:Below w.heap.size w w1:=hal0.trans (hb1.mono (by omega));have hL1:=hrow.limbs hok.out;rw [hlen.out] at hL1;have HL1:=hiD hL1;have Hrow:=hiD hrow;clear C hrow Hx Hy hL1;generalize (carL (subF xs ys) k).1=us at*
   go_wp2_with fail
   refine (nplain_any (some ⟨w.heap.size+1+1,0,none⟩) k k us w1 HL1.out lRr (by omega)).mono ?_;rintro e w3 ⟨rfl,rfl⟩;have hlm:=lmN_le us k;go_wp2_with fail
   go_ret2;refine ⟨some ⟨w.heap.size+1+1,0,none⟩,_,k,rfl,hlm,by omega,?_,?_,fun x hx=> ?_,hb01⟩
   · rw [hres.out]
     exact HL1.out.take hlm
   · have h:=Hrow.out.own (base:=w.heap.size) (by omega) (n:=lmN us k) (by rw [hlen.out];exact hlm) (by rw [hlen.out];unfold maxLen;omega)
     rw [hlen.out,← hres.out] at h;exact h
   · injection hx with hx
     rw [← hx];show w.heap.size≤w.heap.size+1+1;omega
 · obtain rfl:k=m:=by omega
   have hmx:(n:Int)≤(k:Int):=by omega
   have hmx2:(n:Int)<(k:Int):=by omega
   have hmax:max (n:Int) (k:Int)=(k:Int):=by omega
   have hmx3:¬(k:Int)≤(n:Int):=by omega
   have hmx4:¬(k:Int)<(n:Int):=by omega
   clear hk;go_enter Tryz.func89,Tryz.ntmps89
   go_wp2_with fail
   refine C.out.mono ?_;rintro e w1 ⟨rfl,hrow,hb1⟩;have hb01:Below w.heap.size w w1:=hal0.trans (hb1.mono (by omega));have hL1:=hrow.limbs hok.out;rw [hlen.out] at hL1;have HL1:=hiD hL1;have Hrow:=hiD hrow;clear C hrow Hx Hy hL1;generalize (carL (subF xs ys) k).1=us at*
   go_wp2_with fail
   refine (nplain_any (some ⟨w.heap.size+1+1,0,none⟩) k k us w1 HL1.out lRr (by omega)).mono ?_;rintro e w3 ⟨rfl,rfl⟩;have hlm:=lmN_le us k;go_wp2_with fail
   go_ret2;refine ⟨some ⟨w.heap.size+1+1,0,none⟩,_,k,rfl,hlm,by omega,?_,?_,fun x hx=> ?_,hb01⟩
   · rw [hres.out]
     exact HL1.out.take hlm
   · have h:=Hrow.out.own (base:=w.heap.size) (by omega) (n:=lmN us k) (by rw [hlen.out];exact hlm) (by rw [hlen.out];unfold maxLen;omega)
     rw [hlen.out,← hres.out] at h;exact h
   · injection hx with hx
     rw [← hx];show w.heap.size≤w.heap.size+1+1;omega
theorem nat_lessO (A B:Option Addr) (n m c d:Nat) (xs ys:List Int) (w:World) (hx:Limbs w A n xs) (hy:Limbs w B m ys) (hn:n≤8500000000000) (hm:m≤8500000000000) (hle:limbs ys≤limbs xs):
 Calls Tryz.prog 118 #[.slice A n c,.slice B m d] w (GivesOwn w (subL xs ys)):=by
 have C:=hiD (nat_subO A B n m c d xs ys w hx hy hn hm hle)
 clear hx hy hle
 go_enter Tryz.func118,Tryz.ntmps118
 go_wp2_with fail
 refine C.out.mono ?_
 rintro e w1 ⟨A1,k1,c1,rfl,g1,g2,g3,go,g4,g5⟩
 have G3:=hiD g3
 have G4:=hiD g4
 have Go:=hiD go
 have G5:=hiD g5
 clear g3 g4 g5 go
 go_wp2_with fail
 go_ret
 exact ⟨A1,k1,c1,rfl,g1,g2,G3.out,Go.out,G4.out,G5.out⟩
theorem nat_movedO (A:Option Addr) (n c:Nat) (xs:List Int) (k:Nat) (w:World) (hx:Limbs w A n xs) (hn:n≤8500000000000) (hk:k≤8500000000000):
 Calls Tryz.prog 136 #[.slice A n c,.int .i64 (k:Int)] w (GivesOwn w (List.replicate k 0++xs)):=by
 obtain ⟨i0,hi,hz0,hz1,hz2⟩:=info_parts uint_info
 have hmk:=run_make_limbs Tryz.underlying39 hi hz0 hz1 hz2 k (by omega) w
 have hl:=hx.len
 have Hr:=hiD hx.reads
 have Hok:=hiD hx.ok
 have hrow:=RowL.new w 38 (List.replicate k 0)
 have hown0:Hid ((w.alloc (.cells (lmbs (List.replicate k 0)).toArray 38)).ownsRow w.heap.size 38 1 (.slice (some ⟨w.heap.size,0,none⟩) k k) k (lmbs (List.replicate k 0))):=by
  have h:=hrow.own lRr (n:=k) (by rw [List.length_replicate];exact lRr) (by rw [List.length_replicate];unfold maxLen;omega);rw [List.length_replicate,List.take_of_length_le (by rw [List.length_replicate];exact lRr)] at h;exact h
 have hn0:(0:Int)≤(k:Int):=by omega
 clear hx hl hrow
 go_enter Tryz.func136,Tryz.ntmps136
 go_wp2_with (at_builtin;go_must (refine wpList_append_any (w:=w.alloc (.cells (lmbs (List.replicate k 0)).toArray 38)) rfl _ _ 39 rfl w.heap.size 38 i0 (.int .u64 0) 1 8 Tryz.underlying39 hi hz0 hz1 hz2 rfl (by decide) _ k (lmbs (List.replicate k 0)) rfl hown0.out w.heap.size A n c (lmbs xs) rfl (Hr.out.alloc lRr _) (lmbs_oneCell xs) (by unfold maxLen;omega) (by omega) (by simp) ?_);intro v' w1 hown hgrow hat)
 have hown2:w1.ownsRow w.heap.size 38 1 v' (k+n) (lmbs (List.replicate k 0++xs)):=by rw [lmbs_append];exact hown
 have hb:Below w.heap.size w w1:=((Below.refl _ w).alloc lRr _).grown hgrow (by simp) (fun k hk=>(hown0.out.lt k hk).1)
 have Hown2:=hiD hown2
 have Hb:=hiD hb
 clear hown hgrow hat hb hown2
 obtain ⟨A',c',rfl⟩:=own_slice Hown2.out
 go_wp2_with fail
 go_ret
 have hcc:k+n≤c'∧c'≤9223372036854775807:=by
  rcases Hown2.out.2 with ⟨hv,h0⟩ | ⟨g,cap,cur,hv,_,_,hnc,hcm,_⟩
  · injection hv;omega
  · injection hv with _ _ e
    unfold maxLen at hcm;omega
 exact ⟨A',k+n,c',rfl,hcc.1,hcc.2,Limbs.of_own Hown2.out (ok_moved Hok.out),Hown2.out,fun y hy=>(Hown2.out.lt y.block (by subst hy;rfl)).1,Hb.out⟩
theorem nat_shlO (A:Option Addr) (n c:Nat) (xs:List Int) (s:Nat) (w:World) (hx:Limbs w A n xs) (hn:n≤4000000000000) (hs:s<64):
 Calls Tryz.prog 115 #[.slice A n c,.int .i64 (s:Int)] w (ShlOut w xs s n):=by
 obtain ⟨i0,hi,hz0,hz1,hz2⟩:=info_parts uint_info
 obtain rfl:=hx.len
 have hxl:2^s<18446744073709551616:=two_pow_lt64 hs
 have hrl:=hiD (rowL_spec hx.ok hxl)
 have hok:=hiD (carL_ok (rowF_lt xs (2^s)) xs.length)
 have hlen:=hiD (carL_length (rowF xs (2^s)) xs.length)
 have hres:Hid (rowL xs (2^s)=(carL (rowF xs (2^s)) xs.length).1++[((carL (rowF xs (2^s)) xs.length).2:Int)]):=rfl
 have hal0:Below w.heap.size w ((w.alloc (.cells #[.slice A xs.length c] 39)).alloc (.cells #[.int .i64 (s:Int)] 3)):=(bRr.alloc lRr _).alloc (by simp) _
 have Hca:Hid (((w.alloc (.cells #[.slice A xs.length c] 39)).alloc (.cells #[.int .i64 (s:Int)] 3)).cell? ⟨w.heap.size,0,none⟩=some (.slice A xs.length c)):=cell_old0 _ _ _ _
 have Hcb:Hid (((w.alloc (.cells #[.slice A xs.length c] 39)).alloc (.cells #[.int .i64 (s:Int)] 3)).cell? ⟨w.heap.size+1,0,none⟩=some (.int .i64 (s:Int))):=cell_new1 _ _ _ _
 have hcb2:=Hcb.out
 have Hx:=hiD (hx.bel hal0)
 have hcar:=carL_shl hx.ok hs
 obtain ⟨k,hk⟩:∃k,xs.length=k:=⟨_,rfl⟩
 have C:Hid (Calls Tryz.prog 121 #[.int .i64 (xs.length:Int),.func (.func 142) #[] #[.pointer (some ⟨w.heap.size,0,none⟩),.pointer (some ⟨w.heap.size+1,0,none⟩)]] ((w.alloc (.cells #[.slice A xs.length c] 39)).alloc (.cells #[.int .i64 (s:Int)] 3)) fun e w'=>e=.returned (.tuple #[.slice (some ⟨w.heap.size+1+1,0,none⟩) xs.length xs.length,.int .u64 ((carL (rowF xs (2^s)) xs.length).2:Int)])∧RowL w' (w.heap.size+1+1) 38 (carL (rowF xs (2^s)) xs.length).1∧Below (w.heap.size+1+1) ((w.alloc (.cells #[.slice A xs.length c] 39)).alloc (.cells #[.int .i64 (s:Int)] 3)) w'):=by
  have h:=nat_carriedL (some ⟨w.heap.size,0,none⟩) (some ⟨w.heap.size+1,0,none⟩) (rowF xs (2^s)) xs.length (2^s) ((w.alloc (.cells #[.slice A xs.length c] 39)).alloc (.cells #[.int .i64 (s:Int)] 3)) (by omega) (fun j hj=>hcar j) (fun j q W hj hq hW=> ?_)
  · simp only [World.size_alloc] at h
    exact h
  · have hsz:=hW.size
    simp only [World.size_alloc] at hsz hW;exact nat_shl1 A xs.length c w.heap.size (w.heap.size+1) xs s j q W ((hW.cell (p:=⟨w.heap.size,0,none⟩) (by show w.heap.size<_;omega)).trans Hca.out) ((hW.cell (p:=⟨w.heap.size+1,0,none⟩) (by show w.heap.size+1<_;omega)).trans Hcb.out) (Hx.out.below hW (by simp)) hj (by omega) hs hq
 have hq:(carL (rowF xs (2^s)) xs.length).2<18446744073709551616:=Nat.lt_trans (hcar _) hxl
 clear hx Hca Hcb Hx hxl hcar
 rw [hk] at C hok hlen hres hal0 hrl hn hq hcb2 ⊢
 clear hk
 have hs0:¬(s:Int)<0:=by omega
 have hs1:¬(262144:Int)<(s:Int):=by omega
 have hsd:(s:Int).tdiv 64=0:=by rw [Int.tdiv_eq_ediv_of_nonneg (by omega)];omega
 go_enter Tryz.func115,Tryz.ntmps115
 go_wp2_with fail
 refine C.out.mono ?_
 rintro e w1 ⟨rfl,hrow,hb1⟩
 have hb01:Below w.heap.size w w1:=hal0.trans (hb1.mono (by omega))
 have hs1:w.heap.size+1+1<w1.heap.size:=hrow.lt
 have hbx:=(hb1.cell (p:=⟨w.heap.size+1,0,none⟩) (by show w.heap.size+1<_;omega)).trans hcb2
 have hown0:Hid (w1.ownsRow (w.heap.size+1+1) 38 1 (.slice (some ⟨w.heap.size+1+1,0,none⟩) k k) k (lmbs (carL (rowF xs (2^s)) k).1)):=by
  have h:=hrow.own lRr (n:=k) (by rw [hlen.out];exact lRr) (by rw [hlen.out];unfold maxLen;omega);rw [hlen.out,List.take_of_length_le (by rw [hlen.out];exact lRr)] at h;exact h
 clear C hrow hcb2
 generalize (carL (rowF xs (2^s)) k).2=q at*
 generalize (carL (rowF xs (2^s)) k).1=us at*
 have hzz:Hid (lmbs us++[.int .u64 (q:Int)]=lmbs (us++[(q:Int)])):=by show _=_;rw [lmbs_append];rfl
 have HL:Hid (∀(W:World) (gg cap:Nat),W.ownsRow (w.heap.size+1+1) 38 1 (.slice (some ⟨gg,0,none⟩) (k+1) cap) (k+1) (lmbs us++[.int .u64 (q:Int)])→Limbs W (some ⟨gg,0,none⟩) (k+1) (us++[(q:Int)])):=fun W gg cap h=>Limbs.of_own (by rw [← hzz.out];exact h) (hok.out.snoc (by omega) (by omega))
 have q1:Hid (k+1≤maxLen):=by show _≤_;unfold maxLen;omega
 have q2:Hid ((k+1)*8≤140737488355328):=by show _≤_;omega
 have q3:Hid (∀(o:Obj),w.heap.size+1+1≤(w1.drew.alloc o).heap.size):=fun o=>by
  have h1:(w1.drew.alloc o).heap.size=w1.heap.size+1:=World.size_alloc ..;omega
 have q4:Hid (∀(o:Obj),(w1.drew.alloc o).heap.size=w1.heap.size+1):=fun o=>World.size_alloc ..
 have q5:Hid (∀(o:Obj),(w1.drew.alloc o).ownsRow (w.heap.size+1+1) 38 1 (.slice (some ⟨w.heap.size+1+1,0,none⟩) k k) k (lmbs us)):=fun o=>World.ownsRow.alloc (w:=w1.drew) hown0.out o
 have q6:Hid (∀u∈ [Value.int .u64 (q:Int)],u.oneCell'=true):=fun u hu=>by rw [List.mem_singleton.1 hu];rfl
 have hkeep2:Hid (∀(o:Obj) (W':World),(w1.drew.alloc o).grownBy W' (some (w.heap.size+1+1))→W'.cell? ⟨w.heap.size+1,0,none⟩=some (.int .i64 (s:Int))):=fun o W' hg=>by
  have ho:Only (fun k=>some (w.heap.size+1+1)=some k) (w1.drew.alloc o) W':=(Only.of_grown hg).mono (fun i hi=>by first | exact hi | exact hi.symm);have hlt:(Addr.mk (w.heap.size+1) 0 none).block<(w1.drew.alloc o).heap.size:=by rw [q4.out];show w.heap.size+1<_;omega
  refine (ho.cell (p:=⟨w.heap.size+1,0,none⟩) hlt (fun e=>by injection e with e;have e2:w.heap.size+1+1=w.heap.size+1:=e;omega)).trans ?_;exact (World.cell?_alloc_lt w1.drew o ⟨w.heap.size+1,0,none⟩ (by show w.heap.size+1<w1.heap.size;omega)).trans hbx
 have HM:Hid (∀(A:Option Addr) (c:Nat) (W:World),Limbs W A (k+1) (us++[(q:Int)])→Calls Tryz.prog 136 #[.slice A (k+1) c,.int .i64 0] W (GivesOwn W (us++[(q:Int)]))):=fun A c W h=>nat_movedO A (k+1) c _ 0 W h (by omega) (by omega)
 have hkeepD:Hid (∀(o:Obj),(w1.drew.alloc o).cell? ⟨w.heap.size+1,0,none⟩=some (.int .i64 (s:Int))):=fun o=>(World.cell?_alloc_lt w1.drew o ⟨w.heap.size+1,0,none⟩ (by show w.heap.size+1<w1.heap.size;omega)).trans hbx
 have hkeep3:Hid (∀(o:Obj) (W':World),(w1.drew.alloc o).grownBy W' (some (w.heap.size+1+1))→∀W3,Below W'.heap.size W' W3→W3.cell? ⟨w.heap.size+1,0,none⟩=some (.int .i64 (s:Int))):=fun o W' hg W3 h3=>by
  have hsz:=(Only.of_grown hg).size;rw [q4.out] at hsz;exact (h3.cell (p:=⟨w.heap.size+1,0,none⟩) (by show w.heap.size+1<_;omega)).trans (hkeep2.out o W' hg)
 have hszz:Hid (∀(o:Obj) (W':World),(w1.drew.alloc o).grownBy W' (some (w.heap.size+1+1))→w.heap.size≤W'.heap.size):=fun o W' hg=>by
  have hsz:=(Only.of_grown hg).size;rw [q4.out] at hsz;omega
 have hbel:Hid (∀(o:Obj) (W':World),(w1.drew.alloc o).grownBy W' (some (w.heap.size+1+1))→∀W3,Below W'.heap.size W' W3→Below w.heap.size w W3):=fun o W' hg W3 h3=>by
  have hbd:Below w.heap.size w (w1.drew.alloc o):=hb01.drew.alloc hb01.size o;have h2:=hbd.grown hg (by rw [q4.out];omega) (fun j hj=>by injection hj;omega);exact h2.tm h3
 go_wp2_with fail
 go_region_held3 (fun W=>W.cell? ⟨w.heap.size+1,0,none⟩=some (.int .i64 (s:Int)))
  (first | go_keep | exact hkeepD.out _ | exact hkeep2.out _ _ hgrow | exact hbx | exact hkeep3.out _ _ hgrow _ g5)
  (first
    | (go_at_call 136;refine (HM.out _ _ _ hL2).mono ?_;rintro e w3 ⟨A3,k3,c3,rfl,g1,g2,g3,go,g4,g5⟩)
    | (go_at_call 112;refine (nplain_any A3 k3 c3 _ w3 g3 g1 g2).mono ?_;rintro e w4 ⟨rfl,rfl⟩)
    | ((refine step_append_lies _ (by rfl) _ _ _ (by rfl) (w.heap.size+1+1) 38 i0 _ 1 8 Tryz.underlying39 hi hz0 hz1 hz2 rfl (by omega) (.slice (some ⟨w.heap.size+1+1,0,none⟩) k k) k (lmbs us) (by rfl) (q5.out _) ⟨w1.heap.size,0,none⟩ 1 1 [.int .u64 (q:Int)] (by rfl) (by rfl) (World.news_of_block (cs:=#[.int .u64 (q:Int)]) (t:=38) (fr:=(0,0)) (heap_alloc_new w1.drew _)) q6.out (Nat.one_pos) q1.out q2.out (q3.out _) (w1.heap.size+1) (q4.out _) ?_));intro gg cap w2 hown2 hgrow hat hlt2;have hL2:=HL.out _ _ _ hown2)
 have hl3:=g3.len
 rw [List.length_append,hlen.out] at hl3
 have hl4:k3=k+1:=by rw [← hl3];rfl
 subst hl4
 have hres2:=hrl.out
 rw [hres.out] at hres2
 have hpl:=plainL_take hres2.1 (n:=k+1) hres2.2.1
 have hlm:=lmN_le (us++[(q:Int)]) (k+1)
 have hgg:=(hown2.lt gg rfl).2
 have hg4:∀x,A3=some x→w.heap.size≤x.block:=fun x hx=>by
  have h1:=g4 x hx;have h2:=hszz.out _ _ hgrow;omega
 have hgo:w4.ownsRow w.heap.size 38 1 (.slice A3 (lmN (us++[(q:Int)]) (k+1)) c3) (lmN (us++[(q:Int)]) (k+1)) (lmbs ((us++[(q:Int)]).take (lmN (us++[(q:Int)]) (k+1)))):=by
  have h:=ownsRow_take (own_mono go (hszz.out _ _ hgrow)) hlm;rw [← lmbs_take] at h;exact h
 have F:Hid (ShlOut w xs s k (.returned (.tuple #[.slice A3 (lmN (us++[(q:Int)]) (k+1)) c3,.int .i64 0])) w4):=
  ⟨_,A3,_,c3,rfl,hpl.1,by rw [hpl.2];exact hres2.2.2,hlm,by omega,g2,g3.take hlm,hgo,hg4,hbel.out _ _ hgrow _ g5⟩
 go_wp2_with fail
 go_ret2
 exact F.out
end Go.Proofs.YtehcoffbiplphaaGreat
namespace Cl
theorem limbs_two (a b:Int):limbs [a,b]=a.toNat+18446744073709551616*b.toNat:=by
 show a.toNat+2^64*(b.toNat+2^64*0)=_
 omega
theorem limbs_three (a b c:Int):limbs [a,b,c]=a.toNat+18446744073709551616*(b.toNat+18446744073709551616*c.toNat):=by
 show a.toNat+2^64*(b.toNat+2^64*(c.toNat+2^64*0))=_
 omega
theorem drop_two {xs:List Int} {n:Nat}(h:xs.length=n+2):xs.drop n=[nth xs n,nth xs (n+1)]:=by
 rw [List.drop_eq_getElem_cons (by omega),List.drop_eq_getElem_cons (by omega),List.drop_eq_nil_of_le (by omega),nth_lt (by omega),nth_lt (by omega)]
theorem drop_three {xs:List Int} {n:Nat}(h:xs.length=n+3):xs.drop n=[nth xs n,nth xs (n+1),nth xs (n+2)]:=by
 rw [List.drop_eq_getElem_cons (by omega),List.drop_eq_getElem_cons (by omega),List.drop_eq_getElem_cons (by omega),List.drop_eq_nil_of_le (by omega),nth_lt (by omega),nth_lt (by omega),nth_lt (by omega)]
theorem top_two {xs:List Int} {n:Nat}(h:xs.length=n+2):((nth xs (n+1)).toNat*18446744073709551616+(nth xs n).toNat)*2^(64*n)≤limbs xs:=by
 have h1:=limbs_cut xs (k:=n) (by omega)
 rw [drop_two h,limbs_two] at h1
 rw [h1,Nat.mul_comm ((nth xs (n+1)).toNat)]
 have:(18446744073709551616*(nth xs (n+1)).toNat+(nth xs n).toNat)*2^(64*n)=2^(64*n)*((nth xs n).toNat+18446744073709551616*(nth xs (n+1)).toNat):=by rw [Nat.mul_comm,Nat.add_comm]
 omega
theorem top_three {xs:List Int}(ok:IsLimbs xs) {n:Nat}(h:xs.length=n+3):limbs xs<(((nth xs (n+2)).toNat*18446744073709551616+(nth xs (n+1)).toNat)*18446744073709551616+(nth xs n).toNat+1)*2^(64*n):=by
 have h1:=limbs_cut xs (k:=n) (by omega)
 rw [drop_three h,limbs_three] at h1
 have h2:=limbs_lt (ok.take n)
 rw [List.length_take,Nat.min_eq_left (by omega)] at h2
 have h3:(nth xs n).toNat+18446744073709551616*((nth xs (n+1)).toNat+18446744073709551616*(nth xs (n+2)).toNat)=((nth xs (n+2)).toNat*18446744073709551616+(nth xs (n+1)).toNat)*18446744073709551616+(nth xs n).toNat:=by omega
 rw [h1,h3]
 have:∀T,limbs (xs.take n)+2^(64*n)*T<(T+1)*2^(64*n):=fun T=>by
  clear h1 h3;generalize (2:Nat)^(64*n)=E at*
  rw [Nat.succ_mul,Nat.mul_comm];omega
 exact this _
theorem guess_ge {vs ps:List Int} {n g x:Nat}(hv:vs.length=n+2) (hp:ps.length=n+3) (ok:IsLimbs ps) (hx:x<18446744073709551616) (h:x*limbs vs≤limbs ps)
 (hg:GuOk (nth ps (n+2)).toNat (nth ps (n+1)).toNat (nth ps n).toNat (nth vs (n+1)).toNat (nth vs n).toNat g):x≤g:=by
 refine hg.2 x hx ?_
 exact guess_top (top_two hv) (top_three ok hp) h
structure DivAt (N V k:Nat) (us qs:List Int):Prop where
 uok:IsLimbs us
 qok:IsLimbs qs
 eq:N=limbs (qs.drop k)*V*2^(64*k)+limbs us
 lt:limbs us<V*2^(64*k)
theorem DivAt.split {N V k n:Nat} {us qs:List Int}(h:DivAt N V (k+1) us qs) (hV:V<2^(64*n)) (hk:k+n+1≤us.length):limbs us=limbs (us.take k)+2^(64*k)*limbs ((us.drop k).take (n+1))∧limbs ((us.drop k).take (n+1))<V*18446744073709551616:=by
 have h1:=limbs_cut us (k:=k) (by omega)
 have h2:=limbs_cut (us.drop k) (k:=n+1) (by rw [List.length_drop];omega)
 have h3:=h.lt
 have e1:(2:Nat)^(64*(k+1))=2^(64*k)*18446744073709551616:=by rw [show 64*(k+1)=64*k+64 by omega,Nat.pow_add]
 have hz:limbs ((us.drop k).drop (n+1))=0:=by
  rcases Nat.eq_zero_or_pos (limbs ((us.drop k).drop (n+1))) with h0 | h0
  · exact h0
  · exfalso
    have h4:V*2^(64*(k+1))≤2^(64*n)*2^(64*(k+1)):=Nat.mul_le_mul_right _ (Nat.le_of_lt hV);rw [← Nat.pow_add] at h4;have h5:2^(64*k)*(2^(64*(n+1))*1)≤2^(64*k)*(2^(64*(n+1))*limbs ((us.drop k).drop (n+1))):=Nat.mul_le_mul_left _ (Nat.mul_le_mul_left _ h0);rw [Nat.mul_one,← Nat.pow_add,show 64*k+64*(n+1)=64*n+64*(k+1) by omega] at h5;(have h6:2^(64*k)*limbs (us.drop k)=2^(64*k)*limbs ((us.drop k).take (n+1))+2^(64*k)*(2^(64*(n+1))*limbs ((us.drop k).drop (n+1))):=by rw [h2,Nat.mul_add]);omega
 rw [hz,Nat.mul_zero,Nat.add_zero] at h2
 rw [h2] at h1
 refine ⟨h1,?_⟩
 have h7:2^(64*k)*limbs ((us.drop k).take (n+1))<2^(64*k)*(V*18446744073709551616):=by
  have e2:V*2^(64*(k+1))=2^(64*k)*(V*18446744073709551616):=by rw [e1];ac_rfl
  omega
 exact Nat.lt_of_mul_lt_mul_left h7
theorem limbs_splice {us rs:List Int} {k:Nat}(hk:k+rs.length≤us.length) (hz:limbs (us.drop (k+rs.length))=0):limbs (Go.splice us k rs)=limbs (us.take k)+2^(64*k)*limbs rs:=by
 unfold Go.splice
 rw [limbs_append,limbs_append,hz,Nat.mul_zero,Nat.add_zero,List.length_take,Nat.min_eq_left (by omega)]
theorem nth_appD (xs ys:List Int) (i:Nat):nth (xs++ys) i=if i<xs.length then nth xs i else nth ys (i - xs.length):=by
 unfold nth
 simp only [List.getD,List.getElem?_append]
 split<;>rfl
theorem ok_append {xs ys:List Int}(hx:IsLimbs xs) (hy:IsLimbs ys):IsLimbs (xs++ys):=fun i=>by
 rw [nth_appD]
 split
 · exact hx i
 · exact hy _
theorem ok_drop {xs:List Int}(hx:IsLimbs xs) (k:Nat):IsLimbs (xs.drop k):=fun i=>by
 have h:=hx (k+i)
 have e:nth (xs.drop k) i=nth xs (k+i):=by unfold nth;simp [List.getD]
 rw [e];exact h
theorem ok_splice {us rs:List Int}(hu:IsLimbs us) (hr:IsLimbs rs) (k:Nat):IsLimbs (Go.splice us k rs):=ok_append (hu.take k) (ok_append hr (ok_drop hu _))
theorem DivAt.next {N V k n x:Nat} {us qs rs:List Int}(h:DivAt N V (k+1) us qs) (hV:V<2^(64*n)) (hk:k+n+1≤us.length) (hq:k<qs.length) (hx:x<18446744073709551616)
 (h1:x*V≤limbs ((us.drop k).take (n+1))) (h2:limbs ((us.drop k).take (n+1))<(x+1)*V) (hrl:rs.length=n+1) (hro:IsLimbs rs) (hr:limbs rs=limbs ((us.drop k).take (n+1)) - x*V):
 DivAt N V k (Go.splice us k rs) (qs.set k (x:Int)):=by
 obtain ⟨s1,s2⟩:=h.split hV hk
 have e1:(2:Nat)^(64*(k+1))=2^(64*k)*18446744073709551616:=by rw [show 64*(k+1)=64*k+64 by omega,Nat.pow_add]
 have hz:limbs (us.drop (k+(n+1)))=0:=by
  have h3:=limbs_cut us (k:=k+(n+1)) (by omega);rw [List.take_add,limbs_append,List.length_take,Nat.min_eq_left (by omega)] at h3;have h4:0<2^(64*(k+(n+1))):=Nat.two_pow_pos _;rcases Nat.eq_zero_or_pos (limbs (us.drop (k+(n+1)))) with h0 | h0
  · exact h0
  · have:=Nat.mul_pos h4 h0
    omega
 have e2:=limbs_splice (us:=us) (rs:=rs) (k:=k) (by omega) (by rw [hrl];exact hz)
 have e3:limbs ((qs.set k (x:Int)).drop k)=x+18446744073709551616*limbs (qs.drop (k+1)):=by
  rw [limbs_drop (by rw [List.length_set];exact hq),drop_set_eq,nth_set hq,if_pos rfl,Int.toNat_natCast]
 refine ⟨ok_splice h.uok hro k,h.qok.set k (by omega) (by omega),?_,?_⟩
 · rw [e3,e2,hr,h.eq,s1,e1]
   generalize limbs ((us.drop k).take (n+1))=P at*
   generalize limbs (qs.drop (k+1))=Q at*
   generalize (2:Nat)^(64*k)=E at*
   obtain ⟨r,rfl⟩:∃r,P=x*V+r:=⟨P - x*V,by omega⟩;rw [Nat.add_sub_cancel_left,Nat.mul_add,Nat.add_mul,Nat.add_mul];have a1:Q*V*(E*18446744073709551616)=18446744073709551616*Q*V*E:=by ac_rfl
   have a2:E*(x*V)=x*V*E:=Nat.mul_comm _ _;omega
 · rw [e2,hr]
   have h5:=limbs_lt (h.uok.take k);rw [List.length_take,Nat.min_eq_left (by omega)] at h5;generalize limbs ((us.drop k).take (n+1))=P at*
   generalize (2:Nat)^(64*k)=E at*
   have h6:P - x*V+1≤V:=by rw [Nat.add_mul] at h2;omega
   have h7:E*(P - x*V+1)≤E*V:=Nat.mul_le_mul_left _ h6;rw [Nat.mul_add,Nat.mul_comm E V] at h7;omega
theorem DivAt.done {X Y s:Nat} {us qs:List Int}(h:DivAt (X*2^s) (Y*2^s) 0 us qs):limbs qs=X / Y∧limbs us / 2^s=X % Y:=by
 have h1:=h.eq
 have h2:=h.lt
 rw [Nat.mul_zero,Nat.pow_zero,Nat.mul_one,List.drop_zero] at h1
 rw [Nat.mul_zero,Nat.pow_zero,Nat.mul_one] at h2
 have hP:0<2^s:=Nat.two_pow_pos s
 have h3:limbs qs*(Y*2^s)≤X*2^s:=by omega
 have h4:X*2^s<(limbs qs+1)*(Y*2^s):=by rw [Nat.add_mul];omega
 obtain ⟨h5,h6⟩:=dig_done h3 h4
 obtain ⟨h7,h8⟩:=div_moved X Y hP
 rw [← h7,← h8,h5]
 refine ⟨rfl,?_⟩
 rw [← h6]
 congr 1
 omega
theorem DivAt.start {X Y s la n:Nat} {us qs:List Int}(uok:IsLimbs us) (qok:IsLimbs qs) (hu:limbs us=X*2^s) (hX:X<2^(64*la)) (hY:2^(64*(n - 1))≤Y) (hn:0<n) (hla:n≤la+1) (hq:qs.length=la+1 - n):DivAt (X*2^s) (Y*2^s) (la+1 - n) us qs:=by
 have hP:0<2^s:=Nat.two_pow_pos s
 refine ⟨uok,qok,?_,?_⟩
 · rw [List.drop_eq_nil_of_le (by omega),hu]
   show _=0*_*_+_;omega
 · rw [hu]
   have h1:2^(64*(n - 1))*2^(64*(la+1 - n))≤Y*2^(64*(la+1 - n)):=Nat.mul_le_mul_right _ hY;rw [← Nat.pow_add,show 64*(n - 1)+64*(la+1 - n)=64*la by omega] at h1;rw [Nat.mul_right_comm];exact Nat.mul_lt_mul_of_pos_right (by omega) hP
end Cl
namespace Cl
open Go Go.RowKit
theorem own_form {w:World} {base:Nat} {e:TypeId} {A:Option Addr} {n c:Nat} {xs:List Value}(h:w.ownsRow base e 1 (.slice A n c) n xs) (hn:0<n):∃g,A=some ⟨g,0,none⟩∧base≤g∧g<w.heap.size∧n≤c∧c≤maxLen∧∃ex,w.heap[g]? =some (.cells (xs++ex).toArray e (0,0))∧n+ex.length=c:=by
 rcases h.2 with ⟨_,h0⟩ | ⟨g,cap,cur,hv,hb,hg,hnc,hcm,hcs,ht⟩
 · omega
 · injection hv with h1 h2 h3
   subst h1;subst h3;refine ⟨g,rfl,hb,(Array.getElem?_eq_some_iff.1 hg).1,hnc,hcm,cur.toList.drop n,?_,?_⟩
   · rw [hg,← ht,Nat.mul_one,List.take_append_drop]
   · rw [List.length_drop,Array.length_toList];omega
theorem own_cells {w:World} {base:Nat} {e:TypeId} {g n c:Nat} {xs:List Value}(h:w.ownsRow base e 1 (.slice (some ⟨g,0,none⟩) n c) n xs):∀j u,xs[j]? =some u→w.cell? ((⟨g,0,none⟩:Addr).add j)=some u:=h.cells rfl
theorem step_append_run {P:Program}(w:World) {ops:Array Oper} {o:Oper} {a:Act} {K:Act→World→Prop} {Q:Exit→Act→World→Prop} {E:Prop}(hgd:o.guard=none) (s x:Operand) (t tn:TypeId)
 (ho:o.op=.call { callee:=.builtin .append,args:=#[s,x],argTypes:=#[t,tn]}) (vs vx:Value) (hs:a.eval s=vs) (hx:a.eval x=vx)
 (v':Value) (w':World) (hr:(Builtin.append_ #[t,tn] o.type #[vs,vx]).run P w=.ok v' w') (h:K (a.put o.dst v') w'):if Region.wanted o (yielded ops a.tmps)=true then Oper.wp P o a w K Q else E:=by
 have hw:Region.wanted o (yielded ops a.tmps)=true:=by simp [Region.wanted,hgd]
 rw [if_pos hw]
 exact Lib.wp_append_run w s x t tn ho vs vx hs hx v' w' hr h
theorem step_copy_own {P:Program} {w:World} {ops:Array Oper} {o:Oper} {a:Act} {K:Act→World→Prop} {Q:Exit→Act→World→Prop} {E:Prop}(hgd:o.guard=none) (d s:Operand) (dT sT:TypeId)
 (ho:o.op=.call { callee:=.builtin .copy,args:=#[d,s],argTypes:=#[dT,sT]}) (elem:TypeId) (hu:P.underlying dT=some (.slice elem)) (hsz:(P.info? elem).map (·.size)=some 1)
 (g off dLen dCap:Nat) (ad:Addr) (sLen sCap:Nat) (hd:a.eval d=.slice (some ⟨g,off,none⟩) dLen dCap) (hs:a.eval s=.slice (some ad) sLen sCap)
 (cur:List Value) (t:TypeId) (hg:w.heap[g]? =some (.cells cur.toArray t (0,0))) (cs:List Value) (hn:cs.length=Nat.min sLen dLen)
 (hsrc:∀j v,cs[j]? =some v→w.cell? (ad.add j)=some v) (hfit:off+cs.length≤cur.length) (h1:∀v∈cs,v.oneCell'=true)
 (h:K (a.put o.dst (goInt cs.length)) (w.setRow g (splice cur off cs).toArray)):if Region.wanted o (yielded ops a.tmps)=true then Oper.wp P o a w K Q else E:=by
 have hw:Region.wanted o (yielded ops a.tmps)=true:=by simp [Region.wanted,hgd]
 rw [if_pos hw]
 have hrun:=run_copy_row (P:=P) w dT sT o.type elem g off dLen dCap ad sLen sCap cur.toArray t cs hu hsz hg hn hsrc (by simpa using hfit) h1
 have e:(cur.toArray.toList.take off++cs++cur.toArray.toList.drop (off+cs.length))=splice cur off cs:=by unfold splice;simp
 rw [e] at hrun
 unfold Oper.wp
 simp [execOp,ho,resolve,invoke,builtin,hd,hs,hrun,Result.andThen]
 exact h
def padL (ds:List Int) (m:Nat):List Int:=(ds++List.replicate m 0).take m
theorem padL_spec {ds:List Int}(ok:IsLimbs ds) {m:Nat}(h:ds.length≤m):(padL ds m).length=m∧IsLimbs (padL ds m)∧limbs (padL ds m)=limbs ds:=by
 have hz:IsLimbs (List.replicate m (0:Int)):=fun i=>by
  by_cases hi:i<(List.replicate m (0:Int)).length
  · rw [nth_lt hi,List.getElem_replicate];omega
  · rw [nth_ge (by omega)];omega
 have ho:=ok_append ok hz
 refine ⟨by unfold padL;rw [List.length_take,List.length_append,List.length_replicate];omega,ho.take m,?_⟩
 have h1:padL ds m=ds++List.replicate (m - ds.length) 0:=by
  unfold padL;rw [List.take_append,List.take_of_length_le h,List.take_replicate];congr 2
  omega
 rw [h1,limbs_append,limbs_replicate,Nat.mul_zero,Nat.add_zero]
end Cl
namespace Go.Proofs.YtehcoffbiplphaaGreat
open Go.RowKit Cl
def RowX (w:World) (g:Nat) (xs:List Int) (ex:List Value):Prop:=w.heap[g]? =some (.cells (lmbs xs++ex).toArray 38 (0,0))
section
variable {w w' : World} {g : Nat} {xs : List Int} {ex : List Value}
theorem RowX.lt (h:RowX w g xs ex):g<w.heap.size:=(Array.getElem?_eq_some_iff.1 h).1
theorem RowX.cell (h:RowX w g xs ex) {i:Nat}(hi:i<xs.length):w.cell? ⟨g,i,none⟩=some (.int .u64 (nth xs i)):=by
 rw [cell_of_row w g i _ _ (0,0) h]
 simp only [List.getElem?_toArray]
 rw [List.getElem?_append_left (by rw [lmbs_length];exact hi)]
 exact lmbs_get hi
theorem RowX.bel (h:RowX w g xs ex) (hb:Below w.heap.size w w'):RowX w' g xs ex:=(hb.block g h.lt).trans h
theorem RowX.far (h:RowX w g xs ex) {p:Addr}(hp:g≠p.block) (u:Value):RowX (w.setCell p u) g xs ex:=(Below.heap_setCell w p u g hp).trans h
theorem RowX.limbs (h:RowX w g xs ex) (ok:IsLimbs xs) {k m:Nat}(hk:k+m≤xs.length):Limbs w (some ⟨g,k,none⟩) m ((xs.drop k).take m):=
 ⟨by rw [List.length_take,List.length_drop];omega,fun _=>⟨g,k,rfl,h.lt,fun i hi=>by
   rw [h.cell (i:=k+i) (by omega),nth_take hi];congr 2
   unfold nth;simp [List.getD]⟩,(ok_drop ok k).take m⟩
theorem RowX.splice (h:RowX w g xs ex) {k:Nat} {rs:List Int}(hk:k+rs.length≤xs.length):RowX (w.setRow g (Go.splice (lmbs xs++ex) k (lmbs rs)).toArray) g (Go.splice xs k rs) ex:=by
 unfold RowX
 have e:Go.splice (lmbs xs++ex) k (lmbs rs)=lmbs (Go.splice xs k rs)++ex:=by
  unfold Go.splice;rw [List.take_append_of_le_length (by rw [lmbs_length];omega),List.drop_append_of_le_length (by rw [lmbs_length,lmbs_length];omega),lmbs_append,lmbs_append,lmbs_length];simp [lmbs,List.map_take,List.map_drop]
 rw [e]
 exact setRow_heap w g _ _ _ _ h
theorem only_setRow {S:Nat→Prop}(h:Only S w w') (hg:S g) (cs:Array Value):Only S w (w'.setRow g cs):=
 ⟨h.os,h.tape,h.output,by simp [World.setRow];exact h.size,fun j hj hs=>(setRow_other w' g j cs (fun e=>hs (e ▸ hg))).trans (h.block j hj hs)⟩
theorem RowL.setRow_far {t:TypeId} {g':Nat}(h:RowL w g t xs) (hg:g≠g') (cs:Array Value):RowL (w.setRow g' cs) g t xs:=(setRow_other w g' g cs hg).trans h
end
end Go.Proofs.YtehcoffbiplphaaGreat
namespace Go.Proofs.YtehcoffbiplphaaGreat
open Go.RowKit Cl
attribute [local go_sem ↓] Go.wp_at_zero Go.wp_at_succ
theorem nat_rowO (A:Option Addr) (n c:Nat) (xs:List Int) (x:Nat) (w:World) (hx:Limbs w A n xs) (hn:n≤8500000000000) (hxl:x<18446744073709551616):
 Calls Tryz.prog 117 #[.slice A n c,.int .u64 (x:Int)] w fun e w'=>∃g cap,e=.returned (.slice (some ⟨g,0,none⟩) (n+1) cap)∧w.heap.size≤g∧n+1≤cap∧cap≤9223372036854775807∧Limbs w' (some ⟨g,0,none⟩) (n+1) (rowL xs x)∧Below w.heap.size w w':=by
 obtain ⟨i0,hi,hz0,hz1,hz2⟩:=info_parts uint_info
 obtain rfl:=hx.len
 have hrl:=hiD (rowL_spec hx.ok hxl)
 have hval:=hiD (rowF_val hx.ok hxl xs.length)
 have hok:=hiD (carL_ok (rowF_lt xs x) xs.length)
 have hlen:=hiD (carL_length (rowF xs x) xs.length)
 have hres:Hid (rowL xs x=(carL (rowF xs x) xs.length).1++[((carL (rowF xs x) xs.length).2:Int)]):=rfl
 have hal0:Below w.heap.size w ((w.alloc (.cells #[.slice A xs.length c] 39)).alloc (.cells #[.int .u64 (x:Int)] 38)):=(bRr.alloc lRr _).alloc (by simp) _
 have Hca:Hid (((w.alloc (.cells #[.slice A xs.length c] 39)).alloc (.cells #[.int .u64 (x:Int)] 38)).cell? ⟨w.heap.size,0,none⟩=some (.slice A xs.length c)):=cell_old0 _ _ _ _
 have Hcb:Hid (((w.alloc (.cells #[.slice A xs.length c] 39)).alloc (.cells #[.int .u64 (x:Int)] 38)).cell? ⟨w.heap.size+1,0,none⟩=some (.int .u64 (x:Int))):=cell_new1 _ _ _ _
 have Hx:=hiD (hx.bel hal0)
 obtain ⟨k,hk⟩:∃k,xs.length=k:=⟨_,rfl⟩
 have C:Hid (Calls Tryz.prog 121 #[.int .i64 (xs.length:Int),.func (.func 144) #[] #[.pointer (some ⟨w.heap.size,0,none⟩),.pointer (some ⟨w.heap.size+1,0,none⟩)]] ((w.alloc (.cells #[.slice A xs.length c] 39)).alloc (.cells #[.int .u64 (x:Int)] 38)) fun e w'=>e=.returned (.tuple #[.slice (some ⟨w.heap.size+1+1,0,none⟩) xs.length xs.length,.int .u64 ((carL (rowF xs x) xs.length).2:Int)])∧RowL w' (w.heap.size+1+1) 38 (carL (rowF xs x) xs.length).1∧Below (w.heap.size+1+1) ((w.alloc (.cells #[.slice A xs.length c] 39)).alloc (.cells #[.int .u64 (x:Int)] 38)) w'):=by
  have h:=nat_carriedR (some ⟨w.heap.size,0,none⟩) (some ⟨w.heap.size+1,0,none⟩) (rowF xs x) xs.length 18446744073709551616 ((w.alloc (.cells #[.slice A xs.length c] 39)).alloc (.cells #[.int .u64 (x:Int)] 38)) (by omega) (fun j hj=>(rowF_val hx.ok hxl j).1) (fun j q W hj hq hW=> ?_)
  · simp only [World.size_alloc] at h
    exact h
  · have hs:=hW.size
    simp only [World.size_alloc] at hs hW;exact nat_row1 A xs.length c w.heap.size (w.heap.size+1) xs x j q W ((hW.cell (p:=⟨w.heap.size,0,none⟩) (by show w.heap.size<_;omega)).trans Hca.out) ((hW.cell (p:=⟨w.heap.size+1,0,none⟩) (by show w.heap.size+1<_;omega)).trans Hcb.out) (Hx.out.below hW (by simp)) hj hn hxl hq
 have hq:(carL (rowF xs x) xs.length).2<18446744073709551616:=hval.out.1
 clear hx hval Hca Hcb Hx hxl
 rw [hk] at C hok hlen hres hal0 hrl hn hq ⊢
 clear hk
 go_enter Tryz.func117,Tryz.ntmps117
 go_wp2_with fail
 refine C.out.mono ?_
 rintro e w1 ⟨rfl,hrow,hb1⟩
 have hb01:Below w.heap.size w w1:=hal0.trans (hb1.mono (by omega))
 have hs1:w.heap.size+1+1<w1.heap.size:=hrow.lt
 have hown0:Hid (w1.ownsRow (w.heap.size+1+1) 38 1 (.slice (some ⟨w.heap.size+1+1,0,none⟩) k k) k (lmbs (carL (rowF xs x) k).1)):=by
  have h:=hrow.own lRr (n:=k) (by rw [hlen.out];exact lRr) (by rw [hlen.out];unfold maxLen;omega);rw [hlen.out,List.take_of_length_le (by rw [hlen.out];exact lRr)] at h;exact h
 clear C hrow
 generalize (carL (rowF xs x) k).2=q at*
 generalize (carL (rowF xs x) k).1=us at*
 go_wp2_with (at_builtin;refine wpList_append_lies _ (by rfl) _ _ _ (by rfl) (w.heap.size+1+1) 38 i0 _ 1 8 Tryz.underlying39 hi hz0 hz1 hz2 rfl (by omega) (.slice (some ⟨w.heap.size+1+1,0,none⟩) k k) k (lmbs us) (by rfl) (hown0.out.alloc _) ⟨w1.heap.size,0,none⟩ 1 1 [.int .u64 (q:Int)] (by rfl) (by rfl) (World.news_of_block (cs:=#[.int .u64 (q:Int)]) (t:=38) (fr:=(0,0)) (heap_alloc_new w1 _)) (by simp [Value.oneCell']) (by omega) (by unfold maxLen;omega) (by omega) (by simp;omega) (w1.heap.size+1) (by simp) ?_;intro gg cap w2 hown2 hgrow hat hlt2)
 have hb02:Below w.heap.size w w2:=((hb01.alloc hb01.size _)).grown hgrow (by simp;omega) (fun j hj=>by have:=(hown0.out.lt j hj).1;omega)
 have hzz:lmbs us++[.int .u64 (q:Int)]=lmbs (us++[(q:Int)]):=by rw [lmbs_append];rfl
 rw [hzz] at hown2
 have hL2:Limbs w2 (some ⟨gg,0,none⟩) (k+1) (us++[(q:Int)]):=Limbs.of_own hown2 (hok.out.snoc (by omega) (by omega))
 have hgge:=(hown2.lt gg rfl).1
 obtain ⟨_,_,_,_,hcap1,hcap2,_⟩:=own_form hown2 (by omega)
 unfold maxLen at hcap2
 rw [← hres.out] at hL2
 have HL2:=hiD hL2
 clear hown2 hgrow hat hlt2 hzz hL2
 go_wp2_with fail
 go_ret
 exact ⟨gg,cap,rfl,by omega,hcap1,by omega,HL2.out,hb02⟩
end Go.Proofs.YtehcoffbiplphaaGreat
namespace Go.Proofs.YtehcoffbiplphaaGreat
open Go.RowKit Cl
theorem lmbs_pad (ds:List Int) (m:Nat):lmbs (padL ds m)=(lmbs ds++List.replicate m (Value.int .u64 0)).take m:=by
 unfold padL
 rw [lmbs_take,lmbs_append]
 congr 2
 simp [lmbs]
theorem pad_append (wl:World) (base:Nat) (Ad:Option Addr) (kd cd:Nat) (ds:List Int) (m:Nat) (hm:0<m) (hb:kd+m≤17592186044416) (own:wl.ownsRow base 38 1 (.slice Ad kd cd) kd (lmbs ds)) (hbase:base≤wl.heap.size):
 ∃gz cz wz,(Builtin.append_ #[39,3] 39 #[.slice Ad kd cd,.int .i64 (m:Int)]).run Tryz.prog wl=.ok (.slice (some ⟨gz,0,none⟩) (kd+m) cz) wz∧(∀j v,(lmbs (padL ds m))[j]? =some v→wz.cell? ((⟨gz,0,none⟩:Addr).add j)=some v)∧m≤cz∧cz≤maxLen∧Below base wl wz:=by
 obtain ⟨i0,hi,hz0,hz1,hz2⟩:=info_parts uint_info
 have hzv:(Value.int .u64 0).cells=#[Value.int .u64 0]:=rfl
 obtain ⟨va,wz,z1,z2,z3,z4⟩:=run_append_zeros_own (P:=Tryz.prog) wl base 39 3 39 38 i0 (.int .u64 0) .i64 .i64 Tryz.underlying39 Tryz.underlying3 hi hz0 hz1 hz2 hzv rfl (.slice Ad kd cd) kd (lmbs ds) own m hb hbase
 obtain ⟨Az,cz,rfl⟩:=own_slice z2
 obtain ⟨gz,rfl,_,_,hc1,hc2,_⟩:=own_form z2 (by omega)
 refine ⟨gz,cz,wz,z1,fun j v hj=> ?_,by omega,hc2,?_⟩
 · rw [lmbs_pad,List.getElem?_take] at hj
   split at hj
   · exact own_cells z2 j v hj
   · cases hj
 · exact (Below.refl base wl).grown z3 hbase (fun j hj=>(own.lt j hj).1)
end Go.Proofs.YtehcoffbiplphaaGreat
