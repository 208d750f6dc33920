/- Contract: nat.Div by a divisor of several limbs: the long division.
   Contract: nat.Div, whole.
   Contracts: zint.Div and zint.Exact by any divisor (printed by gen/zdivg.py).
   Contract: zint.Gcd of any integers.
   Contract: zint.Sub, in new memory. (Printed by gen/zsub.py.) -/
import Derived.Test.YtehcoffbiplphaaGreatSDvs
import Derived.Test.YtehcoffbiplphaaGreatSZks
set_option linter.unusedVariables false
set_option linter.unusedSimpArgs false
set_option maxHeartbeats 8000000
set_option maxRecDepth 100000
namespace Go.Proofs.YtehcoffbiplphaaGreat
open Go.RowKit Cl
attribute [local go_sem ↓] Go.wp_at_zero Go.wp_at_succ
theorem nth_dropD (xs:List Int) (k i:Nat):nth (xs.drop k) i=nth xs (k+i):=by unfold nth;simp [List.getD]
theorem only_ext {w w':World} {gu gq:Nat}(h:Only (fun k=>w.heap.size≤k) w w'):Only (fun j=>j=gu∨j=gq) w w':=⟨h.os,h.tape,h.output,h.size,fun k hk _=>h.block k hk (by omega)⟩
def DivOut (w:World) (n X Y:Nat) (e:Ending) (w':World):Prop:=
 ∃qs rs A1 k1 c1 A2 k2 c2,e=.returned (.tuple #[.slice A1 k1 c1,.slice A2 k2 c2,.int .i64 0])∧PlainL qs∧PlainL rs∧limbs qs=X / Y∧limbs rs=X % Y∧k1≤n∧k2≤n∧k1≤c1∧c1≤9223372036854775807∧k2≤c2∧c2≤9223372036854775807∧Limbs w' A1 k1 qs∧Limbs w' A2 k2 rs∧Below w.heap.size w w'
theorem top_bits {ys:List Int}(h:PlainL ys) (h2:2≤ys.length) {k:Nat}(hk:Lib.bitLen (nth ys (ys.length - 1)).toNat=k):0<k∧k≤64∧limbs ys<2^(64*(ys.length - 1)+k):=by
 have ht:=h.2 (by omega)
 have hb:=h.1 (ys.length - 1)
 have h1:=lt_bitLen (x:=(nth ys (ys.length - 1)).toNat) (by omega)
 rw [hk] at h1
 have hk64:k≤64:=by rw [← hk];exact Lib.bitLen_le _ 64 (by omega) (by omega)
 refine ⟨?_,hk64,?_⟩
 · rcases Nat.eq_zero_or_pos k with h0 | h0
   · rw [h0] at h1;omega
   · exact h0
 · have e1:=limbs_take_succ (xs:=ys) (k:=ys.length - 1) (by omega)
   rw [show ys.length - 1+1=ys.length by omega,List.take_length] at e1;have h3:=limbs_lt (h.1.take (ys.length - 1));rw [List.length_take,Nat.min_eq_left (by omega)] at h3;have h4:2^(64*(ys.length - 1))*((nth ys (ys.length - 1)).toNat+1)≤2^(64*(ys.length - 1))*2^k:=Nat.mul_le_mul_left _ h1;rw [← Nat.pow_add,Nat.mul_add,Nat.mul_one] at h4;omega
theorem plain_len {xs:List Int}(h:PlainL xs) {n:Nat}(h1:limbs xs<2^(64*n)):xs.length≤n:=by
 rcases Nat.eq_zero_or_pos xs.length with h0 | h0
 · omega
 · have h2:=h.low h0
   by_cases hl:xs.length≤n
   · exact hl
   · exfalso
     have:2^(64*n)≤2^(64*(xs.length - 1)):=Nat.pow_le_pow_right (by omega) (by omega);omega
theorem usize:(Tryz.prog.info? 38).map (·.size)=some 1:=by kernel_rfl
theorem nat_divL (A B:Option Addr) (n m c d:Nat) (xs ys:List Int) (w:World) (hx:Limbs w A n xs) (hy:Limbs w B m ys) (hnc:n≤c) (hc:c≤9223372036854775807) (hmd:m≤d) (hd:d≤9223372036854775807) (hn:n≤3900000000000) (hm:m≤3900000000000) (h2:2≤lmN ys m) (hle:limbs ys≤limbs xs):
 Calls Tryz.prog 82 #[.slice A n c,.slice B m d] w (DivOut w (n+1) (limbs xs) (limbs ys)):=by
 obtain ⟨i0,hi,hz0,hz1,hz2⟩:=info_parts uint_info
 have hxl:=hx.len
 have hyl:=hy.len
 have l1:=lmN_le xs n
 have l2:=lmN_le ys m
 obtain ⟨p1,p2⟩:=plainL_take hx.ok hxl
 obtain ⟨p3,p4⟩:=plainL_take hy.ok hyl
 have C1:=hiD (nplain_any A n c xs w hx hnc hc)
 have C2:=hiD (nplain_any B m d ys w hy hmd hd)
 have Hx:=hiD (hx.take l1)
 have Hy:=hiD (hy.take l2)
 have Cc:=hiD (nat_cmp A B (lmN xs n) (lmN ys m) c d _ _ w Hx.out Hy.out (by omega) hc (by omega) hd (by omega) (by omega))
 have hcmp:¬cmpN (limbs (xs.take (lmN xs n))) (limbs (ys.take (lmN ys m)))<0:=by
  rw [p2,p4];unfold cmpN;rw [if_neg (by omega)];split<;>omega
 have HXv:=hiD p2
 have HYv:=hiD p4
 have HXp:=hiD p1
 have HYp:=hiD p3
 have Hx0:=hiD Hx.out.len
 have Hy0:=hiD Hy.out.len
 clear hx hy hxl hyl p1 p2 p3 p4
 rw [← HXv.out,← HYv.out]
 have hle2:Hid (limbs (ys.take (lmN ys m))≤limbs (xs.take (lmN xs n))):=by rw [HXv.out,HYv.out];exact hle
 clear HXv HYv hle
 generalize lmN xs n=u at*
 generalize lmN ys m=v at*
 generalize xs.take u=us at*
 generalize ys.take v=vs at*
 clear xs ys
 -- the highest limb
 obtain ⟨kb,hkb⟩:∃k,Lib.bitLen (nth vs (vs.length - 1)).toNat=k:=⟨_,rfl⟩
 obtain ⟨t1,t2,t3⟩:=top_bits HYp.out (by rw [Hy0.out];exact h2) hkb
 rw [Hy0.out] at hkb t3
 have htop:=HYp.out.1 (v - 1)
 have hlow:=HYp.out.low (by rw [Hy0.out];omega)
 rw [Hy0.out] at hlow
 obtain ⟨b,o,rfl,hb,hcB⟩:=Hy.out.at_ (by omega)
 have hct:=hcB (v - 1) (by omega)
 have Cz:=hiD (fun W=>bits_lz64 (nth vs (v - 1)) W htop.1 (by omega) kb hkb t2)
 obtain ⟨s,hs⟩:∃s,64 - kb=s:=⟨_,rfl⟩
 rw [hs] at Cz
 have hs63:s<64:=by omega
 have Cv:=hiD (fun W (h:Below w.heap.size w W)=>nat_shlO (some ⟨b,o,none⟩) v d vs s W (Hy.out.bel h) (by omega) hs63)
 have Cu:=hiD (fun W (h:Below w.heap.size w W)=>nat_shlO A u c us s W (Hx.out.bel h) (by omega) hs63)
 have HV:Hid (limbs vs*2^s<2^(64*v)):=by
  have h5:limbs vs*2^s<2^(64*(v - 1)+kb)*2^s:=Nat.mul_lt_mul_of_pos_right t3 (Nat.two_pow_pos s);rw [← Nat.pow_add,show 64*(v - 1)+kb+s=64*v by omega] at h5;exact h5
 have HL:Hid (2^(64*(v - 1))≤limbs vs):=hlow
 have hv1:IntKind.i64.wrap ((v:Int) - 1)=((v - 1:Nat):Int):=by rw [IntWalk.i64_in _ (by omega)];omega
 have hv2:(0:Int)≤((v - 1:Nat):Int):=by omega
 have hv3:((v - 1:Nat):Int)<(v:Int):=by omega
 have hv0:((v:Int)==0)=false:=by simp;omega
 have hv11:((v:Int)==1)=false:=by simp;omega
 clear hcB htop hlow t1 t2 t3 hkb hs hnc hmd
 generalize nth vs (v - 1)=tl at*
 obtain ⟨v1,hvv⟩:∃v1,v - 1=v1:=⟨_,rfl⟩
 rw [hvv] at hv1 hv2 hv3 hct
 have Hvv:=hiD hvv
 clear hvv
 go_enter Tryz.func82,Tryz.ntmps82
 go_wp2_with fail
 refine C1.out.mono ?_
 rintro e w' ⟨rfl,rfl⟩
 go_wp2_with fail
 refine C2.out.mono ?_
 rintro e w' ⟨rfl,rfl⟩
 go_wp2_with fail
 refine Cc.out.mono ?_
 rintro e w1 ⟨rfl,j1,hj1⟩
 have hb1:Below w'.heap.size w' w1:=by subst hj1;exact below_drewN bRr _
 have hct1:=(hb1.cell (p:=⟨b,o+v1,none⟩) hb).trans hct
 have Hb1:=hiD hb1
 clear hj1 hct hb1 C1 C2 Cc
 go_wp2_with fail
 refine (Cz.out _).mono ?_
 rintro e w2 ⟨rfl,rfl⟩
 clear Cz hct1
 go_wp2_with fail
 refine (Cv.out _ Hb1.out).mono ?_
 rintro e w2 ⟨ws,Av,kv,cv,rfl,f1,f2,f3,f4,f5,f6,f7,f8,f9⟩
 have Hb2:Hid (Below w'.heap.size w' w2):=Hb1.out.tm f9
 go_wp2_with fail
 refine (Cu.out _ Hb2.out).mono ?_
 rintro e w3 ⟨zs,Au,ku,cu,rfl,g1,g2,g3,g4,g5,g6,g7,g8,g9⟩
 have Hb3:Hid (Below w'.heap.size w' w3):=Hb2.out.tm g9
 clear Cv Cu
 -- the divisor has as many limbs as before
 have hkv:kv=v:=by
  have q1:=f6.len;have q2:=plain_len f1 (n:=v) (by rw [f2];exact HV.out);by_cases q3:v≤kv
  · omega
  · exfalso
    have q4:=limbs_lt f1.1;have q5:2^(64*ws.length)≤2^(64*(v - 1)):=Nat.pow_le_pow_right (by omega) (by omega);have q6:limbs vs*1≤limbs vs*2^s:=Nat.mul_le_mul_left _ (Nat.two_pow_pos s);have q7:=HL.out;omega
 subst hkv
 obtain ⟨gv,hAv,hgv0,hgv1,hgv2,hgv3,_⟩:=own_form f7 (by omega)
 subst hAv
 have HWs:=hiD (f6.bel g9)
 have Hwl:=hiD f6.len
 have HWv:=hiD f2
 have HWo:=hiD f1.1
 have hku:=g6.len
 obtain ⟨kz,hkz⟩:∃kz,u+1 - ku=kz:=⟨_,rfl⟩
 have ez:IntKind.i64.wrap (IntKind.i64.wrap ((u:Int)+1) - (ku:Int))=(kz:Int):=by rw [IntWalk.i64_in ((u:Int)+1) (by omega),IntWalk.i64_in _ (by omega)];omega
 have ez1:IntKind.i64.wrap ((u:Int)+1)=((u+1:Nat):Int):=by rw [IntWalk.i64_in _ (by omega)];omega
 have ez2:IntKind.i64.wrap (((u+1:Nat):Int) - (ku:Int))=(kz:Int):=by rw [IntWalk.i64_in _ (by omega)];omega
 have ez3:IntKind.i64.wrap ((u:Int)+1 - (ku:Int))=(kz:Int):=by rw [IntWalk.i64_in _ (by omega)];omega
 have hzv:(Value.int .u64 0).cells=#[Value.int .u64 0]:=rfl
 have hgv4:gv<w3.heap.size:=Nat.lt_of_lt_of_le hgv1 g9.size
 obtain ⟨va,wa,hra,howa,hgra,hlia⟩:=run_append_zeros_own (P:=Tryz.prog) w3 w2.heap.size 39 3 39 38 i0 (.int .u64 0) .i64 .i64 Tryz.underlying39 Tryz.underlying3 hi hz0 hz1 hz2 hzv rfl (.slice Au ku cu) ku (lmbs zs) g7 kz (by omega) g9.size
 have hzz:lmbs zs++List.replicate kz (.int .u64 0)=lmbs (zs++List.replicate kz 0):=by rw [lmbs_append];congr 1;simp [lmbs]
 rw [hzz,show ku+kz=u+1 by omega] at howa
 obtain ⟨Aw,cw,rfl⟩:=own_slice howa
 obtain ⟨gu,hAw,hgu0,hgu1,hgu2,hgu3,ex,hUx,hexl⟩:=own_form howa (by omega)
 subst hAw
 have hown3:∀k,(Value.slice Au ku cu).ownBlock=some k→w2.heap.size≤k:=fun k hk=>(g7.lt k hk).1
 have HU:Hid (RowX wa gu (zs++List.replicate kz 0) ex):=hUx
 have Hb4:Hid (Below w'.heap.size w' wa):=Hb3.out.grown hgra Hb3.out.size (fun k hk=>by have:=hown3 k hk;have:=Hb2.out.size;omega)
 have HWs4:Hid (Limbs wa (some ⟨gv,0,none⟩) kv ws):=HWs.out.only (Only.of_grown hgra) (fun y hy hg=>by injection hy with hy;subst hy;have h5:w2.heap.size≤gv:=hown3 _ hg;omega)
 have hne:gv≠gu:=by
  have:=hgu0;omega
 have hUo:Hid (IsLimbs (zs++List.replicate kz 0)):=ok_append g1.1 (by
  intro i;by_cases hi:i<(List.replicate kz (0:Int)).length
  · rw [nth_lt hi,List.getElem_replicate];omega
  · rw [nth_ge (by omega)];omega)
 have hUl:Hid ((zs++List.replicate kz (0:Int)).length=u+1):=by show _=_;rw [List.length_append,List.length_replicate];omega
 have hUv:Hid (limbs (zs++List.replicate kz 0)=limbs us*2^s):=by show _=_;rw [limbs_append,limbs_replicate,Nat.mul_zero,Nat.add_zero,g2]
 have hra':=hiD hra
 clear hra hzz hUx howa hgra hlia hown3 HWs f1 f2 f3 f6 f7 f8 f9 g1 g2 g6 g7 g8 g9 hkz
 generalize zs++List.replicate kz (0:Int)=U0 at*
 obtain ⟨L,hL⟩:∃L,u+1 - kv=L:=⟨_,rfl⟩
 have hkvu:kv≤u:=by
  have q1:=limbs_lt HXp.out.1;have q2:=HL.out;have q3:=hle2.out;rw [Hx0.out] at q1;by_cases q4:kv≤u
  · exact q4
  · exfalso
    have q5:2^(64*u)≤2^(64*(kv - 1)):=Nat.pow_le_pow_right (by omega) (by omega);omega
 have eL2:(u:Int)+1 - (kv:Int)=(L:Int):=by omega
 have eL3:IntKind.i64.wrap (L:Int)=(L:Int):=IntWalk.i64_in _ (by omega)
 have eL4:IntKind.i64.wrap ((L:Int) - 1)=(L:Int) - 1:=IntWalk.i64_in _ (by omega)
 have hmk:=run_make_limbs Tryz.underlying39 hi hz0 hz1 hz2 L (by omega) wa
 have hq0:Hid (RowL (wa.alloc (.cells (lmbs (List.replicate L 0)).toArray 38)) wa.heap.size 38 (List.replicate L 0)):=RowL.new wa _ _
 have hql:Hid ((List.replicate L (0:Int)).length=L):=List.length_replicate
 have hqo:Hid (IsLimbs (List.replicate L (0:Int))):=by
  intro i;by_cases hi:i<(List.replicate L (0:Int)).length
  · rw [nth_lt hi,List.getElem_replicate];omega
  · rw [nth_ge (by omega)];omega
 have hD0:Hid (DivAt (limbs us*2^s) (limbs vs*2^s) L U0 (List.replicate L 0)):=by
  have q1:=limbs_lt HXp.out.1;rw [Hx0.out] at q1;have q2:=DivAt.start (X:=limbs us) (Y:=limbs vs) (s:=s) (la:=u) (n:=kv) hUo.out hqo.out hUv.out q1 HL.out (by omega) (by omega) (by rw [hql.out,hL]);rw [hL] at q2;exact q2
 have hbq:Below wa.heap.size wa (wa.alloc (.cells (lmbs (List.replicate L 0)).toArray 38)):=bRr.alloc lRr _
 have HU1:=hiD (HU.out.bel hbq)
 have HW1:=hiD (HWs4.out.bel hbq)
 have HB1:Hid (Below w'.heap.size w' (wa.alloc (.cells (lmbs (List.replicate L 0)).toArray 38))):=Hb4.out.tm hbq
 have hbase:w'.heap.size≤gu:=by have:=Hb2.out.size;omega
 have hbase2:w'.heap.size≤wa.heap.size:=Hb4.out.size
 have hgvq:gv≠wa.heap.size:=by omega
 have hgvq2:gu≠wa.heap.size:=by omega
 go_wp2_with (at_builtin;go_must (refine Lib.wpList_append_run _ rfl _ _ _ _ rfl (.slice Au ku cu) (.int .i64 (kz:Int)) (by rfl) (by rfl) _ _ hra'.out ?_))
 clear hmk HU HWs4 hbq hqo hUo hUv
 generalize List.replicate L (0:Int)=Q0 at*
 obtain ⟨wL,hwL⟩:∃W,wa.alloc (.cells (lmbs Q0).toArray 38)=W:=⟨_,rfl⟩
 rw [hwL] at hq0 HU1 HW1 HB1 ⊢
 have HwL:=hiD hwL
 clear hwL
 generalize wa.heap.size=gq at*
 have HLL:Hid (u+1 - kv=L):=hL
 have HK:Hid (kv≤u∧2≤kv∧u≤3900000000000):=⟨hkvu,h2,by omega⟩
 try clear hL
 try clear Hx
 try clear Hy
 try clear HXp
 try clear HYp
 try clear Hb1
 try clear Hb2
 try clear Hb3
 try clear Hb4
 try clear hqo
 try clear HU
 try clear hgv0
 try clear hgv1
 try clear hgv2
 try clear hgv3
 try clear hgv4
 try clear hgu0
 try clear hku
 try clear ez
 try clear ez1
 try clear ez2
 try clear ez3
 try clear hzv
 go_loopw [16,17,18] (fun v16 _ _ wr=>∃(k:Nat) (Us Qs:List Int),k≤L∧v16=.int .i64 ((k:Int) - 1)∧Hid (RowX wr gu Us ex)∧Hid (Us.length=u+1)∧Hid (RowL wr gq 38 Qs)∧Hid (Qs.length=L)∧Hid (DivAt (limbs us*2^s) (limbs vs*2^s) k Us Qs)∧Hid (Only (fun j=>j=gu∨j=gq) wL wr)) (fun v16 _ _ _=>(intOf v16+1).toNat)
 case atStart=>exact ⟨L,U0,Q0,lRr,rfl,HU1,hUl,hq0,hql,hD0,Only.refl _ _⟩
 case round=>
  clear HU1 hUl hq0 hql hD0;obtain ⟨k,Us,Qs,hk,rfl,hU,hUl,hQ,hQl,hD,hO⟩:=hrel;have hW:Hid (Limbs wr (some ⟨gv,0,none⟩) kv ws):=HW1.out.only hO.out (fun y hy hg=>by injection hy with hy;subst hy;exact hg.elim (fun e=>hne e) (fun e=>hgvq e));cases k with
  | zero=>
    have e0:(((0:Nat):Int) - 1)= -1:=rfl;rw [e0];have hQL:=hQ.out.limbs hD.out.qok;rw [hQl.out] at hQL;have HQL:=hiD hQL;have hUL:=hU.out.limbs hD.out.uok (k:=0) (m:=u+1) (by rw [hUl.out];omega);rw [List.drop_zero,List.take_of_length_le (by rw [hUl.out];exact lRr)] at hUL;have HUL:=hiD hUL;have hdn:=hiD (DivAt.done hD.out);have hpq:=hiD (plainL_take hD.out.qok hQl.out);have hlm:=lmN_le Qs L;have CS:=hiD (nat_shr (some ⟨gu,0,none⟩) (u+1) cw Us s wr hUL (by omega) hs63 (by omega) hgu2 (by unfold maxLen at hgu3;omega));have hbw:Hid (Below w'.heap.size w' wr):=HB1.out.trans (hO.out.below HB1.out.size (fun j hj=>by rcases hj with hj | hj<;>omega));clear hQL hUL hQ hU hD hO hW;(go_wp2_with fail);refine (nplain_any (some ⟨gq,0,none⟩) L L Qs wr HQL.out lRr (by omega)).mono ?_;rintro e wx ⟨rfl,rfl⟩;(go_wp2_with fail);refine CS.out.mono ?_;rintro e wy ⟨rs,z1,z2,z3,A2,k2,c2,rfl,z4,z5,z6,_,z8⟩;have F:Hid (DivOut w' (n+1) (limbs us) (limbs vs) (.returned (.tuple #[.slice (some ⟨gq,0,none⟩) (lmN Qs L) L,.slice A2 k2 c2,.int .i64 0])) wy):=
     ⟨_,rs,_,_,_,A2,k2,c2,rfl,hpq.out.1,z1,by rw [hpq.out.2];exact hdn.out.1,by rw [z2];exact hdn.out.2,by omega,by have:=z6.len;omega,hlm,by omega,z4,z5,(HQL.out.take hlm).bel z8,z6,hbw.out.tm z8⟩
    clear z1 z2 z6 z8;go_wp2_with fail
    (try simp only [Exit.inBlock,Exit.then]);refine bodyPost_ret (results_tmp3 rfl _ _ _) rfl ?_
    exact F.out
  | succ k=>
    (have e0:(((k+1:Nat):Int) - 1)=(k:Int):=by omega);rw [e0];(have hik:k+kv≤u:=by have:=HLL.out;omega);obtain ⟨i2,hi2⟩:∃i,k+kv=i:=⟨_,rfl⟩;obtain ⟨i1,hi1⟩:∃i,k+kv - 1=i:=⟨_,rfl⟩;obtain ⟨i0',hi0⟩:∃i,k+kv - 2=i:=⟨_,rfl⟩;obtain ⟨i3,hi3⟩:∃i,k+kv+1=i:=⟨_,rfl⟩;obtain ⟨j1',hj1⟩:∃i,kv - 1=i:=⟨_,rfl⟩;obtain ⟨j0,hj0⟩:∃i,kv - 2=i:=⟨_,rfl⟩;(have b1:(k:Int)+(kv:Int)=(i2:Int):=by omega);(have b2:(i2:Int) - 1=(i1:Int):=by omega);(have b3:(i2:Int) - 2=(i0':Int):=by omega);(have b4:(kv:Int) - 1=(j1':Int):=by omega);(have b5:(kv:Int) - 2=(j0:Int):=by omega);(have b6:(i2:Int)+1=(i3:Int):=by omega);(have c1:(i2:Int)<(u:Int)+1:=by omega);(have c2:(i1:Int)<(u:Int)+1:=by omega);(have c3:(i0':Int)<(u:Int)+1:=by omega);(have c4:(j1':Int)<(kv:Int):=by omega);(have c5:(j0:Int)<(kv:Int):=by omega);(have c6:(0:Int)≤(i2:Int):=by omega);(have c7:(0:Int)≤(i1:Int):=by omega);(have c8:(0:Int)≤(i0':Int):=by omega);(have c9:(0:Int)≤(j1':Int):=by omega);(have c10:(0:Int)≤(j0:Int):=by omega);have d1:IntKind.i64.wrap (i2:Int)=(i2:Int):=IntWalk.i64_in _ (by omega);have d2:IntKind.i64.wrap (i1:Int)=(i1:Int):=IntWalk.i64_in _ (by omega);have d3:IntKind.i64.wrap (i0':Int)=(i0':Int):=IntWalk.i64_in _ (by omega);have d4:IntKind.i64.wrap (j1':Int)=(j1':Int):=IntWalk.i64_in _ (by omega);have d5:IntKind.i64.wrap (j0:Int)=(j0:Int):=IntWalk.i64_in _ (by omega);have d6:IntKind.i64.wrap (i3:Int)=(i3:Int):=IntWalk.i64_in _ (by omega);have q2:=hU.out.cell (i:=i2) (by rw [hUl.out];omega);have q1:=hU.out.cell (i:=i1) (by rw [hUl.out];omega);have q0:=hU.out.cell (i:=i0') (by rw [hUl.out];omega);have hWat:=hW.out.at_ (by omega);obtain ⟨gv',ov',hgve,hgvl,hgvc⟩:=hWat
    injection hgve with hgve
    injection hgve with hge1 hge2
    subst hge1;subst hge2;have q4:=hgvc j1' (by omega);have q5:=hgvc j0 (by omega);rw [Nat.zero_add] at q4 q5;obtain ⟨x2,hx2⟩:∃x:Nat,nth Us i2=(x:Int):=⟨(nth Us i2).toNat,by have:=hD.out.uok i2;omega⟩;obtain ⟨x1,hx1⟩:∃x:Nat,nth Us i1=(x:Int):=⟨(nth Us i1).toNat,by have:=hD.out.uok i1;omega⟩;obtain ⟨x0,hx0⟩:∃x:Nat,nth Us i0'=(x:Int):=⟨(nth Us i0').toNat,by have:=hD.out.uok i0';omega⟩;obtain ⟨y1,hy1⟩:∃x:Nat,nth ws j1'=(x:Int):=⟨(nth ws j1').toNat,by have:=HWo.out j1';omega⟩;obtain ⟨y0,hy0⟩:∃x:Nat,nth ws j0=(x:Int):=⟨(nth ws j0).toNat,by have:=HWo.out j0;omega⟩;have hxb:Hid (x1<18446744073709551616∧x0<18446744073709551616∧y1<18446744073709551616∧y0<18446744073709551616):=⟨by have:=hD.out.uok i1;omega,by have:=hD.out.uok i0';omega,by have:=HWo.out j1';omega,by have:=HWo.out j0;omega⟩;rw [hx2] at q2;rw [hx1] at q1;rw [hx0] at q0;rw [hy1] at q4;rw [hy0] at q5;have HI:Hid (k+kv=i2∧k+kv - 1=i1∧k+kv - 2=i0'∧k+kv+1=i3∧kv - 1=j1'∧kv - 2=j0∧nth Us i2=(x2:Int)∧nth Us i1=(x1:Int)∧nth Us i0'=(x0:Int)∧nth ws j1'=(y1:Int)∧nth ws j0=(y0:Int)):=⟨hi2,hi1,hi0,hi3,hj1,hj0,hx2,hx1,hx0,hy1,hy0⟩;have keepG:Hid (∀W,Below wr.heap.size wr W→W.cell? ⟨gu,i2,none⟩=some (.int .u64 (x2:Int))∧W.cell? ⟨gu,i1,none⟩=some (.int .u64 (x1:Int))∧W.cell? ⟨gu,i0',none⟩=some (.int .u64 (x0:Int))∧W.cell? ⟨gv,j1',none⟩=some (.int .u64 (y1:Int))∧W.cell? ⟨gv,j0,none⟩=some (.int .u64 (y0:Int))):=fun W hW'=>
     ⟨(hW'.cell (p:=⟨gu,i2,none⟩) hU.out.lt).trans q2,(hW'.cell (p:=⟨gu,i1,none⟩) hU.out.lt).trans q1,(hW'.cell (p:=⟨gu,i0',none⟩) hU.out.lt).trans q0,(hW'.cell (p:=⟨gv,j1',none⟩) hgvl).trans q4,(hW'.cell (p:=⟨gv,j0,none⟩) hgvl).trans q5⟩
    have CG:=hiD (fun W=>nat_guess x2 x1 x0 y1 y0 W hxb.out.1 hxb.out.2.1 hxb.out.2.2.1 hxb.out.2.2.2);clear hi2 hi1 hi0 hi3 hj1 hj0 hx2 hx1 hx0 hy1 hy0 hgvc hgvl;(go_wp2_with fail);go_region_held3 (fun W=>W.cell? ⟨gu,i2,none⟩=some (.int .u64 (x2:Int))∧W.cell? ⟨gu,i1,none⟩=some (.int .u64 (x1:Int))∧W.cell? ⟨gu,i0',none⟩=some (.int .u64 (x0:Int))∧W.cell? ⟨gv,j1',none⟩=some (.int .u64 (y1:Int))∧W.cell? ⟨gv,j0,none⟩=some (.int .u64 (y0:Int)))
     (first | go_keep | exact keepG.out _ bRr.drew | exact keepG.out _ hbg)
     (first | (go_at_call 116;refine (CG.out _).mono ?_;rintro e wg ⟨g,rfl,hgu,jg,hwg⟩;have hbg:Below wr.heap.size wr wg:=(by rw [hwg];exact below_drewN bRr.drew jg)))
    have hbG:Below wr.heap.size wr (wr.drewN (1+jg)):=below_drewN bRr _;have hU2:=hiD (hU.out.bel hbG);have hQ2:=hiD (hQ.out.bel hbG);have hW2:=hiD (hW.out.bel hbG);have hO2:=hiD (hO.out.drewN (1+jg));clear hbG hbg hwg keepG CG hU hQ hW hO q0 q1 q2 q4 q5;generalize wr.drewN (1+jg)=wg at*
    obtain ⟨n1,hn1⟩:∃i,kv+1=i:=⟨_,rfl⟩;(have b7:(kv:Int)+1=(n1:Int):=by omega);have d7:IntKind.i64.wrap (n1:Int)=(n1:Int):=IntWalk.i64_in _ (by omega);have HN:Hid (kv+1=n1):=hn1;have hcw:u+1≤cw:=hgu2;(have s1:(k:Int)≤(i3:Int):=by omega);(have s2:(i3:Int)≤(u:Int)+1:=by omega);(have s3:(i3:Int)≤(cw:Int):=by omega);(have s4:(0:Int)≤(k:Int):=by omega);(have s5:(k:Int)≤(u:Int)+1:=by omega);(have s6:(k:Int)≤(cw:Int):=by omega);(have s7:i3 - k=n1:=by have:=HI.out;omega);have hbe:Below wg.heap.size wg (wg.alloc (.cells #[] 38)):=bRr.alloc lRr _;have hpl:=hU2.out.limbs hD.out.uok (k:=k) (m:=n1) (by rw [hUl.out];omega);have hRd:=hiD ((hpl.bel hbe).reads);have hown0:Hid ((wg.alloc (.cells #[] 38)).ownsRow wg.heap.size 38 1 (.slice (some ⟨wg.heap.size,0,none⟩) 0 0) 0 []):=World.ownsRow_made wg #[] 0 lRr (by unfold maxLen;omega) rfl;clear hn1;(go_wp2_with (at_builtin;go_must (refine wpList_append_any (w:=wg.alloc (.cells #[] 38)) rfl _ _ 39 rfl wg.heap.size 38 i0 (.int .u64 0) 1 8 Tryz.underlying39 hi hz0 hz1 hz2 rfl (by decide) (.slice (some ⟨wg.heap.size,0,none⟩) 0 0) 0 [] (by rfl) hown0.out _ (some ⟨gu,k,none⟩) n1 (cw - k) (lmbs ((Us.drop k).take n1)) (by rfl) hRd.out (lmbs_oneCell _) (by unfold maxLen;omega) (by omega) (by simp) ?_);intro vp wp hownp hgrowp hatp));obtain ⟨Ap,cp,rfl⟩:=own_slice hownp;rw [List.nil_append,Nat.zero_add] at hownp;rw [Nat.zero_add];(have hn1p:0<n1:=by have:=HN.out;omega);obtain ⟨gp,hAp,hgp0,_,hgp2,hgp3,_⟩:=own_form hownp hn1p;subst hAp;(have hgpq:gp≠gq:=by have:=hQ2.out.lt;omega);(have hgpu:gp≠gu:=by have:=hU2.out.lt;omega);have hpok:IsLimbs ((Us.drop k).take n1):=hpl.ok;have hPl:=hiD (Limbs.of_own hownp hpok);have hbP:Below wg.heap.size wg wp:=hbe.grown hgrowp (by simp) (fun j hj=>by have h5:wg.heap.size=j:=(by injection hj);exact Nat.le_of_eq h5);have hU3:=hiD (hU2.out.bel hbP);have hQ3:=hiD (hQ2.out.bel hbP);have hW3:=hiD (hW2.out.bel hbP);have hO3:Hid (Only (fun j=>j=gu∨j=gq) wL wp):=hO2.out.trans (only_ext (Only.of_below hbP));have hPn:Hid (((Us.drop k).take n1).length=n1):=hpl.len
    -- the digit
    have hsp:=hD.out.split (n:=kv) (by exact HV.out) (by rw [hUl.out];omega);rw [HN.out] at hsp;obtain ⟨V,hV⟩:∃V,limbs ws=V:=⟨_,rfl⟩;(have hVV:limbs vs*2^s=V:=by rw [← hV];exact HWv.out.symm);rw [hVV] at hsp;have hV0:0<V:=by
     rw [← hVV];have:=HL.out;have:=Nat.two_pow_pos (64*(kv - 1));exact Nat.mul_pos (by omega) (Nat.two_pow_pos s)
    obtain ⟨P,hP⟩:∃P,limbs ((Us.drop k).take n1)=P:=⟨_,rfl⟩;rw [hP] at hsp;obtain ⟨xt,hxt⟩:∃x,P / V=x:=⟨_,rfl⟩;(have hx1:xt*V≤P:=by rw [← hxt];exact Nat.div_mul_le_self P V);have hx2:P<(xt+1)*V:=by
     rw [← hxt];have:=Nat.lt_div_mul_add (a:=P) hV0;rw [Nat.add_mul,Nat.one_mul];omega
    have hx3:xt<18446744073709551616:=by
     rw [← hxt,Nat.div_lt_iff_lt_mul hV0,Nat.mul_comm];exact hsp.2
    have hx4:xt≤g:=by
     obtain ⟨z1,z2,z3,z4,z5,z6,z7,z8,z9,z10,z11⟩:=HI.out;obtain ⟨nn,hnn⟩:∃nn,kv=nn+2:=⟨kv - 2,by omega⟩;(have w1:nth ((Us.drop k).take n1) (nn+2)=(x2:Int):=by rw [nth_take (by omega),nth_dropD,← z7];congr 1;omega);(have w2:nth ((Us.drop k).take n1) (nn+1)=(x1:Int):=by rw [nth_take (by omega),nth_dropD,← z8];congr 1;omega);(have w3:nth ((Us.drop k).take n1) nn=(x0:Int):=by rw [nth_take (by omega),nth_dropD,← z9];congr 1;omega);(have w4:nth ws (nn+1)=(y1:Int):=by rw [← z10];congr 1;omega);(have w5:nth ws nn=(y0:Int):=by rw [← z11];congr 1;omega);refine guess_ge (vs:=ws) (ps:=(Us.drop k).take n1) (n:=nn) (by rw [Hwl.out];exact hnn) (by rw [hPn.out,← HN.out];omega) hpok hx3 (by rw [hV,hP];exact hx1) ?_;rw [w1,w2,w3,w4,w5];exact hgu
    have HG:Hid (xt≤g∧g<18446744073709551616):=⟨hx4,hgu.1⟩;have HX:Hid (xt*V≤P∧P<(xt+1)*V∧xt<18446744073709551616):=⟨hx1,hx2,hx3⟩;have HPV:Hid (limbs ((Us.drop k).take n1)=P∧limbs ws=V∧limbs vs*2^s=V∧IsLimbs ((Us.drop k).take n1)):=⟨hP,hV,hVV,hpok⟩;have hwr:=hiD (fun x (hx:x<18446744073709551616)=>rowL_spec HWo.out hx);have hq3k:=hQ3.out.cell (i:=k) (by rw [hQl.out];omega);(have hkL:k<L:=by omega);clear hpl hpok hbe hRd hown0 hownp hgrowp hatp hgp0 hbP hU2 hQ2 hW2 hO2 hgu hx1 hx2 hx3 hx4 hxt hsp hP hV hVV hV0 HI;(try clear hxb);generalize hps:(Us.drop k).take n1=ps at*
    have HPS:=hiD hps;clear hps;go_loopw [17] (fun v17 wr2=>∃x:Nat,v17=.int .u64 (x:Int)∧Hid (xt≤x∧x<18446744073709551616)∧Hid (Below wp.heap.size wp wr2)) (fun v17 _=>(intOf v17).toNat)
    case atStart=>exact ⟨g,rfl,HG,bRr⟩
    case round=>
     obtain ⟨x,rfl,hx,hbR⟩:=hrel;obtain ⟨r1,r2,r3⟩:=hwr.out x hx.out.2;have hWr:=hW3.out.bel hbR.out;have hPr:=hPl.out.bel hbR.out;have CR:=hiD (nat_rowO (some ⟨gv,0,none⟩) kv cv ws x wr hWr (by omega) hx.out.2);have CC:=hiD (fun gg cap W (h:Limbs W (some ⟨gg,0,none⟩) (kv+1) (rowL ws x)) (h1:kv+1≤cap) (h2:cap≤9223372036854775807) (hb:Below wr.heap.size wr W)=>nat_cmp (some ⟨gg,0,none⟩) (some ⟨gp,0,none⟩) (kv+1) n1 cap cp (rowL ws x) ps W h (hPr.bel hb) h1 h2 hgp2 (by unfold maxLen at hgp3;omega) (by omega) (by have:=HN.out;omega));(have hcv:Hid (limbs (rowL ws x)=V*x):=by show _=_;rw [r3,HPV.out.2.1]);clear r1 r2 r3 hWr hPr;by_cases hgt:P<V*x
     · have hcm:(0:Int)<cmpN (limbs (rowL ws x)) (limbs ps):=by
        rw [hcv.out,HPV.out.1];unfold cmpN;rw [if_neg (by omega),if_pos hgt];omega
       have hx5:xt≤x - 1∧0<x:=by
        have q6:=HX.out.1;(have q7:xt*V<x*V:=by rw [Nat.mul_comm x V];omega);have:=Nat.lt_of_mul_lt_mul_right q7;omega
       have HX5:Hid (xt≤x - 1∧x - 1<18446744073709551616):=⟨hx5.1,by have:=hx.out.2;omega⟩;(have ew:IntKind.u64.wrap ((x:Int) - 1)=((x - 1:Nat):Int):=by rw [u64_wrap_eq];have:=hx.out.2;omega);(have hlt:Hid (x - 1<x):=by show _<_;omega);clear hx5 hgt hcv;generalize x - 1=x' at*
       generalize cmpN (limbs (rowL ws x)) (limbs ps)=cc at*
       (go_wp2_with fail);refine CR.out.mono ?_;rintro e wa1 ⟨gg,cap,rfl,r4,r5,r6,r7,r8⟩;have CC2:=hiD (CC.out gg cap wa1 r7 r5 r6 r8);have hbR2:=hiD (hbR.out.tm r8);clear CC CR r7 r8;(go_wp2_with fail);refine CC2.out.mono ?_;rintro e wa2 ⟨rfl,j2,hj2⟩;(have hbR3:Hid (Below wp.heap.size wp wa2):=by show Below _ _ _;rw [hj2];exact below_drewN hbR2.out _);clear CC2 hj2 hbR2 hbR;(go_wp2_with fail);go_roundw
       case rel=>exact ⟨x',rfl,HX5,hbR3⟩
       case measure=>simpa [intOf] using hlt.out
     · have hcm:¬(0:Int)<cmpN (limbs (rowL ws x)) (limbs ps):=by
        rw [hcv.out,HPV.out.1];unfold cmpN;by_cases h1:V*x<P
        · rw [if_pos h1];omega
        · rw [if_neg h1,if_neg hgt];omega
       have hxe:x=xt:=by
        have q6:=HX.out.2.1;(have q7:x*V<(xt+1)*V:=by rw [Nat.mul_comm x V];omega);have q8:=Nat.lt_of_mul_lt_mul_right q7;have q9:=hx.out.1;omega
       subst hxe;clear hgt hcv;have hrl:Hid (limbs (rowL ws x)≤limbs ps):=by
        obtain ⟨r1,r2,r3⟩:=hwr.out x hx.out.2;show _≤_;rw [r3,HPV.out.1,HPV.out.2.1,Nat.mul_comm];exact HX.out.1
       generalize cmpN (limbs (rowL ws x)) (limbs ps)=cc at*
       (go_wp2_with fail);refine CR.out.mono ?_;rintro e wa1 ⟨gg,cap,rfl,r4,r5,r6,r7,r8⟩;have CC2:=hiD (CC.out gg cap wa1 r7 r5 r6 r8);have hbR2:=hiD (hbR.out.tm r8);clear CC CR r7 r8;(go_wp2_with fail);refine CC2.out.mono ?_;rintro e wa2 ⟨rfl,j2,hj2⟩;(have hbR3:Below wp.heap.size wp wa2:=by rw [hj2];exact below_drewN hbR2.out _);have hU4:=hiD (hU3.out.bel hbR3);have hQ4:=hQ3.out.bel hbR3;have hW4:=hiD (hW3.out.bel hbR3);have hP4:=hiD (hPl.out.bel hbR3);have hO4:Hid (Only (fun j=>j=gu∨j=gq) wL wa2):=hO3.out.trans (only_ext (Only.of_below hbR3));have hqf:=hQ4.frozen k;have hqc:=hQ4.cell (i:=k) (by rw [hQl.out];omega);have hQ5:=hiD (hQ4.set k (x:Int));clear CC2 hj2 hbR2 hbR hbR3 hQ4 hQ3 hU3 hW3 hPl hO3 hq3k;have hU5:=hiD (hU4.out.far (p:=⟨gq,k,none⟩) hgvq2 (.int .u64 (x:Int)));have hO5:Hid (Only (fun j=>j=gu∨j=gq) wL (wa2.setCell ⟨gq,k,none⟩ (.int .u64 (x:Int)))):=hO4.out.setCell (p:=⟨gq,k,none⟩) (.inr rfl) _;have hOs:Only (fun j=>j=gq) wa2 (wa2.setCell ⟨gq,k,none⟩ (.int .u64 (x:Int))):=Only.setCell (S:=fun j=>j=gq) (Only.refl _ _) (p:=⟨gq,k,none⟩) rfl _;have hW5:Hid (Limbs (wa2.setCell ⟨gq,k,none⟩ (.int .u64 (x:Int))) (some ⟨gv,0,none⟩) kv ws):=hW4.out.only hOs (fun y hy hg=>by injection hy with hy;subst hy;exact hgvq hg);have hP5:Hid (Limbs (wa2.setCell ⟨gq,k,none⟩ (.int .u64 (x:Int))) (some ⟨gp,0,none⟩) n1 ps):=hP4.out.only hOs (fun y hy hg=>by injection hy with hy;subst hy;exact hgpq hg);clear hU4 hO4 hW4 hP4 hOs;have hxl:x<18446744073709551616:=hx.out.2;have hlow:=hwr.out x hxl;have hsub:=subL_spec HPV.out.2.2.2 hlow.1 hrl.out;rw [hPn.out,hlow.2.1,Hwl.out,HN.out,Nat.max_self] at hsub;have hpad:=padL_spec hsub.2.1.1 hsub.2.2.2;have hrs:Hid ((padL (subL ps (rowL ws x)) n1).length=n1):=hpad.1;have hNext:Hid (DivAt (limbs us*2^s) (limbs vs*2^s) k (Go.splice Us k (padL (subL ps (rowL ws x)) n1)) (Qs.set k (x:Int))):=by
        have hV2:=HPV.out;refine hD.out.next (n:=kv) HV.out (by rw [hUl.out];omega) (by rw [hQl.out];exact hkL) hxl ?_ ?_ (by rw [HN.out];exact hpad.1) hpad.2.1 ?_
        · rw [HN.out,HPS.out,hV2.1,hV2.2.2.1];exact HX.out.1
        · rw [HN.out,HPS.out,hV2.1,hV2.2.2.1];exact HX.out.2.1
        · rw [HN.out,HPS.out,hpad.2.2,hsub.2.2.1,hlow.2.2,hV2.1,hV2.2.1,hV2.2.2.1,Nat.mul_comm V x]
       have hkd:Hid ((subL ps (rowL ws x)).length≤n1):=hsub.2.2.2;have hspl:Hid ((Go.splice Us k (padL (subL ps (rowL ws x)) n1)).length=u+1):=by
        show _=_;rw [Go.length_splice _ _ _ (by rw [hrs.out,hUl.out];have:=HN.out;omega)];exact hUl.out
       have CL:=hiD (fun gg cap W (h1:Limbs W (some ⟨gp,0,none⟩) n1 ps) (h2:Limbs W (some ⟨gg,0,none⟩) (kv+1) (rowL ws x))=>nat_lessO (some ⟨gp,0,none⟩) (some ⟨gg,0,none⟩) n1 (kv+1) cp cap ps (rowL ws x) W h1 h2 (by omega) (by omega) hrl.out);clear hlow hsub hpad hrl hwr HX hx HPV hPn;generalize subL ps (rowL ws x)=ds at*
       (have hql5:Hid ((Qs.set k (x:Int)).length=L):=by show _=_;rw [List.length_set];exact hQl.out);(have s8:(0:Int)≤(n1:Int):=by omega);have hmin:Hid ((lmbs (padL ds n1)).length=Nat.min n1 (u+1 - k)):=by
        show _=_;rw [lmbs_length,hrs.out];have:=HN.out;(have:n1≤u+1 - k:=by omega);exact (Nat.min_eq_left this).symm
       have hfit:Hid (k+(lmbs (padL ds n1)).length≤(lmbs Us++ex).length):=by
        show _≤_;rw [lmbs_length,hrs.out,List.length_append,lmbs_length,hUl.out];have:=HN.out;omega
       (go_wp2_with fail);generalize wa2.setCell ⟨gq,k,none⟩ (.int .u64 (x:Int))=wq at*
       have CR2:=hiD (fun W (h:Below wq.heap.size wq W)=>nat_rowO (some ⟨gv,0,none⟩) kv cv ws x W (hW5.out.bel h) (by omega) hxl);go_region_held3 (fun _=>True)
        (first | go_keep | trivial)
        (first
          | (go_at_call 117;refine (CR2.out _ (by first | exact bRr.drew | exact bRr)).mono ?_;rintro e wr1 ⟨gg2,cap2,rfl,r4,r5,r6,r7,r8'⟩;have r8:Below wq.heap.size wq wr1:=(by first | exact bRr.drew.trans r8' | exact r8'))
          | (go_at_call 118;refine (CL.out gg2 cap2 _ (hP5.out.bel r8) r7).mono ?_;rintro e wl ⟨Ad,kd,cd,rfl,e1,e2,e3,e4,e5,e6⟩;obtain ⟨gz,cz,wz,z1,z2,z3,z4,z5⟩:=pad_append wl wr1.heap.size Ad kd cd ds n1 hn1p (by have:=e3.len;have:=hkd.out;omega) e4 e6.size;have z6:(n1:Int)≤(cz:Int):=(by omega);have z7:Below wq.heap.size wq wz:=r8.trans ((e6.trans z5).mono r8.size))
          | (refine step_append_run _ rfl _ _ _ _ rfl (.slice Ad kd cd) (.int .i64 (n1:Int)) (by rfl) (by rfl) _ _ z1 ?_)
          | (refine step_copy_own rfl _ _ 39 39 rfl 38 Tryz.underlying39 usize gu k (u+1 - k) (cw - k) ⟨gz,0,none⟩ n1 cz (by rfl) (by rfl) (lmbs Us++ex) 38 (hU5.out.bel z7) (lmbs (padL ds n1)) hmin.out z2 hfit.out (lmbs_oneCell _) ?_))
       have hUf:=hiD ((hU5.out.bel z7).splice (k:=k) (rs:=padL ds n1) (by rw [hrs.out,hUl.out];have:=HN.out;omega));have hQf:=hiD (RowL.setRow_far (hQ5.out.bel z7) (g':=gu) (fun e=>hgvq2 e.symm) (Go.splice (lmbs Us++ex) k (lmbs (padL ds n1))).toArray);have hOf:Hid (Only (fun j=>j=gu∨j=gq) wL (wz.setRow gu (Go.splice (lmbs Us++ex) k (lmbs (padL ds n1))).toArray)):=only_setRow (hO5.out.trans (only_ext (Only.of_below z7))) (.inl rfl) _;clear CR2 CL z1 z2 z3 z4 z5 z6 z7 e1 e2 e3 e4 e5 e6 r4 r5 r6 r7 r8 hU5 hQ5 hO5 hW5 hP5;(try clear r8');generalize wz.setRow gu (Go.splice (lmbs Us++ex) k (lmbs (padL ds n1))).toArray=wf at*
       (have hkk:k≤L:=by omega);have ewk:IntKind.i64.wrap ((k:Int) - 1)=(k:Int) - 1:=IntWalk.i64_in _ (by omega);(go_wp2_with fail);go_roundw
       case rel=>exact ⟨k,_,_,hkk,rfl,hUf,hspl,hQf,hql5,hNext,hOf⟩
       case measure=>simp [intOf]
end Go.Proofs.YtehcoffbiplphaaGreat
namespace Go.Proofs.YtehcoffbiplphaaGreat
open Go.RowKit Cl
attribute [local go_sem ↓] Go.wp_at_zero Go.wp_at_succ
theorem nat_divS (A B:Option Addr) (n m c d:Nat) (xs ys:List Int) (w:World) (hx:Limbs w A n xs) (hy:Limbs w B m ys) (hnc:n≤c) (hc:c≤9223372036854775807) (hmd:m≤d) (hd:d≤9223372036854775807) (hn:n≤3900000000000) (hm:m≤3900000000000) (hlt:limbs xs<limbs ys):
 Calls Tryz.prog 82 #[.slice A n c,.slice B m d] w (DivOut w (n+1) (limbs xs) (limbs ys)):=by
 have hxl:=hx.len
 have hyl:=hy.len
 have l1:=lmN_le xs n
 have l2:=lmN_le ys m
 obtain ⟨p1,p2⟩:=plainL_take hx.ok hxl
 obtain ⟨p3,p4⟩:=plainL_take hy.ok hyl
 have C1:=hiD (nplain_any A n c xs w hx hnc hc)
 have C2:=hiD (nplain_any B m d ys w hy hmd hd)
 have Hx:=hiD (hx.take l1)
 have Hy:=hiD (hy.take l2)
 have Cc:=hiD (nat_cmp A B (lmN xs n) (lmN ys m) c d _ _ w Hx.out Hy.out (by omega) hc (by omega) hd (by omega) (by omega))
 have hcmp:cmpN (limbs (xs.take (lmN xs n))) (limbs (ys.take (lmN ys m)))<0:=by
  rw [p2,p4];unfold cmpN;rw [if_pos hlt];omega
 have hv0:((lmN ys m:Int)==0)=false:=by
  have:lmN ys m≠0:=fun h=>by have:=lmN_zero hyl h;omega
  simp;omega
 have Cn:=hiD (fun W (h:Below w.heap.size w W)=>nnorm_f A (lmN xs n) c _ W (Hx.out.bel h) (by omega) hc (by omega))
 have HN:Hid ((xs.take (lmN xs n)).take (lmN (xs.take (lmN xs n)) (lmN xs n))=xs.take (lmN xs n)):=by
  obtain ⟨q1,q2⟩:=plainL_take Hx.out.ok Hx.out.len;exact q1.inj p1 q2
 have HP:Hid (PlainL (xs.take (lmN xs n))∧limbs (xs.take (lmN xs n))=limbs xs∧(xs.take (lmN xs n)).length=lmN xs n):=⟨p1,p2,Hx.out.len⟩
 rw [HN.out] at Cn
 have hq0:Hid (limbs xs / limbs ys=0∧limbs xs % limbs ys=limbs xs):=⟨Nat.div_eq_of_lt hlt,Nat.mod_eq_of_lt hlt⟩
 clear hx hy hxl hyl p1 p2 p3 p4 HN hlt
 generalize lmN xs n=u at*
 generalize xs.take u=us at*
 go_enter Tryz.func82,Tryz.ntmps82
 go_wp2_with fail
 refine C1.out.mono ?_
 rintro e w' ⟨rfl,rfl⟩
 go_wp2_with fail
 refine C2.out.mono ?_
 rintro e w' ⟨rfl,rfl⟩
 go_wp2_with fail
 refine Cc.out.mono ?_
 rintro e w1 ⟨rfl,j1,hj1⟩
 have hb1:Below w'.heap.size w' w1:=by subst hj1;exact below_drewN bRr _
 have Hb1:=hiD hb1
 clear hj1 hb1
 go_wp2_with fail
 refine (Cn.out _ Hb1.out).mono ?_
 rintro e w2 ⟨A2,c2,rfl,f1,f2,f3,f4,_⟩
 have F:Hid (DivOut w' (n+1) (limbs xs) (limbs ys) (.returned (.tuple #[.slice none 0 0,.slice A2 us.length c2,.int .i64 0])) w2):=
  ⟨[],us,none,0,0,A2,us.length,c2,rfl,⟨fun i=>by rw [nth_ge (by simp)];omega,fun h=>by simp at h⟩,HP.out.1,by rw [hq0.out.1];rfl,by rw [hq0.out.2];exact HP.out.2.1,by omega,by have:=HP.out.2.2;omega,by omega,by omega,f1,f2,Limbs.nil _ _,f3,Hb1.out.tm f4⟩
 clear f3 f4
 go_wp2_with fail
 (try simp only [Exit.inBlock,Exit.then]);refine bodyPost_ret (results_tmp3 rfl _ _ _) rfl ?_
 exact F.out
theorem plain_one_len {ys:List Int}(h:PlainL ys) (h1:ys.length=1):∃y,ys=[y]∧0<y∧y<18446744073709551616∧limbs ys=y.toNat:=by
 match ys,h1 with
 | [y],_=>
   have q1:=h.1 0;have q2:=h.2 (by simp);rw [nth_cons_zero] at q1;have q3:nth [y] ([y].length - 1)=y:=rfl;rw [q3] at q2;refine ⟨y,rfl,by omega,q1.2,?_⟩;show y.toNat+2^64*0=_;omega
theorem nat_divO (A B:Option Addr) (n m c d:Nat) (xs ys:List Int) (w:World) (hx:Limbs w A n xs) (hy:Limbs w B m ys) (hnc:n≤c) (hc:c≤9223372036854775807) (hmd:m≤d) (hd:d≤9223372036854775807) (hn:n≤3900000000000) (hm:m≤3900000000000) (h1:lmN ys m=1) (hle:limbs ys≤limbs xs):
 Calls Tryz.prog 82 #[.slice A n c,.slice B m d] w (DivOut w (n+1) (limbs xs) (limbs ys)):=by
 have hxl:=hx.len
 have hyl:=hy.len
 have l1:=lmN_le xs n
 have l2:=lmN_le ys m
 obtain ⟨p1,p2⟩:=plainL_take hx.ok hxl
 obtain ⟨p3,p4⟩:=plainL_take hy.ok hyl
 have C1:=hiD (nplain_any A n c xs w hx hnc hc)
 have C2:=hiD (nplain_any B m d ys w hy hmd hd)
 have Hx:=hiD (hx.take l1)
 have hy2:=hy.take l2
 rw [h1] at C2 hy2 p3 p4
 obtain ⟨y,hye,hy0,hyl2,hyv⟩:=plain_one_len p3 (by rw [List.length_take];omega)
 have hyY:limbs ys=y.toNat:=by rw [← p4,hyv]
 rw [hye] at hy2
 have Cc:=hiD (nat_cmp A B (lmN xs n) 1 c d _ _ w Hx.out hy2 (by omega) hc (by omega) hd (by omega) (by omega))
 have hcmp:¬cmpN (limbs (xs.take (lmN xs n))) (limbs [y])<0:=by
  rw [p2,show limbs [y]=limbs ys by rw [← hye,p4]];unfold cmpN;rw [if_neg (by omega)];split<;>omega
 have Cs:=hiD (fun W (h:Below w.heap.size w W)=>nat_short A (lmN xs n) c _ y W (Hx.out.bel h) (by omega) hy0 hyl2)
 obtain ⟨b,o,rfl,hb,hcB⟩:=hy2.at_ (by omega)
 have hc1:=hcB 0 (by omega)
 rw [Nat.add_zero] at hc1
 have hq:nth [y] 0=y:=rfl
 rw [hq] at hc1
 have HX:Hid (limbs (xs.take (lmN xs n))=limbs xs∧limbs ys=y.toNat∧0<y∧y<18446744073709551616):=⟨p2,hyY,hy0,hyl2⟩
 clear hcB hx hy hy2 p1 p2 p3 p4 hye hyv hyY hxl hyl h1 hle hy0 hyl2 Hx
 generalize lmN xs n=u at*
 generalize xs.take u=us at*
 go_enter Tryz.func82,Tryz.ntmps82
 go_wp2_with fail
 refine C1.out.mono ?_
 rintro e w' ⟨rfl,rfl⟩
 go_wp2_with fail
 refine C2.out.mono ?_
 rintro e w' ⟨rfl,rfl⟩
 go_wp2_with fail
 refine Cc.out.mono ?_
 rintro e w1 ⟨rfl,j1,hj1⟩
 have hbw1:Below w'.heap.size w' w1:=by subst hj1;exact below_drewN bRr _
 have hc2:=(hbw1.cell (p:=⟨b,o,none⟩) hb).trans hc1
 clear hj1 hc1
 go_wp2_with fail
 refine (Cs.out _ hbw1).mono ?_
 rintro e w2 ⟨qs,r,A1,k1,c1,rfl,g1,g2,g3,g4,g5,⟨g6,g7,g8⟩,g9⟩
 have hb2:Below w'.heap.size w' w2:=hbw1.tm g9
 have hrl:r<18446744073709551616:=by have:=HX.out;omega
 have HL:=hiD (Limbs.one w2 38 (x:=r) g6 hrl)
 have hdm:=dig_done (X:=limbs us) (q:=limbs qs) (Y:=y.toNat) (by omega) (by rw [Nat.add_mul];have:=HX.out;omega)
 have hlm:=lmN_le [r] 1
 have hpr:=plainL_take (xs:=[r]) HL.out.ok (n:=1) rfl
 have hr1:limbs [r]=r.toNat:=by show r.toNat+2^64*0=_;omega
 have F:Hid (DivOut w' (n+1) (limbs xs) (limbs ys) (.returned (.tuple #[.slice A1 k1 c1,.slice (some ⟨w2.heap.size,0,none⟩) (lmN [r] 1) 1,.int .i64 0])) (w2.alloc (.cells #[.int .u64 r] 38))):=
  ⟨qs,_,A1,k1,c1,_,_,1,rfl,g5,hpr.1,by rw [← HX.out.1,HX.out.2.1];exact hdm.1.symm,by rw [hpr.2,hr1,← HX.out.1,HX.out.2.1,← hdm.2];omega,by omega,by omega,g2,g3,hlm,by omega,g4.alloc _,HL.out.take hlm,hb2.alloc hb2.size _⟩
 clear g4 g5 g6 g7 g8 g9 hdm hpr hr1
 generalize hlmr:lmN [r] 1=lr at*
 have HR:=hiD hlmr
 clear hlmr
 go_wp2_with fail
 refine (nplain_any (some ⟨w2.heap.size,0,none⟩) 1 1 [r] _ HL.out (by omega) (by omega)).mono ?_
 rintro e w3 ⟨rfl,rfl⟩
 rw [HR.out]
 go_wp2_with fail
 (try simp only [Exit.inBlock,Exit.then]);refine bodyPost_ret (results_tmp3 rfl _ _ _) rfl ?_
 exact F.out
theorem nat_div (A B:Option Addr) (n m c d:Nat) (xs ys:List Int) (w:World) (hx:Limbs w A n xs) (hy:Limbs w B m ys) (hnc:n≤c) (hc:c≤9223372036854775807) (hmd:m≤d) (hd:d≤9223372036854775807) (hn:n≤3900000000000) (hm:m≤3900000000000) (h0:0<limbs ys):
 Calls Tryz.prog 82 #[.slice A n c,.slice B m d] w (DivOut w (n+1) (limbs xs) (limbs ys)):=by
 rcases Nat.lt_or_ge (limbs xs) (limbs ys) with h | h
 · exact nat_divS A B n m c d xs ys w hx hy hnc hc hmd hd hn hm h
 · by_cases h1:lmN ys m=1
   · exact nat_divO A B n m c d xs ys w hx hy hnc hc hmd hd hn hm h1 h
   · have h2:lmN ys m≠0:=fun e=>by have:=lmN_zero hy.len e;omega
     exact nat_divL A B n m c d xs ys w hx hy hnc hc hmd hd hn hm (by omega) h
end Go.Proofs.YtehcoffbiplphaaGreat
namespace Go.Proofs.YtehcoffbiplphaaGreat
open Go.RowKit Cl
attribute [local go_sem ↓] Go.wp_at_zero Go.wp_at_succ
theorem int_div_unique {a b q r:Int}(h:q*b+r=a) (h0:0≤r) (h1:r<b∨r< -b):q=a / b∧r=a % b:=by
 rcases Int.lt_or_le 0 b with hb | hb
 · have h2:r<b:=by omega
   obtain ⟨e1,e2⟩:=(Int.ediv_emod_unique hb (a:=a) (q:=q) (r:=r)).2 ⟨by rw [Int.mul_comm b q];omega,h0,h2⟩;exact ⟨e1.symm,e2.symm⟩
 · have h2:r< -b:=by omega
   obtain ⟨e1,e2⟩:=(Int.ediv_emod_unique (b:= -b) (by omega) (a:=a) (q:= -q) (r:=r)).2 ⟨by rw [Int.neg_mul_neg,Int.mul_comm b q];omega,h0,h2⟩;rw [Int.ediv_neg] at e1;rw [Int.emod_neg] at e2;exact ⟨by omega,e2.symm⟩
theorem nat_dm (X Y:Nat) (h0:0<Y):((X / Y:Nat):Int)*(Y:Int)+((X % Y:Nat):Int)=(X:Int)∧X % Y<Y:=by
 have h1:=Nat.div_add_mod X Y
 have h2:((Y*(X / Y)+X % Y:Nat):Int)=(X:Int):=by rw [h1]
 rw [Int.natCast_add,Int.natCast_mul,Int.mul_comm] at h2
 exact ⟨h2,Nat.mod_lt X h0⟩
theorem zdiv_pos (t:Bool) {xs ys qs rs:List Int}(hq:limbs qs=limbs xs / limbs ys) (hr:limbs rs=limbs xs % limbs ys) (h0:0<limbs ys):intZ (false !=t) qs=intZ false xs / intZ t ys∧intZ false rs=intZ false xs % intZ t ys:=by
 obtain ⟨h1,h2⟩:=nat_dm (limbs xs) (limbs ys) h0
 unfold intZ
 rw [hq,hr]
 generalize limbs xs / limbs ys=Q at*
 generalize limbs xs % limbs ys=R at*
 cases t<;>simp only [Bool.false_eq_true,if_false,if_true,bne_self_eq_false,Bool.false_bne]
 · exact int_div_unique h1 (by omega) (.inl (by omega))
 · exact int_div_unique (by rw [Int.neg_mul_neg];exact h1) (by omega) (.inr (by omega))
theorem zdiv_neg0 (t:Bool) {xs ys qs rs:List Int}(hq:limbs qs=limbs xs / limbs ys) (hr:limbs rs=limbs xs % limbs ys) (hz:limbs rs=0) (h0:0<limbs ys):intZ (true !=t) qs=intZ true xs / intZ t ys∧intZ false rs=intZ true xs % intZ t ys:=by
 obtain ⟨h1,h2⟩:=nat_dm (limbs xs) (limbs ys) h0
 unfold intZ
 rw [hq,hz]
 rw [hz] at hr
 rw [← hr] at h1
 generalize limbs xs / limbs ys=Q at*
 cases t<;>simp only [Bool.false_eq_true,if_false,if_true,Bool.bne_false,bne_self_eq_false]
 · exact int_div_unique (by rw [Int.neg_mul];omega) (by omega) (.inl (by omega))
 · exact int_div_unique (by rw [Int.mul_neg];omega) (by omega) (.inr (by omega))
theorem zdiv_neg (t:Bool) {xs ys qs rs:List Int}(hq:limbs qs=limbs xs / limbs ys+1) (hr:limbs rs=limbs ys - limbs xs % limbs ys) (hz:0<limbs xs % limbs ys) (h0:0<limbs ys):intZ (true !=t) qs=intZ true xs / intZ t ys∧intZ false rs=intZ true xs % intZ t ys:=by
 obtain ⟨h1,h2⟩:=nat_dm (limbs xs) (limbs ys) h0
 unfold intZ
 rw [hq,hr]
 generalize limbs xs / limbs ys=Q at*
 generalize limbs xs % limbs ys=R at*
 have h3:((limbs ys - R:Nat):Int)=(limbs ys:Int) - (R:Int):=by omega
 cases t<;>simp only [Bool.false_eq_true,if_false,if_true,Bool.bne_false,bne_self_eq_false]
 · exact int_div_unique (by rw [h3,Int.neg_mul,Int.natCast_add,Int.add_mul];omega) (by omega) (.inl (by omega))
 · exact int_div_unique (by rw [h3,Int.mul_neg,Int.natCast_add,Int.add_mul];omega) (by omega) (.inr (by omega))
def DivZ (w:World) (K:Nat) (a b:Int) (e:Ending) (w':World):Prop:=
 ∃s1 A1 k1 c1 l1 s2 A2 k2 c2 l2,e=.returned (.tuple #[.agg #[.bool s1,.slice A1 k1 c1],.agg #[.bool s2,.slice A2 k2 c2],.int .i64 0])∧k1≤K∧k2≤K∧k1≤c1∧c1≤9223372036854775807∧k2≤c2∧c2≤9223372036854775807∧Limbs w' A1 k1 l1∧Limbs w' A2 k2 l2∧ZVal s1 l1 (a / b)∧ZVal s2 l2 (a % b)∧(0<k1→∀y,A1=some y→w.heap.size≤y.block)∧Below w.heap.size w w'
theorem zdiv00 (A B:Option Addr) (n m c d:Nat) (xs ys:List Int) (w:World) (hx:Limbs w A n xs) (hy:Limbs w B m ys) (hnc:n≤c) (hc:c≤9223372036854775807) (hmd:m≤d) (hd:d≤9223372036854775807) (hn:n≤3900000000000) (hm:m≤3900000000000) (h0:0<limbs ys):
 Calls Tryz.prog 79 #[.agg #[.bool false,.slice A n c],.agg #[.bool false,.slice B m d]] w (DivZ w (n+m+10) (intZ false xs) (intZ false ys)):=by
 have Cd:=hiD (fun W (h:Below w.heap.size w W)=>nat_div A B n m c d xs ys W (hx.bel h) (hy.bel h) hnc hc hmd hd hn hm h0)
 obtain ⟨da,db,dq,dr,b4⟩:=duo4 w (.bool false) (.slice A n c) (.bool false) (.slice B m d) (.bool false) (.slice none 0 0) (.bool false) (.slice none 0 0)
 go_enter Tryz.func79,Tryz.ntmps79
 go_wp2_with fail
 have Da:=hiD da
 have Db:=hiD db
 have Dq:=hiD dq
 have Dr:=hiD dr
 have a1:=da.cell1
 have e1:=db.cell1
 have Hy:=hiD (hy.bel b4)
 clear da db dq dr hx hy
 generalize (((w.alloc (.cells #[.bool false,.slice A n c] 41)).alloc (.cells #[.bool false,.slice B m d] 41)).alloc (.cells #[.bool false,.slice none 0 0] 41)).alloc (.cells #[.bool false,.slice none 0 0] 41)=wt at*
 go_wp2_with fail
 refine (Cd.out _ (by exact b4)).mono ?_
 rintro e w1 ⟨qs,rs,A1,k1,c1,A2,k2,c2,rfl,g1,g2,g3,g4,g5,g6,g7,g8,g9,g10,g11,g12,hbw1⟩
 have q0:=(Da.out.bel hbw1).cell0
 have q1:=(Db.out.bel hbw1).cell0
 have q2:=(Db.out.bel hbw1).cell1
 have H5:=hiD g11
 have H6:=hiD g12
 have Hy1:=hiD (Hy.out.bel hbw1)
 clear g11 g12 a1 e1
 go_wp2_with fail
 refine (zmadeZF false A1 k1 c1 qs w1 H5.out (by omega) (by omega) (by omega)).mono ?_
 rintro e w7 ⟨s7,A7,k7,c7,ls,rfl,m1,m2,m3,m4,m5,m6,hbw7⟩
 clear q0 q1 q2
 go_wp2_with fail
 refine (zmadeZ false A2 k2 c2 rs w7 (H6.out.bel hbw7) (by omega) (by omega) (by omega)).mono ?_
 rintro e w8 ⟨s8,A8,k8,c8,l8,rfl,p1,p2,p3,p4,p5,hbw8⟩
 have hb8:Below wt.heap.size wt w8:=(hbw1.tm hbw7).trans (hbw8.mono ((hbw1.tm hbw7).size))
 have Dq3:=Dq.out.bel hb8
 have Dr3:=Dr.out.bel hb8
 have r0:=Dq3.cell0
 have r1:=Dq3.cell1
 have t0:=Dr3.cell0
 have t1:=Dr3.cell1
 have f0:=Dq3.frozen 0
 have f1:=Dq3.frozen 1
 have f2:=Dr3.frozen 0
 have f3:=Dr3.frozen 1
 have HL7:=hiD (m4.bel hbw8)
 have HL8:=hiD p4
 have ne1:w.heap.size+1+1≠w.heap.size+1+1+1:=by omega
 have ne2:w.heap.size+1+1+1≠w.heap.size+1+1:=by omega
 have le1:w.heap.size≤w.heap.size+1+1:=by omega
 have le2:w.heap.size≤w.heap.size+1+1+1:=by omega
 have Hb:Hid (Below w.heap.size w w8):=b4.tm hb8
 have Hz:Hid (ZVal s7 ls (intZ false xs / intZ false ys)):=by
  have h:=m5;have e:intZ false qs=intZ false xs / intZ false ys:=((zdiv_pos false g3 g4 h0).1);rw [e] at h;exact h
 have Hz8:Hid (ZVal s8 l8 (intZ false xs % intZ false ys)):=by
  have h:=p5;have e:intZ false rs=intZ false xs % intZ false ys:=((zdiv_pos false g3 g4 h0).2);rw [e] at h;exact h
 have HQ:=hiD Dq3
 have HR:=hiD Dr3
 have hf7:Hid (0<k7→∀y,A7=some y→w.heap.size≤y.block):=fun h0 y hy=>Nat.le_trans (Nat.le_trans b4.size hbw1.size) (m6 h0 y hy)
 have hk7:k7≤n+m+10:=by omega
 have hk8:k8≤n+m+10:=by omega
 clear Dq3 Dr3 m4 m5 m6 p4 p5 hb8 hbw1 hbw7 hbw8 b4 Cd g1 g2 g3 g4
 generalize w.heap.size+1+1+1=gr at*
 generalize w.heap.size+1+1=gq at*
 go_wp2_with fail
 have X1:=(HR.out.other ⟨gq,0,none⟩ ne1 (.bool s7)).other ⟨gq,1,none⟩ ne1 (.slice A7 k7 c7)
 have X2:=((HQ.out.set (.bool s7) (.slice A7 k7 c7)).other ⟨gr,0,none⟩ ne2 (.bool s8)).other ⟨gr,1,none⟩ ne2 (.slice A8 k8 c8)
 refine bodyPost_ret (results_cell2_tmp (fn:=Tryz.f79) rfl _ _ _ _ _ _ _ _ _ _ _ _ rfl X2 rfl (X1.set _ _) Tryz.underlying41 rfl aint_size Tryz.underlying41 rfl aint_size) rfl ?_
 exact ⟨s7,A7,k7,c7,ls,s8,A8,k8,c8,l8,rfl,hk7,hk8,m1,m2,p1,p2,X1.limbs _ _ rfl rfl (HQ.out.limbs _ _ rfl rfl HL7.out),X1.limbs _ _ rfl rfl (HQ.out.limbs _ _ rfl rfl HL8.out),Hz.out,Hz8.out,hf7.out,(((Hb.out.setCell (p:=⟨gq,0,none⟩) le1 _).setCell (p:=⟨gq,1,none⟩) le1 _).setCell (p:=⟨gr,0,none⟩) le2 _).setCell (p:=⟨gr,1,none⟩) le2 _⟩
theorem zdiv01 (A B:Option Addr) (n m c d:Nat) (xs ys:List Int) (w:World) (hx:Limbs w A n xs) (hy:Limbs w B m ys) (hnc:n≤c) (hc:c≤9223372036854775807) (hmd:m≤d) (hd:d≤9223372036854775807) (hn:n≤3900000000000) (hm:m≤3900000000000) (h0:0<limbs ys):
 Calls Tryz.prog 79 #[.agg #[.bool false,.slice A n c],.agg #[.bool true,.slice B m d]] w (DivZ w (n+m+10) (intZ false xs) (intZ true ys)):=by
 have Cd:=hiD (fun W (h:Below w.heap.size w W)=>nat_div A B n m c d xs ys W (hx.bel h) (hy.bel h) hnc hc hmd hd hn hm h0)
 obtain ⟨da,db,dq,dr,b4⟩:=duo4 w (.bool false) (.slice A n c) (.bool true) (.slice B m d) (.bool false) (.slice none 0 0) (.bool false) (.slice none 0 0)
 go_enter Tryz.func79,Tryz.ntmps79
 go_wp2_with fail
 have Da:=hiD da
 have Db:=hiD db
 have Dq:=hiD dq
 have Dr:=hiD dr
 have a1:=da.cell1
 have e1:=db.cell1
 have Hy:=hiD (hy.bel b4)
 clear da db dq dr hx hy
 generalize (((w.alloc (.cells #[.bool false,.slice A n c] 41)).alloc (.cells #[.bool true,.slice B m d] 41)).alloc (.cells #[.bool false,.slice none 0 0] 41)).alloc (.cells #[.bool false,.slice none 0 0] 41)=wt at*
 go_wp2_with fail
 refine (Cd.out _ (by exact b4)).mono ?_
 rintro e w1 ⟨qs,rs,A1,k1,c1,A2,k2,c2,rfl,g1,g2,g3,g4,g5,g6,g7,g8,g9,g10,g11,g12,hbw1⟩
 have q0:=(Da.out.bel hbw1).cell0
 have q1:=(Db.out.bel hbw1).cell0
 have q2:=(Db.out.bel hbw1).cell1
 have H5:=hiD g11
 have H6:=hiD g12
 have Hy1:=hiD (Hy.out.bel hbw1)
 clear g11 g12 a1 e1
 go_wp2_with fail
 refine (zmadeZF true A1 k1 c1 qs w1 H5.out (by omega) (by omega) (by omega)).mono ?_
 rintro e w7 ⟨s7,A7,k7,c7,ls,rfl,m1,m2,m3,m4,m5,m6,hbw7⟩
 clear q0 q1 q2
 go_wp2_with fail
 refine (zmadeZ false A2 k2 c2 rs w7 (H6.out.bel hbw7) (by omega) (by omega) (by omega)).mono ?_
 rintro e w8 ⟨s8,A8,k8,c8,l8,rfl,p1,p2,p3,p4,p5,hbw8⟩
 have hb8:Below wt.heap.size wt w8:=(hbw1.tm hbw7).trans (hbw8.mono ((hbw1.tm hbw7).size))
 have Dq3:=Dq.out.bel hb8
 have Dr3:=Dr.out.bel hb8
 have r0:=Dq3.cell0
 have r1:=Dq3.cell1
 have t0:=Dr3.cell0
 have t1:=Dr3.cell1
 have f0:=Dq3.frozen 0
 have f1:=Dq3.frozen 1
 have f2:=Dr3.frozen 0
 have f3:=Dr3.frozen 1
 have HL7:=hiD (m4.bel hbw8)
 have HL8:=hiD p4
 have ne1:w.heap.size+1+1≠w.heap.size+1+1+1:=by omega
 have ne2:w.heap.size+1+1+1≠w.heap.size+1+1:=by omega
 have le1:w.heap.size≤w.heap.size+1+1:=by omega
 have le2:w.heap.size≤w.heap.size+1+1+1:=by omega
 have Hb:Hid (Below w.heap.size w w8):=b4.tm hb8
 have Hz:Hid (ZVal s7 ls (intZ false xs / intZ true ys)):=by
  have h:=m5;have e:intZ true qs=intZ false xs / intZ true ys:=((zdiv_pos true g3 g4 h0).1);rw [e] at h;exact h
 have Hz8:Hid (ZVal s8 l8 (intZ false xs % intZ true ys)):=by
  have h:=p5;have e:intZ false rs=intZ false xs % intZ true ys:=((zdiv_pos true g3 g4 h0).2);rw [e] at h;exact h
 have HQ:=hiD Dq3
 have HR:=hiD Dr3
 have hf7:Hid (0<k7→∀y,A7=some y→w.heap.size≤y.block):=fun h0 y hy=>Nat.le_trans (Nat.le_trans b4.size hbw1.size) (m6 h0 y hy)
 have hk7:k7≤n+m+10:=by omega
 have hk8:k8≤n+m+10:=by omega
 clear Dq3 Dr3 m4 m5 m6 p4 p5 hb8 hbw1 hbw7 hbw8 b4 Cd g1 g2 g3 g4
 generalize w.heap.size+1+1+1=gr at*
 generalize w.heap.size+1+1=gq at*
 go_wp2_with fail
 have X1:=(HR.out.other ⟨gq,0,none⟩ ne1 (.bool s7)).other ⟨gq,1,none⟩ ne1 (.slice A7 k7 c7)
 have X2:=((HQ.out.set (.bool s7) (.slice A7 k7 c7)).other ⟨gr,0,none⟩ ne2 (.bool s8)).other ⟨gr,1,none⟩ ne2 (.slice A8 k8 c8)
 refine bodyPost_ret (results_cell2_tmp (fn:=Tryz.f79) rfl _ _ _ _ _ _ _ _ _ _ _ _ rfl X2 rfl (X1.set _ _) Tryz.underlying41 rfl aint_size Tryz.underlying41 rfl aint_size) rfl ?_
 exact ⟨s7,A7,k7,c7,ls,s8,A8,k8,c8,l8,rfl,hk7,hk8,m1,m2,p1,p2,X1.limbs _ _ rfl rfl (HQ.out.limbs _ _ rfl rfl HL7.out),X1.limbs _ _ rfl rfl (HQ.out.limbs _ _ rfl rfl HL8.out),Hz.out,Hz8.out,hf7.out,(((Hb.out.setCell (p:=⟨gq,0,none⟩) le1 _).setCell (p:=⟨gq,1,none⟩) le1 _).setCell (p:=⟨gr,0,none⟩) le2 _).setCell (p:=⟨gr,1,none⟩) le2 _⟩
theorem zdiv10 (A B:Option Addr) (n m c d:Nat) (xs ys:List Int) (w:World) (hx:Limbs w A n xs) (hy:Limbs w B m ys) (hnc:n≤c) (hc:c≤9223372036854775807) (hmd:m≤d) (hd:d≤9223372036854775807) (hn:n≤3900000000000) (hm:m≤3900000000000) (h0:0<limbs ys):
 Calls Tryz.prog 79 #[.agg #[.bool true,.slice A n c],.agg #[.bool false,.slice B m d]] w (DivZ w (n+m+10) (intZ true xs) (intZ false ys)):=by
 have Cd:=hiD (fun W (h:Below w.heap.size w W)=>nat_div A B n m c d xs ys W (hx.bel h) (hy.bel h) hnc hc hmd hd hn hm h0)
 obtain ⟨da,db,dq,dr,b4⟩:=duo4 w (.bool true) (.slice A n c) (.bool false) (.slice B m d) (.bool false) (.slice none 0 0) (.bool false) (.slice none 0 0)
 go_enter Tryz.func79,Tryz.ntmps79
 go_wp2_with fail
 have Da:=hiD da
 have Db:=hiD db
 have Dq:=hiD dq
 have Dr:=hiD dr
 have a1:=da.cell1
 have e1:=db.cell1
 have Hy:=hiD (hy.bel b4)
 clear da db dq dr hx hy
 generalize (((w.alloc (.cells #[.bool true,.slice A n c] 41)).alloc (.cells #[.bool false,.slice B m d] 41)).alloc (.cells #[.bool false,.slice none 0 0] 41)).alloc (.cells #[.bool false,.slice none 0 0] 41)=wt at*
 go_wp2_with fail
 refine (Cd.out _ (by exact b4)).mono ?_
 rintro e w1 ⟨qs,rs,A1,k1,c1,A2,k2,c2,rfl,g1,g2,g3,g4,g5,g6,g7,g8,g9,g10,g11,g12,hbw1⟩
 have q0:=(Da.out.bel hbw1).cell0
 have q1:=(Db.out.bel hbw1).cell0
 have q2:=(Db.out.bel hbw1).cell1
 have H5:=hiD g11
 have H6:=hiD g12
 have Hy1:=hiD (Hy.out.bel hbw1)
 clear g11 g12 a1 e1
 have hk2:=H6.out.len
 by_cases hz:k2=0
 · have hz':¬(0:Int)<(k2:Int):=by omega
   have hr0:limbs rs=0:=g2.nil_iff.2 (by omega);clear hz;go_wp2_with fail
   refine (zmadeZF true A1 k1 c1 qs w1 H5.out (by omega) (by omega) (by omega)).mono ?_;rintro e w7 ⟨s7,A7,k7,c7,ls,rfl,m1,m2,m3,m4,m5,m6,hbw7⟩;clear q0 q1 q2;go_wp2_with fail
   refine (zmadeZ false A2 k2 c2 rs w7 (H6.out.bel hbw7) (by omega) (by omega) (by omega)).mono ?_;rintro e w8 ⟨s8,A8,k8,c8,l8,rfl,p1,p2,p3,p4,p5,hbw8⟩;have hb8:Below wt.heap.size wt w8:=(hbw1.tm hbw7).trans (hbw8.mono ((hbw1.tm hbw7).size));have Dq3:=Dq.out.bel hb8;have Dr3:=Dr.out.bel hb8;have r0:=Dq3.cell0;have r1:=Dq3.cell1;have t0:=Dr3.cell0;have t1:=Dr3.cell1;have f0:=Dq3.frozen 0;have f1:=Dq3.frozen 1;have f2:=Dr3.frozen 0;have f3:=Dr3.frozen 1;have HL7:=hiD (m4.bel hbw8);have HL8:=hiD p4;have ne1:w.heap.size+1+1≠w.heap.size+1+1+1:=by omega
   have ne2:w.heap.size+1+1+1≠w.heap.size+1+1:=by omega
   have le1:w.heap.size≤w.heap.size+1+1:=by omega
   have le2:w.heap.size≤w.heap.size+1+1+1:=by omega
   have Hb:Hid (Below w.heap.size w w8):=b4.tm hb8;have Hz:Hid (ZVal s7 ls (intZ true xs / intZ false ys)):=by
    have h:=m5;have e:intZ true qs=intZ true xs / intZ false ys:=((zdiv_neg0 false g3 g4 hr0 h0).1);rw [e] at h;exact h
   have Hz8:Hid (ZVal s8 l8 (intZ true xs % intZ false ys)):=by
    have h:=p5;have e:intZ false rs=intZ true xs % intZ false ys:=((zdiv_neg0 false g3 g4 hr0 h0).2);rw [e] at h;exact h
   have HQ:=hiD Dq3;have HR:=hiD Dr3;have hf7:Hid (0<k7→∀y,A7=some y→w.heap.size≤y.block):=fun h0 y hy=>Nat.le_trans (Nat.le_trans b4.size hbw1.size) (m6 h0 y hy);have hk7:k7≤n+m+10:=by omega
   have hk8:k8≤n+m+10:=by omega
   clear Dq3 Dr3 m4 m5 m6 p4 p5 hb8 hbw1 hbw7 hbw8 b4 Cd g1 g2 g3 g4;generalize w.heap.size+1+1+1=gr at*
   generalize w.heap.size+1+1=gq at*
   go_wp2_with fail
   have X1:=(HR.out.other ⟨gq,0,none⟩ ne1 (.bool s7)).other ⟨gq,1,none⟩ ne1 (.slice A7 k7 c7);have X2:=((HQ.out.set (.bool s7) (.slice A7 k7 c7)).other ⟨gr,0,none⟩ ne2 (.bool s8)).other ⟨gr,1,none⟩ ne2 (.slice A8 k8 c8);refine bodyPost_ret (results_cell2_tmp (fn:=Tryz.f79) rfl _ _ _ _ _ _ _ _ _ _ _ _ rfl X2 rfl (X1.set _ _) Tryz.underlying41 rfl aint_size Tryz.underlying41 rfl aint_size) rfl ?_;exact ⟨s7,A7,k7,c7,ls,s8,A8,k8,c8,l8,rfl,hk7,hk8,m1,m2,p1,p2,X1.limbs _ _ rfl rfl (HQ.out.limbs _ _ rfl rfl HL7.out),X1.limbs _ _ rfl rfl (HQ.out.limbs _ _ rfl rfl HL8.out),Hz.out,Hz8.out,hf7.out,(((Hb.out.setCell (p:=⟨gq,0,none⟩) le1 _).setCell (p:=⟨gq,1,none⟩) le1 _).setCell (p:=⟨gr,0,none⟩) le2 _).setCell (p:=⟨gr,1,none⟩) le2 _⟩
 · have hz':(0:Int)<(k2:Int):=by omega
   have hr0:0<limbs rs:=Nat.pos_of_ne_zero (fun e=>hz (by have:=g2.nil_iff.1 e;omega));have hrle:limbs rs≤limbs ys:=by rw [g4];exact Nat.le_of_lt (Nat.mod_lt _ h0)
   have hone:=Limbs.one w1 38 (x:=1) (by omega) (by omega);have hbo:Below w1.heap.size w1 (w1.alloc (.cells #[.int .u64 1] 38)):=bRr.alloc lRr _;have Ca:=hiD (nat_add A1 (some ⟨w1.heap.size,0,none⟩) k1 1 c1 1 qs [1] _ (H5.out.bel hbo) hone (by omega) (by omega));have Cs:=hiD (fun W (h:Below w1.heap.size w1 W)=>nat_sub B A2 m k2 d c2 ys rs W (Hy1.out.bel h) (H6.out.bel h) (by omega) (by omega) hrle);have hadd:=addL_spec H5.out.ok hone.ok;have hsub:=subL_spec Hy1.out.ok H6.out.ok hrle;have hl1:=H5.out.len;have hl2:=Hy1.out.len;clear hz hone;go_wp2_with fail
   refine Ca.out.mono ?_;rintro e w4 ⟨A4,k4,c4,rfl,f4a,f4b,f4c,f4d,f4e⟩;have hb4:Below wt.heap.size wt w4:=hbw1.trans ((hbo.tm f4e).mono hbw1.size);have hb4':Below w1.heap.size w1 w4:=hbo.tm f4e;replace q0:=(Da.out.bel hb4).cell0
   replace q1:=(Db.out.bel hb4).cell0
   replace q2:=(Db.out.bel hb4).cell1
   clear Ca;go_wp2_with fail
   refine (Cs.out _ hb4').mono ?_;rintro e w5 ⟨A5,k5,c5,rfl,f5a,f5b,f5c,f5d,f5e⟩;have hb5:Below wt.heap.size wt w5:=hb4.tm f5e;replace q0:=(Da.out.bel hb5).cell0
   replace q1:=(Db.out.bel hb5).cell0
   replace q2:=(Db.out.bel hb5).cell1
   have f4L:=hiD (f4c.bel f5e);have f5L:=hiD f5c;have hk4:k4≤n+3:=by have:=f4c.len;rw [← this];have:=hadd.2.2;rw [hl1] at this;simp at this;omega
   have hk5:k5≤n+m+3:=by have:=f5c.len;rw [← this];have:=hsub.2.2.2;rw [hl2,hk2] at this;omega
   have hq4:limbs (addL qs [1])=limbs xs / limbs ys+1:=by rw [hadd.2.1,g3];rfl
   have hr5:limbs (subL ys rs)=limbs ys - limbs xs % limbs ys:=by rw [hsub.2.2.1,g4]
   have hrm:0<limbs xs % limbs ys:=by rw [← g4];exact hr0
   clear Cs f4c f4d f4e f5c f5d f5e hadd hsub hl1 hl2 hb4 hb4' hbo hrle;go_wp2_with fail
   refine (zmadeZF true A4 k4 c4 (addL qs [1]) w5 f4L.out (by omega) (by omega) (by omega)).mono ?_;rintro e w7 ⟨s7,A7,k7,c7,ls,rfl,m1,m2,m3,m4,m5,m6,hbw7⟩;clear q0 q1 q2;go_wp2_with fail
   refine (zmadeZ false A5 k5 c5 (subL ys rs) w7 (f5L.out.bel hbw7) (by omega) (by omega) (by omega)).mono ?_;rintro e w8 ⟨s8,A8,k8,c8,l8,rfl,p1,p2,p3,p4,p5,hbw8⟩;have hb8:Below wt.heap.size wt w8:=(hb5.tm hbw7).trans (hbw8.mono ((hb5.tm hbw7).size));have Dq3:=Dq.out.bel hb8;have Dr3:=Dr.out.bel hb8;have r0:=Dq3.cell0;have r1:=Dq3.cell1;have t0:=Dr3.cell0;have t1:=Dr3.cell1;have f0:=Dq3.frozen 0;have f1:=Dq3.frozen 1;have f2:=Dr3.frozen 0;have f3:=Dr3.frozen 1;have HL7:=hiD (m4.bel hbw8);have HL8:=hiD p4;have ne1:w.heap.size+1+1≠w.heap.size+1+1+1:=by omega
   have ne2:w.heap.size+1+1+1≠w.heap.size+1+1:=by omega
   have le1:w.heap.size≤w.heap.size+1+1:=by omega
   have le2:w.heap.size≤w.heap.size+1+1+1:=by omega
   have Hb:Hid (Below w.heap.size w w8):=b4.tm hb8;have Hz:Hid (ZVal s7 ls (intZ true xs / intZ false ys)):=by
    have h:=m5;have e:intZ true (addL qs [1])=intZ true xs / intZ false ys:=((zdiv_neg false hq4 hr5 hrm h0).1);rw [e] at h;exact h
   have Hz8:Hid (ZVal s8 l8 (intZ true xs % intZ false ys)):=by
    have h:=p5;have e:intZ false (subL ys rs)=intZ true xs % intZ false ys:=((zdiv_neg false hq4 hr5 hrm h0).2);rw [e] at h;exact h
   have HQ:=hiD Dq3;have HR:=hiD Dr3;have hf7:Hid (0<k7→∀y,A7=some y→w.heap.size≤y.block):=fun h0 y hy=>Nat.le_trans (Nat.le_trans b4.size hb5.size) (m6 h0 y hy);have hk7:k7≤n+m+10:=by omega
   have hk8:k8≤n+m+10:=by omega
   clear Dq3 Dr3 m4 m5 m6 p4 p5 hb8 hbw1 hbw7 hbw8 b4 Cd g1 g2 g3 g4;generalize w.heap.size+1+1+1=gr at*
   generalize w.heap.size+1+1=gq at*
   go_wp2_with fail
   have X1:=(HR.out.other ⟨gq,0,none⟩ ne1 (.bool s7)).other ⟨gq,1,none⟩ ne1 (.slice A7 k7 c7);have X2:=((HQ.out.set (.bool s7) (.slice A7 k7 c7)).other ⟨gr,0,none⟩ ne2 (.bool s8)).other ⟨gr,1,none⟩ ne2 (.slice A8 k8 c8);refine bodyPost_ret (results_cell2_tmp (fn:=Tryz.f79) rfl _ _ _ _ _ _ _ _ _ _ _ _ rfl X2 rfl (X1.set _ _) Tryz.underlying41 rfl aint_size Tryz.underlying41 rfl aint_size) rfl ?_;exact ⟨s7,A7,k7,c7,ls,s8,A8,k8,c8,l8,rfl,hk7,hk8,m1,m2,p1,p2,X1.limbs _ _ rfl rfl (HQ.out.limbs _ _ rfl rfl HL7.out),X1.limbs _ _ rfl rfl (HQ.out.limbs _ _ rfl rfl HL8.out),Hz.out,Hz8.out,hf7.out,(((Hb.out.setCell (p:=⟨gq,0,none⟩) le1 _).setCell (p:=⟨gq,1,none⟩) le1 _).setCell (p:=⟨gr,0,none⟩) le2 _).setCell (p:=⟨gr,1,none⟩) le2 _⟩
theorem zdiv11 (A B:Option Addr) (n m c d:Nat) (xs ys:List Int) (w:World) (hx:Limbs w A n xs) (hy:Limbs w B m ys) (hnc:n≤c) (hc:c≤9223372036854775807) (hmd:m≤d) (hd:d≤9223372036854775807) (hn:n≤3900000000000) (hm:m≤3900000000000) (h0:0<limbs ys):
 Calls Tryz.prog 79 #[.agg #[.bool true,.slice A n c],.agg #[.bool true,.slice B m d]] w (DivZ w (n+m+10) (intZ true xs) (intZ true ys)):=by
 have Cd:=hiD (fun W (h:Below w.heap.size w W)=>nat_div A B n m c d xs ys W (hx.bel h) (hy.bel h) hnc hc hmd hd hn hm h0)
 obtain ⟨da,db,dq,dr,b4⟩:=duo4 w (.bool true) (.slice A n c) (.bool true) (.slice B m d) (.bool false) (.slice none 0 0) (.bool false) (.slice none 0 0)
 go_enter Tryz.func79,Tryz.ntmps79
 go_wp2_with fail
 have Da:=hiD da
 have Db:=hiD db
 have Dq:=hiD dq
 have Dr:=hiD dr
 have a1:=da.cell1
 have e1:=db.cell1
 have Hy:=hiD (hy.bel b4)
 clear da db dq dr hx hy
 generalize (((w.alloc (.cells #[.bool true,.slice A n c] 41)).alloc (.cells #[.bool true,.slice B m d] 41)).alloc (.cells #[.bool false,.slice none 0 0] 41)).alloc (.cells #[.bool false,.slice none 0 0] 41)=wt at*
 go_wp2_with fail
 refine (Cd.out _ (by exact b4)).mono ?_
 rintro e w1 ⟨qs,rs,A1,k1,c1,A2,k2,c2,rfl,g1,g2,g3,g4,g5,g6,g7,g8,g9,g10,g11,g12,hbw1⟩
 have q0:=(Da.out.bel hbw1).cell0
 have q1:=(Db.out.bel hbw1).cell0
 have q2:=(Db.out.bel hbw1).cell1
 have H5:=hiD g11
 have H6:=hiD g12
 have Hy1:=hiD (Hy.out.bel hbw1)
 clear g11 g12 a1 e1
 have hk2:=H6.out.len
 by_cases hz:k2=0
 · have hz':¬(0:Int)<(k2:Int):=by omega
   have hr0:limbs rs=0:=g2.nil_iff.2 (by omega);clear hz;go_wp2_with fail
   refine (zmadeZF false A1 k1 c1 qs w1 H5.out (by omega) (by omega) (by omega)).mono ?_;rintro e w7 ⟨s7,A7,k7,c7,ls,rfl,m1,m2,m3,m4,m5,m6,hbw7⟩;clear q0 q1 q2;go_wp2_with fail
   refine (zmadeZ false A2 k2 c2 rs w7 (H6.out.bel hbw7) (by omega) (by omega) (by omega)).mono ?_;rintro e w8 ⟨s8,A8,k8,c8,l8,rfl,p1,p2,p3,p4,p5,hbw8⟩;have hb8:Below wt.heap.size wt w8:=(hbw1.tm hbw7).trans (hbw8.mono ((hbw1.tm hbw7).size));have Dq3:=Dq.out.bel hb8;have Dr3:=Dr.out.bel hb8;have r0:=Dq3.cell0;have r1:=Dq3.cell1;have t0:=Dr3.cell0;have t1:=Dr3.cell1;have f0:=Dq3.frozen 0;have f1:=Dq3.frozen 1;have f2:=Dr3.frozen 0;have f3:=Dr3.frozen 1;have HL7:=hiD (m4.bel hbw8);have HL8:=hiD p4;have ne1:w.heap.size+1+1≠w.heap.size+1+1+1:=by omega
   have ne2:w.heap.size+1+1+1≠w.heap.size+1+1:=by omega
   have le1:w.heap.size≤w.heap.size+1+1:=by omega
   have le2:w.heap.size≤w.heap.size+1+1+1:=by omega
   have Hb:Hid (Below w.heap.size w w8):=b4.tm hb8;have Hz:Hid (ZVal s7 ls (intZ true xs / intZ true ys)):=by
    have h:=m5;have e:intZ false qs=intZ true xs / intZ true ys:=((zdiv_neg0 true g3 g4 hr0 h0).1);rw [e] at h;exact h
   have Hz8:Hid (ZVal s8 l8 (intZ true xs % intZ true ys)):=by
    have h:=p5;have e:intZ false rs=intZ true xs % intZ true ys:=((zdiv_neg0 true g3 g4 hr0 h0).2);rw [e] at h;exact h
   have HQ:=hiD Dq3;have HR:=hiD Dr3;have hf7:Hid (0<k7→∀y,A7=some y→w.heap.size≤y.block):=fun h0 y hy=>Nat.le_trans (Nat.le_trans b4.size hbw1.size) (m6 h0 y hy);have hk7:k7≤n+m+10:=by omega
   have hk8:k8≤n+m+10:=by omega
   clear Dq3 Dr3 m4 m5 m6 p4 p5 hb8 hbw1 hbw7 hbw8 b4 Cd g1 g2 g3 g4;generalize w.heap.size+1+1+1=gr at*
   generalize w.heap.size+1+1=gq at*
   go_wp2_with fail
   have X1:=(HR.out.other ⟨gq,0,none⟩ ne1 (.bool s7)).other ⟨gq,1,none⟩ ne1 (.slice A7 k7 c7);have X2:=((HQ.out.set (.bool s7) (.slice A7 k7 c7)).other ⟨gr,0,none⟩ ne2 (.bool s8)).other ⟨gr,1,none⟩ ne2 (.slice A8 k8 c8);refine bodyPost_ret (results_cell2_tmp (fn:=Tryz.f79) rfl _ _ _ _ _ _ _ _ _ _ _ _ rfl X2 rfl (X1.set _ _) Tryz.underlying41 rfl aint_size Tryz.underlying41 rfl aint_size) rfl ?_;exact ⟨s7,A7,k7,c7,ls,s8,A8,k8,c8,l8,rfl,hk7,hk8,m1,m2,p1,p2,X1.limbs _ _ rfl rfl (HQ.out.limbs _ _ rfl rfl HL7.out),X1.limbs _ _ rfl rfl (HQ.out.limbs _ _ rfl rfl HL8.out),Hz.out,Hz8.out,hf7.out,(((Hb.out.setCell (p:=⟨gq,0,none⟩) le1 _).setCell (p:=⟨gq,1,none⟩) le1 _).setCell (p:=⟨gr,0,none⟩) le2 _).setCell (p:=⟨gr,1,none⟩) le2 _⟩
 · have hz':(0:Int)<(k2:Int):=by omega
   have hr0:0<limbs rs:=Nat.pos_of_ne_zero (fun e=>hz (by have:=g2.nil_iff.1 e;omega));have hrle:limbs rs≤limbs ys:=by rw [g4];exact Nat.le_of_lt (Nat.mod_lt _ h0)
   have hone:=Limbs.one w1 38 (x:=1) (by omega) (by omega);have hbo:Below w1.heap.size w1 (w1.alloc (.cells #[.int .u64 1] 38)):=bRr.alloc lRr _;have Ca:=hiD (nat_add A1 (some ⟨w1.heap.size,0,none⟩) k1 1 c1 1 qs [1] _ (H5.out.bel hbo) hone (by omega) (by omega));have Cs:=hiD (fun W (h:Below w1.heap.size w1 W)=>nat_sub B A2 m k2 d c2 ys rs W (Hy1.out.bel h) (H6.out.bel h) (by omega) (by omega) hrle);have hadd:=addL_spec H5.out.ok hone.ok;have hsub:=subL_spec Hy1.out.ok H6.out.ok hrle;have hl1:=H5.out.len;have hl2:=Hy1.out.len;clear hz hone;go_wp2_with fail
   refine Ca.out.mono ?_;rintro e w4 ⟨A4,k4,c4,rfl,f4a,f4b,f4c,f4d,f4e⟩;have hb4:Below wt.heap.size wt w4:=hbw1.trans ((hbo.tm f4e).mono hbw1.size);have hb4':Below w1.heap.size w1 w4:=hbo.tm f4e;replace q0:=(Da.out.bel hb4).cell0
   replace q1:=(Db.out.bel hb4).cell0
   replace q2:=(Db.out.bel hb4).cell1
   clear Ca;go_wp2_with fail
   refine (Cs.out _ hb4').mono ?_;rintro e w5 ⟨A5,k5,c5,rfl,f5a,f5b,f5c,f5d,f5e⟩;have hb5:Below wt.heap.size wt w5:=hb4.tm f5e;replace q0:=(Da.out.bel hb5).cell0
   replace q1:=(Db.out.bel hb5).cell0
   replace q2:=(Db.out.bel hb5).cell1
   have f4L:=hiD (f4c.bel f5e);have f5L:=hiD f5c;have hk4:k4≤n+3:=by have:=f4c.len;rw [← this];have:=hadd.2.2;rw [hl1] at this;simp at this;omega
   have hk5:k5≤n+m+3:=by have:=f5c.len;rw [← this];have:=hsub.2.2.2;rw [hl2,hk2] at this;omega
   have hq4:limbs (addL qs [1])=limbs xs / limbs ys+1:=by rw [hadd.2.1,g3];rfl
   have hr5:limbs (subL ys rs)=limbs ys - limbs xs % limbs ys:=by rw [hsub.2.2.1,g4]
   have hrm:0<limbs xs % limbs ys:=by rw [← g4];exact hr0
   clear Cs f4c f4d f4e f5c f5d f5e hadd hsub hl1 hl2 hb4 hb4' hbo hrle;go_wp2_with fail
   refine (zmadeZF false A4 k4 c4 (addL qs [1]) w5 f4L.out (by omega) (by omega) (by omega)).mono ?_;rintro e w7 ⟨s7,A7,k7,c7,ls,rfl,m1,m2,m3,m4,m5,m6,hbw7⟩;clear q0 q1 q2;go_wp2_with fail
   refine (zmadeZ false A5 k5 c5 (subL ys rs) w7 (f5L.out.bel hbw7) (by omega) (by omega) (by omega)).mono ?_;rintro e w8 ⟨s8,A8,k8,c8,l8,rfl,p1,p2,p3,p4,p5,hbw8⟩;have hb8:Below wt.heap.size wt w8:=(hb5.tm hbw7).trans (hbw8.mono ((hb5.tm hbw7).size));have Dq3:=Dq.out.bel hb8;have Dr3:=Dr.out.bel hb8;have r0:=Dq3.cell0;have r1:=Dq3.cell1;have t0:=Dr3.cell0;have t1:=Dr3.cell1;have f0:=Dq3.frozen 0;have f1:=Dq3.frozen 1;have f2:=Dr3.frozen 0;have f3:=Dr3.frozen 1;have HL7:=hiD (m4.bel hbw8);have HL8:=hiD p4;have ne1:w.heap.size+1+1≠w.heap.size+1+1+1:=by omega
   have ne2:w.heap.size+1+1+1≠w.heap.size+1+1:=by omega
   have le1:w.heap.size≤w.heap.size+1+1:=by omega
   have le2:w.heap.size≤w.heap.size+1+1+1:=by omega
   have Hb:Hid (Below w.heap.size w w8):=b4.tm hb8;have Hz:Hid (ZVal s7 ls (intZ true xs / intZ true ys)):=by
    have h:=m5;have e:intZ false (addL qs [1])=intZ true xs / intZ true ys:=((zdiv_neg true hq4 hr5 hrm h0).1);rw [e] at h;exact h
   have Hz8:Hid (ZVal s8 l8 (intZ true xs % intZ true ys)):=by
    have h:=p5;have e:intZ false (subL ys rs)=intZ true xs % intZ true ys:=((zdiv_neg true hq4 hr5 hrm h0).2);rw [e] at h;exact h
   have HQ:=hiD Dq3;have HR:=hiD Dr3;have hf7:Hid (0<k7→∀y,A7=some y→w.heap.size≤y.block):=fun h0 y hy=>Nat.le_trans (Nat.le_trans b4.size hb5.size) (m6 h0 y hy);have hk7:k7≤n+m+10:=by omega
   have hk8:k8≤n+m+10:=by omega
   clear Dq3 Dr3 m4 m5 m6 p4 p5 hb8 hbw1 hbw7 hbw8 b4 Cd g1 g2 g3 g4;generalize w.heap.size+1+1+1=gr at*
   generalize w.heap.size+1+1=gq at*
   go_wp2_with fail
   have X1:=(HR.out.other ⟨gq,0,none⟩ ne1 (.bool s7)).other ⟨gq,1,none⟩ ne1 (.slice A7 k7 c7);have X2:=((HQ.out.set (.bool s7) (.slice A7 k7 c7)).other ⟨gr,0,none⟩ ne2 (.bool s8)).other ⟨gr,1,none⟩ ne2 (.slice A8 k8 c8);refine bodyPost_ret (results_cell2_tmp (fn:=Tryz.f79) rfl _ _ _ _ _ _ _ _ _ _ _ _ rfl X2 rfl (X1.set _ _) Tryz.underlying41 rfl aint_size Tryz.underlying41 rfl aint_size) rfl ?_;exact ⟨s7,A7,k7,c7,ls,s8,A8,k8,c8,l8,rfl,hk7,hk8,m1,m2,p1,p2,X1.limbs _ _ rfl rfl (HQ.out.limbs _ _ rfl rfl HL7.out),X1.limbs _ _ rfl rfl (HQ.out.limbs _ _ rfl rfl HL8.out),Hz.out,Hz8.out,hf7.out,(((Hb.out.setCell (p:=⟨gq,0,none⟩) le1 _).setCell (p:=⟨gq,1,none⟩) le1 _).setCell (p:=⟨gr,0,none⟩) le2 _).setCell (p:=⟨gr,1,none⟩) le2 _⟩
theorem zdivG (s t:Bool) (A B:Option Addr) (n m c d:Nat) (xs ys:List Int) (w:World) (hx:Limbs w A n xs) (hy:Limbs w B m ys) (hnc:n≤c) (hc:c≤9223372036854775807) (hmd:m≤d) (hd:d≤9223372036854775807) (hn:n≤3900000000000) (hm:m≤3900000000000) (h0:0<limbs ys):
 Calls Tryz.prog 79 #[.agg #[.bool s,.slice A n c],.agg #[.bool t,.slice B m d]] w (DivZ w (n+m+10) (intZ s xs) (intZ t ys)):=by
 cases s<;>cases t
 · exact zdiv00 A B n m c d xs ys w hx hy hnc hc hmd hd hn hm h0
 · exact zdiv01 A B n m c d xs ys w hx hy hnc hc hmd hd hn hm h0
 · exact zdiv10 A B n m c d xs ys w hx hy hnc hc hmd hd hn hm h0
 · exact zdiv11 A B n m c d xs ys w hx hy hnc hc hmd hd hn hm h0
theorem lmN_plain {xs:List Int}(h:PlainL xs) {n:Nat}(hn:xs.length=n):lmN xs n=n:=by
 have h1:=plainL_take h.1 hn
 have h2:=h1.1.inj h h1.2
 have h3:=congrArg List.length h2
 rw [List.length_take,hn] at h3
 have:=lmN_le xs n
 omega
def ExactZ (w:World) (K:Nat) (a b:Int) (e:Ending) (w':World):Prop:=
 ∃s1 A1 k1 c1 l1,e=.returned (.tuple #[.agg #[.bool s1,.slice A1 k1 c1],.int .i64 (if a % b=0 then 0 else 4)])∧k1≤K∧k1≤c1∧c1≤9223372036854775807∧Limbs w' A1 k1 l1∧(a % b=0→ZVal s1 l1 (a / b))∧(0<k1→∀y,A1=some y→w.heap.size≤y.block)∧Below w.heap.size w w'
theorem signN_zero {s:Bool} {xs:List Int} {z:Int}(h:ZVal s xs z) {n:Nat}(hn:xs.length=n):signN s (lmN xs n)=0↔z=0:=by
 rw [lmN_plain h.pl hn,h.zero_iff,hn]
 cases n with
 | zero=>exact ⟨fun _=>rfl,fun _=>by cases s<;>rfl⟩
 | succ n=>exact ⟨fun e=>absurd e (by cases s<;>simp [signN]),fun e=>by omega⟩
section
variable (s t : Bool) (A B : Option Addr) (n m c d : Nat) (xs ys : List Int) (w : World) (hx : Limbs w A n xs) (hy : Limbs w B m ys) (hnc : n ≤ c) (hc : c ≤ 9223372036854775807) (hmd : m ≤ d) (hd : d ≤ 9223372036854775807) (hn : n ≤ 3900000000000) (hm : m ≤ 3900000000000) (h0 : 0 < limbs ys)
include hx hy hnc hc hmd hd hn hm h0
theorem zexactG:Calls Tryz.prog 42 #[.agg #[.bool s,.slice A n c],.agg #[.bool t,.slice B m d]] w (ExactZ w (n+m+10) (intZ s xs) (intZ t ys)):=by
 have Cd:=hiD (fun W (h:Below w.heap.size w W)=>zdivG s t A B n m c d xs ys W (hx.bel h) (hy.bel h) hnc hc hmd hd hn hm h0)
 have al:∀(W:World) (o:Obj),Below W.heap.size W (W.alloc o):=fun W o=>bRr.alloc lRr o
 have da:=((Duo.new w (.bool s) (.slice A n c)).bel (al _ (.cells #[.bool t,.slice B m d] 41))).bel (al _ (.cells #[.bool false,.slice none 0 0] 41))
 have db:=(Duo.new (w.alloc (.cells #[.bool s,.slice A n c] 41)) (.bool t) (.slice B m d)).bel (al _ (.cells #[.bool false,.slice none 0 0] 41))
 have dr:=Duo.new ((w.alloc (.cells #[.bool s,.slice A n c] 41)).alloc (.cells #[.bool t,.slice B m d] 41)) (.bool false) (.slice none 0 0)
 rw [World.size_alloc] at db
 rw [World.size_alloc,World.size_alloc] at dr
 have b3:Below w.heap.size w (((w.alloc (.cells #[.bool s,.slice A n c] 41)).alloc (.cells #[.bool t,.slice B m d] 41)).alloc (.cells #[.bool false,.slice none 0 0] 41)):=((al w _).alloc (by simp) _).alloc (by simp;omega) _
 generalize intZ s xs=za at*
 generalize intZ t ys=zb at*
 go_enter Tryz.func42,Tryz.ntmps42
 go_wp2_with fail
 have a0:=da.cell0
 have a1:=da.cell1
 have e0:=db.cell0
 have e1:=db.cell1
 have Dr:=hiD dr
 clear da db dr hx hy al h0
 generalize ((w.alloc (.cells #[.bool s,.slice A n c] 41)).alloc (.cells #[.bool t,.slice B m d] 41)).alloc (.cells #[.bool false,.slice none 0 0] 41)=wt at*
 go_wp2_with fail
 refine (Cd.out _ (by exact b3)).mono ?_
 rintro e w1 ⟨s1,A1,k1,c1,l1,s2,A2,k2,c2,l2,rfl,g1,g2,g3,g4,g5,g6,g7,g8,g9,g10,g11,hbw1⟩
 have al:∀(W:World) (o:Obj),Below W.heap.size W (W.alloc o):=fun W o=>bRr.alloc lRr o
 have dq:=(Duo.new w1 (.bool s1) (.slice A1 k1 c1)).bel (al _ (.cells #[.bool s2,.slice A2 k2 c2] 41))
 have de:=Duo.new (w1.alloc (.cells #[.bool s1,.slice A1 k1 c1] 41)) (.bool s2) (.slice A2 k2 c2)
 rw [World.size_alloc] at de
 have hb2:Below wt.heap.size wt ((w1.alloc (.cells #[.bool s1,.slice A1 k1 c1] 41)).alloc (.cells #[.bool s2,.slice A2 k2 c2] 41)):=(hbw1.alloc hbw1.size _).alloc (by have:=hbw1.size;simp;omega) _
 have hL:=(g7.alloc (.cells #[.bool s1,.slice A1 k1 c1] 41)).alloc (.cells #[.bool s2,.slice A2 k2 c2] 41)
 have hL2:=(g8.alloc (.cells #[.bool s1,.slice A1 k1 c1] 41)).alloc (.cells #[.bool s2,.slice A2 k2 c2] 41)
 have Hz:=hiD g9
 have HF:Hid (0<k1→∀y,A1=some y→w.heap.size≤y.block):=fun h y hy=>Nat.le_trans b3.size (g11 h y hy)
 have HL:=hiD hL
 have HL2:=hiD hL2
 have HB:=hiD hb2
 have HDq:=hiD dq
 have HDe:=hiD de
 have hsg:=signN_zero g10 g8.len
 have e2:=de.cell0
 have e3:=de.cell1
 clear a0 a1 e0 e1 dq de hL hL2 hb2 g7 g8 g9 g10 g11 al
 go_wp2_with fail
 have hlt:=hbw1.size
 clear hbw1
 generalize (w1.alloc (.cells #[.bool s1,.slice A1 k1 c1] 41)).alloc (.cells #[.bool s2,.slice A2 k2 c2] 41)=w2 at*
 refine (zsign_any s2 A2 k2 c2 l2 w2 HL2.out g5 g6 (by omega)).mono ?_
 rintro e w3 ⟨rfl,hbw3⟩
 have hb3:Below wt.heap.size wt w3:=HB.out.tm hbw3
 have Dq3:=HDq.out.bel hbw3
 have Dr3:=Dr.out.bel hb3
 have q0:=Dq3.cell0
 have q1:=Dq3.cell1
 have r0:=Dr3.cell0
 have r1:=Dr3.cell1
 have f0:=Dr3.frozen 0
 have f1:=Dr3.frozen 1
 have hL3:=hiD (HL.out.bel hbw3)
 have le1:w.heap.size≤w.heap.size+1+1:=by omega
 have Hb:Hid (Below w.heap.size w w3):=b3.tm hb3
 have HD3:=hiD Dr3
 have Hsg:=hiD hsg
 clear hb3 hbw3 Dq3 Dr3 b3 Cd HL HB HDq HDe hsg e2 e3
 generalize signN s2 (lmN l2 k2)=sg at*
 by_cases hz:za % zb=0
 · have hs1:(sg==0)=true:=by simp;exact Hsg.out.2 hz
   have hs2:(sg !=0)=false:=by simp;exact Hsg.out.2 hz
   have HZ:=hiD hz;clear hz;go_wp2_with fail
   refine bodyPost_ret (results_cell_tmp (fn:=Tryz.f42) rfl _ _ _ _ _ _ _ rfl (HD3.out.set _ _) Tryz.underlying41 rfl aint_size) rfl ?_;unfold ExactZ;rw [if_pos HZ.out];exact ⟨s1,A1,k1,c1,l1,rfl,g1,g3,g4,HD3.out.limbs _ _ rfl rfl hL3.out,fun _=>Hz.out,HF.out,(Hb.out.setCell (p:=⟨w.heap.size+1+1,0,none⟩) le1 _).setCell (p:=⟨w.heap.size+1+1,1,none⟩) le1 _⟩
 · have hs1:(sg==0)=false:=by simp;exact fun e=>hz (Hsg.out.1 e)
   have hs2:(sg !=0)=true:=by simp;exact fun e=>hz (Hsg.out.1 e)
   have HZ:=hiD hz;clear hz;go_wp2_with fail
   refine bodyPost_ret (results_cell_tmp (fn:=Tryz.f42) rfl _ _ _ _ _ _ _ rfl (HD3.out.set _ _) Tryz.underlying41 rfl aint_size) rfl ?_;unfold ExactZ;rw [if_neg HZ.out];exact ⟨false,none,0,0,[],rfl,by omega,by omega,by omega,Limbs.nil _ _,fun h=>absurd h HZ.out,fun h=>absurd h (by omega),(Hb.out.setCell (p:=⟨w.heap.size+1+1,0,none⟩) le1 _).setCell (p:=⟨w.heap.size+1+1,1,none⟩) le1 _⟩
end
end Go.Proofs.YtehcoffbiplphaaGreat
namespace Go.Proofs.YtehcoffbiplphaaGreat
open Go.RowKit Cl
attribute [local go_sem ↓] Go.wp_at_zero Go.wp_at_succ
theorem zgcd (s t:Bool) (A B:Option Addr) (n m c d:Nat) (xs ys:List Int) (w:World) (hx:Limbs w A n xs) (hy:Limbs w B m ys) (hnc:n≤c) (hc:c≤9223372036854775807) (hmd:m≤d) (hd:d≤9223372036854775807) (hn:n≤3900000000000) (hm:m≤3900000000000):
 Calls Tryz.prog 47 #[.agg #[.bool s,.slice A n c],.agg #[.bool t,.slice B m d]] w (GivesZF w ((Nat.gcd (limbs xs) (limbs ys):Nat):Int) (max n m)):=by
 have al:∀(W:World) (o:Obj),Below W.heap.size W (W.alloc o):=fun W o=>bRr.alloc lRr o
 have da:=((Duo.new w (.bool s) (.slice A n c)).bel (al _ (.cells #[.bool t,.slice B m d] 41))).bel (al _ (.cells #[.bool false,.slice none 0 0] 41))
 have db:=(Duo.new (w.alloc (.cells #[.bool s,.slice A n c] 41)) (.bool t) (.slice B m d)).bel (al _ (.cells #[.bool false,.slice none 0 0] 41))
 have dr:=Duo.new ((w.alloc (.cells #[.bool s,.slice A n c] 41)).alloc (.cells #[.bool t,.slice B m d] 41)) (.bool false) (.slice none 0 0)
 rw [World.size_alloc] at db
 rw [World.size_alloc,World.size_alloc] at dr
 have b3:Below w.heap.size w (((w.alloc (.cells #[.bool s,.slice A n c] 41)).alloc (.cells #[.bool t,.slice B m d] 41)).alloc (.cells #[.bool false,.slice none 0 0] 41)):=((al w _).alloc (by simp) _).alloc (by simp;omega) _
 have hxl:=hx.len
 have hyl:=hy.len
 have HxP:=hiD (plainL_take hx.ok hxl)
 have HyP:=hiD (plainL_take hy.ok hyl)
 have l1:=lmN_le xs n
 have l2:=lmN_le ys m
 have Cx:=hiD (fun W (h:Below w.heap.size w W)=>nnorm_any A n c xs W (hx.bel h) hnc hc (by omega))
 have Cy:=hiD (fun W (h:Below w.heap.size w W)=>nnorm_any B m d ys W (hy.bel h) hmd hd (by omega))
 have hl1:Hid ((xs.take (lmN xs n)).length≤max n m):=by show _≤_;rw [List.length_take];omega
 have hl2:Hid ((ys.take (lmN ys m)).length≤max n m):=by show _≤_;rw [List.length_take];omega
 go_enter Tryz.func47,Tryz.ntmps47
 go_wp2_with fail
 have a0:=da.cell0
 have a1:=da.cell1
 have e0:=db.cell0
 have e1:=db.cell1
 have La:=da.lt
 have Lb:=db.lt
 have Dr:=hiD dr
 clear da db dr hx hy al
 generalize ((w.alloc (.cells #[.bool s,.slice A n c] 41)).alloc (.cells #[.bool t,.slice B m d] 41)).alloc (.cells #[.bool false,.slice none 0 0] 41)=wt at*
 have HGG:Hid ((limbs xs).gcd (limbs ys)=(limbs (xs.take (lmN xs n))).gcd (limbs (ys.take (lmN ys m)))):=by show _=_;rw [HxP.out.2,HyP.out.2]
 generalize xs.take (lmN xs n)=us at*
 generalize ys.take (lmN ys m)=vs at*
 have keepG:Hid (∀W,Below wt.heap.size wt W→W.cell? ⟨w.heap.size,0,none⟩=some (.bool s)∧W.cell? ⟨w.heap.size,1,none⟩=some (.slice A n c)∧W.cell? ⟨w.heap.size+1,0,none⟩=some (.bool t)∧W.cell? ⟨w.heap.size+1,1,none⟩=some (.slice B m d)):=fun W hW=>
  ⟨(hW.cell (p:=⟨w.heap.size,0,none⟩) La).trans a0,(hW.cell (p:=⟨w.heap.size,1,none⟩) La).trans a1,(hW.cell (p:=⟨w.heap.size+1,0,none⟩) Lb).trans e0,(hW.cell (p:=⟨w.heap.size+1,1,none⟩) Lb).trans e1⟩
 go_wp2_with fail
 go_region_held3 (fun W=>W.cell? ⟨w.heap.size,0,none⟩=some (.bool s)∧W.cell? ⟨w.heap.size,1,none⟩=some (.slice A n c)∧W.cell? ⟨w.heap.size+1,0,none⟩=some (.bool t)∧W.cell? ⟨w.heap.size+1,1,none⟩=some (.slice B m d))
  (first | go_keep | exact keepG.out _ bRr.drew | exact keepG.out _ bRr | exact keepG.out _ hbx | exact keepG.out _ hby)
  (first
    | (go_at_call 81;(with_reducible show Calls _ _ #[.slice A n c] _ _);refine (Cx.out _ (by first | exact b3.tm bRr.drew | exact b3)).mono ?_;rintro e wx ⟨A1,c1,rfl,x1,x2,x3,hbx'⟩;have hbx:Below wt.heap.size wt wx:=(by first | exact bRr.drew.trans hbx' | exact hbx'))
    | (go_at_call 81;refine (Cy.out _ (b3.tm hbx)).mono ?_;rintro e wy ⟨A2,c2,rfl,y1,y2,y3,hby'⟩;have hby:Below wt.heap.size wt wy:=hbx.tm hby'))
 have X3:=hiD (x3.bel hby')
 have Y3:=hiD y3
 have HBy:=hiD hby
 clear hbx hbx' hby hby' x3 y3 keepG Cx Cy a0 a1 e0 e1 La Lb l1 l2 hxl hyl
 obtain ⟨K,hK⟩:∃K,max n m=K:=⟨_,rfl⟩
 rw [hK] at hl1 hl2
 have hK1:K≤3900000000000:=by omega
 have HKm:=hiD hK
 clear hK
 have hP1:Hid (PlainL us):=HxP.out.1
 have hP2:Hid (PlainL vs):=HyP.out.1
 obtain ⟨G,hG⟩:∃G,(limbs us).gcd (limbs vs)=G:=⟨_,rfl⟩
 have HG:=hiD hG
 have HGG2:Hid ((limbs xs).gcd (limbs ys)=G):=HGG.out.trans hG
 clear HxP HyP hG HGG
 obtain ⟨n5,hn5⟩:∃k,us.length=k:=⟨_,rfl⟩
 obtain ⟨n6,hn6⟩:∃k,vs.length=k:=⟨_,rfl⟩
 rw [hn5] at x1 X3 hl1 ⊢
 rw [hn6] at y1 Y3 hl2 ⊢
 clear hn5 hn6
 go_wp2_with fail
 go_loopg [5,6,7,8,9] (limbs vs+1) (fun gk v5 v6 _ _ _ wr=>∃A5 n5 c5 xs5 A6 n6 c6 xs6,v5=.slice A5 n5 c5∧v6=.slice A6 n6 c6∧n5≤c5∧c5≤9223372036854775807∧n6≤c6∧c6≤9223372036854775807∧Hid (n5≤K∧n6≤K)∧Hid (Limbs wr A5 n5 xs5)∧Hid (Limbs wr A6 n6 xs6)∧Hid (PlainL xs5∧PlainL xs6)∧Hid ((limbs xs5).gcd (limbs xs6)=G)∧Hid (limbs xs6<gk)∧Hid (Below wt.heap.size wt wr))
 case atStart=>exact ⟨A1,n5,c1,us,A2,n6,c2,vs,rfl,rfl,x1,x2,y1,y2,⟨hl1.out,hl2.out⟩,X3,Y3,⟨hP1.out,hP2.out⟩,HG,Nat.lt_succ_self _,HBy⟩
 case round=>
  clear x1 x2 y1 y2 X3 Y3 hP1 hP2 HG HBy hl1 hl2;obtain ⟨A5,n5,c5,xs5,A6,n6,c6,xs6,rfl,rfl,u1,u2,u3,u4,hKK,L5,L6,hPP,hG,hgk,hB⟩:=hrel;by_cases h0:n6=0
  · have h0':¬(0:Int)<(n6:Int):=by omega
    have hz:limbs xs6=0:=hPP.out.2.nil_iff.2 (by rw [L6.out.len];exact h0);have hfin:Hid (limbs xs5=G):=by
     have:=hG.out;rw [hz,Nat.gcd_zero_right] at this;exact this
    have Cm:=hiD (zmadeZF false A5 n5 c5 xs5 wr L5.out u1 u2 (by have:=hKK.out;omega));have Dr3:=Dr.out.bel hB.out;clear h0 hz L5 L6 hPP hG hgk;(go_wp2_with fail);refine Cm.out.mono ?_;rintro e w7 ⟨s7,A7,k7,c7,ls,rfl,m1,m2,m3,m4,m5,m6,hbw7⟩;have Dr7:=Dr3.bel hbw7;have r0:=Dr7.cell0;have r1:=Dr7.cell1;have f0:=Dr7.frozen 0;have f1:=Dr7.frozen 1;(have le1:w.heap.size≤w.heap.size+1+1:=by omega);have hb7:Below wt.heap.size wt w7:=hB.out.tm hbw7;have Hb:Hid (Below w.heap.size w w7):=b3.tm hb7;have HL:=hiD m4;have HD:=hiD Dr7;have hz7:ZVal s7 ls (G:Int):=by
     have h:=m5;rw [show intZ false xs5=(G:Int) by unfold intZ;rw [if_neg (by decide),hfin.out]] at h;exact h
    have HZ:=hiD hz7;have hf7:Hid (0<k7→∀y,A7=some y→w.heap.size≤y.block):=fun h0 y hy=>Nat.le_trans (Nat.le_trans b3.size hB.out.size) (m6 h0 y hy);(have hkk:k7≤K:=by have:=hKK.out;omega);clear m4 m5 m6 hz7 hb7 hbw7 Dr3 Dr7 Cm;(go_wp2);exact bodyPost_ret (results_cell_row (fn:=Tryz.f47) rfl _ _ _ _ _ _ _ rfl (HD.out.set _ _) Tryz.underlying41 rfl aint_size) rfl
     ⟨s7,A7,k7,c7,ls,rfl,m1,m2,by rw [HKm.out];exact hkk,HD.out.limbs _ _ rfl rfl HL.out,by rw [HGG2.out];exact HZ.out,hf7.out,(Hb.out.setCell (p:=⟨w.heap.size+1+1,0,none⟩) le1 _).setCell (p:=⟨w.heap.size+1+1,1,none⟩) le1 _⟩
  · have h0':(0:Int)<(n6:Int):=by omega
    have hpos:0<limbs xs6:=Nat.pos_of_ne_zero (fun e=>h0 (by have:=hPP.out.2.nil_iff.1 e;rw [L6.out.len] at this;exact this));have Cd:=hiD (nat_div A5 A6 n5 n6 c5 c6 xs5 xs6 wr L5.out L6.out u1 u2 u3 u4 (by have:=hKK.out;omega) (by have:=hKK.out;omega) hpos);have Hpos:=hiD hpos;clear h0 hpos;(go_wp2_with fail);refine Cd.out.mono ?_;rintro e w3 ⟨qs,rs,A7,k7,c7,A8,k8,c8,rfl,z1,z2,z3,z4,z5,z6,z7,z8,z9,z10,z11,z12,hb3⟩;(have hrl:limbs rs<limbs xs6:=by rw [z4];exact Nat.mod_lt _ Hpos.out);have hk8:k8≤n6:=by
     have q1:=plain_len z2 (n:=n6) (by have:=limbs_lt L6.out.ok;rw [L6.out.len] at this;omega);rw [z12.len] at q1;exact q1
    have hKK2:Hid (n6≤K∧k8≤K):=⟨hKK.out.2,by have:=hKK.out;omega⟩;have L6':=hiD (L6.out.bel hb3);have L8:=hiD z12;have hPP2:Hid (PlainL xs6∧PlainL rs):=⟨hPP.out.2,z2⟩;have hG2:Hid ((limbs xs6).gcd (limbs rs)=G):=by
     show _=_;rw [z4,← hG.out,Nat.gcd_comm,← Nat.gcd_rec,Nat.gcd_comm]
    (have hgk2:Hid (limbs rs<gk - 1):=by have:=hgk.out;show _<_;omega);(have hgk3:Hid (gk - 1<gk):=by have:=hgk.out;show _<_;omega);have hB3:Hid (Below wt.heap.size wt w3):=hB.out.tm hb3;clear z1 z2 z3 z4 z5 z6 z11 z12 hrl hk8 hb3 hB L5 L6 hPP hG hgk hKK Cd Hpos;(go_wp2_with fail);go_roundg (gk - 1)
    case measure=>exact hgk3.out
    case rel=>exact ⟨A6,n6,c6,xs6,A8,k8,c8,rs,rfl,rfl,u3,u4,z9,z10,hKK2,L6',L8,hPP2,hG2,hgk2,hB3⟩
end Go.Proofs.YtehcoffbiplphaaGreat
namespace Go.Proofs.YtehcoffbiplphaaGreat
open Go.RowKit Cl
attribute [local go_sem ↓] Go.wp_at_zero Go.wp_at_succ
theorem zsubF (s t:Bool) (A B:Option Addr) (n m c d:Nat) (xs ys:List Int) (w:World) (hx:Limbs w A n xs) (hy:Limbs w B m ys) (hnc:n≤c) (hc:c≤9223372036854775807) (hmd:m≤d) (hd:d≤9223372036854775807) (hn:n≤4000000000000) (hm:m≤4000000000000):
 Calls Tryz.prog 120 #[.agg #[.bool s,.slice A n c],.agg #[.bool t,.slice B m d]] w (GivesZF w (intZ s xs - intZ t ys) (max n m+1)):=by
 have Cm:=hiD (fun W (h:Below w.heap.size w W)=>znegF t B m d ys W (hy.bel h) hmd hd (by omega))
 have Cz:=hiD (fun W (h:Below w.heap.size w W) (s1:Bool) (A1:Option Addr) (k1 c1:Nat) (ls1:List Int) (h1:Limbs W A1 k1 ls1) (h2:k1≤c1) (h3:c1≤9223372036854775807) (h4:k1≤4000000000000)=>zaddF s s1 A A1 n k1 c c1 xs ls1 W (hx.bel h) h1 hnc hc h2 h3 hn h4)
 have b1:Below w.heap.size w (w.alloc (.cells #[.bool s,.slice A n c] 41)):=bRr.alloc lRr _
 have b2:Below w.heap.size w ((w.alloc (.cells #[.bool s,.slice A n c] 41)).alloc (.cells #[.bool t,.slice B m d] 41)):=b1.alloc (by simp) _
 have da:=((Duo.new w (.bool s) (.slice A n c)).bel (bRr.alloc lRr (.cells #[.bool t,.slice B m d] 41))).bel (bRr.alloc lRr (.cells #[.bool false,.slice none 0 0] 41))
 have db:=(Duo.new (w.alloc (.cells #[.bool s,.slice A n c] 41)) (.bool t) (.slice B m d)).bel (bRr.alloc lRr (.cells #[.bool false,.slice none 0 0] 41))
 have dr:=Duo.new ((w.alloc (.cells #[.bool s,.slice A n c] 41)).alloc (.cells #[.bool t,.slice B m d] 41)) (.bool false) (.slice none 0 0)
 rw [World.size_alloc] at db
 rw [World.size_alloc,World.size_alloc] at dr
 have b3:Below w.heap.size w (((w.alloc (.cells #[.bool s,.slice A n c] 41)).alloc (.cells #[.bool t,.slice B m d] 41)).alloc (.cells #[.bool false,.slice none 0 0] 41)):=b2.alloc (by simp;omega) _
 go_enter Tryz.func120,Tryz.ntmps120
 go_wp2_with fail
 have Da:=hiD da
 have Db:=hiD db
 have Dr:=hiD dr
 have hsz:(((w.alloc (.cells #[.bool s,.slice A n c] 41)).alloc (.cells #[.bool t,.slice B m d] 41)).alloc (.cells #[.bool false,.slice none 0 0] 41)).heap.size=w.heap.size+1+1+1:=by simp
 clear da db dr b1 b2 hx hy
 generalize ((w.alloc (.cells #[.bool s,.slice A n c] 41)).alloc (.cells #[.bool t,.slice B m d] 41)).alloc (.cells #[.bool false,.slice none 0 0] 41)=wt at*
 have a0:=Da.out.cell0
 have a1:=Da.out.cell1
 have e0:=Db.out.cell0
 have e1:=Db.out.cell1
 have r0:=Dr.out.cell0
 have r1:=Dr.out.cell1
 have f0:=Dr.out.frozen 0
 have f1:=Dr.out.frozen 1
 have la:w.heap.size<wt.heap.size:=by omega
 have lb:w.heap.size+1<wt.heap.size:=by omega
 have lr:w.heap.size+1+1<wt.heap.size:=by omega
 have keep:Hid (∀W,Below wt.heap.size wt W→W.cell? ⟨w.heap.size,0,none⟩=some (.bool s)∧W.cell? ⟨w.heap.size,1,none⟩=some (.slice A n c)∧W.cell? ⟨w.heap.size+1,0,none⟩=some (.bool t)∧W.cell? ⟨w.heap.size+1,1,none⟩=some (.slice B m d)):=fun W hW=>
  ⟨(hW.cell (p:=⟨w.heap.size,0,none⟩) la).trans a0,(hW.cell (p:=⟨w.heap.size,1,none⟩) la).trans a1,(hW.cell (p:=⟨w.heap.size+1,0,none⟩) lb).trans e0,(hW.cell (p:=⟨w.heap.size+1,1,none⟩) lb).trans e1⟩
 have res:Hid (∀W,Below wt.heap.size wt W→W.cell? ⟨w.heap.size+1+1,0,none⟩=some (.bool false)∧W.cell? ⟨w.heap.size+1+1,1,none⟩=some (.slice none 0 0)∧W.frozen? ⟨w.heap.size+1+1,0,none⟩=false∧W.frozen? ⟨w.heap.size+1+1,1,none⟩=false):=fun W hW=>
  ⟨(hW.cell (p:=⟨w.heap.size+1+1,0,none⟩) lr).trans r0,(hW.cell (p:=⟨w.heap.size+1+1,1,none⟩) lr).trans r1,(Dr.out.bel hW).frozen 0,(Dr.out.bel hW).frozen 1⟩
 clear r0 r1 f0 f1
 have ne1:w.heap.size+1+1≠w.heap.size:=by omega
 have ne2:w.heap.size+1+1≠w.heap.size+1:=by omega
 have le1:w.heap.size≤w.heap.size+1+1:=by omega
 have lr':w.heap.size≤wt.heap.size:=by omega
 clear hsz
 generalize w.heap.size+1+1=gr at*
 generalize w.heap.size+1=gb at*
 have keep3:∀(W:World) (u v:Value),(W.cell? ⟨w.heap.size,0,none⟩=some (.bool s)∧W.cell? ⟨w.heap.size,1,none⟩=some (.slice A n c)∧W.cell? ⟨gb,0,none⟩=some (.bool t)∧W.cell? ⟨gb,1,none⟩=some (.slice B m d))→(((W.setCell ⟨gr,0,none⟩ u).setCell ⟨gr,1,none⟩ v).cell? ⟨w.heap.size,0,none⟩=some (.bool s)∧((W.setCell ⟨gr,0,none⟩ u).setCell ⟨gr,1,none⟩ v).cell? ⟨w.heap.size,1,none⟩=some (.slice A n c)∧((W.setCell ⟨gr,0,none⟩ u).setCell ⟨gr,1,none⟩ v).cell? ⟨gb,0,none⟩=some (.bool t)∧((W.setCell ⟨gr,0,none⟩ u).setCell ⟨gr,1,none⟩ v).cell? ⟨gb,1,none⟩=some (.slice B m d)):=by
  rintro W u v ⟨k1,k2,k3,k4⟩;refine ⟨?_,?_,?_,?_⟩;all_goals
   rw [World.cell?_setCell_other _ _ _ _ (fun e=>by injection e with e1;first | exact ne1 e1.symm | exact ne2 e1.symm | exact ne1 e1 | exact ne2 e1),World.cell?_setCell_other _ _ _ _ (fun e=>by injection e with e1;first | exact ne1 e1.symm | exact ne2 e1.symm | exact ne1 e1 | exact ne2 e1)];assumption
 go_region_held3 (fun W=>W.cell? ⟨w.heap.size,0,none⟩=some (.bool s)∧W.cell? ⟨w.heap.size,1,none⟩=some (.slice A n c)∧W.cell? ⟨gb,0,none⟩=some (.bool t)∧W.cell? ⟨gb,1,none⟩=some (.slice B m d))
  (first | go_keep | exact keep.out _ bRr.drew | exact keep.out _ hbw1 | exact keep.out _ hbw2 | exact keep3 _ _ _ (keep.out _ hbw2))
  (first
    | (go_at_call 45;refine (Cm.out _ (by first | exact b3.drew | exact b3 | exact below_drewN b3 _)).mono ?_;rintro e w1 ⟨s1,A1,k1,c1,ls1,rfl,g4,g5,g6,g7,g8,g9,hbw1'⟩;have hbw1:Below wt.heap.size wt w1:=(by first | exact bRr.drew.trans hbw1' | exact hbw1'))
    | (go_at_call 56;refine (Cz.out w1 (b3.trans (hbw1.mono lr')) s1 A1 k1 c1 ls1 g7 g4 g5 (by omega)).mono ?_;rintro e w2 ⟨s2,A2,k2,c2,ls,rfl,q1,q2,q3,q4,q5,qf,hbw2'⟩;have hbw2:Below wt.heap.size wt w2:=hbw1.tm hbw2';obtain ⟨r0,r1,f0,f1⟩:=res.out w2 hbw2))
 have Dr2:=Dr.out.bel hbw2
 have hb2:Below w.heap.size w w2:=b3.trans (hbw2.mono (by omega))
 have hz:ZVal s2 ls (intZ s xs - intZ t ys):=by rw [Int.sub_eq_add_neg,← g8.eq];exact q5
 have HF:Hid (0<k2→∀y,A2=some y→w.heap.size≤y.block):=fun h0 y hy=>Nat.le_trans (Nat.le_trans lr' hbw1.size) (qf h0 y hy)
 have hk2:k2≤max n m+1:=by omega
 have Hz:=hiD hz
 have HD:=hiD Dr2
 have Hq4:=hiD q4
 clear hz Dr2 q4 q5 g6 g7 g8 g9 keep qf
 go_wp2
 exact bodyPost_ret (results_cell_row (fn:=Tryz.f120) rfl _ _ _ _ _ _ _ rfl (HD.out.set _ _) Tryz.underlying41 rfl aint_size) rfl
  ⟨s2,A2,k2,c2,ls,rfl,q1,q2,hk2,HD.out.limbs _ _ rfl rfl Hq4.out,Hz.out,HF.out,(hb2.setCell (p:=⟨gr,0,none⟩) le1 _).setCell (p:=⟨gr,1,none⟩) le1 _⟩
end Go.Proofs.YtehcoffbiplphaaGreat
