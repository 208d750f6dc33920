/- Layer 18's laws: division by a divisor; what small says of two polynomials. -/
import Derived.Test.YtehcoffbiplphaaGreatSLwC
set_option linter.unusedVariables false
set_option linter.unusedSimpArgs false
namespace Cl
theorem bd_plT {n x y z:Nat} {q:Pn n}(hs:(x+1)*(y+1)*(z+1)≤20) (dq:Siz.dg (D3 x y z) q):BdM 1000 (plT n q):=fun t ht u hu=>by
 have h2:=plT_nn n q _ ht u hu
 obtain ⟨k,hk,hk2⟩:=List.mem_iff_getElem.1 hu
 have h3:=plT_dg dq ht k
 have h4:=D3_le hs k
 have h5:nth t.1 k=u:=by rw [nth_lt hk];exact hk2
 rw [h5] at h3
 omega
theorem len_plT {n x y z:Nat} {q:Pn n}(hn:n≤3) (hs:(x+1)*(y+1)*(z+1)≤20) (dq:Siz.dg (D3 x y z) q):(plT n q).length≤20:=by
 unfold plT
 rw [List.length_reverse]
 exact Nat.le_trans (termsP_count dq) (vol_small hn hs)
end Cl
namespace Go.Proofs.YtehcoffbiplphaaGreat
open Go.RowKit Cl CRing
attribute [local go_sem ↓] Go.wp_at_zero Go.wp_at_succ
theorem exactC_anyP {cl:Int} {Kc:Nat}(h0:cl≠0) (hK:Kc≤1000000):ExactC cl Kc:=by
 intro W s A k c ls s2 A2 k2 c2 ls2 z hl hl2 hkc hc hkc2 hc2 hk hk2 e1 e2 hz
 have h2:0<limbs ls2:=by
  rcases Nat.eq_zero_or_pos (limbs ls2) with h | h
  · exfalso
    apply h0;rw [← e2];unfold intZ;cases s2<;>simp [h]
  · exact h
 refine (zexactG s s2 A A2 k k2 c c2 ls ls2 W hl hl2 hkc hc hkc2 hc2 (by omega) (by omega) h2).mono ?_
 rintro e w' ⟨s1,A1,k1,c1,l1,h1,h3,h4,h5,h6,h7,h8,h9⟩
 have hm:intZ s ls % intZ s2 ls2=0:=by rw [e1,e2];exact Int.mul_emod_left _ _
 have hd:intZ s ls / intZ s2 ls2=z:=by rw [e1,e2];exact Int.mul_ediv_cancel _ h0
 rw [if_pos hm] at h1
 have hv:=h7 hm
 rw [hd] at hv
 refine ⟨s1,A1,k1,c1,l1,h1,?_,h4,h5,h6,hv,h9⟩
 have hle:z.natAbs≤(intZ s ls).natAbs:=by
  rw [e1,Int.natAbs_mul];exact Nat.le_mul_of_pos_right _ (by omega)
 have hab:=intZ_absP s hl.ok (C:=k) (by rw [hl.len];exact lRr)
 have hcap:=hv.cap (K:=k) (Nat.lt_of_le_of_lt hle hab)
 rw [h6.len] at hcap
 exact hcap
theorem mdiv18 (n x y z:Nat) (hn:n≤3) (hs:(x+1)*(y+1)*(z+1)≤20) (A B:Option Addr) (ma ca mb cb:Nat) (L T:List TV) (g q:Pn n) (w:World) (hx:Trs w A ma L) (hy:Trs w B mb T) (hL:Arg n 1000 L) (hT:PlainT n T) (eT:mvT T=plT n g) (g0:g≠0) (e:toT n (mvT L)=g*q)
 (dg:Siz.dg (D3 x y z) g) (ng:Siz.nm g≤2^e6) (dq:Siz.dg (D3 x y z) q):
 Calls Tryz.prog 21 #[.int .i64 (n:Int),.slice A ma ca,.slice B mb cb] w (GivesP w n (plT n q)):=by
 have hT':Arg n 1000 T:=arg_plT hn hs hT eT dg ng
 have nnL:NnM (mvT L):=fun t ht u hu=>(hL.bdM t ht u hu).1
 have nnT:NnM (mvT T):=by rw [eT];exact plT_nn n g
 have lT:=hT.mv.len
 have eg:toT n (mvT T)=g:=by rw [eT,toT_plT]
 have hq20:=len_plT hn hs dq
 have hg20:=len_plT hn hs dg
 have hmb:=hy.len
 have hma:=hx.len
 have hcnt:=hL.cnt
 have hl:=congrArg List.length eT
 rw [mvT_length] at hl
 cases hp:plT n g with
 | nil=>exact absurd (plT_zero.1 hp) g0
 | cons t P'=>
   have hpl:=plT_plain n g;rw [hp] at hpl;refine mdivE n 1000 1000 A B ma ca mb cb L T (plT n q) P' t.1 t.2 w hx hy hL hT' (by omega) (by omega) hpl ?_ (plT_plain n q) (plT_quo hL.lenM nnL lT nnT (by rw [eg];exact e)) (bd_plT hs dq) ?_ (by omega) (by omega) (exactC_anyP (hpl.ne t List.mem_cons_self) (by omega))
   · rw [eT,hp];exact EqM.refl _ _
   · have h1:(plT n q).length*(1000+1+mb)≤20*(1000+1+20):=Nat.mul_le_mul hq20 (by omega)
     omega
theorem sml_fitP {nn most places:Int} {m:Nat} {Ls:Nat→List TV}(pl:Nat) (hpl:places≤(pl:Int)) (h:Sml nn most places m Ls) (hm:0<m) (hmo:most≤7):∃n x y z:Nat,nn=(n:Int)∧n≤3∧(x+1)*(y+1)*(z+1)≤pl∧(n=2→z=0)∧∀k,k<m→(∀t∈Ls k,IsLimbs t.1.2)→Arg n 1000 (Ls k)∧Siz.dg (D3 x y z) (toT n (mvT (Ls k)))∧Siz.nm (toT n (mvT (Ls k)))≤2^67:=by
 obtain ⟨h3,hL,ds,hd,hc,hp⟩:=h
 have hn0:0≤nn:=(hL 0 hm).2.1.1
 obtain ⟨n,rfl⟩:∃n:Nat,nn=(n:Int):=⟨nn.toNat,by omega⟩
 have d0:=hd 0
 have d1:=hd 1
 have d2:=hd 2
 have d3:=hd 3
 have hprod:((nth ds 0).toNat+1)*((nth ds 1).toNat+1)*((nth ds 2).toNat+1)≤pl:=by
  have e0:prodD ds 3=(((((nth ds 0).toNat+1)*((nth ds 1).toNat+1)*((nth ds 2).toNat+1):Nat)):Int):=by
   show 1*(nth ds 0+1)*(nth ds 1+1)*(nth ds 2+1)=_;rw [Int.natCast_mul,Int.natCast_mul,Int.one_mul,show (((nth ds 0).toNat+1:Nat):Int)=nth ds 0+1 by omega,show (((nth ds 1).toNat+1:Nat):Int)=nth ds 1+1 by omega,show (((nth ds 2).toNat+1:Nat):Int)=nth ds 2+1 by omega]
  have e1:prodD ds 3≤prodD ds 4:=by
   have h1:=prodD_pos hd 3;have h2:prodD ds 3*1≤prodD ds 3*(nth ds 3+1):=Int.mul_le_mul_of_nonneg_left (by omega) (by omega);show _≤prodD ds 3*(nth ds 3+1);omega
  omega
 refine ⟨n,(nth ds 0).toNat,(nth ds 1).toNat,if n=2 then 0 else (nth ds 2).toNat,rfl,by omega,?_,fun e=>if_pos e,fun k hk hlim=> ?_⟩
 · refine Nat.le_trans (Nat.mul_le_mul_left _ ?_) hprod
   split<;>omega
 · obtain ⟨l1,l2,l3⟩:=hL k hk
   have hlen:∀t∈Ls k,t.2.length=n:=fun t ht=>by
    obtain ⟨i,hi,rfl⟩:=List.mem_iff_getElem.1 ht;have:=(l2.2.2.2 i hi).1;omega
   have hE:∀t∈Ls k,∀u∈t.2,0≤u∧u≤1000:=fun t ht u hu=>by
    obtain ⟨i,hi,rfl⟩:=List.mem_iff_getElem.1 ht;obtain ⟨j,hj,hj2⟩:=List.mem_iff_getElem.1 hu;have h9:=(l2.2.2.2 i hi).2 j hj;rw [nth_lt hj,hj2] at h9;exact h9
   refine ⟨⟨hlen,hE,fun t ht=>by have:=l3 t ht;omega,l2.2.2.1⟩,plant_dg n 0 _ _ fun t ht j=> ?_,?_⟩
   · obtain ⟨s,hs',rfl⟩:=List.mem_map.1 ht
     rw [Nat.zero_add];have hcv:=hc k hk s hs' j;show (nth s.2 j).toNat≤_;have hls:=hlen s hs';match j with
     | 0=>show (nth s.2 0).toNat≤(nth ds 0).toNat;omega
     | 1=>show (nth s.2 1).toNat≤(nth ds 1).toNat;omega
     | 2=>
       show (nth s.2 2).toNat≤if n=2 then 0 else (nth ds 2).toNat
       split
       · rw [nth_ge (by omega)];exact Nat.le_refl 0
       · omega
     | j+3=>rw [nth_ge (by omega)];exact Nat.zero_le _
   · refine Nat.le_trans (toT_nm _) ?_
     have h1:absM (mvT (Ls k))≤(mvT (Ls k)).length*2^64:=absM_le fun t ht=>by
      obtain ⟨s,hs',rfl⟩:=List.mem_map.1 ht;have h2:=intZ_absP s.1.1 (hlim s hs') (l3 s hs');exact Nat.le_of_lt h2
     rw [mvT_length] at h1;(have h2:(Ls k).length≤7:=by omega);exact Nat.le_trans h1 (Nat.le_trans (Nat.mul_le_mul_right _ h2) (by decide))
end Go.Proofs.YtehcoffbiplphaaGreat
