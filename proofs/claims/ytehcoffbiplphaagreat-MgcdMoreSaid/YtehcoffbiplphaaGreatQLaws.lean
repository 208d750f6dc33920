/- Plain facts: a plain polynomial as an argument; the document's example of layer 17.
   Contracts: the law's sum, times, same; the document's example of layer 17 (awake).
   Contract: the law's small: few terms, of few limbs, of low exponents.
   Plain facts for the laws of layer 17: small polynomials, their sums and products. -/
import Derived.Test.YtehcoffbiplphaaGreatQTj
import Derived.Test.YtehcoffbiplphaaGreatQFstK
import Derived.Test.YtehcoffbiplphaaGreatQZks
set_option linter.unusedVariables false
set_option linter.unusedSimpArgs false
namespace Cl
theorem zval_short {s:Bool} {xs:List Int} {z:Int}(h:ZVal s xs z) {C:Nat}(hz:z.natAbs<2^(64*C)):xs.length≤C:=by
 rcases Nat.eq_zero_or_pos xs.length with h0 | h0
 · omega
 · have h1:=h.pl.low h0
   have h2:limbs xs=z.natAbs:=by
    have:=h.eq
    unfold intZ at this
    cases s<;>simp at this<;>omega
   rw [h2] at h1
   by_cases hlt:xs.length≤C
   · exact hlt
   · exfalso
     have h3:2^(64*C)≤2^(64*(xs.length - 1)):=Nat.pow_le_pow_right (by omega) (by omega)
     omega
end Cl
namespace Go.Proofs.YtehcoffbiplphaaGreat
open Go.RowKit Cl
attribute [local go_sem ↓] Go.wp_at_zero Go.wp_at_succ
section
variable (n Ca Cb : Nat) (A B : Option Addr) (ma ca mb cb : Nat) (L T : List TV) (w : World) (hx : Trs w A ma L) (hy : Trs w B mb T) (hL : Arg n Ca L) (hT : Arg n Cb T) (hn : n ≤ 6)
include hx hy hL hT hn
set_option maxRecDepth 100000 in
theorem pSub (hCa:Ca≤10000) (hCb:Cb≤10000) (hl:ma+mb≤4096):Calls Tryz.prog 19 #[.int .i64 (n:Int),.slice A ma ca,.slice B mb cb] w (GivesP w n (mvT L++scaleM (-1) (mvT T))):=by
 have C:=Lib.hid (mjoined n Ca Cb A B ma ca mb cb L T (-1) (.inr rfl) w hx hy hL hT hn hCa hCb hl)
 clear hx hy hL hT
 go_enter Tryz.func19,Tryz.ntmps19
 go_wp2_with fail
 refine C.out.mono ?_
 rintro e w1 ⟨A3,c3,L3,rfl,q1,q2,q3,q4,q5,q6⟩
 have F:=Lib.hid (show GivesP w n (mvT L++scaleM (-1) (mvT T)) (.returned (.tuple #[.slice A3 L3.length c3,.int .i64 0])) w1 from ⟨A3,c3,L3,rfl,q1,q2,q3,q4,q5,q6⟩)
 clear q3 q4 q5 q6
 go_wp2_with fail
 go_ret2
 exact F.out
end
end Go.Proofs.YtehcoffbiplphaaGreat
namespace Go.Proofs.YtehcoffbiplphaaGreat
open Go.RowKit Cl
theorem intZ_abs (s:Bool) {xs:List Int}(h:IsLimbs xs) {C:Nat}(hC:xs.length≤C):(intZ s xs).natAbs<2^(64*C):=by
 have h1:=limbs_lt h
 have h2:2^(64*xs.length)≤2^(64*C):=Nat.pow_le_pow_right (by omega) (by omega)
 have h3:(intZ s xs).natAbs=limbs xs:=by
  unfold intZ
  cases s<;>simp
 omega
theorem trs_limbs {w:World} {A:Option Addr} {m:Nat} {L:List TV}(h:Trs w A m L):∀t∈L,IsLimbs t.1.2:=fun t ht=>by
 obtain ⟨i,hi,rfl⟩:=List.getElem_of_mem ht
 have h0:0<m:=by rw [← h.len];omega
 obtain ⟨b,o,_,_,hc⟩:=h.at_ h0
 obtain ⟨_,_,_,_,_,_,_,_,_,_,_,h8,_⟩:=hc i hi
 exact h8.ok
end Go.Proofs.YtehcoffbiplphaaGreat
