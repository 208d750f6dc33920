/- Plain facts: a plain polynomial as an argument; the document's example of layer 17.
   Contracts: the law's sum, times, same; the document's example of layer 17 (awake).
   Contract: the law's small: few terms, of few limbs, of low exponents.
   Plain facts for the laws of layer 17: small polynomials, their sums and products. -/
import Derived.Test.YtehcoffbiplphaaGreatSMdiv
set_option linter.unusedVariables false
set_option linter.unusedSimpArgs false
namespace Cl
theorem zval_short {s:Bool} {xs:List Int} {z:Int}(h:ZVal s xs z) {C:Nat}(hz:z.natAbs<2^(64*C)):xs.length≤C:=by
 rcases Nat.eq_zero_or_pos xs.length with h0 | h0
 · omega
 · have h1:=h.pl.low h0
   have h2:limbs xs=z.natAbs:=by
    have:=h.eq;unfold intZ at this;cases s<;>simp at this<;>omega
   rw [h2] at h1;by_cases hlt:xs.length≤C
   · exact hlt
   · exfalso
     have h3:2^(64*C)≤2^(64*(xs.length - 1)):=Nat.pow_le_pow_right (by omega) (by omega);omega
end Cl
namespace Go.Proofs.YtehcoffbiplphaaGreat
open Go.RowKit Cl
theorem intZ_abs (s:Bool) {xs:List Int}(h:IsLimbs xs) {C:Nat}(hC:xs.length≤C):(intZ s xs).natAbs<2^(64*C):=by
 have h1:=limbs_lt h
 have h2:2^(64*xs.length)≤2^(64*C):=Nat.pow_le_pow_right (by omega) (by omega)
 have h3:(intZ s xs).natAbs=limbs xs:=by
  unfold intZ;cases s<;>simp
 omega
theorem trs_limbs {w:World} {A:Option Addr} {m:Nat} {L:List TV}(h:Trs w A m L):∀t∈L,IsLimbs t.1.2:=fun t ht=>by
 obtain ⟨i,hi,rfl⟩:=List.getElem_of_mem ht
 have h0:0<m:=by rw [← h.len];omega
 obtain ⟨b,o,_,_,hc⟩:=h.at_ h0
 obtain ⟨_,_,_,_,_,_,_,_,_,_,_,h8,_⟩:=hc i hi
 exact h8.ok
end Go.Proofs.YtehcoffbiplphaaGreat
