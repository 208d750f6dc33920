/- Layer 18's laws: products, what is not the same, twice as many degrees. -/
import Derived.Test.YtehcoffbiplphaaGreatSLwD
set_option linter.unusedVariables false
set_option linter.unusedSimpArgs false
set_option maxRecDepth 100000
namespace Cl
open CRing
def D6 (x y z:Nat):Nat→Nat:=fun j=>D3 x y z j+D3 x y z j
section
variable {n x y z : Nat}
theorem D3_12 (h:(x+1)*(y+1)*(z+1)≤12) (j:Nat):D3 x y z j≤11:=by
 have a2:(x+1)*(y+1)≤12:=Nat.le_trans (Nat.le_mul_of_pos_right _ (by omega)) h
 have a3:x+1≤12:=Nat.le_trans (Nat.le_mul_of_pos_right _ (by omega)) a2
 have a4:y+1≤12:=Nat.le_trans (Nat.le_mul_of_pos_left _ (by omega)) a2
 have a5:z+1≤12:=Nat.le_trans (Nat.le_mul_of_pos_left _ (Nat.mul_pos (by omega) (by omega))) h
 match j with
 | 0=>show x≤11;omega
 | 1=>show y≤11;omega
 | 2=>show z≤11;omega
 | j+3=>exact Nat.zero_le _
theorem D6_le (h:(x+1)*(y+1)*(z+1)≤12) (j:Nat):D6 x y z j≤1000:=by
 have:=D3_12 h j
 show D3 x y z j+D3 x y z j≤1000
 omega
theorem six_ok:shapes (fun x y z=> !Nat.ble ((x+1)*(y+1)*(z+1)) 12 || (Nat.ble ((2*x+1)*(2*y+1)*(2*z+1)) 100 && Nat.ble (lg (phi3 (2*x) (2*y) (2*z))) 400 && Nat.ble (lg (phi2 (2*x) (2*y))) 400 && Nat.ble (lg (phi1 (2*x))) 400))=true:=by decide+kernel
theorem six_of (h:(x+1)*(y+1)*(z+1)≤12):(2*x+1)*(2*y+1)*(2*z+1)≤100∧lg (phi3 (2*x) (2*y) (2*z))≤400∧lg (phi2 (2*x) (2*y))≤400∧lg (phi1 (2*x))≤400:=by
 have h1:=of_shapes six_ok (Nat.le_trans h (by decide))
 have h2:Nat.ble ((x+1)*(y+1)*(z+1)) 12=true:=by rw [Nat.ble_eq];exact h
 rw [h2] at h1
 simp only [Bool.not_true,Bool.false_or,Bool.and_eq_true,Nat.ble_eq] at h1
 exact ⟨h1.1.1.1,h1.1.1.2,h1.1.2,h1.2⟩
theorem D6_eq (j:Nat):D6 x y z j=D3 (2*x) (2*y) (2*z) j:=by
 match j with
 | 0=>show x+x=2*x;omega
 | 1=>show y+y=2*y;omega
 | 2=>show z+z=2*z;omega
 | j+3=>rfl
theorem vol_six (hn:n≤3) (h:(x+1)*(y+1)*(z+1)≤12):Siz.vol (Pn n) (D6 x y z)≤100:=by
 obtain ⟨h1,_⟩:=six_of h
 have a2:(2*x+1)*(2*y+1)≤100:=Nat.le_trans (Nat.le_mul_of_pos_right _ (by omega)) h1
 have a3:2*x+1≤100:=Nat.le_trans (Nat.le_mul_of_pos_right _ (by omega)) a2
 rw [show D6 x y z=D3 (2*x) (2*y) (2*z) from funext D6_eq]
 match n,hn with
 | 0,_=>show 1≤100;omega
 | 1,_=>show (2*x+1)*1≤100;omega
 | 2,_=>show (2*x+1)*((2*y+1)*1)≤100;rw [Nat.mul_one];exact a2
 | 3,_=>show (2*x+1)*((2*y+1)*((2*z+1)*1))≤100;rw [Nat.mul_one,← Nat.mul_assoc];exact h1
 | n+4,hn=>omega
theorem phi_six (hn:n≤3) (h:(x+1)*(y+1)*(z+1)≤12):∃e,e≤400∧Siz.phi (Pn n) (D6 x y z)≤2^e:=by
 obtain ⟨_,h3,h2,h1⟩:=six_of h
 rw [show D6 x y z=D3 (2*x) (2*y) (2*z) from funext D6_eq]
 match n,hn with
 | 0,_=>exact ⟨0,by omega,lRr⟩
 | 1,_=>exact ⟨_,h1,le_pow_lg _⟩
 | 2,_=>exact ⟨_,h2,le_pow_lg _⟩
 | 3,_=>exact ⟨_,h3,le_pow_lg _⟩
 | n+4,hn=>omega
theorem six_dv {f h:Pn n}(hn:n≤3) (hs:(x+1)*(y+1)*(z+1)≤12) (df:Siz.dg (D6 x y z) f) (nf:Siz.nm f≤2^136) (f0:f≠0) (hh:Dv h f):Siz.dg (D6 x y z) h∧Siz.nm h≤2^e6:=by
 obtain ⟨h1,h2⟩:=Siz.factor _ f h f0 df hh
 obtain ⟨e,he,hp⟩:=phi_six (n:=n) hn hs
 exact ⟨h1,Nat.le_trans h2 (Nat.le_trans (mul_le_bits hp nf) (Nat.pow_le_pow_right (by decide) (by have:=e6_eq;omega)))⟩
end
theorem sml_bd {nn most places:Int} {m k:Nat} {Ls:Nat→List TV}(h:Go.Proofs.YtehcoffbiplphaaGreat.Sml nn most places m Ls) (hk:k<m) (hp:places≤400):BdM 400 (mvT (Ls k)):=by
 obtain ⟨h3,hL,ds,hd,hc,hpr⟩:=h
 obtain ⟨l1,l2,l3⟩:=hL k hk
 intro t ht u hu
 obtain ⟨s,hs,rfl⟩:=List.mem_map.1 ht
 obtain ⟨i,hi,rfl⟩:=List.mem_iff_getElem.1 hs
 obtain ⟨j,hj,hj2⟩:=List.mem_iff_getElem.1 hu
 have h9:=(l2.2.2.2 i hi).2 j hj
 have hjn:=(l2.2.2.2 i hi).1
 have hcv:=hc k hk _ hs j
 have hj':j<((Ls k)[i]).2.length:=hj
 have e:nth ((Ls k)[i]).2 j=u:=by rw [nth_lt hj'];exact hj2
 rw [e] at h9 hcv
 have h9:0≤u∧u≤1000:=h9
 have hj3:j<3:=by
  have:j<((Ls k)[i]).2.length:=hj;omega
 have d0:=hd 0
 have d1:=hd 1
 have d2:=hd 2
 have d3:=hd 3
 have p:1*(nth ds 0+1)*(nth ds 1+1)*(nth ds 2+1)*(nth ds 3+1)≤places:=hpr
 have key:∀a b c d:Int,0≤a→0≤b→0≤c→0≤d→1*(a+1)*(b+1)*(c+1)*(d+1)≤400→a≤399∧b≤399∧c≤399:=fun a b c d ha hb hc hd h=>by
  have q1:∀u v:Int,1≤u→1≤v→u≤u*v∧v≤u*v:=fun u v hu hv=>by
   have h1:=Int.mul_le_mul_of_nonneg_left hv (show (0:Int)≤u by omega);have h2:=Int.mul_le_mul_of_nonneg_right hu (show (0:Int)≤v by omega);omega
  rw [Int.one_mul] at h;have r1:=q1 (a+1) (b+1) (by omega) (by omega);have r2:=q1 ((a+1)*(b+1)) (c+1) (by omega) (by omega);have r3:=q1 ((a+1)*(b+1)*(c+1)) (d+1) (by omega) (by omega);omega
 obtain ⟨b0,b1,b2⟩:=key _ _ _ _ d0.1 d1.1 d2.1 d3.1 (by omega)
 refine ⟨h9.1,?_⟩
 match j,hj3 with
 | 0,_=>omega
 | 1,_=>omega
 | 2,_=>omega
end Cl
namespace Go.Proofs.YtehcoffbiplphaaGreat
open Go.RowKit Cl CRing
attribute [local go_sem ↓] Go.wp_at_zero Go.wp_at_succ
theorem ltimes18 (n Ca Cb:Nat) (A B:Option Addr) (ma ca mb cb:Nat) (L T:List TV) (w:World) (hx:Trs w A ma L) (hy:Trs w B mb T) (hL:Arg n Ca L) (hT:Arg n Cb T) (hn:n≤6) (da db:Int) (hCa:Ca≤10000) (hCb:Cb≤10000) (hl:ma*mb≤4096) (hda:BdM da (mvT L)) (hdb:BdM db (mvT T)) (hd:da+db≤1000):Calls Tryz.prog 18 #[.int .i64 (n:Int),.slice A ma ca,.slice B mb cb] w (GivesT w n (mulM (mvT L) (mvT T))):=by
 have C:=hiD (mmul n Ca Cb A B ma ca mb cb L T da db w hx hy hL hT hn hCa hCb hl hda hdb hd)
 clear hx hy hL hT hda hdb hl
 go_enter Tryz.func18,Tryz.ntmps18
 go_wp2_with fail
 refine C.out.mono ?_
 rintro e w1 ⟨A3,c3,L3,rfl,q1,q2,q3,q4,q5,q6⟩
 have F:=hiD (show GivesT w n (mulM (mvT L) (mvT T)) (.returned (.slice A3 L3.length c3)) w1 from ⟨A3,c3,L3,rfl,q1,q2,q3,q4,q5,q6⟩)
 clear q3 q4 q5 q6
 go_wp2_with fail
 go_ret
 exact F.out
theorem mul_plT {n:Nat} {L M T:List TV}(hL:Arg n 1000 L) (hM:Arg n 1000 M) (hT:PlainT n T) (e:EqM n (mvT T) (mulM (mvT L) (mvT M))):mvT T=plT n (toT n (mvT L)*toT n (mvT M)):=by
 have nL:NnM (mvT L):=fun t ht u hu=>(hL.bdM t ht u hu).1
 have nM:NnM (mvT M):=fun t ht u hu=>(hM.bdM t ht u hu).1
 have h1:=plT_plain n (toT n (mvT L)*toT n (mvT M))
 refine hT.mv.unique h1 (e.trans ?_)
 refine toT_inj (hL.lenM.mul hM.lenM) (nL.mul nM) h1.len (plT_nn n _) ?_
 rw [toT_mul hL.lenM nL hM.lenM nM,toT_plT]
end Go.Proofs.YtehcoffbiplphaaGreat
