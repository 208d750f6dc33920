/- Squares: sizes, and what the law asks of them. No program in sight.
   Contracts: radical of a small polynomial's square, and of what divides a small one. -/
import Derived.Test.YtehcoffbiplphaaGreatSLwE
set_option linter.unusedVariables false
set_option linter.unusedSimpArgs false
namespace Cl
open CRing Go.Proofs.YtehcoffbiplphaaGreat
section
variable {n x y z : Nat}
theorem isK_ex (q:Pn n):∀k,∃g,IsK n k q g
 | 0=>⟨q,IsK.start n q⟩
 | k+1=>by
   obtain ⟨g,hg⟩:=isK_ex q k;obtain ⟨h,hh⟩:=GDom.gcd_ex g (derT n k q);exact ⟨h,hg.next hh⟩
theorem hb12_ok:shapes (fun x y z=> !Nat.ble ((x+1)*(y+1)*(z+1)) 12 || Nat.ble (hb x y z) 190)=true:=by decide+kernel
theorem hb12 (h:(x+1)*(y+1)*(z+1)≤12):hb x y z≤190:=by
 have h1:=of_shapes hb12_ok (Nat.le_trans h (by decide))
 have h2:Nat.ble ((x+1)*(y+1)*(z+1)) 12=true:=by rw [Nat.ble_eq];exact h
 rw [h2] at h1
 simpa only [Bool.not_true,Bool.false_or,Nat.ble_eq] using h1
theorem prT_id {f:Pn n}(h:Pm f) (k:PosP f):prT n f=f:=by
 have h1:=prT_mul n f
 have h2:=h.2 _ _ h1
 have h3:0≤czM (plT n f):=by
  cases e:plT n f with
  | nil=>exact absurd (plT_zero.1 e) h.1
  | cons t L=>
    have h4:=k t L e;(have h5:czM (t::L)=if t.2<0 then -(cntM (t::L):Int) else (cntM (t::L):Int):=rfl);rw [h5,if_neg (by omega)];omega
 have h4:czM (plT n f)=1:=by omega
 rw [h4,cstT_one,CRing.one_mul] at h1
 exact h1.symm
theorem comSq (hn:n≤3) (hs:(x+1)*(y+1)*(z+1)≤12) (hz:n=2→z=0) {q:Pn n}(pm:Pm q) (fq:Fit0 n x y z q) {k:Nat}(hk:k<n) {f g:Pn n}(hf:f=q*q∨f= -(q*q)) (hg:IsK n k f g):ComOk n g (derT n k f):=by
 obtain ⟨h,hh⟩:=isK_ex q k
 have e:=(sq_isK (by omega) pm hh).pm (hg.sgn (by omega) hf)
 have fh:=fq.dv hn (by omega) pm.1 hh.l
 have nh:Siz.nm h≤2^200:=Nat.le_trans fh.nm (Nat.pow_le_pow_right (by decide) (by have:=hb12 hs;omega))
 have dd:=derT_dg (n:=n) (i:=k) fq.dg
 have n1:Siz.nm (1+1:Pn n)≤2:=Nat.le_trans (Siz.nm_add _ _) (by rw [Siz.nm_one];exact lRr)
 have nd:Siz.nm ((1+1)*derT n k q)≤2^200:=by
  have h1:=derT_nm (i:=k) fq.dg;have h2:=D3_12 hs k;refine Nat.le_trans (Siz.nm_mul _ _) ?_;have h3:Siz.nm (1+1:Pn n)*Siz.nm (derT n k q)≤2*(11*2^68):=Nat.mul_le_mul n1 (Nat.le_trans h1 (Nat.mul_le_mul h2 fq.nm));exact Nat.le_trans h3 (by decide)
 have d1:Siz.dg (D3 x y z) ((1+1)*derT n k q):=by
  rw [CRing.add_mul,CRing.one_mul];exact Siz.dg_add _ _ _ dd dd
 have nq:Siz.nm q≤2^200:=Nat.le_trans fq.nm (Nat.pow_le_pow_right (by decide) (by decide))
 have key:∀F G:Pn n,(F=h∨F= -h)→(G=(1+1)*derT n k q∨G= -((1+1)*derT n k q))→ComOk n (q*F) (q*G):=fun F G hF hG=>by
  refine com_small x y z hn hs hz F G q pm.1 ?_ ?_ fq.dg ?_ ?_ nq
  · rcases hF with e | e<;>rw [e]
    · exact fh.dg
    · exact Siz.dg_neg _ _ fh.dg
  · rcases hG with e | e<;>rw [e]
    · exact d1
    · exact Siz.dg_neg _ _ d1
  · rcases hF with e | e<;>rw [e]
    · exact nh
    · rw [Siz.nm_neg];exact nh
  · rcases hG with e | e<;>rw [e]
    · exact nd
    · rw [Siz.nm_neg];exact nd
 rcases e with e | e<;>rcases hf with e2 | e2<;>rw [e,e2]
 · rw [derT_sq hk];exact key _ _ (.inl rfl) (.inl rfl)
 · rw [derT_neg hk,derT_sq hk,← CRing.mul_neg];exact key _ _ (.inl rfl) (.inr rfl)
 · rw [derT_sq hk,← CRing.mul_neg];exact key _ _ (.inr rfl) (.inl rfl)
 · rw [derT_neg hk,derT_sq hk,← CRing.mul_neg,← CRing.mul_neg];exact key _ _ (.inr rfl) (.inr rfl)
theorem comRd (hn:n≤3) (hs:(x+1)*(y+1)*(z+1)≤12) (hz:n=2→z=0) {q r:Pn n}(q0:q≠0) (fq:Fit0 n x y z q) (hr:Dv r q) {k:Nat} {g:Pn n}(hg:IsK n k r g):ComOk n g (derT n k r):=by
 have h9:∀{u:Pn n},Dv u q→Siz.nm u≤2^190:=fun hu=>Nat.le_trans (fq.dv hn (by omega) q0 hu).nm (Nat.pow_le_pow_right (by decide) (hb12 hs))
 have fr:=fq.dv hn (by omega) q0 hr
 have fg:=fq.dv hn (by omega) q0 (hg.l.trans hr)
 have h:=com_small x y z hn hs hz g (derT n k r) 1 Dom.one_ne fg.dg (derT_dg fr.dg) (Siz.dg_one _) (Nat.le_trans (h9 (hg.l.trans hr)) (Nat.pow_le_pow_right (by decide) (by decide))) (Nat.le_trans (derT_nm fr.dg) (Nat.le_trans (Nat.mul_le_mul (D3_12 hs k) (h9 hr)) (by decide))) (by rw [Siz.nm_one];exact Nat.pow_pos (by decide))
 rwa [CRing.one_mul,CRing.one_mul] at h
theorem sq_cst {a q g c:Pn n}(a0:a≠0) (q0:q≠0) (e:a=c*q) (hc:∃z,c=cstT n z) (hg:IsK n n q g) {g':Pn n}(h':g'=q*g∨g'= -(q*g)):(∃z,g'=cstT n z)↔∃z,a=cstT n z:=by
 have dz:∀w,Siz.dg (fun _=>0) (cstT n w):=cst_dg
 have g0:g≠0:=fun k=>q0 (Dv.of0 (by rw [← k];exact hg.l))
 have n0:g'≠0:=by
  rcases h' with h' | h'<;>rw [h']
  · exact Dom.mul_ne q0 g0
  · exact fun k=>Dom.mul_ne q0 g0 (by rw [← CRing.neg_neg (q*g),k,CRing.neg_zero])
 obtain ⟨w,hw⟩:=hc
 constructor
 · rintro ⟨v,hv⟩
   obtain ⟨u,hu⟩:=cst_dv n0 (by rw [hv];exact dz v) (show Dv q g' by
    rcases h' with h' | h'<;>rw [h']
    · exact Dv.left _ _
    · exact (Dv.left _ _).neg)
   exact ⟨w*u,by rw [e,hw,hu,cstT_mul]⟩
 · rintro ⟨v,hv⟩
   have dq:Dv q a:=⟨c,by rw [e,CRing.mul_comm]⟩;have da:Siz.dg (fun _=>0) a:=by rw [hv];exact dz v
   have d1:Siz.dg (fun _=>0) (q*g):=Siz.dg_mul _ _ _ _ (Siz.factor _ _ q a0 da dq).1 (Siz.factor _ _ g a0 da (hg.l.trans dq)).1;refine cst_of fun i hi=>derT_none hi (D:=fun _=>0) ?_ rfl;rcases h' with h' | h'<;>rw [h']
   · exact d1
   · exact Siz.dg_neg _ _ d1
end
end Cl
namespace Go.Proofs.YtehcoffbiplphaaGreat
open Go.RowKit Cl CRing
section
variable {n x y z : Nat}
theorem _root_.Cl.Fit0.pr (hn:n≤3) (hs:(x+1)*(y+1)*(z+1)≤12) {a:Pn n}(fa:Fit0 n x y z a) (a0:a≠0):Fit0 n x y z (prT n a):=⟨(fa.dv hn (by omega) a0 (prT_dv n a)).dg,Nat.le_trans (prT_nm n a) fa.nm⟩
theorem sq_nm {q:Pn n}(fq:Fit0 n x y z q):Siz.dg (D6 x y z) (q*q)∧Siz.nm (q*q)≤2^136:=⟨Siz.dg_mul _ _ _ _ fq.dg fq.dg,Nat.le_trans (Siz.nm_mul _ _) (mul_le_bits fq.nm fq.nm)⟩
theorem e6_136 {u:Nat}(h:u≤2^136):u≤2^e6:=Nat.le_trans h (Nat.pow_le_pow_right (by decide) (by have:=e6_eq;omega))
theorem e6_mul {d u e:Nat}(hd:d≤64) (he:e≤590) (hu:u≤2^e):d*u≤2^e6:=by
 refine Nat.le_trans (Nat.mul_le_mul (show d≤2^6 from hd) hu) ?_
 rw [← Nat.pow_add]
 exact Nat.pow_le_pow_right (by decide) (by have:=e6_eq;omega)
theorem vol6_le (hn:n≤3) (hs:(x+1)*(y+1)*(z+1)≤12):Siz.vol (Pn n) (D6 x y z)≤4096:=Nat.le_trans (vol_six hn hs) (by decide)
theorem pr_six (hn:n≤3) (hs:(x+1)*(y+1)*(z+1)≤12) {a:Pn n}(a0:a≠0) (fa:Fit0 n x y z a):Siz.dg (D6 x y z) (prT n (a*a))∧Siz.nm (prT n (a*a))≤2^136:=by
 obtain ⟨s1,s2⟩:=sq_nm fa
 exact ⟨(Siz.factor _ _ _ (Dom.mul_ne a0 a0) s1 (prT_dv n _)).1,Nat.le_trans (prT_nm n _) s2⟩
theorem radical_sq (hn:n≤3) (hs:(x+1)*(y+1)*(z+1)≤12) (hz:n=2→z=0) {A:Option Addr} {m c:Nat} {L:List TV} {w:World} {a:Pn n}(a0:a≠0) (fa:Fit0 n x y z a) (hx:Trs w A m L) (hL:PlainT n L) (e:mvT L=plT n (a*a)):
 Calls Tryz.prog 32 #[.int .i64 (n:Int),.slice A m c] w (GivesRd w n (prT n (a*a))):=by
 obtain ⟨s1,s2⟩:=sq_nm fa
 obtain ⟨q1,q2⟩:=pr_six hn hs a0 fa
 exact mradical_gen n hn A m c L w hx (arg_plTD (D6_le hs) (vol6_le hn hs) hL e s1 (e6_136 s2)) _ (by rw [e,toT_plT]) (D6 x y z) (D6_le hs) (vol6_le hn hs) q1
  (fun g h0 hg=>(six_dv hn hs q1 q2 h0 hg).2) (fun k hk=>Nat.le_trans (derT_nm q1) (e6_mul (by have:=D3_12 hs k;show D3 x y z k+D3 x y z k≤64;omega) (by decide) q2)) (fun k g hk _ hg=>comSq hn hs hz (prT_pm a0) (fa.pr hn hs a0) hk (prT_sq a0) hg)
theorem fit_sq (hn:n≤3) (hs:(x+1)*(y+1)*(z+1)≤12) {a:Pn n}(a0:a≠0) (fa:Fit0 n x y z a):∀g,prT n (a*a)≠0→Dv g (prT n (a*a))→Siz.dg (D6 x y z) g∧Siz.nm g≤2^e6:=fun g h0 hg=>by
 obtain ⟨q1,q2⟩:=pr_six hn hs a0 fa
 exact six_dv hn hs q1 q2 h0 hg
theorem radical_dv (hn:n≤3) (hs:(x+1)*(y+1)*(z+1)≤12) (hz:n=2→z=0) {A:Option Addr} {m c:Nat} {L:List TV} {w:World} {q r:Pn n}(q0:q≠0) (fq:Fit0 n x y z q) (hr:Dv r q) (pm:Pm r) (pp:PosP r) (hx:Trs w A m L) (hL:Arg n 1000 L) (e:mvT L=plT n r):
 Calls Tryz.prog 32 #[.int .i64 (n:Int),.slice A m c] w (GivesRd w n r):=by
 have fr:=fq.dv hn (by omega) q0 hr
 exact mradical_gen n hn A m c L w hx hL _ (by rw [e,toT_plT,prT_id pm pp]) (D3 x y z) (fun j=>by have:=D3_12 hs j;omega) (by have:=vol_small (x:=x) (y:=y) (z:=z) hn (by omega);omega) fr.dg
  (fun g h0 hg=>(fr.less hn (by omega) h0 hg).2) (fun k hk=>Nat.le_trans (derT_nm fr.dg) (e6_mul (by have:=D3_12 hs k;omega) (by have:=hb12 hs;omega) fr.nm)) (fun k g hk _ hg=>comRd hn hs hz q0 fq hr hg)
end
theorem lsmall18_1 (n most places:Int) (g c:Nat) (A:Option Addr) (m1 c1:Nat) (L:List TV) (w:World) (hp:places≤1000) (hg:g<w.heap.size) (q0:w.cell? ⟨g,0,none⟩=some (.slice A m1 c1)) (hx:Trs w A m1 L) (h1:m1≤9223372036854775807):
 Calls Tryz.prog 11 #[.int .i64 n,.int .i64 most,.int .i64 places,.slice (some ⟨g,0,none⟩) 1 c] w (SmallSaid18 w n most places 1 (fun _=>L)):=
 lsmall18 n most places g 1 c (fun _=>A) (fun _=>m1) (fun _=>c1) (fun _=>L) w (by omega) hp hg (fun k hk=>by
  match k,hk with
  | 0,_=>exact ⟨q0,hx,h1⟩
  | k+1,hk=>omega)
end Go.Proofs.YtehcoffbiplphaaGreat
