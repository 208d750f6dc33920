/- Primes of the tower of polynomials: every polynomial that is no unit has one. No program in sight.
   Derivatives in the tower: Leibniz's law, degrees, constants. No program in sight.
   What is left of a polynomial by what it has in common with its derivatives is squarefree; squares. No program in sight. -/
import Derived.Test.YtehcoffbiplphaaGreatSPlw
import Derived.Test.YtehcoffbiplphaaGreatSValQ
set_option linter.unusedVariables false
set_option linter.unusedSimpArgs false
namespace Cl
open CRing
def Un {R:Type} [CRing R] (a:R):Prop:=∃b,a*b=1
noncomputable def muT:(n:Nat)→Pn n→Nat
 | 0,z=>(toZ z).natAbs
 | n+1,f=>((kids f).len - 1)+muT n (kids f).lc
theorem muT_dv:∀{n:Nat} {d e:Pn n},d*e≠0→muT n d≤muT n (d*e)∧(muT n (d*e)≤muT n d→Un e)
 | 0,d,e,h=>by
   have h0:toZ d*toZ e≠0:=h;have h1:(toZ d*toZ e).natAbs=(toZ d).natAbs*(toZ e).natAbs:=Int.natAbs_mul _ _;have d0:0<(toZ d).natAbs:=Int.natAbs_pos.2 fun k=>h0 (by rw [k,Int.zero_mul]);have e0:0<(toZ e).natAbs:=Int.natAbs_pos.2 fun k=>h0 (by rw [k,Int.mul_zero]);show (toZ d).natAbs≤(toZ d*toZ e).natAbs∧((toZ d*toZ e).natAbs≤(toZ d).natAbs→_);rw [h1];refine ⟨Nat.le_mul_of_pos_right _ e0,fun k=> ?_⟩;have h2:(toZ e).natAbs=1:=by
    (have h3:(toZ d).natAbs*(toZ e).natAbs≤(toZ d).natAbs*1:=by rw [Nat.mul_one];exact k);have:=Nat.le_of_mul_le_mul_left h3 d0;omega
   refine ⟨e,(show toZ e*toZ e=1 from ?_)⟩;rcases (show toZ e=1∨toZ e= -1 by omega) with k | k<;>rw [k]<;>rfl
 | n+1,d,e,h=>by
   have d0:kids d≠0:=fun k=>h (by show kids d*kids e=0;rw [k,CRing.zero_mul]);have e0:kids e≠0:=fun k=>h (by show kids d*kids e=0;rw [k,CRing.mul_zero]);obtain ⟨hl,hlc⟩:=Poly.len_mulD d0 e0;have ld:=Poly.len_pos d0;have le:=Poly.len_pos e0;have hne:(kids d).lc*(kids e).lc≠0:=Dom.mul_ne (Poly.lc_ne d0) (Poly.lc_ne e0);obtain ⟨i1,i2⟩:=muT_dv hne;show (kids d).len - 1+muT n (kids d).lc≤(kids d*kids e).len - 1+muT n (kids d*kids e).lc∧((kids d*kids e).len - 1+muT n (kids d*kids e).lc≤(kids d).len - 1+muT n (kids d).lc→_);rw [hl,hlc];refine ⟨by omega,fun k=> ?_⟩;obtain ⟨v,hv⟩:=i2 (by omega);have l1:(kids e).len=1:=by omega
   refine ⟨mkK (Poly.C v),(show kids e*Poly.C v=1 from Poly.ext fun i=> ?_)⟩;have e1:(kids e).lc=(kids e).co 0:=by
    show (kids e).co ((kids e).len - 1)=_;rw [l1]
   rw [CRing.mul_comm,Poly.co_C_mul,Poly.co_one];by_cases hi:i=0
   · rw [hi,if_pos rfl,CRing.mul_comm,← e1,hv]
   · rw [if_neg hi,Poly.len_sh (kids e) i (by omega),CRing.mul_zero]
structure Pri {R:Type} [CRing R] (p:R):Prop where
 nu:¬Un p
 pr:∀a b,Dv p (a*b)→Dv p a∨Dv p b
theorem pri_of {R:Type} [GDom R] {p:R}(hp:p≠0) (nu:¬Un p) (ir:∀a b,p=a*b→Un a∨Un b):Pri p:=⟨nu,fun a b hab=>by
 obtain ⟨g,hg⟩:=GDom.gcd_ex p a
 obtain ⟨u,hu⟩:=hg.l
 rcases ir g u hu with h | h
 · right
   obtain ⟨v,hv⟩:=h;have h1:IsG 1 p a:=⟨Dv.one _,Dv.one _,fun d k l=>(hg.top d k l).trans ⟨v,hv.symm⟩⟩;exact euclid h1 hab
 · left
   obtain ⟨v,hv⟩:=h;refine Dv.trans ⟨v,?_⟩ hg.r;rw [hu,CRing.mul_assoc,hv,CRing.mul_one]⟩
theorem pri_ex {n:Nat}:∀(m:Nat) (f:Pn n),muT n f≤m→f≠0→¬Un f→∃p,Pri p∧p≠0∧Dv p f
 | m,f,hm,f0,nu=>by
   by_cases ir:∀a b,f=a*b→Un a∨Un b
   · exact ⟨f,pri_of f0 nu ir,f0,Dv.refl f⟩
   · obtain ⟨a,ha⟩:=Classical.not_forall.1 ir
     obtain ⟨b,hb⟩:=Classical.not_forall.1 ha;obtain ⟨e,hn⟩:=Classical.not_imp.1 hb;(have h1:a*b≠0:=by rw [← e];exact f0);have a0:a≠0:=fun k=>h1 (by rw [k,CRing.zero_mul]);obtain ⟨i1,i2⟩:=muT_dv h1;have h2:muT n a<muT n f:=by
      rw [e];exact Nat.lt_of_not_le fun k=>hn (.inr (i2 k))
     match m,hm with
     | 0,hm=>omega
     | m+1,hm=>
       obtain ⟨p,k1,k2,k3⟩:=pri_ex m a (by omega) a0 fun k=>hn (.inl k);exact ⟨p,k1,k2,by rw [e];exact k3.mulR b⟩
def pw {R:Type} [CRing R] (a:R):Nat→R
 | 0=>1
 | k+1=>pw a k*a
theorem pw_le {n:Nat} {p f:Pn n}(hp:¬Un p) (f0:f≠0):∀k,Dv (pw p k) f→k≤muT n f:=by
 have key:∀k,pw p k≠0→k≤muT n (pw p k):=fun k=>by
  induction k with
  | zero=>intro _;exact Nat.zero_le _
  | succ k ih=>
    intro h;have h1:pw p k≠0:=fun e=>h (by show pw p k*p=0;rw [e,CRing.zero_mul]);obtain ⟨_,i2⟩:=muT_dv (show pw p k*p≠0 from h);have h2:¬muT n (pw p k*p)≤muT n (pw p k):=fun e=>hp (i2 e);have:=ih h1;show k+1≤muT n (pw p k*p);omega
 intro k hk
 obtain ⟨c,hc⟩:=hk
 have h0:pw p k*c≠0:=by rw [← hc];exact f0
 have h1:pw p k≠0:=fun e=>h0 (by rw [e,CRing.zero_mul])
 have h2:=(muT_dv h0).1
 rw [← hc] at h2
 exact Nat.le_trans (key k h1) h2
theorem pw_max {n:Nat} {p f:Pn n}(hp:¬Un p) (f0:f≠0):∃k,Dv (pw p k) f∧¬Dv (pw p (k+1)) f:=by
 refine Classical.byContradiction fun h=> ?_
 have key:∀k,Dv (pw p k) f:=fun k=>by
  induction k with
  | zero=>exact Dv.one f
  | succ k ih=>exact Classical.byContradiction fun e=>h ⟨k,ih,e⟩
 have:=pw_le hp f0 _ (key (muT n f+1))
 omega
end Cl
namespace Cl
open CRing
section
variable {n i : Nat}
theorem derT_of {L:Mv}(hL:LenM n L) (kL:NnM L):toT n (derP i L)=derT n i (toT n L):=by
 have h1:=plT_plain n (toT n L)
 have e:EqM n L (plT n (toT n L)):=toT_inj hL kL h1.len (plT_nn n _) (by rw [toT_plT])
 exact toT_eq (der_len hL) (der_nn kL) (der_len h1.len) (der_nn (plT_nn n _)) (mapM_eq _ _ hL h1.len e)
theorem derT_mul (hi:i<n) (f g:Pn n):derT n i (f*g)=derT n i f*g+f*derT n i g:=by
 have lf:=(plT_plain n f).len
 have lg:=(plT_plain n g).len
 have kf:=plT_nn n f
 have kg:=plT_nn n g
 have h1:derT n i (f*g)=toT n (derP i (mulM (plT n f) (plT n g))):=by
  rw [derT_of (lf.mul lg) (kf.mul kg),toT_mul lf kf lg kg,toT_plT,toT_plT]
 have l1:=der_len (i:=i) lf
 have l2:=der_len (i:=i) lg
 have k1:NnM (derP i (plT n f)):=der_nn kf
 have k2:NnM (derP i (plT n g)):=der_nn kg
 have h2:=toT_eq (der_len (lf.mul lg)) (der_nn (kf.mul kg)) ((l1.mul lg).append (lf.mul l2)) ((k1.mul kg).append (kf.mul k2)) (der_mulN hi lf lg kf kg)
 rw [h1]
 refine h2.trans ?_
 rw [toT_add (l1.mul lg) (k1.mul kg) (lf.mul l2) (kf.mul k2),toT_mul l1 k1 lg kg,toT_mul lf kf l2 k2,toT_plT,toT_plT]
 rfl
theorem derT_dgS {q:Pn n} {D:Nat→Nat}(hi:i<n) (h:Siz.dg D q):Siz.dg (fun j=>if j=i then D j - 1 else D j) (derT n i q):=by
 refine plant_dg n 0 _ _ fun t ht k=> ?_
 rw [Nat.zero_add]
 obtain ⟨s,hs,rfl⟩:=der_mem ht
 have h1:=plT_dg h hs k
 have hl:=(plT_plain n q).len s hs
 show (nth (s.1.set i _) k).toNat≤_
 rw [nth_set (show i<s.1.length by rw [hl];exact hi)]
 by_cases e:k=i
 · rw [if_pos e,if_pos e]
   rw [e] at h1 ⊢;omega
 · rw [if_neg e,if_neg e]
   exact h1
theorem derT_none {q:Pn n} {D:Nat→Nat}(hi:i<n) (h:Siz.dg D q) (h0:D i=0):derT n i q=0:=by
 have hz:∀t∈derP i (plT n q),t.2=0:=fun t ht=>by
  obtain ⟨s,hs,rfl⟩:=der_mem ht;have h1:=plT_dg h hs i;have hl:=(plT_plain n q).len s hs;have h2:=plT_nn n q s hs _ (nth_mem (xs:=s.1) (i:=i) (by rw [hl];exact hi));show s.2*nth s.1 i=0;rw [show nth s.1 i=0 by omega,Int.mul_zero]
 have e:EqM n (derP i (plT n q)) []:=fun p _=>by
  have key:∀L:Mv,(∀t∈L,t.2=0)→coM L p=0:=fun L=>by
   induction L with
   | nil=>intro _;rfl
   | cons t L ih=>
     intro h;rw [coM_cons,ih fun s hs=>h s (List.mem_cons_of_mem _ hs),h t List.mem_cons_self];split<;>rfl
  exact key _ hz
 exact (toT_eq (der_len (plT_plain n q).len) (der_nn (plT_nn n q)) (fun _ h=>by cases h) (fun _ h=>by cases h) e).trans (toT_nil n)
theorem derT_up {q:Pn n}(hi:i<n) (h:derT n i q=0) {s:Trm}(hs:s∈plT n q):nth s.1 i=0:=by
 have hp:=plT_plain n q
 have nn:∀t∈plT n q,0≤nth t.1 i:=fun t ht=>plT_nn n q t ht _ (nth_mem (by rw [hp.len t ht];exact hi))
 refine Classical.byContradiction fun hne=> ?_
 have h0:=nn s hs
 have hl:=hp.len s hs
 have l1:LenM n (derP i (plT n q)):=der_len hp.len
 have hz:EqM n (derP i (plT n q)) []:=toT_inj l1 (der_nn (plT_nn n q)) (fun _ h=>by cases h) (fun _ h=>by cases h) (by rw [toT_nil];exact h)
 have hc:=hz (s.1.set i (nth s.1 i - 1)) (by rw [List.length_set];exact hl)
 have e1:coM (derP i (plT n q)) (s.1.set i (nth s.1 i - 1))=sumL (fun t:Trm=>if t.1=s.1 then t.2*nth s.1 i else 0) (plT n q):=by
  unfold derP;rw [coM_map];refine sumL_congr fun t ht=> ?_;have ht0:=nn t ht;have hlt:=hp.len t ht;by_cases e:t.1=s.1
  · rw [if_pos e,e,show max (nth s.1 i - 1) 0=nth s.1 i - 1 by omega,if_pos rfl]
  · rw [if_neg e]
    by_cases e2:t.1.set i (max (nth t.1 i - 1) 0)=s.1.set i (nth s.1 i - 1)
    · rw [if_pos e2]
      have e3:max (nth t.1 i - 1) 0=nth s.1 i - 1:=by
       have:=congrArg (fun p=>nth p i) e2;simp only [nth_set (show i<t.1.length by omega),nth_set (show i<s.1.length by omega),if_true] at this;exact this
      have e4:nth t.1 i=0:=by
       refine Classical.byContradiction fun k=>e ?_;(have e5:nth t.1 i=nth s.1 i:=by omega);refine list_ext (by omega) fun j hj=> ?_;by_cases ej:j=i
       · rw [ej];exact e5
       · have:=congrArg (fun p=>nth p j) e2
         simp only [nth_set (show i<t.1.length by omega),nth_set (show i<s.1.length by omega),if_neg ej] at this;exact this
      rw [e4,Int.mul_zero]
    · rw [if_neg e2,Int.mul_zero]
 have e2:sumL (fun t:Trm=>if t.1=s.1 then t.2*nth s.1 i else 0) (plT n q)=coM (plT n q) s.1*nth s.1 i:=by
  have key:∀L:Mv,sumL (fun t:Trm=>if t.1=s.1 then t.2*nth s.1 i else 0) L=coM L s.1*nth s.1 i:=fun L=>by
   induction L with
   | nil=>exact (Int.zero_mul _).symm
   | cons t L ih=>
     rw [coM_cons,Int.add_mul,← ih];show (if t.1=s.1 then t.2*nth s.1 i else 0)+_=_;congr 1
     split
     · rfl
     · rw [Int.zero_mul]
  exact key _
 rw [e1,e2,hp.co_mem s hs] at hc
 have hc:s.2*nth s.1 i=0:=hc
 rcases Int.mul_eq_zero.1 hc with h | h
 · exact hp.ne s hs h
 · exact hne h
theorem cst_of {q:Pn n}(h:∀i,i<n→derT n i q=0):∃z,q=cstT n z:=by
 have hp:=plT_plain n q
 have hz:∀s∈plT n q,s.1=List.replicate n 0:=fun s hs=>by
  refine list_ext (by rw [hp.len s hs,List.length_replicate]) fun j hj=> ?_;rw [hp.len s hs] at hj;rw [derT_up hj (h j hj) hs,nth_lt (by rw [List.length_replicate];exact hj),List.getElem_replicate]
 cases hq:plT n q with
 | nil=>
   refine ⟨0,?_⟩;rw [plT_zero.1 hq];refine (cf_ext fun p hpl=> ?_).symm;unfold cstT;rw [tmP_co n _ _ _ (by simp) hpl fun x hx=>by rw [List.eq_of_mem_replicate hx];exact Int.le_refl _];have:=toT_co (n:=n) (L:=[]) (fun _ h=>by cases h) (fun _ h=>by cases h) hpl;rw [toT_nil] at this;rw [this];split<;>rfl
 | cons s L=>
   refine ⟨s.2,?_⟩;have hL:L=[]:=by
    cases L with
    | nil=>rfl
    | cons t L=>
      rw [hq] at hp hz;have h1:=(List.pairwise_cons.1 hp.ord).1 t List.mem_cons_self;rw [hz s List.mem_cons_self,hz t (List.mem_cons_of_mem _ List.mem_cons_self)] at h1;exact absurd h1 (ltP.irrefl _)
   have e1:=toT_plT n q;rw [hq,hL] at e1;rw [← e1];have hs0:=hz s (by rw [hq];exact List.mem_cons_self);rw [toT_one (by rw [hs0];simp) (fun x hx=>by rw [hs0] at hx;rw [List.eq_of_mem_replicate hx];exact Int.le_refl _),hs0];rfl
end
end Cl
namespace Cl
open CRing
section
variable {n : Nat}
theorem cstT_one:cstT n 1=1:=by
 have h:=toT_unit n
 rw [toT_one (by simp) (fun x hx=>by rw [List.eq_of_mem_replicate hx];exact Int.le_refl _)] at h
 exact h
theorem cstT_mul (a b:Int):cstT n (a*b)=cstT n a*cstT n b:=by
 have h:=tmP_mul n (List.replicate n 0) (List.replicate n 0) a b (by simp) (by simp) (fun x hx=>by rw [List.eq_of_mem_replicate hx];exact Int.le_refl _) (fun x hx=>by rw [List.eq_of_mem_replicate hx];exact Int.le_refl _)
 rw [addP_zero (by simp)] at h
 exact h
theorem cstT_un {z:Int}(h:z=1∨z= -1):Un (cstT n z):=by
 refine ⟨cstT n z,?_⟩
 rw [← cstT_mul,show z*z=1 by rcases h with h | h<;>rw [h]<;>rfl]
 exact cstT_one
def Pm (f:Pn n):Prop:=f≠0∧∀z u,f=cstT n z*u→z=1∨z= -1
theorem Pm.dv {f g:Pn n}(h:Pm f) (k:Dv g f):Pm g:=by
 obtain ⟨w,rfl⟩:=k
 exact ⟨fun e=>h.1 (by rw [e,CRing.zero_mul]),fun z u e=>h.2 z (u*w) (by rw [e,CRing.mul_assoc])⟩
theorem scale_plT {z:Int}(hz:z≠0) (u:Pn n):plT n (cstT n z*u)=scaleM z (plT n u):=by
 have hp:=plT_plain n u
 have hn:=plT_nn n u
 have h1:PlainM n (scaleM z (plT n u)):=⟨hp.len.scale z,List.pairwise_map.2 hp.ord,fun t ht=>by
  obtain ⟨s,hs,rfl⟩:=List.mem_map.1 ht;exact Int.mul_ne_zero hz (hp.ne s hs)⟩
 exact (plT_unique h1 (hn.scale z) (by rw [toT_scale hp.len hn,toT_plT])).symm
theorem prT_pm {f:Pn n}(hf:f≠0):Pm (prT n f):=by
 have h0:prT n f≠0:=fun e=>hf (prT_zero.1 e)
 refine ⟨h0,fun z u e=> ?_⟩
 have hz:z≠0:=fun k=>h0 (by
  rw [e,k];have h1:=cstT_mul (n:=n) 0 0;have h2:cstT n 0=0:=by
   have h3:(0:Int)*0=0:=rfl;have h4:=cst_of (n:=n) (q:=0) fun i hi=>derT_none (D:=fun _=>0) hi (Siz.dg_zero _) rfl;obtain ⟨w,hw⟩:=h4;have h5:=congrArg (fun x=>cstT n 0*x) hw;simp only [CRing.mul_zero] at h5;rw [← cstT_mul,Int.zero_mul] at h5;exact h5.symm
  rw [h2,CRing.zero_mul])
 have h1:=cnt_pr (plT_plain n f) fun k=>hf (plT_zero.1 k)
 rw [prT_plain,e,scale_plT hz,cntM_scale] at h1
 have h2:=Nat.eq_one_of_mul_eq_one_right h1
 omega
theorem cst_dv {x y:Pn n}(hy:y≠0) (dy:Siz.dg (fun _=>0) y) (h:Dv x y):∃z,x=cstT n z:=by
 have dx:=(Siz.factor _ y x hy dy h).1
 exact cst_of fun i hi=>derT_none hi dx rfl
theorem two_ne:(1+1:Pn n)≠0:=fun e=>by
 have h:∀m:Nat,(1+1:Pn m)≠0:=fun m=>by
  induction m with
  | zero=>exact fun e=>absurd (show (1+1:Int)=0 from e) (by decide)
  | succ m ih=>
    intro e;have h1:=congrArg (fun f:Pn (m+1)=>(kids f).co 0) e;exact ih h1
 exact h n e
theorem der_ndv {p:Pn n} {i:Nat}(hi:i<n) (h:derT n i p≠0):¬Dv p (derT n i p):=fun hd=>by
 have key:∀(k:Nat) (D:Nat→Nat),D i≤k→Siz.dg D p→False:=fun k=>by
  induction k with
  | zero=>exact fun D h1 h2=>h (derT_none hi h2 (by omega))
  | succ k ih=>
    intro D h1 h2;by_cases h0:D i=0
    · exact h (derT_none hi h2 h0)
    · refine ih _ ?_ (Siz.factor _ _ p h (derT_dgS hi h2) hd).1
      show (if i=i then D i - 1 else D i)≤k;rw [if_pos rfl];omega
 obtain ⟨D,hD,_⟩:=dg_any p
 exact key _ D lRr hD
theorem pri_der {p:Pn n}(hp:Pri p) (pm:Pm p):∃i,i<n∧¬Dv p (derT n i p):=by
 refine Classical.byContradiction fun h=> ?_
 have h1:∀i,i<n→derT n i p=0:=fun i hi=>Classical.byContradiction fun k=>h ⟨i,hi,der_ndv hi k⟩
 obtain ⟨z,hz⟩:=cst_of h1
 have h2:=pm.2 z 1 (by rw [CRing.mul_one];exact hz)
 exact hp.nu (by rw [hz];exact cstT_un h2)
theorem pw_der {p:Pn n} {i:Nat}(hi:i<n):∀k,Dv (pw p k) (derT n i (pw p k)*p)
 | 0=>Dv.one _
 | k+1=>by
   show Dv (pw p k*p) (derT n i (pw p k*p)*p);rw [derT_mul hi,CRing.add_mul];refine ((pw_der hi k).mul (Dv.refl p)).add ?_;exact ⟨derT n i p,by ac_rfl⟩
theorem pw_der1 {p u:Pn n} {i:Nat}(hi:i<n) (k:Nat):Dv (pw p k) (derT n i (pw p (k+1)*u)):=by
 have e:pw p (k+1)*u=pw p k*(p*u):=CRing.mul_assoc _ _ _
 rw [e,derT_mul hi]
 refine Dv.add ?_ (Dv.left _ _)
 rw [← CRing.mul_assoc]
 exact (pw_der hi k).mulR u
theorem sqf {q g r:Pn n}(pm:Pm q) (hg:IsK n n q g) (e:q=g*r) {d:Pn n}(h1:Dv d r) (h2:∀i,i<n→Dv d (derT n i r)):Un d:=by
 refine Classical.byContradiction fun nu=> ?_
 have g0:g≠0:=fun k=>pm.1 (by rw [e,k,CRing.zero_mul])
 have r0:r≠0:=fun k=>pm.1 (by rw [e,k,CRing.mul_zero])
 have d0:d≠0:=fun k=>r0 (Dv.of0 (by rw [← k];exact h1))
 obtain ⟨p,hp,p0,hpd⟩:=pri_ex _ d lRr d0 nu
 have hpr:=hpd.trans h1
 have hrq:Dv r q:=⟨g,by rw [e,CRing.mul_comm]⟩
 obtain ⟨i,hi,hnd⟩:=pri_der hp (pm.dv (hpr.trans hrq))
 obtain ⟨t,ht⟩:=hpr
 have h3:=hpd.trans (h2 i hi)
 rw [ht,derT_mul hi] at h3
 have h4:Dv p (derT n i p*t):=by
  have h5:Dv p (p*derT n i t):=Dv.left _ _;rw [CRing.add_comm] at h3;exact h3.ofAdd h5
 obtain ⟨t',ht'⟩:=(hp.pr _ _ h4).resolve_left hnd
 obtain ⟨k,hk,hk1⟩:=pw_max hp.nu g0
 obtain ⟨v,hv⟩:=hk
 have e2:q=pw p (k+1+1)*(v*t'):=by
  show q=pw p k*p*p*(v*t');rw [e,hv,ht,ht'];ac_rfl
 refine hk1 (hg.top _ ?_ fun j hj=> ?_)
 · rw [e2]
   exact ⟨p*(v*t'),by show pw p (k+1)*p*_=_;rw [CRing.mul_assoc]⟩
 · rw [e2]
   exact pw_der1 hj (k+1)
theorem sqf_one {q g r h:Pn n}(pm:Pm q) (hg:IsK n n q g) (e:q=g*r) (hh:IsK n n r h):h=1∨h= -1:=by
 obtain ⟨b,hb⟩:=sqf pm hg e hh.l hh.r
 exact unit_pm hb
theorem derT_sq {q:Pn n} {i:Nat}(hi:i<n):derT n i (q*q)=q*((1+1)*derT n i q):=by
 rw [derT_mul hi,CRing.add_mul,CRing.one_mul,CRing.mul_add,CRing.mul_comm (derT n i q) q]
theorem sq_isK {q g:Pn n} {k:Nat}(hk:k≤n) (pm:Pm q) (hg:IsK n k q g):IsK n k (q*q) (q*g):=by
 have hd:∀i,i<k→derT n i (q*q)=q*((1+1)*derT n i q):=fun i hi=>derT_sq (by omega)
 refine ⟨(Dv.refl q).mul hg.l,fun i hi=>by rw [hd i hi];exact (Dv.refl q).mul ((hg.r i hi).mulL _),fun d h1 h2=> ?_⟩
 obtain ⟨x,hx⟩:=GDom.gcd_ex d q
 obtain ⟨d',hd'⟩:=hx.l
 obtain ⟨q',hq'⟩:=hx.r
 have x0:x≠0:=fun k=>pm.1 (by rw [hq',k,CRing.zero_mul])
 have one:IsG 1 d' q':=⟨Dv.one _,Dv.one _,fun y k l=>by
  have h3:=hx.top (x*y) (by rw [hd'];exact (Dv.refl x).mul k) (by rw [hq'];exact (Dv.refl x).mul l);have h4:Dv (x*y) (x*1):=by rw [CRing.mul_one];exact h3
  exact h4.cancel x0⟩
 have key:∀c,Dv d (q*c)→Dv d' c:=fun c hc=>by
  rw [hd',hq',CRing.mul_assoc] at hc;exact euclid one (hc.cancel x0)
 have k1:=key q h1
 have k2:∀i,i<k→Dv d' (derT n i q):=fun i hi=>by
  have h3:=key _ (by rw [← hd i hi];exact h2 i hi);refine euclid (b:=1+1) ⟨Dv.one _,Dv.one _,fun y k l=> ?_⟩ h3;obtain ⟨z,hz⟩:=cst_dv two_ne (Siz.dg_add _ _ _ (Siz.dg_one _) (Siz.dg_one _)) l;obtain ⟨b,hb⟩:=cstT_un (n:=n) ((pm.dv (k.trans k1)).2 z 1 (by rw [CRing.mul_one];exact hz));exact ⟨b,by rw [hz];exact hb.symm⟩
 have k3:=hg.top d' k1 k2
 have k4:Dv x q:=⟨q',hq'⟩
 rw [hd']
 exact k4.mul k3
theorem IsK.pm {q g h:Pn n} {k:Nat}(hg:IsK n k q g) (hh:IsK n k q h):h=g∨h= -g:=assoc_pm (hh.top g hg.l hg.r) (hg.top h hh.l hh.r)
theorem derT_neg {i:Nat}(hi:i<n) (f:Pn n):derT n i (-f)= -derT n i f:=by
 have h:=derT_mul hi (-1) f
 have h0:derT n i (-1:Pn n)=0:=derT_none hi (D:=fun _=>0) (Siz.dg_neg _ _ (Siz.dg_one _)) rfl
 rwa [h0,CRing.zero_mul,CRing.zero_add,CRing.neg_mul,CRing.one_mul,CRing.neg_mul,CRing.one_mul] at h
theorem IsK.sgn {q f g:Pn n} {k:Nat}(hk:k≤n) (e:f=q∨f= -q) (h:IsK n k f g):IsK n k q g:=by
 rcases e with e | e
 · rw [← e];exact h
 · have ng:∀{d f:Pn n},Dv d (-f)→Dv d f:=fun {d f} h=>by
    have:=h.neg;rwa [CRing.neg_neg] at this
   have dn:∀i,i<k→derT n i f= -derT n i q:=fun i hi=>by rw [e];exact derT_neg (by omega) q
   exact ⟨ng (by rw [← e];exact h.l),fun i hi=>ng (by rw [← dn i hi];exact h.r i hi),fun d h1 h2=>h.top d (by rw [e];exact h1.neg) fun i hi=>by rw [dn i hi];exact (h2 i hi).neg⟩
theorem cst_dg (w:Int):Siz.dg (fun _=>0) (cstT n w):=by
 rw [show cstT n w=toT n [(List.replicate n 0,w)] from (toT_one (t:=(List.replicate n 0,w)) (by simp) (fun x hx=>by rw [List.eq_of_mem_replicate hx];exact Int.le_refl _)).symm]
 refine plant_dg n 0 _ (fun _=>0) fun t ht k=> ?_
 rw [List.mem_singleton.1 ht,Nat.zero_add]
 show (nth (List.replicate n (0:Int)) k).toNat≤0
 by_cases h:k<n
 · rw [nth_lt (by rw [List.length_replicate];exact h),List.getElem_replicate]
   exact lRr
 · rw [nth_ge (by rw [List.length_replicate];omega)]
   exact lRr
theorem pm_sq {q:Pn n}(pm:Pm q):Pm (q*q):=⟨Dom.mul_ne pm.1 pm.1,fun z u e=>by
 by_cases hu:Un (cstT n z)
 · obtain ⟨b,hb⟩:=hu
   exact pm.2 z (b*q) (by rw [← CRing.mul_assoc,hb,CRing.one_mul])
 · have z0:cstT n z≠0:=fun k=>Dom.mul_ne pm.1 pm.1 (by rw [e,k,CRing.zero_mul])
   obtain ⟨p,hp,p0,hd⟩:=pri_ex _ _ lRr z0 hu;have hq:Dv p q:=by
    rcases hp.pr q q (by rw [e];exact hd.mulR u) with h | h<;>exact h
   obtain ⟨y,hy⟩:=cst_dv z0 (cst_dg z) hd;have h2:=(pm.dv hq).2 y 1 (by rw [CRing.mul_one];exact hy);exact absurd (by rw [hy];exact cstT_un h2) hp.nu⟩
theorem pm_cnt {f:Pn n}(h:Pm f):cntM (plT n f)=1:=by
 have h1:=h.2 _ _ (prT_mul n f)
 have h2:=czM_abs (plT n f)
 omega
theorem pm_eq {c d:Int} {f g:Pn n}(hf:Pm f) (hg:Pm g) (hc:c≠0) (hd:d≠0) (e:cstT n c*f=cstT n d*g):f=g∨f= -g:=by
 have h1:=congrArg (fun x=>cntM (plT n x)) e
 simp only [scale_plT hc,scale_plT hd,cntM_scale,pm_cnt hf,pm_cnt hg,Nat.mul_one] at h1
 have c0:cstT n c≠0:=fun k=>hf.1 (plT_zero.1 (by
  have h2:=scale_plT hc f;rw [k,CRing.zero_mul,plT_zero.2 rfl] at h2;exact List.map_eq_nil_iff.1 h2.symm))
 obtain ⟨b,hb,e2⟩:∃b:Int,(b=1∨b= -1)∧d=c*b:=by
  rcases (show d=c∨d= -c by omega) with h | h
  · exact ⟨1,.inl rfl,by omega⟩
  · exact ⟨-1,.inr rfl,by omega⟩
 rw [e2,cstT_mul,CRing.mul_assoc] at e
 have h3:=Dom.cancel c0 e
 obtain ⟨v,hv⟩:=cstT_un (n:=n) hb
 rcases unit_pm hv with h | h<;>rw [h] at h3
 · left;rw [h3,CRing.one_mul]
 · right;rw [h3,CRing.neg_mul,CRing.one_mul]
theorem cz_ne {f:Pn n}(hf:f≠0):czM (plT n f)≠0:=fun k=>by
 have h1:=prT_mul n f
 have h2:=scale_pr (plT n f)
 refine hf (plT_zero.1 ?_)
 cases e:plT n f with
 | nil=>rfl
 | cons t L=>
   have h3:=(plT_plain n f).ne t (by rw [e];exact List.mem_cons_self);have h4:t∈scaleM (czM (plT n f)) (prM (plT n f)):=by rw [h2,e];exact List.mem_cons_self
   obtain ⟨x,_,hx⟩:=List.mem_map.1 h4;rw [k] at hx;exact absurd (by rw [← hx];exact Int.zero_mul _) h3
theorem prT_sq {f:Pn n}(hf:f≠0):prT n (f*f)=prT n f*prT n f∨prT n (f*f)= -(prT n f*prT n f):=by
 have f2:f*f≠0:=Dom.mul_ne hf hf
 refine pm_eq (c:=czM (plT n (f*f))) (d:=czM (plT n f)*czM (plT n f)) (prT_pm f2) (pm_sq (prT_pm hf)) (cz_ne f2) (Int.mul_ne_zero (cz_ne hf) (cz_ne hf)) ?_
 rw [← prT_mul,cstT_mul]
 have h:=prT_mul n f
 refine (congrArg (fun x=>x*x) h).trans ?_
 show _*_*(_*_)=_
 ac_rfl
end
end Cl
