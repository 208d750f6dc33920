/- Contract: Gcd of small polynomials.
   Primitive parts and derivatives of polynomials of the tower; their sizes. No program in sight.
   The document's example of layer 18: x + y, and x y. No program in sight. -/
import Derived.Test.YtehcoffbiplphaaGreatSPlV
import Derived.Test.YtehcoffbiplphaaGreatSComs
set_option linter.unusedVariables false
set_option linter.unusedSimpArgs false
set_option maxHeartbeats 4000000
set_option maxRecDepth 100000
namespace Cl
open CRing
def D3 (x y z:Nat):Nat→Nat:=Poly.consD x (two1 y z)
theorem D3_le {x y z:Nat}(h:(x+1)*(y+1)*(z+1)≤20) (j:Nat):D3 x y z j≤19:=by
 have a2:(x+1)*(y+1)≤20:=Nat.le_trans (Nat.le_mul_of_pos_right _ (by omega)) h
 have a3:x+1≤20:=Nat.le_trans (Nat.le_mul_of_pos_right _ (by omega)) a2
 have a4:y+1≤20:=Nat.le_trans (Nat.le_mul_of_pos_left _ (by omega)) a2
 have a5:z+1≤20:=Nat.le_trans (Nat.le_mul_of_pos_left _ (Nat.mul_pos (by omega) (by omega))) h
 match j with
 | 0=>show x≤19;omega
 | 1=>show y≤19;omega
 | 2=>show z≤19;omega
 | j+3=>exact Nat.zero_le _
theorem phi_ok:shapes (fun x y z=>Nat.ble (phi2 x y) (phi3 x y z) && Nat.ble (phi1 x) (phi3 x y z))=true:=by decide+kernel
theorem phi_small:∀{n x y z:Nat},n≤3→(x+1)*(y+1)*(z+1)≤20→Siz.phi (Pn n) (D3 x y z)≤2^lg (phi3 x y z):=fun {n x y z} hn h=>by
 have h1:=of_shapes phi_ok h
 rw [Bool.and_eq_true,Nat.ble_eq,Nat.ble_eq] at h1
 have h2:=le_pow_lg (phi3 x y z)
 match n,hn with
 | 0,_=>exact Nat.pow_pos (by omega)
 | 1,_=>exact Nat.le_trans h1.2 h2
 | 2,_=>exact Nat.le_trans h1.1 h2
 | 3,_=>exact h2
 | n+4,hn=>omega
theorem vol_small:∀{n x y z:Nat},n≤3→(x+1)*(y+1)*(z+1)≤20→Siz.vol (Pn n) (D3 x y z)≤20:=fun {n x y z} hn h=>by
 have a2:(x+1)*(y+1)≤20:=Nat.le_trans (Nat.le_mul_of_pos_right _ (by omega)) h
 have a3:x+1≤20:=Nat.le_trans (Nat.le_mul_of_pos_right _ (by omega)) a2
 match n,hn with
 | 0,_=>show 1≤20;omega
 | 1,_=>show (x+1)*1≤20;omega
 | 2,_=>show (x+1)*((y+1)*1)≤20;rw [Nat.mul_one];exact a2
 | 3,_=>show (x+1)*((y+1)*((z+1)*1))≤20;rw [Nat.mul_one,← Nat.mul_assoc];exact h
 | n+4,hn=>omega
@[irreducible] def e6:Nat:=600
theorem e6_eq:e6=600:=by
 unfold e6
 rfl
structure Fit (n x y z:Nat) (f:Pn n):Prop where
 dg:Siz.dg (D3 x y z) f
 nm:Siz.nm f≤2^Go.Proofs.YtehcoffbiplphaaGreat.hb x y z
structure Fit0 (n x y z:Nat) (f:Pn n):Prop where
 dg:Siz.dg (D3 x y z) f
 nm:Siz.nm f≤2^68
section
variable {n x y z : Nat} {f g h : Pn n}
theorem Fit0.fit (h:Fit0 n x y z f):Fit n x y z f:=⟨h.dg,Nat.le_trans h.nm (Nat.pow_le_pow_right (by omega) (by unfold Go.Proofs.YtehcoffbiplphaaGreat.hb;omega))⟩
theorem Fit0.dv (h:Fit0 n x y z f) (hn:n≤3) (hs:(x+1)*(y+1)*(z+1)≤20) (hf:f≠0) (hg:Dv g f):Fit n x y z g:=by
 obtain ⟨h1,h2⟩:=Siz.factor _ f g hf h.dg hg
 refine ⟨h1,Nat.le_trans h2 (Nat.le_trans (mul_le_bits (phi_small hn hs) h.nm) (Nat.pow_le_pow_right (by omega) ?_))⟩
 unfold Go.Proofs.YtehcoffbiplphaaGreat.hb
 omega
theorem Fit.less (h:Fit n x y z f) (hn:n≤3) (hs:(x+1)*(y+1)*(z+1)≤20) (hf:f≠0) (hg:Dv g f):Siz.dg (D3 x y z) g∧Siz.nm g≤2^e6:=by
 obtain ⟨h1,h2⟩:=Siz.factor _ f g hf h.dg hg
 have h3:=Go.Proofs.YtehcoffbiplphaaGreat.hb_le hs
 refine ⟨h1,Nat.le_trans h2 (Nat.le_trans (mul_le_bits (phi_small hn hs) h.nm) (Nat.pow_le_pow_right (by omega) ?_))⟩
 have h4:68+lg (phi3 x y z)≤300:=h3
 have h5:=e6_eq
 omega
end
theorem isG_fit {n x y z:Nat} {f g h:Pn n}(hf:Fit n x y z f) (hg:Fit n x y z g) (hn:n≤3) (hs:(x+1)*(y+1)*(z+1)≤20) (hh:IsG h f g):Siz.dg (D3 x y z) h∧Siz.nm h≤2^e6:=by
 by_cases f0:f=0
 · by_cases g0:g=0
   · rw [(isG_zero_iff hh).2 ⟨f0,g0⟩,Siz.nm_zero]
     exact ⟨Siz.dg_zero _,Nat.zero_le _⟩
   · exact hg.less hn hs g0 hh.r
 · exact hf.less hn hs f0 hh.l
end Cl
namespace Go.Proofs.YtehcoffbiplphaaGreat
open Go.RowKit Cl CRing
attribute [local go_sem ↓] Go.wp_at_zero Go.wp_at_succ
def GivesG (w:World) (n:Nat) (a b:Pn n) (e:Ending) (w':World):Prop:=∃g,IsG g a b∧PosP g∧GivesP w n (plT n g) e w'
theorem mgcd_gen (n:Nat) (hn:n≤3) (A B:Option Addr) (ma ca mb cb:Nat) (L1 L2:List TV) (w:World) (hx:Trs w A ma L1) (hy:Trs w B mb L2) (h1:Arg n 1000 L1) (h2:Arg n 1000 L2) (hma:ma≤ca) (hca:ca≤9223372036854775807) (hmb:mb≤cb) (hcb:cb≤9223372036854775807)
 (D:Nat→Nat) (hD:∀j,D j≤1000) (hV:Siz.vol (Pn n) D≤4096) (ok:ComOk n (toT n (mvT L1)) (toT n (mvT L2))) (fit:∀g,IsG g (toT n (mvT L1)) (toT n (mvT L2))→Siz.dg D g∧Siz.nm g≤2^e6):
 Calls Tryz.prog 10 #[.int .i64 (n:Int),.slice A ma ca,.slice B mb cb] w (GivesG w n (toT n (mvT L1)) (toT n (mvT L2))):=by
 have c1:=hiD (fun W (hW:Below w.heap.size w W)=>mcheck_ok (n:Int) A ma ca L1 W (hx.bel hW) (arg_ok h1 (by omega)))
 have c2:=hiD (fun W (hW:Below w.heap.size w W)=>mcheck_ok (n:Int) B mb cb L2 W (hy.bel hW) (arg_ok h2 (by omega)))
 have p1:Hid (∀W,Below w.heap.size w W→Calls Tryz.prog 28 #[.int .i64 (n:Int),.int .i64 0,.slice A ma ca] W (GivesTr (fun _=>False) W n (toT n (mvT L1)))):=fun W hW=>mplanted 1000 (by omega) n n 0 A ma ca L1 W (by omega) (by omega) (hx.bel hW) h1 hma hca
 have p2:Hid (∀W,Below w.heap.size w W→Calls Tryz.prog 28 #[.int .i64 (n:Int),.int .i64 0,.slice B mb cb] W (GivesTr (fun _=>False) W n (toT n (mvT L2)))):=fun W hW=>mplanted 1000 (by omega) n n 0 B mb cb L2 W (by omega) (by omega) (hy.bel hW) h2 hmb hcb
 have hc:=hiD ok
 have hr:Hid (∀(W:World) (u:Value) (g:Pn n),IsG g (toT n (mvT L1)) (toT n (mvT L2))→TreW (fun _=>True) n W u g→Calls Tryz.prog 26 #[.int .i64 (n:Int),u] W (GivesRt W n g)):=fun W u g hg hu=>by
  obtain ⟨d1,d2⟩:=fit g hg;obtain ⟨C,hC⟩:∃C:Nat,10=C:=⟨_,rfl⟩;exact mright n C (by omega) (by omega) W u g D hu (Nat.lt_of_le_of_lt d2 (Nat.pow_lt_pow_right (by decide) (by have:=e6_eq;omega))) d1 hD (by have:=termsP_count (pre:=[]) d1;omega)
 clear hx hy h1 h2 ok fit
 generalize toT n (mvT L1)=a at*
 generalize toT n (mvT L2)=b at*
 go_enter Tryz.func10,Tryz.ntmps10
 go_wp2_with fail
 refine (c1.out w bRr).mono ?_
 rintro e w1 ⟨rfl,hb1⟩
 have Hb1:=hiD hb1
 clear hb1 c1
 go_wp2_with fail
 refine (c2.out w1 Hb1.out).mono ?_
 rintro e w2 ⟨rfl,hb2⟩
 have Hb2:=hiD (Hb1.out.tm hb2)
 clear hb2 c2 Hb1
 go_wp2_with fail
 refine (p1.out w2 Hb2.out).mono ?_
 rintro e w3 ⟨s1,A1,k1,c1,B1,m1,d1,rfl,t1,hb3⟩
 have Hb3:=hiD (Hb2.out.tm hb3)
 have T1:=hiD t1
 clear hb3 t1 p1 Hb2
 unfold treV at T1 ⊢
 go_wp2_with fail
 refine (p2.out w3 Hb3.out).mono ?_
 rintro e w4 ⟨s2,A2,k2,c2,B2,m2,d2,rfl,t2,hb4⟩
 have Hb4:=hiD (Hb3.out.tm hb4)
 have T1':=hiD ((T1.out.bel hb4).mono (T:=fun _=>True) fun _ _=>trivial)
 have T2:=hiD (t2.mono (T:=fun _=>True) fun _ _=>trivial)
 clear hb4 t2 p2 Hb3 T1
 unfold treV at T2 ⊢
 go_wp2_with fail
 refine (hc.out (fun _=>True) w4 _ _ T1'.out T2.out).mono ?_
 rintro e w5 ⟨g,hg,s3,A3,k3,c3,B3,m3,d3,rfl,t3,hb5⟩
 have Hb5:=hiD (Hb4.out.tm hb5)
 have Hr:=hiD (hr.out w5 _ g hg (t3.mono fun _ _=>trivial))
 have Hg:=hiD hg
 clear hb5 t3 hc hr Hb4 T1' T2 hg
 unfold treV at Hr ⊢
 go_wp2_with fail
 refine Hr.out.mono ?_
 rintro e w6 ⟨g',hg',hp,A6,c6,L6,rfl,q1,q2,q3,q4,q5,q6⟩
 have F:Hid (GivesG w n a b (.returned (.tuple #[.slice A6 L6.length c6,.int .i64 0])) w6):=by
  refine ⟨g',?_,hp,A6,c6,L6,rfl,q1,q2,q3,q4,q5,Hb5.out.tm q6⟩;rcases hg' with e | e
  · rw [e];exact Hg.out
  · rw [e];exact Hg.out.neg
 clear Hr q3 q4 q5 q6 hg' hp Hg Hb5
 go_wp2_with fail
 go_ret2
 exact F.out
theorem mgcd_ok (n x y z:Nat) (hn:n≤3) (hs:(x+1)*(y+1)*(z+1)≤20) (hz:n=2→z=0) (A B:Option Addr) (ma ca mb cb:Nat) (L1 L2:List TV) (w:World) (hx:Trs w A ma L1) (hy:Trs w B mb L2) (h1:Arg n 1000 L1) (h2:Arg n 1000 L2) (hma:ma≤ca) (hca:ca≤9223372036854775807) (hmb:mb≤cb) (hcb:cb≤9223372036854775807)
 (f1:Fit n x y z (toT n (mvT L1))) (f2:Fit n x y z (toT n (mvT L2))):
 Calls Tryz.prog 10 #[.int .i64 (n:Int),.slice A ma ca,.slice B mb cb] w (GivesG w n (toT n (mvT L1)) (toT n (mvT L2))):=
 mgcd_gen n hn A B ma ca mb cb L1 L2 w hx hy h1 h2 hma hca hmb hcb (D3 x y z) (fun j=>by have:=D3_le hs j;omega) (by have:=vol_small hn hs;omega) (low_small x y z hn hs hz _ _ f1.dg f2.dg f1.nm f2.nm) fun _ hg=>isG_fit f1 f2 hn hs hg
end Go.Proofs.YtehcoffbiplphaaGreat
namespace Cl
open CRing
theorem absM_flat (F:Nat→Mv):∀l:List Nat,absM (l.flatMap F)=(l.map fun k=>absM (F k)).sum
 | []=>rfl
 | k::l=>by rw [List.flatMap_cons,absM_append,absM_flat F l,List.map_cons,List.sum_cons]
theorem range_sum (f:Nat→Nat):∀n,((List.range n).map f).sum=nS n f
 | 0=>rfl
 | n+1=>by
   rw [List.range_succ,List.map_append,List.sum_append,range_sum f n];show _+(f n+0)=nS n f+f n;omega
theorem absM_terms:∀(n:Nat) (pre:Plc) (f:Pn n),absM (termsP n pre f)=Siz.nm f
 | 0,pre,z=>by
   rw [termsP_zero,nm_toZ];by_cases h:toZ z=0
   · rw [if_pos h,h];rfl
   · rw [if_neg h]
     show (toZ z).natAbs+0=_;omega
 | n+1,pre,f=>by
   rw [termsP_succ,absM_flat,range_sum,nm_kids];unfold Poly.nmP;exact nS_congr fun k _=>absM_terms n _ _
theorem absM_rev (L:Mv):absM L.reverse=absM L:=by
 unfold absM
 rw [List.map_reverse,List.sum_reverse]
theorem absM_plT (n:Nat) (f:Pn n):absM (plT n f)=Siz.nm f:=by
 unfold plT
 rw [absM_rev,absM_terms]
theorem toT_nm {n:Nat}(L:Mv):Siz.nm (toT n L)≤absM L:=plant_nm n 0 L
theorem termsP_dg:∀{n:Nat} {pre:Plc} {f:Pn n} {D:Nat→Nat},Siz.dg D f→∀t∈termsP n pre f,∃e:Plc,t.1=pre++e∧∀k,(nth e k).toNat≤D k
 | 0,pre,z,D,_,t,ht=>by
   rw [termsP_zero] at ht;by_cases h:toZ z=0
   · rw [if_pos h] at ht;cases ht
   · rw [if_neg h] at ht
     rw [List.mem_singleton.1 ht];exact ⟨[],(List.append_nil _).symm,fun k=>by rw [nth_ge (Nat.zero_le _)];exact Nat.zero_le _⟩
 | n+1,pre,f,D,hf,t,ht=>by
   have hf':Poly.dgP D (kids f):=hf;rw [termsP_succ] at ht;obtain ⟨k,hk,ht⟩:=List.mem_flatMap.1 ht;have hk':=List.mem_range.1 hk;obtain ⟨e,h1,h2⟩:=termsP_dg (hf'.2 k) t ht;refine ⟨(k:Int)::e,by rw [h1,List.append_assoc];rfl,fun j=> ?_⟩;cases j with
   | zero=>
     show ((k:Int)).toNat≤D 0;have h5:=Poly.len_le hf'.1;omega
   | succ j=>exact h2 j
theorem plT_dg {n:Nat} {f:Pn n} {D:Nat→Nat}(h:Siz.dg D f) {t:Trm}(ht:t∈plT n f) (k:Nat):(nth t.1 k).toNat≤D k:=by
 obtain ⟨e,h1,h2⟩:=termsP_dg h t (List.mem_reverse.1 ht)
 rw [h1]
 exact h2 k
noncomputable def cstT (n:Nat) (c:Int):Pn n:=tmP n (List.replicate n 0) c
theorem addP_zero:∀{n:Nat} {p:Plc},p.length=n→addP (List.replicate n 0) p=p
 | 0,p,h=>by rw [List.eq_nil_of_length_eq_zero h];rfl
 | n+1,[],h=>by cases h
 | n+1,x::p,h=>by
   show (0+x)::addP (List.replicate n 0) p=_;rw [addP_zero (by simpa using h),Int.zero_add]
theorem toT_scale {n:Nat} {L:Mv}(h:LenM n L) (k:NnM L) (c:Int):toT n (scaleM c L)=cstT n c*toT n L:=by
 have e:scaleM c L=L.map fun b=>(addP (List.replicate n 0) b.1,c*b.2):=List.map_congr_left fun t ht=>by rw [addP_zero (h t ht)]
 rw [e]
 exact toT_tm_mul (t:=(List.replicate n 0,c)) (by simp) (fun x hx=>by rw [List.eq_of_mem_replicate hx];exact Int.le_refl _) h k
noncomputable def prT (n:Nat) (f:Pn n):Pn n:=toT n (prM (plT n f))
theorem pr_nn {L:Mv}(h:NnM L):NnM (prM L):=fun t ht=>by
 obtain ⟨x,hx,rfl⟩:=List.mem_map.1 ht
 exact h x hx
theorem prT_plain (n:Nat) (f:Pn n):prM (plT n f)=plT n (prT n f):=plT_unique (pr_plain (plT_plain n f)) (pr_nn (plT_nn n f)) rfl
theorem prT_mul (n:Nat) (f:Pn n):f=cstT n (czM (plT n f))*prT n f:=by
 have h:=toT_scale (pr_plain (plT_plain n f)).len (pr_nn (plT_nn n f)) (czM (plT n f))
 rw [scale_pr,toT_plT] at h
 exact h
theorem prT_dv (n:Nat) (f:Pn n):Dv (prT n f) f:=⟨cstT n (czM (plT n f)),by rw [CRing.mul_comm];exact prT_mul n f⟩
theorem prM_abs {L:Mv}:absM (prM L)≤absM L:=by
 have key:∀M:Mv,(∀t∈M,t∈L)→absM (M.map fun t=>(t.1,t.2 / czM L))≤absM M:=fun M=>by
  induction M with
  | nil=>intro _;exact lRr
  | cons t M ih=>
    intro h;rw [List.map_cons,absM_consP,absM_consP];refine Nat.add_le_add ?_ (ih fun s hs=>h s (List.mem_cons_of_mem _ hs));have h1:=czM_dvd (h t List.mem_cons_self);show (t.2 / czM L).natAbs≤t.2.natAbs;have h2:=Int.mul_ediv_add_emod t.2 (czM L);rw [h1,Int.add_zero] at h2;(have h3:(czM L).natAbs*(t.2 / czM L).natAbs=t.2.natAbs:=by rw [← Int.natAbs_mul,h2]);by_cases h0:czM L=0
    · rw [h0,Int.ediv_zero];exact Nat.zero_le _
    · rw [← h3]
      exact Nat.le_mul_of_pos_left _ (by omega)
 exact key L fun t ht=>ht
theorem prT_nm (n:Nat) (f:Pn n):Siz.nm (prT n f)≤Siz.nm f:=by
 refine Nat.le_trans (toT_nm _) (Nat.le_trans prM_abs ?_)
 rw [absM_plT]
 exact lRr
theorem prT_zero {n:Nat} {f:Pn n}:prT n f=0↔f=0:=by
 constructor
 · intro h
   have h1:=prT_mul n f;rw [h,CRing.mul_zero] at h1;exact h1
 · intro h
   have h1:=prT_dv n f;rw [h] at h1;unfold prT;rw [h,plT_zero.2 rfl];exact toT_nil n
def derP (i:Nat) (L:Mv):Mv:=mapM (fun p=>p.set i (max (nth p i - 1) 0)) (fun p=>nth p i) L
noncomputable def derT (n i:Nat) (q:Pn n):Pn n:=toT n (derP i (plT n q))
theorem der_mem {i:Nat} {L:Mv} {t:Trm}(ht:t∈derP i L):∃s∈L,t=(s.1.set i (max (nth s.1 i - 1) 0),s.2*nth s.1 i):=by
 obtain ⟨s,hs,e⟩:=List.mem_map.1 ht
 exact ⟨s,hs,e.symm⟩
theorem der_nn {i:Nat} {L:Mv}(h:NnM L):NnM (derP i L):=fun t ht x hx=>by
 obtain ⟨s,hs,rfl⟩:=der_mem ht
 rcases List.mem_or_eq_of_mem_set hx with hx | hx
 · exact h s hs x hx
 · rw [hx];omega
theorem derT_dg {n i:Nat} {q:Pn n} {D:Nat→Nat}(h:Siz.dg D q):Siz.dg D (derT n i q):=by
 refine plant_dg n 0 _ D fun t ht k=> ?_
 rw [Nat.zero_add]
 obtain ⟨s,hs,rfl⟩:=der_mem ht
 have h1:=plT_dg h hs k
 by_cases hi:i<s.1.length
 · show (nth (s.1.set i _) k).toNat≤_
   rw [nth_set hi];split
   · rename_i e
     rw [e] at h1;subst e;omega
   · exact h1
 · show (nth (s.1.set i _) k).toNat≤_
   rw [List.set_eq_of_length_le (by omega)];exact h1
theorem derT_nm {n i:Nat} {q:Pn n} {D:Nat→Nat}(h:Siz.dg D q):Siz.nm (derT n i q)≤D i*Siz.nm q:=by
 refine Nat.le_trans (toT_nm _) ?_
 rw [← absM_plT]
 have key:∀M:Mv,(∀t∈M,t∈plT n q)→absM (derP i M)≤D i*absM M:=fun M=>by
  induction M with
  | nil=>intro _;exact Nat.zero_le _
  | cons t M ih=>
    intro hM;have e:derP i (t::M)=(t.1.set i (max (nth t.1 i - 1) 0),t.2*nth t.1 i)::derP i M:=rfl;rw [e,absM_consP,absM_consP,Nat.mul_add];refine Nat.add_le_add ?_ (ih fun s hs=>hM s (List.mem_cons_of_mem _ hs));show (t.2*nth t.1 i).natAbs≤_;rw [Int.natAbs_mul,Nat.mul_comm];refine Nat.mul_le_mul_right _ ?_;have h1:=plT_dg h (hM t List.mem_cons_self) i;by_cases hi:i<t.1.length
    · have h2:=plT_nn n q t (hM t List.mem_cons_self) _ (nth_mem hi)
      omega
    · rw [nth_ge (by omega)]
      exact Nat.zero_le _
 exact key _ fun t ht=>ht
structure IsK (n k:Nat) (q g:Pn n):Prop where
 l:Dv g q
 r:∀i,i<k→Dv g (derT n i q)
 top:∀d,Dv d q→(∀i,i<k→Dv d (derT n i q))→Dv d g
theorem IsK.start (n:Nat) (q:Pn n):IsK n 0 q q:=⟨Dv.refl q,fun i hi=>absurd hi (Nat.not_lt_zero i),fun d h _=>h⟩
theorem IsK.next {n k:Nat} {q g h:Pn n}(hg:IsK n k q g) (hh:IsG h g (derT n k q)):IsK n (k+1) q h:=
 ⟨hh.l.trans hg.l,fun i hi=>by
   by_cases e:i=k
   · rw [e];exact hh.r
   · exact hh.l.trans (hg.r i (by omega)),fun d h1 h2=>hh.top d (hg.top d h1 fun i hi=>h2 i (by omega)) (h2 k (by omega))⟩
end Cl
namespace Cl
open CRing Poly
theorem unit_of {R:Type} [GDom R] {d f:Poly R} {c:R}(hf:f≠0) (h1:f.lc=1) (hd:Dv d f) (hc:c≠0) (hk:Dv d (Poly.C c)):Dv d 1:=by
 obtain ⟨e,he⟩:=hd
 have d0:d≠0:=fun h=>hf (by rw [he,h,CRing.zero_mul])
 have e0:e≠0:=fun h=>hf (by rw [he,h,CRing.mul_zero])
 have hl:=(len_mulD d0 e0).2
 rw [← he,h1] at hl
 have c0:Poly.C c≠0:=fun h=>hc (by
  have h2:(Poly.C c).co 0=(0:Poly R).co 0:=by rw [h]
  rw [co_C,if_pos rfl,co_zero] at h2;exact h2)
 have hlen:d.len≤1:=Nat.le_trans (Dv.len_le hk c0) (len_le (sh_C c))
 have hp:=len_pos d0
 have hd1:d.len=1:=by omega
 have hdc:d=Poly.C d.lc:=Poly.ext fun i=>by
  rw [co_C];by_cases hi:i=0
  · rw [hi,if_pos rfl]
    show d.co 0=d.co (d.len - 1);rw [hd1]
  · rw [if_neg hi]
    exact len_sh d i (by omega)
 refine ⟨Poly.C e.lc,?_⟩
 rw [hdc]
 refine Poly.ext fun i=> ?_
 rw [co_C_mul,co_C,co_one]
 by_cases hi:i=0
 · rw [if_pos hi,if_pos hi];exact hl
 · rw [if_neg hi,if_neg hi,CRing.mul_zero]
noncomputable def V (i j:Nat) (c:Int):Pn 2:=tmP 2 [(i:Int),(j:Int)] c
theorem kids_V (i j:Nat) (c:Int):kids (V i j c)=Poly.mono i (tmP 1 [(j:Int)] c):=rfl
theorem V_mul (i j k l:Nat) (c d:Int):V i j c*V k l d=V (i+k) (j+l) (c*d):=by
 have h:=tmP_mul 2 [(i:Int),(j:Int)] [(k:Int),(l:Int)] c d rfl rfl (fun x hx=>by
  rcases List.mem_cons.1 hx with e | hx
  · omega
  · rw [List.mem_singleton.1 hx];omega) (fun x hx=>by
  rcases List.mem_cons.1 hx with e | hx
  · omega
  · rw [List.mem_singleton.1 hx];omega)
 unfold V
 rw [← h]
 rfl
theorem toT_V (i j:Nat) (c:Int):toT 2 [([(i:Int),(j:Int)],c)]=V i j c:=toT_one (n:=2) (t:=([(i:Int),(j:Int)],c)) rfl (fun x hx=>by
 rcases List.mem_cons.1 hx with e | hx
 · omega
 · rw [List.mem_singleton.1 hx];omega)
theorem V_plain {i j:Nat} {c:Int}(hc:c≠0):plT 2 (V i j c)=[([(i:Int),(j:Int)],c)]:=by
 have hp:PlainM 2 [([(i:Int),(j:Int)],c)]:=⟨fun t ht=>by rw [List.mem_singleton.1 ht];rfl,List.pairwise_singleton _ _,fun t ht=>by rw [List.mem_singleton.1 ht];exact hc⟩
 have hn:NnM [([(i:Int),(j:Int)],c)]:=fun t ht x hx=>by
  rw [List.mem_singleton.1 ht] at hx;rcases List.mem_cons.1 hx with e | hx
  · omega
  · rw [List.mem_singleton.1 hx];omega
 exact (plT_unique hp hn (toT_V i j c)).symm
theorem V_ne {i j:Nat} {c:Int}(hc:c≠0):V i j c≠0:=fun e=>by
 have h:=V_plain (i:=i) (j:=j) hc
 rw [plT_zero.2 e] at h
 cases h
theorem tm1_ne {j:Nat} {c:Int}(hc:c≠0):tmP 1 [(j:Int)] c≠0:=fun e=>by
 have h:=tmP_co 1 [(j:Int)] c [(j:Int)] rfl rfl (fun x hx=>by rw [List.mem_singleton.1 hx];omega)
 rw [e,cf_zero,if_pos rfl] at h
 exact hc h.symm
theorem tm1_one:tmP 1 [((0:Nat):Int)] 1=(1:Pn 1):=rfl
theorem lead_x (c:Int):kids (V 1 0 1+V 0 1 c)≠0∧(kids (V 1 0 1+V 0 1 c)).lc=1:=by
 have h1:(kids (V 1 0 1+V 0 1 c)).co 1=1:=by
  rw [kids_add,co_add,kids_V,kids_V,co_mono,co_mono,if_pos rfl,if_neg (by omega),CRing.add_zero];exact tm1_one
 have hs:(kids (V 1 0 1+V 0 1 c)).Sh 2:=fun i hi=>by
  rw [kids_add,co_add,kids_V,kids_V,co_mono,co_mono,if_neg (by omega),if_neg (by omega),CRing.add_zero]
 have hne:(kids (V 1 0 1+V 0 1 c)).co 1≠0:=by rw [h1];exact Dom.one_ne
 have hl:(kids (V 1 0 1+V 0 1 c)).len=2:=len_eq hs hne
 refine ⟨fun e=>hne (by rw [e,co_zero]),?_⟩
 show (kids (V 1 0 1+V 0 1 c)).co ((kids (V 1 0 1+V 0 1 c)).len - 1)=1
 rw [hl]
 exact h1
theorem lead_x0:kids (V 1 0 1)≠0∧(kids (V 1 0 1)).lc=1:=by
 have h1:(kids (V 1 0 1)).co 1=1:=by
  rw [kids_V,co_mono,if_pos rfl];exact tm1_one
 have hs:(kids (V 1 0 1)).Sh 2:=fun i hi=>by rw [kids_V,co_mono,if_neg (by omega)]
 have hne:(kids (V 1 0 1)).co 1≠0:=by rw [h1];exact Dom.one_ne
 have hl:(kids (V 1 0 1)).len=2:=len_eq hs hne
 refine ⟨fun e=>hne (by rw [e,co_zero]),?_⟩
 show (kids (V 1 0 1)).co ((kids (V 1 0 1)).len - 1)=1
 rw [hl]
 exact h1
theorem unit_two {d f:Pn 2} {c:Int}(hf:kids f≠0∧(kids f).lc=1) (hd:Dv d f) (hc:c≠0) (hk:Dv d (V 0 1 c)):Dv d 1:=
 unit_of (d:=kids d) (f:=kids f) (c:=tmP 1 [((1:Nat):Int)] c) hf.1 hf.2 hd (tm1_ne hc) hk
def aw1:Mv:=[([2,0],1),([0,2], -1)]
def aw2:Mv:=[([2,0],1),([1,1],2),([0,2],1)]
def awS:Mv:=[([1,0],1),([0,1],1)]
def awD:Mv:=[([1,0],1),([0,1], -1)]
theorem aw_len {L:Mv}(h:∀t∈L,t.1.length=2∧∀x∈t.1,0≤x):LenM 2 L∧NnM L:=⟨fun t ht=>(h t ht).1,fun t ht=>(h t ht).2⟩
theorem aw1_ok:LenM 2 aw1∧NnM aw1:=aw_len (by decide)
theorem aw2_ok:LenM 2 aw2∧NnM aw2:=aw_len (by decide)
theorem awS_ok:LenM 2 awS∧NnM awS:=aw_len (by decide)
theorem awD_ok:LenM 2 awD∧NnM awD:=aw_len (by decide)
theorem aw1_eq:toT 2 aw1=toT 2 awS*toT 2 awD:=by
 rw [← toT_mul awS_ok.1 awS_ok.2 awD_ok.1 awD_ok.2]
 refine toT_eq aw1_ok.1 aw1_ok.2 (awS_ok.1.mul awD_ok.1) (awS_ok.2.mul awD_ok.2) fun p _=> ?_
 have e:mulM awS awD=[([2,0],1),([1,1], -1),([1,1],1),([0,2], -1)]:=rfl
 rw [e]
 unfold aw1
 simp only [coM_cons,coM_nil]
 by_cases h:[1,1]=p
 · rw [if_pos h,if_pos h];omega
 · rw [if_neg h,if_neg h];omega
theorem aw2_eq:toT 2 aw2=toT 2 awS*toT 2 awS:=by
 rw [← toT_mul awS_ok.1 awS_ok.2 awS_ok.1 awS_ok.2]
 refine toT_eq aw2_ok.1 aw2_ok.2 (awS_ok.1.mul awS_ok.1) (awS_ok.2.mul awS_ok.2) fun p _=> ?_
 have e:mulM awS awS=[([2,0],1),([1,1],1),([1,1],1),([0,2],1)]:=rfl
 rw [e]
 unfold aw2
 simp only [coM_cons,coM_nil]
 by_cases h:[1,1]=p
 · rw [if_pos h,if_pos h];omega
 · rw [if_neg h,if_neg h];omega
theorem awS_V:toT 2 awS=V 1 0 1+V 0 1 1:=by
 unfold awS
 rw [toT_cons awS_ok.1 awS_ok.2]
 exact congrArg (fun u=>V 1 0 1+u) (toT_V 0 1 1)
theorem awD_V:toT 2 awD=V 1 0 1+V 0 1 (-1):=by
 unfold awD
 rw [toT_cons awD_ok.1 awD_ok.2]
 exact congrArg (fun u=>V 1 0 1+u) (toT_V 0 1 (-1))
theorem V_add (i j:Nat) (c d:Int):V i j c+V i j d=V i j (c+d):=cf_ext fun p hp=>by
 unfold V
 have hn:∀x∈ [(i:Int),(j:Int)],0≤x:=fun x hx=>by
  rcases List.mem_cons.1 hx with e | hx
  · omega
  · rw [List.mem_singleton.1 hx];omega
 rw [cf_add,tmP_co 2 _ _ p rfl hp hn,tmP_co 2 _ _ p rfl hp hn,tmP_co 2 _ _ p rfl hp hn]
 split<;>omega
theorem aw_gcd:IsG (toT 2 awS) (toT 2 aw1) (toT 2 aw2):=by
 have h1:IsG (1:Pn 2) (toT 2 awD) (toT 2 awS):=by
  refine ⟨Dv.one _,Dv.one _,fun d h k=> ?_⟩;have h2:Dv d (V 0 1 2):=by
   have e:V 0 1 2=toT 2 awS - toT 2 awD:=by
    rw [awS_V,awD_V];(have e1:V 0 1 1=V 0 1 2+V 0 1 (-1):=by rw [V_add];rfl);rw [e1,CRing.sub_def,← CRing.add_assoc,CRing.add_comm (V 1 0 1) (V 0 1 2),CRing.add_assoc (V 0 1 2),CRing.add_assoc (V 0 1 2),CRing.add_neg,CRing.add_zero]
   rw [e];exact k.sub h
  rw [awS_V] at k;exact unit_two (lead_x 1) k (by omega) h2
 have h3:=IsG.mul (c:=toT 2 awS) (fun e=>by
  rw [awS_V] at e;exact (lead_x 1).1 e) h1
 rw [CRing.mul_one,← aw1_eq,← aw2_eq] at h3
 exact h3
theorem awS_plain:plT 2 (toT 2 awS)=awS:=(plT_unique ⟨awS_ok.1,by unfold awS;decide,by unfold awS;decide⟩ awS_ok.2 rfl).symm
theorem awS_pos:PosP (toT 2 awS):=fun t L e=>by
 rw [awS_plain] at e
 injection e with e1 _
 rw [← e1]
 decide
theorem aw_rad {g r r':Pn 2}(hq:prT 2 (V 2 1 4)=r*g) (hK:IsK 2 2 (prT 2 (V 2 1 4)) g) (hr:r'=r∨r'= -r) (hp:PosP r'):r'=V 1 1 1:=by
 have e0:prT 2 (V 2 1 4)=V 2 1 1:=by
  unfold prT;rw [V_plain (by omega)];exact toT_V 2 1 1
 rw [e0] at hq hK
 have ex:derT 2 0 (V 2 1 1)=V 1 1 2:=by
  unfold derT;rw [V_plain (by omega)];exact toT_V 1 1 2
 have ey:derT 2 1 (V 2 1 1)=V 2 0 1:=by
  unfold derT;rw [V_plain (by omega)];exact toT_V 2 0 1
 have m1:V 2 1 1=V 1 0 1*V 1 1 1:=by rw [V_mul];rfl
 have m2:V 1 1 2=V 1 0 1*V 0 1 2:=by rw [V_mul];rfl
 have m3:V 2 0 1=V 1 0 1*V 1 0 1:=by rw [V_mul];rfl
 have hx:Dv (V 1 0 1) g:=hK.top _ ⟨_,m1⟩ fun i hi=>by
  match i,hi with
  | 0,_=>rw [ex];exact ⟨_,m2⟩
  | 1,_=>rw [ey];exact ⟨_,m3⟩
  | i+2,hi=>omega
 obtain ⟨h,hh⟩:=hx
 have x0:V 1 0 1≠0:=V_ne (by omega)
 have g1:=hK.r 0 (by omega)
 have g2:=hK.r 1 (by omega)
 rw [ex,m2,hh] at g1
 rw [ey,m3,hh] at g2
 have hu:Dv h 1:=unit_two lead_x0 (Dv.cancel x0 g2) (by omega) (Dv.cancel x0 g1)
 obtain ⟨v,hv⟩:=hu
 have hpos:PosP (V 1 1 1):=fun t L e=>by
  rw [V_plain (by omega)] at e;injection e with e1 _
  rw [← e1];show (0:Int)<1;omega
 have key:r=V 1 1 1∨r= -V 1 1 1:=by
  have e3:V 1 0 1*V 1 1 1=V 1 0 1*(r*h):=by
   rw [← m1,hq,hh,← CRing.mul_assoc,← CRing.mul_assoc,CRing.mul_comm r]
  have e4:=Dom.cancel x0 e3;rcases unit_pm hv.symm with e5 | e5
  · left;rw [e4,e5,CRing.mul_one]
  · right;rw [e4,e5,CRing.mul_neg,CRing.mul_one,CRing.neg_neg]
 refine hpos.eq hp ?_
 rcases hr with e | e<;>rcases key with k | k
 · left;rw [e,k]
 · right;rw [e,k]
 · right;rw [e,k]
 · left;rw [e,k,CRing.neg_neg]
end Cl
