/- The terms of a polynomial of the tower, in the order in which the program tells them. No program in sight.
   Lists of terms and polynomials of the tower: sums, products. No program in sight.
   Units of the tower are 1 and -1; what is greatest common divisor is so but for its sign. No program in sight. -/
import Derived.Test.YtehcoffbiplphaaGreatSPls
set_option linter.unusedVariables false
set_option linter.unusedSimpArgs false
namespace Cl
open CRing
noncomputable def termsP:(n:Nat)→Plc→Pn n→Mv
 | 0,pre,z=>if toZ z=0 then [] else [(pre,toZ z)]
 | n+1,pre,f=>(List.range (kids f).len).flatMap fun k:Nat=>termsP n (pre++[(k:Int)]) ((kids f).co k)
theorem termsP_zero (pre:Plc) (z:Pn 0):termsP 0 pre z=if toZ z=0 then [] else [(pre,toZ z)]:=rfl
theorem termsP_succ (n:Nat) (pre:Plc) (f:Pn (n+1)):termsP (n+1) pre f=(List.range (kids f).len).flatMap fun k:Nat=>termsP n (pre++[(k:Int)]) ((kids f).co k):=rfl
theorem termsP_bd:∀{n:Nat} {pre:Plc} {f:Pn n} {D:Nat→Nat} {d:Nat},Siz.dg D f→(∀j,D j≤d)→∀t∈termsP n pre f,∃e:Plc,t.1=pre++e∧e.length=n∧(∀x∈e,0≤x∧x≤(d:Int))∧t.2≠0
 | 0,pre,z,D,d,_,_,t,ht=>by
   rw [termsP_zero] at ht;by_cases h:toZ z=0
   · rw [if_pos h] at ht;cases ht
   · rw [if_neg h] at ht
     rw [List.mem_singleton.1 ht];exact ⟨[],(List.append_nil _).symm,rfl,fun x hx=>absurd hx (List.not_mem_nil),h⟩
 | n+1,pre,f,D,d,hf,hD,t,ht=>by
   have hf':Poly.dgP D (kids f):=hf;rw [termsP_succ] at ht;obtain ⟨k,hk,ht⟩:=List.mem_flatMap.1 ht;have hk':=List.mem_range.1 hk;obtain ⟨e,h1,h2,h3,h4⟩:=termsP_bd (hf'.2 k) (fun j=>hD (j+1)) t ht;refine ⟨(k:Int)::e,by rw [h1,List.append_assoc];rfl,by rw [List.length_cons,h2],fun x hx=> ?_,h4⟩;rcases List.mem_cons.1 hx with rfl | hx
   · have h5:=Poly.len_le hf'.1
     have h6:=hD 0;constructor<;>omega
   · exact h3 x hx
theorem dg_any:∀{n:Nat}(f:Pn n),∃D,Siz.dg D f∧∃d,∀j,D j≤d
 | 0,_=>⟨fun _=>0,trivial,0,fun _=>lRr⟩
 | n+1,f=>by
   have key:∀m,∃D d,(∀i,i<m→Siz.dg D ((kids f).co i))∧∀j,D j≤d:=fun m=>by
    induction m with
    | zero=>exact ⟨fun _=>0,0,fun i hi=>absurd hi (Nat.not_lt_zero i),fun _=>lRr⟩
    | succ m ih=>
      obtain ⟨D,d,h1,h2⟩:=ih;obtain ⟨E,h3,e,h4⟩:=dg_any ((kids f).co m);refine ⟨fun j=>max (D j) (E j),max d e,fun i hi=> ?_,fun j=>by have:=h2 j;have:=h4 j;show max _ _≤_;omega⟩;by_cases hm:i=m
      · rw [hm];exact Siz.dg_mono _ _ _ (fun j=>Nat.le_max_right _ _) h3
      · exact Siz.dg_mono _ _ _ (fun j=>Nat.le_max_left _ _) (h1 i (by omega))
   obtain ⟨D,d,h1,h2⟩:=key (kids f).len;refine ⟨Poly.consD (kids f).len D,(show Poly.dgP _ (kids f) from ⟨(Poly.len_sh _).mono (Nat.le_succ _),fun i=> ?_⟩),max (kids f).len d,fun j=> ?_⟩
   · by_cases hi:i<(kids f).len
     · exact h1 i hi
     · rw [Poly.len_sh _ i (by omega)];exact Siz.dg_zero _
   · cases j with
     | zero=>exact Nat.le_max_left _ _
     | succ j=>exact Nat.le_trans (h2 j) (Nat.le_max_right _ _)
theorem termsP_at {n:Nat} {pre:Plc} {f:Pn n} {t:Trm}(ht:t∈termsP n pre f):∃e:Plc,t.1=pre++e∧e.length=n∧(∀x∈e,0≤x)∧t.2≠0:=by
 obtain ⟨D,h1,d,h2⟩:=dg_any f
 obtain ⟨e,g1,g2,g3,g4⟩:=termsP_bd h1 h2 t ht
 exact ⟨e,g1,g2,fun x hx=>(g3 x hx).1,g4⟩
theorem sumL_range_one {m k:Nat} {g:Nat→Int}(hk:k<m) (h:∀j,j<m→j≠k→g j=0):sumL g (List.range m)=g k:=by
 refine sumL_only (List.pairwise_lt_range.imp fun h=>Nat.ne_of_lt h) (List.mem_range.2 hk) fun j hj hne=>h j (List.mem_range.1 hj) hne
theorem termsP_co:∀(n:Nat) (pre:Plc) (f:Pn n) (p:Plc),p.length=n→coM (termsP n pre f) (pre++p)=cf n f p
 | 0,pre,z,p,hp=>by
   rw [List.eq_nil_of_length_eq_zero hp,List.append_nil,termsP_zero];by_cases h:toZ z=0
   · rw [if_pos h];exact h.symm
   · rw [if_neg h,coM_cons,if_pos rfl,coM_nil]
     exact Int.add_zero _
 | n+1,pre,f,[],hp=>by cases hp
 | n+1,pre,f,e::p,hp=>by
   have hp':p.length=n:=by simpa using hp
   rw [cf_cons,termsP_succ];unfold coM;rw [sumL_flat];have hz:∀k:Nat,(k:Int)≠e→sumL (fun t:Trm=>if t.1=pre++e::p then t.2 else 0) (termsP n (pre++[(k:Int)]) ((kids f).co k))=0:=fun k hk=>sumL_eq_zero fun t ht=>if_neg fun h=>by
    obtain ⟨e',h1,_⟩:=termsP_at ht;rw [h1,List.append_assoc] at h;exact hk (List.cons.inj (List.append_cancel_left h)).1
   by_cases he:0≤e
   · rw [if_pos he]
     (have hke:((e.toNat:Nat):Int)=e:=by omega);by_cases hl:e.toNat<(kids f).len
     · rw [sumL_range_one hl fun j _ hne=>hz j (by omega)]
       have ih:=termsP_co n (pre++[((e.toNat:Nat):Int)]) ((kids f).co e.toNat) p hp';rw [← ih,List.append_assoc,hke];rfl
     · rw [Poly.len_sh _ _ (by omega),cf_zero]
       exact sumL_eq_zero fun k hk=>hz k (by have:=List.mem_range.1 hk;omega)
   · rw [if_neg he]
     exact sumL_eq_zero fun k _=>hz k (by omega)
theorem ltP_pre:∀(pre:Plc) {a b:Plc},ltP a b→ltP (pre++a) (pre++b)
 | [],_,_,h=>h
 | _::pre,_,_,h=> .inr ⟨rfl,ltP_pre pre h⟩
theorem termsP_up:∀(n:Nat) (pre:Plc) (f:Pn n),(termsP n pre f).Pairwise fun s t=>ltP s.1 t.1
 | 0,pre,z=>by
   rw [termsP_zero];split
   · exact List.Pairwise.nil
   · exact List.pairwise_singleton _ _
 | n+1,pre,f=>by
   rw [termsP_succ];have key:∀l:List Nat,l.Pairwise (· < ·)→(l.flatMap fun k:Nat=>termsP n (pre++[(k:Int)]) ((kids f).co k)).Pairwise fun s t=>ltP s.1 t.1:=fun l=>by
    induction l with
    | nil=>intro _;exact List.Pairwise.nil
    | cons k l ih=>
      intro h;obtain ⟨h1,h2⟩:=List.pairwise_cons.1 h;rw [List.flatMap_cons];refine List.pairwise_append.2 ⟨termsP_up n _ _,ih h2,fun s hs t ht=> ?_⟩;obtain ⟨k',hk',ht⟩:=List.mem_flatMap.1 ht;obtain ⟨e1,g1,_⟩:=termsP_at hs;obtain ⟨e2,g2,_⟩:=termsP_at ht;rw [g1,g2,List.append_assoc,List.append_assoc];have:=h1 k' hk';exact ltP_pre pre (.inl (show (k:Int)<(k':Int) by omega))
   exact key _ List.pairwise_lt_range
theorem termsP_plain (n:Nat) (f:Pn n):PlainM n (termsP n [] f).reverse:=
 ⟨fun t ht=>by
   obtain ⟨e,h1,h2,_⟩:=termsP_at (List.mem_reverse.1 ht);rw [h1];exact h2,by
   rw [List.pairwise_reverse];exact termsP_up n [] f,fun t ht=>by
   obtain ⟨e,_,_,_,h4⟩:=termsP_at (List.mem_reverse.1 ht);exact h4⟩
theorem termsP_eq (n:Nat) (f:Pn n) (p:Plc) (hp:p.length=n):coM (termsP n [] f).reverse p=cf n f p:=by
 rw [coM_perm (List.reverse_perm _)]
 exact termsP_co n [] f p hp
theorem flat_count {α:Type} {F:Nat→List α} {B:Nat}:∀l:List Nat,(∀k∈l,(F k).length≤B)→(l.flatMap F).length≤l.length*B
 | [],_=>Nat.zero_le _
 | k::l,h=>by
   rw [List.flatMap_cons,List.length_append,List.length_cons,Nat.add_mul,Nat.one_mul];have h1:=h k List.mem_cons_self;have h2:=flat_count l fun j hj=>h j (List.mem_cons_of_mem _ hj);omega
theorem termsP_count:∀{n:Nat} {pre:Plc} {f:Pn n} {D:Nat→Nat},Siz.dg D f→(termsP n pre f).length≤Siz.vol (Pn n) D
 | 0,pre,z,D,_=>by
   rw [termsP_zero];split
   · exact Nat.zero_le _
   · exact lRr
 | n+1,pre,f,D,h=>by
   have h':Poly.dgP D (kids f):=h;rw [termsP_succ];refine Nat.le_trans (flat_count (B:=Siz.vol (Pn n) (fun j=>D (j+1))) _ fun k _=>termsP_count (h'.2 k)) ?_;rw [List.length_range];show _≤(D 0+1)*Siz.vol (Pn n) (fun j=>D (j+1));exact Nat.mul_le_mul_right _ (Poly.len_le h'.1)
theorem termsP_neg:∀(n:Nat) (pre:Plc) (f:Pn n),termsP n pre (-f)=(termsP n pre f).map fun t=>(t.1, -t.2)
 | 0,pre,z=>by
   rw [termsP_zero,termsP_zero];by_cases h:toZ z=0
   · rw [if_pos h,if_pos (by rw [toZ_neg,h];rfl)];rfl
   · rw [if_neg h,if_neg (fun e=>h (by rw [toZ_neg] at e;omega))];rfl
 | n+1,pre,f=>by
   have hl:(kids (-f)).len=(kids f).len:=Nat.le_antisymm (Poly.len_le fun i hi=>by rw [kids_neg,Poly.co_neg,Poly.len_sh _ i hi,CRing.neg_zero]) (Poly.len_le fun i hi=>by
    have h1:=Poly.len_sh (kids (-f)) i hi;rw [kids_neg,Poly.co_neg] at h1;rw [← CRing.neg_neg ((kids f).co i),h1,CRing.neg_zero])
   rw [termsP_succ,termsP_succ,hl,List.map_flatMap];refine flat_congr fun k _=> ?_;rw [kids_neg,Poly.co_neg];exact termsP_neg n _ _
end Cl
namespace Cl
open CRing
def NnM (L:Mv):Prop:=∀t∈L,∀x∈t.1,0≤x
theorem NnM.append {L M:Mv}(h:NnM L) (k:NnM M):NnM (L++M):=fun t ht=>(List.mem_append.1 ht).elim (h t) (k t)
theorem NnM.tail {t:Trm} {L:Mv}(h:NnM (t::L)):NnM L:=fun s hs=>h s (List.mem_cons_of_mem _ hs)
theorem addP_nn:∀{a b:Plc},(∀x∈a,0≤x)→(∀x∈b,0≤x)→∀x∈addP a b,0≤x
 | [],b,_,_,x,hx=>by cases b<;>exact absurd hx List.not_mem_nil
 | _::_,[],_,_,x,hx=>absurd hx List.not_mem_nil
 | u::a,v::b,h,k,x,hx=>by
   rcases List.mem_cons.1 (show x∈(u+v)::addP a b from hx) with rfl | hx
   · have h1:=h u List.mem_cons_self
     have h2:=k v List.mem_cons_self;omega
   · exact addP_nn (fun y hy=>h y (List.mem_cons_of_mem _ hy)) (fun y hy=>k y (List.mem_cons_of_mem _ hy)) x hx
theorem NnM.mul {L M:Mv}(h:NnM L) (k:NnM M):NnM (mulM L M):=fun t ht=>by
 obtain ⟨a,ha,ht⟩:=List.mem_flatMap.1 ht
 obtain ⟨b,hb,rfl⟩:=List.mem_map.1 ht
 exact addP_nn (h a ha) (k b hb)
theorem NnM.scale {L:Mv}(h:NnM L) (c:Int):NnM (scaleM c L):=fun t ht=>by
 obtain ⟨x,hx,rfl⟩:=List.mem_map.1 ht
 exact h x hx
noncomputable def toT (n:Nat) (L:Mv):Pn n:=plantP n 0 L
section
variable {n : Nat} {L M : Mv}
theorem toT_co (h:LenM n L) (k:NnM L) {p:Plc}(hp:p.length=n):cf n (toT n L) p=coM L p:=by
 unfold toT
 rw [cf_plant n 0 L p (fun t ht=>by rw [h t ht];omega) k hp]
 rfl
theorem toT_eq (hL:LenM n L) (kL:NnM L) (hM:LenM n M) (kM:NnM M) (e:EqM n L M):toT n L=toT n M:=cf_ext fun p hp=>by rw [toT_co hL kL hp,toT_co hM kM hp,e p hp]
theorem toT_inj (hL:LenM n L) (kL:NnM L) (hM:LenM n M) (kM:NnM M) (e:toT n L=toT n M):EqM n L M:=fun p hp=>by rw [← toT_co hL kL hp,← toT_co hM kM hp,e]
theorem toT_add (hL:LenM n L) (kL:NnM L) (hM:LenM n M) (kM:NnM M):toT n (L++M)=toT n L+toT n M:=cf_ext fun p hp=>by
 rw [cf_add,toT_co (hL.append hM) (kL.append kM) hp,toT_co hL kL hp,toT_co hM kM hp,coM_append]
theorem toT_nil (n:Nat):toT n []=0:=cf_ext fun p hp=>by
 rw [toT_co (fun t ht=>absurd ht List.not_mem_nil) (fun t ht=>absurd ht List.not_mem_nil) hp,cf_zero]
 rfl
end
noncomputable def tmP:(n:Nat)→Plc→Int→Pn n
 | 0,_,c=>ofZ c
 | n+1,e::p,c=>mkK (Poly.mono e.toNat (tmP n p c))
 | _+1,[],_=>0
theorem tmP_co:∀(n:Nat) (p:Plc) (c:Int) (q:Plc),p.length=n→q.length=n→(∀x∈p,0≤x)→cf n (tmP n p c) q=if p=q then c else 0
 | 0,p,c,q,hp,hq,_=>by
   rw [List.eq_nil_of_length_eq_zero hp,List.eq_nil_of_length_eq_zero hq,if_pos rfl];rfl
 | n+1,[],_,_,hp,_,_=>by cases hp
 | n+1,_::_,_,[],_,hq,_=>by cases hq
 | n+1,e::p,c,x::q,hp,hq,h=>by
   have ih:=tmP_co n p c q (by simpa using hp) (by simpa using hq) fun y hy=>h y (List.mem_cons_of_mem _ hy);have he:=h e List.mem_cons_self;have e1:kids (tmP (n+1) (e::p) c)=Poly.mono e.toNat (tmP n p c):=rfl;rw [cf_cons,e1,Poly.co_mono];by_cases hx:0≤x
   · rw [if_pos hx]
     by_cases hxe:x=e
     · subst hxe
       rw [if_pos rfl,ih];by_cases hpq:p=q
       · rw [if_pos hpq,if_pos (by rw [hpq])]
       · rw [if_neg hpq,if_neg (fun h3=>hpq (List.cons.inj h3).2)]
     · rw [if_neg (by omega),cf_zero,if_neg (fun h3=>hxe (List.cons.inj h3).1.symm)]
   · rw [if_neg hx,if_neg (fun h3=>hx (by rw [←(List.cons.inj h3).1];exact he))]
theorem tmP_mul:∀(n:Nat) (p q:Plc) (c d:Int),p.length=n→q.length=n→(∀x∈p,0≤x)→(∀x∈q,0≤x)→tmP n (addP p q) (c*d)=tmP n p c*tmP n q d
 | 0,_,_,_,_,_,_,_,_=>rfl
 | n+1,[],_,_,_,hp,_,_,_=>by cases hp
 | n+1,_::_,[],_,_,_,hq,_,_=>by cases hq
 | n+1,e::p,x::q,c,d,hp,hq,h,k=>by
   have ih:=tmP_mul n p q c d (by simpa using hp) (by simpa using hq) (fun y hy=>h y (List.mem_cons_of_mem _ hy)) fun y hy=>k y (List.mem_cons_of_mem _ hy);have he:=h e List.mem_cons_self;have hx:=k x List.mem_cons_self;show mkK (Poly.mono (e+x).toNat (tmP n (addP p q) (c*d)))=mkK (Poly.mono e.toNat (tmP n p c)*Poly.mono x.toNat (tmP n q d));rw [Poly.mono_mul,ih,show (e+x).toNat=e.toNat+x.toNat by omega]
theorem toT_one {n:Nat} {t:Trm}(h:t.1.length=n) (k:∀x∈t.1,0≤x):toT n [t]=tmP n t.1 t.2:=cf_ext fun p hp=>by
 rw [toT_co (fun s hs=>by rw [List.mem_singleton.1 hs];exact h) (fun s hs=>by rw [List.mem_singleton.1 hs];exact k) hp,tmP_co n t.1 t.2 p h hp k,coM_cons,coM_nil,Int.add_zero]
section
variable {n : Nat}
theorem LenM.one {t:Trm}(h:t.1.length=n):LenM n [t]:=fun s hs=>by rw [List.mem_singleton.1 hs];exact h
theorem NnM.one {t:Trm}(k:∀x∈t.1,0≤x):NnM [t]:=fun s hs=>by rw [List.mem_singleton.1 hs];exact k
theorem LenM.tail {t:Trm} {L:Mv}(h:LenM n (t::L)):LenM n L:=fun s hs=>h s (List.mem_cons_of_mem _ hs)
theorem toT_cons {t:Trm} {L:Mv}(h:LenM n (t::L)) (k:NnM (t::L)):toT n (t::L)=tmP n t.1 t.2+toT n L:=by
 have h1:=h t List.mem_cons_self
 have k1:=k t List.mem_cons_self
 have:=toT_add (n:=n) (LenM.one h1) (NnM.one k1) h.tail k.tail
 rw [toT_one h1 k1] at this
 exact this
theorem toT_tm_mul {t:Trm}(h1:t.1.length=n) (k1:∀x∈t.1,0≤x):∀{M:Mv},LenM n M→NnM M→toT n (M.map fun b=>(addP t.1 b.1,t.2*b.2))=tmP n t.1 t.2*toT n M
 | [],_,_=>by
   show toT n []=_;rw [toT_nil,CRing.mul_zero]
 | s::M,h,k=>by
   have hs:=h s List.mem_cons_self;have ks:=k s List.mem_cons_self;have e:((s::M).map fun b=>(addP t.1 b.1,t.2*b.2))=(addP t.1 s.1,t.2*s.2)::M.map fun b=>(addP t.1 b.1,t.2*b.2):=rfl;have hl:LenM n ((s::M).map fun b=>(addP t.1 b.1,t.2*b.2)):=fun u hu=>by
    obtain ⟨b,hb,rfl⟩:=List.mem_map.1 hu;exact addP_length h1 (h b hb)
   have hk:NnM ((s::M).map fun b=>(addP t.1 b.1,t.2*b.2)):=fun u hu=>by
    obtain ⟨b,hb,rfl⟩:=List.mem_map.1 hu;exact addP_nn k1 (k b hb)
   rw [e] at hl hk ⊢;rw [toT_cons hl hk,toT_cons h k,CRing.mul_add,toT_tm_mul h1 k1 h.tail k.tail];congr 1
   exact tmP_mul n t.1 s.1 t.2 s.2 h1 hs k1 ks
theorem toT_mul:∀{L M:Mv},LenM n L→NnM L→LenM n M→NnM M→toT n (mulM L M)=toT n L*toT n M
 | [],M,_,_,_,_=>by
   show toT n []=_;rw [toT_nil,CRing.zero_mul]
 | t::L,M,h,k,hM,kM=>by
   have h1:=h t List.mem_cons_self;have k1:=k t List.mem_cons_self;have e:mulM (t::L) M=(M.map fun b=>(addP t.1 b.1,t.2*b.2))++mulM L M:=List.flatMap_cons;have hl:LenM n (M.map fun b=>(addP t.1 b.1,t.2*b.2)):=fun u hu=>by
    obtain ⟨b,hb,rfl⟩:=List.mem_map.1 hu;exact addP_length h1 (hM b hb)
   have hk:NnM (M.map fun b=>(addP t.1 b.1,t.2*b.2)):=fun u hu=>by
    obtain ⟨b,hb,rfl⟩:=List.mem_map.1 hu;exact addP_nn k1 (kM b hb)
   rw [e,toT_add hl hk (h.tail.mul hM) (k.tail.mul kM),toT_cons h k,CRing.add_mul,toT_tm_mul h1 k1 hM kM,toT_mul h.tail k.tail hM kM]
end
noncomputable def plT (n:Nat) (f:Pn n):Mv:=(termsP n [] f).reverse
theorem plT_nn (n:Nat) (f:Pn n):NnM (plT n f):=fun t ht=>by
 obtain ⟨e,h1,_,h3,_⟩:=termsP_at (List.mem_reverse.1 ht)
 rw [h1]
 exact h3
theorem plT_plain (n:Nat) (f:Pn n):PlainM n (plT n f):=termsP_plain n f
theorem toT_plT (n:Nat) (f:Pn n):toT n (plT n f)=f:=cf_ext fun p hp=>by rw [toT_co (plT_plain n f).len (plT_nn n f) hp];exact termsP_eq n f p hp
theorem plT_unique {n:Nat} {L:Mv} {f:Pn n}(h:PlainM n L) (k:NnM L) (e:toT n L=f):L=plT n f:=
 h.unique (plT_plain n f) (toT_inj h.len k (plT_plain n f).len (plT_nn n f) (by rw [toT_plT];exact e))
theorem plT_quo {n:Nat} {A G:Mv} {q:Pn n}(hA:LenM n A) (kA:NnM A) (hG:LenM n G) (kG:NnM G) (e:toT n A=toT n G*q):EqM n (mulM (plT n q) G) A:=
 toT_inj ((plT_plain n q).len.mul hG) ((plT_nn n q).mul kG) hA kA (by rw [toT_mul (plT_plain n q).len (plT_nn n q) hG kG,toT_plT,e,CRing.mul_comm])
def PosP {n:Nat}(f:Pn n):Prop:=∀t L,plT n f=t::L→0<t.2
theorem plT_neg (n:Nat) (f:Pn n):plT n (-f)=(plT n f).map fun t=>(t.1, -t.2):=by
 unfold plT
 rw [termsP_neg,List.map_reverse]
theorem plT_zero {n:Nat} {f:Pn n}:plT n f=[]↔f=0:=by
 constructor
 · intro h
   rw [← toT_plT n f,h,toT_nil]
 · intro h
   rw [h];exact (plT_unique (PlainM.nil n) (fun t ht=>absurd ht List.not_mem_nil) (toT_nil n)).symm
theorem PosP.eq {n:Nat} {f g:Pn n}(h:PosP f) (k:PosP g) (e:g=f∨g= -f):g=f:=by
 rcases e with e | e
 · exact e
 · cases hf:plT n f with
   | nil=>
     have h0:=plT_zero.1 hf;rw [e,h0,CRing.neg_zero]
   | cons t L=>
     exfalso;have h1:=h t L hf;have h2:=k (t.1, -t.2) (L.map fun t=>(t.1, -t.2)) (by rw [e,plT_neg,hf];rfl);have h3:0< -t.2:=h2;omega
end Cl
namespace Cl
open CRing
theorem int_unit {a b:Int}(h:a*b=1):a=1∨a= -1:=by
 have h1:a.natAbs*b.natAbs=1:=by rw [← Int.natAbs_mul,h];rfl
 have h2:a.natAbs=1:=Nat.eq_one_of_mul_eq_one_right h1
 omega
theorem unit_pm:∀{n:Nat} {a b:Pn n},a*b=1→a=1∨a= -1
 | 0,a,b,h=>int_unit (a:=toZ a) (b:=toZ b) h
 | n+1,a,b,h=>by
   have h':kids a*kids b=1:=h;have one_ne:(1:Poly (Pn n))≠0:=Dom.one_ne;have ha:kids a≠0:=fun e=>one_ne (by rw [← h',e,CRing.zero_mul]);have hb:kids b≠0:=fun e=>one_ne (by rw [← h',e,CRing.mul_zero]);have hl:=(Poly.len_mulD ha hb).1;have l1:(1:Poly (Pn n)).len≤1:=Poly.len_le fun i hi=>by rw [Poly.co_one,if_neg (by omega)]
   have pa:=Poly.len_pos ha;have pb:=Poly.len_pos hb;rw [h'] at hl;have sa:(kids a).Sh 1:=(Poly.len_sh _).mono (by omega);have sb:(kids b).Sh 1:=(Poly.len_sh _).mono (by omega);have e0:(kids a).co 0*(kids b).co 0=1:=by
    (have h2:(kids a*kids b).co 0=(1:Poly (Pn n)).co 0:=by rw [h']);rw [Poly.co_mul,Poly.co_one,if_pos rfl,CRing.sum_succ,CRing.sum_zero,CRing.zero_add] at h2;exact h2
   rcases unit_pm e0 with h3 | h3
   · left
     refine Poly.ext (a:=kids a) (b:=(1:Poly (Pn n))) fun i=> ?_;rw [Poly.co_one];by_cases hi:i=0
     · rw [hi,if_pos rfl,h3]
     · rw [if_neg hi,sa i (by omega)]
   · right
     refine Poly.ext (a:=kids a) (b:= -(1:Poly (Pn n))) fun i=> ?_;rw [Poly.co_neg,Poly.co_one];by_cases hi:i=0
     · rw [hi,if_pos rfl,h3]
     · rw [if_neg hi,sa i (by omega),CRing.neg_zero]
theorem assoc_pm {n:Nat} {f g:Pn n}(h:Dv f g) (k:Dv g f):g=f∨g= -f:=by
 obtain ⟨u,hu⟩:=h
 obtain ⟨v,hv⟩:=k
 by_cases hf:f=0
 · left
   rw [hu,hf,CRing.zero_mul]
 · have h1:f*(u*v)=f*1:=by rw [← CRing.mul_assoc,← hu,← hv,CRing.mul_one]
   rcases unit_pm (Dom.cancel hf h1) with h2 | h2
   · left;rw [hu,h2,CRing.mul_one]
   · right;rw [hu,h2,CRing.mul_neg,CRing.mul_one]
theorem IsG.pm {n:Nat} {g h a b:Pn n}(hg:IsG g a b) (hh:IsG h a b):h=g∨h= -g:=
 assoc_pm (hh.top g hg.l hg.r) (hg.top h hh.l hh.r)
theorem IsG.one {n:Nat} {g h a b:Pn n}(hg:IsG g a b) (hh:IsG h a b) (pg:PosP g) (ph:PosP h):h=g:=pg.eq ph (hg.pm hh)
theorem IsG.neg {n:Nat} {g a b:Pn n}(hg:IsG g a b):IsG (-g) a b:=by
 have h1:Dv (-g) g:=⟨-1,by rw [CRing.neg_mul,CRing.mul_neg,CRing.mul_one,CRing.neg_neg]⟩
 have h2:Dv g (-g):=(Dv.refl g).neg
 exact ⟨h1.trans hg.l,h1.trans hg.r,fun d k l=>(hg.top d k l).trans h2⟩
theorem isG_zero_iff {n:Nat} {g a b:Pn n}(hg:IsG g a b):g=0↔a=0∧b=0:=by
 constructor
 · intro h
   rw [h] at hg;exact ⟨Dv.of0 hg.l,Dv.of0 hg.r⟩
 · intro ⟨h1,h2⟩
   have h3:=hg.top 0 (by rw [h1];exact Dv.refl _) (by rw [h2];exact Dv.refl _);exact Dv.of0 h3
theorem toT_unit (n:Nat):toT n [(List.replicate n (0:Int),1)]=1:=by
 rw [toT_one (by simp) (fun x hx=>by rw [List.eq_of_mem_replicate hx];exact Int.le_refl _)]
 have key:∀n:Nat,tmP n (List.replicate n (0:Int)) 1=(1:Pn n):=fun n=>by
  induction n with
  | zero=>rfl
  | succ n ih=>
    show mkK (Poly.mono (Int.toNat 0) (tmP n (List.replicate n (0:Int)) 1))=1;rw [ih];rfl
 exact key n
end Cl
