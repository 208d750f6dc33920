/- The polynomial that a list of terms plants. No program in sight.
   Terms parted by an exponent, in rows of the call's own: a row of rows. No program in sight. -/
import Derived.Test.YtehcoffbiplphaaGreatSTrmS
import Derived.Test.YtehcoffbiplphaaGreatSTrs
set_option linter.unusedVariables false
set_option linter.unusedSimpArgs false
namespace Cl
open CRing
def partN (i:Nat):Mv→Nat
 | []=>0
 | t::L=>max ((nth t.1 i).toNat+1) (partN i L)
theorem partN_append (i:Nat):∀L M:Mv,partN i (L++M)=max (partN i L) (partN i M)
 | [],M=>(Nat.max_eq_right (Nat.zero_le _)).symm
 | t::L,M=>by
   show max _ (partN i (L++M))=max (max _ (partN i L)) _;rw [partN_append i L M,Nat.max_assoc]
theorem partN_mem {i:Nat}:∀{L:Mv} {t:Trm},t∈L→(nth t.1 i).toNat<partN i L
 | s::L,t,h=>by
   show _<max _ _;rcases List.mem_cons.1 h with rfl | h
   · exact Nat.lt_of_lt_of_le (Nat.lt_succ_self _) (Nat.le_max_left _ _)
   · exact Nat.lt_of_lt_of_le (partN_mem h) (Nat.le_max_right _ _)
theorem partN_le {i d:Nat}:∀{L:Mv},(∀t∈L,(nth t.1 i).toNat<d)→partN i L≤d
 | [],_=>Nat.zero_le _
 | t::L,h=>Nat.max_le.2 ⟨h t List.mem_cons_self,partN_le fun s hs=>h s (List.mem_cons_of_mem _ hs)⟩
def partL (i j:Nat) (L:Mv):Mv:=L.filter fun t=>nth t.1 i==(j:Int)
theorem partL_sub {i j:Nat} {L:Mv} {t:Trm}(h:t∈partL i j L):t∈L:=(List.mem_filter.1 h).1
theorem partL_append (i j:Nat) (L M:Mv):partL i j (L++M)=partL i j L++partL i j M:=List.filter_append _ _
noncomputable def plantP:(m:Nat)→Nat→Mv→Pn m
 | 0,_,L=>ofZ (sumL (fun t=>t.2) L)
 | m+1,i,L=>mkK ⟨fun j=>if j<partN i L then plantP m (i+1) (partL i j L) else 0,partN i L,fun j hj=>if_neg (by omega)⟩
theorem plant_co (m i:Nat) (L:Mv) (j:Nat):(kids (plantP (m+1) i L)).co j=if j<partN i L then plantP m (i+1) (partL i j L) else 0:=rfl
theorem plant_sh (m i:Nat) (L:Mv):(kids (plantP (m+1) i L)).Sh (partN i L):=fun j hj=>by rw [plant_co,if_neg (by omega)]
noncomputable def cf:(n:Nat)→Pn n→Plc→Int
 | 0,z,_=>toZ z
 | _+1,_,[]=>0
 | n+1,f,e::p=>if 0≤e then cf n ((kids f).co e.toNat) p else 0
theorem cf_cons (n:Nat) (f:Pn (n+1)) (e:Int) (p:Plc):cf (n+1) f (e::p)=if 0≤e then cf n ((kids f).co e.toNat) p else 0:=rfl
theorem cf_zero:∀(n:Nat) (p:Plc),cf n (0:Pn n) p=0
 | 0,p=>by show toZ 0=0;rfl
 | n+1,[]=>rfl
 | n+1,e::p=>by
   rw [cf_cons,kids_zero,Poly.co_zero,cf_zero n p];split<;>rfl
theorem cf_add:∀(n:Nat) (f g:Pn n) (p:Plc),cf n (f+g) p=cf n f p+cf n g p
 | 0,f,g,p=>toZ_add f g
 | n+1,f,g,[]=>rfl
 | n+1,f,g,e::p=>by
   rw [cf_cons,cf_cons,cf_cons,kids_add,Poly.co_add,cf_add n];split<;>rfl
theorem cf_ext:∀{n:Nat} {f g:Pn n},(∀p:Plc,p.length=n→cf n f p=cf n g p)→f=g
 | 0,f,g,h=>h [] rfl
 | n+1,f,g,h=>Poly.ext (a:=kids f) (b:=kids g) fun j=>cf_ext fun p hp=>by
   have h1:=h ((j:Int)::p) (by rw [List.length_cons,hp]);rw [cf_cons,cf_cons,if_pos (by omega),if_pos (by omega),Int.toNat_natCast] at h1;exact h1
def atL (i:Nat) (L:Mv) (p:Plc):Int:=sumL (fun t=>if t.1.drop i=p then t.2 else 0) L
theorem sumL_filterP {α:Type}(q:α→Bool) (f:α→Int):∀L:List α,sumL f (L.filter q)=sumL (fun a=>if q a then f a else 0) L
 | []=>rfl
 | a::L=>by
   show _=(if q a then f a else 0)+sumL _ L;rw [List.filter_cons,← sumL_filterP q f L];by_cases h:q a=true
   · rw [if_pos h,if_pos h];rfl
   · rw [if_neg h,if_neg h];omega
theorem sumL_eq_zero {α:Type} {f:α→Int} {L:List α}(h:∀a∈L,f a=0):sumL f L=0:=by rw [sumL_congr (g:=fun _=>0) h,sumL_zero]
theorem drop_nth {i:Nat} {p:Plc}(h:i<p.length):p.drop i=nth p i::p.drop (i+1):=by
 rw [List.drop_eq_getElem_cons h,nth_lt h]
theorem cf_plant:∀(m i:Nat) (L:Mv) (p:Plc),(∀t∈L,t.1.length=i+m)→(∀t∈L,∀x∈t.1,0≤x)→p.length=m→cf m (plantP m i L) p=atL i L p
 | 0,i,L,p,hL,_,hp=>by
   show sumL (fun t=>t.2) L=_;refine sumL_congr fun t ht=> ?_;rw [if_pos];rw [List.eq_nil_of_length_eq_zero hp,List.drop_eq_nil_of_le (by rw [hL t ht];omega)]
 | m+1,i,L,[],_,_,hp=>by cases hp
 | m+1,i,L,e::p,hL,h0,hp=>by
   have hp':p.length=m:=by simpa using hp
   have hd:∀t∈L,t.1.drop i=nth t.1 i::t.1.drop (i+1):=fun t ht=>drop_nth (by rw [hL t ht];omega);have hn:∀t∈L,0≤nth t.1 i:=fun t ht=>h0 t ht _ (nth_mem (by rw [hL t ht];omega));rw [cf_cons,plant_co];by_cases he:0≤e
   · rw [if_pos he]
     have key:atL (i+1) (partL i e.toNat L) p=atL i L (e::p):=by
      unfold atL partL;rw [sumL_filterP];refine sumL_congr fun t ht=> ?_;rw [hd t ht,show ((e.toNat:Nat):Int)=e by omega];by_cases h1:nth t.1 i=e
      · rw [h1,if_pos (beq_self_eq_true e)]
        by_cases h2:t.1.drop (i+1)=p
        · rw [if_pos h2,if_pos (by rw [h2])]
        · rw [if_neg h2,if_neg (fun h3=>h2 (List.cons.inj h3).2)]
      · rw [if_neg (fun h3=>h1 (eq_of_beq h3)),if_neg (fun h3=>h1 (List.cons.inj h3).1)]
     by_cases hN:e.toNat<partN i L
     · rw [if_pos hN,cf_plant m (i+1) _ p (fun t ht=>by rw [hL t (partL_sub ht)];omega) (fun t ht=>h0 t (partL_sub ht)) hp',key]
     · rw [if_neg hN,cf_zero]
       refine (sumL_eq_zero fun t ht=>if_neg fun h3=> ?_).symm;rw [hd t ht] at h3;have h4:=partN_mem (i:=i) ht;rw [(List.cons.inj h3).1] at h4;exact hN h4
   · rw [if_neg he]
     refine (sumL_eq_zero fun t ht=>if_neg fun h3=> ?_).symm;rw [hd t ht] at h3;have h4:=hn t ht;rw [(List.cons.inj h3).1] at h4;exact he h4
theorem sumL_abs {α:Type}(f:α→Int):∀L:List α,(sumL f L).natAbs≤(L.map fun a=>(f a).natAbs).sum
 | []=>lRr
 | a::L=>by
   have h:=sumL_abs f L;show (f a+sumL f L).natAbs≤_;rw [List.map_cons,List.sum_cons];omega
theorem absM_consP (t:Trm) (L:Mv):absM (t::L)=t.2.natAbs+absM L:=by
 unfold absM
 rw [List.map_cons,List.sum_cons]
theorem part_abs (i:Nat):∀(L:Mv) (N:Nat),nS N (fun j=>absM (partL i j L))≤absM L
 | [],N=>by
   have e:(fun j=>absM (partL i j []))=fun _=>0:=funext fun j=>rfl;rw [e,nS_const];exact Nat.le_of_eq (Nat.mul_zero N)
 | t::L,N=>by
   have e:∀j,absM (partL i j (t::L))=(if nth t.1 i==(j:Int) then t.2.natAbs else 0)+absM (partL i j L):=fun j=>by
    unfold partL;rw [List.filter_cons];split
    · exact absM_consP _ _
    · exact (Nat.zero_add _).symm
   rw [nS_congr fun j _=>e j,nS_add,absM_consP];refine Nat.add_le_add ?_ (part_abs i L N);have one:∀N:Nat,nS N (fun j=>if nth t.1 i==(j:Int) then t.2.natAbs else 0)≤t.2.natAbs∧((∀j,j<N→nth t.1 i≠(j:Int))→nS N (fun j=>if nth t.1 i==(j:Int) then t.2.natAbs else 0)=0):=fun N=>by
    induction N with
    | zero=>exact ⟨Nat.zero_le _,fun _=>rfl⟩
    | succ N ih=>
      have h1:nS (N+1) (fun j=>if nth t.1 i==(j:Int) then t.2.natAbs else 0)=nS N (fun j=>if nth t.1 i==(j:Int) then t.2.natAbs else 0)+(if nth t.1 i==((N:Nat):Int) then t.2.natAbs else 0):=rfl;rw [h1];by_cases h:nth t.1 i=((N:Nat):Int)
      · rw [ih.2 fun j hj e2=>by omega,if_pos (beq_iff_eq.2 h)]
        exact ⟨by omega,fun h3=>absurd h (h3 N (by omega))⟩
      · rw [if_neg fun h3=>h (eq_of_beq h3)]
        exact ⟨by have:=ih.1;omega,fun h3=>by rw [ih.2 fun j hj=>h3 j (by omega)]⟩
   exact (one N).1
theorem plant_nm:∀(m i:Nat) (L:Mv),Siz.nm (plantP m i L)≤absM L
 | 0,i,L=>sumL_abs _ L
 | m+1,i,L=>by
   show Poly.nmP (kids (plantP (m+1) i L))≤_;rw [Poly.nmP_eq (plant_sh m i L)];refine Nat.le_trans (nS_le fun j hj=> ?_) (part_abs i L (partN i L));rw [plant_co,if_pos hj];exact plant_nm m (i+1) _
theorem plant_dg:∀(m i:Nat) (L:Mv) (D:Nat→Nat),(∀t∈L,∀k,(nth t.1 (i+k)).toNat≤D k)→Siz.dg D (plantP m i L)
 | 0,i,L,D,_=>trivial
 | m+1,i,L,D,h=>by
   have h':Poly.dgP D (kids (plantP (m+1) i L)):=by
    refine ⟨(plant_sh m i L).mono (partN_le fun t ht=>Nat.lt_succ_of_le (h t ht 0)),fun j=> ?_⟩;rw [plant_co];split
    · exact plant_dg m (i+1) _ _ fun t ht k=>by
       have h1:=h t (partL_sub ht) (k+1);rwa [show i+(k+1)=i+1+k by omega] at h1
    · exact Siz.dg_zero _
   exact h'
end Cl
namespace Cl
open Go Go.RowKit CRing
theorem own_belT {w w':World} {base:Nat} {e:TypeId} {sz n:Nat} {v:Value} {xs:List Value}(h:w.ownsRow base e sz v n xs) (hb:Below w.heap.size w w'):w'.ownsRow base e sz v n xs:=
 own_onlyT h (Only.of_below hb) fun k hk hq=>by have:=(h.lt k hk).2;omega
structure Par (TT TE:TypeId) (w0 wr:World) (v:Value) (Vs:List Value) (Es:List (List EntT)):Prop where
 own:wr.ownsRow w0.heap.size TT 1 v Vs.length Vs
 len:Es.length=Vs.length
 rows:∀(j:Nat) (V:Value) (E:List EntT),Vs[j]? =some V→Es[j]? =some E→wr.ownsRow w0.heap.size TE 3 V E.length (tcells E)
 apart:∀(j k:Nat) (V V':Value),Vs[j]? =some V→Vs[k]? =some V'→j≠k→∀b,V.ownBlock=some b→V'.ownBlock≠some b
 off:∀(j:Nat) (V:Value),Vs[j]? =some V→∀b,v.ownBlock=some b→V.ownBlock≠some b
 ok:∀(j:Nat) (E:List EntT),Es[j]? =some E→∀x∈E,EntOk w0 x
 bel:Below w0.heap.size w0 wr
section
variable {TT TE : TypeId} {w0 wr wt w3 : World} {v : Value} {Vs : List Value} {Es : List (List EntT)}
theorem Par.start (TT TE:TypeId) (h:Below w0.heap.size w0 wr):Par TT TE w0 wr (.slice none 0 0) [] []:=
 ⟨World.ownsRow_nil _ _ _ _,rfl,fun j V E h=>by simp at h,fun j k V V' h=>by simp at h,fun j V h=>by simp at h,fun j E h=>by simp at h,h⟩
theorem Par.bel2 (h:Par TT TE w0 wr v Vs Es) (hb:Below wr.heap.size wr wt):Par TT TE w0 wt v Vs Es:=
 ⟨own_belT h.own hb,h.len,fun j V E h1 h2=>own_belT (h.rows j V E h1 h2) hb,h.apart,h.off,h.ok,h.bel.tm hb⟩
theorem Par.at_ (h:Par TT TE w0 wr v Vs Es) {j:Nat}(hj:j<Vs.length):∃V E,Vs[j]? =some V∧Es[j]? =some E∧wr.ownsRow w0.heap.size TE 3 V E.length (tcells E):=by
 have hj':j<Es.length:=by rw [h.len];exact hj
 exact ⟨Vs[j],Es[j],List.getElem?_eq_getElem hj,List.getElem?_eq_getElem hj',h.rows j _ _ (List.getElem?_eq_getElem hj) (List.getElem?_eq_getElem hj')⟩
theorem Par.push {gg cap:Nat} {o:Obj}(h:Par TT TE w0 wr v Vs Es) (hown:w3.ownsRow w0.heap.size TT 1 (.slice (some ⟨gg,0,none⟩) (Vs.length+1) cap) (Vs.length+1) (Vs++[.slice none 0 0])) (hgr:(wr.alloc o).grownBy w3 v.ownBlock) (hat:v.ownBlock=some gg∨gg=wr.heap.size+1):
 Par TT TE w0 w3 (.slice (some ⟨gg,0,none⟩) (Vs.length+1) cap) (Vs++[.slice none 0 0]) (Es++[[]]):=by
 have b1:Below wr.heap.size wr (wr.alloc o):=bRr.alloc lRr _
 have o3:Only (fun k=>v.ownBlock=some k) (wr.alloc o) w3:=(Only.of_grown hgr).mono (fun i hi=>by first | exact hi | exact hi.symm)
 have old:∀{j:Nat} {V:Value},(Vs++[Value.slice none 0 0])[j]? =some V→(j<Vs.length∧Vs[j]? =some V)∨(j=Vs.length∧V=.slice none 0 0):=fun {j V} hj=>by
  rcases Nat.lt_or_ge j Vs.length with hl | hl
  · rw [List.getElem?_append_left hl] at hj;exact .inl ⟨hl,hj⟩
  · rw [List.getElem?_append_right hl] at hj
    by_cases e:j=Vs.length
    · rw [e,Nat.sub_self] at hj
      exact .inr ⟨e,by injection hj with hj;exact hj.symm⟩
    · rw [List.getElem?_eq_none (by show 1≤_;omega)] at hj;cases hj
 have oldE:∀{j:Nat} {E:List EntT},(Es++[[]])[j]? =some E→(j<Vs.length∧Es[j]? =some E)∨(j=Vs.length∧E=[]):=fun {j E} hj=>by
  rcases Nat.lt_or_ge j Es.length with hl | hl
  · rw [List.getElem?_append_left hl] at hj;exact .inl ⟨by rw [← h.len];exact hl,hj⟩
  · rw [List.getElem?_append_right hl] at hj
    by_cases e:j=Es.length
    · rw [e,Nat.sub_self] at hj
      exact .inr ⟨by rw [e,h.len],by injection hj with hj;exact hj.symm⟩
    · rw [List.getElem?_eq_none (by show 1≤_;omega)] at hj;cases hj
 refine ⟨by rw [List.length_append];exact hown,by rw [List.length_append,List.length_append,h.len];rfl,fun j V E h1 h2=> ?_,fun j k V V' h1 h2 hne b e1 e2=> ?_,fun j V h1 b e1 e2=> ?_,fun j E h1 x hx=> ?_,?_⟩
 · rcases old h1 with ⟨l1,g1⟩ | ⟨l1,g1⟩
   · rcases oldE h2 with ⟨l2,g2⟩ | ⟨l2,g2⟩
     · exact own_onlyT (own_belT (h.rows j V E g1 g2) b1) o3 fun k hk hq=>h.off j V g1 k hq hk
     · omega
   · rcases oldE h2 with ⟨l2,g2⟩ | ⟨l2,g2⟩
     · omega
     · rw [g1,g2];exact World.ownsRow_nil _ _ _ _
 · rcases old h1 with ⟨l1,g1⟩ | ⟨l1,g1⟩
   · rcases old h2 with ⟨l2,g2⟩ | ⟨l2,g2⟩
     · exact h.apart j k V V' g1 g2 hne b e1 e2
     · rw [g2] at e2;cases e2
   · rw [g1] at e1;cases e1
 · rcases old h1 with ⟨l1,g1⟩ | ⟨l1,g1⟩
   · have e3:gg=b:=by injection e1
     rcases hat with h3 | h3
     · exact h.off j V g1 b (by rw [h3,e3]) e2
     · obtain ⟨V',E',q1,q2,q3⟩:=h.at_ l1
       rw [g1] at q1;injection q1 with q1
       subst q1;have:=(q3.lt b e2).2;omega
   · rw [g1] at e2;cases e2
 · rcases oldE h1 with ⟨l1,g1⟩ | ⟨l1,g1⟩
   · exact h.ok j E g1 x hx
   · rw [g1] at hx;cases hx
 · have:=h.bel.size
   exact (h.bel.alloc h.bel.size o).grown hgr (by simp;omega) (fun k hk=>(h.own.lt k hk).1)
theorem Par.add {gg cap vb cv j:Nat} {o:Obj} {V:Value} {E:List EntT} {x:EntT}(h:Par TT TE w0 wr (.slice (some ⟨vb,0,none⟩) Vs.length cv) Vs Es) (hV:Vs[j]? =some V) (hE:Es[j]? =some E) (hx:EntOk w0 x)
 (hown:w3.ownsRow w0.heap.size TE 3 (.slice (some ⟨gg,0,none⟩) (E.length+1) cap) (E.length+1) (tcells E++tcell x)) (hgr:(wr.alloc o).grownBy w3 V.ownBlock) (hat:V.ownBlock=some gg∨gg=wr.heap.size+1):
 Par TT TE w0 (w3.setCell ⟨vb,j,none⟩ (.slice (some ⟨gg,0,none⟩) (E.length+1) cap)) (.slice (some ⟨vb,0,none⟩) Vs.length cv) (Vs.set j (.slice (some ⟨gg,0,none⟩) (E.length+1) cap)) (Es.set j (E++[x])):=by
 have hj:j<Vs.length:=(List.getElem?_eq_some_iff.1 hV).1
 have hjE:j<Es.length:=by rw [h.len];exact hj
 have b1:Below wr.heap.size wr (wr.alloc o):=bRr.alloc lRr _
 have o3:Only (fun k=>V.ownBlock=some k) (wr.alloc o) w3:=(Only.of_grown hgr).mono (fun i hi=>by first | exact hi | exact hi.symm)
 have o4:Only (fun k=>k=vb) w3 (w3.setCell ⟨vb,j,none⟩ (.slice (some ⟨gg,0,none⟩) (E.length+1) cap)):=(Only.refl (fun k=>k=vb) w3).setCell (p:=⟨vb,j,none⟩) rfl _
 have hvb:(Value.slice (some ⟨vb,0,none⟩) Vs.length cv).ownBlock=some vb:=rfl
 have hvl:=h.own.lt vb hvb
 have gvb:gg≠vb:=fun e=>by
  rcases hat with h3 | h3
  · exact h.off j V hV vb hvb (by rw [h3,e])
  · omega
 have setV:∀{k:Nat} {V':Value},(Vs.set j (.slice (some ⟨gg,0,none⟩) (E.length+1) cap))[k]? =some V'→(k=j∧V'=.slice (some ⟨gg,0,none⟩) (E.length+1) cap)∨(k≠j∧Vs[k]? =some V'):=fun {k V'} hk=>by
  by_cases e:k=j
  · subst e
    rw [List.getElem?_set_self hj] at hk;injection hk with hk
    exact .inl ⟨rfl,hk.symm⟩
  · rw [List.getElem?_set_ne (fun h=>e h.symm)] at hk
    exact .inr ⟨e,hk⟩
 have setE:∀{k:Nat} {E':List EntT},(Es.set j (E++[x]))[k]? =some E'→(k=j∧E'=E++[x])∨(k≠j∧Es[k]? =some E'):=fun {k E'} hk=>by
  by_cases e:k=j
  · subst e
    rw [List.getElem?_set_self hjE] at hk;injection hk with hk
    exact .inl ⟨rfl,hk.symm⟩
  · rw [List.getElem?_set_ne (fun h=>e h.symm)] at hk
    exact .inr ⟨e,hk⟩
 have inold:∀{k:Nat} {V':Value},Vs[k]? =some V'→∀b,V'.ownBlock=some b→b<wr.heap.size:=fun {k V'} hk b hb=>by
  obtain ⟨V2,E2,q1,q2,q3⟩:=h.at_ (List.getElem?_eq_some_iff.1 hk).1;rw [hk] at q1;injection q1 with q1
  subst q1;exact (q3.lt b hb).2
 have newne:∀{k:Nat} {V':Value},k≠j→Vs[k]? =some V'→V'.ownBlock≠some gg:=fun {k V'} hk h1 e=>by
  rcases hat with h3 | h3
  · exact h.apart j k V V' hV h1 (fun e2=>hk e2.symm) gg h3 e
  · have:=inold h1 gg e;omega
 refine ⟨?_,by rw [List.length_set,List.length_set,h.len],fun k V' E' h1 h2=> ?_,fun k l V1 V2 h1 h2 hne b e1 e2=> ?_,fun k V' h1 b e1 e2=> ?_,fun k E' h1 y hy=> ?_,?_⟩
 · rw [List.length_set]
   exact own_set (own_onlyT (own_belT h.own b1) o3 fun k hk hq=>h.off j V hV k hk hq) j _
 · rcases setV h1 with ⟨l1,g1⟩ | ⟨l1,g1⟩
   · rcases setE h2 with ⟨l2,g2⟩ | ⟨l2,g2⟩
     · subst g1;subst g2
       rw [List.length_append,tcells_snoc];exact own_onlyT hown o4 fun k hk hq=>by
        (have e:gg=k:=by injection hk);exact gvb (e.trans hq)
     · exact absurd l1 l2
   · rcases setE h2 with ⟨l2,g2⟩ | ⟨l2,g2⟩
     · exact absurd l2 l1
     · exact own_onlyT (own_onlyT (own_belT (h.rows k V' E' g1 g2) b1) o3 fun b hb hq=>h.apart j k V V' hV g1 (fun e=>l1 e.symm) b hq hb) o4 fun b hb hq=>h.off k V' g1 vb hvb (by rw [hb,hq])
 · rcases setV h1 with ⟨l1,g1⟩ | ⟨l1,g1⟩
   · rcases setV h2 with ⟨l2,g2⟩ | ⟨l2,g2⟩
     · exact hne (l1.trans l2.symm)
     · rw [g1] at e1
       (have e:gg=b:=by injection e1);rw [← e] at e2;exact newne l2 g2 e2
   · rcases setV h2 with ⟨l2,g2⟩ | ⟨l2,g2⟩
     · rw [g2] at e2
       (have e:gg=b:=by injection e2);rw [← e] at e1;exact newne l1 g1 e1
     · exact h.apart k l V1 V2 g1 g2 hne b e1 e2
 · have e0:vb=b:=by injection e1
   rcases setV h1 with ⟨l1,g1⟩ | ⟨l1,g1⟩
   · rw [g1] at e2
     (have e:gg=b:=by injection e2);exact gvb (e.trans e0.symm)
   · exact h.off k V' g1 vb hvb (by rw [e2,e0])
 · rcases setE h1 with ⟨l1,g1⟩ | ⟨l1,g1⟩
   · rw [g1] at hy
     rcases List.mem_append.1 hy with hy | hy
     · exact h.ok j E hE y hy
     · rw [List.mem_singleton.1 hy];exact hx
   · exact h.ok k E' g1 y hy
 · have:=h.bel.size
   obtain ⟨V2,E2,q1,q2,q3⟩:=h.at_ hj;rw [hV] at q1;injection q1 with q1
   subst q1;exact ((h.bel.alloc h.bel.size o).grown hgr (by simp;omega) (fun k hk=>(q3.lt k hk).1)).setCell (p:=⟨vb,j,none⟩) hvl.1 _
end
structure ParOf (i:Nat) (L:List TV) (M:Mv) (Es:List (List EntT)):Prop where
 len:partN i M≤Es.length
 at_:∀(j:Nat) (E:List EntT),Es[j]? =some E→mvT (E.map (·.2))=partL i j M
 sub:∀(j:Nat) (E:List EntT),Es[j]? =some E→∀x∈E,x.2∈L
theorem partL_none {i j:Nat} {M:Mv}(h0:∀t∈M,0≤nth t.1 i) (h:partN i M≤j):partL i j M=[]:=by
 unfold partL
 rw [List.filter_eq_nil_iff]
 intro t ht e
 have h1:=partN_mem (i:=i) ht
 have h2:=eq_of_beq e
 omega
section
variable {i : Nat} {L : List TV} {M : Mv} {Es : List (List EntT)}
theorem ParOf.start (i:Nat) (L:List TV):ParOf i L [] []:=⟨lRr,fun j E h=>by simp at h,fun j E h=>by simp at h⟩
theorem ParOf.push (h:ParOf i L M Es) (h0:∀t∈M,0≤nth t.1 i):ParOf i L M (Es++[[]]):=by
 have oldE:∀{j:Nat} {E:List EntT},(Es++[[]])[j]? =some E→Es[j]? =some E∨(j=Es.length∧E=[]):=fun {j E} hj=>by
  rcases Nat.lt_or_ge j Es.length with hl | hl
  · rw [List.getElem?_append_left hl] at hj;exact .inl hj
  · rw [List.getElem?_append_right hl] at hj
    by_cases e:j=Es.length
    · rw [e,Nat.sub_self] at hj
      exact .inr ⟨e,by injection hj with hj;exact hj.symm⟩
    · rw [List.getElem?_eq_none (by show 1≤_;omega)] at hj;cases hj
 refine ⟨by rw [List.length_append];have:=h.len;omega,fun j E hj=> ?_,fun j E hj x hx=> ?_⟩
 · rcases oldE hj with g | ⟨g1,g2⟩
   · exact h.at_ j E g
   · rw [g2,partL_none h0 (by rw [g1];exact h.len)];rfl
 · rcases oldE hj with g | ⟨g1,g2⟩
   · exact h.sub j E g x hx
   · rw [g2] at hx;cases hx
theorem ParOf.add (h:ParOf i L M Es) {j:Nat} {E:List EntT} {x:EntT}(hE:Es[j]? =some E) (hx:x.2∈L) (hn:nth (valT x.2).1 i=(j:Int)):ParOf i L (M++[valT x.2]) (Es.set j (E++[x])):=by
 have hjE:j<Es.length:=(List.getElem?_eq_some_iff.1 hE).1
 have setE:∀{k:Nat} {E':List EntT},(Es.set j (E++[x]))[k]? =some E'→(k=j∧E'=E++[x])∨(k≠j∧Es[k]? =some E'):=fun {k E'} hk=>by
  by_cases e:k=j
  · subst e
    rw [List.getElem?_set_self hjE] at hk;injection hk with hk
    exact .inl ⟨rfl,hk.symm⟩
  · rw [List.getElem?_set_ne (fun h=>e h.symm)] at hk
    exact .inr ⟨e,hk⟩
 refine ⟨?_,fun k E' hk=> ?_,fun k E' hk y hy=> ?_⟩
 · rw [List.length_set,partN_append]
   refine Nat.max_le.2 ⟨h.len,?_⟩;show max _ 0≤_;rw [hn];omega
 · rw [partL_append]
   rcases setE hk with ⟨g1,g2⟩ | ⟨g1,g2⟩
   · subst g1;subst g2
     rw [List.map_append,mvT_append,h.at_ k E hE];congr 1
     unfold partL;rw [List.filter_cons,if_pos (by rw [hn];exact beq_self_eq_true _)];rfl
   · rw [h.at_ k E' g2]
     unfold partL;rw [List.filter_cons,if_neg (fun e=>g1 (by have:=eq_of_beq e;omega)),List.filter_nil,List.append_nil]
 · rcases setE hk with ⟨g1,g2⟩ | ⟨g1,g2⟩
   · rw [g2] at hy
     rcases List.mem_append.1 hy with hy | hy
     · exact h.sub j E hE y hy
     · rw [List.mem_singleton.1 hy];exact hx
   · exact h.sub k E' g2 y hy
end
end Cl
