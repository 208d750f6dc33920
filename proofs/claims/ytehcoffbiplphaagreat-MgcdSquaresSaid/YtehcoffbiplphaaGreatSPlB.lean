/- Contract: planted where no variable is left: the sum of the terms. -/
import Derived.Test.YtehcoffbiplphaaGreatSPls
import Derived.Test.YtehcoffbiplphaaGreatSTrb
import Derived.Test.YtehcoffbiplphaaGreatSTj
set_option linter.unusedVariables false
set_option linter.unusedSimpArgs false
set_option maxHeartbeats 4000000
set_option maxRecDepth 100000
namespace Cl
open Go Go.RowKit CRing
theorem trs_limbsP {w:World} {A:Option Addr} {m:Nat} {L:List TV}(h:Trs w A m L):∀t∈L,IsLimbs t.1.2:=fun t ht=>by
 obtain ⟨i,hi,rfl⟩:=List.mem_iff_getElem.1 ht
 obtain ⟨b,o,_,_,hc⟩:=h.at_ (by have:=h.len;omega)
 obtain ⟨Ai,ci,Ei,ei,_,_,_,_,_,_,_,h8,_⟩:=hc i hi
 exact h8.ok
theorem intZ_absP (s:Bool) {xs:List Int}(h:IsLimbs xs) {C:Nat}(hC:xs.length≤C):(intZ s xs).natAbs<2^(64*C):=by
 have h1:=limbs_lt h
 have h2:2^(64*xs.length)≤2^(64*C):=Nat.pow_le_pow_right (by omega) (by omega)
 have h3:(intZ s xs).natAbs=limbs xs:=by
  unfold intZ;cases s<;>simp
 omega
theorem abs_lenP {C:Nat} {L:List TV}(hl:∀t∈L,t.1.2.length≤C) (hi:∀t∈L,IsLimbs t.1.2) (hk:L.length≤4096):absM (mvT L)<2^(64*(C+1)):=by
 have h1:absM (mvT L)≤(mvT L).length*2^(64*C):=absM_le fun t ht=>by
  obtain ⟨s,hs,rfl⟩:=List.mem_map.1 ht;exact Nat.le_of_lt (intZ_absP s.1.1 (hi s hs) (hl s hs))
 rw [mvT_length] at h1
 have h2:L.length*2^(64*C)≤18446744073709551615*2^(64*C):=Nat.mul_le_mul_right _ (by omega)
 have h3:=Nat.two_pow_pos (64*C)
 rw [Nat.mul_add,Nat.pow_add,Nat.mul_one]
 have h4:(2:Nat)^64=18446744073709551616:=by decide
 rw [h4,Nat.mul_comm (2^(64*C))]
 omega
theorem sum_take_abs (L:Mv) (k:Nat):(sumL (fun t:Trm=>t.2) (L.take k)).natAbs≤absM L:=by
 refine Nat.le_trans (sumL_abs _ _) ?_
 have h:absM (L.take k)≤absM L:=by
  have e:=absM_append (L.take k) (L.drop k);rw [List.take_append_drop] at e;omega
 exact h
theorem sum_takeP {L:List TV} {k:Nat}(hk:k<L.length):sumL (fun t:Trm=>t.2) ((mvT L).take (k+1))=sumL (fun t:Trm=>t.2) ((mvT L).take k)+intZ (L[k]).1.1 (L[k]).1.2:=by
 have e:(mvT L).take (k+1)=(mvT L).take k++[valT L[k]]:=by
  unfold mvT;rw [← List.map_take,← List.map_take,List.take_succ_eq_append_getElem hk,List.map_append];rfl
 rw [e,sumL_append]
 congr 1
 show intZ _ _+0=_
 exact Int.add_zero _
def Tri (T:TypeId) (w:World) (g:Nat) (a b c:Value):Prop:=w.heap[g]? =some (.cells #[a,b,c] T (0,0))
section
variable {T : TypeId} {w w' : World} {g : Nat} {a b c : Value}
theorem Tri.lt (h:Tri T w g a b c):g<w.heap.size:=(Array.getElem?_eq_some_iff.1 h).1
theorem Tri.cell0 (h:Tri T w g a b c):w.cell? ⟨g,0,none⟩=some a:=by rw [cell_of_row w g 0 _ _ (0,0) h];rfl
theorem Tri.cell1 (h:Tri T w g a b c):w.cell? ⟨g,1,none⟩=some b:=by rw [cell_of_row w g 1 _ _ (0,0) h];rfl
theorem Tri.cell2 (h:Tri T w g a b c):w.cell? ⟨g,2,none⟩=some c:=by rw [cell_of_row w g 2 _ _ (0,0) h];rfl
theorem Tri.keep (h:Tri T w g a b c) (hk:w'.heap[g]? =w.heap[g]?):Tri T w' g a b c:=hk.trans h
theorem Tri.bel (h:Tri T w g a b c) (hb:Below w.heap.size w w'):Tri T w' g a b c:=h.keep (hb.block g h.lt)
theorem Tri.new (T:TypeId) (w:World) (a b c:Value):Tri T (w.alloc (.cells #[a,b,c] T)) w.heap.size a b c:=heap_alloc_new w _
theorem Tri.set01 (h:Tri T w g a b c) (x y:Value):Tri T ((w.setCell ⟨g,0,none⟩ x).setCell ⟨g,1,none⟩ y) g x y c:=by
 unfold Tri at h ⊢
 simp [World.setCell,Array.getElem?_modify,h]
end
end Cl
namespace Go.Proofs.YtehcoffbiplphaaGreat
open Go.RowKit Cl CRing
attribute [local go_sem ↓] Go.wp_at_zero Go.wp_at_succ
def PlantN (m C:Nat):Prop:=∀(n i:Nat) (A:Option Addr) (k c:Nat) (L:List TV) (w:World),n=i+m→n≤6→Trs w A k L→Arg n C L→k≤c→c≤9223372036854775807→Calls Tryz.prog 28 #[.int .i64 (n:Int),.int .i64 (i:Int),.slice A k c] w (GivesTr (fun _=>False) w m (plantP m i (mvT L)))
theorem mplant0 (C:Nat) (hC:C≤1000000):PlantN 0 C:=by
 intro n i A m c L w hni hn hx hL hmc hc
 obtain rfl:n=i:=by omega
 clear hni
 have hcnt:=hL.cnt
 have hml:=hx.len
 have hm:m≤4096:=by omega
 have Hx:=hiD hx
 have HL:=hiD hL
 have hab:=hiD (abs_lenP hL.co (trs_limbsP hx) hcnt)
 have t0:=(Trio.new w (.bool false) (.slice none 0 0) (.slice none 0 0)).bel (bRr.alloc lRr (.cells #[.bool false,.slice none 0 0,.slice none 0 0] 51))
 have t1:=Trio.new (w.alloc (.cells #[.bool false,.slice none 0 0,.slice none 0 0] 51)) (.bool false) (.slice none 0 0) (.slice none 0 0)
 rw [World.size_alloc] at t1
 have hb:Below w.heap.size w ((w.alloc (.cells #[.bool false,.slice none 0 0,.slice none 0 0] 51)).alloc (.cells #[.bool false,.slice none 0 0,.slice none 0 0] 51)):=(bRr.alloc lRr _).alloc (by simp) _
 clear hx hL
 go_enter Tryz.func28,Tryz.ntmps28
 go_wp2_with fail
 generalize hwt:(w.alloc (.cells #[.bool false,.slice none 0 0,.slice none 0 0] 51)).alloc (.cells #[.bool false,.slice none 0 0,.slice none 0 0] 51)=wt at*
 clear hwt
 have T0:=hiD t0
 have T1:=hiD t1
 have HB:=hiD hb
 clear t0 t1 hb
 go_loopw [21] (fun kk wr=>∃(k:Nat) (s:Bool) (B:Option Addr) (q d:Nat) (ls:List Int),k≤m∧kk=.int .i64 (k:Int)∧q≤d∧d≤9223372036854775807∧q≤C+1∧Hid (Trio wr w.heap.size (.bool false) (.slice none 0 0) (.slice none 0 0))∧Hid (Trio wr (w.heap.size+1) (.bool s) (.slice B q d) (.slice none 0 0))∧Hid (Limbs wr B q ls)∧Hid (ZVal s ls (sumL (fun t=>t.2) ((mvT L).take k)))∧Hid (0<q→∀y,B=some y→w.heap.size+1<y.block)∧Hid (Below w.heap.size w wr)) (fun kk _=>m - (intOf kk).toNat)
 case atStart=>
  obtain ⟨s,A',k',c',ls,h1,h2,h3,h4,h5,h6⟩:=TreW.nought (fun _=>False) wt 0;injection h1 with h1
  exact ⟨0,false,none,0,0,[],Nat.zero_le _,rfl,lRr,by omega,by omega,T0,T1,⟨rfl,fun h=>absurd h (by omega),fun i=>by show 0≤nth [] i∧nth [] i<18446744073709551616;rw [nth_ge (by simp)];omega⟩,⟨⟨fun i=>by show 0≤nth [] i∧nth [] i<18446744073709551616;rw [nth_ge (by simp)];omega,fun h=>absurd h (by simp)⟩,rfl,fun h=>by cases h⟩,fun h=>absurd h (by omega),HB⟩
 case round=>
  clear T0 T1 HB;obtain ⟨k,s,B,q,d,ls,hk,rfl,hqd,hd,hqC,h0,h1,hl,hz,hne,hbl⟩:=hrel;obtain ⟨wp,rfl⟩:∃wp:World,wp=wr:=⟨_,rfl⟩;have p0:=h1.out.cell0;have p1:=h1.out.cell1;have p2:=h1.out.cell2;have f0:=h1.out.frozen 0;have f1:=h1.out.frozen 1;have hlt1:=h1.out.lt;by_cases hlt:k<m
  · obtain ⟨b,o,rfl,hbb,hcc⟩:=Hx.out.at_ (by omega)
    (have hkL:k<L.length:=by omega);obtain ⟨Ai,ci,Ei,ei,e1,e2,e3,e4,e5,e6,e7,e8,e9⟩:=hcc k hkL;have hlC:=HL.out.co _ (List.getElem_mem hkL);(have hlt':(k:Int)<(m:Int):=by omega);(have hk0:(0:Int)≤(k:Int):=by omega);have hsz:=hbl.out.size;rw [Nat.mul_comm 3 k] at e1 e2 e3;rw [← Nat.add_assoc] at e2 e3;have g1:=(hbl.out.cell (p:=⟨b,o+k*3,none⟩) hbb).trans e1;have g2:=(hbl.out.cell (p:=⟨b,o+k*3+1,none⟩) hbb).trans e2;have g3:=(hbl.out.cell (p:=⟨b,o+k*3+2,none⟩) hbb).trans e3;have hsum:Hid (sumL (fun t:Trm=>t.2) ((mvT L).take (k+1))=sumL (fun t:Trm=>t.2) ((mvT L).take k)+intZ (L[k]).1.1 (L[k]).1.2):=sum_takeP hkL;have E8:=hiD (e8.bel hbl.out);clear e1 e2 e3 e8 e9 hcc;generalize L[k]=x at*
    obtain ⟨⟨sx,xs⟩,ps⟩:=x;simp only at g1 g2 g3 e4 e5 e6 e7 E8 hlC hsum;have bT:Below wp.heap.size wp (wp.alloc (.cells #[.bool sx,.slice Ai xs.length ci,.slice Ei ps.length ei] 44)):=bRr.alloc lRr _;have p0':=(h1.out.bel bT).cell0;have p1':=(h1.out.bel bT).cell1;have tb:=Tri.new 44 wp (.bool sx) (.slice Ai xs.length ci) (.slice Ei ps.length ei);have b0:=tb.cell0;have b1:=tb.cell1;have BT:=hiD bT;have Ca:=hiD (zaddF s sx B Ai q xs.length d ci ls xs _ (hl.out.bel bT) (E8.out.bel bT) hqd hd e4 e5 (by omega) (by omega));have Hl0:=hiD hl.out.len;clear tb bT;(go_wp2_with fail);refine Ca.out.mono ?_;rintro e w1 ⟨s1,A1,k1,c1,l1,rfl,z1,z2,z3,z4,z5,z6,z7⟩;have hb1:Below wp.heap.size wp w1:=BT.out.tm z7;have T1:=h1.out.bel hb1;have T0:=h0.out.bel hb1;have q0:=T1.cell0;have q1:=T1.cell1;have q3:=T1.frozen 0;have q4:=T1.frozen 1;have q5:=T1.lt;have hzs:Hid (ZVal s1 l1 (sumL (fun t=>t.2) ((mvT L).take (k+1)))):=by
     show ZVal _ _ _;rw [hsum.out];rw [← hz.out.eq];exact z5
    have hk1:k1≤C+1:=by
     have h5:=hzs.out.cap (K:=C+1) (Nat.lt_of_le_of_lt (sum_take_abs _ _) hab.out);have h6:=z4.len;omega
    have hbw:Hid (Below w.heap.size w w1):=hbl.out.tm hb1;have T1':=hiD ((show Tri 51 w1 (w.heap.size+1) _ _ _ from T1).set01 (.bool s1) (.slice A1 k1 c1));have T0':=hiD ((T0.far (p:=⟨w.heap.size+1,0,none⟩) (by show w.heap.size≠w.heap.size+1;omega) (.bool s1)).far (p:=⟨w.heap.size+1,1,none⟩) (by show w.heap.size≠w.heap.size+1;omega) (.slice A1 k1 c1));have hbw':Hid (Below w.heap.size w ((w1.setCell ⟨w.heap.size+1,0,none⟩ (.bool s1)).setCell ⟨w.heap.size+1,1,none⟩ (.slice A1 k1 c1))):=(hbw.out.setCell (p:=⟨w.heap.size+1,0,none⟩) (by show _≤w.heap.size+1;omega) _).setCell (p:=⟨w.heap.size+1,1,none⟩) (by show _≤w.heap.size+1;omega) _;have on1:Only (fun b=>b=w.heap.size+1) w1 ((w1.setCell ⟨w.heap.size+1,0,none⟩ (.bool s1)).setCell ⟨w.heap.size+1,1,none⟩ (.slice A1 k1 c1)):=((Only.refl (fun b=>b=w.heap.size+1) w1).setCell (p:=⟨w.heap.size+1,0,none⟩) rfl _).setCell (p:=⟨w.heap.size+1,1,none⟩) rfl _;have hne1:Hid (0<k1→∀y,A1=some y→w.heap.size+1<y.block):=fun h0 y hy=>by
     have h9:=z6 h0 y hy;have h8:=BT.out.size;omega
    have hl1:Hid (Limbs ((w1.setCell ⟨w.heap.size+1,0,none⟩ (.bool s1)).setCell ⟨w.heap.size+1,1,none⟩ (.slice A1 k1 c1)) A1 k1 l1):=limbs_onlyT z4 on1 fun h0 y hy e=>by
     have:=hne1.out h0 y hy;omega
    clear z4 z5 z6 z7 hb1 T1 T0 on1 hbw BT Ca E8 hsum p0 p1 p2 p0' p1' b0 b1 h0 h1 hl hz hne hbl f0 f1 g1 g2 g3 Hl0;(go_wp2_with fail);go_roundw
    case rel=>exact ⟨k+1,s1,A1,k1,c1,l1,by omega,by go_num,z1,z2,hk1,T0',T1',hl1,hzs,hne1,hbw'⟩
    case measure=>simp [intOf];omega
  · have hlt':¬(k:Int)<(m:Int):=by omega
    have hall:(mvT L).take k=mvT L:=List.take_of_length_le (by rw [mvT_length];omega);have hzs:Hid (ZVal s ls (sumL (fun t=>t.2) (mvT L))):=by
     have h9:=hz.out;rw [hall] at h9;exact h9
    have H0:=hiD h0.out;have r3:=h0.out.frozen 0;have r4:=h0.out.frozen 1;have r5:=h0.out.frozen 2;have r0:=h0.out.cell0;have r1:=h0.out.cell1;have r2:=h0.out.cell2;have on1:=trio_only wp w.heap.size (.bool s) (.slice B q d) (.slice none 0 0);have F:Hid (TreW (fun b=>False∨w.heap.size≤b) 0 (((wp.setCell ⟨w.heap.size,0,none⟩ (.bool s)).setCell ⟨w.heap.size,1,none⟩ (.slice B q d)).setCell ⟨w.heap.size,2,none⟩ (.slice none 0 0)) (treV s B q d none 0 0) (plantP 0 n (mvT L))):=
     TreW.num hqd hd (limbs_onlyT hl.out on1 fun h0 y hy e=>by
      have:=hne.out h0 y hy;omega) hzs.out fun h0 y hy=> .inr (by
      have:=hne.out h0 y hy;omega)
    have hb':Hid (Below w.heap.size w (((wp.setCell ⟨w.heap.size,0,none⟩ (.bool s)).setCell ⟨w.heap.size,1,none⟩ (.slice B q d)).setCell ⟨w.heap.size,2,none⟩ (.slice none 0 0))):=((hbl.out.setCell (p:=⟨w.heap.size,0,none⟩) lRr _).setCell (p:=⟨w.heap.size,1,none⟩) lRr _).setCell (p:=⟨w.heap.size,2,none⟩) lRr _;clear hall hzs h0 h1 hl hz hne hbl on1;(go_wp2_with fail);exact bodyPost_ret (v:=.agg #[.bool s,.slice B q d,.slice none 0 0]) (results_cell_row (fn:=Tryz.f28) rfl _ _ _ _ _ _ _ rfl (H0.out.set (.bool s) (.slice B q d) (.slice none 0 0)) Tryz.underlying51 rfl apoly_size) rfl
     ⟨s,B,q,d,none,0,0,rfl,F.out,hb'.out⟩
end Go.Proofs.YtehcoffbiplphaaGreat
