/- Contracts: whether a tree is nought; noughts at the end are taken away.
   Contracts: the last coefficient; the difference of two trees.
   Contract: the difference of two trees, of one variable more.
   Contracts: the product of two trees: of numbers; where one is nought. -/
import Derived.Test.YtehcoffbiplphaaGreatSTrs
import Derived.Test.YtehcoffbiplphaaGreatSDvf
set_option linter.unusedVariables false
set_option linter.unusedSimpArgs false
set_option maxHeartbeats 16000000
set_option maxRecDepth 100000
namespace Go.Proofs.YtehcoffbiplphaaGreat
open Go.RowKit Cl CRing
attribute [local go_sem ↓] Go.wp_at_zero Go.wp_at_succ
theorem apoly_size:(Tryz.prog.info? 51).map (·.size)=some 3:=by kernel_rfl
def Trio (w:World) (g:Nat) (a b c:Value):Prop:=w.heap[g]? =some (.cells #[a,b,c] 51 (0,0))
section
variable {w w' : World} {g : Nat} {a b c : Value}
theorem Trio.lt (h:Trio w g a b c):g<w.heap.size:=(Array.getElem?_eq_some_iff.1 h).1
theorem Trio.cell0 (h:Trio w g a b c):w.cell? ⟨g,0,none⟩=some a:=by rw [cell_of_row w g 0 _ _ (0,0) h];rfl
theorem Trio.cell1 (h:Trio w g a b c):w.cell? ⟨g,1,none⟩=some b:=by rw [cell_of_row w g 1 _ _ (0,0) h];rfl
theorem Trio.cell2 (h:Trio w g a b c):w.cell? ⟨g,2,none⟩=some c:=by rw [cell_of_row w g 2 _ _ (0,0) h];rfl
theorem Trio.frozen (h:Trio w g a b c) (i:Nat):w.frozen? ⟨g,i,none⟩=false:=by unfold Trio at h;simp [World.frozen?,h]
theorem Trio.keep (h:Trio w g a b c) (hk:w'.heap[g]? =w.heap[g]?):Trio w' g a b c:=hk.trans h
theorem Trio.bel (h:Trio w g a b c) (hb:Below w.heap.size w w'):Trio w' g a b c:=h.keep (hb.block g h.lt)
theorem Trio.set (h:Trio w g a b c) (x y z:Value):Trio (((w.setCell ⟨g,0,none⟩ x).setCell ⟨g,1,none⟩ y).setCell ⟨g,2,none⟩ z) g x y z:=by
 unfold Trio at h ⊢
 simp [World.setCell,Array.getElem?_modify,h]
theorem Trio.set2 (h:Trio w g a b c) (z:Value):Trio (w.setCell ⟨g,2,none⟩ z) g a b z:=by
 unfold Trio at h ⊢
 simp [World.setCell,Array.getElem?_modify,h]
theorem Trio.far (h:Trio w g a b c) {p:Addr}(hp:g≠p.block) (u:Value):Trio (w.setCell p u) g a b c:=(Below.heap_setCell w p u g hp).trans h
theorem Trio.new (w:World) (a b c:Value):Trio (w.alloc (.cells #[a,b,c] 51)) w.heap.size a b c:=heap_alloc_new w _
end
def Says (w:World) (P:Prop) (e:Ending) (w':World):Prop:=∃b:Bool,e=.returned (.bool b)∧(b=true↔P)∧Below w.heap.size w w'
theorem mnoughtS (S:Nat→Prop) (n:Nat) (w:World) (v:Value) (f:Pn (n+1)) (h:TreW S (n+1) w v f):
 Calls Tryz.prog 51 #[v,.int .i64 ((n:Int)+1)] w (Says w (f=0)):=by
 obtain ⟨B,c,rfl,h1,h2,h3⟩:=h
 have hz:(((n:Int)+1)==0)=false:=beq_eq_false_iff_ne.2 (by omega)
 have hf:Hid (((((kids f).len:Nat):Int)==0)=true↔f=0):=by
  show _↔_;rw [beq_iff_eq];constructor
  · intro h
    (have h2:(kids f).len=0:=by omega);exact len_zero_iff.1 h2
  · intro h
    have h2:=len_zero_iff.2 h;omega
 clear h3
 generalize (kids f).len=m at*
 unfold treV
 go_enter Tryz.func51,Tryz.ntmps51
 go_wp2_with fail
 go_ret
 exact ⟨_,rfl,hf.out,bRr.alloc lRr _⟩
theorem mend (S:Nat→Prop) (P:Nat→Value→Prop) (w:World) (A:Option Addr) (m c:Nat) (h:RowK S P w A m) (hm:0<m) (hm2:m≤9223372036854775807):
 Calls Tryz.prog 90 #[.slice A m c] w (fun e w'=>∃s A1 k1 c1 B1 m1 d1,e=.returned (treV s A1 k1 c1 B1 m1 d1)∧P (m - 1) (treV s A1 k1 c1 B1 m1 d1)∧Below w.heap.size w w'):=by
 obtain ⟨b,o,rfl,hb,hl,hk⟩:=h hm
 obtain ⟨s,A1,k1,c1,B1,m1,d1,h1,h2,h3,h4⟩:=hk (m - 1) (by omega)
 have ew:IntKind.i64.wrap ((m:Int) - 1)=((m - 1:Nat):Int):=by rw [IntWalk.i64_in _ (by omega)];omega
 have hi0:(0:Int)≤((m - 1:Nat):Int):=by omega
 have hi1:((m - 1:Nat):Int)<(m:Int):=by omega
 have al:Below w.heap.size w (w.alloc (.cells #[.bool false,.slice none 0 0,.slice none 0 0] 51)):=bRr.alloc lRr _
 have g1:=(al.cell (p:=⟨b,o+(m - 1)*3,none⟩) hl).trans h1
 have g2:=(al.cell (p:=⟨b,o+(m - 1)*3+1,none⟩) hl).trans h2
 have g3:=(al.cell (p:=⟨b,o+(m - 1)*3+2,none⟩) hl).trans h3
 have H4:=hiD h4
 clear h1 h2 h3 h4 hk al hm h
 generalize m - 1=i at*
 go_enter Tryz.func90,Tryz.ntmps90
 go_wp2_with fail
 exact bodyPost_ret (v:=.agg #[.bool s,.slice A1 k1 c1,.slice B1 m1 d1]) (results_cell_row (fn:=Tryz.f90) rfl _ _ _ _ _ _ _ rfl (Trio.new w (.bool s) (.slice A1 k1 c1) (.slice B1 m1 d1)) Tryz.underlying51 rfl apoly_size) rfl
  ⟨s,A1,k1,c1,B1,m1,d1,rfl,H4.out,bRr.alloc lRr _⟩
theorem mnought0 (S:Nat→Prop) (w:World) (v:Value) (f:Pn 0) (h:TreW S 0 w v f) (K:Nat) (hK:K≤4000000000000) (hk:Siz.nm f<2^(64*K)):
 Calls Tryz.prog 51 #[v,.int .i64 0] w (Says w (f=0)):=by
 obtain ⟨s,A,k,c,ls,rfl,h1,h2,h3,h4,_⟩:=h
 have hkl:k≤K:=by
  have h5:=h4.cap (K:=K) hk;have h6:=h3.len;omega
 have Cs:=hiD (fun W (hW:Below w.heap.size w W)=>zsign_any s A k c ls W (h3.bel hW) h1 h2 (by omega))
 have hz:Hid ((signN s (lmN ls k)==0)=true↔f=0):=by
  show _↔_;rw [beq_iff_eq];exact (signN_zero h4 h3.len).trans ⟨fun e=>e,fun e=>e⟩
 have HB:Hid (Below w.heap.size w (w.alloc (.cells #[.bool s,.slice A k c,.slice none 0 0] 51))):=bRr.alloc lRr _
 clear h3 h4 hk
 unfold treV
 go_enter Tryz.func51,Tryz.ntmps51
 go_wp2_with fail
 refine (Cs.out _ (by exact HB.out)).mono ?_
 rintro e w1 ⟨rfl,hb1⟩
 have HB1:=hiD (HB.out.tm hb1)
 clear hb1 Cs
 go_wp2_with fail
 go_ret
 exact ⟨_,rfl,hz.out,HB1.out⟩
theorem mnought (S:Nat→Prop) (n:Nat) (w:World) (v:Value) (f:Pn n) (h:TreW S n w v f) (K:Nat) (hK:K≤4000000000000) (hk:Siz.nm f<2^(64*K)):
 Calls Tryz.prog 51 #[v,.int .i64 (n:Int)] w (Says w (f=0)):=by
 cases n with
 | zero=>exact mnought0 S w v f h K hK hk
 | succ n=>exact mnoughtS S n w v f h
theorem mtrim (S:Nat→Prop) (n:Nat) (w:World) (B:Option Addr) (m c:Nat) (f:Poly (Pn n)) (h:RowK S (fun i u=>TreW S n w u (f.co i)) w B m) (hs:f.Sh m) (hmc:m≤c) (hc:c≤9223372036854775807) (hn:n≤100) (K:Nat) (hK:K≤4000000000000) (hk:∀i,Siz.nm (f.co i)<2^(64*K)):
 Calls Tryz.prog 57 #[treV false none 0 0 B m c,.int .i64 ((n:Int)+1)] w (GivesTr S w (n+1) (mkK f)):=by
 have H:=hiD h
 have Hs:=hiD hs
 have Hk:=hiD hk
 have ew:IntKind.i64.wrap ((n:Int)+1 - 1)=(n:Int):=by rw [IntWalk.i64_in _ (by omega)];omega
 have t1:=(Trio.new w (.bool false) (.slice none 0 0) (.slice B m c)).bel (bRr.alloc lRr (.cells #[.bool false,.slice none 0 0,.slice none 0 0] 51))
 have t2:=Trio.new (w.alloc (.cells #[.bool false,.slice none 0 0,.slice B m c] 51)) (.bool false) (.slice none 0 0) (.slice none 0 0)
 rw [World.size_alloc] at t2
 have T1:=hiD t1
 have T2:=hiD t2
 have HB:Hid (Below w.heap.size w ((w.alloc (.cells #[.bool false,.slice none 0 0,.slice B m c] 51)).alloc (.cells #[.bool false,.slice none 0 0,.slice none 0 0] 51))):=(bRr.alloc lRr _).alloc (by simp) _
 clear h hs hk t1 t2
 unfold treV
 go_enter Tryz.func57,Tryz.ntmps57
 go_wp2_with fail
 go_loopg [] (m+1) (fun gk wr=>∃m':Nat,m'<gk∧m'≤m∧Hid (f.Sh m')∧Hid (Trio wr w.heap.size (.bool false) (.slice none 0 0) (.slice B m' c))∧Hid (Trio wr (w.heap.size+1) (.bool false) (.slice none 0 0) (.slice none 0 0))∧Hid (Below w.heap.size w wr))
 case atStart=>exact ⟨m,by omega,lRr,Hs,T1,T2,HB⟩
 case round=>
  clear T1 T2 HB Hs;obtain ⟨m',hg,hm,hs,h1,h2,hb⟩:=hrel;obtain ⟨wp,rfl⟩:∃wp:World,wp=wr:=⟨_,rfl⟩;have k0:=h1.out.cell0;have k1:=h1.out.cell1;have k2:=h1.out.cell2;have k3:=h1.out.frozen 2;have r0:=h2.out.cell0;have r1:=h2.out.cell1;have r2:=h2.out.cell2;have r3:=h2.out.frozen 0;have r4:=h2.out.frozen 1;have r5:=h2.out.frozen 2;have Fin:Hid (f.len=m'→∀W,Below w.heap.size w W→GivesTr S w (n+1) (mkK f) (.returned (.agg #[.bool false,.slice none 0 0,.slice B m' c])) (((W.setCell ⟨w.heap.size+1,0,none⟩ (.bool false)).setCell ⟨w.heap.size+1,1,none⟩ (.slice none 0 0)).setCell ⟨w.heap.size+1,2,none⟩ (.slice B m' c))):=fun hl W hW=>by
   subst hl;have hb':Below w.heap.size w (((W.setCell ⟨w.heap.size+1,0,none⟩ (.bool false)).setCell ⟨w.heap.size+1,1,none⟩ (.slice none 0 0)).setCell ⟨w.heap.size+1,2,none⟩ (.slice B f.len c)):=((hW.setCell (p:=⟨w.heap.size+1,0,none⟩) (Nat.le_succ _) _).setCell (p:=⟨w.heap.size+1,1,none⟩) (Nat.le_succ _) _).setCell (p:=⟨w.heap.size+1,2,none⟩) (Nat.le_succ _) _;refine ⟨false,none,0,0,B,f.len,c,rfl,?_,hb'⟩;have h3:=((H.out.le hm).bel hb').imp (T:=fun b=>S b∨w.heap.size≤b) (fun b h=> .inl h) lRr (fun _ _ _ _=>rfl) (Q:=fun i u=>TreW (fun b=>S b∨w.heap.size≤b) n (((W.setCell ⟨w.heap.size+1,0,none⟩ (.bool false)).setCell ⟨w.heap.size+1,1,none⟩ (.slice none 0 0)).setCell ⟨w.heap.size+1,2,none⟩ (.slice B f.len c)) u (f.co i)) fun i v _ hv=>hv.mono fun b h=> .inl h;exact ⟨B,c,rfl,Nat.le_trans hm hmc,hc,h3⟩
  by_cases h0:0<m'
  · have hp:(0:Int)<(m':Int):=by omega
    have hr:=(H.out.le hm).bel hb.out;have Ce:=hiD (mend S _ wp B m' c hr h0 (by omega));(have ew2:IntKind.i64.wrap ((m':Int) - 1)=((m' - 1:Nat):Int):=by rw [IntWalk.i64_in _ (by omega)];omega);(have z1:(0:Int)≤((m' - 1:Nat):Int):=by omega);(have z2:((m' - 1:Nat):Int)≤(c:Int):=by omega);clear hr;(go_wp2_with fail);refine Ce.out.mono ?_;rintro e w1 ⟨s,A1,q1,c1,B1,m1,d1,rfl,hv,hb1⟩;have hv1:=hv.bel hb1;have Cn:=hiD (mnought S n w1 _ _ hv1 K hK (Hk.out _));have H1:=hiD (h1.out.bel hb1);have H2:=hiD (h2.out.bel hb1);have HB1:=hiD (hb.out.tm hb1);clear hv hv1 hb1 Ce k0 k1 k2 k3 r0 r1 r2 r3 r4 r5 h1 h2 hb;unfold treV at Cn ⊢;(go_wp2_with fail);refine Cn.out.mono ?_;rintro e w2 ⟨b,rfl,hbt,hb2⟩;have H1':=hiD (H1.out.bel hb2);have H2':=hiD (H2.out.bel hb2);have HB2:=hiD (HB1.out.tm hb2);have k0:=H1'.out.cell0;have k1:=H1'.out.cell1;have k2:=H1'.out.cell2;have k3:=H1'.out.frozen 2;have r0:=H2'.out.cell0;have r1:=H2'.out.cell1;have r2:=H2'.out.cell2;have r3:=H2'.out.frozen 0;have r4:=H2'.out.frozen 1;have r5:=H2'.out.frozen 2;have Hbt:=hiD hbt;clear hb2 Cn H1 H2 HB1 hbt;cases b with
    | true=>
      have hs':Hid (f.Sh (m' - 1)):=fun i hi=>by
       by_cases e:i=m' - 1
       · rw [e];exact Hbt.out.1 rfl
       · exact hs.out i (by omega)
      have T1:Hid (Trio (w2.setCell ⟨w.heap.size,2,none⟩ (.slice B (m' - 1) c)) w.heap.size (.bool false) (.slice none 0 0) (.slice B (m' - 1) c)):=H1'.out.set2 _;have T2:Hid (Trio (w2.setCell ⟨w.heap.size,2,none⟩ (.slice B (m' - 1) c)) (w.heap.size+1) (.bool false) (.slice none 0 0) (.slice none 0 0)):=H2'.out.far (by show _≠w.heap.size;omega) _;have HB3:Hid (Below w.heap.size w (w2.setCell ⟨w.heap.size,2,none⟩ (.slice B (m' - 1) c))):=HB2.out.setCell (p:=⟨w.heap.size,2,none⟩) lRr _;clear hs H1' H2' HB2 Hbt r0 r1 r2 r3 r4 r5;(go_wp2_with fail);go_roundg (gk - 1)
      case measure=>omega
      case rel=>exact ⟨m' - 1,by omega,by omega,hs',T1,T2,HB3⟩
    | false=>
      have hl:f.len=m':=by
       (have hne:¬f.co (m' - 1)=0:=fun e=>by have:=Hbt.out.2 e;cases this);have h3:=Poly.len_eq (n:=m' - 1) (a:=f) (by rw [show m' - 1+1=m' by omega];exact hs.out) hne;omega
      have Fn:=hiD (Fin.out hl w2 HB2.out);clear hl hs Hbt Fin HB2;(go_wp2_with fail);exact bodyPost_ret (results_cell_row (fn:=Tryz.f57) rfl _ _ _ _ _ _ _ rfl (H2'.out.set (.bool false) (.slice none 0 0) (.slice B m' c)) Tryz.underlying51 rfl apoly_size) rfl Fn.out
  · have hl:f.len=m':=by
     have:=Poly.len_le hs.out;omega
    have Fn:=hiD (Fin.out hl wp hb.out);(have hp:¬(0:Int)<(m':Int):=by omega);have H2':=hiD h2.out;clear hl hs Fin hb h1 h2;(go_wp2_with fail);exact bodyPost_ret (results_cell_row (fn:=Tryz.f57) rfl _ _ _ _ _ _ _ rfl (H2'.out.set (.bool false) (.slice none 0 0) (.slice B m' c)) Tryz.underlying51 rfl apoly_size) rfl Fn.out
end Go.Proofs.YtehcoffbiplphaaGreat
namespace Go.Proofs.YtehcoffbiplphaaGreat
open Go.RowKit Cl CRing
attribute [local go_sem ↓] Go.wp_at_zero Go.wp_at_succ
theorem trio_only (w:World) (g:Nat) (a b c:Value):Only (fun k=>k=g) w (((w.setCell ⟨g,0,none⟩ a).setCell ⟨g,1,none⟩ b).setCell ⟨g,2,none⟩ c):=
 (((Only.refl (fun k=>k=g) w).setCell (p:=⟨g,0,none⟩) rfl _).setCell (p:=⟨g,1,none⟩) rfl _).setCell (p:=⟨g,2,none⟩) rfl _
theorem mlast (S:Nat→Prop) (n:Nat) (w:World) (v:Value) (f:Pn (n+1)) (h:TreW S (n+1) w v f) (h0:0<(kids f).len):
 Calls Tryz.prog 84 #[v] w (GivesTr S w n ((kids f).co ((kids f).len - 1))):=by
 obtain ⟨B,c,rfl,h1,h2,h3⟩:=h.here
 have t1:=(Trio.new w (.bool false) (.slice none 0 0) (.slice B (kids f).len c)).bel (bRr.alloc lRr (.cells #[.bool false,.slice none 0 0,.slice none 0 0] 51))
 have t2:=Trio.new (w.alloc (.cells #[.bool false,.slice none 0 0,.slice B (kids f).len c] 51)) (.bool false) (.slice none 0 0) (.slice none 0 0)
 rw [World.size_alloc] at t2
 have hb:Below w.heap.size w ((w.alloc (.cells #[.bool false,.slice none 0 0,.slice B (kids f).len c] 51)).alloc (.cells #[.bool false,.slice none 0 0,.slice none 0 0] 51)):=(bRr.alloc lRr _).alloc (by simp) _
 have Ce:=hiD (mend _ _ _ B (kids f).len c (h3.bel hb) h0 (by omega))
 have k2:=t1.cell2
 have T2:=hiD t2
 have HB:=hiD hb
 clear h3 t1 t2 hb
 unfold treV
 go_enter Tryz.func84,Tryz.ntmps84
 go_wp2_with fail
 refine Ce.out.mono ?_
 rintro e w1 ⟨s,A1,q1,c1,B1,m1,d1,rfl,hv,hb1⟩
 have T3:=hiD (T2.out.bel hb1)
 have r0:=T3.out.cell0
 have r1:=T3.out.cell1
 have r2:=T3.out.cell2
 have r3:=T3.out.frozen 0
 have r4:=T3.out.frozen 1
 have r5:=T3.out.frozen 2
 have HB1:=hiD (HB.out.tm hb1)
 have HV:=hiD (hv.bel hb1)
 clear hv hb1 Ce
 unfold treV
 go_wp2_with fail
 have hb':Below w.heap.size w (((w1.setCell ⟨w.heap.size+1,0,none⟩ (.bool s)).setCell ⟨w.heap.size+1,1,none⟩ (.slice A1 q1 c1)).setCell ⟨w.heap.size+1,2,none⟩ (.slice B1 m1 d1)):=((HB1.out.setCell (p:=⟨w.heap.size+1,0,none⟩) (Nat.le_succ _) _).setCell (p:=⟨w.heap.size+1,1,none⟩) (Nat.le_succ _) _).setCell (p:=⟨w.heap.size+1,2,none⟩) (Nat.le_succ _) _
 exact bodyPost_ret (v:=.agg #[.bool s,.slice A1 q1 c1,.slice B1 m1 d1]) (results_cell_row (fn:=Tryz.f84) rfl _ _ _ _ _ _ _ rfl (T3.out.set (.bool s) (.slice A1 q1 c1) (.slice B1 m1 d1)) Tryz.underlying51 rfl apoly_size) rfl
  ⟨s,A1,q1,c1,B1,m1,d1,rfl,HV.out.only (trio_only w1 (w.heap.size+1) _ _ _) (fun b hb e=>by have:=hb.2;omega) (fun b hb=> .inl hb.1),hb'⟩
theorem mless0 (S:Nat→Prop) (w:World) (u v:Value) (f g:Pn 0) (hf:TreW S 0 w u f) (hg:TreW S 0 w v g) (K:Nat) (hK:K≤3900000000000) (nf:Siz.nm f<2^(64*K)) (ng:Siz.nm g<2^(64*K)):
 Calls Tryz.prog 85 #[u,.int .i64 0,v] w (GivesTr S w 0 (f - g)):=by
 obtain ⟨s,A,k,c,xs,rfl,h1,h2,h3,h4,_⟩:=hf
 obtain ⟨t,B,m,d,ys,rfl,i1,i2,i3,i4,_⟩:=hg
 have hk:k≤K:=by have h5:=h4.cap (K:=K) nf;have h6:=h3.len;omega
 have hm:m≤K:=by have h5:=i4.cap (K:=K) ng;have h6:=i3.len;omega
 have Cs:=hiD (fun W (hW:Below w.heap.size w W)=>zsubF s t A B k m c d xs ys W (h3.bel hW) (i3.bel hW) h1 h2 i1 i2 (by omega) (by omega))
 rw [h4.eq,i4.eq] at Cs
 have hb:Below w.heap.size w (((w.alloc (.cells #[.bool s,.slice A k c,.slice none 0 0] 51)).alloc (.cells #[.bool t,.slice B m d,.slice none 0 0] 51)).alloc (.cells #[.bool false,.slice none 0 0,.slice none 0 0] 51)):=((bRr.alloc lRr _).alloc (by simp) _).alloc (by simp;omega) _
 have t2:=Trio.new ((w.alloc (.cells #[.bool s,.slice A k c,.slice none 0 0] 51)).alloc (.cells #[.bool t,.slice B m d,.slice none 0 0] 51)) (.bool false) (.slice none 0 0) (.slice none 0 0)
 rw [World.size_alloc,World.size_alloc] at t2
 have T2:=hiD t2
 have HB:=hiD hb
 clear h3 h4 i3 i4 nf ng hb t2
 unfold treV
 go_enter Tryz.func85,Tryz.ntmps85
 go_wp2_with fail
 refine (Cs.out _ (by exact HB.out)).mono ?_
 rintro e w1 ⟨s1,A1,k1,c1,ls,rfl,q1,q2,q3,q4,q5,q6,hb1⟩
 have T3:=hiD (T2.out.bel hb1)
 have r0:=T3.out.cell0
 have r1:=T3.out.cell1
 have r2:=T3.out.cell2
 have r3:=T3.out.frozen 0
 have r4:=T3.out.frozen 1
 have r5:=T3.out.frozen 2
 have hs3:(((w.alloc (.cells #[.bool s,.slice A k c,.slice none 0 0] 51)).alloc (.cells #[.bool t,.slice B m d,.slice none 0 0] 51)).alloc (.cells #[.bool false,.slice none 0 0,.slice none 0 0] 51)).heap.size=w.heap.size+1+1+1:=by simp
 have F:Hid (TreW (fun b=>S b∨w.heap.size≤b) 0 (((w1.setCell ⟨w.heap.size+1+1,0,none⟩ (.bool s1)).setCell ⟨w.heap.size+1+1,1,none⟩ (.slice A1 k1 c1)).setCell ⟨w.heap.size+1+1,2,none⟩ (.slice none 0 0)) (treV s1 A1 k1 c1 none 0 0) (f - g)):=
  TreW.num q1 q2 (limbs_onlyT q4 (trio_only w1 (w.heap.size+1+1) _ _ _) fun h0 y hy e=>by have:=q6 h0 y hy;omega) q5 fun h0 y hy=> .inr (by have:=q6 h0 y hy;omega)
 have hb2:Below w.heap.size w w1:=HB.out.tm hb1
 have hb':Hid (Below w.heap.size w (((w1.setCell ⟨w.heap.size+1+1,0,none⟩ (.bool s1)).setCell ⟨w.heap.size+1+1,1,none⟩ (.slice A1 k1 c1)).setCell ⟨w.heap.size+1+1,2,none⟩ (.slice none 0 0))):=((hb2.setCell (p:=⟨w.heap.size+1+1,0,none⟩) (by show _≤w.heap.size+1+1;omega) _).setCell (p:=⟨w.heap.size+1+1,1,none⟩) (by show _≤w.heap.size+1+1;omega) _).setCell (p:=⟨w.heap.size+1+1,2,none⟩) (by show _≤w.heap.size+1+1;omega) _
 clear q3 q4 q5 q6 hb1 Cs hs3 HB hb2
 go_wp2_with fail
 exact bodyPost_ret (v:=.agg #[.bool s1,.slice A1 k1 c1,.slice none 0 0]) (results_cell_row (fn:=Tryz.f85) rfl _ _ _ _ _ _ _ rfl (T3.out.set (.bool s1) (.slice A1 k1 c1) (.slice none 0 0)) Tryz.underlying51 rfl apoly_size) rfl
  ⟨s1,A1,k1,c1,none,0,0,rfl,F.out,hb'.out⟩
end Go.Proofs.YtehcoffbiplphaaGreat
namespace Go.Proofs.YtehcoffbiplphaaGreat
open Go.RowKit Cl CRing
attribute [local go_sem ↓] Go.wp_at_zero Go.wp_at_succ
def Lens:(n:Nat)→Pn n→Prop
 | 0,_=>True
 | n+1,f=>(kids f).len≤1000000000000∧∀i,Lens n ((kids f).co i)
def LessN (n K:Nat):Prop:=∀(S:Nat→Prop) (w:World) (u v:Value) (f g:Pn n),TreW S n w u f→TreW S n w v g→Siz.nm f<2^(64*K)→Siz.nm g<2^(64*K)→Lens n f→Lens n g→Calls Tryz.prog 85 #[u,.int .i64 (n:Int),v] w (GivesTr S w n (f - g))
theorem lt_room {a b K:Nat}(h:a<2^(64*K)) (k:b<2^(64*K)):a+b<2^(64*(K+1)):=by
 have h1:(2:Nat)^(64*(K+1))=2^(64*K)*18446744073709551616:=by rw [Nat.mul_add,Nat.pow_add]
 rw [h1]
 omega
theorem nmP_C_leT {n:Nat}(f:Pn (n+1)) (i:Nat):Siz.nm ((kids f).co i)≤Siz.nm f:=Poly.nmP_co (kids f) i
theorem poly_infoT:(Tryz.prog.info? 51).map (fun i=>(i.zero,i.size,i.bytes))=some (some (.agg #[.bool false,.slice none 0 0,.slice none 0 0]),3,56):=by kernel_rfl
attribute [-go_sem] Builtin.append_
theorem mlessS (n K:Nat) (hK:K≤3900000000000) (hn:n≤100) (ih:LessN n K) (S:Nat→Prop) (w:World) (u v:Value) (f g:Pn (n+1)) (hf:TreW S (n+1) w u f) (hg:TreW S (n+1) w v g) (nf:Siz.nm f<2^(64*K)) (ng:Siz.nm g<2^(64*K)) (kf:Lens (n+1) f) (kg:Lens (n+1) g):
 Calls Tryz.prog 85 #[u,.int .i64 ((n:Int)+1),v] w (GivesTr S w (n+1) (f - g)):=by
 obtain ⟨i0,hi0,hz0,hz1,hz2⟩:=info_parts poly_infoT
 have lf:=kf.1
 have lg:=kg.1
 have Lf:=hiD kf.2
 have Lg:=hiD kg.2
 clear kf kg
 obtain ⟨B,c,rfl,h1,h2,h3⟩:=hf.here
 obtain ⟨D,d,rfl,i1,i2,i3⟩:=hg.here
 obtain ⟨M,hM⟩:∃M:Nat,max (kids f).len (kids g).len=M:=⟨_,rfl⟩
 have hz:(((n:Int)+1)==0)=false:=beq_eq_false_iff_ne.2 (by omega)
 have hmx:max ((kids f).len:Int) ((kids g).len:Int)=(M:Int):=by omega
 have ew:IntKind.i64.wrap ((n:Int)+1 - 1)=(n:Int):=by rw [IntWalk.i64_in _ (by omega)];omega
 have ew2:IntKind.i64.wrap (n:Int)=(n:Int):=IntWalk.i64_in _ (by omega)
 have t0:=(((Trio.new w (.bool false) (.slice none 0 0) (.slice B (kids f).len c)).bel (bRr.alloc lRr (.cells #[.bool false,.slice none 0 0,.slice D (kids g).len d] 51))).bel (bRr.alloc lRr (.cells #[.bool false,.slice none 0 0,.slice none 0 0] 51))).bel (bRr.alloc lRr (.cells #[.bool false,.slice none 0 0,.slice none 0 0] 51))
 have t1:=((Trio.new (w.alloc (.cells #[.bool false,.slice none 0 0,.slice B (kids f).len c] 51)) (.bool false) (.slice none 0 0) (.slice D (kids g).len d)).bel (bRr.alloc lRr (.cells #[.bool false,.slice none 0 0,.slice none 0 0] 51))).bel (bRr.alloc lRr (.cells #[.bool false,.slice none 0 0,.slice none 0 0] 51))
 have t2:=(Trio.new ((w.alloc (.cells #[.bool false,.slice none 0 0,.slice B (kids f).len c] 51)).alloc (.cells #[.bool false,.slice none 0 0,.slice D (kids g).len d] 51)) (.bool false) (.slice none 0 0) (.slice none 0 0)).bel (bRr.alloc lRr (.cells #[.bool false,.slice none 0 0,.slice none 0 0] 51))
 have t3:=Trio.new (((w.alloc (.cells #[.bool false,.slice none 0 0,.slice B (kids f).len c] 51)).alloc (.cells #[.bool false,.slice none 0 0,.slice D (kids g).len d] 51)).alloc (.cells #[.bool false,.slice none 0 0,.slice none 0 0] 51)) (.bool false) (.slice none 0 0) (.slice none 0 0)
 rw [World.size_alloc] at t1
 rw [World.size_alloc,World.size_alloc] at t2
 rw [World.size_alloc,World.size_alloc,World.size_alloc] at t3
 have hb:Below w.heap.size w ((((w.alloc (.cells #[.bool false,.slice none 0 0,.slice B (kids f).len c] 51)).alloc (.cells #[.bool false,.slice none 0 0,.slice D (kids g).len d] 51)).alloc (.cells #[.bool false,.slice none 0 0,.slice none 0 0] 51)).alloc (.cells #[.bool false,.slice none 0 0,.slice none 0 0] 51)):=(((bRr.alloc lRr _).alloc (by simp) _).alloc (by simp;omega) _).alloc (by simp;omega) _
 have hsz:((((w.alloc (.cells #[.bool false,.slice none 0 0,.slice B (kids f).len c] 51)).alloc (.cells #[.bool false,.slice none 0 0,.slice D (kids g).len d] 51)).alloc (.cells #[.bool false,.slice none 0 0,.slice none 0 0] 51)).alloc (.cells #[.bool false,.slice none 0 0,.slice none 0 0] 51)).heap.size=w.heap.size+1+1+1+1:=by simp
 have k0:=t0.cell2
 have k1:=t1.cell2
 have H3:=hiD h3
 have I3:=hiD i3
 clear h3 i3 hf hg
 unfold treV
 go_enter Tryz.func85,Tryz.ntmps85
 go_wp2_with fail
 generalize hwt:(((w.alloc (.cells #[.bool false,.slice none 0 0,.slice B (kids f).len c] 51)).alloc (.cells #[.bool false,.slice none 0 0,.slice D (kids g).len d] 51)).alloc (.cells #[.bool false,.slice none 0 0,.slice none 0 0] 51)).alloc (.cells #[.bool false,.slice none 0 0,.slice none 0 0] 51)=wt at*
 clear hwt
 have T0:=hiD t0
 have T1:=hiD t1
 have T2:=hiD t2
 have T3:=hiD t3
 have HB:=hiD hb
 have hM1:Hid (∀i,M≤i→(kids f).co i - (kids g).co i=0):=fun i hi=>by rw [Poly.len_sh _ i (by omega),Poly.len_sh _ i (by omega),CRing.sub_self]
 clear t0 t1 t2 t3 hb k0 k1
 go_loopw [26] (fun i wr=>∃(k:Nat) (E:List KE) (ov:Value),k≤M∧i=.int .i64 (k:Int)∧Hid (E.length=k)∧Hid (TOut 51 (fun b=>S b∧b<w.heap.size) (fun b=>b=w.heap.size+1+1+1∨b=w.heap.size+1+1) w wt.heap.size wr n ov E (fun i=>(kids f).co i - (kids g).co i))∧Hid (Trio wr (w.heap.size+1+1+1) (.bool false) (.slice none 0 0) ov)∧Hid (Only (fun b=>b=w.heap.size+1+1+1∨wt.heap.size≤b) wt wr)) (fun i _=>M - (intOf i).toNat)
 case atStart=>exact ⟨0,[],.slice none 0 0,Nat.zero_le _,rfl,rfl,TOut.start _ _ _ _ HB.out HB.out.size,T3.out,Only.refl _ _⟩
 case round=>
  obtain ⟨k,E,ov,hk,rfl,hE,hO,hT,hon⟩:=hrel;obtain ⟨wp,rfl⟩:∃wp:World,wp=wr:=⟨_,rfl⟩;have hX:Hid (∀b,(b=w.heap.size+1+1+1∨b=w.heap.size+1+1)→w.heap.size≤b∧b<wt.heap.size):=fun b hb=>by omega
  have P0:Hid (Trio wp w.heap.size (.bool false) (.slice none 0 0) (.slice B (kids f).len c)):=T0.out.keep (hon.out.block _ T0.out.lt (by omega));have P1:Hid (Trio wp (w.heap.size+1) (.bool false) (.slice none 0 0) (.slice D (kids g).len d)):=T1.out.keep (hon.out.block _ T1.out.lt (by omega));have P2:Hid (Trio wp (w.heap.size+1+1) (.bool false) (.slice none 0 0) (.slice none 0 0)):=T2.out.keep (hon.out.block _ T2.out.lt (by omega));have HBp:Hid (Below w.heap.size w wp):=hO.out.bel;by_cases hlt:k<M
  · have hlt':(k:Int)<(M:Int):=by omega
    have p0:=P0.out.cell2;have p1:=P1.out.cell2;have hs0:=P0.out.lt;have hs1:=P1.out.lt;have hsw:=HBp.out.size;by_cases hf:k<(kids f).len
    · obtain ⟨b,o,rfl,hb,hl,hkid⟩:=H3.out (by omega)
      obtain ⟨s1,A1,k1,c1,B1,m1,d1,e1,e2,e3,e4⟩:=hkid k hf;(have hf':(k:Int)<((kids f).len:Int):=by omega);(have hk0:(0:Int)≤(k:Int):=by omega);have g1:=(HBp.out.cell (p:=⟨b,o+k*3,none⟩) hl).trans e1;have g2:=(HBp.out.cell (p:=⟨b,o+k*3+1,none⟩) hl).trans e2;have g3:=(HBp.out.cell (p:=⟨b,o+k*3+2,none⟩) hl).trans e3;(have hlb:b<wp.heap.size:=by omega);have E4:=hiD (e4.bel HBp.out);clear hkid e1 e2 e3 e4;by_cases hg:k<(kids g).len
      · obtain ⟨b',o',rfl,hb',hl',hkid'⟩:=I3.out (by omega)
        obtain ⟨s2,A2,k2,c2,B2,m2,d2,e1,e2,e3,e5⟩:=hkid' k hg;(have hg':(k:Int)<((kids g).len:Int):=by omega);have j1:=(HBp.out.cell (p:=⟨b',o'+k*3,none⟩) hl').trans e1;have j2:=(HBp.out.cell (p:=⟨b',o'+k*3+1,none⟩) hl').trans e2;have j3:=(HBp.out.cell (p:=⟨b',o'+k*3+2,none⟩) hl').trans e3;(have hlb':b'<wp.heap.size:=by omega);have E5:=hiD (e5.bel HBp.out);clear hkid' e1 e2 e3 e5;have tX:=(Trio.new wp (.bool s1) (.slice A1 k1 c1) (.slice B1 m1 d1)).bel (bRr.alloc lRr (.cells #[.bool s2,.slice A2 k2 c2,.slice B2 m2 d2] 51));have tY:=Trio.new (wp.alloc (.cells #[.bool s1,.slice A1 k1 c1,.slice B1 m1 d1] 51)) (.bool s2) (.slice A2 k2 c2) (.slice B2 m2 d2);rw [World.size_alloc] at tY;have hbq:Below wp.heap.size wp ((wp.alloc (.cells #[.bool s1,.slice A1 k1 c1,.slice B1 m1 d1] 51)).alloc (.cells #[.bool s2,.slice A2 k2 c2,.slice B2 m2 d2] 51)):=(bRr.alloc lRr _).alloc (by simp) _;have hTX:Hid (TreW (fun b=>S b∧b<w.heap.size) n wp (.agg #[.bool s1,.slice A1 k1 c1,.slice B1 m1 d1]) ((kids f).co k)):=E4.out;have hTY:Hid (TreW (fun b=>S b∧b<w.heap.size) n wp (.agg #[.bool s2,.slice A2 k2 c2,.slice B2 m2 d2]) ((kids g).co k)):=E5.out;have hoX:Only (fun b=>wp.heap.size≤b) wp ((wp.alloc (.cells #[.bool s1,.slice A1 k1 c1,.slice B1 m1 d1] 51)).alloc (.cells #[.bool s2,.slice A2 k2 c2,.slice B2 m2 d2] 51)):=Only.of_below hbq;(go_wp2_with fail);generalize hwq:(wp.alloc (.cells #[.bool s1,.slice A1 k1 c1,.slice B1 m1 d1] 51)).alloc (.cells #[.bool s2,.slice A2 k2 c2,.slice B2 m2 d2] 51)=wq at*
        clear hwq;have tO:=hT.out.bel hbq;have HO:=hiD (hO.out.bel2 hbq);have cx0:=tX.cell0;have cx1:=tX.cell1;have cx2:=tX.cell2;have cy0:=tY.cell0;have cy1:=tY.cell1;have cy2:=tY.cell2;have co2:=tO.cell2;have hsq:=hbq.size;have Cl:=hiD (fun W (hW:Below wq.heap.size wq W)=>ih (fun b=>S b∧b<w.heap.size) W _ _ _ _ ((hTX.out.bel hbq).bel hW) ((hTY.out.bel hbq).bel hW) (Nat.lt_of_le_of_lt (nmP_C_leT f k) nf) (Nat.lt_of_le_of_lt (nmP_C_leT g k) ng) (Lf.out k) (Lg.out k));have HT:=hiD tO;(have q1:E.length+1≤maxLen:=by have:=hE.out;unfold maxLen;omega);(have q2:(E.length+1)*56≤140737488355328:=by have:=hE.out;omega);have HOW:=hiD (fun W (hW:Below wq.heap.size wq W)=>(HO.out.bel2 hW).own);(have hszo:Hid (∀(W:World) (ob:Obj),Below wq.heap.size wq W→wt.heap.size≤(W.alloc ob).heap.size):=fun W ob hW=>by have:=hW.size;have:=hon.out.size;simp;omega);have hlo:Hid (∀j,ov.ownBlock=some j→wt.heap.size≤j):=fun j hj=>(hO.out.own.lt j hj).1;have F:Hid (∀(w7 w8:World) (x:KE) (gg cap:Nat),Below wq.heap.size wq w7→TreW (fun b=>(S b∧b<w.heap.size)∨wq.heap.size≤b) n w7 x.v ((kids f).co k - (kids g).co k)→w8.ownsRow wt.heap.size 51 3 (.slice (some ⟨gg,0,none⟩) (E.length+1) cap) (E.length+1) (kcells E++kcell x)→(w7.alloc (.cells #[.bool x.s,.slice x.A x.k x.c,.slice x.B x.m x.d] 51)).grownBy w8 ov.ownBlock→(ov.ownBlock=some gg∨gg=w7.heap.size+1)→
         Trio w8 (w.heap.size+1+1+1) (.bool false) (.slice none 0 0) ov∧TOut 51 (fun b=>S b∧b<w.heap.size) (fun b=>b=w.heap.size+1+1+1∨b=w.heap.size+1+1) w wt.heap.size (w8.setCell ⟨w.heap.size+1+1+1,2,none⟩ (.slice (some ⟨gg,0,none⟩) (E.length+1) cap)) n (.slice (some ⟨gg,0,none⟩) (E.length+1) cap) (E++[x]) (fun i=>(kids f).co i - (kids g).co i)∧Only (fun b=>b=w.heap.size+1+1+1∨wt.heap.size≤b) wt (w8.setCell ⟨w.heap.size+1+1+1,2,none⟩ (.slice (some ⟨gg,0,none⟩) (E.length+1) cap))):=fun w7 w8 x gg cap hb7 hx hown hgr hat=>by
         have a7:Below w7.heap.size w7 (w7.alloc (.cells #[.bool x.s,.slice x.A x.k x.c,.slice x.B x.m x.d] 51)):=bRr.alloc lRr _;have o8:Only (fun b=>ov.ownBlock=some b) (w7.alloc (.cells #[.bool x.s,.slice x.A x.k x.c,.slice x.B x.m x.d] 51)) w8:=(Only.of_grown hgr).mono (fun i hi=>by first | exact hi | exact hi.symm);have t8:Trio w8 (w.heap.size+1+1+1) (.bool false) (.slice none 0 0) ov:=by
          have t7:=((HT.out.bel hb7).bel a7);exact t7.keep (o8.block _ t7.lt fun e=>by have:=hlo.out _ e;omega)
         have hnx:=HO.out.next (x:=x) (o:=(.cells #[.bool x.s,.slice x.A x.k x.c,.slice x.B x.m x.d] 51)) (fun b hb=>hb.2) (fun b hb=>by have:=hX.out b hb;have:=hon.out.size;omega) hb7 (by rw [hE.out];exact hx) hown hgr hat rfl;refine ⟨t8,hnx.box ((Only.refl (fun b=>b=w.heap.size+1+1+1∨b=w.heap.size+1+1) w8).setCell (p:=⟨w.heap.size+1+1+1,2,none⟩) (.inl rfl) _) (fun b hb=>hX.out b hb),?_⟩;have r0:=hon.out.size;have r1:Only (fun b=>b=w.heap.size+1+1+1∨wt.heap.size≤b) wp wq:=(Only.of_below hbq).mono fun b hb=> .inr (by omega);have r2:Only (fun b=>b=w.heap.size+1+1+1∨wt.heap.size≤b) wq w7:=(Only.of_below hb7).mono fun b hb=> .inr (by omega);have r4:Only (fun b=>b=w.heap.size+1+1+1∨wt.heap.size≤b) (w7.alloc (.cells #[.bool x.s,.slice x.A x.k x.c,.slice x.B x.m x.d] 51)) w8:=o8.mono fun b hb=> .inr (hlo.out b hb);exact ((((hon.out.trans r1).trans r2).alloc _).trans r4).setCell (p:=⟨w.heap.size+1+1+1,2,none⟩) (.inl rfl) _
        clear tX tY hTX hTY hT hO hon tO hbq HO hoX;unfold treV at Cl;go_region_with (go_at_call 85;refine (Cl.out _ (by first | exact bRr.drew | exact bRr)).mono ?_;rintro e w7 ⟨s7,A7,k7,c7,B7,m7,d7,rfl,hv7,hb7'⟩;unfold treV;have hb7:Below wq.heap.size wq w7:=(by first | exact bRr.drew.trans hb7' | exact hb7');have cO:=(HT.out.bel hb7).cell2;have fO:=(HT.out.bel hb7).frozen 2;have lO:=(HT.out.bel hb7).lt;obtain ⟨gg,cap,w8,hrun8,hown8,hgrow,hat,hlt8⟩:=run_append_lies (w7.alloc (.cells #[.bool s7,.slice A7 k7 c7,.slice B7 m7 d7] 51)) 49 49 wt.heap.size 51 i0 _ 3 56 Tryz.underlying49 hi0 hz0 hz1 hz2 rfl (by omega) ov E.length (kcells E) ((HOW.out _ hb7).alloc _) ⟨w7.heap.size,0,none⟩ 1 1 [.bool s7,.slice A7 k7 c7,.slice B7 m7 d7] (by rfl) (World.news_of_block (cs:=#[.bool s7,.slice A7 k7 c7,.slice B7 m7 d7]) (t:=51) (fr:=(0,0)) (heap_alloc_new w7 _)) (by simp [Value.oneCell']) (Nat.one_pos) q1 q2 (hszo.out _ _ hb7) (w7.heap.size+1) (by simp);obtain ⟨t8,hO8,hon8⟩:=F.out w7 w8 ⟨s7,A7,k7,c7,B7,m7,d7⟩ gg cap hb7 hv7 hown8 hgrow hat;have f8:=t8.frozen 2;have c8:=t8.cell2)
        all_goals
         have T8:=hiD (t8.set2 (.slice (some ⟨gg,0,none⟩) (E.length+1) cap));have HO8:=hiD hO8;have Hon8:=hiD hon8;(have HE8:Hid ((E++[(⟨s7,A7,k7,c7,B7,m7,d7⟩:KE)]).length=k+1):=by show _=_;rw [List.length_append,hE.out];rfl);clear t8 hO8 hon8 hown8 hgrow hat hlt8 hrun8 hv7 hb7 hb7' F HOW hszo HT Cl cO fO lO f8 c8 cx0 cx1 cx2 cy0 cy1 cy2 co2 hE;(go_wp2_with fail);go_roundw
         case rel=>exact ⟨k+1,_,_,by omega,by go_num,HE8,HO8,T8,Hon8⟩
         case measure=>simp [intOf];omega
      · have hg':¬(k:Int)<((kids g).len:Int):=by omega
        have hgz:Hid ((kids g).co k=0):=Poly.len_sh _ k (by omega);have tX:=(Trio.new wp (.bool s1) (.slice A1 k1 c1) (.slice B1 m1 d1)).bel (bRr.alloc lRr (.cells #[.bool false,.slice none 0 0,.slice none 0 0] 51));have tY:=Trio.new (wp.alloc (.cells #[.bool s1,.slice A1 k1 c1,.slice B1 m1 d1] 51)) (.bool false) (.slice none 0 0) (.slice none 0 0);rw [World.size_alloc] at tY;have hbq:Below wp.heap.size wp ((wp.alloc (.cells #[.bool s1,.slice A1 k1 c1,.slice B1 m1 d1] 51)).alloc (.cells #[.bool false,.slice none 0 0,.slice none 0 0] 51)):=(bRr.alloc lRr _).alloc (by simp) _;have hTX:Hid (TreW (fun b=>S b∧b<w.heap.size) n wp (.agg #[.bool s1,.slice A1 k1 c1,.slice B1 m1 d1]) ((kids f).co k)):=E4.out;(have hTY:Hid (TreW (fun b=>S b∧b<w.heap.size) n wp (.agg #[.bool false,.slice none 0 0,.slice none 0 0]) ((kids g).co k)):=by rw [hgz.out];exact TreW.nought _ _ n);have hoX:Only (fun b=>wp.heap.size≤b) wp ((wp.alloc (.cells #[.bool s1,.slice A1 k1 c1,.slice B1 m1 d1] 51)).alloc (.cells #[.bool false,.slice none 0 0,.slice none 0 0] 51)):=Only.of_below hbq;(go_wp2_with fail);generalize hwq:(wp.alloc (.cells #[.bool s1,.slice A1 k1 c1,.slice B1 m1 d1] 51)).alloc (.cells #[.bool false,.slice none 0 0,.slice none 0 0] 51)=wq at*
        clear hwq;have tO:=hT.out.bel hbq;have HO:=hiD (hO.out.bel2 hbq);have cx0:=tX.cell0;have cx1:=tX.cell1;have cx2:=tX.cell2;have cy0:=tY.cell0;have cy1:=tY.cell1;have cy2:=tY.cell2;have co2:=tO.cell2;have hsq:=hbq.size;have Cl:=hiD (fun W (hW:Below wq.heap.size wq W)=>ih (fun b=>S b∧b<w.heap.size) W _ _ _ _ ((hTX.out.bel hbq).bel hW) ((hTY.out.bel hbq).bel hW) (Nat.lt_of_le_of_lt (nmP_C_leT f k) nf) (Nat.lt_of_le_of_lt (nmP_C_leT g k) ng) (Lf.out k) (Lg.out k));have HT:=hiD tO;(have q1:E.length+1≤maxLen:=by have:=hE.out;unfold maxLen;omega);(have q2:(E.length+1)*56≤140737488355328:=by have:=hE.out;omega);have HOW:=hiD (fun W (hW:Below wq.heap.size wq W)=>(HO.out.bel2 hW).own);(have hszo:Hid (∀(W:World) (ob:Obj),Below wq.heap.size wq W→wt.heap.size≤(W.alloc ob).heap.size):=fun W ob hW=>by have:=hW.size;have:=hon.out.size;simp;omega);have hlo:Hid (∀j,ov.ownBlock=some j→wt.heap.size≤j):=fun j hj=>(hO.out.own.lt j hj).1;have F:Hid (∀(w7 w8:World) (x:KE) (gg cap:Nat),Below wq.heap.size wq w7→TreW (fun b=>(S b∧b<w.heap.size)∨wq.heap.size≤b) n w7 x.v ((kids f).co k - (kids g).co k)→w8.ownsRow wt.heap.size 51 3 (.slice (some ⟨gg,0,none⟩) (E.length+1) cap) (E.length+1) (kcells E++kcell x)→(w7.alloc (.cells #[.bool x.s,.slice x.A x.k x.c,.slice x.B x.m x.d] 51)).grownBy w8 ov.ownBlock→(ov.ownBlock=some gg∨gg=w7.heap.size+1)→
         Trio w8 (w.heap.size+1+1+1) (.bool false) (.slice none 0 0) ov∧TOut 51 (fun b=>S b∧b<w.heap.size) (fun b=>b=w.heap.size+1+1+1∨b=w.heap.size+1+1) w wt.heap.size (w8.setCell ⟨w.heap.size+1+1+1,2,none⟩ (.slice (some ⟨gg,0,none⟩) (E.length+1) cap)) n (.slice (some ⟨gg,0,none⟩) (E.length+1) cap) (E++[x]) (fun i=>(kids f).co i - (kids g).co i)∧Only (fun b=>b=w.heap.size+1+1+1∨wt.heap.size≤b) wt (w8.setCell ⟨w.heap.size+1+1+1,2,none⟩ (.slice (some ⟨gg,0,none⟩) (E.length+1) cap))):=fun w7 w8 x gg cap hb7 hx hown hgr hat=>by
         have a7:Below w7.heap.size w7 (w7.alloc (.cells #[.bool x.s,.slice x.A x.k x.c,.slice x.B x.m x.d] 51)):=bRr.alloc lRr _;have o8:Only (fun b=>ov.ownBlock=some b) (w7.alloc (.cells #[.bool x.s,.slice x.A x.k x.c,.slice x.B x.m x.d] 51)) w8:=(Only.of_grown hgr).mono (fun i hi=>by first | exact hi | exact hi.symm);have t8:Trio w8 (w.heap.size+1+1+1) (.bool false) (.slice none 0 0) ov:=by
          have t7:=((HT.out.bel hb7).bel a7);exact t7.keep (o8.block _ t7.lt fun e=>by have:=hlo.out _ e;omega)
         have hnx:=HO.out.next (x:=x) (o:=(.cells #[.bool x.s,.slice x.A x.k x.c,.slice x.B x.m x.d] 51)) (fun b hb=>hb.2) (fun b hb=>by have:=hX.out b hb;have:=hon.out.size;omega) hb7 (by rw [hE.out];exact hx) hown hgr hat rfl;refine ⟨t8,hnx.box ((Only.refl (fun b=>b=w.heap.size+1+1+1∨b=w.heap.size+1+1) w8).setCell (p:=⟨w.heap.size+1+1+1,2,none⟩) (.inl rfl) _) (fun b hb=>hX.out b hb),?_⟩;have r0:=hon.out.size;have r1:Only (fun b=>b=w.heap.size+1+1+1∨wt.heap.size≤b) wp wq:=(Only.of_below hbq).mono fun b hb=> .inr (by omega);have r2:Only (fun b=>b=w.heap.size+1+1+1∨wt.heap.size≤b) wq w7:=(Only.of_below hb7).mono fun b hb=> .inr (by omega);have r4:Only (fun b=>b=w.heap.size+1+1+1∨wt.heap.size≤b) (w7.alloc (.cells #[.bool x.s,.slice x.A x.k x.c,.slice x.B x.m x.d] 51)) w8:=o8.mono fun b hb=> .inr (hlo.out b hb);exact ((((hon.out.trans r1).trans r2).alloc _).trans r4).setCell (p:=⟨w.heap.size+1+1+1,2,none⟩) (.inl rfl) _
        clear tX tY hTX hTY hT hO hon tO hbq HO hoX;unfold treV at Cl;go_region_with (go_at_call 85;refine (Cl.out _ (by first | exact bRr.drew | exact bRr)).mono ?_;rintro e w7 ⟨s7,A7,k7,c7,B7,m7,d7,rfl,hv7,hb7'⟩;unfold treV;have hb7:Below wq.heap.size wq w7:=(by first | exact bRr.drew.trans hb7' | exact hb7');have cO:=(HT.out.bel hb7).cell2;have fO:=(HT.out.bel hb7).frozen 2;have lO:=(HT.out.bel hb7).lt;obtain ⟨gg,cap,w8,hrun8,hown8,hgrow,hat,hlt8⟩:=run_append_lies (w7.alloc (.cells #[.bool s7,.slice A7 k7 c7,.slice B7 m7 d7] 51)) 49 49 wt.heap.size 51 i0 _ 3 56 Tryz.underlying49 hi0 hz0 hz1 hz2 rfl (by omega) ov E.length (kcells E) ((HOW.out _ hb7).alloc _) ⟨w7.heap.size,0,none⟩ 1 1 [.bool s7,.slice A7 k7 c7,.slice B7 m7 d7] (by rfl) (World.news_of_block (cs:=#[.bool s7,.slice A7 k7 c7,.slice B7 m7 d7]) (t:=51) (fr:=(0,0)) (heap_alloc_new w7 _)) (by simp [Value.oneCell']) (Nat.one_pos) q1 q2 (hszo.out _ _ hb7) (w7.heap.size+1) (by simp);obtain ⟨t8,hO8,hon8⟩:=F.out w7 w8 ⟨s7,A7,k7,c7,B7,m7,d7⟩ gg cap hb7 hv7 hown8 hgrow hat;have f8:=t8.frozen 2;have c8:=t8.cell2)
        all_goals
         have T8:=hiD (t8.set2 (.slice (some ⟨gg,0,none⟩) (E.length+1) cap));have HO8:=hiD hO8;have Hon8:=hiD hon8;(have HE8:Hid ((E++[(⟨s7,A7,k7,c7,B7,m7,d7⟩:KE)]).length=k+1):=by show _=_;rw [List.length_append,hE.out];rfl);clear t8 hO8 hon8 hown8 hgrow hat hlt8 hrun8 hv7 hb7 hb7' F HOW hszo HT Cl cO fO lO f8 c8 cx0 cx1 cx2 cy0 cy1 cy2 co2 hE;(go_wp2_with fail);go_roundw
         case rel=>exact ⟨k+1,_,_,by omega,by go_num,HE8,HO8,T8,Hon8⟩
         case measure=>simp [intOf];omega
    · have hf':¬(k:Int)<((kids f).len:Int):=by omega
      have hfz:Hid ((kids f).co k=0):=Poly.len_sh _ k (by omega);obtain ⟨b',o',rfl,hb',hl',hkid'⟩:=I3.out (by omega);obtain ⟨s2,A2,k2,c2,B2,m2,d2,e1,e2,e3,e5⟩:=hkid' k (by omega);(have hg':(k:Int)<((kids g).len:Int):=by omega);(have hk0:(0:Int)≤(k:Int):=by omega);have j1:=(HBp.out.cell (p:=⟨b',o'+k*3,none⟩) hl').trans e1;have j2:=(HBp.out.cell (p:=⟨b',o'+k*3+1,none⟩) hl').trans e2;have j3:=(HBp.out.cell (p:=⟨b',o'+k*3+2,none⟩) hl').trans e3;(have hlb':b'<wp.heap.size:=by omega);have E5:=hiD (e5.bel HBp.out);clear hkid' e1 e2 e3 e5;have tX:=(Trio.new wp (.bool false) (.slice none 0 0) (.slice none 0 0)).bel (bRr.alloc lRr (.cells #[.bool s2,.slice A2 k2 c2,.slice B2 m2 d2] 51));have tY:=Trio.new (wp.alloc (.cells #[.bool false,.slice none 0 0,.slice none 0 0] 51)) (.bool s2) (.slice A2 k2 c2) (.slice B2 m2 d2);rw [World.size_alloc] at tY;have hbq:Below wp.heap.size wp ((wp.alloc (.cells #[.bool false,.slice none 0 0,.slice none 0 0] 51)).alloc (.cells #[.bool s2,.slice A2 k2 c2,.slice B2 m2 d2] 51)):=(bRr.alloc lRr _).alloc (by simp) _;(have hTX:Hid (TreW (fun b=>S b∧b<w.heap.size) n wp (.agg #[.bool false,.slice none 0 0,.slice none 0 0]) ((kids f).co k)):=by rw [hfz.out];exact TreW.nought _ _ n);have hTY:Hid (TreW (fun b=>S b∧b<w.heap.size) n wp (.agg #[.bool s2,.slice A2 k2 c2,.slice B2 m2 d2]) ((kids g).co k)):=E5.out;have hoX:Only (fun b=>wp.heap.size≤b) wp ((wp.alloc (.cells #[.bool false,.slice none 0 0,.slice none 0 0] 51)).alloc (.cells #[.bool s2,.slice A2 k2 c2,.slice B2 m2 d2] 51)):=Only.of_below hbq;(go_wp2_with fail);generalize hwq:(wp.alloc (.cells #[.bool false,.slice none 0 0,.slice none 0 0] 51)).alloc (.cells #[.bool s2,.slice A2 k2 c2,.slice B2 m2 d2] 51)=wq at*
      clear hwq;have tO:=hT.out.bel hbq;have HO:=hiD (hO.out.bel2 hbq);have cx0:=tX.cell0;have cx1:=tX.cell1;have cx2:=tX.cell2;have cy0:=tY.cell0;have cy1:=tY.cell1;have cy2:=tY.cell2;have co2:=tO.cell2;have hsq:=hbq.size;have Cl:=hiD (fun W (hW:Below wq.heap.size wq W)=>ih (fun b=>S b∧b<w.heap.size) W _ _ _ _ ((hTX.out.bel hbq).bel hW) ((hTY.out.bel hbq).bel hW) (Nat.lt_of_le_of_lt (nmP_C_leT f k) nf) (Nat.lt_of_le_of_lt (nmP_C_leT g k) ng) (Lf.out k) (Lg.out k));have HT:=hiD tO;(have q1:E.length+1≤maxLen:=by have:=hE.out;unfold maxLen;omega);(have q2:(E.length+1)*56≤140737488355328:=by have:=hE.out;omega);have HOW:=hiD (fun W (hW:Below wq.heap.size wq W)=>(HO.out.bel2 hW).own);(have hszo:Hid (∀(W:World) (ob:Obj),Below wq.heap.size wq W→wt.heap.size≤(W.alloc ob).heap.size):=fun W ob hW=>by have:=hW.size;have:=hon.out.size;simp;omega);have hlo:Hid (∀j,ov.ownBlock=some j→wt.heap.size≤j):=fun j hj=>(hO.out.own.lt j hj).1;have F:Hid (∀(w7 w8:World) (x:KE) (gg cap:Nat),Below wq.heap.size wq w7→TreW (fun b=>(S b∧b<w.heap.size)∨wq.heap.size≤b) n w7 x.v ((kids f).co k - (kids g).co k)→w8.ownsRow wt.heap.size 51 3 (.slice (some ⟨gg,0,none⟩) (E.length+1) cap) (E.length+1) (kcells E++kcell x)→(w7.alloc (.cells #[.bool x.s,.slice x.A x.k x.c,.slice x.B x.m x.d] 51)).grownBy w8 ov.ownBlock→(ov.ownBlock=some gg∨gg=w7.heap.size+1)→
       Trio w8 (w.heap.size+1+1+1) (.bool false) (.slice none 0 0) ov∧TOut 51 (fun b=>S b∧b<w.heap.size) (fun b=>b=w.heap.size+1+1+1∨b=w.heap.size+1+1) w wt.heap.size (w8.setCell ⟨w.heap.size+1+1+1,2,none⟩ (.slice (some ⟨gg,0,none⟩) (E.length+1) cap)) n (.slice (some ⟨gg,0,none⟩) (E.length+1) cap) (E++[x]) (fun i=>(kids f).co i - (kids g).co i)∧Only (fun b=>b=w.heap.size+1+1+1∨wt.heap.size≤b) wt (w8.setCell ⟨w.heap.size+1+1+1,2,none⟩ (.slice (some ⟨gg,0,none⟩) (E.length+1) cap))):=fun w7 w8 x gg cap hb7 hx hown hgr hat=>by
       have a7:Below w7.heap.size w7 (w7.alloc (.cells #[.bool x.s,.slice x.A x.k x.c,.slice x.B x.m x.d] 51)):=bRr.alloc lRr _;have o8:Only (fun b=>ov.ownBlock=some b) (w7.alloc (.cells #[.bool x.s,.slice x.A x.k x.c,.slice x.B x.m x.d] 51)) w8:=(Only.of_grown hgr).mono (fun i hi=>by first | exact hi | exact hi.symm);have t8:Trio w8 (w.heap.size+1+1+1) (.bool false) (.slice none 0 0) ov:=by
        have t7:=((HT.out.bel hb7).bel a7);exact t7.keep (o8.block _ t7.lt fun e=>by have:=hlo.out _ e;omega)
       have hnx:=HO.out.next (x:=x) (o:=(.cells #[.bool x.s,.slice x.A x.k x.c,.slice x.B x.m x.d] 51)) (fun b hb=>hb.2) (fun b hb=>by have:=hX.out b hb;have:=hon.out.size;omega) hb7 (by rw [hE.out];exact hx) hown hgr hat rfl;refine ⟨t8,hnx.box ((Only.refl (fun b=>b=w.heap.size+1+1+1∨b=w.heap.size+1+1) w8).setCell (p:=⟨w.heap.size+1+1+1,2,none⟩) (.inl rfl) _) (fun b hb=>hX.out b hb),?_⟩;have r0:=hon.out.size;have r1:Only (fun b=>b=w.heap.size+1+1+1∨wt.heap.size≤b) wp wq:=(Only.of_below hbq).mono fun b hb=> .inr (by omega);have r2:Only (fun b=>b=w.heap.size+1+1+1∨wt.heap.size≤b) wq w7:=(Only.of_below hb7).mono fun b hb=> .inr (by omega);have r4:Only (fun b=>b=w.heap.size+1+1+1∨wt.heap.size≤b) (w7.alloc (.cells #[.bool x.s,.slice x.A x.k x.c,.slice x.B x.m x.d] 51)) w8:=o8.mono fun b hb=> .inr (hlo.out b hb);exact ((((hon.out.trans r1).trans r2).alloc _).trans r4).setCell (p:=⟨w.heap.size+1+1+1,2,none⟩) (.inl rfl) _
      clear tX tY hTX hTY hT hO hon tO hbq HO hoX;unfold treV at Cl;go_region_with (go_at_call 85;refine (Cl.out _ (by first | exact bRr.drew | exact bRr)).mono ?_;rintro e w7 ⟨s7,A7,k7,c7,B7,m7,d7,rfl,hv7,hb7'⟩;unfold treV;have hb7:Below wq.heap.size wq w7:=(by first | exact bRr.drew.trans hb7' | exact hb7');have cO:=(HT.out.bel hb7).cell2;have fO:=(HT.out.bel hb7).frozen 2;have lO:=(HT.out.bel hb7).lt;obtain ⟨gg,cap,w8,hrun8,hown8,hgrow,hat,hlt8⟩:=run_append_lies (w7.alloc (.cells #[.bool s7,.slice A7 k7 c7,.slice B7 m7 d7] 51)) 49 49 wt.heap.size 51 i0 _ 3 56 Tryz.underlying49 hi0 hz0 hz1 hz2 rfl (by omega) ov E.length (kcells E) ((HOW.out _ hb7).alloc _) ⟨w7.heap.size,0,none⟩ 1 1 [.bool s7,.slice A7 k7 c7,.slice B7 m7 d7] (by rfl) (World.news_of_block (cs:=#[.bool s7,.slice A7 k7 c7,.slice B7 m7 d7]) (t:=51) (fr:=(0,0)) (heap_alloc_new w7 _)) (by simp [Value.oneCell']) (Nat.one_pos) q1 q2 (hszo.out _ _ hb7) (w7.heap.size+1) (by simp);obtain ⟨t8,hO8,hon8⟩:=F.out w7 w8 ⟨s7,A7,k7,c7,B7,m7,d7⟩ gg cap hb7 hv7 hown8 hgrow hat;have f8:=t8.frozen 2;have c8:=t8.cell2)
      all_goals
       have T8:=hiD (t8.set2 (.slice (some ⟨gg,0,none⟩) (E.length+1) cap));have HO8:=hiD hO8;have Hon8:=hiD hon8;(have HE8:Hid ((E++[(⟨s7,A7,k7,c7,B7,m7,d7⟩:KE)]).length=k+1):=by show _=_;rw [List.length_append,hE.out];rfl);clear t8 hO8 hon8 hown8 hgrow hat hlt8 hrun8 hv7 hb7 hb7' F HOW hszo HT Cl cO fO lO f8 c8 cx0 cx1 cx2 cy0 cy1 cy2 co2 hE;(go_wp2_with fail);go_roundw
       case rel=>exact ⟨k+1,_,_,by omega,by go_num,HE8,HO8,T8,Hon8⟩
       case measure=>simp [intOf];omega
  · have hlt':¬(k:Int)<(M:Int):=by omega
    obtain ⟨B9,d9,hov,q1,q2,q3⟩:=hO.out.row (fun b hb=>(hX.out b hb).2);subst hov;(have hsh:(kids f - kids g).Sh E.length:=fun i hi=>by rw [Poly.co_sub];exact hM1.out i (by have:=hE.out;omega));(have q4:RowK (fun b=>((S b∧b<w.heap.size)∨w.heap.size≤b)∧¬(b=w.heap.size+1+1+1∨b=w.heap.size+1+1)) (fun i u=>TreW (fun b=>((S b∧b<w.heap.size)∨w.heap.size≤b)∧¬(b=w.heap.size+1+1+1∨b=w.heap.size+1+1)) n wp u ((kids f - kids g).co i)) wp B9 E.length:=by simp only [Poly.co_sub];exact q3);have Q4:=hiD q4;have Ct:=hiD (fun W (hW:Below wp.heap.size wp W)=>mtrim (fun b=>((S b∧b<w.heap.size)∨w.heap.size≤b)∧¬(b=w.heap.size+1+1+1∨b=w.heap.size+1+1)) n W B9 E.length d9 (kids f - kids g) (Q4.out.bel hW) hsh q1 q2 hn (K+1) (by omega) (fun i=>by rw [Poly.co_sub];exact Nat.lt_of_le_of_lt (nm_sub _ _) (lt_room (Nat.lt_of_le_of_lt (nmP_C_leT f i) nf) (Nat.lt_of_le_of_lt (nmP_C_leT g i) ng))));have t70:=hT.out.cell0;have t71:=hT.out.cell1;have t72:=hT.out.cell2;clear q3 q4 hsh hE hO hon;unfold treV at Ct;(go_wp2_with fail);refine (Ct.out _ bRr).mono ?_;rintro e w1 ⟨s1,A1,k1,c1,B1,m1,d1,rfl,hv1,hb1⟩;have T3':=hiD (P2.out.bel hb1);have r0:=T3'.out.cell0;have r1:=T3'.out.cell1;have r2:=T3'.out.cell2;have r3:=T3'.out.frozen 0;have r4:=T3'.out.frozen 1;have r5:=T3'.out.frozen 2;have F:Hid (TreW (fun b=>S b∨w.heap.size≤b) (n+1) (((w1.setCell ⟨w.heap.size+1+1,0,none⟩ (.bool s1)).setCell ⟨w.heap.size+1+1,1,none⟩ (.slice A1 k1 c1)).setCell ⟨w.heap.size+1+1,2,none⟩ (.slice B1 m1 d1)) (treV s1 A1 k1 c1 B1 m1 d1) (f - g)):=
     TreW.only (trio_only w1 (w.heap.size+1+1) _ _ _) (fun b hb e=>by
      have h9:=P2.out.lt;rcases hb with hb | hb
      · exact hb.2 (.inr e)
      · omega) (fun b hb=>by
      have h9:=HBp.out.size;rcases hb with hb | hb
      · rcases hb.1 with h | h
        · exact .inl h.1
        · exact .inr h
      · exact .inr (by omega)) hv1
    have hb2:Below w.heap.size w w1:=HBp.out.tm hb1;have hb':Hid (Below w.heap.size w (((w1.setCell ⟨w.heap.size+1+1,0,none⟩ (.bool s1)).setCell ⟨w.heap.size+1+1,1,none⟩ (.slice A1 k1 c1)).setCell ⟨w.heap.size+1+1,2,none⟩ (.slice B1 m1 d1))):=((hb2.setCell (p:=⟨w.heap.size+1+1,0,none⟩) (by show _≤w.heap.size+1+1;omega) _).setCell (p:=⟨w.heap.size+1+1,1,none⟩) (by show _≤w.heap.size+1+1;omega) _).setCell (p:=⟨w.heap.size+1+1,2,none⟩) (by show _≤w.heap.size+1+1;omega) _;clear hv1 hb1 hb2 Ct;unfold treV;(go_wp2_with fail);exact bodyPost_ret (v:=.agg #[.bool s1,.slice A1 k1 c1,.slice B1 m1 d1]) (results_cell_row (fn:=Tryz.f85) rfl _ _ _ _ _ _ _ rfl (T3'.out.set (.bool s1) (.slice A1 k1 c1) (.slice B1 m1 d1)) Tryz.underlying51 rfl apoly_size) rfl
     ⟨s1,A1,k1,c1,B1,m1,d1,rfl,F.out,hb'.out⟩
theorem mless (K:Nat) (hK:K≤3900000000000):∀n,n≤100→LessN n K
 | 0,_=>fun S w u v f g hf hg nf ng _ _=>mless0 S w u v f g hf hg K hK nf ng
 | n+1,hn=>fun S w u v f g hf hg nf ng kf kg=>by
   have h:=mlessS n K hK (by omega) (mless K hK n (by omega)) S w u v f g hf hg nf ng kf kg;rw [Int.natCast_add];exact h
end Go.Proofs.YtehcoffbiplphaaGreat
namespace Go.Proofs.YtehcoffbiplphaaGreat
open Go.RowKit Cl CRing
attribute [local go_sem ↓] Go.wp_at_zero Go.wp_at_succ
theorem mtimes0 (S:Nat→Prop) (w:World) (u v:Value) (f g:Pn 0) (hf:TreW S 0 w u f) (hg:TreW S 0 w v g) (K:Nat) (hK:K≤3900000000000) (nf:Siz.nm f<2^(64*K)) (ng:Siz.nm g<2^(64*K)):
 Calls Tryz.prog 86 #[u,.int .i64 0,v] w (GivesTr S w 0 (f*g)):=by
 obtain ⟨s,A,k,c,xs,rfl,h1,h2,h3,h4,_⟩:=hf
 obtain ⟨t,B,m,d,ys,rfl,i1,i2,i3,i4,_⟩:=hg
 have hk:k≤K:=by have h5:=h4.cap (K:=K) nf;have h6:=h3.len;omega
 have hm:m≤K:=by have h5:=i4.cap (K:=K) ng;have h6:=i3.len;omega
 have Cs:=hiD (fun W (hW:Below w.heap.size w W)=>zmulF s t A B k m c d xs ys W (h3.bel hW) (i3.bel hW) h1 h2 i1 i2 (by omega) (by omega))
 rw [h4.eq,i4.eq] at Cs
 have hb:Below w.heap.size w (((w.alloc (.cells #[.bool s,.slice A k c,.slice none 0 0] 51)).alloc (.cells #[.bool t,.slice B m d,.slice none 0 0] 51)).alloc (.cells #[.bool false,.slice none 0 0,.slice none 0 0] 51)):=((bRr.alloc lRr _).alloc (by simp) _).alloc (by simp;omega) _
 have t2:=Trio.new ((w.alloc (.cells #[.bool s,.slice A k c,.slice none 0 0] 51)).alloc (.cells #[.bool t,.slice B m d,.slice none 0 0] 51)) (.bool false) (.slice none 0 0) (.slice none 0 0)
 rw [World.size_alloc,World.size_alloc] at t2
 have T2:=hiD t2
 have HB:=hiD hb
 clear h3 h4 i3 i4 nf ng hb t2
 unfold treV
 go_enter Tryz.func86,Tryz.ntmps86
 go_wp2_with fail
 refine (Cs.out _ (by exact HB.out)).mono ?_
 rintro e w1 ⟨s1,A1,k1,c1,ls,rfl,q1,q2,q3,q4,q5,q6,hb1⟩
 have T3:=hiD (T2.out.bel hb1)
 have r0:=T3.out.cell0
 have r1:=T3.out.cell1
 have r2:=T3.out.cell2
 have r3:=T3.out.frozen 0
 have r4:=T3.out.frozen 1
 have r5:=T3.out.frozen 2
 have hs3:(((w.alloc (.cells #[.bool s,.slice A k c,.slice none 0 0] 51)).alloc (.cells #[.bool t,.slice B m d,.slice none 0 0] 51)).alloc (.cells #[.bool false,.slice none 0 0,.slice none 0 0] 51)).heap.size=w.heap.size+1+1+1:=by simp
 have F:Hid (TreW (fun b=>S b∨w.heap.size≤b) 0 (((w1.setCell ⟨w.heap.size+1+1,0,none⟩ (.bool s1)).setCell ⟨w.heap.size+1+1,1,none⟩ (.slice A1 k1 c1)).setCell ⟨w.heap.size+1+1,2,none⟩ (.slice none 0 0)) (treV s1 A1 k1 c1 none 0 0) (f*g)):=
  TreW.num q1 q2 (limbs_onlyT q4 (trio_only w1 (w.heap.size+1+1) _ _ _) fun h0 y hy e=>by have:=q6 h0 y hy;omega) q5 fun h0 y hy=> .inr (by have:=q6 h0 y hy;omega)
 have hb2:Below w.heap.size w w1:=HB.out.tm hb1
 have hb':Hid (Below w.heap.size w (((w1.setCell ⟨w.heap.size+1+1,0,none⟩ (.bool s1)).setCell ⟨w.heap.size+1+1,1,none⟩ (.slice A1 k1 c1)).setCell ⟨w.heap.size+1+1,2,none⟩ (.slice none 0 0))):=((hb2.setCell (p:=⟨w.heap.size+1+1,0,none⟩) (by show _≤w.heap.size+1+1;omega) _).setCell (p:=⟨w.heap.size+1+1,1,none⟩) (by show _≤w.heap.size+1+1;omega) _).setCell (p:=⟨w.heap.size+1+1,2,none⟩) (by show _≤w.heap.size+1+1;omega) _
 clear q3 q4 q5 q6 hb1 Cs hs3 HB hb2
 go_wp2_with fail
 exact bodyPost_ret (v:=.agg #[.bool s1,.slice A1 k1 c1,.slice none 0 0]) (results_cell_row (fn:=Tryz.f86) rfl _ _ _ _ _ _ _ rfl (T3.out.set (.bool s1) (.slice A1 k1 c1) (.slice none 0 0)) Tryz.underlying51 rfl apoly_size) rfl
  ⟨s1,A1,k1,c1,none,0,0,rfl,F.out,hb'.out⟩
theorem mtimesZ (n:Nat) (hn:n≤100) (S:Nat→Prop) (w:World) (u v:Value) (f g:Pn (n+1)) (hf:TreW S (n+1) w u f) (hg:TreW S (n+1) w v g) (h0:f=0∨g=0):
 Calls Tryz.prog 86 #[u,.int .i64 ((n:Int)+1),v] w (GivesTr S w (n+1) (f*g)):=by
 obtain ⟨B,c,rfl,h1,h2,h3⟩:=hf.here
 obtain ⟨D,d,rfl,i1,i2,i3⟩:=hg.here
 have hz:(((n:Int)+1)==0)=false:=beq_eq_false_iff_ne.2 (by omega)
 have e0:f*g=0:=by
  rcases h0 with rfl | rfl
  · exact CRing.zero_mul _
  · exact CRing.mul_zero _
 rw [e0]
 obtain ⟨a,ha⟩:∃a:Bool,(((kids f).len:Int)==0)=a:=⟨_,rfl⟩
 obtain ⟨b,hb⟩:∃b:Bool,(((kids g).len:Int)==0)=b:=⟨_,rfl⟩
 have hab:a=true∨b=true:=by
  rcases h0 with rfl | rfl
  · left;rw [← ha];have:(kids (0:Pn (n+1))).len=0:=len_zero_iff.2 rfl;rw [this];rfl
  · right;rw [← hb];have:(kids (0:Pn (n+1))).len=0:=len_zero_iff.2 rfl;rw [this];rfl
 have hbl:Below w.heap.size w (((w.alloc (.cells #[.bool false,.slice none 0 0,.slice B (kids f).len c] 51)).alloc (.cells #[.bool false,.slice none 0 0,.slice D (kids g).len d] 51)).alloc (.cells #[.bool false,.slice none 0 0,.slice none 0 0] 51)):=((bRr.alloc lRr _).alloc (by simp) _).alloc (by simp;omega) _
 have t2:=Trio.new ((w.alloc (.cells #[.bool false,.slice none 0 0,.slice B (kids f).len c] 51)).alloc (.cells #[.bool false,.slice none 0 0,.slice D (kids g).len d] 51)) (.bool false) (.slice none 0 0) (.slice none 0 0)
 rw [World.size_alloc,World.size_alloc] at t2
 have T2:=hiD t2
 have HB:=hiD hbl
 clear h3 i3 hf hg hbl t2 h0 e0
 unfold treV
 go_enter Tryz.func86,Tryz.ntmps86
 cases a
 · cases b
   · simp at hab
   · go_wp2_with fail
     exact bodyPost_ret (v:=.agg #[.bool false,.slice none 0 0,.slice none 0 0]) (results_cell_row (fn:=Tryz.f86) rfl _ _ _ _ _ _ _ rfl T2.out Tryz.underlying51 rfl apoly_size) rfl ⟨false,none,0,0,none,0,0,rfl,TreW.nought _ _ (n+1),HB.out⟩
 · cases b
   · go_wp2_with fail
     exact bodyPost_ret (v:=.agg #[.bool false,.slice none 0 0,.slice none 0 0]) (results_cell_row (fn:=Tryz.f86) rfl _ _ _ _ _ _ _ rfl T2.out Tryz.underlying51 rfl apoly_size) rfl ⟨false,none,0,0,none,0,0,rfl,TreW.nought _ _ (n+1),HB.out⟩
   · go_wp2_with fail
     exact bodyPost_ret (v:=.agg #[.bool false,.slice none 0 0,.slice none 0 0]) (results_cell_row (fn:=Tryz.f86) rfl _ _ _ _ _ _ _ rfl T2.out Tryz.underlying51 rfl apoly_size) rfl ⟨false,none,0,0,none,0,0,rfl,TreW.nought _ _ (n+1),HB.out⟩
end Go.Proofs.YtehcoffbiplphaaGreat
