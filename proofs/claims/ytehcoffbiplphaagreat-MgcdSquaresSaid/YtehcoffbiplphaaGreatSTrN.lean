/- Contract: the quotient of two trees, where there is no rest (printed by gen/mby.py). -/
import Derived.Test.YtehcoffbiplphaaGreatSTrK
set_option linter.unusedVariables false
set_option linter.unusedSimpArgs false
set_option maxHeartbeats 16000000
set_option maxRecDepth 100000
namespace Cl
open CRing
namespace Poly
section
variable {R : Type} [Dom R] {f q : Poly R} {m : Nat}
theorem cut_len (m:Nat) (f:Poly R):cut (cut m f).len f=cut m f:=ext fun i=>by
 rw [co_cut]
 split
 · rename_i h
   have h1:=len_le (cut_sh m f);rw [co_cut,if_pos (by omega)]
 · rename_i h
   rw [len_sh (cut m f) i (by omega)]
theorem cut_lc (h:cut m f≠0):(cut m f).lc=f.co ((cut m f).len - 1):=by
 have h1:=len_pos h
 have h2:=len_le (cut_sh m f)
 show (cut m f).co _=_
 rw [co_cut,if_pos (by omega)]
theorem cut_next (h:cut m f≠0):cut m f=cut ((cut m f).len - 1) f+mono ((cut m f).len - 1) (f.co ((cut m f).len - 1)):=by
 have h1:=len_pos h
 have h2:=cut_succ ((cut m f).len - 1) f
 rw [show (cut m f).len - 1+1=(cut m f).len by omega,cut_len] at h2
 exact h2
theorem cut_step (h:cut m f≠0) (q:Poly R):cut m f*q - mono ((cut m f).len - 1) (f.co ((cut m f).len - 1))*q=cut ((cut m f).len - 1) f*q:=by
 have h1:=congrArg (fun x=>x*q) (cut_next h)
 simp only [CRing.add_mul] at h1
 rw [h1,add_sub_cancel]
theorem cut_co {i:Nat}(h1:(cut m f).len≤i) (h2:i<m):f.co i=0:=by
 have h:=len_sh (cut m f) i h1
 rwa [co_cut,if_pos h2] at h
end
section
variable {R : Type} [Siz R] {f : Poly R}
theorem dgP_cut {D:Nat→Nat}(h:dgP D f) (m:Nat):dgP D (cut m f):=⟨fun i hi=>by
 rw [co_cut,h.1 i hi]
 split<;>rfl,fun i=>cut_dg h.2 m i⟩
end
end Poly
end Cl
namespace Go.Proofs.YtehcoffbiplphaaGreat
open Go.RowKit Cl CRing
attribute [local go_sem ↓] Go.wp_at_zero Go.wp_at_succ
def ByN (n K:Nat):Prop:=∀(S:Nat→Prop) (w:World) (u v:Value) (z q:Pn n) (D E:Nat→Nat),TreW S n w u (z*q)→TreW S n w v q→q≠0→Siz.dg D z→Siz.dg E q→(∀j,D j+E j<1000000000000)→Siz.nm z<2^(64*K)→Siz.nm q<2^(64*K)→Siz.nm z*Siz.nm q<2^(64*K)→Calls Tryz.prog 53 #[u,.int .i64 (n:Int),v] w (GivesTr S w n z)
theorem mby0 (K:Nat) (hK:K≤3900000000000):ByN 0 K:=by
 intro S w u v z q _ _ hf hg q0 _ _ _ nz nq nzq
 obtain ⟨s,A,k,c,xs,rfl,h1,h2,h3,h4,_⟩:=hf
 obtain ⟨t,B,m,d,ys,rfl,i1,i2,i3,i4,_⟩:=hg
 have hk:k≤K:=by have h5:=h4.cap (K:=K) (Nat.lt_of_le_of_lt (Siz.nm_mul (R:=Pn 0) z q) nzq);have h6:=h3.len;omega
 have hm:m≤K:=by have h5:=i4.cap (K:=K) nq;have h6:=i3.len;omega
 have hq0:toZ q≠0:=fun e=>q0 e
 have hy0:0<limbs ys:=by
  rcases Nat.eq_zero_or_pos (limbs ys) with h | h
  · exfalso
    apply hq0;rw [← i4.eq];unfold intZ;rw [h];cases t<;>rfl
  · exact h
 have hmod:intZ s xs % intZ t ys=0:=by rw [h4.eq,i4.eq,toZ_mul];exact Int.mul_emod_left _ _
 have hdiv:intZ s xs / intZ t ys=toZ z:=by rw [h4.eq,i4.eq,toZ_mul];exact Int.mul_ediv_cancel _ hq0
 have Cs:=hiD (fun W (hW:Below w.heap.size w W)=>zexactG s t A B k m c d xs ys W (h3.bel hW) (i3.bel hW) h1 h2 i1 i2 (by omega) (by omega) hy0)
 unfold ExactZ at Cs
 rw [hmod,hdiv] at Cs
 have hb:Below w.heap.size w (((w.alloc (.cells #[.bool s,.slice A k c,.slice none 0 0] 51)).alloc (.cells #[.bool t,.slice B m d,.slice none 0 0] 51)).alloc (.cells #[.bool false,.slice none 0 0,.slice none 0 0] 51)):=((bRr.alloc lRr _).alloc (by simp) _).alloc (by simp;omega) _
 have t2:=Trio.new ((w.alloc (.cells #[.bool s,.slice A k c,.slice none 0 0] 51)).alloc (.cells #[.bool t,.slice B m d,.slice none 0 0] 51)) (.bool false) (.slice none 0 0) (.slice none 0 0)
 rw [World.size_alloc,World.size_alloc] at t2
 have T2:=hiD t2
 have HB:=hiD hb
 clear h3 h4 i3 i4 nz nq nzq hb t2 hmod hdiv
 unfold treV
 show Calls _ _ #[_,.int .i64 0,_] _ _
 go_enter Tryz.func53,Tryz.ntmps53
 go_wp2_with fail
 refine (Cs.out _ (by exact HB.out)).mono ?_
 rintro e w1 ⟨s1,A1,k1,c1,ls,rfl,_,q1,q2,q4,q5,q6,hb1⟩
 have T3:=hiD (T2.out.bel hb1)
 have hs3:(((w.alloc (.cells #[.bool s,.slice A k c,.slice none 0 0] 51)).alloc (.cells #[.bool t,.slice B m d,.slice none 0 0] 51)).alloc (.cells #[.bool false,.slice none 0 0,.slice none 0 0] 51)).heap.size=w.heap.size+1+1+1:=by simp
 have r0:=T3.out.cell0
 have r1:=T3.out.cell1
 have r2:=T3.out.cell2
 have r3:=T3.out.frozen 0
 have r4:=T3.out.frozen 1
 have r5:=T3.out.frozen 2
 have hb2:Below w.heap.size w w1:=HB.out.tm hb1
 have hlw1:=(T2.out.bel hb1).lt
 go_wp2_with fail
 have F:Hid (TreW (fun b=>S b∨w.heap.size≤b) 0 (((w1.setCell ⟨w.heap.size+1+1,0,none⟩ (.bool s1)).setCell ⟨w.heap.size+1+1,1,none⟩ (.slice A1 k1 c1)).setCell ⟨w.heap.size+1+1,2,none⟩ (.slice none 0 0)) (treV s1 A1 k1 c1 none 0 0) z):=
  TreW.num q1 q2 (limbs_onlyT q4 (trio_only _ (w.heap.size+1+1) _ _ _) fun h0 y hy e=>by have:=q6 h0 y hy;omega) (q5 trivial) fun h0 y hy=> .inr (by have:=q6 h0 y hy;omega)
 have hb':=bel_trio hb2 (show w.heap.size≤w.heap.size+1+1 by omega) (.bool s1) (.slice A1 k1 c1) (.slice none 0 0)
 exact bodyPost_ret (v:=.agg #[.bool s1,.slice A1 k1 c1,.slice none 0 0]) (results_cell_row (fn:=Tryz.f53) rfl _ _ _ _ _ _ _ rfl ((T3.out.set (.bool s1) (.slice A1 k1 c1) (.slice none 0 0)).bel (bRr.alloc lRr _)) Tryz.underlying51 rfl apoly_size) rfl
  ⟨s1,A1,k1,c1,none,0,0,rfl,F.out.bel (bRr.alloc lRr _),hb'.alloc hb'.size _⟩
theorem mbyS (n K:Nat) (hK:K≤3900000000000) (hn:n≤98) (ih:ByN n K) (S:Nat→Prop) (w:World) (u v:Value) (z q:Pn (n+1)) (D Eq:Nat→Nat) (hf:TreW S (n+1) w u (z*q)) (hq:TreW S (n+1) w v q) (q0:q≠0) (dz:Siz.dg D z) (dq:Siz.dg Eq q) (hDE:∀j,D j+Eq j<1000000000000) (nz:Siz.nm z<2^(64*K)) (nq:Siz.nm q<2^(64*K)) (nzq:Siz.nm z*Siz.nm q<2^(64*K)):
 Calls Tryz.prog 53 #[u,.int .i64 ((n:Int)+1),v] w (GivesTr S w (n+1) z):=by
 have dz':Poly.dgP D (kids z):=dz
 have dq':Poly.dgP Eq (kids q):=dq
 have hq0':kids q≠0:=fun e=>q0 e
 have hlq:0<(kids q).len:=Nat.pos_of_ne_zero fun e=>q0 (len_zero_iff.1 e)
 have hDE0:=hDE 0
 have hlz:(kids z).len≤1000000000000:=by have:=Poly.len_le dz'.1;omega
 have hlq2:(kids q).len≤1000000000000:=by have:=Poly.len_le dq'.1;omega
 have hlzq:(kids z).len+(kids q).len≤1000000000001:=by have:=Poly.len_le dz'.1;have:=Poly.len_le dq'.1;omega
 obtain ⟨N,hN⟩:∃N:Nat,(kids z).len=N:=⟨_,rfl⟩
 obtain ⟨lf,hlf⟩:∃lf:Nat,(kids (z*q)).len=lf:=⟨_,rfl⟩
 have hlfq:(N=0∧lf=0)∨(0<N∧lf+1=N+(kids q).len):=by
  by_cases e:kids z=0
  · left
    (have e2:kids (z*q)=0:=by rw [kids_mul,e,CRing.zero_mul]);rw [← hN,← hlf,e2,e];exact ⟨Poly.len_zero,Poly.len_zero⟩
  · right
    have e2:=(Poly.len_mulD e hq0').1;have e3:=Poly.len_pos e;rw [← kids_mul,hlf,hN] at e2;rw [hN] at e3;exact ⟨e3,by omega⟩
 obtain ⟨Bf,cf,rfl,h1,h2,h3⟩:=id hf
 obtain ⟨Bq,cq,rfl,i1,i2,i3⟩:=id hq
 clear h3 i3
 have hf':=hf.here
 have hq':=hq.here
 rw [hlf] at hf' h1
 have hz0:(((n:Int)+1)==0)=false:=beq_eq_false_iff_ne.2 (by omega)
 have ew:IntKind.i64.wrap ((n:Int)+1 - 1)=(n:Int):=by rw [IntWalk.i64_in _ (by omega)];omega
 have ew2:IntKind.i64.wrap (n:Int)=(n:Int):=IntWalk.i64_in _ (by omega)
 have ew3:IntKind.i64.wrap ((lf:Int) - ((kids q).len:Int))=(lf:Int) - ((kids q).len:Int):=IntWalk.i64_in _ (by omega)
 have ew4:IntKind.i64.wrap ((lf:Int) - ((kids q).len:Int)+1)=(lf:Int) - ((kids q).len:Int)+1:=IntWalk.i64_in _ (by omega)
 have hmxN:max ((lf:Int) - ((kids q).len:Int)+1) 0=(N:Int):=by omega
 have hmk:=make_polys N (by omega)
 have t0:=((((Trio.new w (.bool false) (.slice none 0 0) (.slice Bf lf cf)).bel (bRr.alloc lRr (.cells #[.bool false,.slice none 0 0,.slice Bq (kids q).len cq] 51))).bel (bRr.alloc lRr (.cells #[.bool false,.slice none 0 0,.slice none 0 0] 51))).bel (bRr.alloc lRr (.cells #[.bool false,.slice none 0 0,.slice (some ⟨w.heap.size+1+1+1+1,0,none⟩) N N] 51))).bel (bRr.alloc lRr (.cells (madeCells #[Value.bool false,.slice none 0 0,.slice none 0 0] (N*3)) 51))
 have t1:=(((Trio.new (w.alloc (.cells #[.bool false,.slice none 0 0,.slice Bf lf cf] 51)) (.bool false) (.slice none 0 0) (.slice Bq (kids q).len cq)).bel (bRr.alloc lRr (.cells #[.bool false,.slice none 0 0,.slice none 0 0] 51))).bel (bRr.alloc lRr (.cells #[.bool false,.slice none 0 0,.slice (some ⟨w.heap.size+1+1+1+1,0,none⟩) N N] 51))).bel (bRr.alloc lRr (.cells (madeCells #[Value.bool false,.slice none 0 0,.slice none 0 0] (N*3)) 51))
 rw [World.size_alloc] at t1
 have t2:=((Trio.new ((w.alloc (.cells #[.bool false,.slice none 0 0,.slice Bf lf cf] 51)).alloc (.cells #[.bool false,.slice none 0 0,.slice Bq (kids q).len cq] 51)) (.bool false) (.slice none 0 0) (.slice none 0 0)).bel (bRr.alloc lRr (.cells #[.bool false,.slice none 0 0,.slice (some ⟨w.heap.size+1+1+1+1,0,none⟩) N N] 51))).bel (bRr.alloc lRr (.cells (madeCells #[Value.bool false,.slice none 0 0,.slice none 0 0] (N*3)) 51))
 rw [World.size_alloc,World.size_alloc] at t2
 have t3:=(Trio.new (((w.alloc (.cells #[.bool false,.slice none 0 0,.slice Bf lf cf] 51)).alloc (.cells #[.bool false,.slice none 0 0,.slice Bq (kids q).len cq] 51)).alloc (.cells #[.bool false,.slice none 0 0,.slice none 0 0] 51)) (.bool false) (.slice none 0 0) (.slice (some ⟨w.heap.size+1+1+1+1,0,none⟩) N N)).bel (bRr.alloc lRr (.cells (madeCells #[Value.bool false,.slice none 0 0,.slice none 0 0] (N*3)) 51))
 rw [World.size_alloc,World.size_alloc,World.size_alloc] at t3
 have hb:Below w.heap.size w (((((w.alloc (.cells #[.bool false,.slice none 0 0,.slice Bf lf cf] 51)).alloc (.cells #[.bool false,.slice none 0 0,.slice Bq (kids q).len cq] 51)).alloc (.cells #[.bool false,.slice none 0 0,.slice none 0 0] 51)).alloc (.cells #[.bool false,.slice none 0 0,.slice (some ⟨w.heap.size+1+1+1+1,0,none⟩) N N] 51)).alloc (.cells (madeCells #[Value.bool false,.slice none 0 0,.slice none 0 0] (N*3)) 51)):=((((bRr.alloc lRr _).alloc (by simp<;>omega) _).alloc (by simp<;>omega) _).alloc (by simp<;>omega) _).alloc (by simp<;>omega) _
 have hsz:(((((w.alloc (.cells #[.bool false,.slice none 0 0,.slice Bf lf cf] 51)).alloc (.cells #[.bool false,.slice none 0 0,.slice Bq (kids q).len cq] 51)).alloc (.cells #[.bool false,.slice none 0 0,.slice none 0 0] 51)).alloc (.cells #[.bool false,.slice none 0 0,.slice (some ⟨w.heap.size+1+1+1+1,0,none⟩) N N] 51)).alloc (.cells (madeCells #[Value.bool false,.slice none 0 0,.slice none 0 0] (N*3)) 51)).heap.size=w.heap.size+1+1+1+1+1:=by simp
 have hO0:=TOut.noughts 51 (fun b=>S b∧b<w.heap.size) (fun b=>b=w.heap.size∨b=w.heap.size+1+1) w ((((w.alloc (.cells #[.bool false,.slice none 0 0,.slice Bf lf cf] 51)).alloc (.cells #[.bool false,.slice none 0 0,.slice Bq (kids q).len cq] 51)).alloc (.cells #[.bool false,.slice none 0 0,.slice none 0 0] 51)).alloc (.cells #[.bool false,.slice none 0 0,.slice (some ⟨w.heap.size+1+1+1+1,0,none⟩) N N] 51)) (w.heap.size+1+1+1+1) n N (by omega) (by simp) ((((bRr.alloc lRr _).alloc (by simp<;>omega) _).alloc (by simp<;>omega) _).alloc (by simp<;>omega) _) (by unfold maxLen;omega)
 rw [World.size_alloc,World.size_alloc,World.size_alloc,World.size_alloc] at hO0
 have HF:Hid (TreW (fun b=>(S b∧b<w.heap.size)∨w.heap.size+1+1+1+1+1≤b) (n+1) (((((w.alloc (.cells #[.bool false,.slice none 0 0,.slice Bf lf cf] 51)).alloc (.cells #[.bool false,.slice none 0 0,.slice Bq (kids q).len cq] 51)).alloc (.cells #[.bool false,.slice none 0 0,.slice none 0 0] 51)).alloc (.cells #[.bool false,.slice none 0 0,.slice (some ⟨w.heap.size+1+1+1+1,0,none⟩) N N] 51)).alloc (.cells (madeCells #[Value.bool false,.slice none 0 0,.slice none 0 0] (N*3)) 51)) (.agg #[.bool false,.slice none 0 0,.slice Bf lf cf]) (z*q)):=(hf'.bel hb).mono fun b hb=> .inl hb
 have HQ:=hiD hq'
 have Ddz:=hiD dz'
 have Ddq:=hiD dq'
 have HDE:=hiD hDE
 have k0:=t0.cell2
 have k1:=t1.cell2
 clear hf hq hf' hq' dz dq dz' dq' hDE
 unfold treV
 rw [hlf]
 go_enter Tryz.func53,Tryz.ntmps53
 go_wp2_with fail
 generalize hwt:(((((w.alloc (.cells #[.bool false,.slice none 0 0,.slice Bf lf cf] 51)).alloc (.cells #[.bool false,.slice none 0 0,.slice Bq (kids q).len cq] 51)).alloc (.cells #[.bool false,.slice none 0 0,.slice none 0 0] 51)).alloc (.cells #[.bool false,.slice none 0 0,.slice (some ⟨w.heap.size+1+1+1+1,0,none⟩) N N] 51)).alloc (.cells (madeCells #[Value.bool false,.slice none 0 0,.slice none 0 0] (N*3)) 51))=wt at*
 clear hwt
 have T0:=hiD t0
 have T1:=hiD t1
 have T2:=hiD t2
 have T3:=hiD t3
 have HB:=hiD hb
 have HO0:=hiD hO0
 clear t0 t1 t2 t3 hb hO0 k0 k1
 go_loopg [] (N+1) (fun gk wr=>∃(m:Nat) (E:List KE) (Bp:Option Addr) (lp cp:Nat),m<gk∧m≤N∧Hid ((kids (mkK (Poly.cut m (kids z))*q)).len=lp)∧Hid (E.length=N)∧Hid (TOut 51 (fun b=>S b∧b<w.heap.size) (fun b=>b=w.heap.size∨b=w.heap.size+1+1) w (w.heap.size+1+1+1+1) wr n (.slice (some ⟨w.heap.size+1+1+1+1,0,none⟩) N N) E (fun j=>if m≤j then (kids z).co j else 0))∧Hid (Trio wr w.heap.size (.bool false) (.slice none 0 0) (.slice Bp lp cp))∧Hid (TreW (fun b=>(S b∧b<w.heap.size)∨w.heap.size+1+1+1+1+1≤b) (n+1) wr (.agg #[.bool false,.slice none 0 0,.slice Bp lp cp]) (mkK (Poly.cut m (kids z))*q))∧Hid (Only (fun b=>b=w.heap.size∨b=w.heap.size+1+1+1+1∨wt.heap.size≤b) wt wr))
 case atStart=>
  have e0:mkK (Poly.cut N (kids z))*q=z*q:=by rw [← hN,Poly.cut_all (Poly.len_sh (kids z)),mk_kids]
  refine ⟨N,_,Bf,lf,cf,by omega,lRr,?_,List.length_replicate,HO0.out.congr fun j hj=> ?_,T0,?_,Only.refl _ _⟩
  · show _=_
    rw [e0,hlf]
  · rw [List.length_replicate] at hj
    rw [if_neg (by omega)]
  · rw [e0]
    exact HF
 case round=>
  clear T0 HF HO0;obtain ⟨m,E,Bp,lp,cp,hg,hmN,hlp,hE,hO,hT,hV,hon⟩:=hrel;obtain ⟨wp,rfl⟩:∃wp:World,wp=wr:=⟨_,rfl⟩;have P1:Hid (Trio wp (w.heap.size+1) (.bool false) (.slice none 0 0) (.slice Bq (kids q).len cq)):=T1.out.keep (hon.out.block _ T1.out.lt (by omega));have P2:Hid (Trio wp (w.heap.size+1+1) (.bool false) (.slice none 0 0) (.slice none 0 0)):=T2.out.keep (hon.out.block _ T2.out.lt (by omega));have P3:Hid (Trio wp (w.heap.size+1+1+1) (.bool false) (.slice none 0 0) (.slice (some ⟨w.heap.size+1+1+1+1,0,none⟩) N N)):=T3.out.keep (hon.out.block _ T3.out.lt (by omega));have HBp:Hid (Below w.heap.size w wp):=hO.out.bel;have a0:=hT.out.cell0;have a1:=hT.out.cell1;have a2:=hT.out.cell2;have b0:=P1.out.cell0;have b1:=P1.out.cell1;have b2:=P1.out.cell2;have hwz:=hon.out.size;by_cases hc:Poly.cut m (kids z)=0
  · have hlp0:lp=0:=by
     have h9:=hlp.out;rw [← h9];have e9:kids (mkK (Poly.cut m (kids z))*q)=0:=by
      show Poly.cut m (kids z)*kids q=0;rw [hc,CRing.zero_mul]
     rw [e9];exact Poly.len_zero
    (have hlt1:¬((kids q).len:Int)≤(lp:Int):=by omega);obtain ⟨B9,d9,hov,q1,q2,q3⟩:=hO.out.row (fun b hb=>by omega);rw [hE.out] at hov q1 q3;injection hov with o1 _ o3
    subst o1;subst o3;(have hsh:(kids z).Sh N:=by rw [← hN];exact Poly.len_sh (kids z));have efun:(fun j=>if m≤j then (kids z).co j else 0)=(kids z).co:=funext fun j=>by
     split
     · rfl
     · rename_i h9
       exact (Poly.cut_co (m:=m) (by rw [hc,Poly.len_zero];omega) (by omega)).symm
    have q4:RowK (fun b=>((S b∧b<w.heap.size)∨w.heap.size≤b)∧¬(b=w.heap.size∨b=w.heap.size+1+1)) (fun i u=>TreW (fun b=>((S b∧b<w.heap.size)∨w.heap.size≤b)∧¬(b=w.heap.size∨b=w.heap.size+1+1)) n wp u ((kids z).co i)) wp (some ⟨w.heap.size+1+1+1+1,0,none⟩) N:=
     q3.imp (fun _ h=>h) lRr (fun _ _ _ _=>rfl) fun i u _ hu=>by
      have e9:(if m≤i then (kids z).co i else 0)=(kids z).co i:=congrFun efun i;rwa [e9] at hu
    have Q4:=hiD q4;have Ct:=hiD (fun W (hW:Below wp.heap.size wp W)=>mtrim (fun b=>((S b∧b<w.heap.size)∨w.heap.size≤b)∧¬(b=w.heap.size∨b=w.heap.size+1+1)) n W _ N N (kids z) (Q4.out.bel hW) hsh lRr q2 (by omega) K (by omega) (fun i=>Nat.lt_of_le_of_lt (Poly.nmP_co _ i) nz));have c0:=P3.out.cell0;have c1:=P3.out.cell1;have c2:=P3.out.cell2;clear q3 q4 efun hsh hE hO hon;unfold treV at Ct;(go_wp2_with fail);refine (Ct.out _ bRr).mono ?_;rintro e w1 ⟨s1,A1,k1,c1,B1,m1,d1,rfl,hv1,hb1⟩;have T3':=hiD (P2.out.bel hb1);have r0:=T3'.out.cell0;have r1:=T3'.out.cell1;have r2:=T3'.out.cell2;have r3:=T3'.out.frozen 0;have r4:=T3'.out.frozen 1;have r5:=T3'.out.frozen 2;have F:Hid (TreW (fun b=>S b∨w.heap.size≤b) (n+1) (((w1.setCell ⟨w.heap.size+1+1,0,none⟩ (.bool s1)).setCell ⟨w.heap.size+1+1,1,none⟩ (.slice A1 k1 c1)).setCell ⟨w.heap.size+1+1,2,none⟩ (.slice B1 m1 d1)) (treV s1 A1 k1 c1 B1 m1 d1) z):=
     TreW.only (trio_only w1 (w.heap.size+1+1) _ _ _) (fun b hb e=>by
      have h9:=P2.out.lt;rcases hb with hb | hb
      · exact hb.2 (.inr e)
      · omega) (fun b hb=>by
      have h9:=HBp.out.size;rcases hb with hb | hb
      · rcases hb.1 with h | h
        · exact .inl h.1
        · exact .inr h
      · exact .inr (by omega)) hv1
    have hb2:Below w.heap.size w w1:=HBp.out.tm hb1;have hb':Hid (Below w.heap.size w (((w1.setCell ⟨w.heap.size+1+1,0,none⟩ (.bool s1)).setCell ⟨w.heap.size+1+1,1,none⟩ (.slice A1 k1 c1)).setCell ⟨w.heap.size+1+1,2,none⟩ (.slice B1 m1 d1))):=bel_trio hb2 (by omega) _ _ _;clear hv1 hb1 hb2 Ct;unfold treV;(go_wp2_with fail);exact bodyPost_ret (v:=.agg #[.bool s1,.slice A1 k1 c1,.slice B1 m1 d1]) (results_cell_row (fn:=Tryz.f53) rfl _ _ _ _ _ _ _ rfl (T3'.out.set (.bool s1) (.slice A1 k1 c1) (.slice B1 m1 d1)) Tryz.underlying51 rfl apoly_size) rfl
     ⟨s1,A1,k1,c1,B1,m1,d1,rfl,F.out,hb'.out⟩
  · obtain ⟨kk,hkk⟩:∃kk:Nat,(Poly.cut m (kids z)).len=kk+1:=⟨_,(Nat.sub_add_cancel (Poly.len_pos hc)).symm⟩
    (have hkm:kk+1≤m:=by have:=Poly.len_le (Poly.cut_sh m (kids z));omega);have hkp:kids (mkK (Poly.cut m (kids z))*q)=Poly.cut m (kids z)*kids q:=rfl;obtain ⟨hlm,hlcm⟩:=Poly.len_mulD hc hq0';have hlp2:lp≤kk+(kids q).len∧kk+(kids q).len≤lp:=by
     have:=hlp.out;rw [hkp,hlm,hkk] at this;omega
    (have hlcz:(Poly.cut m (kids z)).lc=(kids z).co kk:=by rw [Poly.cut_lc hc,hkk];rfl);have hlc:(kids (mkK (Poly.cut m (kids z))*q)).co ((kids (mkK (Poly.cut m (kids z))*q)).len - 1)=(kids z).co kk*(kids q).lc:=by
     rw [hkp];show (Poly.cut m (kids z)*kids q).lc=_;rw [hlcm,hlcz]
    (have hlc0:(kids z).co kk≠0:=by rw [← hlcz];exact Poly.lc_ne hc);(have hlt1:((kids q).len:Int)≤(lp:Int):=by omega);(have hlt2:(0:Int)<(lp:Int):=by omega);(have ew5:IntKind.i64.wrap ((lp:Int) - ((kids q).len:Int))=(kk:Int):=by rw [IntWalk.i64_in _ (by omega)];omega);have hlqz:(kids q).lc≠0:=Poly.lc_ne hq0';have nzk:Siz.nm ((kids z).co kk)≤Siz.nm z:=nmP_C_leT z kk;have nql:Siz.nm (kids q).lc≤Siz.nm q:=nmP_C_leT q _;have CL8:Hid (∀(T:Nat→Prop) (V:World),Below wp.heap.size wp V→TreW T (n+1) V (.agg #[.bool false,.slice none 0 0,.slice Bp lp cp]) (mkK (Poly.cut m (kids z))*q)→Calls Tryz.prog 84 #[.agg #[.bool false,.slice none 0 0,.slice Bp lp cp]] V (GivesTr T V n ((kids z).co kk*(kids q).lc))):=fun T V _ hv=>by
     have h9:=mlast T n V _ _ hv (by rw [hlp.out];omega);rwa [hlc] at h9
    have CM8:Hid (∀(T:Nat→Prop) (V:World),Below wp.heap.size wp V→TreW T (n+1) V (.agg #[.bool false,.slice none 0 0,.slice Bq (kids q).len cq]) q→Calls Tryz.prog 84 #[.agg #[.bool false,.slice none 0 0,.slice Bq (kids q).len cq]] V (GivesTr T V n (kids q).lc)):=fun T V _ hv=>mlast T n V _ q hv hlq;have CC8:Hid (∀(T:Nat→Prop) (V:World),Below wp.heap.size wp V→∀u,TreW T n V u ((kids z).co kk*(kids q).lc)→∀v,TreW T n V v (kids q).lc→Calls Tryz.prog 53 #[u,.int .i64 (n:Int),v] V (GivesTr T V n ((kids z).co kk))):=fun T V _ u hu v hv=>
     ih T V u v _ _ (fun j=>D (j+1)) (fun j=>Eq (j+1)) hu hv hlqz (Ddz.out.2 kk) (Ddq.out.2 _) (fun j=>HDE.out (j+1)) (Nat.lt_of_le_of_lt nzk nz) (Nat.lt_of_le_of_lt nql nq) (Nat.lt_of_le_of_lt (Nat.mul_le_mul nzk nql) nzq)
    have t_F:=hV.out.here;have t_Q:=((HQ.out.bel HBp.out).here).mono (T:=fun b=>((S b∧b<w.heap.size)∨w.heap.size+1+1+1+1+1≤b)∧b<wp.heap.size) fun b hb=>⟨.inl hb.1,hb.2⟩;have keep8:Hid (∀V,Below wp.heap.size wp V→(fun V=>V.cell? ⟨w.heap.size,0,none⟩=some (.bool false)∧V.cell? ⟨w.heap.size,1,none⟩=some (.slice none 0 0)∧V.cell? ⟨w.heap.size,2,none⟩=some (.slice Bp lp cp)∧V.cell? ⟨w.heap.size+1,0,none⟩=some (.bool false)∧V.cell? ⟨w.heap.size+1,1,none⟩=some (.slice none 0 0)∧V.cell? ⟨w.heap.size+1,2,none⟩=some (.slice Bq (kids q).len cq)) V):=fun V hV=>⟨(hT.out.bel hV).cell0,(hT.out.bel hV).cell1,(hT.out.bel hV).cell2,(P1.out.bel hV).cell0,(P1.out.bel hV).cell1,(P1.out.bel hV).cell2⟩;(go_wp2_with fail);go_cut [11] (fun s11 wx=>∃(g11:Nat) (sx:Bool) (Ax:Option Addr) (kx cx:Nat) (Bx:Option Addr) (mx dx:Nat),s11=.pointer (some ⟨g11,0,none⟩)∧wp.heap.size≤g11∧Hid (Trio wx g11 (.bool sx) (.slice Ax kx cx) (.slice Bx mx dx))∧Hid (TreW (fun b=>(S b∧b<w.heap.size)∨w.heap.size+1+1+1+1+1≤b) n wx (.agg #[.bool sx,.slice Ax kx cx,.slice Bx mx dx]) ((kids z).co kk))∧Hid (Below wp.heap.size wp wx))
    case first=>
     refine wp_regionG (S:=fun V=>V.cell? ⟨w.heap.size,0,none⟩=some (.bool false)∧V.cell? ⟨w.heap.size,1,none⟩=some (.slice none 0 0)∧V.cell? ⟨w.heap.size,2,none⟩=some (.slice Bp lp cp)∧V.cell? ⟨w.heap.size+1,0,none⟩=some (.bool false)∧V.cell? ⟨w.heap.size+1,1,none⟩=some (.slice none 0 0)∧V.cell? ⟨w.heap.size+1,2,none⟩=some (.slice Bq (kids q).len cq)) (z:=8) (by kernel_rfl) ?_;have hHeld:=keep8.out _ (Below.refl wp.heap.size wp).drew;(try dsimp only at hHeld);refine tk 8 0 (.agg #[.bool false,.slice none 0 0,.slice Bp lp cp]) rfl hHeld ?_;(try simp only [fx,Act.put]);refine tk 8 2 (.int .i64 ((n:Int)+1)) rfl hHeld ?_;(try simp only [fx,Act.put]);refine tk 8 3 (.int .i64 (n:Int)) rfl hHeld ?_;(try simp only [fx,Act.put]);refine tk 8 4 (.agg #[.bool false,.slice none 0 0,.slice Bq (kids q).len cq]) rfl hHeld ?_;(try simp only [fx,Act.put]);have iq:Hid (∀b,wp.heap.size≤b→(fun b=>(S b∧b<w.heap.size)∨w.heap.size+1+1+1+1+1≤b) b):=fun b hb=> .inr (by omega);refine wpAnyG_iv (w0:=wp) [⟨1,57,1,KT (fun b=>(S b∧b<w.heap.size)∨w.heap.size+1+1+1+1+1≤b) n (fun x=>((kids z).co kk*(kids q).lc)=x)⟩,⟨5,61,5,KT (fun b=>(S b∧b<w.heap.size)∨w.heap.size+1+1+1+1+1≤b) n (fun x=>(kids q).lc=x)⟩,⟨6,62,6,KT (fun b=>(S b∧b<w.heap.size)∨w.heap.size+1+1+1+1+1≤b) n (fun x=>((kids z).co kk)=x)⟩,⟨7,11,7,KB wp 7 (.cells #[.bool false,.slice none 0 0,.slice none 0 0] 51) (fun g=> .pointer (some ⟨g,0,none⟩))⟩] [1,5,6,7] [57,61,62,11] [8] #[true,true,true,true,true,true,true,true,false] 1 rfl rfl (by kernel_rfl) rfl rfl (Below.refl wp.heap.size wp).drew (fc KT.keeps (fc KT.keeps (fc KT.keeps (fc KB.keeps (fn))))) (fc ?_ (fc ?_ (fc ?_ (fc ?_ (fn))))) ?_
     · intro L a V B hr hd h
       have r56:=h.old 56 rfl rfl;refine iv_step rfl fun KK hKK=> ?_;go_simp;refine (CL8.out _ V h.bel (h.tree t_F)).mono ?_;rintro e w' ⟨s0,A0,k0,c0,B0,m0,d0,rfl,hv,hb⟩;unfold treV;(go_wp2_with fail);exact hKK.out _ _ (keep8.out _ (h.bel.tm hb)) (h.put 0 rfl hr hb ⟨_,s0,A0,k0,c0,B0,m0,d0,rfl,rfl,h.res iq.out hv⟩)
     · intro L a V B hr hd h
       have r60:=h.old 60 rfl rfl;refine iv_step rfl fun KK hKK=> ?_;go_simp;refine (CM8.out _ V h.bel (h.tree t_Q)).mono ?_;rintro e w' ⟨s0,A0,k0,c0,B0,m0,d0,rfl,hv,hb⟩;unfold treV;(go_wp2_with fail);exact hKK.out _ _ (keep8.out _ (h.bel.tm hb)) (h.put 1 rfl hr hb ⟨_,s0,A0,k0,c0,B0,m0,d0,rfl,rfl,h.res iq.out hv⟩)
     · intro L a V B hr hd h
       obtain ⟨_,qL,_,sL,AL,kL,cL,BL,mL,dL,rfl,rfl,tL⟩:=h.get 0 rfl (hd 1 (by kernel_rfl)) (.inl rfl);obtain ⟨_,qM,_,sM,AM,kM,cM,BM,mM,dM,rfl,rfl,tM⟩:=h.get 1 rfl (hd 5 (by kernel_rfl)) (.inl rfl);have r59:=h.old 59 rfl rfl;refine iv_step rfl fun KK hKK=> ?_;go_simp;refine (CC8.out _ V h.bel _ tL.out.here _ tM.out.here).mono ?_;rintro e w' ⟨s0,A0,k0,c0,B0,m0,d0,rfl,hv,hb⟩;unfold treV;(go_wp2_with fail);exact hKK.out _ _ (keep8.out _ (h.bel.tm hb)) (h.put 2 rfl hr hb ⟨_,s0,A0,k0,c0,B0,m0,d0,rfl,rfl,h.res iq.out hv⟩)
     · intro L a V B hr hd h
       refine iv_step rfl fun KK hKK=> ?_;go_simp;exact hKK.out _ _ (keep8.out _ (h.bel.alloc h.bel.size _)) (h.box 3 rfl hr)
     intro a9 wv B h;obtain ⟨_,qL,_,sL,AL,kL,cL,BL,mL,dL,rfl,rfl,tL⟩:=h.get 0 rfl rfl (.inl rfl);obtain ⟨_,qM,_,sM,AM,kM,cM,BM,mM,dM,rfl,rfl,tM⟩:=h.get 1 rfl rfl (.inl rfl);obtain ⟨_,qC,_,sC,AC,kC,cC,BC,mC,dC,rfl,rfl,tC⟩:=h.get 2 rfl rfl (.inl rfl);obtain ⟨_,qX,gX,rfl,hX,lX,BX⟩:=h.get 3 rfl rfl (.inl rfl);have hV:=hiD h.bel;have hz9:=h.bel.size;have tX:Hid (Trio wv gX (.bool false) (.slice none 0 0) (.slice none 0 0)):=lX.out;have v0:=tX.out.cell0;have f0:=tX.out.frozen 0;have v1:=tX.out.cell1;have f1:=tX.out.frozen 1;have v2:=tX.out.cell2;have f2:=tX.out.frozen 2;obtain rfl:=h.act [(57,_),(61,_),(62,_),(11,_)] rfl (fc qL (fc qM (fc qC (fc qX (fn)))));simp only [List.foldr];(try simp only [fx,Act.put]);refine wpAnyG_ready (rs:=[8]) (by kernel_rfl) (by simp) ?_;refine AllReadyG.last rfl (fun KK hKK=> ?_);go_simp;refine hKK.out _ _ ?_;clear hKK KK;refine wpAnyG_done (by kernel_rfl) ?_ _;(go_wp2_with fail);go_meet
     exact ⟨gX,sC,AC,kC,cC,BC,mC,dC,rfl,hX,tX.out.set _ _ _,tC.out.only (trio_only wv gX _ _ _) (fun b hb e=>hb.2 7 (e ▸ BX)) (fun b hb=>hb.1),bel_trio hV.out hX _ _ _⟩
    case rest=>
     obtain ⟨g11,sx,Ax,kx,cx,Bx,mx,dx,rfl,hg11,hTx,hVx,hBx⟩:=hcut;obtain ⟨wx,rfl⟩:∃V:World,V=wc:=⟨_,rfl⟩;have HOx:=hiD (hO.out.bel2 hBx.out);obtain ⟨x0,hx0,hx1,hx2,_,hxf,hxl⟩:=tout_at HOx.out hE.out kk (by omega);have p3:=(P3.out.bel hBx.out).cell2;have y0:=hTx.out.cell0;have y1:=hTx.out.cell1;have y2:=hTx.out.cell2;(have hkN:(kk:Int)<(N:Int):=by omega);(have hk0:(0:Int)≤(kk:Int):=by omega);have hxf0:=hxf (kk*3);have hxf1:=hxf (kk*3+1);have hxf2:=hxf (kk*3+2);have hsx:=hBx.out.size;have hlp3:=P3.out.lt;have oR:Hid (Only (fun b=>b=w.heap.size+1+1+1+1) wx (((wx.setCell ⟨w.heap.size+1+1+1+1,kk*3,none⟩ (.bool sx)).setCell ⟨w.heap.size+1+1+1+1,kk*3+1,none⟩ (.slice Ax kx cx)).setCell ⟨w.heap.size+1+1+1+1,kk*3+2,none⟩ (.slice Bx mx dx))):=(((Only.refl (fun b=>b=w.heap.size+1+1+1+1) wx).setCell (p:=⟨w.heap.size+1+1+1+1,kk*3,none⟩) rfl _).setCell (p:=⟨w.heap.size+1+1+1+1,kk*3+1,none⟩) rfl _).setCell (p:=⟨w.heap.size+1+1+1+1,kk*3+2,none⟩) rfl _;have HO9:Hid (TOut 51 (fun b=>S b∧b<w.heap.size) (fun b=>b=w.heap.size∨b=w.heap.size+1+1) w (w.heap.size+1+1+1+1) (((wx.setCell ⟨w.heap.size+1+1+1+1,kk*3,none⟩ (.bool sx)).setCell ⟨w.heap.size+1+1+1+1,kk*3+1,none⟩ (.slice Ax kx cx)).setCell ⟨w.heap.size+1+1+1+1,kk*3+2,none⟩ (.slice Bx mx dx)) n (.slice (some ⟨w.heap.size+1+1+1+1,0,none⟩) N N) (E.set kk ⟨sx,Ax,kx,cx,Bx,mx,dx⟩) (fun j=>if kk≤j then (kids z).co j else 0)):=
      tout_put HOx.out hE.out (by omega) kk (by omega) ⟨sx,Ax,kx,cx,Bx,mx,dx⟩ ((kids z).co kk) (hVx.out.mono fun b hb=>by
       rcases hb with hb | hb
       · exact ⟨.inl hb,fun e=>by have e2:w.heap.size+1+1+1+1=b:=by injection e
                                  have:=hb.2;omega,by have:=hb.2;omega⟩
       · exact ⟨.inr (by omega),fun e=>by have e2:w.heap.size+1+1+1+1=b:=by injection e
                                          omega,by omega⟩) _ (fun j=>by
       by_cases e:j=kk
       · subst e
         rw [if_pos lRr,if_pos rfl]
       · rw [if_neg e]
         by_cases h8:m≤j
         · rw [if_pos h8,if_pos (by omega)]
         · rw [if_neg h8]
           split
           · exact Poly.cut_co (m:=m) (by omega) (by omega)
           · rfl)
     (have HE9:Hid ((E.set kk ⟨sx,Ax,kx,cx,Bx,mx,dx⟩).length=N):=by show _=_;rw [List.length_set];exact hE.out);have HT9:Hid (Trio (((wx.setCell ⟨w.heap.size+1+1+1+1,kk*3,none⟩ (.bool sx)).setCell ⟨w.heap.size+1+1+1+1,kk*3+1,none⟩ (.slice Ax kx cx)).setCell ⟨w.heap.size+1+1+1+1,kk*3+2,none⟩ (.slice Bx mx dx)) w.heap.size (.bool false) (.slice none 0 0) (.slice Bp lp cp)):=(hT.out.bel hBx.out).keep (oR.out.block _ (hT.out.bel hBx.out).lt (by omega));have P19:Hid (Trio (((wx.setCell ⟨w.heap.size+1+1+1+1,kk*3,none⟩ (.bool sx)).setCell ⟨w.heap.size+1+1+1+1,kk*3+1,none⟩ (.slice Ax kx cx)).setCell ⟨w.heap.size+1+1+1+1,kk*3+2,none⟩ (.slice Bx mx dx)) (w.heap.size+1) (.bool false) (.slice none 0 0) (.slice Bq (kids q).len cq)):=(P1.out.bel hBx.out).keep (oR.out.block _ (P1.out.bel hBx.out).lt (by omega));have hTx9:Hid (Trio (((wx.setCell ⟨w.heap.size+1+1+1+1,kk*3,none⟩ (.bool sx)).setCell ⟨w.heap.size+1+1+1+1,kk*3+1,none⟩ (.slice Ax kx cx)).setCell ⟨w.heap.size+1+1+1+1,kk*3+2,none⟩ (.slice Bx mx dx)) g11 (.bool sx) (.slice Ax kx cx) (.slice Bx mx dx)):=hTx.out.keep (oR.out.block _ hTx.out.lt (by omega));have hVx9:Hid (TreW (fun b=>(S b∧b<w.heap.size)∨w.heap.size+1+1+1+1+1≤b) n (((wx.setCell ⟨w.heap.size+1+1+1+1,kk*3,none⟩ (.bool sx)).setCell ⟨w.heap.size+1+1+1+1,kk*3+1,none⟩ (.slice Ax kx cx)).setCell ⟨w.heap.size+1+1+1+1,kk*3+2,none⟩ (.slice Bx mx dx)) (.agg #[.bool sx,.slice Ax kx cx,.slice Bx mx dx]) ((kids z).co kk)):=hVx.out.only oR.out (fun b hb e=>by rcases hb with hb | hb<;>omega) fun b hb=>hb;have hV9:Hid (TreW (fun b=>(S b∧b<w.heap.size)∨w.heap.size+1+1+1+1+1≤b) (n+1) (((wx.setCell ⟨w.heap.size+1+1+1+1,kk*3,none⟩ (.bool sx)).setCell ⟨w.heap.size+1+1+1+1,kk*3+1,none⟩ (.slice Ax kx cx)).setCell ⟨w.heap.size+1+1+1+1,kk*3+2,none⟩ (.slice Bx mx dx)) (.agg #[.bool false,.slice none 0 0,.slice Bp lp cp]) (mkK (Poly.cut m (kids z))*q)):=(hV.out.bel hBx.out).only oR.out (fun b hb e=>by rcases hb with hb | hb<;>omega) fun b hb=>hb;have hon9:Hid (Only (fun b=>b=w.heap.size∨b=w.heap.size+1+1+1+1∨wt.heap.size≤b) wt (((wx.setCell ⟨w.heap.size+1+1+1+1,kk*3,none⟩ (.bool sx)).setCell ⟨w.heap.size+1+1+1+1,kk*3+1,none⟩ (.slice Ax kx cx)).setCell ⟨w.heap.size+1+1+1+1,kk*3+2,none⟩ (.slice Bx mx dx))):=(hon.out.trans ((Only.of_below hBx.out).mono fun b hb=> .inr (.inr (by omega)))).trans (oR.out.mono fun b hb=> .inr (.inl hb));clear oR HOx hTx hVx hBx hO hE hT hV hon P1 P2 P3 keep8 CL8 CM8 CC8 t_F t_Q a0 a1 a2 b0 b1 b2 hxf HBp;(go_wp2_with fail);generalize hwv:((wx.setCell ⟨w.heap.size+1+1+1+1,kk*3,none⟩ (.bool sx)).setCell ⟨w.heap.size+1+1+1+1,kk*3+1,none⟩ (.slice Ax kx cx)).setCell ⟨w.heap.size+1+1+1+1,kk*3+2,none⟩ (.slice Bx mx dx)=wv at*
     clear hwv hx0 hx1 hx2 hxf0 hxf1 hxf2 y0 y1 y2 p3 hxl;have HBv:Hid (Below w.heap.size w wv):=HO9.out.bel;have hwv:=hon9.out.size;have hmk2:=make_polys kk (by omega);obtain ⟨i0,hi0,hz0',hz1,hz2⟩:=info_parts poly_infoT;(have hmx:kk≤maxLen:=by unfold maxLen;omega);(have hq1:kk+1≤maxLen:=by unfold maxLen;omega);(have hq2:(kk+1)*56≤140737488355328:=by omega);have hz0:=hz0';have t_x:=hVx9.out.here;have hg11':=hTx9.out.lt;have u0:=hTx9.out.cell0;have u1:=hTx9.out.cell1;have u2:=hTx9.out.cell2;have keep10:Hid (∀V,Below wv.heap.size wv V→(fun V=>V.cell? ⟨g11,0,none⟩=some (.bool sx)∧V.cell? ⟨g11,1,none⟩=some (.slice Ax kx cx)∧V.cell? ⟨g11,2,none⟩=some (.slice Bx mx dx)) V):=fun V hV=>⟨(hTx9.out.bel hV).cell0,(hTx9.out.bel hV).cell1,(hTx9.out.bel hV).cell2⟩;go_cut [12] (fun s12 wx=>∃(g12 gg cap:Nat),s12=.pointer (some ⟨g12,0,none⟩)∧wv.heap.size≤g12∧Hid (Trio wx g12 (.bool false) (.slice none 0 0) (.slice (some ⟨gg,0,none⟩) (kk+1) cap))∧Hid (TreW (fun b=>(S b∧b<w.heap.size)∨w.heap.size+1+1+1+1+1≤b) (n+1) wx (.agg #[.bool false,.slice none 0 0,.slice (some ⟨gg,0,none⟩) (kk+1) cap]) (mkK (Poly.mono kk ((kids z).co kk))))∧Hid (Below wv.heap.size wv wx))
     case first=>
      refine wp_regionG (S:=fun V=>V.cell? ⟨g11,0,none⟩=some (.bool sx)∧V.cell? ⟨g11,1,none⟩=some (.slice Ax kx cx)∧V.cell? ⟨g11,2,none⟩=some (.slice Bx mx dx)) (z:=7) (by kernel_rfl) ?_;have hHeld:=keep10.out _ (Below.refl wv.heap.size wv).drew;(try dsimp only at hHeld);refine tk 7 0 (.int .i64 (kk:Int)) rfl hHeld ?_;(try simp only [fx,Act.put]);refine tk 7 2 (.agg #[.bool sx,.slice Ax kx cx,.slice Bx mx dx]) rfl hHeld ?_;(try simp only [fx,Act.put]);have iq:Hid (∀b,wv.heap.size≤b→(fun b=>(S b∧b<w.heap.size)∨w.heap.size+1+1+1+1+1≤b) b):=fun b hb=> .inr (by omega);refine wpAnyG_iv (w0:=wv) [⟨1,69,4,KB wv 1 (.cells (madeCells #[Value.bool false,.slice none 0 0,.slice none 0 0] (kk*3)) 51) (fun g=> .slice (some ⟨g,0,none⟩) kk kk)⟩,⟨3,71,3,KO wv (fun b=>(S b∧b<w.heap.size)∨w.heap.size+1+1+1+1+1≤b) n ((kids z).co kk) 51 (fun g=> .slice (some ⟨g,0,none⟩) 1 1)⟩,⟨4,72,4,KA (fun b=>(S b∧b<w.heap.size)∨w.heap.size+1+1+1+1+1≤b) (n+1) (mkK (Poly.mono kk ((kids z).co kk))) (kk+1)⟩,⟨5,73,5,KA1 (fun b=>(S b∧b<w.heap.size)∨w.heap.size+1+1+1+1+1≤b) (n+1) (mkK (Poly.mono kk ((kids z).co kk))) (kk+1)⟩,⟨6,12,6,KB wv 6 (.cells #[.bool false,.slice none 0 0,.slice none 0 0] 51) (fun g=> .pointer (some ⟨g,0,none⟩))⟩] [1,3,4,5,6] [69,71,72,73,12] [7] #[true,true,true,true,true,true,true,false] 1 rfl rfl (by kernel_rfl) rfl rfl (Below.refl wv.heap.size wv).drew (fc KB.keeps (fc KO.keeps (fc KA.keeps (fc KA1.keeps (fc KB.keeps (fn)))))) (fc ?_ (fc ?_ (fc ?_ (fc ?_ (fc ?_ (fn)))))) ?_
      · intro L a V B hr hd h
        have r68:=h.old 68 rfl rfl;refine iv_step rfl fun KK hKK=> ?_;go_simp;exact hKK.out _ _ (keep10.out _ (h.bel.alloc h.bel.size _)) (h.box 0 rfl hr)
      · intro L a V B hr hd h
        have r70:=h.old 70 rfl rfl;refine iv_step rfl fun KK hKK=> ?_;go_simp;exact hKK.out _ _ (keep10.out _ (h.bel.alloc h.bel.size _)) (h.own 1 rfl hr ((h.tree t_x).mono fun b hb=>hb.1))
      · intro L a V B hr hd h
        obtain ⟨_,qM,gM,rfl,hM,lM,BM⟩:=h.get 0 rfl (hd 1 (by kernel_rfl)) (.inr (ld_un hr));obtain ⟨_,qB,gB,sB,AB,kB,cB,BB,mB,dB,rfl,hB,lB,tB,nB⟩:=h.get 1 rfl (hd 3 (by kernel_rfl)) (.inl rfl);refine iv_step rfl fun KK hKK=> ?_;refine step_append_lies _ (by rfl) _ _ _ (by rfl) wv.heap.size 51 i0 _ 3 56 Tryz.underlying49 hi0 hz0 hz1 hz2 rfl (by omega) _ kk _ (ev qM) (own_made lM.out hM hmx) ⟨gB,0,none⟩ 1 1 [.bool sB,.slice AB kB cB,.slice BB mB dB] (ev qB) (by rfl) (World.news_of_block lB.out) (by simp [Value.oneCell']) Nat.one_pos hq1 hq2 h.bel.size _ rfl ?_;intro g8 cap w8 hown hgrow hat _;exact hKK.out _ _ (keep10.out _ (grown_row h.bel hgrow hM)) (h.part 2 rfl hr 0 rfl BM hM hgrow (x:=⟨sB,AB,kB,cB,BB,mB,dB⟩) hown hat tB.out hlc0 iq.out)
      · intro L a V B hr hd h
        obtain ⟨_,qA,gA,capA,rfl,tA⟩:=h.get 2 rfl (hd 4 (by kernel_rfl)) (.inl rfl);refine iv_step rfl fun KK hKK=> ?_;go_simp;exact hKK.out _ _ (keep10.out _ h.bel) (h.put 3 rfl hr bRr ⟨gA,capA,rfl,tA⟩)
      · intro L a V B hr hd h
        refine iv_step rfl fun KK hKK=> ?_;go_simp;exact hKK.out _ _ (keep10.out _ (h.bel.alloc h.bel.size _)) (h.box 4 rfl hr)
      intro a9 wv B h;obtain ⟨_,qM⟩:=h.has 0 rfl rfl;obtain ⟨_,qB,gB,sB,AB,kB,cB,BB,mB,dB,rfl,hB,lB,tB,nB⟩:=h.get 1 rfl rfl (.inl rfl);obtain ⟨_,qA,gA,capA,rfl,tA⟩:=h.get 2 rfl rfl (.inl rfl);obtain ⟨_,qU,gU,capU,rfl,tU⟩:=h.get 3 rfl rfl (.inl rfl);obtain ⟨_,qX,gX,rfl,hX,lX,BX⟩:=h.get 4 rfl rfl (.inl rfl);have hV:=hiD h.bel;have hz9:=h.bel.size;have tX:Hid (Trio wv gX (.bool false) (.slice none 0 0) (.slice none 0 0)):=lX.out;have v0:=tX.out.cell0;have f0:=tX.out.frozen 0;have v1:=tX.out.cell1;have f1:=tX.out.frozen 1;have v2:=tX.out.cell2;have f2:=tX.out.frozen 2;obtain rfl:=h.act [(69,_),(71,_),(72,_),(73,_),(12,_)] rfl (fc qM (fc qB (fc qA (fc qU (fc qX (fn))))));simp only [List.foldr];(try simp only [fx,Act.put]);refine wpAnyG_ready (rs:=[7]) (by kernel_rfl) (by simp) ?_;refine AllReadyG.last rfl (fun KK hKK=> ?_);go_simp;refine hKK.out _ _ ?_;clear hKK KK;refine wpAnyG_done (by kernel_rfl) ?_ _;(go_wp2_with fail);go_meet
      exact ⟨gX,gU,capU,rfl,hX,tX.out.set _ _ _,tU.out.only (trio_only wv gX _ _ _) (fun b hb e=>hb.2 6 (e ▸ BX)) (fun b hb=>hb.1),bel_trio hV.out hX _ _ _⟩
     case rest=>
      obtain ⟨g12,gg,cap,rfl,hg12,hT12,hV12,hB12⟩:=hcut;obtain ⟨wy,rfl⟩:∃V:World,V=wc:=⟨_,rfl⟩;have HT11:=hiD (HT9.out.bel hB12.out);have P111:=hiD (P19.out.bel hB12.out);have HO11:=hiD (HO9.out.bel2 hB12.out);have hsy:=hB12.out.size;have t_F:=(hV9.out.bel hB12.out).here;have t_P:=hV12.out.here;have t_Q:=((HQ.out.bel (HBv.out.tm hB12.out)).here).mono (T:=fun b=>((S b∧b<w.heap.size)∨w.heap.size+1+1+1+1+1≤b)∧b<wy.heap.size) fun b hb=>⟨.inl hb.1,hb.2⟩;have nmm:Siz.nm (mkK (Poly.mono kk ((kids z).co kk)))≤Siz.nm z:=by
       rw [nm_kids,kids_mk];exact Nat.le_trans (Poly.nmP_monoC kk _) nzk
      have ncut:Siz.nm (mkK (Poly.cut m (kids z)))≤Siz.nm z:=by
       rw [nm_kids,kids_mk];exact Poly.nmP_cut_le m (kids z)
      have dm:Siz.dg (Poly.consD kk (fun j=>D (j+1))) (mkK (Poly.mono kk ((kids z).co kk))):=(show Poly.dgP (Poly.consD kk (fun j=>D (j+1))) (Poly.mono kk ((kids z).co kk)) from ⟨fun i hi=>by rw [Poly.co_mono,if_neg (by have:Poly.consD kk (fun j=>D (j+1)) 0=kk:=rfl;omega)],fun i=>by
       rw [Poly.co_mono];split
       · exact Ddz.out.2 _
       · exact Siz.dg_zero _⟩)
      have dcut:Siz.dg D (mkK (Poly.cut m (kids z))):=(show Poly.dgP D (Poly.cut m (kids z)) from Poly.dgP_cut Ddz.out m);have dqE:Siz.dg Eq q:=Ddq.out;have dq1:Siz.dg (Poly.consD ((kids q).len - 1) (fun j=>Eq (j+1))) q:=(show Poly.dgP (Poly.consD ((kids q).len - 1) (fun j=>Eq (j+1))) (kids q) from ⟨(Poly.len_sh _).mono (by show _≤(kids q).len - 1+1;omega),Ddq.out.2⟩);have hdd:∀j,Poly.consD kk (fun j=>D (j+1)) j+Poly.consD ((kids q).len - 1) (fun j=>Eq (j+1)) j<1000000000000:=fun j=>by
       cases j with
       | zero=>show kk+((kids q).len - 1)<_;omega
       | succ j=>exact HDE.out (j+1)
      have nT:Siz.nm (mkK (Poly.mono kk ((kids z).co kk))*q)<2^(64*K):=Nat.lt_of_le_of_lt (Nat.le_trans (Siz.nm_mul _ _) (Nat.mul_le_mul_right _ nmm)) nzq;have nF:Siz.nm (mkK (Poly.cut m (kids z))*q)<2^(64*K):=Nat.lt_of_le_of_lt (Nat.le_trans (Siz.nm_mul _ _) (Nat.mul_le_mul_right _ ncut)) nzq;have CT11:Hid (∀(T:Nat→Prop) (V:World),Below wy.heap.size wy V→TreW T (n+1) V (.agg #[.bool false,.slice none 0 0,.slice (some ⟨gg,0,none⟩) (kk+1) cap]) (mkK (Poly.mono kk ((kids z).co kk)))→TreW T (n+1) V (.agg #[.bool false,.slice none 0 0,.slice Bq (kids q).len cq]) q→Calls Tryz.prog 86 #[.agg #[.bool false,.slice none 0 0,.slice (some ⟨gg,0,none⟩) (kk+1) cap],.int .i64 ((n:Int)+1),.agg #[.bool false,.slice none 0 0,.slice Bq (kids q).len cq]] V (GivesTr T V (n+1) (mkK (Poly.mono kk ((kids z).co kk))*q))):=fun T V _ h1 h2=>
       mtimesT K hK (n+1) (by omega) T V _ _ _ q _ _ h1 h2 dm dq1 hdd (Nat.lt_of_le_of_lt nmm nz) nq (Nat.lt_of_le_of_lt (Nat.mul_le_mul_right _ nmm) nzq)
      have CE11:Hid (∀(T:Nat→Prop) (V:World),Below wy.heap.size wy V→TreW T (n+1) V (.agg #[.bool false,.slice none 0 0,.slice Bp lp cp]) (mkK (Poly.cut m (kids z))*q)→∀v,TreW T (n+1) V v (mkK (Poly.mono kk ((kids z).co kk))*q)→Calls Tryz.prog 85 #[.agg #[.bool false,.slice none 0 0,.slice Bp lp cp],.int .i64 ((n:Int)+1),v] V (GivesTr T V (n+1) (mkK (Poly.cut m (kids z))*q - mkK (Poly.mono kk ((kids z).co kk))*q))):=fun T V _ h1 v h2=>
       mless K hK (n+1) (by omega) T V _ v _ _ h1 h2 nF nT (lens_dg (n+1) _ _ (Siz.dg_mul _ _ _ _ dcut dqE) (fun j=>HDE.out j)) (lens_dg (n+1) _ _ (Siz.dg_mul _ _ _ _ dm dq1) hdd)
      have Fin:Hid (∀(wE:World) (BE:Option Addr) (mE dE:Nat),Below wy.heap.size wy wE→TreW (fun b=>(S b∧b<w.heap.size)∨w.heap.size+1+1+1+1+1≤b) (n+1) wE (treV false none 0 0 BE mE dE) (mkK (Poly.cut m (kids z))*q - mkK (Poly.mono kk ((kids z).co kk))*q)→
       Hid ((kids (mkK (Poly.cut kk (kids z))*q)).len=mE)∧Hid (TreW (fun b=>(S b∧b<w.heap.size)∨w.heap.size+1+1+1+1+1≤b) (n+1) (((wE.setCell ⟨w.heap.size,0,none⟩ (.bool false)).setCell ⟨w.heap.size,1,none⟩ (.slice none 0 0)).setCell ⟨w.heap.size,2,none⟩ (.slice BE mE dE)) (.agg #[.bool false,.slice none 0 0,.slice BE mE dE]) (mkK (Poly.cut kk (kids z))*q))∧Hid (Trio (((wE.setCell ⟨w.heap.size,0,none⟩ (.bool false)).setCell ⟨w.heap.size,1,none⟩ (.slice none 0 0)).setCell ⟨w.heap.size,2,none⟩ (.slice BE mE dE)) w.heap.size (.bool false) (.slice none 0 0) (.slice BE mE dE))∧Hid (TOut 51 (fun b=>S b∧b<w.heap.size) (fun b=>b=w.heap.size∨b=w.heap.size+1+1) w (w.heap.size+1+1+1+1) (((wE.setCell ⟨w.heap.size,0,none⟩ (.bool false)).setCell ⟨w.heap.size,1,none⟩ (.slice none 0 0)).setCell ⟨w.heap.size,2,none⟩ (.slice BE mE dE)) n (.slice (some ⟨w.heap.size+1+1+1+1,0,none⟩) N N) (E.set kk ⟨sx,Ax,kx,cx,Bx,mx,dx⟩) (fun j=>if kk≤j then (kids z).co j else 0))∧Hid (Only (fun b=>b=w.heap.size∨b=w.heap.size+1+1+1+1∨wt.heap.size≤b) wt (((wE.setCell ⟨w.heap.size,0,none⟩ (.bool false)).setCell ⟨w.heap.size,1,none⟩ (.slice none 0 0)).setCell ⟨w.heap.size,2,none⟩ (.slice BE mE dE)))):=fun wE BE mE dE hyE hE=>by
       have e9:(mkK (Poly.cut m (kids z))*q - mkK (Poly.mono kk ((kids z).co kk))*q:Pn (n+1))=mkK (Poly.cut kk (kids z))*q:=by
        have h9:=Poly.cut_step hc (kids q);rw [hkk,Nat.add_sub_cancel] at h9;exact h9
       rw [e9] at hE;obtain ⟨_,_,_,_,hmE⟩:=hE.kidsV;refine ⟨hmE.symm,hE.only (trio_only wE w.heap.size _ _ _) (fun b hb e=>by rcases hb with hb | hb<;>omega) (fun b hb=>hb),(HT11.out.bel hyE).set _ _ _,(HO11.out.bel2 hyE).box ((trio_only wE w.heap.size _ _ _).mono fun b hb=> .inl hb) (fun b hb=>by omega),?_⟩;exact ((hon9.out.trans ((Only.of_below hB12.out).mono fun b hb=> .inr (.inr (by omega)))).trans ((Only.of_below hyE).mono fun b hb=> .inr (.inr (by omega)))).trans ((trio_only wE w.heap.size _ _ _).mono fun b hb=> .inl hb)
      clear keep10 hV9 hVx9 u0 u1 u2;have keep11:Hid (∀V,Below wy.heap.size wy V→(fun V=>V.cell? ⟨w.heap.size,0,none⟩=some (.bool false)∧V.cell? ⟨w.heap.size,1,none⟩=some (.slice none 0 0)∧V.cell? ⟨w.heap.size,2,none⟩=some (.slice Bp lp cp)∧V.cell? ⟨w.heap.size+1,0,none⟩=some (.bool false)∧V.cell? ⟨w.heap.size+1,1,none⟩=some (.slice none 0 0)∧V.cell? ⟨w.heap.size+1,2,none⟩=some (.slice Bq (kids q).len cq)∧V.cell? ⟨g12,0,none⟩=some (.bool false)∧V.cell? ⟨g12,1,none⟩=some (.slice none 0 0)∧V.cell? ⟨g12,2,none⟩=some (.slice (some ⟨gg,0,none⟩) (kk+1) cap)) V):=fun V hV=>⟨(HT11.out.bel hV).cell0,(HT11.out.bel hV).cell1,(HT11.out.bel hV).cell2,(P111.out.bel hV).cell0,(P111.out.bel hV).cell1,(P111.out.bel hV).cell2,(hT12.out.bel hV).cell0,(hT12.out.bel hV).cell1,(hT12.out.bel hV).cell2⟩;(go_wp2_with fail);refine wp_regionG (S:=fun V=>V.cell? ⟨w.heap.size,0,none⟩=some (.bool false)∧V.cell? ⟨w.heap.size,1,none⟩=some (.slice none 0 0)∧V.cell? ⟨w.heap.size,2,none⟩=some (.slice Bp lp cp)∧V.cell? ⟨w.heap.size+1,0,none⟩=some (.bool false)∧V.cell? ⟨w.heap.size+1,1,none⟩=some (.slice none 0 0)∧V.cell? ⟨w.heap.size+1,2,none⟩=some (.slice Bq (kids q).len cq)∧V.cell? ⟨g12,0,none⟩=some (.bool false)∧V.cell? ⟨g12,1,none⟩=some (.slice none 0 0)∧V.cell? ⟨g12,2,none⟩=some (.slice (some ⟨gg,0,none⟩) (kk+1) cap)) (z:=7) (by kernel_rfl) ?_;have hHeld:=keep11.out _ (Below.refl wy.heap.size wy).drew;(try dsimp only at hHeld);refine tk 7 0 (.agg #[.bool false,.slice none 0 0,.slice Bp lp cp]) rfl hHeld ?_;(try simp only [fx,Act.put]);refine tk 7 1 (.int .i64 ((n:Int)+1)) rfl hHeld ?_;(try simp only [fx,Act.put]);refine tk 7 2 (.agg #[.bool false,.slice none 0 0,.slice (some ⟨gg,0,none⟩) (kk+1) cap]) rfl hHeld ?_;(try simp only [fx,Act.put]);refine tk 7 3 (.int .i64 ((n:Int)+1)) rfl hHeld ?_;(try simp only [fx,Act.put]);refine tk 7 4 (.agg #[.bool false,.slice none 0 0,.slice Bq (kids q).len cq]) rfl hHeld ?_;(try simp only [fx,Act.put]);have iq:Hid (∀b,wy.heap.size≤b→(fun b=>(S b∧b<w.heap.size)∨w.heap.size+1+1+1+1+1≤b) b):=fun b hb=> .inr (by omega);refine wpAnyG_iv (w0:=wy) [⟨5,79,5,KT (fun b=>(S b∧b<w.heap.size)∨w.heap.size+1+1+1+1+1≤b) (n+1) (fun x=>(mkK (Poly.mono kk ((kids z).co kk))*q)=x)⟩,⟨6,80,6,KT (fun b=>(S b∧b<w.heap.size)∨w.heap.size+1+1+1+1+1≤b) (n+1) (fun x=>(mkK (Poly.cut m (kids z))*q - (mkK (Poly.mono kk ((kids z).co kk))*q))=x)⟩] [5,6] [79,80] [7] #[true,true,true,true,true,true,true,false] 1 rfl rfl (by kernel_rfl) rfl rfl (Below.refl wy.heap.size wy).drew (fc KT.keeps (fc KT.keeps (fn))) (fc ?_ (fc ?_ (fn))) ?_
      · intro L a V B hr hd h
        have r76:=h.old 76 rfl rfl;have r77:=h.old 77 rfl rfl;have r78:=h.old 78 rfl rfl;refine iv_step rfl fun KK hKK=> ?_;go_simp;refine (CT11.out _ V h.bel (h.tree t_P) (h.tree t_Q)).mono ?_;rintro e w' ⟨s0,A0,k0,c0,B0,m0,d0,rfl,hv,hb⟩;unfold treV;(go_wp2_with fail);exact hKK.out _ _ (keep11.out _ (h.bel.tm hb)) (h.put 0 rfl hr hb ⟨_,s0,A0,k0,c0,B0,m0,d0,rfl,rfl,h.res iq.out hv⟩)
      · intro L a V B hr hd h
        obtain ⟨_,qT,_,sT,AT,kT,cT,BT,mT,dT,rfl,rfl,tT⟩:=h.get 0 rfl (hd 5 (by kernel_rfl)) (.inl rfl);have r74:=h.old 74 rfl rfl;have r75:=h.old 75 rfl rfl;refine iv_step rfl fun KK hKK=> ?_;go_simp;refine (CE11.out _ V h.bel (h.tree t_F) _ tT.out.here).mono ?_;rintro e w' ⟨s0,A0,k0,c0,B0,m0,d0,rfl,hv,hb⟩;unfold treV;(go_wp2_with fail);exact hKK.out _ _ (keep11.out _ (h.bel.tm hb)) (h.put 1 rfl hr hb ⟨_,s0,A0,k0,c0,B0,m0,d0,rfl,rfl,h.res iq.out hv⟩)
      intro a9 wv B h;obtain ⟨_,qT,_,sT,AT,kT,cT,BT,mT,dT,rfl,rfl,tT⟩:=h.get 0 rfl rfl (.inl rfl);obtain ⟨_,qE,_,sE,AE,kE,cE,BE,mE,dE,rfl,rfl,tE⟩:=h.get 1 rfl rfl (.inl rfl);have hV:=hiD h.bel;have hz9:=h.bel.size;obtain ⟨rfl,rfl,rfl,rfl,hmE⟩:=tE.out.kidsV;clear hmE;obtain ⟨hl2,hV2,hT2,hO2,hon2⟩:=Fin.out wv BE mE dE hV.out (tE.out.mono fun b hb=>hb.1);have tz:=HT11.out.bel hV.out;have v0:=tz.cell0;have f0:=tz.frozen 0;have v1:=tz.cell1;have f1:=tz.frozen 1;have v2:=tz.cell2;have f2:=tz.frozen 2;obtain rfl:=h.act [(79,_),(80,_)] rfl (fc qT (fc qE (fn)));simp only [List.foldr];(try simp only [fx,Act.put]);refine wpAnyG_ready (rs:=[7]) (by kernel_rfl) (by simp) ?_;refine AllReadyG.last rfl (fun KK hKK=> ?_);go_simp;refine hKK.out _ _ ?_;clear hKK KK;refine wpAnyG_done (by kernel_rfl) ?_ _;(go_wp2_with fail);go_roundg (gk - 1)
      case measure=>omega
      case rel=>exact ⟨kk,E.set kk ⟨sx,Ax,kx,cx,Bx,mx,dx⟩,BE,mE,dE,by omega,by omega,hl2,HE9,hO2,hT2,hV2,hon2⟩
theorem mby (K:Nat) (hK:K≤3900000000000):∀n,n≤99→ByN n K
 | 0,_=>mby0 K hK
 | n+1,hn=>fun S w u v z q D E hf hq q0 dz dq hD nz nq nzq=>by
   rw [Int.natCast_add];exact mbyS n K hK (by omega) (mby K hK n (by omega)) S w u v z q D E hf hq q0 dz dq hD nz nq nzq
end Go.Proofs.YtehcoffbiplphaaGreat
