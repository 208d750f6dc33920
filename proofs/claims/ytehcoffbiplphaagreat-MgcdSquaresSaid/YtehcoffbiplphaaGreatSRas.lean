/- Contract: radical of small polynomials.
   Contract: Radical of small polynomials.
   Contract: Is, whatever radical's contract rests on. -/
import Derived.Test.YtehcoffbiplphaaGreatSPrimK
import Derived.Test.YtehcoffbiplphaaGreatSSqs
set_option linter.unusedVariables false
set_option linter.unusedSimpArgs false
set_option maxHeartbeats 16000000
set_option maxRecDepth 100000
namespace Cl
open CRing
theorem phi_ge:shapes (fun x y z=>Nat.ble x (phi3 x y z) && (Nat.ble y (phi3 x y z) && Nat.ble z (phi3 x y z)))=true:=by decide+kernel
theorem D3_phi {x y z:Nat}(h:(x+1)*(y+1)*(z+1)≤20) (j:Nat):D3 x y z j≤phi3 x y z:=by
 have h1:=of_shapes phi_ge h
 rw [Bool.and_eq_true,Bool.and_eq_true,Nat.ble_eq,Nat.ble_eq,Nat.ble_eq] at h1
 match j with
 | 0=>exact h1.1
 | 1=>exact h1.2.1
 | 2=>exact h1.2.2
 | j+3=>exact Nat.zero_le _
theorem arg_plTD {n:Nat} {q:Pn n} {T:List TV} {D:Nat→Nat}(hD:∀j,D j≤1000) (hV:Siz.vol (Pn n) D≤4096) (hT:PlainT n T) (e:mvT T=plT n q) (dq:Siz.dg D q) (nq:Siz.nm q≤2^e6):Arg n 1000 T:=by
 have hl:=congrArg List.length e
 rw [mvT_length] at hl
 have hc:(plT n q).length≤4096:=by
  unfold plT;rw [List.length_reverse];exact Nat.le_trans (termsP_count dq) hV
 refine ⟨fun t ht=> ?_,fun t ht u hu=> ?_,fun t ht=> ?_,by omega⟩
 · have h1:valT t∈mvT T:=List.mem_map.2 ⟨t,ht,rfl⟩
   exact hT.mv.len _ h1
 · have h1:valT t∈plT n q:=by rw [← e];exact List.mem_map.2 ⟨t,ht,rfl⟩
   have h2:=plT_nn n q _ h1 u hu;obtain ⟨k,hk,hk2⟩:=List.mem_iff_getElem.1 hu;have h3:=plT_dg dq h1 k;have h4:=hD k;have h5:nth (valT t).1 k=u:=by
    rw [nth_lt (show k<(valT t).1.length from hk)];exact hk2
   rw [h5] at h3;omega
 · have h1:valT t∈plT n q:=by rw [← e];exact List.mem_map.2 ⟨t,ht,rfl⟩
   have h2:(valT t).2.natAbs≤absM (plT n q):=by
    have:∀M:Mv,valT t∈M→(valT t).2.natAbs≤absM M:=fun M=>by
     induction M with
     | nil=>intro h;cases h
     | cons s M ih=>
       intro h;rw [absM_consP];rcases List.mem_cons.1 h with e2 | h
       · rw [← e2];omega
       · have:=ih h;omega
    exact this _ h1
   rw [absM_plT] at h2;obtain ⟨K,hK⟩:∃K:Nat,1000=K:=⟨_,rfl⟩;have h3:=(hT.co t ht).cap (K:=K) (Nat.lt_of_le_of_lt (show (intZ t.1.1 t.1.2).natAbs≤2^e6 from Nat.le_trans h2 nq) (Nat.pow_lt_pow_right (by decide) (by have:=e6_eq;omega)));omega
theorem arg_plT {n x y z:Nat} {q:Pn n} {T:List TV}(hn:n≤3) (hs:(x+1)*(y+1)*(z+1)≤20) (hT:PlainT n T) (e:mvT T=plT n q) (dq:Siz.dg (D3 x y z) q) (nq:Siz.nm q≤2^e6):Arg n 1000 T:=arg_plTD (fun j=>by have:=D3_le hs j;omega) (by have:=vol_small hn hs;omega) hT e dq nq
end Cl
namespace Go.Proofs.YtehcoffbiplphaaGreat
open Go.RowKit Cl CRing
attribute [local go_sem ↓] Go.wp_at_zero Go.wp_at_succ
def GivesRd (w:World) (n:Nat) (q:Pn n) (e:Ending) (w':World):Prop:=
 (q=0∧e=.returned (.tuple #[treV false none 0 0 none 0 0,treV false none 0 0 none 0 0,.int .i64 8])∧Below w.heap.size w w')∨
 (q≠0∧∃(g r:Pn n) (s:Bool) (A:Option Addr) (k c:Nat) (B:Option Addr) (m d:Nat) (s':Bool) (A':Option Addr) (k' c':Nat) (B':Option Addr) (m' d':Nat),e=.returned (.tuple #[treV s A k c B m d,treV s' A' k' c' B' m' d',.int .i64 0])∧q=r*g∧IsK n n q g∧TreW (fun _=>True) n w' (treV s A k c B m d) r∧TreW (fun _=>True) n w' (treV s' A' k' c' B' m' d') g∧Below w.heap.size w w')
theorem results_cct {fn:Func} {p q u:Tmp} {ty:TypeId}(h:fn.results=#[.cell p ty,.cell q ty,.tmp u]) (tmps:Array Value) (P:Program) (w:World) (g1 g2:Nat) (v1 v2:Value)
 (hp:tmps.getD p undef=.pointer (some ⟨g1,0,none⟩)) (hq:tmps.getD q undef=.pointer (some ⟨g2,0,none⟩)) (h1:(loadVar ty ⟨g1,0,none⟩).run P w=.ok v1 w) (h2:(loadVar ty ⟨g2,0,none⟩).run P w=.ok v2 w):
 (results fn tmps).run P w=.ok (.tuple #[v1,v2,tmps.getD u undef]) w:=by
 have hp':tmps[p]?.getD undef=.pointer (some ⟨g1,0,none⟩):=by simpa using hp
 have hq':tmps[q]?.getD undef=.pointer (some ⟨g2,0,none⟩):=by simpa using hq
 simp [results,h,hp',hq',asAddr,h1,h2]
theorem trio_two {w:World} {g h:Nat} {a b c a' b' c':Value}(hg:Trio w g a b c) (hh:Trio w h a' b' c') (hne:g≠h) (x y z x' y' z':Value):
 Trio ((((((w.setCell ⟨g,0,none⟩ x).setCell ⟨g,1,none⟩ y).setCell ⟨g,2,none⟩ z).setCell ⟨h,0,none⟩ x').setCell ⟨h,1,none⟩ y').setCell ⟨h,2,none⟩ z') g x y z∧
 Trio ((((((w.setCell ⟨g,0,none⟩ x).setCell ⟨g,1,none⟩ y).setCell ⟨g,2,none⟩ z).setCell ⟨h,0,none⟩ x').setCell ⟨h,1,none⟩ y').setCell ⟨h,2,none⟩ z') h x' y' z':=
 ⟨((((hg.set x y z).far (p:=⟨h,0,none⟩) hne x').far (p:=⟨h,1,none⟩) hne y').far (p:=⟨h,2,none⟩) hne z'),((((hh.far (p:=⟨g,0,none⟩) (fun e=>hne e.symm) x).far (p:=⟨g,1,none⟩) (fun e=>hne e.symm) y).far (p:=⟨g,2,none⟩) (fun e=>hne e.symm) z).set x' y' z')⟩
theorem bel_six {H:Nat} {w0 w:World} {g h:Nat}(hb:Below H w0 w) (hg:H≤g) (hh:H≤h) (x y z x' y' z':Value):Below H w0 ((((((w.setCell ⟨g,0,none⟩ x).setCell ⟨g,1,none⟩ y).setCell ⟨g,2,none⟩ z).setCell ⟨h,0,none⟩ x').setCell ⟨h,1,none⟩ y').setCell ⟨h,2,none⟩ z'):=bel_trio (bel_trio hb hg x y z) hh x' y' z'
theorem only_six {w:World} {g h:Nat}(x y z x' y' z':Value):Only (fun b=>b=g∨b=h) w ((((((w.setCell ⟨g,0,none⟩ x).setCell ⟨g,1,none⟩ y).setCell ⟨g,2,none⟩ z).setCell ⟨h,0,none⟩ x').setCell ⟨h,1,none⟩ y').setCell ⟨h,2,none⟩ z'):=
 ((trio_only w g x y z).mono fun b hb=> .inl hb).trans ((trio_only _ h x' y' z').mono fun b hb=> .inr hb)
theorem load_trio {w:World} {g:Nat} {a b c:Value}(h:Trio w g a b c):(loadVar 51 ⟨g,0,none⟩).run Tryz.prog w=.ok (.agg #[a,b,c]) w:=run_loadVar_row w g _ _ _ _ _ h Tryz.underlying51 rfl apoly_size
theorem mradical_gen (n:Nat) (hn:n≤3) (A:Option Addr) (m c:Nat) (L:List TV) (w:World) (hx:Trs w A m L) (hL:Arg n 1000 L) (q:Pn n) (hq:prT n (toT n (mvT L))=q) (D:Nat→Nat) (hD:∀j,D j≤1000) (hV:Siz.vol (Pn n) D≤4096) (dq:Siz.dg D q)
 (fit:∀g,q≠0→Dv g q→Siz.nm g≤2^e6) (nD:∀k,k<n→Siz.nm (derT n k q)≤2^e6) (ok:∀k g,k<n→q≠0→IsK n k q g→ComOk n g (derT n k q)):
 Calls Tryz.prog 32 #[.int .i64 (n:Int),.slice A m c] w (GivesRd w n q):=by
 have nnL:NnM (mvT L):=fun t ht u hu=>(hL.bdM t ht u hu).1
 have lenL:=hL.lenM
 have Cp:=hiD (fun W (hW:Below w.heap.size w W)=>mprim n 1000 A m c L W (hx.bel hW) hL (by omega) (by omega))
 have pl:Hid (∀P T:List TV,PlainT n P→EqM n (mvT P) (mvT L)→mvT T=prM (mvT P)→mvT T=plT n q):=fun P T hP he hT=>by
  have hbd:=hP.mv.bd he hL.bdM;have h1:mvT P=plT n (toT n (mvT L)):=plT_unique hP.mv (fun t ht u hu=>(hbd t ht u hu).1) (toT_eq hP.mv.len (fun t ht u hu=>(hbd t ht u hu).1) lenL nnL he);rw [hT,h1,prT_plain,hq]
 have Dq:=hiD dq
 have FQ:Hid (∀g,q≠0→Dv g q→Siz.dg D g∧Siz.nm g≤2^e6):=fun g h0 hg=>⟨(Siz.factor _ _ _ h0 dq hg).1,fit g h0 hg⟩
 have ND:=hiD nD
 have OK:=hiD ok
 clear hx hL lenL nnL hq dq fit nD ok
 have t0:=(Trio.new w (.bool false) (.slice none 0 0) (.slice none 0 0)).bel (bRr.alloc lRr (.cells #[.bool false,.slice none 0 0,.slice none 0 0] 51))
 have t1:=Trio.new (w.alloc (.cells #[.bool false,.slice none 0 0,.slice none 0 0] 51)) (.bool false) (.slice none 0 0) (.slice none 0 0)
 rw [World.size_alloc] at t1
 have hb:Below w.heap.size w ((w.alloc (.cells #[.bool false,.slice none 0 0,.slice none 0 0] 51)).alloc (.cells #[.bool false,.slice none 0 0,.slice none 0 0] 51)):=(bRr.alloc lRr _).alloc (by simp) _
 go_enter Tryz.func32,Tryz.ntmps32
 go_wp2_with fail
 generalize hwt:(w.alloc (.cells #[.bool false,.slice none 0 0,.slice none 0 0] 51)).alloc (.cells #[.bool false,.slice none 0 0,.slice none 0 0] 51)=wt at*
 clear hwt
 have T0:=hiD t0
 have T1:=hiD t1
 have HB:=hiD hb
 clear t0 t1 hb
 refine (Cp.out wt HB.out).mono ?_
 rintro e w1 ⟨s1,A1,k1,c1,ls1,B1,cB1,T,P,rfl,p1,p2,p3,p4,p5,p6,p7,p8,p9,p10,p11,p12⟩
 have hTq:=hiD (pl.out P T p4 p5 p11)
 have HT:=hiD p9
 have PT:=hiD p10
 have HB1:=hiD (HB.out.tm p12)
 have X0:=hiD (T0.out.bel p12)
 have X1:=hiD (T1.out.bel p12)
 clear p3 p4 p5 p6 p9 p10 p11 p12 pl Cp T0 T1 HB
 have hba:Hid (Below w1.heap.size w1 (w1.alloc (.cells #[.bool s1,.slice A1 k1 c1] 41))):=bRr.alloc lRr _
 have r0:=(X0.out.bel hba.out).cell0
 have r1:=(X0.out.bel hba.out).cell1
 have r2:=(X0.out.bel hba.out).cell2
 have r3:=(X0.out.bel hba.out).frozen 0
 have r4:=(X0.out.bel hba.out).frozen 1
 have r5:=(X0.out.bel hba.out).frozen 2
 have v0:=(X1.out.bel hba.out).cell0
 have v1:=(X1.out.bel hba.out).cell1
 have v2:=(X1.out.bel hba.out).cell2
 have v3:=(X1.out.bel hba.out).frozen 0
 have v4:=(X1.out.bel hba.out).frozen 1
 have v5:=(X1.out.bel hba.out).frozen 2
 by_cases h0:T.length=0
 · have hq0:q=0:=plT_zero.1 (by rw [← hTq.out,List.eq_nil_of_length_eq_zero h0];rfl)
   have hz0:((T.length:Int)==0)=true:=by rw [h0];rfl
   have HBa:Hid (Below w.heap.size w (w1.alloc (.cells #[.bool s1,.slice A1 k1 c1] 41))):=HB1.out.tm hba.out;have Y0:=hiD (((X0.out.bel hba.out).set (.bool false) (.slice none 0 0) (.slice none 0 0)));have l1:=(X1.out.bel hba.out).lt;have l0:=(X0.out.bel hba.out).lt;obtain ⟨y1,y2⟩:=trio_two (X0.out.bel hba.out) (X1.out.bel hba.out) (by omega) (.bool false) (.slice none 0 0) (.slice none 0 0) (.bool false) (.slice none 0 0) (.slice none 0 0);have Y1:=hiD y1;have Y2:=hiD y2;have HBe:=hiD (bel_six HBa.out (g:=w.heap.size) (h:=w.heap.size+1) lRr (by omega) (.bool false) (.slice none 0 0) (.slice none 0 0) (.bool false) (.slice none 0 0) (.slice none 0 0));clear h0 y1 y2 Y0;go_wp2_with fail
   exact bodyPost_ret (v:=.tuple #[.agg #[.bool false,.slice none 0 0,.slice none 0 0],.agg #[.bool false,.slice none 0 0,.slice none 0 0],.int .i64 8]) (results_cct (fn:=Tryz.f32) rfl _ _ _ w.heap.size (w.heap.size+1) _ _ rfl rfl (load_trio Y1.out) (load_trio Y2.out)) rfl
    (.inl ⟨hq0,rfl,HBe.out⟩)
 · have hz0:((T.length:Int)==0)=false:=beq_eq_false_iff_ne.2 (by omega)
   have hq0:Hid (q≠0):=fun e=>h0 (by
    have h1:=congrArg List.length hTq.out;rw [mvT_length,plT_zero.2 e] at h1;exact h1)
   have AT:=hiD (arg_plTD hD hV PT.out hTq.out Dq.out (FQ.out q hq0.out (Dv.refl q)).2);have hTt:Hid (toT n (mvT T)=q):=by show _=_;rw [hTq.out,toT_plT]
   have HBa:Hid (Below w.heap.size w (w1.alloc (.cells #[.bool s1,.slice A1 k1 c1] 41))):=HB1.out.tm hba.out;have Cq:Hid (Calls Tryz.prog 28 #[.int .i64 (n:Int),.int .i64 0,.slice B1 T.length cB1] (w1.alloc (.cells #[.bool s1,.slice A1 k1 c1] 41)) (GivesTr (fun _=>False) (w1.alloc (.cells #[.bool s1,.slice A1 k1 c1] 41)) n q)):=by
    have h:=mplanted 1000 (by omega) n n 0 B1 T.length cB1 T (w1.alloc (.cells #[.bool s1,.slice A1 k1 c1] 41)) (by omega) (by omega) (HT.out.bel hba.out) AT.out p7 p8;have e:plantP n 0 (mvT T)=q:=hTt.out;rw [e] at h;exact h
   have HT1:=hiD (HT.out.bel hba.out);have Z0:=hiD (X0.out.bel hba.out);have Z1:=hiD (X1.out.bel hba.out);clear h0 r0 r1 r2 r3 r4 r5 v0 v1 v2 v3 v4 v5 X0 X1 HT HB1;go_wp2_with fail
   generalize hw1:w1.alloc (.cells #[.bool s1,.slice A1 k1 c1] 41)=wa at*
   clear hw1 hba;refine Cq.out.mono ?_;rintro e w2 ⟨s2,A2,k2,c2,B2,m2,d2,rfl,t2,hb2⟩;have HB2:=hiD (HBa.out.tm hb2);have HT2:=hiD (HT1.out.bel hb2);have U0:=hiD (Z0.out.bel hb2);have U1:=hiD (Z1.out.bel hb2);have zlt:w.heap.size+1<w2.heap.size:=U1.out.lt;have Tq:Hid (TreW (fun b=>w.heap.size+2≤b∧b<w2.heap.size) n w2 (treV s2 A2 k2 c2 B2 m2 d2) q):=t2.here.mono fun b hb=>⟨by
    have h9:=Z1.out.lt;rcases hb.1 with h | h
    · exact h.elim
    · omega,hb.2⟩
   clear t2 hb2 Cq Z0 Z1 HT1 HBa;unfold treV;have t10:=Trio.new w2 (.bool s2) (.slice A2 k2 c2) (.slice B2 m2 d2);have ba:Below w2.heap.size w2 (w2.alloc (.cells #[.bool s2,.slice A2 k2 c2,.slice B2 m2 d2] 51)):=bRr.alloc lRr _;have hz2:Hid ((w2.alloc (.cells #[.bool s2,.slice A2 k2 c2,.slice B2 m2 d2] 51)).heap.size=w2.heap.size+1):=World.size_alloc _ _;have o0:=t10.cell0;have o1:=t10.cell1;have o2:=t10.cell2;go_wp2_with fail
   generalize hw2:w2.alloc (.cells #[.bool s2,.slice A2 k2 c2,.slice B2 m2 d2] 51)=w4 at*
   clear hw2 o0 o1 o2;have t11:=Trio.new w4 (.bool s2) (.slice A2 k2 c2) (.slice B2 m2 d2);rw [hz2.out] at t11;have bb:Below w4.heap.size w4 (w4.alloc (.cells #[.bool s2,.slice A2 k2 c2,.slice B2 m2 d2] 51)):=bRr.alloc lRr _;have T10:=hiD t10;have BA:=hiD ba;have BB:=hiD bb;have Tq4:Hid (TreW (fun b=>b≠w2.heap.size+1∧w.heap.size+2≤b) n w4 (treV s2 A2 k2 c2 B2 m2 d2) q):=(Tq.out.bel ba).mono fun b hb=>⟨by have:=hb.2;omega,hb.1⟩;have Tq5:=hiD (Tq4.out.bel bb);generalize hw4:w4.alloc (.cells #[.bool s2,.slice A2 k2 c2,.slice B2 m2 d2] 51)=w5 at*
   clear hw4;have T11:=hiD t11;clear t10 t11 ba bb Tq;go_loopw [39] (fun kk wr=>∃(k:Nat) (s:Bool) (A':Option Addr) (q' c':Nat) (B':Option Addr) (m' d':Nat) (g:Pn n),k≤n∧kk=.int .i64 (k:Int)∧Hid (Below w4.heap.size w4 wr)∧Hid (Trio wr (w2.heap.size+1) (.bool s) (.slice A' q' c') (.slice B' m' d'))∧Hid (TreW (fun b=>b≠w2.heap.size+1∧w.heap.size+2≤b) n wr (treV s A' q' c' B' m' d') g)∧Hid (IsK n k q g)) (fun kk _=>n - (intOf kk).toNat)
   case atStart=>exact ⟨0,s2,A2,k2,c2,B2,m2,d2,q,Nat.zero_le _,rfl,BB,T11,Tq5.out,IsK.start n q⟩
   case round=>
    clear T11 BB Tq5;obtain ⟨k,s,A',q',c',B',m',d',g,hk,rfl,hbw,hT,hg,hK⟩:=hrel;obtain ⟨wp,rfl⟩:∃wp:World,wp=wr:=⟨_,rfl⟩;have hlt1:=hT.out.lt;have x0:=hT.out.cell0;have x1:=hT.out.cell1;have x2:=hT.out.cell2;have x3:=hT.out.frozen 0;have x4:=hT.out.frozen 1;have x5:=hT.out.frozen 2;by_cases hlt:k<n
    · have hlt':(k:Int)<(n:Int):=by omega
      have HTp:=hiD ((HT2.out.bel BA.out).bel hbw.out);have bdT:BdM 1000 (mvT T):=AT.out.bdM;have Cd:=hiD (pDeriv n 1000 B1 T.length cB1 T k wp HTp.out AT.out (by omega) hlt (by omega) (fun t ht u hu=>by
       obtain ⟨s',hs',rfl⟩:=der_mem (i:=k) ht;have hbd:=bdT s' hs';rcases List.mem_or_eq_of_mem_set hu with hu | hu
       · exact hbd u hu
       · rw [hu]
         by_cases hi:k<s'.1.length
         · have:=hbd _ (nth_mem hi);omega
         · rw [nth_ge (by omega)];omega))
      clear HTp bdT;(go_wp2_with fail);refine Cd.out.mono ?_;rintro e w6 ⟨A6,c6,L6,rfl,u1,u2,u3,u4,u5,u6⟩;have hb6:Below wp.heap.size wp w6:=u6;have n2:NnM (mvT L6):=fun t ht v hv=>by
       have bd6:BdM 1000 (derP k (mvT T)):=fun t ht u hu=>by
        obtain ⟨s',hs',rfl⟩:=der_mem ht;have hbd:=AT.out.bdM s' hs';rcases List.mem_or_eq_of_mem_set hu with hu | hu
        · exact hbd u hu
        · rw [hu]
          by_cases hi:k<s'.1.length
          · have:=hbd _ (nth_mem hi);omega
          · rw [nth_ge (by omega)];omega
       exact (u4.mv.bd u5 bd6 t ht v hv).1
      have eD:toT n (mvT L6)=derT n k q:=by
       have l1:LenM n (derP k (mvT T)):=fun t ht=>by
        obtain ⟨s',hs',rfl⟩:=der_mem ht;rw [List.length_set];exact AT.out.lenM s' hs'
       have n1:NnM (derP k (mvT T)):=der_nn fun t ht v hv=>(AT.out.bdM t ht v hv).1;have h:=toT_eq u4.mv.len n2 l1 n1 u5;rw [h,hTq.out];rfl
      have dD:Siz.dg D (derT n k q):=derT_dg Dq.out;have A6':Arg n 1000 L6:=arg_plTD hD hV u4 (plT_unique u4.mv n2 eD) dD (ND.out k hlt);have Cl:Hid (∀W,Below w6.heap.size w6 W→Calls Tryz.prog 28 #[.int .i64 (n:Int),.int .i64 0,.slice A6 L6.length c6] W (GivesTr (fun _=>False) W n (derT n k q))):=fun W hW=>by
       have h:=mplanted 1000 (by omega) n n 0 A6 L6.length c6 L6 W (by omega) (by omega) (u3.bel hW) A6' u1 u2;have e:plantP n 0 (mvT L6)=derT n k q:=eD;rw [e] at h;exact h
      have Cc:=hiD (OK.out k g hlt hq0.out hK.out);have TB:=hiD (hT.out.bel hb6);have TG:=hiD (hg.out.bel hb6);have HK:=hiD hK.out;have HBw:=hiD (hbw.out.tm hb6);have hl6:=TB.out.lt;have hz4:Hid (w4.heap.size=w2.heap.size+1):=hz2.out;have keepS:Hid (∀W,Below w6.heap.size w6 W→(fun W=>W.cell? ⟨w2.heap.size+1,0,none⟩=some (.bool s)∧W.cell? ⟨w2.heap.size+1,1,none⟩=some (.slice A' q' c')∧W.cell? ⟨w2.heap.size+1,2,none⟩=some (.slice B' m' d')) W):=fun W hW=>⟨(TB.out.bel hW).cell0,(TB.out.bel hW).cell1,(TB.out.bel hW).cell2⟩;clear hT hg hK hbw x0 x1 x2 x3 x4 x5 u3 u4 u5 u6 eD dD A6' Cd hb6;(go_wp2_with fail);refine wp_regionG (S:=fun W=>W.cell? ⟨w2.heap.size+1,0,none⟩=some (.bool s)∧W.cell? ⟨w2.heap.size+1,1,none⟩=some (.slice A' q' c')∧W.cell? ⟨w2.heap.size+1,2,none⟩=some (.slice B' m' d')) (z:=6) (by kernel_rfl) ?_;have hHeld:=keepS.out _ (Below.refl w6.heap.size w6).drew;(try dsimp only at hHeld);refine tk 6 0 (.int .i64 (n:Int)) rfl hHeld ?_;(try simp only [fx,Act.put]);refine tk 6 1 (.agg #[.bool s,.slice A' q' c',.slice B' m' d']) rfl hHeld ?_;(try simp only [fx,Act.put]);refine tk 6 2 (.int .i64 (n:Int)) rfl hHeld ?_;(try simp only [fx,Act.put]);refine tk 6 3 (.slice A6 L6.length c6) rfl hHeld ?_;(try simp only [fx,Act.put]);refine wpAnyG_ready (rs:=[4]) (by kernel_rfl) (by simp) ?_;refine AllReadyG.cons rfl (by decide) (fun KK hKK=> ?_) AllReadyG.nil;go_simp;refine (Cl.out _ bRr.drew).mono ?_;rintro e w7 ⟨s7,A7,k7,c7,B7,m7,d7,rfl,t7,hb7'⟩;have hb7:Below w6.heap.size w6 w7:=bRr.drew.trans hb7';have T7:=hiD (t7.mono (T:=fun b=>b≠w2.heap.size+1∧w.heap.size+2≤b) fun b hb=>by
       rcases hb with hb | hb
       · exact hb.elim
       · have h8:w6.heap.size≤b:=hb
         exact ⟨by omega,by omega⟩)
      have TG7:=hiD (TG.out.bel hb7);clear t7;unfold treV;(go_wp2_with fail);refine hKK.out _ _ (keepS.out _ hb7) (fun hHeld=> ?_);clear hKK KK;(try dsimp only at hHeld);(try simp only [fx,Act.put]);refine wpAnyG_ready (rs:=[5]) (by kernel_rfl) (by simp) ?_;refine AllReadyG.cons rfl (by decide) (fun KK hKK=> ?_) AllReadyG.nil;go_simp;refine (Cc.out (fun b=>b≠w2.heap.size+1∧w.heap.size+2≤b) w7 _ _ TG7.out T7.out).mono ?_;rintro e w8 ⟨g8,hg8,s8,A8,k8,c8,B8,m8,d8,rfl,t8,hb8'⟩;have hb8:Below w6.heap.size w6 w8:=hb7.tm hb8';have T8:=hiD (t8.mono (T:=fun b=>b≠w2.heap.size+1∧w.heap.size+2≤b) fun b hb=>by
       rcases hb with hb | hb
       · exact hb
       · have h8:=hb7.size
         exact ⟨by omega,by omega⟩)
      have HK8:=hiD (HK.out.next hg8);have TB8:=hiD (TB.out.bel hb8);clear t8 hg8;unfold treV;(go_wp2_with fail);refine hKK.out _ _ (keepS.out _ hb8) (fun hHeld=> ?_);clear hKK KK;(try dsimp only at hHeld);(try simp only [fx,Act.put]);refine wpAnyG_ready (rs:=[6]) (by kernel_rfl) (by simp) ?_;refine AllReadyG.last rfl (fun KK hKK=> ?_);have y0:=TB8.out.cell0;have y1:=TB8.out.cell1;have y2:=TB8.out.cell2;have y3:=TB8.out.frozen 0;have y4:=TB8.out.frozen 1;have y5:=TB8.out.frozen 2;have y6:=TB8.out.lt;go_simp;refine hKK.out _ _ ?_;clear hKK KK;refine wpAnyG_done (by kernel_rfl) ?_ _;have TB9:=hiD (TB8.out.set (.bool s8) (.slice A8 k8 c8) (.slice B8 m8 d8));have T9:Hid (TreW (fun b=>b≠w2.heap.size+1∧w.heap.size+2≤b) n _ (treV s8 A8 k8 c8 B8 m8 d8) g8):=T8.out.only (trio_only w8 (w2.heap.size+1) (.bool s8) (.slice A8 k8 c8) (.slice B8 m8 d8)) (fun b hb e=>hb.1 e) fun b hb=>hb;have HB9:=hiD (bel_trio (HBw.out.tm hb8) (Nat.le_of_eq hz4.out) (.bool s8) (.slice A8 k8 c8) (.slice B8 m8 d8));clear hHeld hb7 hb7' hb8 hb8' T8 TB8 keepS Cl Cc TB TG HK HBw T7 TG7 y0 y1 y2 y3 y4 y5 y6;(go_wp2_with fail);go_roundw
      case rel=>exact ⟨k+1,s8,A8,k8,c8,B8,m8,d8,g8,by omega,by go_num,HB9,TB9,T9,HK8⟩
      case measure=>simp [intOf];omega
    · have hlt':¬(k:Int)<(n:Int):=by omega
      (obtain rfl:k=n:=by omega);obtain ⟨r,hr⟩:=hK.out.l;(have hr':q=r*g:=by rw [hr,CRing.mul_comm]);have g0:g≠0:=fun e=>hq0.out (by rw [hr',e,CRing.mul_zero]);have Fg:=FQ.out g hq0.out hK.out.l;have Fr:=FQ.out r hq0.out ⟨g,hr'⟩;obtain ⟨K1,hK1⟩:∃K:Nat,100=K:=⟨_,rfl⟩;have lg':∀{u:Nat},u≤2^e6→u<2^(64*K1):=fun h=>Nat.lt_of_le_of_lt h (Nat.pow_lt_pow_right (by decide) (by have:=e6_eq;omega));have Cb:Hid (∀W,Below wp.heap.size wp W→Calls Tryz.prog 53 #[.agg #[.bool s2,.slice A2 k2 c2,.slice B2 m2 d2],.int .i64 (k:Int),.agg #[.bool s,.slice A' q' c',.slice B' m' d']] W (GivesTr (fun b=>w.heap.size+2≤b) W k r)):=fun W hW=>by
       have hp:TreW (fun b=>w.heap.size+2≤b) k W (treV s2 A2 k2 c2 B2 m2 d2) (r*g):=by
        rw [← hr'];exact (((Tq4.out.mono (T:=fun b=>w.heap.size+2≤b) fun _ hb=>hb.2).bel hbw.out).bel hW)
       exact mby K1 (by omega) k (by omega) (fun b=>w.heap.size+2≤b) W _ _ r g D D hp ((hg.out.mono (T:=fun b=>w.heap.size+2≤b) fun _ hb=>hb.2).bel hW) g0 Fr.1 Fg.1 (fun j=>by have:=hD j;omega) (lg' Fr.2) (lg' Fg.2) (Nat.lt_of_le_of_lt (mul_le_bits Fr.2 Fg.2) (Nat.pow_lt_pow_right (by decide) (by have:=e6_eq;omega)))
      have TB:=hiD hT.out;have TA:=hiD (T10.out.bel hbw.out);have HG:=hiD hg.out;have HK:=hiD hK.out;have HR:=hiD hr';have V0:=hiD ((U0.out.bel BA.out).bel hbw.out);have V1:=hiD ((U1.out.bel BA.out).bel hbw.out);have HBp:=hiD ((HB2.out.tm BA.out).trans (hbw.out.mono (Nat.le_trans HB2.out.size BA.out.size)));have keepS:Hid (∀W,Below wp.heap.size wp W→(fun W=>W.cell? ⟨w2.heap.size,0,none⟩=some (.bool s2)∧W.cell? ⟨w2.heap.size,1,none⟩=some (.slice A2 k2 c2)∧W.cell? ⟨w2.heap.size,2,none⟩=some (.slice B2 m2 d2)∧W.cell? ⟨w2.heap.size+1,0,none⟩=some (.bool s)∧W.cell? ⟨w2.heap.size+1,1,none⟩=some (.slice A' q' c')∧W.cell? ⟨w2.heap.size+1,2,none⟩=some (.slice B' m' d')) W):=fun W hW=>⟨(TA.out.bel hW).cell0,(TA.out.bel hW).cell1,(TA.out.bel hW).cell2,(TB.out.bel hW).cell0,(TB.out.bel hW).cell1,(TB.out.bel hW).cell2⟩;(have hzp:w2.heap.size<wp.heap.size:=by have:=TA.out.lt;exact this);clear hT hg hK hbw x0 x1 x2 x3 x4 x5 hr hr' g0 Fg Fr lg' hK1;(go_wp2_with fail);refine wp_regionG (S:=fun W=>W.cell? ⟨w2.heap.size,0,none⟩=some (.bool s2)∧W.cell? ⟨w2.heap.size,1,none⟩=some (.slice A2 k2 c2)∧W.cell? ⟨w2.heap.size,2,none⟩=some (.slice B2 m2 d2)∧W.cell? ⟨w2.heap.size+1,0,none⟩=some (.bool s)∧W.cell? ⟨w2.heap.size+1,1,none⟩=some (.slice A' q' c')∧W.cell? ⟨w2.heap.size+1,2,none⟩=some (.slice B' m' d')) (z:=99) (by kernel_rfl) ?_;have hHeld:=keepS.out _ (Below.refl wp.heap.size wp).drew;(try dsimp only at hHeld);refine tk 99 0 (.agg #[.bool s2,.slice A2 k2 c2,.slice B2 m2 d2]) rfl hHeld ?_;(try simp only [fx,Act.put]);refine tk 99 1 (.int .i64 (k:Int)) rfl hHeld ?_;(try simp only [fx,Act.put]);refine tk 99 2 (.agg #[.bool s,.slice A' q' c',.slice B' m' d']) rfl hHeld ?_;(try simp only [fx,Act.put]);refine tk 99 4 (.agg #[.bool s,.slice A' q' c',.slice B' m' d']) rfl hHeld ?_;(try simp only [fx,Act.put]);refine wpAnyG_ready (rs:=[3]) (by kernel_rfl) (by simp) ?_;refine AllReadyG.cons rfl (by decide) (fun KK hKK=> ?_) AllReadyG.nil;go_simp;refine (Cb.out _ bRr.drew).mono ?_;rintro e w7 ⟨s7,A7,k7,c7,B7,m7,d7,rfl,t7,hb7'⟩;have hb7:Below wp.heap.size wp w7:=bRr.drew.trans hb7';have T7:=hiD (t7.mono (T:=fun b=>w.heap.size+2≤b) fun b hb=>by
       rcases hb with hb | hb
       · exact hb
       · have h8:wp.heap.size≤b:=hb
         omega)
      have HG7:=hiD ((HG.out.bel hb7).mono (T:=fun b=>w.heap.size+2≤b) fun _ hb=>hb.2);have W0:=hiD (V0.out.bel hb7);have W1:=hiD (V1.out.bel hb7);have KS:=hiD (keepS.out _ hb7);clear t7;unfold treV;(go_wp2_with fail);refine hKK.out _ _ KS.out (fun hHeld=> ?_);clear hKK KK;(try dsimp only at hHeld);(try simp only [fx,Act.put]);have TA7:=hiD (TA.out.bel hb7);have TB7:=hiD (TB.out.bel hb7);have K5:Hid ((fun W=>W.cell? ⟨w2.heap.size,0,none⟩=some (.bool s2)∧W.cell? ⟨w2.heap.size,1,none⟩=some (.slice A2 k2 c2)∧W.cell? ⟨w2.heap.size,2,none⟩=some (.slice B2 m2 d2)∧W.cell? ⟨w2.heap.size+1,0,none⟩=some (.bool s)∧W.cell? ⟨w2.heap.size+1,1,none⟩=some (.slice A' q' c')∧W.cell? ⟨w2.heap.size+1,2,none⟩=some (.slice B' m' d')) (((w7.setCell ⟨w.heap.size,0,none⟩ (.bool s7)).setCell ⟨w.heap.size,1,none⟩ (.slice A7 k7 c7)).setCell ⟨w.heap.size,2,none⟩ (.slice B7 m7 d7))):=by
       have o5:=trio_only w7 w.heap.size (.bool s7) (.slice A7 k7 c7) (.slice B7 m7 d7);have a5:=TA7.out.keep (o5.block _ TA7.out.lt (by omega));have b5:=TB7.out.keep (o5.block _ TB7.out.lt (by omega));exact ⟨a5.cell0,a5.cell1,a5.cell2,b5.cell0,b5.cell1,b5.cell2⟩
      have K6:Hid ((fun W=>W.cell? ⟨w2.heap.size,0,none⟩=some (.bool s2)∧W.cell? ⟨w2.heap.size,1,none⟩=some (.slice A2 k2 c2)∧W.cell? ⟨w2.heap.size,2,none⟩=some (.slice B2 m2 d2)∧W.cell? ⟨w2.heap.size+1,0,none⟩=some (.bool s)∧W.cell? ⟨w2.heap.size+1,1,none⟩=some (.slice A' q' c')∧W.cell? ⟨w2.heap.size+1,2,none⟩=some (.slice B' m' d')) ((((((w7.setCell ⟨w.heap.size,0,none⟩ (.bool s7)).setCell ⟨w.heap.size,1,none⟩ (.slice A7 k7 c7)).setCell ⟨w.heap.size,2,none⟩ (.slice B7 m7 d7)).setCell ⟨w.heap.size+1,0,none⟩ (.bool s)).setCell ⟨w.heap.size+1,1,none⟩ (.slice A' q' c')).setCell ⟨w.heap.size+1,2,none⟩ (.slice B' m' d'))):=by
       have o5:=only_six (w:=w7) (g:=w.heap.size) (h:=w.heap.size+1) (.bool s7) (.slice A7 k7 c7) (.slice B7 m7 d7) (.bool s) (.slice A' q' c') (.slice B' m' d');have a5:=TA7.out.keep (o5.block _ TA7.out.lt (by omega));have b5:=TB7.out.keep (o5.block _ TB7.out.lt (by omega));exact ⟨a5.cell0,a5.cell1,a5.cell2,b5.cell0,b5.cell1,b5.cell2⟩
      have r0:=W0.out.cell0;have r1:=W0.out.cell1;have r2:=W0.out.cell2;have r3:=W0.out.frozen 0;have r4:=W0.out.frozen 1;have r5:=W0.out.frozen 2;have r6:=W0.out.lt;have v0:=W1.out.cell0;have v1:=W1.out.cell1;have v2:=W1.out.cell2;have v3:=W1.out.frozen 0;have v4:=W1.out.frozen 1;have v5:=W1.out.frozen 2;have v6:=W1.out.lt;refine wpAnyG_ready (rs:=[5]) (by kernel_rfl) (by simp) ?_;refine AllReadyG.cons rfl (by decide) (fun KK hKK=> ?_) AllReadyG.nil;go_simp;refine hKK.out _ _ K5.out (fun hHeld=> ?_);clear hKK KK;(try dsimp only at hHeld);(try simp only [fx,Act.put]);refine wpAnyG_ready (rs:=[6]) (by kernel_rfl) (by simp) ?_;refine AllReadyG.cons rfl (by decide) (fun KK hKK=> ?_) AllReadyG.nil;go_simp;refine hKK.out _ _ K6.out (fun hHeld=> ?_);clear hKK KK;(try dsimp only at hHeld);(try simp only [fx,Act.put]);refine wpAnyG_ready (rs:=[7]) (by kernel_rfl) (by simp) ?_;refine AllReadyG.cons rfl (by decide) (fun KK hKK=> ?_) AllReadyG.nil;go_simp;refine hKK.out _ _ K6.out (fun hHeld=> ?_);clear hKK KK;(try dsimp only at hHeld);(try simp only [fx,Act.put]);refine wpAnyG_done (by kernel_rfl) ?_ _;obtain ⟨y1,y2⟩:=trio_two W0.out W1.out (by omega) (.bool s7) (.slice A7 k7 c7) (.slice B7 m7 d7) (.bool s) (.slice A' q' c') (.slice B' m' d');have Y1:=hiD y1;have Y2:=hiD y2;have HBe:=hiD (bel_six (HBp.out.tm hb7) (g:=w.heap.size) (h:=w.heap.size+1) lRr (by omega) (.bool s7) (.slice A7 k7 c7) (.slice B7 m7 d7) (.bool s) (.slice A' q' c') (.slice B' m' d'));have R1:=hiD (T7.out.only (only_six (w:=w7) (g:=w.heap.size) (h:=w.heap.size+1) (.bool s7) (.slice A7 k7 c7) (.slice B7 m7 d7) (.bool s) (.slice A' q' c') (.slice B' m' d')) (fun b hb e=>by omega) (T:=fun _=>True) fun _ _=>trivial);have R2:=hiD (HG7.out.only (only_six (w:=w7) (g:=w.heap.size) (h:=w.heap.size+1) (.bool s7) (.slice A7 k7 c7) (.slice B7 m7 d7) (.bool s) (.slice A' q' c') (.slice B' m' d')) (fun b hb e=>by omega) (T:=fun _=>True) fun _ _=>trivial);clear y1 y2 K5 K6 T7 HG7 W0 W1 hb7 hb7' KS hHeld keepS;(go_wp2_with fail);exact bodyPost_ret (v:=.tuple #[.agg #[.bool s7,.slice A7 k7 c7,.slice B7 m7 d7],.agg #[.bool s,.slice A' q' c',.slice B' m' d'],.int .i64 0]) (results_cct (fn:=Tryz.f32) rfl _ _ _ w.heap.size (w.heap.size+1) _ _ rfl rfl (load_trio Y1.out) (load_trio Y2.out)) rfl
       (.inr ⟨hq0.out,g,r,s7,A7,k7,c7,B7,m7,d7,s,A',q',c',B',m',d',rfl,HR.out,HK.out,R1.out,R2.out,HBe.out⟩)
theorem mradical_ok (n x y z:Nat) (hn:n≤3) (hs:(x+1)*(y+1)*(z+1)≤20) (hz:n=2→z=0) (A:Option Addr) (m c:Nat) (L:List TV) (w:World) (hx:Trs w A m L) (hL:Arg n 1000 L) (fd:Siz.dg (D3 x y z) (toT n (mvT L))) (fn:Siz.nm (toT n (mvT L))≤2^67):
 Calls Tryz.prog 32 #[.int .i64 (n:Int),.slice A m c] w (GivesRd w n (prT n (toT n (mvT L)))):=by
 obtain ⟨q,hq⟩:∃q,prT n (toT n (mvT L))=q:=⟨_,rfl⟩
 have nq:Siz.nm q≤2^67:=by rw [← hq];exact Nat.le_trans (prT_nm _ _) fn
 have dq:Siz.dg (D3 x y z) q:=by
  by_cases h0:toT n (mvT L)=0
  · have:q=0:=by rw [← hq];exact prT_zero.2 h0
    rw [this];exact Siz.dg_zero _
  · rw [← hq]
    exact (Siz.factor _ _ _ h0 fd (prT_dv n _)).1
 have Fq:Fit0 n x y z q:=⟨dq,Nat.le_trans nq (Nat.pow_le_pow_right (by omega) (by omega))⟩
 have nD:∀k,Siz.nm (derT n k q)≤2^hb x y z:=fun k=>by
  refine Nat.le_trans (derT_nm dq) (Nat.le_trans (mul_le_bits (Nat.le_trans (D3_phi hs k) (le_pow_lg _)) nq) (Nat.pow_le_pow_right (by omega) ?_));unfold hb;omega
 have e:∀{u:Nat},u≤2^hb x y z→u≤2^e6:=fun h=>Nat.le_trans h (Nat.pow_le_pow_right (by decide) (by have:=hb_le hs;have:=e6_eq;omega))
 rw [hq]
 exact mradical_gen n hn A m c L w hx hL q hq (D3 x y z) (fun j=>by have:=D3_le hs j;omega) (by have:=vol_small hn hs;omega) dq (fun g h0 hg=>e (Fq.dv hn hs h0 hg).nm) (fun k _=>e (nD k)) fun k g _ h0 hK=>low_small x y z hn hs hz g (derT n k q) (Fq.dv hn hs h0 hK.l).dg (derT_dg dq) (Fq.dv hn hs h0 hK.l).nm (nD k)
end Go.Proofs.YtehcoffbiplphaaGreat
namespace Go.Proofs.YtehcoffbiplphaaGreat
open Go.RowKit Cl CRing
attribute [local go_sem ↓] Go.wp_at_zero Go.wp_at_succ
def GivesRc (w:World) (n:Nat) (q:Pn n) (e:Ending) (w':World):Prop:=
 (q=0∧e=.returned (.tuple #[.slice none 0 0,.int .i64 8])∧Below w.heap.size w w')∨
 (q≠0∧∃g r r':Pn n,q=r*g∧IsK n n q g∧(r'=r∨r'= -r)∧PosP r'∧GivesP w n (plT n r') e w')
theorem mRadical_gen (n:Nat) (hn:n≤3) (A:Option Addr) (m c:Nat) (w:World) (q:Pn n) (D:Nat→Nat) (hD:∀j,D j≤1000) (hV:Siz.vol (Pn n) D≤4096) (fit:∀g,q≠0→Dv g q→Siz.dg D g∧Siz.nm g≤2^e6) (cr:Calls Tryz.prog 32 #[.int .i64 (n:Int),.slice A m c] w (GivesRd w n q)):
 Calls Tryz.prog 14 #[.int .i64 (n:Int),.slice A m c] w (GivesRc w n q):=by
 have Cr:=hiD cr
 have fq:=hiD fit
 clear cr fit
 go_enter Tryz.func14,Tryz.ntmps14
 go_wp2_with fail
 refine Cr.out.mono ?_
 rintro e w1 (⟨h0,rfl,hb1⟩ | ⟨h0,g,r,s,A1,k1,c1,B1,m1,d1,s',A2,k2,c2,B2,m2,d2,rfl,hq,hK,t1,t2,hb1⟩)
 · have F:Hid (∀W,Below w1.heap.size w1 W→GivesRc w n q (.returned (.tuple #[.slice none 0 0,.int .i64 8])) W):=fun W hW=> .inl ⟨h0,rfl,hb1.tm hW⟩
   have ba:Hid (Below w1.heap.size w1 ((w1.alloc (.cells #[.bool false,.slice none 0 0,.slice none 0 0] 51)).alloc (.cells #[.bool false,.slice none 0 0,.slice none 0 0] 51))):=(bRr.alloc lRr _).alloc (by simp) _;clear hb1 Cr fq;unfold treV;go_wp2_with fail
   go_ret2;exact F.out _ ba.out
 · have ba:Below w1.heap.size w1 ((w1.alloc (.cells #[.bool s,.slice A1 k1 c1,.slice B1 m1 d1] 51)).alloc (.cells #[.bool s',.slice A2 k2 c2,.slice B2 m2 d2] 51)):=(bRr.alloc lRr _).alloc (by simp) _
   have BA:=hiD (hb1.tm ba);have Cc:Hid (∀W,Below w1.heap.size w1 W→Calls Tryz.prog 26 #[.int .i64 (n:Int),.agg #[.bool s,.slice A1 k1 c1,.slice B1 m1 d1]] W (GivesRt W n r)):=fun W hW=>by
    obtain ⟨e1,e2⟩:=fq.out r h0 ⟨g,hq⟩;obtain ⟨C,hC⟩:∃C:Nat,10=C:=⟨_,rfl⟩;exact mright n C (by omega) (by omega) W _ r D (t1.bel hW) (Nat.lt_of_le_of_lt e2 (Nat.pow_lt_pow_right (by decide) (by have:=e6_eq;omega))) e1 hD (by have:=termsP_count (pre:=[]) e1;omega)
   have HQ:=hiD hq;have HK:=hiD hK;have H0:=hiD h0;have tA:=(Trio.new w1 (.bool s) (.slice A1 k1 c1) (.slice B1 m1 d1)).bel (bRr.alloc lRr (.cells #[.bool s',.slice A2 k2 c2,.slice B2 m2 d2] 51));have a0:=tA.cell0;have a1:=tA.cell1;have a2:=tA.cell2;have CC:=hiD (Cc.out _ ba);clear t1 t2 hb1 Cr fq hq hK h0 tA ba;unfold treV;go_wp2_with fail
   refine CC.out.mono ?_;rintro e w2 ⟨r',hr',hp,A3,c3,L3,rfl,p1,p2,p3,p4,p5,p6⟩;have F:Hid (GivesRc w n q (.returned (.tuple #[.slice A3 L3.length c3,.int .i64 0])) w2):=.inr ⟨H0.out,g,r,r',HQ.out,HK.out,hr',hp,A3,c3,L3,rfl,p1,p2,p3,p4,p5,BA.out.tm p6⟩;clear p3 p4 p5 p6 CC Cc;go_wp2_with fail
   go_ret2;exact F.out
theorem mRadical_ok (n x y z:Nat) (hn:n≤3) (hs:(x+1)*(y+1)*(z+1)≤20) (hz:n=2→z=0) (A:Option Addr) (m c:Nat) (L:List TV) (w:World) (hx:Trs w A m L) (hL:Arg n 1000 L) (fd:Siz.dg (D3 x y z) (toT n (mvT L))) (fn:Siz.nm (toT n (mvT L))≤2^67):
 Calls Tryz.prog 14 #[.int .i64 (n:Int),.slice A m c] w (GivesRc w n (prT n (toT n (mvT L)))):=
 mRadical_gen n hn A m c w _ (D3 x y z) (fun j=>by have:=D3_le hs j;omega) (by have:=vol_small hn hs;omega) (fun r h0 hr=>by
  have F0:Fit0 n x y z (toT n (mvT L)):=⟨fd,Nat.le_trans fn (Nat.pow_le_pow_right (by omega) (by omega))⟩;have F1:=F0.dv hn hs (fun e=>h0 (prT_zero.2 e)) (hr.trans (prT_dv n _));exact ⟨F1.dg,Nat.le_trans F1.nm (Nat.pow_le_pow_right (by decide) (by have:=hb_le hs;have:=e6_eq;omega))⟩) (mradical_ok n x y z hn hs hz A m c L w hx hL fd fn)
end Go.Proofs.YtehcoffbiplphaaGreat
namespace Cl
open CRing
theorem plT_cst {n:Nat} {z:Int}(hz:z≠0):plT n (cstT n z)=[(List.replicate n 0,z)]:=by
 have hp:PlainM n [(List.replicate n (0:Int),z)]:=⟨fun t ht=>by rw [List.mem_singleton.1 ht];simp,List.pairwise_singleton _ _,fun t ht=>by rw [List.mem_singleton.1 ht];exact hz⟩
 have hn:NnM [(List.replicate n (0:Int),z)]:=fun t ht x hx=>by
  rw [List.mem_singleton.1 ht] at hx;rw [List.eq_of_mem_replicate hx];exact Int.le_refl _
 exact (plT_unique hp hn (toT_one (t:=(List.replicate n 0,z)) (by simp) (hn _ (List.mem_singleton.2 rfl)))).symm
theorem cst_zero {n:Nat}:cstT n 0=0:=by
 obtain ⟨w,hw⟩:=cst_of (n:=n) (q:=0) fun i hi=>derT_none (D:=fun _=>0) hi (Siz.dg_zero _) rfl
 have h5:=congrArg (fun x=>cstT n 0*x) hw
 simp only [CRing.mul_zero] at h5
 rw [← cstT_mul,Int.zero_mul] at h5
 exact h5.symm
theorem cst_iff {n:Nat} {g:Pn n}(g0:g≠0):(∃z,g=cstT n z)↔∃t,plT n g=[t]∧∀j,j<n→nth t.1 j=0:=by
 constructor
 · rintro ⟨z,e⟩
   have hz:z≠0:=fun k=>g0 (by rw [e,k,cst_zero]);refine ⟨_,by rw [e];exact plT_cst hz,fun j hj=> ?_⟩;show nth (List.replicate n (0:Int)) j=0;rw [nth_lt (by rw [List.length_replicate];exact hj),List.getElem_replicate]
 · rintro ⟨t,e,h⟩
   have hp:=plT_plain n g;rw [e] at hp;have hl:=hp.len t (List.mem_singleton.2 rfl);have h1:t.1=List.replicate n 0:=list_ext (by rw [hl,List.length_replicate]) fun j hj=>by
    rw [hl] at hj;rw [h j hj,nth_lt (by rw [List.length_replicate];exact hj),List.getElem_replicate]
   have h2:=toT_plT n g;rw [e,toT_one hl (fun x hx=>by rw [h1] at hx;rw [List.eq_of_mem_replicate hx];exact Int.le_refl _),h1] at h2;exact ⟨t.2,h2.symm⟩
end Cl
namespace Go.Proofs.YtehcoffbiplphaaGreat
open Go.RowKit Cl CRing
attribute [local go_sem ↓] Go.wp_at_zero Go.wp_at_succ
def GivesIs (w:World) (n:Nat) (q:Pn n) (e:Ending) (w':World):Prop:=
 (q=0∧e=.returned (.tuple #[.bool false,.int .i64 8])∧Below w.heap.size w w')∨
 (q≠0∧∃(g:Pn n) (b:Bool),IsK n n q g∧(b=true↔∃z,g=cstT n z)∧e=.returned (.tuple #[.bool b,.int .i64 0])∧Below w.heap.size w w')
theorem mIs (n:Nat) (hn:n≤3) (A:Option Addr) (m c:Nat) (w:World) (q:Pn n) (D:Nat→Nat) (hD:∀j,D j≤1000) (hV:Siz.vol (Pn n) D≤4096) (fit:∀g,q≠0→Dv g q→Siz.dg D g∧Siz.nm g≤2^e6) (cr:Calls Tryz.prog 32 #[.int .i64 (n:Int),.slice A m c] w (GivesRd w n q)):
 Calls Tryz.prog 16 #[.int .i64 (n:Int),.slice A m c] w (GivesIs w n q):=by
 have Cr:=hiD cr
 have fq:=hiD fit
 have hmk:=make_intsT n (by omega)
 clear cr fit
 go_enter Tryz.func16,Tryz.ntmps16
 go_wp2_with fail
 refine Cr.out.mono ?_
 rintro e w1 (⟨h0,rfl,hb1⟩ | ⟨h0,g,r,s,A1,k1,c1,B1,m1,d1,s',A2,k2,c2,B2,m2,d2,rfl,hq,hK,t1,t2,hb1⟩)
 · have F:Hid (∀W,Below w1.heap.size w1 W→GivesIs w n q (.returned (.tuple #[.bool false,.int .i64 8])) W):=fun W hW=> .inl ⟨h0,rfl,hb1.tm hW⟩
   have ba:Hid (Below w1.heap.size w1 ((w1.alloc (.cells #[.bool false,.slice none 0 0,.slice none 0 0] 51)).alloc (.cells #[.bool false,.slice none 0 0,.slice none 0 0] 51))):=(bRr.alloc lRr _).alloc (by simp) _;clear hb1 Cr fq;unfold treV;go_wp2_with fail
   go_ret2;exact F.out _ ba.out
 · have tB:=Trio.new (w1.alloc (.cells #[.bool s,.slice A1 k1 c1,.slice B1 m1 d1] 51)) (.bool s') (.slice A2 k2 c2) (.slice B2 m2 d2)
   rw [World.size_alloc] at tB;have ba:Below w1.heap.size w1 ((w1.alloc (.cells #[.bool s,.slice A1 k1 c1,.slice B1 m1 d1] 51)).alloc (.cells #[.bool s',.slice A2 k2 c2,.slice B2 m2 d2] 51)):=(bRr.alloc lRr _).alloc (by simp) _;have HBa:=hiD (hb1.tm ba);have hg0:Hid (g≠0):=fun e=>h0 (by rw [hq,e,CRing.mul_zero]);obtain ⟨dg,ng⟩:=fq.out g h0 hK.l;have Hf:=hiD (t2.bel ba);have HK:=hiD hK;have H0:=hiD h0;have TB:=hiD tB;have Lf:Hid (Lens n g):=lens_dg n g D dg fun j=>by have:=hD j;omega
   obtain ⟨C,hC⟩:∃C:Nat,10=C:=⟨_,rfl⟩;have hC0:C≤1000000:=by omega
   have Nf:Hid (Siz.nm g<2^(64*C)):=Nat.lt_of_le_of_lt ng (Nat.pow_lt_pow_right (by decide) (by have:=e6_eq;omega));have Hcnt:Hid ((termsP n [] g).length≤4096):=by have:=termsP_count (pre:=[]) dg;show _≤_;omega
   have a0:=tB.cell0;have a1:=tB.cell1;have a2:=tB.cell2;clear t1 t2 hb1 Cr fq hq hK h0 ba dg ng hC;unfold treV at Hf ⊢;go_wp2_with fail
   generalize hwt:(w1.alloc (.cells #[.bool s,.slice A1 k1 c1,.slice B1 m1 d1] 51)).alloc (.cells #[.bool s',.slice A2 k2 c2,.slice B2 m2 d2] 51)=wt at*
   clear hwt;have Ht:Hid (Calls Tryz.prog 34 #[.agg #[.bool s',.slice A2 k2 c2,.slice B2 m2 d2],.int .i64 (n:Int),.int .i64 0,.slice (some ⟨wt.heap.size,0,none⟩) n n,.slice none 0 0] (World.drew (wt.alloc (.cells (ints (List.replicate n 0)).toArray 3))) (GivesTm wt wt.heap.size n 0 C (List.replicate n 0) (termsP n [] g))):=by
    have hW:Below wt.heap.size wt wt:=bRr;have h:=mtermsT C hC0 n n 0 wt (World.drew (wt.alloc (.cells (ints (List.replicate n 0)).toArray 3))) _ g wt.heap.size (List.replicate n 0) (.slice none 0 0) [] [] (by omega) (by omega) (Hf.out) ((exR_made _ _ _ n (by omega) hW.size).bel bRr.drew) (TmO.start _ _ _ _ ((hW.alloc hW.size _).drew)) Nf.out Lf.out (by rw [List.take_zero];have:=Hcnt.out;simp;omega);rw [List.take_zero,List.nil_append] at h;exact h
   have keepS:Hid (∀W,Below wt.heap.size wt W→(fun W=>W.cell? ⟨w1.heap.size+1,0,none⟩=some (.bool s')∧W.cell? ⟨w1.heap.size+1,1,none⟩=some (.slice A2 k2 c2)∧W.cell? ⟨w1.heap.size+1,2,none⟩=some (.slice B2 m2 d2)) W):=fun W hW=>⟨((TB.out.bel hW)).cell0,((TB.out.bel hW)).cell1,((TB.out.bel hW)).cell2⟩;refine wp_regionG (S:=fun W=>W.cell? ⟨w1.heap.size+1,0,none⟩=some (.bool s')∧W.cell? ⟨w1.heap.size+1,1,none⟩=some (.slice A2 k2 c2)∧W.cell? ⟨w1.heap.size+1,2,none⟩=some (.slice B2 m2 d2)) (z:=99) (by kernel_rfl) ?_;have hHeld:=keepS.out _ (Below.refl wt.heap.size wt).drew;try dsimp only at hHeld
   refine tk 99 0 (.agg #[.bool s',.slice A2 k2 c2,.slice B2 m2 d2]) rfl hHeld ?_;try simp only [fx,Act.put]
   refine tk 99 1 (.int .i64 (n:Int)) rfl hHeld ?_;try simp only [fx,Act.put]
   refine tk 99 2 (.int .i64 (n:Int)) rfl hHeld ?_;try simp only [fx,Act.put]
   refine wpAnyG_ready (rs:=[3]) (by kernel_rfl) (by simp) ?_;refine AllReadyG.cons rfl (by decide) (fun KK hKK=> ?_) AllReadyG.nil;go_simp;refine hKK.out _ _ (keepS.out _ (bRr.alloc lRr (.cells (ints (List.replicate n 0)).toArray 3)).drew) (fun hHeld=> ?_);clear hKK KK;try dsimp only at hHeld
   try simp only [fx,Act.put]
   refine wpAnyG_ready (rs:=[4]) (by kernel_rfl) (by simp) ?_;refine AllReadyG.cons rfl (by decide) (fun KK hKK=> ?_) AllReadyG.nil;go_simp;refine Ht.out.mono ?_;rintro e w2 ⟨v1,E1,es1,rfl,q1,q2,q3⟩;have Q3:=hiD q3;obtain ⟨Av,cv,hv⟩:=own_shapeP q3.own;subst hv;have keep1:Hid ((fun W=>W.cell? ⟨w1.heap.size+1,0,none⟩=some (.bool s')∧W.cell? ⟨w1.heap.size+1,1,none⟩=some (.slice A2 k2 c2)∧W.cell? ⟨w1.heap.size+1,2,none⟩=some (.slice B2 m2 d2)) w2):=keepS.out _ q3.bel;clear q1 q2 q3;go_wp2_with fail
   refine hKK.out _ _ keep1.out (fun hHeld=> ?_);clear hKK KK;try dsimp only at hHeld
   try simp only [fx,Act.put]
   refine wpAnyG_ready (rs:=[5]) (by kernel_rfl) (by simp) ?_;refine AllReadyG.cons rfl (by decide) (fun KK hKK=> ?_) AllReadyG.nil;go_simp;refine hKK.out _ _ keep1.out (fun hHeld=> ?_);clear hKK KK;try dsimp only at hHeld
   try simp only [fx,Act.put]
   refine wpAnyG_done (by kernel_rfl) ?_ _;have HBw:Hid (Below w.heap.size w w2):=HBa.out.tm Q3.out.bel;have G:Hid (∀b:Bool,(b=true↔∃z,g=cstT n z)→GivesIs w n q (.returned (.tuple #[.bool b,.int .i64 0])) w2):=fun b hb=> .inr ⟨H0.out,g,b,HK.out,hb,rfl,HBw.out⟩;have hE:Hid (mvT (E1.map (·.2))=termsP n [] g):=Q3.out.eq;have hl1:Hid (E1.length=(plT n g).length):=by
    show _=_;unfold plT;rw [List.length_reverse,← hE.out,mvT_length,List.length_map]
   clear hHeld keep1 keepS Ht Hf Nf Lf TB HK H0 HBa HBw;by_cases h1:E1.length=1
   · obtain ⟨B9,d9,hv9,hd1,hd2,ht⟩:=trs_of_own Q3.out.own rfl Q3.out.ok
     injection hv9 with hv9 _ hv92
     subst hv9;subst hv92;obtain ⟨x,hx⟩:=List.length_eq_one_iff.1 h1;subst hx;have hxl:x.2.2.length=n:=Q3.out.len x (List.mem_singleton.2 rfl);have hpl:Hid (plT n g=[valT x.2]):=by
      show _=_;unfold plT;rw [← hE.out];rfl
     obtain ⟨b,o,rfl,hb,hc⟩:=ht.at_ (by simp);obtain ⟨Ai,ci,Ei,ei,y1,y2,y3,y4,y5,y6,z7,y8,y9⟩:=hc 0 (by simp);have z3:w2.cell? ⟨b,o+2,none⟩=some (.slice Ei x.2.2.length ei):=y3;have z6:x.2.2.length≤ei:=y6;have z9:Ints w2 Ei x.2.2.length x.2.2:=y9;clear y1 y2 y3 y4 y5 y6 y8 y9;rw [hxl] at z3 z6 z9;have X:=hiD z9;have hnn:Hid (∀j,j<n→0≤nth x.2.2 j):=fun j hj=>plT_nn n g (valT x.2) (by rw [hpl.out];exact List.mem_singleton.2 rfl) _ (nth_mem (xs:=x.2.2) (i:=j) (by rw [hxl];exact hj));have no:Hid (∀j,j<n→0<nth x.2.2 j→GivesIs w n q (.returned (.tuple #[.bool false,.int .i64 0])) w2):=fun j hj h=>G.out false ⟨fun h=>(by cases h),fun h2=>by
      obtain ⟨t,ht,h3⟩:=(cst_iff hg0.out).1 h2;rw [hpl.out] at ht;injection ht with ht
      have h4:=h3 j hj;rw [← ht] at h4;have h4:nth x.2.2 j=0:=h4;omega⟩
     have yes:Hid ((∀j,j<n→nth x.2.2 j=0)→GivesIs w n q (.returned (.tuple #[.bool true,.int .i64 0])) w2):=fun h=>G.out true ⟨fun _=>(cst_iff hg0.out).2 ⟨_,hpl.out,h⟩,fun _=>rfl⟩;have hl9:(List.length [x]:Int)=1:=rfl;clear hc ht z9 hE hl1 G Q3 hpl h1 hd1 hd2 hxl;(go_wp2_with fail);go_loopw [35] (fun i wr=>∃k:Nat,k≤n∧i=.int .i64 k∧Hid (∀j,j<k→nth x.2.2 j=0)∧wr=w2) (fun i _=>n - (intOf i).toNat)
     case atStart=>exact ⟨0,Nat.zero_le _,rfl,(fun j hj=>absurd hj (Nat.not_lt_zero j)),rfl⟩
     case round=>
      obtain ⟨k,hk,rfl,hall,rfl⟩:=hrel;by_cases hlt:k<n
      · obtain ⟨b',o',rfl,hb',hc'⟩:=X.out.at_ (by omega)
        have hck:=hc' k hlt;(have hlt':(k:Int)<(n:Int):=by omega);(have hk0:(0:Int)≤(k:Int):=by omega);clear hc';by_cases hz:0<nth x.2.2 k
        · have F:=hiD (no.out k hlt hz)
          (go_wp2_with fail);go_ret2;exact F.out
        · have hz0:nth x.2.2 k=0:=by have:=hnn.out k hlt;omega
          have HZ:=hiD hz0;clear hz0;(go_wp2_with fail);go_roundw
          case rel=>exact ⟨k+1,by omega,by go_num,(fun j hj=>if e:j=k then e ▸ HZ.out else hall.out j (by omega)),(by first | trivial | rfl)⟩
          case measure=>simp [intOf];omega
      · have hlt':¬(k:Int)<(n:Int):=by omega
        have F:=hiD (yes.out fun j hj=>hall.out j (by omega));(go_wp2_with fail);go_ret2;exact F.out
   · have hne:((E1.length:Int) !=1)=true:=by simp;omega
     have F:=hiD (G.out false ⟨fun h=>(by cases h),fun h=>by
      obtain ⟨t,ht,_⟩:=(cst_iff hg0.out).1 h;have h2:=hl1.out;rw [ht] at h2;exact absurd h2 h1⟩)
     clear h1 G;(go_wp2_with fail);go_ret2;exact F.out
end Go.Proofs.YtehcoffbiplphaaGreat
