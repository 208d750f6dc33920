/- A common factor more: the walk of the law, for all inputs. -/
import Derived.Test.YtehcoffbiplphaaGreatQLwE
set_option linter.unusedVariables false
set_option linter.unusedSimpArgs false
namespace Cl
open CRing
theorem IsG.more {n:Nat} {g a b c h:Pn n}(hg:IsG g a b) (hh:IsG h (a*c) (b*c)):h=g*c∨h= -(g*c):=by
 by_cases c0:c=0
 · left
   rw [c0,CRing.mul_zero,CRing.mul_zero] at hh
   rw [c0,CRing.mul_zero]
   exact (isG_zero_iff hh).2 ⟨rfl,rfl⟩
 · have h1:=IsG.mul c0 hg
   rw [CRing.mul_comm a c,CRing.mul_comm b c] at hh
   rw [CRing.mul_comm g c]
   exact h1.pm hh
end Cl
namespace Go.Proofs.YtehcoffbiplphaaGreat
open Go.RowKit Cl CRing
attribute [local go_sem ↓] Go.wp_at_zero Go.wp_at_succ
theorem lsmall18_3 (n most places:Int) (g c:Nat) (A B C:Option Addr) (m1 m2 m3 c1 c2 c3:Nat) (L M N:List TV) (w:World) (hp:places≤1000) (hg:g<w.heap.size) (q0:w.cell? ⟨g,0,none⟩=some (.slice A m1 c1)) (q1:w.cell? ⟨g,1,none⟩=some (.slice B m2 c2)) (q2:w.cell? ⟨g,2,none⟩=some (.slice C m3 c3)) (hx:Trs w A m1 L) (hy:Trs w B m2 M) (hz:Trs w C m3 N) (h1:m1≤9223372036854775807) (h2:m2≤9223372036854775807) (h3:m3≤9223372036854775807):
 Calls Tryz.prog 11 #[.int .i64 n,.int .i64 most,.int .i64 places,.slice (some ⟨g,0,none⟩) 3 c] w (SmallSaid18 w n most places 3 (fun k=>if k=0 then L else if k=1 then M else N)):=
 lsmall18 n most places g 3 c (fun k=>if k=0 then A else if k=1 then B else C) (fun k=>if k=0 then m1 else if k=1 then m2 else m3) (fun k=>if k=0 then c1 else if k=1 then c2 else c3) (fun k=>if k=0 then L else if k=1 then M else N) w (by omega) hp hg (fun k hk=>by
  match k,hk with
  | 0,_=>exact ⟨q0,hx,h1⟩
  | 1,_=>exact ⟨q1,hy,h2⟩
  | 2,_=>exact ⟨q2,hz,h3⟩
  | k+3,hk=>omega)
theorem comMore {n x y z:Nat}(hn:n≤3) (hs:(x+1)*(y+1)*(z+1)≤12) (hz:n=2→z=0) {a b c:Pn n}(fa:Fit0 n x y z a) (fb:Fit0 n x y z b) (fc:Fit0 n x y z c):ComOk n (a*c) (b*c):=by
 by_cases c0:c=0
 · rw [c0,CRing.mul_zero,CRing.mul_zero]
   exact low_small x y z hn (by omega) hz 0 0 (Siz.dg_zero _) (Siz.dg_zero _) (by rw [Siz.nm_zero];exact Nat.zero_le _) (by rw [Siz.nm_zero];exact Nat.zero_le _)
 · rw [CRing.mul_comm a c,CRing.mul_comm b c]
   have k:∀{f:Pn n},Fit0 n x y z f→Siz.nm f≤2^200:=fun hf=>Nat.le_trans hf.nm (Nat.pow_le_pow_right (by decide) (by decide))
   exact com_small x y z hn hs hz a b c c0 fa.dg fb.dg fc.dg (k fa) (k fb) (k fc)
set_option maxRecDepth 100000 in
set_option maxHeartbeats 16000000 in
theorem law_MgcdMore (a0:Int) (A1:Option Addr) (m1 c1:Nat) (L1:List TV) (A2:Option Addr) (m2 c2:Nat) (L2:List TV) (A3:Option Addr) (m3 c3:Nat) (L3:List TV) (w:World) (lo0: -9223372036854775808≤a0) (hi0:a0≤9223372036854775807)
 (w1:Trs w A1 m1 L1) (h1:m1≤c1) (k1:c1≤9223372036854775807) (w2:Trs w A2 m2 L2) (h2:m2≤c2) (k2:c2≤9223372036854775807) (w3:Trs w A3 m3 L3) (h3:m3≤c3) (k3:c3≤9223372036854775807):
 Calls Tryz.prog 5 #[.int .i64 a0,.slice A1 m1 c1,.slice A2 m2 c2,.slice A3 m3 c3] w fun e w'=>e=.returned (.bool true)∧Below w.heap.size w w':=by
 have Ta:=Lib.hid w1
 have Tb:=Lib.hid w2
 have Tc:=Lib.hid w3
 clear w1 w2 w3
 go_enter Tryz.func5,Tryz.ntmps5
 obtain ⟨wo,rfl⟩:∃wo:World,wo=w:=⟨_,rfl⟩
 go_wp2_with fail
 refine (awake18 wo).mono ?_
 rintro e wa ⟨rfl,hba⟩
 have ba:Below wa.heap.size wa (wa.alloc (.cells #[.slice A1 m1 c1,.slice A2 m2 c2,.slice A3 m3 c3] 22)):=(Below.refl _ _).alloc (Nat.le_refl _) _
 have hq:=heap_alloc_new wa (.cells #[.slice A1 m1 c1,.slice A2 m2 c2,.slice A3 m3 c3] 22)
 have hsz:wa.heap.size<(wa.alloc (.cells #[.slice A1 m1 c1,.slice A2 m2 c2,.slice A3 m3 c3] 22)).heap.size:=by simp
 have HB:=Lib.hid (hba.trans (ba.mono hba.size))
 have q:∀i v,(#[Value.slice A1 m1 c1,.slice A2 m2 c2,.slice A3 m3 c3]:Array Value)[i]? =some v→(wa.alloc (.cells #[.slice A1 m1 c1,.slice A2 m2 c2,.slice A3 m3 c3] 22)).cell? ⟨wa.heap.size,i,none⟩=some v:=fun i v h=>by
  rw [cell_of_row _ _ i _ _ (0,0) hq]
  exact h
 have Cs:=Lib.hid (lsmall18_3 a0 4 12 wa.heap.size 3 A1 A2 A3 m1 m2 m3 c1 c2 c3 L1 L2 L3 _ (by omega) hsz (q 0 _ rfl) (q 1 _ rfl) (q 2 _ rfl) (Ta.out.bel HB.out) (Tb.out.bel HB.out) (Tc.out.bel HB.out) (by omega) (by omega) (by omega))
 clear ba hq hsz q hba
 go_wp2_with fail
 generalize hwb:wa.alloc (.cells #[.slice A1 m1 c1,.slice A2 m2 c2,.slice A3 m3 c3] 22)=wb at*
 clear hwb
 refine Cs.out.mono ?_
 rintro e wc ⟨bb,rfl,hbc,hsm⟩
 have HC:=Lib.hid (HB.out.trans (hbc.mono HB.out.size))
 have Hs:=Lib.hid hsm
 clear hbc hsm Cs HB
 cases bb with
 | false=>
   go_wp2_with fail
   go_ret
   exact ⟨rfl,HC.out⟩
 | true=>
   have sm:=Hs.out rfl
   obtain ⟨n,x,y,z,hn0,hn,hs,hz,hfit⟩:=sml_fitP 12 (Int.le_refl _) sm (by omega) (by omega)
   subst hn0
   have f1:=hfit 0 (by omega) (trs_limbsP Ta.out)
   have f2:=hfit 1 (by omega) (trs_limbsP Tb.out)
   have f3:=hfit 2 (by omega) (trs_limbsP Tc.out)
   have l1:=(sm.2.1 0 (by omega)).1
   have l2:=(sm.2.1 1 (by omega)).1
   have l3:=(sm.2.1 2 (by omega)).1
   have b1:=sml_bd sm (show 0<3 by omega) (by omega)
   have b2:=sml_bd sm (show 1<3 by omega) (by omega)
   have b3:=sml_bd sm (show 2<3 by omega) (by omega)
   simp only [if_true,Nat.one_ne_zero,if_false,show¬(2:Nat)=0 by omega,show¬(2:Nat)=1 by omega] at f1 f2 f3 l1 l2 l3 b1 b2 b3
   obtain ⟨ar1,dg1,nm1⟩:=f1
   obtain ⟨ar2,dg2,nm2⟩:=f2
   obtain ⟨ar3,dg3,nm3⟩:=f3
   have hs20:(x+1)*(y+1)*(z+1)≤20:=by omega
   have F1:=Lib.hid (show Fit0 n x y z (toT n (mvT L1)) from ⟨dg1,Nat.le_trans nm1 (Nat.pow_le_pow_right (by omega) (by omega))⟩)
   have F2:=Lib.hid (show Fit0 n x y z (toT n (mvT L2)) from ⟨dg2,Nat.le_trans nm2 (Nat.pow_le_pow_right (by omega) (by omega))⟩)
   have F3:=Lib.hid (show Fit0 n x y z (toT n (mvT L3)) from ⟨dg3,Nat.le_trans nm3 (Nat.pow_le_pow_right (by omega) (by omega))⟩)
   have AR1:=Lib.hid ar1
   have AR2:=Lib.hid ar2
   have AR3:=Lib.hid ar3
   have B1:=Lib.hid b1
   have B2:=Lib.hid b2
   have B3:=Lib.hid b3
   have HZ:=Lib.hid hz
   have n1:=Lib.hid Ta.out.len
   have n2:=Lib.hid Tb.out.len
   have n3:=Lib.hid Tc.out.len
   have lm:m1≤4∧m2≤4∧m3≤4:=by
    have:=n1.out
    have:=n2.out
    have:=n3.out
    omega
   obtain ⟨lm1,lm2,lm3⟩:=lm
   have sq:∀{u v:Nat},u≤20→v≤4→u*v≤4096:=fun {u v} h k=>Nat.le_trans (Nat.mul_le_mul h k) (by decide)
   have M1:=Lib.hid (fun W (h:Below wo.heap.size wo W)=>ltimes18 n 1000 1000 A1 A3 m1 c1 m3 c3 L1 L3 W (Ta.out.bel h) (Tc.out.bel h) AR1.out AR3.out (by omega) 400 400 (by omega) (by omega) (sq (by omega) lm3) B1.out B3.out (by omega))
   have M2:=Lib.hid (fun W (h:Below wo.heap.size wo W)=>ltimes18 n 1000 1000 A2 A3 m2 c2 m3 c3 L2 L3 W (Tb.out.bel h) (Tc.out.bel h) AR2.out AR3.out (by omega) 400 400 (by omega) (by omega) (sq (by omega) lm3) B2.out B3.out (by omega))
   clear hfit Hs sm dg1 nm1 dg2 nm2 dg3 nm3 ar1 ar2 ar3 hz b1 b2 b3 l1 l2 l3 n1 n2 n3
   have G1:=Lib.hid (mgcd_ok n x y z hn hs20 HZ.out A1 A2 m1 c1 m2 c2 L1 L2 wc (Ta.out.bel HC.out) (Tb.out.bel HC.out) AR1.out AR2.out h1 k1 h2 k2 F1.out.fit F2.out.fit)
   go_wp2_with fail
   refine G1.out.mono ?_
   rintro e wd ⟨g,hg,pg,Ag,cg,Lg,rfl,g1,g2,g3,g4,g5,g6⟩
   have Eg:Hid (mvT Lg=plT n g):=g4.mv.unique (plT_plain n g) g5
   have Tg:=Lib.hid g3
   have Hg:=Lib.hid hg
   have HD:=Lib.hid (HC.out.trans (g6.mono HC.out.size))
   have fg:=isG_fit F1.out.fit F2.out.fit hn hs20 hg
   have ARg:=Lib.hid (arg_plT hn hs20 g4 Eg.out fg.1 fg.2)
   have Bg:Hid (BdM 400 (mvT Lg)):=by
    show BdM 400 _
    rw [Eg.out]
    exact (bd_plTD (d:=20) (fun j=>by have:=D3_le hs20 j;omega) fg.1).mono (by omega)
   have lg20:Lg.length≤20:=by
    have e1:=congrArg List.length Eg.out
    rw [mvT_length] at e1
    rw [e1]
    exact len_plT hn hs20 fg.1
   have Nb:Hid (∀{f u:Pn n},Fit0 n x y z f→Fit0 n x y z u→Siz.dg (D6 x y z) (f*u)∧Siz.nm (f*u)≤2^136):=fun hf hu=>⟨Siz.dg_mul _ _ _ _ hf.dg hu.dg,Nat.le_trans (Siz.nm_mul _ _) (mul_le_bits hf.nm hu.nm)⟩
   clear hg pg g3 g4 g5 g6 G1 fg
   have P1:=Lib.hid (M1.out wd HD.out)
   go_wp2_with fail
   refine P1.out.mono ?_
   rintro e we ⟨A4,c4,L4,rfl,p1,p2,p3,p4,p5,p6⟩
   have E4:Hid (mvT L4=plT n (toT n (mvT L1)*toT n (mvT L3))):=mul_plT AR1.out AR3.out p4 p5
   have T4:=Lib.hid p3
   have Q4:=Lib.hid p4
   have HE:=Lib.hid (HD.out.trans (p6.mono HD.out.size))
   have Tg2:=Lib.hid (Tg.out.bel p6)
   clear p3 p4 p5 p6 P1 Tg M1
   have P2:=Lib.hid (M2.out we HE.out)
   go_wp2_with fail
   refine P2.out.mono ?_
   rintro e wf ⟨A5,c5,L5,rfl,q1,q2,q3,q4,q5,q6⟩
   have E5:Hid (mvT L5=plT n (toT n (mvT L2)*toT n (mvT L3))):=mul_plT AR2.out AR3.out q4 q5
   have HF:=Lib.hid (HE.out.trans (q6.mono HE.out.size))
   have Tg3:=Lib.hid (Tg2.out.bel q6)
   have fx4:=Nb.out F1.out F3.out
   have fx5:=Nb.out F2.out F3.out
   have e136:∀{u:Nat},u≤2^136→u≤2^e6:=fun h=>Nat.le_trans h (Nat.pow_le_pow_right (by decide) (by have:=e6_eq;omega))
   have v6:Siz.vol (Pn n) (D6 x y z)≤4096:=Nat.le_trans (vol_six hn hs) (by decide)
   have ar4:=arg_plTD (D6_le hs) v6 Q4.out E4.out fx4.1 (e136 fx4.2)
   have ar5:=arg_plTD (D6_le hs) v6 q4 E5.out fx5.1 (e136 fx5.2)
   have t4:toT n (mvT L4)=toT n (mvT L1)*toT n (mvT L3):=by rw [E4.out,toT_plT]
   have t5:toT n (mvT L5)=toT n (mvT L2)*toT n (mvT L3):=by rw [E5.out,toT_plT]
   have G2:=mgcd_gen n hn A4 A5 L4.length c4 L5.length c5 L4 L5 wf (T4.out.bel q6) q3 ar4 ar5 p1 p2 q1 q2 (D6 x y z) (D6_le hs) v6 (by rw [t4,t5];exact comMore hn hs HZ.out F1.out F2.out F3.out) (fun h hh=>by
    rw [t4,t5] at hh
    exact six_gcd hn hs fx4.1 fx4.2 fx5.1 fx5.2 hh)
   rw [t4,t5] at G2
   have G2:=Lib.hid G2
   clear q3 q4 q5 q6 P2 Tg2 M2 fx4 fx5 e136 v6 ar4 ar5 t4 t5 T4 Q4
   go_wp2_with fail
   refine G2.out.mono ?_
   rintro e wg ⟨h,hh,ph,Ah,ch,Lh,rfl,r1,r2,r3,r4,r5,r6⟩
   have Eh:Hid (mvT Lh=plT n h):=r4.mv.unique (plT_plain n h) r5
   have Th:=Lib.hid r3
   have Qh:=Lib.hid r4
   have HG:=Lib.hid (HF.out.trans (r6.mono HF.out.size))
   have hor:=Lib.hid (Hg.out.more hh)
   have P3:=Lib.hid (ltimes18 n 1000 1000 Ag A3 Lg.length cg m3 c3 Lg L3 wg (Tg3.out.bel r6) (Tc.out.bel HG.out) ARg.out AR3.out (by omega) 400 400 (by omega) (by omega) (sq lg20 lm3) Bg.out B3.out (by omega))
   have h6:=six_gcd hn hs (Nb.out F1.out F3.out).1 (Nb.out F1.out F3.out).2 (Nb.out F2.out F3.out).1 (Nb.out F2.out F3.out).2 hh
   have fh:Lh.length≤100:=by
    have e1:=congrArg List.length Eh.out
    rw [mvT_length] at e1
    rw [e1]
    exact Nat.le_trans (len_plTD h6.1) (vol_six hn hs)
   have gcf:Hid (Siz.dg (D6 x y z) (g*toT n (mvT L3))∧Siz.nm (g*toT n (mvT L3))≤2^e6):=by
    rcases hor.out with e | e
    · show _∧_
      rw [← e]
      exact h6
    · have e2:g*toT n (mvT L3)= -h:=by rw [e,CRing.neg_neg]
      show _∧_
      rw [e2]
      exact ⟨Siz.dg_neg _ _ h6.1,by rw [Siz.nm_neg];exact h6.2⟩
   clear h6
   clear hh ph r3 r4 r5 r6 G2 Tg3
   go_wp2_with fail
   refine P3.out.mono ?_
   rintro e wi ⟨Ak,ck,Lk,rfl,s1,s2,s3,s4,s5,s6⟩
   have Ek:Hid (mvT Lk=plT n (g*toT n (mvT L3))):=by
    have e1:=mul_plT ARg.out AR3.out s4 s5
    rwa [Eg.out,toT_plT] at e1
   have Tk:=Lib.hid s3
   have Qk:=Lib.hid s4
   have HI:=Lib.hid (HG.out.trans (s6.mono HG.out.size))
   have Th2:=Lib.hid (Th.out.bel s6)
   have lhk:Lk.length=Lh.length:=by
    have e1:=congrArg List.length Ek.out
    have e2:=congrArg List.length Eh.out
    rw [mvT_length] at e1 e2
    rw [e1,e2]
    rcases hor.out with e | e
    · rw [e]
    · rw [e,plT_neg,List.length_map]
   have LHK:=Lib.hid lhk
   have ark:=arg_plTD (D6_le hs) (Nat.le_trans (vol_six hn hs) (by decide)) s4 Ek.out gcf.out.1 gcf.out.2
   have nil18:Trs wi none 0 []:=Trs.nil _ _
   have Cm:=Lib.hid (pSub n 1000 1000 none Ak 0 0 Lk.length ck [] Lk wi nil18 (Tk.out) ⟨fun _ h=>(by cases h),fun _ h=>(by cases h),fun _ h=>(by cases h),by decide⟩ ark (by omega) (by omega) (by omega) (by omega))
   have ARk:=Lib.hid ark
   clear s3 s4 s5 s6 P3 lhk ark nil18 Th
   go_wp2_with fail
   refine Cm.out.mono ?_
   rintro e wj ⟨Am,cm,Lm,rfl,u1,u2,u3,u4,u5,u6⟩
   have Em:Hid (mvT Lm=plT n (-(g*toT n (mvT L3)))):=by
    have nk:NnM (mvT Lk):=fun t ht u hu=>(ARk.out.bdM t ht u hu).1
    have p9:=plT_plain n (-(g*toT n (mvT L3)))
    have lk:LenM n (mvT Lk):=ARk.out.lenM
    refine u4.mv.unique p9 (u5.trans (toT_inj (L:=scaleM (-1) (mvT Lk)) (lk.scale _) (nk.scale _) p9.len (plT_nn n _) ?_))
    rw [toT_neg lk nk,toT_plT,Ek.out,toT_plT]
   have Tm:=Lib.hid u3
   have Qm:=Lib.hid u4
   have HJ:=Lib.hid (HI.out.trans (u6.mono HI.out.size))
   have Th3:=Lib.hid (Th2.out.bel u6)
   have Tk2:=Lib.hid (Tk.out.bel u6)
   clear u3 u4 u5 u6 Cm Th2 Tk
   by_cases hE:h=g*toT n (mvT L3)
   · have eL:Lk=Lh:=mvT_inj Qk.out.co Qh.out.co (by rw [Ek.out,Eh.out,hE])
     subst eL
     have Sm:=Lib.hid (lsame18 Ah Ak Lk.length ch ck Lk wj Th3.out Tk2.out (by omega))
     clear hE Th3 Tk2
     go_wp2_with fail
     refine Sm.out.mono ?_
     rintro e wk ⟨rfl,hbk⟩
     have HK:=Lib.hid (HJ.out.trans (hbk.mono HJ.out.size))
     clear hbk Sm
     go_wp2_with fail
     go_ret
     exact ⟨rfl,HK.out⟩
   · have hN:h= -(g*toT n (mvT L3)):=hor.out.resolve_left hE
     have eL:Lm=Lh:=mvT_inj Qm.out.co Qh.out.co (by rw [Em.out,Eh.out,hN])
     subst eL
     have en:mvT Lm=(mvT Lk).map fun t=>(t.1, -t.2):=by rw [Em.out,plT_neg,← Ek.out]
     have Sn:Hid (Calls Tryz.prog 13 #[.slice Ah Lm.length ch,.slice Ak Lk.length ck] wj fun e w'=>e=.returned (.bool false)∧Below wj.heap.size wj w'):=by
      have tk:=Tk2.out
      rw [LHK.out] at tk
      show Calls _ _ _ _ _
      rw [LHK.out]
      refine lsame18_no Ah Ak Lm.length ch ck Lm Lk wj Th3.out tk (by omega) (fun i hi hi'=> ?_) (fun e=> ?_)
      · have h9:(mvT Lm)[i]? =((mvT Lk).map fun t=>(t.1, -t.2))[i]? :=by rw [en]
        unfold mvT at h9
        rw [List.getElem?_map,List.getElem?_map,List.getElem?_map,List.getElem?_eq_getElem hi,List.getElem?_eq_getElem hi'] at h9
        simp only [Option.map_some,Option.some.injEq] at h9
        exact congrArg Prod.fst h9
      · have h9:=congrArg (toT n) (congrArg mvT e)
        rw [Eh.out,Ek.out,toT_plT,toT_plT] at h9
        exact hE h9
     have Sy:=Lib.hid (fun W (hW:Below wj.heap.size wj W)=>lsame18 Ah Am Lm.length ch cm Lm W (Th3.out.bel hW) (Tm.out.bel hW) (by omega))
     clear hE hN en Th3 Tk2 Tm LHK
     go_wp2_with fail
     refine Sn.out.mono ?_
     rintro e wk ⟨rfl,hbk⟩
     have Sz:=Lib.hid (Sy.out wk hbk)
     have HK:=Lib.hid (HJ.out.trans (hbk.mono HJ.out.size))
     clear hbk Sn Sy
     go_wp2_with fail
     refine Sz.out.mono ?_
     rintro e wl ⟨rfl,hbl⟩
     have HL:=Lib.hid (HK.out.trans (hbl.mono HK.out.size))
     clear hbl Sz
     go_wp2_with fail
     go_ret
     exact ⟨rfl,HL.out⟩
end Go.Proofs.YtehcoffbiplphaaGreat
