/- The radical divides and is squarefree, squares: the walk of the law, for all inputs. -/
import Derived.Test.YtehcoffbiplphaaGreatSSqd
set_option linter.unusedVariables false
set_option linter.unusedSimpArgs false
set_option maxHeartbeats 16000000
set_option maxRecDepth 100000
namespace Go.Proofs.YtehcoffbiplphaaGreat
open Go.RowKit Cl CRing
attribute [local go_sem ↓] Go.wp_at_zero Go.wp_at_succ
theorem law_MgcdSquares (a0:Int) (A1:Option Addr) (m1 c1:Nat) (L1:List TV) (w:World) (lo0: -9223372036854775808≤a0) (hi0:a0≤9223372036854775807)
 (w1:Trs w A1 m1 L1) (h1:m1≤c1) (k1:c1≤9223372036854775807):
 Calls Tryz.prog 7 #[.int .i64 a0,.slice A1 m1 c1] w fun e w'=>e=.returned (.bool true)∧Below w.heap.size w w':=by
 have Ta:=hiD w1
 clear w1
 go_enter Tryz.func7,Tryz.ntmps7
 obtain ⟨wo,rfl⟩:∃wo:World,wo=w:=⟨_,rfl⟩
 go_wp2_with fail
 refine (awake18 wo).mono ?_
 rintro e wa ⟨rfl,hba⟩
 have ba:Below wa.heap.size wa (wa.alloc (.cells #[.slice A1 m1 c1] 22)):=bRr.alloc lRr _
 have hq:=heap_alloc_new wa (.cells #[.slice A1 m1 c1] 22)
 have hsz:wa.heap.size<(wa.alloc (.cells #[.slice A1 m1 c1] 22)).heap.size:=by simp
 have HB:=hiD (hba.tm ba)
 have q0:(wa.alloc (.cells #[.slice A1 m1 c1] 22)).cell? ⟨wa.heap.size,0,none⟩=some (.slice A1 m1 c1):=by
  rw [cell_of_row _ _ 0 _ _ (0,0) hq];rfl
 have Cs:=hiD (lsmall18_1 a0 4 12 wa.heap.size 1 A1 m1 c1 L1 _ (by omega) hsz q0 (Ta.out.bel HB.out) (by omega))
 clear ba hq hsz q0 hba
 go_wp2_with fail
 generalize hwb:wa.alloc (.cells #[.slice A1 m1 c1] 22)=wb at*
 clear hwb
 refine Cs.out.mono ?_
 rintro e wc ⟨bb,rfl,hbc,hsm⟩
 have HC:=hiD (HB.out.tm hbc)
 have Hs:=hiD hsm
 clear hbc hsm Cs HB
 cases bb with
 | false=>
   go_wp2_with fail
   go_ret;exact ⟨rfl,HC.out⟩
 | true=>
   have sm:=Hs.out rfl;obtain ⟨n,x,y,z,hn0,hn,hs,hz,hfit⟩:=sml_fitP 12 (Int.le_refl _) sm (by omega) (by omega);subst hn0;obtain ⟨ar1,dg1,nm1⟩:=hfit 0 (by omega) (trs_limbsP Ta.out);have l1:=(sm.2.1 0 (by omega)).1;have b1:=sml_bd sm (show 0<1 by omega) (by omega);have hs20:(x+1)*(y+1)*(z+1)≤20:=by omega
   have F1:=hiD (show Fit0 n x y z (toT n (mvT L1)) from ⟨dg1,Nat.le_trans nm1 (Nat.pow_le_pow_right (by omega) (by omega))⟩);have AR1:=hiD ar1;have HS:=hiD hs;have HZ:=hiD hz;have n1:=Ta.out.len;have l1:(L1.length:Int)≤4:=l1;have lm:m1≤4:=by omega
   have M1:=hiD (fun W (h:Below wo.heap.size wo W)=>ltimes18 n 1000 1000 A1 A1 m1 c1 m1 c1 L1 L1 W (Ta.out.bel h) (Ta.out.bel h) AR1.out AR1.out (by omega) 400 400 (by omega) (by omega) (Nat.le_trans (Nat.mul_le_mul lm lm) (by decide)) b1 b1 (by omega));have R1:=hiD (mRadical_ok n x y z hn hs20 hz A1 m1 c1 L1 wc (Ta.out.bel HC.out) ar1 dg1 nm1);obtain ⟨a,ha⟩:∃a:Pn n,toT n (mvT L1)=a:=⟨_,rfl⟩;have HA:=hiD ha;rw [ha] at R1 F1;have N1:=hiD (fun W (h:Below wo.heap.size wo W)=>mnorm n 1000 A1 m1 c1 L1 W (Ta.out.bel h) AR1.out (by omega) (by omega));have Nx:Hid (∀Lx,PlainT n Lx→EqM n (mvT Lx) (mvT L1)→mvT Lx=plT n a):=fun Lx x4 x5=>by
    have nn1:NnM (mvT L1):=fun t ht u hu=>(AR1.out.bdM t ht u hu).1;have nnx:NnM (mvT Lx):=fun t ht u hu=>(x4.mv.bd x5 AR1.out.bdM t ht u hu).1;rw [← ha];exact plT_unique x4.mv nnx (toT_eq x4.mv.len nnx AR1.out.lenM nn1 x5)
   clear hfit Hs sm dg1 nm1 ar1 hz hs b1 l1 n1 ha hs20;go_wp2_with fail
   refine R1.out.mono ?_;rintro e wd (⟨hq0,rfl,hbd⟩ | ⟨hq0,g,r,r',hqr,hK,hrr,hpp,Ar,cr,Lr,rfl,r1,r2,r3,r4,r5,r6⟩)
   · have HD:=hiD (HC.out.tm hbd)
     have hA0:Hid (a=0):=prT_zero.1 hq0;have N2:=hiD (N1.out wd HD.out);clear hbd hq0 R1 N1 M1;(go_wp2_with fail);refine N2.out.mono ?_;rintro e we ⟨Ax,cx,Lx,rfl,x1,x2,x3,x4,x5,x6⟩;have HE:=hiD (HD.out.tm x6);have eX:Lx=[]:=by
      have e1:=Nx.out Lx x4 x5;rw [hA0.out,plT_zero.2 rfl] at e1;exact List.map_eq_nil_iff.1 e1
     subst eX;clear x3 x4 x5 x6 N2 Nx;(go_wp2_with fail);go_ret;exact ⟨rfl,HE.out⟩
   · have HD:=hiD (HC.out.tm r6)
     have a00:a≠0:=fun e=>hq0 (prT_zero.2 e);have A00:=hiD a00;have Er:Hid (mvT Lr=plT n r'):=r4.mv.unique (plT_plain n r') r5;have Tr:=hiD r3;have Pr:=hiD r4;have Qr:=hiD hqr;have Kg:=hiD hK;have Rr:=hiD hrr;have Pp:=hiD hpp;have Fq:Hid (Fit0 n x y z (prT n a)):=F1.out.pr hn HS.out a00;have Pm0:Hid (Pm (prT n a)):=prT_pm a00;have Dr:Hid (Dv r' (prT n a)):=by
      rcases hrr with e | e
      · exact ⟨g,by rw [e];exact hqr⟩
      · exact ⟨-g,by rw [e,CRing.neg_mul,CRing.mul_neg,CRing.neg_neg];exact hqr⟩
     have ARr:Hid (Arg n 1000 Lr):=by
      have fr:=(Fq.out.dv hn (by have:=HS.out;omega) Pm0.out.1 Dr.out);exact arg_plT hn (by have:=HS.out;omega) r4 Er.out fr.dg (Nat.le_trans fr.nm (Nat.pow_le_pow_right (by decide) (by have:=hb12 HS.out;have:=e6_eq;omega)))
     have N2:=hiD (N1.out wd HD.out);clear r3 r4 r5 r6 hqr hK hrr hpp hq0 a00 R1 N1;(go_wp2_with fail);refine N2.out.mono ?_;rintro e we ⟨Ax,cx,Lx,rfl,x1,x2,x3,x4,x5,x6⟩;have HE:=hiD (HD.out.tm x6);have Ex:Hid (mvT Lx=plT n a):=Nx.out Lx x4 x5;have Tx:=hiD x3;have Px:=hiD x4;have Tr2:=hiD (Tr.out.bel x6);have lx:0<Lx.length:=by
      refine Nat.pos_of_ne_zero fun h0=>A00.out (plT_zero.1 ?_);rw [← Ex.out,List.eq_nil_of_length_eq_zero h0];rfl
     have hz0:((Lx.length:Int)==0)=false:=beq_eq_false_iff_ne.2 (by omega);have M2:=hiD (M1.out we HE.out);clear x3 x4 x5 x6 N2 Nx Tr;(go_wp2_with fail);refine M2.out.mono ?_;rintro e wf ⟨A4,c4,L4,rfl,p1,p2,p3,p4,p5,p6⟩;have HF:=hiD (HE.out.tm p6);have E4:mvT L4=plT n (a*a):=by
      have h:=mul_plT AR1.out AR1.out p4 p5;rwa [HA.out] at h
     have Tx2:=hiD (Tx.out.bel p6);have Tr3:=hiD (Tr2.out.bel p6);have R2:=hiD (mRadical_gen n hn A4 L4.length c4 wf _ (D6 x y z) (D6_le HS.out) (vol6_le hn HS.out) (fit_sq hn HS.out A00.out F1.out) (radical_sq hn HS.out HZ.out A00.out F1.out p3 p4 E4));clear p3 p4 p5 p6 M2 E4 Tx Tr2 hz0;(go_wp2_with fail);refine R2.out.mono ?_;rintro e wg (⟨hq0,rfl,hbd⟩ | ⟨hq0,g2,s,s',hqs,hK2,hss,hps,As,cs,Ls,rfl,s1,s2,s3,s4,s5,s6⟩)
     · exact absurd (prT_zero.1 hq0) (Dom.mul_ne A00.out A00.out)
     have HG:=hiD (HF.out.tm s6);have Tx3:=hiD (Tx2.out.bel s6);have Tr4:=hiD (Tr3.out.bel s6);have Ts:=hiD s3;have es:Ls=Lr:=by
      have g0:prT n a*g≠0:=Dom.mul_ne Pm0.out.1 fun e=>Pm0.out.1 (by rw [Qr.out,e,CRing.mul_zero]);have hf:=prT_sq A00.out;have h1:=(sq_isK (Nat.le_refl n) Pm0.out Kg.out).pm (hK2.sgn (Nat.le_refl n) hf);have h2:(prT n a*g)*s=(prT n a*g)*r∨(prT n a*g)*s=(prT n a*g)* -r:=by
       have h3:prT n a*prT n a=(prT n a*g)*r:=by
        rw [CRing.mul_assoc,CRing.mul_comm g r,← Qr.out]
       have h4:(prT n a*g)*s=prT n (a*a)∨(prT n a*g)*s= -prT n (a*a):=by
        have h5:prT n (a*a)=g2*s:=hqs.trans (CRing.mul_comm _ _);rcases h1 with e | e<;>rw [h5,e]
        · exact .inl rfl
        · right;rw [CRing.neg_mul,CRing.neg_neg]
       rw [CRing.mul_neg,← h3];rcases h4 with e | e<;>rcases hf with e2 | e2<;>rw [e,e2]<;>simp only [CRing.neg_neg,true_or,or_true]
      have h5:s=r∨s= -r:=h2.imp (Dom.cancel g0) (Dom.cancel g0);have h6:s'=r':=by
       refine Pp.out.eq hps ?_;have n2:∀u:Pn n, - -u=u:=CRing.neg_neg;rcases h5 with e | e<;>rcases hss with e2 | e2<;>rcases Rr.out with e3 | e3<;>rw [e2,e3,e]<;>simp only [n2,true_or,or_true]
      refine mvT_inj s4.co Pr.out.co ?_;rw [Er.out,← h6];exact s4.mv.unique (plT_plain n s') s5
     subst es;clear hqs hK2 hss hps hq0 s3 s4 s5 s6 R2 Tx2 Tr3;obtain ⟨u,hu⟩:∃u,a=r'*u:=by
      obtain ⟨v,hv⟩:=Dr.out.trans (prT_dv n a);exact ⟨v,hv⟩
     have r0:r'≠0:=fun e=>A00.out (by rw [hu,e,CRing.zero_mul]);have fr:=F1.out.dv hn (by have:=HS.out;omega) A00.out ⟨u,hu⟩;have fu:=F1.out.dv hn (by have:=HS.out;omega) A00.out (show Dv u a from ⟨r',by rw [hu,CRing.mul_comm]⟩);have D1:=hiD (mdiv18 n x y z hn (by have:=HS.out;omega) A1 Ar m1 c1 Ls.length cr L1 Ls r' u wg (Ta.out.bel HG.out) Tr4.out AR1.out Pr.out Er.out r0 (by rw [HA.out];exact hu) fr.dg (Nat.le_trans fr.nm (Nat.pow_le_pow_right (by decide) (by have:=hb12 HS.out;have:=e6_eq;omega))) fu.dg);clear hu fr fu;(go_wp2_with fail);refine D1.out.mono ?_;rintro e wh ⟨Au,cu,Lu,rfl,u1,u2,u3,u4,u5,u6⟩;have HH:=hiD (HG.out.tm u6);have Tx4:=hiD (Tx3.out.bel u6);have Tr5:=hiD (Tr4.out.bel u6);have Ts2:=hiD (Ts.out.bel u6);have Pmr:Hid (Pm r'):=Pm0.out.dv Dr.out;have frq:=Fq.out.dv hn (by have:=HS.out;omega) Pm0.out.1 Dr.out;have I1:=hiD (mIs n hn Ar Ls.length cr wh r' (D3 x y z) (fun j=>by have:=D3_12 HS.out j;omega) (by have:=vol_small (x:=x) (y:=y) (z:=z) hn (by have:=HS.out;omega);omega) (fun v h0 hv=>frq.less hn (by have:=HS.out;omega) h0 hv) (radical_dv hn HS.out HZ.out Pm0.out.1 Fq.out Dr.out Pmr.out Pp.out Tr5.out ARr.out Er.out));clear u3 u4 u5 u6 D1 Tx3 Tr4 Ts frq;(go_wp2_with fail);refine I1.out.mono ?_;rintro e wi (⟨hq0,rfl,hbd⟩ | ⟨hq0,v,b,hKv,hbv,rfl,hbi⟩)
     · exact absurd hq0 r0
     have bt:b=true:=hbv.2 (by
      have kr:IsK n n r v:=hKv.sgn (Nat.le_refl n) Rr.out;rcases sqf_one Pm0.out Kg.out (by rw [CRing.mul_comm];exact Qr.out) kr with e | e
      · exact ⟨1,by rw [e,cstT_one]⟩
      · refine cst_of fun i hi=>derT_none hi (D:=fun _=>0) ?_ rfl
        rw [e];exact Siz.dg_neg _ _ (Siz.dg_one _))
     subst bt;have HI:=hiD (HH.out.tm hbi);have Tx5:=hiD (Tx4.out.bel hbi);have Tr6:=hiD (Tr5.out.bel hbi);have Ts3:=hiD (Ts2.out.bel hbi);have M3:=hiD (M1.out wi HI.out);clear hKv hbv hbi hq0 r0 I1 Tx4 Tr5 Ts2 M1;(go_wp2_with fail);refine M3.out.mono ?_;rintro e wj ⟨A5,c5,L5,rfl,p1,p2,p3,p4,p5,p6⟩;have HJ:=hiD (HI.out.tm p6);have E5:mvT L5=plT n (a*a):=by
      have h:=mul_plT AR1.out AR1.out p4 p5;rwa [HA.out] at h
     have Tx6:=hiD (Tx5.out.bel p6);have Tr7:=hiD (Tr6.out.bel p6);have Ts4:=hiD (Ts3.out.bel p6);have I2:=hiD (mIs n hn A5 L5.length c5 wj _ (D6 x y z) (D6_le HS.out) (vol6_le hn HS.out) (fit_sq hn HS.out A00.out F1.out) (radical_sq hn HS.out HZ.out A00.out F1.out p3 p4 E5));clear p3 p4 p5 p6 M3 E5 Tx5 Tr6 Ts3;(go_wp2_with fail);refine I2.out.mono ?_;rintro e wk (⟨hq0,rfl,hbd⟩ | ⟨hq0,v,b,hKv,hbv,rfl,hbi⟩)
     · exact absurd (prT_zero.1 hq0) (Dom.mul_ne A00.out A00.out)
     have HB:Hid (b=true↔∃t,plT n a=[t]∧∀j,j<n→nth t.1 j=0):=
      (hbv.trans (sq_cst A00.out Pm0.out.1 (prT_mul n a) ⟨_,rfl⟩ Kg.out ((sq_isK (Nat.le_refl n) Pm0.out Kg.out).pm (hKv.sgn (Nat.le_refl n) (prT_sq A00.out))))).trans (cst_iff A00.out)
     have HK:=hiD (HJ.out.tm hbi);have Tx7:=hiD (Tx6.out.bel hbi);have Tr8:=hiD (Tr7.out.bel hbi);have Ts5:=hiD (Ts4.out.bel hbi);have P1:=hiD (mprim n 1000 Ar Ls.length cr Ls wk Tr8.out ARr.out (by omega) (by omega));clear hKv hbv hbi hq0 I2 Tx6 Tr7 Ts4;(go_wp2_with fail);refine P1.out.mono ?_;rintro e wl ⟨sp,Ap,kp,cp,lsp,Bp,cBp,T,P,rfl,y1,y2,y3,y4,y5,y6,y7,y8,y9,y10,y11,y12⟩;have eT:T=Ls:=by
      refine mvT_inj y10.co Pr.out.co ?_;have hnP:mvT P=mvT Ls:=y4.mv.unique Pr.out.mv y5;rw [y11,hnP,Er.out,prT_plain,prT_id Pmr.out Pp.out]
     subst eT;have ba:Below wl.heap.size wl (wl.alloc (.cells #[.bool sp,.slice Ap kp cp] 41)):=bRr.alloc lRr _;have hbl:=y12.tm ba;have HL:=hiD (HK.out.tm hbl);have Tx8:=hiD (Tx7.out.bel hbl);have Tr9:=hiD (Tr8.out.bel hbl);have Ts6:=hiD (Ts5.out.bel hbl);have Tp:=hiD (y9.bel ba);(have lT:T.length≤100000000:=by have:=ARr.out.cnt;omega);clear y3 y4 y5 y6 y9 y10 y11 y12 ba hbl P1 Tx7 Tr8 Ts5 Er Pr Pmr Pm0 Fq Dr Kg Qr Rr Pp ARr A00;(go_wp2_with fail);obtain ⟨E0,hE0⟩:∃E0,(Lx[0]'lx).2=E0:=⟨_,rfl⟩;have HE:Hid (E0.length=n):=by
      rw [← hE0];exact Px.out.mv.len (valT (Lx[0]'lx)) (List.mem_map.2 ⟨_,List.getElem_mem lx,rfl⟩)
     have HT:Hid (b=true↔Lx.length=1∧∀j,j<n→nth E0 j=0):=by
      refine HB.out.trans ⟨fun ⟨t,ht,h⟩=> ?_,fun ⟨h1,h⟩=> ?_⟩
      · rw [← Ex.out] at ht
        have h1:Lx.length=1:=by
         have:=congrArg List.length ht;rwa [mvT_length] at this
        refine ⟨h1,fun j hj=> ?_⟩;have h2:valT (Lx[0]'lx)∈mvT Lx:=List.mem_map.2 ⟨_,List.getElem_mem lx,rfl⟩;rw [ht] at h2;have h3:=h j hj;rw [← List.mem_singleton.1 h2] at h3;rw [← hE0];exact h3
      · obtain ⟨t,rfl⟩:=List.length_eq_one_iff.1 h1
        exact ⟨valT t,Ex.out.symm,fun j hj=>by
         have:=h j hj;rw [← hE0] at this;exact this⟩
     obtain ⟨bx,ox,rfl,hbx,hcx⟩:=Tx8.out.at_ lx;obtain ⟨Ai,ci,Ei,ei,z1,z2,z3,z4,z5,z6,z7,z8,z9⟩:=hcx 0 lx;rw [hE0] at z3 z6 z9;rw [HE.out] at z3 z6 z9;have z3':(wl.alloc (.cells #[.bool sp,.slice Ap kp cp] 41)).cell? ⟨bx,ox+2,none⟩=some (.slice Ei n ei):=z3;have X:=hiD z9;clear z1 z2 z3 z4 z5 z7 z8 z9 hcx hE0 HE HB Ex Tx8 Px;generalize hwm:wl.alloc (.cells #[.bool sp,.slice Ap kp cp] 41)=wm at*
     clear hwm;go_loopw [21,22] (fun bv i wr=>∃(k:Nat) (c:Bool),k≤n∧bv=.bool c∧i=.int .i64 (k:Int)∧Hid (c=true↔Lx.length=1∧∀j,j<k→nth E0 j=0)∧wr=wm) (fun _ i _=>n - (intOf i).toNat)
     case atStart=>exact ⟨0,(Lx.length:Int)==1,Nat.zero_le _,rfl,rfl,⟨fun h=>⟨by have:=beq_iff_eq.1 h;omega,fun j hj=>absurd hj (Nat.not_lt_zero j)⟩,fun h=>beq_iff_eq.2 (by omega)⟩,rfl⟩
     case round=>
      obtain ⟨k,c,hk,rfl,rfl,hc,rfl⟩:=hrel;by_cases hlt:k<n
      · have hlt':(k:Int)<(n:Int):=by omega
        cases c with
        | false=>
          have HC2:Hid (false=true↔Lx.length=1∧∀j,j<k+1→nth E0 j=0):=⟨fun h=>(by cases h),fun ⟨h1,h2⟩=>hc.out.2 ⟨h1,fun j hj=>h2 j (by omega)⟩⟩;clear hc;(go_wp2_with fail);go_roundw
          case rel=>exact ⟨k+1,false,by omega,rfl,by go_num,HC2,(by first | trivial | rfl)⟩
          case measure=>simp [intOf];omega
        | true=>
          obtain ⟨b',o',rfl,hb',hc'⟩:=X.out.at_ (by omega);have hck:=hc' k hlt;(have hk0:(0:Int)≤(k:Int):=by omega);(have hl0:(0:Int)<(Lx.length:Int):=by omega);have HC2:Hid (((nth E0 k)==0)=true↔Lx.length=1∧∀j,j<k+1→nth E0 j=0):=by
           obtain ⟨h1,h2⟩:=hc.out.1 rfl;refine ⟨fun h=>⟨h1,fun j hj=> ?_⟩,fun h=>beq_iff_eq.2 (h.2 k (by omega))⟩;by_cases e:j=k
           · rw [e];exact beq_iff_eq.1 h
           · exact h2 j (by omega)
          clear hc hc';(go_wp2_with fail);go_roundw
          case rel=>exact ⟨k+1,nth E0 k==0,by omega,rfl,by go_num,HC2,(by first | trivial | rfl)⟩
          case measure=>simp [intOf];omega
      · have hlt':¬(k:Int)<(n:Int):=by omega
        have hbc:b=c:=by
         (have h1:k=n:=by omega);have h2:=HT.out;have h3:=hc.out;rw [h1] at h3;exact Bool.eq_iff_iff.2 (h2.trans h3.symm)
        subst hbc;have Sm1:=hiD (lsame18 Ar As T.length cr cs T wr Tr9.out Ts6.out lT);clear hc HT;(cases b);all_goals
         (go_wp2_with fail);refine Sm1.out.mono ?_;rintro e wn ⟨rfl,hbn⟩;have HN:=hiD (HL.out.tm hbn);have Sm2:=hiD (lsame18 Bp Ar T.length cBp cr T wn (Tp.out.bel hbn) (Tr9.out.bel hbn) lT);clear hbn;(go_wp2_with fail);refine Sm2.out.mono ?_;rintro e wp ⟨rfl,hbp⟩;have HP:=hiD (HN.out.tm hbp);clear hbp;(go_wp2_with fail);go_ret;exact ⟨rfl,HP.out⟩
end Go.Proofs.YtehcoffbiplphaaGreat
