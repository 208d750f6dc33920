/- The greatest common divisor divides both: the walk of the law, for all inputs. -/
import Derived.Test.YtehcoffbiplphaaGreatPLwD
set_option linter.unusedVariables false
set_option linter.unusedSimpArgs false
namespace Go.Proofs.YtehcoffbiplphaaGreat
open Go.RowKit Cl CRing
attribute [local go_sem ↓] Go.wp_at_zero Go.wp_at_succ
theorem lsmall18_2 (n most:Int) (g c:Nat) (A B:Option Addr) (m1 m2 c1 c2:Nat) (L M:List TV) (w:World) (hg:g<w.heap.size) (q0:w.cell? ⟨g,0,none⟩=some (.slice A m1 c1)) (q1:w.cell? ⟨g,1,none⟩=some (.slice B m2 c2)) (hx:Trs w A m1 L) (hy:Trs w B m2 M) (h1:m1≤9223372036854775807) (h2:m2≤9223372036854775807):
 Calls Tryz.prog 11 #[.int .i64 n,.int .i64 most,.int .i64 20,.slice (some ⟨g,0,none⟩) 2 c] w (SmallSaid18 w n most 20 2 (fun k=>if k=0 then L else M)):=
 lsmall18 n most 20 g 2 c (fun k=>if k=0 then A else B) (fun k=>if k=0 then m1 else m2) (fun k=>if k=0 then c1 else c2) (fun k=>if k=0 then L else M) w (by omega) (by omega) hg (fun k hk=>by
  match k,hk with
  | 0,_=>exact ⟨q0,hx,h1⟩
  | 1,_=>exact ⟨q1,hy,h2⟩
  | k+2,hk=>omega)
theorem head_neg {n:Nat} {g:Pn n}:∀{L:List TV},mvT L=plT n g→PosP g→∀(h:0<L.length),(L[0]'h).1.1=false
 | [],_,_,h=>absurd h (Nat.lt_irrefl 0)
 | t::R,e,hp,_=>by
   have e2:=hp (valT t) (mvT R) e.symm
   have e3:(valT t).2=intZ t.1.1 t.1.2:=rfl
   rw [e3] at e2
   show t.1.1=false
   cases hs1:t.1.1 with
   | false=>rfl
   | true=>
     exfalso
     rw [hs1] at e2
     have e4:intZ true t.1.2= -(limbs t.1.2:Int):=by simp [intZ]
     rw [e4] at e2
     omega
set_option maxRecDepth 100000 in
set_option maxHeartbeats 16000000 in
theorem law_MgcdDivides (a0:Int) (A1:Option Addr) (m1 c1:Nat) (L1:List TV) (A2:Option Addr) (m2 c2:Nat) (L2:List TV) (w:World) (lo0: -9223372036854775808≤a0) (hi0:a0≤9223372036854775807)
 (w1:Trs w A1 m1 L1) (h1:m1≤c1) (k1:c1≤9223372036854775807) (w2:Trs w A2 m2 L2) (h2:m2≤c2) (k2:c2≤9223372036854775807):
 Calls Tryz.prog 6 #[.int .i64 a0,.slice A1 m1 c1,.slice A2 m2 c2] w fun e w'=>e=.returned (.bool true)∧Below w.heap.size w w':=by
 have Ta:=Lib.hid w1
 have Tb:=Lib.hid w2
 clear w1 w2
 go_enter Tryz.func6,Tryz.ntmps6
 obtain ⟨wo,rfl⟩:∃wo:World,wo=w:=⟨_,rfl⟩
 go_wp2_with fail
 refine (awake18 wo).mono ?_
 rintro e wa ⟨rfl,hba⟩
 have ba:Below wa.heap.size wa (wa.alloc (.cells #[.slice A1 m1 c1,.slice A2 m2 c2] 22)):=(Below.refl _ _).alloc (Nat.le_refl _) _
 have hq:=heap_alloc_new wa (.cells #[.slice A1 m1 c1,.slice A2 m2 c2] 22)
 have hsz:wa.heap.size<(wa.alloc (.cells #[.slice A1 m1 c1,.slice A2 m2 c2] 22)).heap.size:=by simp
 have HB:=Lib.hid (hba.trans (ba.mono hba.size))
 have q0:(wa.alloc (.cells #[.slice A1 m1 c1,.slice A2 m2 c2] 22)).cell? ⟨wa.heap.size,0,none⟩=some (.slice A1 m1 c1):=by
  rw [cell_of_row _ _ 0 _ _ (0,0) hq]
  rfl
 have q1:(wa.alloc (.cells #[.slice A1 m1 c1,.slice A2 m2 c2] 22)).cell? ⟨wa.heap.size,1,none⟩=some (.slice A2 m2 c2):=by
  rw [cell_of_row _ _ 1 _ _ (0,0) hq]
  rfl
 have Cs:=Lib.hid (lsmall18_2 a0 6 wa.heap.size 2 A1 A2 m1 m2 c1 c2 L1 L2 _ hsz q0 q1 (Ta.out.bel HB.out) (Tb.out.bel HB.out) (by omega) (by omega))
 clear ba hq hsz q0 q1 hba
 go_wp2_with fail
 generalize hwb:wa.alloc (.cells #[.slice A1 m1 c1,.slice A2 m2 c2] 22)=wb at*
 clear hwb
 refine Cs.out.mono ?_
 rintro e wc ⟨bb,rfl,hbc,hsm⟩
 have HC:=Lib.hid (HB.out.trans (hbc.mono HB.out.size))
 have Hs:=Lib.hid hsm
 clear hbc hsm Cs HB
 cases bb with
 | false=>
   go_wp2_with fail
   go_ret
   exact ⟨rfl,HC.out⟩
 | true=>
   obtain ⟨n,x,y,z,hn0,hn,hs,hz,hfit⟩:=sml_fit (Hs.out rfl) (by omega) (by omega)
   subst hn0
   have f1:=hfit 0 (by omega) (trs_limbsP Ta.out)
   have f2:=hfit 1 (by omega) (trs_limbsP Tb.out)
   simp only [if_true,Nat.one_ne_zero,if_false] at f1 f2
   obtain ⟨ar1,dg1,nm1⟩:=f1
   obtain ⟨ar2,dg2,nm2⟩:=f2
   have F1:=Lib.hid (show Fit0 n x y z (toT n (mvT L1)) from ⟨dg1,Nat.le_trans nm1 (Nat.pow_le_pow_right (by omega) (by omega))⟩)
   have F2:=Lib.hid (show Fit0 n x y z (toT n (mvT L2)) from ⟨dg2,Nat.le_trans nm2 (Nat.pow_le_pow_right (by omega) (by omega))⟩)
   have AR1:=Lib.hid ar1
   have AR2:=Lib.hid ar2
   have HS:=Lib.hid hs
   have HZ:=Lib.hid hz
   clear hfit Hs dg1 nm1 dg2 nm2 ar1 ar2 hz
   have G1:=Lib.hid (mgcd_ok n x y z hn hs HZ.out A1 A2 m1 c1 m2 c2 L1 L2 wc (Ta.out.bel HC.out) (Tb.out.bel HC.out) AR1.out AR2.out h1 k1 h2 k2 F1.out.fit F2.out.fit)
   go_wp2_with fail
   refine G1.out.mono ?_
   rintro e wd ⟨g,hg,pg,Ag,cg,Lg,rfl,g1,g2,g3,g4,g5,g6⟩
   have Eg:Hid (mvT Lg=plT n g):=g4.mv.unique (plT_plain n g) g5
   have Tg:=Lib.hid g3
   have Pg:=Lib.hid g4
   have Hg:=Lib.hid hg
   have Sg:=Lib.hid pg
   have HD:=Lib.hid (HC.out.trans (g6.mono HC.out.size))
   clear hg pg g3 g4 g5 g6 G1
   have G2:=Lib.hid (mgcd_ok n x y z hn hs HZ.out A2 A1 m2 c2 m1 c1 L2 L1 wd (Tb.out.bel HD.out) (Ta.out.bel HD.out) AR2.out AR1.out h2 k2 h1 k1 F2.out.fit F1.out.fit)
   go_wp2_with fail
   refine G2.out.mono ?_
   rintro e we ⟨h,hh,ph,Ah,ch,Lh,rfl,r1,r2,r3,r4,r5,r6⟩
   have eLh:Lh=Lg:=by
    have e1:h=g:=Hg.out.one hh.symm Sg.out ph
    have e2:mvT Lh=mvT Lg:=by rw [Eg.out,← e1];exact r4.mv.unique (plT_plain n h) r5
    exact mvT_inj r4.co Pg.out.co e2
   subst eLh
   have Tg2:=Lib.hid (Tg.out.bel r6)
   have Th:=Lib.hid r3
   have HE:=Lib.hid (HD.out.trans (r6.mono HD.out.size))
   clear hh ph r3 r4 r5 r6 G2 Tg
   have hlen:Lh.length≤20:=by
    have e:=congrArg List.length Eg.out
    rw [mvT_length] at e
    rw [e]
    exact len_plT hn hs (isG_fit F1.out.fit F2.out.fit hn hs Hg.out).1
   go_wp2_with fail
   refine (lsame18 Ag Ah Lh.length cg ch Lh we Tg2.out Th.out (by omega)).mono ?_
   rintro e wf ⟨rfl,hbf⟩
   have HF:=Lib.hid (HE.out.trans (hbf.mono HE.out.size))
   have Tg3:=Lib.hid (Tg2.out.bel hbf)
   clear hbf Tg2 Th
   have N1:=Lib.hid (mnorm n 1000 A1 m1 c1 L1 wf (Ta.out.bel HF.out) AR1.out (by omega) (by omega))
   go_wp2_with fail
   refine N1.out.mono ?_
   rintro e wg ⟨Ax,cx,Lx,rfl,x1,x2,x3,x4,x5,x6⟩
   have HG:=Lib.hid (HF.out.trans (x6.mono HF.out.size))
   have Tg4:=Lib.hid (Tg3.out.bel x6)
   have X4:=Lib.hid x4
   have X5:=Lib.hid x5
   clear x3 x4 x5 x6 N1 Tg3
   have N2:=Lib.hid (mnorm n 1000 A2 m2 c2 L2 wg (Tb.out.bel HG.out) AR2.out (by omega) (by omega))
   go_wp2_with fail
   refine N2.out.mono ?_
   rintro e wh ⟨Ay,cy,Ly,rfl,y1,y2,y3,y4,y5,y6⟩
   have HH:=Lib.hid (HG.out.trans (y6.mono HG.out.size))
   have Tg5:=Lib.hid (Tg4.out.bel y6)
   have Y4:=Lib.hid y4
   have Y5:=Lib.hid y5
   clear y3 y4 y5 y6 N2 Tg4
   have nn1:NnM (mvT L1):=fun t ht u hu=>(AR1.out.bdM t ht u hu).1
   have nn2:NnM (mvT L2):=fun t ht u hu=>(AR2.out.bdM t ht u hu).1
   by_cases h0:Lh.length=0
   · have g0:g=0:=plT_zero.1 (by rw [← Eg.out,List.eq_nil_of_length_eq_zero h0];rfl)
     obtain ⟨a0,b0⟩:=(isG_zero_iff Hg.out).1 g0
     have eX:Lx=[]:=by
      have e1:=plT_unique X4.out.mv (fun t ht u hu=>(X4.out.mv.bd X5.out AR1.out.bdM t ht u hu).1) ((toT_eq X4.out.mv.len (fun t ht u hu=>(X4.out.mv.bd X5.out AR1.out.bdM t ht u hu).1) AR1.out.lenM nn1 X5.out).trans a0)
      rw [plT_zero.2 rfl] at e1
      exact List.map_eq_nil_iff.1 e1
     have eY:Ly=[]:=by
      have e1:=plT_unique Y4.out.mv (fun t ht u hu=>(Y4.out.mv.bd Y5.out AR2.out.bdM t ht u hu).1) ((toT_eq Y4.out.mv.len (fun t ht u hu=>(Y4.out.mv.bd Y5.out AR2.out.bdM t ht u hu).1) AR2.out.lenM nn2 Y5.out).trans b0)
      rw [plT_zero.2 rfl] at e1
      exact List.map_eq_nil_iff.1 e1
     subst eX
     subst eY
     have hz0:((Lh.length:Int)==0)=true:=by rw [h0];rfl
     clear g0 a0 b0 h0
     go_wp2_with fail
     go_ret
     exact ⟨rfl,HH.out⟩
   · have hz0:((Lh.length:Int)==0)=false:=beq_eq_false_iff_ne.2 (by omega)
     have g0:Hid (g≠0):=fun e=>h0 (by
      have e1:=congrArg List.length Eg.out
      rw [mvT_length,plT_zero.2 e] at e1
      exact e1)
     have hpos:0<Lh.length:=Nat.pos_of_ne_zero h0
     obtain ⟨gd,gn⟩:=isG_fit F1.out.fit F2.out.fit hn hs Hg.out
     obtain ⟨p,hp⟩:=Hg.out.l
     obtain ⟨q,hq⟩:=Hg.out.r
     have fitq:∀{f u:Pn n},Fit0 n x y z f→f=g*u→Fit n x y z u:=fun {f u} hf e=>by
      by_cases f0:f=0
      · have u0:u=0:=by
         rcases Dom.nz _ _ (e.symm.trans f0) with h | h
         · exact absurd h g0.out
         · exact h
        rw [u0]
        exact ⟨Siz.dg_zero _,by rw [Siz.nm_zero];exact Nat.zero_le _⟩
      · exact hf.dv hn hs f0 ⟨g,by rw [e,CRing.mul_comm]⟩
     have Fp:=Lib.hid (fitq F1.out hp)
     have Fq:=Lib.hid (fitq F2.out hq)
     have D1:=Lib.hid (mdiv18 n x y z hn hs A1 Ag m1 c1 Lh.length cg L1 Lh g p wh (Ta.out.bel HH.out) Tg5.out AR1.out Pg.out Eg.out g0.out hp gd gn Fp.out.dg)
     have Hp:=Lib.hid hp
     have Hq:=Lib.hid hq
     have GD:=Lib.hid gd
     have GN:=Lib.hid gn
     clear hp hq gd gn fitq h0 nn1 nn2 X4 X5 Y4 Y5
     go_wp2_with fail
     refine D1.out.mono ?_
     rintro e wi ⟨Ap,cp,Lp,rfl,p1,p2,p3,p4,p5,p6⟩
     have HI:=Lib.hid (HH.out.trans (p6.mono HH.out.size))
     have Tg6:=Lib.hid (Tg5.out.bel p6)
     have Tp:=Lib.hid p3
     have Pp:=Lib.hid p4
     have Ep:Hid (mvT Lp=plT n p):=p4.mv.unique (plT_plain n p) p5
     clear p3 p4 p5 p6 D1 Tg5
     have D2:=Lib.hid (mdiv18 n x y z hn hs A2 Ag m2 c2 Lh.length cg L2 Lh g q wi (Tb.out.bel HI.out) Tg6.out AR2.out Pg.out Eg.out g0.out Hq.out GD.out GN.out Fq.out.dg)
     go_wp2_with fail
     refine D2.out.mono ?_
     rintro e wj ⟨Aq,cq,Lq,rfl,q1,q2,q3,q4,q5,q6⟩
     have HJ:=Lib.hid (HI.out.trans (q6.mono HI.out.size))
     have Tg7:=Lib.hid (Tg6.out.bel q6)
     have Tp2:=Lib.hid (Tp.out.bel q6)
     have Tq:=Lib.hid q3
     have Pq:=Lib.hid q4
     have Eq:Hid (mvT Lq=plT n q):=q4.mv.unique (plT_plain n q) q5
     clear q3 q4 q5 q6 D2 Tg6 Tp
     have bo:Below wj.heap.size wj (wj.alloc (.cells #[.int .u64 1] 38)):=(Below.refl _ _).alloc (Nat.le_refl _) _
     have ho:=heap_alloc_new wj (.cells #[.int .u64 1] 38)
     have hzo:wj.heap.size<(wj.alloc (.cells #[.int .u64 1] 38)).heap.size:=by simp
     have lo:Limbs (wj.alloc (.cells #[.int .u64 1] 38)) (some ⟨wj.heap.size,0,none⟩) 1 [1]:=⟨rfl,fun _=>⟨_,0,rfl,hzo,fun i hi=>by
      have e:i=0:=by omega
      rw [e,cell_of_row _ _ (0+0) _ _ (0,0) ho]
      rfl⟩,fun i=>by
      match i with
      | 0=>show (0:Int)≤1∧(1:Int)<_;omega
      | i+1=>show (0:Int)≤0∧(0:Int)<_;omega⟩
     have Co:=Lib.hid (mconst n false (some ⟨wj.heap.size,0,none⟩) 1 1 [1] _ lo (by omega) (by omega) (by omega) (by omega))
     have HK:=Lib.hid (HJ.out.trans (bo.mono HJ.out.size))
     have Tg8:=Lib.hid (Tg7.out.bel bo)
     have Tp3:=Lib.hid (Tp2.out.bel bo)
     have Tq2:=Lib.hid (Tq.out.bel bo)
     clear bo ho hzo lo Tg7 Tp2 Tq
     go_wp2_with fail
     generalize hwk:wj.alloc (.cells #[.int .u64 1] 38)=wk at*
     clear hwk
     refine Co.out.mono ?_
     rintro e wl ⟨Ao,co,Lo,rfl,o1,o2,o3,o4,o5,o6⟩
     have HL:=Lib.hid (HK.out.trans (o6.mono HK.out.size))
     have Tg9:=Lib.hid (Tg8.out.bel o6)
     have Tp4:=Lib.hid (Tp3.out.bel o6)
     have Tq3:=Lib.hid (Tq2.out.bel o6)
     have To:=Lib.hid o3
     have Po:=Lib.hid o4
     have Eo:Hid (mvT Lo=plT n 1):=by
      have pz:∀u∈List.replicate n (0:Int),0≤u:=fun u hu=>by rw [List.eq_of_mem_replicate hu];exact Int.le_refl _
      have hp1:PlainM n [(List.replicate n (0:Int),intZ false [1])]:=⟨fun t ht=>by rw [List.mem_singleton.1 ht];simp,List.pairwise_singleton _ _,fun t ht=>by
       have e:=List.mem_singleton.1 ht
       rw [e]
       show intZ false [1]≠0
       decide⟩
      have e1:mvT Lo=[(List.replicate n (0:Int),intZ false [1])]:=o4.mv.unique hp1 o5
      rw [e1]
      exact plT_unique hp1 (fun t ht u hu=>by
       rw [List.mem_singleton.1 ht] at hu
       exact pz u hu) (toT_unit n)
     clear o3 o4 o5 o6 Co Tg8 Tp3 Tq2
     have G3:=Lib.hid (mgcd_ok n x y z hn hs HZ.out Ap Aq Lp.length cp Lq.length cq Lp Lq wl Tp4.out Tq3.out (arg_plT hn hs Pp.out Ep.out Fp.out.dg (Nat.le_trans Fp.out.nm (Nat.pow_le_pow_right (by decide) (by have:=hb_le hs;have:=e6_eq;omega)))) (arg_plT hn hs Pq.out Eq.out Fq.out.dg (Nat.le_trans Fq.out.nm (Nat.pow_le_pow_right (by decide) (by have:=hb_le hs;have:=e6_eq;omega)))) p1 p2 q1 q2 (by rw [Ep.out,toT_plT];exact Fp.out) (by rw [Eq.out,toT_plT];exact Fq.out))
     rw [Ep.out,Eq.out,toT_plT,toT_plT] at G3
     go_wp2_with fail
     refine G3.out.mono ?_
     rintro e wm ⟨k,hk,pk,Ak,ck,Lk,rfl,s1,s2,s3,s4,s5,s6⟩
     have eLk:Lk=Lo:=by
      have e1:k=1:=by
       rcases Hg.out.left_one g0.out Hp.out Hq.out hk with e | e
       · exact e
       · exact (posP_one n).eq pk (.inr e)
      have e2:mvT Lk=mvT Lo:=by rw [Eo.out,← e1];exact s4.mv.unique (plT_plain n k) s5
      exact mvT_inj s4.co Po.out.co e2
     subst eLk
     have HM:=Lib.hid (HL.out.trans (s6.mono HL.out.size))
     have Tg10:=Lib.hid (Tg9.out.bel s6)
     have To2:=Lib.hid (To.out.bel s6)
     have Tk:=Lib.hid s3
     have hlk:Lk.length≤1:=by
      have e:=congrArg List.length Eo.out
      rw [mvT_length] at e
      have e1:plT n (1:Pn n)=[(List.replicate n (0:Int),1)]:=(plT_unique ⟨fun t ht=>by rw [List.mem_singleton.1 ht];simp,List.pairwise_singleton _ _,fun t ht=>by rw [List.mem_singleton.1 ht];exact Int.one_ne_zero⟩ (fun t ht u hu=>by
       rw [List.mem_singleton.1 ht] at hu
       rw [List.eq_of_mem_replicate hu]
       exact Int.le_refl _) (toT_unit n)).symm
      rw [e,e1]
      exact Nat.le_refl _
     have Sm:=Lib.hid (lsame18 Ak Ao Lk.length ck co Lk wm Tk.out To2.out (by omega))
     obtain ⟨b,o,hAg,hb,hc⟩:=Tg10.out.at_ (by omega)
     subst hAg
     obtain ⟨Ai,ci,Ei,ei,z1,_⟩:=hc 0 (by omega)
     have hneg:(Lh[0]'(by omega)).1.1=false:=head_neg Eg.out Sg.out _
     rw [hneg] at z1
     have z2:wm.cell? ⟨b,o,none⟩=some (.bool false):=z1
     have hl0:(0:Int)<(Lh.length:Int):=by omega
     clear hk pk s3 s4 s5 s6 G3 Tg9 To Tp4 Tq3 hc hneg z1
     go_wp2_with fail
     refine Sm.out.mono ?_
     rintro e wn ⟨rfl,hbn⟩
     have HN:=Lib.hid (HM.out.trans (hbn.mono HM.out.size))
     clear hbn Sm
     go_wp2_with fail
     go_ret
     exact ⟨rfl,HN.out⟩
end Go.Proofs.YtehcoffbiplphaaGreat
