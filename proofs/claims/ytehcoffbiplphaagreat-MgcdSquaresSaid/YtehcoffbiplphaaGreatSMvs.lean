/- Contracts: what a value and a derivative make of one term (mpoly.Eval$1, mpoly.Deriv$1).
   Contracts: mpoly.turned at a value and at a derivative.
   Contracts: mpoly.Eval, Deriv, Degree of polynomials that may be. -/
import Derived.Test.YtehcoffbiplphaaGreatSFstK
set_option linter.unusedVariables false
set_option linter.unusedSimpArgs false
set_option maxHeartbeats 8000000
set_option maxRecDepth 1000000
namespace Go.Proofs.YtehcoffbiplphaaGreat
open Go.RowKit Cl
attribute [local go_sem ↓] Go.wp_at_zero Go.wp_at_succ
def GivesZI (w:World) (z:Int) (i:Int) (K:Nat) (e:Ending) (w':World):Prop:=
 ∃s A k c ls,e=.returned (.tuple #[.agg #[.bool s,.slice A k c],.int .i64 i])∧k≤c∧c≤9223372036854775807∧k≤K∧Limbs w' A k ls∧intZ s ls=z∧Below w.heap.size w w'
theorem only_set2 (w:World) (g:Nat) (u v:Value):Only (fun x=>x=g) w ((w.setCell ⟨g,0,none⟩ u).setCell ⟨g,1,none⟩ v):=
 ((Only.refl (fun x=>x=g) w).setCell (p:=⟨g,0,none⟩) rfl _).setCell (p:=⟨g,1,none⟩) rfl _
theorem deriv1_y (s:Bool) (A:Option Addr) (k c:Nat) (ls:List Int) (y:Int) (h2:0≤y) (hy:y≤10000) (w:World) (hL:Limbs w A k ls) (hkc:k≤c) (hc:c≤9223372036854775807) (hk:k≤100000):
 Calls Tryz.prog 104 #[.agg #[.bool s,.slice A k c],.int .i64 y] w (GivesZI w (intZ s ls*y) (max (y - 1) 0) (k+2)):=by
 have HL:=hiD hL
 have Co:=hiD (fun W=>zof_posZ y W (by omega) (by omega))
 have hew:IntKind.i64.wrap (y - 1)=y - 1:=IntWalk.i64_in _ (by omega)
 clear hL
 go_enter Tryz.func104,Tryz.ntmps104
 go_wp2_with fail
 have b2:=below_two w (.cells #[.bool s,.slice A k c] 41) (.cells #[.bool false,.slice none 0 0] 41)
 have hs2:=size_two w (.cells #[.bool s,.slice A k c] 41) (.cells #[.bool false,.slice none 0 0] 41)
 have d0:Duo ((w.alloc (.cells #[.bool s,.slice A k c] 41)).alloc (.cells #[.bool false,.slice none 0 0] 41)) w.heap.size (.bool s) (.slice A k c):=(heap_alloc_old _ _ (by simp)).trans (heap_alloc_new _ _)
 have d1:=Duo.new (w.alloc (.cells #[.bool s,.slice A k c] 41)) (.bool false) (.slice none 0 0)
 rw [World.size_alloc] at d1
 generalize (w.alloc (.cells #[.bool s,.slice A k c] 41)).alloc (.cells #[.bool false,.slice none 0 0] 41)=wt at*
 have D0:=hiD d0
 have D1:=hiD d1
 have B2:=hiD b2
 have hl0:w.heap.size+1<wt.heap.size:=by omega
 have hne:w.heap.size+1≠w.heap.size:=by omega
 have hne':w.heap.size≠w.heap.size+1:=by omega
 have hw1:w.heap.size≤w.heap.size+1:=by omega
 clear d0 d1 b2 hs2
 generalize w.heap.size+1=gr at*
 have keep:Hid (∀W,Below wt.heap.size wt W→W.cell? ⟨w.heap.size,0,none⟩=some (.bool s)∧W.cell? ⟨w.heap.size,1,none⟩=some (.slice A k c)):=fun W hW=>⟨(D0.out.bel hW).cell0,(D0.out.bel hW).cell1⟩
 have keep3:Hid (∀W u v,Below wt.heap.size wt W→((W.setCell ⟨gr,0,none⟩ u).setCell ⟨gr,1,none⟩ v).cell? ⟨w.heap.size,0,none⟩=some (.bool s)∧((W.setCell ⟨gr,0,none⟩ u).setCell ⟨gr,1,none⟩ v).cell? ⟨w.heap.size,1,none⟩=some (.slice A k c)):=fun W u v hW=>by
  have o1:=only_set2 W gr u v;have hd:=(D0.out.bel hW).keep (o1.block _ (D0.out.bel hW).lt hne');exact ⟨hd.cell0,hd.cell1⟩
 have res:Hid (∀W,Below wt.heap.size wt W→W.cell? ⟨gr,0,none⟩=some (.bool false)∧W.cell? ⟨gr,1,none⟩=some (.slice none 0 0)∧W.frozen? ⟨gr,0,none⟩=false∧W.frozen? ⟨gr,1,none⟩=false):=fun W hW=>
  ⟨(D1.out.bel hW).cell0,(D1.out.bel hW).cell1,(D1.out.bel hW).frozen 0,(D1.out.bel hW).frozen 1⟩
 obtain ⟨v0,v1⟩:=keep.out wt bRr
 go_region_held3 (fun W=>W.cell? ⟨w.heap.size,0,none⟩=some (.bool s)∧W.cell? ⟨w.heap.size,1,none⟩=some (.slice A k c))
  (first | go_keep | exact keep.out _ bRr.drew | exact keep.out _ hba | exact keep.out _ hbm | exact keep3.out _ _ _ hbm)
  (first
    | (go_at_call 46;refine (Co.out _).mono ?_;rintro e wa ⟨so,Ao,ko,co,lo,rfl,o1,o2,o3,o4,o5,hba'⟩;have hba:Below wt.heap.size wt wa:=bRr.drew.trans hba')
    | (go_at_call 76;refine (zmul s so A Ao k ko c co ls lo _ (HL.out.bel (B2.out.tm hba)) o4 hkc hc o1 o2 (by omega) (by omega)).mono ?_;rintro e wm ⟨s1,A1,k1,c1,ls1,rfl,p1,p2,p3,p4,p5,hbm'⟩;have hbm:Below wt.heap.size wt wm:=hba.tm hbm';obtain ⟨r0,r1,q0,q1⟩:=res.out wm hbm))
 all_goals
  have hd1:=D1.out.bel hbm;have o6:=only_set2 wm gr (.bool s1) (.slice A1 k1 c1);have hbw:Below w.heap.size w wm:=B2.out.tm hbm;have n1:Hid (Below w.heap.size w ((wm.setCell ⟨gr,0,none⟩ (.bool s1)).setCell ⟨gr,1,none⟩ (.slice A1 k1 c1))):=below_only hbw o6 hbw.size (fun x hx=>by omega);have n2:=hiD (hd1.set (.bool s1) (.slice A1 k1 c1));have n3:=hiD (limbs_u64 p4 (U64.duo hd1 o6));have n4:Hid (intZ s1 ls1=intZ s ls*y):=by show _=_;rw [p5.eq,o5.eq]
  have n5:k1≤k+2:=by omega
  clear hd1 o6 hbw p4 p5 o4 o5 hba hbm hba' hbm';go_wp2_with fail
  (try simp only [Exit.inBlock,Exit.then])
  exact bodyPost_ret (results_cell_tmp (fn:=Tryz.f104) rfl _ _ _ _ _ _ _ rfl n2.out Tryz.underlying41 rfl aint_size) rfl ⟨s1,A1,k1,c1,ls1,rfl,p1,p2,n5,n3.out,n4.out,n1.out⟩
theorem deriv1 (s:Bool) (A:Option Addr) (k c:Nat) (ls:List Int) (ex:Nat) (w:World) (hL:Limbs w A k ls) (hkc:k≤c) (hc:c≤9223372036854775807) (hk:k≤100000) (he:ex≤10000):
 Calls Tryz.prog 104 #[.agg #[.bool s,.slice A k c],.int .i64 (ex:Int)] w (GivesZI w (intZ s ls*(ex:Int)) (((ex - 1:Nat):Int)) (k+2)):=by
 have:=deriv1_y s A k c ls (ex:Int) (by omega) (by omega) w hL hkc hc hk
 rw [show ((ex - 1:Nat):Int)=max ((ex:Int) - 1) 0 by omega]
 exact this
end Go.Proofs.YtehcoffbiplphaaGreat
namespace Cl
open Go Go.RowKit
theorem lift_map {n i:Nat}(_hn:n≤6) (hi:i<n) {L:Mv}(hL:LenM n L) {f g:Int→Int}:liftM n (mapM (fun p=>p.set i (f (nth p i))) (fun p=>g (nth p i)) L)=mapM (fun p=>p.set i (f (nth p i))) (fun p=>g (nth p i)) (liftM n L):=by
 unfold liftM mapM
 rw [List.map_map,List.map_map]
 refine List.map_congr_left fun t ht=> ?_
 have hl:=hL t ht
 have e1:nth (padP n t.1) i=nth t.1 i:=by unfold padP;rw [nth_append_lt (by omega)]
 have e2:(padP n t.1).set i (f (nth t.1 i))=padP n (t.1.set i (f (nth t.1 i))):=by unfold padP;rw [List.set_append_left _ _ (by omega)]
 show (padP n (t.1.set i (f (nth t.1 i))),t.2*g (nth t.1 i))=((padP n t.1).set i (f (nth (padP n t.1) i)),t.2*g (nth (padP n t.1) i))
 rw [e1,e2]
theorem good_set {n i:Nat} {p:Plc}(h:GoodP n p) {v:Int}(h0:0≤v) (h1:v≤4611686018427387904) (hi:i<n):GoodP n (p.set i v):=by
 refine ⟨by rw [List.length_set];exact h.len,fun x hx=> ?_,fun j hj=> ?_⟩
 · rcases List.mem_or_eq_of_mem_set hx with hx | rfl
   · exact h.bd x hx
   · exact ⟨h0,h1⟩
 · by_cases hl:i<p.length
   · rw [nth_set hl,if_neg (by omega)];exact h.zero j hj
   · rw [List.set_eq_of_length_le (by omega)];exact h.zero j hj
end Cl
namespace Go.Proofs.YtehcoffbiplphaaGreat
open Go.RowKit Cl
attribute [local go_sem ↓] Go.wp_at_zero Go.wp_at_succ
theorem turnedD (n Ca:Nat) (A:Option Addr) (ma ca:Nat) (L:List TV) (i:Nat) (w:World) (hx:Trs w A ma L) (hL:Arg n Ca L) (hn:n≤6) (hi:i<n) (hCa:Ca≤10000) (hbd:BdM 1000 (mapM (fun p=>p.set i (max (nth p i - 1) 0)) (fun p=>nth p i) (mvT L))):
 Calls Tryz.prog 103 #[.int .i64 (n:Int),.slice A ma ca,.int .i64 (i:Int),.func (.func 104) #[] #[]] w (GivesP w n (mapM (fun p=>p.set i (max (nth p i - 1) 0)) (fun p=>nth p i) (mvT L))):=by
 have hml:=hx.len
 have hma:ma≤4096:=by have:=hL.cnt;omega
 have Cc:=hiD (mcheck_ok (n:Int) A ma ca L w hx (arg_ok hL hn))
 have Cg1:=hiD (fun W (h:Below w.heap.size w W)=>mgathered n Ca A ma ca L W (hx.bel h) (by omega) hn (by omega) (arg_terms hL))
 have HL:=hiD hL
 have Hml:=hiD hml
 have Hbd:=hiD hbd
 have hmm:=@run_makeMap Tryz.prog
 have hi0:¬(i:Int)<0:=by omega
 have hi1:(i:Int)<(n:Int):=by omega
 have hi1':¬(n:Int)≤(i:Int):=by omega
 have hi2:(0:Int)≤(i:Int):=by omega
 have hi3:(i:Int)<6:=by omega
 clear hx hL hml hbd
 go_enter Tryz.func103,Tryz.ntmps103
 go_wp2_with fail
 refine Cc.out.mono ?_
 rintro e w1 ⟨rfl,hb1⟩
 clear Cc
 go_wp2_with fail
 have hs1:SumM (w1.alloc (.map #[] 0)) w1.heap.size 0 n 0 []:=⟨.map [],World.ownsMap_made _ _ _ _,SumD.start _ _ _⟩
 have hb2:Below w.heap.size w (w1.alloc (.map #[] 0)):=hb1.alloc hb1.size (.map #[] 0)
 have hb1w2:w1.heap.size<(w1.alloc (.map #[] 0)).heap.size:=by simp
 have hwb1:=hb1.size
 clear hb1
 generalize w1.alloc (.map #[] 0)=w2 at*
 generalize w1.heap.size=b1 at*
 have Hs1:=hiD hs1
 clear hs1
 refine (Cg1.out w2 hb2).mono ?_
 rintro e wo ⟨b2,rfl,hbb2,hs2,hb3'⟩
 have Hb3:Hid (Below w.heap.size w wo):=hb2.tm hb3'
 have Hs1o:=hiD (sumM_bel Hs1.out hb3')
 obtain ⟨D,hm,hd'⟩:=hs2
 obtain ⟨D1,hm1,_⟩:=Hs1o.out
 have Hd:=hiD hd'
 have Hm1:=hiD hm1
 have hb2lt:=hm.lt
 have hsz:=map_size hm
 have hb3s:=hb3'.size
 have hbne:b1<b2:=by omega
 clear Hs1 Cg1 hd' hm1 hb3' hb2 hmm
 go_wp2_with (at_range;go_must (refine wpList_range_own _ rfl _ 63 rfl 68 41 plc_law Tryz.underlying63 intEl b2 ma D rfl hm ?_);intro w0 hrg0 hg0 hs0)
 go_frame
 have hLen:=hiD HL.out.lenM
 go_loopw [30] (fun v wr=>∃(left:Lit→Bool) (cnt:Nat) (E:Mv),wr.ranges Tryz.prog 68 intEl b2 wo.heap.size ma D left cnt∧Hid (Seen D n (liftM n (mvT L)) left E)∧Hid (SumM wr b1 E.length n (Ca+ma+3002+E.length) (mapM (fun p=>p.set i (max (nth p i - 1) 0)) (fun p=>nth p i) E))∧Hid (Only (fun x=>x=b1) wo wr)∧wo.heap.size+1≤wr.heap.size∧E.length+cnt≤ma) (fun _ wr=>wr.rangeLeft b2 wo.heap.size)
 case atStart=>
  have hbel0:Below wo.heap.size wo w0:=bRr.grown hg0 lRr (by simp);refine ⟨_,_,[],hrg0,Seen.start _ _ _,?_,only_of_bel hbel0,by omega,by simpa using hsz⟩;exact sumM_mono (sumM_bel Hs1o.out hbel0) (by omega)
 case round=>
  obtain ⟨left,cnt,E,hrg,hS,hsum,ho,hlow,hlen⟩:=hrel;clear hrg0 hg0 hs0 hm;go_wp2_with (at_next;go_must (refine wpList_next_ranges _ rfl _ rfl 68 plc_law intEl plcV mkZ plcV_inv mkZ_inv b2 wo.heap.size ma D left cnt rfl hrg ?_ ?_))
  · intro hc0 hl0
    have hgood:∀t∈liftM n (mvT L),GoodP n t.1:=lift_good hn hLen.out (HL.out.bdM.mono (by omega));have hdone:=hS.out.done hl0 Hd.out hgood;have hML:LenM n (mapM (fun p=>p.set i (max (nth p i - 1) 0)) (fun p=>nth p i) (mvT L)):=mapM_len hLen.out (fun p hp=>by rw [List.length_set];exact hp);have heq:EqM 6 (mapM (fun p=>p.set i (max (nth p i - 1) 0)) (fun p=>nth p i) E) (liftM n (mapM (fun p=>p.set i (max (nth p i - 1) 0)) (fun p=>nth p i) (mvT L))):=by
     rw [lift_map hn hi hLen.out (f:=fun y=>max (y - 1) 0) (g:=fun y=>y)];exact mapM_eq _ _ hS.out.len6 (lift_len6 hn hLen.out) hdone
    have C:=hiD (manswer b1 E.length n (Ca+ma+3002+E.length) _ _ wr hsum.out hn (by omega) (by omega) hML Hbd.out (by unfold mapM;rw [List.length_map,mvT_length,Hml.out];exact hma) (lift_eq hn heq hML));have Hb4:Hid (Below w.heap.size w wr):=Hb3.out.trans (ho.out.below Hb3.out.size (fun x hx=>by omega));clear hrg hl0 hgood hdone hML heq hS hsum ho;(go_wp2_with fail);refine C.out.mono ?_;intro e w5 h5;obtain ⟨A3,c3,L3,rfl,g1,g2,g3,g4,g5,g6⟩:=h5.from_ Hb4.out;have F:=hiD (show GivesP w n (mapM (fun p=>p.set i (max (nth p i - 1) 0)) (fun p=>nth p i) (mvT L)) (.returned (.tuple #[.slice A3 L3.length c3,.int .i64 0])) w5 from ⟨A3,c3,L3,rfl,g1,g2,g3,g4,g5,g6⟩);clear h5 g3 g4 g5 g6;(go_wp2_with fail);go_ret2;exact F.out
  · intro p zc kl y1 y2 w10 cnt' hkey hlk hR hat hrg1 hlt hg1 hs1 hen
    have ho10:Only (fun x=>x=b1) wo w10:=only_iter ho.out hg1 lRr;obtain ⟨rfl,hgood,hin,hhas,h1,h2,h3,ls,hLm,hz⟩:=entry_in (sumD_map Hd.out Hm1.out ho10) hkey hR hat
    obtain ⟨cs,cA,ck,cc⟩:=zc;simp only at h1 h2 h3 hLm hz;have hm0:wr.rangeLeft b2 wo.heap.size=cnt:=hrg.left_eq;have hpb:∀x∈p,0≤x∧x≤1000:=by
     obtain ⟨t,ht,e⟩:=hin;rw [← e];exact lift_bd (by omega) HL.out.bdM t ht
    have Hgood:=hiD hgood;have HLm:=hiD hLm;have Hz:=hiD hz;have Hr1:=hiD hrg1;have HS2:=hiD (hS.out.step hgood hhas hlk);have Ho10:=hiD ho10;(have hb1r:b1<wr.heap.size:=by have:=hlow;omega);have hs10:=hg1.size;have hb10:Below w.heap.size w w10:=Hb3.out.trans (ho10.below Hb3.out.size (fun x hx=>by omega));have Hb10:=hiD hb10;have hsum10:Hid (SumM w10 b1 E.length n (Ca+ma+3002+E.length) (mapM (fun p=>p.set i (max (nth p i - 1) 0)) (fun p=>nth p i) E)):=by
     obtain ⟨D',m1,m2⟩:=hsum.out;exact ⟨D',m1.kept hg1 (fun e=>by injection e;omega),sumD_iter m2 hrg hg1⟩
    (have hpi:i<p.length:=by rw [hgood.len];omega);obtain ⟨ex,hex⟩:∃ex:Nat,nth p i=(ex:Int):=⟨(nth p i).toNat,by have:=hpb _ (nth_mem hpi);omega⟩;(have hexb:ex≤1000:=by have:=hpb _ (nth_mem hpi);omega);have Hex:=hiD hex;have hgood2:Hid (GoodP n (p.set i (((ex - 1:Nat):Int)))):=good_set hgood (by omega) (by omega) hi;obtain ⟨x0,x1,x2,x3,x4,x5,hpe⟩:∃x0 x1 x2 x3 x4 x5,p=[x0,x1,x2,x3,x4,x5]:=by
     match p,hgood.len with
     | [x0,x1,x2,x3,x4,x5],_=>exact ⟨_,_,_,_,_,_,rfl⟩
    (have hpv:plcV p=.agg #[.int .i64 x0,.int .i64 x1,.int .i64 x2,.int .i64 x3,.int .i64 x4,.int .i64 x5]:=by rw [hpe];rfl);have hzv:mkZ ⟨cs,cA,ck,cc⟩=.agg #[.bool cs,.slice cA ck cc]:=rfl;rw [hpv,hzv] at hen ⊢;have Hpe:=hiD hpe;clear hpv hzv hgood hin hhas hlk hLm hz hkey hR hat hrg1 hg1 hs1 hrg ho10 hS hsum ho hb10 hpb hpi;(go_wp2_with fail);have b2':=below_two w10 (.cells #[.int .i64 x0,.int .i64 x1,.int .i64 x2,.int .i64 x3,.int .i64 x4,.int .i64 x5] 68) (.cells #[.bool cs,.slice cA ck cc] 41);have hszt:=size_two w10 (.cells #[.int .i64 x0,.int .i64 x1,.int .i64 x2,.int .i64 x3,.int .i64 x4,.int .i64 x5] 68) (.cells #[.bool cs,.slice cA ck cc] 41);have hlowt:=lowR_new w10 x0 x1 x2 x3 x4 x5 cs cA ck cc ls HLm.out;generalize ((w10.alloc (.cells #[.int .i64 x0,.int .i64 x1,.int .i64 x2,.int .i64 x3,.int .i64 x4,.int .i64 x5] 68)).alloc (.cells #[.bool cs,.slice cA ck cc] 41))=wt at*
    (have hg10:w10.heap.size+1<wt.heap.size:=by omega);have Hlow:=hiD hlowt;have Hb2:=hiD b2';clear b2' hszt hlowt;have hci:wt.cell? ⟨w10.heap.size,i,none⟩=some (.int .i64 (ex:Int)):=by
     have h:=Hlow.out.row.cell (i:=i) (by show i<6;omega);rw [← hpe,hex] at h;exact h
    clear hpe hex;have hc0:=Hlow.out.duo.cell0;have hc1:=Hlow.out.duo.cell1;(have hb1t:b1<w10.heap.size:=by omega);go_region_with (go_at_call 104;refine (deriv1 cs cA ck cc ls ex _ (Hlow.out.lim.bel bRr.drew) h1 h2 (by omega) (by omega)).mono ?_;rintro e wv ⟨s1,A1,k1,c1,ls1,rfl,g1,g2,g3,g4,g5,hbv'⟩;have hbv:Below wt.heap.size wt wv:=bRr.drew.trans hbv';have hlv:=Hlow.out.bel hbv;have q0:=hlv.duo.cell0;have q1:=hlv.duo.cell1;have qi:=(hbv.cell (p:=⟨w10.heap.size,i,none⟩) (by show w10.heap.size<_;omega)).trans hci;have f0:=hlv.duo.frozen 0;have f1:=hlv.duo.frozen 1;have fi:=Row.frozen hlv.row i;have Hlv:=hiD hlv;have Hbv:=hiD hbv;have G4:=hiD g4;have G5:=hiD g5;have hsv:=hbv.size;clear hlv hbv hbv' g4 g5)
    all_goals
     have o1:=only_set2 wv (w10.heap.size+1) (.bool s1) (.slice A1 k1 c1);have u1:=U64.duo Hlv.out.duo o1;have r1:=Hlv.out.row.only o1 (by omega);have d1:=Hlv.out.duo.set (.bool s1) (.slice A1 k1 c1);have m1:=limbs_u64 G4.out u1;have s1':=sumM_keep (sumM_bel (sumM_bel hsum10.out Hb2.out) Hbv.out) u1 o1 (by have:=Hb2.out.size;omega);have hbw:Below w.heap.size w wv:=(Hb10.out.tm Hb2.out).trans (Hbv.out.mono (by have:=Hb10.out.size;have:=Hb2.out.size;omega));have bb1:=below_only hbw o1 hbw.size (fun x hx=>by have:=Hb10.out.size;omega);have ho1:Only (fun x=>x=b1) wo wv:=(Ho10.out.trans (only_of_bel Hb2.out)).trans (only_of_bel Hbv.out);have ho2:=only_new2 ho1 o1 (fun x hx h=>by omega);have hrg2:Hid ((wv.setCell ⟨w10.heap.size+1,0,none⟩ (.bool s1)).setCell ⟨w10.heap.size+1,1,none⟩ (.slice A1 k1 c1) |>.ranges Tryz.prog 68 intEl b2 wo.heap.size ma D (fun z=>left z && !z.sameKey (plcLit p)) cnt'):=
      ((Hr1.out.kept (grown_of_below Hb2.out) (by simp) (by simp)).kept (grown_of_below Hbv.out) (by simp) (by simp)).kept (grown_of_only o1) (fun e=>by injection e;omega) (fun e=>by injection e;omega)
     have hsq:=o1.size;generalize (wv.setCell ⟨w10.heap.size+1,0,none⟩ (.bool s1)).setCell ⟨w10.heap.size+1,1,none⟩ (.slice A1 k1 c1)=wq at*
     have o2:Only (fun x=>x=w10.heap.size) wq (wq.setCell ⟨w10.heap.size,i,none⟩ (.int .i64 (((ex - 1:Nat):Int)))):=(Only.refl (fun x=>x=w10.heap.size) wq).setCell (p:=⟨w10.heap.size,i,none⟩) rfl _;have u2:=U64.row r1 o2;have r2:=r1.set i (((ex - 1:Nat):Int));have d2:=d1.keep (o2.block _ d1.lt (by omega));have m2:=limbs_u64 m1 u2;have s2':=sumM_keep s1' u2 o2 (by omega);have bb2:=below_only bb1 o2 bb1.size (fun x hx=>by have:=Hb10.out.size;omega);have ho3:=only_new2 ho2 o2 (fun x hx h=>by omega);have Hrg3:Hid ((wq.setCell ⟨w10.heap.size,i,none⟩ (.int .i64 (((ex - 1:Nat):Int)))).ranges Tryz.prog 68 intEl b2 wo.heap.size ma D (fun z=>left z && !z.sameKey (plcLit p)) cnt'):=hrg2.out.kept (grown_of_only o2) (fun e=>by injection e;omega) (fun e=>by injection e;omega);have hsr:=o2.size;generalize wq.setCell ⟨w10.heap.size,i,none⟩ (.int .i64 (((ex - 1:Nat):Int)))=wz at*
     rw [← Hpe.out] at r2;have hgz:=hgood2.out;obtain ⟨z0,z1,z2,z3,z4,z5,hze⟩:∃z0 z1 z2 z3 z4 z5,p.set i (((ex - 1:Nat):Int))=[z0,z1,z2,z3,z4,z5]:=by
      match p.set i (((ex - 1:Nat):Int)),hgz.len with
      | [z0,z1,z2,z3,z4,z5],_=>exact ⟨_,_,_,_,_,_,rfl⟩
     rw [hze] at r2 hgz;have Hze:=hiD hze;have Hgz:=hiD hgz;have t0:wz.cell? ⟨w10.heap.size,0,none⟩=some (.int .i64 z0):=r2.cell (i:=0) (by show 0<6;omega);have t1:wz.cell? ⟨w10.heap.size,1,none⟩=some (.int .i64 z1):=r2.cell (i:=1) (by show 1<6;omega);have t2:wz.cell? ⟨w10.heap.size,2,none⟩=some (.int .i64 z2):=r2.cell (i:=2) (by show 2<6;omega);have t3:wz.cell? ⟨w10.heap.size,3,none⟩=some (.int .i64 z3):=r2.cell (i:=3) (by show 3<6;omega);have t4:wz.cell? ⟨w10.heap.size,4,none⟩=some (.int .i64 z4):=r2.cell (i:=4) (by show 4<6;omega);have t5:wz.cell? ⟨w10.heap.size,5,none⟩=some (.int .i64 z5):=r2.cell (i:=5) (by show 5<6;omega);have t6:=d2.cell0;have t7:=d2.cell1;have M2:=hiD m2;have S2:=hiD s2';have BB:=hiD bb2;have HO:=hiD ho3;clear o1 u1 r1 d1 m1 s1' hbw bb1 ho1 ho2 hrg2 o2 u2 r2 d2 m2 s2' bb2 ho3 hze hgz hci hc0 hc1 q0 q1 qi f0 f1 fi hen hsum10;(go_wp2_with fail);refine (madd b1 E.length n (Ca+ma+3002+E.length) (Ca+ma+3002) _ [z0,z1,z2,z3,z4,z5] s1 A1 k1 c1 ls1 wz S2.out Hgz.out (by unfold maxLen;omega) M2.out g1 g2 (by omega) (by omega) (by omega)).mono ?_;rintro e w3 ⟨rfl,hs3,ho3⟩;(have hl2:(E++[(p,coM (liftM n (mvT L)) p)]).length=E.length+1:=by simp);have Hs3:Hid (SumM w3 b1 (E.length+1) n (Ca+ma+3002+(E.length+1)) (mapM (fun p=>p.set i (max (nth p i - 1) 0)) (fun p=>nth p i) (E++[(p,coM (liftM n (mvT L)) p)]))):=by
      (have q1:max (Ca+ma+3002+E.length) (Ca+ma+3002)+1=Ca+ma+3002+(E.length+1):=by omega);rw [q1] at hs3;have q2:mapM (fun p=>p.set i (max (nth p i - 1) 0)) (fun p=>nth p i) (E++[(p,coM (liftM n (mvT L)) p)])=mapM (fun p=>p.set i (max (nth p i - 1) 0)) (fun p=>nth p i) E++[([z0,z1,z2,z3,z4,z5],intZ s1 ls1)]:=by
       rw [mapM_append,G5.out,Hz.out,← Hze.out];show _++[(p.set i (max (nth p i - 1) 0),coM (liftM n (mvT L)) p*nth p i)]=_;rw [Hex.out];rw [show max ((ex:Int) - 1) 0=(((ex - 1:Nat)):Int) by omega]
      show SumM _ _ _ _ _ _;rw [q2];exact hs3
     have Ho3:Hid (Only (fun x=>x=b1) wo w3):=HO.out.trans ho3;have Hr3:Hid (w3.ranges Tryz.prog 68 intEl b2 wo.heap.size ma D (fun z=>left z && !z.sameKey (plcLit p)) cnt'):=Hrg3.out.kept (grown_of_only ho3) (fun e=>by injection e;omega) (fun e=>by injection e;omega);(have hlow3:wo.heap.size+1≤w3.heap.size:=by have:=ho3.size;have:=Hb2.out.size;omega);clear hs3 ho3;(go_wp2_with fail);go_roundw
     case rel=>
      refine ⟨_,cnt',E++[(p,coM (liftM n (mvT L)) p)],Hr3.out,HS2,?_,Ho3,hlow3,by rw [hl2];omega⟩;rw [hl2];exact Hs3
     case measure=>rw [Hr3.out.left_eq,hm0];omega
end Go.Proofs.YtehcoffbiplphaaGreat
namespace Go.Proofs.YtehcoffbiplphaaGreat
open Go.RowKit Cl
attribute [local go_sem ↓] Go.wp_at_zero Go.wp_at_succ
theorem pDeriv (n Ca:Nat) (A:Option Addr) (ma ca:Nat) (L:List TV) (i:Nat) (w:World) (hx:Trs w A ma L) (hL:Arg n Ca L) (hn:n≤6) (hi:i<n) (hCa:Ca≤10000) (hbd:BdM 1000 (mapM (fun p=>p.set i (max (nth p i - 1) 0)) (fun p=>nth p i) (mvT L))):
 Calls Tryz.prog 70 #[.int .i64 (n:Int),.slice A ma ca,.int .i64 (i:Int)] w (GivesP w n (mapM (fun p=>p.set i (max (nth p i - 1) 0)) (fun p=>nth p i) (mvT L))):=by
 have C:=hiD (turnedD n Ca A ma ca L i w hx hL hn hi hCa hbd)
 clear hx hL hbd
 go_enter Tryz.func70,Tryz.ntmps70
 go_wp2_with fail
 refine C.out.mono ?_
 rintro e w5 ⟨A3,c3,L3,rfl,g1,g2,g3,g4,g5,g6⟩
 have F:=hiD (show GivesP w n (mapM (fun p=>p.set i (max (nth p i - 1) 0)) (fun p=>nth p i) (mvT L)) (.returned (.tuple #[.slice A3 L3.length c3,.int .i64 0])) w5 from ⟨A3,c3,L3,rfl,g1,g2,g3,g4,g5,g6⟩)
 clear g3 g4 g5 g6
 go_wp2_with fail
 go_ret2
 exact F.out
end Go.Proofs.YtehcoffbiplphaaGreat
