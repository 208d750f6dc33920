/- Contract: mpoly.Div where the divisor divides. -/
import Derived.Test.YtehcoffbiplphaaGreatSFstK
set_option linter.unusedVariables false
set_option linter.unusedSimpArgs false
set_option maxHeartbeats 16000000
set_option maxRecDepth 1000000
namespace Go.Proofs.YtehcoffbiplphaaGreat
open Go.RowKit Cl
attribute [local go_sem ↓] Go.wp_at_zero Go.wp_at_succ
def ExactC (cl:Int) (Kc:Nat):Prop:=∀(W:World) (s:Bool) (A:Option Addr) (k c:Nat) (ls:List Int) (s2:Bool) (A2:Option Addr) (k2 c2:Nat) (ls2:List Int) (z:Int),Limbs W A k ls→Limbs W A2 k2 ls2→k≤c→c≤9223372036854775807→k2≤c2→c2≤9223372036854775807→k≤100000→k2≤Kc→intZ s ls=z*cl→intZ s2 ls2=cl→z≠0→
 Calls Tryz.prog 42 #[.agg #[.bool s,.slice A k c],.agg #[.bool s2,.slice A2 k2 c2]] W fun e w'=>∃s1 A1 k1 c1 ls1,e=.returned (.tuple #[.agg #[.bool s1,.slice A1 k1 c1],.int .i64 0])∧k1≤k∧k1≤c1∧c1≤9223372036854775807∧Limbs w' A1 k1 ls1∧ZVal s1 ls1 z∧Below W.heap.size W w'
theorem mdivE (n Ca Cb:Nat) (A B:Option Addr) (ma ca mb cb:Nat) (L T:List TV) (Q P':Mv) (pl:Plc) (cl:Int) (w:World) (hx:Trs w A ma L) (hy:Trs w B mb T) (hL:Arg n Ca L) (hT:Arg n Cb T) (hn:n≤6) (hCb:Cb≤10000)
 (hP:PlainM n ((pl,cl)::P')) (hPT:EqM n ((pl,cl)::P') (mvT T)) (hQ:PlainM n Q) (hQL:EqM n (mulM Q (mvT T)) (mvT L)) (hQb:BdM 1000 Q) (hsize:Ca+ma+Q.length*(Cb+1+mb)≤90000) (hmb:mb≤1000) (hQl:Q.length≤4096) (hX:ExactC cl (Cb+mb)):
 Calls Tryz.prog 21 #[.int .i64 (n:Int),.slice A ma ca,.slice B mb cb] w (GivesP w n Q):=by
 have hml:=hx.len
 have hmt:=hy.len
 have hma:ma≤4096:=by have:=hL.cnt;omega
 have Call2:=hiD (fun g cc W (hg:g<W.heap.size) (q1:W.cell? ⟨g,0,none⟩=some (.slice A ma ca)) (q2:W.cell? ⟨g,1,none⟩=some (.slice B mb cb)) (hW:Below w.heap.size w W)=>mall2 (n:Int) g cc A B ma mb ca cb L T W hg q1 q2 (hx.bel hW) (hy.bel hW) (arg_ok hL hn) (arg_ok hT hn))
 have Cg1:=hiD (fun W (h:Below w.heap.size w W)=>mgathered n Ca A ma ca L W (hx.bel h) (by omega) hn (by omega) (arg_terms hL))
 have Cg2:=hiD (fun W (h:Below w.heap.size w W)=>mgathered n Cb B mb cb T W (hy.bel h) (by omega) hn (by omega) (arg_terms hT))
 have hLT:=hT.lenM
 have hplen:pl.length=n:=hP.len (pl,cl) List.mem_cons_self
 have hplb:∀x∈pl,0≤x∧x≤1000:=hP.bd hPT hT.bdM (pl,cl) List.mem_cons_self
 have HL:=hiD hL
 have HT:=hiD hT
 have HP:=hiD hP
 have HPT:=hiD hPT
 have HQ:=hiD hQ
 have HQL:=hiD hQL
 have HQb:=hiD hQb
 have HX:=hiD hX
 have Hy:=hiD hy
 have HLT:=hiD hLT
 have Hpl:=hiD hplen
 have Hplb:=hiD hplb
 have Hmt:=hiD hmt
 have hmm:=@run_makeMap Tryz.prog
 clear hx hy hL hT hP hPT hQ hQL hQb hX hLT hplen hplb hml hmt
 go_enter Tryz.func21,Tryz.ntmps21
 go_wp2_with fail
 refine (Call2.out w.heap.size 2 _ (by simp) (by simp) (by simp) (bRr.alloc lRr _)).mono ?_
 rintro e w1 ⟨rfl,hb1'⟩
 have hb1:Below w.heap.size w w1:=((Below.refl _ w).alloc lRr _).trans (hb1'.mono (by simp))
 clear hb1' Call2
 go_wp2_with fail
 refine (Cg2.out w1 hb1).mono ?_
 rintro e w2 ⟨b0,rfl,hbb0,hs0,hb2'⟩
 have Cf0:=hiD (mfirst b0 mb n (Cb+mb) _ w2 hs0 (by omega))
 have hb2:Below w.heap.size w w2:=hb1.tm hb2'
 have hbw1:=hb1.size
 clear hs0 hb1 hb2' Cg2
 go_wp2_with fail
 refine Cf0.out.mono ?_
 rintro e w3 ⟨f0,p0,s2,A2,k2,c2,ls2,rfl,_,ho3,h21,h22,h23,hL2,hz2,_,hsome,hnone⟩
 have hne0:f0=true:=by
  cases f0 with
  | true=>rfl
  | false=>
    exfalso;(have hgood:GoodP n (padP n pl):=padP_good hn Hpl.out fun x hx=>by have:=Hplb.out x hx;omega);have h1:=hnone rfl _ hgood;rw [coM_lift HLT.out Hpl.out,← HPT.out _ Hpl.out,HP.out.co_head] at h1;exact HP.out.ne (pl,cl) List.mem_cons_self h1
 subst hne0
 obtain ⟨hgp,h0p,_,hgr⟩:=hsome rfl
 obtain ⟨e1,e2⟩:=lead1 hn HP.out HLT.out HPT.out (EqM.refl 6 _) hgp h0p hgr Hplb.out
 rw [e2] at hz2
 have hb3:Below w.heap.size w w3:=hb2.trans (ho3.below hb2.size (fun x hx=>by omega))
 obtain ⟨y0,y1,y2,y3,y4,y5,hpe⟩:∃y0 y1 y2 y3 y4 y5,p0=[y0,y1,y2,y3,y4,y5]:=by
  match p0,hgp.len with
  | [y0,y1,y2,y3,y4,y5],_=>exact ⟨_,_,_,_,_,_,rfl⟩
 have hpv:plcV p0=.agg #[.int .i64 y0,.int .i64 y1,.int .i64 y2,.int .i64 y3,.int .i64 y4,.int .i64 y5]:=by rw [hpe];rfl
 rw [hpv]
 have Hlow:Hid ([y0,y1,y2,y3,y4,y5]=padP n pl):=hpe.symm.trans e1
 have HL2:=hiD hL2
 have Hz2:Hid (intZ s2 ls2=cl):=hz2
 clear hnone hsome hgp h0p hgr e1 e2 hL2 hz2 hpv hpe ho3 Cf0 hb2
 go_wp2_with fail
 have hlow:=lowR_new w3 y0 y1 y2 y3 y4 y5 s2 A2 k2 c2 ls2 HL2.out
 have hb4:Below w.heap.size w ((w3.alloc (.cells #[.int .i64 y0,.int .i64 y1,.int .i64 y2,.int .i64 y3,.int .i64 y4,.int .i64 y5] 68)).alloc (.cells #[.bool s2,.slice A2 k2 c2] 41)):=hb3.trans ((below_two _ _ _).mono hb3.size)
 have hs4:=size_two w3 (.cells #[.int .i64 y0,.int .i64 y1,.int .i64 y2,.int .i64 y3,.int .i64 y4,.int .i64 y5] 68) (.cells #[.bool s2,.slice A2 k2 c2] 41)
 have hb3s:=hb3.size
 clear hb3
 generalize ((w3.alloc (.cells #[.int .i64 y0,.int .i64 y1,.int .i64 y2,.int .i64 y3,.int .i64 y4,.int .i64 y5] 68)).alloc (.cells #[.bool s2,.slice A2 k2 c2] 41))=w4 at*
 have Hs4:=hiD hs4
 have hgl4:w3.heap.size+1<w4.heap.size:=by omega
 clear hs4
 generalize w3.heap.size=gl at*
 have Hlow4:=hiD hlow
 clear hlow
 refine (Cg1.out w4 hb4).mono ?_
 rintro e w5 ⟨br,rfl,hbbr,hsr,hb5'⟩
 have hb5:Below w.heap.size w (w5.alloc (.map #[] 0)):=(hb4.tm hb5').alloc (by have:=hb4.size;have:=hb5'.size;omega) _
 have hb45:Below w4.heap.size w4 (w5.alloc (.map #[] 0)):=hb5'.alloc hb5'.size _
 have hlow5:=Hlow4.out.bel hb45
 have hsr5:=sumM_bel hsr ((Below.refl _ w5).alloc lRr (.map #[] 0))
 have hsq5:SumM (w5.alloc (.map #[] 0)) w5.heap.size 0 n 0 []:=⟨.map [],World.ownsMap_made _ _ _ _,SumD.start _ _ _⟩
 have hbr5:br<w5.heap.size:=by obtain ⟨_,m1,_⟩:=hsr;exact m1.lt
 have hsz5:(w5.alloc (.map #[] 0)).heap.size=w5.heap.size+1:=by simp
 clear hsr hb5' hb45 hb4 Hlow4 Cg1
 have Hlow5:=hiD hlow5
 have Hsr5:=hiD hsr5
 have Hsq5:=hiD hsq5
 have Hb5:=hiD hb5
 clear hlow5 hsr5 hsq5 hb5
 go_wp2_with fail
 generalize w5.alloc (.map #[] 0)=wm at*
 have hbq5:w5.heap.size<wm.heap.size:=by omega
 clear hsz5 hmm
 generalize w5.heap.size=bq at*
 refine (mfirst br ma n (Ca+ma) _ wm Hsr5.out (by omega)).mono ?_
 rintro e w6 ⟨f,P,s,A1,k,c,ls,rfl,hr6,ho6,g1,g2,g3,g4,g5,g6,g7,g8⟩
 have hu6:=U64.sum Hsr5.out ho6
 have hlow6:=Hlow5.out.keep hu6 ho6 (by omega) (by omega)
 have hq6:=sumM_keep Hsq5.out hu6 ho6 (by omega)
 have hb6:Below w.heap.size w w6:=below_only Hb5.out ho6 Hb5.out.size (fun x hx=>by omega)
 have hs6:=ho6.size
 obtain ⟨x0,x1,x2,x3,x4,x5,hpe⟩:∃x0 x1 x2 x3 x4 x5,P=[x0,x1,x2,x3,x4,x5]:=by
  match P,g6 with
  | [x0,x1,x2,x3,x4,x5],_=>exact ⟨_,_,_,_,_,_,rfl⟩
 have hpv:plcV P=.agg #[.int .i64 x0,.int .i64 x1,.int .i64 x2,.int .i64 x3,.int .i64 x4,.int .i64 x5]:=by rw [hpe];rfl
 rw [hpv]
 have hD7:Hid (DivR w ((w6.alloc (.cells #[.int .i64 x0,.int .i64 x1,.int .i64 x2,.int .i64 x3,.int .i64 x4,.int .i64 x5] 68)).alloc (.cells #[.bool s,.slice A1 k c] 41)) n (Ca+ma) br bq w6.heap.size ma 0 (liftM n (mvT L)) [] P s A1 k c ls f):=by
  have hb2:=below_two w6 (.cells #[.int .i64 x0,.int .i64 x1,.int .i64 x2,.int .i64 x3,.int .i64 x4,.int .i64 x5] 68) (.cells #[.bool s,.slice A1 k c] 41);exact ⟨hb6.tm hb2,sumM_bel hr6 hb2,sumM_mono (sumM_bel hq6 hb2) (by omega),by rw [hpe];exact lowR_new w6 x0 x1 x2 x3 x4 x5 s A1 k c ls g4,g1,g2,g3,g5,g6,g7,g8⟩
 have hlow7:Hid (LowR ((w6.alloc (.cells #[.int .i64 x0,.int .i64 x1,.int .i64 x2,.int .i64 x3,.int .i64 x4,.int .i64 x5] 68)).alloc (.cells #[.bool s,.slice A1 k c] 41)) gl [y0,y1,y2,y3,y4,y5] s2 A2 k2 c2 ls2):=hlow6.bel (below_two _ _ _)
 have hs7:=size_two w6 (.cells #[.int .i64 x0,.int .i64 x1,.int .i64 x2,.int .i64 x3,.int .i64 x4,.int .i64 x5] 68) (.cells #[.bool s,.slice A1 k c] 41)
 have hbqga:bq<w6.heap.size:=by omega
 clear hu6 hlow6 hq6 hb6 hr6 ho6 g4 g5 g6 g7 g8 hpe hpv Hlow5 Hsr5 Hsq5 Hb5
 go_wp2_with fail
 generalize ((w6.alloc (.cells #[.int .i64 x0,.int .i64 x1,.int .i64 x2,.int .i64 x3,.int .i64 x4,.int .i64 x5] 68)).alloc (.cells #[.bool s,.slice A1 k c] 41))=w7 at*
 have hlr0:Hid (EqM 6 (liftM n (mvT L)) (liftM n (mulM (Q.drop 0) (mvT T)))):=fun p hp=>by
  rw [List.drop_zero];by_cases hg:∃q,q.length=n∧padP n q=p
  · obtain ⟨q,hq,rfl⟩:=hg
    rw [coM_lift HL.out.lenM hq,coM_lift (HQ.out.len.mul HLT.out) hq,HQL.out q hq]
  · rw [coM_none fun t ht e=> ?_,coM_none fun t ht e=> ?_]
    · obtain ⟨u,hu,rfl⟩:=List.mem_map.1 ht
      exact hg ⟨u.1,(HQ.out.len.mul HLT.out) u hu,e⟩
    · obtain ⟨u,hu,rfl⟩:=List.mem_map.1 ht
      exact hg ⟨u.1,HL.out.lenM u hu,e⟩
 have hlq0:Hid (EqM 6 [] (liftM n (Q.take 0))):=by show EqM _ _ _;rw [List.take_zero];exact EqM.refl 6 _
 have hga7:w6.heap.size+1<w7.heap.size:=by omega
 clear hs7
 generalize w6.heap.size=ga0 at*
 go_loopg [14,15,16] (Q.length+1) (fun gk v14 v15 v16 wr=>∃(j ga:Nat) (Lr Lq:Mv) (P:Plc) (s:Bool) (A:Option Addr) (k c:Nat) (ls:List Int) (f:Bool),j≤Q.length∧Q.length - j<gk∧v14=.pointer (some ⟨ga,0,none⟩)∧v15=.pointer (some ⟨ga+1,0,none⟩)∧v16=.bool f∧
  Hid (DivR w wr n (Ca+ma+j*(Cb+1+mb)) br bq ga (ma+j*mb) j Lr Lq P s A k c ls f)∧Hid (LowR wr gl [y0,y1,y2,y3,y4,y5] s2 A2 k2 c2 ls2)∧Hid (EqM 6 Lr (liftM n (mulM (Q.drop j) (mvT T))))∧Hid (EqM 6 Lq (liftM n (Q.take j)))∧bq<ga∧ga+1<wr.heap.size)
 case atStart=>
  refine ⟨0,ga0,liftM n (mvT L),[],P,s,A1,k,c,ls,f,by omega,by omega,rfl,rfl,rfl,?_,hlow7,hlr0,hlq0,hbqga,hga7⟩;rw [Nat.zero_mul,Nat.zero_mul];exact hD7
 case round=>
  clear hD7 hlow7 hlr0 hlq0 hbqga hga7;obtain ⟨j,ga,Lr,Lq,P,s,A1,k,c,ls,f,hj,hgk,rfl,rfl,rfl,hD,hLow,hLr,hLq,hbqga,hgas⟩:=hrel;obtain ⟨wo,rfl⟩:∃wo:World,wo=wr:=⟨_,rfl⟩;by_cases hjl:j<Q.length
  · obtain ⟨t,htQ,hdr,htk,hgP,hneP,ht2,hlead⟩:=div_lead hn HQ.out hjl HQb.out HP.out HLT.out HPT.out Hplb.out hLr.out
    have hf:f=true:=by
     cases f with
     | true=>rfl
     | false=>exact absurd (hD.out.none_ rfl _ hgP) hneP
    subst hf;obtain ⟨hg,h0,_,hgr⟩:=hD.out.some_ rfl;obtain ⟨eP,eV⟩:=hlead P hg h0 hgr;have htl:=HQ.out.len t htQ;have htb:=HQb.out t htQ;have hjm:j*(Cb+1+mb)+(Cb+1+mb)≤Q.length*(Cb+1+mb):=by
     have h1:(j+1)*(Cb+1+mb)≤Q.length*(Cb+1+mb):=Nat.mul_le_mul_right _ hjl;rwa [Nat.add_mul,Nat.one_mul] at h1
    have hkB:=hD.out.kb;have CX:=hiD (HX.out wo s A1 k c ls s2 A2 k2 c2 ls2 t.2 hD.out.box.lim hLow.out.lim hD.out.kc hD.out.cm h21 h22 (by omega) h23 (by rw [hD.out.val,eV]) Hz2.out ht2);(have hadd:Hid (P=addP (padP n t.1) [y0,y1,y2,y3,y4,y5]):=by show _=_;rw [Hlow.out,eP,padP_add htl Hpl.out]);have Htl:=hiD htl;have Htb:=hiD htb;have Hdr:=hiD hdr;have Htk:=hiD htk;have Ht2:=hiD ht2;have v0:=hD.out.box.duo.cell0;have v1:=hD.out.box.duo.cell1;have u0:=hLow.out.duo.cell0;have u1:=hLow.out.duo.cell1;clear hlead hg h0 hgr eP eV htl htb hdr htk hgP hneP ht2 htQ;(go_wp2_with fail);refine CX.out.mono ?_;rintro e wa ⟨sd,Ad,kd,cd,ld,rfl,d1,d2,d3,d4,d5,hba⟩;have hbb:Below wo.heap.size wo (wa.alloc (.cells #[.bool sd,.slice Ad kd cd] 41)):=hba.alloc hba.size _;have hdd:=Duo.new wa (.bool sd) (.slice Ad kd cd);have hsa:=hba.size;(have hszb:(wa.alloc (.cells #[.bool sd,.slice Ad kd cd] 41)).heap.size=wa.heap.size+1:=by simp);have hdl:=d4.alloc (.cells #[.bool sd,.slice Ad kd cd] 41);clear hba CX v0 v1 u0 u1 d4;(go_wp2_with fail);generalize wa.alloc (.cells #[.bool sd,.slice Ad kd cd] 41)=wb at*
    (have hgd:wa.heap.size<wb.heap.size:=by omega);clear hszb;generalize wa.heap.size=gd at*
    have Hdd:=hiD hdd;have Hdl:=hiD hdl;have Hd5:=hiD d5;have Hbb:=hiD hbb;(have hRow0:Hid (Row wb ga 68 (midS P [y0,y1,y2,y3,y4,y5] 0)):=by show Row _ _ _ _;rw [midS_zero hD.out.plen];exact (hbb.block _ (by omega)).trans hD.out.box.row);have hRowL:Hid (Row wb gl 68 [y0,y1,y2,y3,y4,y5]):=(hbb.block _ (by omega)).trans hLow.out.row;have hP6:=hiD hD.out.plen;clear hdd hdl d5 hbb;have hpt:Hid (∀i,i<6→0≤nth (padP n t.1) i∧nth (padP n t.1) i≤1000):=fun i hi=>by
     (have h1:BdM 1000 [t]:=fun u hu=>by rw [List.mem_singleton.1 hu];exact Htb.out);exact lift_bd (n:=n) (by omega) h1 (padP n t.1,t.2) (List.mem_singleton.2 rfl) _ (nth_mem (by rw [padP_length hn Htl.out];exact hi))
    have hpl2:Hid (∀i,i<6→0≤nth [y0,y1,y2,y3,y4,y5] i∧nth [y0,y1,y2,y3,y4,y5] i≤1000):=fun i hi=>by
     (have h1:BdM 1000 [(pl,(0:Int))]:=fun u hu=>by rw [List.mem_singleton.1 hu];exact Hplb.out);rw [Hlow.out];exact lift_bd (n:=n) (by omega) h1 (padP n pl,0) (List.mem_singleton.2 rfl) _ (nth_mem (by rw [padP_length hn Hpl.out];exact hi))
    have HRowb:=hRow0;have hon0:Hid (Only (fun x=>x=ga) wb wb):=Only.refl _ _;go_loopw [18,59] (fun v18 v59 wi=>∃i:Nat,i≤6∧v18=.int .i64 0∧v59=.int .i64 i∧Hid (Row wi ga 68 (midS P [y0,y1,y2,y3,y4,y5] i))∧Hid (Only (fun x=>x=ga) wb wi)) (fun _ v59 _=>6 - (intOf v59).toNat)
    case atStart=>exact ⟨0,by omega,rfl,rfl,hRow0,hon0⟩
    case round=>
     clear hRow0 hon0;obtain ⟨i,hi,rfl,rfl,hrowi,honi⟩:=hrel;obtain ⟨wi,rfl⟩:∃wi:World,wi=wr:=⟨_,rfl⟩;by_cases hi6:i<6
     · have hcp:=hrowi.out.cell (i:=i) (by rw [midS_length];omega)
       rw [nth_midS hi6,if_neg (by omega)] at hcp;have hcl:=(honi.out.cell (p:=⟨gl,i,none⟩) (by show gl<_;omega) (by show¬gl=ga;omega)).trans (hRowL.out.cell (i:=i) (by show i<6;omega));have hfp:=hrowi.out.frozen i;have hpi:Hid (nth P i=nth (padP n t.1) i+nth [y0,y1,y2,y3,y4,y5] i):=by
        have h1:=nth_addP (a:=padP n t.1) (b:=[y0,y1,y2,y3,y4,y5]) (i:=i) (padP_length hn Htl.out) rfl hi6;rw [← hadd.out] at h1;exact h1
       have hset:Hid (Row (wi.setCell ⟨ga,i,none⟩ (.int .i64 (nth P i - nth [y0,y1,y2,y3,y4,y5] i))) ga 68 (midS P [y0,y1,y2,y3,y4,y5] (i+1))):=by
        have:=hrowi.out.set i (nth P i - nth [y0,y1,y2,y3,y4,y5] i);rw [midS_step hi6] at this;exact this
       have hon2:=hiD (honi.out.setCell (p:=⟨ga,i,none⟩) rfl (.int .i64 (nth P i - nth [y0,y1,y2,y3,y4,y5] i)));obtain ⟨q1,q2⟩:=hpt.out i hi6;obtain ⟨q3,q4⟩:=hpl2.out i hi6;have hpi':=hpi.out;(have q5:0≤nth P i - nth [y0,y1,y2,y3,y4,y5] i:=by omega);(have q6:nth P i - nth [y0,y1,y2,y3,y4,y5] i≤1000:=by omega);(have hi':(i:Int)<6:=by omega);(have hi0:(0:Int)≤(i:Int):=by omega);clear hpi' hrowi honi;generalize nth P i=u at*
       generalize nth [y0,y1,y2,y3,y4,y5] i=l at*
       have ew:IntKind.i64.wrap (u - l)=u - l:=IntWalk.i64_in _ (by omega);(have q7:¬u - l<0:=by omega);clear q1 q2 q3 q4 q6 hpi;(go_wp2_with fail);go_region
       (go_wp2_with fail);go_roundw
       case rel=>exact ⟨i+1,by omega,rfl,by go_num,hset,hon2.out.drew⟩
       case measure=>simp [intOf];omega
     · obtain rfl:i=6:=by omega
       (have hi6':¬((6:Nat):Int)<6:=by omega);clear hpt hpl2;have hrow6:Row wi ga 68 (padP n t.1):=by
        have h1:=hrowi.out;rw [hadd.out,midS_add (padP_length hn Htl.out) rfl] at h1;exact h1
       obtain ⟨z0,z1,z2,z3,z4,z5,hze⟩:∃z0 z1 z2 z3 z4 z5,padP n t.1=[z0,z1,z2,z3,z4,z5]:=by
        match padP n t.1,padP_length hn Htl.out with
        | [z0,z1,z2,z3,z4,z5],_=>exact ⟨_,_,_,_,_,_,rfl⟩
       have hgpt:Hid (GoodP n [z0,z1,z2,z3,z4,z5]):=by
        show GoodP _ _;rw [← hze];exact padP_good hn Htl.out (fun x hx=>by have:=Htb.out x hx;omega)
       have hzb:Hid (∀x∈ [z0,z1,z2,z3,z4,z5],0≤x∧x≤1000000000000):=fun x hx=>by
        rw [← hze] at hx;(have h1:BdM 1000 [t]:=fun u hu=>by rw [List.mem_singleton.1 hu];exact Htb.out);have:=lift_bd (n:=n) (by omega) h1 (padP n t.1,t.2) (List.mem_singleton.2 rfl) x hx;omega
       have Hze:=hiD hze;rw [hze] at hrow6;have hu:U64 wo wi:=(U64.bel Hbb.out).trans (U64.row HRowb.out honi.out);have ho:Only (fun x=>x=ga) wo wi:=only_new2 (only_of_bel Hbb.out (S:=fun x=>x=ga)) honi.out (fun x _ h=>h);have hr1:=sumM_keep hD.out.r hu ho (by omega);have hq1:=sumM_keep hD.out.q hu ho (by omega);have hlow1:=hLow.out.keep hu ho (by omega) (by omega);have hduo1:=hD.out.box.duo.keep (ho.block _ hD.out.box.duo.lt (by omega));have hdd1:=Hdd.out.keep (honi.out.block gd hgd (by omega));have hdl1:=limbs_u64 Hdl.out (U64.row HRowb.out honi.out);have hbel1:Below w.heap.size w wi:=below_only hD.out.bel ho hD.out.bel.size (fun x hx=>by omega);have hwi:wb.heap.size≤wi.heap.size:=honi.out.size;have hkc:=hD.out.kc;have hcm:=hD.out.cm;have v0:=hrow6.cell (i:=0) (by show 0<6;omega);have v1:=hrow6.cell (i:=1) (by show 1<6;omega);have v2:=hrow6.cell (i:=2) (by show 2<6;omega);have v3:=hrow6.cell (i:=3) (by show 3<6;omega);have v4:=hrow6.cell (i:=4) (by show 4<6;omega);have v5:=hrow6.cell (i:=5) (by show 5<6;omega);change _=some (Value.int .i64 z0) at v0
       change _=some (Value.int .i64 z1) at v1
       change _=some (Value.int .i64 z2) at v2
       change _=some (Value.int .i64 z3) at v3
       change _=some (Value.int .i64 z4) at v4
       change _=some (Value.int .i64 z5) at v5
       have e0:=hdd1.cell0;have e1:=hdd1.cell1;have Hrow1:=hiD hrow6;have Hr1:=hiD hr1;have Hq1:=hiD hq1;have Hlow1:=hiD hlow1;have Hduo1:=hiD hduo1;have Hdd1:=hiD hdd1;have Hdl1:=hiD hdl1;have Hbel1:=hiD hbel1;clear hrow6 hr1 hq1 hlow1 hduo1 hdd1 hdl1 hbel1 hu ho hze hrowi honi hLow hD hRowL Hdd Hdl Hbb HRowb;(go_wp2_with fail);refine (madd bq j n (100000+j) 100000 Lq [z0,z1,z2,z3,z4,z5] sd Ad kd cd ld wi Hq1.out hgpt.out (by unfold maxLen;omega) Hdl1.out d2 d3 (by omega) (by omega) (by omega)).mono ?_;rintro e w2 ⟨rfl,hq2,ho2⟩;have hu2:=U64.sum Hq1.out ho2;have hbq2:Hid (SumM w2 bq (j+1) n (100000+(j+1)) (Lq++[(padP n t.1,t.2)])):=by
        (have q1:max (100000+j) 100000+1=100000+(j+1):=by omega);rw [q1,Hd5.out.eq,← Hze.out] at hq2;exact hq2
       have Hr2:=hiD (sumM_keep Hr1.out hu2 ho2 (by omega));have Hlow2:=hiD (Hlow1.out.keep hu2 ho2 (by omega) (by omega));have Hduo2:=hiD (Hduo1.out.keep (ho2.block _ Hduo1.out.lt (by omega)));have Hdd2:=hiD (Hdd1.out.keep (ho2.block _ Hdd1.out.lt (by omega)));have Hrow2:=hiD (Hrow1.out.only ho2 (by omega));have Hdl2:=hiD (limbs_u64 Hdl1.out hu2);have Hbel2:Hid (Below w.heap.size w w2):=below_only Hbel1.out ho2 Hbel1.out.size (fun x hx=>by omega);have hw2:=ho2.size;clear hu2 hq2 ho2 Hr1 Hq1 Hlow1 Hduo1 Hdd1 Hrow1 Hdl1 Hbel1 v0 v1 v2 v3 v4 v5 e0 e1;have keepX:Hid (∀W,Only (fun x=>x=br) w2 W→W.cell? ⟨ga,0,none⟩=some (.int .i64 z0)∧W.cell? ⟨ga,1,none⟩=some (.int .i64 z1)∧W.cell? ⟨ga,2,none⟩=some (.int .i64 z2)∧W.cell? ⟨ga,3,none⟩=some (.int .i64 z3)∧W.cell? ⟨ga,4,none⟩=some (.int .i64 z4)∧W.cell? ⟨ga,5,none⟩=some (.int .i64 z5)∧W.cell? ⟨gd,0,none⟩=some (.bool sd)∧W.cell? ⟨gd,1,none⟩=some (.slice Ad kd cd)∧W.cell? ⟨ga+1,0,none⟩=some (.bool s)∧W.cell? ⟨ga+1,1,none⟩=some (.slice A1 k c)):=fun W hW=>by
        have r1:=Hrow2.out.only hW (by omega);have r2:=Hdd2.out.keep (hW.block _ Hdd2.out.lt (by omega));have r3:=Hduo2.out.keep (hW.block _ Hduo2.out.lt (by omega));exact ⟨r1.cell (i:=0) (by show 0<6;omega),r1.cell (i:=1) (by show 1<6;omega),r1.cell (i:=2) (by show 2<6;omega),r1.cell (i:=3) (by show 3<6;omega),r1.cell (i:=4) (by show 4<6;omega),r1.cell (i:=5) (by show 5<6;omega),r2.cell0,r2.cell1,r3.cell0,r3.cell1⟩
       obtain ⟨v0,v1,v2,v3,v4,v5,e0,e1,e2,e3⟩:=keepX.out w2 (Only.refl _ _);have Ct:Hid (∀W (sn:Bool) (An:Option Addr) (kn cn:Nat) (ln:List Int),Below w2.heap.size w2 W→Limbs W An kn ln→kn≤cn→cn≤9223372036854775807→kn≤kd→Calls Tryz.prog 44 #[.map (some br),.agg #[.int .i64 z0,.int .i64 z1,.int .i64 z2,.int .i64 z3,.int .i64 z4,.int .i64 z5],.agg #[.bool sn,.slice An kn cn],.slice B mb cb] W fun e w'=>e=.returned (.tuple #[])∧SumM w' br (ma+j*mb+mb) n (max (Ca+ma+j*(Cb+1+mb)) (Ca+ma+j*(Cb+1+mb)+Cb+1)+mb) (Lr++timesT n [z0,z1,z2,z3,z4,z5] (intZ sn ln) (mvT T))∧Only (fun x=>x=br) W w'):=fun W sn An kn cn ln hW hLn h1 h2 h3=>by
        have hjmb:j*mb≤j*(Cb+1+mb):=Nat.mul_le_mul_left _ (by omega);exact mtimes br (ma+j*mb) n (Ca+ma+j*(Cb+1+mb)) (Ca+ma+j*(Cb+1+mb)) Cb Lr [z0,z1,z2,z3,z4,z5] sn An kn cn ln B mb cb T W (sumM_bel Hr2.out hW) rfl hzb.out hgpt.out.zero (arg_terms HT.out) (fun u hu x hx=>by have:=HT.out.bd u hu x hx;omega) (by unfold maxLen;omega) hLn h1 h2 (by omega) (by omega) (by omega) (by omega) (Hy.out.bel (Hbel2.out.tm hW)) (by omega) hn
       (go_wp2_with fail);go_region_held3 (fun W=>W.cell? ⟨ga,0,none⟩=some (.int .i64 z0)∧W.cell? ⟨ga,1,none⟩=some (.int .i64 z1)∧W.cell? ⟨ga,2,none⟩=some (.int .i64 z2)∧W.cell? ⟨ga,3,none⟩=some (.int .i64 z3)∧W.cell? ⟨ga,4,none⟩=some (.int .i64 z4)∧W.cell? ⟨ga,5,none⟩=some (.int .i64 z5)∧W.cell? ⟨gd,0,none⟩=some (.bool sd)∧W.cell? ⟨gd,1,none⟩=some (.slice Ad kd cd)∧W.cell? ⟨ga+1,0,none⟩=some (.bool s)∧W.cell? ⟨ga+1,1,none⟩=some (.slice A1 k c))
        (first | go_keep | exact keepX.out _ (Only.refl _ _).drew | exact keepX.out _ (only_of_bel hbn) | exact keepX.out _ ((only_of_bel hbn).trans ho3))
        (first
          | (go_at_call 45;refine (zneg sd Ad kd cd ld _ (Hdl2.out.bel (by first | exact bRr.drew | exact bRr)) d2 d3 (by omega)).mono ?_;rintro e wn ⟨sn,An,kn,cn,ln,rfl,n1,n2,n3,n4,n5,hbn'⟩;have hbn:Below w2.heap.size w2 wn:=bRr.drew.trans hbn')
          | (go_at_call 44;refine (Ct.out wn sn An kn cn ln hbn n4 n1 n2 n3).mono ?_;rintro e w3 ⟨rfl,hr3,ho3⟩))
       (have hjn:(j+1)*(Cb+1+mb)=j*(Cb+1+mb)+(Cb+1+mb):=by rw [Nat.add_mul,Nat.one_mul]);(have hjm2:ma+(j+1)*mb=ma+j*mb+mb:=by rw [Nat.add_mul,Nat.one_mul];omega);have hr3':SumM w3 br (ma+(j+1)*mb) n (Ca+ma+(j+1)*(Cb+1+mb)) (Lr++timesT n (padP n t.1) (-t.2) (mvT T)):=by
        (have q1:max (Ca+ma+j*(Cb+1+mb)) (Ca+ma+j*(Cb+1+mb)+Cb+1)+mb=Ca+ma+(j+1)*(Cb+1+mb):=by rw [hjn];omega);rw [q1,n5.eq,Hd5.out.eq] at hr3;rw [hjm2,Hze.out];exact hr3
       have hu3:U64 w2 w3:=(U64.bel hbn).trans (U64.sum (sumM_bel Hr2.out hbn) ho3);have ho23:Only (fun x=>x=br) w2 w3:=(only_of_bel hbn).trans ho3;have hq3:=sumM_keep hbq2.out hu3 ho23 (by omega);have hlow3:=Hlow2.out.keep hu3 ho23 (by omega) (by omega);have hbel3:Below w.heap.size w w3:=below_only Hbel2.out ho23 Hbel2.out.size (fun x hx=>by omega);have hw3:=ho23.size;have hLr3:Hid (EqM 6 (Lr++timesT n (padP n t.1) (-t.2) (mvT T)) (liftM n (mulM (Q.drop (j+1)) (mvT T)))):=by
        have h1:=hLr.out;rw [Hdr.out] at h1;exact rest_step Htl.out HLT.out h1
       have hLq3:Hid (EqM 6 (Lq++[(padP n t.1,t.2)]) (liftM n (Q.take (j+1)))):=by
        show EqM _ _ _;rw [Htk.out];exact quo_step hLq.out
       have HR3:=hiD hr3';have HQ3:=hiD hq3;have HLow3:=hiD hlow3;have HB3:=hiD hbel3;clear hr3 hr3' hu3 hq3 hlow3 hbel3 ho23 ho3 hbn hbn' n4 n5 v0 v1 v2 v3 v4 v5 e0 e1 e2 e3 Ct hbq2 Hr2 Hlow2 Hbel2 Hdl2 hLr hLq hjn;(obtain ⟨v0,v1,v2,v3,v4,v5,_,_,e2,e3⟩:w3.cell? ⟨ga,0,none⟩=some (.int .i64 z0)∧w3.cell? ⟨ga,1,none⟩=some (.int .i64 z1)∧w3.cell? ⟨ga,2,none⟩=some (.int .i64 z2)∧w3.cell? ⟨ga,3,none⟩=some (.int .i64 z3)∧w3.cell? ⟨ga,4,none⟩=some (.int .i64 z4)∧w3.cell? ⟨ga,5,none⟩=some (.int .i64 z5)∧w3.cell? ⟨gd,0,none⟩=some (.bool sd)∧w3.cell? ⟨gd,1,none⟩=some (.slice Ad kd cd)∧w3.cell? ⟨ga+1,0,none⟩=some (.bool s)∧w3.cell? ⟨ga+1,1,none⟩=some (.slice A1 k c):=by assumption);(go_wp2_with fail);have hb8:Below w3.heap.size w3 ((w3.alloc (.cells #[.int .i64 z0,.int .i64 z1,.int .i64 z2,.int .i64 z3,.int .i64 z4,.int .i64 z5] 68)).alloc (.cells #[.bool s,.slice A1 k c] 41)):=below_two _ _ _;have hs8:=size_two w3 (.cells #[.int .i64 z0,.int .i64 z1,.int .i64 z2,.int .i64 z3,.int .i64 z4,.int .i64 z5] 68) (.cells #[.bool s,.slice A1 k c] 41);have hrow8:Row ((w3.alloc (.cells #[.int .i64 z0,.int .i64 z1,.int .i64 z2,.int .i64 z3,.int .i64 z4,.int .i64 z5] 68)).alloc (.cells #[.bool s,.slice A1 k c] 41)) w3.heap.size 68 [z0,z1,z2,z3,z4,z5]:=(heap_alloc_old _ _ (by simp)).trans (heap_alloc_new _ _);have hduo8:=Duo.new (w3.alloc (.cells #[.int .i64 z0,.int .i64 z1,.int .i64 z2,.int .i64 z3,.int .i64 z4,.int .i64 z5] 68)) (.bool s) (.slice A1 k c);rw [World.size_alloc] at hduo8;have HR8:=hiD (sumM_bel HR3.out hb8);have HQ8:=hiD (sumM_bel HQ3.out hb8);have HLow8:=hiD (HLow3.out.bel hb8);have HB8:Hid (Below w.heap.size w ((w3.alloc (.cells #[.int .i64 z0,.int .i64 z1,.int .i64 z2,.int .i64 z3,.int .i64 z4,.int .i64 z5] 68)).alloc (.cells #[.bool s,.slice A1 k c] 41))):=HB3.out.tm hb8;generalize ((w3.alloc (.cells #[.int .i64 z0,.int .i64 z1,.int .i64 z2,.int .i64 z3,.int .i64 z4,.int .i64 z5] 68)).alloc (.cells #[.bool s,.slice A1 k c] 41))=w8 at*
       have Hrow8:=hiD hrow8;have Hduo8:=hiD hduo8;(have hg8:w3.heap.size+1<w8.heap.size:=by omega);(have hbg:bq<w3.heap.size:=by omega);clear hrow8 hduo8 hb8 hs8 HR3 HQ3 HLow3 HB3 v0 v1 v2 v3 v4 v5 e2 e3;generalize w3.heap.size=gn at*
       refine (mfirst br (ma+(j+1)*mb) n (Ca+ma+(j+1)*(Cb+1+mb)) _ w8 HR8.out (by rw [Nat.add_mul,Nat.one_mul];omega)).mono ?_;rintro e w9 ⟨f9,P9,s9,A9,k9,c9,ls9,rfl,hr9,ho9,g1,g2,g3,g4,g5,g6,g7,g8⟩;have hu9:=U64.sum HR8.out ho9;have hq9:=sumM_keep HQ8.out hu9 ho9 (by omega);have hlow9:=HLow8.out.keep hu9 ho9 (by omega) (by omega);have hrow9:=Hrow8.out.only ho9 (by omega);have hduo9:=Hduo8.out.keep (ho9.block _ Hduo8.out.lt (by omega));have hbel9:Below w.heap.size w w9:=below_only HB8.out ho9 HB8.out.size (fun x hx=>by omega);have hs9:=ho9.size;obtain ⟨x0,x1,x2,x3,x4,x5,hpe⟩:∃x0 x1 x2 x3 x4 x5,P9=[x0,x1,x2,x3,x4,x5]:=by
        match P9,g6 with
        | [x0,x1,x2,x3,x4,x5],_=>exact ⟨_,_,_,_,_,_,rfl⟩
       (have hpv:plcV P9=.agg #[.int .i64 x0,.int .i64 x1,.int .i64 x2,.int .i64 x3,.int .i64 x4,.int .i64 x5]:=by rw [hpe];rfl);rw [hpv];have v0:=hrow9.cell (i:=0) (by show 0<6;omega);have v1:=hrow9.cell (i:=1) (by show 1<6;omega);have v2:=hrow9.cell (i:=2) (by show 2<6;omega);have v3:=hrow9.cell (i:=3) (by show 3<6;omega);have v4:=hrow9.cell (i:=4) (by show 4<6;omega);have v5:=hrow9.cell (i:=5) (by show 5<6;omega);have e0:=hduo9.cell0;have e1:=hduo9.cell1;have f0:=Row.frozen hrow9 0;have f1:=Row.frozen hrow9 1;have f2:=Row.frozen hrow9 2;have f3:=Row.frozen hrow9 3;have f4:=Row.frozen hrow9 4;have f5:=Row.frozen hrow9 5;have f6:=hduo9.frozen 0;have f7:=hduo9.frozen 1;have Fin:Hid (DivR w ((((((((w9.setCell ⟨gn,0,none⟩ (.int .i64 x0)).setCell ⟨gn,1,none⟩ (.int .i64 x1)).setCell ⟨gn,2,none⟩ (.int .i64 x2)).setCell ⟨gn,3,none⟩ (.int .i64 x3)).setCell ⟨gn,4,none⟩ (.int .i64 x4)).setCell ⟨gn,5,none⟩ (.int .i64 x5)).setCell ⟨gn+1,0,none⟩ (.bool s9)).setCell ⟨gn+1,1,none⟩ (.slice A9 k9 c9)) n (Ca+ma+(j+1)*(Cb+1+mb)) br bq gn (ma+(j+1)*mb) (j+1) (Lr++timesT n (padP n t.1) (-t.2) (mvT T)) (Lq++[(padP n t.1,t.2)]) P9 s9 A9 k9 c9 ls9 f9∧LowR ((((((((w9.setCell ⟨gn,0,none⟩ (.int .i64 x0)).setCell ⟨gn,1,none⟩ (.int .i64 x1)).setCell ⟨gn,2,none⟩ (.int .i64 x2)).setCell ⟨gn,3,none⟩ (.int .i64 x3)).setCell ⟨gn,4,none⟩ (.int .i64 x4)).setCell ⟨gn,5,none⟩ (.int .i64 x5)).setCell ⟨gn+1,0,none⟩ (.bool s9)).setCell ⟨gn+1,1,none⟩ (.slice A9 k9 c9)) gl [y0,y1,y2,y3,y4,y5] s2 A2 k2 c2 ls2∧gn+1<((((((((w9.setCell ⟨gn,0,none⟩ (.int .i64 x0)).setCell ⟨gn,1,none⟩ (.int .i64 x1)).setCell ⟨gn,2,none⟩ (.int .i64 x2)).setCell ⟨gn,3,none⟩ (.int .i64 x3)).setCell ⟨gn,4,none⟩ (.int .i64 x4)).setCell ⟨gn,5,none⟩ (.int .i64 x5)).setCell ⟨gn+1,0,none⟩ (.bool s9)).setCell ⟨gn+1,1,none⟩ (.slice A9 k9 c9)).heap.size):=by
        have o1:=only_set6 w9 gn x0 x1 x2 x3 x4 x5;have r1:=hrow9.set6 rfl x0 x1 x2 x3 x4 x5;have u1:=U64.row hrow9 o1;have d1:=hduo9.keep (o1.block _ hduo9.lt (by omega));have s1:=sumM_keep hr9 u1 o1 (by omega);have s2':=sumM_keep hq9 u1 o1 (by omega);have l1:=hlow9.keep u1 o1 (by omega) (by omega);have b1:Below w.heap.size w ((((((w9.setCell ⟨gn,0,none⟩ (.int .i64 x0)).setCell ⟨gn,1,none⟩ (.int .i64 x1)).setCell ⟨gn,2,none⟩ (.int .i64 x2)).setCell ⟨gn,3,none⟩ (.int .i64 x3)).setCell ⟨gn,4,none⟩ (.int .i64 x4)).setCell ⟨gn,5,none⟩ (.int .i64 x5)):=below_only hbel9 o1 hbel9.size (fun x hx=>by omega);have m1:=limbs_u64 g4 u1;have z1:=o1.size;generalize ((((((w9.setCell ⟨gn,0,none⟩ (.int .i64 x0)).setCell ⟨gn,1,none⟩ (.int .i64 x1)).setCell ⟨gn,2,none⟩ (.int .i64 x2)).setCell ⟨gn,3,none⟩ (.int .i64 x3)).setCell ⟨gn,4,none⟩ (.int .i64 x4)).setCell ⟨gn,5,none⟩ (.int .i64 x5))=wq at*
        have o2:Only (fun x=>x=gn+1) wq ((wq.setCell ⟨gn+1,0,none⟩ (.bool s9)).setCell ⟨gn+1,1,none⟩ (.slice A9 k9 c9)):=
         ((Only.refl (fun x=>x=gn+1) wq).setCell (p:=⟨gn+1,0,none⟩) rfl _).setCell (p:=⟨gn+1,1,none⟩) rfl _
        have u2:=U64.duo d1 o2;have d2:=d1.set (.bool s9) (.slice A9 k9 c9);refine ⟨⟨below_only b1 o2 b1.size (fun x hx=>by omega),sumM_keep s1 u2 o2 (by omega),sumM_keep s2' u2 o2 (by omega),⟨?_,d2,limbs_u64 m1 u2⟩,g1,g2,g3,g5,g6,g7,g8⟩,l1.keep u2 o2 (by omega) (by omega),by have:=o2.size;omega⟩;rw [hpe];exact r1.only o2 (by omega)
       clear hu9 hq9 hlow9 hrow9 hduo9 hbel9 hr9 ho9 g4 g5 g6 g7 g8 hpe hpv HR8 HQ8 HLow8 HB8 Hrow8 Hduo8;(go_wp2_with fail);go_roundg (gk - 1)
       case measure=>omega
       case rel=>
        obtain ⟨F1,F2,F3⟩:=Fin.out;exact ⟨j+1,gn,_,_,P9,s9,A9,k9,c9,ls9,f9,hjl,by omega,rfl,rfl,rfl,F1,F2,hLr3,hLq3,hbg,F3⟩
  · obtain rfl:j=Q.length:=by omega
    have hz:∀q,q.length=6→coM Lr q=0:=fun q hq=>by
     rw [hLr.out q hq,List.drop_eq_nil_of_le lRr];rfl
    have hf:f=false:=by
     cases f with
     | false=>rfl
     | true=>
       obtain ⟨h1,h2,_⟩:=hD.out.some_ rfl;exact absurd (hz _ h1.len) h2
    subst hf;have heq:=hLq.out;rw [List.take_length] at heq;have C:=hiD (manswer bq Q.length n (100000+Q.length) Lq Q wo hD.out.q hn (by omega) (by omega) HQ.out.len HQb.out hQl (lift_eq hn heq HQ.out.len));have Hbl:=hiD hD.out.bel;clear hz heq hD hLow hLr hLq;(go_wp2_with fail);refine C.out.mono ?_;intro e wz hz;obtain ⟨A3,c3,L3,rfl,q1,q2,q3,q4,q5,q6⟩:=hz.from_ Hbl.out;have F:=hiD (show GivesP w n Q (.returned (.tuple #[.slice A3 L3.length c3,.int .i64 0])) wz from ⟨A3,c3,L3,rfl,q1,q2,q3,q4,q5,q6⟩);clear hz q3 q4 q5 q6;(go_wp2_with fail);go_ret2;exact F.out
end Go.Proofs.YtehcoffbiplphaaGreat
