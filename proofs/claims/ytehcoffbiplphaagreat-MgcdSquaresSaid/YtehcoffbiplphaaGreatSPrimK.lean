/- Contracts of sum.terms, answer and Norm that tell where the terms lie, and that they may be written (printed by gen/termso.py).
   Contract: mpoly.Prim of a polynomial that may be.
   Contract: mpoly.Const. -/
import Derived.Test.YtehcoffbiplphaaGreatSLaws
import Derived.Test.YtehcoffbiplphaaGreatSDvf
set_option linter.unusedVariables false
set_option linter.unusedSimpArgs false
set_option maxHeartbeats 8000000
set_option maxRecDepth 100000
namespace Go.Proofs.YtehcoffbiplphaaGreat
open Go.RowKit Cl
attribute [local go_sem ↓] Go.wp_at_zero Go.wp_at_succ
theorem coef_len {n Ca:Nat} {w:World} {A:Option Addr} {m:Nat} {L T:List TV}(hx:Trs w A m L) (hL:Arg n Ca L) (hp:PlainT n T) (e:EqM n (mvT T) (mvT L)):∀t∈T,t.1.2.length≤Ca+1:=fun t ht=>by
 have h1:absM (mvT L)≤L.length*2^(64*Ca):=by
  have h4:=absM_le (L:=mvT L) (B:=2^(64*Ca)) fun t ht=>by
   obtain ⟨u,hu,rfl⟩:=List.mem_map.1 ht;exact Nat.le_of_lt (intZ_abs u.1.1 (trs_limbs hx u hu) (C:=Ca) (hL.co u hu))
  rwa [mvT_length] at h4
 have h2:absM (mvT L)<2^(64*(Ca+1)):=by
  have h3:L.length*2^(64*Ca)≤2^12*2^(64*Ca):=Nat.mul_le_mul_right _ hL.cnt;rw [← Nat.pow_add] at h3;have h4:2^(12+64*Ca)<2^(64*(Ca+1)):=Nat.pow_lt_pow_right (by omega) (by omega);omega
 exact zval_short (hp.co t ht) (Nat.lt_of_le_of_lt (hp.mv.small e (t:=valT t) (List.mem_map.2 ⟨t,ht,rfl⟩)) h2)
theorem results_cell_tmp2 {P:Program} {fn:Func} {p u v:Tmp} {ty:TypeId}(h:fn.results=#[.cell p ty,.tmp u,.tmp v]) (tmps:Array Value) (w:World) (g:Nat) (t:TypeId) (cs:Array Value) (fr:Nat×Nat) (d:TypeDesc)
 (hp:tmps.getD p undef=.pointer (some ⟨g,0,none⟩)) (hg:w.heap[g]? =some (.cells cs t fr))
 (hu:P.underlying ty=some d) (hd:(match d with | .struct _ | .array _ _=>true | _=>false)=true) (hi:(P.info? ty).map (·.size)=some cs.size):
 (results fn tmps).run P w=.ok (.tuple #[.agg cs,tmps.getD u undef,tmps.getD v undef]) w:=by
 have hp':tmps[p]?.getD undef=.pointer (some ⟨g,0,none⟩):=by simpa using hp
 simp [results,h,hp',asAddr,run_loadVar_row w g t ty cs fr d hg hu hd hi]
theorem limbs_onlyB {w w':World} {S:Nat→Prop} {A:Option Addr} {n:Nat} {xs:List Int}(h:Limbs w A n xs) (ho:Only S w w') (hA:0<n→∀y,A=some y→¬S y.block):Limbs w' A n xs:=
 ⟨h.len,fun hn=>by
   obtain ⟨b,o,e,hb,hc⟩:=h.at_ hn;refine ⟨b,o,e,Nat.lt_of_lt_of_le hb ho.size,fun i hi=> ?_⟩;rw [ho.cell (p:=⟨b,o+i,none⟩) hb (hA hn ⟨b,o,none⟩ e)];exact hc i hi,h.ok⟩
def putE (x:EntT) (s:Bool) (A:Option Addr) (c:Nat) (ls:List Int):EntT:=(((A,c),x.1.2),((s,ls),x.2.2))
theorem TrsO.put {w:World} {base g:Nat} {E:List EntT}(h:TrsO w base g E) {k:Nat}(hk:k<E.length) {s:Bool} {A:Option Addr} {c:Nat} {ls:List Int}(hl:Limbs w A ls.length ls) (h1:ls.length≤c) (h2:c≤9223372036854775807) (hf:0<ls.length→∀y,A=some y→y.block≠g):
 TrsO ((w.setCell ⟨g,3*k,none⟩ (.bool s)).setCell ⟨g,3*k+1,none⟩ (.slice A ls.length c)) base g (E.set k (putE (E[k]) s A c ls)):=by
 have ho:Only (fun j=>j=g) w ((w.setCell ⟨g,3*k,none⟩ (.bool s)).setCell ⟨g,3*k+1,none⟩ (.slice A ls.length c)):=(Only.setCell (S:=fun j=>j=g) (Only.refl _ _) (p:=⟨g,3*k,none⟩) rfl _).setCell (p:=⟨g,3*k+1,none⟩) rfl _
 have hx:=h.ok _ (List.getElem_mem hk)
 have hfx:=h.far _ (List.getElem_mem hk)
 have hne:∀{a b:Nat},a≠b→(⟨g,b,none⟩:Addr)≠⟨g,a,none⟩:=fun hab e=>by injection e with _ e2;exact hab e2.symm
 have far0:∀{o:Nat} {u v v':Value},o≠3*k→o≠3*k+1→w.cell? ⟨g,o,none⟩=some u→((w.setCell ⟨g,3*k,none⟩ v).setCell ⟨g,3*k+1,none⟩ v').cell? ⟨g,o,none⟩=some u:=fun h1 h2 h3=>by
  rw [World.cell?_setCell_other _ _ _ _ (hne h2),World.cell?_setCell_other _ _ _ _ (hne h1)];exact h3
 obtain ⟨c0,c1,c2,f0,f1,f2⟩:=h.cells k hk
 refine ⟨fun i hi=> ?_,fun x hx'=> ?_,fun x hx'=> ?_,h.lo,Nat.lt_of_lt_of_le h.lt ho.size⟩
 · rw [List.length_set] at hi
   obtain ⟨b0,b1,b2,e0,e1,e2⟩:=h.cells i hi;have fz:∀o,w.frozen? ⟨g,o,none⟩=false→((w.setCell ⟨g,3*k,none⟩ (.bool s)).setCell ⟨g,3*k+1,none⟩ (.slice A ls.length c)).frozen? ⟨g,o,none⟩=false:=fun o e=>by rw [World.frozen?_setCell,World.frozen?_setCell];exact e
   rw [List.getElem_set];by_cases hik:k=i
   · subst hik
     rw [if_pos rfl];refine ⟨?_,?_,?_,fz _ e0,fz _ e1,fz _ e2⟩
     · rw [World.cell?_setCell_other _ _ _ _ (hne (by omega))]
       exact World.cell?_setCell_same _ _ _ c0
     · exact World.cell?_setCell_same _ _ _ ((World.cell?_setCell_other _ _ _ _ (hne (by omega))).trans c1)
     · exact far0 (by omega) (by omega) b2
   · rw [if_neg hik]
     exact ⟨far0 (by omega) (by omega) b0,far0 (by omega) (by omega) b1,far0 (by omega) (by omega) b2,fz _ e0,fz _ e1,fz _ e2⟩
 · rcases List.mem_or_eq_of_mem_set hx' with hx2 | hx2
   · have hf2:=h.far x hx2
     exact entOk_only (h.ok x hx2) ho (fun h0 y hy hg=>hf2.1 h0 y hy hg) (fun h0 y hy hg=>hf2.2 h0 y hy hg)
   · subst hx2
     have e1:=entOk_only hx ho (fun h0 y hy hg=>hfx.1 h0 y hy hg) (fun h0 y hy hg=>hfx.2 h0 y hy hg);refine ⟨h1,h2,e1.2.2.1,e1.2.2.2.1,?_,e1.2.2.2.2.2⟩;exact limbs_onlyB hl ho (fun h0 y hy hg=>hf h0 y hy hg)
 · rcases List.mem_or_eq_of_mem_set hx' with hx2 | hx2
   · exact h.far x hx2
   · subst hx2
     exact ⟨hf,hfx.2⟩
theorem split_set {α:Type}(f:α→α) (L:List α) {k:Nat}(hk:k<L.length):((L.take k).map f++L.drop k).set k (f L[k])=(L.take (k+1)).map f++L.drop (k+1):=by
 rw [List.set_append_right _ _ (by rw [List.length_map,List.length_take];omega),List.length_map,List.length_take,Nat.min_eq_left (by omega),Nat.sub_self,List.drop_eq_getElem_cons hk,List.set_cons_zero,List.take_succ_eq_append_getElem hk,List.map_append]
 simp
theorem Duo.cellsOff {w:World} {g:Nat} {u v:Value}(h:Duo w g u v) (a b:Value) {p:Addr} {x:Value}(hx:w.cell? p=some x) (hu:x≠u) (hv:x≠v):((w.setCell ⟨g,0,none⟩ a).setCell ⟨g,1,none⟩ b).cell? p=some x:=by
 rw [World.cell?_setCell_other _ _ _ _ (fun e=> ?_),World.cell?_setCell_other _ _ _ _ (fun e=> ?_)]
 · exact hx
 · rw [← e,h.cell0] at hx;injection hx with hx;exact hu hx.symm
 · rw [← e,h.cell1] at hx;injection hx with hx;exact hv hx.symm
theorem Duo.ints {w:World} {g:Nat} {u v:Value}(h:Duo w g u v) (a b:Value) {A:Option Addr} {n c:Nat} {s:Bool}(hu:u=.bool s) (hv:v=.slice A n c) {B:Option Addr} {m:Nat} {ys:List Int}(hi:Ints w B m ys):Ints ((w.setCell ⟨g,0,none⟩ a).setCell ⟨g,1,none⟩ b) B m ys:=by
 refine ⟨hi.len,fun hm=> ?_,hi.ok⟩
 obtain ⟨bb,o,e,hb,hc⟩:=hi.at_ hm
 exact ⟨bb,o,e,by simpa using hb,fun i hlt=>h.cellsOff a b (hc i hlt) (by rw [hu];exact fun e=>by cases e) (by rw [hv];exact fun e=>by cases e)⟩
theorem TrsO.duo {w:World} {base g gd:Nat} {E:List EntT}(h:TrsO w base g E) {s:Bool} {A:Option Addr} {n c:Nat}(hd:Duo w gd (.bool s) (.slice A n c)) (hne:g≠gd) (a b:Value):TrsO ((w.setCell ⟨gd,0,none⟩ a).setCell ⟨gd,1,none⟩ b) base g E:=
 ⟨fun i hi=>by
   obtain ⟨b0,b1,b2,e0,e1,e2⟩:=h.cells i hi;have far:∀{o:Nat} {x:Value},w.cell? ⟨g,o,none⟩=some x→((w.setCell ⟨gd,0,none⟩ a).setCell ⟨gd,1,none⟩ b).cell? ⟨g,o,none⟩=some x:=fun hx=>by
    rw [World.cell?_setCell_other _ _ _ _ (fun e=>by injection e with e _;exact hne e.symm),World.cell?_setCell_other _ _ _ _ (fun e=>by injection e with e _;exact hne e.symm)];exact hx
   have fz:∀o,w.frozen? ⟨g,o,none⟩=false→((w.setCell ⟨gd,0,none⟩ a).setCell ⟨gd,1,none⟩ b).frozen? ⟨g,o,none⟩=false:=fun o e=>by rw [World.frozen?_setCell,World.frozen?_setCell];exact e
   exact ⟨far b0,far b1,far b2,fz _ e0,fz _ e1,fz _ e2⟩,
  fun x hx=>by
   obtain ⟨k1,k2,k3,k4,k5,k6⟩:=h.ok x hx;exact ⟨k1,k2,k3,k4,hd.limbs a b rfl rfl k5,hd.ints a b rfl rfl k6⟩,
  h.far,h.lo,by simpa using h.lt⟩
theorem prM_plain {n:Nat} {M:Mv}(h:PlainM n M) (_hz:czM M≠0):PlainM n (prM M):=
 ⟨fun t ht=>by
   obtain ⟨s,hs,rfl⟩:=List.mem_map.1 ht;exact h.len s hs,by
   unfold prM;rw [List.pairwise_map];exact h.ord,fun t ht=>by
   obtain ⟨s,hs,rfl⟩:=List.mem_map.1 ht;intro e;have e2:s.2 / czM M=0:=e;have e1:=Int.mul_ediv_add_emod s.2 (czM M);rw [e2,czM_dvd hs] at e1;exact h.ne s hs (by omega)⟩
def GivesPrim (w:World) (n:Nat) (M:Mv) (e:Ending) (w':World):Prop:=
 ∃s A k c ls B cB T P,e=.returned (.tuple #[.agg #[.bool s,.slice A k c],.slice B T.length cB,.int .i64 0])∧k≤c∧c≤9223372036854775807∧Limbs w' A k ls∧PlainT n P∧EqM n (mvT P) M∧ZVal s ls (czM (mvT P))∧T.length≤cB∧cB≤9223372036854775807∧Trs w' B T.length T∧PlainT n T∧mvT T=prM (mvT P)∧Below w.heap.size w w'
theorem mprim (n Ca:Nat) (A:Option Addr) (m c:Nat) (L:List TV) (w:World) (hx:Trs w A m L) (hL:Arg n Ca L) (hn:n≤6) (hCa:Ca≤10000):
 Calls Tryz.prog 23 #[.int .i64 (n:Int),.slice A m c] w (GivesPrim w n (mvT L)):=by
 have hd0:=Duo.new w (.bool false) (.slice none 0 0)
 have hb0:Below w.heap.size w (w.alloc (.cells #[.bool false,.slice none 0 0] 41)):=bRr.alloc lRr _
 have Cn:=hiD (mnormO n Ca A m c L _ (hx.bel hb0) hL hn hCa)
 have HD0:=hiD hd0
 have HB0:=hiD hb0
 have HL:=hiD hL
 have hcnt:=hL.cnt
 have HCo:Hid (∀(T:List TV),PlainT n T→EqM n (mvT T) (mvT L)→∀t∈T,t.1.2.length≤Ca+1):=fun T hp e=>coef_len hx hL hp e
 clear hx hL hd0 hb0
 go_enter Tryz.func23,Tryz.ntmps23
 go_wp2_with fail
 generalize w.alloc (.cells #[.bool false,.slice none 0 0] 41)=w0 at*
 have hw0:=hiD HD0.out.lt
 refine Cn.out.mono ?_
 rintro e w1 ⟨A1,c1,E,rfl,h1,h2,hO,hP,hE,hb1⟩
 have HD1:=hiD (HD0.out.bel hb1)
 have HB1:Hid (Below w.heap.size w w1):=HB0.out.tm hb1
 have HO:=hiD hO
 have HP:=hiD hP
 have HE:=hiD hE
 have hEl:E.length≤4096:=by
  have:=hP.mv.count hE;rw [mvT_length,mvT_length,List.length_map] at this;omega
 clear Cn hO hP hE hb1 HD0 HB0
 go_wp2_with fail
 refine (zof_posZ 0 w1 (by omega) (by omega)).mono ?_
 rintro e w2 ⟨s0,A0,k0,c0,l0,rfl,g1,g2,g3,g4,g5,hb2⟩
 go_wp2_with fail
 have hd3:=hiD (Duo.new w2 (.bool s0) (.slice A0 k0 c0))
 have hb3:Below w2.heap.size w2 (w2.alloc (.cells #[.bool s0,.slice A0 k0 c0] 41)):=bRr.alloc lRr _
 have g4':=hiD (g4.bel hb3)
 have g5':=hiD g5
 have HB3:=hiD hb3
 have HO2:=hiD (trsO_bel HO.out hb2)
 have HD2:=hiD (HD1.out.bel hb2)
 have HB2:Hid (Below w.heap.size w w2):=HB1.out.tm hb2
 clear g4 g5 hb2 hb3 HO HD1 HB1
 have hco:=hiD (HCo.out _ HP.out HE.out)
 clear HCo
 generalize w2.alloc (.cells #[.bool s0,.slice A0 k0 c0] 41)=w3 at*
 obtain ⟨gc,hgc⟩:∃g,w2.heap.size=g:=⟨_,rfl⟩
 have Hgc:=hiD hgc
 rw [hgc] at hd3 HB3 ⊢
 clear hgc
 obtain ⟨me,hme⟩:∃k,E.length=k:=⟨_,rfl⟩
 have Hme:=hiD hme
 rw [hme] at h1 hEl ⊢
 clear hme
 go_loopw [11,26] (fun _ v26 wr=>∃(k:Nat) (s:Bool) (Ac:Option Addr) (kc cc:Nat) (ls:List Int),k≤me∧v26=.int .i64 k∧Hid (Duo wr gc (.bool s) (.slice Ac kc cc))∧Hid (Limbs wr Ac kc ls)∧kc≤cc∧cc≤9223372036854775807∧kc≤Ca+1∧Hid (0<k→0<kc→∀y,Ac=some y→gc≤y.block)∧Hid (ZVal s ls (cntM (mvT ((E.map (·.2)).take k)):Nat))∧Hid (Below gc w2 wr)) (fun _ v26 _=>me - (intOf v26).toNat)
 case atStart=>exact ⟨0,s0,A0,k0,c0,l0,by omega,rfl,hd3,g4',g1,g2,by omega,fun h=>absurd h (by omega),g5',HB3⟩
 case round=>
  clear hd3 g4' g5' HB3 g1 g2 g3;obtain ⟨k,s,Ac,kc,cc,ls,hk,rfl,hD,hLc,q1,q2,q3,hF,hZ,hB⟩:=hrel;have hB':Below w2.heap.size w2 wr:=by rw [Hgc.out];exact hB.out
  by_cases hlt:k<me
  · have hlt':(k:Int)<(me:Int):=by omega
    (have hk0:(0:Int)≤(k:Int):=by omega);(have hkE:k<E.length:=by rw [Hme.out];exact hlt);obtain ⟨g,hAg,hOg⟩:=HO2.out (by omega);subst hAg;have hOr:=hOg.bel hB';obtain ⟨e0,e1,e2,_⟩:=hOr.cells k hkE;obtain ⟨k1,k2,k3,k4,k5,k6⟩:=hOr.ok _ (List.getElem_mem hkE);have hmem:(E[k]).2∈E.map (·.2):=List.mem_map.2 ⟨_,List.getElem_mem hkE,rfl⟩;have hcl:=hco.out _ hmem;have hstep:Hid (cntM (mvT ((E.map (·.2)).take (k+1)))=Nat.gcd (cntM (mvT ((E.map (·.2)).take k))) (limbs (E[k]).2.1.2)):=by
     show _=_;have h3:(E.map (·.2)).take (k+1)=(E.map (·.2)).take k++[(E[k]).2]:=by
      rw [List.take_succ_eq_append_getElem (by rw [List.length_map];exact hkE),List.getElem_map]
     rw [h3,mvT_append,show mvT [(E[k]).2]=[valT (E[k]).2] from rfl,cntM_snoc];congr 1
     show (intZ _ _).natAbs=_;unfold intZ;split<;>simp
    have hcn:Hid (limbs ls=cntM (mvT ((E.map (·.2)).take k))):=by
     have h3:=hZ.out.eq;show _=_;unfold intZ at h3;split at h3<;>omega
    rw [Nat.mul_comm 3 k] at e0 e1 e2;clear hOr hOg hmem;generalize E[k]=x at*
    obtain ⟨⟨⟨Ax,cx⟩,⟨Ex,dx⟩⟩,⟨⟨sx,xs⟩,ps⟩⟩:=x;simp only at e0 e1 e2 k1 k2 k3 k4 k5 k6 hcl hstep;have hbx:Below wr.heap.size wr (wr.alloc (.cells #[.bool sx,.slice Ax xs.length cx,.slice Ex ps.length dx] 44)):=bRr.alloc lRr _;have hD2:=hD.out.bel hbx;have d0:=hD2.cell0;have d1:=hD2.cell1;have Cg:=hiD (zgcd s sx Ac Ax kc xs.length cc cx ls xs _ (hLc.out.bel hbx) (k5.bel hbx) q1 q2 k1 k2 (by omega) (by omega));rw [hcn.out,← hstep.out] at Cg;have HD4:=hiD hD2;have hBx:Hid (Below gc w2 (wr.alloc (.cells #[.bool sx,.slice Ax xs.length cx,.slice Ex ps.length dx] 44))):=hB.out.trans (hbx.mono (by have:=hB'.size;have:=Hgc.out;omega));clear hD2 hbx k5 k6 hcn hstep hB hB' hD hLc hZ;(go_wp2_with fail);generalize wr.alloc (.cells #[.bool sx,.slice Ax xs.length cx,.slice Ex ps.length dx] 44)=wx at*
    refine Cg.out.mono ?_;rintro e wy ⟨s2,A2,k2',c2',l2,rfl,z1,z2,z3,z4,z5,z6,hbg⟩;have hD5:=HD4.out.bel hbg;have f0:=hD5.frozen 0;have f1:=hD5.frozen 1;have d2:=hD5.cell0;have d3:=hD5.cell1;have HD5:=hiD (hD5.set (.bool s2) (.slice A2 k2' c2'));have HL5:=hiD (hD5.limbs (.bool s2) (.slice A2 k2' c2') rfl rfl z4);have HZ5:=hiD z5;have hBg:Below gc w2 wy:=hBx.out.trans (hbg.mono (by have:=HD4.out.lt;omega));have HB5:=hiD ((hBg.setCell (p:=⟨gc,0,none⟩) lRr (.bool s2)).setCell (p:=⟨gc,1,none⟩) lRr (.slice A2 k2' c2'));have HF5:Hid (0<k+1→0<k2'→∀y,A2=some y→gc≤y.block):=fun _ h0 y hy=>Nat.le_trans (by have:=HD4.out.lt;omega) (z6 h0 y hy);(have hk2:k2'≤Ca+1:=by omega);clear z4 z5 z6 hD5 hBg hbg Cg d0 d1 HD4 hBx hF;(go_wp2_with fail);go_roundw
    case rel=>exact ⟨k+1,s2,A2,k2',c2',l2,by omega,by go_num,HD5,HL5,z1,z2,hk2,HF5,HZ5,HB5⟩
    case measure=>simp [intOf];omega
  · obtain rfl:me=k:=by omega
    (have hlt':¬(me:Int)<(me:Int):=by omega);(have hB':Hid (Below w2.heap.size w2 wr):=by show Below _ _ _;rw [Hgc.out];exact hB.out);have hall:(E.map (·.2)).take me=E.map (·.2):=List.take_of_length_le (by rw [List.length_map,Hme.out];exact lRr);rw [hall] at hZ;clear hall;by_cases hm0:me=0
    · skip
      have hE0:E=[]:=List.eq_nil_of_length_eq_zero (by rw [Hme.out];exact hm0);(have hm0':¬(0:Int)<(me:Int):=by omega);have hZ0:Hid (ZVal s ls (czM (mvT (E.map (·.2))))):=by
       have h:=hZ.out;rw [hE0] at h ⊢;exact h
      have HM0:=hiD hm0;have hm0'':¬((0:Int)<(me:Int)):=hm0';clear hm0;(go_wp2_with fail);go_loopw [12,49] (fun _ v49 wt=>v49=.int .i64 0∧wt=wr) (fun _ _ _=>0)
      case atStart=>exact ⟨rfl,(by first | trivial | rfl)⟩
      case round=>
       obtain ⟨rfl,rfl⟩:=hrel;have hB'':=hiD hB'.out;have hDw:=HD2.out.bel hB'.out;have y0:=hDw.cell0;have y1:=hDw.cell1;have yf0:=hDw.frozen 0;have yf1:=hDw.frozen 1;have d0:=hD.out.cell0;have d1:=hD.out.cell1;have HDw:=hiD hDw;have Hbw:Hid (Below w.heap.size w wr):=HB2.out.tm hB'.out;have F:Hid (∀W (hW:Duo W w.heap.size (.bool s) (.slice Ac kc cc)) (hl:Limbs W Ac kc ls) (hb:Below w.heap.size w W),GivesPrim w n (mvT L) (.returned (.tuple #[.agg #[.bool s,.slice Ac kc cc],.slice A1 me c1,.int .i64 0])) W):=fun W _ hl hb=>by
        have hm3:me=([]:List TV).length:=HM0.out;rw [hm3];exact ⟨s,Ac,kc,cc,ls,A1,c1,[],E.map (·.2),rfl,q1,q2,hl,HP.out,HE.out,hZ0.out,Nat.zero_le _,h2,Trs.nil _ _,PlainT.nil n,by rw [hE0];rfl,hb⟩
       clear hDw;(go_wp2_with fail);refine bodyPost_ret (results_cell_tmp2 (fn:=Tryz.f23) rfl _ _ _ _ _ _ _ rfl (HDw.out.set (.bool s) (.slice Ac kc cc)) Tryz.underlying41 rfl aint_size) rfl ?_;exact F.out _ (HDw.out.set _ _) (HDw.out.limbs _ _ rfl rfl hLc.out) ((Hbw.out.setCell (p:=⟨w.heap.size,0,none⟩) lRr _).setCell (p:=⟨w.heap.size,1,none⟩) lRr _)
    · have hm0':(0:Int)<(me:Int):=by omega
      (have hme0:0<me:=by omega);(have hE0:0<E.length:=by rw [Hme.out];exact hme0);obtain ⟨g,hAg,hOg⟩:=HO2.out hE0;subst hAg;have hOr:=hOg.bel hB'.out;obtain ⟨e0,_⟩:=hOr.cells 0 hE0;(have hglt:g<gc:=by rw [← Hgc.out];exact hOg.lt);(have hgm1:(0:Int)≤(c1:Int):=by omega);rw [Nat.mul_zero] at e0;obtain ⟨tx,LX,hLX⟩:∃t l,mvT (E.map (·.2))=t::l:=by
       match E,hE0 with
       | x::E',_=>exact ⟨_,_,rfl⟩
      have htx:tx=valT (E[0]).2:=by
       have h:=congrArg (fun l=>l[0]?) hLX;simp [mvT,hE0] at h;exact h.symm
      (have hzv:ZVal (E[0]).2.1.1 (E[0]).2.1.2 tx.2:=by rw [htx];exact HP.out.co _ (List.mem_map.2 ⟨_,List.getElem_mem hE0,rfl⟩));have hne0:tx.2≠0:=by
       have h:=HP.out.mv.ne tx (by rw [hLX];exact List.mem_cons_self);exact h
      have hcp:0<cntM (mvT (E.map (·.2))):=cntM_pos (by rw [hLX];exact List.mem_cons_self) hne0;have hsgn:(E[0]).2.1.1=decide (tx.2<0):=by
       have h1:=hzv.eq;have h2:=hzv.nz;unfold intZ at h1;cases hs:(E[0]).2.1.1 with
       | true=>rw [hs] at h1 h2;simp at h1;simp;omega
       | false=>rw [hs] at h1;simp at h1;simp;omega
      have HOr:=hiD hOr;have hF':Hid (0<kc→∀y,Ac=some y→gc≤y.block):=fun h0 y hy=>hF.out hme0 h0 y hy;(have hcz:Hid (czM (mvT (E.map (·.2)))=if tx.2<0 then -(cntM (mvT (E.map (·.2))):Int) else (cntM (mvT (E.map (·.2))):Int)):=by show _=_;rw [hLX];rfl);(have hcnz:Hid (czM (mvT (E.map (·.2)))≠0):=fun e=>by have:=czM_abs (mvT (E.map (·.2)));rw [e] at this;omega);rw [hsgn] at e0;clear hzv hsgn htx hLX hOr hcp hF hne0;by_cases hneg:tx.2<0
      · have e0':Hid (wr.cell? ⟨g,0,none⟩=some (.bool true)):=by show _=_;rw [e0,decide_eq_true hneg]
        have e1:=e0'.out;have Cng:=hiD (znegF s Ac kc cc ls wr hLc.out q1 q2 (by omega));have hzn:Hid (-intZ s ls=czM (mvT (E.map (·.2)))):=by
         show _=_;rw [hcz.out,if_pos hneg,hZ.out.eq]
        have d0:=hD.out.cell0;have d1:=hD.out.cell1;clear hneg e0;(go_wp2_with fail);refine Cng.out.mono ?_;rintro e wn ⟨s,Ac,kc,cc,ls,rfl,q1,q2,z3,z4,z5,z6,hbn⟩;(have q3:kc≤Ca+1:=by omega);have hDn:=hD.out.bel hbn;have n0:=hDn.cell0;have n1:=hDn.cell1;have nf0:=hDn.frozen 0;have nf1:=hDn.frozen 1;have hZt:Hid (ZVal s ls (czM (mvT (E.map (·.2))))):=by
         have h:=z5;rw [hzn.out] at h;exact h
        have hDt:=hiD (hDn.set (.bool s) (.slice Ac kc cc));have hLt:=hiD (hDn.limbs (.bool s) (.slice Ac kc cc) rfl rfl z4);have hFt:Hid (0<kc→∀y,Ac=some y→gc≤y.block):=fun h0 y hy=>Nat.le_trans (Nat.le_of_lt hD.out.lt) (z6 h0 y hy);(have hgc2:w2.heap.size≤gc:=by rw [Hgc.out];exact lRr);have hBt:=hiD (((hB'.out.tm hbn).setCell (p:=⟨gc,0,none⟩) hgc2 (.bool s)).setCell (p:=⟨gc,1,none⟩) hgc2 (.slice Ac kc cc));clear z4 z5 z6 hDn hbn d0 d1 hD hLc hZ hF' hB' hB hzn hgc2 Cng;(go_wp2_with fail);clear n0 n1 nf0 nf1;generalize (wn.setCell ⟨gc,0,none⟩ (.bool s)).setCell ⟨gc,1,none⟩ (.slice Ac kc cc)=wp at*
        obtain ⟨wt,rfl⟩:∃wt:World,wt=wp:=⟨_,rfl⟩;have hOt:=hiD (hOg.bel hBt.out);have hEl2:Hid (E.length=me):=Hme.out;have hcoE:Hid (∀x∈E,ZVal x.2.1.1 x.2.1.2 (intZ x.2.1.1 x.2.1.2)):=fun x hx=>by
         have h1:=HP.out.co x.2 (List.mem_map.2 ⟨x,hx,rfl⟩);rw [h1.eq];exact h1
        have hbdE:Hid (∀i (h:i<E.length),0≤i→(E[i]).2.1.2.length≤Ca+1):=fun i h _=>hco.out (E[i]).2 (List.mem_map.2 ⟨_,List.getElem_mem h,rfl⟩);(have hlP:Hid ((mvT (E.map (·.2))).length=me):=by show _=_;rw [mvT_length,List.length_map];exact Hme.out);obtain ⟨M,hM⟩:∃M,mvT (E.map (·.2))=M:=⟨_,rfl⟩;have HM:=hiD hM;rw [hM] at hZt hcnz hlP;obtain ⟨cz,hczz⟩:∃z,czM M=z:=⟨_,rfl⟩;have HCZ:=hiD hczz;rw [hczz] at hZt hcnz;have hval:Hid (E.map (fun x=>valT x.2)=(M.take 0).map (fun t=>(t.1,t.2 / cz))++M.drop 0):=by
         show _=_;rw [List.take_zero,List.drop_zero,← hM];show _=mvT (E.map (·.2));unfold mvT;rw [List.map_map];rfl
        have hls0:0<limbs ls:=by
         have h3:=hZt.out.eq;have h4:=hcnz.out;unfold intZ at h3;split at h3<;>omega
        have Hls:=hiD hls0;(have hgcg:gc≠g:=by omega);(have hgw:w.heap.size<g:=by have:=hOt.out.lo;have:=hw0.out;omega);clear hM hczz hls0 hcz;go_loopw [12,49] (fun _ v49 wz=>∃(k:Nat) (Ek:List EntT),k≤me∧v49=.int .i64 k∧Hid (TrsO wz w0.heap.size g Ek)∧Hid (Ek.length=me)∧Hid (∀x∈Ek,ZVal x.2.1.1 x.2.1.2 (intZ x.2.1.1 x.2.1.2))∧Hid (∀i (h:i<Ek.length),k≤i→(Ek[i]).2.1.2.length≤Ca+1)∧Hid (Ek.map (fun x=>valT x.2)=(M.take k).map (fun t=>(t.1,t.2 / cz))++M.drop k)∧Hid (Only (fun j=>j=g) wt wz)) (fun _ v49 _=>me - (intOf v49).toNat)
        case atStart=>exact ⟨0,E,by omega,rfl,hOt,hEl2,hcoE,hbdE,hval,Only.refl _ _⟩
        case round=>
         clear hOt hEl2 hcoE hbdE hval;obtain ⟨k,Ek,hk,rfl,hOk,hEk,hcok,hbk,hvk,hOn⟩:=hrel;have hDr:=hDt.out.keep (hOn.out.block gc hDt.out.lt hgcg);have hLr:=hiD (limbs_onlyB hLt.out hOn.out (fun h0 y hy hg=>by have h5:=hFt.out h0 y hy;have h6:y.block=g:=hg;omega));have HDr:=hiD hDr;have d0:=hDr.cell0;have d1:=hDr.cell1;by_cases hlt:k<me
         · have hlt':(k:Int)<(me:Int):=by omega
           (have hk0:(0:Int)≤(k:Int):=by omega);(have hkE:k<Ek.length:=by rw [hEk.out];exact hlt);(have hkM:k<M.length:=by rw [hlP.out];exact hlt);obtain ⟨e2,e3,e4,f0,f1,f2⟩:=hOk.out.cells k hkE;obtain ⟨k1,k2,k3,k4,k5,k6⟩:=hOk.out.ok _ (List.getElem_mem hkE);have hcx:=hbk.out k hkE lRr;have hxv:valT (Ek[k]).2=M[k]:=by
            (have h3:(Ek.map (fun x=>valT x.2))[k]? =some (valT (Ek[k]).2):=by simp [hkE]);rw [hvk.out,List.getElem?_append_right (by rw [List.length_map,List.length_take];omega),List.length_map,List.length_take,Nat.min_eq_left (by omega),Nat.sub_self,List.getElem?_drop,Nat.add_zero,List.getElem?_eq_getElem hkM] at h3;injection h3 with h3
            exact h3.symm
           have hmemM:M[k]∈M:=List.getElem_mem hkM;(have hdiv:(M[k]).2 % cz=0:=by rw [← HCZ.out];exact czM_dvd hmemM);have hput:Hid (∀(s1:Bool) (A1:Option Addr) (c1:Nat) (l1:List Int),ZVal s1 l1 ((M[k]).2 / cz)→(∀x∈Ek.set k (putE (Ek[k]) s1 A1 c1 l1),ZVal x.2.1.1 x.2.1.2 (intZ x.2.1.1 x.2.1.2))∧(∀i (h:i<(Ek.set k (putE (Ek[k]) s1 A1 c1 l1)).length),k+1≤i→((Ek.set k (putE (Ek[k]) s1 A1 c1 l1))[i]).2.1.2.length≤Ca+1)∧(Ek.set k (putE (Ek[k]) s1 A1 c1 l1)).map (fun x=>valT x.2)=(M.take (k+1)).map (fun t=>(t.1,t.2 / cz))++M.drop (k+1)∧(Ek.set k (putE (Ek[k]) s1 A1 c1 l1)).length=me):=fun s1 A1 c1 l1 hz=>by
            refine ⟨fun x hx=> ?_,fun i hi hki=> ?_,?_,by rw [List.length_set];exact hEk.out⟩
            · rcases List.mem_or_eq_of_mem_set hx with h4 | h4
              · exact hcok.out x h4
              · subst h4
                show ZVal s1 l1 (intZ s1 l1);rw [hz.eq];exact hz
            · rw [List.length_set] at hi
              rw [List.getElem_set_ne (by omega)];exact hbk.out i hi (by omega)
            · rw [List.map_set,hvk.out,← split_set _ M hkM]
              congr 1
              show (valT ((s1,l1),(Ek[k]).2.2))=((M[k]).1,(M[k]).2 / cz);rw [← hxv];show ((Ek[k]).2.2,intZ s1 l1)=((Ek[k]).2.2,(valT (Ek[k]).2).2 / cz);rw [hxv,hz.eq]
           have hpt:Hid (∀(W:World) (s1:Bool) (A1:Option Addr) (c1:Nat) (l1:List Int),TrsO W w0.heap.size g Ek→Limbs W A1 l1.length l1→l1.length≤c1→c1≤9223372036854775807→(0<l1.length→∀y,A1=some y→y.block≠g)→TrsO ((W.setCell ⟨g,3*k,none⟩ (.bool s1)).setCell ⟨g,3*k+1,none⟩ (.slice A1 l1.length c1)) w0.heap.size g (Ek.set k (putE (Ek[k]) s1 A1 c1 l1))):=fun W s1 A1 c1 l1 h1 h2 h3 h4 h5=>h1.put hkE h2 h3 h4 h5;have hzx:intZ (Ek[k]).2.1.1 (Ek[k]).2.1.2=(M[k]).2:=congrArg Prod.snd hxv;rw [Nat.mul_comm 3 k] at e2 e3 e4 f0 f1 f2;have hxl2:=hcx;clear hcx hmemM hxv;generalize hEkk:Ek[k]=x at*
           obtain ⟨⟨⟨Ax,cx⟩,⟨Ex,dx⟩⟩,⟨⟨sx,xs⟩,ps⟩⟩:=x;simp only at e2 e3 e4 k1 k2 k3 k4 k5 k6 hxl2 hzx;have hls:ls.length=kc:=hLt.out.len;have Ce:=hiD (fun W (h:Below wr.heap.size wr W)=>zexactG sx s Ax Ac xs.length kc cx cc xs ls W (k5.bel h) (hLr.out.bel h) k1 k2 q1 q2 (by omega) (by omega) Hls.out);rw [hzx,hZt.out.eq] at Ce;have Hdiv:=hiD hdiv;have keepG:Hid (∀W,Below wr.heap.size wr W→W.cell? ⟨g,k*3,none⟩=some (.bool sx)∧W.cell? ⟨g,k*3+1,none⟩=some (.slice Ax xs.length cx)∧W.cell? ⟨gc,0,none⟩=some (.bool s)∧W.cell? ⟨gc,1,none⟩=some (.slice Ac kc cc)):=fun W hW=>
            ⟨(hW.cell (p:=⟨g,k*3,none⟩) hOk.out.lt).trans e2,(hW.cell (p:=⟨g,k*3+1,none⟩) hOk.out.lt).trans e3,(hW.cell (p:=⟨gc,0,none⟩) HDr.out.lt).trans d0,(hW.cell (p:=⟨gc,1,none⟩) HDr.out.lt).trans d1⟩
           clear k5 k6 hdiv hzx hEkk hDr;(go_wp2_with fail);go_region_with
            (first | (go_at_call 42;refine (Ce.out _ (by first | exact bRr.drew | exact bRr)).mono ?_;rintro e we ⟨s1,A1',k1',c1',l1,rfl,z1,z2,z3,z4,z5,z6,hbe'⟩;have hbe:Below wr.heap.size wr we:=(by first | exact bRr.drew.trans hbe' | exact hbe');have fe0:=(hbe.frozen (p:=⟨g,k*3,none⟩) hOk.out.lt).trans f0;have fe1:=(hbe.frozen (p:=⟨g,k*3+1,none⟩) hOk.out.lt).trans f1;obtain ⟨ce0,ce1,_,_⟩:=keepG.out _ hbe))
           all_goals
            obtain rfl:=z4.len;have hfr:0<l1.length→∀y,A1'=some y→y.block≠g:=fun h0 y hy=>by
             have h5:wr.heap.size≤y.block:=z6 h0 y hy;have:=hOk.out.lt;omega
            have hO9:=hpt.out we s1 A1' c1' l1 (hOk.out.bel hbe) z4 z2 z3 hfr;rw [Nat.mul_comm 3 k] at hO9;have HO9:=hiD hO9;obtain ⟨p1,p4,p2,p3⟩:=hput.out s1 A1' c1' l1 (z5 Hdiv.out);have P4:=hiD p4;have P1:=hiD p1;have P2:=hiD p2;have P3:=hiD p3;have HO8:Hid (Only (fun j=>j=g) wt ((we.setCell ⟨g,k*3,none⟩ (.bool s1)).setCell ⟨g,k*3+1,none⟩ (.slice A1' l1.length c1'))):=((hOn.out.trans (only_of_bel hbe)).setCell (p:=⟨g,k*3,none⟩) rfl _).setCell (p:=⟨g,k*3+1,none⟩) rfl _;clear hO9 p1 p2 p3 p4 hfr hpt hput z4 z5 z6 hbe hbe' keepG Ce ce0 ce1 fe0 fe1 d0 d1 hLr HDr hOk hOn hcok hbk hvk hEk;generalize Ek.set k (putE (((Ax,cx),Ex,dx),(sx,xs),ps) s1 A1' c1' l1)=Eq at*
            generalize (we.setCell ⟨g,k*3,none⟩ (.bool s1)).setCell ⟨g,k*3+1,none⟩ (.slice A1' l1.length c1')=wq at*
            (go_wp2_with fail);go_roundw
            case rel=>exact ⟨k+1,Eq,by omega,by go_num,HO9,P3,P1,P4,P2,HO8⟩
            case measure=>simp [intOf];omega
         · obtain rfl:me=k:=by omega
           (have hlt':¬(me:Int)<(me:Int):=by omega);have hDw:=(HD2.out.bel hBt.out).keep (hOn.out.block w.heap.size (HD2.out.bel hBt.out).lt (fun e=>by have e':w.heap.size=g:=e;omega));have y0:=hDw.cell0;have y1:=hDw.cell1;have yf0:=hDw.frozen 0;have yf1:=hDw.frozen 1;have HDw:=hiD hDw;have Hbw:Hid (Below w.heap.size w wr):=(HB2.out.tm hBt.out).trans (hOn.out.below (by have:=HB2.out.size;have:=hBt.out.size;omega) (fun j hj=>by have e':j=g:=hj;omega));have hTv:Hid (mvT (Ek.map (·.2))=prM M):=by
            show _=_;have h3:=hvk.out;rw [List.take_of_length_le (by rw [hlP.out];exact lRr),List.drop_eq_nil_of_le (by rw [hlP.out];exact lRr),List.append_nil] at h3;unfold prM mvT;rw [List.map_map,HCZ.out];exact h3
           have hPE:Hid (PlainT n (Ek.map (·.2))):=⟨by rw [hTv.out];refine prM_plain ?_ (by rw [HCZ.out];exact hcnz.out);rw [← HM.out];exact HP.out.mv,fun t ht=>by
            obtain ⟨x,hx,rfl⟩:=List.mem_map.1 ht;exact hcok.out x hx⟩
           have F:Hid (∀W (hl:Limbs W Ac kc ls) (hO:TrsO W w0.heap.size g Ek) (hb:Below w.heap.size w W),GivesPrim w n (mvT L) (.returned (.tuple #[.agg #[.bool s,.slice Ac kc cc],.slice (some ⟨g,0,none⟩) me c1,.int .i64 0])) W):=fun W hl hO hb=>by
            have h3:=hO.trs;(have h4:me=(Ek.map (·.2)).length:=by rw [List.length_map];exact hEk.out.symm);rw [hEk.out] at h3;have h5:me≤c1:=h1;rw [h4] at h3 h5 ⊢;exact ⟨s,Ac,kc,cc,ls,some ⟨g,0,none⟩,c1,Ek.map (·.2),E.map (·.2),rfl,q1,q2,hl,HP.out,HE.out,by rw [HM.out,HCZ.out];exact hZt.out,h5,h2,h3,hPE.out,by rw [HM.out];exact hTv.out,hb⟩
           have HOk:=hiD (hOk.out.duo HDw.out (fun e=>by omega) (.bool s) (.slice Ac kc cc));clear hDw hvk hcok hOn hOk;(go_wp2_with fail);refine bodyPost_ret (results_cell_tmp2 (fn:=Tryz.f23) rfl _ _ _ _ _ _ _ rfl (HDw.out.set (.bool s) (.slice Ac kc cc)) Tryz.underlying41 rfl aint_size) rfl ?_;exact F.out _ (HDw.out.limbs _ _ rfl rfl hLr.out) HOk.out ((Hbw.out.setCell (p:=⟨w.heap.size,0,none⟩) lRr _).setCell (p:=⟨w.heap.size,1,none⟩) lRr _)
      · have e0':Hid (wr.cell? ⟨g,0,none⟩=some (.bool false)):=by show _=_;rw [e0,decide_eq_false hneg]
        have e1:=e0'.out;(have hZt:Hid (ZVal s ls (czM (mvT (E.map (·.2))))):=by show ZVal _ _ _;rw [hcz.out,if_neg hneg];exact hZ.out);have hDt:=hiD hD.out;have hLt:=hiD hLc.out;have hFt:=hiD hF'.out;have hBt:=hiD hB'.out;clear hneg e0 hZ hD hLc hF' hB' hB;(go_wp2_with fail);obtain ⟨wt,rfl⟩:∃wt:World,wt=wr:=⟨_,rfl⟩;have hOt:=hiD (hOg.bel hBt.out);have hEl2:Hid (E.length=me):=Hme.out;have hcoE:Hid (∀x∈E,ZVal x.2.1.1 x.2.1.2 (intZ x.2.1.1 x.2.1.2)):=fun x hx=>by
         have h1:=HP.out.co x.2 (List.mem_map.2 ⟨x,hx,rfl⟩);rw [h1.eq];exact h1
        have hbdE:Hid (∀i (h:i<E.length),0≤i→(E[i]).2.1.2.length≤Ca+1):=fun i h _=>hco.out (E[i]).2 (List.mem_map.2 ⟨_,List.getElem_mem h,rfl⟩);(have hlP:Hid ((mvT (E.map (·.2))).length=me):=by show _=_;rw [mvT_length,List.length_map];exact Hme.out);obtain ⟨M,hM⟩:∃M,mvT (E.map (·.2))=M:=⟨_,rfl⟩;have HM:=hiD hM;rw [hM] at hZt hcnz hlP;obtain ⟨cz,hczz⟩:∃z,czM M=z:=⟨_,rfl⟩;have HCZ:=hiD hczz;rw [hczz] at hZt hcnz;have hval:Hid (E.map (fun x=>valT x.2)=(M.take 0).map (fun t=>(t.1,t.2 / cz))++M.drop 0):=by
         show _=_;rw [List.take_zero,List.drop_zero,← hM];show _=mvT (E.map (·.2));unfold mvT;rw [List.map_map];rfl
        have hls0:0<limbs ls:=by
         have h3:=hZt.out.eq;have h4:=hcnz.out;unfold intZ at h3;split at h3<;>omega
        have Hls:=hiD hls0;(have hgcg:gc≠g:=by omega);(have hgw:w.heap.size<g:=by have:=hOt.out.lo;have:=hw0.out;omega);clear hM hczz hls0 hcz;go_loopw [12,49] (fun _ v49 wz=>∃(k:Nat) (Ek:List EntT),k≤me∧v49=.int .i64 k∧Hid (TrsO wz w0.heap.size g Ek)∧Hid (Ek.length=me)∧Hid (∀x∈Ek,ZVal x.2.1.1 x.2.1.2 (intZ x.2.1.1 x.2.1.2))∧Hid (∀i (h:i<Ek.length),k≤i→(Ek[i]).2.1.2.length≤Ca+1)∧Hid (Ek.map (fun x=>valT x.2)=(M.take k).map (fun t=>(t.1,t.2 / cz))++M.drop k)∧Hid (Only (fun j=>j=g) wt wz)) (fun _ v49 _=>me - (intOf v49).toNat)
        case atStart=>exact ⟨0,E,by omega,rfl,hOt,hEl2,hcoE,hbdE,hval,Only.refl _ _⟩
        case round=>
         clear hOt hEl2 hcoE hbdE hval;obtain ⟨k,Ek,hk,rfl,hOk,hEk,hcok,hbk,hvk,hOn⟩:=hrel;have hDr:=hDt.out.keep (hOn.out.block gc hDt.out.lt hgcg);have hLr:=hiD (limbs_onlyB hLt.out hOn.out (fun h0 y hy hg=>by have h5:=hFt.out h0 y hy;have h6:y.block=g:=hg;omega));have HDr:=hiD hDr;have d0:=hDr.cell0;have d1:=hDr.cell1;by_cases hlt:k<me
         · have hlt':(k:Int)<(me:Int):=by omega
           (have hk0:(0:Int)≤(k:Int):=by omega);(have hkE:k<Ek.length:=by rw [hEk.out];exact hlt);(have hkM:k<M.length:=by rw [hlP.out];exact hlt);obtain ⟨e2,e3,e4,f0,f1,f2⟩:=hOk.out.cells k hkE;obtain ⟨k1,k2,k3,k4,k5,k6⟩:=hOk.out.ok _ (List.getElem_mem hkE);have hcx:=hbk.out k hkE lRr;have hxv:valT (Ek[k]).2=M[k]:=by
            (have h3:(Ek.map (fun x=>valT x.2))[k]? =some (valT (Ek[k]).2):=by simp [hkE]);rw [hvk.out,List.getElem?_append_right (by rw [List.length_map,List.length_take];omega),List.length_map,List.length_take,Nat.min_eq_left (by omega),Nat.sub_self,List.getElem?_drop,Nat.add_zero,List.getElem?_eq_getElem hkM] at h3;injection h3 with h3
            exact h3.symm
           have hmemM:M[k]∈M:=List.getElem_mem hkM;(have hdiv:(M[k]).2 % cz=0:=by rw [← HCZ.out];exact czM_dvd hmemM);have hput:Hid (∀(s1:Bool) (A1:Option Addr) (c1:Nat) (l1:List Int),ZVal s1 l1 ((M[k]).2 / cz)→(∀x∈Ek.set k (putE (Ek[k]) s1 A1 c1 l1),ZVal x.2.1.1 x.2.1.2 (intZ x.2.1.1 x.2.1.2))∧(∀i (h:i<(Ek.set k (putE (Ek[k]) s1 A1 c1 l1)).length),k+1≤i→((Ek.set k (putE (Ek[k]) s1 A1 c1 l1))[i]).2.1.2.length≤Ca+1)∧(Ek.set k (putE (Ek[k]) s1 A1 c1 l1)).map (fun x=>valT x.2)=(M.take (k+1)).map (fun t=>(t.1,t.2 / cz))++M.drop (k+1)∧(Ek.set k (putE (Ek[k]) s1 A1 c1 l1)).length=me):=fun s1 A1 c1 l1 hz=>by
            refine ⟨fun x hx=> ?_,fun i hi hki=> ?_,?_,by rw [List.length_set];exact hEk.out⟩
            · rcases List.mem_or_eq_of_mem_set hx with h4 | h4
              · exact hcok.out x h4
              · subst h4
                show ZVal s1 l1 (intZ s1 l1);rw [hz.eq];exact hz
            · rw [List.length_set] at hi
              rw [List.getElem_set_ne (by omega)];exact hbk.out i hi (by omega)
            · rw [List.map_set,hvk.out,← split_set _ M hkM]
              congr 1
              show (valT ((s1,l1),(Ek[k]).2.2))=((M[k]).1,(M[k]).2 / cz);rw [← hxv];show ((Ek[k]).2.2,intZ s1 l1)=((Ek[k]).2.2,(valT (Ek[k]).2).2 / cz);rw [hxv,hz.eq]
           have hpt:Hid (∀(W:World) (s1:Bool) (A1:Option Addr) (c1:Nat) (l1:List Int),TrsO W w0.heap.size g Ek→Limbs W A1 l1.length l1→l1.length≤c1→c1≤9223372036854775807→(0<l1.length→∀y,A1=some y→y.block≠g)→TrsO ((W.setCell ⟨g,3*k,none⟩ (.bool s1)).setCell ⟨g,3*k+1,none⟩ (.slice A1 l1.length c1)) w0.heap.size g (Ek.set k (putE (Ek[k]) s1 A1 c1 l1))):=fun W s1 A1 c1 l1 h1 h2 h3 h4 h5=>h1.put hkE h2 h3 h4 h5;have hzx:intZ (Ek[k]).2.1.1 (Ek[k]).2.1.2=(M[k]).2:=congrArg Prod.snd hxv;rw [Nat.mul_comm 3 k] at e2 e3 e4 f0 f1 f2;have hxl2:=hcx;clear hcx hmemM hxv;generalize hEkk:Ek[k]=x at*
           obtain ⟨⟨⟨Ax,cx⟩,⟨Ex,dx⟩⟩,⟨⟨sx,xs⟩,ps⟩⟩:=x;simp only at e2 e3 e4 k1 k2 k3 k4 k5 k6 hxl2 hzx;have hls:ls.length=kc:=hLt.out.len;have Ce:=hiD (fun W (h:Below wr.heap.size wr W)=>zexactG sx s Ax Ac xs.length kc cx cc xs ls W (k5.bel h) (hLr.out.bel h) k1 k2 q1 q2 (by omega) (by omega) Hls.out);rw [hzx,hZt.out.eq] at Ce;have Hdiv:=hiD hdiv;have keepG:Hid (∀W,Below wr.heap.size wr W→W.cell? ⟨g,k*3,none⟩=some (.bool sx)∧W.cell? ⟨g,k*3+1,none⟩=some (.slice Ax xs.length cx)∧W.cell? ⟨gc,0,none⟩=some (.bool s)∧W.cell? ⟨gc,1,none⟩=some (.slice Ac kc cc)):=fun W hW=>
            ⟨(hW.cell (p:=⟨g,k*3,none⟩) hOk.out.lt).trans e2,(hW.cell (p:=⟨g,k*3+1,none⟩) hOk.out.lt).trans e3,(hW.cell (p:=⟨gc,0,none⟩) HDr.out.lt).trans d0,(hW.cell (p:=⟨gc,1,none⟩) HDr.out.lt).trans d1⟩
           clear k5 k6 hdiv hzx hEkk hDr;(go_wp2_with fail);go_region_with
            (first | (go_at_call 42;refine (Ce.out _ (by first | exact bRr.drew | exact bRr)).mono ?_;rintro e we ⟨s1,A1',k1',c1',l1,rfl,z1,z2,z3,z4,z5,z6,hbe'⟩;have hbe:Below wr.heap.size wr we:=(by first | exact bRr.drew.trans hbe' | exact hbe');have fe0:=(hbe.frozen (p:=⟨g,k*3,none⟩) hOk.out.lt).trans f0;have fe1:=(hbe.frozen (p:=⟨g,k*3+1,none⟩) hOk.out.lt).trans f1;obtain ⟨ce0,ce1,_,_⟩:=keepG.out _ hbe))
           all_goals
            obtain rfl:=z4.len;have hfr:0<l1.length→∀y,A1'=some y→y.block≠g:=fun h0 y hy=>by
             have h5:wr.heap.size≤y.block:=z6 h0 y hy;have:=hOk.out.lt;omega
            have hO9:=hpt.out we s1 A1' c1' l1 (hOk.out.bel hbe) z4 z2 z3 hfr;rw [Nat.mul_comm 3 k] at hO9;have HO9:=hiD hO9;obtain ⟨p1,p4,p2,p3⟩:=hput.out s1 A1' c1' l1 (z5 Hdiv.out);have P4:=hiD p4;have P1:=hiD p1;have P2:=hiD p2;have P3:=hiD p3;have HO8:Hid (Only (fun j=>j=g) wt ((we.setCell ⟨g,k*3,none⟩ (.bool s1)).setCell ⟨g,k*3+1,none⟩ (.slice A1' l1.length c1'))):=((hOn.out.trans (only_of_bel hbe)).setCell (p:=⟨g,k*3,none⟩) rfl _).setCell (p:=⟨g,k*3+1,none⟩) rfl _;clear hO9 p1 p2 p3 p4 hfr hpt hput z4 z5 z6 hbe hbe' keepG Ce ce0 ce1 fe0 fe1 d0 d1 hLr HDr hOk hOn hcok hbk hvk hEk;generalize Ek.set k (putE (((Ax,cx),Ex,dx),(sx,xs),ps) s1 A1' c1' l1)=Eq at*
            generalize (we.setCell ⟨g,k*3,none⟩ (.bool s1)).setCell ⟨g,k*3+1,none⟩ (.slice A1' l1.length c1')=wq at*
            (go_wp2_with fail);go_roundw
            case rel=>exact ⟨k+1,Eq,by omega,by go_num,HO9,P3,P1,P4,P2,HO8⟩
            case measure=>simp [intOf];omega
         · obtain rfl:me=k:=by omega
           (have hlt':¬(me:Int)<(me:Int):=by omega);have hDw:=(HD2.out.bel hBt.out).keep (hOn.out.block w.heap.size (HD2.out.bel hBt.out).lt (fun e=>by have e':w.heap.size=g:=e;omega));have y0:=hDw.cell0;have y1:=hDw.cell1;have yf0:=hDw.frozen 0;have yf1:=hDw.frozen 1;have HDw:=hiD hDw;have Hbw:Hid (Below w.heap.size w wr):=(HB2.out.tm hBt.out).trans (hOn.out.below (by have:=HB2.out.size;have:=hBt.out.size;omega) (fun j hj=>by have e':j=g:=hj;omega));have hTv:Hid (mvT (Ek.map (·.2))=prM M):=by
            show _=_;have h3:=hvk.out;rw [List.take_of_length_le (by rw [hlP.out];exact lRr),List.drop_eq_nil_of_le (by rw [hlP.out];exact lRr),List.append_nil] at h3;unfold prM mvT;rw [List.map_map,HCZ.out];exact h3
           have hPE:Hid (PlainT n (Ek.map (·.2))):=⟨by rw [hTv.out];refine prM_plain ?_ (by rw [HCZ.out];exact hcnz.out);rw [← HM.out];exact HP.out.mv,fun t ht=>by
            obtain ⟨x,hx,rfl⟩:=List.mem_map.1 ht;exact hcok.out x hx⟩
           have F:Hid (∀W (hl:Limbs W Ac kc ls) (hO:TrsO W w0.heap.size g Ek) (hb:Below w.heap.size w W),GivesPrim w n (mvT L) (.returned (.tuple #[.agg #[.bool s,.slice Ac kc cc],.slice (some ⟨g,0,none⟩) me c1,.int .i64 0])) W):=fun W hl hO hb=>by
            have h3:=hO.trs;(have h4:me=(Ek.map (·.2)).length:=by rw [List.length_map];exact hEk.out.symm);rw [hEk.out] at h3;have h5:me≤c1:=h1;rw [h4] at h3 h5 ⊢;exact ⟨s,Ac,kc,cc,ls,some ⟨g,0,none⟩,c1,Ek.map (·.2),E.map (·.2),rfl,q1,q2,hl,HP.out,HE.out,by rw [HM.out,HCZ.out];exact hZt.out,h5,h2,h3,hPE.out,by rw [HM.out];exact hTv.out,hb⟩
           have HOk:=hiD (hOk.out.duo HDw.out (fun e=>by omega) (.bool s) (.slice Ac kc cc));clear hDw hvk hcok hOn hOk;(go_wp2_with fail);refine bodyPost_ret (results_cell_tmp2 (fn:=Tryz.f23) rfl _ _ _ _ _ _ _ rfl (HDw.out.set (.bool s) (.slice Ac kc cc)) Tryz.underlying41 rfl aint_size) rfl ?_;exact F.out _ (HDw.out.limbs _ _ rfl rfl hLr.out) HOk.out ((Hbw.out.setCell (p:=⟨w.heap.size,0,none⟩) lRr _).setCell (p:=⟨w.heap.size,1,none⟩) lRr _)
end Go.Proofs.YtehcoffbiplphaaGreat
