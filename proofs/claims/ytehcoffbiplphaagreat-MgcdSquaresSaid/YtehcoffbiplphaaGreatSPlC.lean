/- Contract: planted where variables are left: the terms parted, each part planted. -/
import Derived.Test.YtehcoffbiplphaaGreatSPlB
import Derived.Test.YtehcoffbiplphaaGreatSTk
import Derived.Test.YtehcoffbiplphaaGreatSTrI
set_option linter.unusedVariables false
set_option linter.unusedSimpArgs false
set_option maxHeartbeats 16000000
set_option maxRecDepth 100000
namespace Cl
open Go Go.RowKit CRing
theorem own_shapeP {w:World} {base:Nat} {e:TypeId} {sz n:Nat} {v:Value} {xs:List Value}(h:w.ownsRow base e sz v n xs):∃A c,v=.slice A n c:=by
 rcases h.2 with ⟨hv,h0⟩ | ⟨g,cap,cur,hv,_⟩
 · exact ⟨none,0,by rw [hv,h0]⟩
 · exact ⟨_,cap,hv⟩
structure OffB (bq:Nat) (v:Value) (Vs:List Value):Prop where
 v:v.ownBlock≠some bq
 Vs:∀(j:Nat) (V:Value),Vs[j]? =some V→V.ownBlock≠some bq
theorem Par.off_new {TT TE:TypeId} {w0 wr:World} {v:Value} {Vs:List Value} {Es:List (List EntT)}(h:Par TT TE w0 wr v Vs Es) {bq:Nat}(hb:wr.heap.size≤bq):OffB bq v Vs:=
 ⟨fun e=>by have:=(h.own.lt bq e).2;omega,fun j V hj e=>by
   obtain ⟨V',E',q1,q2,q3⟩:=h.at_ (List.getElem?_eq_some_iff.1 hj).1;rw [hj] at q1;injection q1 with q1
   subst q1;have:=(q3.lt bq e).2;omega⟩
theorem OffB.push {bq gg n cap:Nat} {v:Value} {Vs:List Value}(h:OffB bq v Vs) (hat:v.ownBlock=some gg∨bq<gg):OffB bq (.slice (some ⟨gg,0,none⟩) n cap) (Vs++[.slice none 0 0]):=
 ⟨fun e=>by
   have e2:gg=bq:=by injection e
   rcases hat with h1 | h1
   · exact h.v (by rw [h1,e2])
   · omega,fun j V hj=>by
   rcases Nat.lt_or_ge j Vs.length with hl | hl
   · rw [List.getElem?_append_left hl] at hj;exact h.Vs j V hj
   · rw [List.getElem?_append_right hl] at hj
     have hj2:=List.mem_of_getElem? hj;rw [List.mem_singleton.1 hj2];exact fun e=>by cases e⟩
theorem mvT_takeP {L:List TV} {k:Nat}(hk:k<L.length):mvT (L.take (k+1))=mvT (L.take k)++[valT L[k]]:=by
 rw [List.take_succ_eq_append_getElem hk,mvT_append];rfl
theorem mvT_take_sub {L:List TV} {k:Nat} {t:Trm}(ht:t∈mvT (L.take k)):t∈mvT L:=by
 obtain ⟨s,hs,rfl⟩:=List.mem_map.1 ht
 exact List.mem_map.2 ⟨s,List.mem_of_mem_take hs,rfl⟩
theorem info_partsP {P:Program} {t:TypeId} {z:Value} {s b:Nat}(h:(P.info? t).map (fun i=>(i.zero,i.size,i.bytes))=some (some z,s,b)):∃i,P.info? t=some i∧i.zero=some z∧i.size=s∧i.bytes=b:=by
 cases hi:P.info? t with
 | none=>rw [hi] at h;cases h
 | some i=>
   rw [hi] at h;simp only [Option.map_some,Option.some.injEq,Prod.mk.injEq] at h;exact ⟨i,rfl,h.1,h.2.1,h.2.2⟩
end Cl
namespace Go.Proofs.YtehcoffbiplphaaGreat
open Go.RowKit Cl CRing
attribute [local go_sem ↓] Go.wp_at_zero Go.wp_at_succ
theorem terms_infoP:(Tryz.prog.info? 22).map (fun i=>(i.zero,i.size,i.bytes))=some (some (.slice none 0 0),1,24):=by kernel_rfl
theorem term_infoP:(Tryz.prog.info? 44).map (fun i=>(i.zero,i.size,i.bytes))=some (some (.agg #[.bool false,.slice none 0 0,.slice none 0 0]),3,56):=by kernel_rfl
attribute [-go_sem] Builtin.append_
theorem mplantS (C:Nat) (hC:C≤1000000) (m:Nat) (ih:PlantN m C):PlantN (m+1) C:=by
 intro n i A mm c L w hni hn hx hL hmc hc
 obtain ⟨i0,hi0,hz0,hz1,hz2⟩:=info_partsP poly_infoT
 obtain ⟨j0,hj0,hy0,hy1,hy2⟩:=info_partsP terms_infoP
 obtain ⟨l0,hl0,hx0,hx1,hx2⟩:=info_partsP term_infoP
 have hcnt:=hL.cnt
 have hml:=hx.len
 have hm:mm≤4096:=by omega
 have hne:((i:Int)==(n:Int))=false:=beq_eq_false_iff_ne.2 (by omega)
 have Hx:=hiD hx
 have HL:=hiD hL
 have hab:=hiD (abs_lenP hL.co (trs_limbsP hx) hcnt)
 have hpos:=hiD (show∀t∈mvT L,0≤nth t.1 i from fun t ht=>(hL.bdM t ht _ (nth_mem (by rw [hL.lenM t ht];omega))).1)
 have t0:=Trio.new w (.bool false) (.slice none 0 0) (.slice none 0 0)
 have hb:Below w.heap.size w (w.alloc (.cells #[.bool false,.slice none 0 0,.slice none 0 0] 51)):=bRr.alloc lRr _
 have hsz:Hid ((w.alloc (.cells #[.bool false,.slice none 0 0,.slice none 0 0] 51)).heap.size=w.heap.size+1):=World.size_alloc _ _
 have Hni:=hiD hni
 clear hx hL hni hml
 go_enter Tryz.func28,Tryz.ntmps28
 go_wp2_with fail
 generalize hwt:w.alloc (.cells #[.bool false,.slice none 0 0,.slice none 0 0] 51)=wo at*
 clear hwt
 have T0:=hiD t0
 have HB:=hiD hb
 have Hx1:=hiD (Hx.out.bel hb)
 clear t0 hb
 go_loopw [10,35] (fun v kk wr=>∃(k:Nat) (Vs:List Value) (Es:List (List EntT)),k≤mm∧kk=.int .i64 (k:Int)∧Hid (Par 22 44 wo wr v Vs Es)∧Hid (ParOf i L (mvT (L.take k)) Es)∧Hid (Es.length=partN i (mvT (L.take k)))) (fun _ kk _=>mm - (intOf kk).toNat)
 case atStart=>exact ⟨0,[],[],Nat.zero_le _,rfl,Par.start _ _ bRr,ParOf.start i L,rfl⟩
 case round=>
  obtain ⟨k,Vs,Es,hk,rfl,hP,hO,hN⟩:=hrel;obtain ⟨wp,rfl⟩:∃wp:World,wp=wr:=⟨_,rfl⟩;by_cases hlt:k<mm
  · obtain ⟨b,o,rfl,hbb,hcc⟩:=Hx1.out.at_ (by omega)
    (have hkL:k<L.length:=by have:=Hx.out.len;omega);obtain ⟨Ai,ci,Ei,ei,e1,e2,e3,e4,e5,e6,e7,e8,e9⟩:=hcc k hkL;have hll:=HL.out.len _ (List.getElem_mem hkL);have hbd:=HL.out.bd _ (List.getElem_mem hkL) _ (nth_mem (xs:=(L[k]).2) (i:=i) (by have:=Hni.out;omega));(have hlt':(k:Int)<(mm:Int):=by omega);(have hk0:(0:Int)≤(k:Int):=by omega);have hsz1:=hP.out.bel.size;rw [Nat.mul_comm 3 k] at e1 e2 e3;rw [← Nat.add_assoc] at e2 e3;have g1:=(hP.out.bel.cell (p:=⟨b,o+k*3,none⟩) hbb).trans e1;have g2:=(hP.out.bel.cell (p:=⟨b,o+k*3+1,none⟩) hbb).trans e2;have g3:=(hP.out.bel.cell (p:=⟨b,o+k*3+2,none⟩) hbb).trans e3;have htk:Hid (mvT (L.take (k+1))=mvT (L.take k)++[valT L[k]]):=mvT_takeP hkL;have hmem:Hid (L[k]∈L):=List.getElem_mem hkL;have hpk:Hid (∀t∈mvT (L.take k),0≤nth t.1 i):=fun t ht=>hpos.out t (mvT_take_sub ht);have E8:=hiD e8;have E9:=hiD e9;obtain ⟨be,oe,hE9,hbe,hce⟩:=e9.at_ (by have:=Hni.out;omega);subst hE9;have hcx:=hce i (by have:=Hni.out;omega);clear e1 e2 e3 e8 e9 hcc hce;generalize L[k]=x at*
    obtain ⟨⟨sx,xs⟩,ps⟩:=x;simp only at g1 g2 g3 e4 e5 e6 e7 E8 E9 hll hbd hcx;have hNx:Hid (nth (valT ((sx,xs),ps)).1 i=nth ps i):=rfl;obtain ⟨j,hj⟩:∃j:Nat,nth ps i=(j:Int):=⟨(nth ps i).toNat,by omega⟩;rw [hj] at hbd hcx hNx;(have hip:(i:Int)<(ps.length:Int):=by have:=Hni.out;omega);(have hi0':(0:Int)≤(i:Int):=by omega);have Hll:=hiD hll;clear hll;have tb:=Tri.new 44 wp (.bool sx) (.slice Ai xs.length ci) (.slice (some ⟨be,oe,none⟩) ps.length ei);have bT:Below wp.heap.size wp (wp.alloc (.cells #[.bool sx,.slice Ai xs.length ci,.slice (some ⟨be,oe,none⟩) ps.length ei] 44)):=bRr.alloc lRr _;have hP1:=hiD (hP.out.bel2 bT);have hoff:Hid (OffB wp.heap.size u10 Vs):=hP.out.off_new lRr;(have hsz2:wp.heap.size<(wp.alloc (.cells #[.bool sx,.slice Ai xs.length ci,.slice (some ⟨be,oe,none⟩) ps.length ei] 44)).heap.size:=by simp);(go_wp2_with fail);generalize hwq:wp.alloc (.cells #[.bool sx,.slice Ai xs.length ci,.slice (some ⟨be,oe,none⟩) ps.length ei] 44)=wq at*
    clear hwq;have TB:=hiD tb;clear tb bT hP;go_loopg [10] (j+2) (fun gk v wr=>∃(Vs:List Value) (Es:List (List EntT)),j+1 - Vs.length<gk∧Hid (Par 22 44 wo wr v Vs Es)∧Hid (ParOf i L (mvT (L.take k)) Es)∧Hid (Es.length≤max (partN i (mvT (L.take k))) (j+1))∧Hid (Tri 44 wr wp.heap.size (.bool sx) (.slice Ai xs.length ci) (.slice (some ⟨be,oe,none⟩) ps.length ei))∧Hid (OffB wp.heap.size v Vs)∧wp.heap.size<wr.heap.size)
    case atStart=>exact ⟨Vs,Es,by omega,hP1,hO,Nat.le_trans (Nat.le_of_eq hN.out) (Nat.le_max_left _ _),TB,hoff,by omega⟩
    case round=>
     clear hP1 hO hN TB hoff;obtain ⟨Vs',Es',hgk,hP,hO,hN,hT,hof,hszr⟩:=hrel;obtain ⟨wq',rfl⟩:∃wq':World,wq'=wr:=⟨_,rfl⟩;have c2:=hT.out.cell2;have hbz:=hP.out.bel.size;have hcE:=(hP.out.bel.cell (p:=⟨be,oe+i,none⟩) hbe).trans hcx;(have hbe':be<wq'.heap.size:=by omega);have hlq:=hT.out.lt;obtain ⟨Av,cv,hv⟩:=own_shapeP hP.out.own;subst hv;by_cases hle:Vs'.length≤j
     · have hle':(Vs'.length:Int)≤(j:Int):=by omega
       have HOW:=hiD hP.out.own;(go_wp2_with (at_builtin;refine wpList_append_lies _ (by rfl) _ _ _ (by rfl) wo.heap.size 22 j0 _ 1 24 Tryz.underlying54 hj0 hy0 hy1 hy2 rfl (by omega) (.slice Av Vs'.length cv) Vs'.length Vs' (by rfl) (HOW.out.alloc _) ⟨wq'.heap.size,0,none⟩ 1 1 [.slice none 0 0] (by rfl) (by rfl) (World.news_of_block (cs:=#[.slice none 0 0]) (t:=22) (fr:=(0,0)) (heap_alloc_new wq' _)) (by simp [Value.oneCell']) (by omega) (by unfold maxLen;omega) (by omega) (by simp;omega) (wq'.heap.size+1) (by simp) ?_;intro gg cap w8 hown8 hgrow hat hlt8));have hP8:=hiD (hP.out.push hown8 hgrow hat);have hO8:=hiD (hO.out.push hpk.out);have hof8:Hid (OffB wp.heap.size (.slice (some ⟨gg,0,none⟩) (Vs'.length+1) cap) (Vs'++[.slice none 0 0])):=hof.out.push (hat.imp id fun h=>by omega);have o8:Only (fun b=>(Value.slice Av Vs'.length cv).ownBlock=some b) _ w8:=(Only.of_grown hgrow).mono (fun i hi=>by first | exact hi | exact hi.symm);have hT8:Hid (Tri 44 w8 wp.heap.size (.bool sx) (.slice Ai xs.length ci) (.slice (some ⟨be,oe,none⟩) ps.length ei)):=by
        have t7:=hT.out.bel ((Below.refl wq'.heap.size wq').alloc lRr (.cells #[.slice none 0 0] 22));exact t7.keep (o8.block _ t7.lt fun e=>hof.out.v e)
       have hN8:Hid ((Es'++[[]]).length≤max (partN i (mvT (L.take k))) (j+1)):=by
        show _≤_;have h1:=hP.out.len;rw [List.length_append];show Es'.length+1≤_;exact Nat.le_trans (by omega) (Nat.le_max_right _ _)
       (have hz8:wp.heap.size<w8.heap.size:=by have:=hT8.out.lt;omega);(have hl8:(Vs'++[Value.slice none 0 0]).length=Vs'.length+1:=by rw [List.length_append];rfl);clear hown8 hgrow hat hlt8 o8 hP hO hN hT hof HOW c2 hcE;(go_wp2_with fail);go_roundg (gk - 1)
       case measure=>omega
       case rel=>exact ⟨_,_,by rw [hl8];omega,hP8,hO8,hN8,hT8,hof8,hz8⟩
     · have hle':¬(Vs'.length:Int)≤(j:Int):=by omega
       obtain ⟨vb,cv',hv,hvb1,hvb2⟩:=hP.out.own.form (by omega);injection hv with hv1 hv2 hv3
       subst hv1;subst hv3;obtain ⟨V,E,hV,hE,hrow⟩:=hP.out.at_ (j:=j) (by omega);obtain ⟨AV,cV,hVs⟩:=own_shapeP hrow;subst hVs;have hcV:=hP.out.own.cellAt j (by omega);rw [hV] at hcV;have hfz:=hP.out.own.frozenAt j;have hElen:E.length≤4096:=by
        have h1:=congrArg List.length (hO.out.at_ j E hE);rw [mvT_length,List.length_map] at h1;have h2:(partL i j (mvT (L.take k))).length≤(mvT (L.take k)).length:=List.length_filter_le _ _;rw [mvT_length,List.length_take] at h2;omega
       have c0:=hT.out.cell0;have c1:=hT.out.cell1;(have hj0':(0:Int)≤(j:Int):=by omega);(have hj1':(j:Int)<(Vs'.length:Int):=by omega);(have q1:E.length+1≤maxLen:=by unfold maxLen;omega);(have q2:(E.length+1)*56≤140737488355328:=by omega);have hVb:Hid (∀b,(Value.slice AV E.length cV).ownBlock=some b→wo.heap.size≤b∧b≠wp.heap.size∧b≠vb):=fun b hb=>⟨(hrow.lt b hb).1,fun e=>hof.out.Vs j _ hV (by rw [hb,e]),fun e=>hP.out.off j _ hV vb rfl (by rw [hb,e])⟩;have keepS:Hid (∀W,Below wq'.heap.size wq' W→W.cell? ⟨wp.heap.size,0,none⟩=some (.bool sx)∧W.cell? ⟨wp.heap.size,1,none⟩=some (.slice Ai xs.length ci)∧W.cell? ⟨wp.heap.size,2,none⟩=some (.slice (some ⟨be,oe,none⟩) ps.length ei)∧W.cell? ⟨be,oe+i,none⟩=some (.int .i64 (j:Int))∧W.cell? ⟨vb,j,none⟩=some (.slice AV E.length cV)):=fun W hW=>
        ⟨(hW.cell (p:=⟨wp.heap.size,0,none⟩) hlq).trans c0,(hW.cell (p:=⟨wp.heap.size,1,none⟩) hlq).trans c1,(hW.cell (p:=⟨wp.heap.size,2,none⟩) hlq).trans c2,(hW.cell (p:=⟨be,oe+i,none⟩) hbe').trans hcE,(hW.cell (p:=⟨vb,j,none⟩) hvb2).trans hcV⟩
       have hR:Hid (∀W,Below wq'.heap.size wq' W→W.ownsRow wo.heap.size 44 3 (.slice AV E.length cV) E.length (tcells E)):=fun W hW=>own_belT hrow hW;have G:Hid (∀w8,(World.drew (wq'.alloc (.cells #[.bool sx,.slice Ai xs.length ci,.slice (some ⟨be,oe,none⟩) ps.length ei] 44))).grownBy w8 (Value.slice AV E.length cV).ownBlock→(fun W=>W.cell? ⟨wp.heap.size,0,none⟩=some (.bool sx)∧W.cell? ⟨wp.heap.size,1,none⟩=some (.slice Ai xs.length ci)∧W.cell? ⟨wp.heap.size,2,none⟩=some (.slice (some ⟨be,oe,none⟩) ps.length ei)∧W.cell? ⟨be,oe+i,none⟩=some (.int .i64 (j:Int))∧W.cell? ⟨vb,j,none⟩=some (.slice AV E.length cV)) w8):=fun w8 hgr=>by
        obtain ⟨k1,k2,k3,k4,k5⟩:=keepS.out _ ((Below.refl wq'.heap.size wq').alloc lRr (.cells #[.bool sx,.slice Ai xs.length ci,.slice (some ⟨be,oe,none⟩) ps.length ei] 44)).drew;(have hs8:wq'.heap.size<(World.drew (wq'.alloc (.cells #[.bool sx,.slice Ai xs.length ci,.slice (some ⟨be,oe,none⟩) ps.length ei] 44))).heap.size:=by show _<(wq'.alloc _).heap.size;simp);have far:∀b,wp.heap.size=b∨be=b∨vb=b→some b≠(Value.slice AV E.length cV).ownBlock:=fun b hb e=>by
         have h1:=hVb.out b e.symm;omega
        exact ⟨(hgr.cell_far ⟨wp.heap.size,0,none⟩ (by show wp.heap.size<_;omega) (far _ (.inl rfl))).trans k1,(hgr.cell_far ⟨wp.heap.size,1,none⟩ (by show wp.heap.size<_;omega) (far _ (.inl rfl))).trans k2,(hgr.cell_far ⟨wp.heap.size,2,none⟩ (by show wp.heap.size<_;omega) (far _ (.inl rfl))).trans k3,(hgr.cell_far ⟨be,oe+i,none⟩ (by show be<_;omega) (far _ (.inr (.inl rfl)))).trans k4,(hgr.cell_far ⟨vb,j,none⟩ (by show vb<_;omega) (far _ (.inr (.inr rfl)))).trans k5⟩
       have F:Hid (∀w8 gg cap,w8.ownsRow wo.heap.size 44 3 (.slice (some ⟨gg,0,none⟩) (E.length+1) cap) (E.length+1) (tcells E++[.bool sx,.slice Ai xs.length ci,.slice (some ⟨be,oe,none⟩) ps.length ei])→(World.drew (wq'.alloc (.cells #[.bool sx,.slice Ai xs.length ci,.slice (some ⟨be,oe,none⟩) ps.length ei] 44))).grownBy w8 (Value.slice AV E.length cV).ownBlock→((Value.slice AV E.length cV).ownBlock=some gg∨gg=wq'.heap.size+1)→w8.cell? ⟨vb,j,none⟩=some (.slice AV E.length cV)∧w8.frozen? ⟨vb,j,none⟩=false∧vb<w8.heap.size∧∃(Vs2:List Value) (Es2:List (List EntT)) (cv2:Nat),Hid (Par 22 44 wo (w8.setCell ⟨vb,j,none⟩ (.slice (some ⟨gg,0,none⟩) (E.length+1) cap)) (.slice (some ⟨vb,0,none⟩) Vs'.length cv) Vs2 Es2)∧Hid (ParOf i L (mvT (L.take (k+1))) Es2)∧Hid (Es2.length=partN i (mvT (L.take (k+1))))∧cv2=cv):=fun w8 gg cap hown8 hgr hat=>by
        (have hs8:wq'.heap.size<(World.drew (wq'.alloc (.cells #[.bool sx,.slice Ai xs.length ci,.slice (some ⟨be,oe,none⟩) ps.length ei] 44))).heap.size:=by show _<(wq'.alloc _).heap.size;simp);have far:some vb≠(Value.slice AV E.length cV).ownBlock:=fun e=>(hVb.out vb e.symm).2.2 rfl;have hfz':(World.drew (wq'.alloc (.cells #[.bool sx,.slice Ai xs.length ci,.slice (some ⟨be,oe,none⟩) ps.length ei] 44))).frozen? ⟨vb,j,none⟩=false:=(((Below.refl wq'.heap.size wq').alloc lRr (.cells #[.bool sx,.slice Ai xs.length ci,.slice (some ⟨be,oe,none⟩) ps.length ei] 44)).drew.frozen (p:=⟨vb,j,none⟩) hvb2).trans hfz;have hx9:EntOk wo ((((Ai,ci),(some ⟨be,oe,none⟩,ei)),((sx,xs),ps)):EntT):=⟨e4,e5,e6,e7,E8.out,E9.out⟩;have hP9:=(hP.out.bel2 (Below.refl wq'.heap.size wq').drew).add (o:=(.cells #[.bool sx,.slice Ai xs.length ci,.slice (some ⟨be,oe,none⟩) ps.length ei] 44)) (x:=(((Ai,ci),(some ⟨be,oe,none⟩,ei)),((sx,xs),ps))) hV hE hx9 hown8 hgr hat
        have hO9:=hO.out.add (x:=(((Ai,ci),(some ⟨be,oe,none⟩,ei)),((sx,xs),ps))) hE hmem.out hNx.out;have hgl:(⟨vb,j,none⟩:Addr).block<(World.drew (wq'.alloc (.cells #[.bool sx,.slice Ai xs.length ci,.slice (some ⟨be,oe,none⟩) ps.length ei] 44))).heap.size:=Nat.lt_trans hvb2 hs8;have hgz:=hgr.size;refine ⟨(G.out w8 hgr).2.2.2.2,(hgr.frozen_far _ hgl far).trans hfz',by omega,Vs'.set j (.slice (some ⟨gg,0,none⟩) (E.length+1) cap),Es'.set j (E++[(((Ai,ci),(some ⟨be,oe,none⟩,ei)),((sx,xs),ps))]),cv,?_,?_,?_,rfl⟩
        · have e:(Vs'.set j (.slice (some ⟨gg,0,none⟩) (E.length+1) cap)).length=Vs'.length:=List.length_set
          exact hP9
        · rw [htk.out];exact hO9
        · show _=_
          rw [htk.out,List.length_set,partN_append];have h1:=hO.out.len;have h2:=hP.out.len;have h3:=hN.out;have h4:partN i [valT ((sx,xs),ps)]=j+1:=by
           show max ((nth (valT ((sx,xs),ps)).1 i).toNat+1) 0=_;rw [hNx.out];simp
          rw [h4];omega
       clear hV hE hP hO hN hT hof hrow c0 c1 hcV hfz hVb;(go_wp2_with fail);refine wp_regionG (S:=fun W=>W.cell? ⟨wp.heap.size,0,none⟩=some (.bool sx)∧W.cell? ⟨wp.heap.size,1,none⟩=some (.slice Ai xs.length ci)∧W.cell? ⟨wp.heap.size,2,none⟩=some (.slice (some ⟨be,oe,none⟩) ps.length ei)∧W.cell? ⟨be,oe+i,none⟩=some (.int .i64 (j:Int))∧W.cell? ⟨vb,j,none⟩=some (.slice AV E.length cV)) (z:=18) (by kernel_rfl) ?_;have hHeld:=keepS.out _ (Below.refl wq'.heap.size wq').drew;(try dsimp only at hHeld);refine tk 18 0 (.slice (some ⟨vb,0,none⟩) Vs'.length cv) rfl hHeld ?_;(try simp only [fx,Act.put]);refine tk 18 1 (.pointer (some ⟨wp.heap.size,2,none⟩)) rfl hHeld ?_;(try simp only [fx,Act.put]);refine tk 18 2 (.slice (some ⟨be,oe,none⟩) ps.length ei) rfl hHeld ?_;(try simp only [fx,Act.put]);refine tk 18 3 (.int .i64 (i:Int)) rfl hHeld ?_;(try simp only [fx,Act.put]);refine tk 18 4 (.pointer (some ⟨be,oe+i,none⟩)) rfl hHeld ?_;(try simp only [fx,Act.put]);refine tk 18 5 (.int .i64 (j:Int)) rfl hHeld ?_;(try simp only [fx,Act.put]);refine tk 18 6 (.slice (some ⟨vb,0,none⟩) Vs'.length cv) rfl hHeld ?_;(try simp only [fx,Act.put]);refine tk 18 7 (.pointer (some ⟨wp.heap.size,2,none⟩)) rfl hHeld ?_;(try simp only [fx,Act.put]);refine tk 18 8 (.slice (some ⟨be,oe,none⟩) ps.length ei) rfl hHeld ?_;(try simp only [fx,Act.put]);refine tk 18 9 (.int .i64 (i:Int)) rfl hHeld ?_;(try simp only [fx,Act.put]);refine tk 18 10 (.pointer (some ⟨be,oe+i,none⟩)) rfl hHeld ?_;(try simp only [fx,Act.put]);refine tk 18 11 (.int .i64 (j:Int)) rfl hHeld ?_;(try simp only [fx,Act.put]);refine tk 18 12 (.pointer (some ⟨vb,0+j,none⟩)) rfl hHeld ?_;(try simp only [fx,Act.put]);refine tk 18 13 (.slice AV E.length cV) rfl hHeld ?_;(try simp only [fx,Act.put]);refine tk 18 14 (.agg #[.bool sx,.slice Ai xs.length ci,.slice (some ⟨be,oe,none⟩) ps.length ei]) rfl hHeld ?_;(try simp only [fx,Act.put]);refine wpAnyG_ready (rs:=[15]) (by kernel_rfl) (by simp) ?_;refine AllReadyG.cons rfl (by decide) (fun KK hKK=> ?_) ?_
       · skip
         go_simp;refine hKK.out _ _ (keepS.out _ (bRr.alloc lRr (.cells #[.bool sx,.slice Ai xs.length ci,.slice (some ⟨be,oe,none⟩) ps.length ei] 44)).drew) (fun hHeld=> ?_);clear hKK KK;(try dsimp only at hHeld);(try simp only [fx,Act.put]);refine wpAnyG_ready (rs:=[16]) (by kernel_rfl) (by simp) ?_;refine AllReadyG.cons rfl (by decide) (fun KK hKK=> ?_) ?_
         · skip
           refine step_append_lies _ (by rfl) _ _ _ (by rfl) wo.heap.size 44 l0 _ 3 56 Tryz.underlying22 hl0 hx0 hx1 hx2 rfl (by omega) (.slice AV E.length cV) E.length (tcells E) (by rfl) (hR.out _ (bRr.alloc lRr (.cells #[.bool sx,.slice Ai xs.length ci,.slice (some ⟨be,oe,none⟩) ps.length ei] 44)).drew) ⟨wq'.heap.size,0,none⟩ 1 1 [.bool sx,.slice Ai xs.length ci,.slice (some ⟨be,oe,none⟩) ps.length ei] (by rfl) (by rfl) (World.news_of_block (cs:=#[.bool sx,.slice Ai xs.length ci,.slice (some ⟨be,oe,none⟩) ps.length ei]) (t:=44) (fr:=(0,0)) (heap_alloc_new wq' _)) (by simp [Value.oneCell']) (by omega) q1 q2 (by simp;omega) (wq'.heap.size+1) (by simp) ?_;intro gg cap w8 hown8 hgrow hat hlt8;refine hKK.out _ _ (G.out w8 hgrow) (fun hHeld=> ?_);clear hKK KK;(try dsimp only at hHeld);(try simp only [fx,Act.put]);refine wpAnyG_ready (rs:=[17]) (by kernel_rfl) (by simp) ?_;refine AllReadyG.cons rfl (by decide) (fun KK hKK=> ?_) ?_
           · skip
             go_simp;refine hKK.out _ _ hHeld (fun hHeld=> ?_);clear hKK KK;(try dsimp only at hHeld);(try simp only [fx,Act.put]);refine wpAnyG_ready (rs:=[18]) (by kernel_rfl) (by simp) ?_;refine AllReadyG.last rfl (fun KK hKK=> ?_);obtain ⟨hc18,hf18,hl18,hE18⟩:=F.out w8 gg cap hown8 hgrow hat
             go_simp;refine hKK.out _ _ ?_;clear hKK KK;refine wpAnyG_done (by kernel_rfl) ?_ _;obtain ⟨Vs2,Es2,cv2,g1,g2,g3,g4⟩:=hE18;subst g4;clear hown8 hgrow hat hlt8 hc18 hf18 hl18 hHeld F hR keepS;(go_wp2_with fail);go_roundw
             case rel=>exact ⟨k+1,Vs2,Es2,by omega,by go_num,g1,g2,g3⟩
             case measure=>simp [intOf];omega
           exact AllReadyG.nil
         exact AllReadyG.nil
       exact AllReadyG.nil
  · have hlt':¬(k:Int)<(mm:Int):=by omega
    have hall:L.take k=L:=List.take_of_length_le (by have:=Hx.out.len;omega);rw [hall] at hO hN;have hEN:Hid (Vs.length=partN i (mvT L)):=hP.out.len.symm.trans hN.out;have hV4:Vs.length≤1001:=by
     rw [hEN.out];refine partN_le fun t ht=> ?_;have h1:=HL.out.bdM t ht _ (nth_mem (xs:=t.1) (i:=i) (by rw [HL.out.lenM t ht];have:=Hni.out;omega));omega
    obtain ⟨Av,cv,hv⟩:=own_shapeP hP.out.own;subst hv;have t2:=Trio.new wp (.bool false) (.slice none 0 0) (.slice none 0 0);have hbn:Below wp.heap.size wp (wp.alloc (.cells #[.bool false,.slice none 0 0,.slice none 0 0] 51)):=bRr.alloc lRr _;(have hsn:wp.heap.size<(wp.alloc (.cells #[.bool false,.slice none 0 0,.slice none 0 0] 51)).heap.size:=by simp);(have hsw:w.heap.size<wp.heap.size:=by have:=hP.out.bel.size;have:=hsz.out;omega);(go_wp2_with fail);generalize hwq:wp.alloc (.cells #[.bool false,.slice none 0 0,.slice none 0 0] 51)=wt at*
    clear hwq;have T2:=hiD t2;have HBn:=hiD hbn;have HBo:Hid (Below w.heap.size w wp):=HB.out.tm hP.out.bel;have HBt:Hid (Below w.heap.size w wt):=HBo.out.tm hbn;have T0t:Hid (Trio wt w.heap.size (.bool false) (.slice none 0 0) (.slice none 0 0)):=(T0.out.bel hP.out.bel).bel hbn;clear t2 hbn;go_loopw [71] (fun ii wr=>∃(q:Nat) (E:List KE) (ov:Value),q≤Vs.length∧ii=.int .i64 (q:Int)∧Hid (E.length=q)∧Hid (TOut 51 (fun _=>False) (fun b=>b=wp.heap.size∨b=w.heap.size) w wt.heap.size wr m ov E (fun j=>(kids (plantP (m+1) i (mvT L))).co j))∧Hid (Trio wr wp.heap.size (.bool false) (.slice none 0 0) ov)∧Hid (Only (fun b=>b=wp.heap.size∨wt.heap.size≤b) wt wr)) (fun ii _=>Vs.length - (intOf ii).toNat)
    case atStart=>exact ⟨0,[],.slice none 0 0,Nat.zero_le _,rfl,rfl,TOut.start _ _ _ _ HBt.out HBt.out.size,T2.out,Only.refl _ _⟩
    case round=>
     obtain ⟨q,E,ov,hq,rfl,hE,hO2,hT,hon⟩:=hrel;obtain ⟨wq,rfl⟩:∃wq:World,wq=wr:=⟨_,rfl⟩;(have hX:Hid (∀b,(b=wp.heap.size∨b=w.heap.size)→w.heap.size≤b∧b<wt.heap.size):=fun b hb=>by omega);have P0:Hid (Trio wq w.heap.size (.bool false) (.slice none 0 0) (.slice none 0 0)):=T0t.out.keep (hon.out.block _ T0t.out.lt (by omega));have HBp:Hid (Below w.heap.size w wq):=hO2.out.bel;have HBq:Hid (Below wp.heap.size wp wq):=HBn.out.trans (hon.out.below (by have:=HBn.out.size;exact this) fun b hb=>by omega);by_cases hlq:q<Vs.length
     · obtain ⟨V,E',hV,hE',hrow⟩:=hP.out.at_ hlq
       obtain ⟨B,d,hVs,hd1,hd2,htr⟩:=trs_of_own hrow rfl fun x hx=>(hP.out.ok q E' hE' x hx).bel hP.out.bel;subst hVs;obtain ⟨vb,cv',hv,hvb1,hvb2⟩:=hP.out.own.form (by omega);injection hv with hv1 hv2 hv3
       subst hv1;subst hv3;have hcV:=hP.out.own.cellAt q (by omega);rw [hV] at hcV;have hcq:=(HBq.out.cell (p:=⟨vb,q,none⟩) hvb2).trans hcV;(have hlb:vb<wq.heap.size:=by have:=HBq.out.size;omega);(have hlq':(q:Int)<(Vs.length:Int):=by omega);(have hq0:(0:Int)≤(q:Int):=by omega);have hmv:Hid (plantP m (i+1) (mvT (E'.map (·.2)))=(kids (plantP (m+1) i (mvT L))).co q):=by
        show _=_;rw [hO.out.at_ q E' hE',plant_co,if_pos (by rw [← hEN.out];exact hlq)]
       have hsub:∀t∈E'.map (·.2),t∈L:=fun t ht=>by
        obtain ⟨x,hx,rfl⟩:=List.mem_map.1 ht;exact hO.out.sub q E' hE' x hx
       have hE'l:E'.length≤4096:=by
        have h1:=congrArg List.length (hO.out.at_ q E' hE');rw [mvT_length,List.length_map] at h1;have h2:(partL i q (mvT L)).length≤(mvT L).length:=List.length_filter_le _ _;rw [mvT_length] at h2;omega
       have hArg:Hid (Arg n C (E'.map (·.2))):=⟨fun t ht=>HL.out.len t (hsub t ht),fun t ht=>HL.out.bd t (hsub t ht),fun t ht=>HL.out.co t (hsub t ht),by rw [List.length_map];exact hE'l⟩;have Htr:=hiD htr;(have hmx:maxLen≤9223372036854775807:=by unfold maxLen;omega);have Cl:Hid (∀W,Below wq.heap.size wq W→Calls Tryz.prog 28 #[.int .i64 (n:Int),.int .i64 ((i:Int)+1),.slice B E'.length d] W (GivesTr (fun _=>False) W m ((kids (plantP (m+1) i (mvT L))).co q))):=fun W hW=>by
        have h:=ih n (i+1) B E'.length d (E'.map (·.2)) W (by have:=Hni.out;omega) hn (Htr.out.bel (HBq.out.tm hW)) hArg.out hd1 (by omega);rw [hmv.out,Int.natCast_add] at h;exact h
       have ewi:IntKind.i64.wrap ((i:Int)+1)=(i:Int)+1:=IntWalk.i64_in _ (by have:=Hni.out;omega);have HT:=hiD hT.out;have HO:=hiD hO2.out;(have q1:E.length+1≤maxLen:=by have:=hE.out;unfold maxLen;omega);(have q2:(E.length+1)*56≤140737488355328:=by have:=hE.out;omega);have HOW:=hiD (fun W (hW:Below wq.heap.size wq W)=>(HO.out.bel2 hW).own);(have hszo:Hid (∀(W:World) (ob:Obj),Below wq.heap.size wq W→wt.heap.size≤(W.alloc ob).heap.size):=fun W ob hW=>by have:=hW.size;have:=hon.out.size;simp;omega);have hlo:Hid (∀j,ov.ownBlock=some j→wt.heap.size≤j):=fun j hj=>(hO2.out.own.lt j hj).1;have F:Hid (∀(w7 w8:World) (x:KE) (gg cap:Nat),Below wq.heap.size wq w7→TreW (fun b=>False∨wq.heap.size≤b) m w7 x.v ((kids (plantP (m+1) i (mvT L))).co q)→w8.ownsRow wt.heap.size 51 3 (.slice (some ⟨gg,0,none⟩) (E.length+1) cap) (E.length+1) (kcells E++kcell x)→(w7.alloc (.cells #[.bool x.s,.slice x.A x.k x.c,.slice x.B x.m x.d] 51)).grownBy w8 ov.ownBlock→(ov.ownBlock=some gg∨gg=w7.heap.size+1)→
        Trio w8 wp.heap.size (.bool false) (.slice none 0 0) ov∧TOut 51 (fun _=>False) (fun b=>b=wp.heap.size∨b=w.heap.size) w wt.heap.size (w8.setCell ⟨wp.heap.size,2,none⟩ (.slice (some ⟨gg,0,none⟩) (E.length+1) cap)) m (.slice (some ⟨gg,0,none⟩) (E.length+1) cap) (E++[x]) (fun j=>(kids (plantP (m+1) i (mvT L))).co j)∧Only (fun b=>b=wp.heap.size∨wt.heap.size≤b) wt (w8.setCell ⟨wp.heap.size,2,none⟩ (.slice (some ⟨gg,0,none⟩) (E.length+1) cap))):=fun w7 w8 x gg cap hb7 hx hown hgr hat=>by
        have a7:Below w7.heap.size w7 (w7.alloc (.cells #[.bool x.s,.slice x.A x.k x.c,.slice x.B x.m x.d] 51)):=bRr.alloc lRr _;have o8:Only (fun b=>ov.ownBlock=some b) (w7.alloc (.cells #[.bool x.s,.slice x.A x.k x.c,.slice x.B x.m x.d] 51)) w8:=(Only.of_grown hgr).mono (fun i hi=>by first | exact hi | exact hi.symm);have t8:Trio w8 wp.heap.size (.bool false) (.slice none 0 0) ov:=by
         have t7:=((HT.out.bel hb7).bel a7);exact t7.keep (o8.block _ t7.lt fun e=>by have:=hlo.out _ e;omega)
        have hnx:=HO.out.next (x:=x) (o:=(.cells #[.bool x.s,.slice x.A x.k x.c,.slice x.B x.m x.d] 51)) (fun b hb=>hb.elim) (fun b hb=>by have:=hX.out b hb;have:=hon.out.size;omega) hb7 (by rw [hE.out];exact hx) hown hgr hat rfl;refine ⟨t8,hnx.box ((Only.refl (fun b=>b=wp.heap.size∨b=w.heap.size) w8).setCell (p:=⟨wp.heap.size,2,none⟩) (.inl rfl) _) (fun b hb=>hX.out b hb),?_⟩;have r0:=hon.out.size;have r2:Only (fun b=>b=wp.heap.size∨wt.heap.size≤b) wq w7:=(Only.of_below hb7).mono fun b hb=> .inr (by omega);have r4:Only (fun b=>b=wp.heap.size∨wt.heap.size≤b) (w7.alloc (.cells #[.bool x.s,.slice x.A x.k x.c,.slice x.B x.m x.d] 51)) w8:=o8.mono fun b hb=> .inr (hlo.out b hb);exact (((hon.out.trans r2).alloc _).trans r4).setCell (p:=⟨wp.heap.size,2,none⟩) (.inl rfl) _
       have co2:=hT.out.cell2;clear hT hO2 hon hV hE' hrow hcV htr hsub hP hO hN hEN hArg Htr hmv hall;unfold treV at Cl;(go_wp2_with fail);go_region_with (go_at_call 28;refine (Cl.out _ (by first | exact bRr.drew | exact bRr)).mono ?_;rintro e w7 ⟨s7,A7,k7,c7,B7,m7,d7,rfl,hv7,hb7'⟩;unfold treV;have hb7:Below wq.heap.size wq w7:=(by first | exact bRr.drew.trans hb7' | exact hb7');have cO:=(HT.out.bel hb7).cell2;have fO:=(HT.out.bel hb7).frozen 2;have lO:=(HT.out.bel hb7).lt;obtain ⟨gg,cap,w8,hrun8,hown8,hgrow,hat,hlt8⟩:=run_append_lies (w7.alloc (.cells #[.bool s7,.slice A7 k7 c7,.slice B7 m7 d7] 51)) 49 49 wt.heap.size 51 i0 _ 3 56 Tryz.underlying49 hi0 hz0 hz1 hz2 rfl (by omega) ov E.length (kcells E) ((HOW.out _ hb7).alloc _) ⟨w7.heap.size,0,none⟩ 1 1 [.bool s7,.slice A7 k7 c7,.slice B7 m7 d7] (by rfl) (World.news_of_block (cs:=#[.bool s7,.slice A7 k7 c7,.slice B7 m7 d7]) (t:=51) (fr:=(0,0)) (heap_alloc_new w7 _)) (by simp [Value.oneCell']) (Nat.one_pos) q1 q2 (hszo.out _ _ hb7) (w7.heap.size+1) (by simp);obtain ⟨t8,hO8,hon8⟩:=F.out w7 w8 ⟨s7,A7,k7,c7,B7,m7,d7⟩ gg cap hb7 hv7 hown8 hgrow hat;have f8:=t8.frozen 2;have c8:=t8.cell2)
       all_goals
        have T8:=hiD (t8.set2 (.slice (some ⟨gg,0,none⟩) (E.length+1) cap));have HO8:=hiD hO8;have Hon8:=hiD hon8;(have HE8:Hid ((E++[(⟨s7,A7,k7,c7,B7,m7,d7⟩:KE)]).length=q+1):=by show _=_;rw [List.length_append,hE.out];rfl);clear t8 hO8 hon8 hown8 hgrow hat hlt8 hrun8 hv7 hb7 hb7' F HOW hszo HT Cl cO fO lO f8 c8 co2 hE;(go_wp2_with fail);go_roundw
        case rel=>exact ⟨q+1,_,_,by omega,by go_num,HE8,HO8,T8,Hon8⟩
        case measure=>simp [intOf];omega
     · have hlq':¬(q:Int)<(Vs.length:Int):=by omega
       obtain ⟨B9,d9,hov,p1,p2,p3⟩:=hO2.out.row (fun b hb=>(hX.out b hb).2);subst hov;have hsh:Hid ((kids (plantP (m+1) i (mvT L))).Sh E.length):=by
        have h:=plant_sh m i (mvT L);rw [← hEN.out] at h;exact h.mono (by have:=hE.out;omega)
       have Q3:=hiD p3;have hKs:Hid (∀j,Siz.nm ((kids (plantP (m+1) i (mvT L))).co j)<2^(64*(C+1))):=fun j=>Nat.lt_of_le_of_lt (Nat.le_trans (Poly.nmP_co _ j) (plant_nm (m+1) i (mvT L))) hab.out;have Ct:=hiD (fun W (hW:Below wq.heap.size wq W)=>mtrim (fun b=>(False∨w.heap.size≤b)∧¬(b=wp.heap.size∨b=w.heap.size)) m W B9 E.length d9 (kids (plantP (m+1) i (mvT L))) (Q3.out.bel hW) hsh.out p1 p2 (by have:=Hni.out;omega) (C+1) (by omega) hKs.out);have t70:=hT.out.cell0;have t71:=hT.out.cell1;have t72:=hT.out.cell2;(have ewm:IntKind.i64.wrap ((n:Int) - (i:Int))=(m:Int)+1:=by rw [IntWalk.i64_in _ (by have:=Hni.out;omega)];have:=Hni.out;omega);clear p3 hE hO2 hon hP hO hN hEN;unfold treV at Ct;(go_wp2_with fail);refine (Ct.out _ bRr).mono ?_;rintro e w1 ⟨s1,A1,k1,c1,B1,m1,d1,rfl,hv1,hb1⟩;have T3':=hiD (P0.out.bel hb1);have r0:=T3'.out.cell0;have r1:=T3'.out.cell1;have r2:=T3'.out.cell2;have r3:=T3'.out.frozen 0;have r4:=T3'.out.frozen 1;have r5:=T3'.out.frozen 2;have F:Hid (TreW (fun b=>False∨w.heap.size≤b) (m+1) (((w1.setCell ⟨w.heap.size,0,none⟩ (.bool s1)).setCell ⟨w.heap.size,1,none⟩ (.slice A1 k1 c1)).setCell ⟨w.heap.size,2,none⟩ (.slice B1 m1 d1)) (treV s1 A1 k1 c1 B1 m1 d1) (plantP (m+1) i (mvT L))):=
        TreW.only (trio_only w1 w.heap.size _ _ _) (fun b hb e=>by
         have h9:=P0.out.lt;rcases hb with hb | hb
         · exact hb.2 (.inr e)
         · omega) (fun b hb=>by
         have h9:=HBp.out.size;rcases hb with hb | hb
         · exact hb.1
         · exact .inr (by omega)) hv1
       have hb2:Below w.heap.size w w1:=HBp.out.tm hb1;have hb':Hid (Below w.heap.size w (((w1.setCell ⟨w.heap.size,0,none⟩ (.bool s1)).setCell ⟨w.heap.size,1,none⟩ (.slice A1 k1 c1)).setCell ⟨w.heap.size,2,none⟩ (.slice B1 m1 d1))):=((hb2.setCell (p:=⟨w.heap.size,0,none⟩) lRr _).setCell (p:=⟨w.heap.size,1,none⟩) lRr _).setCell (p:=⟨w.heap.size,2,none⟩) lRr _;clear hv1 hb1 hb2 Ct;unfold treV;(go_wp2_with fail);exact bodyPost_ret (v:=.agg #[.bool s1,.slice A1 k1 c1,.slice B1 m1 d1]) (results_cell_row (fn:=Tryz.f28) rfl _ _ _ _ _ _ _ rfl (T3'.out.set (.bool s1) (.slice A1 k1 c1) (.slice B1 m1 d1)) Tryz.underlying51 rfl apoly_size) rfl
        ⟨s1,A1,k1,c1,B1,m1,d1,rfl,F.out,hb'.out⟩
theorem mplanted (C:Nat) (hC:C≤1000000):∀m,PlantN m C
 | 0=>mplant0 C hC
 | m+1=>mplantS C hC m (mplanted C hC m)
end Go.Proofs.YtehcoffbiplphaaGreat
