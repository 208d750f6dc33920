/- Contract: the rest of so many times a tree, by another one (printed by gen/mrest.py). -/
import Derived.Test.YtehcoffbiplphaaGreatSIv
set_option linter.unusedVariables false
set_option linter.unusedSimpArgs false
set_option maxHeartbeats 16000000
set_option maxRecDepth 100000
namespace Cl
open CRing
theorem TreW.kidsV {S:Nat→Prop} {n:Nat} {w:Go.World} {s:Bool} {A:Option Go.Addr} {k c:Nat} {B:Option Go.Addr} {m d:Nat} {f:Pn (n+1)}(h:TreW S (n+1) w (treV s A k c B m d) f):s=false∧A=none∧k=0∧c=0∧m=(kids f).len:=by
 obtain ⟨B',c',e,_⟩:=h
 unfold treV at e
 simp only [Go.Value.agg.injEq,Array.mk.injEq,List.cons.injEq,Go.Value.bool.injEq,Go.Value.slice.injEq] at e
 obtain ⟨e1,⟨e2,e3,e4⟩,⟨_,e5,_⟩,_⟩:=e
 exact ⟨e1,e2,e3,e4,e5⟩
theorem nm_C {n:Nat}(x:Pn n):Siz.nm (mkK (Poly.C x))=Siz.nm x:=by
 rw [nm_kids,kids_mk]
 exact nmP_C x
theorem dg_C {n:Nat} {E:Nat→Nat} {x:Pn n}(h:Siz.dg E x):Siz.dg (Poly.consD 0 E) (mkK (Poly.C x)):=(show Poly.dgP (Poly.consD 0 E) (kids (mkK (Poly.C x))) from dgP_C h)
section
open Go Go.RowKit
theorem look_new (w:World) (a:Obj):(w.alloc a).heap[w.heap.size]? =some a:=heap_alloc_new w a
theorem look_new1 (w:World) (a b:Obj):((w.alloc a).alloc b).heap[w.heap.size+1]? =some b:=by
 have h:=heap_alloc_new (w.alloc a) b
 rwa [World.size_alloc] at h
theorem look_old {w:World} {g:Nat} {o:Obj}(h:w.heap[g]? =some o) (a:Obj):(w.alloc a).heap[g]? =some o:=by
 rw [heap_alloc_old w a (Array.getElem?_eq_some_iff.1 h).1]
 exact h
theorem look_bel {w w':World} {g:Nat} {o:Obj}(hb:Below w.heap.size w w') (h:w.heap[g]? =some o):w'.heap[g]? =some o:=(hb.block g (Array.getElem?_eq_some_iff.1 h).1).trans h
theorem bel_alloc {w0 w:World}(h:Below w0.heap.size w0 w) (o:Obj):Below w0.heap.size w0 (w.alloc o):=h.alloc h.size o
theorem grown_row {w0 W w':World} {gM k:Nat}(h:Below w0.heap.size w0 W) (hg:W.grownBy w' (Value.ownBlock (.slice (some ⟨gM,0,none⟩) k k))) (hle:w0.heap.size≤gM):Below w0.heap.size w0 w':=h.grown hg h.size fun j hj=>by
 have e:gM=j:=by injection hj
 rw [← e]
 exact hle
theorem own_made {W:World} {g m base:Nat} {T:TypeId}(h:W.heap[g]? =some (.cells (madeCells #[Value.bool false,.slice none 0 0,.slice none 0 0] (m*3)) T (0,0))) (hb:base≤g) (hm:m≤maxLen):W.ownsRow base T 3 (.slice (some ⟨g,0,none⟩) m m) m (kcells (List.replicate m KE.nought)):=
 ⟨by rw [kcells_length,List.length_replicate],.inr ⟨g,m,_,rfl,hb,h,lRr,hm,size_madeCells _ _,by
   rw [made_noughts];refine List.take_of_length_le ?_;rw [kcells_length,List.length_replicate];exact lRr⟩⟩
theorem part_tree {S Q:Nat→Prop} {n:Nat} {W w':World} {T:TypeId} {base g gM k cap:Nat} {x:KE} {c:Pn n}(hown:w'.ownsRow base T 3 (.slice (some ⟨g,0,none⟩) (k+1) cap) (k+1) (kcells (List.replicate k KE.nought)++kcell x)) (hgr:W.grownBy w' (Value.ownBlock (.slice (some ⟨gM,0,none⟩) k k))) (hx:TreW S n W x.v c) (hne:∀b,S b→b≠gM) (c0:c≠0) (hQ:∀b,S b→b<W.heap.size→Q b) (hg:Q g):
 TreW Q (n+1) w' (treV false none 0 0 (some ⟨g,0,none⟩) (k+1) cap) (mkK (Poly.mono k c)):=by
 have hl:(kids (mkK (Poly.mono k c))).len=k+1:=Poly.mono_ne c0
 have hcap:k+1≤cap∧cap≤maxLen:=by
  rcases hown.2 with ⟨hv,_⟩ | ⟨g',cap',cur,hv,_,_,h3,h4,_⟩
  · injection hv with e;cases e
  · injection hv with _ _ e
    subst e;exact ⟨h3,h4⟩
 have hmx:maxLen≤9223372036854775807:=by unfold maxLen;omega
 have hL:(List.replicate k KE.nought++[x]).length=k+1:=by simp
 rw [← kcells_snoc] at hown
 refine ⟨some ⟨g,0,none⟩,cap,by rw [hl],by rw [hl];exact hcap.1,by omega,fun _=>⟨g,0,rfl,hg,(hown.lt g rfl).2,fun i hi=> ?_⟩⟩
 rw [hl] at hi
 obtain ⟨t0,t1,t2⟩:=kcells_get (L:=List.replicate k KE.nought++[x]) (i:=i) (by omega)
 have c0:=hown.cells (g:=g) rfl (i*3) _ t0
 have c1:=hown.cells (g:=g) rfl (i*3+1) _ t1
 have c2:=hown.cells (g:=g) rfl (i*3+2) _ t2
 rw [Go.WideShapes.add_plain] at c0 c1 c2
 refine ⟨_,_,_,_,_,_,_,c0,c1,c2,?_⟩
 show TreW Q n w' (List.replicate k KE.nought++[x])[i].v ((kids (mkK (Poly.mono k c))).co i)
 rw [kids_mk,Poly.co_mono]
 by_cases e:i=k
 · subst e
   rw [if_pos rfl,List.getElem_append_right (by simp)];simp only [List.length_replicate,Nat.sub_self,List.getElem_cons_zero];have o3:Only (fun b=>gM=b) W w':=(Only.of_grown hgr).mono fun j hj=>by
    (have h5:Value.ownBlock (.slice (some ⟨gM,0,none⟩) i i)=some j:=by first | exact hj | exact hj.symm);injection h5
   exact hx.here.only o3 (fun b hb e=>hne b hb.1 e.symm) fun b hb=>hQ b hb.1 hb.2
 · rw [if_neg e,List.getElem_append_left (by simp;omega),List.getElem_replicate]
   exact TreW.nought _ _ n
theorem In.part {w0 V V':World} {a0 a:Act} {sp:List Sp} {B:Nat→Option Nat} {L:Array Bool} (h:In w0 a0 sp B L a V) (k:Nat) {i d u:Nat} {Q:Nat→Prop} {n m:Nat} {c:Pn n} (hs:sp[k]? =some ⟨i,d,u,KA Q (n+1) (mkK (Poly.mono m c)) (m+1)⟩) (hr:L.getD i true=false) (km:Nat) {im dm:Nat} {KM:Value→World→(Nat→Option Nat)→Prop} (hm:sp[km]? =some ⟨im,dm,i,KM⟩) {g:Nat} (hg:B im=some g) (hle:w0.heap.size≤g) (hgr:V.grownBy V' (Value.ownBlock (.slice (some ⟨g,0,none⟩) m m))) {T:TypeId} {x:KE} {base g8 cap:Nat} (hown:V'.ownsRow base T 3 (.slice (some ⟨g8,0,none⟩) (m+1) cap) (m+1) (kcells (List.replicate m KE.nought)++kcell x)) (hat:Value.ownBlock (.slice (some ⟨g,0,none⟩) m m)=some g8∨g8=V.heap.size) (t:TreW (fun b=>Q b∧∀j,B j≠some b) n V x.v c) (c0:c≠0) (hQ:∀b,w0.heap.size≤b→Q b):∃B,In w0 a0 sp B (L.setIfInBounds i true) { tmps:=a.tmps.setIfInBounds d (.slice (some ⟨g8,0,none⟩) (m+1) cap),defers:=a.defers } V':=by
 have h8:g8=g∨g8=V.heap.size:=hat.imp (fun e=>by injection e with e;exact e.symm) id
 refine h.app k hs hr km hm hg (grown_row h.bel hgr hle) ((Only.of_grown hgr).mono fun j hj=>by injection hj with hj;exact hj.symm) ⟨g8,cap,rfl,part_tree hown hgr t (fun b hb e=>hb.2 im (e ▸ hg)) c0 (fun b hb _=>⟨hb.1,fun j e=> ?_⟩) ⟨?_,fun j e=> ?_⟩⟩
 · dsimp only at e
   split at e
   · cases e
   · exact hb.2 j e
 · have:=h.bel.size
   rcases h8 with e | e
   · exact hQ _ (by omega)
   · exact hQ _ (by omega)
 · dsimp only at e
   split at e
   · cases e
   · rename_i e2
     rcases h8 with e3 | e3
     · rw [e3] at e;exact e2 (h.inj _ _ _ e hg)
     · have:=(h.lt _ _ e).2;omega
end
end Cl
namespace Go.Proofs.YtehcoffbiplphaaGreat
open Go.RowKit Cl CRing
attribute [local go_sem ↓] Go.wp_at_zero Go.wp_at_succ
theorem mrest (n K:Nat) (hK:K≤3900000000000) (hn:n≤98) (S:Nat→Prop) (w:World) (u v:Value) (f q:Pn (n+1)) (D E:Nat→Nat) (hf:TreW S (n+1) w u f) (hq:TreW S (n+1) w v q) (q0:q≠0) (df:Siz.dg D f) (dq:Siz.dg E q) (hDE:∀j,D j+((kids f).len+2)*E j<1000000000000) (nq:Siz.nm q<2^(64*K)) (hN:(2*Siz.nm q)^((kids f).len+1 - (kids q).len)*Siz.nm f<2^(64*K)):
 Calls Tryz.prog 54 #[u,.int .i64 ((n:Int)+1),v] w (fun e w'=>∃r k,Poly.RI (kids f) (kids q) D E k (kids r)∧(kids r).len<(kids q).len∧GivesTr S w (n+1) r e w'):=by
 have df':Poly.dgP D (kids f):=df
 have dq':Poly.dgP E (kids q):=dq
 have hlq:0<(kids q).len:=Nat.pos_of_ne_zero fun e=>q0 (len_zero_iff.1 e)
 have hlf:(kids f).len<1000000000001:=by
  have h1:=Poly.len_le df'.1;have h3:=hDE 0;have:D 0≤D 0+((kids f).len+2)*E 0:=Nat.le_add_right _ _;omega
 have hlq2:(kids q).len<1000000000001:=by
  have h1:=Poly.len_le dq'.1;have h3:=hDE 0;have:1*E 0≤((kids f).len+2)*E 0:=Nat.mul_le_mul_right _ (by omega);omega
 obtain ⟨Bf,cf,rfl,h1,h2,h3⟩:=id hf
 obtain ⟨Bq,cq,rfl,i1,i2,i3⟩:=id hq
 clear h3 i3
 have hf':=hf.here
 have hq':=hq.here
 have t0:=((Trio.new w (.bool false) (.slice none 0 0) (.slice Bf (kids f).len cf)).bel (bRr.alloc lRr (.cells #[.bool false,.slice none 0 0,.slice Bq (kids q).len cq] 51))).bel (bRr.alloc lRr (.cells #[.bool false,.slice none 0 0,.slice none 0 0] 51))
 have t1:=(Trio.new (w.alloc (.cells #[.bool false,.slice none 0 0,.slice Bf (kids f).len cf] 51)) (.bool false) (.slice none 0 0) (.slice Bq (kids q).len cq)).bel (bRr.alloc lRr (.cells #[.bool false,.slice none 0 0,.slice none 0 0] 51))
 have t2:=Trio.new ((w.alloc (.cells #[.bool false,.slice none 0 0,.slice Bf (kids f).len cf] 51)).alloc (.cells #[.bool false,.slice none 0 0,.slice Bq (kids q).len cq] 51)) (.bool false) (.slice none 0 0) (.slice none 0 0)
 rw [World.size_alloc] at t1
 rw [World.size_alloc,World.size_alloc] at t2
 have hb:Below w.heap.size w (((w.alloc (.cells #[.bool false,.slice none 0 0,.slice Bf (kids f).len cf] 51)).alloc (.cells #[.bool false,.slice none 0 0,.slice Bq (kids q).len cq] 51)).alloc (.cells #[.bool false,.slice none 0 0,.slice none 0 0] 51)):=((bRr.alloc lRr _).alloc (by simp) _).alloc (by simp;omega) _
 have hsz:(((w.alloc (.cells #[.bool false,.slice none 0 0,.slice Bf (kids f).len cf] 51)).alloc (.cells #[.bool false,.slice none 0 0,.slice Bq (kids q).len cq] 51)).alloc (.cells #[.bool false,.slice none 0 0,.slice none 0 0] 51)).heap.size=w.heap.size+1+1+1:=by simp
 have HF:Hid (TreW (fun b=>(S b∧b<w.heap.size)∨w.heap.size+1+1+1≤b) (n+1) (((w.alloc (.cells #[.bool false,.slice none 0 0,.slice Bf (kids f).len cf] 51)).alloc (.cells #[.bool false,.slice none 0 0,.slice Bq (kids q).len cq] 51)).alloc (.cells #[.bool false,.slice none 0 0,.slice none 0 0] 51)) (.agg #[.bool false,.slice none 0 0,.slice Bf (kids f).len cf]) f):=(hf'.bel hb).mono fun b hb=> .inl hb
 have HQ:=hiD hq'
 have Ddq:=hiD dq'
 have Ddf:=hiD df'
 have HDE:=hiD hDE
 clear hf hq hf' hq' df dq df' dq' hDE
 unfold treV
 go_enter Tryz.func54,Tryz.ntmps54
 go_wp2_with fail
 generalize hwt:((w.alloc (.cells #[.bool false,.slice none 0 0,.slice Bf (kids f).len cf] 51)).alloc (.cells #[.bool false,.slice none 0 0,.slice Bq (kids q).len cq] 51)).alloc (.cells #[.bool false,.slice none 0 0,.slice none 0 0] 51)=wt at*
 clear hwt
 have T0:=hiD t0
 have T1:=hiD t1
 have T2:=hiD t2
 have HB:=hiD hb
 clear t0 t1 t2 hb
 go_loopg [] ((kids f).len+1) (fun gk wr=>∃(f':Pn (n+1)) (k:Nat) (Bp:Option Addr) (cp:Nat),(kids f').len<gk∧Hid (Poly.RI (kids f) (kids q) D E k (kids f'))∧Hid (Trio wr w.heap.size (.bool false) (.slice none 0 0) (.slice Bp (kids f').len cp))∧Hid (TreW (fun b=>(S b∧b<w.heap.size)∨w.heap.size+1+1+1≤b) (n+1) wr (.agg #[.bool false,.slice none 0 0,.slice Bp (kids f').len cp]) f')∧Hid (Only (fun b=>b=w.heap.size∨wt.heap.size≤b) wt wr))
 case atStart=>exact ⟨f,0,Bf,cf,by omega,Poly.RI.start _ _ _ Ddf.out,T0,HF,Only.refl _ _⟩
 case round=>
  clear T0 HF;obtain ⟨f',k,Bp,cp,hg,hI,hT,hV,hon⟩:=hrel;obtain ⟨wp,rfl⟩:∃wp:World,wp=wr:=⟨_,rfl⟩;have P1:Hid (Trio wp (w.heap.size+1) (.bool false) (.slice none 0 0) (.slice Bq (kids q).len cq)):=T1.out.keep (hon.out.block _ T1.out.lt (by omega));have P2:Hid (Trio wp (w.heap.size+1+1) (.bool false) (.slice none 0 0) (.slice none 0 0)):=T2.out.keep (hon.out.block _ T2.out.lt (by omega));have HBp:Hid (Below w.heap.size w wp):=HB.out.trans (hon.out.below (Nat.le_of_lt (by omega)) fun b hb=>by omega);have a0:=hT.out.cell0;have a1:=hT.out.cell1;have a2:=hT.out.cell2;have b0:=P1.out.cell0;have b1:=P1.out.cell1;have b2:=P1.out.cell2;have hkl:=hI.out.len;have hwz:=hon.out.size;by_cases hlt:(kids q).len≤(kids f').len
  · have hlt':((kids q).len:Int)≤((kids f').len:Int):=by omega
    obtain ⟨m,hm⟩:∃m:Nat,(kids f').len - (kids q).len=m:=⟨_,rfl⟩;(have ew3:IntKind.i64.wrap (((kids f').len:Int) - ((kids q).len:Int))=(m:Int):=by rw [IntWalk.i64_in _ (by omega)];omega);have hmk:=make_polys m (by omega);obtain ⟨i0,hi0,hz0,hz1,hz2⟩:=info_parts poly_infoT;(have hf0:0<(kids f').len:=by omega);have hlc0:(kids f').lc≠0:=Poly.len_top hf0;(have hmx:m≤maxLen:=by unfold maxLen;omega);(have hq1:m+1≤maxLen:=by unfold maxLen;omega);(have hq2:(m+1)*56≤140737488355328:=by omega);have t_F:=hV.out.here;have CL:Hid (∀(T:Nat→Prop) (V:World),Below wp.heap.size wp V→TreW T (n+1) V (.agg #[.bool false,.slice none 0 0,.slice Bp (kids f').len cp]) f'→Calls Tryz.prog 84 #[.agg #[.bool false,.slice none 0 0,.slice Bp (kids f').len cp]] V (GivesTr T V n (kids f').lc)):=fun T V _ h=>mlast T n V _ f' h hf0;have HT:=hT;have hV':=hV;(go_wp2_with fail);have keepS:Hid (∀V,Below wp.heap.size wp V→(fun V=>V.cell? ⟨w.heap.size,0,none⟩=some (.bool false)∧V.cell? ⟨w.heap.size,1,none⟩=some (.slice none 0 0)∧V.cell? ⟨w.heap.size,2,none⟩=some (.slice Bp (kids f').len cp)∧V.cell? ⟨w.heap.size+1,2,none⟩=some (.slice Bq (kids q).len cq)) V):=fun V hV=>⟨(HT.out.bel hV).cell0,(HT.out.bel hV).cell1,(HT.out.bel hV).cell2,(P1.out.bel hV).cell2⟩;go_cut [7] (fun s7 wx=>∃(g7 gg cap:Nat),s7=.pointer (some ⟨g7,0,none⟩)∧wp.heap.size≤g7∧Hid (Trio wx g7 (.bool false) (.slice none 0 0) (.slice (some ⟨gg,0,none⟩) (m+1) cap))∧Hid (TreW (fun b=>(S b∧b<w.heap.size)∨w.heap.size+1+1+1≤b) (n+1) wx (.agg #[.bool false,.slice none 0 0,.slice (some ⟨gg,0,none⟩) (m+1) cap]) (mkK (Poly.mono m (kids f').lc)))∧Hid (Below wp.heap.size wp wx))
    case first=>
     refine wp_regionG (S:=fun V=>V.cell? ⟨w.heap.size,0,none⟩=some (.bool false)∧V.cell? ⟨w.heap.size,1,none⟩=some (.slice none 0 0)∧V.cell? ⟨w.heap.size,2,none⟩=some (.slice Bp (kids f').len cp)∧V.cell? ⟨w.heap.size+1,2,none⟩=some (.slice Bq (kids q).len cq)) (z:=14) (by kernel_rfl) ?_;have hHeld:=keepS.out _ (Below.refl wp.heap.size wp).drew;(try dsimp only at hHeld);refine tk 14 0 (.pointer (some ⟨w.heap.size,2,none⟩)) rfl hHeld ?_;(try simp only [fx,Act.put]);refine tk 14 1 (.slice Bp (kids f').len cp) rfl hHeld ?_;(try simp only [fx,Act.put]);refine tk 14 2 (.int .i64 ((kids f').len:Int)) rfl hHeld ?_;(try simp only [fx,Act.put]);refine tk 14 3 (.pointer (some ⟨w.heap.size+1,2,none⟩)) rfl hHeld ?_;(try simp only [fx,Act.put]);refine tk 14 4 (.slice Bq (kids q).len cq) rfl hHeld ?_;(try simp only [fx,Act.put]);refine tk 14 5 (.int .i64 ((kids q).len:Int)) rfl hHeld ?_;(try simp only [fx,Act.put]);refine tk 14 6 (.int .i64 (m:Int)) rfl hHeld ?_;(try simp only [fx,Act.put]);refine tk 14 8 (.agg #[.bool false,.slice none 0 0,.slice Bp (kids f').len cp]) rfl hHeld ?_;(try simp only [fx,Act.put]);have iq:Hid (∀b,wp.heap.size≤b→(fun b=>(S b∧b<w.heap.size)∨w.heap.size+1+1+1≤b) b):=fun b hb=> .inr (by omega);refine wpAnyG_iv (w0:=wp) [⟨7,22,11,KB wp 7 (.cells (madeCells #[Value.bool false,.slice none 0 0,.slice none 0 0] (m*3)) 51) (fun g=> .slice (some ⟨g,0,none⟩) m m)⟩,⟨9,24,9,KT (fun b=>(S b∧b<w.heap.size)∨w.heap.size+1+1+1≤b) n (fun x=>(kids f').lc=x)⟩,⟨10,25,10,KO wp (fun b=>(S b∧b<w.heap.size)∨w.heap.size+1+1+1≤b) n (kids f').lc 51 (fun g=> .slice (some ⟨g,0,none⟩) 1 1)⟩,⟨11,26,11,KA (fun b=>(S b∧b<w.heap.size)∨w.heap.size+1+1+1≤b) (n+1) (mkK (Poly.mono m (kids f').lc)) (m+1)⟩,⟨12,27,12,KA1 (fun b=>(S b∧b<w.heap.size)∨w.heap.size+1+1+1≤b) (n+1) (mkK (Poly.mono m (kids f').lc)) (m+1)⟩,⟨13,7,13,KB wp 13 (.cells #[.bool false,.slice none 0 0,.slice none 0 0] 51) (fun g=> .pointer (some ⟨g,0,none⟩))⟩] [7,9,10,11,12,13] [22,24,25,26,27,7] [14] #[true,true,true,true,true,true,true,true,true,true,true,true,true,true,false] 1 rfl rfl (by kernel_rfl) rfl rfl (Below.refl wp.heap.size wp).drew (fc KB.keeps (fc KT.keeps (fc KO.keeps (fc KA.keeps (fc KA1.keeps (fc KB.keeps (fn))))))) (fc ?_ (fc ?_ (fc ?_ (fc ?_ (fc ?_ (fc ?_ (fn))))))) ?_
     · intro L a V B hr hd h
       have r21:=h.old 21 rfl rfl;refine iv_step rfl fun KK hKK=> ?_;go_simp;exact hKK.out _ _ (keepS.out _ (h.bel.alloc h.bel.size _)) (h.box 0 rfl hr)
     · intro L a V B hr hd h
       have r23:=h.old 23 rfl rfl;refine iv_step rfl fun KK hKK=> ?_;go_simp;refine (CL.out _ V h.bel (h.tree t_F)).mono ?_;rintro e w' ⟨s0,A0,k0,c0,B0,m0,d0,rfl,hv,hb⟩;unfold treV;(go_wp2_with fail);exact hKK.out _ _ (keepS.out _ (h.bel.tm hb)) (h.put 1 rfl hr hb ⟨_,s0,A0,k0,c0,B0,m0,d0,rfl,rfl,h.res iq.out hv⟩)
     · intro L a V B hr hd h
       obtain ⟨_,qL,_,sL,AL,kL,cL,BL,mL,dL,rfl,rfl,tL⟩:=h.get 1 rfl (hd 9 (by kernel_rfl)) (.inl rfl);refine iv_step rfl fun KK hKK=> ?_;go_simp;exact hKK.out _ _ (keepS.out _ (h.bel.alloc h.bel.size _)) (h.own 2 rfl hr tL.out)
     · intro L a V B hr hd h
       obtain ⟨_,qM,gM,rfl,hM,lM,BM⟩:=h.get 0 rfl (hd 7 (by kernel_rfl)) (.inr (ld_un hr));obtain ⟨_,qB,gB,sB,AB,kB,cB,BB,mB,dB,rfl,hB,lB,tB,nB⟩:=h.get 2 rfl (hd 10 (by kernel_rfl)) (.inl rfl);refine iv_step rfl fun KK hKK=> ?_;refine step_append_lies _ (by rfl) _ _ _ (by rfl) wp.heap.size 51 i0 _ 3 56 Tryz.underlying49 hi0 hz0 hz1 hz2 rfl (by omega) _ m _ (ev qM) (own_made lM.out hM hmx) ⟨gB,0,none⟩ 1 1 [.bool sB,.slice AB kB cB,.slice BB mB dB] (ev qB) (by rfl) (World.news_of_block lB.out) (by simp [Value.oneCell']) Nat.one_pos hq1 hq2 h.bel.size _ rfl ?_;intro g8 cap w8 hown hgrow hat _;exact hKK.out _ _ (keepS.out _ (grown_row h.bel hgrow hM)) (h.part 3 rfl hr 0 rfl BM hM hgrow (x:=⟨sB,AB,kB,cB,BB,mB,dB⟩) hown hat tB.out hlc0 iq.out)
     · intro L a V B hr hd h
       obtain ⟨_,qA,gA,capA,rfl,tA⟩:=h.get 3 rfl (hd 11 (by kernel_rfl)) (.inl rfl);refine iv_step rfl fun KK hKK=> ?_;go_simp;exact hKK.out _ _ (keepS.out _ h.bel) (h.put 4 rfl hr bRr ⟨gA,capA,rfl,tA⟩)
     · intro L a V B hr hd h
       refine iv_step rfl fun KK hKK=> ?_;go_simp;exact hKK.out _ _ (keepS.out _ (h.bel.alloc h.bel.size _)) (h.box 5 rfl hr)
     intro a9 wv B h;obtain ⟨_,qM⟩:=h.has 0 rfl rfl;obtain ⟨_,qL,_,sL,AL,kL,cL,BL,mL,dL,rfl,rfl,tL⟩:=h.get 1 rfl rfl (.inl rfl);obtain ⟨_,qB,gB,sB,AB,kB,cB,BB,mB,dB,rfl,hB,lB,tB,nB⟩:=h.get 2 rfl rfl (.inl rfl);obtain ⟨_,qA,gA,capA,rfl,tA⟩:=h.get 3 rfl rfl (.inl rfl);obtain ⟨_,qU,gU,capU,rfl,tU⟩:=h.get 4 rfl rfl (.inl rfl);obtain ⟨_,qX,gX,rfl,hX,lX,BX⟩:=h.get 5 rfl rfl (.inl rfl);have hV:=hiD h.bel;have hz9:=h.bel.size;have tX:Hid (Trio wv gX (.bool false) (.slice none 0 0) (.slice none 0 0)):=lX.out;have v0:=tX.out.cell0;have f0:=tX.out.frozen 0;have v1:=tX.out.cell1;have f1:=tX.out.frozen 1;have v2:=tX.out.cell2;have f2:=tX.out.frozen 2;obtain rfl:=h.act [(22,_),(24,_),(25,_),(26,_),(27,_),(7,_)] rfl (fc qM (fc qL (fc qB (fc qA (fc qU (fc qX (fn)))))));simp only [List.foldr];(try simp only [fx,Act.put]);refine wpAnyG_ready (rs:=[14]) (by kernel_rfl) (by simp) ?_;refine AllReadyG.last rfl (fun KK hKK=> ?_);go_simp;refine hKK.out _ _ ?_;clear hKK KK;refine wpAnyG_done (by kernel_rfl) ?_ _;(go_wp2_with fail);go_meet
     exact ⟨gX,gU,capU,rfl,hX,tX.out.set _ _ _,tU.out.only (trio_only wv gX _ _ _) (fun b hb e=>hb.2 13 (e ▸ BX)) (fun b hb=>hb.1),bel_trio hV.out hX _ _ _⟩
    case rest=>
     obtain ⟨g7,gg,cap,rfl,hg7,hT7,hV7,hB7⟩:=hcut;obtain ⟨wy,rfl⟩:∃V:World,V=wc:=⟨_,rfl⟩;have HT3:=hiD (hT.out.bel hB7.out);have P13:=hiD (P1.out.bel hB7.out);have HT7:=hT7;have hsy:=hB7.out.size;(have hR:k+1≤(kids f).len+1 - (kids q).len:=by omega);have hq1':1≤Siz.nm q:=Siz.nm_pos q q0;have hnf':Siz.nm f'*(2*Siz.nm q)<2^(64*K):=by
      refine Nat.lt_of_le_of_lt ?_ hN;have h5:Siz.nm f'≤(2*Siz.nm q)^k*Siz.nm f:=hI.out.nm;have h6:(2*Siz.nm q)^(k+1)≤(2*Siz.nm q)^((kids f).len+1 - (kids q).len):=Nat.pow_le_pow_right (by omega) hR;refine Nat.le_trans (Nat.mul_le_mul_right _ h5) (Nat.le_trans (Nat.le_of_eq ?_) (Nat.mul_le_mul_right _ h6));rw [Nat.pow_succ];ac_rfl
     have nf1:Siz.nm f'<2^(64*K):=Nat.lt_of_le_of_lt (Nat.le_mul_of_pos_right _ (by omega)) hnf';have nlq:Siz.nm (kids q).lc≤Siz.nm q:=nmP_C_leT q _;have nlf:Siz.nm (mkK (Poly.mono m (kids f').lc))≤Siz.nm f':=by
      rw [nm_kids,kids_mk];exact Nat.le_trans (Poly.nmP_monoC m _) (nmP_C_leT f' _)
     have nfq:Siz.nm f'*Siz.nm q<2^(64*K):=Nat.lt_of_le_of_lt (Nat.mul_le_mul_left _ (by omega)) hnf';have nC:Siz.nm (f'*mkK (Poly.C (kids q).lc))<2^(64*K):=Nat.lt_of_le_of_lt (Nat.le_trans (Siz.nm_mul _ _) (Nat.mul_le_mul_left _ (Nat.le_trans (Nat.le_of_eq (nm_C (kids q).lc)) nlq))) nfq;have nT:Siz.nm (mkK (Poly.mono m (kids f').lc)*q)<2^(64*K):=Nat.lt_of_le_of_lt (Nat.le_trans (Siz.nm_mul _ _) (Nat.mul_le_mul_right _ nlf)) nfq;have hlq0:(kids q).lc≠0:=Poly.len_top hlq;have dE0:Hid (∀j,(D (j+1)+k*E (j+1))+E (j+1)<1000000000000):=fun j=>by
      have h5:=HDE.out (j+1);have h6:(k+1)*E (j+1)≤((kids f).len+2)*E (j+1):=Nat.mul_le_mul_right _ (by omega);rw [Nat.add_mul,Nat.one_mul] at h6;omega
     have df':Poly.dgP (Poly.consD ((kids f').len - 1) (fun j=>D (j+1)+k*E (j+1))) (kids f'):=⟨(Poly.len_sh _).mono (by show _≤(kids f').len - 1+1;omega),hI.out.dg.2⟩;have dq':Poly.dgP (Poly.consD ((kids q).len - 1) (fun j=>E (j+1))) (kids q):=⟨(Poly.len_sh _).mono (by show _≤(kids q).len - 1+1;omega),Ddq.out.2⟩;have dm:Poly.dgP (Poly.consD m (fun j=>D (j+1)+k*E (j+1))) (Poly.mono m (kids f').lc):=⟨fun i hi=>by rw [Poly.co_mono,if_neg (by have:Poly.consD m (fun j=>D (j+1)+k*E (j+1)) 0=m:=rfl;omega)],fun i=>by
      rw [Poly.co_mono];split
      · exact hI.out.dg.2 _
      · exact Siz.dg_zero _⟩
     have t_F:=(hV'.out.bel hB7.out).here;have t_P:=hV7.out.here;have t_Q:=(HQ.out.bel (HBp.out.tm hB7.out)).here.mono (T:=fun b=>((S b∧b<w.heap.size)∨w.heap.size+1+1+1≤b)∧b<wy.heap.size) fun b hb=>⟨.inl hb.1,hb.2⟩;have CL3:Hid (∀(T:Nat→Prop) (V:World),Below wy.heap.size wy V→TreW T (n+1) V (.agg #[.bool false,.slice none 0 0,.slice Bq (kids q).len cq]) q→Calls Tryz.prog 84 #[.agg #[.bool false,.slice none 0 0,.slice Bq (kids q).len cq]] V (GivesTr T V n (kids q).lc)):=fun T V _ h=>mlast T n V _ q h hlq;have CC3:Hid (∀(T:Nat→Prop) (V:World),Below wy.heap.size wy V→TreW T (n+1) V (.agg #[.bool false,.slice none 0 0,.slice Bp (kids f').len cp]) f'→∀v,TreW T n V v (kids q).lc→Calls Tryz.prog 55 #[.agg #[.bool false,.slice none 0 0,.slice Bp (kids f').len cp],.int .i64 ((n:Int)+1),v] V (GivesTr T V (n+1) (f'*mkK (Poly.C (kids q).lc)))):=fun T V _ h v hv=>
      mscaled n K (by omega) (mtimesT K hK (n+1) (by omega)) T V _ v f' (kids q).lc _ (fun j=>E (j+1)) h hv hlq0 df' (Ddq.out.2 _) (by show (kids f').len - 1<_;omega) (fun j=>dE0.out j) nf1 (Nat.lt_of_le_of_lt nlq nq) (Nat.lt_of_le_of_lt (Nat.mul_le_mul_left _ nlq) nfq)
     have CT3:Hid (∀(T:Nat→Prop) (V:World),Below wy.heap.size wy V→TreW T (n+1) V (.agg #[.bool false,.slice none 0 0,.slice (some ⟨gg,0,none⟩) (m+1) cap]) (mkK (Poly.mono m (kids f').lc))→TreW T (n+1) V (.agg #[.bool false,.slice none 0 0,.slice Bq (kids q).len cq]) q→Calls Tryz.prog 86 #[.agg #[.bool false,.slice none 0 0,.slice (some ⟨gg,0,none⟩) (m+1) cap],.int .i64 ((n:Int)+1),.agg #[.bool false,.slice none 0 0,.slice Bq (kids q).len cq]] V (GivesTr T V (n+1) ((mkK (Poly.mono m (kids f').lc))*q))):=fun T V _ h1 h2=>
      mtimesT K hK (n+1) (by omega) T V _ _ (mkK (Poly.mono m (kids f').lc)) q _ _ h1 h2 dm dq' (fun j=>by
       cases j with
       | zero=>show m+((kids q).len - 1)<_;omega
       | succ j=>exact dE0.out j) (Nat.lt_of_le_of_lt nlf nf1) nq (Nat.lt_of_le_of_lt (Nat.mul_le_mul_right _ nlf) nfq)
     have CE3:Hid (∀(T:Nat→Prop) (V:World),Below wy.heap.size wy V→∀u,TreW T (n+1) V u (f'*mkK (Poly.C (kids q).lc))→∀v,TreW T (n+1) V v ((mkK (Poly.mono m (kids f').lc))*q)→Calls Tryz.prog 85 #[u,.int .i64 ((n:Int)+1),v] V (GivesTr T V (n+1) (f'*mkK (Poly.C (kids q).lc) - (mkK (Poly.mono m (kids f').lc))*q))):=fun T V _ u hu v hv=>
      mless K hK (n+1) (by omega) T V u v _ _ hu hv nC nT (lens_dg (n+1) _ _ (Siz.dg_mul _ _ f' (mkK (Poly.C (kids q).lc)) df' (dg_C (Ddq.out.2 _))) (fun j=>by
       cases j with
       | zero=>show (kids f').len - 1+0<_;omega
       | succ j=>exact dE0.out j)) (lens_dg (n+1) _ _ (Siz.dg_mul _ _ (mkK (Poly.mono m (kids f').lc)) q dm dq') (fun j=>by
       cases j with
       | zero=>show m+((kids q).len - 1)<_;omega
       | succ j=>exact dE0.out j))
     have Fin:Hid (∀(wE:World) (BE:Option Addr) (mE dE:Nat),Below wy.heap.size wy wE→TreW (fun b=>(S b∧b<w.heap.size)∨w.heap.size+1+1+1≤b) (n+1) wE (treV false none 0 0 BE mE dE) (f'*mkK (Poly.C (kids q).lc) - mkK (Poly.mono m (kids f').lc)*q)→
      Hid (Poly.RI (kids f) (kids q) D E (k+1) (kids (mkK (Poly.rnd (kids q) (kids f')))))∧(kids (mkK (Poly.rnd (kids q) (kids f')))).len<gk - 1∧Hid (TreW (fun b=>(S b∧b<w.heap.size)∨w.heap.size+1+1+1≤b) (n+1) (((wE.setCell ⟨w.heap.size,0,none⟩ (.bool false)).setCell ⟨w.heap.size,1,none⟩ (.slice none 0 0)).setCell ⟨w.heap.size,2,none⟩ (.slice BE mE dE)) (.agg #[.bool false,.slice none 0 0,.slice BE (kids (mkK (Poly.rnd (kids q) (kids f')))).len dE]) (mkK (Poly.rnd (kids q) (kids f'))))∧Hid (Trio (((wE.setCell ⟨w.heap.size,0,none⟩ (.bool false)).setCell ⟨w.heap.size,1,none⟩ (.slice none 0 0)).setCell ⟨w.heap.size,2,none⟩ (.slice BE mE dE)) w.heap.size (.bool false) (.slice none 0 0) (.slice BE (kids (mkK (Poly.rnd (kids q) (kids f')))).len dE))∧Hid (Only (fun b=>b=w.heap.size∨wt.heap.size≤b) wt (((wE.setCell ⟨w.heap.size,0,none⟩ (.bool false)).setCell ⟨w.heap.size,1,none⟩ (.slice none 0 0)).setCell ⟨w.heap.size,2,none⟩ (.slice BE mE dE)))):=fun wE BE mE dE hyE hE=>by
      have e9:(f'*mkK (Poly.C (kids q).lc) - mkK (Poly.mono m (kids f').lc)*q:Pn (n+1))=mkK (Poly.rnd (kids q) (kids f')):=by
       rw [← hm];rfl
      rw [e9] at hE;obtain ⟨_,_,_,_,hmE⟩:=hE.kidsV;have hl9:=Poly.len_le (Poly.rnd_sh (q:=kids q) (p:=kids f') (by intro e;exact q0 e) hlt);have hq9:kids q≠0:=fun e=>q0 e;refine ⟨hI.out.next hq9 Ddq.out hlt,?_,?_,?_,?_⟩
      · show (Poly.rnd (kids q) (kids f')).len<gk - 1
        omega
      · rw [← hmE]
        exact hE.only (trio_only wE w.heap.size _ _ _) (fun b hb e=>by rcases hb with hb | hb<;>omega) fun b hb=>hb
      · rw [← hmE]
        exact (HT3.out.bel hyE).set _ _ _
      · exact ((hon.out.trans ((Only.of_below hB7.out).mono fun b hb=> .inr (by omega))).trans ((Only.of_below hyE).mono fun b hb=> .inr (by omega))).trans ((trio_only wE w.heap.size _ _ _).mono fun b hb=> .inl hb)
     clear keepS CL a0 a1 a2 b0 b1 b2 hV hT7;have keepS:Hid (∀V,Below wy.heap.size wy V→(fun V=>V.cell? ⟨w.heap.size,0,none⟩=some (.bool false)∧V.cell? ⟨w.heap.size,1,none⟩=some (.slice none 0 0)∧V.cell? ⟨w.heap.size,2,none⟩=some (.slice Bp (kids f').len cp)∧V.cell? ⟨w.heap.size+1,0,none⟩=some (.bool false)∧V.cell? ⟨w.heap.size+1,1,none⟩=some (.slice none 0 0)∧V.cell? ⟨w.heap.size+1,2,none⟩=some (.slice Bq (kids q).len cq)∧V.cell? ⟨g7,0,none⟩=some (.bool false)∧V.cell? ⟨g7,1,none⟩=some (.slice none 0 0)∧V.cell? ⟨g7,2,none⟩=some (.slice (some ⟨gg,0,none⟩) (m+1) cap)) V):=fun V hV=>⟨(HT3.out.bel hV).cell0,(HT3.out.bel hV).cell1,(HT3.out.bel hV).cell2,(P13.out.bel hV).cell0,(P13.out.bel hV).cell1,(P13.out.bel hV).cell2,(HT7.out.bel hV).cell0,(HT7.out.bel hV).cell1,(HT7.out.bel hV).cell2⟩;(go_wp2_with fail);refine wp_regionG (S:=fun V=>V.cell? ⟨w.heap.size,0,none⟩=some (.bool false)∧V.cell? ⟨w.heap.size,1,none⟩=some (.slice none 0 0)∧V.cell? ⟨w.heap.size,2,none⟩=some (.slice Bp (kids f').len cp)∧V.cell? ⟨w.heap.size+1,0,none⟩=some (.bool false)∧V.cell? ⟨w.heap.size+1,1,none⟩=some (.slice none 0 0)∧V.cell? ⟨w.heap.size+1,2,none⟩=some (.slice Bq (kids q).len cq)∧V.cell? ⟨g7,0,none⟩=some (.bool false)∧V.cell? ⟨g7,1,none⟩=some (.slice none 0 0)∧V.cell? ⟨g7,2,none⟩=some (.slice (some ⟨gg,0,none⟩) (m+1) cap)) (z:=11) (by kernel_rfl) ?_;have hHeld:=keepS.out _ (Below.refl wy.heap.size wy).drew;(try dsimp only at hHeld);refine tk 11 0 (.agg #[.bool false,.slice none 0 0,.slice Bp (kids f').len cp]) rfl hHeld ?_;(try simp only [fx,Act.put]);refine tk 11 1 (.int .i64 ((n:Int)+1)) rfl hHeld ?_;(try simp only [fx,Act.put]);refine tk 11 2 (.agg #[.bool false,.slice none 0 0,.slice Bq (kids q).len cq]) rfl hHeld ?_;(try simp only [fx,Act.put]);refine tk 11 5 (.int .i64 ((n:Int)+1)) rfl hHeld ?_;(try simp only [fx,Act.put]);refine tk 11 6 (.agg #[.bool false,.slice none 0 0,.slice (some ⟨gg,0,none⟩) (m+1) cap]) rfl hHeld ?_;(try simp only [fx,Act.put]);refine tk 11 7 (.int .i64 ((n:Int)+1)) rfl hHeld ?_;(try simp only [fx,Act.put]);refine tk 11 8 (.agg #[.bool false,.slice none 0 0,.slice Bq (kids q).len cq]) rfl hHeld ?_;(try simp only [fx,Act.put]);have iq:Hid (∀b,wy.heap.size≤b→(fun b=>(S b∧b<w.heap.size)∨w.heap.size+1+1+1≤b) b):=fun b hb=> .inr (by omega);refine wpAnyG_iv (w0:=wy) [⟨3,31,3,KT (fun b=>(S b∧b<w.heap.size)∨w.heap.size+1+1+1≤b) n (fun x=>(kids q).lc=x)⟩,⟨4,32,4,KT (fun b=>(S b∧b<w.heap.size)∨w.heap.size+1+1+1≤b) (n+1) (fun x=>(f'*mkK (Poly.C (kids q).lc))=x)⟩,⟨9,37,9,KT (fun b=>(S b∧b<w.heap.size)∨w.heap.size+1+1+1≤b) (n+1) (fun x=>(mkK (Poly.mono m (kids f').lc)*q)=x)⟩,⟨10,38,10,KT (fun b=>(S b∧b<w.heap.size)∨w.heap.size+1+1+1≤b) (n+1) (fun x=>((f'*mkK (Poly.C (kids q).lc)) - (mkK (Poly.mono m (kids f').lc)*q))=x)⟩] [3,4,9,10] [31,32,37,38] [11] #[true,true,true,true,true,true,true,true,true,true,true,false] 1 rfl rfl (by kernel_rfl) rfl rfl (Below.refl wy.heap.size wy).drew (fc KT.keeps (fc KT.keeps (fc KT.keeps (fc KT.keeps (fn))))) (fc ?_ (fc ?_ (fc ?_ (fc ?_ (fn))))) ?_
     · intro L a V B hr hd h
       have r30:=h.old 30 rfl rfl;refine iv_step rfl fun KK hKK=> ?_;go_simp;refine (CL3.out _ V h.bel (h.tree t_Q)).mono ?_;rintro e w' ⟨s0,A0,k0,c0,B0,m0,d0,rfl,hv,hb⟩;unfold treV;(go_wp2_with fail);exact hKK.out _ _ (keepS.out _ (h.bel.tm hb)) (h.put 0 rfl hr hb ⟨_,s0,A0,k0,c0,B0,m0,d0,rfl,rfl,h.res iq.out hv⟩)
     · intro L a V B hr hd h
       obtain ⟨_,qL,_,sL,AL,kL,cL,BL,mL,dL,rfl,rfl,tL⟩:=h.get 0 rfl (hd 3 (by kernel_rfl)) (.inl rfl);have r28:=h.old 28 rfl rfl;have r29:=h.old 29 rfl rfl;refine iv_step rfl fun KK hKK=> ?_;go_simp;refine (CC3.out _ V h.bel (h.tree t_F) _ tL.out.here).mono ?_;rintro e w' ⟨s0,A0,k0,c0,B0,m0,d0,rfl,hv,hb⟩;unfold treV;(go_wp2_with fail);exact hKK.out _ _ (keepS.out _ (h.bel.tm hb)) (h.put 1 rfl hr hb ⟨_,s0,A0,k0,c0,B0,m0,d0,rfl,rfl,h.res iq.out hv⟩)
     · intro L a V B hr hd h
       have r34:=h.old 34 rfl rfl;have r35:=h.old 35 rfl rfl;have r36:=h.old 36 rfl rfl;refine iv_step rfl fun KK hKK=> ?_;go_simp;refine (CT3.out _ V h.bel (h.tree t_P) (h.tree t_Q)).mono ?_;rintro e w' ⟨s0,A0,k0,c0,B0,m0,d0,rfl,hv,hb⟩;unfold treV;(go_wp2_with fail);exact hKK.out _ _ (keepS.out _ (h.bel.tm hb)) (h.put 2 rfl hr hb ⟨_,s0,A0,k0,c0,B0,m0,d0,rfl,rfl,h.res iq.out hv⟩)
     · intro L a V B hr hd h
       obtain ⟨_,qC,_,sC,AC,kC,cC,BC,mC,dC,rfl,rfl,tC⟩:=h.get 1 rfl (hd 4 (by kernel_rfl)) (.inl rfl);obtain ⟨_,qT,_,sT,AT,kT,cT,BT,mT,dT,rfl,rfl,tT⟩:=h.get 2 rfl (hd 9 (by kernel_rfl)) (.inl rfl);have r33:=h.old 33 rfl rfl;refine iv_step rfl fun KK hKK=> ?_;go_simp;refine (CE3.out _ V h.bel _ tC.out.here _ tT.out.here).mono ?_;rintro e w' ⟨s0,A0,k0,c0,B0,m0,d0,rfl,hv,hb⟩;unfold treV;(go_wp2_with fail);exact hKK.out _ _ (keepS.out _ (h.bel.tm hb)) (h.put 3 rfl hr hb ⟨_,s0,A0,k0,c0,B0,m0,d0,rfl,rfl,h.res iq.out hv⟩)
     intro a9 wv B h;obtain ⟨_,qL,_,sL,AL,kL,cL,BL,mL,dL,rfl,rfl,tL⟩:=h.get 0 rfl rfl (.inl rfl);obtain ⟨_,qC,_,sC,AC,kC,cC,BC,mC,dC,rfl,rfl,tC⟩:=h.get 1 rfl rfl (.inl rfl);obtain ⟨_,qT,_,sT,AT,kT,cT,BT,mT,dT,rfl,rfl,tT⟩:=h.get 2 rfl rfl (.inl rfl);obtain ⟨_,qE,_,sE,AE,kE,cE,BE,mE,dE,rfl,rfl,tE⟩:=h.get 3 rfl rfl (.inl rfl);have hV:=hiD h.bel;have hz9:=h.bel.size;obtain ⟨rfl,rfl,rfl,rfl,hmE⟩:=tE.out.kidsV;clear hmE;obtain ⟨hI2,hl2,hV2,hT2,hon2⟩:=Fin.out wv BE mE dE hV.out (tE.out.mono fun b hb=>hb.1);have tz:=HT3.out.bel hV.out;have v0:=tz.cell0;have f0:=tz.frozen 0;have v1:=tz.cell1;have f1:=tz.frozen 1;have v2:=tz.cell2;have f2:=tz.frozen 2;obtain rfl:=h.act [(31,_),(32,_),(37,_),(38,_)] rfl (fc qL (fc qC (fc qT (fc qE (fn)))));simp only [List.foldr];(try simp only [fx,Act.put]);refine wpAnyG_ready (rs:=[11]) (by kernel_rfl) (by simp) ?_;refine AllReadyG.last rfl (fun KK hKK=> ?_);go_simp;refine hKK.out _ _ ?_;clear hKK KK;refine wpAnyG_done (by kernel_rfl) ?_ _;(go_wp2_with fail);go_roundg (gk - 1)
     case measure=>omega
     case rel=>exact ⟨mkK (Poly.rnd (kids q) (kids f')),k+1,BE,dE,hl2,hI2,hT2,hV2,hon2⟩
  · have hlt':¬((kids q).len:Int)≤((kids f').len:Int):=by omega
    have r0:=P2.out.cell0;have r1:=P2.out.cell1;have r2:=P2.out.cell2;have r3:=P2.out.frozen 0;have r4:=P2.out.frozen 1;have r5:=P2.out.frozen 2;have F:Hid (TreW (fun b=>S b∨w.heap.size≤b) (n+1) (((wp.setCell ⟨w.heap.size+1+1,0,none⟩ (.bool false)).setCell ⟨w.heap.size+1+1,1,none⟩ (.slice none 0 0)).setCell ⟨w.heap.size+1+1,2,none⟩ (.slice Bp (kids f').len cp)) (.agg #[.bool false,.slice none 0 0,.slice Bp (kids f').len cp]) f'):=
     TreW.only (trio_only wp (w.heap.size+1+1) _ _ _) (fun b hb e=>by rcases hb with hb | hb<;>omega) (fun b hb=>hb.imp (fun h=>h.1) fun h=>by omega) hV.out
    have hb':Hid (Below w.heap.size w (((wp.setCell ⟨w.heap.size+1+1,0,none⟩ (.bool false)).setCell ⟨w.heap.size+1+1,1,none⟩ (.slice none 0 0)).setCell ⟨w.heap.size+1+1,2,none⟩ (.slice Bp (kids f').len cp))):=bel_trio HBp.out (by omega) _ _ _;(have hlt2:(kids f').len<(kids q).len:=by omega);clear hV hon;(go_wp2_with fail);exact bodyPost_ret (v:=.agg #[.bool false,.slice none 0 0,.slice Bp (kids f').len cp]) (results_cell_row (fn:=Tryz.f54) rfl _ _ _ _ _ _ _ rfl (P2.out.set (.bool false) (.slice none 0 0) (.slice Bp (kids f').len cp)) Tryz.underlying51 rfl apoly_size) rfl
     ⟨f',⟨k,hI.out⟩,hlt2,false,none,0,0,Bp,(kids f').len,cp,rfl,F.out,hb'.out⟩
end Go.Proofs.YtehcoffbiplphaaGreat
