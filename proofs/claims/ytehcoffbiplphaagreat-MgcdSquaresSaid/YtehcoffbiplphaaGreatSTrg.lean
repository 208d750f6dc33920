/- Contract: the product of two trees of one variable more, neither nought (printed by gen/mtimes.py).
   Contract: a tree times one of the other variables. -/
import Derived.Test.YtehcoffbiplphaaGreatSTrb
import Derived.Test.YtehcoffbiplphaaGreatSTrI
import Derived.Deep.DeepCutAuto
import Derived.Deep.RegionHeld3
set_option linter.unusedVariables false
set_option linter.unusedSimpArgs false
set_option maxHeartbeats 16000000
set_option maxRecDepth 100000
namespace Go.Proofs.YtehcoffbiplphaaGreat
open Go.RowKit Cl CRing
attribute [local go_sem ↓] Go.wp_at_zero Go.wp_at_succ
theorem lens_dg:∀(n:Nat) (f:Pn n) (D:Nat→Nat),Siz.dg D f→(∀j,D j<1000000000000)→Lens n f
 | 0,_,_,_,_=>trivial
 | n+1,f,D,h,hD=>by
   have h':Poly.dgP D (kids f):=h;exact ⟨by have:=Poly.len_le h'.1;have:=hD 0;omega,fun i=>lens_dg n _ _ (h'.2 i) fun j=>hD (j+1)⟩
theorem make_polys (n:Nat) (hn:n≤2000000000000) (w:World):
 (Instr.makeSlice 49 (.int .i64 (n:Int)) (.int .i64 (n:Int))).run Tryz.prog w=.ok (.slice (some ⟨w.heap.size,0,none⟩) n n) (w.alloc (.cells (madeCells #[Value.bool false,.slice none 0 0,.slice none 0 0] (n*3)) 51)):=by
 obtain ⟨i0,hi0,hz0,hz1,hz2⟩:=info_parts poly_infoT
 have hr:=run_make (P:=Tryz.prog) w 49 51 i0 _ Tryz.underlying49 hi0 hz0 .i64 .i64 n n (by omega) (by omega) (by rw [hz2];omega) (by omega)
 simp only [Int.toNat_natCast,hz1] at hr
 exact hr
theorem tout_at {T:TypeId} {S X:Nat→Prop} {w0 wr:World} {H n gg N cap:Nat} {E:List KE} {g:Nat→Pn n}(h:TOut T S X w0 H wr n (.slice (some ⟨gg,0,none⟩) N cap) E g) (hN:E.length=N) (i:Nat) (hi:i<N):
 ∃x:KE,wr.cell? ⟨gg,i*3,none⟩=some (.bool x.s)∧wr.cell? ⟨gg,i*3+1,none⟩=some (.slice x.A x.k x.c)∧wr.cell? ⟨gg,i*3+2,none⟩=some (.slice x.B x.m x.d)∧TreW (fun b=>(S b∨w0.heap.size≤b)∧(Value.slice (some ⟨gg,0,none⟩) N cap).ownBlock≠some b∧¬X b) n wr x.v (g i)∧(∀j,wr.frozen? ⟨gg,j,none⟩=false)∧gg<wr.heap.size:=by
 subst hN
 obtain ⟨t0,t1,t2⟩:=kcells_get hi
 have c0:=h.own.cells (g:=gg) rfl (i*3) _ t0
 have c1:=h.own.cells (g:=gg) rfl (i*3+1) _ t1
 have c2:=h.own.cells (g:=gg) rfl (i*3+2) _ t2
 rw [Go.WideShapes.add_plain,Nat.zero_add] at c0 c1 c2
 refine ⟨E[i],c0,c1,c2,h.ok i hi,fun j=> ?_,(h.own.lt gg rfl).2⟩
 rcases h.own.2 with ⟨hv,_⟩ | ⟨g',cap',cur,hv,_,hh,_⟩
 · injection hv with e;injection e
 · injection hv with e
   injection e with e
   injection e with e
   subst e;simp [World.frozen?,hh]
theorem bel_trio {H g:Nat} {w0 w:World}(h:Below H w0 w) (hg:H≤g) (a b c:Value):Below H w0 (((w.setCell ⟨g,0,none⟩ a).setCell ⟨g,1,none⟩ b).setCell ⟨g,2,none⟩ c):=((h.setCell (p:=⟨g,0,none⟩) hg _).setCell (p:=⟨g,1,none⟩) hg _).setCell (p:=⟨g,2,none⟩) hg _
def TimesN (n K:Nat):Prop:=∀(S:Nat→Prop) (w:World) (u v:Value) (f g:Pn n) (D E:Nat→Nat),TreW S n w u f→TreW S n w v g→Siz.dg D f→Siz.dg E g→(∀j,D j+E j<1000000000000)→Siz.nm f<2^(64*K)→Siz.nm g<2^(64*K)→Siz.nm f*Siz.nm g<2^(64*K)→Calls Tryz.prog 86 #[u,.int .i64 (n:Int),v] w (GivesTr S w n (f*g))
theorem tout_put {T:TypeId} {S X:Nat→Prop} {w0 wr:World} {H n gg N cap:Nat} {E:List KE} {g:Nat→Pn n}(h:TOut T S X w0 H wr n (.slice (some ⟨gg,0,none⟩) N cap) E g) (hN:E.length=N) (hH:w0.heap.size≤gg) (i:Nat) (hi:i<N) (x:KE) (f:Pn n)
 (hx:TreW (fun b=>(S b∨w0.heap.size≤b)∧(Value.slice (some ⟨gg,0,none⟩) N cap).ownBlock≠some b∧¬X b) n wr x.v f) (g':Nat→Pn n) (hg:∀j,g' j=if j=i then f else g j):
 TOut T S X w0 H (((wr.setCell ⟨gg,i*3,none⟩ (.bool x.s)).setCell ⟨gg,i*3+1,none⟩ (.slice x.A x.k x.c)).setCell ⟨gg,i*3+2,none⟩ (.slice x.B x.m x.d)) n (.slice (some ⟨gg,0,none⟩) N cap) (E.set i x) g':=by
 subst hN
 exact (h.put hH i hi x f hx).congr fun j _=>(hg j).symm
theorem mtimesS (n K:Nat) (hK:K≤3900000000000) (hn:n≤100) (ih:TimesN n K) (S:Nat→Prop) (w:World) (u v:Value) (f g:Pn (n+1)) (Df Dg:Nat→Nat) (hf:TreW S (n+1) w u f) (hg:TreW S (n+1) w v g) (f0:f≠0) (g0:g≠0) (df:Siz.dg Df f) (dg:Siz.dg Dg g) (hDE:∀j,Df j+Dg j<1000000000000) (nf:Siz.nm f<2^(64*K)) (ng:Siz.nm g<2^(64*K)) (nfg:Siz.nm f*Siz.nm g<2^(64*K)):
 Calls Tryz.prog 86 #[u,.int .i64 ((n:Int)+1),v] w (GivesTr S w (n+1) (f*g)):=by
 have df':Poly.dgP Df (kids f):=df
 have dg':Poly.dgP Dg (kids g):=dg
 have hlen:(kids f).len+(kids g).len≤1000000000001:=by
  have h1:=Poly.len_le df'.1;have h2:=Poly.len_le dg'.1;have h3:=hDE 0;omega
 have hla:0<(kids f).len:=Nat.pos_of_ne_zero fun e=>f0 (len_zero_iff.1 e)
 have hlb:0<(kids g).len:=Nat.pos_of_ne_zero fun e=>g0 (len_zero_iff.1 e)
 obtain ⟨N,hN⟩:∃N:Nat,(kids f).len+(kids g).len=N+1:=⟨_,(Nat.sub_add_cancel (by omega:1≤(kids f).len+(kids g).len)).symm⟩
 obtain ⟨B,c,rfl,h1,h2,h3⟩:=hf.here
 obtain ⟨D,d,rfl,i1,i2,i3⟩:=hg.here
 have hz:(((n:Int)+1)==0)=false:=beq_eq_false_iff_ne.2 (by omega)
 have hzf:(((kids f).len:Int)==0)=false:=beq_eq_false_iff_ne.2 (by omega)
 have hzg:(((kids g).len:Int)==0)=false:=beq_eq_false_iff_ne.2 (by omega)
 have ew:IntKind.i64.wrap ((n:Int)+1 - 1)=(n:Int):=by rw [IntWalk.i64_in _ (by omega)];omega
 have ew2:IntKind.i64.wrap (n:Int)=(n:Int):=IntWalk.i64_in _ (by omega)
 have ew3:IntKind.i64.wrap (((kids f).len:Int)+((kids g).len:Int))=((kids f).len:Int)+((kids g).len:Int):=IntWalk.i64_in _ (by omega)
 have ew4:IntKind.i64.wrap (((kids f).len:Int)+((kids g).len:Int) - 1)=(N:Int):=by rw [IntWalk.i64_in _ (by omega)];omega
 have hmk:=make_polys N (by omega)
 have t0:=(((((Trio.new w (.bool false) (.slice none 0 0) (.slice B (kids f).len c)).bel (bRr.alloc lRr (.cells #[.bool false,.slice none 0 0,.slice D (kids g).len d] 51))).bel (bRr.alloc lRr (.cells #[.bool false,.slice none 0 0,.slice none 0 0] 51))).bel (bRr.alloc lRr (.cells (madeCells #[Value.bool false,.slice none 0 0,.slice none 0 0] (N*3)) 51))).bel (bRr.alloc lRr (.cells #[.bool false,.slice none 0 0,.slice (some ⟨w.heap.size+1+1+1,0,none⟩) N N] 51))).bel (bRr.alloc lRr (.cells #[.bool false,.slice none 0 0,.slice none 0 0] 51))
 have t1:=((((Trio.new (w.alloc (.cells #[.bool false,.slice none 0 0,.slice B (kids f).len c] 51)) (.bool false) (.slice none 0 0) (.slice D (kids g).len d)).bel (bRr.alloc lRr (.cells #[.bool false,.slice none 0 0,.slice none 0 0] 51))).bel (bRr.alloc lRr (.cells (madeCells #[Value.bool false,.slice none 0 0,.slice none 0 0] (N*3)) 51))).bel (bRr.alloc lRr (.cells #[.bool false,.slice none 0 0,.slice (some ⟨w.heap.size+1+1+1,0,none⟩) N N] 51))).bel (bRr.alloc lRr (.cells #[.bool false,.slice none 0 0,.slice none 0 0] 51))
 rw [World.size_alloc] at t1
 have t2:=(((Trio.new ((w.alloc (.cells #[.bool false,.slice none 0 0,.slice B (kids f).len c] 51)).alloc (.cells #[.bool false,.slice none 0 0,.slice D (kids g).len d] 51)) (.bool false) (.slice none 0 0) (.slice none 0 0)).bel (bRr.alloc lRr (.cells (madeCells #[Value.bool false,.slice none 0 0,.slice none 0 0] (N*3)) 51))).bel (bRr.alloc lRr (.cells #[.bool false,.slice none 0 0,.slice (some ⟨w.heap.size+1+1+1,0,none⟩) N N] 51))).bel (bRr.alloc lRr (.cells #[.bool false,.slice none 0 0,.slice none 0 0] 51))
 rw [World.size_alloc,World.size_alloc] at t2
 have t4:=(Trio.new ((((w.alloc (.cells #[.bool false,.slice none 0 0,.slice B (kids f).len c] 51)).alloc (.cells #[.bool false,.slice none 0 0,.slice D (kids g).len d] 51)).alloc (.cells #[.bool false,.slice none 0 0,.slice none 0 0] 51)).alloc (.cells (madeCells #[Value.bool false,.slice none 0 0,.slice none 0 0] (N*3)) 51)) (.bool false) (.slice none 0 0) (.slice (some ⟨w.heap.size+1+1+1,0,none⟩) N N)).bel (bRr.alloc lRr (.cells #[.bool false,.slice none 0 0,.slice none 0 0] 51))
 rw [World.size_alloc,World.size_alloc,World.size_alloc,World.size_alloc] at t4
 have t5:=Trio.new (((((w.alloc (.cells #[.bool false,.slice none 0 0,.slice B (kids f).len c] 51)).alloc (.cells #[.bool false,.slice none 0 0,.slice D (kids g).len d] 51)).alloc (.cells #[.bool false,.slice none 0 0,.slice none 0 0] 51)).alloc (.cells (madeCells #[Value.bool false,.slice none 0 0,.slice none 0 0] (N*3)) 51)).alloc (.cells #[.bool false,.slice none 0 0,.slice (some ⟨w.heap.size+1+1+1,0,none⟩) N N] 51)) (.bool false) (.slice none 0 0) (.slice none 0 0)
 rw [World.size_alloc,World.size_alloc,World.size_alloc,World.size_alloc,World.size_alloc] at t5
 have hb:Below w.heap.size w ((((((w.alloc (.cells #[.bool false,.slice none 0 0,.slice B (kids f).len c] 51)).alloc (.cells #[.bool false,.slice none 0 0,.slice D (kids g).len d] 51)).alloc (.cells #[.bool false,.slice none 0 0,.slice none 0 0] 51)).alloc (.cells (madeCells #[Value.bool false,.slice none 0 0,.slice none 0 0] (N*3)) 51)).alloc (.cells #[.bool false,.slice none 0 0,.slice (some ⟨w.heap.size+1+1+1,0,none⟩) N N] 51)).alloc (.cells #[.bool false,.slice none 0 0,.slice none 0 0] 51)):=(((((bRr.alloc lRr _).alloc (by simp<;>omega) _).alloc (by simp<;>omega) _).alloc (by simp<;>omega) _).alloc (by simp<;>omega) _).alloc (by simp<;>omega) _
 have hsz:((((((w.alloc (.cells #[.bool false,.slice none 0 0,.slice B (kids f).len c] 51)).alloc (.cells #[.bool false,.slice none 0 0,.slice D (kids g).len d] 51)).alloc (.cells #[.bool false,.slice none 0 0,.slice none 0 0] 51)).alloc (.cells (madeCells #[Value.bool false,.slice none 0 0,.slice none 0 0] (N*3)) 51)).alloc (.cells #[.bool false,.slice none 0 0,.slice (some ⟨w.heap.size+1+1+1,0,none⟩) N N] 51)).alloc (.cells #[.bool false,.slice none 0 0,.slice none 0 0] 51)).heap.size=w.heap.size+1+1+1+1+1+1:=by simp
 have hO0:=((TOut.noughts 51 (fun b=>S b∧b<w.heap.size) (fun b=>b=w.heap.size+1+1) w (((w.alloc (.cells #[.bool false,.slice none 0 0,.slice B (kids f).len c] 51)).alloc (.cells #[.bool false,.slice none 0 0,.slice D (kids g).len d] 51)).alloc (.cells #[.bool false,.slice none 0 0,.slice none 0 0] 51)) (w.heap.size+1+1+1) n N (by omega) (by simp) ((bRr.alloc lRr _).alloc (by simp) _ |>.alloc (by simp;omega) _) (by unfold maxLen;omega)).bel2 (bRr.alloc lRr (.cells #[.bool false,.slice none 0 0,.slice (some ⟨w.heap.size+1+1+1,0,none⟩) N N] 51))).bel2 (bRr.alloc lRr (.cells #[.bool false,.slice none 0 0,.slice none 0 0] 51))
 rw [World.size_alloc,World.size_alloc,World.size_alloc] at hO0
 have k0:=t0.cell2
 have k1:=t1.cell2
 have k4:=t4.cell2
 have H3:=hiD h3
 have I3:=hiD i3
 have Ddf:=hiD df'
 have Ddg:=hiD dg'
 have Dfg:=hiD hDE
 clear h3 i3 hf hg df dg df' dg' hDE
 unfold treV
 go_enter Tryz.func86,Tryz.ntmps86
 go_wp2_with fail
 generalize hwt:((((((w.alloc (.cells #[.bool false,.slice none 0 0,.slice B (kids f).len c] 51)).alloc (.cells #[.bool false,.slice none 0 0,.slice D (kids g).len d] 51)).alloc (.cells #[.bool false,.slice none 0 0,.slice none 0 0] 51)).alloc (.cells (madeCells #[Value.bool false,.slice none 0 0,.slice none 0 0] (N*3)) 51)).alloc (.cells #[.bool false,.slice none 0 0,.slice (some ⟨w.heap.size+1+1+1,0,none⟩) N N] 51)).alloc (.cells #[.bool false,.slice none 0 0,.slice none 0 0] 51))=wt at*
 clear hwt
 have T0:=hiD t0
 have T1:=hiD t1
 have T2:=hiD t2
 have T4:=hiD t4
 have T5:=hiD t5
 have HB:=hiD hb
 have HO0:=hiD hO0
 clear t0 t1 t2 t4 t5 hb k0 k1 k4 hO0
 go_loopw [46] (fun i wr=>∃(k:Nat) (E:List KE),k≤(kids f).len∧i=.int .i64 (k:Int)∧Hid (E.length=N)∧Hid (TOut 51 (fun b=>S b∧b<w.heap.size) (fun b=>b=w.heap.size+1+1) w (w.heap.size+1+1+1) wr n (.slice (some ⟨w.heap.size+1+1+1,0,none⟩) N N) E (fun i=>(Poly.part (kids f) (kids g) k 0).co i))∧Hid (Only (fun b=>b=w.heap.size+1+1+1∨wt.heap.size≤b) wt wr)) (fun i _=>(kids f).len - (intOf i).toNat)
 case atStart=>exact ⟨0,_,Nat.zero_le _,rfl,List.length_replicate,HO0.out.congr fun i _=>by rw [Poly.part_start];rfl,Only.refl _ _⟩
 case round=>
  clear HO0;obtain ⟨k,E,hk,rfl,hE,hO,hon⟩:=hrel;obtain ⟨wp,rfl⟩:∃wp:World,wp=wr:=⟨_,rfl⟩;have P0:Hid (Trio wp (w.heap.size) (.bool false) (.slice none 0 0) (.slice B (kids f).len c)):=T0.out.keep (hon.out.block _ T0.out.lt (by omega));have P1:Hid (Trio wp (w.heap.size+1) (.bool false) (.slice none 0 0) (.slice D (kids g).len d)):=T1.out.keep (hon.out.block _ T1.out.lt (by omega));have P2:Hid (Trio wp (w.heap.size+1+1) (.bool false) (.slice none 0 0) (.slice none 0 0)):=T2.out.keep (hon.out.block _ T2.out.lt (by omega));have P4:Hid (Trio wp (w.heap.size+1+1+1+1) (.bool false) (.slice none 0 0) (.slice (some ⟨w.heap.size+1+1+1,0,none⟩) N N)):=T4.out.keep (hon.out.block _ T4.out.lt (by omega));have P5:Hid (Trio wp (w.heap.size+1+1+1+1+1) (.bool false) (.slice none 0 0) (.slice none 0 0)):=T5.out.keep (hon.out.block _ T5.out.lt (by omega));have HBp:Hid (Below w.heap.size w wp):=hO.out.bel;by_cases hlt:k<(kids f).len
  · have hlt':(k:Int)<((kids f).len:Int):=by omega
    obtain ⟨b,o,rfl,hb,hl,hkid⟩:=H3.out (by omega);obtain ⟨s1,A1,k1,c1,B1,m1,d1,e1,e2,e3,e4⟩:=hkid k hlt;(have hk0:(0:Int)≤(k:Int):=by omega);have g1:=(HBp.out.cell (p:=⟨b,o+k*3,none⟩) hl).trans e1;have g2:=(HBp.out.cell (p:=⟨b,o+k*3+1,none⟩) hl).trans e2;have g3:=(HBp.out.cell (p:=⟨b,o+k*3+2,none⟩) hl).trans e3;(have hlb':b<wp.heap.size:=by have:=HBp.out.size;omega);have E4:=hiD e4;clear hkid e1 e2 e3 e4;have p1:=(P1.out.bel (bRr.alloc lRr (.cells #[.bool s1,.slice A1 k1 c1,.slice B1 m1 d1] 51))).cell2;have TX:=hiD (Trio.new wp (.bool s1) (.slice A1 k1 c1) (.slice B1 m1 d1));have hbq:Hid (Below wp.heap.size wp (wp.alloc (.cells #[.bool s1,.slice A1 k1 c1,.slice B1 m1 d1] 51))):=bRr.alloc lRr _;(have hsq:wp.heap.size<(wp.alloc (.cells #[.bool s1,.slice A1 k1 c1,.slice B1 m1 d1] 51)).heap.size:=by simp);(go_wp2_with fail);generalize hwq:wp.alloc (.cells #[.bool s1,.slice A1 k1 c1,.slice B1 m1 d1] 51)=wq at*
    clear hwq;have hwz:=hon.out.size;have HO1:=hiD (hO.out.bel2 hbq.out);have hon1:Hid (Only (fun b=>b=w.heap.size+1+1+1∨wt.heap.size≤b) wt wq):=hon.out.trans ((Only.of_below hbq.out).mono fun b hb=> .inr (by omega));have HE:=hE;clear hO hon P0 P1 P2 P4 P5 hbq HBp g1 g2 g3 hE p1;go_loopw [54] (fun i wr=>∃(m:Nat) (E:List KE),m≤(kids g).len∧i=.int .i64 (m:Int)∧Hid (E.length=N)∧Hid (TOut 51 (fun b=>S b∧b<w.heap.size) (fun b=>b=w.heap.size+1+1) w (w.heap.size+1+1+1) wr n (.slice (some ⟨w.heap.size+1+1+1,0,none⟩) N N) E (fun i=>(Poly.part (kids f) (kids g) k m).co i))∧Hid (Only (fun b=>b=w.heap.size+1+1+1∨wq.heap.size≤b) wq wr)) (fun i _=>(kids g).len - (intOf i).toNat)
    case atStart=>exact ⟨0,E,Nat.zero_le _,rfl,HE,HO1,Only.refl _ _⟩
    case round=>
     clear HO1 HE;obtain ⟨m,E,hm,rfl,hE,hO,hon2⟩:=hrel;obtain ⟨wp',rfl⟩:∃wp':World,wp'=wr:=⟨_,rfl⟩;have hon:Hid (Only (fun b=>b=w.heap.size+1+1+1∨wt.heap.size≤b) wt wp'):=hon1.out.trans (hon2.out.mono fun b hb=>hb.imp id fun h=>by omega);have P4:Hid (Trio wp' (w.heap.size+1+1+1+1) (.bool false) (.slice none 0 0) (.slice (some ⟨w.heap.size+1+1+1,0,none⟩) N N)):=T4.out.keep (hon.out.block _ T4.out.lt (by omega));have P5:Hid (Trio wp' (w.heap.size+1+1+1+1+1) (.bool false) (.slice none 0 0) (.slice none 0 0)):=T5.out.keep (hon.out.block _ T5.out.lt (by omega));have P10:Hid (Trio wp' wp.heap.size (.bool s1) (.slice A1 k1 c1) (.slice B1 m1 d1)):=TX.out.keep (hon2.out.block _ TX.out.lt (by omega));have HBp:Hid (Below w.heap.size w wp'):=hO.out.bel;by_cases hlt:m<(kids g).len
     · have hlt2:(m:Int)<((kids g).len:Int):=by omega
       obtain ⟨b',o',rfl,hb',hl',hkid'⟩:=I3.out (by omega);obtain ⟨s2,A2,k2,c2,B2,m2,d2,e1,e2,e3,e5⟩:=hkid' m hlt;(have hm0:(0:Int)≤(m:Int):=by omega);have j1:=(HBp.out.cell (p:=⟨b',o'+m*3,none⟩) hl').trans e1;have j2:=(HBp.out.cell (p:=⟨b',o'+m*3+1,none⟩) hl').trans e2;have j3:=(HBp.out.cell (p:=⟨b',o'+m*3+2,none⟩) hl').trans e3;(have hlb':b'<wp'.heap.size:=by have:=HBp.out.size;omega);have E5:=hiD (e5.bel HBp.out);have E4':=hiD (E4.out.bel HBp.out);clear hkid' e1 e2 e3 e5;have tY:=Trio.new wp' (.bool s2) (.slice A2 k2 c2) (.slice B2 m2 d2);have hbz:Below wp'.heap.size wp' (wp'.alloc (.cells #[.bool s2,.slice A2 k2 c2,.slice B2 m2 d2] 51)):=bRr.alloc lRr _;(have hsz':wp'.heap.size<(wp'.alloc (.cells #[.bool s2,.slice A2 k2 c2,.slice B2 m2 d2] 51)).heap.size:=by simp);(go_wp2_with fail);generalize hwz:wp'.alloc (.cells #[.bool s2,.slice A2 k2 c2,.slice B2 m2 d2] 51)=wz at*
       clear hwz;have Q5:=hiD (P5.out.bel hbz);have Q10:=hiD (P10.out.bel hbz);have Q12:=hiD tY;have a0:=Q5.out.cell0;have a1:=Q5.out.cell1;have a2:=Q5.out.cell2;have b0:=Q10.out.cell0;have b1:=Q10.out.cell1;have b2:=Q10.out.cell2;have y0:=tY.cell0;have y1:=tY.cell1;have y2:=tY.cell2;have hsx:=hbz.size;have HO:=hiD (hO.out.bel2 hbz);have HBz:=hiD hbz;have nfk:Hid (Siz.nm ((kids f).co k)≤Siz.nm f):=nmP_C_leT f k;have ngm:Hid (Siz.nm ((kids g).co m)≤Siz.nm g):=nmP_C_leT g m;have CT:=hiD (fun W (hW:Below wz.heap.size wz W)=>ih (fun b=>S b∧b<w.heap.size) W _ _ _ _ (fun j=>Df (j+1)) (fun j=>Dg (j+1)) ((E4'.out.bel hbz).bel hW) ((E5.out.bel hbz).bel hW) (Ddf.out.2 k) (Ddg.out.2 m) (fun j=>Dfg.out (j+1)) (Nat.lt_of_le_of_lt nfk.out nf) (Nat.lt_of_le_of_lt ngm.out ng) (Nat.lt_of_le_of_lt (Nat.mul_le_mul nfk.out ngm.out) nfg));have dfg:Hid (Siz.dg (fun j=>Df (j+1)+Dg (j+1)) ((kids f).co k*(kids g).co m)):=Siz.dg_mul _ _ _ _ (Ddf.out.2 k) (Ddg.out.2 m);have hnm:Siz.nm ((kids f).co k*(kids g).co m)<2^(64*K):=Nat.lt_of_le_of_lt (Siz.nm_mul _ _) (Nat.lt_of_le_of_lt (Nat.mul_le_mul nfk.out ngm.out) nfg);have CL:Hid (∀(T:Nat→Prop) (w7 W:World) (u:Value),TreW T n w7 u ((kids f).co k*(kids g).co m)→Below w7.heap.size w7 W→Calls Tryz.prog 85 #[.agg #[.bool false,.slice none 0 0,.slice none 0 0],.int .i64 (n:Int),u] W (GivesTr T W n (0 - (kids f).co k*(kids g).co m))):=fun T w7 W u hu hW=>
        mless K hK n (by omega) T W _ u 0 _ (TreW.nought _ _ n) (hu.bel hW) (by rw [Siz.nm_zero];omega) hnm (lens_dg n _ _ (Siz.dg_zero _) fun j=>Dfg.out (j+1)) (lens_dg n _ _ dfg.out fun j=>Dfg.out (j+1))
       have hl5:=Q5.out.lt;have hl10:=Q10.out.lt;have hl12:=Q12.out.lt;(have hws:w.heap.size+1+1+1+1+1+1≤wz.heap.size:=by have:=hon.out.size;omega);unfold treV at CT;have HP4:=hiD (P4.out.bel hbz);have Hon2:Hid (Only (fun b=>b=w.heap.size+1+1+1∨wq.heap.size≤b) wq wz):=hon2.out.trans ((Only.of_below hbz).mono fun b hb=> .inr (by have:=hon2.out.size;omega));clear hO hon2 P4 P5 P10 tY hbz E4' E5 j1 j2 j3;have keepS:Hid (∀V,Below wz.heap.size wz V→V.cell? ⟨w.heap.size+1+1+1+1+1,0,none⟩=some (.bool false)∧V.cell? ⟨w.heap.size+1+1+1+1+1,1,none⟩=some (.slice none 0 0)∧V.cell? ⟨w.heap.size+1+1+1+1+1,2,none⟩=some (.slice none 0 0)∧V.cell? ⟨wp.heap.size,0,none⟩=some (.bool s1)∧V.cell? ⟨wp.heap.size,1,none⟩=some (.slice A1 k1 c1)∧V.cell? ⟨wp.heap.size,2,none⟩=some (.slice B1 m1 d1)∧V.cell? ⟨wp'.heap.size,0,none⟩=some (.bool s2)∧V.cell? ⟨wp'.heap.size,1,none⟩=some (.slice A2 k2 c2)∧V.cell? ⟨wp'.heap.size,2,none⟩=some (.slice B2 m2 d2)):=fun V hV=>⟨(Q5.out.bel hV).cell0,(Q5.out.bel hV).cell1,(Q5.out.bel hV).cell2,(Q10.out.bel hV).cell0,(Q10.out.bel hV).cell1,(Q10.out.bel hV).cell2,(Q12.out.bel hV).cell0,(Q12.out.bel hV).cell1,(Q12.out.bel hV).cell2⟩;go_cut [13] (fun s13 wx=>∃(g13:Nat) (s8:Bool) (A8:Option Addr) (k8 c8:Nat) (B8:Option Addr) (m8 d8:Nat),s13=.pointer (some ⟨g13,0,none⟩)∧Hid (Trio wx g13 (.bool s8) (.slice A8 k8 c8) (.slice B8 m8 d8))∧Hid (TreW (fun b=>(S b∧b<w.heap.size)∨wz.heap.size≤b) n wx (.agg #[.bool s8,.slice A8 k8 c8,.slice B8 m8 d8]) (0 - (kids f).co k*(kids g).co m))∧Hid (Below wz.heap.size wz wx))
       case first=>
        go_region_held3 (fun V=>V.cell? ⟨w.heap.size+1+1+1+1+1,0,none⟩=some (.bool false)∧V.cell? ⟨w.heap.size+1+1+1+1+1,1,none⟩=some (.slice none 0 0)∧V.cell? ⟨w.heap.size+1+1+1+1+1,2,none⟩=some (.slice none 0 0)∧V.cell? ⟨wp.heap.size,0,none⟩=some (.bool s1)∧V.cell? ⟨wp.heap.size,1,none⟩=some (.slice A1 k1 c1)∧V.cell? ⟨wp.heap.size,2,none⟩=some (.slice B1 m1 d1)∧V.cell? ⟨wp'.heap.size,0,none⟩=some (.bool s2)∧V.cell? ⟨wp'.heap.size,1,none⟩=some (.slice A2 k2 c2)∧V.cell? ⟨wp'.heap.size,2,none⟩=some (.slice B2 m2 d2))
         (first | exact keepS.out _ bRr.drew | exact keepS.out _ (bRr.alloc lRr _).drew | exact keepS.out _ hb9 | exact keepS.out _ (hb9.alloc hb9.size _) | exact keepS.out _ hb7 | exact keepS.out _ (hb7.alloc hb7.size _) | exact keepS.out _ (bel_trio hb9 lRr _ _ _) | exact keepS.out _ (bel_trio hb9 hb7.size _ _ _) | go_keep)
         (first
         | (go_at_call 86;refine (CT.out _ (by first | exact bRr.drew | exact bRr | exact (bRr.alloc lRr _).drew | exact bRr.alloc lRr _)).mono ?_;rintro e w7 ⟨s7,A7,k7,c7,B7,m7,d7,rfl,hv7,hb7'⟩;unfold treV;have hb7:Below wz.heap.size wz w7:=(by first | exact bRr.drew.trans hb7' | exact (bRr.alloc lRr _).drew.trans (hb7'.mono (by simp)) | exact hb7' | exact (bRr.alloc lRr _).trans (hb7'.mono (by simp)));(first | (have tE:=Trio.bel (w:=(World.alloc wz _).drew) (Trio.new wz (.bool false) (.slice none 0 0) (.slice none 0 0)) hb7') | (have tE:=Trio.bel (w:=World.alloc wz _) (Trio.new wz (.bool false) (.slice none 0 0) (.slice none 0 0)) hb7') | skip))
         | (go_at_call 85;refine (CL.out _ w7 _ _ hv7.here (by first | exact bRr | exact bRr.alloc lRr _)).mono ?_;rintro e w8 ⟨s8,A8,k8,c8,B8,m8,d8,rfl,hv8,hb8'⟩;unfold treV;have hb8:Below w7.heap.size w7 w8:=(by first | exact hb8' | exact (bRr.alloc lRr _).trans (hb8'.mono (by simp)));have hb9:Below wz.heap.size wz w8:=hb7.tm hb8;(first | (have tF:=Trio.bel (w:=World.alloc w7 _) (Trio.new w7 (.bool false) (.slice none 0 0) (.slice none 0 0)) hb8';have v0:=tF.cell0;have v1:=tF.cell1;have v2:=tF.cell2;have v3:=tF.frozen 0;have v4:=tF.frozen 1;have v5:=tF.frozen 2) | (have tF:=tE.bel hb8;have v0:=tF.cell0;have v1:=tF.cell1;have v2:=tF.cell2;have v3:=tF.frozen 0;have v4:=tF.frozen 1;have v5:=tF.frozen 2) | skip)))
        all_goals
         have hs7:=hb7.size;have hs8:=hb8.size;(go_wp2_with fail);go_meet
         first
          | exact ⟨wz.heap.size,s8,A8,k8,c8,B8,m8,d8,rfl,tF.set _ _ _,TreW.only (trio_only w8 wz.heap.size _ _ _) (fun b hb e=>by rcases hb with ⟨hb | hb,h2⟩ | hb;(have:=hb.2;omega);all_goals ((try have h9:=tE.lt);(try simp at hb);(try (change (World.alloc wz _).heap.size≤_ at hb;rw [World.size_alloc] at hb));omega)) (fun b hb=>by rcases hb with ⟨hb | hb,h2⟩ | hb;(exact .inl hb);all_goals (refine .inr ?_;(try simp at hb);(try (change (World.alloc wz _).heap.size≤_ at hb;rw [World.size_alloc] at hb));omega)) hv8,((hb9.setCell (p:=⟨wz.heap.size,0,none⟩) lRr _).setCell (p:=⟨wz.heap.size,1,none⟩) lRr _).setCell (p:=⟨wz.heap.size,2,none⟩) lRr _⟩
          | exact ⟨w8.heap.size,s8,A8,k8,c8,B8,m8,d8,rfl,Trio.new w8 _ _ _,(hv8.bel (bRr.alloc lRr _)).mono (fun b hb=>by rcases hb with ⟨hb | hb,h2⟩ | hb;(exact .inl hb);all_goals (refine .inr ?_;(try simp at hb);(try (change (World.alloc wz _).heap.size≤_ at hb;rw [World.size_alloc] at hb));omega)),hb9.alloc hb9.size _⟩
          | exact ⟨w7.heap.size,s8,A8,k8,c8,B8,m8,d8,rfl,tF.set _ _ _,TreW.only (trio_only w8 w7.heap.size _ _ _) (fun b hb e=>by rcases hb with ⟨hb | hb,h2⟩ | hb;(have:=hb.2;omega);all_goals ((try have h9:=tE.lt);(try simp at hb);(try (change (World.alloc wz _).heap.size≤_ at hb;rw [World.size_alloc] at hb));omega)) (fun b hb=>by rcases hb with ⟨hb | hb,h2⟩ | hb;(exact .inl hb);all_goals (refine .inr ?_;(try simp at hb);(try (change (World.alloc wz _).heap.size≤_ at hb;rw [World.size_alloc] at hb));omega)) hv8,((hb9.setCell (p:=⟨w7.heap.size,0,none⟩) hs7 _).setCell (p:=⟨w7.heap.size,1,none⟩) hs7 _).setCell (p:=⟨w7.heap.size,2,none⟩) hs7 _⟩
       case rest=>
        obtain ⟨g13,s8,A8,k8,c8,B8,m8,d8,rfl,hT13,hV13,hB13⟩:=hcut;obtain ⟨wy,rfl⟩:∃V:World,V=wc:=⟨_,rfl⟩;obtain ⟨j,hj⟩:∃j:Nat,k+m=j:=⟨_,rfl⟩;(have hjN:j<N:=by omega);(have ew5:IntKind.i64.wrap ((k:Int)+(m:Int))=(j:Int):=by rw [IntWalk.i64_in _ (by omega)];omega);(have hj0:(0:Int)≤(j:Int):=by omega);(have hj1:(j:Int)<(N:Int):=by omega);have HOy:=hiD (HO.out.bel2 hB13.out);obtain ⟨x,hx0,hx1,hx2,hxV,hxf,hxl⟩:=tout_at HOy.out hE.out j hjN;obtain ⟨sx,Ax,kx,cx,Bx,mx,dx⟩:=x;simp only at hx0 hx1 hx2;have p4:=(HP4.out.bel hB13.out).cell2;have l4:=(HP4.out.bel hB13.out).lt;have z0:=hT13.out.cell0;have z1:=hT13.out.cell1;have z2:=hT13.out.cell2;have l13:=hT13.out.lt;have hsy:=hB13.out.size;have hnmp:Siz.nm ((Poly.part (kids f) (kids g) k m).co j)<2^(64*K):=Nat.lt_of_le_of_lt (Poly.nmP_co _ j) (Nat.lt_of_le_of_lt (Poly.part_nm _ _ k m) nfg);have hnmx:Siz.nm (0 - (kids f).co k*(kids g).co m)<2^(64*K):=Nat.lt_of_le_of_lt (nm_sub _ _) (by rw [Siz.nm_zero,Nat.zero_add];exact hnm);have CL2:=hiD (fun W (hW:Below wy.heap.size wy W)=>mless K hK n (by omega) (fun b=>((S b∧b<w.heap.size)∨w.heap.size≤b)∧(Value.slice (some ⟨w.heap.size+1+1+1,0,none⟩) N N).ownBlock≠some b∧¬b=w.heap.size+1+1) W _ _ _ _ (hxV.bel hW) ((hV13.out.bel hW).mono fun b hb=>by
         rcases hb with hb | hb
         · exact ⟨.inl hb,fun e=>by have e2:w.heap.size+1+1+1=b:=by injection e
                                    have:=hb.2;omega,by have:=hb.2;omega⟩
         · exact ⟨.inr (by omega),fun e=>by have e2:w.heap.size+1+1+1=b:=by injection e
                                            omega,by omega⟩) hnmp hnmx (lens_dg n _ _ (Poly.part_dg Ddf.out.2 Ddg.out.2 k m j) fun j=>Dfg.out (j+1)) (lens_dg n _ _ (dg_sub (Siz.dg_zero _) dfg.out) fun j=>Dfg.out (j+1)))
        have F:Hid (∀(W w11:World) (s:Bool) (A:Option Addr) (q c:Nat) (B:Option Addr) (m' d:Nat),wy.heap.size≤W.heap.size→Below wy.heap.size wy w11→TreW (fun b=>(((S b∧b<w.heap.size)∨w.heap.size≤b)∧(Value.slice (some ⟨w.heap.size+1+1+1,0,none⟩) N N).ownBlock≠some b∧¬b=w.heap.size+1+1)∨W.heap.size≤b) n w11 (treV s A q c B m' d) ((Poly.part (kids f) (kids g) k m).co j - (0 - (kids f).co k*(kids g).co m))→
         ∃E':List KE,Hid (E'.length=N)∧Hid (TOut 51 (fun b=>S b∧b<w.heap.size) (fun b=>b=w.heap.size+1+1) w (w.heap.size+1+1+1) (((w11.setCell ⟨w.heap.size+1+1+1,j*3,none⟩ (.bool s)).setCell ⟨w.heap.size+1+1+1,j*3+1,none⟩ (.slice A q c)).setCell ⟨w.heap.size+1+1+1,j*3+2,none⟩ (.slice B m' d)) n (.slice (some ⟨w.heap.size+1+1+1,0,none⟩) N N) E' (fun i=>(Poly.part (kids f) (kids g) k (m+1)).co i))∧Hid (Only (fun b=>b=w.heap.size+1+1+1∨wq.heap.size≤b) wq (((w11.setCell ⟨w.heap.size+1+1+1,j*3,none⟩ (.bool s)).setCell ⟨w.heap.size+1+1+1,j*3+1,none⟩ (.slice A q c)).setCell ⟨w.heap.size+1+1+1,j*3+2,none⟩ (.slice B m' d)))):=fun W w11 s A q c B m' d hW hb11 hv=>by
         have h1:=HOy.out.bel2 hb11;have hqz:=Hon2.out.size;refine ⟨E.set j ⟨s,A,q,c,B,m',d⟩,by show _=_;rw [List.length_set];exact hE.out,tout_put h1 hE.out (by omega) j hjN ⟨s,A,q,c,B,m',d⟩ _ (hv.mono fun b hb=> ?_) _ (fun i=> ?_),?_⟩
         · rcases hb with hb | hb
           · exact hb
           · exact ⟨.inr (by omega),fun e=>by have e2:w.heap.size+1+1+1=b:=by injection e
                                              omega,by omega⟩
         · rw [Poly.part_co,hj]
           split
           · rename_i e
             rw [e,CRing.sub_def (0:Pn n),CRing.zero_add,CRing.sub_def,CRing.neg_neg]
           · rfl
         · have r1:Only (fun b=>b=w.heap.size+1+1+1∨wq.heap.size≤b) wz wy:=(Only.of_below hB13.out).mono fun b hb=> .inr (by omega)
           have r2:Only (fun b=>b=w.heap.size+1+1+1∨wq.heap.size≤b) wy w11:=(Only.of_below hb11).mono fun b hb=> .inr (by omega);exact ((((Hon2.out.trans r1).trans r2).setCell (p:=⟨w.heap.size+1+1+1,j*3,none⟩) (.inl rfl) _).setCell (p:=⟨w.heap.size+1+1+1,j*3+1,none⟩) (.inl rfl) _).setCell (p:=⟨w.heap.size+1+1+1,j*3+2,none⟩) (.inl rfl) _
        have G:Hid (∀w11,Below wy.heap.size wy w11→w11.cell? ⟨w.heap.size+1+1+1+1,2,none⟩=some (.slice (some ⟨w.heap.size+1+1+1,0,none⟩) N N)∧w11.cell? ⟨w.heap.size+1+1+1,j*3,none⟩=some (.bool sx)∧w11.cell? ⟨w.heap.size+1+1+1,j*3+1,none⟩=some (.slice Ax kx cx)∧w11.cell? ⟨w.heap.size+1+1+1,j*3+2,none⟩=some (.slice Bx mx dx)∧(∀i,w11.frozen? ⟨w.heap.size+1+1+1,i,none⟩=false)):=fun w11 hb11=>
         ⟨((HP4.out.bel hB13.out).bel hb11).cell2,(hb11.cell (p:=⟨w.heap.size+1+1+1,j*3,none⟩) hxl).trans hx0,(hb11.cell (p:=⟨w.heap.size+1+1+1,j*3+1,none⟩) hxl).trans hx1,(hb11.cell (p:=⟨w.heap.size+1+1+1,j*3+2,none⟩) hxl).trans hx2,fun i=>(hb11.frozen (p:=⟨w.heap.size+1+1+1,i,none⟩) hxl).trans (hxf i)⟩
        have hxf0:=hxf (j*3);have hxf1:=hxf (j*3+1);have hxf2:=hxf (j*3+2);clear HO Q5 Q10 Q12 HBz CT CL keepS hxV hnmp hnmx hT13 hV13 a0 a1 a2 b0 b1 b2 y0 y1 y2 hl5 hl10 hl12 nfk ngm dfg hxf HP4 HOy E4 HBp TX hon1;unfold KE.v treV at CL2;unfold treV at F;(go_wp2_with fail);go_region_with (go_at_call 85;refine (CL2.out _ (by first | exact bRr.drew | exact bRr)).mono ?_;rintro e w11 ⟨s11,A11,k11,c11,B11,m11,d11,rfl,hv11,hb11'⟩;unfold treV;have hb11:Below wy.heap.size wy w11:=(by first | exact bRr.drew.trans hb11' | exact hb11');obtain ⟨q4,q0,q1,q2,q3⟩:=G.out w11 hb11;have q30:=q3 (j*3);have q31:=q3 (j*3+1);have q32:=q3 (j*3+2))
        all_goals
         obtain ⟨E',hE',hO',hon'⟩:=F.out wy.drew w11 s11 A11 k11 c11 B11 m11 d11 lRr hb11 hv11;clear hv11 hb11 hb11' q4 q0 q1 q2 q3 q30 q31 q32 F G CL2 hx0 hx1 hx2 hxf0 hxf1 hxf2 z0 z1 z2 p4;(go_wp2_with fail);go_roundw
         case rel=>exact ⟨m+1,E',by omega,by go_num,hE',hO',hon'⟩
         case measure=>simp [intOf];omega
     · have hlt2:¬(m:Int)<((kids g).len:Int):=by omega
       (obtain rfl:m=(kids g).len:=by omega);(have HO2:Hid (TOut 51 (fun b=>S b∧b<w.heap.size) (fun b=>b=w.heap.size+1+1) w (w.heap.size+1+1+1) wp' n (.slice (some ⟨w.heap.size+1+1+1,0,none⟩) N N) E (fun i=>(Poly.part (kids f) (kids g) (k+1) 0).co i)):=hO.out.congr fun i _=>by rw [Poly.part_row (Poly.len_sh (kids g))]);clear hO P4 P5 P10 HBp hon2;(go_wp2_with fail);go_roundw
       case rel=>exact ⟨k+1,E,by omega,by go_num,hE,HO2,hon⟩
       case measure=>simp [intOf];omega
  · have hlt':¬(k:Int)<((kids f).len:Int):=by omega
    (obtain rfl:k=(kids f).len:=by omega);obtain ⟨B9,d9,hov,q1,q2,q3⟩:=hO.out.row (fun b hb=>by omega);rw [hE.out] at hov q1 q3;injection hov with o1 _ o3
    subst o1;subst o3;have hsh:(kids f*kids g).Sh N:=(Poly.len_sh (kids f)).mul (Poly.len_sh (kids g)) (by omega);have q4:RowK (fun b=>((S b∧b<w.heap.size)∨w.heap.size≤b)∧¬b=w.heap.size+1+1) (fun i u=>TreW (fun b=>((S b∧b<w.heap.size)∨w.heap.size≤b)∧¬b=w.heap.size+1+1) n wp u ((kids f*kids g).co i)) wp (some ⟨w.heap.size+1+1+1,0,none⟩) N:=by
     rw [Poly.part_end (Poly.len_sh (kids f))] at q3;exact q3
    have Q4:=hiD q4;have Ct:=hiD (fun W (hW:Below wp.heap.size wp W)=>mtrim (fun b=>((S b∧b<w.heap.size)∨w.heap.size≤b)∧¬b=w.heap.size+1+1) n W _ N N (kids f*kids g) (Q4.out.bel hW) hsh lRr q2 hn K (by omega) (fun i=>Nat.lt_of_le_of_lt (Poly.nmP_co _ i) (Nat.lt_of_le_of_lt (Poly.nmP_mul (kids g) _ (kids f) (Poly.len_sh _)) nfg)));have t70:=P4.out.cell0;have t71:=P4.out.cell1;have t72:=P4.out.cell2;clear q3 q4 hsh hE hO hon;unfold treV at Ct;(go_wp2_with fail);refine (Ct.out _ bRr).mono ?_;rintro e w1 ⟨s1,A1,k1,c1,B1,m1,d1,rfl,hv1,hb1⟩;have T3':=hiD (P2.out.bel hb1);have r0:=T3'.out.cell0;have r1:=T3'.out.cell1;have r2:=T3'.out.cell2;have r3:=T3'.out.frozen 0;have r4:=T3'.out.frozen 1;have r5:=T3'.out.frozen 2;have F:Hid (TreW (fun b=>S b∨w.heap.size≤b) (n+1) (((w1.setCell ⟨w.heap.size+1+1,0,none⟩ (.bool s1)).setCell ⟨w.heap.size+1+1,1,none⟩ (.slice A1 k1 c1)).setCell ⟨w.heap.size+1+1,2,none⟩ (.slice B1 m1 d1)) (treV s1 A1 k1 c1 B1 m1 d1) (f*g)):=
     TreW.only (trio_only w1 (w.heap.size+1+1) _ _ _) (fun b hb e=>by
      have h9:=P2.out.lt;rcases hb with hb | hb
      · exact hb.2 e
      · omega) (fun b hb=>by
      have h9:=HBp.out.size;rcases hb with hb | hb
      · rcases hb.1 with h | h
        · exact .inl h.1
        · exact .inr h
      · exact .inr (by omega)) hv1
    have hb2:Below w.heap.size w w1:=HBp.out.tm hb1;have hb':Hid (Below w.heap.size w (((w1.setCell ⟨w.heap.size+1+1,0,none⟩ (.bool s1)).setCell ⟨w.heap.size+1+1,1,none⟩ (.slice A1 k1 c1)).setCell ⟨w.heap.size+1+1,2,none⟩ (.slice B1 m1 d1))):=bel_trio hb2 (by omega) _ _ _;clear hv1 hb1 hb2 Ct;unfold treV;(go_wp2_with fail);exact bodyPost_ret (v:=.agg #[.bool s1,.slice A1 k1 c1,.slice B1 m1 d1]) (results_cell_row (fn:=Tryz.f86) rfl _ _ _ _ _ _ _ rfl (T3'.out.set (.bool s1) (.slice A1 k1 c1) (.slice B1 m1 d1)) Tryz.underlying51 rfl apoly_size) rfl
     ⟨s1,A1,k1,c1,B1,m1,d1,rfl,F.out,hb'.out⟩
theorem mtimesT (K:Nat) (hK:K≤3900000000000):∀n,n≤100→TimesN n K
 | 0,_=>fun S w u v f g _ _ hf hg _ _ _ nf ng _=>mtimes0 S w u v f g hf hg K hK nf ng
 | n+1,hn=>fun S w u v f g D E hf hg df dg hD nf ng nfg=>by
   rw [Int.natCast_add];by_cases h0:f=0∨g=0
   · exact mtimesZ n (by omega) S w u v f g hf hg h0
   · exact mtimesS n K hK (by omega) (mtimesT K hK n (by omega)) S w u v f g D E hf hg (fun e=>h0 (.inl e)) (fun e=>h0 (.inr e)) df dg hD nf ng nfg
end Go.Proofs.YtehcoffbiplphaaGreat
namespace Cl
open CRing Go Go.RowKit
theorem nmP_C {R:Type} [Siz R] (c:R):Poly.nmP (Poly.C c)=Siz.nm c:=by
 rw [Poly.nmP_eq (Poly.sh_C c)]
 show 0+Siz.nm ((Poly.C c).co 0)=_
 rw [Poly.co_C,if_pos rfl,Nat.zero_add]
theorem dgP_C {R:Type} [Siz R] {E:Nat→Nat} {c:R}(h:Siz.dg E c):Poly.dgP (Poly.consD 0 E) (Poly.C c):=⟨Poly.sh_C c,fun i=>by
 rw [Poly.co_C]
 split
 · exact h
 · exact Siz.dg_zero _⟩
theorem TreW.one {S:Nat→Prop} {n:Nat} {w:World} {g:Nat} {T:TypeId} {s:Bool} {A:Option Addr} {k c:Nat} {B:Option Addr} {m d:Nat} {x:Pn n}(ht:w.heap[g]? =some (.cells #[.bool s,.slice A k c,.slice B m d] T (0,0))) (hx:TreW S n w (treV s A k c B m d) x) (x0:x≠0) (hS:S g):
 TreW S (n+1) w (treV false none 0 0 (some ⟨g,0,none⟩) 1 1) (mkK (Poly.C x)):=by
 have hl:(kids (mkK (Poly.C x))).len=1:=Poly.len_CD x0
 refine ⟨some ⟨g,0,none⟩,1,by rw [hl],by rw [hl];exact lRr,by omega,fun _=>⟨g,0,rfl,hS,(Array.getElem?_eq_some_iff.1 ht).1,fun i hi=> ?_⟩⟩
 rw [hl] at hi
 obtain rfl:i=0:=by omega
 refine ⟨s,A,k,c,B,m,d,by rw [cell_of_row w g _ _ _ (0,0) ht];rfl,by rw [cell_of_row w g _ _ _ (0,0) ht];rfl,by rw [cell_of_row w g _ _ _ (0,0) ht];rfl,?_⟩
 have e:(kids (mkK (Poly.C x))).co 0=x:=by rw [kids_mk,Poly.co_C,if_pos rfl]
 show TreW S n w _ ((kids (mkK (Poly.C x))).co 0)
 rw [e]
 exact hx
end Cl
namespace Go.Proofs.YtehcoffbiplphaaGreat
open Go.RowKit Cl CRing
attribute [local go_sem ↓] Go.wp_at_zero Go.wp_at_succ
theorem mscaled (n K:Nat) (hn:n≤100) (hT:TimesN (n+1) K) (S:Nat→Prop) (w:World) (u v:Value) (f:Pn (n+1)) (x:Pn n) (D E:Nat→Nat) (hf:TreW S (n+1) w u f) (hx:TreW S n w v x) (x0:x≠0) (df:Siz.dg D f) (dx:Siz.dg E x) (hD:D 0<1000000000000) (hDE:∀j,D (j+1)+E j<1000000000000) (nf:Siz.nm f<2^(64*K)) (nx:Siz.nm x<2^(64*K)) (nfx:Siz.nm f*Siz.nm x<2^(64*K)):
 Calls Tryz.prog 55 #[u,.int .i64 ((n:Int)+1),v] w (GivesTr S w (n+1) (f*mkK (Poly.C x))):=by
 obtain ⟨s1,A1,k1,c1,B1,m1,d1,rfl⟩:=hf.shape
 obtain ⟨s2,A2,k2,c2,B2,m2,d2,rfl⟩:=hx.shape
 have hf':=hf.here
 have hx':=hx.here
 have t2:=(Trio.new ((w.alloc (.cells #[.bool s1,.slice A1 k1 c1,.slice B1 m1 d1] 51)).alloc (.cells #[.bool s2,.slice A2 k2 c2,.slice B2 m2 d2] 51)) (.bool false) (.slice none 0 0) (.slice none 0 0)).bel (bRr.alloc lRr (.cells #[.bool s2,.slice A2 k2 c2,.slice B2 m2 d2] 51))
 have t3:=Trio.new (((w.alloc (.cells #[.bool s1,.slice A1 k1 c1,.slice B1 m1 d1] 51)).alloc (.cells #[.bool s2,.slice A2 k2 c2,.slice B2 m2 d2] 51)).alloc (.cells #[.bool false,.slice none 0 0,.slice none 0 0] 51)) (.bool s2) (.slice A2 k2 c2) (.slice B2 m2 d2)
 rw [World.size_alloc,World.size_alloc] at t2
 rw [World.size_alloc,World.size_alloc,World.size_alloc] at t3
 have hb:Below w.heap.size w ((((w.alloc (.cells #[.bool s1,.slice A1 k1 c1,.slice B1 m1 d1] 51)).alloc (.cells #[.bool s2,.slice A2 k2 c2,.slice B2 m2 d2] 51)).alloc (.cells #[.bool false,.slice none 0 0,.slice none 0 0] 51)).alloc (.cells #[.bool s2,.slice A2 k2 c2,.slice B2 m2 d2] 51)):=(((bRr.alloc lRr _).alloc (by simp) _).alloc (by simp;omega) _).alloc (by simp;omega) _
 have hone:=TreW.one (S:=fun b=>(S b∧b<w.heap.size)∨b=w.heap.size+1+1+1) t3 ((hx'.bel hb).mono fun b hb=> .inl hb) x0 (.inr rfl)
 have hDE':∀j,D j+Poly.consD 0 E j<1000000000000:=fun j=>by
  cases j with
  | zero=>exact hD
  | succ j=>exact hDE j
 have e1:Siz.nm (mkK (Poly.C x))=Siz.nm x:=by rw [nm_kids,kids_mk];exact nmP_C x
 have dC:Siz.dg (Poly.consD 0 E) (mkK (Poly.C x)):=(show Poly.dgP (Poly.consD 0 E) (kids (mkK (Poly.C x))) from dgP_C dx)
 have C:=hiD (hT (fun b=>(S b∧b<w.heap.size)∨b=w.heap.size+1+1+1) _ _ _ f (mkK (Poly.C x)) D (Poly.consD 0 E) ((hf'.bel hb).mono fun b hb=> .inl hb) hone df dC hDE' nf (by rw [e1];exact nx) (by rw [e1];exact nfx))
 have hsz:((((w.alloc (.cells #[.bool s1,.slice A1 k1 c1,.slice B1 m1 d1] 51)).alloc (.cells #[.bool s2,.slice A2 k2 c2,.slice B2 m2 d2] 51)).alloc (.cells #[.bool false,.slice none 0 0,.slice none 0 0] 51)).alloc (.cells #[.bool s2,.slice A2 k2 c2,.slice B2 m2 d2] 51)).heap.size=w.heap.size+1+1+1+1:=by simp
 have T2:=hiD t2
 have HB:=hiD hb
 clear hf hx hf' hx' t2 t3 hb hone
 rw [Int.natCast_add] at C
 unfold treV at C
 unfold treV
 go_enter Tryz.func55,Tryz.ntmps55
 go_wp2_with fail
 refine C.out.mono ?_
 rintro e w1 ⟨s7,A7,k7,c7,B7,m7,d7,rfl,hv,hb1⟩
 have T3:=hiD (T2.out.bel hb1)
 have r0:=T3.out.cell0
 have r1:=T3.out.cell1
 have r2:=T3.out.cell2
 have r3:=T3.out.frozen 0
 have r4:=T3.out.frozen 1
 have r5:=T3.out.frozen 2
 have F:Hid (TreW (fun b=>S b∨w.heap.size≤b) (n+1) (((w1.setCell ⟨w.heap.size+1+1,0,none⟩ (.bool s7)).setCell ⟨w.heap.size+1+1,1,none⟩ (.slice A7 k7 c7)).setCell ⟨w.heap.size+1+1,2,none⟩ (.slice B7 m7 d7)) (treV s7 A7 k7 c7 B7 m7 d7) (f*mkK (Poly.C x))):=
  TreW.only (trio_only w1 (w.heap.size+1+1) _ _ _) (fun b hb e=>by rcases hb with (hb | hb) | hb<;>omega) (fun b hb=>by
   rcases hb with (hb | hb) | hb
   · exact .inl hb.1
   · exact .inr (by omega)
   · exact .inr (by omega)) hv
 have hb2:Below w.heap.size w w1:=HB.out.tm hb1
 have hb':Hid (Below w.heap.size w (((w1.setCell ⟨w.heap.size+1+1,0,none⟩ (.bool s7)).setCell ⟨w.heap.size+1+1,1,none⟩ (.slice A7 k7 c7)).setCell ⟨w.heap.size+1+1,2,none⟩ (.slice B7 m7 d7))):=((hb2.setCell (p:=⟨w.heap.size+1+1,0,none⟩) (by show _≤w.heap.size+1+1;omega) _).setCell (p:=⟨w.heap.size+1+1,1,none⟩) (by show _≤w.heap.size+1+1;omega) _).setCell (p:=⟨w.heap.size+1+1,2,none⟩) (by show _≤w.heap.size+1+1;omega) _
 clear hv hb1 hb2 C
 unfold treV
 go_wp2_with fail
 exact bodyPost_ret (v:=.agg #[.bool s7,.slice A7 k7 c7,.slice B7 m7 d7]) (results_cell_row (fn:=Tryz.f55) rfl _ _ _ _ _ _ _ rfl (T3.out.set (.bool s7) (.slice A7 k7 c7) (.slice B7 m7 d7)) Tryz.underlying51 rfl apoly_size) rfl
  ⟨s7,A7,k7,c7,B7,m7,d7,rfl,F.out,hb'.out⟩
end Go.Proofs.YtehcoffbiplphaaGreat
