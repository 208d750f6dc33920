/- Contract: what the coefficients of a tree have in common. -/
import Derived.Test.YtehcoffbiplphaaGreatSTrb
set_option linter.unusedVariables false
set_option linter.unusedSimpArgs false
set_option maxHeartbeats 16000000
set_option maxRecDepth 100000
namespace Cl
open CRing
section
variable {n : Nat} {f : Nat → Pn n} {m : Nat} {c g : Pn n}
def GsP (f:Nat→Pn n) (m:Nat) (c:Pn n):Prop:=(∀i,i<m→Dv c (f i))∧∀d,(∀i,i<m→Dv d (f i))→Dv d c
theorem GsP.zero (f:Nat→Pn n):GsP f 0 0:=⟨fun i hi=>absurd hi (Nat.not_lt_zero i),fun d _=>Dv.zero d⟩
theorem GsP.next (h:GsP f m c) (hg:IsG g c (f m)):GsP f (m+1) g:=⟨fun i hi=>by
 by_cases e:i=m
 · rw [e];exact hg.r
 · exact hg.l.trans (h.1 i (by omega)),fun d hd=>hg.top d (h.2 d fun i hi=>hd i (by omega)) (hd m (by omega))⟩
theorem GsP.cont {f:Poly (Pn n)}(h:GsP f.co f.len c):Poly.Cont c f:=⟨fun i=>by
 by_cases hi:i<f.len
 · exact h.1 i hi
 · rw [Poly.len_sh f i (by omega)];exact Dv.zero c,fun d hd=>h.2 d fun i _=>hd i⟩
end
end Cl
namespace Go.Proofs.YtehcoffbiplphaaGreat
open Go.RowKit Cl CRing
attribute [local go_sem ↓] Go.wp_at_zero Go.wp_at_succ
def ComOk (n:Nat) (a b:Pn n):Prop:=∀(S:Nat→Prop) (w:World) (u v:Value),TreW S n w u a→TreW S n w v b→Calls Tryz.prog 27 #[.int .i64 (n:Int),u,v] w (fun e w'=>∃g,IsG g a b∧GivesTr S w n g e w')
theorem mcontent (n:Nat) (hn:n≤100) (S:Nat→Prop) (w:World) (v:Value) (f:Pn (n+1)) (hf:TreW S (n+1) w v f) (hlen:(kids f).len≤1000000000000) (hc:∀m c,m<(kids f).len→GsP (kids f).co m c→ComOk n c ((kids f).co m)):
 Calls Tryz.prog 52 #[v,.int .i64 ((n:Int)+1)] w (fun e w'=>∃c,Poly.Cont c (kids f)∧GivesTr S w n c e w'):=by
 obtain ⟨B,c,rfl,h1,h2,h3⟩:=hf.here
 have ew:IntKind.i64.wrap ((n:Int)+1 - 1)=(n:Int):=by rw [IntWalk.i64_in _ (by omega)];omega
 have ew2:IntKind.i64.wrap (n:Int)=(n:Int):=IntWalk.i64_in _ (by omega)
 have t0:=((Trio.new w (.bool false) (.slice none 0 0) (.slice B (kids f).len c)).bel (bRr.alloc lRr (.cells #[.bool false,.slice none 0 0,.slice none 0 0] 51))).bel (bRr.alloc lRr (.cells #[.bool false,.slice none 0 0,.slice none 0 0] 51))
 have t1:=(Trio.new (w.alloc (.cells #[.bool false,.slice none 0 0,.slice B (kids f).len c] 51)) (.bool false) (.slice none 0 0) (.slice none 0 0)).bel (bRr.alloc lRr (.cells #[.bool false,.slice none 0 0,.slice none 0 0] 51))
 have t2:=Trio.new ((w.alloc (.cells #[.bool false,.slice none 0 0,.slice B (kids f).len c] 51)).alloc (.cells #[.bool false,.slice none 0 0,.slice none 0 0] 51)) (.bool false) (.slice none 0 0) (.slice none 0 0)
 rw [World.size_alloc] at t1
 rw [World.size_alloc,World.size_alloc] at t2
 have hb:Below w.heap.size w (((w.alloc (.cells #[.bool false,.slice none 0 0,.slice B (kids f).len c] 51)).alloc (.cells #[.bool false,.slice none 0 0,.slice none 0 0] 51)).alloc (.cells #[.bool false,.slice none 0 0,.slice none 0 0] 51)):=((bRr.alloc lRr _).alloc (by simp) _).alloc (by simp;omega) _
 have hsz:(((w.alloc (.cells #[.bool false,.slice none 0 0,.slice B (kids f).len c] 51)).alloc (.cells #[.bool false,.slice none 0 0,.slice none 0 0] 51)).alloc (.cells #[.bool false,.slice none 0 0,.slice none 0 0] 51)).heap.size=w.heap.size+1+1+1:=by simp
 have k0:=t0.cell2
 have H3:=hiD h3
 have Hc:=hiD hc
 clear h3 hf hc
 unfold treV
 go_enter Tryz.func52,Tryz.ntmps52
 go_wp2_with fail
 generalize hwt:((w.alloc (.cells #[.bool false,.slice none 0 0,.slice B (kids f).len c] 51)).alloc (.cells #[.bool false,.slice none 0 0,.slice none 0 0] 51)).alloc (.cells #[.bool false,.slice none 0 0,.slice none 0 0] 51)=wt at*
 clear hwt
 have T1:=hiD t1
 have T2:=hiD t2
 have HB:=hiD hb
 clear t0 t1 t2 hb k0
 go_loopw [11] (fun i wr=>∃(m:Nat) (g:Pn n) (s:Bool) (A:Option Addr) (k c':Nat) (B':Option Addr) (m' d':Nat),m≤(kids f).len∧i=.int .i64 (m:Int)∧Hid (GsP (kids f).co m g)∧Hid (Trio wr (w.heap.size+1+1) (.bool s) (.slice A k c') (.slice B' m' d'))∧Hid (TreW (fun b=>(S b∧b<w.heap.size)∨wt.heap.size≤b) n wr (.agg #[.bool s,.slice A k c',.slice B' m' d']) g)∧Hid (Only (fun b=>b=w.heap.size+1+1∨wt.heap.size≤b) wt wr)) (fun i _=>(kids f).len - (intOf i).toNat)
 case atStart=>exact ⟨0,0,false,none,0,0,none,0,0,Nat.zero_le _,rfl,GsP.zero _,T2,TreW.nought _ _ n,Only.refl _ _⟩
 case round=>
  clear T2;obtain ⟨m,g,s,A,k,c',B',m',d',hm,rfl,hG,hT,hV,hon⟩:=hrel;obtain ⟨wp,rfl⟩:∃wp:World,wp=wr:=⟨_,rfl⟩;have P1:Hid (Trio wp (w.heap.size+1) (.bool false) (.slice none 0 0) (.slice none 0 0)):=T1.out.keep (hon.out.block _ T1.out.lt (by omega));have HBp:Hid (Below w.heap.size w wp):=HB.out.trans (hon.out.below (Nat.le_of_lt (by omega)) fun b hb=>by omega);by_cases hlt:m<(kids f).len
  · have hlt':(m:Int)<((kids f).len:Int):=by omega
    obtain ⟨b,o,rfl,hb,hl,hkid⟩:=H3.out (by omega);obtain ⟨s1,A1,k1,c1,B1,m1,d1,e1,e2,e3,e4⟩:=hkid m hlt;(have hm0:(0:Int)≤(m:Int):=by omega);have g1:=(HBp.out.cell (p:=⟨b,o+m*3,none⟩) hl).trans e1;have g2:=(HBp.out.cell (p:=⟨b,o+m*3+1,none⟩) hl).trans e2;have g3:=(HBp.out.cell (p:=⟨b,o+m*3+2,none⟩) hl).trans e3;(have hlb:b<wp.heap.size:=by have:=HBp.out.size;omega);have E4:=hiD (e4.bel HBp.out);clear hkid e1 e2 e3 e4;have hbq:Below wp.heap.size wp (wp.alloc (.cells #[.bool s1,.slice A1 k1 c1,.slice B1 m1 d1] 51)):=bRr.alloc lRr _;have tQ:=hT.out.bel hbq;have tX:=Trio.new wp (.bool s1) (.slice A1 k1 c1) (.slice B1 m1 d1);have b0:=tQ.cell0;have b1:=tQ.cell1;have b2:=tQ.cell2;have hwz:=hon.out.size;have C:=hiD (Hc.out m g hlt hG.out (fun b=>(S b∧b<w.heap.size)∨wt.heap.size≤b) (wp.alloc (.cells #[.bool s1,.slice A1 k1 c1,.slice B1 m1 d1] 51)) _ _ (hV.out.bel hbq) ((E4.out.bel hbq).mono fun b hb=> .inl hb));have Q1:=hiD (P1.out.bel hbq);have TQ:=hiD tQ;have Hq:=hiD hbq;(have hlq:w.heap.size+1+1<wp.heap.size:=by have:=hT.out.lt;omega);clear hT hV E4 P1 tQ tX hbq;unfold treV at C;(go_wp2_with fail);refine C.out.mono ?_;rintro e w1 ⟨g',hg',s7,A7,k7,c7,B7,m7,d7,rfl,hv7,hb7⟩;have hq:=Hq.out.size;have T7:=hiD (TQ.out.bel hb7);have f0:=T7.out.frozen 0;have f1:=T7.out.frozen 1;have f2:=T7.out.frozen 2;have r0:=T7.out.cell0;have r1:=T7.out.cell1;have r2:=T7.out.cell2;have HV:Hid (TreW (fun b=>(S b∧b<w.heap.size)∨wt.heap.size≤b) n (((w1.setCell ⟨w.heap.size+1+1,0,none⟩ (.bool s7)).setCell ⟨w.heap.size+1+1,1,none⟩ (.slice A7 k7 c7)).setCell ⟨w.heap.size+1+1,2,none⟩ (.slice B7 m7 d7)) (.agg #[.bool s7,.slice A7 k7 c7,.slice B7 m7 d7]) g'):=
     TreW.only (trio_only w1 (w.heap.size+1+1) _ _ _) (fun b hb e=>by rcases hb with (hb | hb) | hb<;>omega) (fun b hb=>hb.elim id fun h=> .inr (by omega)) hv7
    have HT:Hid (Trio (((w1.setCell ⟨w.heap.size+1+1,0,none⟩ (.bool s7)).setCell ⟨w.heap.size+1+1,1,none⟩ (.slice A7 k7 c7)).setCell ⟨w.heap.size+1+1,2,none⟩ (.slice B7 m7 d7)) (w.heap.size+1+1) (.bool s7) (.slice A7 k7 c7) (.slice B7 m7 d7)):=T7.out.set _ _ _;have HG:Hid (GsP (kids f).co (m+1) g'):=hG.out.next hg';have HON:Hid (Only (fun b=>b=w.heap.size+1+1∨wt.heap.size≤b) wt (((w1.setCell ⟨w.heap.size+1+1,0,none⟩ (.bool s7)).setCell ⟨w.heap.size+1+1,1,none⟩ (.slice A7 k7 c7)).setCell ⟨w.heap.size+1+1,2,none⟩ (.slice B7 m7 d7))):=
     ((hon.out.trans ((Only.of_below Hq.out).mono fun b hb=> .inr (by omega))).trans ((Only.of_below hb7).mono fun b hb=> .inr (by omega))).trans ((trio_only w1 (w.heap.size+1+1) _ _ _).mono fun b hb=> .inl hb)
    clear hv7 hb7 C TQ Hq hG hg' hon;unfold treV;(go_wp2_with fail);go_roundw
    case rel=>exact ⟨m+1,g',s7,A7,k7,c7,B7,m7,d7,by omega,by go_num,HG,HT,HV,HON⟩
    case measure=>simp [intOf];omega
  · have hlt':¬(m:Int)<((kids f).len:Int):=by omega
    (obtain rfl:m=(kids f).len:=by omega);have b0:=hT.out.cell0;have b1:=hT.out.cell1;have b2:=hT.out.cell2;have r0:=P1.out.cell0;have r1:=P1.out.cell1;have r2:=P1.out.cell2;have r3:=P1.out.frozen 0;have r4:=P1.out.frozen 1;have r5:=P1.out.frozen 2;have F:Hid (TreW (fun b=>S b∨w.heap.size≤b) n (((wp.setCell ⟨w.heap.size+1,0,none⟩ (.bool s)).setCell ⟨w.heap.size+1,1,none⟩ (.slice A k c')).setCell ⟨w.heap.size+1,2,none⟩ (.slice B' m' d')) (.agg #[.bool s,.slice A k c',.slice B' m' d']) g):=
     TreW.only (trio_only wp (w.heap.size+1) _ _ _) (fun b hb e=>by rcases hb with hb | hb<;>omega) (fun b hb=>hb.imp (fun h=>h.1) fun h=>by omega) hV.out
    have hb':Hid (Below w.heap.size w (((wp.setCell ⟨w.heap.size+1,0,none⟩ (.bool s)).setCell ⟨w.heap.size+1,1,none⟩ (.slice A k c')).setCell ⟨w.heap.size+1,2,none⟩ (.slice B' m' d'))):=((HBp.out.setCell (p:=⟨w.heap.size+1,0,none⟩) (Nat.le_succ _) _).setCell (p:=⟨w.heap.size+1,1,none⟩) (Nat.le_succ _) _).setCell (p:=⟨w.heap.size+1,2,none⟩) (Nat.le_succ _) _;have HG:=hiD hG.out.cont;clear hT hV hon hG;(go_wp2_with fail);exact bodyPost_ret (v:=.agg #[.bool s,.slice A k c',.slice B' m' d']) (results_cell_row (fn:=Tryz.f52) rfl _ _ _ _ _ _ _ rfl (P1.out.set (.bool s) (.slice A k c') (.slice B' m' d')) Tryz.underlying51 rfl apoly_size) rfl
     ⟨g,HG.out,s,A,k,c',B',m',d',rfl,F.out,hb'.out⟩
end Go.Proofs.YtehcoffbiplphaaGreat
