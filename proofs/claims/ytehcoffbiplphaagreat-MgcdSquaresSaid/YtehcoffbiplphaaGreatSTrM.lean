/- Contract: the greatest common divisor of two trees, but for its sign (printed by gen/mcommon.py). -/
import Derived.Test.YtehcoffbiplphaaGreatSTrN
import Derived.Test.YtehcoffbiplphaaGreatSTrL
set_option linter.unusedVariables false
set_option linter.unusedSimpArgs false
set_option maxHeartbeats 16000000
set_option maxRecDepth 100000
namespace Cl
open CRing Go Go.RowKit
theorem look_set {w:World} {g g':Nat} {o:Obj}(h:w.heap[g]? =some o) (hne:g≠g') (a b c:Value):(((w.setCell ⟨g',0,none⟩ a).setCell ⟨g',1,none⟩ b).setCell ⟨g',2,none⟩ c).heap[g]? =some o:=by
 have h1:(w.setCell ⟨g',0,none⟩ a).heap[g]? =w.heap[g]? :=Below.heap_setCell w ⟨g',0,none⟩ a g hne
 have h2:((w.setCell ⟨g',0,none⟩ a).setCell ⟨g',1,none⟩ b).heap[g]? =(w.setCell ⟨g',0,none⟩ a).heap[g]? :=Below.heap_setCell _ ⟨g',1,none⟩ b g hne
 have h3:(((w.setCell ⟨g',0,none⟩ a).setCell ⟨g',1,none⟩ b).setCell ⟨g',2,none⟩ c).heap[g]? =((w.setCell ⟨g',0,none⟩ a).setCell ⟨g',1,none⟩ b).heap[g]? :=Below.heap_setCell _ ⟨g',2,none⟩ c g hne
 rw [h3,h2,h1]
 exact h
def ByFit (n K:Nat) (z q:Pn n):Prop:=∃D E:Nat→Nat,Siz.dg D z∧Siz.dg E q∧(∀j,D j+E j<1000000000000)∧Siz.nm z<2^(64*K)∧Siz.nm q<2^(64*K)∧Siz.nm z*Siz.nm q<2^(64*K)
def RestFit (n K:Nat) (D E:Nat→Nat) (x y:Pn (n+1)):Prop:=Siz.dg D x∧Siz.dg E y∧(∀j,D j+((kids x).len+2)*E j<1000000000000)∧Siz.nm y<2^(64*K)∧(2*Siz.nm y)^((kids x).len+1 - (kids y).len)*Siz.nm x<2^(64*K)
def ScFit (n K:Nat) (x:Pn (n+1)) (g:Pn n):Prop:=∃D E:Nat→Nat,Siz.dg D x∧Siz.dg E g∧D 0<1000000000000∧(∀j,D (j+1)+E j<1000000000000)∧Siz.nm x<2^(64*K)∧Siz.nm g<2^(64*K)∧Siz.nm x*Siz.nm g<2^(64*K)
theorem isG_int {a b:Pn 0} {u v:Nat}(hu:u=(toZ a).natAbs) (hv:v=(toZ b).natAbs):IsG (ofZ ((Nat.gcd u v:Nat):Int)) a b:=by
 subst hu
 subst hv
 have key:∀(d x:Int),(∃c:Int,x=d*c)↔d.natAbs∣x.natAbs:=fun d x=>by
  rw [Int.natAbs_dvd_natAbs];exact Iff.rfl
 refine ⟨(key _ _).2 ?_,(key _ _).2 ?_,fun d h1 h2=>(key _ _).2 ?_⟩
 · show ((Nat.gcd _ _:Nat):Int).natAbs∣_
   rw [Int.natAbs_natCast];exact Nat.gcd_dvd_left _ _
 · show ((Nat.gcd _ _:Nat):Int).natAbs∣_
   rw [Int.natAbs_natCast];exact Nat.gcd_dvd_right _ _
 · show _∣((Nat.gcd _ _:Nat):Int).natAbs
   rw [Int.natAbs_natCast];exact Nat.dvd_gcd ((key _ _).1 h1) ((key _ _).1 h2)
end Cl
namespace Go.Proofs.YtehcoffbiplphaaGreat
open Go.RowKit Cl CRing
attribute [local go_sem ↓] Go.wp_at_zero Go.wp_at_succ
def ContFit (n:Nat) (f:Pn (n+1)):Prop:=(kids f).len≤1000000000000∧∀m c,m<(kids f).len→GsP (kids f).co m c→ComOk n c ((kids f).co m)
structure ComHyp (n K:Nat) (a b:Pn (n+1)) (I:Pn (n+1)→Pn (n+1)→Prop):Prop where
 ca:ContFit n a
 cb:ContFit n b
 by1:∀c z,Poly.Cont c (kids a)→kids a=Poly.C c*kids z→ByFit (n+1) K z (mkK (Poly.C c))
 by2:∀c z,Poly.Cont c (kids b)→kids b=Poly.C c*kids z→ByFit (n+1) K z (mkK (Poly.C c))
 st:∀c d x y,Poly.Cont c (kids a)→Poly.Cont d (kids b)→kids a=Poly.C c*kids x→kids b=Poly.C d*kids y→I x y
 rs:∀x y,I x y→y≠0→∃D E,RestFit n K D E x y∧∀r k,Poly.RI (kids x) (kids y) D E k (kids r)→(kids r).len<(kids y).len→(r=0→I y 0)∧(r≠0→ContFit n r∧∀c z,Poly.Cont c (kids r)→kids r=Poly.C c*kids z→ByFit (n+1) K z (mkK (Poly.C c))∧I y z)
 gc:∀c d,Poly.Cont c (kids a)→Poly.Cont d (kids b)→ComOk n c d
 fin:∀c d g x,I x 0→Poly.Cont c (kids a)→Poly.Cont d (kids b)→IsG g c d→g≠0∧IsG (x*mkK (Poly.C g)) a b∧ScFit n K x g
theorem mcommon0 (K:Nat) (hK:K≤3900000000000) (a b:Pn 0) (na:Siz.nm a<2^(64*K)) (nb:Siz.nm b<2^(64*K)):ComOk 0 a b:=by
 intro S w u v hf hg
 obtain ⟨s,A,k,c,xs,rfl,h1,h2,h3,h4,_⟩:=hf
 obtain ⟨t,B,m,d,ys,rfl,i1,i2,i3,i4,_⟩:=hg
 have hk:k≤K:=by have h5:=h4.cap (K:=K) na;have h6:=h3.len;omega
 have hm:m≤K:=by have h5:=i4.cap (K:=K) nb;have h6:=i3.len;omega
 have hG:Hid (IsG (ofZ ((Nat.gcd (limbs xs) (limbs ys):Nat):Int)) a b):=isG_int (by rw [← h4.eq];unfold intZ;cases s<;>simp) (by rw [← i4.eq];unfold intZ;cases t<;>simp)
 have Cs:=hiD (fun W (hW:Below w.heap.size w W)=>zgcd s t A B k m c d xs ys W (h3.bel hW) (i3.bel hW) h1 h2 i1 i2 (by omega) (by omega))
 have hb:Below w.heap.size w (((w.alloc (.cells #[.bool s,.slice A k c,.slice none 0 0] 51)).alloc (.cells #[.bool t,.slice B m d,.slice none 0 0] 51)).alloc (.cells #[.bool false,.slice none 0 0,.slice none 0 0] 51)):=((bRr.alloc lRr _).alloc (by simp) _).alloc (by simp;omega) _
 have t2:=Trio.new ((w.alloc (.cells #[.bool s,.slice A k c,.slice none 0 0] 51)).alloc (.cells #[.bool t,.slice B m d,.slice none 0 0] 51)) (.bool false) (.slice none 0 0) (.slice none 0 0)
 rw [World.size_alloc,World.size_alloc] at t2
 have T2:=hiD t2
 have HB:=hiD hb
 clear h3 h4 i3 i4 na nb hb t2
 generalize ((Nat.gcd (limbs xs) (limbs ys):Nat):Int)=gz at*
 unfold treV
 show Calls _ _ #[.int .i64 0,_,_] _ _
 go_enter Tryz.func27,Tryz.ntmps27
 go_wp2_with fail
 refine (Cs.out _ (by exact HB.out)).mono ?_
 rintro e w1 ⟨s1,A1,k1,c1,ls,rfl,q1,q2,_,q4,q5,q6,hb1⟩
 have T3:=hiD (T2.out.bel hb1)
 have r0:=T3.out.cell0
 have r1:=T3.out.cell1
 have r2:=T3.out.cell2
 have r3:=T3.out.frozen 0
 have r4:=T3.out.frozen 1
 have r5:=T3.out.frozen 2
 have hs3:w.heap.size+1+1+1≤(((w.alloc (.cells #[.bool s,.slice A k c,.slice none 0 0] 51)).alloc (.cells #[.bool t,.slice B m d,.slice none 0 0] 51)).alloc (.cells #[.bool false,.slice none 0 0,.slice none 0 0] 51)).heap.size:=by simp
 have F:Hid (TreW (fun b=>S b∨w.heap.size≤b) 0 (((w1.setCell ⟨w.heap.size+1+1,0,none⟩ (.bool s1)).setCell ⟨w.heap.size+1+1,1,none⟩ (.slice A1 k1 c1)).setCell ⟨w.heap.size+1+1,2,none⟩ (.slice none 0 0)) (treV s1 A1 k1 c1 none 0 0) (ofZ gz)):=
  TreW.num q1 q2 (limbs_onlyT q4 (trio_only w1 (w.heap.size+1+1) _ _ _) fun h0 y hy e=>by have:=q6 h0 y hy;omega) q5 fun h0 y hy=> .inr (by have:=q6 h0 y hy;omega)
 have hb2:Below w.heap.size w w1:=HB.out.tm hb1
 have hb':=hiD (bel_trio hb2 (show w.heap.size≤w.heap.size+1+1 by omega) (.bool s1) (.slice A1 k1 c1) (.slice none 0 0))
 clear q4 q5 q6 hb1 Cs hs3 HB hb2
 go_wp2_with fail
 exact bodyPost_ret (v:=.agg #[.bool s1,.slice A1 k1 c1,.slice none 0 0]) (results_cell_row (fn:=Tryz.f27) rfl _ _ _ _ _ _ _ rfl (T3.out.set (.bool s1) (.slice A1 k1 c1) (.slice none 0 0)) Tryz.underlying51 rfl apoly_size) rfl
  ⟨_,hG.out,s1,A1,k1,c1,none,0,0,rfl,F.out,hb'.out⟩
theorem mcommonZ (n:Nat) (hn:n≤97) (a b:Pn (n+1)) (h0:a=0∨b=0):ComOk (n+1) a b:=by
 intro S w u v hf hg
 rw [Int.natCast_add]
 show Calls _ _ #[.int .i64 ((n:Int)+1),_,_] _ _
 obtain ⟨Ba,ca,rfl,_,_,h3⟩:=id hf
 obtain ⟨Bb,cb,rfl,_,_,i3⟩:=id hg
 clear h3 i3
 obtain ⟨la,hla⟩:∃la:Nat,(kids a).len=la:=⟨_,rfl⟩
 obtain ⟨lb,hlb⟩:∃lb:Nat,(kids b).len=lb:=⟨_,rfl⟩
 have hf':=hf.here
 have hg':=hg.here
 rw [hla] at hf'
 rw [hlb] at hg'
 have hz0:(((n:Int)+1)==0)=false:=beq_eq_false_iff_ne.2 (by omega)
 have ew:IntKind.i64.wrap ((n:Int)+1 - 1)=(n:Int):=by rw [IntWalk.i64_in _ (by omega)];omega
 have ew2:IntKind.i64.wrap (n:Int)=(n:Int):=IntWalk.i64_in _ (by omega)
 have t0:=((Trio.new w (.bool false) (.slice none 0 0) (.slice Ba la ca)).bel (bRr.alloc lRr (.cells #[.bool false,.slice none 0 0,.slice Bb lb cb] 51))).bel (bRr.alloc lRr (.cells #[.bool false,.slice none 0 0,.slice none 0 0] 51))
 have t1:=(Trio.new (w.alloc (.cells #[.bool false,.slice none 0 0,.slice Ba la ca] 51)) (.bool false) (.slice none 0 0) (.slice Bb lb cb)).bel (bRr.alloc lRr (.cells #[.bool false,.slice none 0 0,.slice none 0 0] 51))
 have t2:=Trio.new ((w.alloc (.cells #[.bool false,.slice none 0 0,.slice Ba la ca] 51)).alloc (.cells #[.bool false,.slice none 0 0,.slice Bb lb cb] 51)) (.bool false) (.slice none 0 0) (.slice none 0 0)
 rw [World.size_alloc] at t1
 rw [World.size_alloc,World.size_alloc] at t2
 have hb:Below w.heap.size w (((w.alloc (.cells #[.bool false,.slice none 0 0,.slice Ba la ca] 51)).alloc (.cells #[.bool false,.slice none 0 0,.slice Bb lb cb] 51)).alloc (.cells #[.bool false,.slice none 0 0,.slice none 0 0] 51)):=((bRr.alloc lRr _).alloc (by simp) _).alloc (by simp;omega) _
 have hsz:(((w.alloc (.cells #[.bool false,.slice none 0 0,.slice Ba la ca] 51)).alloc (.cells #[.bool false,.slice none 0 0,.slice Bb lb cb] 51)).alloc (.cells #[.bool false,.slice none 0 0,.slice none 0 0] 51)).heap.size=w.heap.size+1+1+1:=by simp
 have CN:Hid (∀V,Below w.heap.size w V→Calls Tryz.prog 51 #[.agg #[.bool false,.slice none 0 0,.slice Ba la ca],.int .i64 ((n:Int)+1)] V (Says V (a=0))):=fun V hV=>mnoughtS _ n V _ a (hf'.bel hV)
 have CM:Hid (∀V,Below w.heap.size w V→Calls Tryz.prog 51 #[.agg #[.bool false,.slice none 0 0,.slice Bb lb cb],.int .i64 ((n:Int)+1)] V (Says V (b=0))):=fun V hV=>mnoughtS _ n V _ b (hg'.bel hV)
 have HFw:=hiD (hf'.bel hb)
 have HGw:=hiD (hg'.bel hb)
 clear hf hg hf' hg'
 unfold treV
 rw [hla,hlb]
 go_enter Tryz.func27,Tryz.ntmps27
 go_wp2_with fail
 generalize hwt:((w.alloc (.cells #[.bool false,.slice none 0 0,.slice Ba la ca] 51)).alloc (.cells #[.bool false,.slice none 0 0,.slice Bb lb cb] 51)).alloc (.cells #[.bool false,.slice none 0 0,.slice none 0 0] 51)=wt at*
 clear hwt
 have T0:=hiD t0
 have T1:=hiD t1
 have T2:=hiD t2
 have HB:=hiD hb
 clear t0 t1 t2 hb
 refine (CN.out _ HB.out).mono ?_
 rintro e w1 ⟨ra,rfl,hra,hb1⟩
 have HB1:=hiD (HB.out.tm hb1)
 have P0:=hiD (T0.out.bel hb1)
 have P1:=hiD (T1.out.bel hb1)
 have P2:=hiD (T2.out.bel hb1)
 have HF1:=hiD (HFw.out.bel hb1)
 have HG1:=hiD (HGw.out.bel hb1)
 have hs1:=hb1.size
 by_cases ha:a=0
 · obtain rfl:ra=true:=hra.2 ha
   have a0:=P1.out.cell0;have a1:=P1.out.cell1;have a2:=P1.out.cell2;have r0:=P2.out.cell0;have r1:=P2.out.cell1;have r2:=P2.out.cell2;have r3:=P2.out.frozen 0;have r4:=P2.out.frozen 1;have r5:=P2.out.frozen 2;have F:Hid (TreW (fun b=>S b∨w.heap.size≤b) (n+1) (((w1.setCell ⟨w.heap.size+1+1,0,none⟩ (.bool false)).setCell ⟨w.heap.size+1+1,1,none⟩ (.slice none 0 0)).setCell ⟨w.heap.size+1+1,2,none⟩ (.slice Bb lb cb)) (.agg #[.bool false,.slice none 0 0,.slice Bb lb cb]) b):=
    TreW.only (trio_only w1 (w.heap.size+1+1) _ _ _) (fun b hb e=>by have:=hb.2;omega) (fun b hb=> .inl hb.1) HG1.out
   have hb':=hiD (bel_trio HB1.out (show w.heap.size≤w.heap.size+1+1 by omega) (.bool false) (.slice none 0 0) (.slice Bb lb cb));have hG:Hid (IsG b a b):=by
    rw [ha];exact (Poly.isG_zero b).symm
   clear hra hb1 HF1 HG1;go_wp2_with fail
   exact bodyPost_ret (v:=.agg #[.bool false,.slice none 0 0,.slice Bb lb cb]) (results_cell_row (fn:=Tryz.f27) rfl _ _ _ _ _ _ _ rfl (P2.out.set (.bool false) (.slice none 0 0) (.slice Bb lb cb)) Tryz.underlying51 rfl apoly_size) rfl
    ⟨b,hG.out,false,none,0,0,Bb,lb,cb,rfl,F.out,hb'.out⟩
 · obtain rfl:ra=false:=by cases ra with
    | false=>rfl
    | true=>exact absurd (hra.1 rfl) ha
   have hbz:b=0:=h0.resolve_left ha;have a0:=P1.out.cell0;have a1:=P1.out.cell1;have a2:=P1.out.cell2;clear hra hb1;go_wp2_with fail
   refine (CM.out _ HB1.out).mono ?_;rintro e w2 ⟨rb,rfl,hrb,hb2⟩;obtain rfl:rb=true:=hrb.2 hbz;have HB2:=hiD (HB1.out.tm hb2);have Q0:=hiD (P0.out.bel hb2);have Q2:=hiD (P2.out.bel hb2);have HF2:=hiD (HF1.out.bel hb2);have c0:=Q0.out.cell0;have c1:=Q0.out.cell1;have c2:=Q0.out.cell2;have r0:=Q2.out.cell0;have r1:=Q2.out.cell1;have r2:=Q2.out.cell2;have r3:=Q2.out.frozen 0;have r4:=Q2.out.frozen 1;have r5:=Q2.out.frozen 2;have F:Hid (TreW (fun b=>S b∨w.heap.size≤b) (n+1) (((w2.setCell ⟨w.heap.size+1+1,0,none⟩ (.bool false)).setCell ⟨w.heap.size+1+1,1,none⟩ (.slice none 0 0)).setCell ⟨w.heap.size+1+1,2,none⟩ (.slice Ba la ca)) (.agg #[.bool false,.slice none 0 0,.slice Ba la ca]) a):=
    TreW.only (trio_only w2 (w.heap.size+1+1) _ _ _) (fun b hb e=>by have:=hb.2;omega) (fun b hb=> .inl hb.1) HF2.out
   have hb':=hiD (bel_trio HB2.out (show w.heap.size≤w.heap.size+1+1 by omega) (.bool false) (.slice none 0 0) (.slice Ba la ca));have hG:Hid (IsG a a b):=by
    rw [hbz];exact Poly.isG_zero a
   clear hrb hb2 HF1 HG1 HF2;go_wp2_with fail
   exact bodyPost_ret (v:=.agg #[.bool false,.slice none 0 0,.slice Ba la ca]) (results_cell_row (fn:=Tryz.f27) rfl _ _ _ _ _ _ _ rfl (Q2.out.set (.bool false) (.slice none 0 0) (.slice Ba la ca)) Tryz.underlying51 rfl apoly_size) rfl
    ⟨a,hG.out,false,none,0,0,Ba,la,ca,rfl,F.out,hb'.out⟩
theorem mcommonS (n K:Nat) (hK:K≤3900000000000) (hn:n≤97) (a b:Pn (n+1)) (ha0:a≠0) (hb0:b≠0) (I:Pn (n+1)→Pn (n+1)→Prop) (H:ComHyp n K a b I):ComOk (n+1) a b:=by
 intro S w u v hf hg
 rw [Int.natCast_add]
 show Calls _ _ #[.int .i64 ((n:Int)+1),_,_] _ _
 obtain ⟨Ba,ca,rfl,_,_,h3⟩:=id hf
 obtain ⟨Bb,cb,rfl,_,_,i3⟩:=id hg
 clear h3 i3
 obtain ⟨la,hla⟩:∃la:Nat,(kids a).len=la:=⟨_,rfl⟩
 obtain ⟨lb,hlb⟩:∃lb:Nat,(kids b).len=lb:=⟨_,rfl⟩
 have hf':=hf.here
 have hg':=hg.here
 rw [hla] at hf'
 rw [hlb] at hg'
 have hz0:(((n:Int)+1)==0)=false:=beq_eq_false_iff_ne.2 (by omega)
 have ew:IntKind.i64.wrap ((n:Int)+1 - 1)=(n:Int):=by rw [IntWalk.i64_in _ (by omega)];omega
 have ew2:IntKind.i64.wrap (n:Int)=(n:Int):=IntWalk.i64_in _ (by omega)
 have t0:=((Trio.new w (.bool false) (.slice none 0 0) (.slice Ba la ca)).bel (bRr.alloc lRr (.cells #[.bool false,.slice none 0 0,.slice Bb lb cb] 51))).bel (bRr.alloc lRr (.cells #[.bool false,.slice none 0 0,.slice none 0 0] 51))
 have t1:=(Trio.new (w.alloc (.cells #[.bool false,.slice none 0 0,.slice Ba la ca] 51)) (.bool false) (.slice none 0 0) (.slice Bb lb cb)).bel (bRr.alloc lRr (.cells #[.bool false,.slice none 0 0,.slice none 0 0] 51))
 have t2:=Trio.new ((w.alloc (.cells #[.bool false,.slice none 0 0,.slice Ba la ca] 51)).alloc (.cells #[.bool false,.slice none 0 0,.slice Bb lb cb] 51)) (.bool false) (.slice none 0 0) (.slice none 0 0)
 rw [World.size_alloc] at t1
 rw [World.size_alloc,World.size_alloc] at t2
 have hb:Below w.heap.size w (((w.alloc (.cells #[.bool false,.slice none 0 0,.slice Ba la ca] 51)).alloc (.cells #[.bool false,.slice none 0 0,.slice Bb lb cb] 51)).alloc (.cells #[.bool false,.slice none 0 0,.slice none 0 0] 51)):=((bRr.alloc lRr _).alloc (by simp) _).alloc (by simp;omega) _
 have hsz:(((w.alloc (.cells #[.bool false,.slice none 0 0,.slice Ba la ca] 51)).alloc (.cells #[.bool false,.slice none 0 0,.slice Bb lb cb] 51)).alloc (.cells #[.bool false,.slice none 0 0,.slice none 0 0] 51)).heap.size=w.heap.size+1+1+1:=by simp
 have CN:Hid (∀V,Below w.heap.size w V→Calls Tryz.prog 51 #[.agg #[.bool false,.slice none 0 0,.slice Ba la ca],.int .i64 ((n:Int)+1)] V (Says V (a=0))):=fun V hV=>mnoughtS _ n V _ a (hf'.bel hV)
 have CM:Hid (∀V,Below w.heap.size w V→Calls Tryz.prog 51 #[.agg #[.bool false,.slice none 0 0,.slice Bb lb cb],.int .i64 ((n:Int)+1)] V (Says V (b=0))):=fun V hV=>mnoughtS _ n V _ b (hg'.bel hV)
 have HFw:=hiD (hf'.bel hb)
 have HGw:=hiD (hg'.bel hb)
 clear hf hg hf' hg'
 unfold treV
 rw [hla,hlb]
 go_enter Tryz.func27,Tryz.ntmps27
 go_wp2_with fail
 generalize hwt:((w.alloc (.cells #[.bool false,.slice none 0 0,.slice Ba la ca] 51)).alloc (.cells #[.bool false,.slice none 0 0,.slice Bb lb cb] 51)).alloc (.cells #[.bool false,.slice none 0 0,.slice none 0 0] 51)=wt at*
 clear hwt
 have T0:=hiD t0
 have T1:=hiD t1
 have T2:=hiD t2
 have HB:=hiD hb
 clear t0 t1 t2 hb
 refine (CN.out _ HB.out).mono ?_
 rintro e w1 ⟨ra,rfl,hra,hb1⟩
 have HB1:=hiD (HB.out.tm hb1)
 have P0:=hiD (T0.out.bel hb1)
 have P1:=hiD (T1.out.bel hb1)
 have P2:=hiD (T2.out.bel hb1)
 have HF1:=hiD (HFw.out.bel hb1)
 have HG1:=hiD (HGw.out.bel hb1)
 have hs1:=hb1.size
 obtain rfl:ra=false:=by cases ra with
  | false=>rfl
  | true=>exact absurd (hra.1 rfl) ha0
 have a0:=P1.out.cell0
 have a1:=P1.out.cell1
 have a2:=P1.out.cell2
 clear hra hb1
 go_wp2_with fail
 refine (CM.out _ HB1.out).mono ?_
 rintro e w2 ⟨rb,rfl,hrb,hb2⟩
 obtain rfl:rb=false:=by cases rb with
  | false=>rfl
  | true=>exact absurd (hrb.1 rfl) hb0
 have HB2:=hiD (HB1.out.tm hb2)
 have Q0:=hiD (P0.out.bel hb2)
 have Q1:=hiD (P1.out.bel hb2)
 have Q2:=hiD (P2.out.bel hb2)
 have HF2:=hiD (HF1.out.bel hb2)
 have HG2:=hiD (HG1.out.bel hb2)
 have hs2:w.heap.size+1+1+1≤w2.heap.size:=by have:=hb2.size;omega
 clear hrb hb2 P0 P1 P2 HF1 HG1 HB1 HB T0 T1 T2 CN CM a0 a1 a2 HFw HGw hs1
 clear hsz
 have HH:=hiD H
 clear H
 have t_F:=(HF2.out.here).mono (T:=fun b=>((S b∧b<w.heap.size)∨w.heap.size+1+1+1≤b)∧b<w2.heap.size) fun b hb=>⟨.inl hb.1,hb.2⟩
 have t_G:=(HG2.out.here).mono (T:=fun b=>((S b∧b<w.heap.size)∨w.heap.size+1+1+1≤b)∧b<w2.heap.size) fun b hb=>⟨.inl hb.1,hb.2⟩
 have CK7:Hid (∀(T:Nat→Prop) (V:World),Below w2.heap.size w2 V→TreW T (n+1) V (.agg #[.bool false,.slice none 0 0,.slice Ba la ca]) a→Calls Tryz.prog 52 #[.agg #[.bool false,.slice none 0 0,.slice Ba la ca],.int .i64 ((n:Int)+1)] V (fun e w'=>∃c,Poly.Cont c (kids a)∧GivesTr T V n c e w')):=fun T V _ hv=>mcontent n (by omega) T V _ a hv HH.out.ca.1 HH.out.ca.2
 have CM7:Hid (∀(T:Nat→Prop) (V:World),Below w2.heap.size w2 V→TreW T (n+1) V (.agg #[.bool false,.slice none 0 0,.slice Bb lb cb]) b→Calls Tryz.prog 52 #[.agg #[.bool false,.slice none 0 0,.slice Bb lb cb],.int .i64 ((n:Int)+1)] V (fun e w'=>∃c,Poly.Cont c (kids b)∧GivesTr T V n c e w')):=fun T V _ hv=>mcontent n (by omega) T V _ b hv HH.out.cb.1 HH.out.cb.2
 have qa0:=Q0.out.cell0
 have qa1:=Q0.out.cell1
 have qa2:=Q0.out.cell2
 have qb0:=Q1.out.cell0
 have qb1:=Q1.out.cell1
 have qb2:=Q1.out.cell2
 go_wp2_with fail
 have keep7:Hid (∀V,Below w2.heap.size w2 V→(fun V=>V.cell? ⟨w.heap.size,0,none⟩=some (.bool false)∧V.cell? ⟨w.heap.size,1,none⟩=some (.slice none 0 0)∧V.cell? ⟨w.heap.size,2,none⟩=some (.slice Ba la ca)∧V.cell? ⟨w.heap.size+1,0,none⟩=some (.bool false)∧V.cell? ⟨w.heap.size+1,1,none⟩=some (.slice none 0 0)∧V.cell? ⟨w.heap.size+1,2,none⟩=some (.slice Bb lb cb)) V):=fun V hV=>⟨(Q0.out.bel hV).cell0,(Q0.out.bel hV).cell1,(Q0.out.bel hV).cell2,(Q1.out.bel hV).cell0,(Q1.out.bel hV).cell1,(Q1.out.bel hV).cell2⟩
 go_cut [7,8] (fun s7 s8 wx=>∃(g7 g8:Nat) (cf cg:Pn n) (s1:Bool) (A1:Option Addr) (k1 c1:Nat) (B1:Option Addr) (m1 d1:Nat) (s2:Bool) (A2:Option Addr) (k2 c2:Nat) (B2:Option Addr) (m2 d2:Nat),s7=.pointer (some ⟨g7,0,none⟩)∧s8=.pointer (some ⟨g8,0,none⟩)∧w2.heap.size≤g7∧w2.heap.size≤g8∧Hid (Poly.Cont cf (kids a))∧Hid (Poly.Cont cg (kids b))∧Hid (Trio wx g7 (.bool s1) (.slice A1 k1 c1) (.slice B1 m1 d1))∧Hid (Trio wx g8 (.bool s2) (.slice A2 k2 c2) (.slice B2 m2 d2))∧Hid (TreW (fun b=>(S b∧b<w.heap.size)∨w.heap.size+1+1+1≤b) n wx (.agg #[.bool s1,.slice A1 k1 c1,.slice B1 m1 d1]) cf)∧Hid (TreW (fun b=>(S b∧b<w.heap.size)∨w.heap.size+1+1+1≤b) n wx (.agg #[.bool s2,.slice A2 k2 c2,.slice B2 m2 d2]) cg)∧Hid (Below w2.heap.size w2 wx))
 case first=>
  refine wp_regionG (S:=fun V=>V.cell? ⟨w.heap.size,0,none⟩=some (.bool false)∧V.cell? ⟨w.heap.size,1,none⟩=some (.slice none 0 0)∧V.cell? ⟨w.heap.size,2,none⟩=some (.slice Ba la ca)∧V.cell? ⟨w.heap.size+1,0,none⟩=some (.bool false)∧V.cell? ⟨w.heap.size+1,1,none⟩=some (.slice none 0 0)∧V.cell? ⟨w.heap.size+1,2,none⟩=some (.slice Bb lb cb)) (z:=9) (by kernel_rfl) ?_;have hHeld:=keep7.out _ (Below.refl w2.heap.size w2).drew;try dsimp only at hHeld
  refine tk 9 0 (.agg #[.bool false,.slice none 0 0,.slice Ba la ca]) rfl hHeld ?_;try simp only [fx,Act.put]
  refine tk 9 1 (.int .i64 ((n:Int)+1)) rfl hHeld ?_;try simp only [fx,Act.put]
  refine tk 9 3 (.agg #[.bool false,.slice none 0 0,.slice Bb lb cb]) rfl hHeld ?_;try simp only [fx,Act.put]
  refine tk 9 4 (.int .i64 ((n:Int)+1)) rfl hHeld ?_;try simp only [fx,Act.put]
  have iq:Hid (∀b,w2.heap.size≤b→(fun b=>(S b∧b<w.heap.size)∨w.heap.size+1+1+1≤b) b):=fun b hb=> .inr (by omega);refine wpAnyG_iv (w0:=w2) [⟨2,34,2,KT (fun b=>(S b∧b<w.heap.size)∨w.heap.size+1+1+1≤b) n (fun x=>Poly.Cont x (kids a))⟩,⟨5,37,5,KT (fun b=>(S b∧b<w.heap.size)∨w.heap.size+1+1+1≤b) n (fun x=>Poly.Cont x (kids b))⟩,⟨6,7,6,KB w2 6 (.cells #[.bool false,.slice none 0 0,.slice none 0 0] 51) (fun g=> .pointer (some ⟨g,0,none⟩))⟩,⟨7,8,7,KB w2 7 (.cells #[.bool false,.slice none 0 0,.slice none 0 0] 51) (fun g=> .pointer (some ⟨g,0,none⟩))⟩] [2,5,6,7] [34,37,7,8] [8,9] #[true,true,true,true,true,true,true,true,false,false] 2 rfl rfl (by kernel_rfl) rfl rfl (Below.refl w2.heap.size w2).drew (fc KT.keeps (fc KT.keeps (fc KB.keeps (fc KB.keeps (fn))))) (fc ?_ (fc ?_ (fc ?_ (fc ?_ (fn))))) ?_
  · intro L a V B hr hd h
    have r32:=h.old 32 rfl rfl;have r33:=h.old 33 rfl rfl;refine iv_step rfl fun KK hKK=> ?_;go_simp;refine (CK7.out _ V h.bel (h.tree t_F)).mono ?_;rintro e w' ⟨x,hx,s0,A0,k0,c0,B0,m0,d0,rfl,hv,hb⟩;unfold treV;(go_wp2_with fail);exact hKK.out _ _ (keep7.out _ (h.bel.tm hb)) (h.put 0 rfl hr hb ⟨_,s0,A0,k0,c0,B0,m0,d0,rfl,hx,h.res iq.out hv⟩)
  · intro L a V B hr hd h
    have r35:=h.old 35 rfl rfl;have r36:=h.old 36 rfl rfl;refine iv_step rfl fun KK hKK=> ?_;go_simp;refine (CM7.out _ V h.bel (h.tree t_G)).mono ?_;rintro e w' ⟨x,hx,s0,A0,k0,c0,B0,m0,d0,rfl,hv,hb⟩;unfold treV;(go_wp2_with fail);exact hKK.out _ _ (keep7.out _ (h.bel.tm hb)) (h.put 1 rfl hr hb ⟨_,s0,A0,k0,c0,B0,m0,d0,rfl,hx,h.res iq.out hv⟩)
  · intro L a V B hr hd h
    refine iv_step rfl fun KK hKK=> ?_;go_simp;exact hKK.out _ _ (keep7.out _ (h.bel.alloc h.bel.size _)) (h.box 2 rfl hr)
  · intro L a V B hr hd h
    refine iv_step rfl fun KK hKK=> ?_;go_simp;exact hKK.out _ _ (keep7.out _ (h.bel.alloc h.bel.size _)) (h.box 3 rfl hr)
  intro a9 wv B h;obtain ⟨_,qK,cf,sK,AK,kK,cK,BK,mK,dK,rfl,eK,tK⟩:=h.get 0 rfl rfl (.inl rfl);obtain ⟨_,qL,cg,sL,AL,kL,cL,BL,mL,dL,rfl,eL,tL⟩:=h.get 1 rfl rfl (.inl rfl);obtain ⟨_,qX,gX,rfl,hX,lX,BX⟩:=h.get 2 rfl rfl (.inl rfl);obtain ⟨_,qY,gY,rfl,hY,lY,BY⟩:=h.get 3 rfl rfl (.inl rfl);have hV:=hiD h.bel;have hz9:=h.bel.size;have tK:Hid (TreW (fun b=>((S b∧b<w.heap.size)∨w.heap.size+1+1+1≤b)∧b≠gX∧b≠gY) n wv (.agg #[.bool sK,.slice AK kK cK,.slice BK mK dK]) cf):=tK.out.mono fun b hb=>⟨hb.1,fun e=>hb.2 6 (e ▸ BX),fun e=>hb.2 7 (e ▸ BY)⟩;have tL:Hid (TreW (fun b=>((S b∧b<w.heap.size)∨w.heap.size+1+1+1≤b)∧b≠gX∧b≠gY) n wv (.agg #[.bool sL,.slice AL kL cL,.slice BL mL dL]) cg):=tL.out.mono fun b hb=>⟨hb.1,fun e=>hb.2 6 (e ▸ BX),fun e=>hb.2 7 (e ▸ BY)⟩;have nXY:gX≠gY:=fun e=>absurd (h.inj 6 7 gX BX (e ▸ BY)) (by decide);obtain rfl:=h.act [(34,_),(37,_),(7,_),(8,_)] rfl (fc qK (fc qL (fc qX (fc qY (fn)))));simp only [List.foldr];try simp only [fx,Act.put]
  clear h;have tX:Hid (Trio wv gX (.bool false) (.slice none 0 0) (.slice none 0 0)):=lX.out;have tY:Hid (Trio wv gY (.bool false) (.slice none 0 0) (.slice none 0 0)):=lY.out;have v0X:=tX.out.cell0;have f0X:=tX.out.frozen 0;have v1X:=tX.out.cell1;have f1X:=tX.out.frozen 1;have v2X:=tX.out.cell2;have f2X:=tX.out.frozen 2;have v0Y:=tY.out.cell0;have f0Y:=tY.out.frozen 0;have v1Y:=tY.out.cell1;have f1Y:=tY.out.frozen 1;have v2Y:=tY.out.cell2;have f2Y:=tY.out.frozen 2;have eX:Hid (Trio (((wv.setCell ⟨gX,0,none⟩ (.bool sK)).setCell ⟨gX,1,none⟩ (.slice AK kK cK)).setCell ⟨gX,2,none⟩ (.slice BK mK dK)) gX (.bool sK) (.slice AK kK cK) (.slice BK mK dK)):=tX.out.set _ _ _;have eY:Hid (Trio (((wv.setCell ⟨gX,0,none⟩ (.bool sK)).setCell ⟨gX,1,none⟩ (.slice AK kK cK)).setCell ⟨gX,2,none⟩ (.slice BK mK dK)) gY (.bool false) (.slice none 0 0) (.slice none 0 0)):=look_set tY.out (by omega) _ _ _;have eK9:Hid (TreW (fun b=>((S b∧b<w.heap.size)∨w.heap.size+1+1+1≤b)∧b≠gX∧b≠gY) n (((wv.setCell ⟨gX,0,none⟩ (.bool sK)).setCell ⟨gX,1,none⟩ (.slice AK kK cK)).setCell ⟨gX,2,none⟩ (.slice BK mK dK)) (.agg #[.bool sK,.slice AK kK cK,.slice BK mK dK]) cf):=tK.out.only (trio_only wv gX _ _ _) (fun b hb e=>hb.2.1 e) (fun b hb=>hb);have eL9:Hid (TreW (fun b=>((S b∧b<w.heap.size)∨w.heap.size+1+1+1≤b)∧b≠gX∧b≠gY) n (((wv.setCell ⟨gX,0,none⟩ (.bool sK)).setCell ⟨gX,1,none⟩ (.slice AK kK cK)).setCell ⟨gX,2,none⟩ (.slice BK mK dK)) (.agg #[.bool sL,.slice AL kL cL,.slice BL mL dL]) cg):=tL.out.only (trio_only wv gX _ _ _) (fun b hb e=>hb.2.1 e) (fun b hb=>hb);have eV:Below w2.heap.size w2 (((wv.setCell ⟨gX,0,none⟩ (.bool sK)).setCell ⟨gX,1,none⟩ (.slice AK kK cK)).setCell ⟨gX,2,none⟩ (.slice BK mK dK)):=bel_trio hV.out hX _ _ _;refine wpAnyG_ready (rs:=[8]) (by kernel_rfl) (by simp) ?_;refine AllReadyG.cons rfl (by decide) (fun KK hKK=> ?_) AllReadyG.nil;go_simp;refine hKK.out _ _ (keep7.out _ eV) (fun _=> ?_);clear hKK KK v0X v1X v2X f0X f1X f2X v0Y v1Y v2Y f0Y f1Y f2Y;try simp only [fx,Act.put]
  generalize hgw:(((wv.setCell ⟨gX,0,none⟩ (.bool sK)).setCell ⟨gX,1,none⟩ (.slice AK kK cK)).setCell ⟨gX,2,none⟩ (.slice BK mK dK))=wq at*
  clear hgw;have v0Y:=eY.out.cell0;have f0Y:=eY.out.frozen 0;have v1Y:=eY.out.cell1;have f1Y:=eY.out.frozen 1;have v2Y:=eY.out.cell2;have f2Y:=eY.out.frozen 2;refine wpAnyG_ready (rs:=[9]) (by kernel_rfl) (by simp) ?_;refine AllReadyG.last rfl (fun KK hKK=> ?_);go_simp;refine hKK.out _ _ ?_;clear hKK KK;refine wpAnyG_done (by kernel_rfl) ?_ _;go_wp2_with fail
  go_meet
  exact ⟨gX,gY,cf,cg,sK,AK,kK,cK,BK,mK,dK,sL,AL,kL,cL,BL,mL,dL,rfl,rfl,hX,hY,eK,eL,look_set eX.out nXY _ _ _,eY.out.set _ _ _,eK9.out.only (trio_only wq gY _ _ _) (fun b hb e=>hb.2.2 e) (fun b hb=>hb.1),eL9.out.only (trio_only wq gY _ _ _) (fun b hb e=>hb.2.2 e) (fun b hb=>hb.1),bel_trio eV hY _ _ _⟩
 case rest=>
  obtain ⟨g7,g8,cf,cg,s1,A1,k1,c1,B1,m1,d1,s2,A2,k2,c2,B2,m2,d2,rfl,rfl,hg7,hg8,hcf,hcg,hT7,hT8,hV7,hV8,hB7⟩:=hcut;obtain ⟨wx,rfl⟩:∃V:World,V=wc:=⟨_,rfl⟩;have hcf0:cf≠0:=hcf.out.ne (fun e=>ha0 e);have hcg0:cg≠0:=hcg.out.ne (fun e=>hb0 e);obtain ⟨fa,hfa⟩:=hcf.out.dv.dv;obtain ⟨fb,hfb⟩:=hcg.out.dv.dv;have hI0:Hid (I (mkK fa) (mkK fb)):=HH.out.st cf cg (mkK fa) (mkK fb) hcf.out hcg.out hfa hfb;have ea:Hid (a=mkK fa*mkK (Poly.C cf)):=by
   show kids a=fa*Poly.C cf;rw [hfa,CRing.mul_comm]
  have eb:Hid (b=mkK fb*mkK (Poly.C cg)):=by
   show kids b=fb*Poly.C cg;rw [hfb,CRing.mul_comm]
  have hfit1:=hiD (HH.out.by1 cf (mkK fa) hcf.out hfa);have hfit2:=hiD (HH.out.by2 cg (mkK fb) hcg.out hfb);clear hfa hfb keep7 CK7 CM7 t_F t_G qa0 qa1 qa2 qb0 qb1 qb2;have u0:=hT7.out.cell0;have u1:=hT7.out.cell1;have u2:=hT7.out.cell2;have bz:Below wx.heap.size wx ((wx.alloc (.cells #[.bool s1,.slice A1 k1 c1,.slice B1 m1 d1] 51)).alloc (.cells #[.bool false,.slice none 0 0,.slice (some ⟨wx.heap.size,0,none⟩) 1 1] 51)):=bel_alloc (bel_alloc bRr _) _;have l9:Hid (Trio ((wx.alloc (.cells #[.bool s1,.slice A1 k1 c1,.slice B1 m1 d1] 51)).alloc (.cells #[.bool false,.slice none 0 0,.slice (some ⟨wx.heap.size,0,none⟩) 1 1] 51)) (wx.heap.size+1) (.bool false) (.slice none 0 0) (.slice (some ⟨wx.heap.size,0,none⟩) 1 1)):=look_new1 wx (.cells #[.bool s1,.slice A1 k1 c1,.slice B1 m1 d1] 51) (.cells #[.bool false,.slice none 0 0,.slice (some ⟨wx.heap.size,0,none⟩) 1 1] 51);have hsx:=hB7.out.size;have V9:Hid (TreW (fun b=>(S b∧b<w.heap.size)∨w.heap.size+1+1+1≤b) (n+1) ((wx.alloc (.cells #[.bool s1,.slice A1 k1 c1,.slice B1 m1 d1] 51)).alloc (.cells #[.bool false,.slice none 0 0,.slice (some ⟨wx.heap.size,0,none⟩) 1 1] 51)) (.agg #[.bool false,.slice none 0 0,.slice (some ⟨wx.heap.size,0,none⟩) 1 1]) (mkK (Poly.C cf))):=TreW.one (look_old (look_new wx (.cells #[.bool s1,.slice A1 k1 c1,.slice B1 m1 d1] 51)) (.cells #[.bool false,.slice none 0 0,.slice (some ⟨wx.heap.size,0,none⟩) 1 1] 51)) (hV7.out.bel bz) hcf0 (.inr (by omega));go_wp2_with fail
  generalize hwz:(wx.alloc (.cells #[.bool s1,.slice A1 k1 c1,.slice B1 m1 d1] 51)).alloc (.cells #[.bool false,.slice none 0 0,.slice (some ⟨wx.heap.size,0,none⟩) 1 1] 51)=wz at*
  clear hwz u0 u1 u2;have hB9:Below w2.heap.size w2 wz:=hB7.out.tm bz;have hs9:=bz.size;have HB9:=hiD (HB2.out.tm hB9);have R0:=hiD (Q0.out.bel hB9);have R1:=hiD (Q1.out.bel hB9);have R2:=hiD (Q2.out.bel hB9);have R7:=hiD (hT7.out.bel bz);have R8:=hiD (hT8.out.bel bz);have V7:=hiD (hV7.out.bel bz);have V8:=hiD (hV8.out.bel bz);have t_A:=((HF2.out.bel hB9).here).mono (T:=fun b=>((S b∧b<w.heap.size)∨w.heap.size+1+1+1≤b)∧b<wz.heap.size) fun b hb=>⟨.inl hb.1,hb.2⟩;have t_B:=((HG2.out.bel hB9).here).mono (T:=fun b=>((S b∧b<w.heap.size)∨w.heap.size+1+1+1≤b)∧b<wz.heap.size) fun b hb=>⟨.inl hb.1,hb.2⟩;have t_O:=V9.out.here;have t_c:=V8.out.here;clear hB7 hT7 hT8 hV7 hV8 bz Q0 Q1 Q2 HF2 HG2;have CB9:Hid (∀(T:Nat→Prop) (V:World),Below wz.heap.size wz V→TreW T (n+1) V (.agg #[.bool false,.slice none 0 0,.slice Ba la ca]) a→TreW T (n+1) V (.agg #[.bool false,.slice none 0 0,.slice (some ⟨wx.heap.size,0,none⟩) 1 1]) (mkK (Poly.C cf))→Calls Tryz.prog 53 #[.agg #[.bool false,.slice none 0 0,.slice Ba la ca],.int .i64 ((n:Int)+1),.agg #[.bool false,.slice none 0 0,.slice (some ⟨wx.heap.size,0,none⟩) 1 1]] V (GivesTr T V (n+1) (mkK fa))):=fun T V _ h1 h2=>by
   obtain ⟨D,E,e1,e2,e3,e4,e5,e6⟩:=hfit1.out;rw [ea.out] at h1;have h9:=mby K hK (n+1) (by omega) T V _ _ (mkK fa) (mkK (Poly.C cf)) D E h1 h2 (Poly.C_neD hcf0) e1 e2 e3 e4 e5 e6;rw [Int.natCast_add] at h9;exact h9
  have CD9:Hid (∀(T:Nat→Prop) (V:World),Below wz.heap.size wz V→TreW T (n+1) V (.agg #[.bool false,.slice none 0 0,.slice Bb lb cb]) b→∀v,TreW T (n+1) V v (mkK (Poly.C cg))→Calls Tryz.prog 53 #[.agg #[.bool false,.slice none 0 0,.slice Bb lb cb],.int .i64 ((n:Int)+1),v] V (GivesTr T V (n+1) (mkK fb))):=fun T V _ h1 v h2=>by
   obtain ⟨D,E,e1,e2,e3,e4,e5,e6⟩:=hfit2.out;rw [eb.out] at h1;have h9:=mby K hK (n+1) (by omega) T V _ _ (mkK fb) (mkK (Poly.C cg)) D E h1 h2 (Poly.C_neD hcg0) e1 e2 e3 e4 e5 e6;rw [Int.natCast_add] at h9;exact h9
  have hw9:w.heap.size+1+1+1≤wz.heap.size:=by omega
  have keep9:Hid (∀V,Below wz.heap.size wz V→(fun V=>V.cell? ⟨w.heap.size,0,none⟩=some (.bool false)∧V.cell? ⟨w.heap.size,1,none⟩=some (.slice none 0 0)∧V.cell? ⟨w.heap.size,2,none⟩=some (.slice Ba la ca)∧V.cell? ⟨wx.heap.size+1,0,none⟩=some (.bool false)∧V.cell? ⟨wx.heap.size+1,1,none⟩=some (.slice none 0 0)∧V.cell? ⟨wx.heap.size+1,2,none⟩=some (.slice (some ⟨wx.heap.size,0,none⟩) 1 1)∧V.cell? ⟨w.heap.size+1,0,none⟩=some (.bool false)∧V.cell? ⟨w.heap.size+1,1,none⟩=some (.slice none 0 0)∧V.cell? ⟨w.heap.size+1,2,none⟩=some (.slice Bb lb cb)∧V.cell? ⟨g8,0,none⟩=some (.bool s2)∧V.cell? ⟨g8,1,none⟩=some (.slice A2 k2 c2)∧V.cell? ⟨g8,2,none⟩=some (.slice B2 m2 d2)) V):=fun V hV=>⟨(R0.out.bel hV).cell0,(R0.out.bel hV).cell1,(R0.out.bel hV).cell2,(l9.out.bel hV).cell0,(l9.out.bel hV).cell1,(l9.out.bel hV).cell2,(R1.out.bel hV).cell0,(R1.out.bel hV).cell1,(R1.out.bel hV).cell2,(R8.out.bel hV).cell0,(R8.out.bel hV).cell1,(R8.out.bel hV).cell2⟩;go_cut [10,11] (fun s10 s11 wa=>∃(g10 g11:Nat) (s3:Bool) (A3:Option Addr) (k3 c3:Nat) (B3:Option Addr) (m3 d3:Nat) (s4:Bool) (A4:Option Addr) (k4 c4:Nat) (B4:Option Addr) (m4 d4:Nat),s10=.pointer (some ⟨g10,0,none⟩)∧s11=.pointer (some ⟨g11,0,none⟩)∧wz.heap.size≤g10∧wz.heap.size≤g11∧g10≠g11∧Hid (Trio wa g10 (.bool s3) (.slice A3 k3 c3) (.slice B3 m3 d3))∧Hid (Trio wa g11 (.bool s4) (.slice A4 k4 c4) (.slice B4 m4 d4))∧Hid (TreW (fun b=>((S b∧b<w.heap.size)∨w.heap.size+1+1+1≤b)∧b≠g10∧b≠g11) (n+1) wa (.agg #[.bool s3,.slice A3 k3 c3,.slice B3 m3 d3]) (mkK fa))∧Hid (TreW (fun b=>((S b∧b<w.heap.size)∨w.heap.size+1+1+1≤b)∧b≠g10∧b≠g11) (n+1) wa (.agg #[.bool s4,.slice A4 k4 c4,.slice B4 m4 d4]) (mkK fb))∧Hid (Below wz.heap.size wz wa))
  case first=>
   refine wp_regionG (S:=fun V=>V.cell? ⟨w.heap.size,0,none⟩=some (.bool false)∧V.cell? ⟨w.heap.size,1,none⟩=some (.slice none 0 0)∧V.cell? ⟨w.heap.size,2,none⟩=some (.slice Ba la ca)∧V.cell? ⟨wx.heap.size+1,0,none⟩=some (.bool false)∧V.cell? ⟨wx.heap.size+1,1,none⟩=some (.slice none 0 0)∧V.cell? ⟨wx.heap.size+1,2,none⟩=some (.slice (some ⟨wx.heap.size,0,none⟩) 1 1)∧V.cell? ⟨w.heap.size+1,0,none⟩=some (.bool false)∧V.cell? ⟨w.heap.size+1,1,none⟩=some (.slice none 0 0)∧V.cell? ⟨w.heap.size+1,2,none⟩=some (.slice Bb lb cb)∧V.cell? ⟨g8,0,none⟩=some (.bool s2)∧V.cell? ⟨g8,1,none⟩=some (.slice A2 k2 c2)∧V.cell? ⟨g8,2,none⟩=some (.slice B2 m2 d2)) (z:=13) (by kernel_rfl) ?_;have hHeld:=keep9.out _ (Below.refl wz.heap.size wz).drew;try dsimp only at hHeld
   refine tk 13 0 (.agg #[.bool false,.slice none 0 0,.slice Ba la ca]) rfl hHeld ?_;try simp only [fx,Act.put]
   refine tk 13 1 (.int .i64 ((n:Int)+1)) rfl hHeld ?_;try simp only [fx,Act.put]
   refine tk 13 2 (.agg #[.bool false,.slice none 0 0,.slice (some ⟨wx.heap.size,0,none⟩) 1 1]) rfl hHeld ?_;try simp only [fx,Act.put]
   refine tk 13 4 (.agg #[.bool false,.slice none 0 0,.slice Bb lb cb]) rfl hHeld ?_;try simp only [fx,Act.put]
   refine tk 13 5 (.int .i64 ((n:Int)+1)) rfl hHeld ?_;try simp only [fx,Act.put]
   refine tk 13 6 (.agg #[.bool s2,.slice A2 k2 c2,.slice B2 m2 d2]) rfl hHeld ?_;try simp only [fx,Act.put]
   have iq:Hid (∀b,wz.heap.size≤b→(fun b=>(S b∧b<w.heap.size)∨w.heap.size+1+1+1≤b) b):=fun b hb=> .inr (by omega);refine wpAnyG_iv (w0:=wz) [⟨3,44,3,KT (fun b=>(S b∧b<w.heap.size)∨w.heap.size+1+1+1≤b) (n+1) (fun x=>(mkK fa)=x)⟩,⟨9,50,9,KT (fun b=>(S b∧b<w.heap.size)∨w.heap.size+1+1+1≤b) (n+1) (fun x=>(mkK fb)=x)⟩,⟨10,10,10,KB wz 10 (.cells #[.bool false,.slice none 0 0,.slice none 0 0] 51) (fun g=> .pointer (some ⟨g,0,none⟩))⟩,⟨11,11,11,KB wz 11 (.cells #[.bool false,.slice none 0 0,.slice none 0 0] 51) (fun g=> .pointer (some ⟨g,0,none⟩))⟩,⟨7,48,7,KR wz (.cells #[.bool s2,.slice A2 k2 c2,.slice B2 m2 d2] 51) (fun g=> .slice (some ⟨g,0,none⟩) 1 1)⟩,⟨8,49,8,KR wz (.cells #[.bool s2,.slice A2 k2 c2,.slice B2 m2 d2] 51) (fun g=> .agg #[.bool false,.slice none 0 0,.slice (some ⟨g,0,none⟩) 1 1])⟩] [3,9,10,11,7,8] [44,50,10,11,48,49] [12,13] #[true,true,true,true,true,true,true,true,true,true,true,true,false,false] 2 rfl rfl (by kernel_rfl) rfl rfl (Below.refl wz.heap.size wz).drew (fc KT.keeps (fc KT.keeps (fc KB.keeps (fc KB.keeps (fc KR.keeps (fc KR.keeps (fn))))))) (fc ?_ (fc ?_ (fc ?_ (fc ?_ (fc ?_ (fc ?_ (fn))))))) ?_
   · intro L a V B hr hd h
     have r41:=h.old 41 rfl rfl;have r42:=h.old 42 rfl rfl;have r43:=h.old 43 rfl rfl;refine iv_step rfl fun KK hKK=> ?_;go_simp;refine (CB9.out _ V h.bel (h.tree t_A) (h.tree t_O)).mono ?_;rintro e w' ⟨s0,A0,k0,c0,B0,m0,d0,rfl,hv,hb⟩;unfold treV;(go_wp2_with fail);exact hKK.out _ _ (keep9.out _ (h.bel.tm hb)) (h.put 0 rfl hr hb ⟨_,s0,A0,k0,c0,B0,m0,d0,rfl,rfl,h.res iq.out hv⟩)
   · intro L a V B hr hd h
     obtain ⟨_,qU,gU,rfl,hU,lU,nU⟩:=h.get 5 rfl (hd 8 (by kernel_rfl)) (.inl rfl);have r45:=h.old 45 rfl rfl;have r46:=h.old 46 rfl rfl;refine iv_step rfl fun KK hKK=> ?_;go_simp;refine (CD9.out _ V h.bel (h.tree t_B) _ (TreW.one lU.out (h.tree t_c) hcg0 ⟨⟨.inr (by omega),nU⟩,(Array.getElem?_eq_some_iff.1 lU.out).1⟩)).mono ?_;rintro e w' ⟨s0,A0,k0,c0,B0,m0,d0,rfl,hv,hb⟩;unfold treV;(go_wp2_with fail);exact hKK.out _ _ (keep9.out _ (h.bel.tm hb)) (h.put 1 rfl hr hb ⟨_,s0,A0,k0,c0,B0,m0,d0,rfl,rfl,h.res iq.out hv⟩)
   · intro L a V B hr hd h
     refine iv_step rfl fun KK hKK=> ?_;go_simp;exact hKK.out _ _ (keep9.out _ (h.bel.alloc h.bel.size _)) (h.box 2 rfl hr)
   · intro L a V B hr hd h
     refine iv_step rfl fun KK hKK=> ?_;go_simp;exact hKK.out _ _ (keep9.out _ (h.bel.alloc h.bel.size _)) (h.box 3 rfl hr)
   · intro L a V B hr hd h
     have r47:=h.old 47 rfl rfl;refine iv_step rfl fun KK hKK=> ?_;go_simp;exact hKK.out _ _ (keep9.out _ (h.bel.alloc h.bel.size _)) (h.row 4 rfl hr)
   · intro L a V B hr hd h
     obtain ⟨_,qR,gR,rfl,hR,lR,nR⟩:=h.get 4 rfl (hd 7 (by kernel_rfl)) (.inl rfl);refine iv_step rfl fun KK hKK=> ?_;go_simp;exact hKK.out _ _ (keep9.out _ h.bel) (h.put 5 rfl hr bRr ⟨gR,rfl,hR,lR,nR⟩)
   intro a9 wv B h;obtain ⟨_,qC,_,sC,AC,kC,cC,BC,mC,dC,rfl,rfl,tC⟩:=h.get 0 rfl rfl (.inl rfl);obtain ⟨_,qE,_,sE,AE,kE,cE,BE,mE,dE,rfl,rfl,tE⟩:=h.get 1 rfl rfl (.inl rfl);obtain ⟨_,qX,gX,rfl,hX,lX,BX⟩:=h.get 2 rfl rfl (.inl rfl);obtain ⟨_,qY,gY,rfl,hY,lY,BY⟩:=h.get 3 rfl rfl (.inl rfl);obtain ⟨_,qR,gR,rfl,hR,lR,nR⟩:=h.get 4 rfl rfl (.inl rfl);obtain ⟨_,qU,gU,rfl,hU,lU,nU⟩:=h.get 5 rfl rfl (.inl rfl);have hV:=hiD h.bel;have hz9:=h.bel.size;have tC:Hid (TreW (fun b=>((S b∧b<w.heap.size)∨w.heap.size+1+1+1≤b)∧b≠gX∧b≠gY) (n+1) wv (.agg #[.bool sC,.slice AC kC cC,.slice BC mC dC]) (mkK fa)):=tC.out.mono fun b hb=>⟨hb.1,fun e=>hb.2 10 (e ▸ BX),fun e=>hb.2 11 (e ▸ BY)⟩;have tE:Hid (TreW (fun b=>((S b∧b<w.heap.size)∨w.heap.size+1+1+1≤b)∧b≠gX∧b≠gY) (n+1) wv (.agg #[.bool sE,.slice AE kE cE,.slice BE mE dE]) (mkK fb)):=tE.out.mono fun b hb=>⟨hb.1,fun e=>hb.2 10 (e ▸ BX),fun e=>hb.2 11 (e ▸ BY)⟩;have nXY:gX≠gY:=fun e=>absurd (h.inj 10 11 gX BX (e ▸ BY)) (by decide);obtain rfl:=h.act [(44,_),(50,_),(10,_),(11,_),(48,_),(49,_)] rfl (fc qC (fc qE (fc qX (fc qY (fc qR (fc qU (fn)))))));simp only [List.foldr];try simp only [fx,Act.put]
   clear h;have tX:Hid (Trio wv gX (.bool false) (.slice none 0 0) (.slice none 0 0)):=lX.out;have tY:Hid (Trio wv gY (.bool false) (.slice none 0 0) (.slice none 0 0)):=lY.out;have v0X:=tX.out.cell0;have f0X:=tX.out.frozen 0;have v1X:=tX.out.cell1;have f1X:=tX.out.frozen 1;have v2X:=tX.out.cell2;have f2X:=tX.out.frozen 2;have v0Y:=tY.out.cell0;have f0Y:=tY.out.frozen 0;have v1Y:=tY.out.cell1;have f1Y:=tY.out.frozen 1;have v2Y:=tY.out.cell2;have f2Y:=tY.out.frozen 2;have eX:Hid (Trio (((wv.setCell ⟨gX,0,none⟩ (.bool sC)).setCell ⟨gX,1,none⟩ (.slice AC kC cC)).setCell ⟨gX,2,none⟩ (.slice BC mC dC)) gX (.bool sC) (.slice AC kC cC) (.slice BC mC dC)):=tX.out.set _ _ _;have eY:Hid (Trio (((wv.setCell ⟨gX,0,none⟩ (.bool sC)).setCell ⟨gX,1,none⟩ (.slice AC kC cC)).setCell ⟨gX,2,none⟩ (.slice BC mC dC)) gY (.bool false) (.slice none 0 0) (.slice none 0 0)):=look_set tY.out (by omega) _ _ _;have eC9:Hid (TreW (fun b=>((S b∧b<w.heap.size)∨w.heap.size+1+1+1≤b)∧b≠gX∧b≠gY) (n+1) (((wv.setCell ⟨gX,0,none⟩ (.bool sC)).setCell ⟨gX,1,none⟩ (.slice AC kC cC)).setCell ⟨gX,2,none⟩ (.slice BC mC dC)) (.agg #[.bool sC,.slice AC kC cC,.slice BC mC dC]) (mkK fa)):=tC.out.only (trio_only wv gX _ _ _) (fun b hb e=>hb.2.1 e) (fun b hb=>hb);have eE9:Hid (TreW (fun b=>((S b∧b<w.heap.size)∨w.heap.size+1+1+1≤b)∧b≠gX∧b≠gY) (n+1) (((wv.setCell ⟨gX,0,none⟩ (.bool sC)).setCell ⟨gX,1,none⟩ (.slice AC kC cC)).setCell ⟨gX,2,none⟩ (.slice BC mC dC)) (.agg #[.bool sE,.slice AE kE cE,.slice BE mE dE]) (mkK fb)):=tE.out.only (trio_only wv gX _ _ _) (fun b hb e=>hb.2.1 e) (fun b hb=>hb);have eV:Below wz.heap.size wz (((wv.setCell ⟨gX,0,none⟩ (.bool sC)).setCell ⟨gX,1,none⟩ (.slice AC kC cC)).setCell ⟨gX,2,none⟩ (.slice BC mC dC)):=bel_trio hV.out hX _ _ _;refine wpAnyG_ready (rs:=[12]) (by kernel_rfl) (by simp) ?_;refine AllReadyG.cons rfl (by decide) (fun KK hKK=> ?_) AllReadyG.nil;go_simp;refine hKK.out _ _ (keep9.out _ eV) (fun _=> ?_);clear hKK KK v0X v1X v2X f0X f1X f2X v0Y v1Y v2Y f0Y f1Y f2Y;try simp only [fx,Act.put]
   generalize hgw:(((wv.setCell ⟨gX,0,none⟩ (.bool sC)).setCell ⟨gX,1,none⟩ (.slice AC kC cC)).setCell ⟨gX,2,none⟩ (.slice BC mC dC))=wq at*
   clear hgw;have v0Y:=eY.out.cell0;have f0Y:=eY.out.frozen 0;have v1Y:=eY.out.cell1;have f1Y:=eY.out.frozen 1;have v2Y:=eY.out.cell2;have f2Y:=eY.out.frozen 2;refine wpAnyG_ready (rs:=[13]) (by kernel_rfl) (by simp) ?_;refine AllReadyG.last rfl (fun KK hKK=> ?_);go_simp;refine hKK.out _ _ ?_;clear hKK KK;refine wpAnyG_done (by kernel_rfl) ?_ _;go_wp2_with fail
   go_meet
   exact ⟨gX,gY,sC,AC,kC,cC,BC,mC,dC,sE,AE,kE,cE,BE,mE,dE,rfl,rfl,hX,hY,nXY,look_set eX.out nXY _ _ _,eY.out.set _ _ _,eC9.out.only (trio_only wq gY _ _ _) (fun b hb e=>hb.2.2 e) (fun b hb=>hb),eE9.out.only (trio_only wq gY _ _ _) (fun b hb e=>hb.2.2 e) (fun b hb=>hb),bel_trio eV hY _ _ _⟩
  case rest=>
   obtain ⟨g10,g11,s3,A3,k3,c3,B3,m3,d3,s4,A4,k4,c4,B4,m4,d4,rfl,rfl,hg10,hg11,hgne,hT10,hT11,hV10,hV11,hBa⟩:=hcut;obtain ⟨wa,rfl⟩:∃V:World,V=wc:=⟨_,rfl⟩;have hsa:=hBa.out.size;have HBa:=hiD (HB9.out.tm hBa.out);have la10:=hT10.out.lt;have la11:=hT11.out.lt;have Y2:=hiD (R2.out.bel hBa.out);have Y7:=hiD (R7.out.bel hBa.out);have Y8:=hiD (R8.out.bel hBa.out);have hl7:=R7.out.lt;have hl8:=R8.out.lt;have W7:=hiD ((V7.out.here.bel hBa.out).mono (T:=fun b=>((S b∧b<w.heap.size)∨w.heap.size+1+1+1≤b)∧b≠g10∧b≠g11) fun b hb=>⟨hb.1,by have:=hb.2;omega,by have:=hb.2;omega⟩);have W8:=hiD ((V8.out.here.bel hBa.out).mono (T:=fun b=>((S b∧b<w.heap.size)∨w.heap.size+1+1+1≤b)∧b≠g10∧b≠g11) fun b hb=>⟨hb.1,by have:=hb.2;omega,by have:=hb.2;omega⟩);clear keep9 CB9 CD9 t_A t_B t_O t_c V7 V8 V9 l9 R0 R1 R2 R7 R8 hBa hfit1 hfit2;go_wp2_with fail
   go_loopg [] ((kids (mkK fb)).len+1) (fun gk wr=>∃(x y:Pn (n+1)) (s3:Bool) (A3:Option Addr) (k3 c3:Nat) (B3:Option Addr) (m3 d3:Nat) (s4:Bool) (A4:Option Addr) (k4 c4:Nat) (B4:Option Addr) (m4 d4:Nat),(kids y).len<gk∧Hid (I x y)∧Hid (Trio wr g10 (.bool s3) (.slice A3 k3 c3) (.slice B3 m3 d3))∧Hid (Trio wr g11 (.bool s4) (.slice A4 k4 c4) (.slice B4 m4 d4))∧Hid (TreW (fun b=>((S b∧b<w.heap.size)∨w.heap.size+1+1+1≤b)∧b≠g10∧b≠g11) (n+1) wr (.agg #[.bool s3,.slice A3 k3 c3,.slice B3 m3 d3]) x)∧Hid (TreW (fun b=>((S b∧b<w.heap.size)∨w.heap.size+1+1+1≤b)∧b≠g10∧b≠g11) (n+1) wr (.agg #[.bool s4,.slice A4 k4 c4,.slice B4 m4 d4]) y)∧Hid (Only (fun b=>b=g10∨b=g11∨wa.heap.size≤b) wa wr))
   case atStart=>exact ⟨mkK fa,mkK fb,s3,A3,k3,c3,B3,m3,d3,s4,A4,k4,c4,B4,m4,d4,by omega,hI0,hT10,hT11,hV10,hV11,Only.refl _ _⟩
   case round=>
    clear hT10 hT11 hV10 hV11 hI0;obtain ⟨x,y,s3,A3,k3,c3,B3,m3,d3,s4,A4,k4,c4,B4,m4,d4,hgk,hI,hT10,hT11,hV10,hV11,hon⟩:=hrel;obtain ⟨wp,rfl⟩:∃wp:World,wp=wr:=⟨_,rfl⟩;have HBp:Hid (Below w.heap.size w wp):=HBa.out.trans (hon.out.below HBa.out.size fun b hb=>by omega);have hwz:=hon.out.size;have p0:=hT11.out.cell0;have p1:=hT11.out.cell1;have p2:=hT11.out.cell2;have CN10:=hiD (mnoughtS _ n wp _ y hV11.out);(go_wp2_with fail);refine CN10.out.mono ?_;rintro e w3 ⟨ry,rfl,hry,hb3⟩;have hs3:=hb3.size;have T10:=hiD (hT10.out.bel hb3);have T11:=hiD (hT11.out.bel hb3);have V10:=hiD (hV10.out.bel hb3);have V11:=hiD (hV11.out.bel hb3);have on3:Hid (Only (fun b=>b=g10∨b=g11∨wa.heap.size≤b) wa w3):=hon.out.trans ((Only.of_below hb3).mono fun b hb=> .inr (.inr (by omega)));have HB3:=hiD (HBp.out.tm hb3);have hry':=hiD hry;clear hry hb3 hT10 hT11 hV10 hV11 hon CN10 p0 p1 p2 HBp;have p0:=T10.out.cell0;have p1:=T10.out.cell1;have p2:=T10.out.cell2;have q0:=T11.out.cell0;have q1:=T11.out.cell1;have q2:=T11.out.cell2;cases ry with
    | true=>
      have hy0:y=0:=hry'.out.1 rfl;subst hy0;have t_X:=V10.out.here;have t_c:=((W7.out.here.only on3.out (fun b hb e=>by rcases e with e | e | e;(exact hb.1.2.1 e);(exact hb.1.2.2 e);(have:=hb.2;omega)) (fun b hb=>hb.1)).here);have t_d:=((W8.out.here.only on3.out (fun b hb e=>by rcases e with e | e | e;(exact hb.1.2.1 e);(exact hb.1.2.2 e);(have:=hb.2;omega)) (fun b hb=>hb.1)).here);have T7':Hid (Trio w3 g7 (.bool s1) (.slice A1 k1 c1) (.slice B1 m1 d1)):=Y7.out.keep (on3.out.block _ Y7.out.lt (by omega));have T8':Hid (Trio w3 g8 (.bool s2) (.slice A2 k2 c2) (.slice B2 m2 d2)):=Y8.out.keep (on3.out.block _ Y8.out.lt (by omega));have T2':Hid (Trio w3 (w.heap.size+1+1) (.bool false) (.slice none 0 0) (.slice none 0 0)):=Y2.out.keep (on3.out.block _ Y2.out.lt (by omega));have hgl:g10<w3.heap.size∧g11<w3.heap.size:=⟨T10.out.lt,T11.out.lt⟩;have CK15:Hid (∀(T:Nat→Prop) (V:World),Below w3.heap.size w3 V→TreW T n V (.agg #[.bool s1,.slice A1 k1 c1,.slice B1 m1 d1]) cf→TreW T n V (.agg #[.bool s2,.slice A2 k2 c2,.slice B2 m2 d2]) cg→Calls Tryz.prog 27 #[.int .i64 (n:Int),.agg #[.bool s1,.slice A1 k1 c1,.slice B1 m1 d1],.agg #[.bool s2,.slice A2 k2 c2,.slice B2 m2 d2]] V (fun e w'=>∃g,IsG g cf cg∧GivesTr T V n g e w')):=fun T V _ h1 h2=>HH.out.gc cf cg hcf.out hcg.out T V _ _ h1 h2;clear p0 p1 p2 q0 q1 q2;have keep15:Hid (∀V,Below w3.heap.size w3 V→(fun V=>V.cell? ⟨g10,0,none⟩=some (.bool s3)∧V.cell? ⟨g10,1,none⟩=some (.slice A3 k3 c3)∧V.cell? ⟨g10,2,none⟩=some (.slice B3 m3 d3)∧V.cell? ⟨g7,0,none⟩=some (.bool s1)∧V.cell? ⟨g7,1,none⟩=some (.slice A1 k1 c1)∧V.cell? ⟨g7,2,none⟩=some (.slice B1 m1 d1)∧V.cell? ⟨g8,0,none⟩=some (.bool s2)∧V.cell? ⟨g8,1,none⟩=some (.slice A2 k2 c2)∧V.cell? ⟨g8,2,none⟩=some (.slice B2 m2 d2)) V):=fun V hV=>⟨(T10.out.bel hV).cell0,(T10.out.bel hV).cell1,(T10.out.bel hV).cell2,(T7'.out.bel hV).cell0,(T7'.out.bel hV).cell1,(T7'.out.bel hV).cell2,(T8'.out.bel hV).cell0,(T8'.out.bel hV).cell1,(T8'.out.bel hV).cell2⟩;(go_wp2_with fail);refine wp_regionG (S:=fun V=>V.cell? ⟨g10,0,none⟩=some (.bool s3)∧V.cell? ⟨g10,1,none⟩=some (.slice A3 k3 c3)∧V.cell? ⟨g10,2,none⟩=some (.slice B3 m3 d3)∧V.cell? ⟨g7,0,none⟩=some (.bool s1)∧V.cell? ⟨g7,1,none⟩=some (.slice A1 k1 c1)∧V.cell? ⟨g7,2,none⟩=some (.slice B1 m1 d1)∧V.cell? ⟨g8,0,none⟩=some (.bool s2)∧V.cell? ⟨g8,1,none⟩=some (.slice A2 k2 c2)∧V.cell? ⟨g8,2,none⟩=some (.slice B2 m2 d2)) (z:=8) (by kernel_rfl) ?_;have hHeld:=keep15.out _ (Below.refl w3.heap.size w3).drew;(try dsimp only at hHeld);refine tk 8 0 (.agg #[.bool s3,.slice A3 k3 c3,.slice B3 m3 d3]) rfl hHeld ?_;(try simp only [fx,Act.put]);refine tk 8 1 (.int .i64 ((n:Int)+1)) rfl hHeld ?_;(try simp only [fx,Act.put]);refine tk 8 2 (.int .i64 ((n:Int)+1)) rfl hHeld ?_;(try simp only [fx,Act.put]);refine tk 8 3 (.int .i64 (n:Int)) rfl hHeld ?_;(try simp only [fx,Act.put]);refine tk 8 4 (.agg #[.bool s1,.slice A1 k1 c1,.slice B1 m1 d1]) rfl hHeld ?_;(try simp only [fx,Act.put]);refine tk 8 5 (.agg #[.bool s2,.slice A2 k2 c2,.slice B2 m2 d2]) rfl hHeld ?_;(try simp only [fx,Act.put]);refine wpAnyG_ready (rs:=[6]) (by kernel_rfl) (by simp) ?_;refine AllReadyG.cons rfl (by decide) (fun KK hKK=> ?_) ?_
      · skip
        go_simp;refine (CK15.out (fun b=>(((S b∧b<w.heap.size)∨w.heap.size+1+1+1≤b)∧b≠g10∧b≠g11)∧b<w3.heap.size) (World.drew w3) (Below.refl w3.heap.size w3).drew ((t_c.bel (Below.refl w3.heap.size w3).drew).mono (fun b hb=>⟨hb.1,by have h9:=hb.2;omega⟩)) ((t_d.bel (Below.refl w3.heap.size w3).drew).mono (fun b hb=>⟨hb.1,by have h9:=hb.2;omega⟩))).mono ?_;rintro e wK ⟨gg,hgg,sK,AK,kK,cK,BK,mK,dK,rfl,hK,hbK⟩;have hy_wK:Below w3.heap.size w3 wK:=(Below.refl w3.heap.size w3).drew.trans (hbK.mono (Below.refl w3.heap.size w3).drew.size);have hszK:w3.heap.size≤wK.heap.size:=by
         have h2:=hbK.size;change (w3).heap.size≤_ at h2
         exact h2
        have t_X:=((t_X.bel (Below.refl w3.heap.size w3).drew).bel hbK).mono (T:=fun b=>(((S b∧b<w.heap.size)∨w.heap.size+1+1+1≤b)∧b≠g10∧b≠g11)∧b<wK.heap.size) (fun b hb=>⟨hb.1,by have h9:=hb.2;omega⟩);have t_c:=((t_c.bel (Below.refl w3.heap.size w3).drew).bel hbK).mono (T:=fun b=>(((S b∧b<w.heap.size)∨w.heap.size+1+1+1≤b)∧b≠g10∧b≠g11)∧b<wK.heap.size) (fun b hb=>⟨hb.1,by have h9:=hb.2;omega⟩);have t_d:=((t_d.bel (Below.refl w3.heap.size w3).drew).bel hbK).mono (T:=fun b=>(((S b∧b<w.heap.size)∨w.heap.size+1+1+1≤b)∧b≠g10∧b≠g11)∧b<wK.heap.size) (fun b hb=>⟨hb.1,by have h9:=hb.2;omega⟩);have t_K:TreW (fun b=>(((S b∧b<w.heap.size)∨w.heap.size+1+1+1≤b)∧b≠g10∧b≠g11)∧b<wK.heap.size) n wK (treV sK AK kK cK BK mK dK) gg:=hK.here.mono fun b hb=>by
         rcases hb with ⟨h1 | h1,h3⟩
         · exact ⟨h1.1,h3⟩
         · change (w3).heap.size≤b at h1
           exact ⟨⟨.inr (by omega),by omega,by omega⟩,h3⟩
        clear hK;obtain ⟨hg0,hG',D,E,f1,f2,f3,f4,f5,f6,f7⟩:=HH.out.fin cf cg gg x hI.out hcf.out hcg.out hgg;have hG:=hiD hG';have CC15:Hid (∀(T:Nat→Prop) (V:World),Below w3.heap.size w3 V→TreW T (n+1) V (.agg #[.bool s3,.slice A3 k3 c3,.slice B3 m3 d3]) x→∀v,TreW T n V v gg→Calls Tryz.prog 55 #[.agg #[.bool s3,.slice A3 k3 c3,.slice B3 m3 d3],.int .i64 ((n:Int)+1),v] V (GivesTr T V (n+1) (x*mkK (Poly.C gg)))):=fun T V _ h1 v h2=>mscaled n K (by omega) (mtimesT K hK (n+1) (by omega)) T V _ v x gg D E h1 h2 hg0 f1 f2 f3 f4 f5 f6 f7;clear hG' f1 f2 f3 f4 f5 f6 f7;unfold treV;(go_wp2_with fail);refine hKK.out _ _ (keep15.out _ hy_wK) (fun hHeld=> ?_);clear hKK KK;(try dsimp only at hHeld);(try simp only [fx,Act.put]);refine wpAnyG_ready (rs:=[7]) (by kernel_rfl) (by simp) ?_;refine AllReadyG.cons rfl (by decide) (fun KK hKK=> ?_) ?_
        · skip
          go_simp;refine (CC15.out (fun b=>(((S b∧b<w.heap.size)∨w.heap.size+1+1+1≤b)∧b≠g10∧b≠g11)∧b<wK.heap.size) wK hy_wK ((t_X.bel (Below.refl wK.heap.size wK)).mono (fun b hb=>⟨hb.1,by have h9:=hb.2;omega⟩)) _ ((t_K.bel (Below.refl wK.heap.size wK)).mono (fun b hb=>⟨hb.1,by have h9:=hb.2;omega⟩))).mono ?_;rintro e wC ⟨sC,AC,kC,cC,BC,mC,dC,rfl,hC,hbC⟩;have hy_wC:Below w3.heap.size w3 wC:=hy_wK.tm hbC;have hszC:wK.heap.size≤wC.heap.size:=by
           have h2:=hbC.size;change (wK).heap.size≤_ at h2
           exact h2
          have t_X:=((t_X.bel (Below.refl wK.heap.size wK)).bel hbC).mono (T:=fun b=>(((S b∧b<w.heap.size)∨w.heap.size+1+1+1≤b)∧b≠g10∧b≠g11)∧b<wC.heap.size) (fun b hb=>⟨hb.1,by have h9:=hb.2;omega⟩);have t_c:=((t_c.bel (Below.refl wK.heap.size wK)).bel hbC).mono (T:=fun b=>(((S b∧b<w.heap.size)∨w.heap.size+1+1+1≤b)∧b≠g10∧b≠g11)∧b<wC.heap.size) (fun b hb=>⟨hb.1,by have h9:=hb.2;omega⟩);have t_d:=((t_d.bel (Below.refl wK.heap.size wK)).bel hbC).mono (T:=fun b=>(((S b∧b<w.heap.size)∨w.heap.size+1+1+1≤b)∧b≠g10∧b≠g11)∧b<wC.heap.size) (fun b hb=>⟨hb.1,by have h9:=hb.2;omega⟩);have t_K:=((t_K.bel (Below.refl wK.heap.size wK)).bel hbC).mono (T:=fun b=>(((S b∧b<w.heap.size)∨w.heap.size+1+1+1≤b)∧b≠g10∧b≠g11)∧b<wC.heap.size) (fun b hb=>⟨hb.1,by have h9:=hb.2;omega⟩);have t_C:TreW (fun b=>(((S b∧b<w.heap.size)∨w.heap.size+1+1+1≤b)∧b≠g10∧b≠g11)∧b<wC.heap.size) (n+1) wC (treV sC AC kC cC BC mC dC) (x*mkK (Poly.C gg)):=hC.here.mono fun b hb=>by
           rcases hb with ⟨h1 | h1,h3⟩
           · exact ⟨h1.1,h3⟩
           · change (wK).heap.size≤b at h1
             exact ⟨⟨.inr (by omega),by omega,by omega⟩,h3⟩
          clear hC;unfold treV;(go_wp2_with fail);refine hKK.out _ _ (keep15.out _ hy_wC) (fun hHeld=> ?_);clear hKK KK;(try dsimp only at hHeld);(try simp only [fx,Act.put]);refine wpAnyG_ready (rs:=[8]) (by kernel_rfl) (by simp) ?_;refine AllReadyG.last rfl (fun KK hKK=> ?_);have tz:=T2'.out.bel hy_wC;have v0:=tz.cell0;have f0:=tz.frozen 0;have v1:=tz.cell1;have f1:=tz.frozen 1;have v2:=tz.cell2;have f2:=tz.frozen 2;have eZ:Hid (TreW (fun b=>S b∨w.heap.size≤b) (n+1) (((wC.setCell ⟨w.heap.size+1+1,0,none⟩ (.bool sC)).setCell ⟨w.heap.size+1+1,1,none⟩ (.slice AC kC cC)).setCell ⟨w.heap.size+1+1,2,none⟩ (.slice BC mC dC)) (.agg #[.bool sC,.slice AC kC cC,.slice BC mC dC]) (x*mkK (Poly.C gg))):=t_C.only (trio_only wC (w.heap.size+1+1) _ _ _) (fun b hb e=>by rcases hb.1.1 with h | h<;>omega) (fun b hb=>hb.1.1.imp (fun h=>h.1) fun h=>by omega);have eB:Hid (Below w.heap.size w (((wC.setCell ⟨w.heap.size+1+1,0,none⟩ (.bool sC)).setCell ⟨w.heap.size+1+1,1,none⟩ (.slice AC kC cC)).setCell ⟨w.heap.size+1+1,2,none⟩ (.slice BC mC dC))):=bel_trio (HB3.out.tm hy_wC) (by omega) _ _ _;have eT:Hid (Trio (((wC.setCell ⟨w.heap.size+1+1,0,none⟩ (.bool sC)).setCell ⟨w.heap.size+1+1,1,none⟩ (.slice AC kC cC)).setCell ⟨w.heap.size+1+1,2,none⟩ (.slice BC mC dC)) (w.heap.size+1+1) (.bool sC) (.slice AC kC cC) (.slice BC mC dC)):=tz.set _ _ _;go_simp;refine hKK.out _ _ ?_;clear hKK KK;refine wpAnyG_done (by kernel_rfl) ?_ _;(go_wp2_with fail);exact bodyPost_ret (v:=.agg #[.bool sC,.slice AC kC cC,.slice BC mC dC]) (results_cell_row (fn:=Tryz.f27) rfl _ _ _ _ _ _ _ rfl eT.out Tryz.underlying51 rfl apoly_size) rfl
           ⟨x*mkK (Poly.C gg),hG.out,sC,AC,kC,cC,BC,mC,dC,rfl,eZ.out,eB.out⟩
        exact AllReadyG.nil
      exact AllReadyG.nil
    | false=>
      (have hy0:y≠0:=fun e=>by have:=hry'.out.2 e;cases this);obtain ⟨D,E,⟨f1,f2,f3,f4,f5⟩,hrs⟩:=HH.out.rs x y hI.out hy0;have Hrs:=hiD hrs;have CR:Hid (Calls Tryz.prog 54 #[.agg #[.bool s3,.slice A3 k3 c3,.slice B3 m3 d3],.int .i64 ((n:Int)+1),.agg #[.bool s4,.slice A4 k4 c4,.slice B4 m4 d4]] w3 (fun e w'=>∃r k,Poly.RI (kids x) (kids y) D E k (kids r)∧(kids r).len<(kids y).len∧GivesTr (fun b=>((S b∧b<w.heap.size)∨w.heap.size+1+1+1≤b)∧b≠g10∧b≠g11) w3 (n+1) r e w')):=mrest n K hK (by omega) _ w3 _ _ x y D E V10.out V11.out hy0 f1 f2 f3 f4 f5;clear hrs f1 f2 f3 f4 f5;(go_wp2_with fail);refine CR.out.mono ?_;rintro e w4 ⟨r,k,hRI,hrl,s5,A5,k5,c5,B5,m5,d5,rfl,hv5,hb4⟩;have hs4:=hb4.size;have ba:Below w4.heap.size w4 (w4.alloc (.cells #[.bool s5,.slice A5 k5 c5,.slice B5 m5 d5] 51)):=bel_alloc bRr _;have U10:=(T10.out.bel hb4).bel ba;have U11:=(T11.out.bel hb4).bel ba;have U12:=Trio.new w4 (.bool s5) (.slice A5 k5 c5) (.slice B5 m5 d5);have hv5':Hid (TreW (fun b=>((S b∧b<w.heap.size)∨w.heap.size+1+1+1≤b)∧b≠g10∧b≠g11) (n+1) (w4.alloc (.cells #[.bool s5,.slice A5 k5 c5,.slice B5 m5 d5] 51)) (.agg #[.bool s5,.slice A5 k5 c5,.slice B5 m5 d5]) r):=(hv5.bel ba).mono fun b hb=>hb.elim id fun h9=>⟨.inr (by omega),by omega,by omega⟩;have vy5:Hid (TreW (fun b=>((S b∧b<w.heap.size)∨w.heap.size+1+1+1≤b)∧b≠g10∧b≠g11) (n+1) (w4.alloc (.cells #[.bool s5,.slice A5 k5 c5,.slice B5 m5 d5] 51)) (.agg #[.bool s4,.slice A4 k4 c4,.slice B4 m4 d4]) y):=(V11.out.bel hb4).bel ba;have on4:Hid (Only (fun b=>b=g10∨b=g11∨wa.heap.size≤b) wa (w4.alloc (.cells #[.bool s5,.slice A5 k5 c5,.slice B5 m5 d5] 51))):=(on3.out.trans ((Only.of_below hb4).mono fun b hb=> .inr (.inr (by omega)))).trans ((Only.of_below ba).mono fun b hb=> .inr (.inr (by omega)));have HRI:=hiD hRI;clear hv5 hRI CR p0 p1 p2 q0 q1 q2;unfold treV;(go_wp2_with fail);generalize hw5:w4.alloc (.cells #[.bool s5,.slice A5 k5 c5,.slice B5 m5 d5] 51)=w5 at*
      (have g12l:w4.heap.size<w5.heap.size:=by rw [← hw5];simp);clear hw5;have v0:=U10.cell0;have v1:=U10.cell1;have v2:=U10.cell2;have v3:=U10.frozen 0;have v4:=U10.frozen 1;have v5:=U10.frozen 2;have y0:=U11.cell0;have y1:=U11.cell1;have y2:=U11.cell2;have y3:=U11.frozen 0;have y4:=U11.frozen 1;have y5:=U11.frozen 2;have z0:=U12.cell0;have z1:=U12.cell1;have z2:=U12.cell2;have eX:Hid (Trio (((((w5.setCell ⟨g10,0,none⟩ (.bool s4)).setCell ⟨g10,1,none⟩ (.slice A4 k4 c4)).setCell ⟨g10,2,none⟩ (.slice B4 m4 d4)).setCell ⟨g11,0,none⟩ (.bool s5)).setCell ⟨g11,1,none⟩ (.slice A5 k5 c5) |>.setCell ⟨g11,2,none⟩ (.slice B5 m5 d5)) g10 (.bool s4) (.slice A4 k4 c4) (.slice B4 m4 d4)):=look_set (U10.set _ _ _) hgne _ _ _;have eY:Hid (Trio (((((w5.setCell ⟨g10,0,none⟩ (.bool s4)).setCell ⟨g10,1,none⟩ (.slice A4 k4 c4)).setCell ⟨g10,2,none⟩ (.slice B4 m4 d4)).setCell ⟨g11,0,none⟩ (.bool s5)).setCell ⟨g11,1,none⟩ (.slice A5 k5 c5) |>.setCell ⟨g11,2,none⟩ (.slice B5 m5 d5)) g11 (.bool s5) (.slice A5 k5 c5) (.slice B5 m5 d5)):=Trio.set (look_set U11 hgne.symm _ _ _) _ _ _;have eVy:Hid (TreW (fun b=>((S b∧b<w.heap.size)∨w.heap.size+1+1+1≤b)∧b≠g10∧b≠g11) (n+1) (((((w5.setCell ⟨g10,0,none⟩ (.bool s4)).setCell ⟨g10,1,none⟩ (.slice A4 k4 c4)).setCell ⟨g10,2,none⟩ (.slice B4 m4 d4)).setCell ⟨g11,0,none⟩ (.bool s5)).setCell ⟨g11,1,none⟩ (.slice A5 k5 c5) |>.setCell ⟨g11,2,none⟩ (.slice B5 m5 d5)) (.agg #[.bool s4,.slice A4 k4 c4,.slice B4 m4 d4]) y):=(vy5.out.only (trio_only w5 g10 _ _ _) (fun b hb e=>hb.2.1 e) (fun b hb=>hb)).only (trio_only _ g11 _ _ _) (fun b hb e=>hb.2.2 e) (fun b hb=>hb);have eVr:Hid (TreW (fun b=>((S b∧b<w.heap.size)∨w.heap.size+1+1+1≤b)∧b≠g10∧b≠g11) (n+1) (((((w5.setCell ⟨g10,0,none⟩ (.bool s4)).setCell ⟨g10,1,none⟩ (.slice A4 k4 c4)).setCell ⟨g10,2,none⟩ (.slice B4 m4 d4)).setCell ⟨g11,0,none⟩ (.bool s5)).setCell ⟨g11,1,none⟩ (.slice A5 k5 c5) |>.setCell ⟨g11,2,none⟩ (.slice B5 m5 d5)) (.agg #[.bool s5,.slice A5 k5 c5,.slice B5 m5 d5]) r):=(hv5'.out.only (trio_only w5 g10 _ _ _) (fun b hb e=>hb.2.1 e) (fun b hb=>hb)).only (trio_only _ g11 _ _ _) (fun b hb e=>hb.2.2 e) (fun b hb=>hb);have eOn:Hid (Only (fun b=>b=g10∨b=g11∨wa.heap.size≤b) wa (((((w5.setCell ⟨g10,0,none⟩ (.bool s4)).setCell ⟨g10,1,none⟩ (.slice A4 k4 c4)).setCell ⟨g10,2,none⟩ (.slice B4 m4 d4)).setCell ⟨g11,0,none⟩ (.bool s5)).setCell ⟨g11,1,none⟩ (.slice A5 k5 c5) |>.setCell ⟨g11,2,none⟩ (.slice B5 m5 d5))):=(on4.out.trans ((trio_only w5 g10 _ _ _).mono fun b hb=> .inl hb)).trans ((trio_only _ g11 _ _ _).mono fun b hb=> .inr (.inl hb));clear vy5 hv5' on4;go_cut [] (fun V=>Hid (Trio V g10 (.bool s4) (.slice A4 k4 c4) (.slice B4 m4 d4))∧Hid (Trio V g11 (.bool s5) (.slice A5 k5 c5) (.slice B5 m5 d5))∧Hid (TreW (fun b=>((S b∧b<w.heap.size)∨w.heap.size+1+1+1≤b)∧b≠g10∧b≠g11) (n+1) V (.agg #[.bool s4,.slice A4 k4 c4,.slice B4 m4 d4]) y)∧Hid (TreW (fun b=>((S b∧b<w.heap.size)∨w.heap.size+1+1+1≤b)∧b≠g10∧b≠g11) (n+1) V (.agg #[.bool s5,.slice A5 k5 c5,.slice B5 m5 d5]) r)∧Hid (Only (fun b=>b=g10∨b=g11∨wa.heap.size≤b) wa V))
      case first=>
       go_region
       all_goals
        (go_wp2_with fail);go_meet
        exact ⟨eX.out.bel bRr.drew,eY.out.bel bRr.drew,eVy.out.bel bRr.drew,eVr.out.bel bRr.drew,eOn.out.trans ((Only.of_below (bRr.drew)).mono fun b hb=> .inr (.inr (by have:=eOn.out.size;omega)))⟩
      case rest=>
       obtain ⟨hT10,hT11,hVy,hVr,hon5⟩:=hcut;obtain ⟨w6,rfl⟩:∃V:World,V=wc:=⟨_,rfl⟩;clear eX eY eVy eVr eOn U10 U11 U12 v0 v1 v2 v3 v4 v5 y0 y1 y2 y3 y4 y5 z0 z1 z2;have hs6:=hon5.out.size;have p0:=hT11.out.cell0;have p1:=hT11.out.cell1;have p2:=hT11.out.cell2;have CN13:=hiD (mnoughtS _ n w6 _ r hVr.out);obtain ⟨hr1,hr2⟩:=Hrs.out r k HRI.out hrl;have Hr1:=hiD hr1;have Hr2:=hiD hr2;clear hr1 hr2 Hrs;(go_wp2_with fail);refine CN13.out.mono ?_;rintro e w7 ⟨rr,rfl,hrr,hb7⟩;have hs7:=hb7.size;have T10':=hiD (hT10.out.bel hb7);have T11':=hiD (hT11.out.bel hb7);have Vy7:=hiD (hVy.out.bel hb7);have Vr7:=hiD (hVr.out.bel hb7);have on7:Hid (Only (fun b=>b=g10∨b=g11∨wa.heap.size≤b) wa w7):=hon5.out.trans ((Only.of_below hb7).mono fun b hb=> .inr (.inr (by omega)));have hrr':=hiD hrr;clear hrr hb7 hT10 hT11 hVy hVr hon5 CN13 p0 p1 p2;cases rr with
       | true=>
         have hr0:r=0:=hrr'.out.1 rfl;have hIy:Hid (I y r):=by
          rw [hr0];exact Hr1.out hr0
         (go_wp2_with fail);go_roundg (gk - 1)
         case measure=>omega
         case rel=>exact ⟨y,r,s4,A4,k4,c4,B4,m4,d4,s5,A5,k5,c5,B5,m5,d5,by omega,hIy,T10',T11',Vy7,Vr7,on7⟩
       | false=>
         (have hr0:r≠0:=fun e=>by have:=hrr'.out.2 e;cases this);obtain ⟨hcr,hby⟩:=Hr2.out hr0;have Hby:=hiD hby;clear hby Hr1 Hr2;have t_R:=Vr7.out.here;have CK14:Hid (∀(T:Nat→Prop) (V:World),Below w7.heap.size w7 V→TreW T (n+1) V (.agg #[.bool s5,.slice A5 k5 c5,.slice B5 m5 d5]) r→Calls Tryz.prog 52 #[.agg #[.bool s5,.slice A5 k5 c5,.slice B5 m5 d5],.int .i64 ((n:Int)+1)] V (fun e w'=>∃c,Poly.Cont c (kids r)∧GivesTr T V n c e w')):=fun T V _ hv=>mcontent n (by omega) T V _ r hv hcr.1 hcr.2;have hgl:g10<w7.heap.size∧g11<w7.heap.size:=⟨T10'.out.lt,T11'.out.lt⟩;have keep14:Hid (∀V,Below w7.heap.size w7 V→(fun V=>V.cell? ⟨g11,0,none⟩=some (.bool s5)∧V.cell? ⟨g11,1,none⟩=some (.slice A5 k5 c5)∧V.cell? ⟨g11,2,none⟩=some (.slice B5 m5 d5)) V):=fun V hV=>⟨(T11'.out.bel hV).cell0,(T11'.out.bel hV).cell1,(T11'.out.bel hV).cell2⟩;(go_wp2_with fail);refine wp_regionG (S:=fun V=>V.cell? ⟨g11,0,none⟩=some (.bool s5)∧V.cell? ⟨g11,1,none⟩=some (.slice A5 k5 c5)∧V.cell? ⟨g11,2,none⟩=some (.slice B5 m5 d5)) (z:=8) (by kernel_rfl) ?_;have hHeld:=keep14.out _ (Below.refl w7.heap.size w7).drew;(try dsimp only at hHeld);refine tk 8 0 (.agg #[.bool s5,.slice A5 k5 c5,.slice B5 m5 d5]) rfl hHeld ?_;(try simp only [fx,Act.put]);refine tk 8 1 (.int .i64 ((n:Int)+1)) rfl hHeld ?_;(try simp only [fx,Act.put]);refine tk 8 2 (.agg #[.bool s5,.slice A5 k5 c5,.slice B5 m5 d5]) rfl hHeld ?_;(try simp only [fx,Act.put]);refine tk 8 3 (.int .i64 ((n:Int)+1)) rfl hHeld ?_;(try simp only [fx,Act.put]);refine wpAnyG_ready (rs:=[4]) (by kernel_rfl) (by simp) ?_;refine AllReadyG.cons rfl (by decide) (fun KK hKK=> ?_) ?_
         · skip
           go_simp;refine (CK14.out (fun b=>(((S b∧b<w.heap.size)∨w.heap.size+1+1+1≤b)∧b≠g10∧b≠g11)∧b<w7.heap.size) (World.drew w7) (Below.refl w7.heap.size w7).drew ((t_R.bel (Below.refl w7.heap.size w7).drew).mono (fun b hb=>⟨hb.1,by have h9:=hb.2;omega⟩))).mono ?_;rintro e wK ⟨cr,hcr2,sK,AK,kK,cK,BK,mK,dK,rfl,hK,hbK⟩;have hy_wK:Below w7.heap.size w7 wK:=(Below.refl w7.heap.size w7).drew.trans (hbK.mono (Below.refl w7.heap.size w7).drew.size);have hszK:w7.heap.size≤wK.heap.size:=by
            have h2:=hbK.size;change (w7).heap.size≤_ at h2
            exact h2
           have t_R:=((t_R.bel (Below.refl w7.heap.size w7).drew).bel hbK).mono (T:=fun b=>(((S b∧b<w.heap.size)∨w.heap.size+1+1+1≤b)∧b≠g10∧b≠g11)∧b<wK.heap.size) (fun b hb=>⟨hb.1,by have h9:=hb.2;omega⟩);have t_K:TreW (fun b=>(((S b∧b<w.heap.size)∨w.heap.size+1+1+1≤b)∧b≠g10∧b≠g11)∧b<wK.heap.size) n wK (treV sK AK kK cK BK mK dK) cr:=hK.here.mono fun b hb=>by
            rcases hb with ⟨h1 | h1,h3⟩
            · exact ⟨h1.1,h3⟩
            · change (w7).heap.size≤b at h1
              exact ⟨⟨.inr (by omega),by omega,by omega⟩,h3⟩
           clear hK;have hcr0:cr≠0:=hcr2.ne (fun e=>hr0 e);obtain ⟨fz,hfz⟩:=hcr2.dv.dv;obtain ⟨hfit,hIz'⟩:=Hby.out cr (mkK fz) hcr2 hfz;have hIz:=hiD hIz';(have hlz:(kids (mkK fz)).len≤(kids r).len:=by rw [hfz,Poly.len_C_mulD hcr0];exact lRr);have hrz:Hid (r=mkK fz*mkK (Poly.C cr)):=(show kids r=fz*Poly.C cr by rw [hfz,CRing.mul_comm]);have CC14:Hid (∀(T:Nat→Prop) (V:World),Below w7.heap.size w7 V→TreW T (n+1) V (.agg #[.bool s5,.slice A5 k5 c5,.slice B5 m5 d5]) r→∀v,TreW T (n+1) V v (mkK (Poly.C cr))→Calls Tryz.prog 53 #[.agg #[.bool s5,.slice A5 k5 c5,.slice B5 m5 d5],.int .i64 ((n:Int)+1),v] V (GivesTr T V (n+1) (mkK fz))):=fun T V _ h1 v h2=>(by obtain ⟨D,E,e1,e2,e3,e4,e5,e6⟩:=hfit;rw [hrz.out] at h1;have h9:=mby K hK (n+1) (by omega) T V _ _ (mkK fz) (mkK (Poly.C cr)) D E h1 h2 (Poly.C_neD hcr0) e1 e2 e3 e4 e5 e6;rw [Int.natCast_add] at h9;exact h9);clear hfz hIz' Hby;unfold treV;(go_wp2_with fail);refine hKK.out _ _ (keep14.out _ hy_wK) (fun hHeld=> ?_);clear hKK KK;(try dsimp only at hHeld);(try simp only [fx,Act.put]);refine wpAnyG_ready (rs:=[5]) (by kernel_rfl) (by simp) ?_;refine AllReadyG.cons rfl (by decide) (fun KK hKK=> ?_) ?_
           · skip
             go_simp;refine hKK.out _ _ (keep14.out _ (bel_alloc hy_wK (.cells #[.bool sK,.slice AK kK cK,.slice BK mK dK] 51))) (fun hHeld=> ?_);clear hKK KK;(try dsimp only at hHeld);(try simp only [fx,Act.put]);refine tk 8 6 (.agg #[.bool false,.slice none 0 0,.slice (some ⟨wK.heap.size,0,none⟩) 1 1]) rfl hHeld ?_;(try simp only [fx,Act.put]);refine wpAnyG_ready (rs:=[7]) (by kernel_rfl) (by simp) ?_;refine AllReadyG.cons rfl (by decide) (fun KK hKK=> ?_) ?_
             · skip
               go_simp;refine (CC14.out (fun b=>(((S b∧b<w.heap.size)∨w.heap.size+1+1+1≤b)∧b≠g10∧b≠g11)∧b<wK.heap.size+1) (World.alloc wK (.cells #[.bool sK,.slice AK kK cK,.slice BK mK dK] 51)) (bel_alloc hy_wK (.cells #[.bool sK,.slice AK kK cK,.slice BK mK dK] 51)) ((t_R.bel (bel_alloc (Below.refl wK.heap.size wK) (.cells #[.bool sK,.slice AK kK cK,.slice BK mK dK] 51))).mono (fun b hb=>⟨hb.1,by have h9:=hb.2;omega⟩)) _ (TreW.one (S:=fun b=>(((S b∧b<w.heap.size)∨w.heap.size+1+1+1≤b)∧b≠g10∧b≠g11)∧b<wK.heap.size+1) (look_new _ (.cells #[.bool sK,.slice AK kK cK,.slice BK mK dK] 51)) ((t_K.bel (bel_alloc (Below.refl wK.heap.size wK) (.cells #[.bool sK,.slice AK kK cK,.slice BK mK dK] 51))).mono (fun b hb=>⟨hb.1,by have h9:=hb.2;omega⟩)) hcr0 ⟨⟨.inr (by omega),by omega,by omega⟩,by omega⟩)).mono ?_;rintro e wC ⟨sC,AC,kC,cC,BC,mC,dC,rfl,hC,hbC⟩;have hy_wC:Below w7.heap.size w7 wC:=(bel_alloc hy_wK (.cells #[.bool sK,.slice AK kK cK,.slice BK mK dK] 51)).trans (hbC.mono (bel_alloc hy_wK (.cells #[.bool sK,.slice AK kK cK,.slice BK mK dK] 51)).size);have hszC:wK.heap.size+1≤wC.heap.size:=by
                have h2:=hbC.size;change ((World.alloc wK (.cells #[.bool sK,.slice AK kK cK,.slice BK mK dK] 51))).heap.size≤_ at h2
                simp only [World.size_alloc] at h2;exact h2
               have l_B:wC.heap[wK.heap.size]? =some (.cells #[.bool sK,.slice AK kK cK,.slice BK mK dK] 51):=look_bel hbC (look_new _ (.cells #[.bool sK,.slice AK kK cK,.slice BK mK dK] 51));have t_R:=((t_R.bel (bel_alloc (Below.refl wK.heap.size wK) (.cells #[.bool sK,.slice AK kK cK,.slice BK mK dK] 51))).bel hbC).mono (T:=fun b=>(((S b∧b<w.heap.size)∨w.heap.size+1+1+1≤b)∧b≠g10∧b≠g11)∧b<wC.heap.size) (fun b hb=>⟨hb.1,by have h9:=hb.2;omega⟩);have t_K:=((t_K.bel (bel_alloc (Below.refl wK.heap.size wK) (.cells #[.bool sK,.slice AK kK cK,.slice BK mK dK] 51))).bel hbC).mono (T:=fun b=>(((S b∧b<w.heap.size)∨w.heap.size+1+1+1≤b)∧b≠g10∧b≠g11)∧b<wC.heap.size) (fun b hb=>⟨hb.1,by have h9:=hb.2;omega⟩);have t_C:TreW (fun b=>(((S b∧b<w.heap.size)∨w.heap.size+1+1+1≤b)∧b≠g10∧b≠g11)∧b<wC.heap.size) (n+1) wC (treV sC AC kC cC BC mC dC) (mkK fz):=hC.here.mono fun b hb=>by
                rcases hb with ⟨h1 | h1,h3⟩
                · exact ⟨h1.1,h3⟩
                · change ((World.alloc wK (.cells #[.bool sK,.slice AK kK cK,.slice BK mK dK] 51))).heap.size≤b at h1
                  simp only [World.size_alloc] at h1;exact ⟨⟨.inr (by omega),by omega,by omega⟩,h3⟩
               clear hC;unfold treV;(go_wp2_with fail);refine hKK.out _ _ (keep14.out _ hy_wC) (fun hHeld=> ?_);clear hKK KK;(try dsimp only at hHeld);(try simp only [fx,Act.put]);refine wpAnyG_ready (rs:=[8]) (by kernel_rfl) (by simp) ?_;refine AllReadyG.last rfl (fun KK hKK=> ?_);have tz:=T11'.out.bel hy_wC;have v0:=tz.cell0;have f0:=tz.frozen 0;have v1:=tz.cell1;have f1:=tz.frozen 1;have v2:=tz.cell2;have f2:=tz.frozen 2;have eX:Hid (Trio (((wC.setCell ⟨g11,0,none⟩ (.bool sC)).setCell ⟨g11,1,none⟩ (.slice AC kC cC)).setCell ⟨g11,2,none⟩ (.slice BC mC dC)) g10 (.bool s4) (.slice A4 k4 c4) (.slice B4 m4 d4)):=look_set (T10'.out.bel hy_wC) hgne _ _ _;have eY:Hid (Trio (((wC.setCell ⟨g11,0,none⟩ (.bool sC)).setCell ⟨g11,1,none⟩ (.slice AC kC cC)).setCell ⟨g11,2,none⟩ (.slice BC mC dC)) g11 (.bool sC) (.slice AC kC cC) (.slice BC mC dC)):=tz.set _ _ _;have eV:Hid (TreW (fun b=>((S b∧b<w.heap.size)∨w.heap.size+1+1+1≤b)∧b≠g10∧b≠g11) (n+1) (((wC.setCell ⟨g11,0,none⟩ (.bool sC)).setCell ⟨g11,1,none⟩ (.slice AC kC cC)).setCell ⟨g11,2,none⟩ (.slice BC mC dC)) (.agg #[.bool s4,.slice A4 k4 c4,.slice B4 m4 d4]) y):=(Vy7.out.bel hy_wC).only (trio_only wC g11 _ _ _) (fun b hb e=>hb.2.2 e) (fun b hb=>hb);have eZ:Hid (TreW (fun b=>((S b∧b<w.heap.size)∨w.heap.size+1+1+1≤b)∧b≠g10∧b≠g11) (n+1) (((wC.setCell ⟨g11,0,none⟩ (.bool sC)).setCell ⟨g11,1,none⟩ (.slice AC kC cC)).setCell ⟨g11,2,none⟩ (.slice BC mC dC)) (.agg #[.bool sC,.slice AC kC cC,.slice BC mC dC]) (mkK fz)):=t_C.only (trio_only wC g11 _ _ _) (fun b hb e=>hb.1.2.2 e) (fun b hb=>hb.1);have eO:Hid (Only (fun b=>b=g10∨b=g11∨wa.heap.size≤b) wa (((wC.setCell ⟨g11,0,none⟩ (.bool sC)).setCell ⟨g11,1,none⟩ (.slice AC kC cC)).setCell ⟨g11,2,none⟩ (.slice BC mC dC))):=(on7.out.trans ((Only.of_below hy_wC).mono fun b hb=> .inr (.inr (by omega)))).trans ((trio_only wC g11 _ _ _).mono fun b hb=> .inr (.inl hb));go_simp;refine hKK.out _ _ ?_;clear hKK KK;refine wpAnyG_done (by kernel_rfl) ?_ _;(go_wp2_with fail);go_roundg (gk - 1)
               case measure=>omega
               case rel=>exact ⟨y,mkK fz,s4,A4,k4,c4,B4,m4,d4,sC,AC,kC,cC,BC,mC,dC,by omega,hIz,eX,eY,eV,eZ,eO⟩
             exact AllReadyG.nil
           exact AllReadyG.nil
         exact AllReadyG.nil
end Go.Proofs.YtehcoffbiplphaaGreat
