/- Contracts: same and small of layer 18's laws (printed by gen/small18.py). -/
import Derived.Test.YtehcoffbiplphaaGreatSTj
import Derived.Test.YtehcoffbiplphaaGreatSTk
import Derived.Deep.RegionHeld3
set_option linter.unusedVariables false
set_option linter.unusedSimpArgs false
set_option maxHeartbeats 16000000
set_option maxRecDepth 100000
namespace Cl
def Cov (ds:List Int) (L:List TV):Prop:=∀t∈L,∀j,nth t.2 j≤nth ds j
def prodD (ds:List Int):Nat→Int
 | 0=>1
 | j+1=>prodD ds j*(nth ds j+1)
theorem prodD_pos {ds:List Int}(h:∀j,0≤nth ds j∧nth ds j≤1000):∀j,1≤prodD ds j
 | 0=>Int.le_refl 1
 | j+1=>by
   have h1:=prodD_pos h j;have h2:=(h j).1;have h3:prodD ds j*1≤prodD ds j*(nth ds j+1):=Int.mul_le_mul_of_nonneg_left (by omega) (by omega);show 1≤prodD ds j*(nth ds j+1);omega
end Cl
namespace Go.Proofs.YtehcoffbiplphaaGreat
open Go.RowKit Cl
attribute [local go_sem ↓] Go.wp_at_zero Go.wp_at_succ
theorem lsame18 (A B:Option Addr) (n c d:Nat) (L:List TV) (w:World) (hx:Trs w A n L) (hy:Trs w B n L) (hn:n≤100000000):
 Calls Tryz.prog 13 #[.slice A n c,.slice B n d] w fun e w'=>e=.returned (.bool true)∧Below w.heap.size w w':=by
 have C:=hiD (same17_true A B n c d L w hx hy hn)
 clear hx hy
 go_enter Tryz.func13,Tryz.ntmps13
 go_wp2_with fail
 refine C.out.mono ?_
 rintro e w1 ⟨rfl,hb⟩
 have Hb:=hiD hb
 clear hb
 go_wp2_with fail
 go_ret
 exact ⟨rfl,Hb.out⟩
def Sml (n most places:Int) (m:Nat) (Ls:Nat→List TV):Prop:=n≤3∧(∀k,k<m→((Ls k).length:Int)≤most∧OkL n (Ls k)∧∀t∈Ls k,t.1.2.length≤1)∧∃ds:List Int,(∀j,0≤nth ds j∧nth ds j≤1000)∧(∀k,k<m→Cov ds (Ls k))∧prodD ds 4≤places
def SmallSaid18 (w:World) (n most places:Int) (m:Nat) (Ls:Nat→List TV) (e:Ending) (w':World):Prop:=
 ∃b:Bool,e=.returned (.bool b)∧Below w.heap.size w w'∧(b=true→Sml n most places m Ls)
theorem small18_no {w w':World} {n most places:Int} {m:Nat} {Ls:Nat→List TV}(h:Below w.heap.size w w'):SmallSaid18 w n most places m Ls (.returned (.bool false)) w':=⟨false,rfl,h,fun h=>by cases h⟩
theorem int_infoS:(Tryz.prog.info? 3).map (fun i=>(i.zero,i.size,i.bytes))=some (some (.int .i64 0),1,8):=by kernel_rfl
theorem make_four (w:World):
 (Instr.makeSlice 42 (.int .i64 4) (.int .i64 4)).run Tryz.prog w=.ok (.slice (some ⟨w.heap.size,0,none⟩) 4 4) (w.alloc (.cells (ints [0,0,0,0]).toArray 3)):=by
 cases hi:(Tryz.prog).info? 3 with
 | none=>have h:=int_infoS;rw [hi] at h;cases h
 | some i=>
   have h:=int_infoS;rw [hi] at h;simp only [Option.map_some,Option.some.injEq,Prod.mk.injEq] at h;exact run_make_ints (P:=Tryz.prog) Tryz.underlying42 hi h.1 h.2.1 h.2.2 4 (by omega) w
theorem mul_wrap {a b c:Int}(h:a*b=c) (h1:0≤c) (h2:c≤1000000000):IntKind.i64.wrap (a*b)=c:=by rw [h,IntWalk.i64_in _ (by omega)]
theorem lsmall18 (n most places:Int) (g m c:Nat) (f:Nat→Option Addr) (ms cs:Nat→Nat) (Ls:Nat→List TV) (w:World) (hm:m≤100) (hpl:places≤1000) (hg:g<w.heap.size)
 (h:∀k,k<m→w.cell? ⟨g,k,none⟩=some (.slice (f k) (ms k) (cs k))∧Trs w (f k) (ms k) (Ls k)∧ms k≤9223372036854775807):
 Calls Tryz.prog 11 #[.int .i64 n,.int .i64 most,.int .i64 places,.slice (some ⟨g,0,none⟩) m c] w (SmallSaid18 w n most places m Ls):=by
 have H:=hiD h
 have hmk:=make_four
 clear h
 go_enter Tryz.func11,Tryz.ntmps11
 by_cases hn3:3<n
 · have hno:Hid (SmallSaid18 w n most places m Ls (.returned (.bool false)) w):=small18_no bRr
   go_wp2_with fail
   go_ret;exact hno.out
 · have hb0:Below w.heap.size w (w.alloc (.cells (ints [0,0,0,0]).toArray 3)):=bRr.alloc lRr _
   have r0:=Row.new w 3 [0,0,0,0];have HB0:=hiD hb0;have R0:=hiD r0;clear hb0 r0;go_wp2_with fail
   generalize hwt:w.alloc (.cells (ints [0,0,0,0]).toArray 3)=wt at*
   clear hwt;have rp:∀j,nth [0,0,0,0] j=0:=fun j=>by
    match j with
    | 0=>rfl
    | 1=>rfl
    | 2=>rfl
    | 3=>rfl
    | j+4=>rfl
   go_loopw [10] (fun v wr=>∃(i:Nat) (ds:List Int),i≤m∧v=.int .i64 i∧Hid (ds.length=4)∧Hid (∀j,0≤nth ds j∧nth ds j≤1000)∧Hid (Row wr w.heap.size 3 ds)∧Hid (Below w.heap.size w wr)∧Hid (∀k,k<i→((Ls k).length:Int)≤most∧OkL n (Ls k)∧(∀t∈Ls k,t.1.2.length≤1)∧Cov ds (Ls k))) (fun v _=>m - (intOf v).toNat)
   case atStart=>exact ⟨0,[0,0,0,0],Nat.zero_le _,rfl,rfl,(fun j=>by rw [rp j];omega),R0.out,HB0.out,fun k hk=>absurd hk (Nat.not_lt_zero k)⟩
   case round=>
    clear R0 HB0;obtain ⟨i,ds,hi,rfl,hdl,hdb,hR,hbl,hdone⟩:=hrel;obtain ⟨wp,rfl⟩:∃wp:World,wp=wr:=⟨_,rfl⟩;by_cases hlt:i<m
    · obtain ⟨q1,q2,q3⟩:=H.out i hlt
      (have hlt':(i:Int)<(m:Int):=by omega);(have hi0:(0:Int)≤(i:Int):=by omega);have HT:=hiD (q2.bel hbl.out);have keepL:Hid (∀W,Below w.heap.size w W→W.cell? ⟨g,i,none⟩=some (.slice (f i) (ms i) (cs i))):=fun W hW=>(hW.cell (p:=⟨g,i,none⟩) hg).trans q1;have HTw:=hiD q2;have cL:=keepL.out _ hbl.out;(have hgw:g<wp.heap.size:=by have:=hbl.out.size;omega);generalize hLe:Ls i=L at*
      generalize f i=A at*
      generalize hme:ms i=nn at*
      generalize cs i=cc at*
      have HLe:=hiD hLe;have HLl:=hiD q2.len;have Cc:=hiD (mcheck n A nn cc L wp HT.out);clear q1 q2 hLe hme;have hno:Hid (SmallSaid18 w n most places m Ls (.returned (.bool false)) wp):=small18_no hbl.out;by_cases hmo:most<(nn:Int)
      · go_wp2_with fail
        go_ret;exact hno.out
      · go_wp2_with fail
        refine Cc.out.mono ?_;rintro e w1 ⟨rfl,hb1⟩;have hbl1:=hiD (hbl.out.tm hb1);have hR1:=hiD (hR.out.bel hb1);clear hb1 Cc hR hbl cL hno HT;by_cases hok:OkL n L
        · have hck:=chkN_ok hok
          have Hok:=hiD hok;rw [hck];clear hck hok;(go_wp2_with fail);go_loopw [11] (fun v wr=>∃(k:Nat) (ds':List Int),k≤nn∧v=.int .i64 k∧Hid (ds'.length=4)∧Hid (∀j,0≤nth ds' j∧nth ds' j≤1000)∧Hid (∀j,nth ds j≤nth ds' j)∧Hid (Row wr w.heap.size 3 ds')∧Hid (Below w.heap.size w wr)∧Hid (∀k' (h:k'<L.length),k'<k→(L[k']).1.2.length≤1∧∀j,nth (L[k']).2 j≤nth ds' j)) (fun v _=>nn - (intOf v).toNat)
          case atStart=>exact ⟨0,ds,Nat.zero_le _,rfl,hdl,hdb,fun j=>Int.le_refl _,hR1.out,hbl1.out,fun k h hk=>absurd hk (Nat.not_lt_zero k)⟩
          case round=>
           clear hR1 hbl1;obtain ⟨k,ds',hk,rfl,hdl',hdb',hds,hR,hbl,hin⟩:=hrel;obtain ⟨wp,rfl⟩:∃wp:World,wp=wr:=⟨_,rfl⟩;have cL:=keepL.out _ hbl.out;(have hgw:g<wp.heap.size:=by have:=hbl.out.size;omega);have hno:Hid (SmallSaid18 w n most places m Ls (.returned (.bool false)) wp):=small18_no hbl.out;by_cases hkn:k<nn
           · have hkl:k<L.length:=by rw [HLl.out];exact hkn
             obtain ⟨b,o,hA,hb,hc⟩:=HTw.out.at_ (by omega);subst hA;obtain ⟨Ai,ci,Ei,ei,e1,e2,e3,e4,e5,e6,e7,e8,e9⟩:=hc k hkl;(have hkn':(k:Int)<(nn:Int):=by omega);(have hk0:(0:Int)≤(k:Int):=by omega);rw [Nat.mul_comm 3 k] at e2 e3;rw [← Nat.add_assoc] at e2 e3;have hokt:=Hok.out.2.2.2 k hkl;have hstep:Hid (∀ds2:List Int,(L[k]).1.2.length≤1→(∀j,nth ds' j≤nth ds2 j)→(∀j,nth (L[k]).2 j≤nth ds2 j)→∀k' (h:k'<L.length),k'<k+1→(L[k']).1.2.length≤1∧∀j,nth (L[k']).2 j≤nth ds2 j):=fun ds2 h1 h2 h3 k' h hk'=>by
              by_cases e:k'=k
              · subst e;exact ⟨h1,h3⟩
              · have h4:=hin.out k' h (by omega)
                exact ⟨h4.1,fun j=>Int.le_trans (h4.2 j) (h2 j)⟩
             clear hc e1 e8;generalize L[k]=x at*
             obtain ⟨⟨s,xs⟩,ps⟩:=x;simp only at e2 e3 e4 e6 e7 e9 hstep hokt;have E9:=hiD e9;have Hokt:=hiD hokt;(have hpl4:ps.length≤3:=by have:=hokt.1;simp only at this;omega);have keepE:Hid (∀W,Below w.heap.size w W→W.cell? ⟨b,o+k*3+1,none⟩=some (.slice Ai xs.length ci)∧W.cell? ⟨b,o+k*3+2,none⟩=some (.slice Ei ps.length ei)):=fun W hW=>⟨(hW.cell (p:=⟨b,o+k*3+1,none⟩) hb).trans e2,(hW.cell (p:=⟨b,o+k*3+2,none⟩) hb).trans e3⟩;obtain ⟨k1,k2⟩:=keepE.out _ hbl.out;(have hbw:b<wp.heap.size:=by have:=hbl.out.size;omega);clear e9 e2 e3 hokt;by_cases hli:(1:Int)<(xs.length:Int)
             · go_wp2_with fail
               go_ret;exact hno.out
             · go_wp2_with fail
               go_loopw [12] (fun v wr=>∃(j:Nat) (ds2:List Int),j≤ps.length∧v=.int .i64 j∧Hid (ds2.length=4)∧Hid (∀j,0≤nth ds2 j∧nth ds2 j≤1000)∧Hid (∀j,nth ds' j≤nth ds2 j)∧Hid (Row wr w.heap.size 3 ds2)∧Hid (Below w.heap.size w wr)∧Hid (∀j',j'<j→nth ps j'≤nth ds2 j')) (fun v _=>ps.length - (intOf v).toNat)
               case atStart=>exact ⟨0,ds',Nat.zero_le _,rfl,hdl',hdb',fun j=>Int.le_refl _,hR.out,hbl.out,fun j hj=>absurd hj (Nat.not_lt_zero j)⟩
               case round=>
                clear hR hbl hno cL k1 k2 hdl' hdb';obtain ⟨j,ds2,hj,rfl,hdl2,hdb2,hds2,hR,hbl,hin2⟩:=hrel;obtain ⟨wp,rfl⟩:∃wp:World,wp=wr:=⟨_,rfl⟩;have cL:=keepL.out _ hbl.out;obtain ⟨k1,k2⟩:=keepE.out _ hbl.out;have hszw:=hbl.out.size;(have hgw:g<wp.heap.size:=by omega);(have hbw:b<wp.heap.size:=by omega);by_cases hjl:j<ps.length
                · obtain ⟨be,oe,hE,hbe,hce⟩:=E9.out.at_ (by omega)
                  subst hE;have hcx:=(hbl.out.cell (p:=⟨be,oe+j,none⟩) hbe).trans (hce j hjl);(have hbew:be<wp.heap.size:=by omega);(have hjl':(j:Int)<(ps.length:Int):=by omega);(have hj0:(0:Int)≤(j:Int):=by omega);(have hj4:(j:Int)<4:=by omega);(have hjd:j<ds2.length:=by rw [hdl2.out];omega);have cR:=hR.out.cell hjd;have fR:=hR.out.frozen j;have lR:=hR.out.lt;have hyb:=Hokt.out.2 j hjl;have hub:=hdb2.out j;have Hset:Hid (∀i,nth (ds2.set j (max (nth ds2 j) (nth ps j))) i=if i=j then max (nth ds2 j) (nth ps j) else nth ds2 i):=fun i=>nth_set hjd _ i;have hR2:=hiD (hR.out.set j (max (nth ds2 j) (nth ps j))).drew;have hbl2:=hiD (hbl.out.setCell (p:=⟨w.heap.size,j,none⟩) lRr (.int .i64 (max (nth ds2 j) (nth ps j)))).drew;(have hdl3:Hid ((ds2.set j (max (nth ds2 j) (nth ps j))).length=4):=by show _=_;rw [List.length_set];exact hdl2.out);have hdb3:Hid (∀i,0≤nth (ds2.set j (max (nth ds2 j) (nth ps j))) i∧nth (ds2.set j (max (nth ds2 j) (nth ps j))) i≤1000):=fun i=>by
                   rw [Hset.out i];have h1:0≤nth ps j∧nth ps j≤1000:=hyb;split
                   · omega
                   · exact hdb2.out i
                  have hds3:Hid (∀i,nth ds' i≤nth (ds2.set j (max (nth ds2 j) (nth ps j))) i):=fun i=>by
                   rw [Hset.out i];have h1:=hds2.out i;split
                   · rename_i e
                     rw [e] at h1 ⊢;omega
                   · exact h1
                  have hin3:Hid (∀j',j'<j+1→nth ps j'≤nth (ds2.set j (max (nth ds2 j) (nth ps j))) j'):=fun j' hj'=>by
                   rw [Hset.out j'];split
                   · rename_i e
                     rw [e];omega
                   · exact hin2.out j' (by omega)
                  clear hce hR hbl hdl2 hdb2 hds2 hin2 Hset;generalize ds2.set j (max (nth ds2 j) (nth ps j))=ds3 at*
                  generalize nth ps j=y at*
                  generalize nth ds2 j=u at*
                  have hS:Hid ((fun W=>W.cell? ⟨g,i,none⟩=some (.slice (some ⟨b,o,none⟩) nn cc)∧W.cell? ⟨b,o+k*3+2,none⟩=some (.slice (some ⟨be,oe,none⟩) ps.length ei)∧W.cell? ⟨be,oe+j,none⟩=some (.int .i64 y)∧W.cell? ⟨w.heap.size,j,none⟩=some (.int .i64 u)) wp):=⟨cL,k2,hcx,cR⟩;(have hmax:max u y≤1000:=by have h1:0≤y∧y≤1000:=hyb;omega);(go_wp2_with fail);refine wp_regionG (S:=fun W=>W.cell? ⟨g,i,none⟩=some (.slice (some ⟨b,o,none⟩) nn cc)∧W.cell? ⟨b,o+k*3+2,none⟩=some (.slice (some ⟨be,oe,none⟩) ps.length ei)∧W.cell? ⟨be,oe+j,none⟩=some (.int .i64 y)∧W.cell? ⟨w.heap.size,j,none⟩=some (.int .i64 u)) (z:=19) (by kernel_rfl) ?_;have hHeld:(fun W=>W.cell? ⟨g,i,none⟩=some (.slice (some ⟨b,o,none⟩) nn cc)∧W.cell? ⟨b,o+k*3+2,none⟩=some (.slice (some ⟨be,oe,none⟩) ps.length ei)∧W.cell? ⟨be,oe+j,none⟩=some (.int .i64 y)∧W.cell? ⟨w.heap.size,j,none⟩=some (.int .i64 u)) wp.drew:=hS.out;(try dsimp only at hHeld);refine tk 19 0 (.slice (some ⟨w.heap.size,0,none⟩) 4 4) rfl hHeld ?_;(try simp only [fx,Act.put]);refine tk 19 1 (.int .i64 (j:Int)) rfl hHeld ?_;(try simp only [fx,Act.put]);refine tk 19 2 (.slice (some ⟨w.heap.size,0,none⟩) 4 4) rfl hHeld ?_;(try simp only [fx,Act.put]);refine tk 19 3 (.int .i64 (j:Int)) rfl hHeld ?_;(try simp only [fx,Act.put]);refine tk 19 4 (.pointer (some ⟨w.heap.size,0+j,none⟩)) rfl hHeld ?_;(try simp only [fx,Act.put]);refine tk 19 5 (.int .i64 u) rfl hHeld ?_;(try simp only [fx,Act.put]);refine tk 19 6 (.slice (some ⟨g,0,none⟩) m c) rfl hHeld ?_;(try simp only [fx,Act.put]);refine tk 19 7 (.int .i64 (i:Int)) rfl hHeld ?_;(try simp only [fx,Act.put]);refine tk 19 8 (.pointer (some ⟨g,0+i,none⟩)) rfl hHeld ?_;(try simp only [fx,Act.put]);refine tk 19 9 (.slice (some ⟨b,o,none⟩) nn cc) rfl hHeld ?_;(try simp only [fx,Act.put]);refine tk 19 10 (.int .i64 (k:Int)) rfl hHeld ?_;(try simp only [fx,Act.put]);refine tk 19 11 (.pointer (some ⟨b,o+k*3,none⟩)) rfl hHeld ?_;(try simp only [fx,Act.put]);refine tk 19 12 (.pointer (some ⟨b,o+k*3+2,none⟩)) rfl hHeld ?_;(try simp only [fx,Act.put]);refine tk 19 13 (.slice (some ⟨be,oe,none⟩) ps.length ei) rfl hHeld ?_;(try simp only [fx,Act.put]);refine tk 19 14 (.int .i64 (j:Int)) rfl hHeld ?_;(try simp only [fx,Act.put]);refine tk 19 15 (.pointer (some ⟨be,oe+j,none⟩)) rfl hHeld ?_;(try simp only [fx,Act.put]);refine tk 19 16 (.int .i64 y) rfl hHeld ?_;(try simp only [fx,Act.put]);refine tk 19 17 (.int .i64 (max u y)) rfl hHeld ?_;(try simp only [fx,Act.put]);refine wpAnyG_ready (rs:=[18]) (by kernel_rfl) (by simp) ?_;refine AllReadyG.cons rfl (by decide) (fun KK hKK=> ?_) AllReadyG.nil;go_simp;refine hKK.out _ _ hHeld (fun hHeld=> ?_);clear hKK KK;(try dsimp only at hHeld);(try simp only [fx,Act.put]);refine wpAnyG_ready (rs:=[19]) (by kernel_rfl) (by simp) ?_;refine AllReadyG.last rfl (fun KK hKK=> ?_);go_simp;refine hKK.out _ _ ?_;clear hKK KK;refine wpAnyG_done (by kernel_rfl) ?_ _;clear hHeld hS cL k1 k2 hcx cR fR lR;(go_wp2_with fail);go_roundw
                  case rel=>exact ⟨j+1,ds3,by omega,by go_num,hdl3,hdb3,hds3,hR2,hbl2,hin3⟩
                  case measure=>simp [intOf];omega
                · obtain rfl:j=ps.length:=by omega
                  (have hjl':¬(ps.length:Int)<(ps.length:Int):=by omega);have hn3:=hiD (hstep.out ds2 (by omega) hds2.out (fun j'=>by
                   by_cases hj':j'<ps.length
                   · exact hin2.out j' hj'
                   · rw [nth_ge (by omega)]
                     exact (hdb2.out j').1))
                  have hds4:Hid (∀j,nth ds j≤nth ds2 j):=fun j=>Int.le_trans (hds.out j) (hds2.out j);(go_wp2_with fail);go_roundw
                  case rel=>exact ⟨k+1,ds2,by omega,by go_num,hdl2,hdb2,hds4,hR,hbl,hn3⟩
                  case measure=>simp [intOf];omega
           · have hkn':¬(k:Int)<(nn:Int):=by omega
             have hn4:Hid (∀k',k'<i+1→((Ls k').length:Int)≤most∧OkL n (Ls k')∧(∀t∈Ls k',t.1.2.length≤1)∧Cov ds' (Ls k')):=fun k' hk'=>by
              by_cases e:k'=i
              · subst e
                rw [HLe.out];refine ⟨by rw [HLl.out];omega,Hok.out,fun t ht=> ?_,fun t ht j=> ?_⟩
                · obtain ⟨a,ha,rfl⟩:=List.mem_iff_getElem.1 ht
                  exact (hin.out a ha (by have:=HLl.out;omega)).1
                · obtain ⟨a,ha,rfl⟩:=List.mem_iff_getElem.1 ht
                  exact (hin.out a ha (by have:=HLl.out;omega)).2 j
              · obtain ⟨d1,d2,d3,d4⟩:=hdone.out k' (by omega)
                exact ⟨d1,d2,d3,fun t ht j=>Int.le_trans (d4 t ht j) (hds.out j)⟩
             (go_wp2_with fail);go_roundw
             case rel=>exact ⟨i+1,ds',by omega,by go_num,hdl',hdb',hR,hbl,hn4⟩
             case measure=>simp [intOf];omega
        · have hck:=chkN_no hok
          have hno:Hid (SmallSaid18 w n most places m Ls (.returned (.bool false)) w1):=small18_no hbl1.out;rw [hck];clear hck;(go_wp2_with fail);go_ret;exact hno.out
    · obtain rfl:i=m:=by omega
      (have hlt':¬(i:Int)<(i:Int):=by omega);(go_wp2_with fail);go_loopw [13,14] (fun a v wr=>∃j:Nat,j≤4∧a=.int .i64 (prodD ds j)∧v=.int .i64 j∧wr=wp∧Hid (j=0∨prodD ds j≤places)) (fun _ v _=>4 - (intOf v).toNat)
      case atStart=>exact ⟨0,Nat.zero_le _,rfl,rfl,rfl,.inl rfl⟩
      case round=>
       obtain ⟨j,hj,rfl,rfl,rfl,hpr⟩:=hrel;by_cases hj4:j<4
       · have hj4':(j:Int)<4:=by omega
         (have hj0:(0:Int)≤(j:Int):=by omega);have cR:=hR.out.cell (i:=j) (by rw [hdl.out];exact hj4);have hub:=hdb.out j;have hpp:=prodD_pos hdb.out j;have hp1:prodD ds j≤1000:=by
          rcases hpr.out with e | e
          · rw [e];show (1:Int)≤1000;omega
          · omega
         have ew1:IntKind.i64.wrap (nth ds j+1)=nth ds j+1:=IntWalk.i64_in _ (by omega);have hlo:0≤prodD ds j*(nth ds j+1):=Int.mul_nonneg (by omega) (by omega);have hhi:prodD ds j*(nth ds j+1)≤1000*1001:=Int.mul_le_mul hp1 (by omega) (by omega) (by omega);have ew2:IntKind.i64.wrap (prodD ds j*(nth ds j+1))=prodD ds (j+1):=mul_wrap rfl hlo (by show prodD ds j*(nth ds j+1)≤_;omega);have hno:Hid (SmallSaid18 w n most places i Ls (.returned (.bool false)) wr):=small18_no hbl.out;by_cases hgt:places<prodD ds (j+1)
         · go_wp2_with fail
           go_ret;exact hno.out
         · have hpr2:Hid (j+1=0∨prodD ds (j+1)≤places):=.inr (by omega)
           (go_wp2_with fail);go_roundw
           case rel=>exact ⟨j+1,by omega,rfl,by go_num,(by first | trivial | rfl),hpr2⟩
           case measure=>simp [intOf];omega
       · obtain rfl:j=4:=by omega
         have F:Hid (SmallSaid18 w n most places i Ls (.returned (.bool true)) wr):=⟨true,rfl,hbl.out,fun _=>⟨by omega,fun k hk=>⟨(hdone.out k hk).1,(hdone.out k hk).2.1,(hdone.out k hk).2.2.1⟩,ds,hdb.out,fun k hk=>(hdone.out k hk).2.2.2,hpr.out.resolve_left (by omega)⟩⟩;(go_wp2_with fail);go_ret;exact F.out
end Go.Proofs.YtehcoffbiplphaaGreat
