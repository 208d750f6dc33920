/- Contracts: integers, the program's: made, the other sign, products, sums.
   Contracts: sums of the program's integers.
   Contracts: sums of the program's integers of two signs.
   Contracts: sums of the program's integers of two signs, the second the greater.
   Contracts: bits.Div64 at a high limb of 0, naturals by 1.
   Contracts: quotients by 1, for the program's naturals and integers; -1.
   Contracts: the program's integers by 1, without a rest.
   Contracts: whether limbs, integers, exponents, terms are the same (the document's).
   Contracts: terms that differ in a coefficient alone.
   Contracts: whether a polynomial of several variables may be (the program's).
   Contracts: polynomials that may not be.
   Contracts: mpoly.all of polynomials that may be. -/
import Derived.Test.YtehcoffbiplphaaGreatSNatA
import Derived.Test.YtehcoffbiplphaaGreatSTrmS
set_option linter.unusedVariables false
set_option linter.unusedSimpArgs false
set_option maxHeartbeats 4000000
set_option maxRecDepth 100000
namespace Cl
theorem intZ_made {xs:List Int}(h:IsLimbs xs) {n:Nat}(hn:xs.length=n) (neg:Bool):ZVal (neg && decide (0<lmN xs n)) (xs.take (lmN xs n)) (intZ neg xs):=by
 obtain ⟨p1,p2⟩:=plainL_take h hn
 have hl:=lmN_le xs n
 have hlen:(xs.take (lmN xs n)).length=lmN xs n:=by rw [List.length_take];omega
 have h0:=p1.nil_iff
 refine ⟨p1,?_,fun e=> ?_⟩
 · unfold intZ
   cases neg with
   | false=>simp only [Bool.false_and,if_false,Bool.false_eq_true];rw [p2]
   | true=>
     by_cases e:0<lmN xs n
     · simp only [Bool.true_and,decide_eq_true e,if_true];rw [p2]
     · simp only [Bool.true_and,decide_eq_false e,if_true,Bool.false_eq_true,if_false]
       have:=h0.2 (by omega);omega
 · rw [hlen]
   cases neg with
   | false=>simp at e
   | true=>simpa using e
theorem intZ_neg (s:Bool) (xs:List Int):intZ (!s) xs= -intZ s xs:=by unfold intZ;cases s<;>simp
theorem intZ_mul {s t:Bool} {xs ys zs:List Int}(h:limbs zs=limbs xs*limbs ys):intZ (s !=t) zs=intZ s xs*intZ t ys:=by
 unfold intZ
 cases s<;>cases t<;>simp [h,Int.neg_mul,Int.mul_neg]
end Cl
namespace Go.Proofs.YtehcoffbiplphaaGreat
open Go.RowKit Cl
attribute [local go_sem ↓] Go.wp_at_zero Go.wp_at_succ
def GivesZ (w:World) (z:Int) (K:Nat) (e:Ending) (w':World):Prop:=
 ∃s A k c ls,e=.returned (.agg #[.bool s,.slice A k c])∧k≤c∧c≤9223372036854775807∧k≤K∧Limbs w' A k ls∧ZVal s ls z∧Below w.heap.size w w'
def GivesZF (w:World) (z:Int) (K:Nat) (e:Ending) (w':World):Prop:=
 ∃s A k c ls,e=.returned (.agg #[.bool s,.slice A k c])∧k≤c∧c≤9223372036854775807∧k≤K∧Limbs w' A k ls∧ZVal s ls z∧(0<k→∀y,A=some y→w.heap.size≤y.block)∧Below w.heap.size w w'
theorem GivesZF.z {w:World} {z:Int} {K:Nat} {e:Ending} {w':World}(h:GivesZF w z K e w'):GivesZ w z K e w':=by
 obtain ⟨s,A,k,c,ls,h1,h2,h3,h4,h5,h6,_,h8⟩:=h
 exact ⟨s,A,k,c,ls,h1,h2,h3,h4,h5,h6,h8⟩
theorem zmadeZF (neg:Bool) (A:Option Addr) (n c:Nat) (xs:List Int) (w:World) (hx:Limbs w A n xs) (hn:n≤c) (hc:c≤9223372036854775807) (hn8:n≤8500000000000):
 Calls Tryz.prog 80 #[.bool neg,.slice A n c] w fun e w'=>∃s A k c ls,e=.returned (.agg #[.bool s,.slice A k c])∧k≤c∧c≤9223372036854775807∧k≤n∧Limbs w' A k ls∧ZVal s ls (intZ neg xs)∧(0<k→∀y,A=some y→w.heap.size≤y.block)∧Below w.heap.size w w':=by
 have hz:=intZ_made hx.ok hx.len neg
 have hl:=lmN_le xs n
 refine (zmade_f neg A n c xs w hx hn hc (by omega)).mono ?_
 rintro e w' ⟨A1,c1,rfl,h1,h2,h3,h4,h5⟩
 exact ⟨_,A1,_,c1,_,rfl,h1,h2,by rw [List.length_take];omega,h3,hz,h5,h4⟩
theorem zmadeZ (neg:Bool) (A:Option Addr) (n c:Nat) (xs:List Int) (w:World) (hx:Limbs w A n xs) (hn:n≤c) (hc:c≤9223372036854775807) (hn8:n≤8500000000000):
 Calls Tryz.prog 80 #[.bool neg,.slice A n c] w (GivesZ w (intZ neg xs) n):=(zmadeZF neg A n c xs w hx hn hc hn8).mono fun _ _ h=>GivesZF.z h
theorem znegF (s:Bool) (A:Option Addr) (n c:Nat) (xs:List Int) (w:World) (hx:Limbs w A n xs) (hn:n≤c) (hc:c≤9223372036854775807) (hn8:n≤8500000000000):
 Calls Tryz.prog 45 #[.agg #[.bool s,.slice A n c]] w (GivesZF w (-intZ s xs) n):=by
 have Cn:=hiD (fun W (h:Below w.heap.size w W)=>zmadeZF (!s) A n c xs W (hx.bel h) hn hc hn8)
 rw [intZ_neg] at Cn
 have hd0:=(Duo.new w (.bool s) (.slice A n c)).bel (bRr.alloc lRr (.cells #[.bool false,.slice none 0 0] 41))
 have hd:=Duo.new (w.alloc (.cells #[.bool s,.slice A n c] 41)) (.bool false) (.slice none 0 0)
 rw [World.size_alloc] at hd
 have c0:=hd0.cell0
 have c1:=hd0.cell1
 have Hd:=hiD hd
 clear hd hd0 hx
 go_enter Tryz.func45,Tryz.ntmps45
 go_wp2_with fail
 refine (Cn.out _ (by exact (bRr.alloc lRr _).alloc (by simp) _)).mono ?_
 rintro e w1 ⟨s1,A1,k1,c1',ls,rfl,h1,h2,h3,h4,h5,h7,h6⟩
 have hd1:=Hd.out.bel h6
 have k0:=hd1.cell0
 have k1':=hd1.cell1
 have f0:=hd1.frozen 0
 have f1:=hd1.frozen 1
 have hb:Below w.heap.size w w1:=(((Below.refl _ w).alloc lRr _).alloc (by simp) _).trans (h6.mono (by simp;omega))
 have Hd1:=hiD hd1
 have H7:Hid (0<k1→∀y,A1=some y→w.heap.size≤y.block):=fun h0 y hy=>Nat.le_trans (by simp;omega) (h7 h0 y hy)
 have H5:=hiD h5
 clear hd1 h6 h5 h7
 go_wp2
 exact bodyPost_ret (results_cell_row (fn:=Tryz.f45) rfl _ _ _ _ _ _ _ rfl (Hd1.out.set _ _) Tryz.underlying41 rfl aint_size) rfl
  ⟨s1,A1,k1,c1',ls,rfl,h1,h2,h3,Hd1.out.limbs _ _ rfl rfl h4,H5.out,H7.out,(hb.setCell (p:=⟨w.heap.size+1,0,none⟩) (by simp) _).setCell (p:=⟨w.heap.size+1,1,none⟩) (by simp) _⟩
theorem zneg (s:Bool) (A:Option Addr) (n c:Nat) (xs:List Int) (w:World) (hx:Limbs w A n xs) (hn:n≤c) (hc:c≤9223372036854775807) (hn8:n≤8500000000000):
 Calls Tryz.prog 45 #[.agg #[.bool s,.slice A n c]] w (GivesZ w (-intZ s xs) n):=(znegF s A n c xs w hx hn hc hn8).mono fun _ _ h=>h.z
theorem zmulF (s t:Bool) (A B:Option Addr) (n m c d:Nat) (xs ys:List Int) (w:World) (hx:Limbs w A n xs) (hy:Limbs w B m ys) (hnc:n≤c) (hc:c≤9223372036854775807) (hmd:m≤d) (hd:d≤9223372036854775807) (hn:n≤4000000000000) (hm:m≤4000000000000):
 Calls Tryz.prog 76 #[.agg #[.bool s,.slice A n c],.agg #[.bool t,.slice B m d]] w (GivesZF w (intZ s xs*intZ t ys) (n+m+1)):=by
 have Cm:=hiD (fun W (h:Below w.heap.size w W)=>nat_mul_any _ A B n m c d xs ys W (Nat.lt_succ_self _) (hx.bel h) (hy.bel h) hnc hc hmd hd hn hm)
 have Cz:=hiD (fun (neg:Bool) A' n' c' zs W h h1 h2 h3=>zmadeZF neg A' n' c' zs W h h1 h2 h3)
 have b1:Below w.heap.size w (w.alloc (.cells #[.bool s,.slice A n c] 41)):=bRr.alloc lRr _
 have b2:Below w.heap.size w ((w.alloc (.cells #[.bool s,.slice A n c] 41)).alloc (.cells #[.bool t,.slice B m d] 41)):=b1.alloc (by simp) _
 have da:=((Duo.new w (.bool s) (.slice A n c)).bel (bRr.alloc lRr (.cells #[.bool t,.slice B m d] 41))).bel (bRr.alloc lRr (.cells #[.bool false,.slice none 0 0] 41))
 have db:=(Duo.new (w.alloc (.cells #[.bool s,.slice A n c] 41)) (.bool t) (.slice B m d)).bel (bRr.alloc lRr (.cells #[.bool false,.slice none 0 0] 41))
 have dr:=Duo.new ((w.alloc (.cells #[.bool s,.slice A n c] 41)).alloc (.cells #[.bool t,.slice B m d] 41)) (.bool false) (.slice none 0 0)
 rw [World.size_alloc] at db
 rw [World.size_alloc,World.size_alloc] at dr
 have b3:Below w.heap.size w (((w.alloc (.cells #[.bool s,.slice A n c] 41)).alloc (.cells #[.bool t,.slice B m d] 41)).alloc (.cells #[.bool false,.slice none 0 0] 41)):=b2.alloc (by simp;omega) _
 go_enter Tryz.func76,Tryz.ntmps76
 go_wp2_with fail
 have Da:=hiD da
 have Db:=hiD db
 have Dr:=hiD dr
 have hsz:(((w.alloc (.cells #[.bool s,.slice A n c] 41)).alloc (.cells #[.bool t,.slice B m d] 41)).alloc (.cells #[.bool false,.slice none 0 0] 41)).heap.size=w.heap.size+1+1+1:=by simp
 clear da db dr b1 b2 hx hy
 generalize ((w.alloc (.cells #[.bool s,.slice A n c] 41)).alloc (.cells #[.bool t,.slice B m d] 41)).alloc (.cells #[.bool false,.slice none 0 0] 41)=wt at*
 have a0:=Da.out.cell0
 have a1:=Da.out.cell1
 have e0:=Db.out.cell0
 have e1:=Db.out.cell1
 have r0:=Dr.out.cell0
 have r1:=Dr.out.cell1
 have f0:=Dr.out.frozen 0
 have f1:=Dr.out.frozen 1
 have la:w.heap.size<wt.heap.size:=by omega
 have lb:w.heap.size+1<wt.heap.size:=by omega
 have lr:w.heap.size+1+1<wt.heap.size:=by omega
 have keep:Hid (∀W,Below wt.heap.size wt W→W.cell? ⟨w.heap.size,0,none⟩=some (.bool s)∧W.cell? ⟨w.heap.size,1,none⟩=some (.slice A n c)∧W.cell? ⟨w.heap.size+1,0,none⟩=some (.bool t)∧W.cell? ⟨w.heap.size+1,1,none⟩=some (.slice B m d)):=fun W hW=>
  ⟨(hW.cell (p:=⟨w.heap.size,0,none⟩) la).trans a0,(hW.cell (p:=⟨w.heap.size,1,none⟩) la).trans a1,(hW.cell (p:=⟨w.heap.size+1,0,none⟩) lb).trans e0,(hW.cell (p:=⟨w.heap.size+1,1,none⟩) lb).trans e1⟩
 have res:Hid (∀W,Below wt.heap.size wt W→W.cell? ⟨w.heap.size+1+1,0,none⟩=some (.bool false)∧W.cell? ⟨w.heap.size+1+1,1,none⟩=some (.slice none 0 0)∧W.frozen? ⟨w.heap.size+1+1,0,none⟩=false∧W.frozen? ⟨w.heap.size+1+1,1,none⟩=false):=fun W hW=>
  ⟨(hW.cell (p:=⟨w.heap.size+1+1,0,none⟩) lr).trans r0,(hW.cell (p:=⟨w.heap.size+1+1,1,none⟩) lr).trans r1,(Dr.out.bel hW).frozen 0,(Dr.out.bel hW).frozen 1⟩
 clear r0 r1 f0 f1
 have ne1:w.heap.size+1+1≠w.heap.size:=by omega
 have ne2:w.heap.size+1+1≠w.heap.size+1:=by omega
 have le1:w.heap.size≤w.heap.size+1+1:=by omega
 have lr':w.heap.size≤wt.heap.size:=by omega
 clear hsz
 generalize w.heap.size+1+1=gr at*
 generalize w.heap.size+1=gb at*
 have keep3:∀(W:World) (u v:Value),(W.cell? ⟨w.heap.size,0,none⟩=some (.bool s)∧W.cell? ⟨w.heap.size,1,none⟩=some (.slice A n c)∧W.cell? ⟨gb,0,none⟩=some (.bool t)∧W.cell? ⟨gb,1,none⟩=some (.slice B m d))→(((W.setCell ⟨gr,0,none⟩ u).setCell ⟨gr,1,none⟩ v).cell? ⟨w.heap.size,0,none⟩=some (.bool s)∧((W.setCell ⟨gr,0,none⟩ u).setCell ⟨gr,1,none⟩ v).cell? ⟨w.heap.size,1,none⟩=some (.slice A n c)∧((W.setCell ⟨gr,0,none⟩ u).setCell ⟨gr,1,none⟩ v).cell? ⟨gb,0,none⟩=some (.bool t)∧((W.setCell ⟨gr,0,none⟩ u).setCell ⟨gr,1,none⟩ v).cell? ⟨gb,1,none⟩=some (.slice B m d)):=by
  rintro W u v ⟨k1,k2,k3,k4⟩;refine ⟨?_,?_,?_,?_⟩;all_goals
   rw [World.cell?_setCell_other _ _ _ _ (fun e=>by injection e with e1;first | exact ne1 e1.symm | exact ne2 e1.symm | exact ne1 e1 | exact ne2 e1),World.cell?_setCell_other _ _ _ _ (fun e=>by injection e with e1;first | exact ne1 e1.symm | exact ne2 e1.symm | exact ne1 e1 | exact ne2 e1)];assumption
 go_region_held3 (fun W=>W.cell? ⟨w.heap.size,0,none⟩=some (.bool s)∧W.cell? ⟨w.heap.size,1,none⟩=some (.slice A n c)∧W.cell? ⟨gb,0,none⟩=some (.bool t)∧W.cell? ⟨gb,1,none⟩=some (.slice B m d))
  (first | go_keep | exact keep.out _ bRr.drew | exact keep.out _ hbw1 | exact keep.out _ hbw2 | exact keep3 _ _ _ (keep.out _ hbw2))
  (first
    | (go_at_call 106;refine (Cm.out _ (by first | exact b3.drew | exact b3 | exact below_drewN b3 _)).mono ?_;rintro e w1 ⟨zs,g1,g2,g3,A1,k1,c1,rfl,g4,g5,g6,g7,hbw1'⟩;have hbw1:Below wt.heap.size wt w1:=bRr.drew.trans hbw1')
    | (go_at_call 80;refine (Cz.out (s !=t) A1 k1 c1 zs w1 g6 g4 g5 (by have:=g6.len;omega)).mono ?_;rintro e w2 ⟨s2,A2,k2,c2,ls,rfl,q1,q2,q3,q4,q5,qf,hbw2'⟩;have hbw2:Below wt.heap.size wt w2:=hbw1.tm hbw2';obtain ⟨r0,r1,f0,f1⟩:=res.out w2 hbw2))
 have Dr2:=Dr.out.bel hbw2
 have hb2:Below w.heap.size w w2:=b3.trans (hbw2.mono (by omega))
 have hz:ZVal s2 ls (intZ s xs*intZ t ys):=by rw [← intZ_mul g2];exact q5
 have HF:Hid (0<k2→∀y,A2=some y→w.heap.size≤y.block):=fun h0 y hy=>Nat.le_trans (Nat.le_trans lr' hbw1.size) (qf h0 y hy)
 have hk2:k2≤n+m+1:=by have:=g6.len;omega
 have Hz:=hiD hz
 have HD:=hiD Dr2
 have Hq4:=hiD q4
 clear hz Dr2 q4 q5 g6 keep qf
 go_wp2
 exact bodyPost_ret (results_cell_row (fn:=Tryz.f76) rfl _ _ _ _ _ _ _ rfl (HD.out.set _ _) Tryz.underlying41 rfl aint_size) rfl
  ⟨s2,A2,k2,c2,ls,rfl,q1,q2,hk2,HD.out.limbs _ _ rfl rfl Hq4.out,Hz.out,HF.out,(hb2.setCell (p:=⟨gr,0,none⟩) le1 _).setCell (p:=⟨gr,1,none⟩) le1 _⟩
theorem zmul (s t:Bool) (A B:Option Addr) (n m c d:Nat) (xs ys:List Int) (w:World) (hx:Limbs w A n xs) (hy:Limbs w B m ys) (hnc:n≤c) (hc:c≤9223372036854775807) (hmd:m≤d) (hd:d≤9223372036854775807) (hn:n≤4000000000000) (hm:m≤4000000000000):
 Calls Tryz.prog 76 #[.agg #[.bool s,.slice A n c],.agg #[.bool t,.slice B m d]] w (GivesZ w (intZ s xs*intZ t ys) (n+m+1)):=(zmulF s t A B n m c d xs ys w hx hy hnc hc hmd hd hn hm).mono fun _ _ h=>h.z
end Go.Proofs.YtehcoffbiplphaaGreat
namespace Cl
theorem intZ_add_same {s t:Bool} {xs ys zs:List Int}(hst:(s==t)=true) (h:limbs zs=limbs xs+limbs ys):intZ s zs=intZ s xs+intZ t ys:=by
 have:s=t:=by simpa using hst
 subst this
 unfold intZ
 cases s<;>simp [h]<;>omega
end Cl
namespace Go.Proofs.YtehcoffbiplphaaGreat
open Go.RowKit Cl
attribute [local go_sem ↓] Go.wp_at_zero Go.wp_at_succ
theorem zadd_sameF (s t:Bool) (hst:(s==t)=true) (A B:Option Addr) (n m c d:Nat) (xs ys:List Int) (w:World) (hx:Limbs w A n xs) (hy:Limbs w B m ys) (_hnc:n≤c) (_hc:c≤9223372036854775807) (_hmd:m≤d) (_hd:d≤9223372036854775807) (hn:n≤4000000000000) (hm:m≤4000000000000):
 Calls Tryz.prog 56 #[.agg #[.bool s,.slice A n c],.agg #[.bool t,.slice B m d]] w (GivesZF w (intZ s xs+intZ t ys) (max n m+1)):=by
 have Cm:=hiD (fun W (h:Below w.heap.size w W)=>nat_add A B n m c d xs ys W (hx.bel h) (hy.bel h) (by omega) (by omega))
 have hadd:=hiD (addL_spec hx.ok hy.ok)
 have hxl:=hx.len
 have hyl:=hy.len
 have Cz:=hiD (fun (neg:Bool) A' n' c' zs W h h1 h2 h3=>zmadeZF neg A' n' c' zs W h h1 h2 h3)
 have b1:Below w.heap.size w (w.alloc (.cells #[.bool s,.slice A n c] 41)):=bRr.alloc lRr _
 have b2:Below w.heap.size w ((w.alloc (.cells #[.bool s,.slice A n c] 41)).alloc (.cells #[.bool t,.slice B m d] 41)):=b1.alloc (by simp) _
 have da:=((Duo.new w (.bool s) (.slice A n c)).bel (bRr.alloc lRr (.cells #[.bool t,.slice B m d] 41))).bel (bRr.alloc lRr (.cells #[.bool false,.slice none 0 0] 41))
 have db:=(Duo.new (w.alloc (.cells #[.bool s,.slice A n c] 41)) (.bool t) (.slice B m d)).bel (bRr.alloc lRr (.cells #[.bool false,.slice none 0 0] 41))
 have dr:=Duo.new ((w.alloc (.cells #[.bool s,.slice A n c] 41)).alloc (.cells #[.bool t,.slice B m d] 41)) (.bool false) (.slice none 0 0)
 rw [World.size_alloc] at db
 rw [World.size_alloc,World.size_alloc] at dr
 have b3:Below w.heap.size w (((w.alloc (.cells #[.bool s,.slice A n c] 41)).alloc (.cells #[.bool t,.slice B m d] 41)).alloc (.cells #[.bool false,.slice none 0 0] 41)):=b2.alloc (by simp;omega) _
 go_enter Tryz.func56,Tryz.ntmps56
 go_wp2_with fail
 have Da:=hiD da
 have Db:=hiD db
 have Dr:=hiD dr
 have hsz:(((w.alloc (.cells #[.bool s,.slice A n c] 41)).alloc (.cells #[.bool t,.slice B m d] 41)).alloc (.cells #[.bool false,.slice none 0 0] 41)).heap.size=w.heap.size+1+1+1:=by simp
 clear da db dr b1 b2 hx hy
 generalize ((w.alloc (.cells #[.bool s,.slice A n c] 41)).alloc (.cells #[.bool t,.slice B m d] 41)).alloc (.cells #[.bool false,.slice none 0 0] 41)=wt at*
 have a0:=Da.out.cell0
 have a1:=Da.out.cell1
 have e0:=Db.out.cell0
 have e1:=Db.out.cell1
 have r0:=Dr.out.cell0
 have r1:=Dr.out.cell1
 have f0:=Dr.out.frozen 0
 have f1:=Dr.out.frozen 1
 have la:w.heap.size<wt.heap.size:=by omega
 have lb:w.heap.size+1<wt.heap.size:=by omega
 have lr:w.heap.size+1+1<wt.heap.size:=by omega
 have keep:Hid (∀W,Below wt.heap.size wt W→W.cell? ⟨w.heap.size,0,none⟩=some (.bool s)∧W.cell? ⟨w.heap.size,1,none⟩=some (.slice A n c)∧W.cell? ⟨w.heap.size+1,0,none⟩=some (.bool t)∧W.cell? ⟨w.heap.size+1,1,none⟩=some (.slice B m d)):=fun W hW=>
  ⟨(hW.cell (p:=⟨w.heap.size,0,none⟩) la).trans a0,(hW.cell (p:=⟨w.heap.size,1,none⟩) la).trans a1,(hW.cell (p:=⟨w.heap.size+1,0,none⟩) lb).trans e0,(hW.cell (p:=⟨w.heap.size+1,1,none⟩) lb).trans e1⟩
 have res:Hid (∀W,Below wt.heap.size wt W→W.cell? ⟨w.heap.size+1+1,0,none⟩=some (.bool false)∧W.cell? ⟨w.heap.size+1+1,1,none⟩=some (.slice none 0 0)∧W.frozen? ⟨w.heap.size+1+1,0,none⟩=false∧W.frozen? ⟨w.heap.size+1+1,1,none⟩=false):=fun W hW=>
  ⟨(hW.cell (p:=⟨w.heap.size+1+1,0,none⟩) lr).trans r0,(hW.cell (p:=⟨w.heap.size+1+1,1,none⟩) lr).trans r1,(Dr.out.bel hW).frozen 0,(Dr.out.bel hW).frozen 1⟩
 clear r0 r1 f0 f1
 have ne1:w.heap.size+1+1≠w.heap.size:=by omega
 have ne2:w.heap.size+1+1≠w.heap.size+1:=by omega
 have le1:w.heap.size≤w.heap.size+1+1:=by omega
 have lr':w.heap.size≤wt.heap.size:=by omega
 clear hsz
 generalize w.heap.size+1+1=gr at*
 generalize w.heap.size+1=gb at*
 have keep3:∀(W:World) (u v:Value),(W.cell? ⟨w.heap.size,0,none⟩=some (.bool s)∧W.cell? ⟨w.heap.size,1,none⟩=some (.slice A n c)∧W.cell? ⟨gb,0,none⟩=some (.bool t)∧W.cell? ⟨gb,1,none⟩=some (.slice B m d))→(((W.setCell ⟨gr,0,none⟩ u).setCell ⟨gr,1,none⟩ v).cell? ⟨w.heap.size,0,none⟩=some (.bool s)∧((W.setCell ⟨gr,0,none⟩ u).setCell ⟨gr,1,none⟩ v).cell? ⟨w.heap.size,1,none⟩=some (.slice A n c)∧((W.setCell ⟨gr,0,none⟩ u).setCell ⟨gr,1,none⟩ v).cell? ⟨gb,0,none⟩=some (.bool t)∧((W.setCell ⟨gr,0,none⟩ u).setCell ⟨gr,1,none⟩ v).cell? ⟨gb,1,none⟩=some (.slice B m d)):=by
  rintro W u v ⟨k1,k2,k3,k4⟩;refine ⟨?_,?_,?_,?_⟩;all_goals
   rw [World.cell?_setCell_other _ _ _ _ (fun e=>by injection e with e1;first | exact ne1 e1.symm | exact ne2 e1.symm | exact ne1 e1 | exact ne2 e1),World.cell?_setCell_other _ _ _ _ (fun e=>by injection e with e1;first | exact ne1 e1.symm | exact ne2 e1.symm | exact ne1 e1 | exact ne2 e1)];assumption
 go_region_held3 (fun W=>W.cell? ⟨w.heap.size,0,none⟩=some (.bool s)∧W.cell? ⟨w.heap.size,1,none⟩=some (.slice A n c)∧W.cell? ⟨gb,0,none⟩=some (.bool t)∧W.cell? ⟨gb,1,none⟩=some (.slice B m d))
  (first | go_keep | exact keep.out _ bRr.drew | exact keep.out _ hbw1 | exact keep.out _ hbw2 | exact keep3 _ _ _ (keep.out _ hbw2))
  (first
    | (go_at_call 87;refine (Cm.out _ (by first | exact b3.drew | exact b3 | exact below_drewN b3 _)).mono ?_;rintro e w1 ⟨A1,k1,c1,rfl,g4,g5,g6,g7,hbw1'⟩;have hbw1:Below wt.heap.size wt w1:=bRr.drew.trans hbw1')
    | (go_at_call 80;refine (Cz.out s A1 k1 c1 (addL xs ys) w1 g6 g4 g5 (by have:=g6.len;have:=hadd.out.2.2;omega)).mono ?_;rintro e w2 ⟨s2,A2,k2,c2,ls,rfl,q1,q2,q3,q4,q5,qf,hbw2'⟩;have hbw2:Below wt.heap.size wt w2:=hbw1.tm hbw2';obtain ⟨r0,r1,f0,f1⟩:=res.out w2 hbw2))
 have Dr2:=Dr.out.bel hbw2
 have hb2:Below w.heap.size w w2:=b3.trans (hbw2.mono (by omega))
 have hz:ZVal s2 ls (intZ s xs+intZ t ys):=by rw [← intZ_add_same hst hadd.out.2.1];exact q5
 have HF:Hid (0<k2→∀y,A2=some y→w.heap.size≤y.block):=fun h0 y hy=>Nat.le_trans (Nat.le_trans lr' hbw1.size) (qf h0 y hy)
 have hk2:k2≤max n m+1:=by have:=g6.len;have:=hadd.out.2.2;omega
 have Hz:=hiD hz
 have HD:=hiD Dr2
 have Hq4:=hiD q4
 clear hz Dr2 q4 q5 g6 keep qf
 go_wp2
 exact bodyPost_ret (results_cell_row (fn:=Tryz.f56) rfl _ _ _ _ _ _ _ rfl (HD.out.set _ _) Tryz.underlying41 rfl aint_size) rfl
  ⟨s2,A2,k2,c2,ls,rfl,q1,q2,hk2,HD.out.limbs _ _ rfl rfl Hq4.out,Hz.out,HF.out,(hb2.setCell (p:=⟨gr,0,none⟩) le1 _).setCell (p:=⟨gr,1,none⟩) le1 _⟩
end Go.Proofs.YtehcoffbiplphaaGreat
namespace Cl
theorem intZ_add_diff {s t:Bool} {xs ys zs:List Int}(hst:(s==t)=false) (h:limbs zs=limbs xs - limbs ys) (hle:limbs ys≤limbs xs):intZ s zs=intZ s xs+intZ t ys:=by
 unfold intZ
 cases s<;>cases t<;>simp_all<;>omega
theorem cmpN_ge {a b:Nat}(h:b≤a):¬cmpN a b<0:=by unfold cmpN;rw [if_neg (by omega)];split<;>omega
end Cl
namespace Go.Proofs.YtehcoffbiplphaaGreat
open Go.RowKit Cl
attribute [local go_sem ↓] Go.wp_at_zero Go.wp_at_succ
theorem zadd_diffF (s t:Bool) (hst:(s==t)=false) (A B:Option Addr) (n m c d:Nat) (xs ys:List Int) (w:World) (hx:Limbs w A n xs) (hy:Limbs w B m ys) (hnc:n≤c) (hc:c≤9223372036854775807) (hmd:m≤d) (hd:d≤9223372036854775807) (hn:n≤4000000000000) (hm:m≤4000000000000) (hle:limbs ys≤limbs xs):
 Calls Tryz.prog 56 #[.agg #[.bool s,.slice A n c],.agg #[.bool t,.slice B m d]] w (GivesZF w (intZ s xs+intZ t ys) (max n m+1)):=by
 have Cc:=hiD (fun W (h:Below w.heap.size w W)=>nat_cmp A B n m c d xs ys W (hx.bel h) (hy.bel h) hnc hc hmd hd hn hm)
 have Cs:=hiD (fun W (h:Limbs W A n xs) (h':Limbs W B m ys)=>nat_sub A B n m c d xs ys W h h' (by omega) (by omega) hle)
 have hsub:=hiD (subL_spec hx.ok hy.ok hle)
 have hcmp:¬cmpN (limbs xs) (limbs ys)<0:=cmpN_ge hle
 have hxl:=hx.len
 have hyl:=hy.len
 have Cz:=hiD (fun (neg:Bool) A' n' c' zs W h h1 h2 h3=>zmadeZF neg A' n' c' zs W h h1 h2 h3)
 have b1:Below w.heap.size w (w.alloc (.cells #[.bool s,.slice A n c] 41)):=bRr.alloc lRr _
 have b2:Below w.heap.size w ((w.alloc (.cells #[.bool s,.slice A n c] 41)).alloc (.cells #[.bool t,.slice B m d] 41)):=b1.alloc (by simp) _
 have da:=((Duo.new w (.bool s) (.slice A n c)).bel (bRr.alloc lRr (.cells #[.bool t,.slice B m d] 41))).bel (bRr.alloc lRr (.cells #[.bool false,.slice none 0 0] 41))
 have db:=(Duo.new (w.alloc (.cells #[.bool s,.slice A n c] 41)) (.bool t) (.slice B m d)).bel (bRr.alloc lRr (.cells #[.bool false,.slice none 0 0] 41))
 have dr:=Duo.new ((w.alloc (.cells #[.bool s,.slice A n c] 41)).alloc (.cells #[.bool t,.slice B m d] 41)) (.bool false) (.slice none 0 0)
 rw [World.size_alloc] at db
 rw [World.size_alloc,World.size_alloc] at dr
 have b3:Below w.heap.size w (((w.alloc (.cells #[.bool s,.slice A n c] 41)).alloc (.cells #[.bool t,.slice B m d] 41)).alloc (.cells #[.bool false,.slice none 0 0] 41)):=b2.alloc (by simp;omega) _
 go_enter Tryz.func56,Tryz.ntmps56
 go_wp2_with fail
 have Da:=hiD da
 have Db:=hiD db
 have Dr:=hiD dr
 have hsz:(((w.alloc (.cells #[.bool s,.slice A n c] 41)).alloc (.cells #[.bool t,.slice B m d] 41)).alloc (.cells #[.bool false,.slice none 0 0] 41)).heap.size=w.heap.size+1+1+1:=by simp
 have Hx:=hiD hx
 have Hy:=hiD hy
 clear da db dr b1 b2 hx hy
 generalize ((w.alloc (.cells #[.bool s,.slice A n c] 41)).alloc (.cells #[.bool t,.slice B m d] 41)).alloc (.cells #[.bool false,.slice none 0 0] 41)=wt at*
 have a0:=Da.out.cell0
 have a1:=Da.out.cell1
 have e0:=Db.out.cell0
 have e1:=Db.out.cell1
 have r0:=Dr.out.cell0
 have r1:=Dr.out.cell1
 have f0:=Dr.out.frozen 0
 have f1:=Dr.out.frozen 1
 have la:w.heap.size<wt.heap.size:=by omega
 have lb:w.heap.size+1<wt.heap.size:=by omega
 have lr:w.heap.size+1+1<wt.heap.size:=by omega
 have keep:Hid (∀W,Below wt.heap.size wt W→W.cell? ⟨w.heap.size,0,none⟩=some (.bool s)∧W.cell? ⟨w.heap.size,1,none⟩=some (.slice A n c)∧W.cell? ⟨w.heap.size+1,0,none⟩=some (.bool t)∧W.cell? ⟨w.heap.size+1,1,none⟩=some (.slice B m d)):=fun W hW=>
  ⟨(hW.cell (p:=⟨w.heap.size,0,none⟩) la).trans a0,(hW.cell (p:=⟨w.heap.size,1,none⟩) la).trans a1,(hW.cell (p:=⟨w.heap.size+1,0,none⟩) lb).trans e0,(hW.cell (p:=⟨w.heap.size+1,1,none⟩) lb).trans e1⟩
 have ne1:w.heap.size+1+1≠w.heap.size:=by omega
 have ne2:w.heap.size+1+1≠w.heap.size+1:=by omega
 have le1:w.heap.size≤w.heap.size+1+1:=by omega
 have res:Hid (∀W,Below wt.heap.size wt W→W.cell? ⟨w.heap.size+1+1,0,none⟩=some (.bool false)∧W.cell? ⟨w.heap.size+1+1,1,none⟩=some (.slice none 0 0)∧W.frozen? ⟨w.heap.size+1+1,0,none⟩=false∧W.frozen? ⟨w.heap.size+1+1,1,none⟩=false):=fun W hW=>
  ⟨(hW.cell (p:=⟨w.heap.size+1+1,0,none⟩) lr).trans r0,(hW.cell (p:=⟨w.heap.size+1+1,1,none⟩) lr).trans r1,(Dr.out.bel hW).frozen 0,(Dr.out.bel hW).frozen 1⟩
 clear r0 r1 f0 f1 hsz
 go_wp2_with fail
 refine (Cc.out _ (by exact b3)).mono ?_
 rintro e w1 ⟨rfl,j1,hj1⟩
 have hbw1:Below wt.heap.size wt w1:=by subst hj1;exact below_drewN bRr _
 clear hj1
 obtain ⟨q1,q2,q3,q4⟩:=keep.out w1 hbw1
 clear a0 a1 e0 e1
 go_wp2_with fail
 refine (Cs.out _ (by exact Hx.out.bel (b3.trans (hbw1.mono (by omega)))) (by exact Hy.out.bel (b3.trans (hbw1.mono (by omega))))).mono ?_
 rintro e w2 ⟨A1,k1,c1,rfl,g4,g5,g6,g7,hbw2'⟩
 have hbw2:Below wt.heap.size wt w2:=hbw1.tm hbw2'
 obtain ⟨v1,v2,v3,v4⟩:=keep.out w2 hbw2
 clear q1 q2 q3 q4
 have hk1:=g6.len
 go_wp2_with fail
 refine (Cz.out s A1 k1 c1 (subL xs ys) w2 g6 g4 g5 (by have:=hsub.out.2.2.2;omega)).mono ?_
 rintro e w3 ⟨s2,A2,k2,c2,ls,rfl,m1,m2,m3,m4,m5,qf,hbw3'⟩
 have hbw3:Below wt.heap.size wt w3:=hbw2.tm hbw3'
 obtain ⟨r0,r1,f0,f1⟩:=res.out w3 hbw3
 have Dr2:=Dr.out.bel hbw3
 have hb2:Below w.heap.size w w3:=b3.trans (hbw3.mono (by omega))
 have hz:ZVal s2 ls (intZ s xs+intZ t ys):=by rw [← intZ_add_diff hst (hsub.out.2.2.1) hle];exact m5
 have HF:Hid (0<k2→∀y,A2=some y→w.heap.size≤y.block):=fun h0 y hy=>Nat.le_trans (Nat.le_trans (Nat.le_of_lt la) hbw2.size) (qf h0 y hy)
 have hk2:k2≤max n m+1:=by have:=hsub.out.2.2.2;omega
 have Hz:=hiD hz
 have HD:=hiD Dr2
 have Hq4:=hiD m4
 clear hz Dr2 m4 m5 g6 keep qf
 go_wp2
 exact bodyPost_ret (results_cell_row (fn:=Tryz.f56) rfl _ _ _ _ _ _ _ rfl (HD.out.set _ _) Tryz.underlying41 rfl aint_size) rfl
  ⟨s2,A2,k2,c2,ls,rfl,m1,m2,hk2,HD.out.limbs _ _ rfl rfl Hq4.out,Hz.out,HF.out,(hb2.setCell (p:=⟨w.heap.size+1+1,0,none⟩) le1 _).setCell (p:=⟨w.heap.size+1+1,1,none⟩) le1 _⟩
end Go.Proofs.YtehcoffbiplphaaGreat
namespace Go.Proofs.YtehcoffbiplphaaGreat
open Go.RowKit Cl
attribute [local go_sem ↓] Go.wp_at_zero Go.wp_at_succ
theorem Duo.other {w:World} {g:Nat} {u v:Value}(h:Duo w g u v) (p:Addr) (hp:p.block≠g) (a:Value):Duo (w.setCell p a) g u v:=by
 unfold Duo at h ⊢
 simp [World.setCell,Array.getElem?_modify,h,hp]
theorem zadd_swapF (s t:Bool) (hst:(s==t)=false) (A B:Option Addr) (n m c d:Nat) (xs ys:List Int) (w:World) (hx:Limbs w A n xs) (hy:Limbs w B m ys) (hnc:n≤c) (hc:c≤9223372036854775807) (hmd:m≤d) (hd:d≤9223372036854775807) (hn:n≤4000000000000) (hm:m≤4000000000000) (hlt:limbs xs<limbs ys):
 Calls Tryz.prog 56 #[.agg #[.bool s,.slice A n c],.agg #[.bool t,.slice B m d]] w (GivesZF w (intZ s xs+intZ t ys) (max n m+1)):=by
 have Cc:=hiD (fun W (h:Below w.heap.size w W)=>nat_cmp A B n m c d xs ys W (hx.bel h) (hy.bel h) hnc hc hmd hd hn hm)
 have Cs:=hiD (fun W (h:Limbs W B m ys) (h':Limbs W A n xs)=>nat_sub B A m n d c ys xs W h h' (by omega) (by omega) (by omega))
 have hsub:=hiD (subL_spec hy.ok hx.ok (by omega))
 have hcmp:cmpN (limbs xs) (limbs ys)= -1:=cmpN_lt hlt
 have hxl:=hx.len
 have hyl:=hy.len
 have Cz:=hiD (fun (neg:Bool) A' n' c' zs W h h1 h2 h3=>zmadeZF neg A' n' c' zs W h h1 h2 h3)
 have b1:Below w.heap.size w (w.alloc (.cells #[.bool s,.slice A n c] 41)):=bRr.alloc lRr _
 have b2:Below w.heap.size w ((w.alloc (.cells #[.bool s,.slice A n c] 41)).alloc (.cells #[.bool t,.slice B m d] 41)):=b1.alloc (by simp) _
 have da:=((Duo.new w (.bool s) (.slice A n c)).bel (bRr.alloc lRr (.cells #[.bool t,.slice B m d] 41))).bel (bRr.alloc lRr (.cells #[.bool false,.slice none 0 0] 41))
 have db:=(Duo.new (w.alloc (.cells #[.bool s,.slice A n c] 41)) (.bool t) (.slice B m d)).bel (bRr.alloc lRr (.cells #[.bool false,.slice none 0 0] 41))
 have dr:=Duo.new ((w.alloc (.cells #[.bool s,.slice A n c] 41)).alloc (.cells #[.bool t,.slice B m d] 41)) (.bool false) (.slice none 0 0)
 rw [World.size_alloc] at db
 rw [World.size_alloc,World.size_alloc] at dr
 have b3:Below w.heap.size w (((w.alloc (.cells #[.bool s,.slice A n c] 41)).alloc (.cells #[.bool t,.slice B m d] 41)).alloc (.cells #[.bool false,.slice none 0 0] 41)):=b2.alloc (by simp;omega) _
 go_enter Tryz.func56,Tryz.ntmps56
 go_wp2_with fail
 have Da:=hiD da
 have Db:=hiD db
 have Dr:=hiD dr
 have hsz:(((w.alloc (.cells #[.bool s,.slice A n c] 41)).alloc (.cells #[.bool t,.slice B m d] 41)).alloc (.cells #[.bool false,.slice none 0 0] 41)).heap.size=w.heap.size+1+1+1:=by simp
 have Hx:=hiD hx
 have Hy:=hiD hy
 clear da db dr b1 b2 hx hy
 generalize ((w.alloc (.cells #[.bool s,.slice A n c] 41)).alloc (.cells #[.bool t,.slice B m d] 41)).alloc (.cells #[.bool false,.slice none 0 0] 41)=wt at*
 have a0:=Da.out.cell0
 have a1:=Da.out.cell1
 have e0:=Db.out.cell0
 have e1:=Db.out.cell1
 have r0:=Dr.out.cell0
 have r1:=Dr.out.cell1
 have f0:=Dr.out.frozen 0
 have f1:=Dr.out.frozen 1
 have la:w.heap.size<wt.heap.size:=by omega
 have lb:w.heap.size+1<wt.heap.size:=by omega
 have lr:w.heap.size+1+1<wt.heap.size:=by omega
 have keep:Hid (∀W,Below wt.heap.size wt W→W.cell? ⟨w.heap.size,0,none⟩=some (.bool s)∧W.cell? ⟨w.heap.size,1,none⟩=some (.slice A n c)∧W.cell? ⟨w.heap.size+1,0,none⟩=some (.bool t)∧W.cell? ⟨w.heap.size+1,1,none⟩=some (.slice B m d)):=fun W hW=>
  ⟨(hW.cell (p:=⟨w.heap.size,0,none⟩) la).trans a0,(hW.cell (p:=⟨w.heap.size,1,none⟩) la).trans a1,(hW.cell (p:=⟨w.heap.size+1,0,none⟩) lb).trans e0,(hW.cell (p:=⟨w.heap.size+1,1,none⟩) lb).trans e1⟩
 have ne1:w.heap.size+1+1≠w.heap.size:=by omega
 have ne2:w.heap.size+1+1≠w.heap.size+1:=by omega
 have le1:w.heap.size≤w.heap.size+1+1:=by omega
 clear r0 r1 f0 f1 hsz
 go_wp2_with fail
 refine (Cc.out _ (by exact b3)).mono ?_
 rintro e w1 ⟨rfl,j1,hj1⟩
 have hbw1:Below wt.heap.size wt w1:=by subst hj1;exact below_drewN bRr _
 clear hj1
 obtain ⟨q1,q2,q3,q4⟩:=keep.out w1 hbw1
 have hbw:Below w.heap.size w w1:=b3.trans (hbw1.mono (by omega))
 have Hx1:=hiD (Hx.out.bel hbw)
 have Hy1:=hiD (Hy.out.bel hbw)
 have A1d:=Da.out.bel hbw1
 have B1d:=Db.out.bel hbw1
 have R1d:=Dr.out.bel hbw1
 have fa0:=A1d.frozen 0
 have fa1:=A1d.frozen 1
 have fb0:=B1d.frozen 0
 have fb1:=B1d.frozen 1
 obtain ⟨ws,hws,was,wbs,wrs,wx,wy,wb,wsz⟩:∃ws:World,ws=(((w1.setCell ⟨w.heap.size,0,none⟩ (.bool t)).setCell ⟨w.heap.size,1,none⟩ (.slice B m d)).setCell ⟨w.heap.size+1,0,none⟩ (.bool s)).setCell ⟨w.heap.size+1,1,none⟩ (.slice A n c)∧Duo ws w.heap.size (.bool t) (.slice B m d)∧Duo ws (w.heap.size+1) (.bool s) (.slice A n c)∧Duo ws (w.heap.size+1+1) (.bool false) (.slice none 0 0)∧Limbs ws A n xs∧Limbs ws B m ys∧Below w.heap.size w ws∧w.heap.size+1+1<ws.heap.size:=by
  have X1:=A1d.limbs (.bool t) (.slice B m d) rfl rfl Hx1.out;have Y1:=A1d.limbs (.bool t) (.slice B m d) rfl rfl Hy1.out;have A2:=A1d.set (.bool t) (.slice B m d);have B2:=(B1d.other ⟨w.heap.size,0,none⟩ (by show w.heap.size≠w.heap.size+1;omega) (.bool t)).other ⟨w.heap.size,1,none⟩ (by show w.heap.size≠w.heap.size+1;omega) (.slice B m d);have R2:=(R1d.other ⟨w.heap.size,0,none⟩ (by show w.heap.size≠w.heap.size+1+1;omega) (.bool t)).other ⟨w.heap.size,1,none⟩ (by show w.heap.size≠w.heap.size+1+1;omega) (.slice B m d);refine ⟨_,rfl,?_,B2.set _ _,?_,B2.limbs _ _ rfl rfl X1,B2.limbs _ _ rfl rfl Y1,?_,?_⟩
  · exact (A2.other _ (by show w.heap.size+1≠w.heap.size;omega) _).other _ (by show w.heap.size+1≠w.heap.size;omega) _
  · exact (R2.other _ (by show w.heap.size+1≠w.heap.size+1+1;omega) _).other _ (by show w.heap.size+1≠w.heap.size+1+1;omega) _
  · exact (((hbw.setCell (p:=⟨w.heap.size,0,none⟩) lRr _).setCell (p:=⟨w.heap.size,1,none⟩) lRr _).setCell (p:=⟨w.heap.size+1,0,none⟩) (by show w.heap.size≤w.heap.size+1;omega) _).setCell (p:=⟨w.heap.size+1,1,none⟩) (by show w.heap.size≤w.heap.size+1;omega) _
  · have:=hbw1.size
    simp;omega
 have Wa:=hiD was
 have Wb:=hiD wbs
 have Wr:=hiD wrs
 have p0:=was.cell0
 have p1:=was.cell1
 have p2:=wbs.cell0
 have p3:=wbs.cell1
 have Hws:=hiD hws
 rw [hws] at p0 p1 p2 p3
 clear hws was wbs wrs a0 a1 e0 e1 A1d B1d R1d hbw
 go_wp2_with fail
 rw [← Hws.out] at*
 refine (Cs.out _ (by exact wy) (by exact wx)).mono ?_
 rintro e w2 ⟨A1,k1,c1,rfl,g4,g5,g6,g7,hbw2⟩
 have v0:=(Wa.out.bel hbw2).cell0
 have v1:=(Wa.out.bel hbw2).cell1
 clear p0 p1 p2 p3
 have hk1:=g6.len
 go_wp2_with fail
 refine (Cz.out t A1 k1 c1 (subL ys xs) w2 g6 g4 g5 (by have:=hsub.out.2.2.2;omega)).mono ?_
 rintro e w3 ⟨s2,A2,k2,c2,ls,rfl,m1,m2,m3,m4,m5,qf,hbw3'⟩
 have hbw3:Below ws.heap.size ws w3:=hbw2.tm hbw3'
 have Dr2:=Wr.out.bel hbw3
 have r0:=Dr2.cell0
 have r1:=Dr2.cell1
 have f0:=Dr2.frozen 0
 have f1:=Dr2.frozen 1
 have hb2:Below w.heap.size w w3:=wb.trans (hbw3.mono (by omega))
 have hz:ZVal s2 ls (intZ s xs+intZ t ys):=by rw [Int.add_comm,← intZ_add_diff (s:=t) (t:=s) (by cases s<;>cases t<;>simp_all) (hsub.out.2.2.1) (by omega)];exact m5
 have HF:Hid (0<k2→∀y,A2=some y→w.heap.size≤y.block):=fun h0 y hy=>Nat.le_trans (Nat.le_trans wb.size hbw2.size) (qf h0 y hy)
 have hk2:k2≤max n m+1:=by have:=hsub.out.2.2.2;omega
 have Hz:=hiD hz
 have HD:=hiD Dr2
 have Hq4:=hiD m4
 clear hz Dr2 m4 m5 g6 keep qf
 go_wp2
 exact bodyPost_ret (results_cell_row (fn:=Tryz.f56) rfl _ _ _ _ _ _ _ rfl (HD.out.set _ _) Tryz.underlying41 rfl aint_size) rfl
  ⟨s2,A2,k2,c2,ls,rfl,m1,m2,hk2,HD.out.limbs _ _ rfl rfl Hq4.out,Hz.out,HF.out,(hb2.setCell (p:=⟨w.heap.size+1+1,0,none⟩) le1 _).setCell (p:=⟨w.heap.size+1+1,1,none⟩) le1 _⟩
end Go.Proofs.YtehcoffbiplphaaGreat
namespace Go.Proofs.YtehcoffbiplphaaGreat
open Go.RowKit Cl
attribute [local go_sem ↓] Go.wp_at_zero Go.wp_at_succ
theorem results_cell_tmp {P:Program} {fn:Func} {p u:Tmp} {ty:TypeId}(h:fn.results=#[.cell p ty,.tmp u]) (tmps:Array Value) (w:World) (g:Nat) (t:TypeId) (cs:Array Value) (fr:Nat×Nat) (d:TypeDesc)
 (hp:tmps.getD p undef=.pointer (some ⟨g,0,none⟩)) (hg:w.heap[g]? =some (.cells cs t fr))
 (hu:P.underlying ty=some d) (hd:(match d with | .struct _ | .array _ _=>true | _=>false)=true) (hi:(P.info? ty).map (·.size)=some cs.size):
 (results fn tmps).run P w=.ok (.tuple #[.agg cs,tmps.getD u undef]) w:=by
 have hp':tmps[p]?.getD undef=.pointer (some ⟨g,0,none⟩):=by simpa using hp
 simp [results,h,hp',asAddr,run_loadVar_row w g t ty cs fr d hg hu hd hi]
theorem results_cell2_tmp {P:Program} {fn:Func} {p q u:Tmp} {ty ty':TypeId}(h:fn.results=#[.cell p ty,.cell q ty',.tmp u]) (tmps:Array Value) (w:World) (g g':Nat) (t t':TypeId) (cs cs':Array Value) (fr fr':Nat×Nat) (d d':TypeDesc)
 (hp:tmps.getD p undef=.pointer (some ⟨g,0,none⟩)) (hg:w.heap[g]? =some (.cells cs t fr))
 (hq:tmps.getD q undef=.pointer (some ⟨g',0,none⟩)) (hg':w.heap[g']? =some (.cells cs' t' fr'))
 (hu:P.underlying ty=some d) (hd:(match d with | .struct _ | .array _ _=>true | _=>false)=true) (hi:(P.info? ty).map (·.size)=some cs.size)
 (hu':P.underlying ty'=some d') (hd':(match d' with | .struct _ | .array _ _=>true | _=>false)=true) (hi':(P.info? ty').map (·.size)=some cs'.size):
 (results fn tmps).run P w=.ok (.tuple #[.agg cs,.agg cs',tmps.getD u undef]) w:=by
 have hp':tmps[p]?.getD undef=.pointer (some ⟨g,0,none⟩):=by simpa using hp
 have hq':tmps[q]?.getD undef=.pointer (some ⟨g',0,none⟩):=by simpa using hq
 simp [results,h,hp',hq',asAddr,run_loadVar_row w g t ty cs fr d hg hu hd hi,run_loadVar_row w g' t' ty' cs' fr' d' hg' hu' hd' hi']
theorem zaddF (s t:Bool) (A B:Option Addr) (n m c d:Nat) (xs ys:List Int) (w:World) (hx:Limbs w A n xs) (hy:Limbs w B m ys) (hnc:n≤c) (hc:c≤9223372036854775807) (hmd:m≤d) (hd:d≤9223372036854775807) (hn:n≤4000000000000) (hm:m≤4000000000000):
 Calls Tryz.prog 56 #[.agg #[.bool s,.slice A n c],.agg #[.bool t,.slice B m d]] w (GivesZF w (intZ s xs+intZ t ys) (max n m+1)):=by
 cases hst:(s==t) with
 | true=>exact zadd_sameF s t hst A B n m c d xs ys w hx hy hnc hc hmd hd hn hm
 | false=>
   rcases Nat.lt_or_ge (limbs xs) (limbs ys) with h | h
   · exact zadd_swapF s t hst A B n m c d xs ys w hx hy hnc hc hmd hd hn hm h
   · exact zadd_diffF s t hst A B n m c d xs ys w hx hy hnc hc hmd hd hn hm h
theorem zadd (s t:Bool) (A B:Option Addr) (n m c d:Nat) (xs ys:List Int) (w:World) (hx:Limbs w A n xs) (hy:Limbs w B m ys) (hnc:n≤c) (hc:c≤9223372036854775807) (hmd:m≤d) (hd:d≤9223372036854775807) (hn:n≤4000000000000) (hm:m≤4000000000000):
 Calls Tryz.prog 56 #[.agg #[.bool s,.slice A n c],.agg #[.bool t,.slice B m d]] w (GivesZ w (intZ s xs+intZ t ys) (max n m+1)):=(zaddF s t A B n m c d xs ys w hx hy hnc hc hmd hd hn hm).mono fun _ _ h=>h.z
theorem zof_posZ (x:Int) (w:World) (h0:0≤x) (h1:x≤9223372036854775807):Calls Tryz.prog 46 #[.int .i64 x] w (GivesZ w x 1):=by
 have hz:=intZ_made (xs:=[x]) (fun i=>by
  cases i with
  | zero=>exact ⟨h0,by show x<_;omega⟩
  | succ i=>rw [nth_ge (by simp)];omega) (n:=1) rfl false
 refine (zof_pos x w h0 h1).mono ?_
 rintro e w' ⟨A,c,rfl,q1,q2,q3,q4⟩
 have hl:=lmN_le [x] 1
 have e1:intZ false [x]=x:=by unfold intZ;simp [limbs];omega
 rw [e1,Bool.false_and] at hz
 exact ⟨false,A,_,c,_,rfl,q1,q2,by rw [List.length_take];omega,by rw [List.length_take] at*;exact q3,hz,q4⟩
end Go.Proofs.YtehcoffbiplphaaGreat
namespace Go.Proofs.YtehcoffbiplphaaGreat
open Go.RowKit Cl
attribute [local go_sem ↓] Go.wp_at_zero Go.wp_at_succ
theorem duo4 (w:World) (u0 v0 u1 v1 u2 v2 u3 v3:Value):
 Duo ((((w.alloc (.cells #[u0,v0] 41)).alloc (.cells #[u1,v1] 41)).alloc (.cells #[u2,v2] 41)).alloc (.cells #[u3,v3] 41)) w.heap.size u0 v0∧
 Duo ((((w.alloc (.cells #[u0,v0] 41)).alloc (.cells #[u1,v1] 41)).alloc (.cells #[u2,v2] 41)).alloc (.cells #[u3,v3] 41)) (w.heap.size+1) u1 v1∧
 Duo ((((w.alloc (.cells #[u0,v0] 41)).alloc (.cells #[u1,v1] 41)).alloc (.cells #[u2,v2] 41)).alloc (.cells #[u3,v3] 41)) (w.heap.size+1+1) u2 v2∧
 Duo ((((w.alloc (.cells #[u0,v0] 41)).alloc (.cells #[u1,v1] 41)).alloc (.cells #[u2,v2] 41)).alloc (.cells #[u3,v3] 41)) (w.heap.size+1+1+1) u3 v3∧
 Below w.heap.size w ((((w.alloc (.cells #[u0,v0] 41)).alloc (.cells #[u1,v1] 41)).alloc (.cells #[u2,v2] 41)).alloc (.cells #[u3,v3] 41)):=by
 have al:∀(W:World) (o:Obj),Below W.heap.size W (W.alloc o):=fun W o=>bRr.alloc lRr o
 refine ⟨((((Duo.new w u0 v0).bel (al _ _)).bel (al _ _)).bel (al _ _)),?_,?_,?_,?_⟩
 · have:=((Duo.new (w.alloc (.cells #[u0,v0] 41)) u1 v1).bel (al _ (.cells #[u2,v2] 41))).bel (al _ (.cells #[u3,v3] 41))
   rw [World.size_alloc] at this;exact this
 · have:=(Duo.new ((w.alloc (.cells #[u0,v0] 41)).alloc (.cells #[u1,v1] 41)) u2 v2).bel (al _ (.cells #[u3,v3] 41))
   rw [World.size_alloc,World.size_alloc] at this;exact this
 · have:=Duo.new (((w.alloc (.cells #[u0,v0] 41)).alloc (.cells #[u1,v1] 41)).alloc (.cells #[u2,v2] 41)) u3 v3
   rw [World.size_alloc,World.size_alloc,World.size_alloc] at this;exact this
 · exact (((al w _).alloc (by simp) _).alloc (by simp;omega) _).alloc (by simp;omega) _
end Go.Proofs.YtehcoffbiplphaaGreat
namespace Go.Proofs.YtehcoffbiplphaaGreat
open Go.RowKit Cl
attribute [local go_sem ↓] Go.wp_at_zero Go.wp_at_succ
theorem same01_any (A B:Option Addr) (n m c d:Nat) (xs ys:List Int) (w:World) (hx:Limbs w A n xs) (hy:Limbs w B m ys) (hn:n≤9223372036854775807) (hm:m≤9223372036854775807) (r:Bool) (hr:(xs=ys)↔r=true):
 Calls Tryz.prog 102 #[.slice A n c,.slice B m d] w fun e w'=>e=.returned (.bool r)∧∃k,w'=w.drewN k:=by
 have Hl:=hiD hx.len
 have Hm:=hiD hy.len
 have Hr:=hiD hr
 clear hr
 by_cases hnm:n=m
 · subst hnm
   have hne:((n:Int) !=(n:Int))=false:=by simp
   go_enter Tryz.func102,Tryz.ntmps102
   go_wp2
   go_loopw [5] (fun i wr=>∃k q:Nat,k≤n∧i=.int .i64 k∧Hid (∀j,j<k→nth xs j=nth ys j)∧wr=w.drewN q) (fun i _=>n - (intOf i).toNat)
   case atStart=>exact ⟨0,0,by omega,rfl,(fun j hj=>absurd hj (by omega)),rfl⟩
   case round=>
    obtain ⟨k,q,hk,rfl,hall,rfl⟩:=hrel;by_cases hlt:k<n
    · obtain ⟨b,o,rfl,hb,hc⟩:=hx.at_ (by omega)
      obtain ⟨b',o',rfl,hb',hc'⟩:=hy.at_ (by omega);have hck:=hc k hlt;have hck':=hc' k hlt;(have hlt':(k:Int)<(n:Int):=by omega);by_cases hz:nth xs k=nth ys k
      · have hz':(nth xs k !=nth ys k)=false:=by simp [hz]
        have Hz:=hiD hz;clear hz;(go_wp2);go_quiet (fail)
        (go_wp2);go_roundw
        case rel=>exact ⟨k+1,_,by omega,by go_num,(fun j hj=>if e:j=k then e ▸ Hz.out else hall.out j (by omega)),rfl⟩
        case measure=>simp [intOf];omega
      · have hz':(nth xs k !=nth ys k)=true:=by simp [hz]
        have Hz:Hid (r=false):=by
         show r=false;cases hrr:r with
         | false=>rfl
         | true=>exact absurd (Hr.out.2 hrr) (fun e=>hz (by rw [e]))
        clear hz;(go_wp2);go_quiet (fail)
        (go_wp2);go_ret;exact ⟨ret_bool Hz.out.symm,_,World.drewN_drewN _ _ _⟩
    · have Hz:=hiD (Hr.out.1 (list_ext (xs:=xs) (ys:=ys) (by rw [Hl.out,Hm.out]) (fun i hi=>hall.out i (by have:=Hl.out;omega))))
      (go_wp2);go_ret;exact ⟨ret_bool Hz.out.symm,_,rfl⟩
 · have hne:((n:Int) !=(m:Int))=true:=by simp;omega
   have Hz:Hid (r=false):=by
    show r=false;cases hrr:r with
    | false=>rfl
    | true=>exact absurd (Hr.out.2 hrr) (fun e=>hnm (by rw [← Hl.out,← Hm.out,e]))
   go_enter Tryz.func102,Tryz.ntmps102
   go_wp2
   go_ret;exact ⟨ret_bool Hz.out.symm,0,rfl⟩
theorem duo2 (w:World) (u0 v0 u1 v1:Value):
 Duo ((w.alloc (.cells #[u0,v0] 41)).alloc (.cells #[u1,v1] 41)) w.heap.size u0 v0∧
 Duo ((w.alloc (.cells #[u0,v0] 41)).alloc (.cells #[u1,v1] 41)) (w.heap.size+1) u1 v1∧
 Below w.heap.size w ((w.alloc (.cells #[u0,v0] 41)).alloc (.cells #[u1,v1] 41)):=by
 have al:∀(W:World) (o:Obj),Below W.heap.size W (W.alloc o):=fun W o=>bRr.alloc lRr o
 refine ⟨(Duo.new w u0 v0).bel (al _ _),?_,(al w _).alloc (by simp) _⟩
 have:=Duo.new (w.alloc (.cells #[u0,v0] 41)) u1 v1
 rw [World.size_alloc] at this
 exact this
theorem same02_any (s t:Bool) (A B:Option Addr) (n m c d:Nat) (xs ys:List Int) (w:World) (hx:Limbs w A n xs) (hy:Limbs w B m ys) (hn:n≤9223372036854775807) (hm:m≤9223372036854775807) (r:Bool) (hr:(s=t∧xs=ys)↔r=true):
 Calls Tryz.prog 69 #[.agg #[.bool s,.slice A n c],.agg #[.bool t,.slice B m d]] w fun e w'=>e=.returned (.bool r)∧Below w.heap.size w w':=by
 obtain ⟨da,db,b2⟩:=duo2 w (.bool s) (.slice A n c) (.bool t) (.slice B m d)
 have a0:=da.cell0
 have a1:=da.cell1
 have e0:=db.cell0
 have e1:=db.cell1
 by_cases hst:s=t
 · have hst':(s==t)=true:=by simp [hst]
   have Cs:=hiD (fun W (h:Below w.heap.size w W)=>same01_any A B n m c d xs ys W (hx.bel h) (hy.bel h) hn hm r ⟨fun e=>hr.1 ⟨hst,e⟩,fun e=>(hr.2 e).2⟩);clear hr hx hy hst da db;go_enter Tryz.func69,Tryz.ntmps69
   go_wp2_with fail
   refine (Cs.out _ (by exact b2)).mono ?_;rintro e w1 ⟨rfl,k,hk⟩;have hb:=below_drewN b2 k;rw [← hk] at hb;clear hk;go_wp2_with fail
   go_ret;exact ⟨rfl,hb⟩
 · have hst':(s==t)=false:=by simp [hst]
   have Hz:Hid (r=false):=by
    show r=false;cases hrr:r with
    | false=>rfl
    | true=>exact absurd (hr.2 hrr).1 hst
   clear hr hx hy hst da db;go_enter Tryz.func69,Tryz.ntmps69
   go_wp2_with fail
   go_ret;exact ⟨ret_bool Hz.out.symm,b2⟩
theorem compare17 (A B:Option Addr) (n c d:Nat) (xs ys:List Int) (w:World) (hx:Ints w A n xs) (hy:Ints w B n ys) (hn:n≤9223372036854775807):
 Calls Tryz.prog 65 #[.slice A n c,.slice B n d] w fun e w'=>e=.returned (.int .i64 (cmpP xs ys))∧∃k,w'=w.drewN k:=by
 have Hl:=hiD hx.len
 have Hm:=hiD hy.len
 go_enter Tryz.func65,Tryz.ntmps65
 go_wp2
 go_loopw [5] (fun i wr=>∃k q:Nat,k≤n∧i=.int .i64 k∧Hid (∀j,j<k→nth xs j=nth ys j)∧wr=w.drewN q) (fun i _=>n - (intOf i).toNat)
 case atStart=>exact ⟨0,0,by omega,rfl,(fun j hj=>absurd hj (by omega)),rfl⟩
 case round=>
  obtain ⟨k,q,hk,rfl,hall,rfl⟩:=hrel;by_cases hlt:k<n
  · obtain ⟨b,o,rfl,hb,hc⟩:=hx.at_ (by omega)
    obtain ⟨b',o',rfl,hb',hc'⟩:=hy.at_ (by omega);have hck:=hc k hlt;have hck':=hc' k hlt;(have hlt':(k:Int)<(n:Int):=by omega);rcases Int.lt_trichotomy (nth xs k) (nth ys k) with h | h | h
    · have Hz:Hid (cmpP xs ys= -1):=cmpP_lt (ltP_of (i:=k) (by rw [Hl.out,Hm.out]) hall.out (by rw [Hl.out];exact hlt) h)
      (go_wp2);go_quiet (fail)
      (go_wp2);go_ret;exact ⟨ret_int Hz.out.symm,_,World.drewN_drewN _ _ _⟩
    · have hz1:¬nth xs k<nth ys k:=by omega
      (have hz2:¬nth ys k<nth xs k:=by omega);have Hz:=hiD h;clear h;(go_wp2);go_quiet (fail)
      (go_wp2);go_quiet (fail)
      (go_wp2);go_roundw
      case rel=>exact ⟨k+1,_,by omega,by go_num,(fun j hj=>if e:j=k then e ▸ Hz.out else hall.out j (by omega)),by first | rfl | exact World.drewN_drewN _ _ _ | (rw [World.drewN_drewN,World.drewN_drewN])⟩
      case measure=>simp [intOf];omega
    · have hz1:¬nth xs k<nth ys k:=by omega
      have Hz:Hid (cmpP xs ys=1):=cmpP_gt (ltP_of (i:=k) (by rw [Hl.out,Hm.out]) (fun j hj=>(hall.out j hj).symm) (by rw [Hm.out];exact hlt) h);(go_wp2);go_quiet (fail)
      (go_wp2);go_quiet (fail)
      (go_wp2);go_ret;exact ⟨ret_int Hz.out.symm,_,by first | rfl | exact World.drewN_drewN _ _ _ | (rw [World.drewN_drewN,World.drewN_drewN])⟩
  · have Hz:Hid (cmpP xs ys=0):=by
     have:xs=ys:=list_ext (xs:=xs) (ys:=ys) (by rw [Hl.out,Hm.out]) (fun i hi=>hall.out i (by have:=Hl.out;omega));rw [this];exact cmpP_eq ys
    (go_wp2);go_ret;exact ⟨ret_int Hz.out.symm,_,rfl⟩
theorem same17_true (A B:Option Addr) (n c d:Nat) (L:List TV) (w:World) (hx:Trs w A n L) (hy:Trs w B n L) (hn:n≤100000000):
 Calls Tryz.prog 31 #[.slice A n c,.slice B n d] w fun e w'=>e=.returned (.bool true)∧Below w.heap.size w w':=by
 have hne:((n:Int) !=(n:Int))=false:=by simp
 have hL:=hiD hx.len
 go_enter Tryz.func31,Tryz.ntmps31
 go_wp2
 go_loopw [5] (fun i wr=>∃k:Nat,k≤n∧i=.int .i64 k∧Below w.heap.size w wr) (fun i _=>n - (intOf i).toNat)
 case atStart=>exact ⟨0,by omega,rfl,bRr⟩
 case round=>
  obtain ⟨k,hk,rfl,hbel⟩:=hrel;obtain ⟨wo,rfl⟩:∃wo:World,wo=wr:=⟨_,rfl⟩;by_cases hlt:k<n
  · obtain ⟨b,o,rfl,hb,hc⟩:=hx.at_ (by omega)
    obtain ⟨b',o',rfl,hb',hc'⟩:=hy.at_ (by omega);(have hkl:k<L.length:=by rw [hL.out];exact hlt);obtain ⟨Ai,ci,Ei,ei,e1,e2,e3,e4,e5,e6,e7,e8,e9⟩:=hc k hkl;obtain ⟨Bi,di,Fi,fi,g1,g2,g3,g4,g5,g6,g7,g8,g9⟩:=hc' k hkl;clear hc hc';generalize L[k]=x at*
    obtain ⟨⟨s,xs⟩,ps⟩:=x;simp only at e1 e2 e3 e4 e6 e8 e9 g1 g2 g3 g4 g6 g8 g9;(have hlt':(k:Int)<(n:Int):=by omega);(have hk0:(0:Int)≤(k:Int):=by omega);(have hz:((ps.length:Int) !=(ps.length:Int))=false:=by simp);rw [Nat.mul_comm 3 k] at e1 e2 e3 g1 g2 g3;rw [← Nat.add_assoc] at e2 e3 g2 g3;have Cc:=hiD (fun W (h:Below w.heap.size w W)=>compare17 Ei Fi ps.length ei fi ps ps W (e9.bel h) (g9.bel h) (by omega));have Cs:=hiD (fun W (h:Below w.heap.size w W)=>same02_any s s Ai Bi xs.length xs.length ci di xs xs W (e8.bel h) (g8.bel h) (by omega) (by omega) true ⟨fun _=>rfl,fun _=>⟨rfl,rfl⟩⟩);rw [cmpP_eq] at Cc;clear e8 e9 g8 g9 hx hy;have keep:Hid (∀W,Below w.heap.size w W→W.cell? ⟨b,o+k*3,none⟩=some (.bool s)∧W.cell? ⟨b,o+k*3+1,none⟩=some (.slice Ai xs.length ci)∧W.cell? ⟨b,o+k*3+2,none⟩=some (.slice Ei ps.length ei)∧W.cell? ⟨b',o'+k*3,none⟩=some (.bool s)∧W.cell? ⟨b',o'+k*3+1,none⟩=some (.slice Bi xs.length di)∧W.cell? ⟨b',o'+k*3+2,none⟩=some (.slice Fi ps.length fi)):=fun W hW=>
     ⟨(hW.cell (p:=⟨b,o+k*3,none⟩) hb).trans e1,(hW.cell (p:=⟨b,o+k*3+1,none⟩) hb).trans e2,(hW.cell (p:=⟨b,o+k*3+2,none⟩) hb).trans e3,(hW.cell (p:=⟨b',o'+k*3,none⟩) hb').trans g1,(hW.cell (p:=⟨b',o'+k*3+1,none⟩) hb').trans g2,(hW.cell (p:=⟨b',o'+k*3+2,none⟩) hb').trans g3⟩
    obtain ⟨k1,k2,k3,k4,k5,k6⟩:=keep.out wo hbel;clear e1 e2 e3 g1 g2 g3;(go_wp2);go_region_held3 (fun W=>W.cell? ⟨b,o+k*3,none⟩=some (.bool s)∧W.cell? ⟨b,o+k*3+1,none⟩=some (.slice Ai xs.length ci)∧W.cell? ⟨b,o+k*3+2,none⟩=some (.slice Ei ps.length ei)∧W.cell? ⟨b',o'+k*3,none⟩=some (.bool s)∧W.cell? ⟨b',o'+k*3+1,none⟩=some (.slice Bi xs.length di)∧W.cell? ⟨b',o'+k*3+2,none⟩=some (.slice Fi ps.length fi))
     (first | go_keep | exact keep.out _ hbel.drew | exact keep.out _ hbw1 | exact keep.out _ hbw2)
     (first
       | (go_at_call 65;refine (Cc.out _ hbel.drew).mono ?_;rintro e w1 ⟨rfl,kk,hkk⟩;have hbw1:Below w.heap.size w w1:=(by rw [hkk];exact below_drewN hbel.drew kk);clear hkk)
       | (go_at_call 69;refine (Cs.out _ hbw1).mono ?_;rintro e w2 ⟨rfl,hbw2'⟩;have hbw2:Below w.heap.size w w2:=hbw1.tm hbw2'))
    (go_wp2);go_roundw
    case rel=>exact ⟨k+1,by omega,by go_num,hbw2⟩
    case measure=>simp [intOf];omega
  · go_wp2
    go_ret;exact ⟨rfl,hbel⟩
end Go.Proofs.YtehcoffbiplphaaGreat
namespace Go.Proofs.YtehcoffbiplphaaGreat
open Go.RowKit Cl
attribute [local go_sem ↓] Go.wp_at_zero Go.wp_at_succ
def OkE (x:Int):Prop:=0≤x∧x≤1000
theorem mcheck1_ok (x:Int) (w:World) (h:OkE x):Calls Tryz.prog 49 #[.int .i64 x] w fun e w'=>e=.returned (.bool false)∧w=w':=by
 have h1:¬x<0:=by have:=h.1;omega
 have h2:¬1000<x:=by have:=h.2;omega
 clear h
 go_enter Tryz.func49,Tryz.ntmps49
 go_wp2
 go_ret
 exact ⟨rfl,rfl⟩
theorem mcheck1_no (x:Int) (w:World) (h:¬OkE x):Calls Tryz.prog 49 #[.int .i64 x] w fun e w'=>e=.returned (.bool true)∧w=w':=by
 by_cases h1:x<0
 · clear h
   go_enter Tryz.func49,Tryz.ntmps49
   go_wp2
   go_ret;exact ⟨rfl,rfl⟩
 · have h2:1000<x:=by unfold OkE at h;omega
   clear h;go_enter Tryz.func49,Tryz.ntmps49
   go_wp2
   go_ret;exact ⟨rfl,rfl⟩
theorem mindex_ok (A:Option Addr) (n c:Nat) (xs:List Int) (w:World) (hx:Ints w A n xs) (hn:n≤9223372036854775807) (h:∀i,i<n→OkE (nth xs i)):
 Calls Tryz.prog 83 #[.slice A n c,.func (.func 49) #[] #[]] w fun e w'=>e=.returned (.int .i64 (-1))∧w=w':=by
 have H:=hiD h
 clear h
 go_enter Tryz.func83,Tryz.ntmps83
 go_wp2
 go_loopw [8] (fun i wr=>∃k:Nat,k≤n∧i=.int .i64 k∧w=wr) (fun i _=>n - (intOf i).toNat)
 case atStart=>exact ⟨0,by omega,rfl,rfl⟩
 case round=>
  obtain ⟨k,hk,rfl,rfl⟩:=hrel;by_cases hlt:k<n
  · obtain ⟨b,o,rfl,hb,hc⟩:=hx.at_ (by omega)
    have hck:=hc k hlt;(have hlt':(k:Int)<(n:Int):=by omega);(go_wp2_with fail);refine (mcheck1_ok (nth xs k) w (H.out k hlt)).mono ?_;rintro e w' ⟨rfl,rfl⟩;(go_wp2);go_roundw
    case rel=>exact ⟨k+1,by omega,by go_num,trivial⟩
    case measure=>simp [intOf];omega
  · have hlt':¬(k:Int)<(n:Int):=by omega
    (go_wp2);go_ret;exact ⟨rfl,rfl⟩
theorem mindex_no (A:Option Addr) (n c:Nat) (xs:List Int) (w:World) (hx:Ints w A n xs) (hn:n≤9223372036854775807) (h:¬∀i,i<n→OkE (nth xs i)):
 Calls Tryz.prog 83 #[.slice A n c,.func (.func 49) #[] #[]] w fun e w'=>(∃j:Nat,e=.returned (.int .i64 (j:Int)))∧w=w':=by
 have H:=hiD h
 clear h
 go_enter Tryz.func83,Tryz.ntmps83
 go_wp2
 go_loopw [8] (fun i wr=>∃k:Nat,k≤n∧i=.int .i64 k∧Hid (∀j,j<k→OkE (nth xs j))∧w=wr) (fun i _=>n - (intOf i).toNat)
 case atStart=>exact ⟨0,by omega,rfl,(fun j hj=>absurd hj (by omega)),rfl⟩
 case round=>
  obtain ⟨k,hk,rfl,hall,rfl⟩:=hrel;by_cases hlt:k<n
  · obtain ⟨b,o,rfl,hb,hc⟩:=hx.at_ (by omega)
    have hck:=hc k hlt;(have hlt':(k:Int)<(n:Int):=by omega);by_cases hz:OkE (nth xs k)
    · have Hz:=hiD hz
      clear hz;(go_wp2_with fail);refine (mcheck1_ok (nth xs k) w Hz.out).mono ?_;rintro e w' ⟨rfl,rfl⟩;(go_wp2);go_roundw
      case rel=>exact ⟨k+1,by omega,by go_num,(fun j hj=>if e:j=k then e ▸ Hz.out else hall.out j (by omega)),trivial⟩
      case measure=>simp [intOf];omega
    · have Hz:=hiD hz
      clear hz;(go_wp2_with fail);refine (mcheck1_no (nth xs k) w Hz.out).mono ?_;rintro e w' ⟨rfl,rfl⟩;(go_wp2);go_ret;exact ⟨⟨k,rfl⟩,rfl⟩
  · exact absurd (fun i hi=>hall.out i (by omega)) H.out
theorem mcontains_ok (A:Option Addr) (n c:Nat) (xs:List Int) (w:World) (hx:Ints w A n xs) (hn:n≤9223372036854775807) (h:∀i,i<n→OkE (nth xs i)):
 Calls Tryz.prog 48 #[.slice A n c,.func (.func 49) #[] #[]] w fun e w'=>e=.returned (.bool false)∧w=w':=by
 have C:=hiD (mindex_ok A n c xs w hx hn h)
 clear hx h
 go_enter Tryz.func48,Tryz.ntmps48
 go_wp2_with fail
 refine C.out.mono ?_
 rintro e w' ⟨rfl,rfl⟩
 go_wp2
 go_ret
 exact ⟨rfl,rfl⟩
theorem mcontains_no (A:Option Addr) (n c:Nat) (xs:List Int) (w:World) (hx:Ints w A n xs) (hn:n≤9223372036854775807) (h:¬∀i,i<n→OkE (nth xs i)):
 Calls Tryz.prog 48 #[.slice A n c,.func (.func 49) #[] #[]] w fun e w'=>e=.returned (.bool true)∧w=w':=by
 have C:=hiD (mindex_no A n c xs w hx hn h)
 clear hx h
 go_enter Tryz.func48,Tryz.ntmps48
 go_wp2_with fail
 refine C.out.mono ?_
 rintro e w' ⟨⟨j,rfl⟩,rfl⟩
 have hj:(0:Int)≤(j:Int):=by omega
 go_wp2
 go_ret
 exact ⟨rfl,rfl⟩
def OkT (n:Int) (t:TV):Prop:=(t.2.length:Int)=n∧∀i,i<t.2.length→OkE (nth t.2 i)
def OkL (n:Int) (L:List TV):Prop:=0≤n∧n≤6∧L.length≤4096∧∀i (h:i<L.length),OkT n L[i]
theorem mcheck_ok (n:Int) (A:Option Addr) (m c:Nat) (L:List TV) (w:World) (hx:Trs w A m L) (hL:OkL n L):
 Calls Tryz.prog 25 #[.int .i64 n,.slice A m c] w fun e w'=>e=.returned (.int .i64 0)∧Below w.heap.size w w':=by
 have hl:=hx.len
 obtain ⟨h1,h2,h3,h4⟩:=hL
 have h1':¬n<0:=by omega
 have h2':¬6<n:=by omega
 have h3':¬(4096:Int)<(m:Int):=by omega
 have H4:=hiD h4
 have Hl:=hiD hl
 clear h4 hl h1 h2
 go_enter Tryz.func25,Tryz.ntmps25
 go_wp2
 go_loopw [20] (fun i wr=>∃k:Nat,k≤m∧i=.int .i64 k∧Below w.heap.size w wr) (fun i _=>m - (intOf i).toNat)
 case atStart=>exact ⟨0,by omega,rfl,bRr⟩
 case round=>
  obtain ⟨k,hk,rfl,hbel⟩:=hrel;obtain ⟨wo,rfl⟩:∃wo:World,wo=wr:=⟨_,rfl⟩;by_cases hlt:k<m
  · obtain ⟨b,o,rfl,hb,hc⟩:=hx.at_ (by omega)
    (have hkl:k<L.length:=by rw [Hl.out];exact hlt);obtain ⟨Ai,ci,Ei,ei,e1,e2,e3,e4,e5,e6,e7,e8,e9⟩:=hc k hkl;have hok:=H4.out k hkl;clear hc;generalize L[k]=x at*
    obtain ⟨⟨s,xs⟩,ps⟩:=x;obtain ⟨o1,o2⟩:=hok;simp only at e1 e2 e3 e4 e6 e8 e9 o1 o2;(have hlt':(k:Int)<(m:Int):=by omega);(have hk0:(0:Int)≤(k:Int):=by omega);(have hz:((ps.length:Int) !=n)=false:=by simp [o1]);have k1:=(hbel.cell (p:=⟨b,o+3*k,none⟩) hb).trans e1;have k2:=(hbel.cell (p:=⟨b,o+(3*k+1),none⟩) hb).trans e2;have k3:=(hbel.cell (p:=⟨b,o+(3*k+2),none⟩) hb).trans e3;rw [Nat.mul_comm 3 k] at k1 k2 k3;rw [← Nat.add_assoc] at k2 k3;have Cc:=hiD (fun W (h:Below w.heap.size w W)=>mcontains_ok Ei ps.length ei ps W (e9.bel h) (by omega) o2);clear e8 e9 e1 e2 e3 o1 o2;(go_wp2_with fail);refine (Cc.out _ (by exact hbel.alloc hbel.size _)).mono ?_;rintro e w' ⟨rfl,rfl⟩;(go_wp2);go_roundw
    case rel=>exact ⟨k+1,by omega,by go_num,hbel.alloc hbel.size _⟩
    case measure=>simp [intOf];omega
  · have hlt':¬(k:Int)<(m:Int):=by omega
    (go_wp2);go_ret;exact ⟨rfl,hbel⟩
end Go.Proofs.YtehcoffbiplphaaGreat
namespace Go.Proofs.YtehcoffbiplphaaGreat
open Go.RowKit Cl
attribute [local go_sem ↓] Go.wp_at_zero Go.wp_at_succ
theorem mcheck_no_a (n:Int) (A:Option Addr) (m c:Nat) (w:World) (h:n<0):
 Calls Tryz.prog 25 #[.int .i64 n,.slice A m c] w fun e w'=>e=.returned (.int .i64 1)∧Below w.heap.size w w':=by
 have hb:=Below.refl w.heap.size w
 go_enter Tryz.func25,Tryz.ntmps25
 go_wp2
 go_ret
 exact ⟨rfl,hb⟩
theorem mcheck_no_b (n:Int) (A:Option Addr) (m c:Nat) (w:World) (h:6<n):
 Calls Tryz.prog 25 #[.int .i64 n,.slice A m c] w fun e w'=>e=.returned (.int .i64 1)∧Below w.heap.size w w':=by
 have h1:¬n<0:=by omega
 have hb:=Below.refl w.heap.size w
 go_enter Tryz.func25,Tryz.ntmps25
 go_wp2
 go_ret
 exact ⟨rfl,hb⟩
theorem mcheck_no_c (n:Int) (A:Option Addr) (m c:Nat) (w:World) (h1:¬n<0) (h2:¬6<n) (h:(4096:Int)<(m:Int)):
 Calls Tryz.prog 25 #[.int .i64 n,.slice A m c] w fun e w'=>e=.returned (.int .i64 1)∧Below w.heap.size w w':=by
 have hb:=Below.refl w.heap.size w
 go_enter Tryz.func25,Tryz.ntmps25
 go_wp2
 go_ret
 exact ⟨rfl,hb⟩
theorem mcheck_no_d (n:Int) (A:Option Addr) (m c:Nat) (L:List TV) (w:World) (hx:Trs w A m L) (h1:0≤n) (h2:n≤6) (h3:m≤4096) (hL:¬∀i (h:i<L.length),OkT n L[i]):
 Calls Tryz.prog 25 #[.int .i64 n,.slice A m c] w fun e w'=>e=.returned (.int .i64 1)∧Below w.heap.size w w':=by
 have hl:=hx.len
 have h1':¬n<0:=by omega
 have h2':¬6<n:=by omega
 have h3':¬(4096:Int)<(m:Int):=by omega
 have H4:=hiD hL
 have Hl:=hiD hl
 clear hL hl h1 h2
 go_enter Tryz.func25,Tryz.ntmps25
 go_wp2
 go_loopw [20] (fun i wr=>∃k:Nat,k≤m∧i=.int .i64 k∧Hid (∀i (h:i<L.length),i<k→OkT n L[i])∧Below w.heap.size w wr) (fun i _=>m - (intOf i).toNat)
 case atStart=>exact ⟨0,by omega,rfl,(fun i h hj=>absurd hj (by omega)),bRr⟩
 case round=>
  obtain ⟨k,hk,rfl,hall,hbel⟩:=hrel;obtain ⟨wo,rfl⟩:∃wo:World,wo=wr:=⟨_,rfl⟩;by_cases hlt:k<m
  · obtain ⟨b,o,rfl,hb,hc⟩:=hx.at_ (by omega)
    (have hkl:k<L.length:=by rw [Hl.out];exact hlt);obtain ⟨Ai,ci,Ei,ei,e1,e2,e3,e4,e5,e6,e7,e8,e9⟩:=hc k hkl;clear hc;have Hall2:Hid (OkT n L[k]→∀i (h:i<L.length),i<k+1→OkT n L[i]):=fun ht i h hi=>by
     rcases Nat.lt_or_ge i k with hik | hik
     · exact hall.out i h hik
     · obtain rfl:i=k:=by omega
       exact ht
    clear hall;generalize L[k]=x at*
    obtain ⟨⟨s,xs⟩,ps⟩:=x;simp only at e1 e2 e3 e4 e6 e8 e9;(have hlt':(k:Int)<(m:Int):=by omega);(have hk0:(0:Int)≤(k:Int):=by omega);have k1:=(hbel.cell (p:=⟨b,o+3*k,none⟩) hb).trans e1;have k2:=(hbel.cell (p:=⟨b,o+(3*k+1),none⟩) hb).trans e2;have k3:=(hbel.cell (p:=⟨b,o+(3*k+2),none⟩) hb).trans e3;rw [Nat.mul_comm 3 k] at k1 k2 k3;rw [← Nat.add_assoc] at k2 k3;have E9:=hiD e9;clear e8 e9 e1 e2 e3;by_cases o1:(ps.length:Int)=n
    · have hz:((ps.length:Int) !=n)=false:=by simp [o1]
      by_cases o2:∀i,i<ps.length→OkE (nth ps i)
      · have Cc:=hiD (fun W (h:Below w.heap.size w W)=>mcontains_ok Ei ps.length ei ps W (E9.out.bel h) (by omega) o2)
        have Hok:=hiD (Hall2.out ⟨o1,o2⟩);clear o1 o2 Hall2;(go_wp2_with fail);refine (Cc.out _ (by exact hbel.alloc hbel.size _)).mono ?_;rintro e w' ⟨rfl,rfl⟩;(go_wp2);go_roundw
        case rel=>exact ⟨k+1,by omega,by go_num,Hok,hbel.alloc hbel.size _⟩
        case measure=>simp [intOf];omega
      · have Cc:=hiD (fun W (h:Below w.heap.size w W)=>mcontains_no Ei ps.length ei ps W (E9.out.bel h) (by omega) o2)
        clear o1 o2 Hall2;(go_wp2_with fail);refine (Cc.out _ (by exact hbel.alloc hbel.size _)).mono ?_;rintro e w' ⟨rfl,rfl⟩;(go_wp2);go_ret;exact ⟨rfl,hbel.alloc hbel.size _⟩
    · have hz:((ps.length:Int) !=n)=true:=by simp [o1]
      clear o1 Hall2;(go_wp2);go_ret;exact ⟨rfl,hbel.alloc hbel.size _⟩
  · exact absurd (fun i h=>hall.out i h (by rw [Hl.out] at h;omega)) H4.out
open Classical in
noncomputable def chkN (n:Int) (L:List TV):Int:=if OkL n L then 0 else 1
theorem chkN_ok {n:Int} {L:List TV}(h:OkL n L):chkN n L=0:=if_pos h
theorem chkN_no {n:Int} {L:List TV}(h:¬OkL n L):chkN n L=1:=if_neg h
theorem mcheck (n:Int) (A:Option Addr) (m c:Nat) (L:List TV) (w:World) (hx:Trs w A m L):
 Calls Tryz.prog 25 #[.int .i64 n,.slice A m c] w fun e w'=>e=.returned (.int .i64 (chkN n L))∧Below w.heap.size w w':=by
 by_cases h:OkL n L
 · rw [chkN_ok h];exact mcheck_ok n A m c L w hx h
 · rw [chkN_no h]
   by_cases h1:n<0
   · exact mcheck_no_a n A m c w h1
   · by_cases h2:6<n
     · exact mcheck_no_b n A m c w h2
     · by_cases h3:(4096:Int)<(m:Int)
       · exact mcheck_no_c n A m c w h1 h2 h3
       · exact mcheck_no_d n A m c L w hx (by omega) (by omega) (by omega) (fun h4=>h ⟨by omega,by omega,by rw [hx.len];omega,h4⟩)
end Go.Proofs.YtehcoffbiplphaaGreat
namespace Go.Proofs.YtehcoffbiplphaaGreat
open Go.RowKit Cl
attribute [local go_sem ↓] Go.wp_at_zero Go.wp_at_succ
theorem mall_any (n:Int) (g m c:Nat) (f:Nat→Option Addr) (ms cs:Nat→Nat) (Ls:Nat→List TV) (w:World) (hg:g<w.heap.size) (hm:m≤100) (h0:OkL n [])
 (h:∀k,k<m→w.cell? ⟨g,k,none⟩=some (.slice (f k) (ms k) (cs k))∧Trs w (f k) (ms k) (Ls k)∧OkL n (Ls k)):
 Calls Tryz.prog 40 #[.int .i64 n,.slice (some ⟨g,0,none⟩) m c] w fun e w'=>e=.returned (.int .i64 0)∧Below w.heap.size w w':=by
 have H:=hiD h
 have H0:=hiD h0
 clear h h0
 go_enter Tryz.func40,Tryz.ntmps40
 go_wp2
 go_loopw [10] (fun i wr=>∃k:Nat,k≤m∧i=.int .i64 k∧Below w.heap.size w wr) (fun i _=>m - (intOf i).toNat)
 case atStart=>exact ⟨0,by omega,rfl,bRr⟩
 case round=>
  obtain ⟨k,hk,rfl,hbel⟩:=hrel;obtain ⟨wo,rfl⟩:∃wo:World,wo=wr:=⟨_,rfl⟩;by_cases hlt:k<m
  · obtain ⟨q1,q2,q3⟩:=H.out k hlt
    have hc:=(hbel.cell (p:=⟨g,k,none⟩) hg).trans q1;(have hlt':(k:Int)<(m:Int):=by omega);(have hk0:(0:Int)≤(k:Int):=by omega);have C:=hiD (mcheck_ok n (f k) (ms k) (cs k) (Ls k) wo (q2.bel hbel) q3);clear q1 q2 q3;(go_wp2_with fail);refine C.out.mono ?_;rintro e w1 ⟨rfl,hb1⟩;have hb2:=hbel.tm hb1;(go_wp2);go_roundw
    case rel=>exact ⟨k+1,by omega,by go_num,hb2⟩
    case measure=>simp [intOf];omega
  · have hlt':¬(k:Int)<(m:Int):=by omega
    (go_wp2_with fail);refine (mcheck_ok n none 0 0 [] wo (Trs.nil _ _) H0.out).mono ?_;rintro e w1 ⟨rfl,hb1⟩;have hb2:=hbel.tm hb1;(go_wp2);go_ret;exact ⟨rfl,hb2⟩
theorem mall2 (n:Int) (g c:Nat) (A B:Option Addr) (m1 m2 c1 c2:Nat) (L M:List TV) (w:World) (hg:g<w.heap.size)
 (q1:w.cell? ⟨g,0,none⟩=some (.slice A m1 c1)) (q2:w.cell? ⟨g,1,none⟩=some (.slice B m2 c2)) (hL:Trs w A m1 L) (hM:Trs w B m2 M) (oL:OkL n L) (oM:OkL n M):
 Calls Tryz.prog 40 #[.int .i64 n,.slice (some ⟨g,0,none⟩) 2 c] w fun e w'=>e=.returned (.int .i64 0)∧Below w.heap.size w w':=by
 refine mall_any n g 2 c (fun k=>if k=0 then A else B) (fun k=>if k=0 then m1 else m2) (fun k=>if k=0 then c1 else c2) (fun k=>if k=0 then L else M) w hg (by omega) ⟨oL.1,oL.2.1,by simp,fun i h=>absurd h (by simp)⟩ fun k hk=> ?_
 rcases Nat.eq_zero_or_pos k with rfl | h
 · exact ⟨q1,hL,oL⟩
 · obtain rfl:k=1:=by omega
   exact ⟨q2,hM,oM⟩
end Go.Proofs.YtehcoffbiplphaaGreat
