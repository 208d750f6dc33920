/- Contracts: term, and the document's example of layer 18 (awake). -/
import Derived.Test.YtehcoffbiplphaaGreatSLwA
import Derived.Test.YtehcoffbiplphaaGreatSRas
set_option linter.unusedVariables false
set_option linter.unusedSimpArgs false
set_option maxHeartbeats 16000000
set_option maxRecDepth 100000
namespace Cl
open Go Go.RowKit Go.Proofs.YtehcoffbiplphaaGreat
theorem trs_block {w:World} {g:Nat} {t:TypeId} {E:List EntT} {cs:Array Value}(h:w.heap[g]? =some (.cells cs t (0,0))) (hcs:cs.toList=tcells E) (hE:E.length≤1000) (hok:∀x∈E,EntOk w x):Trs w (some ⟨g,0,none⟩) E.length (E.map (·.2)):=by
 have hsz:cs.size=E.length*3:=by
  have h1:=congrArg List.length hcs;rw [tcells_length,Array.length_toList] at h1;exact h1
 have ho:w.ownsRow 0 t 3 (.slice (some ⟨g,0,none⟩) E.length E.length) E.length (tcells E):=⟨tcells_length E,.inr ⟨g,E.length,cs,rfl,Nat.zero_le _,h,lRr,by unfold maxLen;omega,hsz,by rw [hcs];exact List.take_of_length_le (by rw [tcells_length];exact lRr)⟩⟩
 obtain ⟨B,d,hv,_,_,ht⟩:=trs_of_own ho rfl hok
 injection hv with hv
 rw [← hv] at ht
 exact ht
def ent2 (neg:Bool) (c x y:Int) (a b:Nat):EntT:=(((some ⟨a,0,none⟩,1),(some ⟨b,0,none⟩,2)),((neg,[c]),[x,y]))
end Cl
namespace Go.Proofs.YtehcoffbiplphaaGreat
open Go.RowKit Cl CRing
attribute [local go_sem ↓] Go.wp_at_zero Go.wp_at_succ
def GivesTe (w:World) (neg:Bool) (c x y:Int) (e:Ending) (w':World):Prop:=∃a b,e=.returned (.agg #[.bool neg,.slice (some ⟨a,0,none⟩) 1 1,.slice (some ⟨b,0,none⟩) 2 2])∧EntOk w' (ent2 neg c x y a b)∧Below w.heap.size w w'
theorem lterm18 (neg:Bool) (c x y:Int) (w:World) (hc:0≤c∧c<18446744073709551616) (hx:I64 x) (hy:I64 y):
 Calls Tryz.prog 24 #[.bool neg,.int .u64 c,.int .i64 x,.int .i64 y] w (GivesTe w neg c x y):=by
 have tr:=((Tri.new 44 w (.bool neg) (.slice (some ⟨w.heap.size+1,0,none⟩) 1 1) (.slice (some ⟨w.heap.size+1+1,0,none⟩) 2 2)).bel (bRr.alloc lRr (.cells #[.int .u64 c] 38))).bel (bRr.alloc lRr (.cells #[.int .i64 x,.int .i64 y] 3))
 have rc:(((w.alloc (.cells #[.bool neg,.slice (some ⟨w.heap.size+1,0,none⟩) 1 1,.slice (some ⟨w.heap.size+1+1,0,none⟩) 2 2] 44)).alloc (.cells #[.int .u64 c] 38)).alloc (.cells #[.int .i64 x,.int .i64 y] 3)).cell? ⟨w.heap.size+1,0,none⟩=some (.int .u64 c):=by
  have h1:((w.alloc (.cells #[.bool neg,.slice (some ⟨w.heap.size+1,0,none⟩) 1 1,.slice (some ⟨w.heap.size+1+1,0,none⟩) 2 2] 44)).alloc (.cells #[.int .u64 c] 38)).heap[w.heap.size+1]? =some (.cells #[.int .u64 c] 38):=by
   have h:=heap_alloc_new (w.alloc (.cells #[.bool neg,.slice (some ⟨w.heap.size+1,0,none⟩) 1 1,.slice (some ⟨w.heap.size+1+1,0,none⟩) 2 2] 44)) (.cells #[.int .u64 c] 38);rwa [World.size_alloc] at h
  have h2:(((w.alloc (.cells #[.bool neg,.slice (some ⟨w.heap.size+1,0,none⟩) 1 1,.slice (some ⟨w.heap.size+1+1,0,none⟩) 2 2] 44)).alloc (.cells #[.int .u64 c] 38)).alloc (.cells #[.int .i64 x,.int .i64 y] 3)).heap[w.heap.size+1]? =some (.cells #[.int .u64 c] 38):=(Below.heap_alloc _ (.cells #[.int .i64 x,.int .i64 y] 3) _ (Array.getElem?_eq_some_iff.1 h1).1).trans h1;rw [cell_of_row _ _ 0 _ _ (0,0) h2];rfl
 have rx:Row (((w.alloc (.cells #[.bool neg,.slice (some ⟨w.heap.size+1,0,none⟩) 1 1,.slice (some ⟨w.heap.size+1+1,0,none⟩) 2 2] 44)).alloc (.cells #[.int .u64 c] 38)).alloc (.cells #[.int .i64 x,.int .i64 y] 3)) (w.heap.size+1+1) 3 [x,y]:=by
  have h:=heap_alloc_new ((w.alloc (.cells #[.bool neg,.slice (some ⟨w.heap.size+1,0,none⟩) 1 1,.slice (some ⟨w.heap.size+1+1,0,none⟩) 2 2] 44)).alloc (.cells #[.int .u64 c] 38)) (.cells #[.int .i64 x,.int .i64 y] 3);rw [World.size_alloc,World.size_alloc] at h;exact h
 have hb:Below w.heap.size w (((w.alloc (.cells #[.bool neg,.slice (some ⟨w.heap.size+1,0,none⟩) 1 1,.slice (some ⟨w.heap.size+1+1,0,none⟩) 2 2] 44)).alloc (.cells #[.int .u64 c] 38)).alloc (.cells #[.int .i64 x,.int .i64 y] 3)):=((bRr.alloc lRr _).alloc (by simp) _).alloc (by simp;omega) _
 have hsz:Hid (w.heap.size+1<(((w.alloc (.cells #[.bool neg,.slice (some ⟨w.heap.size+1,0,none⟩) 1 1,.slice (some ⟨w.heap.size+1+1,0,none⟩) 2 2] 44)).alloc (.cells #[.int .u64 c] 38)).alloc (.cells #[.int .i64 x,.int .i64 y] 3)).heap.size):=by
  show _<_;simp
 have F:Hid (GivesTe w neg c x y (.returned (.agg #[.bool neg,.slice (some ⟨w.heap.size+1,0,none⟩) 1 1,.slice (some ⟨w.heap.size+1+1,0,none⟩) 2 2])) (((w.alloc (.cells #[.bool neg,.slice (some ⟨w.heap.size+1,0,none⟩) 1 1,.slice (some ⟨w.heap.size+1+1,0,none⟩) 2 2] 44)).alloc (.cells #[.int .u64 c] 38)).alloc (.cells #[.int .i64 x,.int .i64 y] 3))):=by
  refine ⟨_,_,rfl,⟨lRr,by show 1≤_;omega,lRr,by show 2≤_;omega,⟨rfl,fun _=>⟨_,0,rfl,hsz.out,fun i hi=> ?_⟩,fun i=> ?_⟩,rx.ints fun i=> ?_⟩,hb⟩
  · have h1:[c].length=1:=rfl
    have e:i=0:=by
     have:i<1:=hi;omega
    rw [e];exact rc
  · match i with
    | 0=>exact hc
    | i+1=>show (0:Int)≤0∧(0:Int)<_;omega
  · match i with
    | 0=>exact hx
    | 1=>exact hy
    | i+2=>show I64 0;constructor<;>omega
 have TR:=hiD tr
 clear tr rc rx hb hsz
 go_enter Tryz.func24,Tryz.ntmps24
 go_wp2_with fail
 exact bodyPost_ret (v:=.agg #[.bool neg,.slice (some ⟨w.heap.size+1,0,none⟩) 1 1,.slice (some ⟨w.heap.size+1+1,0,none⟩) 2 2]) (results_cell_row (fn:=Tryz.f24) rfl _ _ _ _ _ _ _ rfl TR.out Tryz.underlying44 rfl term_size) rfl F.out
theorem fit2 {x y:Nat} {M:Mv}(h:∀t∈M,(nth t.1 0).toNat≤x∧(nth t.1 1).toNat≤y∧t.1.length=2) (ha:absM M≤2^67):Siz.dg (D3 x y 0) (toT 2 M)∧Siz.nm (toT 2 M)≤2^67:=by
 refine ⟨plant_dg 2 0 M _ fun t ht k=> ?_,Nat.le_trans (toT_nm M) ha⟩
 obtain ⟨h1,h2,h3⟩:=h t ht
 rw [Nat.zero_add]
 match k with
 | 0=>exact h1
 | 1=>exact h2
 | k+2=>rw [nth_ge (by omega)];exact Nat.zero_le _
theorem arg2 {L:List TV}(h:∀t∈L,t.2.length=2∧(∀x∈t.2,0≤x∧x≤1000)∧t.1.2.length≤1000) (hl:L.length≤4096):Arg 2 1000 L:=⟨fun t ht=>(h t ht).1,fun t ht=>(h t ht).2.1,fun t ht=>(h t ht).2.2,hl⟩
theorem i64_small {x:Int}(h:0≤x∧x≤1000):I64 x:=by constructor<;>omega
def exA:List TV:=[((false,[1]),[2,0]),((true,[1]),[0,2])]
def exB:List TV:=[((false,[1]),[2,0]),((false,[2]),[1,1]),((false,[1]),[0,2])]
def exC:List TV:=[((false,[4]),[2,1])]
def exG:List TV:=[((false,[1]),[1,0]),((false,[1]),[0,1])]
def exR:List TV:=[((false,[1]),[1,1])]
theorem exA_mv:mvT exA=aw1:=by decide
theorem exB_mv:mvT exB=aw2:=by decide
theorem exC_mv:mvT exC=[([2,1],4)]:=by decide
theorem exG_mv:mvT exG=awS:=by decide
theorem exR_mv:mvT exR=[([1,1],1)]:=by decide
theorem zval_one1 (c:Int) (h:0<c∧c<18446744073709551616):ZVal false [c] (intZ false [c]):=by
 refine ⟨⟨fun i=> ?_,fun _=> ?_⟩,rfl,fun e=>by cases e⟩
 · match i with
   | 0=>exact ⟨by show 0≤c;omega,h.2⟩
   | i+1=>show (0:Int)≤0∧(0:Int)<_;omega
 · show c≠0
   omega
theorem exG_co:∀t∈exG,ZVal t.1.1 t.1.2 (intZ t.1.1 t.1.2):=fun t ht=>by
 unfold exG at ht
 rcases List.mem_cons.1 ht with e | ht
 · rw [e];exact zval_one1 1 (by omega)
 · rw [List.mem_singleton.1 ht];exact zval_one1 1 (by omega)
theorem exR_co:∀t∈exR,ZVal t.1.1 t.1.2 (intZ t.1.1 t.1.2):=fun t ht=>by
 unfold exR at ht
 rw [List.mem_singleton.1 ht];exact zval_one1 1 (by omega)
theorem awake18 (w:World):Calls Tryz.prog 8 #[] w fun e w'=>e=.returned (.bool true)∧Below w.heap.size w w':=by
 have argA:Arg 2 1000 exA:=arg2 (by unfold exA;decide) (by unfold exA;decide)
 have argB:Arg 2 1000 exB:=arg2 (by unfold exB;decide) (by unfold exB;decide)
 have argC:Arg 2 1000 exC:=arg2 (by unfold exC;decide) (by unfold exC;decide)
 have fA:Fit 2 2 2 0 (toT 2 (mvT exA)):=by
  have h:=fit2 (x:=2) (y:=2) (M:=mvT exA) (by rw [exA_mv];unfold aw1;decide) (by rw [exA_mv];exact Nat.le_trans (show absM aw1≤2 by decide) (by decide));exact Fit0.fit ⟨h.1,Nat.le_trans h.2 (Nat.pow_le_pow_right (by omega) (by omega))⟩
 have fB:Fit 2 2 2 0 (toT 2 (mvT exB)):=by
  have h:=fit2 (x:=2) (y:=2) (M:=mvT exB) (by rw [exB_mv];unfold aw2;decide) (by rw [exB_mv];exact Nat.le_trans (show absM aw2≤4 by decide) (by decide));exact Fit0.fit ⟨h.1,Nat.le_trans h.2 (Nat.pow_le_pow_right (by omega) (by omega))⟩
 have fC:=fit2 (x:=2) (y:=1) (M:=mvT exC) (by rw [exC_mv];decide) (by rw [exC_mv];exact Nat.le_trans (show absM [([2,1],4)]≤4 by decide) (by decide))
 have Cg:=hiD (fun (A B:Option Addr) (W:World) (h1:Trs W A 2 exA) (h2:Trs W B 3 exB)=>mgcd_ok 2 2 2 0 (by omega) (by omega) (fun _=>rfl) A B 2 2 3 3 exA exB W h1 h2 argA argB (by omega) (by omega) (by omega) (by omega) fA fB)
 have Cr:=hiD (fun (A:Option Addr) (W:World) (h1:Trs W A 1 exC)=>mRadical_ok 2 2 1 0 (by omega) (by omega) (fun _=>rfl) A 1 1 exC W h1 argC fC.1 fC.2)
 clear argA argB argC fA fB fC
 go_enter Tryz.func8,Tryz.ntmps8
 obtain ⟨wo,rfl⟩:∃wo:World,wo=w:=⟨_,rfl⟩
 have HB0:Hid (Below wo.heap.size wo wo):=bRr
 go_wp2_with fail
 refine (lterm18 false 1 2 0 wo (by omega) (i64_small (by omega)) (i64_small (by omega))).mono ?_
 rintro e v1 ⟨a1,b1,rfl,ok1,hb1⟩
 have HB1:=hiD (HB0.out.tm hb1)
 have OK1:=hiD ok1
 clear ok1 hb1
 go_wp2_with fail
 refine (lterm18 true 1 0 2 v1 (by omega) (i64_small (by omega)) (i64_small (by omega))).mono ?_
 rintro e v2 ⟨a2,b2,rfl,ok2,hb2⟩
 have HB2:=hiD (HB1.out.tm hb2)
 have OK1_2:=hiD (OK1.out.bel hb2)
 clear OK1
 have OK2:=hiD ok2
 clear ok2 hb2
 have bb3:Below v2.heap.size v2 (v2.alloc (.cells #[.bool false,.slice (some ⟨a1,0,none⟩) 1 1,.slice (some ⟨b1,0,none⟩) 2 2,.bool true,.slice (some ⟨a2,0,none⟩) 1 1,.slice (some ⟨b2,0,none⟩) 2 2] 44)):=bRr.alloc lRr _
 have TA:Hid (Trs (v2.alloc (.cells #[.bool false,.slice (some ⟨a1,0,none⟩) 1 1,.slice (some ⟨b1,0,none⟩) 2 2,.bool true,.slice (some ⟨a2,0,none⟩) 1 1,.slice (some ⟨b2,0,none⟩) 2 2] 44)) (some ⟨v2.heap.size,0,none⟩) 2 exA):=trs_block (E:=[ent2 false 1 2 0 a1 b1,ent2 true 1 0 2 a2 b2]) (heap_alloc_new v2 _) rfl (by show 2≤1000;omega) (fun x hx=>by
  simp only [List.mem_cons,List.not_mem_nil,or_false] at hx;rcases hx with rfl | rfl
  · exact OK1_2.out.bel bb3
  · exact OK2.out.bel bb3)
 clear OK1_2
 clear OK2
 have HB3:=hiD (HB2.out.tm bb3)
 go_wp2_with fail
 generalize hw3:v2.alloc (.cells #[.bool false,.slice (some ⟨a1,0,none⟩) 1 1,.slice (some ⟨b1,0,none⟩) 2 2,.bool true,.slice (some ⟨a2,0,none⟩) 1 1,.slice (some ⟨b2,0,none⟩) 2 2] 44)=v3 at*
 clear hw3 bb3
 go_wp2_with fail
 refine (lterm18 false 1 2 0 v3 (by omega) (i64_small (by omega)) (i64_small (by omega))).mono ?_
 rintro e v4 ⟨a4,b4,rfl,ok4,hb4⟩
 have HB4:=hiD (HB3.out.tm hb4)
 have TA_4:=hiD (TA.out.bel hb4)
 clear TA
 have OK4:=hiD ok4
 clear ok4 hb4
 go_wp2_with fail
 refine (lterm18 false 2 1 1 v4 (by omega) (i64_small (by omega)) (i64_small (by omega))).mono ?_
 rintro e v5 ⟨a5,b5,rfl,ok5,hb5⟩
 have HB5:=hiD (HB4.out.tm hb5)
 have TA_5:=hiD (TA_4.out.bel hb5)
 clear TA_4
 have OK4_5:=hiD (OK4.out.bel hb5)
 clear OK4
 have OK5:=hiD ok5
 clear ok5 hb5
 go_wp2_with fail
 refine (lterm18 false 1 0 2 v5 (by omega) (i64_small (by omega)) (i64_small (by omega))).mono ?_
 rintro e v6 ⟨a6,b6,rfl,ok6,hb6⟩
 have HB6:=hiD (HB5.out.tm hb6)
 have TA_6:=hiD (TA_5.out.bel hb6)
 clear TA_5
 have OK4_6:=hiD (OK4_5.out.bel hb6)
 clear OK4_5
 have OK5_6:=hiD (OK5.out.bel hb6)
 clear OK5
 have OK6:=hiD ok6
 clear ok6 hb6
 have bb7:Below v6.heap.size v6 (v6.alloc (.cells #[.bool false,.slice (some ⟨a4,0,none⟩) 1 1,.slice (some ⟨b4,0,none⟩) 2 2,.bool false,.slice (some ⟨a5,0,none⟩) 1 1,.slice (some ⟨b5,0,none⟩) 2 2,.bool false,.slice (some ⟨a6,0,none⟩) 1 1,.slice (some ⟨b6,0,none⟩) 2 2] 44)):=bRr.alloc lRr _
 have TB:Hid (Trs (v6.alloc (.cells #[.bool false,.slice (some ⟨a4,0,none⟩) 1 1,.slice (some ⟨b4,0,none⟩) 2 2,.bool false,.slice (some ⟨a5,0,none⟩) 1 1,.slice (some ⟨b5,0,none⟩) 2 2,.bool false,.slice (some ⟨a6,0,none⟩) 1 1,.slice (some ⟨b6,0,none⟩) 2 2] 44)) (some ⟨v6.heap.size,0,none⟩) 3 exB):=trs_block (E:=[ent2 false 1 2 0 a4 b4,ent2 false 2 1 1 a5 b5,ent2 false 1 0 2 a6 b6]) (heap_alloc_new v6 _) rfl (by show 3≤1000;omega) (fun x hx=>by
  simp only [List.mem_cons,List.not_mem_nil,or_false] at hx;rcases hx with rfl | rfl | rfl
  · exact OK4_6.out.bel bb7
  · exact OK5_6.out.bel bb7
  · exact OK6.out.bel bb7)
 clear OK4_6
 clear OK5_6
 clear OK6
 have HB7:=hiD (HB6.out.tm bb7)
 have TA_7:=hiD (TA_6.out.bel bb7)
 clear TA_6
 go_wp2_with fail
 generalize hw7:v6.alloc (.cells #[.bool false,.slice (some ⟨a4,0,none⟩) 1 1,.slice (some ⟨b4,0,none⟩) 2 2,.bool false,.slice (some ⟨a5,0,none⟩) 1 1,.slice (some ⟨b5,0,none⟩) 2 2,.bool false,.slice (some ⟨a6,0,none⟩) 1 1,.slice (some ⟨b6,0,none⟩) 2 2] 44)=v7 at*
 clear hw7 bb7
 refine (Cg.out _ _ v7 TA_7.out TB.out).mono ?_
 rintro e v8 ⟨g,hg,hp,Ag,cg,Lg,rfl,g1,g2,g3,g4,g5,g6⟩
 have eg:Lg=exG:=by
  have h1:g=toT 2 awS:=by
   rw [exA_mv,exB_mv] at hg;exact aw_gcd.one hg awS_pos hp
  have h2:mvT Lg=mvT exG:=by
   rw [exG_mv,← awS_plain,← h1];exact g4.mv.unique (plT_plain 2 g) g5
  exact mvT_inj g4.co exG_co h2
 subst eg
 have HB8:=hiD (HB7.out.tm g6)
 have TG:=hiD g3
 clear hg hp g1 g2 g3 g4 g5 g6 Cg TA_7 TB
 go_wp2_with fail
 refine (lterm18 false 4 2 1 v8 (by omega) (i64_small (by omega)) (i64_small (by omega))).mono ?_
 rintro e v9 ⟨a9,b9,rfl,ok9,hb9⟩
 have HB9:=hiD (HB8.out.tm hb9)
 have TG_9:=hiD (TG.out.bel hb9)
 clear TG
 have OK9:=hiD ok9
 clear ok9 hb9
 have bb10:Below v9.heap.size v9 (v9.alloc (.cells #[.bool false,.slice (some ⟨a9,0,none⟩) 1 1,.slice (some ⟨b9,0,none⟩) 2 2] 44)):=bRr.alloc lRr _
 have TC:Hid (Trs (v9.alloc (.cells #[.bool false,.slice (some ⟨a9,0,none⟩) 1 1,.slice (some ⟨b9,0,none⟩) 2 2] 44)) (some ⟨v9.heap.size,0,none⟩) 1 exC):=trs_block (E:=[ent2 false 4 2 1 a9 b9]) (heap_alloc_new v9 _) rfl (by show 1≤1000;omega) (fun x hx=>by
  simp only [List.mem_cons,List.not_mem_nil,or_false] at hx;rcases hx with rfl
  · exact OK9.out.bel bb10)
 clear OK9
 have HB10:=hiD (HB9.out.tm bb10)
 have TG_10:=hiD (TG_9.out.bel bb10)
 clear TG_9
 go_wp2_with fail
 generalize hw10:v9.alloc (.cells #[.bool false,.slice (some ⟨a9,0,none⟩) 1 1,.slice (some ⟨b9,0,none⟩) 2 2] 44)=v10 at*
 clear hw10 bb10
 refine (Cr.out _ v10 TC.out).mono ?_
 rintro e v11 (⟨h0,_,_⟩ | ⟨h0,g,r,r',hq,hK,hr,hp,Ar,cr,Lr,rfl,g1,g2,g3,g4,g5,g6⟩)
 · exfalso
   rw [exC_mv] at h0;have h1:toT 2 [([2,1],4)]=V 2 1 4:=toT_V 2 1 4;rw [h1] at h0;exact V_ne (by omega) (prT_zero.1 h0)
 have er:Lr=exR:=by
  rw [exC_mv] at hq hK;have h1:toT 2 [([2,1],4)]=V 2 1 4:=toT_V 2 1 4;rw [h1] at hq hK;have h2:=aw_rad hq hK hr hp;have h3:mvT Lr=mvT exR:=by
   rw [exR_mv];have h4:=V_plain (i:=1) (j:=1) (c:=1) (by omega);rw [← h2] at h4;exact (g4.mv.unique (plT_plain 2 r') g5).trans h4
  exact mvT_inj g4.co exR_co h3
 subst er
 have HB11:=hiD (HB10.out.tm g6)
 have TR:=hiD g3
 have TG_11:=hiD (TG_10.out.bel g6)
 clear h0 hq hK hr hp g1 g2 g3 g4 g5 g6 Cr TC TG_10
 go_wp2_with fail
 refine (lterm18 false 1 1 0 v11 (by omega) (i64_small (by omega)) (i64_small (by omega))).mono ?_
 rintro e v12 ⟨a12,b12,rfl,ok12,hb12⟩
 have HB12:=hiD (HB11.out.tm hb12)
 have TG_12:=hiD (TG_11.out.bel hb12)
 clear TG_11
 have TR_12:=hiD (TR.out.bel hb12)
 clear TR
 have OK12:=hiD ok12
 clear ok12 hb12
 go_wp2_with fail
 refine (lterm18 false 1 0 1 v12 (by omega) (i64_small (by omega)) (i64_small (by omega))).mono ?_
 rintro e v13 ⟨a13,b13,rfl,ok13,hb13⟩
 have HB13:=hiD (HB12.out.tm hb13)
 have TG_13:=hiD (TG_12.out.bel hb13)
 clear TG_12
 have TR_13:=hiD (TR_12.out.bel hb13)
 clear TR_12
 have OK12_13:=hiD (OK12.out.bel hb13)
 clear OK12
 have OK13:=hiD ok13
 clear ok13 hb13
 have bb14:Below v13.heap.size v13 (v13.alloc (.cells #[.bool false,.slice (some ⟨a12,0,none⟩) 1 1,.slice (some ⟨b12,0,none⟩) 2 2,.bool false,.slice (some ⟨a13,0,none⟩) 1 1,.slice (some ⟨b13,0,none⟩) 2 2] 44)):=bRr.alloc lRr _
 have T1:Hid (Trs (v13.alloc (.cells #[.bool false,.slice (some ⟨a12,0,none⟩) 1 1,.slice (some ⟨b12,0,none⟩) 2 2,.bool false,.slice (some ⟨a13,0,none⟩) 1 1,.slice (some ⟨b13,0,none⟩) 2 2] 44)) (some ⟨v13.heap.size,0,none⟩) 2 exG):=trs_block (E:=[ent2 false 1 1 0 a12 b12,ent2 false 1 0 1 a13 b13]) (heap_alloc_new v13 _) rfl (by show 2≤1000;omega) (fun x hx=>by
  simp only [List.mem_cons,List.not_mem_nil,or_false] at hx;rcases hx with rfl | rfl
  · exact OK12_13.out.bel bb14
  · exact OK13.out.bel bb14)
 clear OK12_13
 clear OK13
 have HB14:=hiD (HB13.out.tm bb14)
 have TG_14:=hiD (TG_13.out.bel bb14)
 clear TG_13
 have TR_14:=hiD (TR_13.out.bel bb14)
 clear TR_13
 go_wp2_with fail
 generalize hw14:v13.alloc (.cells #[.bool false,.slice (some ⟨a12,0,none⟩) 1 1,.slice (some ⟨b12,0,none⟩) 2 2,.bool false,.slice (some ⟨a13,0,none⟩) 1 1,.slice (some ⟨b13,0,none⟩) 2 2] 44)=v14 at*
 clear hw14 bb14
 refine (lsame18 _ _ 2 _ _ exG v14 TG_14.out T1.out (by omega)).mono ?_
 rintro e v15 ⟨rfl,hb15⟩
 have HB15:=hiD (HB14.out.tm hb15)
 clear TG_14 T1
 have TR_15:=hiD (TR_14.out.bel hb15)
 clear TR_14
 clear hb15
 go_wp2_with fail
 refine (lterm18 false 1 1 1 v15 (by omega) (i64_small (by omega)) (i64_small (by omega))).mono ?_
 rintro e v16 ⟨a16,b16,rfl,ok16,hb16⟩
 have HB16:=hiD (HB15.out.tm hb16)
 have TR_16:=hiD (TR_15.out.bel hb16)
 clear TR_15
 have OK16:=hiD ok16
 clear ok16 hb16
 have bb17:Below v16.heap.size v16 (v16.alloc (.cells #[.bool false,.slice (some ⟨a16,0,none⟩) 1 1,.slice (some ⟨b16,0,none⟩) 2 2] 44)):=bRr.alloc lRr _
 have T2:Hid (Trs (v16.alloc (.cells #[.bool false,.slice (some ⟨a16,0,none⟩) 1 1,.slice (some ⟨b16,0,none⟩) 2 2] 44)) (some ⟨v16.heap.size,0,none⟩) 1 exR):=trs_block (E:=[ent2 false 1 1 1 a16 b16]) (heap_alloc_new v16 _) rfl (by show 1≤1000;omega) (fun x hx=>by
  simp only [List.mem_cons,List.not_mem_nil,or_false] at hx;rcases hx with rfl
  · exact OK16.out.bel bb17)
 clear OK16
 have HB17:=hiD (HB16.out.tm bb17)
 have TR_17:=hiD (TR_16.out.bel bb17)
 clear TR_16
 go_wp2_with fail
 generalize hw17:v16.alloc (.cells #[.bool false,.slice (some ⟨a16,0,none⟩) 1 1,.slice (some ⟨b16,0,none⟩) 2 2] 44)=v17 at*
 clear hw17 bb17
 refine (lsame18 _ _ 1 _ _ exR v17 TR_17.out T2.out (by omega)).mono ?_
 rintro e v18 ⟨rfl,hb18⟩
 have HB18:=hiD (HB17.out.tm hb18)
 clear TR_17 T2
 clear hb18
 go_wp2_with fail
 go_ret
 exact ⟨rfl,HB18.out⟩
end Go.Proofs.YtehcoffbiplphaaGreat
