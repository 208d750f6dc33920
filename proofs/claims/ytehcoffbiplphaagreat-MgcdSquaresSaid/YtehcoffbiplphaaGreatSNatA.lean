/- Contracts: naturals in limbs, the program's: one limb, limbs carried, sums and differences.
   Contracts: naturals in limbs, the program's: limbs carried, sums and differences.
   Contracts: naturals in limbs, the program's: sums, differences, a limb times a natural.
   Contracts: naturals in limbs, the program's: differences; a limb times a natural.
   Contracts: naturals in limbs, the program's: products, row by row.
   Contracts: naturals in limbs, the program's: products (of which one is short), which of two is greater.
   Contracts: nat.less, nat.moved: towards nat.Mul of any factors.
   Contract: nat.Mul of any factors. -/
import Derived.Test.YtehcoffbiplphaaGreatSLims
import Derived.Laws.Externs
import Derived.Shelf.Spec.BitsCarry
import Derived.Test.YtehcoffbiplphaaGreatSMul64
set_option linter.unusedVariables false
set_option linter.unusedSimpArgs false
set_option maxHeartbeats 4000000
set_option maxRecDepth 100000
namespace Go.Proofs.YtehcoffbiplphaaGreat
open Go.RowKit Cl
attribute [local go_sem ↓] Go.wp_at_zero Go.wp_at_succ
theorem add64_run (x y c:Nat) (hc:c≤1) (w:World):(callFunc 123 #[.int .u64 (x:Int),.int .u64 (y:Int),.int .u64 (c:Int)]).run Tryz.prog w=
 .ok (.value (.tuple #[.int .u64 (((x+y+c) % 18446744073709551616:Nat):Int),.int .u64 (((x+y+c) / 18446744073709551616:Nat):Int)])) w:=by
 rw [run_callFunc_extern Tryz.func123 (by kernel_rfl) (by kernel_rfl) (by kernel_rfl) (e:=add64Entry) (by kernel_rfl),run_add64 x y c (by omega) (by omega) (by omega) (by omega)]
 simp only [Result.andThen]
 congr 5<;>omega
theorem sub64_run (x y b:Nat) (hb:b≤1) (w:World):(callFunc 127 #[.int .u64 (x:Int),.int .u64 (y:Int),.int .u64 (b:Int)]).run Tryz.prog w=
 .ok (.value (.tuple #[.int .u64 (((x+18446744073709551616 - y - b) % 18446744073709551616:Nat):Int),.int .u64 ((if x<y+b then 1 else 0:Nat):Int)])) w:=by
 rw [run_callFunc_extern Tryz.func127 (by kernel_rfl) (by kernel_rfl) (by kernel_rfl) (e:=sub64Entry) (by kernel_rfl),run_sub64 x y b hb]
 rfl
theorem nat_at (A:Option Addr) (n c:Nat) (xs:List Int) (k:Nat) (w:World) (hx:Limbs w A n xs) (hn:n≤9223372036854775807) (hk:k≤9223372036854775807):
 Calls Tryz.prog 124 #[.slice A n c,.int .i64 (k:Int)] w fun e w'=>e=.returned (.int .u64 (nth xs k))∧w=w':=by
 by_cases hlt:k<n
 · obtain ⟨b,o,rfl,hb,hc⟩:=hx.at_ (by omega)
   have h1:=hc k hlt;have hlt':(k:Int)<(n:Int):=by omega
   have hk0:(0:Int)≤(k:Int):=by omega
   clear hc hx;go_enter Tryz.func124,Tryz.ntmps124
   go_wp2
   go_ret;exact ⟨rfl,rfl⟩
 · have hlt':¬(k:Int)<(n:Int):=by omega
   have hz:Hid (nth xs k=0):=nth_ge (by rw [hx.len];omega);clear hx;go_enter Tryz.func124,Tryz.ntmps124
   go_wp2
   go_ret;rw [hz.out];exact ⟨rfl,rfl⟩
theorem nat_add1 (A B:Option Addr) (n m c d ga gb:Nat) (xs ys:List Int) (k q:Nat) (w:World) (ha:w.cell? ⟨ga,0,none⟩=some (.slice A n c)) (hb:w.cell? ⟨gb,0,none⟩=some (.slice B m d)) (hx:Limbs w A n xs) (hy:Limbs w B m ys)
 (hn:n≤9223372036854775807) (hm:m≤9223372036854775807) (hk:k≤9223372036854775807) (hq:q≤1):
 Calls Tryz.prog 122 #[.int .i64 (k:Int),.int .u64 (q:Int),.pointer (some ⟨ga,0,none⟩),.pointer (some ⟨gb,0,none⟩)] w fun e w'=>e=.returned (.tuple #[.int .u64 ((addF xs ys k q).1:Int),.int .u64 ((addF xs ys k q).2:Int)])∧∃j,w'=w.drewN j:=by
 have C1:=hiD (fun W (h:Limbs W A n xs)=>nat_at A n c xs k W h hn hk)
 have C2:=hiD (fun W (h:Limbs W B m ys)=>nat_at B m d ys k W h hm hk)
 have h1:=hx.ok k
 have h2:=hy.ok k
 obtain ⟨u,hu⟩:∃u:Nat,nth xs k=(u:Int):=⟨(nth xs k).toNat,by omega⟩
 obtain ⟨v,hv⟩:∃v:Nat,nth ys k=(v:Int):=⟨(nth ys k).toNat,by omega⟩
 have qa:∀W,(callFunc 123 #[.int .u64 (u:Int),.int .u64 (v:Int),.int .u64 (q:Int)]).run Tryz.prog W=.ok (.value (.tuple #[.int .u64 ((addF xs ys k q).1:Int),.int .u64 ((addF xs ys k q).2:Int)])) W:=fun W=>by
  rw [add64_run u v q hq W];unfold addF;simp only [hu,hv,Int.toNat_natCast]
 rw [hu] at C1
 rw [hv] at C2
 generalize (addF xs ys k q).1=r1 at*
 generalize (addF xs ys k q).2=r2 at*
 have Hx:=hiD hx
 have Hy:=hiD hy
 clear hu hv h1 h2 hx hy
 go_enter Tryz.func122,Tryz.ntmps122
 go_wp2_with fail
 go_quiet (first
  | ((go_at_call 124);(with_reducible show Calls _ _ #[.slice A n c,_] _ _);first | exact quiet_add_left (C1.out _ (Hx.out.drewN _)) | exact quiet_left (C1.out _ (Hx.out.drewN _)))
  | ((go_at_call 124);(with_reducible show Calls _ _ #[.slice B m d,_] _ _);first | exact quiet_add_left (C2.out _ (Hy.out.drewN _)) | exact quiet_left (C2.out _ (Hy.out.drewN _))))
 go_wp2_with fail
 go_ret2
 exact ⟨rfl,_,rfl⟩
end Go.Proofs.YtehcoffbiplphaaGreat
namespace Go.Proofs.YtehcoffbiplphaaGreat
open Go.RowKit Cl
attribute [local go_sem ↓] Go.wp_at_zero Go.wp_at_succ
theorem nat_sub1 (A B:Option Addr) (n m c d ga gb:Nat) (xs ys:List Int) (k q:Nat) (w:World) (ha:w.cell? ⟨ga,0,none⟩=some (.slice A n c)) (hb:w.cell? ⟨gb,0,none⟩=some (.slice B m d)) (hx:Limbs w A n xs) (hy:Limbs w B m ys)
 (hn:n≤9223372036854775807) (hm:m≤9223372036854775807) (hk:k≤9223372036854775807) (hq:q≤1):
 Calls Tryz.prog 126 #[.int .i64 (k:Int),.int .u64 (q:Int),.pointer (some ⟨ga,0,none⟩),.pointer (some ⟨gb,0,none⟩)] w fun e w'=>e=.returned (.tuple #[.int .u64 ((subF xs ys k q).1:Int),.int .u64 ((subF xs ys k q).2:Int)])∧∃j,w'=w.drewN j:=by
 have C1:=hiD (fun W (h:Limbs W A n xs)=>nat_at A n c xs k W h hn hk)
 have C2:=hiD (fun W (h:Limbs W B m ys)=>nat_at B m d ys k W h hm hk)
 have h1:=hx.ok k
 have h2:=hy.ok k
 obtain ⟨u,hu⟩:∃u:Nat,nth xs k=(u:Int):=⟨(nth xs k).toNat,by omega⟩
 obtain ⟨v,hv⟩:∃v:Nat,nth ys k=(v:Int):=⟨(nth ys k).toNat,by omega⟩
 have qa:∀W,(callFunc 127 #[.int .u64 (u:Int),.int .u64 (v:Int),.int .u64 (q:Int)]).run Tryz.prog W=.ok (.value (.tuple #[.int .u64 ((subF xs ys k q).1:Int),.int .u64 ((subF xs ys k q).2:Int)])) W:=fun W=>by
  rw [sub64_run u v q hq W];unfold subF;simp only [hu,hv,Int.toNat_natCast]
 rw [hu] at C1
 rw [hv] at C2
 generalize (subF xs ys k q).1=r1 at*
 generalize (subF xs ys k q).2=r2 at*
 have Hx:=hiD hx
 have Hy:=hiD hy
 clear hu hv h1 h2 hx hy
 go_enter Tryz.func126,Tryz.ntmps126
 go_wp2_with fail
 go_quiet (first
  | ((go_at_call 124);(with_reducible show Calls _ _ #[.slice A n c,_] _ _);first | exact quiet_add_left (C1.out _ (Hx.out.drewN _)) | exact quiet_left (C1.out _ (Hx.out.drewN _)))
  | ((go_at_call 124);(with_reducible show Calls _ _ #[.slice B m d,_] _ _);first | exact quiet_add_left (C2.out _ (Hy.out.drewN _)) | exact quiet_left (C2.out _ (Hy.out.drewN _))))
 go_wp2_with fail
 go_ret2
 exact ⟨rfl,_,rfl⟩
theorem nat_carriedA (p1 p2:Option Addr) (f:Nat→Nat→Nat×Nat) (n cb:Nat) (w:World) (hn:n≤17500000000000) (hfc:∀k,k≤n→(carL f k).2<cb)
 (hF:∀(k c:Nat) (W:World),k<n→c<cb→Below w.heap.size w W→Calls Tryz.prog 122 #[.int .i64 (k:Int),.int .u64 (c:Int),.pointer p1,.pointer p2] W fun e w'=>e=.returned (.tuple #[.int .u64 ((f k c).1:Int),.int .u64 ((f k c).2:Int)])∧∃j,w'=W.drewN j):
 Calls Tryz.prog 121 #[.int .i64 (n:Int),.func (.func 122) #[] #[.pointer p1,.pointer p2]] w fun e w'=>e=.returned (.tuple #[.slice (some ⟨w.heap.size,0,none⟩) n n,.int .u64 ((carL f n).2:Int)])∧RowL w' w.heap.size 38 (carL f n).1∧Below w.heap.size w w':=by
 obtain ⟨i0,hi,hz0,hz1,hz2⟩:=info_parts uint_info
 have hmk:=run_make_limbs Tryz.underlying39 hi hz0 hz1 hz2 n (by omega) w
 have HF:=hiD hF
 have Hfc:=hiD hfc
 have hr0:Hid (RowL (w.alloc (.cells (lmbs (List.replicate n 0)).toArray 38)) w.heap.size 38 (midL f n 0)):=by
  show RowL _ _ _ _;rw [midL_zero];exact RowL.new w _ _
 have hb0:Below w.heap.size w (w.alloc (.cells (lmbs (List.replicate n 0)).toArray 38)):=bRr.alloc lRr _
 clear hF hfc
 generalize (lmbs (List.replicate n 0)).toArray=cs at*
 go_enter Tryz.func121,Tryz.ntmps121
 go_wp2_with fail
 clear hmk
 go_loopw [7,13] (fun cv i wr=>∃k:Nat,k≤n∧cv=.int .u64 ((carL f k).2:Int)∧i=.int .i64 (k:Int)∧Hid (RowL wr w.heap.size 38 (midL f n k))∧Below w.heap.size w wr) (fun _ i _=>n - (intOf i).toNat)
 case atStart=>exact ⟨0,by omega,rfl,rfl,hr0,hb0⟩
 case round=>
  obtain ⟨k,hk,rfl,rfl,hrow,hbel⟩:=hrel;by_cases hlt:k<n
  · have hlt':(k:Int)<(n:Int):=by omega
    (have hk0:(0:Int)≤(k:Int):=by omega);have hc:=Hfc.out k hk;have C:=hiD (HF.out k (carL f k).2 wr hlt hc hbel);have e2:Hid ((carL f (k+1)).2=(f k (carL f k).2).2):=rfl;have hset:=hrow.out.set k ((f k (carL f k).2).1:Int);rw [midL_set f hlt] at hset;have Hset:=hiD hset;have hfz:=hrow.out.frozen k;have hcl:=hrow.out.cell (i:=k) (by rw [midL_length f hk];exact hlt);have hbs:=hbel.setCell (p:=⟨w.heap.size,k,none⟩) lRr (.int .u64 ((f k (carL f k).2).1:Int));clear hset;generalize hcc:(carL f k).2=q at*
    (go_wp2_with fail);refine C.out.mono ?_;rintro e w1 ⟨rfl,j,rfl⟩;have hfz2:(wr.drewN j).frozen? ⟨w.heap.size,k,none⟩=false:=hfz;have hcl2:(wr.drewN j).cell? ⟨w.heap.size,k,none⟩=some (.int .u64 (nth (midL f n k) k)):=hcl;(go_wp2_with fail);go_roundw
    case rel=>exact ⟨k+1,by omega,by rw [e2.out],by go_num,by first | exact Hset | exact Hset.out.drewN j,by first | exact hbs | exact below_drewN hbs _⟩
    case measure=>simp [intOf];omega
  · obtain rfl:k=n:=by omega
    (have hlt':¬(k:Int)<(k:Int):=by omega);have hr:=hrow.out;rw [midL_full] at hr;have Hr:=hiD hr;clear hr hrow;(go_wp2_with fail);go_ret2;exact ⟨rfl,Hr.out,hbel⟩
theorem nat_carriedS (p1 p2:Option Addr) (f:Nat→Nat→Nat×Nat) (n cb:Nat) (w:World) (hn:n≤17500000000000) (hfc:∀k,k≤n→(carL f k).2<cb)
 (hF:∀(k c:Nat) (W:World),k<n→c<cb→Below w.heap.size w W→Calls Tryz.prog 126 #[.int .i64 (k:Int),.int .u64 (c:Int),.pointer p1,.pointer p2] W fun e w'=>e=.returned (.tuple #[.int .u64 ((f k c).1:Int),.int .u64 ((f k c).2:Int)])∧∃j,w'=W.drewN j):
 Calls Tryz.prog 121 #[.int .i64 (n:Int),.func (.func 126) #[] #[.pointer p1,.pointer p2]] w fun e w'=>e=.returned (.tuple #[.slice (some ⟨w.heap.size,0,none⟩) n n,.int .u64 ((carL f n).2:Int)])∧RowL w' w.heap.size 38 (carL f n).1∧Below w.heap.size w w':=by
 obtain ⟨i0,hi,hz0,hz1,hz2⟩:=info_parts uint_info
 have hmk:=run_make_limbs Tryz.underlying39 hi hz0 hz1 hz2 n (by omega) w
 have HF:=hiD hF
 have Hfc:=hiD hfc
 have hr0:Hid (RowL (w.alloc (.cells (lmbs (List.replicate n 0)).toArray 38)) w.heap.size 38 (midL f n 0)):=by
  show RowL _ _ _ _;rw [midL_zero];exact RowL.new w _ _
 have hb0:Below w.heap.size w (w.alloc (.cells (lmbs (List.replicate n 0)).toArray 38)):=bRr.alloc lRr _
 clear hF hfc
 generalize (lmbs (List.replicate n 0)).toArray=cs at*
 go_enter Tryz.func121,Tryz.ntmps121
 go_wp2_with fail
 clear hmk
 go_loopw [7,13] (fun cv i wr=>∃k:Nat,k≤n∧cv=.int .u64 ((carL f k).2:Int)∧i=.int .i64 (k:Int)∧Hid (RowL wr w.heap.size 38 (midL f n k))∧Below w.heap.size w wr) (fun _ i _=>n - (intOf i).toNat)
 case atStart=>exact ⟨0,by omega,rfl,rfl,hr0,hb0⟩
 case round=>
  obtain ⟨k,hk,rfl,rfl,hrow,hbel⟩:=hrel;by_cases hlt:k<n
  · have hlt':(k:Int)<(n:Int):=by omega
    (have hk0:(0:Int)≤(k:Int):=by omega);have hc:=Hfc.out k hk;have C:=hiD (HF.out k (carL f k).2 wr hlt hc hbel);have e2:Hid ((carL f (k+1)).2=(f k (carL f k).2).2):=rfl;have hset:=hrow.out.set k ((f k (carL f k).2).1:Int);rw [midL_set f hlt] at hset;have Hset:=hiD hset;have hfz:=hrow.out.frozen k;have hcl:=hrow.out.cell (i:=k) (by rw [midL_length f hk];exact hlt);have hbs:=hbel.setCell (p:=⟨w.heap.size,k,none⟩) lRr (.int .u64 ((f k (carL f k).2).1:Int));clear hset;generalize hcc:(carL f k).2=q at*
    (go_wp2_with fail);refine C.out.mono ?_;rintro e w1 ⟨rfl,j,rfl⟩;have hfz2:(wr.drewN j).frozen? ⟨w.heap.size,k,none⟩=false:=hfz;have hcl2:(wr.drewN j).cell? ⟨w.heap.size,k,none⟩=some (.int .u64 (nth (midL f n k) k)):=hcl;(go_wp2_with fail);go_roundw
    case rel=>exact ⟨k+1,by omega,by rw [e2.out],by go_num,by first | exact Hset | exact Hset.out.drewN j,by first | exact hbs | exact below_drewN hbs _⟩
    case measure=>simp [intOf];omega
  · obtain rfl:k=n:=by omega
    (have hlt':¬(k:Int)<(k:Int):=by omega);have hr:=hrow.out;rw [midL_full] at hr;have Hr:=hiD hr;clear hr hrow;(go_wp2_with fail);go_ret2;exact ⟨rfl,Hr.out,hbel⟩
theorem nat_carriedR (p1 p2:Option Addr) (f:Nat→Nat→Nat×Nat) (n cb:Nat) (w:World) (hn:n≤17500000000000) (hfc:∀k,k≤n→(carL f k).2<cb)
 (hF:∀(k c:Nat) (W:World),k<n→c<cb→Below w.heap.size w W→Calls Tryz.prog 144 #[.int .i64 (k:Int),.int .u64 (c:Int),.pointer p1,.pointer p2] W fun e w'=>e=.returned (.tuple #[.int .u64 ((f k c).1:Int),.int .u64 ((f k c).2:Int)])∧∃j,w'=W.drewN j):
 Calls Tryz.prog 121 #[.int .i64 (n:Int),.func (.func 144) #[] #[.pointer p1,.pointer p2]] w fun e w'=>e=.returned (.tuple #[.slice (some ⟨w.heap.size,0,none⟩) n n,.int .u64 ((carL f n).2:Int)])∧RowL w' w.heap.size 38 (carL f n).1∧Below w.heap.size w w':=by
 obtain ⟨i0,hi,hz0,hz1,hz2⟩:=info_parts uint_info
 have hmk:=run_make_limbs Tryz.underlying39 hi hz0 hz1 hz2 n (by omega) w
 have HF:=hiD hF
 have Hfc:=hiD hfc
 have hr0:Hid (RowL (w.alloc (.cells (lmbs (List.replicate n 0)).toArray 38)) w.heap.size 38 (midL f n 0)):=by
  show RowL _ _ _ _;rw [midL_zero];exact RowL.new w _ _
 have hb0:Below w.heap.size w (w.alloc (.cells (lmbs (List.replicate n 0)).toArray 38)):=bRr.alloc lRr _
 clear hF hfc
 generalize (lmbs (List.replicate n 0)).toArray=cs at*
 go_enter Tryz.func121,Tryz.ntmps121
 go_wp2_with fail
 clear hmk
 go_loopw [7,13] (fun cv i wr=>∃k:Nat,k≤n∧cv=.int .u64 ((carL f k).2:Int)∧i=.int .i64 (k:Int)∧Hid (RowL wr w.heap.size 38 (midL f n k))∧Below w.heap.size w wr) (fun _ i _=>n - (intOf i).toNat)
 case atStart=>exact ⟨0,by omega,rfl,rfl,hr0,hb0⟩
 case round=>
  obtain ⟨k,hk,rfl,rfl,hrow,hbel⟩:=hrel;by_cases hlt:k<n
  · have hlt':(k:Int)<(n:Int):=by omega
    (have hk0:(0:Int)≤(k:Int):=by omega);have hc:=Hfc.out k hk;have C:=hiD (HF.out k (carL f k).2 wr hlt hc hbel);have e2:Hid ((carL f (k+1)).2=(f k (carL f k).2).2):=rfl;have hset:=hrow.out.set k ((f k (carL f k).2).1:Int);rw [midL_set f hlt] at hset;have Hset:=hiD hset;have hfz:=hrow.out.frozen k;have hcl:=hrow.out.cell (i:=k) (by rw [midL_length f hk];exact hlt);have hbs:=hbel.setCell (p:=⟨w.heap.size,k,none⟩) lRr (.int .u64 ((f k (carL f k).2).1:Int));clear hset;generalize hcc:(carL f k).2=q at*
    (go_wp2_with fail);refine C.out.mono ?_;rintro e w1 ⟨rfl,j,rfl⟩;have hfz2:(wr.drewN j).frozen? ⟨w.heap.size,k,none⟩=false:=hfz;have hcl2:(wr.drewN j).cell? ⟨w.heap.size,k,none⟩=some (.int .u64 (nth (midL f n k) k)):=hcl;(go_wp2_with fail);go_roundw
    case rel=>exact ⟨k+1,by omega,by rw [e2.out],by go_num,by first | exact Hset | exact Hset.out.drewN j,by first | exact hbs | exact below_drewN hbs _⟩
    case measure=>simp [intOf];omega
  · obtain rfl:k=n:=by omega
    (have hlt':¬(k:Int)<(k:Int):=by omega);have hr:=hrow.out;rw [midL_full] at hr;have Hr:=hiD hr;clear hr hrow;(go_wp2_with fail);go_ret2;exact ⟨rfl,Hr.out,hbel⟩
end Go.Proofs.YtehcoffbiplphaaGreat
namespace Go.Proofs.YtehcoffbiplphaaGreat
open Go.RowKit Cl
attribute [local go_sem ↓] Go.wp_at_zero Go.wp_at_succ
def GivesNew (w:World) (xs:List Int) (e:Ending) (w':World):Prop:=
 ∃A n c,e=.returned (.slice A n c)∧n≤c∧c≤9223372036854775807∧Limbs w' A n xs∧(∀x,A=some x→w.heap.size≤x.block)∧Below w.heap.size w w'
def addL (xs ys:List Int):List Int:=
 let r:=carL (addF xs ys) (max xs.length ys.length)
 let z:=r.1++[(r.2:Int)]
 z.take (lmN z (max xs.length ys.length+1))
theorem addL_spec {xs ys:List Int}(hx:IsLimbs xs) (hy:IsLimbs ys):PlainL (addL xs ys)∧limbs (addL xs ys)=limbs xs+limbs ys∧(addL xs ys).length≤max xs.length ys.length+1:=by
 obtain ⟨h1,h2⟩:=addF_val hx hy (max xs.length ys.length)
 rw [limbs_take_all (Nat.le_max_left _ _),limbs_take_all (Nat.le_max_right _ _)] at h2
 have hl:=carL_length (addF xs ys) (max xs.length ys.length)
 have hok:=carL_ok (addF_lt xs ys) (max xs.length ys.length)
 unfold addL
 generalize carL (addF xs ys) (max xs.length ys.length)=r at*
 obtain ⟨u,v⟩:=r
 simp only at h1 h2 hl hok ⊢
 have hz:IsLimbs (u++[(v:Int)]):=hok.snoc (by omega) (by omega)
 obtain ⟨p1,p2⟩:=plainL_take hz (n:=max xs.length ys.length+1) (by rw [List.length_append,hl];rfl)
 refine ⟨p1,by rw [p2,limbs_snoc,hl,Int.toNat_natCast,h2],?_⟩
 have:=lmN_le (u++[(v:Int)]) (max xs.length ys.length+1)
 rw [List.length_take];omega
theorem nat_add (A B:Option Addr) (n m c d:Nat) (xs ys:List Int) (w:World) (hx:Limbs w A n xs) (hy:Limbs w B m ys) (hn:n≤8500000000000) (hm:m≤8500000000000):
 Calls Tryz.prog 87 #[.slice A n c,.slice B m d] w (GivesNew w (addL xs ys)):=by
 obtain ⟨i0,hi,hz0,hz1,hz2⟩:=info_parts uint_info
 have hxl:=hx.len
 have hyl:=hy.len
 obtain ⟨k,hk⟩:∃k:Nat,k=max n m:=⟨_,rfl⟩
 have hk8:k≤8500000000000:=by omega
 have hval:=hiD (addF_val hx.ok hy.ok k)
 have hok:=hiD (carL_ok (addF_lt xs ys) k)
 have hlen:=hiD (carL_length (addF xs ys) k)
 have hres:Hid (addL xs ys=((carL (addF xs ys) k).1++[((carL (addF xs ys) k).2:Int)]).take (lmN ((carL (addF xs ys) k).1++[((carL (addF xs ys) k).2:Int)]) (k+1))):=by
  show _=_;unfold addL;rw [hxl,hyl,← hk]
 have hspl:Hid (PlainL (addL xs ys)):=(addL_spec hx.ok hy.ok).1
 have hal0:Below w.heap.size w ((w.alloc (.cells #[.slice A n c] 39)).alloc (.cells #[.slice B m d] 39)):=(bRr.alloc lRr _).alloc (by simp) _
 have ca:((w.alloc (.cells #[.slice A n c] 39)).alloc (.cells #[.slice B m d] 39)).cell? ⟨w.heap.size,0,none⟩=some (.slice A n c):=cell_old0 _ _ _ _
 have cb:((w.alloc (.cells #[.slice A n c] 39)).alloc (.cells #[.slice B m d] 39)).cell? ⟨w.heap.size+1,0,none⟩=some (.slice B m d):=cell_new1 _ _ _ _
 have Hx:=hiD (hx.bel hal0)
 have Hy:=hiD (hy.bel hal0)
 have Hca:=hiD ca
 have Hcb:=hiD cb
 have C:Hid (Calls Tryz.prog 121 #[.int .i64 (k:Int),.func (.func 122) #[] #[.pointer (some ⟨w.heap.size,0,none⟩),.pointer (some ⟨w.heap.size+1,0,none⟩)]] ((w.alloc (.cells #[.slice A n c] 39)).alloc (.cells #[.slice B m d] 39)) fun e w'=>e=.returned (.tuple #[.slice (some ⟨w.heap.size+1+1,0,none⟩) k k,.int .u64 ((carL (addF xs ys) k).2:Int)])∧RowL w' (w.heap.size+1+1) 38 (carL (addF xs ys) k).1∧Below (w.heap.size+1+1) ((w.alloc (.cells #[.slice A n c] 39)).alloc (.cells #[.slice B m d] 39)) w'):=by
  have h:=nat_carriedA (some ⟨w.heap.size,0,none⟩) (some ⟨w.heap.size+1,0,none⟩) (addF xs ys) k 2 ((w.alloc (.cells #[.slice A n c] 39)).alloc (.cells #[.slice B m d] 39)) (by omega) (fun j hj=>by have:=(addF_val hx.ok hy.ok j).1;omega) (fun j q W hj hq hW=> ?_)
  · simp only [World.size_alloc] at h
    exact h
  · have hs:=hW.size
    simp only [World.size_alloc] at hs hW;exact nat_add1 A B n m c d w.heap.size (w.heap.size+1) xs ys j q W ((hW.cell (p:=⟨w.heap.size,0,none⟩) (by show w.heap.size<_;omega)).trans Hca.out) ((hW.cell (p:=⟨w.heap.size+1,0,none⟩) (by show w.heap.size+1<_;omega)).trans Hcb.out) (Hx.out.below hW (by simp)) (Hy.out.below hW (by simp)) (by omega) (by omega) (by omega) (by omega)
 clear hx hy hxl hyl ca cb Hca Hcb
 rcases Nat.lt_trichotomy m n with hmn | hmn | hmn
 · obtain rfl:k=n:=by omega
   have hmx:¬(k:Int)≤(m:Int):=by omega
   have hmx2:(m:Int)<(k:Int):=by omega
   clear hk;go_enter Tryz.func87,Tryz.ntmps87
   go_wp2_with fail
   refine C.out.mono ?_;rintro e w1 ⟨rfl,hrow,hb1⟩;have hb01:Below w.heap.size w w1:=hal0.trans (hb1.mono (by omega));have hc1:(carL (addF xs ys) k).2<18446744073709551616:=by have:=hval.out.1;omega
   have Hrow:=hiD hrow;have hs1:w.heap.size+1+1<w1.heap.size:=hrow.lt;have hown0:Hid (w1.ownsRow (w.heap.size+1+1) 38 1 (.slice (some ⟨w.heap.size+1+1,0,none⟩) k k) k (lmbs (carL (addF xs ys) k).1)):=by
    have h:=hrow.own lRr (n:=k) (by rw [hlen.out];exact lRr) (by rw [hlen.out];unfold maxLen;omega);rw [hlen.out,List.take_of_length_le (by rw [hlen.out];exact lRr)] at h;exact h
   clear C hrow Hx Hy;generalize (carL (addF xs ys) k).2=q at*
   generalize (carL (addF xs ys) k).1=us at*
   go_wp2_with (at_builtin;refine wpList_append_lies _ (by rfl) _ _ _ (by rfl) (w.heap.size+1+1) 38 i0 _ 1 8 Tryz.underlying39 hi hz0 hz1 hz2 rfl (by omega) (.slice (some ⟨w.heap.size+1+1,0,none⟩) k k) k (lmbs us) (by rfl) (hown0.out.alloc _) ⟨w1.heap.size,0,none⟩ 1 1 [.int .u64 (q:Int)] (by rfl) (by rfl) (World.news_of_block (cs:=#[.int .u64 (q:Int)]) (t:=38) (fr:=(0,0)) (heap_alloc_new w1 _)) (by simp [Value.oneCell']) (by omega) (by unfold maxLen;omega) (by omega) (by simp;omega) (w1.heap.size+1) (by simp) ?_;intro gg cap w2 hown2 hgrow hat hlt2)
   have hb02:Below w.heap.size w w2:=((hb01.alloc hb01.size _)).grown hgrow (by simp;omega) (fun j hj=>by have:=(hown0.out.lt j hj).1;omega);have hzz:lmbs us++[.int .u64 (q:Int)]=lmbs (us++[(q:Int)]):=by rw [lmbs_append];rfl
   rw [hzz] at hown2;have hL2:Limbs w2 (some ⟨gg,0,none⟩) (k+1) (us++[(q:Int)]):=Limbs.of_own hown2 (hok.out.snoc (by omega) (by omega));have hcap:k+1≤cap∧cap≤9223372036854775807:=by
    rcases hown2.2 with ⟨hv,h0⟩ | ⟨g',cap',cur,hv,_,_,hnc,hcm,_⟩
    · omega
    · injection hv with _ _ e
      unfold maxLen at hcm;omega
   have hgge:=(hown2.lt gg rfl).1;have HL2:=hiD hL2;clear hown2 hgrow hat hlt2 hzz hL2 hval;go_wp2_with fail
   refine (nplain_any (some ⟨gg,0,none⟩) (k+1) cap (us++[(q:Int)]) w2 HL2.out hcap.1 hcap.2).mono ?_;rintro e w3 ⟨rfl,rfl⟩;have hlm:=lmN_le (us++[(q:Int)]) (k+1);go_wp2_with fail
   go_ret;refine ⟨some ⟨gg,0,none⟩,_,cap,rfl,by omega,hcap.2,?_,fun x hx=> ?_,hb02⟩
   · rw [hres.out]
     exact HL2.out.take hlm
   · injection hx with hx
     rw [← hx];show w.heap.size≤gg;omega
 · obtain rfl:k=n:=by omega
   obtain rfl:k=m:=by omega
   have hmx:max (k:Int) (k:Int)=(k:Int):=by omega
   clear hk;go_enter Tryz.func87,Tryz.ntmps87
   go_wp2_with fail
   refine C.out.mono ?_;rintro e w1 ⟨rfl,hrow,hb1⟩;have hb01:Below w.heap.size w w1:=hal0.trans (hb1.mono (by omega));have hc1:(carL (addF xs ys) k).2<18446744073709551616:=by have:=hval.out.1;omega
   have Hrow:=hiD hrow;have hs1:w.heap.size+1+1<w1.heap.size:=hrow.lt;have hown0:Hid (w1.ownsRow (w.heap.size+1+1) 38 1 (.slice (some ⟨w.heap.size+1+1,0,none⟩) k k) k (lmbs (carL (addF xs ys) k).1)):=by
    have h:=hrow.own lRr (n:=k) (by rw [hlen.out];exact lRr) (by rw [hlen.out];unfold maxLen;omega);rw [hlen.out,List.take_of_length_le (by rw [hlen.out];exact lRr)] at h;exact h
   clear C hrow Hx Hy;generalize (carL (addF xs ys) k).2=q at*
   generalize (carL (addF xs ys) k).1=us at*
   go_wp2_with (at_builtin;refine wpList_append_lies _ (by rfl) _ _ _ (by rfl) (w.heap.size+1+1) 38 i0 _ 1 8 Tryz.underlying39 hi hz0 hz1 hz2 rfl (by omega) (.slice (some ⟨w.heap.size+1+1,0,none⟩) k k) k (lmbs us) (by rfl) (hown0.out.alloc _) ⟨w1.heap.size,0,none⟩ 1 1 [.int .u64 (q:Int)] (by rfl) (by rfl) (World.news_of_block (cs:=#[.int .u64 (q:Int)]) (t:=38) (fr:=(0,0)) (heap_alloc_new w1 _)) (by simp [Value.oneCell']) (by omega) (by unfold maxLen;omega) (by omega) (by simp;omega) (w1.heap.size+1) (by simp) ?_;intro gg cap w2 hown2 hgrow hat hlt2)
   have hb02:Below w.heap.size w w2:=((hb01.alloc hb01.size _)).grown hgrow (by simp;omega) (fun j hj=>by have:=(hown0.out.lt j hj).1;omega);have hzz:lmbs us++[.int .u64 (q:Int)]=lmbs (us++[(q:Int)]):=by rw [lmbs_append];rfl
   rw [hzz] at hown2;have hL2:Limbs w2 (some ⟨gg,0,none⟩) (k+1) (us++[(q:Int)]):=Limbs.of_own hown2 (hok.out.snoc (by omega) (by omega));have hcap:k+1≤cap∧cap≤9223372036854775807:=by
    rcases hown2.2 with ⟨hv,h0⟩ | ⟨g',cap',cur,hv,_,_,hnc,hcm,_⟩
    · omega
    · injection hv with _ _ e
      unfold maxLen at hcm;omega
   have hgge:=(hown2.lt gg rfl).1;have HL2:=hiD hL2;clear hown2 hgrow hat hlt2 hzz hL2 hval;go_wp2_with fail
   refine (nplain_any (some ⟨gg,0,none⟩) (k+1) cap (us++[(q:Int)]) w2 HL2.out hcap.1 hcap.2).mono ?_;rintro e w3 ⟨rfl,rfl⟩;have hlm:=lmN_le (us++[(q:Int)]) (k+1);go_wp2_with fail
   go_ret;refine ⟨some ⟨gg,0,none⟩,_,cap,rfl,by omega,hcap.2,?_,fun x hx=> ?_,hb02⟩
   · rw [hres.out]
     exact HL2.out.take hlm
   · injection hx with hx
     rw [← hx];show w.heap.size≤gg;omega
 · obtain rfl:k=m:=by omega
   have hmx:(n:Int)≤(k:Int):=by omega
   have hmx2:(n:Int)<(k:Int):=by omega
   have hmx3:¬(k:Int)≤(n:Int):=by omega
   have hmx4:¬(k:Int)<(n:Int):=by omega
   clear hk;go_enter Tryz.func87,Tryz.ntmps87
   go_wp2_with fail
   refine C.out.mono ?_;rintro e w1 ⟨rfl,hrow,hb1⟩;have hb01:Below w.heap.size w w1:=hal0.trans (hb1.mono (by omega));have hc1:(carL (addF xs ys) k).2<18446744073709551616:=by have:=hval.out.1;omega
   have Hrow:=hiD hrow;have hs1:w.heap.size+1+1<w1.heap.size:=hrow.lt;have hown0:Hid (w1.ownsRow (w.heap.size+1+1) 38 1 (.slice (some ⟨w.heap.size+1+1,0,none⟩) k k) k (lmbs (carL (addF xs ys) k).1)):=by
    have h:=hrow.own lRr (n:=k) (by rw [hlen.out];exact lRr) (by rw [hlen.out];unfold maxLen;omega);rw [hlen.out,List.take_of_length_le (by rw [hlen.out];exact lRr)] at h;exact h
   clear C hrow Hx Hy;generalize (carL (addF xs ys) k).2=q at*
   generalize (carL (addF xs ys) k).1=us at*
   go_wp2_with (at_builtin;refine wpList_append_lies _ (by rfl) _ _ _ (by rfl) (w.heap.size+1+1) 38 i0 _ 1 8 Tryz.underlying39 hi hz0 hz1 hz2 rfl (by omega) (.slice (some ⟨w.heap.size+1+1,0,none⟩) k k) k (lmbs us) (by rfl) (hown0.out.alloc _) ⟨w1.heap.size,0,none⟩ 1 1 [.int .u64 (q:Int)] (by rfl) (by rfl) (World.news_of_block (cs:=#[.int .u64 (q:Int)]) (t:=38) (fr:=(0,0)) (heap_alloc_new w1 _)) (by simp [Value.oneCell']) (by omega) (by unfold maxLen;omega) (by omega) (by simp;omega) (w1.heap.size+1) (by simp) ?_;intro gg cap w2 hown2 hgrow hat hlt2)
   have hb02:Below w.heap.size w w2:=((hb01.alloc hb01.size _)).grown hgrow (by simp;omega) (fun j hj=>by have:=(hown0.out.lt j hj).1;omega);have hzz:lmbs us++[.int .u64 (q:Int)]=lmbs (us++[(q:Int)]):=by rw [lmbs_append];rfl
   rw [hzz] at hown2;have hL2:Limbs w2 (some ⟨gg,0,none⟩) (k+1) (us++[(q:Int)]):=Limbs.of_own hown2 (hok.out.snoc (by omega) (by omega));have hcap:k+1≤cap∧cap≤9223372036854775807:=by
    rcases hown2.2 with ⟨hv,h0⟩ | ⟨g',cap',cur,hv,_,_,hnc,hcm,_⟩
    · omega
    · injection hv with _ _ e
      unfold maxLen at hcm;omega
   have hgge:=(hown2.lt gg rfl).1;have HL2:=hiD hL2;clear hown2 hgrow hat hlt2 hzz hL2 hval;go_wp2_with fail
   refine (nplain_any (some ⟨gg,0,none⟩) (k+1) cap (us++[(q:Int)]) w2 HL2.out hcap.1 hcap.2).mono ?_;rintro e w3 ⟨rfl,rfl⟩;have hlm:=lmN_le (us++[(q:Int)]) (k+1);go_wp2_with fail
   go_ret;refine ⟨some ⟨gg,0,none⟩,_,cap,rfl,by omega,hcap.2,?_,fun x hx=> ?_,hb02⟩
   · rw [hres.out]
     exact HL2.out.take hlm
   · injection hx with hx
     rw [← hx];show w.heap.size≤gg;omega
end Go.Proofs.YtehcoffbiplphaaGreat
namespace Go.Proofs.YtehcoffbiplphaaGreat
open Go.RowKit Cl
attribute [local go_sem ↓] Go.wp_at_zero Go.wp_at_succ
def subL (xs ys:List Int):List Int:=
 (carL (subF xs ys) (max xs.length ys.length)).1.take (lmN (carL (subF xs ys) (max xs.length ys.length)).1 (max xs.length ys.length))
theorem subL_spec {xs ys:List Int}(hx:IsLimbs xs) (hy:IsLimbs ys) (h:limbs ys≤limbs xs):(carL (subF xs ys) (max xs.length ys.length)).2=0∧PlainL (subL xs ys)∧limbs (subL xs ys)=limbs xs - limbs ys∧(subL xs ys).length≤max xs.length ys.length:=by
 obtain ⟨h1,h2⟩:=subF_val hx hy (max xs.length ys.length)
 rw [limbs_take_all (Nat.le_max_left _ _),limbs_take_all (Nat.le_max_right _ _)] at h2
 have hl:=carL_length (subF xs ys) (max xs.length ys.length)
 have hok:=carL_ok (subF_lt xs ys) (max xs.length ys.length)
 have hlt:=limbs_lt hok
 rw [hl] at hlt
 have h0:(carL (subF xs ys) (max xs.length ys.length)).2=0:=by
  rcases Nat.eq_zero_or_pos (carL (subF xs ys) (max xs.length ys.length)).2 with h3 | h3
  · exact h3
  · have h4:(carL (subF xs ys) (max xs.length ys.length)).2=1:=by omega
    rw [h4,Nat.mul_one] at h2;omega
 rw [h0,Nat.mul_zero,Nat.add_zero] at h2
 unfold subL
 obtain ⟨p1,p2⟩:=plainL_take hok (n:=max xs.length ys.length) hl
 refine ⟨h0,p1,by rw [p2];omega,?_⟩
 have:=lmN_le (carL (subF xs ys) (max xs.length ys.length)).1 (max xs.length ys.length)
 rw [List.length_take];omega
theorem nat_sub (A B:Option Addr) (n m c d:Nat) (xs ys:List Int) (w:World) (hx:Limbs w A n xs) (hy:Limbs w B m ys) (hn:n≤8500000000000) (hm:m≤8500000000000) (hle:limbs ys≤limbs xs):
 Calls Tryz.prog 89 #[.slice A n c,.slice B m d] w fun e w'=>∃A' k c',e=.returned (.tuple #[.slice A' k c',.int .i64 0])∧k≤c'∧c'≤9223372036854775807∧Limbs w' A' k (subL xs ys)∧(∀x,A'=some x→w.heap.size≤x.block)∧Below w.heap.size w w':=by
 obtain ⟨i0,hi,hz0,hz1,hz2⟩:=info_parts uint_info
 have hxl:=hx.len
 have hyl:=hy.len
 obtain ⟨k,hk⟩:∃k:Nat,k=max n m:=⟨_,rfl⟩
 have hk8:k≤8500000000000:=by omega
 have hok:=hiD (carL_ok (subF_lt xs ys) k)
 have hlen:=hiD (carL_length (subF xs ys) k)
 have hres:Hid (subL xs ys=(carL (subF xs ys) k).1.take (lmN (carL (subF xs ys) k).1 k)):=by
  show _=_;unfold subL;rw [hxl,hyl,← hk]
 have hb0:Hid ((carL (subF xs ys) k).2=0):=by
  have h:=(subL_spec hx.ok hy.ok hle).1;rw [hxl,hyl,← hk] at h;exact h
 have hal0:Below w.heap.size w ((w.alloc (.cells #[.slice A n c] 39)).alloc (.cells #[.slice B m d] 39)):=(bRr.alloc lRr _).alloc (by simp) _
 have ca:((w.alloc (.cells #[.slice A n c] 39)).alloc (.cells #[.slice B m d] 39)).cell? ⟨w.heap.size,0,none⟩=some (.slice A n c):=cell_old0 _ _ _ _
 have cb:((w.alloc (.cells #[.slice A n c] 39)).alloc (.cells #[.slice B m d] 39)).cell? ⟨w.heap.size+1,0,none⟩=some (.slice B m d):=cell_new1 _ _ _ _
 have Hx:=hiD (hx.bel hal0)
 have Hy:=hiD (hy.bel hal0)
 have Hca:=hiD ca
 have Hcb:=hiD cb
 have C:Hid (Calls Tryz.prog 121 #[.int .i64 (k:Int),.func (.func 126) #[] #[.pointer (some ⟨w.heap.size,0,none⟩),.pointer (some ⟨w.heap.size+1,0,none⟩)]] ((w.alloc (.cells #[.slice A n c] 39)).alloc (.cells #[.slice B m d] 39)) fun e w'=>e=.returned (.tuple #[.slice (some ⟨w.heap.size+1+1,0,none⟩) k k,.int .u64 0])∧RowL w' (w.heap.size+1+1) 38 (carL (subF xs ys) k).1∧Below (w.heap.size+1+1) ((w.alloc (.cells #[.slice A n c] 39)).alloc (.cells #[.slice B m d] 39)) w'):=by
  have h:=nat_carriedS (some ⟨w.heap.size,0,none⟩) (some ⟨w.heap.size+1,0,none⟩) (subF xs ys) k 2 ((w.alloc (.cells #[.slice A n c] 39)).alloc (.cells #[.slice B m d] 39)) (by omega) (fun j hj=>by have:=(subF_val hx.ok hy.ok j).1;omega) (fun j q W hj hq hW=> ?_)
  · simp only [World.size_alloc] at h
    rw [hb0.out] at h;exact h
  · have hs:=hW.size
    simp only [World.size_alloc] at hs hW;exact nat_sub1 A B n m c d w.heap.size (w.heap.size+1) xs ys j q W ((hW.cell (p:=⟨w.heap.size,0,none⟩) (by show w.heap.size<_;omega)).trans Hca.out) ((hW.cell (p:=⟨w.heap.size+1,0,none⟩) (by show w.heap.size+1<_;omega)).trans Hcb.out) (Hx.out.below hW (by simp)) (Hy.out.below hW (by simp)) (by omega) (by omega) (by omega) (by omega)
 clear hx hy hxl hyl ca cb Hca Hcb hb0 hle
 rcases Nat.lt_trichotomy m n with hmn | hmn | hmn
 · obtain rfl:k=n:=by omega
   have hmx:¬(k:Int)≤(m:Int):=by omega
   have hmx2:(m:Int)<(k:Int):=by omega
   clear hk;go_enter Tryz.func89,Tryz.ntmps89
   go_wp2_with fail
   refine C.out.mono ?_;rintro e w1 ⟨rfl,hrow,hb1⟩;have hb01:Below w.heap.size w w1:=hal0.trans (hb1.mono (by omega));have hL1:=hrow.limbs hok.out;rw [hlen.out] at hL1;have HL1:=hiD hL1;clear C hrow Hx Hy hL1;generalize (carL (subF xs ys) k).1=us at*
   go_wp2_with fail
   refine (nplain_any (some ⟨w.heap.size+1+1,0,none⟩) k k us w1 HL1.out lRr (by omega)).mono ?_;rintro e w3 ⟨rfl,rfl⟩;have hlm:=lmN_le us k;go_wp2_with fail
   go_ret2;refine ⟨some ⟨w.heap.size+1+1,0,none⟩,_,k,rfl,hlm,by omega,?_,fun x hx=> ?_,hb01⟩
   · rw [hres.out]
     exact HL1.out.take hlm
   · injection hx with hx
     rw [← hx];show w.heap.size≤w.heap.size+1+1;omega
 · obtain rfl:k=n:=by omega
   obtain rfl:k=m:=by omega
   have hmx:max (k:Int) (k:Int)=(k:Int):=by omega
   clear hk;go_enter Tryz.func89,Tryz.ntmps89
   go_wp2_with fail
   refine C.out.mono ?_;rintro e w1 ⟨rfl,hrow,hb1⟩;have hb01:Below w.heap.size w w1:=hal0.trans (hb1.mono (by omega));have hL1:=hrow.limbs hok.out;rw [hlen.out] at hL1;have HL1:=hiD hL1;clear C hrow Hx Hy hL1;generalize (carL (subF xs ys) k).1=us at*
   go_wp2_with fail
   refine (nplain_any (some ⟨w.heap.size+1+1,0,none⟩) k k us w1 HL1.out lRr (by omega)).mono ?_;rintro e w3 ⟨rfl,rfl⟩;have hlm:=lmN_le us k;go_wp2_with fail
   go_ret2;refine ⟨some ⟨w.heap.size+1+1,0,none⟩,_,k,rfl,hlm,by omega,?_,fun x hx=> ?_,hb01⟩
   · rw [hres.out]
     exact HL1.out.take hlm
   · injection hx with hx
     rw [← hx];show w.heap.size≤w.heap.size+1+1;omega
 · obtain rfl:k=m:=by omega
   have hmx:(n:Int)≤(k:Int):=by omega
   have hmx2:(n:Int)<(k:Int):=by omega
   have hmx3:¬(k:Int)≤(n:Int):=by omega
   have hmx4:¬(k:Int)<(n:Int):=by omega
   clear hk;go_enter Tryz.func89,Tryz.ntmps89
   go_wp2_with fail
   refine C.out.mono ?_;rintro e w1 ⟨rfl,hrow,hb1⟩;have hb01:Below w.heap.size w w1:=hal0.trans (hb1.mono (by omega));have hL1:=hrow.limbs hok.out;rw [hlen.out] at hL1;have HL1:=hiD hL1;clear C hrow Hx Hy hL1;generalize (carL (subF xs ys) k).1=us at*
   go_wp2_with fail
   refine (nplain_any (some ⟨w.heap.size+1+1,0,none⟩) k k us w1 HL1.out lRr (by omega)).mono ?_;rintro e w3 ⟨rfl,rfl⟩;have hlm:=lmN_le us k;go_wp2_with fail
   go_ret2;refine ⟨some ⟨w.heap.size+1+1,0,none⟩,_,k,rfl,hlm,by omega,?_,fun x hx=> ?_,hb01⟩
   · rw [hres.out]
     exact HL1.out.take hlm
   · injection hx with hx
     rw [← hx];show w.heap.size≤w.heap.size+1+1;omega
theorem nat_row1 (A:Option Addr) (n c ga gb:Nat) (xs:List Int) (x k q:Nat) (w:World) (ha:w.cell? ⟨ga,0,none⟩=some (.slice A n c)) (hb:w.cell? ⟨gb,0,none⟩=some (.int .u64 (x:Int))) (hx:Limbs w A n xs)
 (hk:k<n) (hn:n≤8500000000000) (hxl:x<18446744073709551616) (hq:q<18446744073709551616):
 Calls Tryz.prog 144 #[.int .i64 (k:Int),.int .u64 (q:Int),.pointer (some ⟨ga,0,none⟩),.pointer (some ⟨gb,0,none⟩)] w fun e w'=>e=.returned (.tuple #[.int .u64 ((rowF xs x k q).1:Int),.int .u64 ((rowF xs x k q).2:Int)])∧∃j,w'=w.drewN j:=by
 have h1:=hx.ok k
 obtain ⟨u,hu⟩:∃u:Nat,nth xs k=(u:Int):=⟨(nth xs k).toNat,by omega⟩
 have hul:u<18446744073709551616:=by omega
 obtain ⟨b,o,rfl,hbb,hc⟩:=hx.at_ (by omega)
 have hck:=hc k hk
 rw [hu] at hck
 have C:=fun W=>bits_mul64 u x hul hxl W
 have hm:u*x≤18446744073709551615*18446744073709551615:=Nat.mul_le_mul (by omega) (by omega)
 obtain ⟨hi,hhi⟩:∃v,v=u*x / 18446744073709551616:=⟨_,rfl⟩
 obtain ⟨lo,hlo⟩:∃v,v=u*x % 18446744073709551616:=⟨_,rfl⟩
 rw [← hhi,← hlo] at C
 have hlol:lo<18446744073709551616:=by rw [hlo];exact Nat.mod_lt _ (by omega)
 have qa:=fun W=>add64_run lo q 0 (by omega) W
 obtain ⟨s,hs⟩:∃v,v=(lo+q+0) % 18446744073709551616:=⟨_,rfl⟩
 obtain ⟨m,hmm⟩:∃v,v=(lo+q+0) / 18446744073709551616:=⟨_,rfl⟩
 rw [← hs,← hmm] at qa
 have hF:Hid (rowF xs x k q=(s,hi+m)):=by
  show _=_;unfold rowF;simp only [hu,Int.toNat_natCast];have hd:=Nat.div_add_mod (u*x) 18446744073709551616;rw [← hhi,← hlo] at hd;refine Prod.ext ?_ ?_
  · show (u*x+q) % 18446744073709551616=s
    rw [hs];omega
  · show (u*x+q) / 18446744073709551616=hi+m
    rw [hmm];omega
 have hsum:Hid (hi+m<18446744073709551616):=by
  have hd:=Nat.div_add_mod (u*x) 18446744073709551616;rw [← hhi,← hlo] at hd;show _<_;rw [hmm];omega
 have hw:IntKind.u64.wrap ((hi:Int)+(m:Int))=((hi+m:Nat):Int):=by rw [IntKind.wrap_u64];have:=hsum.out;omega
 have hk0:(0:Int)≤(k:Int):=by omega
 have hkn:(k:Int)<(n:Int):=by omega
 rw [hF.out]
 have CC:=hiD C
 have z0:((0:Nat):Int)=0:=rfl
 rw [z0] at qa
 clear hu h1 hc hx hhi hlo hs hmm hm hul hxl hq hlol hF C
 go_enter Tryz.func144,Tryz.ntmps144
 go_wp2_with fail
 go_quiet ((go_at_call 143;first | exact quiet_add_left ((CC.out _).mono fun e w' h=>⟨h.1,h.2.symm⟩) | exact quiet_left ((CC.out _).mono fun e w' h=>⟨h.1,h.2.symm⟩)))
 go_wp2_with fail
 go_ret2
 exact ⟨rfl,_,rfl⟩
end Go.Proofs.YtehcoffbiplphaaGreat
namespace Cl
open Go Go.RowKit
theorem Limbs.only {w w':World} {S:Nat→Prop} {A:Option Addr} {n:Nat} {xs:List Int}(h:Limbs w A n xs) (ho:Only S w w') (hA:∀y,A=some y→¬S y.block):Limbs w' A n xs:=
 ⟨h.len,fun hn=>by
   obtain ⟨b,o,e,hb,hc⟩:=h.at_ hn;refine ⟨b,o,e,Nat.lt_of_lt_of_le hb ho.size,fun i hi=> ?_⟩;rw [ho.cell (p:=⟨b,o+i,none⟩) hb (hA ⟨b,o,none⟩ e)];exact hc i hi,h.ok⟩
def rowL (xs:List Int) (x:Nat):List Int:=(carL (rowF xs x) xs.length).1++[((carL (rowF xs x) xs.length).2:Int)]
theorem rowL_spec {xs:List Int}(hx:IsLimbs xs) {x:Nat}(h:x<18446744073709551616):IsLimbs (rowL xs x)∧(rowL xs x).length=xs.length+1∧limbs (rowL xs x)=limbs xs*x:=by
 obtain ⟨h1,h2⟩:=rowF_val hx h xs.length
 rw [limbs_take_all lRr] at h2
 have hl:=carL_length (rowF xs x) xs.length
 refine ⟨(carL_ok (rowF_lt xs x) _).snoc (by omega) (by omega),by unfold rowL;rw [List.length_append,hl];rfl,?_⟩
 unfold rowL
 rw [limbs_snoc,hl,Int.toNat_natCast,h2]
theorem school_step {os:List Int}(ho:IsLimbs os) {j:Nat}(hj:j<os.length) {y q T:Nat}(hy:y<18446744073709551616) (hq:q≤1) (h:limbs os+2^(64*j)*q=T):
 IsLimbs (os.set j ((((nth os j).toNat+y+q) % 18446744073709551616:Nat):Int))∧limbs (os.set j ((((nth os j).toNat+y+q) % 18446744073709551616:Nat):Int))+2^(64*(j+1))*(((nth os j).toNat+y+q) / 18446744073709551616)=T+2^(64*j)*y∧((nth os j).toNat+y+q) / 18446744073709551616≤1:=by
 have h1:=ho j
 generalize hs:(nth os j).toNat+y+q=s
 have hm:=Nat.mod_lt s (show 0<18446744073709551616 by omega)
 have hd:=Nat.div_add_mod s 18446744073709551616
 have h2:=limbs_set ho hj (v:=((s % 18446744073709551616:Nat):Int)) (by omega)
 rw [Int.toNat_natCast] at h2
 refine ⟨ho.set j (by omega) (by omega),?_,by omega⟩
 rw [pow64_succ]
 generalize limbs (os.set j ((s % 18446744073709551616:Nat):Int))=L at*
 generalize 2^(64*j)=P at*
 generalize limbs os=M at*
 generalize (nth os j).toNat=o at*
 have h3:P*(s % 18446744073709551616)+P*18446744073709551616*(s / 18446744073709551616)=P*s:=by
  rw [Nat.mul_assoc,← Nat.mul_add];congr 1;omega
 have h4:P*s=P*o+P*y+P*q:=by rw [← hs,Nat.mul_add,Nat.mul_add]
 omega
theorem school_row {xs ys:List Int}(hx:IsLimbs xs) (hy:IsLimbs ys) {k q L M:Nat}(h:L+2^(64*(k+(xs.length+1)))*q=M+2^(64*k)*(limbs xs*(nth ys k).toNat)) (hM:M=limbs xs*limbs (ys.take k)) (_hk:k<ys.length):
 q=0∧L=limbs xs*limbs (ys.take (k+1)):=by
 have e1:M+2^(64*k)*(limbs xs*(nth ys k).toNat)=limbs xs*limbs (ys.take (k+1)):=by
  rw [limbs_take_any,Nat.mul_add,hM];congr 1;rw [Nat.mul_left_comm]
 rw [e1] at h
 have h1:=limbs_lt hx
 have h2:=limbs_lt (hy.take (k+1))
 have h3:(ys.take (k+1)).length≤k+1:=by rw [List.length_take];omega
 have h4:2^(64*(ys.take (k+1)).length)≤2^(64*(k+1)):=Nat.pow_le_pow_right (by omega) (by omega)
 have h5:limbs xs*limbs (ys.take (k+1))<2^(64*xs.length)*2^(64*(k+1)):=Nat.mul_lt_mul'' h1 (by omega)
 rw [← Nat.pow_add,show 64*xs.length+64*(k+1)=64*(k+(xs.length+1)) by omega] at h5
 have h6:q=0:=by
  rcases Nat.eq_zero_or_pos q with h6 | h6
  · exact h6
  · have h7:2^(64*(k+(xs.length+1)))*1≤2^(64*(k+(xs.length+1)))*q:=Nat.mul_le_mul_left _ h6
    omega
 subst h6
 exact ⟨rfl,by omega⟩
structure MulOut (xs ys zs:List Int):Prop where
 pl:PlainL zs
 eq:limbs zs=limbs xs*limbs ys
 len:zs.length≤xs.length+ys.length+1
end Cl
namespace Go.Proofs.YtehcoffbiplphaaGreat
open Go.RowKit Cl
attribute [local go_sem ↓] Go.wp_at_zero Go.wp_at_succ
theorem nat_row (A:Option Addr) (n c:Nat) (xs:List Int) (x:Nat) (w:World) (hx:Limbs w A n xs) (hn:n≤8500000000000) (hxl:x<18446744073709551616):
 Calls Tryz.prog 117 #[.slice A n c,.int .u64 (x:Int)] w fun e w'=>∃g cap,e=.returned (.slice (some ⟨g,0,none⟩) (n+1) cap)∧w.heap.size≤g∧Limbs w' (some ⟨g,0,none⟩) (n+1) (rowL xs x)∧Below w.heap.size w w':=by
 obtain ⟨i0,hi,hz0,hz1,hz2⟩:=info_parts uint_info
 obtain rfl:=hx.len
 have hrl:=hiD (rowL_spec hx.ok hxl)
 have hval:=hiD (rowF_val hx.ok hxl xs.length)
 have hok:=hiD (carL_ok (rowF_lt xs x) xs.length)
 have hlen:=hiD (carL_length (rowF xs x) xs.length)
 have hres:Hid (rowL xs x=(carL (rowF xs x) xs.length).1++[((carL (rowF xs x) xs.length).2:Int)]):=rfl
 have hal0:Below w.heap.size w ((w.alloc (.cells #[.slice A xs.length c] 39)).alloc (.cells #[.int .u64 (x:Int)] 38)):=(bRr.alloc lRr _).alloc (by simp) _
 have Hca:Hid (((w.alloc (.cells #[.slice A xs.length c] 39)).alloc (.cells #[.int .u64 (x:Int)] 38)).cell? ⟨w.heap.size,0,none⟩=some (.slice A xs.length c)):=cell_old0 _ _ _ _
 have Hcb:Hid (((w.alloc (.cells #[.slice A xs.length c] 39)).alloc (.cells #[.int .u64 (x:Int)] 38)).cell? ⟨w.heap.size+1,0,none⟩=some (.int .u64 (x:Int))):=cell_new1 _ _ _ _
 have Hx:=hiD (hx.bel hal0)
 obtain ⟨k,hk⟩:∃k,xs.length=k:=⟨_,rfl⟩
 have C:Hid (Calls Tryz.prog 121 #[.int .i64 (xs.length:Int),.func (.func 144) #[] #[.pointer (some ⟨w.heap.size,0,none⟩),.pointer (some ⟨w.heap.size+1,0,none⟩)]] ((w.alloc (.cells #[.slice A xs.length c] 39)).alloc (.cells #[.int .u64 (x:Int)] 38)) fun e w'=>e=.returned (.tuple #[.slice (some ⟨w.heap.size+1+1,0,none⟩) xs.length xs.length,.int .u64 ((carL (rowF xs x) xs.length).2:Int)])∧RowL w' (w.heap.size+1+1) 38 (carL (rowF xs x) xs.length).1∧Below (w.heap.size+1+1) ((w.alloc (.cells #[.slice A xs.length c] 39)).alloc (.cells #[.int .u64 (x:Int)] 38)) w'):=by
  have h:=nat_carriedR (some ⟨w.heap.size,0,none⟩) (some ⟨w.heap.size+1,0,none⟩) (rowF xs x) xs.length 18446744073709551616 ((w.alloc (.cells #[.slice A xs.length c] 39)).alloc (.cells #[.int .u64 (x:Int)] 38)) (by omega) (fun j hj=>(rowF_val hx.ok hxl j).1) (fun j q W hj hq hW=> ?_)
  · simp only [World.size_alloc] at h
    exact h
  · have hs:=hW.size
    simp only [World.size_alloc] at hs hW;exact nat_row1 A xs.length c w.heap.size (w.heap.size+1) xs x j q W ((hW.cell (p:=⟨w.heap.size,0,none⟩) (by show w.heap.size<_;omega)).trans Hca.out) ((hW.cell (p:=⟨w.heap.size+1,0,none⟩) (by show w.heap.size+1<_;omega)).trans Hcb.out) (Hx.out.below hW (by simp)) hj hn hxl hq
 have hq:(carL (rowF xs x) xs.length).2<18446744073709551616:=hval.out.1
 clear hx hval Hca Hcb Hx hxl
 rw [hk] at C hok hlen hres hal0 hrl hn hq ⊢
 clear hk
 go_enter Tryz.func117,Tryz.ntmps117
 go_wp2_with fail
 refine C.out.mono ?_
 rintro e w1 ⟨rfl,hrow,hb1⟩
 have hb01:Below w.heap.size w w1:=hal0.trans (hb1.mono (by omega))
 have hs1:w.heap.size+1+1<w1.heap.size:=hrow.lt
 have hown0:Hid (w1.ownsRow (w.heap.size+1+1) 38 1 (.slice (some ⟨w.heap.size+1+1,0,none⟩) k k) k (lmbs (carL (rowF xs x) k).1)):=by
  have h:=hrow.own lRr (n:=k) (by rw [hlen.out];exact lRr) (by rw [hlen.out];unfold maxLen;omega);rw [hlen.out,List.take_of_length_le (by rw [hlen.out];exact lRr)] at h;exact h
 clear C hrow
 generalize (carL (rowF xs x) k).2=q at*
 generalize (carL (rowF xs x) k).1=us at*
 go_wp2_with (at_builtin;refine wpList_append_lies _ (by rfl) _ _ _ (by rfl) (w.heap.size+1+1) 38 i0 _ 1 8 Tryz.underlying39 hi hz0 hz1 hz2 rfl (by omega) (.slice (some ⟨w.heap.size+1+1,0,none⟩) k k) k (lmbs us) (by rfl) (hown0.out.alloc _) ⟨w1.heap.size,0,none⟩ 1 1 [.int .u64 (q:Int)] (by rfl) (by rfl) (World.news_of_block (cs:=#[.int .u64 (q:Int)]) (t:=38) (fr:=(0,0)) (heap_alloc_new w1 _)) (by simp [Value.oneCell']) (by omega) (by unfold maxLen;omega) (by omega) (by simp;omega) (w1.heap.size+1) (by simp) ?_;intro gg cap w2 hown2 hgrow hat hlt2)
 have hb02:Below w.heap.size w w2:=((hb01.alloc hb01.size _)).grown hgrow (by simp;omega) (fun j hj=>by have:=(hown0.out.lt j hj).1;omega)
 have hzz:lmbs us++[.int .u64 (q:Int)]=lmbs (us++[(q:Int)]):=by rw [lmbs_append];rfl
 rw [hzz] at hown2
 have hL2:Limbs w2 (some ⟨gg,0,none⟩) (k+1) (us++[(q:Int)]):=Limbs.of_own hown2 (hok.out.snoc (by omega) (by omega))
 have hgge:=(hown2.lt gg rfl).1
 rw [← hres.out] at hL2
 have HL2:=hiD hL2
 clear hown2 hgrow hat hlt2 hzz hL2
 go_wp2_with fail
 go_ret
 exact ⟨gg,cap,rfl,by omega,HL2.out,hb02⟩
theorem nat_school (A B:Option Addr) (n m c d:Nat) (xs ys:List Int) (w:World) (hx:Limbs w A n xs) (hy:Limbs w B m ys) (hn:n≤4000000000000) (hm:m≤4000000000000):
 Calls Tryz.prog 135 #[.slice A n c,.slice B m d] w fun e w'=>∃zs,MulOut xs ys zs∧GivesNew w zs e w':=by
 obtain ⟨i0,hi,hz0,hz1,hz2⟩:=info_parts uint_info
 obtain rfl:=hx.len
 obtain rfl:=hy.len
 have hmk:=run_make_limbs Tryz.underlying39 hi hz0 hz1 hz2 (xs.length+ys.length+1) (by omega) w
 rw [show ((xs.length+ys.length+1:Nat):Int)=(xs.length:Int)+(ys.length:Int)+1 from rfl] at hmk
 have hr0:Hid (RowL (w.alloc (.cells (lmbs (List.replicate (xs.length+ys.length+1) 0)).toArray 38)) w.heap.size 38 (List.replicate (xs.length+ys.length+1) 0)):=RowL.new w _ _
 have hb0:Below w.heap.size w (w.alloc (.cells (lmbs (List.replicate (xs.length+ys.length+1) 0)).toArray 38)):=bRr.alloc lRr _
 have hl0:Hid ((List.replicate (xs.length+ys.length+1) (0:Int)).length=xs.length+ys.length+1):=List.length_replicate
 have ho0:Hid (IsLimbs (List.replicate (xs.length+ys.length+1) 0)):=fun i=>by
  have:nth (List.replicate (xs.length+ys.length+1) (0:Int)) i=0:=by unfold nth;by_cases h:i<xs.length+ys.length+1<;>simp [List.getD,h]
  rw [this];omega
 have hv0:Hid (limbs (List.replicate (xs.length+ys.length+1) 0)=limbs xs*limbs (ys.take 0)):=by show _=_;rw [limbs_replicate];rfl
 have Hx:=hiD hx
 have Hy:=hiD hy
 have HxO:=hiD hx.ok
 have HyO:=hiD hy.ok
 clear hx hy
 generalize List.replicate (xs.length+ys.length+1) (0:Int)=R0 at*
 go_enter Tryz.func135,Tryz.ntmps135
 go_wp2_with fail
 clear hmk
 go_loopw [20] (fun i wr=>∃(k:Nat) (os:List Int),k≤ys.length∧i=.int .i64 (k:Int)∧Hid (RowL wr w.heap.size 38 os)∧Hid (os.length=xs.length+ys.length+1)∧Hid (IsLimbs os)∧Hid (limbs os=limbs xs*limbs (ys.take k))∧Below w.heap.size w wr) (fun i _=>ys.length - (intOf i).toNat)
 case atStart=>exact ⟨0,R0,by omega,rfl,hr0,hl0,ho0,hv0,hb0⟩
 case round=>
  clear hr0 hl0 ho0 hv0 hb0;obtain ⟨k,os,hk,rfl,hrow,hol,hok,hval,hbel⟩:=hrel;obtain ⟨wo,rfl⟩:∃wo:World,wo=wr:=⟨_,rfl⟩;by_cases hlt:k<ys.length
  · have hlt':(k:Int)<(ys.length:Int):=by omega
    (have hk0:(0:Int)≤(k:Int):=by omega);obtain ⟨b,o,rfl,hb,hc⟩:=Hy.out.at_ (by omega);have hck:=(hbel.cell (p:=⟨b,o+k,none⟩) hb).trans (hc k hlt);have hy1:=HyO.out k;obtain ⟨y,hyy⟩:∃y:Nat,nth ys k=(y:Int):=⟨(nth ys k).toNat,by omega⟩;rw [hyy] at hck;(have hyl:y<18446744073709551616:=by omega);have Hyy:=hiD hyy;have hgl:=hrow.out.lt;have Cr:=hiD (nat_row A xs.length c xs y wo (Hx.out.bel hbel) (by omega) hyl);have Hyl:=hiD hyl;clear hc hyy hy1 hyl;(go_wp2_with fail);refine Cr.out.mono ?_;rintro e w1 ⟨gr,cap,rfl,hgr,hL1,hb1⟩;have Hrow1:=hiD (hrow.out.bel hb1);have hL1':=hiD hL1;(have hne:gr≠w.heap.size:=by omega);have hs1:=hb1.size;obtain ⟨rs,hrs⟩:∃rs,rs=rowL xs y:=⟨_,rfl⟩;have Hsp:=hiD (rowL_spec HxO.out Hyl.out);rw [← hrs] at hL1' Hsp;have Hb1:=hiD (hbel.tm hb1);clear hL1 hck Cr hrs hrow hbel hb1;(go_wp2_with fail);go_loopw [8,29] (fun cv i wr=>∃(j q:Nat) (ot:List Int),j≤xs.length+1∧q≤1∧cv=.int .u64 (q:Int)∧i=.int .i64 (j:Int)∧Hid (RowL wr w.heap.size 38 ot)∧Hid (ot.length=xs.length+ys.length+1)∧Hid (IsLimbs ot)∧Hid (limbs ot+2^(64*(k+j))*q=limbs os+2^(64*k)*limbs (rs.take j))∧Hid (Only (fun x=>x=w.heap.size) w1 wr)) (fun _ i _=>xs.length+1 - (intOf i).toNat)
    case atStart=>exact ⟨0,0,os,by omega,by omega,rfl,rfl,Hrow1,hol,hok,(by show _=_;rw [Nat.mul_zero];rfl),Only.refl _ _⟩
    case round=>
     obtain ⟨j,q,ot,hj,hq,rfl,rfl,hrt,htl,hto,htv,hon⟩:=hrel;by_cases hjl:j<xs.length+1
     · have hjl':(j:Int)<(xs.length:Int)+1:=by omega
       (have hj0:(0:Int)≤(j:Int):=by omega);have hLr:=hL1'.out.only hon.out (fun y' hy' e=>hne (by injection hy' with hy';rw [← hy'] at e;exact e));obtain ⟨b2,o2,e2,hb2,hc2⟩:=hLr.at_ (by omega);injection e2 with e2
       injection e2 with e3 e4
       subst e3;subst e4;have hcj:=hc2 j hjl;rw [Nat.zero_add] at hcj;have hr1:=Hsp.out.1 j;obtain ⟨u,hu⟩:∃u:Nat,nth rs j=(u:Int):=⟨(nth rs j).toNat,by omega⟩;rw [hu] at hcj;(have hul:u<18446744073709551616:=by omega);have hco:=hrt.out.cell (i:=k+j) (by rw [htl.out];omega);have hfo:=hrt.out.frozen (k+j);have ho1:=hto.out (k+j);obtain ⟨v,hv⟩:∃v:Nat,nth ot (k+j)=(v:Int):=⟨(nth ot (k+j)).toNat,by omega⟩;rw [hv] at hco;have hst:=school_step hto.out (j:=k+j) (by rw [htl.out];omega) hul hq htv.out;rw [hv,Int.toNat_natCast] at hst;have qa:=fun W=>add64_run v u q hq W;generalize (v+u+q) % 18446744073709551616=s at*
       generalize (v+u+q) / 18446744073709551616=q' at*
       obtain ⟨t1,t2,t3⟩:=hst;have T1:=hiD t1;have T2:Hid (limbs (ot.set (k+j) (s:Int))+2^(64*(k+(j+1)))*q'=limbs os+2^(64*k)*limbs (rs.take (j+1))):=by
        show _=_;rw [← Nat.add_assoc,t2,limbs_take_any,hu,Int.toNat_natCast,show 64*(k+j)=64*k+64*j by omega,Nat.pow_add,Nat.mul_add (2^(64*k)),Nat.mul_assoc];omega
       have Hset:=hiD (hrt.out.set (k+j) (s:Int));have hon2:=hiD (hon.out.setCell (p:=⟨w.heap.size,k+j,none⟩) rfl (.int .u64 (s:Int)));(have htl2:Hid ((ot.set (k+j) (s:Int)).length=xs.length+ys.length+1):=by show _=_;rw [List.length_set];exact htl.out);(have hkj:(k:Int)+(j:Int)<(xs.length:Int)+(ys.length:Int)+1:=by omega);(have hkj0:(0:Int)≤(k:Int)+(j:Int):=by omega);(have ekj:((k:Int)+(j:Int)).toNat=k+j:=by omega);clear t1 t2 hc2 hLr hu hv hr1 ho1 hul htv hto hrt hon htl;(go_wp2_with fail);go_roundw
       case rel=>exact ⟨j+1,q',_,by omega,t3,rfl,by go_num,Hset,htl2,T1,T2,hon2⟩
       case measure=>simp [intOf];omega
     · obtain rfl:j=xs.length+1:=by omega
       (have hjl':¬(xs.length:Int)+1<(xs.length:Int)+1:=by omega);have hfin:=school_row HxO.out HyO.out (k:=k) (q:=q) (L:=limbs ot) (M:=limbs os) (by
        have h1:=htv.out;rw [limbs_take_all (by rw [Hsp.out.2.1];exact lRr),Hsp.out.2.2] at h1;rw [Hyy.out,Int.toNat_natCast];exact h1) hval.out hlt
       have Hfin:=hiD hfin.2;have hb2:Below w.heap.size w wr:=Hb1.out.trans (hon.out.below Hb1.out.size (fun x hx=>by omega));clear hfin htv;(go_wp2_with fail);go_roundw
       case rel=>exact ⟨k+1,ot,by omega,by go_num,hrt,htl,hto,Hfin,hb2⟩
       case measure=>simp [intOf];omega
  · obtain rfl:k=ys.length:=by omega
    (have hlt':¬(ys.length:Int)<(ys.length:Int):=by omega);have hL:=hrow.out.limbs hok.out;rw [hol.out] at hL;have HL:=hiD hL;obtain ⟨p1,p2⟩:=plainL_take hok.out hol.out;have hval':=hval.out;rw [limbs_take_all lRr] at hval';have hlm:=lmN_le os (xs.length+ys.length+1);have Hm:Hid (MulOut xs ys (os.take (lmN os (xs.length+ys.length+1)))):=⟨p1,by rw [p2];exact hval',by rw [List.length_take];omega⟩;clear hL p1 p2 hval' hval;(go_wp2_with fail);refine (nplain_any (some ⟨w.heap.size,0,none⟩) (xs.length+ys.length+1) (xs.length+ys.length+1) os wo HL.out lRr (by omega)).mono ?_;rintro e w3 ⟨rfl,rfl⟩;(go_wp2_with fail);go_ret;refine ⟨_,Hm.out,some ⟨w.heap.size,0,none⟩,_,xs.length+ys.length+1,rfl,hlm,by omega,HL.out.take hlm,fun x hx=> ?_,hbel⟩;injection hx with hx
    rw [← hx];exact lRr
end Go.Proofs.YtehcoffbiplphaaGreat
namespace Cl
def cmpN (a b:Nat):Int:=if a<b then -1 else if b<a then 1 else 0
theorem cmpN_lt {a b:Nat}(h:a<b):cmpN a b= -1:=if_pos h
theorem cmpN_gt {a b:Nat}(h:b<a):cmpN a b=1:=by unfold cmpN;rw [if_neg (by omega),if_pos h]
theorem cmpN_eq {a b:Nat}(h:a=b):cmpN a b=0:=by unfold cmpN;rw [if_neg (by omega),if_neg (by omega)]
theorem limbs_lt_of {xs ys:List Int}(hx:IsLimbs xs) (hy:IsLimbs ys) (hl:xs.length=ys.length) {k:Nat}(hk:k<xs.length) (he:∀j,k<j→nth xs j=nth ys j) (h:nth xs k<nth ys k):limbs xs<limbs ys:=by
 have key:∀n,k+1≤n→limbs (xs.take n)<limbs (ys.take n):=by
  intro n hn;induction n with
  | zero=>omega
  | succ n ih=>
    rw [limbs_take_any,limbs_take_any];by_cases e:k=n
    · subst e
      have h1:=limbs_lt (hx.take k);have h2:2^(64*(xs.take k).length)≤2^(64*k):=Nat.pow_le_pow_right (by omega) (by rw [List.length_take];omega);have h3:=hx k;have h4:=hy k;have h5:2^(64*k)*((nth xs k).toNat+1)≤2^(64*k)*(nth ys k).toNat:=Nat.mul_le_mul_left _ (by omega);rw [Nat.mul_add,Nat.mul_one] at h5;omega
    · have:=ih (by omega)
      rw [he n (by omega)];omega
 have:=key xs.length hk
 rwa [limbs_take_all lRr,limbs_take_all (by omega)] at this
theorem limbs_lt_len {xs ys:List Int}(hx:PlainL xs) (hy:PlainL ys) (h:xs.length<ys.length):limbs xs<limbs ys:=by
 have h1:=limbs_lt hx.1
 have h2:=hy.low (by omega)
 have h3:2^(64*xs.length)≤2^(64*(ys.length - 1)):=Nat.pow_le_pow_right (by omega) (by omega)
 omega
end Cl
namespace Go.Proofs.YtehcoffbiplphaaGreat
open Go.RowKit Cl
attribute [local go_sem ↓] Go.wp_at_zero Go.wp_at_succ
theorem cmp_u64_lt (x y:Int) (w:World) (h:x<y):Calls Tryz.prog 125 #[.int .u64 x,.int .u64 y] w fun e w'=>e=.returned (.int .i64 (-1))∧w=w':=by
 have h1:¬x>y:=by omega
 have h2:(x !=x)=false:=by simp
 have h3:(y !=y)=false:=by simp
 go_enter Tryz.func125,Tryz.ntmps125
 go_wp2
 go_ret
 exact ⟨rfl,rfl⟩
theorem cmp_u64_gt (x y:Int) (w:World) (h:y<x):Calls Tryz.prog 125 #[.int .u64 x,.int .u64 y] w fun e w'=>e=.returned (.int .i64 (1))∧w=w':=by
 have h1:¬x<y:=by omega
 have h2:(x !=x)=false:=by simp
 have h3:(y !=y)=false:=by simp
 go_enter Tryz.func125,Tryz.ntmps125
 go_wp2
 go_ret
 exact ⟨rfl,rfl⟩
theorem cmp_int_lt (x y:Int) (w:World) (h:x<y):Calls Tryz.prog 110 #[.int .i64 x,.int .i64 y] w fun e w'=>e=.returned (.int .i64 (-1))∧w=w':=by
 have h1:¬x>y:=by omega
 have h2:(x !=x)=false:=by simp
 have h3:(y !=y)=false:=by simp
 go_enter Tryz.func110,Tryz.ntmps110
 go_wp2
 go_ret
 exact ⟨rfl,rfl⟩
theorem cmp_int_gt (x y:Int) (w:World) (h:y<x):Calls Tryz.prog 110 #[.int .i64 x,.int .i64 y] w fun e w'=>e=.returned (.int .i64 (1))∧w=w':=by
 have h1:¬x<y:=by omega
 have h2:(x !=x)=false:=by simp
 have h3:(y !=y)=false:=by simp
 go_enter Tryz.func110,Tryz.ntmps110
 go_wp2
 go_ret
 exact ⟨rfl,rfl⟩
theorem nat_cmp (A B:Option Addr) (n m c d:Nat) (xs ys:List Int) (w:World) (hx:Limbs w A n xs) (hy:Limbs w B m ys) (hnc:n≤c) (hc:c≤9223372036854775807) (hmd:m≤d) (hd:d≤9223372036854775807) (hn:n≤4000000000000) (_hm:m≤4000000000000):
 Calls Tryz.prog 88 #[.slice A n c,.slice B m d] w fun e w'=>e=.returned (.int .i64 (cmpN (limbs xs) (limbs ys)))∧∃j,w'=w.drewN j:=by
 have hxl:=hx.len
 have hyl:=hy.len
 have l1:=lmN_le xs n
 have l2:=lmN_le ys m
 obtain ⟨p1,p2⟩:=plainL_take hx.ok hxl
 obtain ⟨q1,q2⟩:=plainL_take hy.ok hyl
 have Hx:=hiD (hx.take l1)
 have Hy:=hiD (hy.take l2)
 have C1:=hiD (nplain_any A n c xs w hx hnc hc)
 have C2:=hiD (nplain_any B m d ys w hy hmd hd)
 have L1:Hid ((xs.take (lmN xs n)).length=lmN xs n):=by show _=_;rw [List.length_take,hxl];omega
 have L2:Hid ((ys.take (lmN ys m)).length=lmN ys m):=by show _=_;rw [List.length_take,hyl];omega
 rw [← p2,← q2]
 have P1:=hiD p1
 have Q1:=hiD q1
 clear hx hy p1 p2 q1 q2 hxl hyl
 generalize xs.take (lmN xs n)=us at*
 generalize ys.take (lmN ys m)=vs at*
 generalize lmN xs n=u at*
 generalize lmN ys m=v at*
 by_cases huv:u=v
 · subst huv
   have hne:((u:Int) !=(u:Int))=false:=by simp
   go_enter Tryz.func88,Tryz.ntmps88
   go_wp2_with fail
   refine C1.out.mono ?_;rintro e w' ⟨rfl,rfl⟩;go_wp2_with fail
   refine C2.out.mono ?_;rintro e w' ⟨rfl,rfl⟩;go_wp2_with fail
   obtain ⟨wo,rfl⟩:∃wo:World,wo=w':=⟨_,rfl⟩;go_loopw [5] (fun i wr=>∃k j:Nat,k≤u∧i=.int .i64 ((k:Int) - 1)∧Hid (∀j,k≤j→nth us j=nth vs j)∧wr=wo.drewN j) (fun i _=>(intOf i+1).toNat)
   case atStart=>exact ⟨u,0,lRr,rfl,fun j hj=>by rw [nth_ge (by rw [L1.out];exact hj),nth_ge (by rw [L2.out];exact hj)],rfl⟩
   case round=>
    obtain ⟨k,j,hk,rfl,hsame,rfl⟩:=hrel;cases k with
    | zero=>
      have e0:(((0:Nat):Int) - 1)= -1:=rfl;have hf:Hid (cmpN (limbs us) (limbs vs)=0):=cmpN_eq (by rw [list_ext (L1.out.trans L2.out.symm) fun i _=>hsame.out i (by omega)]);rw [e0];(go_wp2_with fail);go_ret;exact ⟨ret_int hf.out.symm,_,rfl⟩
    | succ k=>
      (have e0:(((k+1:Nat):Int) - 1)=(k:Int):=by omega);rw [e0];obtain ⟨b,o,rfl,hb,hcx⟩:=Hx.out.at_ (by omega);obtain ⟨b',o',rfl,hb',hcy⟩:=Hy.out.at_ (by omega);have hx1:=hcx k (by omega);have hy1:=hcy k (by omega);(have hj0:(0:Int)≤(k:Int):=by omega);(have hj1:(k:Int)<(u:Int):=by omega);clear hcx hcy e0;rcases Int.lt_trichotomy (nth us k) (nth vs k) with h | h | h
      · have hf:Hid (cmpN (limbs us) (limbs vs)= -1):=cmpN_lt (limbs_lt_of P1.out.1 Q1.out.1 (L1.out.trans L2.out.symm) (by rw [L1.out];omega) (fun i hi=>hsame.out i (by omega)) h)
        (have h2:(nth us k !=nth vs k)=true:=by simp;omega);have h3:decide (nth us k<nth vs k)=true:=decide_eq_true h;(go_wp2_with fail);go_quiet (fail)
        (go_wp2_with fail);go_quiet ((go_at_call 125;first | exact quiet_add_left (cmp_u64_lt _ _ _ h) | exact quiet_left (cmp_u64_lt _ _ _ h)))
        (go_wp2_with fail);go_ret;exact ⟨ret_int hf.out.symm,_,by first | rfl | exact World.drewN_drewN _ _ _ | (rw [World.drewN_drewN,World.drewN_drewN])⟩
      · have hf:Hid (∀j,k≤j→nth us j=nth vs j):=fun j hj=>by
         by_cases e:j=k
         · subst e;exact h
         · exact hsame.out j (by omega)
        (have h2:(nth us k !=nth vs k)=false:=by simp;omega);clear h hsame;(go_wp2_with fail);go_quiet (fail)
        (go_wp2_with fail);go_roundw
        case rel=>exact ⟨k,_,by omega,rfl,hf,by first | rfl | exact World.drewN_drewN _ _ _ | (rw [World.drewN_drewN,World.drewN_drewN])⟩
        case measure=>simp [intOf]
      · have hf:Hid (cmpN (limbs us) (limbs vs)=1):=cmpN_gt (limbs_lt_of Q1.out.1 P1.out.1 (L2.out.trans L1.out.symm) (by rw [L2.out];omega) (fun i hi=>(hsame.out i (by omega)).symm) h)
        (have h2:(nth us k !=nth vs k)=true:=by simp;omega);have h3:decide (nth us k<nth vs k)=false:=decide_eq_false (by omega);(go_wp2_with fail);go_quiet (fail)
        (go_wp2_with fail);go_quiet ((go_at_call 125;first | exact quiet_add_left (cmp_u64_gt _ _ _ h) | exact quiet_left (cmp_u64_gt _ _ _ h)))
        (go_wp2_with fail);go_ret;exact ⟨ret_int hf.out.symm,_,by first | rfl | exact World.drewN_drewN _ _ _ | (rw [World.drewN_drewN,World.drewN_drewN])⟩
 · have hne:((u:Int) !=(v:Int))=true:=by simp;omega
   go_enter Tryz.func88,Tryz.ntmps88
   go_wp2_with fail
   refine C1.out.mono ?_;rintro e w' ⟨rfl,rfl⟩;go_wp2_with fail
   refine C2.out.mono ?_;rintro e w' ⟨rfl,rfl⟩;rcases Nat.lt_or_gt_of_ne huv with h | h
   · have hf:Hid (cmpN (limbs us) (limbs vs)= -1):=cmpN_lt (limbs_lt_len P1.out Q1.out (by rw [L1.out,L2.out];exact h))
     (have h1:(u:Int)<(v:Int):=by omega);(go_wp2_with fail);refine (cmp_int_lt _ _ _ h1).mono ?_;rintro e w'' ⟨rfl,rfl⟩;(go_wp2_with fail);go_ret;exact ⟨ret_int hf.out.symm,0,rfl⟩
   · have hf:Hid (cmpN (limbs us) (limbs vs)=1):=cmpN_gt (limbs_lt_len Q1.out P1.out (by rw [L1.out,L2.out];exact h))
     (have h1:(v:Int)<(u:Int):=by omega);(go_wp2_with fail);refine (cmp_int_gt _ _ _ h1).mono ?_;rintro e w'' ⟨rfl,rfl⟩;(go_wp2_with fail);go_ret;exact ⟨ret_int hf.out.symm,0,rfl⟩
end Go.Proofs.YtehcoffbiplphaaGreat
namespace Cl
theorem kara {a0 a1 b0 b1 p l h m:Nat}(hl:l=a0*b0) (hh:h=a1*b1) (hm:m=(a0+a1)*(b0+b1) - l - h):l+p*m+p*p*h=(a0+p*a1)*(b0+p*b1):=by
 have e1:(a0+a1)*(b0+b1)=a0*b0+a1*b1+(a0*b1+a1*b0):=by rw [Nat.add_mul,Nat.mul_add,Nat.mul_add];omega
 have e2:m=a0*b1+a1*b0:=by rw [hm,e1,hl,hh];omega
 rw [e2,hl,hh,Nat.add_mul,Nat.mul_add,Nat.mul_add,Nat.mul_add]
 have e3:a0*(p*b1)=p*(a0*b1):=by ac_rfl
 have e4:p*a1*b0=p*(a1*b0):=by ac_rfl
 have e5:p*a1*(p*b1)=p*p*(a1*b1):=by ac_rfl
 rw [e3,e4,e5];omega
theorem limbs_moved (k:Nat) (xs:List Int):limbs (List.replicate k 0++xs)=2^(64*k)*limbs xs:=by
 rw [limbs_append,limbs_replicate,List.length_replicate,Nat.zero_add]
theorem ok_moved {k:Nat} {xs:List Int}(h:IsLimbs xs):IsLimbs (List.replicate k 0++xs):=fun i=>by
 by_cases hi:i<k
 · have e:nth (List.replicate k 0++xs) i=0:=by
    unfold nth;simp [List.getD,hi,List.getElem?_append_left]
   rw [e];omega
 · have e:nth (List.replicate k 0++xs) i=nth xs (i - k):=by
    unfold nth;simp only [List.getD];rw [List.getElem?_append_right (by rw [List.length_replicate];omega),List.length_replicate]
   rw [e];exact h (i - k)
theorem limbs_cut (xs:List Int) {k:Nat}(hk:k≤xs.length):limbs xs=limbs (xs.take k)+2^(64*k)*limbs (xs.drop k):=by
 have h:=limbs_append (xs.take k) (xs.drop k)
 rw [List.take_append_drop,List.length_take,Nat.min_eq_left hk] at h
 exact h
end Cl
namespace Go.Proofs.YtehcoffbiplphaaGreat
open Go.RowKit Cl
attribute [local go_sem ↓] Go.wp_at_zero Go.wp_at_succ
theorem nat_less (A B:Option Addr) (n m c d:Nat) (xs ys:List Int) (w:World) (hx:Limbs w A n xs) (hy:Limbs w B m ys) (hn:n≤8500000000000) (hm:m≤8500000000000) (hle:limbs ys≤limbs xs):
 Calls Tryz.prog 118 #[.slice A n c,.slice B m d] w (GivesNew w (subL xs ys)):=by
 have C:=hiD (nat_sub A B n m c d xs ys w hx hy hn hm hle)
 clear hx hy hle
 go_enter Tryz.func118,Tryz.ntmps118
 go_wp2_with fail
 refine C.out.mono ?_
 rintro e w1 ⟨A1,k1,c1,rfl,g1,g2,g3,g4,g5⟩
 have G3:=hiD g3
 have G4:=hiD g4
 have G5:=hiD g5
 clear g3 g4 g5
 go_wp2_with fail
 go_ret
 exact ⟨A1,k1,c1,rfl,g1,g2,G3.out,G4.out,G5.out⟩
theorem nat_moved (A:Option Addr) (n c:Nat) (xs:List Int) (k:Nat) (w:World) (hx:Limbs w A n xs) (hn:n≤8500000000000) (hk:k≤8500000000000):
 Calls Tryz.prog 136 #[.slice A n c,.int .i64 (k:Int)] w (GivesNew w (List.replicate k 0++xs)):=by
 obtain ⟨i0,hi,hz0,hz1,hz2⟩:=info_parts uint_info
 have hmk:=run_make_limbs Tryz.underlying39 hi hz0 hz1 hz2 k (by omega) w
 have hl:=hx.len
 have Hr:=hiD hx.reads
 have Hok:=hiD hx.ok
 have hrow:=RowL.new w 38 (List.replicate k 0)
 have hown0:Hid ((w.alloc (.cells (lmbs (List.replicate k 0)).toArray 38)).ownsRow w.heap.size 38 1 (.slice (some ⟨w.heap.size,0,none⟩) k k) k (lmbs (List.replicate k 0))):=by
  have h:=hrow.own lRr (n:=k) (by rw [List.length_replicate];exact lRr) (by rw [List.length_replicate];unfold maxLen;omega);rw [List.length_replicate,List.take_of_length_le (by rw [List.length_replicate];exact lRr)] at h;exact h
 have hn0:(0:Int)≤(k:Int):=by omega
 clear hx hl hrow
 go_enter Tryz.func136,Tryz.ntmps136
 go_wp2_with (at_builtin;go_must (refine wpList_append_any (w:=w.alloc (.cells (lmbs (List.replicate k 0)).toArray 38)) rfl _ _ 39 rfl w.heap.size 38 i0 (.int .u64 0) 1 8 Tryz.underlying39 hi hz0 hz1 hz2 rfl (by decide) _ k (lmbs (List.replicate k 0)) rfl hown0.out w.heap.size A n c (lmbs xs) rfl (Hr.out.alloc lRr _) (lmbs_oneCell xs) (by unfold maxLen;omega) (by omega) (by simp) ?_);intro v' w1 hown hgrow hat)
 have hown2:w1.ownsRow w.heap.size 38 1 v' (k+n) (lmbs (List.replicate k 0++xs)):=by rw [lmbs_append];exact hown
 have hb:Below w.heap.size w w1:=((Below.refl _ w).alloc lRr _).grown hgrow (by simp) (fun k hk=>(hown0.out.lt k hk).1)
 have Hown2:=hiD hown2
 have Hb:=hiD hb
 clear hown hgrow hat hb hown2
 obtain ⟨A',c',rfl⟩:=own_slice Hown2.out
 go_wp2_with fail
 go_ret
 have hcc:k+n≤c'∧c'≤9223372036854775807:=by
  rcases Hown2.out.2 with ⟨hv,h0⟩ | ⟨g,cap,cur,hv,_,_,hnc,hcm,_⟩
  · injection hv;omega
  · injection hv with _ _ e
    unfold maxLen at hcm;omega
 exact ⟨A',k+n,c',rfl,hcc.1,hcc.2,Limbs.of_own Hown2.out (ok_moved Hok.out),fun y hy=>(Hown2.out.lt y.block (by subst hy;rfl)).1,Hb.out⟩
end Go.Proofs.YtehcoffbiplphaaGreat
namespace Go.Proofs.YtehcoffbiplphaaGreat
open Go.RowKit Cl
attribute [local go_sem ↓] Go.wp_at_zero Go.wp_at_succ
theorem limbs_dropAt {w:World} {b o n:Nat} {xs:List Int}(h:Limbs w (some ⟨b,o,none⟩) n xs) {k:Nat}(hk:k≤n):Limbs w (some ⟨b,o+k,none⟩) (n - k) (xs.drop k):=
 ⟨by rw [List.length_drop,h.len],fun hn=>by
   obtain ⟨b',o',e,hb,hc⟩:=h.at_ (by omega);injection e with e;injection e with e1 e2;subst e1;subst e2
   refine ⟨b,o+k,rfl,hb,fun i hi=> ?_⟩;have e3:nth (xs.drop k) i=nth xs (k+i):=by unfold nth;simp [List.getD]
   rw [e3,Nat.add_assoc];exact hc (k+i) (by omega),fun i=>by
   have e3:nth (xs.drop k) i=nth xs (k+i):=by unfold nth;simp [List.getD]
   rw [e3];exact h.ok (k+i)⟩
theorem short_prod {zs:List Int} {u v K:Nat}(h:PlainL zs) (hz:limbs zs<2^(64*u)*2^(64*v)) (hK:u+v≤K):zs.length≤K:=by
 rcases Nat.eq_zero_or_pos zs.length with h0 | h0
 · omega
 · have h1:=h.low h0
   rw [← Nat.pow_add] at hz;by_cases hl:zs.length≤K
   · exact hl
   · exfalso
     have h3:2^(64*u+64*v)≤2^(64*(zs.length - 1)):=Nat.pow_le_pow_right (by omega) (by omega);omega
def MulGives (n m:Nat) (xs ys:List Int) (w:World) (e:Ending) (w':World):Prop:=∃zs,PlainL zs∧limbs zs=limbs xs*limbs ys∧zs.length≤n+m+1∧GivesNew w zs e w'
theorem run_min' {P:Program}(w:World) (ts:Array TypeId) (t:TypeId) (k k':IntKind) (x y:Int):(Builtin.min_ ts t #[.int k x,.int k' y]).run P w=.ok (.int k (min x y)) w:=by
 rw [run_min_int2,show min x y=if y<x then y else x by split<;>omega]
theorem run_max' {P:Program}(w:World) (ts:Array TypeId) (t:TypeId) (k k':IntKind) (x y:Int):(Builtin.max_ ts t #[.int k x,.int k' y]).run P w=.ok (.int k (max x y)) w:=by
 rw [run_max_int2,show max x y=if y>x then y else x by split<;>omega]
theorem sliced_to (b o p c:Nat):sliced (some ⟨b,o,none⟩) 0 p c 1=.slice (some ⟨b,o,none⟩) p c:=by
 unfold sliced
 split
 · rename_i h;subst h;rfl
 · show Value.slice (some ⟨b,o+0*1,none⟩) _ _=_
   simp
theorem limbs_from {w:World} {b o n c p:Nat} {xs:List Int}(h:Limbs w (some ⟨b,o,none⟩) n xs) (hp:p≤n) (hc:n≤c):∃A1,sliced (some ⟨b,o,none⟩) p n c 1=.slice A1 (n - p) (c - p)∧Limbs w A1 (n - p) (xs.drop p):=by
 have h1:=limbs_dropAt h hp
 unfold sliced
 split
 · have e:n - p=0:=by omega
   refine ⟨_,rfl,h1.len,fun hn=>by omega,h1.ok⟩
 · refine ⟨some ⟨b,o+p,none⟩,?_,h1⟩
   show Value.slice (some (Addr.add ⟨b,o,none⟩ (p*1))) _ _=_;rw [Nat.mul_one,Go.WideShapes.add_plain]
theorem limbs_part {xs:List Int} {n h p:Nat}(hl:xs.length=n) (hp:p=h∧h≤n∨p=n∧n≤h):limbs xs=limbs (xs.take p)+2^(64*h)*limbs (xs.drop p):=by
 rcases hp with ⟨rfl,h2⟩ | ⟨rfl,h2⟩
 · exact limbs_cut xs (by omega)
 · rw [← hl,List.take_length,List.drop_length]
   show _=_+_*0;omega
attribute [-go_sem] run_min_int2 run_max_int2 sliced
attribute [local go_sem] run_min' run_max'
theorem nat_mulW (A B:Option Addr) (n m c d:Nat) (xs ys:List Int) (w:World) (hx:Limbs w A n xs) (hy:Limbs w B m ys) (hnc:n≤c) (hc:c≤9223372036854775807) (hmd:m≤d) (hd:d≤9223372036854775807) (hn:n≤4000000000000) (hm:m≤4000000000000) (hu:8≤lmN xs n) (hv:8≤lmN ys m)
 (ih:∀(A B:Option Addr) (n' m' c d:Nat) (xs' ys':List Int) (w:World),lmN xs' n'+lmN ys' m'<lmN xs n+lmN ys m→Limbs w A n' xs'→Limbs w B m' ys'→n'≤c→c≤9223372036854775807→m'≤d→d≤9223372036854775807→n'≤4000000000000→m'≤4000000000000→Calls Tryz.prog 106 #[.slice A n' c,.slice B m' d] w (MulGives n' m' xs' ys' w)):
 Calls Tryz.prog 106 #[.slice A n c,.slice B m d] w (MulGives n m xs ys w):=by
 have hxl:=hx.len
 have hyl:=hy.len
 have l1:=lmN_le xs n
 have l2:=lmN_le ys m
 obtain ⟨p1,p2⟩:=plainL_take hx.ok hxl
 obtain ⟨q1,q2⟩:=plainL_take hy.ok hyl
 have Hx:=hiD (hx.take l1)
 have Hy:=hiD (hy.take l2)
 have C1:=hiD (nplain_any A n c xs w hx hnc hc)
 have C2:=hiD (nplain_any B m d ys w hy hmd hd)
 have Ih:=hiD ih
 obtain ⟨b,o,rfl,hb,hb2⟩:=hx.at_ (by omega)
 obtain ⟨b',o',rfl,hb',hb2'⟩:=hy.at_ (by omega)
 clear hb hb2 hb' hb2'
 have P2:=hiD p2
 have Q2:=hiD q2
 clear hx hy p1 q1 hxl hyl ih p2 q2
 generalize lmN xs n=u at*
 generalize lmN ys m=v at*
 generalize xs.take u=us at*
 generalize ys.take v=vs at*
 obtain ⟨MN,hMN⟩:∃M:Int,min (u:Int) (v:Int)=M:=⟨_,rfl⟩
 obtain ⟨MX,hMX⟩:∃M:Int,max (u:Int) (v:Int)=M:=⟨_,rfl⟩
 obtain ⟨h,hh⟩:∃h:Nat,MX / 2=(h:Int):=⟨(max u v) / 2,by omega⟩
 obtain ⟨p,hp⟩:∃p:Nat,min (h:Int) (u:Int)=(p:Int):=⟨min h u,by omega⟩
 obtain ⟨r,hr⟩:∃r:Nat,min (h:Int) (v:Int)=(r:Int):=⟨min h v,by omega⟩
 have hM8:¬MN<8:=by omega
 have hpu:p=h∧h≤u∨p=u∧u≤h:=by omega
 have hrv:r=h∧h≤v∨r=v∧v≤h:=by omega
 have h4:4≤p∧4≤r∧2*h≤max u v∧h≤2000000000000:=by omega
 have hpu':p≤u:=by omega
 have hrv':r≤v:=by omega
 obtain ⟨A1,e1,Ha1⟩:=limbs_from Hx.out hpu' (c:=c) (by omega)
 obtain ⟨B1,f1,Hb1⟩:=limbs_from Hy.out hrv' (c:=d) (by omega)
 have e0:=sliced_to b o p c
 have f0:=sliced_to b' o' r d
 have Cp:Hid (∀N,Calls Tryz.prog 112 #[.slice (some ⟨b,o,none⟩) p c] (w.drewN N) fun e w2=>e=.returned (.slice (some ⟨b,o,none⟩) (lmN (us.take p) p) c)∧w2=w.drewN N):=fun N=>nplain_any _ p c _ _ ((Hx.out.take hpu').drewN N) (by omega) hc
 have Cq:Hid (∀N,Calls Tryz.prog 112 #[.slice (some ⟨b',o',none⟩) r d] (w.drewN N) fun e w2=>e=.returned (.slice (some ⟨b',o',none⟩) (lmN (vs.take r) r) d)∧w2=w.drewN N):=fun N=>nplain_any _ r d _ _ ((Hy.out.take hrv').drewN N) (by omega) hd
 have hi0:=lmN_le (us.take p) p
 have hj0:=lmN_le (vs.take r) r
 obtain ⟨pa1,pa2⟩:=plainL_take (Hx.out.take hpu').ok (n:=p) (by rw [List.length_take,Hx.out.len];omega)
 obtain ⟨pb1,pb2⟩:=plainL_take (Hy.out.take hrv').ok (n:=r) (by rw [List.length_take,Hy.out.len];omega)
 have ha0:=(Hx.out.take hpu').take hi0
 have hb0:=(Hy.out.take hrv').take hj0
 have eU:Hid (limbs us=limbs ((us.take p).take (lmN (us.take p) p))+2^(64*h)*limbs (us.drop p)):=by show _=_;rw [pa2];exact limbs_part Hx.out.len hpu
 have eV:Hid (limbs vs=limbs ((vs.take r).take (lmN (vs.take r) r))+2^(64*h)*limbs (vs.drop r)):=by show _=_;rw [pb2];exact limbs_part Hy.out.len hrv
 have uLt:Hid (limbs us<2^(64*u)):=by have:=limbs_lt Hx.out.ok;rwa [Hx.out.len] at this
 have vLt:Hid (limbs vs<2^(64*v)):=by have:=limbs_lt Hy.out.ok;rwa [Hy.out.len] at this
 have sa:=addL_spec ha0.ok Ha1.ok
 rw [ha0.len,Ha1.len] at sa
 have saL:=sa.2
 have sb:=addL_spec hb0.ok Hb1.ok
 rw [hb0.len,Hb1.len] at sb
 have sbL:=sb.2
 have HP:=hiD hpu
 have HR:=hiD hrv
 have H4:=hiD h4
 clear sa sb pa1 pa2 pb1 pb2 Hx Hy hpu hrv h4
 generalize (us.take p).take (lmN (us.take p) p)=a0s at*
 generalize us.drop p=a1s at*
 generalize lmN (us.take p) p=i0 at*
 generalize (vs.take r).take (lmN (vs.take r) r)=b0s at*
 generalize vs.drop r=b1s at*
 generalize lmN (vs.take r) r=j0 at*
 have Ha0:=hiD ha0
 have Ha1:=hiD Ha1
 have Hb0:=hiD hb0
 have Hb1:=hiD Hb1
 clear ha0 hb0
 have g1:(0:Int)≤(p:Int):=by omega
 have g2:(p:Int)≤(c:Int):=by omega
 have g3:(p:Int)≤(u:Int):=by omega
 have g4:(0:Int)≤(r:Int):=by omega
 have g5:(r:Int)≤(d:Int):=by omega
 have g6:(r:Int)≤(v:Int):=by omega
 go_enter Tryz.func106,Tryz.ntmps106
 go_wp2_with fail
 refine C1.out.mono ?_
 rintro e w' ⟨rfl,rfl⟩
 go_wp2_with fail
 refine C2.out.mono ?_
 rintro e w' ⟨rfl,rfl⟩
 go_wp2_with fail
 rw [hh]
 go_quiet ((go_at_call 112;first | exact quiet_add_left ((Cp.out _).mono fun _ _ h=>⟨h.1,h.2.symm⟩) | exact quiet_left ((Cp.out _).mono fun _ _ h=>⟨h.1,h.2.symm⟩)))
 clear e0 e1 hp g1 g2 g3 Cp
 obtain ⟨nq1,rfl⟩:∃N:Nat,N=nq:=⟨_,rfl⟩
 go_wp2_with fail
 go_quiet ((go_at_call 112;first | exact quiet_add_left ((Cq.out _).mono fun _ _ h=>⟨h.1,h.2.symm⟩) | exact quiet_left ((Cq.out _).mono fun _ _ h=>⟨h.1,h.2.symm⟩)))
 clear f0 f1 hr g4 g5 g6 Cq
 have hbw:Below w'.heap.size w' ((w'.drewN nq1).drewN nq):=below_drewN (below_drewN bRr _) _
 replace Ha0:=hiD (Ha0.out.bel hbw)
 replace Ha1:=hiD (Ha1.out.bel hbw)
 replace Hb0:=hiD (Hb0.out.bel hbw)
 replace Hb1:=hiD (Hb1.out.bel hbw)
 have Hbw:=hiD hbw
 clear hbw
 generalize (w'.drewN nq1).drewN nq=w2 at*
 have HA:i0+j0<u+v∧u - p+(v - r)<u+v∧max i0 (u - p)+max j0 (v - r)+2<u+v∧2*h≤4000000000000∧4≤p∧4≤r∧max i0 (u - p)≤2000000000001∧max j0 (v - r)≤2000000000001:=by
  have:=HP.out;have:=HR.out;have:=H4.out;omega
 obtain ⟨hd1,hd2,hd3,hd4,hd5,hd6,hd7,hd8⟩:=HA
 have Clo:=hiD (Ih.out (some ⟨b,o,none⟩) (some ⟨b',o',none⟩) i0 j0 c d a0s b0s w2 (by have:=lmN_le a0s i0;have:=lmN_le b0s j0;omega) Ha0.out Hb0.out (by omega) hc (by omega) hd (by omega) (by omega))
 go_wp2_with fail
 refine Clo.out.mono ?_
 rintro e w3 ⟨lo,lo1,lo2,lo3,A3,n3,c3,rfl,r1,r2,r3,_,r5⟩
 clear Clo
 have Ch:=hiD (Ih.out A1 B1 (u - p) (v - r) (c - p) (d - r) a1s b1s w3 (by have:=lmN_le a1s (u - p);have:=lmN_le b1s (v - r);omega) (Ha1.out.bel r5) (Hb1.out.bel r5) (by omega) (by omega) (by omega) (by omega) (by omega) (by omega))
 have HA0:=hiD (Ha0.out.bel r5)
 have HA1:=hiD (Ha1.out.bel r5)
 have HB0:=hiD (Hb0.out.bel r5)
 have HB1:=hiD (Hb1.out.bel r5)
 have Hlo:=hiD r3
 have Hbel3:Hid (Below w'.heap.size w' w3):=Hbw.out.tm r5
 have Elo:=hiD lo2
 clear r3 r5 Ha0 Ha1 Hb0 Hb1 Hbw lo2
 go_wp2_with fail
 refine Ch.out.mono ?_
 rintro e w4 ⟨hi,hi1,hi2,hi3,A4,n4,c4,rfl,s1,s2,s3,_,s5⟩
 clear Ch
 have Hlo4:=hiD (Hlo.out.bel s5)
 have Hhi:=hiD s3
 have Ehi:=hiD hi2
 have Ca:=hiD (nat_add (some ⟨b,o,none⟩) A1 i0 (u - p) c (c - p) a0s a1s w4 (HA0.out.bel s5) (HA1.out.bel s5) (by omega) (by omega))
 have HB04:=hiD (HB0.out.bel s5)
 have HB14:=hiD (HB1.out.bel s5)
 have Hbel4:Hid (Below w'.heap.size w' w4):=Hbel3.out.tm s5
 clear s3 s5 HA0 HA1 HB0 HB1 Hlo Hbel3 hi2
 go_wp2_with fail
 refine Ca.out.mono ?_
 rintro e w5 ⟨A5,n5,c5,rfl,t1,t2,t3,_,t5⟩
 clear Ca
 have Cb:=hiD (nat_add (some ⟨b',o',none⟩) B1 j0 (v - r) d (d - r) b0s b1s w5 (HB04.out.bel t5) (HB14.out.bel t5) (by omega) (by omega))
 have Hsa:=hiD t3
 have Hlo5:=hiD (Hlo4.out.bel t5)
 have Hhi5:=hiD (Hhi.out.bel t5)
 have Hbel5:Hid (Below w'.heap.size w' w5):=Hbel4.out.tm t5
 clear t3 t5 HB04 HB14 Hlo4 Hhi Hbel4
 go_wp2_with fail
 refine Cb.out.mono ?_
 rintro e w6 ⟨A6,n6,c6,rfl,x1,x2,x3,_,x5⟩
 clear Cb
 have hl5:n5≤max i0 (u - p)+1:=by have:=Hsa.out.len;have:=saL.2;omega
 have hl6:n6≤max j0 (v - r)+1:=by have:=x3.len;have:=sbL.2;omega
 have Cm:=hiD (Ih.out A5 A6 n5 n6 c5 c6 (addL a0s a1s) (addL b0s b1s) w6 (by have:=lmN_le (addL a0s a1s) n5;have:=lmN_le (addL b0s b1s) n6;omega) (Hsa.out.bel x5) x3 t1 t2 x1 x2 (by omega) (by omega))
 have Hlo6:=hiD (Hlo5.out.bel x5)
 have Hhi6:=hiD (Hhi5.out.bel x5)
 have Hbel6:Hid (Below w'.heap.size w' w6):=Hbel5.out.tm x5
 clear x3 x5 Hsa Hlo5 Hhi5 Hbel5
 go_wp2_with fail
 refine Cm.out.mono ?_
 rintro e w7 ⟨mm,mm1,mm2,mm3,A7,n7,c7,rfl,y1,y2,y3,_,y5⟩
 clear Cm
 have em:limbs mm=(limbs a0s+limbs a1s)*(limbs b0s+limbs b1s):=by rw [mm2,saL.1,sbL.1]
 have hle1:limbs lo≤limbs mm:=by rw [em,Elo.out,Nat.add_mul,Nat.mul_add];omega
 have hln3:=Hlo6.out.len
 have hln4:=Hhi6.out.len
 have hln7:=y3.len
 have Cs:=hiD (nat_less A7 A3 n7 n3 c7 c3 mm lo w7 y3 (Hlo6.out.bel y5) (by omega) (by omega) hle1)
 have sp1:=subL_spec mm1.1 lo1.1 hle1
 have Hlo7:=hiD (Hlo6.out.bel y5)
 have Hhi7:=hiD (Hhi6.out.bel y5)
 have Hbel7:Hid (Below w'.heap.size w' w7):=Hbel6.out.tm y5
 have Em:=hiD em
 have Sp1:=hiD sp1
 clear y3 y5 Hlo6 Hhi6 Hbel6 em sp1 mm2
 go_wp2_with fail
 refine Cs.out.mono ?_
 rintro e w8 ⟨A8,n8,c8,rfl,z1,z2,z3,_,z5⟩
 clear Cs
 have hle2:limbs hi≤limbs (subL mm lo):=by rw [Sp1.out.2.2.1,Em.out,Elo.out,Ehi.out,Nat.add_mul,Nat.mul_add,Nat.mul_add];omega
 have hln8:=z3.len
 have hls1:=Sp1.out.2.2.2
 have Cs:=hiD (nat_less A8 A4 n8 n4 c8 c4 (subL mm lo) hi w8 z3 (Hhi7.out.bel z5) (by omega) (by omega) hle2)
 have Sp2:=hiD (subL_spec Sp1.out.2.1.1 hi1.1 hle2)
 have Hlo8:=hiD (Hlo7.out.bel z5)
 have Hhi8:=hiD (Hhi7.out.bel z5)
 have Hbel8:Hid (Below w'.heap.size w' w8):=Hbel7.out.tm z5
 clear z3 z5 Hlo7 Hhi7 Hbel7
 go_wp2_with fail
 refine Cs.out.mono ?_
 rintro e w9 ⟨A9,n9,c9,rfl,p1,p2,p3,_,p5⟩
 clear Cs
 have hln9:=p3.len
 have hls2:=Sp2.out.2.2.2
 have Cv:=hiD (nat_moved A9 n9 c9 (subL (subL mm lo) hi) h w9 p3 (by omega) (by omega))
 have Hlo9:=hiD (Hlo8.out.bel p5)
 have Hhi9:=hiD (Hhi8.out.bel p5)
 have Hbel9:Hid (Below w'.heap.size w' w9):=Hbel8.out.tm p5
 clear p3 p5 Hlo8 Hhi8 Hbel8
 go_wp2_with fail
 refine Cv.out.mono ?_
 rintro e wA ⟨AA,nA,cA,rfl,a1,a2,a3,_,a5⟩
 clear Cv
 have hlnA:=a3.len
 rw [List.length_append,List.length_replicate] at hlnA
 have Cd:=hiD (nat_add A3 AA n3 nA c3 cA lo _ wA (Hlo9.out.bel a5) a3 (by omega) (by omega))
 have Spd:=hiD (addL_spec lo1.1 (ok_moved (k:=h) Sp2.out.2.1.1))
 have HhiA:=hiD (Hhi9.out.bel a5)
 have HbelA:Hid (Below w'.heap.size w' wA):=Hbel9.out.tm a5
 clear a3 a5 Hlo9 Hhi9 Hbel9
 go_wp2_with fail
 refine Cd.out.mono ?_
 rintro e wB ⟨AB,nB,cB,rfl,b1',b2',b3',_,b5'⟩
 clear Cd
 have hlnB:=b3'.len
 have hls3:=Spd.out.2.2
 rw [List.length_append,List.length_replicate] at hls3
 have hh2:Hid (2*(h:Int)=((2*h:Nat):Int)):=by show _=_;omega
 have hh3:IntKind.i64.wrap (2*(h:Int))=2*(h:Int):=IntWalk.i64_in _ (by omega)
 have Cv:=hiD (nat_moved A4 n4 c4 hi (2*h) wB (HhiA.out.bel b5') (by omega) (by omega))
 rw [← hh2.out] at Cv
 have HsB:=hiD b3'
 have HbelB:Hid (Below w'.heap.size w' wB):=HbelA.out.tm b5'
 clear b3' b5' HhiA HbelA
 go_wp2_with fail
 refine Cv.out.mono ?_
 rintro e wC ⟨AC,nC,cC,rfl,f1,f2,f3,_,f5⟩
 clear Cv
 have hlnC:=f3.len
 rw [List.length_append,List.length_replicate] at hlnC
 have Cd:=hiD (nat_add AB AC nB nC cB cC _ _ wC (HsB.out.bel f5) f3 (by omega) (by omega))
 have Spe:=hiD (addL_spec Spd.out.1.1 (ok_moved (k:=2*h) hi1.1))
 have HbelC:Hid (Below w'.heap.size w' wC):=HbelB.out.tm f5
 clear f3 f5 HsB HbelB hh3
 go_wp2_with fail
 refine Cd.out.mono ?_
 rintro e wD ⟨AD,nD,cD,rfl,h1,h2,h3,h4,h5⟩
 clear Cd
 have Fin:Hid (MulGives n m xs ys w' (.returned (.slice AD nD cD)) wD):=by
  have ev:limbs (addL (addL lo (List.replicate h 0++subL (subL mm lo) hi)) (List.replicate (2*h) 0++hi))=limbs us*limbs vs:=by
   rw [Spe.out.2.1,Spd.out.2.1,limbs_moved,limbs_moved,Sp2.out.2.2.1,Sp1.out.2.2.1];have hk:=kara (a0:=limbs a0s) (a1:=limbs a1s) (b0:=limbs b0s) (b1:=limbs b1s) (p:=2^(64*h)) (l:=limbs lo) (h:=limbs hi) (m:=limbs mm - limbs lo - limbs hi) Elo.out Ehi.out (by rw [Em.out]);rw [show 2^(64*(2*h))=2^(64*h)*2^(64*h) by rw [← Nat.pow_add];congr 1;omega,hk,← eU.out,← eV.out]
  refine ⟨_,Spe.out.1,by rw [ev,P2.out,Q2.out],?_,AD,nD,cD,rfl,h1,h2,h3,fun x hx=> ?_,HbelC.out.tm h5⟩
  · exact short_prod Spe.out.1 (by rw [ev];exact Nat.mul_lt_mul'' uLt.out vLt.out) (by omega)
  · have:=h4 x hx;have:=HbelC.out.size;omega
 clear h3 h4 h5 HbelC
 go_wp2_with fail
 go_ret
 exact Fin.out
theorem nat_mulS (A B:Option Addr) (n m c d:Nat) (xs ys:List Int) (w:World) (hx:Limbs w A n xs) (hy:Limbs w B m ys) (hnc:n≤c) (hc:c≤9223372036854775807) (hmd:m≤d) (hd:d≤9223372036854775807) (hn:n≤4000000000000) (hm:m≤4000000000000) (hs:lmN xs n<8∨lmN ys m<8):
 Calls Tryz.prog 106 #[.slice A n c,.slice B m d] w fun e w'=>∃zs,PlainL zs∧limbs zs=limbs xs*limbs ys∧zs.length≤n+m+1∧GivesNew w zs e w':=by
 have hxl:=hx.len
 have hyl:=hy.len
 have l1:=lmN_le xs n
 have l2:=lmN_le ys m
 obtain ⟨p1,p2⟩:=plainL_take hx.ok hxl
 obtain ⟨q1,q2⟩:=plainL_take hy.ok hyl
 have Hx:=hiD (hx.take l1)
 have Hy:=hiD (hy.take l2)
 have C1:=hiD (nplain_any A n c xs w hx hnc hc)
 have C2:=hiD (nplain_any B m d ys w hy hmd hd)
 have Cs:=hiD (nat_school A B (lmN xs n) (lmN ys m) c d _ _ w Hx.out Hy.out (by omega) (by omega))
 have Hres:Hid (∀zs,MulOut (xs.take (lmN xs n)) (ys.take (lmN ys m)) zs→PlainL zs∧limbs zs=limbs xs*limbs ys∧zs.length≤n+m+1):=fun zs h=>⟨h.pl,by rw [h.eq,p2,q2],by have:=h.len;rw [List.length_take,List.length_take] at this;omega⟩
 clear hx hy p1 p2 q1 q2 Hx Hy hxl hyl
 generalize lmN xs n=u at*
 generalize lmN ys m=v at*
 obtain ⟨MN,hMN⟩:∃M:Int,min (u:Int) (v:Int)=M:=⟨_,rfl⟩
 have h8:MN<8:=by omega
 clear hs
 go_enter Tryz.func106,Tryz.ntmps106
 go_wp2_with fail
 refine C1.out.mono ?_
 rintro e w' ⟨rfl,rfl⟩
 go_wp2_with fail
 refine C2.out.mono ?_
 rintro e w' ⟨rfl,rfl⟩
 go_wp2_with fail
 refine Cs.out.mono ?_
 rintro e w1 ⟨zs,hz,A1,k1,c1,rfl,g1,g2,g3,g4,g5⟩
 obtain ⟨r1,r2,r3⟩:=Hres.out zs hz
 go_wp2_with fail
 go_ret
 exact ⟨zs,r1,r2,r3,A1,k1,c1,rfl,g1,g2,g3,g4,g5⟩
theorem nat_mul_any (k:Nat):∀(A B:Option Addr) (n m c d:Nat) (xs ys:List Int) (w:World),lmN xs n+lmN ys m<k→Limbs w A n xs→Limbs w B m ys→n≤c→c≤9223372036854775807→m≤d→d≤9223372036854775807→n≤4000000000000→m≤4000000000000→Calls Tryz.prog 106 #[.slice A n c,.slice B m d] w (MulGives n m xs ys w):=by
 induction k with
 | zero=>intro _ _ _ _ _ _ _ _ _ h;omega
 | succ k ih=>
   intro A B n m c d xs ys w hk hx hy hnc hc hmd hd hn hm;have ih':=fun A B n' m' c d xs' ys' w (h:lmN xs' n'+lmN ys' m'<lmN xs n+lmN ys m)=>ih A B n' m' c d xs' ys' w (by omega);by_cases hs:lmN xs n<8∨lmN ys m<8
   · exact nat_mulS A B n m c d xs ys w hx hy hnc hc hmd hd hn hm hs
   · exact nat_mulW A B n m c d xs ys w hx hy hnc hc hmd hd hn hm (by omega) (by omega) ih'
end Go.Proofs.YtehcoffbiplphaaGreat
