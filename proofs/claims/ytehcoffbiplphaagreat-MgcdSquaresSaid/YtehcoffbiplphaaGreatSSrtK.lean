/- Contracts: places compared by the library; terms compared for the sort.
   Contract: terms sorted by the library, the greatest place first.
   A map by places: the sort of no terms. -/
import Derived.Test.YtehcoffbiplphaaGreatSSumK
import Derived.Test.YtehcoffbiplphaaGreatSSortTrm
import Derived.Shelf.SlSortCmp.NoneTotal
set_option linter.unusedVariables false
set_option linter.unusedSimpArgs false
set_option maxHeartbeats 1000000
set_option maxRecDepth 100000
namespace Go.Proofs.YtehcoffbiplphaaGreat
open Go.RowKit Cl
attribute [local go_sem ↓] Go.wp_at_zero Go.wp_at_succ
theorem cmp_int_eq (x:Int) (w:World):Calls Tryz.prog 110 #[.int .i64 x,.int .i64 x] w fun e w'=>e=.returned (.int .i64 0)∧w=w':=by
 have h1:¬x<x:=by omega
 have h2:(x !=x)=false:=by simp
 go_enter Tryz.func110,Tryz.ntmps110
 go_wp2
 go_ret
 exact ⟨rfl,rfl⟩
theorem cmp_int_eq2 (x y:Int) (w:World) (h:x=y):Calls Tryz.prog 110 #[.int .i64 x,.int .i64 y] w fun e w'=>e=.returned (.int .i64 0)∧w=w':=by
 subst h
 exact cmp_int_eq x w
theorem scompare (A B:Option Addr) (n c d:Nat) (xs ys:List Int) (w:World) (hx:Ints w A n xs) (hy:Ints w B n ys) (hn:n≤9223372036854775807):
 Calls Tryz.prog 78 #[.slice A n c,.slice B n d] w fun e w'=>e=.returned (.int .i64 (cmpP xs ys))∧w=w':=by
 have Hl:=hiD hx.len
 have Hm:=hiD hy.len
 go_enter Tryz.func78,Tryz.ntmps78
 go_wp2
 go_loopw [11] (fun i wr=>∃k:Nat,k≤n∧i=.int .i64 k∧Hid (∀j,j<k→nth xs j=nth ys j)∧w=wr) (fun i _=>n - (intOf i).toNat)
 case atStart=>exact ⟨0,by omega,rfl,(fun j hj=>absurd hj (by omega)),rfl⟩
 case round=>
  obtain ⟨k,hk,rfl,hall,rfl⟩:=hrel;by_cases hlt:k<n
  · obtain ⟨b,o,rfl,hb,hc⟩:=hx.at_ (by omega)
    obtain ⟨b',o',rfl,hb',hc'⟩:=hy.at_ (by omega);have hck:=hc k hlt;have hck':=hc' k hlt;(have hlt':(k:Int)<(n:Int):=by omega);rcases Int.lt_trichotomy (nth xs k) (nth ys k) with h | h | h
    · have Hz:Hid (cmpP xs ys= -1):=cmpP_lt (ltP_of (i:=k) (by rw [Hl.out,Hm.out]) hall.out (by rw [Hl.out];exact hlt) h)
      (go_wp2_with fail);refine (cmp_int_lt _ _ _ h).mono ?_;rintro e w' ⟨rfl,rfl⟩;(go_wp2);go_ret;exact ⟨ret_int Hz.out.symm,rfl⟩
    · have Hz:=hiD (fun j (hj:j<k+1)=>if e:j=k then e ▸ h else hall.out j (by omega))
      clear h hall;(go_wp2_with fail);refine (cmp_int_eq2 (nth xs k) (nth ys k) _ (Hz.out k (by omega))).mono ?_;rintro e w' ⟨rfl,rfl⟩;(go_wp2);go_roundw
      case rel=>exact ⟨k+1,by omega,by go_num,Hz,trivial⟩
      case measure=>simp [intOf];omega
    · have Hz:Hid (cmpP xs ys=1):=cmpP_gt (ltP_of (i:=k) (by rw [Hl.out,Hm.out]) (fun j hj=>(hall.out j hj).symm) (by rw [Hm.out];exact hlt) h)
      (go_wp2_with fail);refine (cmp_int_gt _ _ _ h).mono ?_;rintro e w' ⟨rfl,rfl⟩;(go_wp2);go_ret;exact ⟨ret_int Hz.out.symm,rfl⟩
  · have Hz:Hid (cmpP xs ys=0):=by
     have:xs=ys:=list_ext (xs:=xs) (ys:=ys) (by rw [Hl.out,Hm.out]) (fun i hi=>hall.out i (by have:=Hl.out;omega));rw [this];exact cmpP_eq ys
    (have hlt':¬(k:Int)<(n:Int):=by omega);(go_wp2);go_ret;exact ⟨ret_int Hz.out.symm,rfl⟩
theorem tcmp (x y:EntT) (W:World) (hx:Ints W x.1.2.1 x.2.2.length x.2.2) (hy:Ints W y.1.2.1 y.2.2.length y.2.2) (hl:x.2.2.length=y.2.2.length) (h6:x.2.2.length≤1000000):
 Calls Tryz.prog 109 #[.agg (tcell x).toArray,.agg (tcell y).toArray] W fun e w'=>e=.returned (.int .i64 (cmpP y.2.2 x.2.2))∧∃q os',w'=Sort.grow (W.drewN q) os':=by
 obtain ⟨⟨⟨xA,xc⟩,⟨xE,xe⟩⟩,⟨⟨xs,xl⟩,xp⟩⟩:=x
 obtain ⟨⟨⟨yA,yc⟩,⟨yE,ye⟩⟩,⟨⟨ys,yl⟩,yp⟩⟩:=y
 simp only at hx hy hl h6
 rw [hl] at hx h6
 have C:=hiD (scompare yE xE yp.length ye xe yp xp ((W.alloc (.cells #[.bool xs,.slice xA xl.length xc,.slice xE yp.length xe] 44)).alloc (.cells #[.bool ys,.slice yA yl.length yc,.slice yE yp.length ye] 44)) ((hy.alloc _).alloc _) ((hx.alloc _).alloc _) (by omega))
 show Calls Tryz.prog 109 #[.agg #[.bool xs,.slice xA xl.length xc,.slice xE xp.length xe],.agg #[.bool ys,.slice yA yl.length yc,.slice yE yp.length ye]] W _
 rw [hl]
 show Calls _ _ _ W fun e w'=>e=.returned (.int .i64 (cmpP yp xp))∧∃q os',w'=Sort.grow (W.drewN q) os'
 clear hx hy hl
 generalize cmpP yp xp=z at*
 go_enter Tryz.func109,Tryz.ntmps109
 go_wp2_with fail
 refine C.out.mono ?_
 rintro e w' ⟨rfl,rfl⟩
 go_wp2_with fail
 go_ret
 exact ⟨rfl,0,_,by rw [Sort.alloc_eq_grow,Sort.alloc_eq_grow,Sort.grow_grow];rfl⟩
end Go.Proofs.YtehcoffbiplphaaGreat
namespace Go.Proofs.YtehcoffbiplphaaGreat
open Go.RowKit Cl Go.Sort
attribute [local go_sem ↓] Go.wp_at_zero Go.wp_at_succ
theorem ints_onlyB {S:Nat→Prop} {w w':World} {A:Option Addr} {n:Nat} {xs:List Int}(h:Ints w A n xs) (ho:Only S w w') (hA:0<n→∀y,A=some y→¬S y.block):Ints w' A n xs:=
 ⟨h.len,fun hn=>by
   obtain ⟨b,o,e,hb,hc⟩:=h.at_ hn;refine ⟨b,o,e,Nat.lt_of_lt_of_le hb ho.size,fun i hi=> ?_⟩;rw [ho.cell (p:=⟨b,o+i,none⟩) hb (hA hn ⟨b,o,none⟩ e)];exact hc i hi,h.ok⟩
structure Tls (w:World) (base:Nat) (v:Value) (n:Nat) (L:List EntT):Prop where
 own:w.ownsRow base 44 3 v L.length (tcells L)
 ok:∀x∈L,EntOk w x
 len:∀x∈L,x.2.2.length=n
 far:∀x∈L,(0<x.2.1.2.length→∀y,x.1.1.1=some y→v.ownBlock≠some y.block)∧(0<x.2.2.length→∀y,x.1.2.1=some y→v.ownBlock≠some y.block)
section
variable {w w' : World} {base n : Nat} {v : Value} {L : List EntT}
theorem Tls.cells {g m cap:Nat}(h:Tls w base (.slice (some ⟨g,0,none⟩) m cap) n L) {i:Nat}(hi:i<L.length):w.cell? ⟨g,3*i,none⟩=some (.bool (L[i]).2.1.1)∧w.cell? ⟨g,3*i+1,none⟩=some (.slice (L[i]).1.1.1 (L[i]).2.1.2.length (L[i]).1.1.2)∧w.cell? ⟨g,3*i+2,none⟩=some (.slice (L[i]).1.2.1 (L[i]).2.2.length (L[i]).1.2.2):=by
 obtain ⟨t0,t1,t2⟩:=tcells_get hi
 have c0:=h.own.cells (g:=g) rfl (3*i) _ t0
 have c1:=h.own.cells (g:=g) rfl (3*i+1) _ t1
 have c2:=h.own.cells (g:=g) rfl (3*i+2) _ t2
 rw [Go.WideShapes.add_plain,Nat.zero_add] at c0 c1 c2
 exact ⟨c0,c1,c2⟩
theorem Tls.frozen {g m cap:Nat}(h:Tls w base (.slice (some ⟨g,0,none⟩) m cap) n L) (o:Nat):w.frozen? ⟨g,o,none⟩=false:=by
 rcases h.own.2 with ⟨hv,_⟩ | ⟨g',cap',cur,hv,_,hh,_⟩
 · cases hv
 · injection hv with h1;injection h1 with h1;injection h1 with h1;subst h1
   simp [World.frozen?,hh]
end
abbrev lstT (L:List EntT):Type:={x:EntT // x∈L}
def cmpT {L:List EntT}(x y:lstT L):Int:=cmpP y.1.2.2 x.1.2.2
theorem swoT {L:List EntT} {n:Nat}(hn:∀x∈L,x.2.2.length=n):Sort.SWO (ltOf (cmpT (L:=L))) where
 irrefl x:=by unfold ltOf cmpT;rw [cmpP_eq];rfl
 trans x y z h1 h2:=by
  unfold ltOf cmpT at*
  have a1:=cmpP_neg.1 (of_decide_eq_true h1);have a2:=cmpP_neg.1 (of_decide_eq_true h2);exact decide_eq_true (cmpP_neg.2 (ltP.trans a2 a1))
 ntrans x y z h1 h2:=by
  unfold ltOf cmpT at*
  have a1:¬ltP y.1.2.2 x.1.2.2:=fun h=>of_decide_eq_false h1 (cmpP_neg.2 h);have a2:¬ltP z.1.2.2 y.1.2.2:=fun h=>of_decide_eq_false h2 (cmpP_neg.2 h);refine decide_eq_false fun h=> ?_;have h3:=cmpP_neg.1 h;rcases ltP.tri (a:=z.1.2.2) (b:=y.1.2.2) (by rw [hn _ z.2,hn _ y.2]) with e | e | e
  · exact a2 e
  · rw [e] at h3;exact a1 h3
  · exact a1 (ltP.trans e h3)
def attachT (L:List EntT):Array (lstT L):=(L.attach).toArray
theorem attachT_size (L:List EntT):(attachT L).size=L.length:=by simp [attachT]
theorem attachT_get (L:List EntT) [Inhabited (lstT L)] {i:Nat}(h:i<L.length):((attachT L)[i]!).1=L[i]:=by
 rw [getElem!_pos _ i (by rw [attachT_size];exact h)]
 unfold attachT
 simp
theorem only_worldK {α:Type} [Inhabited α] (enc:α→List Value) (k:Nat) (w:World) (blk off m:Nat) (dk:Array α) (os:Array Obj):Only (fun j=>j=blk) w (sortWorldK enc k w blk off m dk os):=by
 unfold sortWorldK Sort.grow Sort.putRowK Sort.putRow Sort.mapBlock Sort.ahead
 refine ⟨rfl,rfl,rfl,by simp,fun j hj hne=> ?_⟩
 have h1:j<(w.heap.modify blk (Sort.onCells (Sort.putCells id off (Sort.flatK enc k dk)))).size:=by simpa using hj
 show (w.heap.modify blk (Sort.onCells (Sort.putCells id off (Sort.flatK enc k dk)))++os)[j]? =_
 rw [Array.getElem?_append_left h1,Array.getElem?_modify,if_neg (fun e=>hne e.symm)]
end Go.Proofs.YtehcoffbiplphaaGreat
namespace Go.Proofs.YtehcoffbiplphaaGreat
open Go.RowKit Cl
theorem tsort_none (A:Option Addr) (c:Nat) (w:World):
 Calls Tryz.prog 108 #[.slice A 0 c,.func (.func 109) #[] #[]] w fun e w'=>e=.returned (.tuple #[])∧w'=w:=
 AnyF.slices_SortFunc_none { sortTrm with } A c _ w
end Go.Proofs.YtehcoffbiplphaaGreat
