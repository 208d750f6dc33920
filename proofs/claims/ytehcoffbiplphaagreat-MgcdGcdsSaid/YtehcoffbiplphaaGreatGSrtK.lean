import Derived.Test.YtehcoffbiplphaaGreatGSumK
import Derived.Test.YtehcoffbiplphaaGreatGSortTrm
set_option linter.all false
set_option maxHeartbeats 1000000
set_option maxRecDepth 100000
namespace Go.Proofs.YtehcoffbiplphaaGreat
open Go.Proofs.Tryz
open Go.RowKit
def Sa (x:Int) (w:World):aC 110 #[.int .i64 x,.int .i64 x] w fun e w'=>e=.returned (.int .i64 0)∧w=w':=by
 have h1:¬x<x:=by omega
 have h2:(x !=x)=false:=by simp
 go_enter func110,ntmps110
 go_wp2
 go_ret;exact ⟨rfl,rfl⟩
def Pw (x y:Int) (w:World) (h:x=y):aC 110 #[.int .i64 x,.int .i64 y] w fun e w'=>e=.returned (.int .i64 0)∧w=w':=by
 subst h;exact Sa x w
def YW (A B:Option Addr) (n c d:Nat) (xs ys:List Int) (w:World) (hx:Ints w A n xs) (hy:Ints w B n ys) (hn:n<=9223372036854775807):
 aC 78 #[.slice A n c,.slice B n d] w fun e w'=>e=.returned (.int .i64 (rV xs ys))∧w=w':=by
 have Hl:=aA hx.len;have Hm:=aA hy.len;go_enter func78,ntmps78
 go_wp2
 go_loopw [11] (fun i wr=>∃k:Nat,k<=n∧i=.int .i64 k∧Hid (∀j,j<k->nth xs j=nth ys j)∧w=wr) (fun i _=>n-(intOf i).toNat)
 case atStart=>exact ⟨0,by omega,rfl,(fun j hj=>absurd hj (by omega)),rfl⟩
 case round=>
  obtain ⟨k,hk,rfl,fP,rfl⟩:=hrel;by_cases hlt:k<n
  . obtain ⟨b,o,rfl,hb,hc⟩:=hx.at_ (by omega)
    obtain ⟨b',o',rfl,pL,hc'⟩:=hy.at_ (by omega);have JZ:=hc k hlt;have apx:=hc' k hlt;(have dI:(k:Int)<(n:Int):=by omega);rcases Vd (nth xs k) (nth ys k) with h | h | h
    . have Hz:Hid (rV xs ys= -1):=GF (Gv (i:=k) (by rw [Hl.o,Hm.o]) fP.o (by rw [Hl.o];exact hlt) h)
      (go_wp2_with fail);refine (Ij _ _ _ h).mono ?_;rintro e w' ⟨rfl,rfl⟩;(go_wp2);go_ret;exact ⟨oN Hz.o.symm,rfl⟩
    . have Hz:=aA (fun j (hj:j<k+1)=>if e:j=k then e ▸ h else fP.o j (by omega))
      clear h fP;(go_wp2_with fail);refine (Pw (nth xs k) (nth ys k) _ (Hz.o k (by omega))).mono ?_;rintro e w' ⟨rfl,rfl⟩;(go_wp2);go_roundw
      case rel=>exact ⟨k+1,by omega,by go_num,Hz,trivial⟩
      case measure=>simp [intOf];omega
    . have Hz:Hid (rV xs ys=1):=M3 (Gv (i:=k) (by rw [Hl.o,Hm.o]) (fun j hj=>(fP.o j hj).symm) (by rw [Hm.o];exact hlt) h)
      (go_wp2_with fail);refine (Ik _ _ _ h).mono ?_;rintro e w' ⟨rfl,rfl⟩;(go_wp2);go_ret;exact ⟨oN Hz.o.symm,rfl⟩
  . have Hz:Hid (rV xs ys=0):=by
     have:xs=ys:=oT (xs:=xs) (ys:=ys) (by rw [Hl.o,Hm.o]) (fun i hi=>fP.o i (by have:=Hl.o;omega));rw [this];exact yS ys
    (have dI:¬(k:Int)<(n:Int):=by omega);(go_wp2);go_ret;exact ⟨oN Hz.o.symm,rfl⟩
def aup (x y:bA) (W:World) (hx:Ints W x.1.2.1 x.2.2.length x.2.2) (hy:Ints W y.1.2.1 y.2.2.length y.2.2) (hl:x.2.2.length=y.2.2.length) (h6:x.2.2.length<=1000000):
 aC 109 #[.agg (kN x).toArray,.agg (kN y).toArray] W fun e w'=>e=.returned (.int .i64 (rV y.2.2 x.2.2))∧∃q os',w'=Sort.grow (W.drewN q) os':=by
 obtain ⟨⟨⟨xA,xc⟩,⟨xE,xe⟩⟩,⟨⟨xs,xl⟩,xp⟩⟩:=x;obtain ⟨⟨⟨yA,yc⟩,⟨yE,ye⟩⟩,⟨⟨ys,yl⟩,yp⟩⟩:=y;simp only at hx hy hl h6;rw [hl] at hx h6;have C:=aA (YW yE xE yp.length ye xe yp xp ((W.alloc (.cells #[.bool xs,.slice xA xl.length xc,.slice xE yp.length xe] 44)).alloc (.cells #[.bool ys,.slice yA yl.length yc,.slice yE yp.length ye] 44)) ((hy.alloc _).alloc _) ((hx.alloc _).alloc _) (by omega));show aC 109 #[.agg #[.bool xs,.slice xA xl.length xc,.slice xE xp.length xe],.agg #[.bool ys,.slice yA yl.length yc,.slice yE yp.length ye]] W _;rw [hl];show Calls _ _ _ W fun e w'=>e=.returned (.int .i64 (rV yp xp))∧∃q os',w'=Sort.grow (W.drewN q) os';clear hx hy hl;generalize rV yp xp=z at*
 go_enter func109,ntmps109
 go_wp2_with fail
 refine C.o.mono ?_;rintro e w' ⟨rfl,rfl⟩;go_wp2_with fail
 go_ret;exact ⟨rfl,0,_,by rw [Sort.alloc_eq_grow,Sort.alloc_eq_grow,Sort.grow_grow];rfl⟩
open Go.Sort
def zR {S:Nat->Prop} {w w':World} {A:Option Addr} {n:Nat} {xs:List Int}(h:Ints w A n xs) (ho:Only S w w') (hA:0<n->∀y,A=some y->¬S y.block):Ints w' A n xs:=
 ⟨h.len,fun hn=>by
   obtain ⟨b,o,e,hb,hc⟩:=h.at_ hn;refine ⟨b,o,e,gh hb ho.size,fun i hi=> ?_⟩;rw [ho.cell (p:=⟨b,o+i,none⟩) hb (hA hn ⟨b,o,none⟩ e)];exact hc i hi,h.ok⟩
structure Tls (w:World) (base:Nat) (v:Value) (n:Nat) (L:List bA):Prop where
 own:w.ownsRow base 44 3 v L.length (aS L)
 ok:∀x∈L,gL w x
 len:∀x∈L,x.2.2.length=n
 far:∀x∈L,(0<x.2.1.2.length->∀y,x.1.1.1=some y->v.ownBlock≠some y.block)∧(0<x.2.2.length->∀y,x.1.2.1=some y->v.ownBlock≠some y.block)
section
variable {w w' : World} {base n : Nat} {v : Value} {L : List bA}
def Tls.cells {g m cap:Nat}(h:Tls w base (.slice (some ⟨g,0,none⟩) m cap) n L) {i:Nat}(hi:i<L.length):w.cell? ⟨g,3*i,none⟩=some (.bool (L[i]).2.1.1)∧w.cell? ⟨g,3*i+1,none⟩=some (.slice (L[i]).1.1.1 (L[i]).2.1.2.length (L[i]).1.1.2)∧w.cell? ⟨g,3*i+2,none⟩=some (.slice (L[i]).1.2.1 (L[i]).2.2.length (L[i]).1.2.2):=by
 obtain ⟨t0,t1,t2⟩:=jH hi;have c0:=h.own.cells (g:=g) rfl (3*i) _ t0;have c1:=h.own.cells (g:=g) rfl (3*i+1) _ t1;have c2:=h.own.cells (g:=g) rfl (3*i+2) _ t2;rw [kI,ct] at c0 c1 c2;exact ⟨c0,c1,c2⟩
def Tls.frozen {g m cap:Nat}(h:Tls w base (.slice (some ⟨g,0,none⟩) m cap) n L) (o:Nat):w.frozen? ⟨g,o,none⟩=false:=by
 rcases h.own.2 with ⟨hv,_⟩ | ⟨g',cap',cur,hv,_,hh,_⟩
 . cases hv
 . injection hv with h1;injection h1 with h1;injection h1 with h1;subst h1
   simp [World.frozen?,hh]
end
abbrev Gw (L:List bA):Type:={x:bA // x∈L}
def Sb {L:List bA}(x y:Gw L):Int:=rV y.1.2.2 x.1.2.2
def aus {L:List bA} {n:Nat}(hn:∀x∈L,x.2.2.length=n):Sort.SWO (ltOf (Sb (L:=L))) where
 irrefl x:=by unfold ltOf Sb;rw [yS];rfl
 trans x y z h1 h2:=by
  unfold ltOf Sb at*
  have a1:=sk.1 (LG h1);have a2:=sk.1 (LG h2);exact Ir (sk.2 (jN.trans a2 a1))
 ntrans x y z h1 h2:=by
  unfold ltOf Sb at*
  have a1:¬jN y.1.2.2 x.1.2.2:=fun h=>abQ h1 (sk.2 h);have a2:¬jN z.1.2.2 y.1.2.2:=fun h=>abQ h2 (sk.2 h);refine zC fun h=> ?_;have h3:=sk.1 h;rcases jN.tri (a:=z.1.2.2) (b:=y.1.2.2) (by rw [hn _ z.2,hn _ y.2]) with e | e | e
  . exact a2 e
  . rw [e] at h3;exact a1 h3
  . exact a1 (jN.trans e h3)
def og (L:List bA):Array (Gw L):=(L.attach).toArray
def jX (L:List bA):(og L).size=L.length:=by simp [og]
def P8 (L:List bA) [Inhabited (Gw L)] {i:Nat}(h:i<L.length):((og L)[i]!).1=L[i]:=by
 rw [Vc _ i (by rw [jX];exact h)];unfold og;simp
def Ep {α:Type} [Inhabited α] (enc:α->List Value) (k:Nat) (w:World) (blk off m:Nat) (dk:Array α) (os:Array Obj):Only (fun j=>j=blk) w (sortWorldK enc k w blk off m dk os):=by
 unfold sortWorldK Sort.grow Sort.putRowK Sort.putRow Sort.mapBlock Sort.ahead;refine ⟨rfl,rfl,rfl,by simp,fun j hj hne=> ?_⟩;have h1:j<(w.heap.modify blk (Sort.onCells (Sort.putCells id off (Sort.flatK enc k dk)))).size:=by simpa using hj
 show (w.heap.modify blk (Sort.onCells (Sort.putCells id off (Sort.flatK enc k dk)))++os)[j]? =_;rw [Array.getElem?_append_left h1,wI,af (fun e=>hne e.symm)]
def Qo (A:Option Addr) (c:Nat) (w:World):
 aC 108 #[.slice A 0 c,.func (.func 109) #[] #[]] w fun e w'=>e=.returned (.tuple #[])∧w'=w:=
 AnyF.slices_SortFunc_none { UT with } A c _ w
