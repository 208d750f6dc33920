import Derived.Test.YtehcoffbiplphaaGreatHSumK
import Derived.Test.YtehcoffbiplphaaGreatHSortTrm
set_option linter.all false
set_option maxHeartbeats 1000000
set_option maxRecDepth 100000
namespace Go.Proofs.YtehcoffbiplphaaGreat
open Go.Proofs.Tryz
open Go.RowKit
def Ti (x:Int) (w:World):aB 110 #[.int .i64 x,.int .i64 x] w fun e w'=>e=.returned (.int .i64 0)∧w=w':=by
 have h1:¬x<x:=by omega
 have h2:(x !=x)=false:=by simp
 go_enter func110,ntmps110
 go_wp2
 go_ret;exact ⟨rfl,rfl⟩
def Qj (x y:Int) (w:World) (h:x=y):aB 110 #[.int .i64 x,.int .i64 y] w fun e w'=>e=.returned (.int .i64 0)∧w=w':=by
 subst h;exact Ti x w
def ZZ (A B:Option Addr) (n c d:Nat) (xs ys:List Int) (w:World) (hx:Ints w A n xs) (hy:Ints w B n ys) (hn:n<=9223372036854775807):
 aB 78 #[.slice A n c,.slice B n d] w fun e w'=>e=.returned (.int .i64 (pK xs ys))∧w=w':=by
 have Hl:=aA hx.len;have Hm:=aA hy.len;go_enter func78,ntmps78
 go_wp2
 go_loopw [11] (fun i wr=>∃k:Nat,k<=n∧i=.int .i64 k∧Hid (∀j,j<k->nth xs j=nth ys j)∧w=wr) (fun i _=>n-(intOf i).toNat)
 case atStart=>exact ⟨0,by omega,rfl,(fun j hj=>absurd hj (by omega)),rfl⟩
 case round=>
  obtain ⟨k,hk,rfl,eR,rfl⟩:=hrel;by_cases hlt:k<n
  . obtain ⟨b,o,rfl,hb,hc⟩:=hx.at_ (by omega)
    obtain ⟨b',o',rfl,nI,hc'⟩:=hy.at_ (by omega);have CP:=hc k hlt;have aqZ:=hc' k hlt;(have dH:(k:Int)<(n:Int):=by omega);rcases WX (nth xs k) (nth ys k) with h | h | h
    . have Hz:Hid (pK xs ys= -1):=C9 (Ib (i:=k) (by rw [Hl.o,Hm.o]) eR.o (by rw [Hl.o];exact hlt) h)
      (go_wp2_with fail);refine (JK _ _ _ h).mono ?_;rintro e w' ⟨rfl,rfl⟩;(go_wp2);go_ret;exact ⟨oN Hz.o.symm,rfl⟩
    . have Hz:=aA (fun j (hj:j<k+1)=>if e:j=k then e ▸ h else eR.o j (by omega))
      clear h eR;(go_wp2_with fail);refine (Qj (nth xs k) (nth ys k) _ (Hz.o k (by omega))).mono ?_;rintro e w' ⟨rfl,rfl⟩;(go_wp2);go_roundw
      case rel=>exact ⟨k+1,by omega,by go_num,Hz,trivial⟩
      case measure=>simp [intOf];omega
    . have Hz:Hid (pK xs ys=1):=Gh (Ib (i:=k) (by rw [Hl.o,Hm.o]) (fun j hj=>(eR.o j hj).symm) (by rw [Hm.o];exact hlt) h)
      (go_wp2_with fail);refine (JL _ _ _ h).mono ?_;rintro e w' ⟨rfl,rfl⟩;(go_wp2);go_ret;exact ⟨oN Hz.o.symm,rfl⟩
  . have Hz:Hid (pK xs ys=0):=by
     have:xs=ys:=kW (xs:=xs) (ys:=ys) (by rw [Hl.o,Hm.o]) (fun i hi=>eR.o i (by have:=Hl.o;omega));rw [this];exact yj ys
    (have dH:¬(k:Int)<(n:Int):=by omega);(go_wp2);go_ret;exact ⟨oN Hz.o.symm,rfl⟩
def awj (x y:ax) (W:World) (hx:Ints W x.1.2.1 x.2.2.length x.2.2) (hy:Ints W y.1.2.1 y.2.2.length y.2.2) (hl:x.2.2.length=y.2.2.length) (h6:x.2.2.length<=1000000):
 aB 109 #[.agg (kU x).toArray,.agg (kU y).toArray] W fun e w'=>e=.returned (.int .i64 (pK y.2.2 x.2.2))∧∃q os',w'=Sort.grow (W.drewN q) os':=by
 obtain ⟨⟨⟨xA,xc⟩,⟨xE,xe⟩⟩,⟨⟨xs,xl⟩,xp⟩⟩:=x;obtain ⟨⟨⟨yA,yc⟩,⟨yE,ye⟩⟩,⟨⟨ys,yl⟩,yp⟩⟩:=y;simp only at hx hy hl h6;rw [hl] at hx h6;have C:=aA (ZZ yE xE yp.length ye xe yp xp ((W.alloc (.cells #[.bool xs,.slice xA xl.length xc,.slice xE yp.length xe] 44)).alloc (.cells #[.bool ys,.slice yA yl.length yc,.slice yE yp.length ye] 44)) ((hy.alloc _).alloc _) ((hx.alloc _).alloc _) (by omega));show aB 109 #[.agg #[.bool xs,.slice xA xl.length xc,.slice xE xp.length xe],.agg #[.bool ys,.slice yA yl.length yc,.slice yE yp.length ye]] W _;rw [hl];show Calls _ _ _ W fun e w'=>e=.returned (.int .i64 (pK yp xp))∧∃q os',w'=Sort.grow (W.drewN q) os';clear hx hy hl;generalize pK yp xp=z at*
 go_enter func109,ntmps109
 go_wp2_with fail
 refine C.o.mono ?_;rintro e w' ⟨rfl,rfl⟩;go_wp2_with fail
 go_ret;exact ⟨rfl,0,_,by rw [Sort.alloc_eq_grow,Sort.alloc_eq_grow,Sort.grow_grow];rfl⟩
open Go.Sort
def zh {S:Nat->Prop} {w w':World} {A:Option Addr} {n:Nat} {xs:List Int}(h:Ints w A n xs) (ho:Only S w w') (hA:0<n->∀y,A=some y->¬S y.block):Ints w' A n xs:=
 ⟨h.len,fun hn=>by
   obtain ⟨b,o,e,hb,hc⟩:=h.at_ hn;refine ⟨b,o,e,iE hb ho.size,fun i hi=> ?_⟩;rw [ho.cell (p:=⟨b,o+i,none⟩) hb (hA hn ⟨b,o,none⟩ e)];exact hc i hi,h.ok⟩
structure Tls (w:World) (base:Nat) (v:Value) (n:Nat) (L:List ax):Prop where
 own:w.ownsRow base 44 3 v L.length (aS L)
 ok:∀x∈L,gV w x
 len:∀x∈L,x.2.2.length=n
 far:∀x∈L,(0<x.2.1.2.length->∀y,x.1.1.1=some y->v.ownBlock≠some y.block)∧(0<x.2.2.length->∀y,x.1.2.1=some y->v.ownBlock≠some y.block)
section
variable {w w' : World} {base n : Nat} {v : Value} {L : List ax}
def Tls.cells {g m cap:Nat}(h:Tls w base (.slice (some ⟨g,0,none⟩) m cap) n L) {i:Nat}(hi:i<L.length):w.cell? ⟨g,3*i,none⟩=some (.bool (L[i]).2.1.1)∧w.cell? ⟨g,3*i+1,none⟩=some (.slice (L[i]).1.1.1 (L[i]).2.1.2.length (L[i]).1.1.2)∧w.cell? ⟨g,3*i+2,none⟩=some (.slice (L[i]).1.2.1 (L[i]).2.2.length (L[i]).1.2.2):=by
 obtain ⟨t0,t1,t2⟩:=jL hi;have c0:=h.own.cells (g:=g) rfl (3*i) _ t0;have c1:=h.own.cells (g:=g) rfl (3*i+1) _ t1;have c2:=h.own.cells (g:=g) rfl (3*i+2) _ t2;rw [j5,bh] at c0 c1 c2;exact ⟨c0,c1,c2⟩
def Tls.frozen {g m cap:Nat}(h:Tls w base (.slice (some ⟨g,0,none⟩) m cap) n L) (o:Nat):w.frozen? ⟨g,o,none⟩=false:=by
 rcases h.own.2 with ⟨hv,_⟩ | ⟨g',cap',cur,hv,_,hh,_⟩
 . cases hv
 . injection hv with h1;injection h1 with h1;injection h1 with h1;subst h1
   simp [World.frozen?,hh]
end
abbrev Ic (L:List ax):Type:={x:ax // x∈L}
def Tj {L:List ax}(x y:Ic L):Int:=pK y.1.2.2 x.1.2.2
def awm {L:List ax} {n:Nat}(hn:∀x∈L,x.2.2.length=n):Sort.SWO (ltOf (Tj (L:=L))) where
 irrefl x:=by unfold ltOf Tj;rw [yj];rfl
 trans x y z h1 h2:=by
  unfold ltOf Tj at*
  have a1:=sj.1 (FC h1);have a2:=sj.1 (FC h2);exact DM (sj.2 (ir.trans a2 a1))
 ntrans x y z h1 h2:=by
  unfold ltOf Tj at*
  have a1:¬ir y.1.2.2 x.1.2.2:=fun h=>Ud h1 (sj.2 h);have a2:¬ir z.1.2.2 y.1.2.2:=fun h=>Ud h2 (sj.2 h);refine uJ fun h=> ?_;have h3:=sj.1 h;rcases ir.tri (a:=z.1.2.2) (b:=y.1.2.2) (by rw [hn _ z.2,hn _ y.2]) with e | e | e
  . exact a2 e
  . rw [e] at h3;exact a1 h3
  . exact a1 (ir.trans e h3)
def oc (L:List ax):Array (Ic L):=(L.attach).toArray
def jY (L:List ax):(oc L).size=L.length:=by simp [oc]
def Qn (L:List ax) [Inhabited (Ic L)] {i:Nat}(h:i<L.length):((oc L)[i]!).1=L[i]:=by
 rw [Ns _ i (by rw [jY];exact h)];unfold oc;simp
def FT {α:Type} [Inhabited α] (enc:α->List Value) (k:Nat) (w:World) (blk off m:Nat) (dk:Array α) (os:Array Obj):Only (fun j=>j=blk) w (sortWorldK enc k w blk off m dk os):=by
 unfold sortWorldK Sort.grow Sort.putRowK Sort.putRow Sort.mapBlock Sort.ahead;refine ⟨rfl,rfl,rfl,by simp,fun j hj hne=> ?_⟩;have h1:j<(w.heap.modify blk (Sort.onCells (Sort.putCells id off (Sort.flatK enc k dk)))).size:=by simpa using hj
 show (w.heap.modify blk (Sort.onCells (Sort.putCells id off (Sort.flatK enc k dk)))++os)[j]? =_;rw [Array.getElem?_append_left h1,wR,aY (fun e=>hne e.symm)]
def Rn (A:Option Addr) (c:Nat) (w:World):
 aB 108 #[.slice A 0 c,.func (.func 109) #[] #[]] w fun e w'=>e=.returned (.tuple #[])∧w'=w:=
 AnyF.slices_SortFunc_none { VJ with } A c _ w
