import Derived.Deep.DeepCutAuto
import Derived.Deep.CutBlock
import Derived.Test.YtehcoffbiplphaaGreatHMno
import Derived.Test.YtehcoffbiplphaaGreatHValQ
import Derived.Test.YtehcoffbiplphaaGreatHRzof
set_option linter.all false
set_option maxHeartbeats 32000000
set_option maxRecDepth 100000
namespace Go.Proofs.YtehcoffbiplphaaGreat
open Go.Proofs.Tryz
open Go.RowKit
variable {base g B n k m c d size cap K i:Nat} {w w' w0 wr wt w3:World} {u v:Value} {A E:Option Addr} {xs:List Value} {t:TypeId} {s:Bool} {ys ls:List Int} {e:Ending} {z:Int}
def XJ (z:Int):Oi z=0↔z=0:=by unfold Oi;split<;>(try split)<;>omega
def kH:(prog.info? 44).map (fun i=>(i.zero,i.size,i.bytes))=some (some (.agg #[.bool false,.slice none 0 0,.slice none 0 0]),3,56):=by kernel_rfl
def vU (w:World) (e:TypeId) (hb:base<=w.heap.size):(w.alloc (.cells #[] e)).ownsRow base e 3 (.slice (some ⟨w.heap.size,0,none⟩) 0 0) 0 []:=by
 have:=UB (e:=e) (size:=3) w #[] 0 hb (by unfold maxLen;omega) (by simp);simpa using this
def vq (w:World) (u v x:Value) (t:TypeId):(w.alloc (.cells #[u,v,x] t)).cell? ⟨w.heap.size,0,none⟩=some u∧(w.alloc (.cells #[u,v,x] t)).cell? ⟨w.heap.size,1,none⟩=some v∧(w.alloc (.cells #[u,v,x] t)).cell? ⟨w.heap.size,2,none⟩=some x:=by
 have hb:=bM w (.cells #[u,v,x] t);refine ⟨?_,?_,?_⟩<;>simp only [World.cell?,hb]<;>rfl
def xJ {x:Value}(h0:w.cell? ⟨g,0,none⟩=some u) (h1:w.cell? ⟨g,1,none⟩=some v) (h2:w.cell? ⟨g,2,none⟩=some x) (hg:g<B):Reads w B 3 (some ⟨g,0,none⟩) 1 [u,v,x]:=by
 refine ⟨rfl,fun _=>⟨_,rfl,hg,fun j y hy=> ?_⟩⟩;rw [j5];match j,hy with
 | 0,hy=>rw [h0];simpa using hy
 | 1,hy=>rw [h1];simpa using hy
 | 2,hy=>rw [h2];simpa using hy
 | j+3,hy=>exact absurd hy (by simp)
def FR (w:World) (u v x:Value) (t:TypeId):Reads (w.alloc (.cells #[u,v,x] t)) (w.heap.size+1) 3 (some ⟨w.heap.size,0,none⟩) 1 [u,v,x]:=by
 obtain ⟨h0,h1,h2⟩:=vq w u v x t;exact xJ h0 h1 h2 (xy _)
def Ov (h:Reads w B 3 A n xs) (hk:k<=n):Reads w B 3 A k (xs.take (k*3)):=
 ⟨by rw [cQ,h.1];omega,fun h0=>by
   obtain ⟨ad,e,hb,hc⟩:=h.2 (by omega);refine ⟨ad,e,hb,fun j u hu=>hc j u ?_⟩;rw [We] at hu;split at hu
   . exact hu
   . cases hu⟩
def SK (aa:w'.ownsRow base t 3 v n xs):∃A c,v=.slice A n c∧n<=c∧c<=9223372036854775807∧(0<n->∃g,A=some ⟨g,0,none⟩∧base<=g∧g<w'.heap.size):=by
 rcases aa.2 with ⟨hv,h0⟩ | ⟨g,cap,cur,hv,h1,h2,h3,h4,_⟩
 . exact ⟨none,0,by rw [hv,h0],by omega,by omega,fun h=>absurd h (by omega)⟩
 . exact ⟨_,_,hv,h3,by unfold maxLen at h4;omega,fun _=>⟨g,rfl,h1,(jm.1 h2).1⟩⟩
def rQ (w:World) (g:Nat) (u v x:Value):Prop:=w.heap[g]? =some (.cells #[u,v,x] 44 (0,0))
section
variable {w w' : World} {g : Nat} {u v x : Value}
section
variable (h:rQ w g u v x)
include h
theorem rQ.lt:g<w.heap.size:=(jm.1 h).1
theorem rQ.cell0:w.cell? ⟨g,0,none⟩=some u:=by rw [dQ w g 0 _ _ (0,0) h];rfl
theorem rQ.cell1:w.cell? ⟨g,1,none⟩=some v:=by rw [dQ w g 1 _ _ (0,0) h];rfl
theorem rQ.aN:w.cell? ⟨g,2,none⟩=some x:=by rw [dQ w g 2 _ _ (0,0) h];rfl
end
def rQ.frozen (h:rQ w g u v x) (i:Nat):w.frozen? ⟨g,i,none⟩=false:=by unfold rQ at h;simp [World.frozen?,h]
def rQ.aC (h:rQ w g u v x) (hb:Below w.heap.size w w'):rQ w' g u v x:=(hb.block g h.lt).trans h
def rQ.drew (h:rQ w g u v x):rQ w.drew g u v x:=h
def rQ.alloc (h:rQ w g u v x) (o:Obj):rQ (w.alloc o) g u v x:=h.aC (aU.alloc aL o)
def rQ.new (w:World) (u v x:Value):rQ (w.alloc (.cells #[u,v,x] 44)) w.heap.size u v x:=bM w _
def rQ.grown (h:rQ w g u v x) {b:Nat}(hg:w.grownBy w' (some b)) (hne:g≠b):rQ w' g u v x:=(hg.block g h.lt (fun e=>hne (by injection e))).trans h
def rQ.set (h:rQ w g u v x) (a b c:Value):rQ (((w.setCell ⟨g,0,none⟩ a).setCell ⟨g,1,none⟩ b).setCell ⟨g,2,none⟩ c) g a b c:=by
 unfold rQ at h ⊢;simp [World.setCell,wR,h]
end
section
variable (h:rQ w g (.bool s) (.slice A m c) (.slice E n d))
include h
theorem rQ.keeps (a b x:Value) {p:Addr} (hu:w.cell? p=some u) (h1:∀s,u≠ .bool s) (h2:∀A m c,u≠ .slice A m c):(((w.setCell ⟨g,0,none⟩ a).setCell ⟨g,1,none⟩ b).setCell ⟨g,2,none⟩ x).cell? p=some u:=by
 rw [jk _ _ _ _ (fun e=> ?_),jk _ _ _ _ (fun e=> ?_),jk _ _ _ _ (fun e=> ?_)]
 . exact hu
 . rw [<- e,h.cell0] at hu;injection hu with hu;exact h1 _ hu.symm
 . rw [<- e,h.cell1] at hu;injection hu with hu;exact h2 _ _ _ hu.symm
 . rw [<- e,h.aN] at hu;injection hu with hu;exact h2 _ _ _ hu.symm
theorem rQ.limbs (a b x:Value) {B:Option Addr} (hi:aD w B k ys):aD (((w.setCell ⟨g,0,none⟩ a).setCell ⟨g,1,none⟩ b).setCell ⟨g,2,none⟩ x) B k ys:=by
 refine ⟨hi.len,fun hm=> ?_,hi.ok⟩;obtain ⟨bb,o,e,hb,hc⟩:=hi.at_ hm;exact ⟨bb,o,e,by simpa using hb,fun i hlt=>h.keeps a b x (hc i hlt) (fun _ e=>by cases e) (fun _ _ _ e=>by cases e)⟩
theorem rQ.ints (a b x:Value) {B:Option Addr} (hi:Ints w B k ys):Ints (((w.setCell ⟨g,0,none⟩ a).setCell ⟨g,1,none⟩ b).setCell ⟨g,2,none⟩ x) B k ys:=by
 refine ⟨hi.len,fun hm=> ?_,hi.ok⟩;obtain ⟨bb,o,e,hb,hc⟩:=hi.at_ hm;exact ⟨bb,o,e,by simpa using hb,fun i hlt=>h.keeps a b x (hc i hlt) (fun _ e=>by cases e) (fun _ _ _ e=>by cases e)⟩
end
def Pq {S:Nat->Prop} {xs:List Int}(h:aD w A n xs) (ho:Only S w w') (hA:0<n->∀y,A=some y->¬S y.block):aD w' A n xs:=
 ⟨h.len,fun hn=>by
   obtain ⟨b,o,e,hb,hc⟩:=h.at_ hn;refine ⟨b,o,e,iE hb ho.size,fun i hi=> ?_⟩;rw [ho.cell (p:=⟨b,o+i,none⟩) hb (hA hn ⟨b,o,none⟩ e)];exact hc i hi,h.ok⟩
def mS {xs:List Int}(h:aD w A n xs) (aa:w.ownsRow base t 1 (.slice (some ⟨g,0,none⟩) 0 0) 0 []) (hg:w.grownBy w' (some g)):aD w' A n xs:=by
 refine Pq h (Only.fK hg) fun hn y hy e=> ?_;obtain ⟨b,o,eA,hb,hc⟩:=h.at_ hn;rw [eA] at hy;injection hy with hy
 subst hy;injection e with e
 have e:g=b:=e;subst e;have h0:=hc 0 hn;rcases aa.2 with ⟨hv,_⟩ | ⟨g',cap,cur,hv,h1,h2,h3,h4,h5⟩
 . cases hv
 . injection hv with wN RU Mz
   injection wN with wN
   injection wN with wN
   subst wN;subst Mz;rw [dQ w g (o+0) _ _ (0,0) h2] at h0;have hz:cur.size=0:=by have:=h5.1;simpa using this
   rw [Ye (by omega)] at h0;cases h0
def asM (w0 w:World) (gt:Nat) (s:Bool) (xs:List Int) (ps:fI):Prop:=
 ∃s6 A6 k6 c6 ls E7 c7,rQ w gt (.bool s6) (.slice A6 k6 c6) (.slice E7 ps.length c7)∧k6<=c6∧c6<=9223372036854775807∧ps.length<=c7∧c7<=9223372036854775807∧aD w A6 k6 ls∧Ints w E7 ps.length ps∧dN s6 ls (aI s xs)∧(0<k6->∀y,A6=some y->w0.heap.size<=y.block)∧(0<ps.length->∀y,E7=some y->w0.heap.size<=y.block)∧Below w0.heap.size w0 w
def oB (w:World) (n:Nat) (M:Mv) (e:Ending) (w':World):Prop:=
 ∃A c L,e=.returned (.slice A L.length c)∧L.length<=c∧c<=9223372036854775807∧iI w' A L.length L∧eH n L∧jI n (aP L) M∧Below w.heap.size w w'
def oB.from_ {M:Mv} (h:oB w n M e w') (hb:Below w0.heap.size w0 w):oB w0 n M e w':=by
 obtain ⟨A,c,L,h1,h2,h3,h4,h5,h6,h7⟩:=h;exact ⟨A,c,L,h1,h2,h3,h4,h5,h6,hb.tm h7⟩
def qG (w:World) (n:Nat) (M:Mv) (e:Ending) (w':World):Prop:=
 ∃A c L,e=.returned (.slice A L.length c)∧L.length<=c∧c<=9223372036854775807∧iI w' A L.length L∧eH n L∧jI n (aP L) M∧(∀W,Only (fun k=>k<w.heap.size) w' W->iI W A L.length L)∧Below w.heap.size w w'
def qG.r {M:Mv} (h:qG w n M e w'):oB w n M e w':=by
 obtain ⟨A,c,L,h1,h2,h3,h4,h5,h6,_,h7⟩:=h;exact ⟨A,c,L,h1,h2,h3,h4,h5,h6,h7⟩
def qG.from_ {M:Mv} (h:qG w n M e w') (hb:Below w0.heap.size w0 w):qG w0 n M e w':=by
 obtain ⟨A,c,L,h1,h2,h3,h4,h5,h6,h8,h7⟩:=h;exact ⟨A,c,L,h1,h2,h3,h4,h5,h6,fun W hW=>h8 W (hW.mono fun k hk=>iE hk hb.size),hb.tm h7⟩
def U5 (base:Nat) (x:ax):Prop:=(0<x.2.1.2.length->∀y,x.1.1.1=some y->base<=y.block)∧(0<x.2.2.length->∀y,x.1.2.1=some y->base<=y.block)
def aaa {lo:Nat} (h:w.ownsRow base t size v n xs) (Fl:lo<=base) (ho:Only (fun k=>k<lo) w w'):w'.ownsRow base t size v n xs:=by
 refine ⟨h.1,?_⟩;rcases h.2 with h2 | ⟨g,cap,cur,hv,h1,h2,h3⟩
 . exact .inl h2
 . exact .inr ⟨g,cap,cur,hv,h1,(ho.block g (jm.1 h2).1 (by omega)).trans h2,h3⟩
structure wF (w0 wr:World) (n:Nat) (v:Value) (E:List ax) (M:Mv):Prop where
 own:wr.ownsRow w0.heap.size 44 3 v E.length (aS E)
 ok:∀x∈E,gV wr x∧dN x.2.1.1 x.2.1.2 (aI x.2.1.1 x.2.1.2)
 len:∀x∈E,x.2.2.length=n
 fall:yG E
 fr:∀x∈E,U5 w0.heap.size x
 eq:jI n (aP (E.map (·.2))) M
 aC:Below w0.heap.size w0 wr
def wF.start (w:World) (n:Nat):wF w w n (.slice none 0 0) [] []:=
 ⟨nv _ _ _ _,fun x hx=>(by cases hx),fun x hx=>(by cases hx),List.Pairwise.nil,fun x hx=>(by cases hx),fun _ _=>rfl,aU⟩
def cm {e:TypeId} (h:w.ownsRow base e size v n xs) (hb:Below w.heap.size w w'):w'.ownsRow base e size v n xs:=by
 refine ⟨by simpa using h.1,?_⟩;rcases h.2 with h2 | ⟨g,cap,cur,hv,h1,h2,h3⟩
 . exact .inl h2
 . exact .inr ⟨g,cap,cur,hv,h1,(hb.block g (jm.1 h2).1).trans h2,h3⟩
def wF.jX {E:List ax} {M:Mv}(h:wF w0 wr n v E M) (hb:Below wr.heap.size wr wt):wF w0 wt n v E M:=
 ⟨cm h.own hb,fun x hx=>⟨(h.ok x hx).1.aC hb,(h.ok x hx).2⟩,h.len,h.fall,h.fr,h.eq,h.aC.tm hb⟩
def wF.insert {v3:Value} {E:List ax} {M:Mv} {x:ax}(h:wF w0 wt n v E M) (hk:k<=E.length)
 (h1:∀j (hj:j<E.length),j<k->ir x.2.2 (E[j]).2.2) (h2:∀(hk:k<E.length),ir (E[k]).2.2 x.2.2) (kR:x.2.2.length=n) (hz:dN x.2.1.1 x.2.1.2 (aI x.2.1.1 x.2.1.2)) (hfr:U5 w0.heap.size x) (hx:gV w3 x)
 (aa:w3.ownsRow w0.heap.size 44 3 v3 (E.length+1) (aS (E.take k++x::E.drop k))) (hb:Below wt.heap.size wt w3):wF w0 w3 n v3 (E.take k++x::E.drop k) (M++[bS x.2]):=by
 have hl:(E.take k++x::E.drop k).length=E.length+1:=by simp;omega
 refine ⟨by rw [hl];exact aa,fun y hy=> ?_,fun y hy=> ?_,h.fall.insert h1 h2,fun y hy=> ?_,insert_eq h.eq,h.aC.tm hb⟩
 . rcases gT.1 hy with hy | hy
   . exact ⟨(h.ok y (uU hy)).1.aC hb,(h.ok y (uU hy)).2⟩
   . rcases iH.1 hy with rfl | hy
     . exact ⟨hx,hz⟩
     . exact ⟨(h.ok y (vu hy)).1.aC hb,(h.ok y (vu hy)).2⟩
 . rcases gT.1 hy with hy | hy
   . exact h.len y (uU hy)
   . rcases iH.1 hy with rfl | hy
     . exact kR
     . exact h.len y (vu hy)
 . rcases gT.1 hy with hy | hy
   . exact h.fr y (uU hy)
   . rcases iH.1 hy with rfl | hy
     . exact hfr
     . exact h.fr y (vu hy)
def wF.add {E:List ax} {M:Mv} {t:mH} (h:wF w0 wt n (.slice (some ⟨g,0,none⟩) E.length cap) E M) (hk:k<E.length)
 (hp:(E[k]).2.2=t.1) (hz:dN s ls (aI (E[k]).2.1.1 (E[k]).2.1.2+t.2)) (hL:aD w3 A ls.length ls) (WB:ls.length<=c) (NH:c<=9223372036854775807) (hfA:0<ls.length->∀y,A=some y->w0.heap.size<=y.block) (hb:Below wt.heap.size wt w3):
 wF w0 ((w3.setCell ⟨g,3*k,none⟩ (.bool s)).setCell ⟨g,3*k+1,none⟩ (.slice A ls.length c)) n (.slice (some ⟨g,0,none⟩) E.length cap) (E.set k (IB E[k] s A c ls)) (M++[t]):=by
 have h3:=h.jX hb;obtain ⟨t0,t1,t2⟩:=jL hk;have c0:=h3.own.cells (g:=g) rfl (3*k) _ t0;have c1:=h3.own.cells (g:=g) rfl (3*k+1) _ t1;rw [j5,bh] at c0 c1;have hg:=h3.own.lt g rfl;have ho:w0.heap.size<=g:=hg.1;have o2:=(((h3.own.stored (3*k) (.bool s)).1).stored (3*k+1) (.slice A ls.length c)).1;rw [Gu E k hk s A c ls] at o2;refine ⟨by rw [fW];exact o2,fun y hy=> ?_,fun y hy=> ?_,h.fall.put hk _ _ _ _,fun y hy=> ?_,put_eq h.eq hk hp hz.eq,(h3.aC.setCell (p:=⟨g,3*k,none⟩) ho _).setCell (p:=⟨g,3*k+1,none⟩) ho _⟩
 . rcases pR hy with hy | rfl
   . exact ⟨(h3.ok y hy).1.zz _ _ c0 c1,(h3.ok y hy).2⟩
   . have hk4:=(h3.ok _ (bR hk)).1.zz (.bool s) (.slice A ls.length c) c0 c1
     exact ⟨⟨WB,NH,hk4.2.2.1,hk4.2.2.2.1,hL.zz c0 c1 (fun _ e=>by cases e) (fun _ e=>by cases e),hk4.2.2.2.2.2⟩,by show dN s ls (aI s ls);rw [hz.eq];exact hz⟩
 . rcases pR hy with hy | rfl
   . exact h.len y hy
   . show (E[k]).2.2.length=n
     exact h.len _ (bR hk)
 . rcases pR hy with hy | rfl
   . exact h.fr y hy
   . exact ⟨hfA,(h.fr _ (bR hk)).2⟩
def wF.short {E:List ax} {L:List TV} (h:wF w0 wr n v E (aP (L.take i))) (EZ:bJ (aP L)<2^(64*K)):∀x∈E,x.2.1.2.length<=K:=fun x hx=>by
 have h1:=acn h.fall h.len h.eq x hx;have h2:bJ (aP (L.take i))<=bJ (aP L):=by
  have:aP (L.take i)=(aP L).take i:=JQ;rw [this];exact Yd _ _
 have h3:limbs x.2.1.2<2^(64*K):=by
  have h4:(aI x.2.1.1 x.2.1.2).natAbs=limbs x.2.1.2:=by unfold aI;split<;>omega
  omega
 exact vQ (h.ok x hx).2.pl h3
def Km (n C K:Nat) (A:Option Addr) (m c:Nat) (L:List TV) (w:World) (hx:iI w A m L) (hl:∀t∈L,t.2.length=n) (hC:∀t∈L,t.1.2.length<=C) (hC1:C<=3900000000000) (hK:K<=3900000000000) (EZ:bJ (aP L)<2^(64*K)) (hm:m<=2400000000000) (hn:n<=1000000):
 aB 30 #[.slice A m c] w (qG w n (aP L)):=by
 obtain ⟨i0,hi,jE,jD,jJ⟩:=eG kH;obtain ⟨j0,hj,rz,xZ,Fk⟩:=eG pI;have Hx:=aA hx;have HL:=aA hx.len;have Hl:=aA hl;have HC:=aA hC;have Hab:=aA EZ;clear hx hl hC EZ;go_enter func30,ntmps30
 obtain ⟨wo,rfl⟩:∃wo:World,wo=w:=⟨_,rfl⟩;go_wp2_with fail
 go_loopw [3,4] (fun v i wr=>∃(k:Nat) (E:List ax),k<=m∧i=.int .i64 (k:Int)∧Hid (wF wo wr n v E (aP (L.take k)))∧E.length<=k) (fun _ i _=>m-(intOf i).toNat)
 case atStart=>exact ⟨0,[],by omega,rfl,wF.start _ _,aL⟩
 case round=>
  obtain ⟨i,E,him,rfl,hI,Jv⟩:=hrel;obtain ⟨wt,rfl⟩:∃wt:World,wt=wr:=⟨_,rfl⟩;obtain ⟨B,cap,rfl,CV,aiB,hB⟩:=SK hI.o.own;have HB:=aA hB;clear hB;by_cases hlt:i<m
  . obtain ⟨b,o,rfl,hb,hc⟩:=Hx.o.at_ (by omega)
    (have hiL:i<L.length:=by rw [HL.o];exact hlt);obtain ⟨Ai,ci,Ei,ei,e1,e2,e3,e4,e5,e6,e7,e8,e9⟩:=hc i hiL;have tZ:=Hl.o _ (bR hiL);have Ju:=HC.o _ (bR hiL);(have RV:aP (L.take (i+1))=aP (L.take i)++[bS L[i]]:=by rw [kG hiL,eN];rfl);have Rf:=aA RV;clear hc RV;generalize L[i]=x at*
    obtain ⟨⟨s,xs⟩,ps⟩:=x;simp only at e1 e2 e3 e4 e6 e8 e9 tZ Ju;have FJ:=aA tZ;rw [aq 3 i] at e1 e2 e3;rw [<- jb] at e2 e3;(have dH:(i:Int)<(m:Int):=by omega);(have rT:(0:Int)<=(i:Int):=by omega);have je:=aA hI.o.aC;have gJ:Hid (∀W,Below wo.heap.size wo W->W.cell? ⟨b,o+i*3,none⟩=some (.bool s)∧W.cell? ⟨b,o+i*3+1,none⟩=some (.slice Ai xs.length ci)∧W.cell? ⟨b,o+i*3+2,none⟩=some (.slice Ei ps.length ei)):=fun W hW=>
     ⟨(hW.cell (p:=⟨b,o+i*3,none⟩) hb).trans e1,(hW.cell (p:=⟨b,o+i*3+1,none⟩) hb).trans e2,(hW.cell (p:=⟨b,o+i*3+2,none⟩) hb).trans e3⟩
    have E8:=aA e8;have E9:=aA e9;clear e8 e9 e1 e2 e3 tZ;go_upto_block 2 with fail
    go_cut [5] (fun s5 wx=>∃k q:Nat,k<=E.length∧s5=.int .i64 (k:Int)∧wx=wt.drewN q∧Hid (∀j (h:j<E.length),j<k->ir ps (E[j]).2.2)∧Hid (∀hk:k<E.length,¬ir ps (E[k]).2.2))
    case first=>
     (go_wp2_with fail);go_loopw [5] (fun v wr=>∃k q:Nat,k<=E.length∧v=.int .i64 (k:Int)∧wr=wt.drewN q∧Hid (∀j (h:j<E.length),j<k->ir ps (E[j]).2.2)) (fun v _=>E.length-(intOf v).toNat)
     case atStart=>exact ⟨0,0,by omega,rfl,rfl,fun j _ h=>absurd h (by omega)⟩
     case round=>
      obtain ⟨k,q,hk,rfl,rfl,abO⟩:=hrel;by_cases rM:k<E.length
      . obtain ⟨g,rfl,wU,S6⟩:=HB.o (by omega)
        obtain ⟨t0,t1,t2⟩:=jL rM;have c2:=hI.o.own.cells (g:=g) rfl (3*k+2) _ t2;rw [j5,bh,aq 3 k] at c2;obtain ⟨a1,a2,a3⟩:=gJ.o _ je.o;have Bz:=(hI.o.ok _ (bR rM)).1;have kR:=hI.o.len _ (bR rM);have Cc:Hid (∀q,aB 65 #[.slice (E[k]).1.2.1 (E[k]).2.2.length (E[k]).1.2.2,.slice Ei ps.length ei] (wt.drewN q) fun e w'=>e=.returned (.int .i64 (pK (E[k]).2.2 ps))∧∃k,w'=(wt.drewN q).drewN k):=fun q=>by
         have h:=yh (E[k]).1.2.1 Ei n (E[k]).1.2.2 ei (E[k]).2.2 ps (wt.drewN q) (by rw [<- kR];exact Bz.2.2.2.2.2.aC (below_drewN aU _)) (by rw [<- FJ.o];exact E9.o.aC (je.o.trans ((below_drewN aU _).mono je.o.size))) (by omega);rw [kR,FJ.o];exact h
        have hxc:=Bz.2.2.1;have abe:=ir.tri (kR.trans FJ.o.symm);(have abz:(k:Int)<(E.length:Int):=by omega);have hkd:decide ((k:Int)<(E.length:Int))=true:=DM abz;(have wT:(0:Int)<=(k:Int):=by omega);clear t0 t1 t2 Bz kR;have Hbk:Hid (ir ps (E[k]).2.2->∀j (h:j<E.length),j<k+1->ir ps (E[j]).2.2):=fun h j hj hjk=>by
         by_cases e:j=k
         . subst e;exact h
         . exact abO.o j hj (by omega)
        by_cases yg:ir ps (E[k]).2.2
        . have zA:=Gh yg
          rw [zA] at Cc;have Hn:=aA (Hbk.o yg);clear zA yg abe Hbk;generalize E[k]=y at*
          obtain ⟨⟨⟨Ay,cy⟩,⟨Ey,dy⟩⟩,⟨⟨sy,ys⟩,py⟩⟩:=y;simp only at c2 Cc hxc;(go_wp2_with fail);go_quiet ((go_at_call 65;first | exact oP (Cc.o _) | exact xK (Cc.o _)))
          (go_wp2_with fail);go_roundw
          case rel=>exact ⟨k+1,_,by omega,by go_num,by first | rfl | exact fJ _ _ _ | (rw [fJ,fJ]),Hn⟩
          case measure=>simp [intOf];omega
        . have hng:¬0<pK (E[k]).2.2 ps:=fun h=>by
           rcases abe with h1 | h1 | h1
           . rw [C9 h1] at h;omega
           . rw [h1,yj] at h;omega
           . exact yg h1
          have Hng:Hid (∀hk:k<E.length,¬ir ps (E[k]).2.2):=fun _=>yg;generalize pK (E[k]).2.2 ps=cv at*
          clear yg abe Hbk;generalize E[k]=y at*
          obtain ⟨⟨⟨Ay,cy⟩,⟨Ey,dy⟩⟩,⟨⟨sy,ys⟩,py⟩⟩:=y;simp only at c2 Cc hxc;(go_wp2_with fail);go_quiet ((go_at_call 65;first | exact oP (Cc.o _) | exact xK (Cc.o _)))
          (go_wp2_with fail);go_meet
          exact ⟨k,_,hk,rfl,by first | rfl | exact fJ _ _ _ | (rw [fJ,fJ]),abO,Hng⟩
      . have hkd:decide ((k:Int)<(E.length:Int))=false:=uJ (by omega)
        have ayo:decide (k<E.length)=false:=uJ rM;have Hng:Hid (∀hk:k<E.length,¬ir ps (E[k]).2.2):=fun h=>absurd h rM;clear rM;(go_wp2_with fail);go_quiet (fail)
        (go_wp2_with fail);go_meet
        exact ⟨k,_,hk,rfl,by first | rfl | exact fJ _ _ _ | (rw [fJ,fJ]),abO,Hng⟩
    case rest=>
     obtain ⟨k,q,hk,rfl,rfl,abO,hng⟩:=hcut;(go_wp2_with fail);go_cut [52] (fun s52 wx=>∃q2:Nat,wx=wt.drewN q2∧((s52=.bool true∧Hid (∃hk:k<E.length,(E[k]).2.2=ps))∨(s52=.bool false∧Hid (∀hk:k<E.length,ir (E[k]).2.2 ps))))
     case first=>
      by_cases rM:k<E.length
      . obtain ⟨g,rfl,wU,S6⟩:=HB.o (by omega)
        obtain ⟨t0,t1,t2⟩:=jL rM;have c2:=hI.o.own.cells (g:=g) rfl (3*k+2) _ t2;rw [j5,bh,aq 3 k] at c2;obtain ⟨a1,a2,a3⟩:=gJ.o _ je.o;have Bz:=(hI.o.ok _ (bR rM)).1;have kR:=hI.o.len _ (bR rM);have Cc:Hid (∀q,aB 65 #[.slice (E[k]).1.2.1 (E[k]).2.2.length (E[k]).1.2.2,.slice Ei ps.length ei] (wt.drewN q) fun e w'=>e=.returned (.int .i64 (pK (E[k]).2.2 ps))∧∃k,w'=(wt.drewN q).drewN k):=fun q=>by
         have h:=yh (E[k]).1.2.1 Ei n (E[k]).1.2.2 ei (E[k]).2.2 ps (wt.drewN q) (by rw [<- kR];exact Bz.2.2.2.2.2.aC (below_drewN aU _)) (by rw [<- FJ.o];exact E9.o.aC (je.o.trans ((below_drewN aU _).mono je.o.size))) (by omega);rw [kR,FJ.o];exact h
        have hxc:=Bz.2.2.1;have abe:=ir.tri (kR.trans FJ.o.symm);(have abz:(k:Int)<(E.length:Int):=by omega);have hkd:decide ((k:Int)<(E.length:Int))=true:=DM abz;(have wT:(0:Int)<=(k:Int):=by omega);clear t0 t1 t2 Bz kR;have alc:=hng.o rM;rcases abe with h | h | h
        . have zA:=C9 h
          rw [zA] at Cc;have Hn:Hid (∀hk:k<E.length,ir (E[k]).2.2 ps):=fun _=>h;clear zA h alc;generalize E[k]=y at*
          obtain ⟨⟨⟨Ay,cy⟩,⟨Ey,dy⟩⟩,⟨⟨sy,ys⟩,py⟩⟩:=y;simp only at c2 Cc hxc;(go_wp2_with fail);go_quiet ((go_at_call 65;first | exact oP (Cc.o _) | exact xK (Cc.o _)))
          (go_wp2_with fail);go_meet
          exact ⟨_,by first | rfl | exact fJ _ _ _ | (rw [fJ,fJ]),.inr ⟨rfl,Hn⟩⟩
        . have zA:pK (E[k]).2.2 ps=0:=by rw [h,yj]
          rw [zA] at Cc;have Hn:Hid (∃hk:k<E.length,(E[k]).2.2=ps):=⟨rM,h⟩;clear zA h alc;generalize E[k]=y at*
          obtain ⟨⟨⟨Ay,cy⟩,⟨Ey,dy⟩⟩,⟨⟨sy,ys⟩,py⟩⟩:=y;simp only at c2 Cc hxc;(go_wp2_with fail);go_quiet ((go_at_call 65;first | exact oP (Cc.o _) | exact xK (Cc.o _)))
          (go_wp2_with fail);go_meet
          exact ⟨_,by first | rfl | exact fJ _ _ _ | (rw [fJ,fJ]),.inl ⟨rfl,Hn⟩⟩
        . exact absurd h alc
      . have hkd:decide ((k:Int)<(E.length:Int))=false:=uJ (by omega)
        have ayo:decide (k<E.length)=false:=uJ rM;have Hn:Hid (∀hk:k<E.length,ir (E[k]).2.2 ps):=fun h=>absurd h rM;clear rM;(go_wp2_with fail);go_quiet (fail)
        (go_wp2_with fail);go_meet
        exact ⟨_,by first | rfl | exact fJ _ _ _ | (rw [fJ,fJ]),.inr ⟨rfl,Hn⟩⟩
     case rest=>
      obtain ⟨q2,rfl,h52⟩:=hcut;have OH:Below wt.heap.size wt (wt.drewN q2):=below_drewN aU _;generalize (wt.drewN q2)=w5 at*
      rcases h52 with ⟨rfl,hEq⟩ | ⟨rfl,hni⟩
      . obtain ⟨rM,hpe⟩:=hEq.o
        obtain ⟨g,rfl,wU,S6⟩:=HB.o (by omega);have YL:=hI.o.jX OH;obtain ⟨t0,t1,t2⟩:=jL rM;have C0:=YL.own.cells (g:=g) rfl (3*k) _ t0;have C1:=YL.own.cells (g:=g) rfl (3*k+1) _ t1;rw [j5,bh,aq 3 k] at C0 C1;have Bz:=(YL.ok _ (bR rM)).1;have hxs:=YL.short Hab.o _ (bR rM);have H5:=aA YL;have hg5:=YL.own.lt g rfl;have hf:Hid (∀W,Below w5.heap.size w5 W->W.frozen? ⟨g,k*3,none⟩=false∧W.frozen? ⟨g,k*3+1,none⟩=false):=fun W hW=>⟨(H5.o.jX hW).own.frozenAt _,(H5.o.jX hW).own.frozenAt _⟩;have HkT:=aA (fun (s1:Bool) (A1:Option Addr) (c1:Nat) (l1:List Int) (w3:World) (hz:dN s1 l1 (aI (E[k]).2.1.1 (E[k]).2.1.2+aI s xs)) (hL:aD w3 A1 l1.length l1) (h1:l1.length<=c1) (h2:c1<=9223372036854775807) (hfA:0<l1.length->∀y,A1=some y->wo.heap.size<=y.block) (hb:Below w5.heap.size w5 w3)=>H5.o.add (t:=(ps,aI s xs)) rM hpe hz hL h1 h2 hfA hb);have ur:Hid (∀y,(E.set k y).length=E.length):=fun y=>fW;have aaW:=aA (fun W (hW:Below w5.heap.size w5 W)=>gJ.o _ (H5.o.aC.tm hW));obtain ⟨b1,b2,b3⟩:=aaW.o _ aU;have Ca:Hid (∀W,Below w5.heap.size w5 W->aB 66 #[.agg #[.bool (E[k]).2.1.1,.slice (E[k]).1.1.1 (E[k]).2.1.2.length (E[k]).1.1.2],.agg #[.bool s,.slice Ai xs.length ci]] W (iA W (aI (E[k]).2.1.1 (E[k]).2.1.2+aI s xs) (max (E[k]).2.1.2.length xs.length+1))):=fun W hW=>
         ake _ s _ Ai _ xs.length _ ci _ xs W (Bz.2.2.2.2.1.aC hW) (E8.o.aC (H5.o.aC.tm hW)) Bz.1 Bz.2.1 e4 e5 (by omega) (by omega)
        (have abz:(k:Int)<(E.length:Int):=by omega);(have wT:(0:Int)<=(k:Int):=by omega);clear t0 t1 t2 YL hI hEq OH Bz hpe E8 E9 gJ HB je hg5;generalize YM:E[k]=y at*
        obtain ⟨⟨⟨Ay,cy⟩,⟨Ey,dy⟩⟩,⟨⟨sy,ys⟩,py⟩⟩:=y;simp only at C0 C1 hxs HkT Ca;clear YM;(go_wp2_with fail);go_region_with
         (first | (go_at_call 66;refine (Ca.o _ (by first | exact aU.drew | exact aU)).mono ?_;rintro e w6 ⟨s6,A6,k6,c6,ls,rfl,g1,g2,g3,g4,g5,gf,oI⟩;have gW:Below w5.heap.size w5 w6:=(by first | exact aU.drew.trans oI | exact oI);obtain ⟨fe0,fe1⟩:=hf.o _ gW;have ce0:=(gW.cell (p:=⟨g,k*3,none⟩) (H5.o.own.lt g rfl).2).trans C0;have ce1:=(gW.cell (p:=⟨g,k*3+1,none⟩) (H5.o.own.lt g rfl).2).trans C1))
        all_goals
         obtain rfl:=g4.len;have hIn:=HkT.o s6 A6 c6 ls w6 g5 g4 g1 g2 (fun h0 y hy=>aG H5.o.aC.size (aG (by first | exact aL | (simp;done) | (simp;omega)) (gf h0 y hy))) gW;rw [aq 3 k] at hIn;have HIn:Hid (wF wo ((w6.setCell ⟨g,k*3,none⟩ (.bool s6)).setCell ⟨g,k*3+1,none⟩ (.slice A6 ls.length c6)) n (.slice (some ⟨g,0,none⟩) E.length cap) (E.set k (IB (((Ay,cy),(Ey,dy)),((sy,ys),py)) s6 A6 c6 ls)) (aP (L.take (i+1)))):=by
          show wF _ _ _ _ _ _;rw [Rf.o];exact hIn
         (have HEn:Hid ((E.set k (IB (((Ay,cy),(Ey,dy)),((sy,ys),py)) s6 A6 c6 ls)).length<=i+1):=by show _<=_;rw [ur.o];omega);clear hIn HkT ur g4 g5 gf gW oI hf ce0 ce1 fe0 fe1 C0 C1 b1 b2 b3 aaW H5 Ca;generalize E.set k (IB (((Ay,cy),(Ey,dy)),((sy,ys),py)) s6 A6 c6 ls)=E2 at*
         generalize (w6.setCell ⟨g,k*3,none⟩ (.bool s6)).setCell ⟨g,k*3+1,none⟩ (.slice A6 ls.length c6)=wq at*
         (go_wp2_with fail);go_roundw
         case rel=>exact ⟨i+1,E2,by omega,by go_num,HIn,HEn.o⟩
         case measure=>simp [intOf];omega
      . go_wp2_with fail
        have YL:=aA (hI.o.jX OH);have E85:=aA (E8.o.aC (je.o.tm OH));have E95:=aA (E9.o.aC (je.o.tm OH));have l6:Hid (∀W,Below w5.heap.size w5 W->W.cell? ⟨b,o+i*3,none⟩=some (.bool s)∧W.cell? ⟨b,o+i*3+1,none⟩=some (.slice Ai xs.length ci)∧W.cell? ⟨b,o+i*3+2,none⟩=some (.slice Ei ps.length ei)):=fun W hW=>gJ.o _ (YL.o.aC.tm hW);have Cn:Hid (∀W,Below w5.heap.size w5 W->aB 67 #[.agg #[.bool s,.slice Ai xs.length ci]] W (iA W (aI s xs) xs.length)):=fun W hW=>BP s Ai xs.length ci xs W (E85.o.aC hW) e4 e5 (by omega);obtain ⟨b1,b2,b3⟩:=l6.o _ aU;have hR:Hid (Reads w5 w5.heap.size 1 Ei ps.length (ints ps)):=E95.o.reads;have zk:=aA E95.o.ok;(have qm:ps.length<=1000000:=by have:=FJ.o;omega);(have q1:0+ps.length<=maxLen:=by unfold maxLen;omega);(have q2:(0+ps.length)*8<=140737488355328:=by omega);have F:Hid (∀W gt s6 A6 k6 c6 ls E7 c7,rQ W gt (.bool s6) (.slice A6 k6 c6) (.slice E7 ps.length c7)->k6<=c6->c6<=9223372036854775807->aD W A6 k6 ls->dN s6 ls (aI s xs)->(ps.length<=c7∧c7<=9223372036854775807)->Ints W E7 ps.length ps->(0<k6->∀y,A6=some y->w5.heap.size<=y.block)->(0<ps.length->∀y,E7=some y->w5.heap.size<=y.block)->Below w5.heap.size w5 W->asM w5 W gt s xs ps):=fun W gt s6 A6 k6 c6 ls E7 c7 h1 h2 h3 h4 h5 h6 h8 f1 f2 h7=>
         ⟨s6,A6,k6,c6,ls,E7,c7,h1,h2,h3,h6.1,h6.2,h4,h8,h5,f1,f2,h7⟩
        clear hI E8 E9 gJ HB OH je;go_cut [6] (fun s6 wx=>∃gt:Nat,s6=.pointer (some ⟨gt,0,none⟩)∧Hid (asM w5 wx gt s xs ps))
        case first=>
         go_region_held3 (fun W=>W.cell? ⟨b,o+i*3,none⟩=some (.bool s)∧W.cell? ⟨b,o+i*3+1,none⟩=some (.slice Ai xs.length ci)∧W.cell? ⟨b,o+i*3+2,none⟩=some (.slice Ei ps.length ei))
          (first | go_keep | exact l6.o _ aU.drew | exact l6.o _ (aU.alloc aL _).drew | exact l6.o _ ((aU.alloc aL _).alloc (by simp) _).drew | exact l6.o _ gW | exact l6.o _ (gW.alloc gW.size _) | exact l6.o _ ((gW.alloc gW.size _).alloc (gW.alloc gW.size _).size _) | exact l6.o _ fe | exact l6.o _ (fe.alloc fe.size _) | exact l6.o _ (((fe.setCell Iy _).setCell Iy _).setCell Iy _))
          (first
            | (go_at_call 67;refine (Cn.o _ (by first | exact aU.drew | exact (aU.alloc aL _).drew | exact ((aU.alloc aL _).alloc (by simp) _).drew)).mono ?_;rintro e w6 ⟨s6,A6,k6,c6,ls,rfl,g1,g2,g3,g4,g5,gf,oI⟩;have gW:Below w5.heap.size w5 w6:=(by first | exact aU.drew.trans oI | exact (aU.alloc aL _).drew.trans (oI.mono (by simp)) | exact ((aU.alloc aL _).alloc (by simp) _).drew.trans (oI.mono (by simp;omega)));have YA:=oI.size;(first | (have tN:=(rQ.new w5 (.bool false) (.slice none 0 0) (.slice none 0 0)).drew.aC oI;have hgN:=Nat.le_refl w5.heap.size) | (have tN:=(rQ.new (w5.alloc _) (.bool false) (.slice none 0 0) (.slice none 0 0)).drew.aC oI;rw [aJ] at tN;have hgN:=rI w5.heap.size) | (have tN:=((rQ.new w5 (.bool false) (.slice none 0 0) (.slice none 0 0)).alloc _).drew.aC oI;have hgN:=Nat.le_refl w5.heap.size) | skip))
            | ((with_reducible show ite _ (Oper.wp _ _ _ (World.alloc w6 (Obj.cells #[] _)) _ _) _);refine dU (w:=w6.alloc (.cells #[] 3)) (by rfl) (.tmp 74) (.tmp 79) _ (by rfl) w5.heap.size 3 j0 _ 1 8 underlying42 hj rz xZ Fk rfl (by omega) (.slice (some ⟨w6.heap.size,0,none⟩) 0 0) 0 [] (by rfl) (bA w6 _ gW.size) w5.heap.size Ei ps.length ei (ints ps) (by rfl) (hR.o.below (gW.alloc gW.size _)) (gi ps) q1 q2 (gW.alloc gW.size _).size ?_;intro v7 w7 kD zl TI;have fe:Below w5.heap.size w5 w7:=Eo (gW.alloc gW.size _) zl (gW.alloc gW.size _).size (fun k hk=>(En ((bA w6 _ gW.size):World.ownsRow (w6.alloc (.cells #[] 3)) w5.heap.size 3 1 (.slice (some ⟨w6.heap.size,0,none⟩) 0 0) 0 []) k hk).1);have hL7:aD w7 A6 k6 ls:=mS (g4.aC (aU.alloc aL _)) ((bA w6 _ gW.size):World.ownsRow (w6.alloc (.cells #[] 3)) w5.heap.size 3 1 (.slice (some ⟨w6.heap.size,0,none⟩) 0 0) 0 []) zl;(first | have tW:rQ (w6.alloc (.cells #[] 3)) _ _ _ _:=tN.alloc _ | skip);(first | (have t7:=rQ.grown tW zl (by intro e;dsimp only at e;first | omega | (simp at YA;omega));have u0:=t7.cell0;have u1:=t7.cell1;have u2:=t7.aN;have v0:=t7.frozen 0;have v1:=t7.frozen 1;have v2:=t7.frozen 2;have Iy:=hgN) | skip);rw [og,bh] at kD;obtain ⟨E7,c7,rfl⟩:=fD kD)
            | ((with_reducible show ite _ (Oper.wp _ _ _ (World.alloc (World.alloc w6 (Obj.cells #[] _)) _) _ _) _);refine dU (w:=(w6.alloc (.cells #[] 3)).alloc (.cells #[.bool false,.slice none 0 0,.slice none 0 0] 44)) (by rfl) (.tmp 74) (.tmp 79) _ (by rfl) w5.heap.size 3 j0 _ 1 8 underlying42 hj rz xZ Fk rfl (by omega) (.slice (some ⟨w6.heap.size,0,none⟩) 0 0) 0 [] (by rfl) ((bA w6 _ gW.size).alloc _) w5.heap.size Ei ps.length ei (ints ps) (by rfl) (hR.o.below ((gW.alloc gW.size _).alloc (gW.alloc gW.size _).size _)) (gi ps) q1 q2 ((gW.alloc gW.size _).alloc (gW.alloc gW.size _).size _).size ?_;intro v7 w7 kD zl TI;have fe:Below w5.heap.size w5 w7:=Eo ((gW.alloc gW.size _).alloc (gW.alloc gW.size _).size _) zl ((gW.alloc gW.size _).alloc (gW.alloc gW.size _).size _).size (fun k hk=>(En (((bA w6 _ gW.size).alloc _):World.ownsRow ((w6.alloc (.cells #[] 3)).alloc (.cells #[.bool false,.slice none 0 0,.slice none 0 0] 44)) w5.heap.size 3 1 (.slice (some ⟨w6.heap.size,0,none⟩) 0 0) 0 []) k hk).1);have hL7:aD w7 A6 k6 ls:=mS ((g4.aC (aU.alloc aL _)).aC (aU.alloc aL _)) (((bA w6 _ gW.size).alloc _):World.ownsRow ((w6.alloc (.cells #[] 3)).alloc (.cells #[.bool false,.slice none 0 0,.slice none 0 0] 44)) w5.heap.size 3 1 (.slice (some ⟨w6.heap.size,0,none⟩) 0 0) 0 []) zl;(first | (have tW:=rQ.new (w6.alloc (.cells #[] 3)) (.bool false) (.slice none 0 0) (.slice none 0 0);rw [aJ] at tW) | skip);(first | (have t7:=rQ.grown tW zl (by intro e;dsimp only at e;first | omega | (simp at YA;omega));have u0:=t7.cell0;have u1:=t7.cell1;have u2:=t7.aN;have v0:=t7.frozen 0;have v1:=t7.frozen 1;have v2:=t7.frozen 2;have Iy:=Nat.le_succ_of_le gW.size) | skip);rw [og,bh] at kD;obtain ⟨E7,c7,rfl⟩:=fD kD)
            | ((with_reducible show ite _ (Oper.wp _ _ _ (World.alloc (World.alloc w6 (Obj.cells #[_,_,_] _)) _) _ _) _);refine dU (w:=(w6.alloc (.cells #[.bool false,.slice none 0 0,.slice none 0 0] 44)).alloc (.cells #[] 3)) (by rfl) (.tmp 74) (.tmp 79) _ (by rfl) w5.heap.size 3 j0 _ 1 8 underlying42 hj rz xZ Fk rfl (by omega) (.slice (some ⟨w6.heap.size+1,0,none⟩) 0 0) 0 [] (by rfl) (by have h:=bA (base:=w5.heap.size) (w6.alloc (.cells #[.bool false,.slice none 0 0,.slice none 0 0] 44)) 3 (gW.alloc gW.size _).size;rwa [aJ] at h) w5.heap.size Ei ps.length ei (ints ps) (by rfl) (hR.o.below ((gW.alloc gW.size _).alloc (gW.alloc gW.size _).size _)) (gi ps) q1 q2 ((gW.alloc gW.size _).alloc (gW.alloc gW.size _).size _).size ?_;intro v7 w7 kD zl TI;have fe:Below w5.heap.size w5 w7:=Eo ((gW.alloc gW.size _).alloc (gW.alloc gW.size _).size _) zl ((gW.alloc gW.size _).alloc (gW.alloc gW.size _).size _).size (fun k hk=>(En ((by have h:=bA (base:=w5.heap.size) (w6.alloc (.cells #[.bool false,.slice none 0 0,.slice none 0 0] 44)) 3 (gW.alloc gW.size _).size;rwa [aJ] at h):World.ownsRow ((w6.alloc (.cells #[.bool false,.slice none 0 0,.slice none 0 0] 44)).alloc (.cells #[] 3)) w5.heap.size 3 1 (.slice (some ⟨w6.heap.size+1,0,none⟩) 0 0) 0 []) k hk).1);have hL7:aD w7 A6 k6 ls:=mS ((g4.aC (aU.alloc aL _)).aC (aU.alloc aL _)) ((by have h:=bA (base:=w5.heap.size) (w6.alloc (.cells #[.bool false,.slice none 0 0,.slice none 0 0] 44)) 3 (gW.alloc gW.size _).size;rwa [aJ] at h):World.ownsRow ((w6.alloc (.cells #[.bool false,.slice none 0 0,.slice none 0 0] 44)).alloc (.cells #[] 3)) w5.heap.size 3 1 (.slice (some ⟨w6.heap.size+1,0,none⟩) 0 0) 0 []) zl;(first | have tW:rQ ((w6.alloc (.cells #[.bool false,.slice none 0 0,.slice none 0 0] 44)).alloc (.cells #[] 3)) _ _ _ _:=(rQ.new w6 (.bool false) (.slice none 0 0) (.slice none 0 0)).alloc _ | skip);(first | (have t7:=rQ.grown tW zl (by intro e;dsimp only at e;first | omega | (simp at YA;omega));have u0:=t7.cell0;have u1:=t7.cell1;have u2:=t7.aN;have v0:=t7.frozen 0;have v1:=t7.frozen 1;have v2:=t7.frozen 2;have Iy:=gW.size) | skip);rw [og,bh] at kD;obtain ⟨E7,c7,rfl⟩:=fD kD)
            | ((with_reducible show ite _ (Oper.wp _ _ _ w6 _ _) _);refine dU (w:=w6) (by rfl) (.tmp 74) (.tmp 79) _ (by rfl) w5.heap.size 3 j0 _ 1 8 underlying42 hj rz xZ Fk rfl (by omega) (.slice (some ⟨w5.heap.size,0,none⟩) 0 0) 0 [] (by rfl) (by first | exact cm (gN (bA w5 _ aL)) oI | exact cm (gN ((bA w5 _ aL).alloc _)) oI) w5.heap.size Ei ps.length ei (ints ps) (by rfl) (hR.o.below gW) (gi ps) q1 q2 gW.size ?_;intro v7 w7 kD zl TI;have fe:Below w5.heap.size w5 w7:=Eo gW zl gW.size (fun k hk=>(En ((by first | exact cm (gN (bA w5 _ aL)) oI | exact cm (gN ((bA w5 _ aL).alloc _)) oI):World.ownsRow (w6) w5.heap.size 3 1 (.slice (some ⟨w5.heap.size,0,none⟩) 0 0) 0 []) k hk).1);have hL7:aD w7 A6 k6 ls:=mS g4 ((by first | exact cm (gN (bA w5 _ aL)) oI | exact cm (gN ((bA w5 _ aL).alloc _)) oI):World.ownsRow (w6) w5.heap.size 3 1 (.slice (some ⟨w5.heap.size,0,none⟩) 0 0) 0 []) zl;(first | have tW:rQ (w6) _ _ _ _:=tN | skip);(first | (have t7:=rQ.grown tW zl (by intro e;dsimp only at e;first | omega | (simp at YA;omega));have u0:=t7.cell0;have u1:=t7.cell1;have u2:=t7.aN;have v0:=t7.frozen 0;have v1:=t7.frozen 1;have v2:=t7.frozen 2;have Iy:=hgN) | skip);rw [og,bh] at kD;obtain ⟨E7,c7,rfl⟩:=fD kD)
            | ((with_reducible show ite _ (Oper.wp _ _ _ (World.alloc w6 (Obj.cells #[_,_,_] _)) _ _) _);refine dU (w:=w6.alloc (.cells #[.bool false,.slice none 0 0,.slice none 0 0] 44)) (by rfl) (.tmp 74) (.tmp 79) _ (by rfl) w5.heap.size 3 j0 _ 1 8 underlying42 hj rz xZ Fk rfl (by omega) (.slice (some ⟨w5.heap.size,0,none⟩) 0 0) 0 [] (by rfl) (Nj (by first | exact cm (gN (bA w5 _ aL)) oI | exact cm (gN ((bA w5 _ aL).alloc _)) oI) _) w5.heap.size Ei ps.length ei (ints ps) (by rfl) (hR.o.below (gW.alloc gW.size _)) (gi ps) q1 q2 (gW.alloc gW.size _).size ?_;intro v7 w7 kD zl TI;have fe:Below w5.heap.size w5 w7:=Eo (gW.alloc gW.size _) zl (gW.alloc gW.size _).size (fun k hk=>(En ((Nj (by first | exact cm (gN (bA w5 _ aL)) oI | exact cm (gN ((bA w5 _ aL).alloc _)) oI) _):World.ownsRow (w6.alloc (.cells #[.bool false,.slice none 0 0,.slice none 0 0] 44)) w5.heap.size 3 1 (.slice (some ⟨w5.heap.size,0,none⟩) 0 0) 0 []) k hk).1);have hL7:aD w7 A6 k6 ls:=mS (g4.aC (aU.alloc aL _)) ((Nj (by first | exact cm (gN (bA w5 _ aL)) oI | exact cm (gN ((bA w5 _ aL).alloc _)) oI) _):World.ownsRow (w6.alloc (.cells #[.bool false,.slice none 0 0,.slice none 0 0] 44)) w5.heap.size 3 1 (.slice (some ⟨w5.heap.size,0,none⟩) 0 0) 0 []) zl;(first | have tW:rQ (w6.alloc (.cells #[.bool false,.slice none 0 0,.slice none 0 0] 44)) _ _ _ _:=rQ.new w6 (.bool false) (.slice none 0 0) (.slice none 0 0) | skip);(first | (have t7:=rQ.grown tW zl (by intro e;dsimp only at e;first | omega | (simp at YA;omega));have u0:=t7.cell0;have u1:=t7.cell1;have u2:=t7.aN;have v0:=t7.frozen 0;have v1:=t7.frozen 1;have v2:=t7.frozen 2;have Iy:=gW.size) | skip);rw [og,bh] at kD;obtain ⟨E7,c7,rfl⟩:=fD kD)
            | ((with_reducible show ite _ (Oper.wp _ _ _ w6 _ _) _);refine dU (w:=w6) (by rfl) (.tmp 74) (.tmp 79) _ (by rfl) w5.heap.size 3 j0 _ 1 8 underlying42 hj rz xZ Fk rfl (by omega) (.slice (some ⟨w5.heap.size+1,0,none⟩) 0 0) 0 [] (by rfl) (by have h:=(cm (gN (bA (base:=w5.heap.size) (w5.alloc (.cells #[.bool false,.slice none 0 0,.slice none 0 0] 44)) _ (by simp))) oI);rwa [aJ] at h) w5.heap.size Ei ps.length ei (ints ps) (by rfl) (hR.o.below gW) (gi ps) q1 q2 gW.size ?_;intro v7 w7 kD zl TI;have fe:Below w5.heap.size w5 w7:=Eo gW zl gW.size (fun k hk=>(En ((by have h:=(cm (gN (bA (base:=w5.heap.size) (w5.alloc (.cells #[.bool false,.slice none 0 0,.slice none 0 0] 44)) _ (by simp))) oI);rwa [aJ] at h):World.ownsRow (w6) w5.heap.size 3 1 (.slice (some ⟨w5.heap.size+1,0,none⟩) 0 0) 0 []) k hk).1);have hL7:aD w7 A6 k6 ls:=mS g4 ((by have h:=(cm (gN (bA (base:=w5.heap.size) (w5.alloc (.cells #[.bool false,.slice none 0 0,.slice none 0 0] 44)) _ (by simp))) oI);rwa [aJ] at h):World.ownsRow (w6) w5.heap.size 3 1 (.slice (some ⟨w5.heap.size+1,0,none⟩) 0 0) 0 []) zl;(first | have tW:rQ (w6) _ _ _ _:=tN | skip);(first | (have t7:=rQ.grown tW zl (by intro e;dsimp only at e;first | omega | (simp at YA;omega));have u0:=t7.cell0;have u1:=t7.cell1;have u2:=t7.aN;have v0:=t7.frozen 0;have v1:=t7.frozen 1;have v2:=t7.frozen 2;have Iy:=hgN) | skip);rw [og,bh] at kD;obtain ⟨E7,c7,rfl⟩:=fD kD))
         all_goals
          (go_wp2_with fail);go_meet
          first
           | exact ⟨w7.heap.size,rfl,F.o _ w7.heap.size s6 A6 k6 c6 ls E7 c7 (rQ.new w7 _ _ _) g1 g2 (hL7.aC (aU.alloc aL _)) g5 (js kD) ((Ints.ia kD zk.o).aC (aU.alloc aL _)) (fun h0 y hy=>aG (by first | exact aL | (simp;done) | (simp;omega)) (gf h0 y hy)) (fun _ y hy=>(kD.lt y.block (by subst hy;rfl)).1) (fe.alloc fe.size _)⟩
           | exact ⟨_,rfl,F.o _ _ s6 A6 k6 c6 ls E7 c7 (t7.set _ _ _) g1 g2 (t7.limbs _ _ _ hL7) g5 (js kD) (t7.ints _ _ _ (Ints.ia kD zk.o)) (fun h0 y hy=>aG (by first | exact aL | (simp;done) | (simp;omega)) (gf h0 y hy)) (fun _ y hy=>(kD.lt y.block (by subst hy;rfl)).1) (((fe.setCell Iy _).setCell Iy _).setCell Iy _)⟩
        case rest=>
         obtain ⟨gt,rfl,hT⟩:=hcut;obtain ⟨w8,rfl⟩:∃W:World,W=wc:=⟨_,rfl⟩;obtain ⟨s6,A6,k6,c6,ls,E7,c7,agx,g1,g2,g3,g4,hL6,hI7,hz6,hf6,hf7,Ak⟩:=hT.o;have hI8:=aA (YL.o.jX Ak);have zL:Hid (∀W,Below w8.heap.size w8 W->W.cell? ⟨gt,0,none⟩=some (.bool s6)∧W.cell? ⟨gt,1,none⟩=some (.slice A6 k6 c6)∧W.cell? ⟨gt,2,none⟩=some (.slice E7 ps.length c7)):=fun W hW=>⟨(agx.aC hW).cell0,(agx.aC hW).cell1,(agx.aC hW).aN⟩;obtain ⟨m0,m1,m2⟩:=zL.o _ aU;have Hr2:=aA (Rz hI8.o.own rfl);have hk6:ls.length=k6:=hL6.len;have hxE:Hid (∀W,Below w8.heap.size w8 W->gV W (((A6,c6),(E7,c7)),((s6,ls),ps))):=fun W hW=>⟨by show ls.length<=c6;omega,g2,g3,g4,by show aD W A6 ls.length ls;rw [hk6];exact hL6.aC hW,hI7.aC hW⟩;have hZ6:Hid (dN s6 ls (aI s6 ls)∧aI s6 ls=aI s xs):=⟨by rw [hz6.eq];exact hz6,hz6.eq⟩;have hFr:Hid (U5 wo.heap.size ((((A6,c6),(E7,c7)),((s6,ls),ps)):ax)):=⟨fun h0 y hy=>aG YL.o.aC.size (hf6 (by have h0':0<ls.length:=h0;omega) y hy),fun h0 y hy=>aG YL.o.aC.size (hf7 h0 y hy)⟩;have Fin:Hid (∀W v,W.ownsRow w8.heap.size 44 3 v (E.length+1) (aS (E.take k++((((A6,c6),(E7,c7)),((s6,ls),ps)):ax)::E.drop k))->Below w8.heap.size w8 W->wF wo W n v (E.take k++((((A6,c6),(E7,c7)),((s6,ls),ps)):ax)::E.drop k) (aP (L.take (i+1)))):=fun W v aa hb=>by
          have h:=hI8.o.insert (x:=(((A6,c6),(E7,c7)),((s6,ls),ps))) hk abO.o hni.o FJ.o hZ6.o.1 hFr.o (hxE.o W hb) (PC aa hI8.o.aC.size) hb;(have e:bS ((s6,ls),ps)=bS ((s,xs),ps):=by show (ps,aI s6 ls)=(ps,aI s xs);rw [hZ6.o.2]);rw [Rf.o,<- e];exact h
         (have hkc:(k:Int)<=(cap:Int):=by omega);(have aJR:(E.length:Int)<=(cap:Int):=by omega);(have wT:(0:Int)<=(k:Int):=by omega);(have hkn:(k:Int)<=(E.length:Int):=by omega);have HA:Hid (World.ownsRow (w8.alloc (.cells #[] 44)).drew w8.heap.size 44 3 (.slice (some ⟨w8.heap.size,0,none⟩) 0 0) 0 []):=gN (vU w8 _ aL);have FK:Hid (World.ownsRow ((w8.alloc (.cells #[] 44)).alloc (.cells #[.bool s6,.slice A6 k6 c6,.slice E7 ps.length c7] 44)).drew w8.heap.size 44 3 (.slice (some ⟨w8.heap.size,0,none⟩) 0 0) 0 []):=gN ((vU w8 _ aL).alloc _);have HC2:Hid (World.ownsRow ((w8.alloc (.cells #[.bool s6,.slice A6 k6 c6,.slice E7 ps.length c7] 44)).alloc (.cells #[] 44)).drew w8.heap.size 44 3 (.slice (some ⟨w8.heap.size+1,0,none⟩) 0 0) 0 []):=gN (by have:=vU (w8.alloc (.cells #[.bool s6,.slice A6 k6 c6,.slice E7 ps.length c7] 44)) (base:=w8.heap.size) 44 (by simp);simpa using this);have BA:Hid (Below w8.heap.size w8 (w8.alloc (.cells #[] 44)).drew):=(aU.alloc aL _).drew;have BB:Hid (Below w8.heap.size w8 ((w8.alloc (.cells #[] 44)).alloc (.cells #[.bool s6,.slice A6 k6 c6,.slice E7 ps.length c7] 44)).drew):=((aU.alloc aL _).alloc (by simp) _).drew;have BC:Hid (Below w8.heap.size w8 ((w8.alloc (.cells #[.bool s6,.slice A6 k6 c6,.slice E7 ps.length c7] 44)).alloc (.cells #[] 44)).drew):=((aU.alloc aL _).alloc (by simp) _).drew;have hrq:Reads w8 w8.heap.size 3 B k ((aS E).take (k*3)):=Ov Hr2.o hk;have RA:=aA (hrq.below BA.o);have RB:=aA (hrq.below BB.o);have RC:=aA (hrq.below BC.o);have NBk:Hid (∀w',World.grownBy ((w8.alloc (.cells #[] 44)).alloc (.cells #[.bool s6,.slice A6 k6 c6,.slice E7 ps.length c7] 44)).drew w' (Value.slice (some ⟨w8.heap.size,0,none⟩) 0 0).ownBlock->Reads w' (w8.heap.size+1+1) 3 (some ⟨w8.heap.size+1,0,none⟩) 1 [.bool s6,.slice A6 k6 c6,.slice E7 ps.length c7]):=fun w' hg=>by
          obtain ⟨h0,h1,h2⟩:=vq (w8.alloc (.cells #[] 44)) (.bool s6) (.slice A6 k6 c6) (.slice E7 ps.length c7) 44;rw [aJ] at h0 h1 h2;exact xJ (hg.cell h0 (by simp [Value.ownBlock])) (hg.cell h1 (by simp [Value.ownBlock])) (hg.cell h2 (by simp [Value.ownBlock])) (by omega)
         have NCk:Hid (∀w',World.grownBy ((w8.alloc (.cells #[.bool s6,.slice A6 k6 c6,.slice E7 ps.length c7] 44)).alloc (.cells #[] 44)).drew w' (Value.slice (some ⟨w8.heap.size+1,0,none⟩) 0 0).ownBlock->Reads w' (w8.heap.size+1) 3 (some ⟨w8.heap.size,0,none⟩) 1 [.bool s6,.slice A6 k6 c6,.slice E7 ps.length c7]):=fun w' hg=>by
          obtain ⟨h0,h1,h2⟩:=vq w8 (.bool s6) (.slice A6 k6 c6) (.slice E7 ps.length c7) 44;have h0':=(vt (w8.alloc (.cells #[.bool s6,.slice A6 k6 c6,.slice E7 ps.length c7] 44)) (.cells #[] 44) ⟨w8.heap.size,0,none⟩ (by simp)).trans h0;have h1':=(vt (w8.alloc (.cells #[.bool s6,.slice A6 k6 c6,.slice E7 ps.length c7] 44)) (.cells #[] 44) ⟨w8.heap.size,1,none⟩ (by simp)).trans h1;have h2':=(vt (w8.alloc (.cells #[.bool s6,.slice A6 k6 c6,.slice E7 ps.length c7] 44)) (.cells #[] 44) ⟨w8.heap.size,2,none⟩ (by simp)).trans h2;exact xJ (hg.cell h0' (by simp [Value.ownBlock])) (hg.cell h1' (by simp [Value.ownBlock])) (hg.cell h2' (by simp [Value.ownBlock])) (by omega)
         (have GK:0+k<=maxLen:=by unfold maxLen;omega);(have OD:(0+k)*56<=140737488355328:=by omega);(have hl3:0+k+1<=maxLen:=by unfold maxLen;omega);(have hl4:(0+k+1)*56<=140737488355328:=by omega);(have hl5:0+k+1+(E.length-k)<=maxLen:=by unfold maxLen;omega);(have hl6:(0+k+1+(E.length-k))*56<=140737488355328:=by omega);(have M9:Hid (0+k+1+(E.length-k)=E.length+1):=by show _=_;omega);have Yg:Hid (∀u∈(aS E).take (k*3),u.oneCell'=true):=fun u hu=>lQ _ u (uU hu);have Hct:Hid (Reads w8 w8.heap.size 3 (if cap=k then B else Option.map (fun x=>x.add (k*3)) B) (E.length-k) ((aS E).drop (k*3))):=Hr2.o.cut hk CV;have hK6:=aA hk6;clear hrq agx hL6 hI7 hz6 Ak hk6 hT YL E85 E95 l6 Cn b1 b2 b3 hR zk F q1 q2;(go_wp2_with fail);go_region_held3 (fun W=>W.cell? ⟨gt,0,none⟩=some (.bool s6)∧W.cell? ⟨gt,1,none⟩=some (.slice A6 k6 c6)∧W.cell? ⟨gt,2,none⟩=some (.slice E7 ps.length c7))
          (first | go_keep | exact zL.o _ nZ | exact zL.o _ cN | exact zL.o _ cZ | exact zL.o _ BA.o | exact zL.o _ BB.o | exact zL.o _ BC.o | exact zL.o _ (cZ.alloc cZ.size _) | exact zL.o _ aU.drew | exact zL.o _ (aU.alloc aL _).drew)
          (first
            | ((with_reducible show ite _ (Oper.wp _ _ _ (World.drew (World.alloc w8 (Obj.cells #[] _))) _ _) _);refine dU (w:=(w8.alloc (.cells #[] 44)).drew) (by rfl) (.tmp 82) (.tmp 85) _ (by rfl) w8.heap.size 44 i0 _ 3 56 underlying22 hi jE jD jJ rfl (by omega) (.slice (some ⟨w8.heap.size,0,none⟩) 0 0) 0 [] (by rfl) HA.o w8.heap.size B k cap ((aS E).take (k*3)) (by rfl) RA.o Yg.o GK OD BA.o.size ?_;intro v1 w1 jH wU abT;have cZ:=BA.o.grown wU BA.o.size (fun k hk=>(HA.o.lt k hk).1))
            | ((with_reducible show ite _ (Oper.wp _ _ _ (World.drew (World.alloc (World.alloc w8 (Obj.cells #[] _)) _)) _ _) _);refine dU (w:=((w8.alloc (.cells #[] 44)).alloc (.cells #[.bool s6,.slice A6 k6 c6,.slice E7 ps.length c7] 44)).drew) (by rfl) (.tmp 82) (.tmp 85) _ (by rfl) w8.heap.size 44 i0 _ 3 56 underlying22 hi jE jD jJ rfl (by omega) (.slice (some ⟨w8.heap.size,0,none⟩) 0 0) 0 [] (by rfl) FK.o w8.heap.size B k cap ((aS E).take (k*3)) (by rfl) RB.o Yg.o GK OD BB.o.size ?_;intro v1 w1 jH wU abT;have cZ:=BB.o.grown wU BB.o.size (fun k hk=>(FK.o.lt k hk).1);have hn1:=NBk.o _ wU)
            | ((with_reducible show ite _ (Oper.wp _ _ _ (World.drew (World.alloc (World.alloc w8 (Obj.cells #[_,_,_] _)) _)) _ _) _);refine dU (w:=((w8.alloc (.cells #[.bool s6,.slice A6 k6 c6,.slice E7 ps.length c7] 44)).alloc (.cells #[] 44)).drew) (by rfl) (.tmp 82) (.tmp 85) _ (by rfl) w8.heap.size 44 i0 _ 3 56 underlying22 hi jE jD jJ rfl (by omega) (.slice (some ⟨w8.heap.size+1,0,none⟩) 0 0) 0 [] (by rfl) HC2.o w8.heap.size B k cap ((aS E).take (k*3)) (by rfl) RC.o Yg.o GK OD BC.o.size ?_;intro v1 w1 jH wU abT;have cZ:=BC.o.grown wU BC.o.size (fun k hk=>(HC2.o.lt k hk).1);have hn1:=NCk.o _ wU)
            | ((with_reducible show ite _ (Oper.wp _ _ _ (World.alloc w1 _) _ _) _);refine dU (w:=w1.alloc (.cells #[.bool s6,.slice A6 k6 c6,.slice E7 ps.length c7] 44)) (by rfl) (.tmp 86) (.tmp 88) _ (by rfl) w8.heap.size 44 i0 _ 3 56 underlying22 hi jE jD jJ rfl (by omega) v1 (0+k) ([]++(aS E).take (k*3)) (by rfl) (jH.alloc _) (w1.heap.size+1) (some ⟨w1.heap.size,0,none⟩) 1 1 [.bool s6,.slice A6 k6 c6,.slice E7 ps.length c7] (by rfl) (FR w1 _ _ _ _) (by simp [Value.oneCell']) hl3 hl4 (cZ.alloc cZ.size _).size ?_;intro v2 w2 bp S6 YH;have cN:=(cZ.alloc cZ.size _).grown S6 (cZ.alloc cZ.size _).size (fun k hk=>(jH.lt k hk).1))
            | ((with_reducible show ite _ (Oper.wp _ _ _ w1 _ _) _);refine dU (w:=w1) (by rfl) (.tmp 86) (.tmp 88) _ (by rfl) w8.heap.size 44 i0 _ 3 56 underlying22 hi jE jD jJ rfl (by omega) v1 (0+k) ([]++(aS E).take (k*3)) (by rfl) jH _ _ 1 1 [.bool s6,.slice A6 k6 c6,.slice E7 ps.length c7] (by rfl) hn1 (by simp [Value.oneCell']) hl3 hl4 cZ.size ?_;intro v2 w2 bp S6 YH;have cN:=cZ.grown S6 cZ.size (fun k hk=>(jH.lt k hk).1))
            | ((with_reducible show ite _ (Oper.wp _ _ _ w2 _ _) _);refine dU (w:=w2) (by rfl) (.tmp 89) (.tmp 92) _ (by rfl) w8.heap.size 44 i0 _ 3 56 underlying22 hi jE jD jJ rfl (by omega) v2 (0+k+1) ([]++(aS E).take (k*3)++[.bool s6,.slice A6 k6 c6,.slice E7 ps.length c7]) (by rfl) bp w8.heap.size (if cap=k then B else Option.map (fun x=>x.add (k*3)) B) (E.length-k) (cap-k) ((aS E).drop (k*3)) (by rfl) (Hct.o.below cN) (fun u hu=>lQ _ u (vu hu)) hl5 hl6 cN.size ?_;intro v3 w3 Iu hg3 azv;have nZ:=cN.grown hg3 cN.size (fun k hk=>(bp.lt k hk).1)))
         all_goals
          have he:[]++(aS E).take (k*3)++[.bool s6,.slice A6 k6 c6,.slice E7 ps.length c7]++(aS E).drop (k*3)=aS (E.take k++((((A6,c6),(E7,c7)),((s6,ls),ps)):ax)::E.drop k):=by
           have e:kU ((((A6,c6),(E7,c7)),((s6,ls),ps)):ax)=[.bool s6,.slice A6 k6 c6,.slice E7 ps.length c7]:=by
            show [Value.bool s6,Value.slice A6 ls.length c6,Value.slice E7 ps.length c7]=_;rw [hK6.o]
           rw [zH,gC,FO,FP,og,vD,e]
          rw [he,M9.o] at Iu;have hIn:=aA (Fin.o _ _ Iu nZ);(have hEn:(E.take k++((((A6,c6),(E7,c7)),((s6,ls),ps)):ax)::E.drop k).length<=i+1:=by simp;omega);clear Iu hg3 azv bp S6 YH jH wU abT cZ cN nZ he Fin hI8;generalize E.take k++((((A6,c6),(E7,c7)),((s6,ls),ps)):ax)::E.drop k=E2 at*
          (go_wp2_with fail);go_roundw
          case rel=>exact ⟨i+1,E2,by omega,by go_num,hIn,hEn⟩
          case measure=>simp [intOf];omega
  . have hIa:Hid (wF wo wt n (.slice B E.length cap) E (aP L)):=by
     have h:=hI.o;rw [iC (by rw [HL.o];omega)] at h;exact h
    (have dH:¬(i:Int)<(m:Int):=by omega);have Hsh:=aA (hI.o.short Hab.o);have hI0:=aA hIa.o;clear hI;(go_wp2_with fail);go_loopw [7,8] (fun v j wr=>∃k:Nat,k<=E.length∧j=.int .i64 (k:Int)∧Hid (wr.ownsRow wt.heap.size 44 3 v (iu (E.take k)).length (aS (iu (E.take k))))∧Hid (Below wt.heap.size wt wr)) (fun _ j _=>E.length-(intOf j).toNat)
    case atStart=>exact ⟨0,by omega,rfl,nv _ _ _ _,aU⟩
    case round=>
     obtain ⟨k,hk,rfl,hO,hb⟩:=hrel;obtain ⟨wv,rfl⟩:∃wv:World,wv=wr:=⟨_,rfl⟩;by_cases rM:k<E.length
     . obtain ⟨g,rfl,wU,S6⟩:=HB.o (by omega)
       obtain ⟨t0,t1,t2⟩:=jL rM;have OL:=hIa.o.jX hb.o;have c0:=OL.own.cells (g:=g) rfl (3*k) _ t0;have c1:=OL.own.cells (g:=g) rfl (3*k+1) _ t1;have c2:=OL.own.cells (g:=g) rfl (3*k+2) _ t2;rw [j5,bh,aq 3 k] at c0 c1 c2;have Bz:=(OL.ok _ (bR rM)).1;have hxs:=Hsh.o _ (bR rM);(have abz:(k:Int)<(E.length:Int):=by omega);(have wT:(0:Int)<=(k:Int):=by omega);(have hlE:E.length<=2400000000000:=by omega);have Cs:=aA (R9 (E[k]).2.1.1 (E[k]).1.1.1 (E[k]).2.1.2.length (E[k]).1.1.2 (E[k]).2.1.2 wv Bz.2.2.2.2.1 Bz.1 Bz.2.1 (by omega));have Pt:Hid (∀W,Below wv.heap.size wv W->W.cell? ⟨g,k*3,none⟩=some (.bool (E[k]).2.1.1)∧W.cell? ⟨g,k*3+1,none⟩=some (.slice (E[k]).1.1.1 (E[k]).2.1.2.length (E[k]).1.1.2)∧W.cell? ⟨g,k*3+2,none⟩=some (.slice (E[k]).1.2.1 (E[k]).2.2.length (E[k]).1.2.2)):=fun W hW=>
        ⟨(hW.cell (p:=⟨g,k*3,none⟩) (OL.own.lt g rfl).2).trans c0,(hW.cell (p:=⟨g,k*3+1,none⟩) (OL.own.lt g rfl).2).trans c1,(hW.cell (p:=⟨g,k*3+2,none⟩) (OL.own.lt g rfl).2).trans c2⟩
       have afT:=aA (fun (h:aI (E[k]).2.1.1 (E[k]).2.1.2≠0)=>YR rM h);have hno:=aA (fun (h:aI (E[k]).2.1.1 (E[k]).2.1.2=0)=>ack rM h);have abh:=XJ (aI (E[k]).2.1.1 (E[k]).2.1.2);(have hfl:(iu (E.take k)).length<=k:=by have:=acm (E.take k);rw [cQ] at this;omega);clear t0 t1 t2 OL Bz;generalize E[k]=y at*
       obtain ⟨⟨⟨Ay,cy⟩,⟨Ey,dy⟩⟩,⟨⟨sy,ys⟩,py⟩⟩:=y;simp only at c0 c1 c2 hxs Cs Pt afT hno abh;by_cases hz:aI sy ys=0
       . have Ah:Oi (aI sy ys)=0:=abh.2 hz
         rw [Ah] at Cs;have hfe:=hno.o hz;(have oK:Hid (∀W,Below wv.heap.size wv W->W.ownsRow wt.heap.size 44 3 u7 (iu (E.take (k+1))).length (aS (iu (E.take (k+1))))):=fun W hW=>by rw [hfe];exact cm hO.o hW);clear hz Ah abh hfe hno afT;(go_wp2_with fail);refine Cs.o.mono ?_;rintro e w6 ⟨rfl,gW⟩;have hO6:=aA (oK.o _ gW);have hB6:=aA (hb.o.tm gW);clear gW oK;(go_wp2_with fail);go_roundw
         case rel=>exact ⟨k+1,by omega,by go_num,hO6,hB6⟩
         case measure=>simp [intOf];omega
       . have Ah:Oi (aI sy ys)≠0:=fun e=>hz (abh.1 e)
         have uF:(Oi (aI sy ys)==0)=false:=mD.2 Ah;(have vH:(Oi (aI sy ys) !=0)=true:=by simp [Ah]);have hfe:=afT.o hz;(have hl:(iu (E.take (k+1))).length=(iu (E.take k)).length+1:=by rw [hfe,eC];rfl);(have OI:aS (iu (E.take (k+1)))=aS (iu (E.take k))++[.bool sy,.slice Ay ys.length cy,.slice Ey py.length dy]:=by rw [hfe,qI];rfl);(have oK:Hid (∀(W:World) v,W.ownsRow wt.heap.size 44 3 v ((iu (E.take k)).length+1) (aS (iu (E.take k))++[.bool sy,.slice Ay ys.length cy,.slice Ey py.length dy])->W.ownsRow wt.heap.size 44 3 v (iu (E.take (k+1))).length (aS (iu (E.take (k+1))))):=fun W v h=>by rw [hl,OI];exact h);clear hz Ah abh hfe hno afT hl OI;generalize Oi (aI sy ys)=sg at*
         (go_wp2_with fail);refine Cs.o.mono ?_;rintro e w6 ⟨rfl,gW⟩;obtain ⟨d0,d1,d2⟩:=Pt.o _ gW;have hO6:=aA (cm hO.o gW);have hB6:=aA (hb.o.tm gW);clear gW c0 c1 c2 hO Pt Cs;generalize iu (E.take k)=F at*
         (have q1:F.length+1<=maxLen:=by unfold maxLen;omega);(have q2:(F.length+1)*56<=140737488355328:=by omega);(have q3:wt.heap.size<=(w6.alloc (.cells #[.bool sy,.slice Ay ys.length cy,.slice Ey py.length dy] 44)).heap.size:=by have:=hB6.o.size;simp;omega);have hA6:Hid ((w6.alloc (.cells #[.bool sy,.slice Ay ys.length cy,.slice Ey py.length dy] 44)).ownsRow wt.heap.size 44 3 u7 F.length (aS F)):=hO6.o.alloc _;(go_wp2_with (at_builtin;refine bU (w:=w6.alloc (.cells #[.bool sy,.slice Ay ys.length cy,.slice Ey py.length dy] 44)) rfl _ _ 22 rfl wt.heap.size 44 i0 _ 3 56 underlying22 hi jE jD jJ rfl (by decide) _ F.length (aS F) rfl hA6.o (w6.heap.size+1) (some ⟨w6.heap.size,0,none⟩) 1 1 [.bool sy,.slice Ay ys.length cy,.slice Ey py.length dy] rfl (FR w6 _ _ _ _) (by simp [Value.oneCell']) q1 q2 q3 ?_;intro v7 w7 kD zl TI));have hO7:=aA (oK.o _ _ kD);have Yw:Hid (Below wt.heap.size wt w7):=(hB6.o.alloc hB6.o.size _).grown zl (hB6.o.alloc hB6.o.size _).size (fun k hk=>(hA6.o.lt k hk).1);clear kD zl TI hA6 oK;(go_wp2_with fail);go_roundw
         case rel=>exact ⟨k+1,by omega,by go_num,hO7,Yw⟩
         case measure=>simp [intOf];omega
     . have hkn:k=E.length:=by omega
       (have CK:¬(k:Int)<(E.length:Int):=by omega);have hO':=hO.o;rw [hkn,L4] at hO';have OL:=hIa.o.jX hb.o;obtain ⟨B9,d9,rfl,r1,r2,r3⟩:=jK hO' rfl (fun x hx=>(OL.ok x (r9 hx).1).1);have Fin:Hid (qG wo n (aP L) (.returned (.slice B9 (iu E).length d9)) wv):=by
        have hl:((iu E).map (·.2)).length=(iu E).length:=dJ _;refine ⟨B9,d9,(iu E).map (·.2),by rw [hl],by rw [hl];exact r1,by unfold maxLen at r2;omega,by rw [hl];exact r3,?_,(QT n E).trans OL.eq,fun W hW=> ?_,OL.aC⟩
        . exact TS OL.fall OL.len (fun x hx=>(OL.ok x hx).2)
        . have Fl:wo.heap.size<=wt.heap.size:=hI0.o.aC.size
          obtain ⟨B8,d8,e8,_,_,q3⟩:=jK (aaa hO' Fl hW) rfl (fun x hx=>by
           have h9:=OL.fr x (r9 hx).1;exact iM (OL.ok x (r9 hx).1).1 hW (fun h0 y hy hk=>by have h8:wo.heap.size<=y.block:=h9.1 h0 y hy;exact UK _ (iE hk h8)) (fun h0 y hy hk=>by have h8:wo.heap.size<=y.block:=h9.2 h0 y hy;exact UK _ (iE hk h8)))
          injection e8 with e8
          subst e8;rw [hl];exact q3
       clear hkn hO' OL r1 r2 r3 hO;(go_wp2_with fail);go_ret;exact Fin.o
def IA (n C K:Nat) (A:Option Addr) (m c:Nat) (L:List TV) (w:World) (hx:iI w A m L) (hl:∀t∈L,t.2.length=n) (hC:∀t∈L,t.1.2.length<=C) (hC1:C<=3900000000000) (hK:K<=3900000000000) (EZ:bJ (aP L)<2^(64*K)) (hm:m<=2400000000000) (hn:n<=1000000):
 aB 30 #[.slice A m c] w (oB w n (aP L)):=
 (Km n C K A m c L w hx hl hC hC1 hK EZ hm hn).mono fun _ _ h=>h.r
def aab {L:List TV}(h:Q8 (n:Int) L):∀t∈L,t.2.length=n:=fun t ht=>by
 obtain ⟨i,hi,rfl⟩:=uR.1 ht;have h1:((L[i].2.length:Nat):Int)=(n:Int):=(h.2.2.2 i hi).1;omega
def jI.zero {X M:Mv}(h:jI n X M) (p:fI):jI n X (M++[(p,0)]):=fun q hq=>by
 rw [h q hq,ic,aj,qF];show _=_+((if p=q then (0:Int) else 0)+0);split<;>omega
def jI.more {X M:Mv}(h:jI n X M) (t:mH):jI n (X++[t]) (M++[t]):=fun q hq=>by
 rw [ic,ic,h q hq]
def Tu {C:Nat} {L:List TV}(hl:∀t∈L,t.1.2.length<=C) (hi:∀t∈L,aQ t.1.2) (hk:L.length<=k) (zP:k<18446744073709551616):bJ (aP L)<2^(64*(C+1)):=by
 have h1:bJ (aP L)<=(aP L).length*2^(64*C):=DJ fun t ht=>by
  obtain ⟨s,hs,rfl⟩:=af.1 ht;exact oy (Py s.1.1 (hi s hs) (hl s hs))
 rw [au] at h1;have h2:L.length*2^(64*C)<=18446744073709551615*2^(64*C):=bG _ (by omega);have h3:=lJ (64*C);rw [ak,iD,bl];have h4:(2:Nat)^64=18446744073709551616:=by decide
 rw [h4,aq (2^(64*C))];omega
structure jN (w0 wr:World) (n C:Nat) (v:Value) (E:List ax) (M:Mv):Prop where
 own:wr.ownsRow w0.heap.size 44 3 v E.length (aS E)
 ok:∀x∈E,gV wr x
 far:∀x∈E,(0<x.2.1.2.length->∀y,x.1.1.1=some y->v.ownBlock≠some y.block)∧(0<x.2.2.length->∀y,x.1.2.1=some y->v.ownBlock≠some y.block)
 len:∀x∈E,x.2.2.length=n
 co:∀x∈E,x.2.1.2.length<=C
 eq:jI n (aP (E.map (·.2))) M
 aC:Below w0.heap.size w0 wr
def jN.start (w:World) (n C:Nat):jN w w n C (.slice none 0 0) [] []:=
 ⟨nv _ _ _ _,fun x hx=>(by cases hx),fun x hx=>(by cases hx),fun x hx=>(by cases hx),fun x hx=>(by cases hx),fun _ _=>rfl,aU⟩
def jN.jX {C:Nat} {E:List ax} {M:Mv}(h:jN w0 wr n C v E M) (hb:Below wr.heap.size wr wt):jN w0 wt n C v E M:=
 ⟨cm h.own hb,fun x hx=>(h.ok x hx).aC hb,h.far,h.len,h.co,h.eq,h.aC.tm hb⟩
def jN.eq2 {C:Nat} {E:List ax} {M N:Mv}(h:jN w0 wr n C v E M) (e:jI n (aP (E.map (·.2))) N):jN w0 wr n C v E N:=
 ⟨h.own,h.ok,h.far,h.len,h.co,e,h.aC⟩
def jN.next {w2:World} {C H:Nat} {E:List ax} {M:Mv} {x:ax} {o:Obj}(h:jN w0 wr n C v E M) (cN:Below wr.heap.size wr w2) (hx:gV w2 x) (kR:x.2.2.length=n) (hxC:x.2.1.2.length<=C)
 (hf1:0<x.2.1.2.length->∀y,x.1.1.1=some y->v.ownBlock≠some y.block) (hf2:0<x.2.2.length->∀y,x.1.2.1=some y->v.ownBlock≠some y.block)
 (aa:w3.ownsRow w0.heap.size 44 3 (.slice (some ⟨g,0,none⟩) (E.length+1) cap) (E.length+1) (aS E++kU x)) (rD:(w2.alloc o).grownBy w3 v.ownBlock) (gZ:v.ownBlock=some g∨g=H) (hH:H=w2.heap.size+1):jN w0 w3 n C (.slice (some ⟨g,0,none⟩) (E.length+1) cap) (E++[x]) (M++[bS x.2]):=by
 subst hH;have tV:∀k,v.ownBlock=some k->w0.heap.size<=k∧k<wr.heap.size:=fun k hk=>h.own.lt k hk;have vH:=cN.size;have b3:Below w2.heap.size w2 (w2.alloc o):=aU.alloc aL _;have o3:Only (fun k=>v.ownBlock=some k) (w2.alloc o) w3:=(Only.fK rD).mono (fun i hi=>by first | exact hi | exact hi.symm);have wV:∀z∈E++[x],(0<z.2.1.2.length->∀y,z.1.1.1=some y->v.ownBlock≠some y.block)∧(0<z.2.2.length->∀y,z.1.2.1=some y->v.ownBlock≠some y.block):=fun z hz=>by
  rcases gT.1 hz with hz | hz
  . exact h.far z hz
  . rw [dS.1 hz];exact ⟨hf1,hf2⟩
 have eR:∀z∈E++[x],gV w2 z:=fun z hz=>by
  rcases gT.1 hz with hz | hz
  . exact (h.ok z hz).aC cN
  . rw [dS.1 hz];exact hx
 refine ⟨by rw [eC,qI];exact aa,fun z hz=>iM ((eR z hz).aC b3) o3 (fun h0 y hy e=>(wV z hz).1 h0 y hy e) (fun h0 y hy e=>(wV z hz).2 h0 y hy e),fun z hz=> ?_,fun z hz=> ?_,fun z hz=> ?_,?_,?_⟩
 . have h5:=(eR z hz).2.2.2.2.1
   have h6:=(eR z hz).2.2.2.2.2;refine ⟨fun h0 y hy e=> ?_,fun h0 y hy e=> ?_⟩
   . have e:g=y.block:=by injection e
     rcases gZ with h1 | h1
     . exact (wV z hz).1 h0 y hy (by rw [h1,e])
     . have:=yf h5 h0 hy;omega
   . have e:g=y.block:=by injection e
     rcases gZ with h1 | h1
     . exact (wV z hz).2 h0 y hy (by rw [h1,e])
     . have:=xY h6 h0 hy;omega
 . rcases gT.1 hz with hz | hz
   . exact h.len z hz
   . rw [dS.1 hz];exact kR
 . rcases gT.1 hz with hz | hz
   . exact h.co z hz
   . rw [dS.1 hz];exact hxC
 . rw [ij,eN]
   exact h.eq.more (bS x.2)
 . have ux:Below w0.heap.size w0 w2:=h.aC.tm cN
   exact (ux.alloc ux.size o).grown rD (by have:=ux.size;simp;omega) (fun k hk=>(tV k hk).1)
def jN.o {C:Nat} {E:List ax} {M:Mv}(h:jN w0 wr n C v E M) (hn:n<=1000000) (hC:C<=3850000000000) (hE:E.length<=2400000000000):
 ∃B d,v=.slice B E.length d∧aB 30 #[.slice B E.length d] wr (oB wr n M):=by
 obtain ⟨B,d,e,_,_,ht⟩:=jK h.own rfl h.ok;have hlen:∀t∈E.map (·.2),t.2.length=n:=fun t ht=>by
  obtain ⟨x,hx,rfl⟩:=af.1 ht;exact h.len x hx
 have LR:∀t∈E.map (·.2),t.1.2.length<=C:=fun t ht=>by
  obtain ⟨x,hx,rfl⟩:=af.1 ht;exact h.co x hx
 have EZ:=Tu LR (KZ ht) (k:=2400000000000) (by rw [dJ];exact hE) (by omega);refine ⟨B,d,e,(IA n C (C+1) B E.length d (E.map (·.2)) wr ht hlen LR (by omega) (by omega) EZ (aG hE (by decide)) hn).mono ?_⟩;rintro e w' ⟨A,c,T,h1,h2,h3,h4,h5,h6,h7⟩;exact ⟨A,c,T,h1,h2,h3,h4,h5,h6.trans h.eq,h7⟩
def Rv {c:Int} {L:List TV} (h:k<L.length):fS c (aP (L.take (k+1)))=fS c (aP (L.take k))++[((bS L[k]).1,c*(bS L[k]).2)]:=by
 rw [kG h,eN];unfold fS;rw [ij];rfl
def H8 (n C K:Nat) (A:Option Addr) (ma ca:Nat) (L:List TV) (sx:Bool) (Ax:Option Addr) (kx cx:Nat) (zs:List Int) (w:World) (hx:iI w A ma L) (hl:∀t∈L,t.2.length=n) (hC:∀t∈L,t.1.2.length<=C) (hz:aD w Ax kx zs) (hkx:kx<=K) (hkc:kx<=cx) (LQ:cx<=9223372036854775807) (hm:ma<=2400000000000) (hn:n<=1000000) (hCK:C+K<=3800000000000):
 aB 91 #[.slice A ma ca,.agg #[.bool sx,.slice Ax kx cx]] w (oB w n (fS (aI sx zs) (aP L))):=by
 obtain ⟨i0,rT,jE,jD,jJ⟩:=eG kH;have Hx:=aA hx;have HL:=aA hx.len;have Hl:=aA hl;have HC:=aA hC;have Hz:=aA hz;clear hx hl hC hz;go_enter func91,ntmps91
 go_wp2_with fail
 have rF:Below w.heap.size w (w.alloc (.cells #[.bool sx,.slice Ax kx cx] 41)):=aU.alloc aL _;have vh:=Duo.new w (.bool sx) (.slice Ax kx cx);have HG:=aA (fun M e w' (h:oB (w.alloc (.cells #[.bool sx,.slice Ax kx cx] 41)) n M e w')=>h.from_ rF);have Hx:=aA (Hx.o.aC rF);have Hz:=aA (Hz.o.aC rF);clear rF;generalize w.alloc (.cells #[.bool sx,.slice Ax kx cx] 41)=wo at*
 have Hd0:=aA vh;clear vh;generalize w.heap.size=gc at*
 go_loopw [5,6] (fun v kk wr=>∃(k:Nat) (E:List ax),k<=ma∧kk=.int .i64 (k:Int)∧Hid (jN wo wr n (C+K+1) v E (fS (aI sx zs) (aP (L.take k))))∧E.length<=k) (fun _ kk _=>ma-(intOf kk).toNat)
 case atStart=>exact ⟨0,[],by omega,rfl,jN.start _ _ _,aL⟩
 case round=>
  obtain ⟨k,E,hk,rfl,hO,Jv⟩:=hrel;obtain ⟨wt,rfl⟩:∃wt:World,wt=wr:=⟨_,rfl⟩;have hO1:=aA (fun j (h:u5.ownBlock=some j)=>hO.o.own.lt j h);by_cases hlt:k<ma
  . obtain ⟨b,o,rfl,hb,hc⟩:=Hx.o.at_ (by omega)
    (have th:k<L.length:=by rw [HL.o];exact hlt);obtain ⟨Ai,ci,Ei,ei,e1,e2,e3,e4,e5,e6,e7,e8,e9⟩:=hc k th;have tZ:=Hl.o _ (bR th);have Ju:=HC.o _ (bR th);have Rf:=aA (Rv (c:=aI sx zs) th);clear hc;generalize L[k]=x at*
    obtain ⟨⟨s,xs⟩,ps⟩:=x;simp only at e1 e2 e3 e4 e6 e8 e9 tZ Ju;have FJ:=aA tZ;rw [aq 3 k] at e1 e2 e3;rw [<- jb] at e2 e3;(have dH:(k:Int)<(ma:Int):=by omega);(have wT:(0:Int)<=(k:Int):=by omega);have je:=aA hO.o.aC;have gJ:Hid (∀W,Below wo.heap.size wo W->W.cell? ⟨b,o+k*3,none⟩=some (.bool s)∧W.cell? ⟨b,o+k*3+1,none⟩=some (.slice Ai xs.length ci)∧W.cell? ⟨b,o+k*3+2,none⟩=some (.slice Ei ps.length ei)∧W.cell? ⟨gc,0,none⟩=some (.bool sx)∧W.cell? ⟨gc,1,none⟩=some (.slice Ax kx cx)):=fun W hW=>
     ⟨(hW.cell (p:=⟨b,o+k*3,none⟩) hb).trans e1,(hW.cell (p:=⟨b,o+k*3+1,none⟩) hb).trans e2,(hW.cell (p:=⟨b,o+k*3+2,none⟩) hb).trans e3,(Hd0.o.aC hW).cell0,(Hd0.o.aC hW).cell1⟩
    have E8:=aA e8;have E9:=aA e9;obtain ⟨a1,a2,a3,a4,a5⟩:=gJ.o _ je.o;clear e8 e9 e1 e2 e3 tZ;have l6:Hid (∀W,Below wt.heap.size wt W->W.cell? ⟨b,o+k*3,none⟩=some (.bool s)∧W.cell? ⟨b,o+k*3+1,none⟩=some (.slice Ai xs.length ci)∧W.cell? ⟨b,o+k*3+2,none⟩=some (.slice Ei ps.length ei)∧W.cell? ⟨gc,0,none⟩=some (.bool sx)∧W.cell? ⟨gc,1,none⟩=some (.slice Ax kx cx)):=fun W hW=>gJ.o _ (je.o.tm hW);have Cm:Hid (∀W,Below wt.heap.size wt W->aB 98 #[.agg #[.bool s,.slice Ai xs.length ci],.agg #[.bool sx,.slice Ax kx cx]] W (iA W (aI s xs*aI sx zs) (xs.length+kx))):=fun W hW=>
     SA s sx Ai Ax xs.length kx ci cx xs zs W (E8.o.aC (je.o.tm hW)) (Hz.o.aC (je.o.tm hW)) e4 e5 hkc LQ (by omega) (by omega)
    (have q1:E.length+1<=maxLen:=by unfold maxLen;omega);(have q2:(E.length+1)*56<=140737488355328:=by omega);have tV:Hid (∀j,u5.ownBlock=some j->wo.heap.size<=j∧j<wt.heap.size):=hO1.o;have F:Hid (∀(w7 w8:World) (s2:Bool) (A2:Option Addr) (k2 c2:Nat) (ls:List Int) (gg cap:Nat),Below wt.heap.size wt w7->k2<=c2->c2<=9223372036854775807->k2<=xs.length+kx->aD w7 A2 k2 ls->dN s2 ls (aI s xs*aI sx zs)->(0<k2->∀z,A2=some z->wt.heap.size<=z.block)->w8.ownsRow wo.heap.size 44 3 (.slice (some ⟨gg,0,none⟩) (E.length+1) cap) (E.length+1) (aS E++[.bool s2,.slice A2 k2 c2,.slice Ei ps.length ei])->(w7.alloc (.cells #[.bool s2,.slice A2 k2 c2,.slice Ei ps.length ei] 44)).grownBy w8 u5.ownBlock->(u5.ownBlock=some gg∨gg=w7.heap.size+1)->∃E2:List ax,E2.length=E.length+1∧jN wo w8 n (C+K+1) (.slice (some ⟨gg,0,none⟩) (E.length+1) cap) E2 (fS (aI sx zs) (aP (L.take (k+1))))):=fun w7 w8 s2 A2 k2 c2 ls gg cap hb h1 h2 h3 h4 h5 h6 h7 h8 h9=>by
     obtain rfl:=h4.len;have GJ:=hO.o.next (x:=(((A2,c2),(Ei,ei)),((s2,ls),ps))) (o:=(.cells #[.bool s2,.slice A2 ls.length c2,.slice Ei ps.length ei] 44)) hb ⟨h1,h2,e6,e7,h4,(E9.o.aC je.o).aC hb⟩ FJ.o (by show ls.length<=C+K+1;omega)
      (fun h0 z hz e=>by have h10:=h6 h0 z hz;have Yx:=tV.o _ e;have:=hb.size;omega) (fun h0 z hz e=>by have h10:=xY E9.o h0 hz;have Yx:=tV.o _ e;omega)
      h7 h8 h9 rfl
     refine ⟨E++[(((A2,c2),(Ei,ei)),((s2,ls),ps))],by rw [eC];rfl,?_⟩;have e:bS ((s2,ls),ps)=(ps,aI sx zs*aI s xs):=by
      show (ps,aI s2 ls)=_;rw [h5.eq,nE]
     rw [Rf.o];show jN _ _ _ _ _ _ (_++[(ps,aI sx zs*aI s xs)]);rw [<- e];exact GJ
    have HOW:=aA (fun W (hW:Below wt.heap.size wt W)=>cm hO.o.own hW);(have uq:Hid (∀(W:World) (ob:Obj),Below wt.heap.size wt W->wo.heap.size<=(W.alloc ob).heap.size):=fun W ob hW=>by have:=hW.size;have:=je.o.size;simp;omega);have QS:=aA (fun W (hW:Below wt.heap.size wt W)=>je.o.tm hW);clear hO je E8 E9 a1 a2 a3 a4 a5;obtain ⟨a1,a2,a3,a4,a5⟩:=l6.o _ aU;(go_wp2_with fail);go_region_held3 (fun W=>W.cell? ⟨b,o+k*3,none⟩=some (.bool s)∧W.cell? ⟨b,o+k*3+1,none⟩=some (.slice Ai xs.length ci)∧W.cell? ⟨b,o+k*3+2,none⟩=some (.slice Ei ps.length ei)∧W.cell? ⟨gc,0,none⟩=some (.bool sx)∧W.cell? ⟨gc,1,none⟩=some (.slice Ax kx cx))
     (first | go_keep | exact l6.o _ aU.drew | exact l6.o _ fe | exact l6.o _ (fe.alloc fe.size _) | exact gJ.o _ CW)
     (first
       | (go_at_call 98;refine (Cm.o _ (by first | exact aU.drew | exact aU)).mono ?_;rintro e w7 ⟨s2,A2,k2,c2,ls,rfl,p1,p2,p3,p4,p5,pf,kO⟩;have fe:Below wt.heap.size wt w7:=(by first | exact aU.drew.trans kO | exact kO))
       | ((refine pN _ (by rfl) _ _ _ (by rfl) wo.heap.size 44 i0 _ 3 56 underlying22 rT jE jD jJ rfl (by omega) u5 E.length (aS E) (by rfl) ((HOW.o _ fe).alloc _) ⟨w7.heap.size,0,none⟩ 1 1 [.bool s2,.slice A2 k2 c2,.slice Ei ps.length ei] (by rfl) (by rfl) (gw (cs:=#[.bool s2,.slice A2 k2 c2,.slice Ei ps.length ei]) (t:=44) (fr:=(0,0)) (bM w7 _)) (by simp [Value.oneCell']) (Nat.one_pos) q1 q2 (uq.o _ _ fe) (w7.heap.size+1) (by simp) ?_);intro gg cap w8 fL aW gZ ou;have CW:Below wo.heap.size wo w8:=((QS.o _ fe).alloc (QS.o _ fe).size _).grown aW ((QS.o _ fe).alloc (QS.o _ fe).size _).size (fun j hj=>(tV.o j hj).1)))
    obtain ⟨E2,hE2,Rb⟩:=F.o w7 w8 s2 A2 k2 c2 ls gg cap fe p1 p2 p3 p4 p5 pf fL aW gZ
    have Yj:=aA Rb;(have hE3:E2.length<=k+1:=by omega);clear Rb hE2 fL aW gZ ou CW fe kO p4 p5 pf F Cm l6 HOW uq QS a1 a2 a3 a4 a5;(go_wp2_with fail);go_roundw
    case rel=>exact ⟨k+1,E2,by omega,by go_num,Yj,hE3⟩
    case measure=>simp [intOf];omega
  . have eR:L.take k=L:=iC (by rw [HL.o];omega)
    have oK:=hO.o;rw [eR] at oK;obtain ⟨B,d,rfl,Cp⟩:=oK.o (by omega) (by omega) (by omega);have ZE:=aA Cp;have Hb:=aA oK.aC;(have dH:¬(k:Int)<(ma:Int):=by omega);clear eR oK Cp hO;(go_wp2_with fail);refine ZE.o.mono ?_;intro e w9 h9;obtain ⟨A9,c9,T,rfl,t1,t2,t3,t4,t5,t6⟩:=HG.o _ _ _ (h9.from_ Hb.o);have F:Hid (oB w n (fS (aI sx zs) (aP L)) (.returned (.slice A9 T.length c9)) w9):=⟨A9,c9,T,rfl,t1,t2,t3,t4,t5,t6⟩;clear h9 t3 t4 t5 t6;(go_wp2_with fail);go_ret;exact F.o
def OW {m:Nat} {L:List TV}(h:iI w A m L):∃E:List ax,E.map (·.2)=L∧E.length=m∧(∀x∈E,gV w x)∧Reads w w.heap.size 3 A m (aS E):=by
 rcases jM m with rfl | hm
 . have hL:L=[]:=adn.1 h.len
   subst hL;exact ⟨[],rfl,rfl,fun x hx=>(by cases hx),vP rfl fun h0=>absurd h0 (UK 0)⟩
 . obtain ⟨b,o,e,hb,hc⟩:=h.at_ hm
   have key:∀k,k<=L.length->∃E:List ax,E.length=k∧E.map (·.2)=L.take k∧(∀x∈E,gV w x)∧∀i (h:i<E.length),w.cell? ⟨b,o+3*i,none⟩=some (.bool (E[i]).2.1.1)∧w.cell? ⟨b,o+(3*i+1),none⟩=some (.slice (E[i]).1.1.1 (E[i]).2.1.2.length (E[i]).1.1.2)∧w.cell? ⟨b,o+(3*i+2),none⟩=some (.slice (E[i]).1.2.1 (E[i]).2.2.length (E[i]).1.2.2):=by
    intro k;induction k with
    | zero=>intro _;exact ⟨[],rfl,by rw [x9];rfl,fun x hx=>(by cases hx),fun i hi=>absurd hi (rK i)⟩
    | succ k ih=>
      intro hk;obtain ⟨E,k1,k2,k3,k4⟩:=ih (by omega);obtain ⟨Ai,ci,Ei,ei,e1,e2,e3,e4,e5,e6,e7,e8,e9⟩:=hc k (by omega);refine ⟨E++[(((Ai,ci),(Ei,ei)),L[k])],by rw [eC,k1];rfl,by rw [ij,k2,kG (by omega)];rfl,fun x hx=> ?_,fun i hi=> ?_⟩
      . rcases gT.1 hx with hx | hx
        . exact k3 x hx
        . rw [dS.1 hx];exact ⟨e4,e5,e6,e7,e8,e9⟩
      . rcases pT i E.length with hlt | xC
        . rw [Up hlt];exact k4 i hlt
        . rw [eC] at hi
          have V6:i<E.length+1:=hi;(obtain rfl:i=E.length:=by omega);rw [adv aL];subst k1;simp only [vC,UT];exact ⟨e1,e2,e3⟩
   obtain ⟨E,k1,k2,k3,k4⟩:=key L.length aL;rw [L4] at k2;exact ⟨E,k2,k1.trans h.len,k3,vP (k1.trans h.len) fun _=>⟨b,o,e,hb,k4⟩⟩
def VN (n C K:Nat) (A B:Option Addr) (ma ca mb cb:Nat) (L T:List TV) (w:World) (hx:iI w A ma L) (hy:iI w B mb T) (hl:∀t∈L,t.2.length=n) (hlT:∀t∈T,t.2.length=n) (hC:∀t∈L,t.1.2.length<=C) (hCT:∀t∈T,t.1.2.length<=C) (hC1:C<=3900000000000) (hK:K<=3900000000000) (EZ:bJ (aP L)+bJ (aP T)<2^(64*K)) (hm:ma+mb<=2400000000000) (hn:n<=1000000):
 aB 59 #[.slice A ma ca,.slice B mb cb] w (qG w n (aP L++aP T)):=by
 obtain ⟨i0,hi,jE,jD,jJ⟩:=eG kH;obtain ⟨E,k1,k2,k3,k4⟩:=OW hx;obtain ⟨F,j1,j2,j3,j4⟩:=OW hy;have al:Below w.heap.size w (w.alloc (.cells #[] 44)):=aU.alloc aL _;have HA:Hid (World.ownsRow (w.alloc (.cells #[] 44)) w.heap.size 44 3 (.slice (some ⟨w.heap.size,0,none⟩) 0 0) 0 []):=vU w _ aL;have Js:Hid (Reads (w.alloc (.cells #[] 44)) w.heap.size 3 A ma (aS E)):=k4.alloc aL _;have hr2:Hid (∀W,Below w.heap.size w W->Reads W w.heap.size 3 B mb (aS F)):=fun W hW=>j4.below hW;have o1:=lQ E;have o2:=lQ F;have q1:0+ma<=maxLen:=by unfold maxLen;omega
 have q2:(0+ma)*56<=140737488355328:=by omega
 have q3:0+ma+mb<=maxLen:=by unfold maxLen;omega
 have q4:(0+ma+mb)*56<=140737488355328:=by omega
 have Fin:Hid (∀W v,Below w.heap.size w W->W.ownsRow w.heap.size 44 3 v (0+ma+mb) ([]++aS E++aS F)->∃D d,v=.slice D (0+ma+mb) d∧aB 30 #[.slice D (0+ma+mb) d] W (qG w n (aP L++aP T))):=fun W v hW aa=>by
  have hEF:(E++F).length=0+ma+mb:=by rw [eC,k2,j2];omega
  have axO:(E++F).map (·.2)=L++T:=by rw [ij,k1,j1]
  obtain ⟨D,d,e,_,_,ht⟩:=jK (E:=E++F) (by rw [zH];exact aa) hEF fun x hx=>by
   rcases gT.1 hx with hx | hx
   . exact (k3 x hx).aC hW
   . exact (j3 x hx).aC hW
  rw [axO] at ht;refine ⟨D,d,e,(Km n C K D _ d (L++T) W ht (fun t ht=>(gT.1 ht).elim (hl t) (hlT t)) (fun t ht=>(gT.1 ht).elim (hC t) (hCT t)) hC1 hK (by rw [eN,qu];exact EZ) (by omega) hn).mono fun e w' h=> ?_⟩;have h2:=h.from_ hW;rwa [eN] at h2
 clear hx hy hl hlT hC hCT k1 k2 k3 k4 j1 j2 j3 j4 EZ;go_enter func59,ntmps59
 go_wp2_with (first
  | (at_builtin;refine bU (w:=w1) rfl _ _ 22 rfl w.heap.size 44 i0 _ 3 56 underlying22 hi jE jD jJ rfl (by decide) v1 (0+ma) ([]++aS E) rfl jH w.heap.size B mb cb (aS F) rfl (hr2.o w1 fu) o2 q3 q4 fu.size ?_;intro v2 w2 bp S6 YH;have lC:Below w.heap.size w w2:=fu.grown S6 fu.size (fun k hk=>(jH.lt k hk).1);obtain ⟨D,d,rfl,Cp⟩:=Fin.o w2 v2 lC bp;have ZE:=aA Cp;clear Cp S6 YH bp jH)
  | (at_builtin;refine bU (w:=w.alloc (.cells #[] 44)) rfl _ _ 22 rfl w.heap.size 44 i0 _ 3 56 underlying22 hi jE jD jJ rfl (by decide) _ 0 [] rfl HA.o w.heap.size A ma ca (aS E) rfl Js.o o1 q1 q2 (by simp) ?_;intro v1 w1 jH wU abT;have fu:Below w.heap.size w w1:=al.grown wU (by simp) (fun k hk=>by have Gc:some w.heap.size=some k:=hk;injection Gc with Gc;omega);clear wU abT))
 have HC2:=ZE.o;rw [bh] at HC2;refine HC2.mono ?_;intro e w9 h9;clear Fin HA Js hr2 al o1 o2 hi jE jD jJ fu lC ZE HC2 q1 q2 q3 q4;obtain ⟨A9,c9,T9,rfl,t1,t2,t3,t4,t5,t6,t7⟩:=h9;have G:Hid (qG w n (aP L++aP T) (.returned (.slice A9 T9.length c9)) w9):=⟨A9,c9,T9,rfl,t1,t2,t3,t4,t5,t6,t7⟩;clear t3 t4 t5 t6 t7;go_wp2_with fail
 go_ret;exact G.o
def Xj (L:Mv) (t:mH) (T:Mv):mulM (L++[t]) T=mulM L T++mulM [t] T:=FV _ _ _
def XM {L:List TV} (h:i<L.length) (T:Mv):mulM (aP (L.take (i+1))) T=mulM (aP (L.take i)) T++mulM [bS L[i]] T:=by
 rw [kG h,eN];exact Xj _ _ _
def YX {T:List TV} (h:k<T.length) (t:mH):mulM [t] (aP (T.take (k+1)))=mulM [t] (aP (T.take k))++[(dI t.1 (T[k]).2,t.2*(bS T[k]).2)]:=by
 rw [kG h,eN,xR,xR,ij];rfl
def abb {a b:fI}(ha:∀x∈a,0<=x∧x<=1000000000000) (hb:∀x∈b,0<=x∧x<=1000000000000) (j:Nat):DX (nth (dI a b) j):=by
 rcases pT j (dI a b).length with h | h
 . obtain ⟨y,hy,z,hz,e⟩:=PZ (gL h)
   have:=ha y hy;have:=hb z hz;rw [e];constructor<;>omega
 . rw [bw h]
   constructor<;>omega
def O2 (n C K:Nat) (A B:Option Addr) (ma ca mb cb:Nat) (L T:List TV) (w:World) (hx:iI w A ma L) (hy:iI w B mb T) (hl:∀t∈L,t.2.length=n) (hlT:∀t∈T,t.2.length=n) (hC:∀t∈L,t.1.2.length<=C) (hCT:∀t∈T,t.1.2.length<=K)
 (hbL:∀t∈L,∀x∈t.2,0<=x∧x<=1000000000000) (hbT:∀t∈T,∀x∈t.2,0<=x∧x<=1000000000000) (hm:ma*mb<=2400000000000) (QE:ma<=2400000000000) (hmb:mb<=2400000000000) (hn:n<=1000000) (hCK:C+K<=3800000000000):
 aB 64 #[.slice A ma ca,.slice B mb cb] w (oB w n (mulM (aP L) (aP T))):=by
 obtain ⟨i0,rT,jE,jD,jJ⟩:=eG kH;obtain ⟨j0,hj,rz,xZ,Fk⟩:=eG pI;have Hx:=aA hx;have Hy:=aA hy;have HL:=aA hx.len;have HT:=aA hy.len;have Hl:=aA hl;have HlT:=aA hlT;have HC:=aA hC;have HCT:=aA hCT;have HbL:=aA hbL;have HbT:=aA hbT;clear hx hy hl hlT hC hCT hbL hbT;go_enter func64,ntmps64
 obtain ⟨wo,rfl⟩:∃wo:World,wo=w:=⟨_,rfl⟩;go_wp2_with fail
 go_loopw [5,6] (fun v kk wr=>∃(i:Nat) (E:List ax),i<=ma∧kk=.int .i64 (i:Int)∧Hid (jN wo wr n (C+K+1) v E (mulM (aP (L.take i)) (aP T)))∧Hid (E.length<=i*mb)) (fun _ kk _=>ma-(intOf kk).toNat)
 case atStart=>exact ⟨0,[],by omega,rfl,jN.start _ _ _,by show _<=_;rw [AQ];exact aL⟩
 case round=>
  obtain ⟨i,E,hi,rfl,hO,Jv⟩:=hrel;by_cases hlt:i<ma
  . obtain ⟨b,o,rfl,hb,hc⟩:=Hx.o.at_ (by omega)
    (have th:i<L.length:=by rw [HL.o];exact hlt);obtain ⟨Ai,ci,Ei,ei,e1,e2,e3,e4,e5,e6,e7,e8,e9⟩:=hc i th;have tZ:=Hl.o _ (bR th);have Ju:=HC.o _ (bR th);have qx:=HbL.o _ (bR th);have Rf:=aA (XM th (aP T));clear hc;generalize L[i]=x at*
    obtain ⟨⟨s,xs⟩,ps⟩:=x;simp only at e1 e2 e3 e4 e6 e8 e9 tZ Ju qx;have FJ:=aA tZ;have Hbd:=aA qx;rw [aq 3 i] at e1 e2 e3;rw [<- jb] at e2 e3;(have dH:(i:Int)<(ma:Int):=by omega);(have wT:(0:Int)<=(i:Int):=by omega);have aJW:i*mb+mb<=2400000000000:=by
     have h1:=bG mb (show i+1<=ma by omega);rw [bO,bN] at h1;omega
    have gJ:Hid (∀W,Below wo.heap.size wo W->W.cell? ⟨b,o+i*3,none⟩=some (.bool s)∧W.cell? ⟨b,o+i*3+1,none⟩=some (.slice Ai xs.length ci)∧W.cell? ⟨b,o+i*3+2,none⟩=some (.slice Ei ps.length ei)):=fun W hW=>
     ⟨(hW.cell (p:=⟨b,o+i*3,none⟩) hb).trans e1,(hW.cell (p:=⟨b,o+i*3+1,none⟩) hb).trans e2,(hW.cell (p:=⟨b,o+i*3+2,none⟩) hb).trans e3⟩
    have E8:=aA e8;have E9:=aA e9;have hst:Hid (jN wo wr n (C+K+1) u5 E (mulM (aP (L.take i)) (aP T)++mulM [(ps,aI s xs)] (aP (T.take 0)))):=by
     show jN _ _ _ _ _ _ _;rw [x9];show jN _ _ _ _ _ _ (_++[]);rw [tI];exact hO.o
    have apK:Hid (E.length<=i*mb+0):=Jv.o;clear e8 e9 e1 e2 e3 tZ qx hO Jv;(go_wp2_with fail);go_loopw [5,7] (fun v kk wr=>∃(k:Nat) (E:List ax),k<=mb∧kk=.int .i64 (k:Int)∧Hid (jN wo wr n (C+K+1) v E (mulM (aP (L.take i)) (aP T)++mulM [(ps,aI s xs)] (aP (T.take k))))∧Hid (E.length<=i*mb+k)) (fun _ kk _=>mb-(intOf kk).toNat)
    case atStart=>exact ⟨0,E,by omega,rfl,hst,apK⟩
    case round=>
     clear hst apK;obtain ⟨k,E,hk,rfl,hO,Jv⟩:=hrel;obtain ⟨wt,rfl⟩:∃wt:World,wt=wr:=⟨_,rfl⟩;have tV:=aA (fun j (h:u5.ownBlock=some j)=>hO.o.own.lt j h);by_cases axQ:k<mb
     . obtain ⟨b2,o2,rfl,cN,NH⟩:=Hy.o.at_ (by omega)
       (have Sz:k<T.length:=by rw [HT.o];exact axQ);obtain ⟨Bi,di,Fi,fi,f1,f2,f3,f4,f5,f6,f7,f8,f9⟩:=NH k Sz;have M8:=HlT.o _ (bR Sz);have aye:=HCT.o _ (bR Sz);have alS:=HbT.o _ (bR Sz);have aBl:=aA (YX Sz (ps,aI s xs));clear NH;generalize T[k]=y at*
       obtain ⟨⟨s',ys⟩,qs⟩:=y;simp only at f1 f2 f3 f4 f6 f8 f9 M8 aye alS;have atf:=aA M8;have atv:=aA alS;rw [aq 3 k] at f1 f2 f3;rw [<- jb] at f2 f3;(have aqp:(k:Int)<(mb:Int):=by omega);(have aKA:(0:Int)<=(k:Int):=by omega);have je:=aA hO.o.aC;have zM:Hid (∀W,Below wo.heap.size wo W->W.cell? ⟨b2,o2+k*3,none⟩=some (.bool s')∧W.cell? ⟨b2,o2+k*3+1,none⟩=some (.slice Bi ys.length di)∧W.cell? ⟨b2,o2+k*3+2,none⟩=some (.slice Fi qs.length fi)):=fun W hW=>
        ⟨(hW.cell (p:=⟨b2,o2+k*3,none⟩) cN).trans f1,(hW.cell (p:=⟨b2,o2+k*3+1,none⟩) cN).trans f2,(hW.cell (p:=⟨b2,o2+k*3+2,none⟩) cN).trans f3⟩
       have F8:=aA f8;have F9:=aA f9;(have NL:E.length+1<=2400000000000:=by have:=Jv.o;omega);clear f8 f9 f1 f2 f3 M8 alS;have hsl:Hid ((dI ps qs).length=n):=kF FJ.o atf.o;(go_wp2_with fail);go_loopw [8,9] (fun v jj wr=>∃j:Nat,j<=ps.length∧jj=.int .i64 (j:Int)∧wr.ownsRow wt.heap.size 3 1 v j (ints ((dI ps qs).take j))∧Below wt.heap.size wt wr) (fun _ jj _=>ps.length-(intOf jj).toNat)
       case atStart=>exact ⟨0,by omega,rfl,nv _ _ _ _,aU⟩
       case round=>
        obtain ⟨j,Gd,rfl,aa,bC⟩:=hrel;obtain ⟨a1,a2,a3⟩:=gJ.o _ (je.o.tm bC);obtain ⟨b1,b2',b3⟩:=zM.o _ (je.o.tm bC);by_cases aqr:j<ps.length
        . have tZ:=FJ.o
          have M8:=atf.o;obtain ⟨be,oe,rfl,mN,hce⟩:=E9.o.at_ (by omega);obtain ⟨bf,of,rfl,hbf,QM⟩:=F9.o.at_ (by omega);have ha:=((je.o.tm bC).cell (p:=⟨be,oe+j,none⟩) mN).trans (hce j (by omega));have nI:=((je.o.tm bC).cell (p:=⟨bf,of+j,none⟩) hbf).trans (QM j (by omega));obtain ⟨p1,p2⟩:=Hbd.o _ (gL (by omega:j<ps.length));obtain ⟨q1,q2⟩:=atv.o _ (gL (by omega:j<qs.length));have ew:IntKind.i64.wrap (nth ps j+nth qs j)=nth ps j+nth qs j:=bP _ (by omega);have Hat:=aA (Yc (a:=ps) (b:=qs) (j:=j) (by omega) (by omega));(have abv:(j:Int)<(ps.length:Int):=by omega);(have aqq:(j:Int)<(qs.length:Int):=by omega);(have RY:(0:Int)<=(j:Int):=by omega);have HO1:=aA aa;(have z1:j+1<=maxLen:=by unfold maxLen;omega);(have z2:(j+1)*8<=140737488355328:=by omega);(have z3:Hid (∀(o:Obj),wt.heap.size<=(wr.alloc o).heap.size):=fun o=>by have:=bC.size;simp;omega);have Ff:Hid (∀W,Below wt.heap.size wt W->W.cell? ⟨b,o+i*3+2,none⟩=some (.slice (some ⟨be,oe,none⟩) ps.length ei)∧W.cell? ⟨b2,o2+k*3+2,none⟩=some (.slice (some ⟨bf,of,none⟩) qs.length fi)∧W.cell? ⟨be,oe+j,none⟩=some (.int .i64 (nth ps j))∧W.cell? ⟨bf,of+j,none⟩=some (.int .i64 (nth qs j))):=fun W hW=>
           ⟨(gJ.o _ (je.o.tm hW)).2.2,(zM.o _ (je.o.tm hW)).2.2,((je.o.tm hW).cell (p:=⟨be,oe+j,none⟩) mN).trans (hce j (by omega)),((je.o.tm hW).cell (p:=⟨bf,of+j,none⟩) hbf).trans (QM j (by omega))⟩
          generalize nth ps j=pj at*
          generalize nth qs j=qj at*
          clear hce QM tZ M8 p1 p2 q1 q2;(go_wp2_with fail);go_region_held3 (fun W=>W.cell? ⟨b,o+i*3+2,none⟩=some (.slice (some ⟨be,oe,none⟩) ps.length ei)∧W.cell? ⟨b2,o2+k*3+2,none⟩=some (.slice (some ⟨bf,of,none⟩) qs.length fi)∧W.cell? ⟨be,oe+j,none⟩=some (.int .i64 pj)∧W.cell? ⟨bf,of+j,none⟩=some (.int .i64 qj))
           (first | go_keep | exact Ff.o _ Ak)
           (first | (refine pN _ (by rfl) _ _ _ (by rfl) wt.heap.size 3 j0 _ 1 8 underlying42 hj rz xZ Fk rfl (by omega) u8 j (ints ((dI ps qs).take j)) (by rfl) ((HO1.o.alloc _).drew) ⟨wr.heap.size,0,none⟩ 1 1 [.int .i64 (pj+qj)] (by rfl) (by rfl) (gw (cs:=#[.int .i64 (pj+qj)]) (t:=3) (fr:=(0,0)) (bM wr _)) (by simp [Value.oneCell']) (by omega) z1 z2 (z3.o _) (wr.heap.size+1) (by simp) ?_;intro gg cap w8 fL aW gZ ou;have Ak:Below wt.heap.size wt w8:=ym bC HO1.o aW bC.size))
          have abo:w8.ownsRow wt.heap.size 3 1 (.slice (some ⟨gg,0,none⟩) (j+1) cap) (j+1) (ints ((dI ps qs).take (j+1))):=by
           rw [Hat.o,Fj];exact fL
          clear fL aW gZ ou aa HO1;(go_wp2_with fail);go_roundw
          case rel=>exact ⟨j+1,by omega,by go_num,abo,Ak⟩
          case measure=>simp [intOf];omega
        . obtain rfl:j=ps.length:=by omega
          obtain ⟨wj,rfl⟩:∃wj:World,wj=wr:=⟨_,rfl⟩;(have sY:(dI ps qs).length=ps.length:=by rw [hsl.o,FJ.o]);rw [iC (by rw [sY];exact aL)] at aa;obtain ⟨A1,c1,rfl⟩:=fD aa;obtain ⟨g1,g2⟩:=js aa;have Yv:Hid (Ints wj A1 ps.length (dI ps qs)):=Ints.ia aa (abb Hbd.o atv.o);have aiy:Hid (0<ps.length->∀z,A1=some z->u5.ownBlock≠some z.block):=fun _ z hz e=>by
           subst hz;have h1:=(aa.lt z.block rfl).1;have h2:=(tV.o _ e).2;omega
          have oK:=aA (hO.o.jX bC);have hwj:=aA (je.o.tm bC);have aJz:=bC.size;(have abv:¬(ps.length:Int)<(ps.length:Int):=by omega);have Fe:Hid (∀W,Below wo.heap.size wo W->W.cell? ⟨b,o+i*3,none⟩=some (.bool s)∧W.cell? ⟨b,o+i*3+1,none⟩=some (.slice Ai xs.length ci)∧W.cell? ⟨b2,o2+k*3,none⟩=some (.bool s')∧W.cell? ⟨b2,o2+k*3+1,none⟩=some (.slice Bi ys.length di)):=fun W hW=>
           ⟨(gJ.o _ hW).1,(gJ.o _ hW).2.1,(zM.o _ hW).1,(zM.o _ hW).2.1⟩
          have Pu:Hid (∀W,Below wj.heap.size wj W->W.cell? ⟨b,o+i*3,none⟩=some (.bool s)∧W.cell? ⟨b,o+i*3+1,none⟩=some (.slice Ai xs.length ci)∧W.cell? ⟨b2,o2+k*3,none⟩=some (.bool s')∧W.cell? ⟨b2,o2+k*3+1,none⟩=some (.slice Bi ys.length di)):=fun W hW=>
           ⟨(gJ.o _ (hwj.o.tm hW)).1,(gJ.o _ (hwj.o.tm hW)).2.1,(zM.o _ (hwj.o.tm hW)).1,(zM.o _ (hwj.o.tm hW)).2.1⟩
          have Cm:Hid (∀W,Below wj.heap.size wj W->aB 98 #[.agg #[.bool s,.slice Ai xs.length ci],.agg #[.bool s',.slice Bi ys.length di]] W (iA W (aI s xs*aI s' ys) (xs.length+ys.length))):=fun W hW=>
           SA s s' Ai Bi xs.length ys.length ci di xs ys W (E8.o.aC (hwj.o.tm hW)) (F8.o.aC (hwj.o.tm hW)) e4 e5 f4 f5 (by omega) (by omega)
          (have q1:E.length+1<=maxLen:=by unfold maxLen;omega);(have q2:(E.length+1)*56<=140737488355328:=by omega);have F:Hid (∀(w7 w8:World) (s2:Bool) (A2:Option Addr) (k2 c2:Nat) (ls:List Int) (gg cap:Nat),Below wj.heap.size wj w7->k2<=c2->c2<=9223372036854775807->k2<=xs.length+ys.length->aD w7 A2 k2 ls->dN s2 ls (aI s xs*aI s' ys)->(0<k2->∀z,A2=some z->wj.heap.size<=z.block)->w8.ownsRow wo.heap.size 44 3 (.slice (some ⟨gg,0,none⟩) (E.length+1) cap) (E.length+1) (aS E++[.bool s2,.slice A2 k2 c2,.slice A1 ps.length c1])->(w7.alloc (.cells #[.bool s2,.slice A2 k2 c2,.slice A1 ps.length c1] 44)).grownBy w8 u5.ownBlock->(u5.ownBlock=some gg∨gg=w7.heap.size+1)->∃E2:List ax,E2.length=E.length+1∧jN wo w8 n (C+K+1) (.slice (some ⟨gg,0,none⟩) (E.length+1) cap) E2 (mulM (aP (L.take i)) (aP T)++mulM [(ps,aI s xs)] (aP (T.take (k+1))))):=fun w7 w8 s2 A2 k2 c2 ls gg cap hb h1 h2 h3 h4 h5 h6 h7 h8 h9=>by
           obtain rfl:=h4.len;have GJ:=oK.o.next (x:=(((A2,c2),(A1,c1)),((s2,ls),dI ps qs))) (o:=(.cells #[.bool s2,.slice A2 ls.length c2,.slice A1 ps.length c1] 44)) hb ⟨h1,h2,by show (dI ps qs).length<=c1;rw [sY];exact g1,g2,h4,by show Ints w7 A1 (dI ps qs).length (dI ps qs);rw [sY];exact Yv.o.aC hb⟩ hsl.o (by show ls.length<=C+K+1;omega)
            (fun h0 z hz e=>by have h10:=h6 h0 z hz;have Yx:=tV.o _ e;omega) (fun h0 z hz e=>aiy.o (by have h0':0<(dI ps qs).length:=h0;omega) z hz e)
            (by show w8.ownsRow _ _ _ _ _ (aS E++[.bool s2,.slice A2 ls.length c2,.slice A1 (dI ps qs).length c1]);rw [sY];exact h7) h8 h9 rfl
           refine ⟨E++[(((A2,c2),(A1,c1)),((s2,ls),dI ps qs))],by rw [eC];rfl,?_⟩;have e:bS ((s2,ls),dI ps qs)=(dI ps qs,aI s xs*aI s' ys):=by
            show (dI ps qs,aI s2 ls)=_;rw [h5.eq]
           rw [e,vD] at GJ;rw [aBl.o];exact GJ
          have HOW:=aA (fun W (hW:Below wj.heap.size wj W)=>cm oK.o.own hW);(have uq:Hid (∀(W:World) (ob:Obj),Below wj.heap.size wj W->wo.heap.size<=(W.alloc ob).heap.size):=fun W ob hW=>by have:=hW.size;have:=hwj.o.size;simp;omega);have QS:=aA (fun W (hW:Below wj.heap.size wj W)=>hwj.o.tm hW);have aMg:=Jv.o;have Su:=aA (fun j (h:u5.ownBlock=some j)=>tV.o j h);have a9:=a3;clear hO oK je E8 E9 F8 F9 a1 a2 a3 b1 b2' b3 aa bC Yv aiy gJ zM Jv;obtain ⟨a1,a2,a3,a4⟩:=Pu.o _ aU;(go_wp2_with fail);go_region_held3 (fun W=>W.cell? ⟨b,o+i*3,none⟩=some (.bool s)∧W.cell? ⟨b,o+i*3+1,none⟩=some (.slice Ai xs.length ci)∧W.cell? ⟨b2,o2+k*3,none⟩=some (.bool s')∧W.cell? ⟨b2,o2+k*3+1,none⟩=some (.slice Bi ys.length di))
           (first | go_keep | exact Pu.o _ aU.drew | exact Pu.o _ fe | exact Pu.o _ (fe.alloc fe.size _) | exact Fe.o _ CW)
           (first
             | (go_at_call 98;refine (Cm.o _ (by first | exact aU.drew | exact aU)).mono ?_;rintro e w7 ⟨s2,A2,k2,c2,ls,rfl,p1,p2,p3,p4,p5,pf,kO⟩;have fe:Below wj.heap.size wj w7:=(by first | exact aU.drew.trans kO | exact kO))
             | ((refine pN _ (by rfl) _ _ _ (by rfl) wo.heap.size 44 i0 _ 3 56 underlying22 rT jE jD jJ rfl (by omega) u5 E.length (aS E) (by rfl) ((HOW.o _ fe).alloc _) ⟨w7.heap.size,0,none⟩ 1 1 [.bool s2,.slice A2 k2 c2,.slice A1 ps.length c1] (by rfl) (by rfl) (gw (cs:=#[.bool s2,.slice A2 k2 c2,.slice A1 ps.length c1]) (t:=44) (fr:=(0,0)) (bM w7 _)) (by simp [Value.oneCell']) (Nat.one_pos) q1 q2 (uq.o _ _ fe) (w7.heap.size+1) (by simp) ?_);intro gg cap w8 fL aW gZ ou;have CW:Below wo.heap.size wo w8:=((QS.o _ fe).alloc (QS.o _ fe).size _).grown aW ((QS.o _ fe).alloc (QS.o _ fe).size _).size (fun j hj=>(Su.o j hj).1)))
          obtain ⟨E2,hE2,Rb⟩:=F.o w7 w8 s2 A2 k2 c2 ls gg cap fe p1 p2 p3 p4 p5 pf fL aW gZ
          have Yj:=aA Rb;(have hE3:Hid (E2.length<=i*mb+(k+1)):=by show _<=_;omega);clear Rb hE2 fL aW gZ ou CW fe kO p4 p5 pf F Cm Pu HOW uq QS a1 a2 a3 a4;(go_wp2_with fail);go_roundw
          case rel=>exact ⟨k+1,E2,by omega,by go_num,Yj,hE3⟩
          case measure=>simp [intOf];omega
     . obtain rfl:k=mb:=by omega
       (have aqp:¬(k:Int)<(k:Int):=by omega);have Rb:Hid (jN wo wt n (C+K+1) u5 E (mulM (aP (L.take (i+1))) (aP T))):=by
        have h:=hO.o;rw [show T.take k=T from iC (by rw [HT.o];exact aL)] at h;show jN _ _ _ _ _ _ _;rw [Rf.o];exact h
       have hE3:Hid (E.length<=(i+1)*k):=by
        have:=Jv.o;show _<=_;rw [bO,bN];exact this
       clear hO Jv;(go_wp2_with fail);go_roundw
       case rel=>exact ⟨i+1,E,by omega,by go_num,Rb,hE3⟩
       case measure=>simp [intOf];omega
  . obtain rfl:i=ma:=by omega
    have eR:L.take i=L:=iC (by rw [HL.o];omega);have oK:=hO.o;rw [eR] at oK;have NL:=Jv.o;obtain ⟨D,d,rfl,Cp⟩:=oK.o (by omega) (by omega) (by omega);have ZE:=aA Cp;have Hb:=aA oK.aC;(have dH:¬(i:Int)<(i:Int):=by omega);clear eR oK Cp hO;(go_wp2_with fail);refine ZE.o.mono ?_;intro e w9 h9;obtain ⟨A9,c9,T9,rfl,t1,t2,t3,t4,t5,t6⟩:=h9.from_ Hb.o;have F:Hid (oB wo n (mulM (aP L) (aP T)) (.returned (.slice A9 T9.length c9)) w9):=⟨A9,c9,T9,rfl,t1,t2,t3,t4,t5,t6⟩;clear h9 t3 t4 t5 t6;(go_wp2_with fail);go_ret;exact F.o
attribute [-go_sem] run_max_int2
attribute [local go_sem] BH
def XQ (n i:Nat) (hi:i<n) (A:Option Addr) (m c:Nat) (L:List TV) (w:World) (hx:iI w A m L) (hl:∀t∈L,t.2.length=n) (hb:∀t∈L,∀x∈t.2,0<=x∧x<=1000000000000) (hm:m<=2400000000000) (hn:n<=1000000):
 aB 94 #[.slice A m c,.int .i64 (i:Int)] w fun e w'=>e=.returned (.int .i64 (dgI i (aP L)))∧w'=w:=by
 have Hx:=aA hx;have HL:=aA hx.len;have Hl:=aA hl;have Hb:=aA hb;clear hx hl hb;go_enter func94,ntmps94
 obtain ⟨wo,rfl⟩:∃wo:World,wo=w:=⟨_,rfl⟩;go_wp2_with fail
 go_loopw [5,6] (fun v kk wr=>∃(k:Nat),k<=m∧v=.int .i64 (dgI i (aP (L.take k)))∧kk=.int .i64 (k:Int)∧wr=wo) (fun _ kk _=>m-(intOf kk).toNat)
 case atStart=>exact ⟨0,bL _,rfl,rfl,rfl⟩
 case round=>
  obtain ⟨k,hk,rfl,rfl,rfl⟩:=hrel;by_cases hlt:k<m
  . obtain ⟨b,o,rfl,hb,hc⟩:=Hx.o.at_ (by omega)
    (have th:k<L.length:=by rw [HL.o];exact hlt);obtain ⟨Ai,ci,Ei,ei,e1,e2,e3,e4,e5,e6,e7,e8,e9⟩:=hc k th;have tZ:=Hl.o _ (bR th);have qx:=Hb.o _ (bR th);have hs:Hid (dgI i (aP (L.take (k+1)))=max (dgI i (aP (L.take k))) (nth (L[k]).2 i)):=by
     show _=_;rw [kG th,eN];exact acy _ _
    clear hc e1 e2 e4 e5 e7 e8;generalize L[k]=x at*
    obtain ⟨⟨s,xs⟩,ps⟩:=x;(have dH:(k:Int)<(m:Int):=by omega);(have wT:(0:Int)<=(k:Int):=by omega);(have rT:(0:Int)<=(i:Int):=by omega);(have e3':wr.cell? ⟨b,o+k*3+2,none⟩=some (.slice Ei ps.length ei):=by have:=e3;rwa [aq 3 k] at this);have aKt:ps.length=n:=tZ;obtain ⟨be,oe,rfl,mN,hce⟩:=e9.at_ (show 0<ps.length by omega);have hci:=hce i (by omega);(have hil:(i:Int)<(ps.length:Int):=by omega);clear hce e9 tZ qx;(go_wp2_with fail);go_roundw
    case rel=>exact ⟨k+1,by omega,by rw [hs.o],by go_num,(by first | trivial | rfl)⟩
    case measure=>simp [intOf];omega
  . have dH:¬(k:Int)<(m:Int):=by omega
    have F:Hid (L.take k=L):=iC (by rw [HL.o];omega);(go_wp2_with fail);go_ret;exact ⟨by first | rfl | (rw [F.o];rfl) | rw [F.o],rfl⟩
def acH {L:List TV} (h:k<L.length):xg i z (aP (L.take (k+1)))=xg i z (aP (L.take k))++(if nth (L[k]).2 i=z then [((L[k]).2.set i 0,(bS L[k]).2)] else []):=by
 rw [kG h,eN];unfold xg;rw [Np,ij];congr 1
 show ((List.filter _ [bS L[k]]).map _)=_;by_cases e:nth (L[k]).2 i=z
 . rw [aM e,xx (by simpa [bS] using e)]
   rfl
 . rw [aY e,vw (by simpa [bS] using e)]
   rfl
def aeU (n C i:Nat) (hi:i<n) (y:Int) (A:Option Addr) (m c:Nat) (L:List TV) (w:World) (hx:iI w A m L) (hl:∀t∈L,t.2.length=n) (hb:∀t∈L,∀x∈t.2,0<=x∧x<=1000000000000) (hC:∀t∈L,t.1.2.length<=C) (hC1:C<=3800000000000) (hm:m<=1000000000000) (hn:n<=1000000):
 aB 95 #[.slice A m c,.int .i64 (i:Int),.int .i64 y] w (oB w n (xg i y (aP L))):=by
 obtain ⟨i0,rT,jE,jD,jJ⟩:=eG kH;obtain ⟨j0,hj,rz,xZ,Fk⟩:=eG pI;have Hx:=aA hx;have HL:=aA hx.len;have Hl:=aA hl;have Hb:=aA hb;have HC:=aA hC;clear hx hl hb hC;go_enter func95,ntmps95
 obtain ⟨wo,rfl⟩:∃wo:World,wo=w:=⟨_,rfl⟩;go_wp2_with fail
 go_loopw [7,8] (fun v kk wr=>∃(k:Nat) (E:List ax),k<=m∧kk=.int .i64 (k:Int)∧Hid (jN wo wr n C v E (xg i y (aP (L.take k))))∧E.length<=k) (fun _ kk _=>m-(intOf kk).toNat)
 case atStart=>exact ⟨0,[],by omega,rfl,jN.start _ _ _,aL⟩
 case round=>
  obtain ⟨k,E,hk,rfl,hO,Jv⟩:=hrel;obtain ⟨wt,rfl⟩:∃wt:World,wt=wr:=⟨_,rfl⟩;have hO1:=aA (fun j (h:u7.ownBlock=some j)=>hO.o.own.lt j h);by_cases hlt:k<m
  . obtain ⟨b,o,rfl,hb,hc⟩:=Hx.o.at_ (by omega)
    (have th:k<L.length:=by rw [HL.o];exact hlt);obtain ⟨Ai,ci,Ei,ei,e1,e2,e3,e4,e5,e6,e7,e8,e9⟩:=hc k th;have tZ:=Hl.o _ (bR th);have Ju:=HC.o _ (bR th);have qx:=Hb.o _ (bR th);have Rf:=aA (acH (i:=i) (z:=y) th);clear hc;generalize L[k]=x at*
    obtain ⟨⟨s,xs⟩,ps⟩:=x;simp only at e1 e2 e3 e4 e6 e8 e9 tZ Ju qx;have FJ:=aA tZ;rw [aq 3 k] at e1 e2 e3;rw [<- jb] at e2 e3;(have dH:(k:Int)<(m:Int):=by omega);(have wT:(0:Int)<=(k:Int):=by omega);(have aqH:(0:Int)<=(i:Int):=by omega);(have sZ:(i:Int)<(ps.length:Int):=by omega);obtain ⟨be,oe,rfl,mN,hce⟩:=e9.at_ (by omega);have QK:=hce i (by omega);have je:=aA hO.o.aC;have gJ:Hid (∀W,Below wo.heap.size wo W->W.cell? ⟨b,o+k*3,none⟩=some (.bool s)∧W.cell? ⟨b,o+k*3+1,none⟩=some (.slice Ai xs.length ci)∧W.cell? ⟨b,o+k*3+2,none⟩=some (.slice (some ⟨be,oe,none⟩) ps.length ei)∧W.cell? ⟨be,oe+i,none⟩=some (.int .i64 (nth ps i))):=fun W hW=>
     ⟨(hW.cell (p:=⟨b,o+k*3,none⟩) hb).trans e1,(hW.cell (p:=⟨b,o+k*3+1,none⟩) hb).trans e2,(hW.cell (p:=⟨b,o+k*3+2,none⟩) hb).trans e3,(hW.cell (p:=⟨be,oe+i,none⟩) mN).trans QK⟩
    have E8:=aA e8;have E9:=aA e9;have Hbd:=aA qx;obtain ⟨a1,a2,a3,a4⟩:=gJ.o _ je.o;clear e8 e9 e1 e2 e3 tZ hce QK qx;by_cases hyy:nth ps i=y
    . have Hyy:=aA hyy
      have hyb:(nth ps i==y)=true:=Qy.2 hyy;have hR:Hid (Reads wt wt.heap.size 1 (some ⟨be,oe,none⟩) ps.length (ints ps)):=(E9.o.aC je.o).reads;have zk:=aA E9.o.ok;(have q1:0+ps.length<=maxLen:=by have:=FJ.o;unfold maxLen;omega);(have q2:(0+ps.length)*8<=140737488355328:=by have:=FJ.o;omega);obtain ⟨b1,b2,b3,b4⟩:=gJ.o _ (je.o.alloc je.o.size (.cells #[] 3));clear hyy;(have r1:E.length+1<=maxLen:=by unfold maxLen;omega);(have r2:(E.length+1)*56<=140737488355328:=by omega);(go_wp2_with (at_builtin;first | (refine rG (w:=(w1.setCell ⟨ge,i,none⟩ (.int .i64 0)).alloc (.cells #[.bool s,.slice Ai xs.length ci,.slice (some ⟨ge,0,none⟩) ps.length ce] 44)) (by rfl) _ _ _ (by rfl) wo.heap.size 44 i0 _ 3 56 underlying22 rT jE jD jJ rfl (by omega) u7 E.length (aS E) (by rfl) ((cm hO.o.own cN).alloc _) ⟨w1.heap.size,0,none⟩ 1 1 [.bool s,.slice Ai xs.length ci,.slice (some ⟨ge,0,none⟩) ps.length ce] (by rfl) (by rfl) (gw (cs:=#[.bool s,.slice Ai xs.length ci,.slice (some ⟨ge,0,none⟩) ps.length ce]) (t:=44) (fr:=(0,0)) (by have h:=bM (w1.setCell ⟨ge,i,none⟩ (.int .i64 0)) (.cells #[.bool s,.slice Ai xs.length ci,.slice (some ⟨ge,0,none⟩) ps.length ce] 44);simpa using h)) (by simp [Value.oneCell']) Nat.one_pos r1 r2 (by have h1:=cN.size;have h2:=je.o.size;simp at h1 ⊢;omega) (w1.heap.size+1) (by simp) ?_;intro gg cap w8 fL S5 alW ou) | (refine bU (w:=wt.alloc (.cells #[] 3)) rfl _ _ 42 rfl wt.heap.size 3 j0 (.int .i64 0) 1 8 underlying42 hj rz xZ Fk rfl (by decide) _ 0 [] rfl (bA wt 3 aL) wt.heap.size (some ⟨be,oe,none⟩) ps.length ei (ints ps) rfl (hR.o.alloc aL _) (gi ps) q1 q2 (by simp) ?_;intro v' w1 aa aW gZ;rw [og,bh] at aa;have cZ:Below wt.heap.size wt w1:=((Below.refl _ wt).alloc aL _).grown aW (by simp) (fun k hk=>((bA wt 3 aL).lt k hk).1);obtain ⟨ge,ce,rfl,hgB,LP⟩:=aa.form (by omega);have hcell:w1.cell? ⟨ge,i,none⟩=some (.int .i64 (nth ps i)):=(by have h:=aa.cells (g:=ge) rfl i _ (qh (by omega));rw [j5,bh] at h;exact h);have EX:w1.frozen? ⟨ge,i,none⟩=false:=aa.frozenAt _;have cN:=cZ.setCell (p:=⟨ge,i,none⟩) hgB (.int .i64 0);obtain ⟨c1,c2,c3,c4⟩:=gJ.o _ (je.o.tm cN))));have hst:=(aa.stored i (.int .i64 0)).1;rw [ints_set] at hst;have wO:=js hst;have M0:∀j,DX (nth (ps.set i 0) j):=fun j=>by
       rw [gK (by omega)];split
       . constructor<;>omega
       . exact zk.o j
      have Yv:=Ints.ia hst M0;have xB:(ps.set i 0).length=ps.length:=fW;have oK:=hO.o.jX cN;have rF:=je.o.tm cN;have GJ:=oK.next (x:=(((Ai,ci),(some ⟨ge,0,none⟩,ce)),((s,xs),ps.set i 0))) (o:=(.cells #[.bool s,.slice Ai xs.length ci,.slice (some ⟨ge,0,none⟩) ps.length ce] 44)) (H:=w1.heap.size+1) aU ⟨e4,e5,by show (ps.set i 0).length<=ce;rw [xB];exact wO.1,wO.2,E8.o.aC rF,by show Ints _ _ (ps.set i 0).length _;rw [xB];exact Yv⟩ (by show (ps.set i 0).length=n;rw [xB];exact FJ.o) Ju
       (fun h0 z hz e=>by
         obtain ⟨b9,o9,hA9,alg,_⟩:=E8.o.at_ h0;rw [hA9] at hz;injection hz with hz
         subst hz;have:=(hO1.o _ e).1;have h8:b9<wo.heap.size:=alg;have h9:wo.heap.size<=b9:=this;omega)
       (fun h0 z hz e=>by injection hz with hz;subst hz;have Yx:=(hO1.o ge e).2;omega)
       (by show w8.ownsRow _ _ _ _ _ (aS E++[.bool s,.slice Ai xs.length ci,.slice (some ⟨ge,0,none⟩) (ps.set i 0).length ce]);rw [xB];exact fL) S5 alW (by simp)
      have Yj:Hid (jN wo w8 n C (.slice (some ⟨gg,0,none⟩) (E.length+1) cap) (E++[(((Ai,ci),(some ⟨ge,0,none⟩,ce)),((s,xs),ps.set i 0))]) (xg i y (aP (L.take (k+1))))):=by
       show jN _ _ _ _ _ _ _;rw [Rf.o,aM Hyy.o];exact GJ
      go_roundw
      case rel=>exact ⟨k+1,_,by omega,by go_num,Yj,by rw [eC];show E.length+1<=k+1;omega⟩
      case measure=>simp [intOf];omega
    . have hyb:(nth ps i==y)=false:=mD.2 hyy
      have Yj:Hid (jN wo wt n C u7 E (xg i y (aP (L.take (k+1))))):=by
       show jN _ _ _ _ _ _ _;rw [Rf.o,aY hyy,tI];exact hO.o
      clear hyy;(go_wp2_with fail);go_roundw
      case rel=>exact ⟨k+1,E,by omega,by go_num,Yj,by omega⟩
      case measure=>simp [intOf];omega
  . have eR:L.take k=L:=iC (by rw [HL.o];omega)
    have oK:=hO.o;rw [eR] at oK;obtain ⟨B,d,rfl,Cp⟩:=oK.o (by omega) (by omega) (by omega);have ZE:=aA Cp;have Hb:=aA oK.aC;(have dH:¬(k:Int)<(m:Int):=by omega);clear eR oK Cp hO;(go_wp2_with fail);refine ZE.o.mono ?_;intro e w9 h9;obtain ⟨A9,c9,T,rfl,t1,t2,t3,t4,t5,t6⟩:=h9.from_ Hb.o;have F:Hid (oB wo n (xg i y (aP L)) (.returned (.slice A9 T.length c9)) w9):=⟨A9,c9,T,rfl,t1,t2,t3,t4,t5,t6⟩;clear h9 t3 t4 t5 t6;(go_wp2_with fail);go_ret;exact F.o
def upT (i:Nat) (y:Int) (t:TV):TV:=(t.1,t.2.set i (nth t.2 i+y))
def akw (i:Nat) (y:Int) (L:List TV):aP (L.map (upT i y))=EB i y (aP L):=by
 unfold aP EB;rw [jl,jl];rfl
def aeA {y:Int} {L:List TV} (h:k<L.length):(L.take (k+1)).map (upT i y)=(L.take k).map (upT i y)++[upT i y L[k]]:=by
 rw [kG h,ij];rfl
def adT (w:World) (T:List TV) (e:Ending) (w':World):Prop:=
 ∃B d,e=.returned (.slice B T.length d)∧T.length<=d∧d<=9223372036854775807∧iI w' B T.length T∧Below w.heap.size w w'
def Zu {L:List TV} (h:k<L.length):EB i z (aP (L.take (k+1)))=EB i z (aP (L.take k))++[((L[k]).2.set i (nth (L[k]).2 i+z),(bS L[k]).2)]:=by
 rw [kG h,eN];unfold EB;rw [ij];rfl
def aoT (n C i:Nat) (hi:i<n) (y:Int) (xZ:0<=y∧y<=1000000000000) (A:Option Addr) (m c:Nat) (L:List TV) (w:World) (hx:iI w A m L) (hl:∀t∈L,t.2.length=n) (hb:∀t∈L,∀x∈t.2,0<=x∧x<=1000000000000) (hC:∀t∈L,t.1.2.length<=C) (hC1:C<=3800000000000) (hm:m<=1000000000000) (hn:n<=1000000):
 aB 97 #[.slice A m c,.int .i64 (i:Int),.int .i64 y] w (adT w (L.map (upT i y))):=by
 obtain ⟨i0,rT,jE,jD,jJ⟩:=eG kH;obtain ⟨j0,hj,rz,xZ,Fk⟩:=eG pI;have Hx:=aA hx;have HL:=aA hx.len;have Hl:=aA hl;have Hb:=aA hb;have HC:=aA hC;clear hx hl hb hC;go_enter func97,ntmps97
 obtain ⟨wo,rfl⟩:∃wo:World,wo=w:=⟨_,rfl⟩;go_wp2_with fail
 go_loopw [7,8] (fun v kk wr=>∃(k:Nat) (E:List ax),k<=m∧kk=.int .i64 (k:Int)∧Hid (jN wo wr n C v E (EB i y (aP (L.take k))))∧E.length<=k∧Hid (E.map (·.2)=(L.take k).map (upT i y))) (fun _ kk _=>m-(intOf kk).toNat)
 case atStart=>exact ⟨0,[],by omega,rfl,jN.start _ _ _,aL,rfl⟩
 case round=>
  obtain ⟨k,E,hk,rfl,hO,Jv,hEq⟩:=hrel;obtain ⟨wt,rfl⟩:∃wt:World,wt=wr:=⟨_,rfl⟩;have hO1:=aA (fun j (h:u7.ownBlock=some j)=>hO.o.own.lt j h);by_cases hlt:k<m
  . obtain ⟨b,o,rfl,hb,hc⟩:=Hx.o.at_ (by omega)
    (have th:k<L.length:=by rw [HL.o];exact hlt);obtain ⟨Ai,ci,Ei,ei,e1,e2,e3,e4,e5,e6,e7,e8,e9⟩:=hc k th;have tZ:=Hl.o _ (bR th);have Ju:=HC.o _ (bR th);have qx:=Hb.o _ (bR th);have Rf:=aA (Zu (i:=i) (z:=y) th);have Htm:=aA (aeA (i:=i) (y:=y) th);clear hc;generalize L[k]=x at*
    obtain ⟨⟨s,xs⟩,ps⟩:=x;simp only at e1 e2 e3 e4 e6 e8 e9 tZ Ju qx;have FJ:=aA tZ;rw [aq 3 k] at e1 e2 e3;rw [<- jb] at e2 e3;(have dH:(k:Int)<(m:Int):=by omega);(have wT:(0:Int)<=(k:Int):=by omega);(have aqH:(0:Int)<=(i:Int):=by omega);(have sZ:(i:Int)<(ps.length:Int):=by omega);obtain ⟨be,oe,rfl,mN,hce⟩:=e9.at_ (by omega);have QK:=hce i (by omega);have je:=aA hO.o.aC;have gJ:Hid (∀W,Below wo.heap.size wo W->W.cell? ⟨b,o+k*3,none⟩=some (.bool s)∧W.cell? ⟨b,o+k*3+1,none⟩=some (.slice Ai xs.length ci)∧W.cell? ⟨b,o+k*3+2,none⟩=some (.slice (some ⟨be,oe,none⟩) ps.length ei)∧W.cell? ⟨be,oe+i,none⟩=some (.int .i64 (nth ps i))):=fun W hW=>
     ⟨(hW.cell (p:=⟨b,o+k*3,none⟩) hb).trans e1,(hW.cell (p:=⟨b,o+k*3+1,none⟩) hb).trans e2,(hW.cell (p:=⟨b,o+k*3+2,none⟩) hb).trans e3,(hW.cell (p:=⟨be,oe+i,none⟩) mN).trans QK⟩
    have E8:=aA e8;have E9:=aA e9;have Hbd:=aA qx;obtain ⟨a1,a2,a3,a4⟩:=gJ.o _ je.o;clear e8 e9 e1 e2 e3 tZ hce QK qx;have Hpi:=aA (Hbd.o _ (gL (xs:=ps) (i:=i) (by omega)));have ew:IntKind.i64.wrap (nth ps i+y)=nth ps i+y:=bP _ (by have:=Hpi.o;omega);have hR:Hid (Reads wt wt.heap.size 1 (some ⟨be,oe,none⟩) ps.length (ints ps)):=(E9.o.aC je.o).reads;have zk:=aA E9.o.ok;(have q1:0+ps.length<=maxLen:=by have:=FJ.o;unfold maxLen;omega);(have q2:(0+ps.length)*8<=140737488355328:=by have:=FJ.o;omega);obtain ⟨b1,b2,b3,b4⟩:=gJ.o _ (je.o.alloc je.o.size (.cells #[] 3));(have r1:E.length+1<=maxLen:=by unfold maxLen;omega);(have r2:(E.length+1)*56<=140737488355328:=by omega);(go_wp2_with (at_builtin;first | (refine rG (w:=(w1.setCell ⟨ge,i,none⟩ (.int .i64 (nth ps i+y))).alloc (.cells #[.bool s,.slice Ai xs.length ci,.slice (some ⟨ge,0,none⟩) ps.length ce] 44)) (by rfl) _ _ _ (by rfl) wo.heap.size 44 i0 _ 3 56 underlying22 rT jE jD jJ rfl (by omega) u7 E.length (aS E) (by rfl) ((cm hO.o.own cN).alloc _) ⟨w1.heap.size,0,none⟩ 1 1 [.bool s,.slice Ai xs.length ci,.slice (some ⟨ge,0,none⟩) ps.length ce] (by rfl) (by rfl) (gw (cs:=#[.bool s,.slice Ai xs.length ci,.slice (some ⟨ge,0,none⟩) ps.length ce]) (t:=44) (fr:=(0,0)) (by have h:=bM (w1.setCell ⟨ge,i,none⟩ (.int .i64 (nth ps i+y))) (.cells #[.bool s,.slice Ai xs.length ci,.slice (some ⟨ge,0,none⟩) ps.length ce] 44);simpa using h)) (by simp [Value.oneCell']) Nat.one_pos r1 r2 (by have h1:=cN.size;have h2:=je.o.size;simp at h1 ⊢;omega) (w1.heap.size+1) (by simp) ?_;intro gg cap w8 fL S5 alW ou) | (refine bU (w:=wt.alloc (.cells #[] 3)) rfl _ _ 42 rfl wt.heap.size 3 j0 (.int .i64 0) 1 8 underlying42 hj rz xZ Fk rfl (by decide) _ 0 [] rfl (bA wt 3 aL) wt.heap.size (some ⟨be,oe,none⟩) ps.length ei (ints ps) rfl (hR.o.alloc aL _) (gi ps) q1 q2 (by simp) ?_;intro v' w1 aa aW gZ;rw [og,bh] at aa;have cZ:Below wt.heap.size wt w1:=((Below.refl _ wt).alloc aL _).grown aW (by simp) (fun k hk=>((bA wt 3 aL).lt k hk).1);obtain ⟨ge,ce,rfl,hgB,LP⟩:=aa.form (by omega);have hcell:w1.cell? ⟨ge,i,none⟩=some (.int .i64 (nth ps i)):=(by have h:=aa.cells (g:=ge) rfl i _ (qh (by omega));rw [j5,bh] at h;exact h);have EX:w1.frozen? ⟨ge,i,none⟩=false:=aa.frozenAt _;have cN:=cZ.setCell (p:=⟨ge,i,none⟩) hgB (.int .i64 (nth ps i+y));obtain ⟨c1,c2,c3,c4⟩:=gJ.o _ (je.o.tm cN))));have hst:=(aa.stored i (.int .i64 (nth ps i+y))).1;rw [ints_set] at hst;have wO:=js hst;have M0:∀j,DX (nth (ps.set i (nth ps i+y)) j):=fun j=>by
     rw [gK (by omega)];split
     . have:=Hpi.o;constructor<;>omega
     . exact zk.o j
    have Yv:=Ints.ia hst M0;have xB:(ps.set i (nth ps i+y)).length=ps.length:=fW;have oK:=hO.o.jX cN;have rF:=je.o.tm cN;have GJ:=oK.next (x:=(((Ai,ci),(some ⟨ge,0,none⟩,ce)),((s,xs),ps.set i (nth ps i+y)))) (o:=(.cells #[.bool s,.slice Ai xs.length ci,.slice (some ⟨ge,0,none⟩) ps.length ce] 44)) (H:=w1.heap.size+1) aU ⟨e4,e5,by show (ps.set i (nth ps i+y)).length<=ce;rw [xB];exact wO.1,wO.2,E8.o.aC rF,by show Ints _ _ (ps.set i (nth ps i+y)).length _;rw [xB];exact Yv⟩ (by show (ps.set i (nth ps i+y)).length=n;rw [xB];exact FJ.o) Ju
     (fun h0 z hz e=>by
       obtain ⟨b9,o9,hA9,alg,_⟩:=E8.o.at_ h0;rw [hA9] at hz;injection hz with hz
       subst hz;have:=(hO1.o _ e).1;have h8:b9<wo.heap.size:=alg;have h9:wo.heap.size<=b9:=this;omega)
     (fun h0 z hz e=>by injection hz with hz;subst hz;have Yx:=(hO1.o ge e).2;omega)
     (by show w8.ownsRow _ _ _ _ _ (aS E++[.bool s,.slice Ai xs.length ci,.slice (some ⟨ge,0,none⟩) (ps.set i (nth ps i+y)).length ce]);rw [xB];exact fL) S5 alW (by simp)
    have Yj:Hid (jN wo w8 n C (.slice (some ⟨gg,0,none⟩) (E.length+1) cap) (E++[(((Ai,ci),(some ⟨ge,0,none⟩,ce)),((s,xs),ps.set i (nth ps i+y)))]) (EB i y (aP (L.take (k+1))))):=by
     show jN _ _ _ _ _ _ _;rw [Rf.o];exact GJ
    have HQ3:Hid ((E++[(((Ai,ci),(some (⟨ge,0,none⟩:Addr),ce)),((s,xs),ps.set i (nth ps i+y)))]).map (·.2)=(L.take (k+1)).map (upT i y)):=by
     show _=_;rw [ij,hEq.o,Htm.o];rfl
    go_roundw
    case rel=>exact ⟨k+1,_,by omega,by go_num,Yj,by rw [eC];show E.length+1<=k+1;omega,HQ3⟩
    case measure=>simp [intOf];omega
  . have eR:L.take k=L:=iC (by rw [HL.o];omega)
    have oK:=hO.o;rw [eR] at oK;obtain ⟨B,d,rfl,z1,z2,z3⟩:=jK oK.own rfl oK.ok;have hQ:=hEq.o;rw [eR] at hQ;(have hEL:E.length=(L.map (upT i y)).length:=by rw [<- hQ,dJ]);rw [hQ,hEL] at z3;have F:Hid (adT wo (L.map (upT i y)) (.returned (.slice B E.length d)) wt):=⟨B,d,by rw [hEL],by rw [<- hEL];exact z1,z2,z3,oK.aC⟩;(have dH:¬(k:Int)<(m:Int):=by omega);clear eR oK hO z3 hQ hEL hEq;(go_wp2_with fail);go_ret;exact F.o
open aF
def N1 (w:World) (i m:Nat) (g:Pn m) (e:Ending) (w':World):Prop:=
 ∃g':Pn m,(g'=g∨g'= -g)∧iV g'∧∃A c T,e=.returned (.slice A T.length c)∧T.length<=c∧c<=9223372036854775807∧iI w' A T.length T∧eH (i+m) T∧aP T=gj i m g'∧Below w.heap.size w w'
def YD {i m:Nat} {g:Pn m} {x:TV} {R:List TV}(hP:eH (i+m) (x::R)) (e:aP (x::R)=gj i m g):(x.1.1=false->iV g)∧(x.1.1=true->iV (-g)):=by
 have hz:aI x.1.1 x.1.2≠0:=hP.mv.ne (bS x) aV;cases hp:iy m g with
 | nil=>unfold gj at e;rw [hp] at e;cases e
 | cons t L=>
   unfold gj at e;rw [hp] at e;have e1:aI x.1.1 x.1.2=t.2:=dh Prod.snd (mF e).1;constructor
   . intro h t' L' h'
     rw [hp] at h';rw [<-(mF h').1,<- e1];rw [h] at hz ⊢;(have:aI false x.1.2=(limbs x.1.2:Int):=by simp [aI]);omega
   . intro h t' L' h'
     rw [yR,hp] at h';rw [<-(mF h').1];show 0< -t.2;rw [<- e1];rw [h] at hz ⊢;(have:aI true x.1.2= -(limbs x.1.2:Int):=by simp [aI]);omega
def Zl (C i m:Nat) (hn:i+m<=6) (A:Option Addr) (c:Nat) (T:List TV) (g:Pn m) (w:World) (hx:iI w A T.length T) (WB:T.length<=c) (NH:c<=9223372036854775807) (hP:eH (i+m) T) (e:aP T=gj i m g) (hC:∀t∈T,t.1.2.length<=C) (hC1:C<=3700000000000) (hm:T.length<=1000000000000):
 aB 58 #[.slice A T.length c] w (N1 w i m g):=by
 have F0:Hid (iV g->N1 w i m g (.returned (.slice A T.length c)) w):=fun h=>⟨g,.inl rfl,h,A,c,T,rfl,WB,NH,hx,hP,e,aU⟩;have S:Hid (∀W,Below w.heap.size w W->∀s B k d zs,aD W B k zs->k<=1->k<=d->d<=9223372036854775807->aI s zs= -1->aB 91 #[.slice A T.length c,.agg #[.bool s,.slice B k d]] W (oB W (i+m) (fS (-1) (aP T)))):=fun W hW s B k d zs h1 h2 h3 h4 h5=>by
  have h:=H8 (i+m) C 1 A T.length c T s B k d zs W (hx.aC hW) (fun t ht=>hP.mv.len (bS t) (af.2 ⟨t,ht,rfl⟩)) hC h1 h2 h3 h4 (by omega) (by omega) (by omega);rwa [h5] at h
 have Ee:=aA e;by_cases h0:T.length=0
 . have hT:=lK h0
   have hg:g=0:=xH.1 (by rw [<- e,hT];rfl);have F:=aA (F0.o (fun t L h=>by rw [hg,jT.2 rfl] at h;cases h));have hl:¬(0:Int)<(T.length:Int):=by omega
   clear hx e hP hC F0 S hT hg h0;go_enter func58,ntmps58
   go_wp2_with fail
   go_ret;exact F.o
 . have hl:(0:Int)<(T.length:Int):=by omega
   have sX:0<T.length:=uS h0;obtain ⟨b,o,hA,hb,hc⟩:=hx.at_ (by omega);subst hA;obtain ⟨Ai,ci,Ei,ei,z1,_⟩:=hc 0 sX;have KF:((T[0]'sX).1.1=false->iV g)∧((T[0]'sX).1.1=true->iV (-g)):=by
    match T,hP,e,sX with
    | x::R,hP,e,_=>exact YD hP e
   have Hs:=aA KF;have z2:w.cell? ⟨b,o,none⟩=some (.bool (T[0]'sX).1.1):=z1;clear z1 hc KF hx e hP hC h0;generalize (T[0]'sX).1.1=s at*
   cases s with
   | false=>
     have F:=aA (F0.o (Hs.o.1 rfl));clear F0 S Hs;(go_enter func58,ntmps58);(go_wp2_with fail);go_ret;exact F.o
   | true=>
     have PN:=aA (Hs.o.2 rfl);clear F0 Hs;(go_enter func58,ntmps58);obtain ⟨wo,rfl⟩:∃wo:World,wo=w:=⟨_,rfl⟩;(go_wp2_with fail);refine (Zi wo).mono ?_;rintro e w1 ⟨s3,A3,k3,c3,l3,rfl,o1,o2,o3,o4,o5,o6⟩;have Cs:=aA (S.o w1 o6 s3 A3 k3 c3 l3 o4 o3 o1 o2 o5.eq);have B1:=aA o6;clear o4 o5 o6 S;(go_wp2_with fail);refine Cs.o.mono ?_;rintro e w2 ⟨A4,c4,T4,rfl,t1,t2,t3,t4,t5,t6⟩;have F:Hid (N1 wo i m g (.returned (.slice A4 T4.length c4)) w2):=⟨-g,.inr rfl,PN.o,A4,c4,T4,rfl,t1,t2,t3,t4,Ot t4.mv (by rw [<- Ee.o];exact t5),B1.o.tm t6⟩;clear t3 t4 t5 t6;(go_wp2_with fail);go_ret;exact F.o
def N2 (w:World) (n:Nat) (Q:Mv) (e:Ending) (w':World):Prop:=
 ∃A c T,e=.returned (.tuple #[.slice A T.length c,.bool true])∧T.length<=c∧c<=9223372036854775807∧iI w' A T.length T∧eH n T∧jI n (aP T) Q∧Below w.heap.size w w'
def Qm (h:Below B w0 w) (hg:B<=g) (u v:Value):Below B w0 ((w.setCell ⟨g,0,none⟩ u).setCell ⟨g,1,none⟩ v):=(h.setCell (p:=⟨g,0,none⟩) hg _).setCell (p:=⟨g,1,none⟩) hg _
def VC {ps:fI}(h0:w.cell? ⟨g,0,none⟩=some (.bool s)) (h1:w.cell? ⟨g,1,none⟩=some (.slice A ls.length c)) (h2:w.cell? ⟨g,2,none⟩=some (.slice E ps.length d)) (hg:g<w.heap.size)
 (k1:ls.length<=c) (k2:c<=9223372036854775807) (k3:ps.length<=d) (k4:d<=9223372036854775807) (hL:aD w A ls.length ls) (hE:Ints w E ps.length ps):iI w (some ⟨g,0,none⟩) 1 [((s,ls),ps)]:=
 ⟨rfl,fun _=>⟨g,0,rfl,hg,fun i hi=>by
   have V6:i<1:=hi;obtain rfl:i=0:=by omega
   exact ⟨A,c,E,d,h0,h1,h2,k1,k2,k3,k4,hL,hE⟩⟩⟩
def qP {F:Nat} {R:List TV}(h:eH n R) (hF:∀t∈aP R,t.2.natAbs<=F) (hK:F<2^(64*K)):∀t∈R,t.1.2.length<=K:=fun t ht=>
 (h.co t ht).cap (aR (hF (bS t) (af.2 ⟨t,ht,rfl⟩)) hK)
def uC {R:List TV}(h:eH n R):∀t∈aP R,t.2.natAbs<=bJ (aP R):=fun t ht=>h.mv.small (jI.refl n _) ht
def aeV (n K1 K2:Nat) (A B:Option Addr) (ma ca mb cb:Nat) (L T:List TV) (Q P':Mv) (pl:fI) (cl:Int) (w:World)
 (hx:iI w A ma L) (hy:iI w B mb T) (hL:eH n L) (hT:eH n T) (hTe:aP T=(pl,cl)::P')
 (hQ:av n Q) (hE:jI n (aP L) (mulM Q (aP T))) (hQb:Dj 1000000000000 Q) (hTb:Dj 1000000000000 (aP T)) (hq:Q.length*mb<=1000000000000) (hq1:Q.length<=1000000000000) (hmb:mb<=1000000000000)
 (hK1:bJ Q<2^(64*K1)) (hK2:bJ (aP T)<2^(64*K2)) (hK:K1+K2<=3700000000000) (hn:n<=6):
 aB 96 #[.slice A ma ca,.slice B mb cb] w (N2 w n Q):=by
 obtain ⟨i0,rT,jE,jD,jJ⟩:=eG kH;obtain ⟨j0,hj,rz,xZ,Fk⟩:=eG pI;have TL:0<T.length:=by
  rcases jM T.length with h | h
  . rw [lK h] at hTe;cases hTe
  . exact h
 have hlp:bS T[0]=(pl,cl):=by
  match T,hTe with
  | y::T,e=>exact (mF e).1
 have abx:=hT.mv.len _ (af.2 ⟨_,bR TL,rfl⟩);have QE:ma=L.length:=hx.len.symm;have axM:mb=T.length:=hy.len.symm;have aJY:0<mb:=by omega
 subst QE;obtain ⟨bb,ob,rfl,I4,hcb⟩:=hy.at_ (by omega);obtain ⟨Bi,di,Fi,fi,f1,f2,f3,f4,f5,f6,f7,f8,f9⟩:=hcb 0 TL;have hTC:=qP hT (uC hT) hK2;have awN:=hTC _ (bR TL);have hqb:∀x∈T[0].2,0<=x∧x<=1000000000000:=hTb (bS T[0]) (af.2 ⟨_,bR TL,rfl⟩);have hlT:∀t∈T,t.2.length=n:=fun t ht=>hT.mv.len (bS t) (af.2 ⟨t,ht,rfl⟩);have hTP:av n ((pl,cl)::P'):=by rw [<- hTe];exact hT.mv
 have aqY:cl≠0:=hTP.ne (pl,cl) aV;clear hcb;generalize T[0]=y at*
 obtain ⟨⟨sb,ys⟩,qs⟩:=y;obtain ⟨rfl,rfl⟩:qs=pl∧aI sb ys=cl:=by injection hlp with e1 e2;exact ⟨e1,e2⟩
 simp only [jZ,ja,bh] at f1 f2 f3 f4 f6 f8 f9 awN hqb abx;have Sx:qs.length=n:=abx;have apw:0<limbs ys:=by
  rcases jM (limbs ys) with h | h
  . exfalso
    apply aqY;unfold aI;cases sb<;>simp [h]
  . exact h
 have zM:Hid (∀V,Below w.heap.size w V->V.cell? ⟨bb,ob,none⟩=some (.bool sb)∧V.cell? ⟨bb,ob+1,none⟩=some (.slice Bi ys.length di)∧V.cell? ⟨bb,ob+2,none⟩=some (.slice Fi qs.length fi)):=fun V hV=>
  ⟨(hV.cell (p:=⟨bb,ob,none⟩) I4).trans f1,(hV.cell (p:=⟨bb,ob+1,none⟩) I4).trans f2,(hV.cell (p:=⟨bb,ob+2,none⟩) I4).trans f3⟩
 have F8:=aA f8;have F9:=aA f9;have Hy:=aA hy;have HTP:=aA hTP;have HTe:=aA hTe;have HQ:=aA hQ;have HQb:=aA hQb;have HTa:=aA hK2;have HQa:=aA hK1;have HE:=aA hE;have HTm:=aA hT.mv.len;have HlT:=aA hlT;have HTC:=aA hTC;have HTb:Hid (∀t∈T,∀x∈t.2,0<=x∧x<=1000000000000):=fun t ht x hx=>hTb (bS t) (af.2 ⟨t,ht,rfl⟩) x hx;have Hqb:=aA hqb;have Hlq:=aA Sx;have aBf:=aA apw;have hS0:Hid (RN n Q (aP T) 0 (aP L)):=RN.start hE;have hLP:=aA hL;have apL:Hid (∀V,Only (fun k=>(Value.slice none 0 0).ownBlock=some k) w V->iI V A L.length L):=fun V hV=>hx.aC (hV.below aL (fun k hk=>by cases hk));clear hx hy hL hT hE hTP hTe hTC hTb hQ hQb hK1 hK2 f1 f2 f3 f8 f9 abx hlp apw hlT hqb Sx TL axM;go_enter func96,ntmps96
 obtain ⟨wo,rfl⟩:∃wo:World,wo=w:=⟨_,rfl⟩;go_wp2_with fail
 go_loopg [6,7] (Q.length+1) (fun gk v6 v7 wr=>∃(Ar:Option Addr) (cr:Nat) (R:List TV) (k:Nat) (E:List ax),k<=Q.length∧Q.length-k<gk∧v6=.slice Ar R.length cr∧Hid (E.length=k)∧Hid (∀V,Only (fun k=>v7.ownBlock=some k) wr V->iI V Ar R.length R)∧Hid (eH n R)∧Hid (RN n Q (aP T) k (aP R))∧Hid (jN wo wr n K1 v7 E (Q.take k)))
 case atStart=>exact ⟨A,ca,L,0,[],bL _,xy _,rfl,rfl,apL,hLP,hS0,jN.start _ _ _⟩
 case round=>
  clear apL hLP hS0;obtain ⟨Ar,cr,R,kq,E,hQC,OE,rfl,Jv,ama,YK,hSt,hO⟩:=hrel;obtain ⟨wp,rfl⟩:∃wp:World,wp=wr:=⟨_,rfl⟩;have hRC:R.length<=1000000000000:=by
   have h:=YK.o.mv.count hSt.o.eq;rw [au,FU,au,xw] at h;have h2:=Hy.o.len;have h3:(Q.length-kq)*T.length<=Q.length*mb:=ct (Nat.sub_le _ _) (by omega);omega
  have hRa:bJ (aP R)<=bJ Q*bJ (aP T):=by
   have hld:eW n (Q.drop kq):=fun t ht=>HQ.o.len t (vu ht);refine aG (YK.o.mv.Tv hSt.o.eq (hld.mul HTm.o)) ?_;rw [Qu];exact bG _ (Lq _ _)
  have hRK:bJ (aP R)<2^(64*(K1+K2)):=by
   refine aR hRa ?_;rw [ak,iD];exact Lu HQa.o HTa.o
  have HRK:=aA hRK;clear hRa hRK;by_cases h0:0<R.length
  . have hRt:=ama.o wp (Only.refl _ _)
    obtain ⟨b,o,rfl,hb,hc⟩:=hRt.at_ h0;obtain ⟨Ai,ci,Ei,ei,e1,e2,e3,e4,e5,e6,e7,e8,e9⟩:=hc 0 h0;have awP:=qP YK.o (uC YK.o) HRK.o _ (bR h0);obtain ⟨sp,z,S1,zP,hk3,hstep⟩:∃sp z,kq<Q.length∧Q.drop kq=(sp,z)::Q.drop (kq+1)∧bS (R[0])=(dI sp qs,z*aI sb ys)∧RN n Q (aP T) (kq+1) (aP R++mulM [(sp, -z)] (aP T)):=by
     match R,YK.o,hSt.o,h0 with
     | x::R,hp,hst,_=>
       have h1:av n (bS x::aP R):=hp.mv;(have h2:RN n Q ((qs,aI sb ys)::P') kq (bS x::aP R):=by rw [<- HTe.o];exact hst);rw [HTe.o];exact h2.lead h1 HQ.o HTP.o
    have hsQ:(sp,z)∈Q:=vu (zP ▸ aV);have apM:=HQb.o _ hsQ;have X8:sp.length=n:=HQ.o.len _ hsQ;have hQk:Hid (Q.take (kq+1)=Q.take kq++[(sp,z)]):=by
     have e:=xm S1;rw [zP] at e;show _=_;rw [kG S1,(mF e).1]
    have hzF:z.natAbs<=bJ Q:=Qr hsQ;clear hc hRt;generalize R[0]=x at*
    obtain ⟨⟨s,xs⟩,ps⟩:=x;(obtain ⟨rfl,hxz⟩:ps=dI sp qs∧aI s xs=z*aI sb ys:=by injection hk3 with u1 u2;exact ⟨u1,u2⟩);simp only [jZ,ja,bh] at e1 e2 e3 e4 e6 e8 e9 awP;obtain ⟨ps,hps⟩:∃ps,dI sp qs=ps:=⟨_,rfl⟩;rw [hps] at e3 e6 e9;(have hlp:ps.length=n:=by rw [<- hps];exact kF X8 Hlq.o);have aqc:∀j,j<ps.length->nth ps j=nth sp j+nth qs j:=fun j hj=>by
     have e2:(dI sp qs)[j]'(by rw [hps];exact hj)=sp[j]'(by omega)+qs[j]'(by have:=Hlq.o;omega):=ado;rw [fV hj,fV (by omega:j<sp.length),fV (by have:=Hlq.o;omega:j<qs.length),<- e2];simp only [hps]
    have aBx:=aA aqc;have Hps:=aA hps;have Hlp:=aA hlp;have ahq:=aA X8;have ang:=aA apM;have aBm:=aA hstep;have HzF:=aA hzF;have Hxz:=aA hxz;have Hk1:=aA S1;have E8:=aA e8;have E9:=aA e9;have tV:=aA (fun j (h:u7.ownBlock=some j)=>hO.o.own.lt j h);have qp:=aA hO.o.aC;(have hR0:(0:Int)<(R.length:Int):=by omega);(have aJZ:(0:Int)<(mb:Int):=by omega);have hRs:=hRC;have gJ:Hid (∀V,Below wp.heap.size wp V->V.cell? ⟨b,o,none⟩=some (.bool s)∧V.cell? ⟨b,o+1,none⟩=some (.slice Ai xs.length ci)∧V.cell? ⟨b,o+2,none⟩=some (.slice Ei ps.length ei)∧V.cell? ⟨bb,ob,none⟩=some (.bool sb)∧V.cell? ⟨bb,ob+1,none⟩=some (.slice Bi ys.length di)∧V.cell? ⟨bb,ob+2,none⟩=some (.slice Fi qs.length fi)):=fun V hV=>
     have k:=zM.o V (qp.o.tm hV)
     ⟨(hV.cell (p:=⟨b,o,none⟩) hb).trans e1,(hV.cell (p:=⟨b,o+1,none⟩) hb).trans e2,(hV.cell (p:=⟨b,o+2,none⟩) hb).trans e3,k.1,k.2.1,k.2.2⟩
    have Ce:Hid (∀V,Below wp.heap.size wp V->aB 75 #[.agg #[.bool s,.slice Ai xs.length ci],.agg #[.bool sb,.slice Bi ys.length di]] V (fun e V'=>∃s1 A1 k1 c1 l1,e=.returned (.tuple #[.agg #[.bool s1,.slice A1 k1 c1],.int .i64 0])∧k1<=c1∧c1<=9223372036854775807∧aD V' A1 k1 l1∧dN s1 l1 z∧(0<k1->∀y,A1=some y->V.heap.size<=y.block)∧Below V.heap.size V V')):=fun V hV=>by
     refine (Oz s sb Ai Bi xs.length ys.length ci di xs ys V (E8.o.aC hV) (F8.o.aC (qp.o.tm hV)) e4 e5 f4 f5 (by omega) (by omega) aBf.o).mono ?_;rintro e V' ⟨s1,A1,k1,c1,l1,h1,_,h2,h3,h4,h5,h6,h7⟩;(have hm:aI s xs % aI sb ys=0:=by rw [Hxz.o];exact Int.mul_emod_left _ _);(have WA:aI s xs / aI sb ys=z:=by rw [Hxz.o];exact Uh _ aqY);rw [aM hm] at h1;exact ⟨s1,A1,k1,c1,l1,h1,h2,h3,h4,by rw [<- WA];exact h5 hm,h6,h7⟩
    clear e1 e2 e3 e8 e9 hlp X8 apM hstep hzF hxz aqc S1 zP hk3 hsQ hps;obtain ⟨a1,a2,a3,a4,a5,a6⟩:=gJ.o _ aU;(go_wp2_with fail);go_cut [8,9] (fun s8 s9 wx=>∃(gd:Nat) (s1:Bool) (A1:Option Addr) (k1 c1:Nat) (l1:List Int),s8=.pointer (some ⟨gd,0,none⟩)∧s9=.int .i64 0∧wp.heap.size<=gd∧Hid (Duo wx gd (.bool s1) (.slice A1 k1 c1))∧k1<=c1∧c1<=9223372036854775807∧Hid (aD wx A1 k1 l1)∧Hid (dN s1 l1 z)∧Hid (0<k1->∀y,A1=some y->wp.heap.size<=y.block)∧Hid (Below wp.heap.size wp wx))
    case first=>
     go_region_held3 (fun V=>V.cell? ⟨b,o,none⟩=some (.bool s)∧V.cell? ⟨b,o+1,none⟩=some (.slice Ai xs.length ci)∧V.cell? ⟨b,o+2,none⟩=some (.slice Ei ps.length ei)∧V.cell? ⟨bb,ob,none⟩=some (.bool sb)∧V.cell? ⟨bb,ob+1,none⟩=some (.slice Bi ys.length di)∧V.cell? ⟨bb,ob+2,none⟩=some (.slice Fi qs.length fi))
      (first | go_keep | exact gJ.o _ aU.drew | exact gJ.o _ (aU.alloc aL _).drew | exact gJ.o _ mN | exact gJ.o _ (mN.alloc mN.size _) | exact gJ.o _ (Qm mN aL _ _))
      (first | (go_at_call 75;refine (Ce.o _ (by first | exact aU.drew | exact (aU.alloc aL _).drew)).mono ?_;rintro e we ⟨s1,A1,GZ,rP,l1,rfl,z2,z3,z4,z5,z6,se⟩;have mN:Below wp.heap.size wp we:=(by first | exact aU.drew.trans se | exact (aU.alloc aL _).drew.trans (se.mono (by simp)));(first | (have tD:=(Duo.new wp (.bool false) (.slice none 0 0));have tE:=Duo.aC (w:=(World.alloc wp _).drew) tD se;have u0:=tE.cell0;have u1:=tE.cell1;have v0:=tE.frozen 0;have v1:=tE.frozen 1) | skip)))
     all_goals
      (go_wp2_with fail);go_meet
      first
       | exact ⟨wp.heap.size,s1,A1,GZ,rP,l1,rfl,rfl,aL,tE.set _ _,z2,z3,tE.limbs _ _ rfl rfl z4,z5,(fun h0 y hy=>by first | exact z6 h0 y hy | (have h:=z6 h0 y hy;simp at h;omega)),Qm mN aL _ _⟩
       | exact ⟨we.heap.size,s1,A1,GZ,rP,l1,rfl,rfl,mN.size,Duo.new we _ _,z2,z3,z4.alloc _,z5,(fun h0 y hy=>by first | exact z6 h0 y hy | (have h:=z6 h0 y hy;simp at h;omega)),mN.alloc mN.size _⟩
    case rest=>
     obtain ⟨gd,s1,A1,k1,d1,l1,rfl,rfl,hgd,hDd,p2,p3,hLd,hZd,hFd,YO⟩:=hcut;obtain ⟨w7,rfl⟩:∃V:World,V=wc:=⟨_,rfl⟩;clear a1 a2 a3 a4 a5 a6 Ce;have aKU:=hDd.o.lt;have aLt:=aA (qp.o.tm YO.o);(go_wp2_with fail);go_loopw [10,11] (fun v jj wj=>∃j:Nat,j<=ps.length∧jj=.int .i64 (j:Int)∧wj.ownsRow w7.heap.size 3 1 v j (ints (sp.take j))∧Below w7.heap.size w7 wj) (fun _ jj _=>ps.length-(intOf jj).toNat)
     case atStart=>exact ⟨0,by omega,rfl,nv _ _ _ _,aU⟩
     case round=>
      obtain ⟨j,Gd,rfl,aa,bC⟩:=hrel;obtain ⟨wj,rfl⟩:∃wj:World,wj=wr:=⟨_,rfl⟩;obtain ⟨a1,a2,a3,a4,a5,a6⟩:=gJ.o _ (YO.o.tm bC);by_cases aqr:j<ps.length
      . have tZ:=Hlp.o
        have M8:=Hlq.o;obtain ⟨be,oe,rfl,mN,hce⟩:=E9.o.at_ (by omega);obtain ⟨bf,of,rfl,hbf,QM⟩:=F9.o.at_ (by omega);obtain ⟨p1,p4⟩:=ang.o _ (gL (xs:=sp) (i:=j) (by have:=ahq.o;omega));have hpj:=aBx.o j aqr;obtain ⟨q1,q2⟩:=Hqb.o _ (gL (by omega:j<qs.length));(have abv:(j:Int)<(ps.length:Int):=by omega);(have aqq:(j:Int)<(qs.length:Int):=by omega);(have RY:(0:Int)<=(j:Int):=by omega);have Ff:Hid (∀V,Below wj.heap.size wj V->V.cell? ⟨b,o+2,none⟩=some (.slice (some ⟨be,oe,none⟩) ps.length ei)∧V.cell? ⟨bb,ob+2,none⟩=some (.slice (some ⟨bf,of,none⟩) qs.length fi)∧V.cell? ⟨be,oe+j,none⟩=some (.int .i64 (nth ps j))∧V.cell? ⟨bf,of+j,none⟩=some (.int .i64 (nth qs j))):=fun V hV=>
         have YI:=YO.o.trans ((bC.tm hV).mono YO.o.size);have k:=gJ.o _ YI
         ⟨k.2.2.1,k.2.2.2.2.2,(YI.cell (p:=⟨be,oe+j,none⟩) mN).trans (hce j (by omega)),((qp.o.tm YI).cell (p:=⟨bf,of+j,none⟩) hbf).trans (QM j (by omega))⟩
        obtain ⟨c1,c2,c3,c4⟩:=Ff.o _ aU;have ew:IntKind.i64.wrap (nth ps j-nth qs j)=nth ps j-nth qs j:=bP _ (by omega);(have CK:¬nth ps j<nth qs j:=by omega);have Hat:Hid (sp.take (j+1)=sp.take j++[nth ps j-nth qs j]):=by
         show _=_;(have hjs:j<sp.length:=by have:=ahq.o;omega);rw [kG hjs,hpj,show nth sp j+nth qs j-nth qs j=nth sp j by omega,fV hjs]
        have HO1:Hid (wj.drew.ownsRow w7.heap.size 3 1 u10 j (ints (sp.take j))):=gN aa;have aiD:Below w7.heap.size w7 wj.drew:=bC.drew;have Pt:Hid (∀V,Below wj.drew.heap.size wj.drew V->V.cell? ⟨b,o+2,none⟩=some (.slice (some ⟨be,oe,none⟩) ps.length ei)∧V.cell? ⟨bb,ob+2,none⟩=some (.slice (some ⟨bf,of,none⟩) qs.length fi)∧V.cell? ⟨be,oe+j,none⟩=some (.int .i64 (nth ps j))∧V.cell? ⟨bf,of+j,none⟩=some (.int .i64 (nth qs j))):=fun V hV=>Ff.o V ((Below.refl wj.heap.size wj).drew.trans hV);have sW:Hid (∀V,Below w7.heap.size w7 V->V.cell? ⟨b,o+2,none⟩=some (.slice (some ⟨be,oe,none⟩) ps.length ei)∧V.cell? ⟨bb,ob+2,none⟩=some (.slice (some ⟨bf,of,none⟩) qs.length fi)∧V.cell? ⟨be,oe+j,none⟩=some (.int .i64 (nth ps j))∧V.cell? ⟨bf,of+j,none⟩=some (.int .i64 (nth qs j))):=fun V hV=>
         have YI:=YO.o.tm hV;have k:=gJ.o _ YI
         ⟨k.2.2.1,k.2.2.2.2.2,(YI.cell (p:=⟨be,oe+j,none⟩) mN).trans (hce j (by omega)),((qp.o.tm YI).cell (p:=⟨bf,of+j,none⟩) hbf).trans (QM j (by omega))⟩
        (have z1:j+1<=maxLen:=by unfold maxLen;omega);(have z2:(j+1)*8<=140737488355328:=by omega);(have z3:Hid (∀(ob:Obj),w7.heap.size<=(wj.drew.alloc ob).heap.size):=fun ob=>by have:=bC.size;simp;omega);generalize nth ps j=pj at*
        generalize nth qs j=qj at*
        clear hce QM tZ M8 p1 p4 q1 q2 hpj;(go_wp2_with fail);go_region
        clear aa bC Ff c1 c2 c3 c4 a1 a2 a3 a4 a5 a6;generalize wj.drew=wk at*
        obtain ⟨c1,c2,c3,c4⟩:=Pt.o _ aU;have aqV:decide (pj<qj)=false:=uJ (by omega);rw [aqV];clear CK aqV;(go_wp2_with fail);go_region_held3 (fun V=>V.cell? ⟨b,o+2,none⟩=some (.slice (some ⟨be,oe,none⟩) ps.length ei)∧V.cell? ⟨bb,ob+2,none⟩=some (.slice (some ⟨bf,of,none⟩) qs.length fi)∧V.cell? ⟨be,oe+j,none⟩=some (.int .i64 pj)∧V.cell? ⟨bf,of+j,none⟩=some (.int .i64 qj))
         (first | go_keep | exact sW.o _ Ak)
         (first | (refine pN _ (by rfl) _ _ _ (by rfl) w7.heap.size 3 j0 _ 1 8 underlying42 hj rz xZ Fk rfl (by omega) u10 j (ints (sp.take j)) (by rfl) ((HO1.o.alloc _).drew) ⟨wk.heap.size,0,none⟩ 1 1 [.int .i64 (pj-qj)] (by rfl) (by rfl) (gw (cs:=#[.int .i64 (pj-qj)]) (t:=3) (fr:=(0,0)) (bM wk _)) (by simp [Value.oneCell']) (by omega) z1 z2 (z3.o _) (wk.heap.size+1) (by simp) ?_;intro gg cap w8 fL aW gZ ou;have Ak:Below w7.heap.size w7 w8:=ym aiD HO1.o aW aiD.size))
        have abo:w8.ownsRow w7.heap.size 3 1 (.slice (some ⟨gg,0,none⟩) (j+1) cap) (j+1) (ints (sp.take (j+1))):=by
         rw [Hat.o,Fj];exact fL
        clear fL aW gZ ou HO1;(go_wp2_with fail);go_roundw
        case rel=>exact ⟨j+1,by omega,by go_num,abo,Ak⟩
        case measure=>simp [intOf];omega
      . obtain rfl:j=ps.length:=by omega
        have tZ:=Hlp.o;have M8:=Hlq.o;(have sY:sp.length=ps.length:=by rw [ahq.o,tZ]);rw [iC (by rw [sY];exact aL)] at aa;obtain ⟨X,cx,rfl⟩:=fD aa;obtain ⟨g1,g2⟩:=js aa;have hz:=hZd.o;have M0:∀i,DX (nth sp i):=fun i=>by
         rcases pT i sp.length with h | h
         . have h1:=ang.o _ (gL h)
           constructor<;>omega
         . rw [bw h];constructor<;>omega
        have Yv:Ints wj X ps.length sp:=Ints.ia aa M0;have abG:0<ps.length->∀z,X=some z->w7.heap.size<=z.block:=fun _ z hz=>(aa.lt z.block (by subst hz;rfl)).1;have hsl:=ahq.o;have hzF:=HzF.o;clear aa M0 hZd;have GK:l1.length<=K1:=hz.cap (aR hzF HQa.o);have aLO:=Hk1.o;have S1:l1.length=k1:=hLd.o.len;subst S1;have hDj:=hDd.o.aC bC;have cZ:Below wp.heap.size wp wj:=YO.o.tm bC;have apI:=cZ.size;have axh:=bC.size;(have abv:¬(ps.length:Int)<(ps.length:Int):=by omega);have m0:=hDj.cell0;have m1:=hDj.cell1;(have hlj:wj.heap.size<(wj.alloc (.cells #[.bool s1,.slice A1 l1.length d1,.slice X ps.length cx] 44)).heap.size:=by simp);have hxE:gV (wj.alloc (.cells #[.bool s1,.slice A1 l1.length d1,.slice X ps.length cx] 44)) (((A1,d1),(X,cx)),((s1,l1),sp)):=
         ⟨p2,p3,by show sp.length<=cx;rw [sY];exact g1,g2,(hLd.o.aC bC).alloc _,by show Ints _ X sp.length sp;rw [sY];exact Yv.aC (aU.alloc aL _)⟩
        obtain ⟨h0c,h1c,h2c⟩:=vq wj (.bool s1) (.slice A1 l1.length d1) (.slice X ps.length cx) 44;have CX:Below wp.heap.size wp (wj.alloc (.cells #[.bool s1,.slice A1 l1.length d1,.slice X ps.length cx] 44)):=cZ.alloc apI _;have alB:0<l1.length->∀y,A1=some y->wp.heap.size<=y.block:=hFd.o;(have q1:E.length+1<=maxLen:=by have h1:=Jv.o;unfold maxLen;omega);(have q2:(E.length+1)*56<=140737488355328:=by have h1:=Jv.o;omega);(have q3:Hid (wo.heap.size<=((wj.alloc (.cells #[.bool s1,.slice A1 l1.length d1,.slice X ps.length cx] 44)).alloc (.cells #[.bool s1,.slice A1 l1.length d1,.slice X ps.length cx] 44)).heap.size):=by have:=qp.o.size;show _<=_;simp;omega);have HOW:Hid (((wj.alloc (.cells #[.bool s1,.slice A1 l1.length d1,.slice X ps.length cx] 44)).alloc (.cells #[.bool s1,.slice A1 l1.length d1,.slice X ps.length cx] 44)).ownsRow wo.heap.size 44 3 u7 E.length (aS E)):=(cm hO.o.own CX).alloc _;have F:Hid (∀(w8:World) (gg cap:Nat),w8.ownsRow wo.heap.size 44 3 (.slice (some ⟨gg,0,none⟩) (E.length+1) cap) (E.length+1) (aS E++[.bool s1,.slice A1 l1.length d1,.slice X ps.length cx])->((wj.alloc (.cells #[.bool s1,.slice A1 l1.length d1,.slice X ps.length cx] 44)).alloc (.cells #[.bool s1,.slice A1 l1.length d1,.slice X ps.length cx] 44)).grownBy w8 u7.ownBlock->(u7.ownBlock=some gg∨gg=wj.heap.size+1+1)->
         jN wo w8 n K1 (.slice (some ⟨gg,0,none⟩) (E.length+1) cap) (E++[(((A1,d1),(X,cx)),((s1,l1),sp))]) (Q.take kq++[(sp,z)])∧iI w8 (some ⟨b,o,none⟩) R.length R∧iI w8 (some ⟨wj.heap.size,0,none⟩) 1 [((s1,l1),sp)]):=fun w8 gg cap h7 h8 h9=>by
         have GJ:=hO.o.next (x:=(((A1,d1),(X,cx)),((s1,l1),sp))) (o:=(.cells #[.bool s1,.slice A1 l1.length d1,.slice X ps.length cx] 44)) (H:=wj.heap.size+1+1) CX hxE hsl GK
          (fun h0 y hy e=>by have h10:=alB h0 y hy;have Yx:=(tV.o _ e).2;omega) (fun h0 y hy e=>by have h10:=abG (by have h0':0<sp.length:=h0;omega) y hy;have Yx:=(tV.o _ e).2;have h12:=YO.o.size;omega)
          (by show w8.ownsRow _ _ _ _ _ (aS E++[.bool s1,.slice A1 l1.length d1,.slice X sp.length cx]);rw [sY];exact h7) h8 h9 (by simp)
         have e:bS ((s1,l1),sp)=(sp,z):=by
          show (sp,aI s1 l1)=_;rw [hz.eq]
         rw [e] at GJ;have ho:Only (fun k=>u7.ownBlock=some k) (wj.alloc (.cells #[.bool s1,.slice A1 l1.length d1,.slice X ps.length cx] 44)) w8:=(jG (aU.alloc aL _)).trans (Only.fK h8);have hoP:Only (fun k=>u7.ownBlock=some k) wp w8:=(jG CX).trans ho;refine ⟨GJ,ama.o _ hoP,?_⟩;(have YC:¬u7.ownBlock=some wj.heap.size:=fun e=>by have:=(tV.o _ e).2;omega);have Bz:=iM hxE ho (fun h0 y hy e=>by have h10:=alB h0 y hy;have Yx:=(tV.o _ e).2;omega) (fun h0 y hy e=>by have h10:=abG (by have h0':0<sp.length:=h0;omega) y hy;have Yx:=(tV.o _ e).2;have h12:=YO.o.size;omega);exact VC ((ho.cell (p:=⟨wj.heap.size,0,none⟩) hlj YC).trans h0c) ((ho.cell (p:=⟨wj.heap.size,1,none⟩) hlj YC).trans h1c) (by rw [sY];exact (ho.cell (p:=⟨wj.heap.size,2,none⟩) hlj YC).trans h2c) (iE hlj ho.size) p2 p3 Bz.2.2.1 g2 Bz.2.2.2.2.1 Bz.2.2.2.2.2
        have Hz:=aA hz;have Hsl:=aA hsl;have a9:=a3;clear hz hzF hO ama hxE Yv abG alB hLd hFd hDj hDd YO bC gJ zM a1 a2 a3 a4 a5 a6 E8 E9 F8 F9 hsl sY tZ M8;(go_wp2_with (at_builtin;refine rG (w:=(wj.alloc (.cells #[.bool s1,.slice A1 l1.length d1,.slice X ps.length cx] 44)).alloc (.cells #[.bool s1,.slice A1 l1.length d1,.slice X ps.length cx] 44)) (by rfl) _ _ _ (by rfl) wo.heap.size 44 i0 _ 3 56 underlying22 rT jE jD jJ rfl (by omega) u7 E.length (aS E) (by rfl) HOW.o ⟨wj.heap.size+1,0,none⟩ 1 1 [.bool s1,.slice A1 l1.length d1,.slice X ps.length cx] (by rfl) (by rfl) (gw (cs:=#[.bool s1,.slice A1 l1.length d1,.slice X ps.length cx]) (t:=44) (fr:=(0,0)) (by have:=bM (wj.alloc (.cells #[.bool s1,.slice A1 l1.length d1,.slice X ps.length cx] 44)) (.cells #[.bool s1,.slice A1 l1.length d1,.slice X ps.length cx] 44);rwa [aJ] at this)) (by simp [Value.oneCell']) (Nat.one_pos) q1 q2 q3.o (wj.heap.size+1+1) (by simp) ?_;intro gg cap w8 fL aW gZ ou));obtain ⟨QO,hR8,hT8⟩:=F.o w8 gg cap fL aW gZ
        have CW:=QO.aC;obtain ⟨gt,yg⟩:∃g,wj.heap.size=g:=⟨_,rfl⟩;rw [yg] at hT8 ⊢;have Ct:Hid (aB 64 #[.slice (some ⟨gt,0,none⟩) 1 1,.slice (some ⟨bb,ob,none⟩) mb cb] w8 (oB w8 n (mulM [(sp,z)] (aP T)))):=by
         have h:=O2 n K1 K2 (some ⟨gt,0,none⟩) (some ⟨bb,ob,none⟩) 1 1 mb cb [((s1,l1),sp)] T w8 hT8 (Hy.o.aC CW) (fun t ht=>by rw [dS.1 ht];exact Hsl.o) HlT.o (fun t ht=>by rw [dS.1 ht];exact GK) HTC.o (fun t ht x hx=>by rw [dS.1 ht] at hx;exact ang.o x hx) (fun t ht x hx=>HTb.o t ht x hx) (by omega) (by omega) (by omega) (by omega) (by omega);have e:aP [((s1,l1),sp)]=[(sp,z)]:=by
          show [(sp,aI s1 l1)]=_;rw [Hz.o.eq]
         rw [e] at h;exact h
        have Uz:=aA QO;have HR8:=aA hR8;clear F QO hR8 hT8 fL aW gZ HOW q3 h0c h1c h2c m0 m1 yg cZ CX hlj;(go_wp2_with fail);refine Ct.o.mono ?_;rintro e w9 ⟨A9,c9,T9,rfl,t1,t2,t3,t4,t5,t6⟩;have hm9:T9.length<=mb:=by
         have h:=t4.mv.count t5;rw [au,FU,au] at h;have h2:=Hy.o.len;simp only [List.length_singleton,bN] at h;omega
        (have aqx:eW n [(sp,z)]:=fun t ht=>by rw [dS.1 ht];exact Hsl.o);have alX:bJ (aP T9)<=bJ Q*bJ (aP T):=by
         refine aG (t4.mv.Tv t5 (aqx.mul HTm.o)) ?_;rw [acX];exact bG _ HzF.o
        have hpK:bJ Q*bJ (aP T)<2^(64*(K1+K2)):=by
         rw [ak,iD];exact Lu HQa.o HTa.o
        have hC9:=qP t4 (uC t4) (aR alX hpK);have hl9:∀t∈T9,t.2.length=n:=fun t ht=>t4.mv.len (bS t) (af.2 ⟨t,ht,rfl⟩);have H9:=aA t3;have HP9:=aA t4;have HE9:=aA t5;have Yk:=aA t6;have HC9:=aA hC9;have Hl9:=aA hl9;have atx:=aA alX;have HpK:=aA hpK;clear t3 t4 t5 t6 Ct hC9 hl9 alX hpK;(go_wp2_with fail);refine (Zi w9).mono ?_;rintro e mO ⟨s3,A3,k3,c3,l3,rfl,o1,o2,o3,o4,o5,o6⟩;have Cs:=aA (H8 n (K1+K2) 1 A9 T9.length c9 T9 s3 A3 k3 c3 l3 mO (H9.o.aC o6) Hl9.o HC9.o o4 o3 o1 o2 (by omega) (by omega) (by omega));rw [o5.eq] at Cs;have ahD:=aA (Yk.o.tm o6);clear o4 o5 o6;(go_wp2_with fail);refine Cs.o.mono ?_;rintro e F7 ⟨A11,c11,Wi,rfl,y1,y2,y3,y4,y5,y6⟩;have aKb:Wi.length<=mb:=by
         have h:=y4.mv.count y5;unfold fS at h;rw [dJ,au,au] at h;omega
        have aiG:bJ (aP Wi)<=bJ Q*bJ (aP T):=by
         refine aG (y4.mv.Tv y5 (fun t ht=> ?_)) ?_
         . obtain ⟨u,hu,rfl⟩:=af.1 ht
           exact HP9.o.mv.len u hu
         . rw [Fu];exact atx.o
        have arJ:=qP y4 (uC y4) (aR aiG HpK.o);have aqC:∀t∈Wi,t.2.length=n:=fun t ht=>y4.mv.len (bS t) (af.2 ⟨t,ht,rfl⟩);have hlR:∀t∈R,t.2.length=n:=fun t ht=>YK.o.mv.len (bS t) (af.2 ⟨t,ht,rfl⟩);have hCR:=qP YK.o (uC YK.o) HRK.o;have agE:=ahD.o.tm y6;have atO:=aA (VN n (K1+K2) (K1+K2+1) (some ⟨b,o,none⟩) A11 R.length cr Wi.length c11 R Wi F7 (HR8.o.aC agE) y3 hlR aqC hCR arJ (by omega) (by omega) (by have h1:=HRK.o;have h2:=HpK.o;rw [show 64*(K1+K2+1)=64*(K1+K2)+64 by omega,iD];omega) (by omega) (by omega));have ahC:=aA agE;have atE:=aA y5;have hgg:=(Uz.o.own.lt gg rfl).2;have aDS:=agE.size;clear y3 y4 y5 y6 aiG arJ aqC hlR hCR agE Cs H9 HP9 HC9 Hl9 atx Yk ahD;(go_wp2_with fail);refine atO.o.mono ?_;rintro e w12 ⟨A12,c12,T12,rfl,x1,x2,x3,x4,x5,x6,x7⟩;have art:Hid (∀V,Only (fun k=>(Value.slice (some ⟨gg,0,none⟩) (E.length+1) cap).ownBlock=some k) w12 V->iI V A12 T12.length T12):=fun V hV=>x6 V (hV.mono fun k hk=>by
         (have zP:gg=k:=by injection hk);show k<_;omega)
        have azP:=aA x4;have azI:Hid (RN n Q (aP T) (kq+1) (aP T12)):=aBm.o.congr (x5.trans ((jI.refl n (aP R)).add ((atE.o.trans (HE9.o.scale (-1))).trans (Xd n))));have oK:=aA (Uz.o.jX (ahC.o.tm x7));clear x3 x4 x5 x6 x7 atO atE HE9 ahC Uz HR8;(go_wp2_with fail);go_roundg (gk-1)
        case measure=>omega
        case rel=>exact ⟨A12,c12,T12,kq+1,E++[(((A1,d1),(X,cx)),((s1,l1),sp))],by omega,by omega,rfl,by show _=_;rw [eC,Jv.o];rfl,art,azP,azI,by rw [hQk.o];exact oK⟩
  . have hRe:R=[]:=lK (by omega)
    subst hRe;have hkQ:kq=Q.length:=by
     (have h:RN n Q ((qs,aI sb ys)::P') kq []:=by rw [<- HTe.o];exact hSt.o);exact h.done HQ.o HTP.o
    have hO:Hid (jN wo wp n K1 u7 E Q):=by
     have h:=hO.o;rw [hkQ,L4] at h;exact h
    have hb:=hO.o.aC;obtain ⟨D,d,rfl,Cp⟩:=hO.o.o (by omega) (by omega) (by have h1:=Jv.o;omega);have ZE:=aA Cp;have Hb:=aA hb;(have hR0:¬(0:Int)<((([]:List TV).length:Nat):Int):=by simp);clear Cp hb hO hSt;(go_wp2_with fail);refine ZE.o.mono ?_;intro e w9 h9;obtain ⟨A9,c9,T9,rfl,t1,t2,t3,t4,t5,t6⟩:=h9.from_ Hb.o;have Fin:Hid (N2 wo n Q (.returned (.tuple #[.slice A9 T9.length c9,.bool true])) w9):=⟨A9,c9,T9,rfl,t1,t2,t3,t4,t5,t6⟩;clear h9 t3 t4 t5 t6;(go_wp2_with fail);go_ret2;exact Fin.o
def RM (w:World) (n:Nat) (M:Mv) (e:Ending) (w':World):Prop:=
 ∃A c T,e=.returned (.slice A T.length c)∧T.length<=c∧c<=9223372036854775807∧iI w' A T.length T∧eH n T∧aP T=M∧Below w.heap.size w w'
def aoV (n:Nat) (A B:Option Addr) (ma ca mb cb:Nat) (Q:Mv) (w:World) (hQ:av n Q)
 (C0:aB 96 #[.slice A ma ca,.slice B mb cb] w (N2 w n Q)):
 aB 62 #[.slice A ma ca,.slice B mb cb] w (RM w n Q):=by
 have HC:=aA C0;have HQ:=aA hQ;clear C0 hQ;go_enter func62,ntmps62
 go_wp2_with fail
 refine HC.o.mono ?_;rintro e w1 ⟨A1,c1,T,rfl,t1,t2,t3,t4,t5,t6⟩;have F:Hid (RM w n Q (.returned (.slice A1 T.length c1)) w1):=⟨A1,c1,T,rfl,t1,t2,t3,t4,t4.mv.unique HQ.o t5,t6⟩;clear t3 t4 t5 t6;go_wp2_with fail
 go_ret;exact F.o
def acV (i:Nat) (A:Mv):bJ (zG i A)=bJ A:=by
 unfold bJ zG;rw [jl];rfl
def WR {a:Nat}(h:0<a):∃k,a<2^(64*(k+1))∧2^(64*k)<=a:=by
 have h1:a<2^(a.log2+1):=Nat.lt_log2_self;exact ⟨a.log2 / 64,iE h1 (fP (by omega) (by omega)),aG (fP (by omega) (by omega)) (Nat.log2_self_le (by omega))⟩
def FZ {a b K:Nat}(ha:a<2^(64*K)) (hb:b<2^(64*K)) (h:a*b<2^(64*K)):∃K1 K2,a<2^(64*K1)∧b<2^(64*K2)∧K1+K2<=K+1:=by
 rcases jM a with h0 | h0
 . exact ⟨0,K,by rw [h0];exact iN (by omega),hb,by omega⟩
 . rcases jM b with h1 | h1
   . exact ⟨K,0,ha,by rw [h1];exact iN (by omega),by omega⟩
   . obtain ⟨p,p1,p2⟩:=WR h0
     obtain ⟨q,q1,q2⟩:=WR h1;refine ⟨p+1,q+1,p1,q1,?_⟩;(have h2:2^(64*p+64*q)<2^(64*K):=by rw [iD];exact aR (ct p2 q2) h);have h3:=(Nat.pow_lt_pow_iff_right (by omega)).1 h2;omega
section
variable {i m : Nat} {f g : Pn m} {D : Nat -> Nat}
def sN (i:Nat) (f:Pn m):bJ (gj i m f)=aH.nm f:=(acV i _).trans (xh m f)
def sJ (i:Nat) (h:aH.dg D f):(gj i m f).length<=aH.jo (Pn m) D:=by
 unfold gj zG iy;rw [dJ,UJ];exact mP h
def MU (i:Nat) (h:aH.dg D f) {d:Nat}(hD:∀j,D j<=d):Dj d (gj i m f):=fun t ht x hx=>by
 obtain ⟨s,hs,rfl⟩:=af.1 ht;have Dl:x∈List.replicate i (0:Int)++s.1:=hx;rcases gT.1 Dl with e | e
 . rw [vE e]
   omega
 . obtain ⟨e',he,hk⟩:=Dw h s (JU.1 hs)
   rw [og] at he;have h0:=fU m f s hs x e;obtain ⟨j,hj,hxj⟩:=adr e;have h1:=hk j;have h2:=hD j;rw [<- he,fV hj,hxj] at h1;omega
def O5 {n:Nat} {X:Mv}(hi:i<n) (h:eW n X):EB i 0 X=X:=by
 unfold EB;have e:∀t∈X,((t.1.set i (nth t.1 i+0),t.2):mH)=t:=fun t ht=>by
  have hl:=h t ht;have e1:t.1.set i (nth t.1 i+0)=t.1:=by
   refine kW (by rw [fW]) fun j hj=> ?_;rw [gK (by omega)];by_cases e2:j=i
   . rw [aM e2,e2,AP]
   . rw [aY e2]
  rw [e1]
 exact (E6 e).trans (List.map_id' X)
def ajZ (i:Nat) (c:Pn m):gj (i+1) m c=gj i (m+1) (mkK (Poly.C c)):=by
 have h:=Oq (i:=i) 0 c;have hl:eW (i+(m+1)) (gj (i+1) m c):=by
  have h1:=(lV (i+1) c).len;rwa [show i+1+m=i+(m+1) by omega] at h1
 have h2:EB i (0:Nat) (gj (i+1) m c)=gj (i+1) m c:=O5 (by omega) hl;rw [h2] at h;exact h
end
def jO (m K:Nat) (f g:Pn m):Prop:=∃D E:Nat->Nat,aH.dg D f∧aH.dg E g∧(∀j,D j+E j<1000000000000)∧aH.nm f<2^(64*K)∧aH.nm g<2^(64*K)∧aH.nm f*aH.nm g<2^(64*K)∧aH.jo (Pn m) D*aH.jo (Pn m) E<=1000000000000
def iw (m K:Nat) (f:Pn m):Prop:=∃D:Nat->Nat,aH.dg D f∧aH.jo (Pn m) D<=1000000000000∧(∀j,D j<1000000000000)∧aH.nm f<2^(64*K)
def jO.l {f g:Pn m}(h:jO m K f g):iw m K f:=by
 obtain ⟨D,E,h1,h2,h3,h4,h5,h6,h7⟩:=h;exact ⟨D,h1,aG (jR _ (aH.nQ _)) h7,fun j=>by have:=h3 j;omega,h4⟩
def jO.r {f g:Pn m}(h:jO m K f g):iw m K g:=by
 obtain ⟨D,E,h1,h2,h3,h4,h5,h6,h7⟩:=h;exact ⟨E,h2,aG (iT _ (aH.nQ _)) h7,fun j=>by have:=h3 j;omega,h5⟩
def Rw (w:World) (v:Value) (i m:Nat) (f:Pn m):Prop:=∃A c T,v=.slice A T.length c∧T.length<=c∧c<=9223372036854775807∧iI w A T.length T∧eH (i+m) T∧aP T=gj i m f
def mI (w:World) (i m:Nat) (f:Pn m) (e:Ending) (w':World):Prop:=∃v,e=.returned v∧Rw w' v i m f∧Below w.heap.size w w'
def Rw.aC {f:Pn m}(h:Rw w v i m f) (hb:Below w.heap.size w w'):Rw w' v i m f:=by
 obtain ⟨A,c,T,h1,h2,h3,h4,h5,h6⟩:=h;exact ⟨A,c,T,h1,h2,h3,h4.aC hb,h5,h6⟩
def pn {f:Pn m} {T:List TV}(h:iw m K f) (hP:eH (i+m) T) (e:aP T=gj i m f):T.length<=1000000000000∧(∀t∈T,t.2.length=i+m)∧(∀t∈T,∀x∈t.2,0<=x∧x<=1000000000000)∧(∀t∈T,t.1.2.length<=K):=by
 obtain ⟨D,d1,d2,d3,d4⟩:=h;refine ⟨?_,fun t ht=>hP.mv.len (bS t) (af.2 ⟨t,ht,rfl⟩),fun t ht=> ?_,?_⟩
 . rw [<- au,e]
   exact aG (sJ i d1) d2
 . have hb:=MU i d1 (d:=1000000000000) fun j=>oy (d3 j)
   rw [<- e] at hb;exact hb (bS t) (af.2 ⟨t,ht,rfl⟩)
 . exact qP hP (uC hP) (by rw [e,sN];exact d4)
def G0 {f g:Pn m} (hK:K<=3690000000000) (hn:i+m<=6) (fit:jO m K f g) (hf:Rw w u i m f) (hg:Rw w v i m g):aB 64 #[u,v] w (mI w i m (f*g)):=by
 obtain ⟨A,c,L,rfl,l1,l2,l3,l4,l5⟩:=hf;obtain ⟨B,d,T,rfl,t1,t2,t3,t4,t5⟩:=hg;obtain ⟨p1,p2,p3,_⟩:=pn fit.l l4 l5;obtain ⟨q1,q2,q3,_⟩:=pn fit.r t4 t5;obtain ⟨D,E,d1,d2,d3,d4,d5,d6,d7⟩:=fit;obtain ⟨K1,K2,k1,k2,k3⟩:=FZ d4 d5 d6;have c1:=qP l4 (uC l4) (K:=K1) (by rw [l5,sN];exact k1);have c2:=qP t4 (uC t4) (K:=K2) (by rw [t5,sN];exact k2);have n1:L.length<=aH.jo (Pn m) D:=by rw [<- au,l5];exact sJ i d1
 have n2:T.length<=aH.jo (Pn m) E:=by rw [<- au,t5];exact sJ i d2
 have n3:=aG (ct n1 n2) d7;refine (O2 (i+m) K1 K2 A B L.length c T.length d L T w l3 t3 p2 q2 c1 c2 p3 q3 (by omega) (by omega) (by omega) (by omega) (by omega)).mono ?_;rintro e w1 ⟨A1,e1,T1,rfl,z1,z2,z3,z4,z5,z6⟩;exact ⟨_,rfl,⟨A1,e1,T1,rfl,z1,z2,z3,z4,Zc z4.mv (by rw [<- l5,<- t5];exact z5)⟩,z6⟩
def Za {f g:Pn m} (hK:K<=3900000000000) (hn:i+m<=6) (fF:iw m K f) (fG:iw m K g) (EZ:aH.nm f+aH.nm g<2^(64*K)) (hf:Rw w u i m f) (hg:Rw w v i m g):aB 59 #[u,v] w (mI w i m (f+g)):=by
 obtain ⟨A,c,L,rfl,l1,l2,l3,l4,l5⟩:=hf;obtain ⟨B,d,T,rfl,t1,t2,t3,t4,t5⟩:=hg;obtain ⟨p1,p2,p3,p4⟩:=pn fF l4 l5;obtain ⟨q1,q2,q3,q4⟩:=pn fG t4 t5;refine (VN (i+m) K K A B L.length c T.length d L T w l3 t3 p2 q2 p4 q4 hK hK (by rw [l5,t5,sN,sN];exact EZ) (by omega) (by omega)).mono ?_;intro e w1 h;obtain ⟨A1,e1,T1,rfl,z1,z2,z3,z4,z5,z6⟩:=h.r;exact ⟨_,rfl,⟨A1,e1,T1,rfl,z1,z2,z3,z4,Zf z4.mv (by rw [<- l5,<- t5];exact z5)⟩,z6⟩
def ajY {f:Pn m} {B:Option Addr} {zs:List Int}(hK:K<=3700000000000) (hn:i+m<=6) (fF:iw m K f) (hf:Rw w u i m f) (h1:aD w B k zs) (h2:k<=1) (h3:k<=d) (h4:d<=9223372036854775807) (h5:aI s zs= -1):aB 91 #[u,.agg #[.bool s,.slice B k d]] w (mI w i m (-f)):=by
 obtain ⟨A,c,L,rfl,l1,l2,l3,l4,l5⟩:=hf;obtain ⟨p1,p2,p3,p4⟩:=pn fF l4 l5;refine (H8 (i+m) K 1 A L.length c L s B k d zs w l3 p2 p4 h1 h2 h3 h4 (by omega) (by omega) (by omega)).mono ?_;rintro e w1 ⟨A1,e1,T1,rfl,z1,z2,z3,z4,z5,z6⟩;exact ⟨_,rfl,⟨A1,e1,T1,rfl,z1,z2,z3,z4,Ot z4.mv (by rw [<- l5,<- h5];exact z5)⟩,z6⟩
def MR {f:Pn (m+1)} (hn:i+(m+1)<=6) (fF:iw (m+1) K f) (hf:Rw w u i (m+1) f):aB 94 #[u,.int .i64 (i:Int)] w fun e w'=>e=.returned (.int .i64 (((kids f).len:Int)-1))∧w'=w:=by
 obtain ⟨A,c,L,rfl,l1,l2,l3,l4,l5⟩:=hf;obtain ⟨p1,p2,p3,p4⟩:=pn fF l4 l5;have h:=XQ (i+(m+1)) i (by omega) A L.length c L w l3 p2 p3 (by omega) (by omega);rwa [l5,Zd] at h
def MS {f:Pn (m+1)} (hK:K<=3700000000000) (hn:i+(m+1)<=6) (fF:iw (m+1) K f) (hf:Rw w u i (m+1) f) (k:Nat):aB 95 #[u,.int .i64 (i:Int),.int .i64 (k:Int)] w (mI w (i+1) m ((kids f).co k)):=by
 obtain ⟨A,c,L,rfl,l1,l2,l3,l4,l5⟩:=hf;obtain ⟨p1,p2,p3,p4⟩:=pn fF l4 l5;refine (aeU (i+(m+1)) K i (by omega) k A L.length c L w l3 p2 p3 p4 (by omega) (by omega) (by omega)).mono ?_;rintro e w1 ⟨A1,e1,T1,rfl,z1,z2,z3,z4,z5,z6⟩;have e9:i+(m+1)=i+1+m:=by omega
 refine ⟨_,rfl,⟨A1,e1,T1,rfl,z1,z2,z3,e9 ▸ z4,?_⟩,z6⟩;rw [l5] at z5;exact (e9 ▸ z4:eH (i+1+m) T1).mv.unique (lV (i+1) _) (e9 ▸ z5.trans (Ze k))
def aoL {f:Pn m} (hK:K<=3700000000000) (hn:i+(m+1)<=6) (fF:iw m K f) (hf:Rw w u (i+1) m f) (k:Nat) (hk:k<=1000000000000):aB 97 #[u,.int .i64 (i:Int),.int .i64 (k:Int)] w (mI w i (m+1) (mkK (Poly.mono k f))):=by
 obtain ⟨A,c,L,rfl,l1,l2,l3,l4,l5⟩:=hf;obtain ⟨p1,p2,p3,p4⟩:=pn fF l4 l5;have e9:i+1+m=i+(m+1):=by omega
 refine (aoT (i+(m+1)) K i (by omega) k (by omega) A L.length c L w l3 (fun t ht=>(p2 t ht).trans e9) p3 p4 (by omega) (by omega) (by omega)).mono ?_;rintro e w1 ⟨A1,e1,rfl,z1,z2,z3,z6⟩;have h1:aP (L.map (upT i k))=gj i (m+1) (mkK (Poly.mono k f)):=by rw [akw,l5,Oq]
 refine ⟨_,rfl,⟨A1,e1,_,rfl,z1,z2,z3,⟨by rw [h1];exact lV i _,fun t ht=> ?_⟩,h1⟩,z6⟩;obtain ⟨s,hs,rfl⟩:=af.1 ht;exact l4.co s hs
def Rw.C {c:Pn m} (h:Rw w v (i+1) m c):Rw w v i (m+1) (mkK (Poly.C c)):=by
 obtain ⟨A,k,L,rfl,l1,l2,l3,l4,l5⟩:=h;have e9:i+1+m=i+(m+1):=by omega
 exact ⟨A,k,L,rfl,l1,l2,l3,e9 ▸ l4,l5.trans (ajZ i c)⟩
def ahN {f g q:Pn m} (hK:K<=3690000000000) (hn:i+m<=6) (fit:jO m K q g) (OG:g≠0) (e:f=q*g) (hf:Rw w u i m f) (hg:Rw w v i m g):aB 62 #[u,v] w (mI w i m q):=by
 obtain ⟨A,c,L,rfl,l1,l2,l3,l4,l5⟩:=hf;obtain ⟨B,d,T,rfl,t1,t2,t3,t4,t5⟩:=hg;obtain ⟨q1,q2,q3,_⟩:=pn fit.r t4 t5;obtain ⟨D,E,d1,d2,d3,d4,d5,d6,d7⟩:=fit;obtain ⟨K1,K2,k1,k2,k3⟩:=FZ d4 d5 d6;have n1:(gj i m q).length<=aH.jo (Pn m) D:=sJ i d1;have n2:T.length<=aH.jo (Pn m) E:=by rw [<- au,t5];exact sJ i d2
 have n3:=aG (ct n1 n2) d7;have n4:(gj i m q).length<=1000000000000:=aG n1 (aG (jR _ (aH.nQ _)) d7);cases hT:aP T with
 | nil=>exact absurd (xH.1 (t5.symm.trans hT)) OG
 | cons x P'=>
   have hE:jI (i+m) (aP L) (mulM (gj i m q) (aP T)):=by
    rw [l5,t5,e];unfold gj;rw [<- VB];refine ZM (Aq (bB m _).len (fU m _) ((bB m _).len.mul (bB m _).len) ((fU m _).mul (fU m _)) ?_);rw [iF,yL (bB m q).len (fU m q) (bB m g).len (fU m g),iF,iF]
   refine (aoV (i+m) A B L.length c T.length d (gj i m q) w (lV i q) (aeV (i+m) K1 K2 A B L.length c T.length d L T (gj i m q) P' x.1 x.2 w l3 t3 l4 t4 hT (lV i q) hE (MU i d1 (d:=1000000000000) fun j=>by have:=d3 j;omega) (by rw [t5];exact MU i d2 (d:=1000000000000) fun j=>by have:=d3 j;omega) n3 n4 q1 (by rw [sN];exact k1) (by rw [t5,sN];exact k2) (by omega) hn)).mono ?_;rintro e2 w1 ⟨A1,e1,T1,rfl,z1,z2,z3,z4,z5,z6⟩;exact ⟨_,rfl,⟨A1,e1,T1,rfl,z1,z2,z3,z4,z5⟩,z6⟩
def Rw.nil (w:World) (i m:Nat):Rw w (.slice none 0 0) i m 0:=⟨none,0,[],rfl,aL,by omega,iI.nil _ _,eH.nil _,(xH.2 rfl).symm⟩
def ahG (n:Nat) (a b:Pn n):Prop:=∀(i N:Nat) (w:World) (u v:Value),i+n=N->N<=6->Rw w u i n a->Rw w v i n b->aB 29 #[u,v,.int .i64 (i:Int),.int .i64 (N:Int)] w (fun e w'=>∃g,nh g a b∧iV g∧mI w i n g e w')
def ahE (w:World) (i m:Nat) (g:Pn m) (e:Ending) (w':World):Prop:=∃g':Pn m,(g'=g∨g'= -g)∧iV g'∧mI w i m g' e w'
def G2 {f:Pn m} (hK:K<=3700000000000) (hn:i+m<=6) (fF:iw m K f) (hf:Rw w u i m f):aB 58 #[u] w (ahE w i m f):=by
 obtain ⟨A,c,L,rfl,l1,l2,l3,l4,l5⟩:=hf;obtain ⟨p1,p2,p3,p4⟩:=pn fF l4 l5;refine (Zl K i m hn A c L f w l3 l1 l2 l4 l5 p4 hK p1).mono ?_;rintro e w1 ⟨g',h1,h2,A1,e1,T1,rfl,z1,z2,z3,z4,z5,z6⟩;exact ⟨g',h1,h2,_,rfl,⟨A1,e1,T1,rfl,z1,z2,z3,z4,z5⟩,z6⟩
section
variable {n : Nat} {f : Nat -> Pn n} {m : Nat} {c g : Pn n}
def RL (f:Nat->Pn n) (m:Nat) (c:Pn n):Prop:=(∀i,i<m->Dv c (f i))∧∀d,(∀i,i<m->Dv d (f i))->Dv d c
def RL.zero (f:Nat->Pn n):RL f 0 0:=⟨fun i hi=>absurd hi (rK i),fun d _=>Dv.zero d⟩
def RL.next (h:RL f m c) (hg:nh g c (f m)):RL f (m+1) g:=⟨fun i hi=>by
 by_cases e:i=m
 . rw [e];exact hg.r
 . exact hg.l.trans (h.1 i (by omega)),fun d hd=>hg.top d (h.2 d fun i hi=>hd i (by omega)) (hd m (by omega))⟩
def RL.cont {f:Poly (Pn n)}(h:RL f.co f.len c):Poly.Cont c f:=⟨fun i=>by
 by_cases hi:i<f.len
 . exact h.1 i hi
 . rw [Poly.ay f i (by omega)];exact Dv.zero c,fun d hd=>h.2 d fun i _=>hd i⟩
end
def ahH (n:Nat) (a b:Pn n):Prop:=∀(S:Nat->Prop) (w:World) (u v:Value),aO S n w u a->aO S n w v b->aB 27 #[.int .i64 (n:Int),u,v] w (fun e w'=>∃g,nh g a b∧bW S w n g e w')
def vF (n:Nat) (a b:Pn n):Prop:=ahH n a b∧ahG n a b
def IX (n:Nat) (hn:n<=100) (S:Nat->Prop) (w:World) (v:Value) (f:Pn (n+1)) (hf:aO S (n+1) w v f) (hlen:(kids f).len<=1000000000000) (hc:∀m c,m<(kids f).len->RL (kids f).co m c->vF n c ((kids f).co m)):
 aB 52 #[v,.int .i64 ((n:Int)+1)] w (fun e w'=>∃c,Poly.Cont c (kids f)∧bW S w n c e w'):=by
 obtain ⟨B,c,rfl,h1,h2,h3⟩:=hf.here;have ew:IntKind.i64.wrap ((n:Int)+1-1)=(n:Int):=by rw [bP _ (by omega)];omega
 have ew2:IntKind.i64.wrap (n:Int)=(n:Int):=bP _ (by omega);have t0:=((aX.new w (.bool false) (.slice none 0 0) (.slice B (kids f).len c)).aC (aU.alloc aL (.cells #[.bool false,.slice none 0 0,.slice none 0 0] 51))).aC (aU.alloc aL (.cells #[.bool false,.slice none 0 0,.slice none 0 0] 51));have t1:=(aX.new (w.alloc (.cells #[.bool false,.slice none 0 0,.slice B (kids f).len c] 51)) (.bool false) (.slice none 0 0) (.slice none 0 0)).aC (aU.alloc aL (.cells #[.bool false,.slice none 0 0,.slice none 0 0] 51));have t2:=aX.new ((w.alloc (.cells #[.bool false,.slice none 0 0,.slice B (kids f).len c] 51)).alloc (.cells #[.bool false,.slice none 0 0,.slice none 0 0] 51)) (.bool false) (.slice none 0 0) (.slice none 0 0);rw [aJ] at t1;rw [aJ,aJ] at t2;have hb:Below w.heap.size w (((w.alloc (.cells #[.bool false,.slice none 0 0,.slice B (kids f).len c] 51)).alloc (.cells #[.bool false,.slice none 0 0,.slice none 0 0] 51)).alloc (.cells #[.bool false,.slice none 0 0,.slice none 0 0] 51)):=((aU.alloc aL _).alloc (by simp) _).alloc (by simp;omega) _;have hsz:(((w.alloc (.cells #[.bool false,.slice none 0 0,.slice B (kids f).len c] 51)).alloc (.cells #[.bool false,.slice none 0 0,.slice none 0 0] 51)).alloc (.cells #[.bool false,.slice none 0 0,.slice none 0 0] 51)).heap.size=w.heap.size+1+1+1:=by simp
 have k0:=t0.aN;have H3:=aA h3;have Hc:=aA hc;clear h3 hf hc;unfold bE;go_enter func52,ntmps52
 go_wp2_with fail
 generalize je:((w.alloc (.cells #[.bool false,.slice none 0 0,.slice B (kids f).len c] 51)).alloc (.cells #[.bool false,.slice none 0 0,.slice none 0 0] 51)).alloc (.cells #[.bool false,.slice none 0 0,.slice none 0 0] 51)=wt at*
 clear je;have T1:=aA t1;have T2:=aA t2;have HB:=aA hb;clear t0 t1 t2 hb k0;go_loopw [11] (fun i wr=>∃(m:Nat) (g:Pn n) (s:Bool) (A:Option Addr) (k c':Nat) (B':Option Addr) (m' d':Nat),m<=(kids f).len∧i=.int .i64 (m:Int)∧Hid (RL (kids f).co m g)∧Hid (aX wr (w.heap.size+1+1) (.bool s) (.slice A k c') (.slice B' m' d'))∧Hid (aO (fun b=>(S b∧b<w.heap.size)∨wt.heap.size<=b) n wr (.agg #[.bool s,.slice A k c',.slice B' m' d']) g)∧Hid (Only (fun b=>b=w.heap.size+1+1∨wt.heap.size<=b) wt wr)) (fun i _=>(kids f).len-(intOf i).toNat)
 case atStart=>exact ⟨0,0,false,none,0,0,none,0,0,bL _,rfl,RL.zero _,T2,aO.nought _ _ n,Only.refl _ _⟩
 case round=>
  clear T2;obtain ⟨m,g,s,A,k,c',B',m',d',hm,rfl,hG,hT,hV,j7⟩:=hrel;obtain ⟨wp,rfl⟩:∃wp:World,wp=wr:=⟨_,rfl⟩;have P1:Hid (aX wp (w.heap.size+1) (.bool false) (.slice none 0 0) (.slice none 0 0)):=T1.o.keep (j7.o.block _ T1.o.lt (by omega));have pW:Hid (Below w.heap.size w wp):=HB.o.trans (j7.o.below (oy (by omega)) fun b hb=>by omega);by_cases hlt:m<(kids f).len
  . have dH:(m:Int)<((kids f).len:Int):=by omega
    obtain ⟨b,o,rfl,hb,hl,Ix⟩:=H3.o (by omega);obtain ⟨s1,A1,k1,c1,B1,m1,d1,e1,e2,e3,e4⟩:=Ix m hlt;(have M7:(0:Int)<=(m:Int):=by omega);have g1:=(pW.o.cell (p:=⟨b,o+m*3,none⟩) hl).trans e1;have g2:=(pW.o.cell (p:=⟨b,o+m*3+1,none⟩) hl).trans e2;have g3:=(pW.o.cell (p:=⟨b,o+m*3+2,none⟩) hl).trans e3;(have uv:b<wp.heap.size:=by have:=pW.o.size;omega);have E4:=aA (e4.aC pW.o);clear Ix e1 e2 e3 e4;have uY:Below wp.heap.size wp (wp.alloc (.cells #[.bool s1,.slice A1 k1 c1,.slice B1 m1 d1] 51)):=aU.alloc aL _;have tQ:=hT.o.aC uY;have tX:=aX.new wp (.bool s1) (.slice A1 k1 c1) (.slice B1 m1 d1);have b0:=tQ.cell0;have b1:=tQ.cell1;have b2:=tQ.aN;have hwz:=j7.o.size;have C:=aA ((Hc.o m g hlt hG.o).1 (fun b=>(S b∧b<w.heap.size)∨wt.heap.size<=b) (wp.alloc (.cells #[.bool s1,.slice A1 k1 c1,.slice B1 m1 d1] 51)) _ _ (hV.o.aC uY) ((E4.o.aC uY).mono fun b hb=> .inl hb));have Q1:=aA (P1.o.aC uY);have TQ:=aA tQ;have Hq:=aA uY;(have Sx:w.heap.size+1+1<wp.heap.size:=by have:=hT.o.lt;omega);clear hT hV E4 P1 tQ tX uY;unfold bE at C;(go_wp2_with fail);refine C.o.mono ?_;rintro e w1 ⟨g',CO,s7,A7,k7,c7,B7,m7,d7,rfl,RT,fe⟩;have hq:=Hq.o.size;have T7:=aA (TQ.o.aC fe);have f0:=T7.o.frozen 0;have f1:=T7.o.frozen 1;have f2:=T7.o.frozen 2;have r0:=T7.o.cell0;have r1:=T7.o.cell1;have r2:=T7.o.aN;have HV:Hid (aO (fun b=>(S b∧b<w.heap.size)∨wt.heap.size<=b) n (((w1.setCell ⟨w.heap.size+1+1,0,none⟩ (.bool s7)).setCell ⟨w.heap.size+1+1,1,none⟩ (.slice A7 k7 c7)).setCell ⟨w.heap.size+1+1,2,none⟩ (.slice B7 m7 d7)) (.agg #[.bool s7,.slice A7 k7 c7,.slice B7 m7 d7]) g'):=
     aO.only (aZ w1 (w.heap.size+1+1) _ _ _) (fun b hb e=>by rcases hb with (hb | hb) | hb<;>omega) (fun b hb=>hb.elim id fun h=> .inr (by omega)) RT
    have HT:Hid (aX (((w1.setCell ⟨w.heap.size+1+1,0,none⟩ (.bool s7)).setCell ⟨w.heap.size+1+1,1,none⟩ (.slice A7 k7 c7)).setCell ⟨w.heap.size+1+1,2,none⟩ (.slice B7 m7 d7)) (w.heap.size+1+1) (.bool s7) (.slice A7 k7 c7) (.slice B7 m7 d7)):=T7.o.set _ _ _;have HG:Hid (RL (kids f).co (m+1) g'):=hG.o.next CO;have HON:Hid (Only (fun b=>b=w.heap.size+1+1∨wt.heap.size<=b) wt (((w1.setCell ⟨w.heap.size+1+1,0,none⟩ (.bool s7)).setCell ⟨w.heap.size+1+1,1,none⟩ (.slice A7 k7 c7)).setCell ⟨w.heap.size+1+1,2,none⟩ (.slice B7 m7 d7))):=
     ((j7.o.trans ((Only.bZ Hq.o).mono fun b hb=> .inr (by omega))).trans ((Only.bZ fe).mono fun b hb=> .inr (by omega))).trans ((aZ w1 (w.heap.size+1+1) _ _ _).mono fun b hb=> .inl hb)
    clear RT fe C TQ Hq hG CO j7;unfold bE;(go_wp2_with fail);go_roundw
    case rel=>exact ⟨m+1,g',s7,A7,k7,c7,B7,m7,d7,by omega,by go_num,HG,HT,HV,HON⟩
    case measure=>simp [intOf];omega
  . have dH:¬(m:Int)<((kids f).len:Int):=by omega
    (obtain rfl:m=(kids f).len:=by omega);have b0:=hT.o.cell0;have b1:=hT.o.cell1;have b2:=hT.o.aN;have r0:=P1.o.cell0;have r1:=P1.o.cell1;have r2:=P1.o.aN;have r3:=P1.o.frozen 0;have r4:=P1.o.frozen 1;have r5:=P1.o.frozen 2;have F:Hid (aO (fun b=>S b∨w.heap.size<=b) n (((wp.setCell ⟨w.heap.size+1,0,none⟩ (.bool s)).setCell ⟨w.heap.size+1,1,none⟩ (.slice A k c')).setCell ⟨w.heap.size+1,2,none⟩ (.slice B' m' d')) (.agg #[.bool s,.slice A k c',.slice B' m' d']) g):=
     aO.only (aZ wp (w.heap.size+1) _ _ _) (fun b hb e=>by rcases hb with hb | hb<;>omega) (fun b hb=>hb.imp (fun h=>h.1) fun h=>by omega) hV.o
    have nI:Hid (Below w.heap.size w (((wp.setCell ⟨w.heap.size+1,0,none⟩ (.bool s)).setCell ⟨w.heap.size+1,1,none⟩ (.slice A k c')).setCell ⟨w.heap.size+1,2,none⟩ (.slice B' m' d'))):=((pW.o.setCell (p:=⟨w.heap.size+1,0,none⟩) (rI _) _).setCell (p:=⟨w.heap.size+1,1,none⟩) (rI _) _).setCell (p:=⟨w.heap.size+1,2,none⟩) (rI _) _;have HG:=aA hG.o.cont;clear hT hV j7 hG;(go_wp2_with fail);exact bK (v:=.agg #[.bool s,.slice A k c',.slice B' m' d']) (dO (fn:=f52) rfl _ _ _ _ _ _ _ rfl (P1.o.set (.bool s) (.slice A k c') (.slice B' m' d')) underlying51 rfl cW) rfl
     ⟨g,HG.o,s,A,k,c',B',m',d',rfl,F.o,nI.o⟩
