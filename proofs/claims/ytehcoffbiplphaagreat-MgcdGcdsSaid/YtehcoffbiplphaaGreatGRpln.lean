import Derived.Deep.DeepCutAuto
import Derived.Deep.CutBlock
import Derived.Test.YtehcoffbiplphaaGreatGPlB
set_option linter.all false
set_option maxHeartbeats 32000000
set_option maxRecDepth 100000
namespace Go.Proofs.YtehcoffbiplphaaGreat
open Go.Proofs.Tryz
open Go.RowKit
variable {base g B n k m c d size cap K i:Nat} {w w' w0 wr wt w3:World} {u v:Value} {A E:Option Addr} {xs:List Value} {t:TypeId} {s:Bool} {ys ls:List Int} {e:Ending} {z:Int}
def WN (z:Int):Lq z=0↔z=0:=by unfold Lq;split<;>(try split)<;>omega
def nW:(prog.info? 44).map (fun i=>(i.zero,i.size,i.bytes))=some (some (.agg #[.bool false,.slice none 0 0,.slice none 0 0]),3,56):=by kernel_rfl
def vO (w:World) (e:TypeId) (hb:base<=w.heap.size):(w.alloc (.cells #[] e)).ownsRow base e 3 (.slice (some ⟨w.heap.size,0,none⟩) 0 0) 0 []:=by
 have:=Sy (e:=e) (size:=3) w #[] 0 hb (by unfold maxLen;omega) (by simp);simpa using this
def ve (w:World) (u v x:Value) (t:TypeId):(w.alloc (.cells #[u,v,x] t)).cell? ⟨w.heap.size,0,none⟩=some u∧(w.alloc (.cells #[u,v,x] t)).cell? ⟨w.heap.size,1,none⟩=some v∧(w.alloc (.cells #[u,v,x] t)).cell? ⟨w.heap.size,2,none⟩=some x:=by
 have hb:=bO w (.cells #[u,v,x] t);refine ⟨?_,?_,?_⟩<;>simp only [World.cell?,hb]<;>rfl
def xF {x:Value}(h0:w.cell? ⟨g,0,none⟩=some u) (h1:w.cell? ⟨g,1,none⟩=some v) (h2:w.cell? ⟨g,2,none⟩=some x) (hg:g<B):Reads w B 3 (some ⟨g,0,none⟩) 1 [u,v,x]:=by
 refine ⟨rfl,fun _=>⟨_,rfl,hg,fun j y hy=> ?_⟩⟩;rw [kI];match j,hy with
 | 0,hy=>rw [h0];simpa using hy
 | 1,hy=>rw [h1];simpa using hy
 | 2,hy=>rw [h2];simpa using hy
 | j+3,hy=>exact absurd hy (by simp)
def Eo (w:World) (u v x:Value) (t:TypeId):Reads (w.alloc (.cells #[u,v,x] t)) (w.heap.size+1) 3 (some ⟨w.heap.size,0,none⟩) 1 [u,v,x]:=by
 obtain ⟨h0,h1,h2⟩:=ve w u v x t;exact xF h0 h1 h2 (xm _)
def OH (h:Reads w B 3 A n xs) (hk:k<=n):Reads w B 3 A k (xs.take (k*3)):=
 ⟨by rw [cS,h.1];omega,fun h0=>by
   obtain ⟨ad,e,hb,hc⟩:=h.2 (by omega);refine ⟨ad,e,hb,fun j u hu=>hc j u ?_⟩;rw [Vj] at hu;split at hu
   . exact hu
   . cases hu⟩
def RM (aY:w'.ownsRow base t 3 v n xs):∃A c,v=.slice A n c∧n<=c∧c<=9223372036854775807∧(0<n->∃g,A=some ⟨g,0,none⟩∧base<=g∧g<w'.heap.size):=by
 rcases aY.2 with ⟨hv,h0⟩ | ⟨g,cap,cur,hv,h1,h2,h3,h4,_⟩
 . exact ⟨none,0,by rw [hv,h0],by omega,by omega,fun h=>absurd h (by omega)⟩
 . exact ⟨_,_,hv,h3,by unfold maxLen at h4;omega,fun _=>⟨g,rfl,h1,(jf.1 h2).1⟩⟩
def rO (w:World) (g:Nat) (u v x:Value):Prop:=w.heap[g]? =some (.cells #[u,v,x] 44 (0,0))
section
variable {w w' : World} {g : Nat} {u v x : Value}
section
variable (h:rO w g u v x)
include h
theorem rO.lt:g<w.heap.size:=(jf.1 h).1
theorem rO.cell0:w.cell? ⟨g,0,none⟩=some u:=by rw [dA w g 0 _ _ (0,0) h];rfl
theorem rO.cell1:w.cell? ⟨g,1,none⟩=some v:=by rw [dA w g 1 _ _ (0,0) h];rfl
theorem rO.aP:w.cell? ⟨g,2,none⟩=some x:=by rw [dA w g 2 _ _ (0,0) h];rfl
end
def rO.frozen (h:rO w g u v x) (i:Nat):w.frozen? ⟨g,i,none⟩=false:=by unfold rO at h;simp [World.frozen?,h]
def rO.aB (h:rO w g u v x) (hb:Below w.heap.size w w'):rO w' g u v x:=(hb.block g h.lt).trans h
def rO.drew (h:rO w g u v x):rO w.drew g u v x:=h
def rO.alloc (h:rO w g u v x) (o:Obj):rO (w.alloc o) g u v x:=h.aB (aW.alloc aK o)
def rO.new (w:World) (u v x:Value):rO (w.alloc (.cells #[u,v,x] 44)) w.heap.size u v x:=bO w _
def rO.grown (h:rO w g u v x) {b:Nat}(hg:w.grownBy w' (some b)) (hne:g≠b):rO w' g u v x:=(hg.block g h.lt (fun e=>hne (by injection e))).trans h
def rO.set (h:rO w g u v x) (a b c:Value):rO (((w.setCell ⟨g,0,none⟩ a).setCell ⟨g,1,none⟩ b).setCell ⟨g,2,none⟩ c) g a b c:=by
 unfold rO at h ⊢;simp [World.setCell,wI,h]
end
section
variable (h:rO w g (.bool s) (.slice A m c) (.slice E n d))
include h
theorem rO.keeps (a b x:Value) {p:Addr} (hu:w.cell? p=some u) (h1:∀s,u≠ .bool s) (h2:∀A m c,u≠ .slice A m c):(((w.setCell ⟨g,0,none⟩ a).setCell ⟨g,1,none⟩ b).setCell ⟨g,2,none⟩ x).cell? p=some u:=by
 rw [iF _ _ _ _ (fun e=> ?_),iF _ _ _ _ (fun e=> ?_),iF _ _ _ _ (fun e=> ?_)]
 . exact hu
 . rw [<- e,h.cell0] at hu;injection hu with hu;exact h1 _ hu.symm
 . rw [<- e,h.cell1] at hu;injection hu with hu;exact h2 _ _ _ hu.symm
 . rw [<- e,h.aP] at hu;injection hu with hu;exact h2 _ _ _ hu.symm
theorem rO.limbs (a b x:Value) {B:Option Addr} (hi:aD w B k ys):aD (((w.setCell ⟨g,0,none⟩ a).setCell ⟨g,1,none⟩ b).setCell ⟨g,2,none⟩ x) B k ys:=by
 refine ⟨hi.len,fun hm=> ?_,hi.ok⟩;obtain ⟨bb,o,e,hb,hc⟩:=hi.at_ hm;exact ⟨bb,o,e,by simpa using hb,fun i hlt=>h.keeps a b x (hc i hlt) (fun _ e=>by cases e) (fun _ _ _ e=>by cases e)⟩
theorem rO.ints (a b x:Value) {B:Option Addr} (hi:Ints w B k ys):Ints (((w.setCell ⟨g,0,none⟩ a).setCell ⟨g,1,none⟩ b).setCell ⟨g,2,none⟩ x) B k ys:=by
 refine ⟨hi.len,fun hm=> ?_,hi.ok⟩;obtain ⟨bb,o,e,hb,hc⟩:=hi.at_ hm;exact ⟨bb,o,e,by simpa using hb,fun i hlt=>h.keeps a b x (hc i hlt) (fun _ e=>by cases e) (fun _ _ _ e=>by cases e)⟩
end
def O6 {S:Nat->Prop} {xs:List Int}(h:aD w A n xs) (ho:Only S w w') (hA:0<n->∀y,A=some y->¬S y.block):aD w' A n xs:=
 ⟨h.len,fun hn=>by
   obtain ⟨b,o,e,hb,hc⟩:=h.at_ hn;refine ⟨b,o,e,gh hb ho.size,fun i hi=> ?_⟩;rw [ho.cell (p:=⟨b,o+i,none⟩) hb (hA hn ⟨b,o,none⟩ e)];exact hc i hi,h.ok⟩
def mJ {xs:List Int}(h:aD w A n xs) (aY:w.ownsRow base t 1 (.slice (some ⟨g,0,none⟩) 0 0) 0 []) (hg:w.grownBy w' (some g)):aD w' A n xs:=by
 refine O6 h (Only.fH hg) fun hn y hy e=> ?_;obtain ⟨b,o,eA,hb,hc⟩:=h.at_ hn;rw [eA] at hy;injection hy with hy
 subst hy;injection e with e
 have e:g=b:=e;subst e;have h0:=hc 0 hn;rcases aY.2 with ⟨hv,_⟩ | ⟨g',cap,cur,hv,h1,h2,h3,h4,h5⟩
 . cases hv
 . injection hv with wN Rs VA
   injection wN with wN
   injection wN with wN
   subst wN;subst VA;rw [dA w g (o+0) _ _ (0,0) h2] at h0;have hz:cur.size=0:=by have:=h5.1;simpa using this
   rw [Xs (by omega)] at h0;cases h0
def ara (w0 w:World) (gt:Nat) (s:Bool) (xs:List Int) (ps:fE):Prop:=
 ∃s6 A6 k6 c6 ls E7 c7,rO w gt (.bool s6) (.slice A6 k6 c6) (.slice E7 ps.length c7)∧k6<=c6∧c6<=9223372036854775807∧ps.length<=c7∧c7<=9223372036854775807∧aD w A6 k6 ls∧Ints w E7 ps.length ps∧bW s6 ls (aF s xs)∧(0<k6->∀y,A6=some y->w0.heap.size<=y.block)∧(0<ps.length->∀y,E7=some y->w0.heap.size<=y.block)∧Below w0.heap.size w0 w
def oB (w:World) (n:Nat) (M:Mv) (e:Ending) (w':World):Prop:=
 ∃A c L,e=.returned (.slice A L.length c)∧L.length<=c∧c<=9223372036854775807∧jM w' A L.length L∧eP n L∧jR n (aU L) M∧Below w.heap.size w w'
def oB.from_ {M:Mv} (h:oB w n M e w') (hb:Below w0.heap.size w0 w):oB w0 n M e w':=by
 obtain ⟨A,c,L,h1,h2,h3,h4,h5,h6,h7⟩:=h;exact ⟨A,c,L,h1,h2,h3,h4,h5,h6,hb.tm h7⟩
def qG (w:World) (n:Nat) (M:Mv) (e:Ending) (w':World):Prop:=
 ∃A c L,e=.returned (.slice A L.length c)∧L.length<=c∧c<=9223372036854775807∧jM w' A L.length L∧eP n L∧jR n (aU L) M∧(∀W,Only (fun k=>k<w.heap.size) w' W->jM W A L.length L)∧Below w.heap.size w w'
def qG.r {M:Mv} (h:qG w n M e w'):oB w n M e w':=by
 obtain ⟨A,c,L,h1,h2,h3,h4,h5,h6,_,h7⟩:=h;exact ⟨A,c,L,h1,h2,h3,h4,h5,h6,h7⟩
def qG.from_ {M:Mv} (h:qG w n M e w') (hb:Below w0.heap.size w0 w):qG w0 n M e w':=by
 obtain ⟨A,c,L,h1,h2,h3,h4,h5,h6,h8,h7⟩:=h;exact ⟨A,c,L,h1,h2,h3,h4,h5,h6,fun W hW=>h8 W (hW.mono fun k hk=>gh hk hb.size),hb.tm h7⟩
def UD (base:Nat) (x:bA):Prop:=(0<x.2.1.2.length->∀y,x.1.1.1=some y->base<=y.block)∧(0<x.2.2.length->∀y,x.1.2.1=some y->base<=y.block)
def ZH {lo:Nat} (h:w.ownsRow base t size v n xs) (FC:lo<=base) (ho:Only (fun k=>k<lo) w w'):w'.ownsRow base t size v n xs:=by
 refine ⟨h.1,?_⟩;rcases h.2 with h2 | ⟨g,cap,cur,hv,h1,h2,h3⟩
 . exact .inl h2
 . exact .inr ⟨g,cap,cur,hv,h1,(ho.block g (jf.1 h2).1 (by omega)).trans h2,h3⟩
structure vu (w0 wr:World) (n:Nat) (v:Value) (E:List bA) (M:Mv):Prop where
 own:wr.ownsRow w0.heap.size 44 3 v E.length (aS E)
 ok:∀x∈E,gL wr x∧bW x.2.1.1 x.2.1.2 (aF x.2.1.1 x.2.1.2)
 len:∀x∈E,x.2.2.length=n
 fall:xu E
 fr:∀x∈E,UD w0.heap.size x
 eq:jR n (aU (E.map (·.2))) M
 aB:Below w0.heap.size w0 wr
def vu.start (w:World) (n:Nat):vu w w n (.slice none 0 0) [] []:=
 ⟨nu _ _ _ _,fun x hx=>(by cases hx),fun x hx=>(by cases hx),List.Pairwise.nil,fun x hx=>(by cases hx),fun _ _=>rfl,aW⟩
def dZ {e:TypeId} (h:w.ownsRow base e size v n xs) (hb:Below w.heap.size w w'):w'.ownsRow base e size v n xs:=by
 refine ⟨by simpa using h.1,?_⟩;rcases h.2 with h2 | ⟨g,cap,cur,hv,h1,h2,h3⟩
 . exact .inl h2
 . exact .inr ⟨g,cap,cur,hv,h1,(hb.block g (jf.1 h2).1).trans h2,h3⟩
def vu.ji {E:List bA} {M:Mv}(h:vu w0 wr n v E M) (hb:Below wr.heap.size wr wt):vu w0 wt n v E M:=
 ⟨dZ h.own hb,fun x hx=>⟨(h.ok x hx).1.aB hb,(h.ok x hx).2⟩,h.len,h.fall,h.fr,h.eq,h.aB.tm hb⟩
def vu.insert {v3:Value} {E:List bA} {M:Mv} {x:bA}(h:vu w0 wt n v E M) (hk:k<=E.length)
 (h1:∀j (hj:j<E.length),j<k->jN x.2.2 (E[j]).2.2) (h2:∀(hk:k<E.length),jN (E[k]).2.2 x.2.2) (jq:x.2.2.length=n) (hz:bW x.2.1.1 x.2.1.2 (aF x.2.1.1 x.2.1.2)) (hfr:UD w0.heap.size x) (hx:gL w3 x)
 (aY:w3.ownsRow w0.heap.size 44 3 v3 (E.length+1) (aS (E.take k++x::E.drop k))) (hb:Below wt.heap.size wt w3):vu w0 w3 n v3 (E.take k++x::E.drop k) (M++[bp x.2]):=by
 have hl:(E.take k++x::E.drop k).length=E.length+1:=by simp;omega
 refine ⟨by rw [hl];exact aY,fun y hy=> ?_,fun y hy=> ?_,h.fall.insert h1 h2,fun y hy=> ?_,insert_eq h.eq,h.aB.tm hb⟩
 . rcases gV.1 hy with hy | hy
   . exact ⟨(h.ok y (uU hy)).1.aB hb,(h.ok y (uU hy)).2⟩
   . rcases iV.1 hy with rfl | hy
     . exact ⟨hx,hz⟩
     . exact ⟨(h.ok y (vh hy)).1.aB hb,(h.ok y (vh hy)).2⟩
 . rcases gV.1 hy with hy | hy
   . exact h.len y (uU hy)
   . rcases iV.1 hy with rfl | hy
     . exact jq
     . exact h.len y (vh hy)
 . rcases gV.1 hy with hy | hy
   . exact h.fr y (uU hy)
   . rcases iV.1 hy with rfl | hy
     . exact hfr
     . exact h.fr y (vh hy)
def vu.add {E:List bA} {M:Mv} {t:mj} (h:vu w0 wt n (.slice (some ⟨g,0,none⟩) E.length cap) E M) (hk:k<E.length)
 (hp:(E[k]).2.2=t.1) (hz:bW s ls (aF (E[k]).2.1.1 (E[k]).2.1.2+t.2)) (hL:aD w3 A ls.length ls) (Qf:ls.length<=c) (Ml:c<=9223372036854775807) (hfA:0<ls.length->∀y,A=some y->w0.heap.size<=y.block) (hb:Below wt.heap.size wt w3):
 vu w0 ((w3.setCell ⟨g,3*k,none⟩ (.bool s)).setCell ⟨g,3*k+1,none⟩ (.slice A ls.length c)) n (.slice (some ⟨g,0,none⟩) E.length cap) (E.set k (Gd E[k] s A c ls)) (M++[t]):=by
 have h3:=h.ji hb;obtain ⟨t0,t1,t2⟩:=jH hk;have c0:=h3.own.cells (g:=g) rfl (3*k) _ t0;have c1:=h3.own.cells (g:=g) rfl (3*k+1) _ t1;rw [kI,ct] at c0 c1;have hg:=h3.own.lt g rfl;have ho:w0.heap.size<=g:=hg.1;have o2:=(((h3.own.stored (3*k) (.bool s)).1).stored (3*k+1) (.slice A ls.length c)).1;rw [GR E k hk s A c ls] at o2;refine ⟨by rw [gH];exact o2,fun y hy=> ?_,fun y hy=> ?_,h.fall.put hk _ _ _ _,fun y hy=> ?_,put_eq h.eq hk hp hz.eq,(h3.aB.setCell (p:=⟨g,3*k,none⟩) ho _).setCell (p:=⟨g,3*k+1,none⟩) ho _⟩
 . rcases rK hy with hy | rfl
   . exact ⟨(h3.ok y hy).1.zg _ _ c0 c1,(h3.ok y hy).2⟩
   . have hk4:=(h3.ok _ (bw hk)).1.zg (.bool s) (.slice A ls.length c) c0 c1
     exact ⟨⟨Qf,Ml,hk4.2.2.1,hk4.2.2.2.1,hL.zg c0 c1 (fun _ e=>by cases e) (fun _ e=>by cases e),hk4.2.2.2.2.2⟩,by show bW s ls (aF s ls);rw [hz.eq];exact hz⟩
 . rcases rK hy with hy | rfl
   . exact h.len y hy
   . show (E[k]).2.2.length=n
     exact h.len _ (bw hk)
 . rcases rK hy with hy | rfl
   . exact h.fr y hy
   . exact ⟨hfA,(h.fr _ (bw hk)).2⟩
def vu.short {E:List bA} {L:List TV} (h:vu w0 wr n v E (aU (L.take i))) (IP:bM (aU L)<2^(64*K)):∀x∈E,x.2.1.2.length<=K:=fun x hx=>by
 have h1:=abh h.fall h.len h.eq x hx;have h2:bM (aU (L.take i))<=bM (aU L):=by
  have:aU (L.take i)=(aU L).take i:=QD;rw [this];exact Xr _ _
 have h3:limbs x.2.1.2<2^(64*K):=by
  have h4:(aF x.2.1.1 x.2.1.2).natAbs=limbs x.2.1.2:=by unfold aF;split<;>omega
  omega
 exact zL (h.ok x hx).2.pl h3
def KF (n C K:Nat) (A:Option Addr) (m c:Nat) (L:List TV) (w:World) (hx:jM w A m L) (hl:∀t∈L,t.2.length=n) (hC:∀t∈L,t.1.2.length<=C) (hC1:C<=3900000000000) (hK:K<=3900000000000) (IP:bM (aU L)<2^(64*K)) (hm:m<=2400000000000) (hn:n<=1000000):
 aC 30 #[.slice A m c] w (qG w n (aU L)):=by
 obtain ⟨i0,hi,iQ,iC,iP⟩:=dJ nW;obtain ⟨j0,hj,uK,yg,Fw⟩:=dJ sD;have Hx:=aA hx;have HL:=aA hx.len;have Hl:=aA hl;have HC:=aA hC;have Hab:=aA IP;clear hx hl hC IP;go_enter func30,ntmps30
 obtain ⟨wo,rfl⟩:∃wo:World,wo=w:=⟨_,rfl⟩;go_wp2_with fail
 go_loopw [3,4] (fun v i wr=>∃(k:Nat) (E:List bA),k<=m∧i=.int .i64 (k:Int)∧Hid (vu wo wr n v E (aU (L.take k)))∧E.length<=k) (fun _ i _=>m-(intOf i).toNat)
 case atStart=>exact ⟨0,[],by omega,rfl,vu.start _ _,aK⟩
 case round=>
  obtain ⟨i,E,him,rfl,hI,Kv⟩:=hrel;obtain ⟨wt,rfl⟩:∃wt:World,wt=wr:=⟨_,rfl⟩;obtain ⟨B,cap,rfl,uB,ahg,hB⟩:=RM hI.o.own;have HB:=aA hB;clear hB;by_cases hlt:i<m
  . obtain ⟨b,o,rfl,hb,hc⟩:=Hx.o.at_ (by omega)
    (have hiL:i<L.length:=by rw [HL.o];exact hlt);obtain ⟨Ai,ci,Ei,ei,e1,e2,e3,e4,e5,e6,e7,e8,e9⟩:=hc i hiL;have wY:=Hl.o _ (bw hiL);have Qc:=HC.o _ (bw hiL);(have XD:aU (L.take (i+1))=aU (L.take i)++[bp L[i]]:=by rw [lu hiL,fT];rfl);have Htk:=aA XD;clear hc XD;generalize L[i]=x at*
    obtain ⟨⟨s,xs⟩,ps⟩:=x;simp only at e1 e2 e3 e4 e6 e8 e9 wY Qc;have JO:=aA wY;rw [aq 3 i] at e1 e2 e3;rw [<- j9] at e2 e3;(have dI:(i:Int)<(m:Int):=by omega);(have uA:(0:Int)<=(i:Int):=by omega);have kj:=aA hI.o.aB;have gw:Hid (∀W,Below wo.heap.size wo W->W.cell? ⟨b,o+i*3,none⟩=some (.bool s)∧W.cell? ⟨b,o+i*3+1,none⟩=some (.slice Ai xs.length ci)∧W.cell? ⟨b,o+i*3+2,none⟩=some (.slice Ei ps.length ei)):=fun W hW=>
     ⟨(hW.cell (p:=⟨b,o+i*3,none⟩) hb).trans e1,(hW.cell (p:=⟨b,o+i*3+1,none⟩) hb).trans e2,(hW.cell (p:=⟨b,o+i*3+2,none⟩) hb).trans e3⟩
    have E8:=aA e8;have E9:=aA e9;clear e8 e9 e1 e2 e3 wY;go_upto_block 2 with fail
    go_cut [5] (fun s5 wx=>∃k q:Nat,k<=E.length∧s5=.int .i64 (k:Int)∧wx=wt.drewN q∧Hid (∀j (h:j<E.length),j<k->jN ps (E[j]).2.2)∧Hid (∀hk:k<E.length,¬jN ps (E[k]).2.2))
    case first=>
     (go_wp2_with fail);go_loopw [5] (fun v wr=>∃k q:Nat,k<=E.length∧v=.int .i64 (k:Int)∧wr=wt.drewN q∧Hid (∀j (h:j<E.length),j<k->jN ps (E[j]).2.2)) (fun v _=>E.length-(intOf v).toNat)
     case atStart=>exact ⟨0,0,by omega,rfl,rfl,fun j _ h=>absurd h (by omega)⟩
     case round=>
      obtain ⟨k,q,hk,rfl,rfl,aaN⟩:=hrel;by_cases rL:k<E.length
      . obtain ⟨g,rfl,wQ,R9⟩:=HB.o (by omega)
        obtain ⟨t0,t1,t2⟩:=jH rL;have c2:=hI.o.own.cells (g:=g) rfl (3*k+2) _ t2;rw [kI,ct,aq 3 k] at c2;obtain ⟨a1,a2,a3⟩:=gw.o _ kj.o;have FB:=(hI.o.ok _ (bw rL)).1;have jq:=hI.o.len _ (bw rL);have Cc:Hid (∀q,aC 65 #[.slice (E[k]).1.2.1 (E[k]).2.2.length (E[k]).1.2.2,.slice Ei ps.length ei] (wt.drewN q) fun e w'=>e=.returned (.int .i64 (rV (E[k]).2.2 ps))∧∃k,w'=(wt.drewN q).drewN k):=fun q=>by
         have h:=ED (E[k]).1.2.1 Ei n (E[k]).1.2.2 ei (E[k]).2.2 ps (wt.drewN q) (by rw [<- jq];exact FB.2.2.2.2.2.aB (below_drewN aW _)) (by rw [<- JO.o];exact E9.o.aB (kj.o.trans ((below_drewN aW _).mono kj.o.size))) (by omega);rw [jq,JO.o];exact h
        have hxc:=FB.2.2.1;have Z8:=jN.tri (jq.trans JO.o.symm);(have aaw:(k:Int)<(E.length:Int):=by omega);have hkd:decide ((k:Int)<(E.length:Int))=true:=Ir aaw;(have wP:(0:Int)<=(k:Int):=by omega);clear t0 t1 t2 FB jq;have Hbk:Hid (jN ps (E[k]).2.2->∀j (h:j<E.length),j<k+1->jN ps (E[j]).2.2):=fun h j hj hjk=>by
         by_cases e:j=k
         . subst e;exact h
         . exact aaN.o j hj (by omega)
        by_cases yP:jN ps (E[k]).2.2
        . have wS:=M3 yP
          rw [wS] at Cc;have Hn:=aA (Hbk.o yP);clear wS yP Z8 Hbk;generalize E[k]=y at*
          obtain ⟨⟨⟨Ay,cy⟩,⟨Ey,dy⟩⟩,⟨⟨sy,ys⟩,py⟩⟩:=y;simp only at c2 Cc hxc;(go_wp2_with fail);go_quiet ((go_at_call 65;first | exact rQ (Cc.o _) | exact Gc (Cc.o _)))
          (go_wp2_with fail);go_roundw
          case rel=>exact ⟨k+1,_,by omega,by go_num,by first | rfl | exact fJ _ _ _ | (rw [fJ,fJ]),Hn⟩
          case measure=>simp [intOf];omega
        . have hng:¬0<rV (E[k]).2.2 ps:=fun h=>by
           rcases Z8 with h1 | h1 | h1
           . rw [GF h1] at h;omega
           . rw [h1,yS] at h;omega
           . exact yP h1
          have Hng:Hid (∀hk:k<E.length,¬jN ps (E[k]).2.2):=fun _=>yP;generalize rV (E[k]).2.2 ps=cv at*
          clear yP Z8 Hbk;generalize E[k]=y at*
          obtain ⟨⟨⟨Ay,cy⟩,⟨Ey,dy⟩⟩,⟨⟨sy,ys⟩,py⟩⟩:=y;simp only at c2 Cc hxc;(go_wp2_with fail);go_quiet ((go_at_call 65;first | exact rQ (Cc.o _) | exact Gc (Cc.o _)))
          (go_wp2_with fail);go_meet
          exact ⟨k,_,hk,rfl,by first | rfl | exact fJ _ _ _ | (rw [fJ,fJ]),aaN,Hng⟩
      . have hkd:decide ((k:Int)<(E.length:Int))=false:=zC (by omega)
        have awq:decide (k<E.length)=false:=zC rL;have Hng:Hid (∀hk:k<E.length,¬jN ps (E[k]).2.2):=fun h=>absurd h rL;clear rL;(go_wp2_with fail);go_quiet (fail)
        (go_wp2_with fail);go_meet
        exact ⟨k,_,hk,rfl,by first | rfl | exact fJ _ _ _ | (rw [fJ,fJ]),aaN,Hng⟩
    case rest=>
     obtain ⟨k,q,hk,rfl,rfl,aaN,hng⟩:=hcut;(go_wp2_with fail);go_cut [52] (fun s52 wx=>∃q2:Nat,wx=wt.drewN q2∧((s52=.bool true∧Hid (∃hk:k<E.length,(E[k]).2.2=ps))∨(s52=.bool false∧Hid (∀hk:k<E.length,jN (E[k]).2.2 ps))))
     case first=>
      by_cases rL:k<E.length
      . obtain ⟨g,rfl,wQ,R9⟩:=HB.o (by omega)
        obtain ⟨t0,t1,t2⟩:=jH rL;have c2:=hI.o.own.cells (g:=g) rfl (3*k+2) _ t2;rw [kI,ct,aq 3 k] at c2;obtain ⟨a1,a2,a3⟩:=gw.o _ kj.o;have FB:=(hI.o.ok _ (bw rL)).1;have jq:=hI.o.len _ (bw rL);have Cc:Hid (∀q,aC 65 #[.slice (E[k]).1.2.1 (E[k]).2.2.length (E[k]).1.2.2,.slice Ei ps.length ei] (wt.drewN q) fun e w'=>e=.returned (.int .i64 (rV (E[k]).2.2 ps))∧∃k,w'=(wt.drewN q).drewN k):=fun q=>by
         have h:=ED (E[k]).1.2.1 Ei n (E[k]).1.2.2 ei (E[k]).2.2 ps (wt.drewN q) (by rw [<- jq];exact FB.2.2.2.2.2.aB (below_drewN aW _)) (by rw [<- JO.o];exact E9.o.aB (kj.o.trans ((below_drewN aW _).mono kj.o.size))) (by omega);rw [jq,JO.o];exact h
        have hxc:=FB.2.2.1;have Z8:=jN.tri (jq.trans JO.o.symm);(have aaw:(k:Int)<(E.length:Int):=by omega);have hkd:decide ((k:Int)<(E.length:Int))=true:=Ir aaw;(have wP:(0:Int)<=(k:Int):=by omega);clear t0 t1 t2 FB jq;have ajA:=hng.o rL;rcases Z8 with h | h | h
        . have wS:=GF h
          rw [wS] at Cc;have Hn:Hid (∀hk:k<E.length,jN (E[k]).2.2 ps):=fun _=>h;clear wS h ajA;generalize E[k]=y at*
          obtain ⟨⟨⟨Ay,cy⟩,⟨Ey,dy⟩⟩,⟨⟨sy,ys⟩,py⟩⟩:=y;simp only at c2 Cc hxc;(go_wp2_with fail);go_quiet ((go_at_call 65;first | exact rQ (Cc.o _) | exact Gc (Cc.o _)))
          (go_wp2_with fail);go_meet
          exact ⟨_,by first | rfl | exact fJ _ _ _ | (rw [fJ,fJ]),.inr ⟨rfl,Hn⟩⟩
        . have wS:rV (E[k]).2.2 ps=0:=by rw [h,yS]
          rw [wS] at Cc;have Hn:Hid (∃hk:k<E.length,(E[k]).2.2=ps):=⟨rL,h⟩;clear wS h ajA;generalize E[k]=y at*
          obtain ⟨⟨⟨Ay,cy⟩,⟨Ey,dy⟩⟩,⟨⟨sy,ys⟩,py⟩⟩:=y;simp only at c2 Cc hxc;(go_wp2_with fail);go_quiet ((go_at_call 65;first | exact rQ (Cc.o _) | exact Gc (Cc.o _)))
          (go_wp2_with fail);go_meet
          exact ⟨_,by first | rfl | exact fJ _ _ _ | (rw [fJ,fJ]),.inl ⟨rfl,Hn⟩⟩
        . exact absurd h ajA
      . have hkd:decide ((k:Int)<(E.length:Int))=false:=zC (by omega)
        have awq:decide (k<E.length)=false:=zC rL;have Hn:Hid (∀hk:k<E.length,jN (E[k]).2.2 ps):=fun h=>absurd h rL;clear rL;(go_wp2_with fail);go_quiet (fail)
        (go_wp2_with fail);go_meet
        exact ⟨_,by first | rfl | exact fJ _ _ _ | (rw [fJ,fJ]),.inr ⟨rfl,Hn⟩⟩
     case rest=>
      obtain ⟨q2,rfl,h52⟩:=hcut;have XN:Below wt.heap.size wt (wt.drewN q2):=below_drewN aW _;generalize (wt.drewN q2)=w5 at*
      rcases h52 with ⟨rfl,hEq⟩ | ⟨rfl,hni⟩
      . obtain ⟨rL,hpe⟩:=hEq.o
        obtain ⟨g,rfl,wQ,R9⟩:=HB.o (by omega);have XV:=hI.o.ji XN;obtain ⟨t0,t1,t2⟩:=jH rL;have C0:=XV.own.cells (g:=g) rfl (3*k) _ t0;have C1:=XV.own.cells (g:=g) rfl (3*k+1) _ t1;rw [kI,ct,aq 3 k] at C0 C1;have FB:=(XV.ok _ (bw rL)).1;have hxs:=XV.short Hab.o _ (bw rL);have H5:=aA XV;have hg5:=XV.own.lt g rfl;have hf:Hid (∀W,Below w5.heap.size w5 W->W.frozen? ⟨g,k*3,none⟩=false∧W.frozen? ⟨g,k*3+1,none⟩=false):=fun W hW=>⟨(H5.o.ji hW).own.frozenAt _,(H5.o.ji hW).own.frozenAt _⟩;have HkT:=aA (fun (s1:Bool) (A1:Option Addr) (c1:Nat) (l1:List Int) (w3:World) (hz:bW s1 l1 (aF (E[k]).2.1.1 (E[k]).2.1.2+aF s xs)) (hL:aD w3 A1 l1.length l1) (h1:l1.length<=c1) (h2:c1<=9223372036854775807) (hfA:0<l1.length->∀y,A1=some y->wo.heap.size<=y.block) (hb:Below w5.heap.size w5 w3)=>H5.o.add (t:=(ps,aF s xs)) rL hpe hz hL h1 h2 hfA hb);have lD:Hid (∀y,(E.set k y).length=E.length):=fun y=>gH;have Zx:=aA (fun W (hW:Below w5.heap.size w5 W)=>gw.o _ (H5.o.aB.tm hW));obtain ⟨b1,b2,b3⟩:=Zx.o _ aW;have Ca:Hid (∀W,Below w5.heap.size w5 W->aC 66 #[.agg #[.bool (E[k]).2.1.1,.slice (E[k]).1.1.1 (E[k]).2.1.2.length (E[k]).1.1.2],.agg #[.bool s,.slice Ai xs.length ci]] W (gj W (aF (E[k]).2.1.1 (E[k]).2.1.2+aF s xs) (max (E[k]).2.1.2.length xs.length+1))):=fun W hW=>
         aiG _ s _ Ai _ xs.length _ ci _ xs W (FB.2.2.2.2.1.aB hW) (E8.o.aB (H5.o.aB.tm hW)) FB.1 FB.2.1 e4 e5 (by omega) (by omega)
        (have aaw:(k:Int)<(E.length:Int):=by omega);(have wP:(0:Int)<=(k:Int):=by omega);clear t0 t1 t2 XV hI hEq XN FB hpe E8 E9 gw HB kj hg5;generalize XW:E[k]=y at*
        obtain ⟨⟨⟨Ay,cy⟩,⟨Ey,dy⟩⟩,⟨⟨sy,ys⟩,py⟩⟩:=y;simp only at C0 C1 hxs HkT Ca;clear XW;(go_wp2_with fail);go_region_with
         (first | (go_at_call 66;refine (Ca.o _ (by first | exact aW.drew | exact aW)).mono ?_;rintro e w6 ⟨s6,A6,k6,c6,ls,rfl,g1,g2,g3,g4,g5,gf,qx⟩;have iZ:Below w5.heap.size w5 w6:=(by first | exact aW.drew.trans qx | exact qx);obtain ⟨fe0,fe1⟩:=hf.o _ iZ;have ce0:=(iZ.cell (p:=⟨g,k*3,none⟩) (H5.o.own.lt g rfl).2).trans C0;have ce1:=(iZ.cell (p:=⟨g,k*3+1,none⟩) (H5.o.own.lt g rfl).2).trans C1))
        all_goals
         obtain rfl:=g4.len;have hIn:=HkT.o s6 A6 c6 ls w6 g5 g4 g1 g2 (fun h0 y hy=>aH H5.o.aB.size (aH (by first | exact aK | (simp;done) | (simp;omega)) (gf h0 y hy))) iZ;rw [aq 3 k] at hIn;have HIn:Hid (vu wo ((w6.setCell ⟨g,k*3,none⟩ (.bool s6)).setCell ⟨g,k*3+1,none⟩ (.slice A6 ls.length c6)) n (.slice (some ⟨g,0,none⟩) E.length cap) (E.set k (Gd (((Ay,cy),(Ey,dy)),((sy,ys),py)) s6 A6 c6 ls)) (aU (L.take (i+1)))):=by
          show vu _ _ _ _ _ _;rw [Htk.o];exact hIn
         (have HEn:Hid ((E.set k (Gd (((Ay,cy),(Ey,dy)),((sy,ys),py)) s6 A6 c6 ls)).length<=i+1):=by show _<=_;rw [lD.o];omega);clear hIn HkT lD g4 g5 gf iZ qx hf ce0 ce1 fe0 fe1 C0 C1 b1 b2 b3 Zx H5 Ca;generalize E.set k (Gd (((Ay,cy),(Ey,dy)),((sy,ys),py)) s6 A6 c6 ls)=E2 at*
         generalize (w6.setCell ⟨g,k*3,none⟩ (.bool s6)).setCell ⟨g,k*3+1,none⟩ (.slice A6 ls.length c6)=wq at*
         (go_wp2_with fail);go_roundw
         case rel=>exact ⟨i+1,E2,by omega,by go_num,HIn,HEn.o⟩
         case measure=>simp [intOf];omega
      . go_wp2_with fail
        have XV:=aA (hI.o.ji XN);have E85:=aA (E8.o.aB (kj.o.tm XN));have E95:=aA (E9.o.aB (kj.o.tm XN));have qm:Hid (∀W,Below w5.heap.size w5 W->W.cell? ⟨b,o+i*3,none⟩=some (.bool s)∧W.cell? ⟨b,o+i*3+1,none⟩=some (.slice Ai xs.length ci)∧W.cell? ⟨b,o+i*3+2,none⟩=some (.slice Ei ps.length ei)):=fun W hW=>gw.o _ (XV.o.aB.tm hW);have Cn:Hid (∀W,Below w5.heap.size w5 W->aC 67 #[.agg #[.bool s,.slice Ai xs.length ci]] W (gj W (aF s xs) xs.length)):=fun W hW=>oP s Ai xs.length ci xs W (E85.o.aB hW) e4 e5 (by omega);obtain ⟨b1,b2,b3⟩:=qm.o _ aW;have hR:Hid (Reads w5 w5.heap.size 1 Ei ps.length (ints ps)):=E95.o.reads;have Fc:=aA E95.o.ok;(have th:ps.length<=1000000:=by have:=JO.o;omega);(have q1:0+ps.length<=maxLen:=by unfold maxLen;omega);(have q2:(0+ps.length)*8<=140737488355328:=by omega);have F:Hid (∀W gt s6 A6 k6 c6 ls E7 c7,rO W gt (.bool s6) (.slice A6 k6 c6) (.slice E7 ps.length c7)->k6<=c6->c6<=9223372036854775807->aD W A6 k6 ls->bW s6 ls (aF s xs)->(ps.length<=c7∧c7<=9223372036854775807)->Ints W E7 ps.length ps->(0<k6->∀y,A6=some y->w5.heap.size<=y.block)->(0<ps.length->∀y,E7=some y->w5.heap.size<=y.block)->Below w5.heap.size w5 W->ara w5 W gt s xs ps):=fun W gt s6 A6 k6 c6 ls E7 c7 h1 h2 h3 h4 h5 h6 h8 f1 f2 h7=>
         ⟨s6,A6,k6,c6,ls,E7,c7,h1,h2,h3,h6.1,h6.2,h4,h8,h5,f1,f2,h7⟩
        clear hI E8 E9 gw HB XN kj;go_cut [6] (fun s6 wx=>∃gt:Nat,s6=.pointer (some ⟨gt,0,none⟩)∧Hid (ara w5 wx gt s xs ps))
        case first=>
         go_region_held3 (fun W=>W.cell? ⟨b,o+i*3,none⟩=some (.bool s)∧W.cell? ⟨b,o+i*3+1,none⟩=some (.slice Ai xs.length ci)∧W.cell? ⟨b,o+i*3+2,none⟩=some (.slice Ei ps.length ei))
          (first | go_keep | exact qm.o _ aW.drew | exact qm.o _ (aW.alloc aK _).drew | exact qm.o _ ((aW.alloc aK _).alloc (by simp) _).drew | exact qm.o _ iZ | exact qm.o _ (iZ.alloc iZ.size _) | exact qm.o _ ((iZ.alloc iZ.size _).alloc (iZ.alloc iZ.size _).size _) | exact qm.o _ gN | exact qm.o _ (gN.alloc gN.size _) | exact qm.o _ (((gN.setCell IJ _).setCell IJ _).setCell IJ _))
          (first
            | (go_at_call 67;refine (Cn.o _ (by first | exact aW.drew | exact (aW.alloc aK _).drew | exact ((aW.alloc aK _).alloc (by simp) _).drew)).mono ?_;rintro e w6 ⟨s6,A6,k6,c6,ls,rfl,g1,g2,g3,g4,g5,gf,qx⟩;have iZ:Below w5.heap.size w5 w6:=(by first | exact aW.drew.trans qx | exact (aW.alloc aK _).drew.trans (qx.mono (by simp)) | exact ((aW.alloc aK _).alloc (by simp) _).drew.trans (qx.mono (by simp;omega)));have XH:=qx.size;(first | (have tN:=(rO.new w5 (.bool false) (.slice none 0 0) (.slice none 0 0)).drew.aB qx;have hgN:=Nat.le_refl w5.heap.size) | (have tN:=(rO.new (w5.alloc _) (.bool false) (.slice none 0 0) (.slice none 0 0)).drew.aB qx;rw [aJ] at tN;have hgN:=rG w5.heap.size) | (have tN:=((rO.new w5 (.bool false) (.slice none 0 0) (.slice none 0 0)).alloc _).drew.aB qx;have hgN:=Nat.le_refl w5.heap.size) | skip))
            | ((with_reducible show ite _ (Oper.wp _ _ _ (World.alloc w6 (Obj.cells #[] _)) _ _) _);refine dO (w:=w6.alloc (.cells #[] 3)) (by rfl) (.tmp 74) (.tmp 79) _ (by rfl) w5.heap.size 3 j0 _ 1 8 underlying42 hj uK yg Fw rfl (by omega) (.slice (some ⟨w6.heap.size,0,none⟩) 0 0) 0 [] (by rfl) (bB w6 _ iZ.size) w5.heap.size Ei ps.length ei (ints ps) (by rfl) (hR.o.below (iZ.alloc iZ.size _)) (iN ps) q1 q2 (iZ.alloc iZ.size _).size ?_;intro v7 w7 j8 zT SE;have gN:Below w5.heap.size w5 w7:=EI (iZ.alloc iZ.size _) zT (iZ.alloc iZ.size _).size (fun k hk=>(EH ((bB w6 _ iZ.size):World.ownsRow (w6.alloc (.cells #[] 3)) w5.heap.size 3 1 (.slice (some ⟨w6.heap.size,0,none⟩) 0 0) 0 []) k hk).1);have hL7:aD w7 A6 k6 ls:=mJ (g4.aB (aW.alloc aK _)) ((bB w6 _ iZ.size):World.ownsRow (w6.alloc (.cells #[] 3)) w5.heap.size 3 1 (.slice (some ⟨w6.heap.size,0,none⟩) 0 0) 0 []) zT;(first | have tW:rO (w6.alloc (.cells #[] 3)) _ _ _ _:=tN.alloc _ | skip);(first | (have t7:=rO.grown tW zT (by intro e;dsimp only at e;first | omega | (simp at XH;omega));have u0:=t7.cell0;have u1:=t7.cell1;have u2:=t7.aP;have v0:=t7.frozen 0;have v1:=t7.frozen 1;have v2:=t7.frozen 2;have IJ:=hgN) | skip);rw [kY,ct] at j8;obtain ⟨E7,c7,rfl⟩:=eM j8)
            | ((with_reducible show ite _ (Oper.wp _ _ _ (World.alloc (World.alloc w6 (Obj.cells #[] _)) _) _ _) _);refine dO (w:=(w6.alloc (.cells #[] 3)).alloc (.cells #[.bool false,.slice none 0 0,.slice none 0 0] 44)) (by rfl) (.tmp 74) (.tmp 79) _ (by rfl) w5.heap.size 3 j0 _ 1 8 underlying42 hj uK yg Fw rfl (by omega) (.slice (some ⟨w6.heap.size,0,none⟩) 0 0) 0 [] (by rfl) ((bB w6 _ iZ.size).alloc _) w5.heap.size Ei ps.length ei (ints ps) (by rfl) (hR.o.below ((iZ.alloc iZ.size _).alloc (iZ.alloc iZ.size _).size _)) (iN ps) q1 q2 ((iZ.alloc iZ.size _).alloc (iZ.alloc iZ.size _).size _).size ?_;intro v7 w7 j8 zT SE;have gN:Below w5.heap.size w5 w7:=EI ((iZ.alloc iZ.size _).alloc (iZ.alloc iZ.size _).size _) zT ((iZ.alloc iZ.size _).alloc (iZ.alloc iZ.size _).size _).size (fun k hk=>(EH (((bB w6 _ iZ.size).alloc _):World.ownsRow ((w6.alloc (.cells #[] 3)).alloc (.cells #[.bool false,.slice none 0 0,.slice none 0 0] 44)) w5.heap.size 3 1 (.slice (some ⟨w6.heap.size,0,none⟩) 0 0) 0 []) k hk).1);have hL7:aD w7 A6 k6 ls:=mJ ((g4.aB (aW.alloc aK _)).aB (aW.alloc aK _)) (((bB w6 _ iZ.size).alloc _):World.ownsRow ((w6.alloc (.cells #[] 3)).alloc (.cells #[.bool false,.slice none 0 0,.slice none 0 0] 44)) w5.heap.size 3 1 (.slice (some ⟨w6.heap.size,0,none⟩) 0 0) 0 []) zT;(first | (have tW:=rO.new (w6.alloc (.cells #[] 3)) (.bool false) (.slice none 0 0) (.slice none 0 0);rw [aJ] at tW) | skip);(first | (have t7:=rO.grown tW zT (by intro e;dsimp only at e;first | omega | (simp at XH;omega));have u0:=t7.cell0;have u1:=t7.cell1;have u2:=t7.aP;have v0:=t7.frozen 0;have v1:=t7.frozen 1;have v2:=t7.frozen 2;have IJ:=Nat.le_succ_of_le iZ.size) | skip);rw [kY,ct] at j8;obtain ⟨E7,c7,rfl⟩:=eM j8)
            | ((with_reducible show ite _ (Oper.wp _ _ _ (World.alloc (World.alloc w6 (Obj.cells #[_,_,_] _)) _) _ _) _);refine dO (w:=(w6.alloc (.cells #[.bool false,.slice none 0 0,.slice none 0 0] 44)).alloc (.cells #[] 3)) (by rfl) (.tmp 74) (.tmp 79) _ (by rfl) w5.heap.size 3 j0 _ 1 8 underlying42 hj uK yg Fw rfl (by omega) (.slice (some ⟨w6.heap.size+1,0,none⟩) 0 0) 0 [] (by rfl) (by have h:=bB (base:=w5.heap.size) (w6.alloc (.cells #[.bool false,.slice none 0 0,.slice none 0 0] 44)) 3 (iZ.alloc iZ.size _).size;rwa [aJ] at h) w5.heap.size Ei ps.length ei (ints ps) (by rfl) (hR.o.below ((iZ.alloc iZ.size _).alloc (iZ.alloc iZ.size _).size _)) (iN ps) q1 q2 ((iZ.alloc iZ.size _).alloc (iZ.alloc iZ.size _).size _).size ?_;intro v7 w7 j8 zT SE;have gN:Below w5.heap.size w5 w7:=EI ((iZ.alloc iZ.size _).alloc (iZ.alloc iZ.size _).size _) zT ((iZ.alloc iZ.size _).alloc (iZ.alloc iZ.size _).size _).size (fun k hk=>(EH ((by have h:=bB (base:=w5.heap.size) (w6.alloc (.cells #[.bool false,.slice none 0 0,.slice none 0 0] 44)) 3 (iZ.alloc iZ.size _).size;rwa [aJ] at h):World.ownsRow ((w6.alloc (.cells #[.bool false,.slice none 0 0,.slice none 0 0] 44)).alloc (.cells #[] 3)) w5.heap.size 3 1 (.slice (some ⟨w6.heap.size+1,0,none⟩) 0 0) 0 []) k hk).1);have hL7:aD w7 A6 k6 ls:=mJ ((g4.aB (aW.alloc aK _)).aB (aW.alloc aK _)) ((by have h:=bB (base:=w5.heap.size) (w6.alloc (.cells #[.bool false,.slice none 0 0,.slice none 0 0] 44)) 3 (iZ.alloc iZ.size _).size;rwa [aJ] at h):World.ownsRow ((w6.alloc (.cells #[.bool false,.slice none 0 0,.slice none 0 0] 44)).alloc (.cells #[] 3)) w5.heap.size 3 1 (.slice (some ⟨w6.heap.size+1,0,none⟩) 0 0) 0 []) zT;(first | have tW:rO ((w6.alloc (.cells #[.bool false,.slice none 0 0,.slice none 0 0] 44)).alloc (.cells #[] 3)) _ _ _ _:=(rO.new w6 (.bool false) (.slice none 0 0) (.slice none 0 0)).alloc _ | skip);(first | (have t7:=rO.grown tW zT (by intro e;dsimp only at e;first | omega | (simp at XH;omega));have u0:=t7.cell0;have u1:=t7.cell1;have u2:=t7.aP;have v0:=t7.frozen 0;have v1:=t7.frozen 1;have v2:=t7.frozen 2;have IJ:=iZ.size) | skip);rw [kY,ct] at j8;obtain ⟨E7,c7,rfl⟩:=eM j8)
            | ((with_reducible show ite _ (Oper.wp _ _ _ w6 _ _) _);refine dO (w:=w6) (by rfl) (.tmp 74) (.tmp 79) _ (by rfl) w5.heap.size 3 j0 _ 1 8 underlying42 hj uK yg Fw rfl (by omega) (.slice (some ⟨w5.heap.size,0,none⟩) 0 0) 0 [] (by rfl) (by first | exact dZ (gQ (bB w5 _ aK)) qx | exact dZ (gQ ((bB w5 _ aK).alloc _)) qx) w5.heap.size Ei ps.length ei (ints ps) (by rfl) (hR.o.below iZ) (iN ps) q1 q2 iZ.size ?_;intro v7 w7 j8 zT SE;have gN:Below w5.heap.size w5 w7:=EI iZ zT iZ.size (fun k hk=>(EH ((by first | exact dZ (gQ (bB w5 _ aK)) qx | exact dZ (gQ ((bB w5 _ aK).alloc _)) qx):World.ownsRow (w6) w5.heap.size 3 1 (.slice (some ⟨w5.heap.size,0,none⟩) 0 0) 0 []) k hk).1);have hL7:aD w7 A6 k6 ls:=mJ g4 ((by first | exact dZ (gQ (bB w5 _ aK)) qx | exact dZ (gQ ((bB w5 _ aK).alloc _)) qx):World.ownsRow (w6) w5.heap.size 3 1 (.slice (some ⟨w5.heap.size,0,none⟩) 0 0) 0 []) zT;(first | have tW:rO (w6) _ _ _ _:=tN | skip);(first | (have t7:=rO.grown tW zT (by intro e;dsimp only at e;first | omega | (simp at XH;omega));have u0:=t7.cell0;have u1:=t7.cell1;have u2:=t7.aP;have v0:=t7.frozen 0;have v1:=t7.frozen 1;have v2:=t7.frozen 2;have IJ:=hgN) | skip);rw [kY,ct] at j8;obtain ⟨E7,c7,rfl⟩:=eM j8)
            | ((with_reducible show ite _ (Oper.wp _ _ _ (World.alloc w6 (Obj.cells #[_,_,_] _)) _ _) _);refine dO (w:=w6.alloc (.cells #[.bool false,.slice none 0 0,.slice none 0 0] 44)) (by rfl) (.tmp 74) (.tmp 79) _ (by rfl) w5.heap.size 3 j0 _ 1 8 underlying42 hj uK yg Fw rfl (by omega) (.slice (some ⟨w5.heap.size,0,none⟩) 0 0) 0 [] (by rfl) (NC (by first | exact dZ (gQ (bB w5 _ aK)) qx | exact dZ (gQ ((bB w5 _ aK).alloc _)) qx) _) w5.heap.size Ei ps.length ei (ints ps) (by rfl) (hR.o.below (iZ.alloc iZ.size _)) (iN ps) q1 q2 (iZ.alloc iZ.size _).size ?_;intro v7 w7 j8 zT SE;have gN:Below w5.heap.size w5 w7:=EI (iZ.alloc iZ.size _) zT (iZ.alloc iZ.size _).size (fun k hk=>(EH ((NC (by first | exact dZ (gQ (bB w5 _ aK)) qx | exact dZ (gQ ((bB w5 _ aK).alloc _)) qx) _):World.ownsRow (w6.alloc (.cells #[.bool false,.slice none 0 0,.slice none 0 0] 44)) w5.heap.size 3 1 (.slice (some ⟨w5.heap.size,0,none⟩) 0 0) 0 []) k hk).1);have hL7:aD w7 A6 k6 ls:=mJ (g4.aB (aW.alloc aK _)) ((NC (by first | exact dZ (gQ (bB w5 _ aK)) qx | exact dZ (gQ ((bB w5 _ aK).alloc _)) qx) _):World.ownsRow (w6.alloc (.cells #[.bool false,.slice none 0 0,.slice none 0 0] 44)) w5.heap.size 3 1 (.slice (some ⟨w5.heap.size,0,none⟩) 0 0) 0 []) zT;(first | have tW:rO (w6.alloc (.cells #[.bool false,.slice none 0 0,.slice none 0 0] 44)) _ _ _ _:=rO.new w6 (.bool false) (.slice none 0 0) (.slice none 0 0) | skip);(first | (have t7:=rO.grown tW zT (by intro e;dsimp only at e;first | omega | (simp at XH;omega));have u0:=t7.cell0;have u1:=t7.cell1;have u2:=t7.aP;have v0:=t7.frozen 0;have v1:=t7.frozen 1;have v2:=t7.frozen 2;have IJ:=iZ.size) | skip);rw [kY,ct] at j8;obtain ⟨E7,c7,rfl⟩:=eM j8)
            | ((with_reducible show ite _ (Oper.wp _ _ _ w6 _ _) _);refine dO (w:=w6) (by rfl) (.tmp 74) (.tmp 79) _ (by rfl) w5.heap.size 3 j0 _ 1 8 underlying42 hj uK yg Fw rfl (by omega) (.slice (some ⟨w5.heap.size+1,0,none⟩) 0 0) 0 [] (by rfl) (by have h:=(dZ (gQ (bB (base:=w5.heap.size) (w5.alloc (.cells #[.bool false,.slice none 0 0,.slice none 0 0] 44)) _ (by simp))) qx);rwa [aJ] at h) w5.heap.size Ei ps.length ei (ints ps) (by rfl) (hR.o.below iZ) (iN ps) q1 q2 iZ.size ?_;intro v7 w7 j8 zT SE;have gN:Below w5.heap.size w5 w7:=EI iZ zT iZ.size (fun k hk=>(EH ((by have h:=(dZ (gQ (bB (base:=w5.heap.size) (w5.alloc (.cells #[.bool false,.slice none 0 0,.slice none 0 0] 44)) _ (by simp))) qx);rwa [aJ] at h):World.ownsRow (w6) w5.heap.size 3 1 (.slice (some ⟨w5.heap.size+1,0,none⟩) 0 0) 0 []) k hk).1);have hL7:aD w7 A6 k6 ls:=mJ g4 ((by have h:=(dZ (gQ (bB (base:=w5.heap.size) (w5.alloc (.cells #[.bool false,.slice none 0 0,.slice none 0 0] 44)) _ (by simp))) qx);rwa [aJ] at h):World.ownsRow (w6) w5.heap.size 3 1 (.slice (some ⟨w5.heap.size+1,0,none⟩) 0 0) 0 []) zT;(first | have tW:rO (w6) _ _ _ _:=tN | skip);(first | (have t7:=rO.grown tW zT (by intro e;dsimp only at e;first | omega | (simp at XH;omega));have u0:=t7.cell0;have u1:=t7.cell1;have u2:=t7.aP;have v0:=t7.frozen 0;have v1:=t7.frozen 1;have v2:=t7.frozen 2;have IJ:=hgN) | skip);rw [kY,ct] at j8;obtain ⟨E7,c7,rfl⟩:=eM j8))
         all_goals
          (go_wp2_with fail);go_meet
          first
           | exact ⟨w7.heap.size,rfl,F.o _ w7.heap.size s6 A6 k6 c6 ls E7 c7 (rO.new w7 _ _ _) g1 g2 (hL7.aB (aW.alloc aK _)) g5 (jl j8) ((Ints.gi j8 Fc.o).aB (aW.alloc aK _)) (fun h0 y hy=>aH (by first | exact aK | (simp;done) | (simp;omega)) (gf h0 y hy)) (fun _ y hy=>(j8.lt y.block (by subst hy;rfl)).1) (gN.alloc gN.size _)⟩
           | exact ⟨_,rfl,F.o _ _ s6 A6 k6 c6 ls E7 c7 (t7.set _ _ _) g1 g2 (t7.limbs _ _ _ hL7) g5 (jl j8) (t7.ints _ _ _ (Ints.gi j8 Fc.o)) (fun h0 y hy=>aH (by first | exact aK | (simp;done) | (simp;omega)) (gf h0 y hy)) (fun _ y hy=>(j8.lt y.block (by subst hy;rfl)).1) (((gN.setCell IJ _).setCell IJ _).setCell IJ _)⟩
        case rest=>
         obtain ⟨gt,rfl,hT⟩:=hcut;obtain ⟨w8,rfl⟩:∃W:World,W=wc:=⟨_,rfl⟩;obtain ⟨s6,A6,k6,c6,ls,E7,c7,afj,g1,g2,g3,g4,hL6,hI7,hz6,hf6,SA,jh⟩:=hT.o;have hI8:=aA (XV.o.ji jh);have yz:Hid (∀W,Below w8.heap.size w8 W->W.cell? ⟨gt,0,none⟩=some (.bool s6)∧W.cell? ⟨gt,1,none⟩=some (.slice A6 k6 c6)∧W.cell? ⟨gt,2,none⟩=some (.slice E7 ps.length c7)):=fun W hW=>⟨(afj.aB hW).cell0,(afj.aB hW).cell1,(afj.aB hW).aP⟩;obtain ⟨m0,m1,m2⟩:=yz.o _ aW;have Hr2:=aA (Qy hI8.o.own rfl);have hk6:ls.length=k6:=hL6.len;have hxE:Hid (∀W,Below w8.heap.size w8 W->gL W (((A6,c6),(E7,c7)),((s6,ls),ps))):=fun W hW=>⟨by show ls.length<=c6;omega,g2,g3,g4,by show aD W A6 ls.length ls;rw [hk6];exact hL6.aB hW,hI7.aB hW⟩;have hZ6:Hid (bW s6 ls (aF s6 ls)∧aF s6 ls=aF s xs):=⟨by rw [hz6.eq];exact hz6,hz6.eq⟩;have hFr:Hid (UD wo.heap.size ((((A6,c6),(E7,c7)),((s6,ls),ps)):bA)):=⟨fun h0 y hy=>aH XV.o.aB.size (hf6 (by have h0':0<ls.length:=h0;omega) y hy),fun h0 y hy=>aH XV.o.aB.size (SA h0 y hy)⟩;have Fin:Hid (∀W v,W.ownsRow w8.heap.size 44 3 v (E.length+1) (aS (E.take k++((((A6,c6),(E7,c7)),((s6,ls),ps)):bA)::E.drop k))->Below w8.heap.size w8 W->vu wo W n v (E.take k++((((A6,c6),(E7,c7)),((s6,ls),ps)):bA)::E.drop k) (aU (L.take (i+1)))):=fun W v aY hb=>by
          have h:=hI8.o.insert (x:=(((A6,c6),(E7,c7)),((s6,ls),ps))) hk aaN.o hni.o JO.o hZ6.o.1 hFr.o (hxE.o W hb) (OY aY hI8.o.aB.size) hb;(have e:bp ((s6,ls),ps)=bp ((s,xs),ps):=by show (ps,aF s6 ls)=(ps,aF s xs);rw [hZ6.o.2]);rw [Htk.o,<- e];exact h
         (have hkc:(k:Int)<=(cap:Int):=by omega);(have aHM:(E.length:Int)<=(cap:Int):=by omega);(have wP:(0:Int)<=(k:Int):=by omega);(have hkn:(k:Int)<=(E.length:Int):=by omega);have HA:Hid (World.ownsRow (w8.alloc (.cells #[] 44)).drew w8.heap.size 44 3 (.slice (some ⟨w8.heap.size,0,none⟩) 0 0) 0 []):=gQ (vO w8 _ aK);have GI:Hid (World.ownsRow ((w8.alloc (.cells #[] 44)).alloc (.cells #[.bool s6,.slice A6 k6 c6,.slice E7 ps.length c7] 44)).drew w8.heap.size 44 3 (.slice (some ⟨w8.heap.size,0,none⟩) 0 0) 0 []):=gQ ((vO w8 _ aK).alloc _);have HC2:Hid (World.ownsRow ((w8.alloc (.cells #[.bool s6,.slice A6 k6 c6,.slice E7 ps.length c7] 44)).alloc (.cells #[] 44)).drew w8.heap.size 44 3 (.slice (some ⟨w8.heap.size+1,0,none⟩) 0 0) 0 []):=gQ (by have:=vO (w8.alloc (.cells #[.bool s6,.slice A6 k6 c6,.slice E7 ps.length c7] 44)) (base:=w8.heap.size) 44 (by simp);simpa using this);have BA:Hid (Below w8.heap.size w8 (w8.alloc (.cells #[] 44)).drew):=(aW.alloc aK _).drew;have BB:Hid (Below w8.heap.size w8 ((w8.alloc (.cells #[] 44)).alloc (.cells #[.bool s6,.slice A6 k6 c6,.slice E7 ps.length c7] 44)).drew):=((aW.alloc aK _).alloc (by simp) _).drew;have BC:Hid (Below w8.heap.size w8 ((w8.alloc (.cells #[.bool s6,.slice A6 k6 c6,.slice E7 ps.length c7] 44)).alloc (.cells #[] 44)).drew):=((aW.alloc aK _).alloc (by simp) _).drew;have hrq:Reads w8 w8.heap.size 3 B k ((aS E).take (k*3)):=OH Hr2.o hk;have RA:=aA (hrq.below BA.o);have RB:=aA (hrq.below BB.o);have RC:=aA (hrq.below BC.o);have NBk:Hid (∀w',World.grownBy ((w8.alloc (.cells #[] 44)).alloc (.cells #[.bool s6,.slice A6 k6 c6,.slice E7 ps.length c7] 44)).drew w' (Value.slice (some ⟨w8.heap.size,0,none⟩) 0 0).ownBlock->Reads w' (w8.heap.size+1+1) 3 (some ⟨w8.heap.size+1,0,none⟩) 1 [.bool s6,.slice A6 k6 c6,.slice E7 ps.length c7]):=fun w' hg=>by
          obtain ⟨h0,h1,h2⟩:=ve (w8.alloc (.cells #[] 44)) (.bool s6) (.slice A6 k6 c6) (.slice E7 ps.length c7) 44;rw [aJ] at h0 h1 h2;exact xF (hg.cell h0 (by simp [Value.ownBlock])) (hg.cell h1 (by simp [Value.ownBlock])) (hg.cell h2 (by simp [Value.ownBlock])) (by omega)
         have NCk:Hid (∀w',World.grownBy ((w8.alloc (.cells #[.bool s6,.slice A6 k6 c6,.slice E7 ps.length c7] 44)).alloc (.cells #[] 44)).drew w' (Value.slice (some ⟨w8.heap.size+1,0,none⟩) 0 0).ownBlock->Reads w' (w8.heap.size+1) 3 (some ⟨w8.heap.size,0,none⟩) 1 [.bool s6,.slice A6 k6 c6,.slice E7 ps.length c7]):=fun w' hg=>by
          obtain ⟨h0,h1,h2⟩:=ve w8 (.bool s6) (.slice A6 k6 c6) (.slice E7 ps.length c7) 44;have h0':=(vg (w8.alloc (.cells #[.bool s6,.slice A6 k6 c6,.slice E7 ps.length c7] 44)) (.cells #[] 44) ⟨w8.heap.size,0,none⟩ (by simp)).trans h0;have h1':=(vg (w8.alloc (.cells #[.bool s6,.slice A6 k6 c6,.slice E7 ps.length c7] 44)) (.cells #[] 44) ⟨w8.heap.size,1,none⟩ (by simp)).trans h1;have h2':=(vg (w8.alloc (.cells #[.bool s6,.slice A6 k6 c6,.slice E7 ps.length c7] 44)) (.cells #[] 44) ⟨w8.heap.size,2,none⟩ (by simp)).trans h2;exact xF (hg.cell h0' (by simp [Value.ownBlock])) (hg.cell h1' (by simp [Value.ownBlock])) (hg.cell h2' (by simp [Value.ownBlock])) (by omega)
         (have zA:0+k<=maxLen:=by unfold maxLen;omega);(have Cw:(0+k)*56<=140737488355328:=by omega);(have hl3:0+k+1<=maxLen:=by unfold maxLen;omega);(have hl4:(0+k+1)*56<=140737488355328:=by omega);(have hl5:0+k+1+(E.length-k)<=maxLen:=by unfold maxLen;omega);(have hl6:(0+k+1+(E.length-k))*56<=140737488355328:=by omega);(have Mf:Hid (0+k+1+(E.length-k)=E.length+1):=by show _=_;omega);have alO:Hid (∀u∈(aS E).take (k*3),u.oneCell'=true):=fun u hu=>lK _ u (uU hu);have Hct:Hid (Reads w8 w8.heap.size 3 (if cap=k then B else Option.map (fun x=>x.add (k*3)) B) (E.length-k) ((aS E).drop (k*3))):=Hr2.o.cut hk uB;have hK6:=aA hk6;clear hrq afj hL6 hI7 hz6 jh hk6 hT XV E85 E95 qm Cn b1 b2 b3 hR Fc F q1 q2;(go_wp2_with fail);go_region_held3 (fun W=>W.cell? ⟨gt,0,none⟩=some (.bool s6)∧W.cell? ⟨gt,1,none⟩=some (.slice A6 k6 c6)∧W.cell? ⟨gt,2,none⟩=some (.slice E7 ps.length c7))
          (first | go_keep | exact yz.o _ nV | exact yz.o _ cU | exact yz.o _ dH | exact yz.o _ BA.o | exact yz.o _ BB.o | exact yz.o _ BC.o | exact yz.o _ (dH.alloc dH.size _) | exact yz.o _ aW.drew | exact yz.o _ (aW.alloc aK _).drew)
          (first
            | ((with_reducible show ite _ (Oper.wp _ _ _ (World.drew (World.alloc w8 (Obj.cells #[] _))) _ _) _);refine dO (w:=(w8.alloc (.cells #[] 44)).drew) (by rfl) (.tmp 82) (.tmp 85) _ (by rfl) w8.heap.size 44 i0 _ 3 56 underlying22 hi iQ iC iP rfl (by omega) (.slice (some ⟨w8.heap.size,0,none⟩) 0 0) 0 [] (by rfl) HA.o w8.heap.size B k cap ((aS E).take (k*3)) (by rfl) RA.o alO.o zA Cw BA.o.size ?_;intro v1 w1 jG wQ aaS;have dH:=BA.o.grown wQ BA.o.size (fun k hk=>(HA.o.lt k hk).1))
            | ((with_reducible show ite _ (Oper.wp _ _ _ (World.drew (World.alloc (World.alloc w8 (Obj.cells #[] _)) _)) _ _) _);refine dO (w:=((w8.alloc (.cells #[] 44)).alloc (.cells #[.bool s6,.slice A6 k6 c6,.slice E7 ps.length c7] 44)).drew) (by rfl) (.tmp 82) (.tmp 85) _ (by rfl) w8.heap.size 44 i0 _ 3 56 underlying22 hi iQ iC iP rfl (by omega) (.slice (some ⟨w8.heap.size,0,none⟩) 0 0) 0 [] (by rfl) GI.o w8.heap.size B k cap ((aS E).take (k*3)) (by rfl) RB.o alO.o zA Cw BB.o.size ?_;intro v1 w1 jG wQ aaS;have dH:=BB.o.grown wQ BB.o.size (fun k hk=>(GI.o.lt k hk).1);have hn1:=NBk.o _ wQ)
            | ((with_reducible show ite _ (Oper.wp _ _ _ (World.drew (World.alloc (World.alloc w8 (Obj.cells #[_,_,_] _)) _)) _ _) _);refine dO (w:=((w8.alloc (.cells #[.bool s6,.slice A6 k6 c6,.slice E7 ps.length c7] 44)).alloc (.cells #[] 44)).drew) (by rfl) (.tmp 82) (.tmp 85) _ (by rfl) w8.heap.size 44 i0 _ 3 56 underlying22 hi iQ iC iP rfl (by omega) (.slice (some ⟨w8.heap.size+1,0,none⟩) 0 0) 0 [] (by rfl) HC2.o w8.heap.size B k cap ((aS E).take (k*3)) (by rfl) RC.o alO.o zA Cw BC.o.size ?_;intro v1 w1 jG wQ aaS;have dH:=BC.o.grown wQ BC.o.size (fun k hk=>(HC2.o.lt k hk).1);have hn1:=NCk.o _ wQ)
            | ((with_reducible show ite _ (Oper.wp _ _ _ (World.alloc w1 _) _ _) _);refine dO (w:=w1.alloc (.cells #[.bool s6,.slice A6 k6 c6,.slice E7 ps.length c7] 44)) (by rfl) (.tmp 86) (.tmp 88) _ (by rfl) w8.heap.size 44 i0 _ 3 56 underlying22 hi iQ iC iP rfl (by omega) v1 (0+k) ([]++(aS E).take (k*3)) (by rfl) (jG.alloc _) (w1.heap.size+1) (some ⟨w1.heap.size,0,none⟩) 1 1 [.bool s6,.slice A6 k6 c6,.slice E7 ps.length c7] (by rfl) (Eo w1 _ _ _ _) (by simp [Value.oneCell']) hl3 hl4 (dH.alloc dH.size _).size ?_;intro v2 w2 bL R9 XR;have cU:=(dH.alloc dH.size _).grown R9 (dH.alloc dH.size _).size (fun k hk=>(jG.lt k hk).1))
            | ((with_reducible show ite _ (Oper.wp _ _ _ w1 _ _) _);refine dO (w:=w1) (by rfl) (.tmp 86) (.tmp 88) _ (by rfl) w8.heap.size 44 i0 _ 3 56 underlying22 hi iQ iC iP rfl (by omega) v1 (0+k) ([]++(aS E).take (k*3)) (by rfl) jG _ _ 1 1 [.bool s6,.slice A6 k6 c6,.slice E7 ps.length c7] (by rfl) hn1 (by simp [Value.oneCell']) hl3 hl4 dH.size ?_;intro v2 w2 bL R9 XR;have cU:=dH.grown R9 dH.size (fun k hk=>(jG.lt k hk).1))
            | ((with_reducible show ite _ (Oper.wp _ _ _ w2 _ _) _);refine dO (w:=w2) (by rfl) (.tmp 89) (.tmp 92) _ (by rfl) w8.heap.size 44 i0 _ 3 56 underlying22 hi iQ iC iP rfl (by omega) v2 (0+k+1) ([]++(aS E).take (k*3)++[.bool s6,.slice A6 k6 c6,.slice E7 ps.length c7]) (by rfl) bL w8.heap.size (if cap=k then B else Option.map (fun x=>x.add (k*3)) B) (E.length-k) (cap-k) ((aS E).drop (k*3)) (by rfl) (Hct.o.below cU) (fun u hu=>lK _ u (vh hu)) hl5 hl6 cU.size ?_;intro v3 w3 ID hg3 axw;have nV:=cU.grown hg3 cU.size (fun k hk=>(bL.lt k hk).1)))
         all_goals
          have he:[]++(aS E).take (k*3)++[.bool s6,.slice A6 k6 c6,.slice E7 ps.length c7]++(aS E).drop (k*3)=aS (E.take k++((((A6,c6),(E7,c7)),((s6,ls),ps)):bA)::E.drop k):=by
           have e:kN ((((A6,c6),(E7,c7)),((s6,ls),ps)):bA)=[.bool s6,.slice A6 k6 c6,.slice E7 ps.length c7]:=by
            show [Value.bool s6,Value.slice A6 ls.length c6,Value.slice E7 ps.length c7]=_;rw [hK6.o]
           rw [yw,fV,Ej,El,kY,vA,e]
          rw [he,Mf.o] at ID;have hIn:=aA (Fin.o _ _ ID nV);(have hEn:(E.take k++((((A6,c6),(E7,c7)),((s6,ls),ps)):bA)::E.drop k).length<=i+1:=by simp;omega);clear ID hg3 axw bL R9 XR jG wQ aaS dH cU nV he Fin hI8;generalize E.take k++((((A6,c6),(E7,c7)),((s6,ls),ps)):bA)::E.drop k=E2 at*
          (go_wp2_with fail);go_roundw
          case rel=>exact ⟨i+1,E2,by omega,by go_num,hIn,hEn⟩
          case measure=>simp [intOf];omega
  . have hIa:Hid (vu wo wt n (.slice B E.length cap) E (aU L)):=by
     have h:=hI.o;rw [gZ (by rw [HL.o];omega)] at h;exact h
    (have dI:¬(i:Int)<(m:Int):=by omega);have Hsh:=aA (hI.o.short Hab.o);have hI0:=aA hIa.o;clear hI;(go_wp2_with fail);go_loopw [7,8] (fun v j wr=>∃k:Nat,k<=E.length∧j=.int .i64 (k:Int)∧Hid (wr.ownsRow wt.heap.size 44 3 v (ij (E.take k)).length (aS (ij (E.take k))))∧Hid (Below wt.heap.size wt wr)) (fun _ j _=>E.length-(intOf j).toNat)
    case atStart=>exact ⟨0,by omega,rfl,nu _ _ _ _,aW⟩
    case round=>
     obtain ⟨k,hk,rfl,hO,hb⟩:=hrel;obtain ⟨wv,rfl⟩:∃wv:World,wv=wr:=⟨_,rfl⟩;by_cases rL:k<E.length
     . obtain ⟨g,rfl,wQ,R9⟩:=HB.o (by omega)
       obtain ⟨t0,t1,t2⟩:=jH rL;have Nk:=hIa.o.ji hb.o;have c0:=Nk.own.cells (g:=g) rfl (3*k) _ t0;have c1:=Nk.own.cells (g:=g) rfl (3*k+1) _ t1;have c2:=Nk.own.cells (g:=g) rfl (3*k+2) _ t2;rw [kI,ct,aq 3 k] at c0 c1 c2;have FB:=(Nk.ok _ (bw rL)).1;have hxs:=Hsh.o _ (bw rL);(have aaw:(k:Int)<(E.length:Int):=by omega);(have wP:(0:Int)<=(k:Int):=by omega);(have hlE:E.length<=2400000000000:=by omega);have Cs:=aA (Qz (E[k]).2.1.1 (E[k]).1.1.1 (E[k]).2.1.2.length (E[k]).1.1.2 (E[k]).2.1.2 wv FB.2.2.2.2.1 FB.1 FB.2.1 (by omega));have O9:Hid (∀W,Below wv.heap.size wv W->W.cell? ⟨g,k*3,none⟩=some (.bool (E[k]).2.1.1)∧W.cell? ⟨g,k*3+1,none⟩=some (.slice (E[k]).1.1.1 (E[k]).2.1.2.length (E[k]).1.1.2)∧W.cell? ⟨g,k*3+2,none⟩=some (.slice (E[k]).1.2.1 (E[k]).2.2.length (E[k]).1.2.2)):=fun W hW=>
        ⟨(hW.cell (p:=⟨g,k*3,none⟩) (Nk.own.lt g rfl).2).trans c0,(hW.cell (p:=⟨g,k*3+1,none⟩) (Nk.own.lt g rfl).2).trans c1,(hW.cell (p:=⟨g,k*3+2,none⟩) (Nk.own.lt g rfl).2).trans c2⟩
       have aeF:=aA (fun (h:aF (E[k]).2.1.1 (E[k]).2.1.2≠0)=>Xa rL h);have hno:=aA (fun (h:aF (E[k]).2.1.1 (E[k]).2.1.2=0)=>abf rL h);have aab:=WN (aF (E[k]).2.1.1 (E[k]).2.1.2);(have hfl:(ij (E.take k)).length<=k:=by have:=abg (E.take k);rw [cS] at this;omega);clear t0 t1 t2 Nk FB;generalize E[k]=y at*
       obtain ⟨⟨⟨Ay,cy⟩,⟨Ey,dy⟩⟩,⟨⟨sy,ys⟩,py⟩⟩:=y;simp only at c0 c1 c2 hxs Cs O9 aeF hno aab;by_cases hz:aF sy ys=0
       . have IB:Lq (aF sy ys)=0:=aab.2 hz
         rw [IB] at Cs;have hfe:=hno.o hz;(have sF:Hid (∀W,Below wv.heap.size wv W->W.ownsRow wt.heap.size 44 3 u7 (ij (E.take (k+1))).length (aS (ij (E.take (k+1))))):=fun W hW=>by rw [hfe];exact dZ hO.o hW);clear hz IB aab hfe hno aeF;(go_wp2_with fail);refine Cs.o.mono ?_;rintro e w6 ⟨rfl,iZ⟩;have hO6:=aA (sF.o _ iZ);have hB6:=aA (hb.o.tm iZ);clear iZ sF;(go_wp2_with fail);go_roundw
         case rel=>exact ⟨k+1,by omega,by go_num,hO6,hB6⟩
         case measure=>simp [intOf];omega
       . have IB:Lq (aF sy ys)≠0:=fun e=>hz (aab.1 e)
         have tZ:(Lq (aF sy ys)==0)=false:=jD.2 IB;(have uW:(Lq (aF sy ys) !=0)=true:=by simp [IB]);have hfe:=aeF.o hz;(have hl:(ij (E.take (k+1))).length=(ij (E.take k)).length+1:=by rw [hfe,eF];rfl);(have FH:aS (ij (E.take (k+1)))=aS (ij (E.take k))++[.bool sy,.slice Ay ys.length cy,.slice Ey py.length dy]:=by rw [hfe,qN];rfl);(have sF:Hid (∀(W:World) v,W.ownsRow wt.heap.size 44 3 v ((ij (E.take k)).length+1) (aS (ij (E.take k))++[.bool sy,.slice Ay ys.length cy,.slice Ey py.length dy])->W.ownsRow wt.heap.size 44 3 v (ij (E.take (k+1))).length (aS (ij (E.take (k+1))))):=fun W v h=>by rw [hl,FH];exact h);clear hz IB aab hfe hno aeF hl FH;generalize Lq (aF sy ys)=sg at*
         (go_wp2_with fail);refine Cs.o.mono ?_;rintro e w6 ⟨rfl,iZ⟩;obtain ⟨d0,d1,d2⟩:=O9.o _ iZ;have hO6:=aA (dZ hO.o iZ);have hB6:=aA (hb.o.tm iZ);clear iZ c0 c1 c2 hO O9 Cs;generalize ij (E.take k)=F at*
         (have q1:F.length+1<=maxLen:=by unfold maxLen;omega);(have q2:(F.length+1)*56<=140737488355328:=by omega);(have q3:wt.heap.size<=(w6.alloc (.cells #[.bool sy,.slice Ay ys.length cy,.slice Ey py.length dy] 44)).heap.size:=by have:=hB6.o.size;simp;omega);have hA6:Hid ((w6.alloc (.cells #[.bool sy,.slice Ay ys.length cy,.slice Ey py.length dy] 44)).ownsRow wt.heap.size 44 3 u7 F.length (aS F)):=hO6.o.alloc _;(go_wp2_with (at_builtin;refine bN (w:=w6.alloc (.cells #[.bool sy,.slice Ay ys.length cy,.slice Ey py.length dy] 44)) rfl _ _ 22 rfl wt.heap.size 44 i0 _ 3 56 underlying22 hi iQ iC iP rfl (by decide) _ F.length (aS F) rfl hA6.o (w6.heap.size+1) (some ⟨w6.heap.size,0,none⟩) 1 1 [.bool sy,.slice Ay ys.length cy,.slice Ey py.length dy] rfl (Eo w6 _ _ _ _) (by simp [Value.oneCell']) q1 q2 q3 ?_;intro v7 w7 j8 zT SE));have hO7:=aA (sF.o _ _ j8);have YC:Hid (Below wt.heap.size wt w7):=(hB6.o.alloc hB6.o.size _).grown zT (hB6.o.alloc hB6.o.size _).size (fun k hk=>(hA6.o.lt k hk).1);clear j8 zT SE hA6 sF;(go_wp2_with fail);go_roundw
         case rel=>exact ⟨k+1,by omega,by go_num,hO7,YC⟩
         case measure=>simp [intOf];omega
     . have hkn:k=E.length:=by omega
       (have uv:¬(k:Int)<(E.length:Int):=by omega);have hO':=hO.o;rw [hkn,LK] at hO';have Nk:=hIa.o.ji hb.o;obtain ⟨B9,d9,rfl,r1,r2,r3⟩:=kD hO' rfl (fun x hx=>(Nk.ok x (sG hx).1).1);have Fin:Hid (qG wo n (aU L) (.returned (.slice B9 (ij E).length d9)) wv):=by
        have hl:((ij E).map (·.2)).length=(ij E).length:=dW _;refine ⟨B9,d9,(ij E).map (·.2),by rw [hl],by rw [hl];exact r1,by unfold maxLen at r2;omega,by rw [hl];exact r3,?_,(Pb n E).trans Nk.eq,fun W hW=> ?_,Nk.aB⟩
        . exact SL Nk.fall Nk.len (fun x hx=>(Nk.ok x hx).2)
        . have FC:wo.heap.size<=wt.heap.size:=hI0.o.aB.size
          obtain ⟨B8,d8,e8,_,_,q3⟩:=kD (ZH hO' FC hW) rfl (fun x hx=>by
           have h9:=Nk.fr x (sG hx).1;exact iE (Nk.ok x (sG hx).1).1 hW (fun h0 y hy hk=>by have h8:wo.heap.size<=y.block:=h9.1 h0 y hy;exact S9 _ (gh hk h8)) (fun h0 y hy hk=>by have h8:wo.heap.size<=y.block:=h9.2 h0 y hy;exact S9 _ (gh hk h8)))
          injection e8 with e8
          subst e8;rw [hl];exact q3
       clear hkn hO' Nk r1 r2 r3 hO;(go_wp2_with fail);go_ret;exact Fin.o
def OO (n C K:Nat) (A:Option Addr) (m c:Nat) (L:List TV) (w:World) (hx:jM w A m L) (hl:∀t∈L,t.2.length=n) (hC:∀t∈L,t.1.2.length<=C) (hC1:C<=3900000000000) (hK:K<=3900000000000) (IP:bM (aU L)<2^(64*K)) (hm:m<=2400000000000) (hn:n<=1000000):
 aC 30 #[.slice A m c] w (oB w n (aU L)):=
 (KF n C K A m c L w hx hl hC hC1 hK IP hm hn).mono fun _ _ h=>h.r
def jR.more {X M:Mv}(h:jR n X M) (t:mj):jR n (X++[t]) (M++[t]):=fun q hq=>by
 rw [jI,jI,h q hq]
def Sn {C:Nat} {L:List TV}(hl:∀t∈L,t.1.2.length<=C) (hi:∀t∈L,aQ t.1.2) (hk:L.length<=k) (uX:k<18446744073709551616):bM (aU L)<2^(64*(C+1)):=by
 have h1:bM (aU L)<=(aU L).length*2^(64*C):=CJ fun t ht=>by
  obtain ⟨s,hs,rfl⟩:=aj.1 ht;exact nK (PE s.1.1 (hi s hs) (hl s hs))
 rw [bE] at h1;have h2:L.length*2^(64*C)<=18446744073709551615*2^(64*C):=bI _ (by omega);have h3:=lC (64*C);rw [ak,iH,bg];have h4:(2:Nat)^64=18446744073709551616:=by decide
 rw [h4,aq (2^(64*C))];omega
structure kZ (w0 wr:World) (n C:Nat) (v:Value) (E:List bA) (M:Mv):Prop where
 own:wr.ownsRow w0.heap.size 44 3 v E.length (aS E)
 ok:∀x∈E,gL wr x
 far:∀x∈E,(0<x.2.1.2.length->∀y,x.1.1.1=some y->v.ownBlock≠some y.block)∧(0<x.2.2.length->∀y,x.1.2.1=some y->v.ownBlock≠some y.block)
 len:∀x∈E,x.2.2.length=n
 co:∀x∈E,x.2.1.2.length<=C
 eq:jR n (aU (E.map (·.2))) M
 aB:Below w0.heap.size w0 wr
def kZ.start (w:World) (n C:Nat):kZ w w n C (.slice none 0 0) [] []:=
 ⟨nu _ _ _ _,fun x hx=>(by cases hx),fun x hx=>(by cases hx),fun x hx=>(by cases hx),fun x hx=>(by cases hx),fun _ _=>rfl,aW⟩
def kZ.ji {C:Nat} {E:List bA} {M:Mv}(h:kZ w0 wr n C v E M) (hb:Below wr.heap.size wr wt):kZ w0 wt n C v E M:=
 ⟨dZ h.own hb,fun x hx=>(h.ok x hx).aB hb,h.far,h.len,h.co,h.eq,h.aB.tm hb⟩
def kZ.next {w2:World} {C H:Nat} {E:List bA} {M:Mv} {x:bA} {o:Obj}(h:kZ w0 wr n C v E M) (cU:Below wr.heap.size wr w2) (hx:gL w2 x) (jq:x.2.2.length=n) (hxC:x.2.1.2.length<=C)
 (hf1:0<x.2.1.2.length->∀y,x.1.1.1=some y->v.ownBlock≠some y.block) (hf2:0<x.2.2.length->∀y,x.1.2.1=some y->v.ownBlock≠some y.block)
 (aY:w3.ownsRow w0.heap.size 44 3 (.slice (some ⟨g,0,none⟩) (E.length+1) cap) (E.length+1) (aS E++kN x)) (rE:(w2.alloc o).grownBy w3 v.ownBlock) (gO:v.ownBlock=some g∨g=H) (hH:H=w2.heap.size+1):kZ w0 w3 n C (.slice (some ⟨g,0,none⟩) (E.length+1) cap) (E++[x]) (M++[bp x.2]):=by
 subst hH;have wX:∀k,v.ownBlock=some k->w0.heap.size<=k∧k<wr.heap.size:=fun k hk=>h.own.lt k hk;have uW:=cU.size;have b3:Below w2.heap.size w2 (w2.alloc o):=aW.alloc aK _;have o3:Only (fun k=>v.ownBlock=some k) (w2.alloc o) w3:=(Only.fH rE).mono (fun i hi=>by first | exact hi | exact hi.symm);have yj:∀z∈E++[x],(0<z.2.1.2.length->∀y,z.1.1.1=some y->v.ownBlock≠some y.block)∧(0<z.2.2.length->∀y,z.1.2.1=some y->v.ownBlock≠some y.block):=fun z hz=>by
  rcases gV.1 hz with hz | hz
  . exact h.far z hz
  . rw [en.1 hz];exact ⟨hf1,hf2⟩
 have fP:∀z∈E++[x],gL w2 z:=fun z hz=>by
  rcases gV.1 hz with hz | hz
  . exact (h.ok z hz).aB cU
  . rw [en.1 hz];exact hx
 refine ⟨by rw [eF,qN];exact aY,fun z hz=>iE ((fP z hz).aB b3) o3 (fun h0 y hy e=>(yj z hz).1 h0 y hy e) (fun h0 y hy e=>(yj z hz).2 h0 y hy e),fun z hz=> ?_,fun z hz=> ?_,fun z hz=> ?_,?_,?_⟩
 . have h5:=(fP z hz).2.2.2.2.1
   have h6:=(fP z hz).2.2.2.2.2;refine ⟨fun h0 y hy e=> ?_,fun h0 y hy e=> ?_⟩
   . have e:g=y.block:=by injection e
     rcases gO with h1 | h1
     . exact (yj z hz).1 h0 y hy (by rw [h1,e])
     . have:=yO h5 h0 hy;omega
   . have e:g=y.block:=by injection e
     rcases gO with h1 | h1
     . exact (yj z hz).2 h0 y hy (by rw [h1,e])
     . have:=Bc h6 h0 hy;omega
 . rcases gV.1 hz with hz | hz
   . exact h.len z hz
   . rw [en.1 hz];exact jq
 . rcases gV.1 hz with hz | hz
   . exact h.co z hz
   . rw [en.1 hz];exact hxC
 . rw [jK,fT]
   exact h.eq.more (bp x.2)
 . have ux:Below w0.heap.size w0 w2:=h.aB.tm cU
   exact (ux.alloc ux.size o).grown rE (by have:=ux.size;simp;omega) (fun k hk=>(wX k hk).1)
def kZ.o {C:Nat} {E:List bA} {M:Mv}(h:kZ w0 wr n C v E M) (hn:n<=1000000) (hC:C<=3850000000000) (hE:E.length<=2400000000000):
 ∃B d,v=.slice B E.length d∧aC 30 #[.slice B E.length d] wr (oB wr n M):=by
 obtain ⟨B,d,e,_,_,ht⟩:=kD h.own rfl h.ok;have hlen:∀t∈E.map (·.2),t.2.length=n:=fun t ht=>by
  obtain ⟨x,hx,rfl⟩:=aj.1 ht;exact h.len x hx
 have Kt:∀t∈E.map (·.2),t.1.2.length<=C:=fun t ht=>by
  obtain ⟨x,hx,rfl⟩:=aj.1 ht;exact h.co x hx
 have IP:=Sn Kt (Jz ht) (k:=2400000000000) (by rw [dW];exact hE) (by omega);refine ⟨B,d,e,(OO n C (C+1) B E.length d (E.map (·.2)) wr ht hlen Kt (by omega) (by omega) IP (aH hE (by decide)) hn).mono ?_⟩;rintro e w' ⟨A,c,T,h1,h2,h3,h4,h5,h6,h7⟩;exact ⟨A,c,T,h1,h2,h3,h4,h5,h6.trans h.eq,h7⟩
def Qv {c:Int} {L:List TV} (h:k<L.length):gD c (aU (L.take (k+1)))=gD c (aU (L.take k))++[((bp L[k]).1,c*(bp L[k]).2)]:=by
 rw [lu h,fT];unfold gD;rw [jK];rfl
def Gb (n C K:Nat) (A:Option Addr) (ma ca:Nat) (L:List TV) (sx:Bool) (Ax:Option Addr) (kx cx:Nat) (zs:List Int) (w:World) (hx:jM w A ma L) (hl:∀t∈L,t.2.length=n) (hC:∀t∈L,t.1.2.length<=C) (hz:aD w Ax kx zs) (hkx:kx<=K) (hkc:kx<=cx) (Ks:cx<=9223372036854775807) (hm:ma<=2400000000000) (hn:n<=1000000) (hCK:C+K<=3800000000000):
 aC 91 #[.slice A ma ca,.agg #[.bool sx,.slice Ax kx cx]] w (oB w n (gD (aF sx zs) (aU L))):=by
 obtain ⟨i0,uA,iQ,iC,iP⟩:=dJ nW;have Hx:=aA hx;have HL:=aA hx.len;have Hl:=aA hl;have HC:=aA hC;have Hz:=aA hz;clear hx hl hC hz;go_enter func91,ntmps91
 go_wp2_with fail
 have ox:Below w.heap.size w (w.alloc (.cells #[.bool sx,.slice Ax kx cx] 41)):=aW.alloc aK _;have uw:=Duo.new w (.bool sx) (.slice Ax kx cx);have HG:=aA (fun M e w' (h:oB (w.alloc (.cells #[.bool sx,.slice Ax kx cx] 41)) n M e w')=>h.from_ ox);have Hx:=aA (Hx.o.aB ox);have Hz:=aA (Hz.o.aB ox);clear ox;generalize w.alloc (.cells #[.bool sx,.slice Ax kx cx] 41)=wo at*
 have Hd0:=aA uw;clear uw;generalize w.heap.size=gc at*
 go_loopw [5,6] (fun v kk wr=>∃(k:Nat) (E:List bA),k<=ma∧kk=.int .i64 (k:Int)∧Hid (kZ wo wr n (C+K+1) v E (gD (aF sx zs) (aU (L.take k))))∧E.length<=k) (fun _ kk _=>ma-(intOf kk).toNat)
 case atStart=>exact ⟨0,[],by omega,rfl,kZ.start _ _ _,aK⟩
 case round=>
  obtain ⟨k,E,hk,rfl,hO,Kv⟩:=hrel;obtain ⟨wt,rfl⟩:∃wt:World,wt=wr:=⟨_,rfl⟩;have hO1:=aA (fun j (h:u5.ownBlock=some j)=>hO.o.own.lt j h);by_cases hlt:k<ma
  . obtain ⟨b,o,rfl,hb,hc⟩:=Hx.o.at_ (by omega)
    (have vD:k<L.length:=by rw [HL.o];exact hlt);obtain ⟨Ai,ci,Ei,ei,e1,e2,e3,e4,e5,e6,e7,e8,e9⟩:=hc k vD;have wY:=Hl.o _ (bw vD);have Qc:=HC.o _ (bw vD);have Htk:=aA (Qv (c:=aF sx zs) vD);clear hc;generalize L[k]=x at*
    obtain ⟨⟨s,xs⟩,ps⟩:=x;simp only at e1 e2 e3 e4 e6 e8 e9 wY Qc;have JO:=aA wY;rw [aq 3 k] at e1 e2 e3;rw [<- j9] at e2 e3;(have dI:(k:Int)<(ma:Int):=by omega);(have wP:(0:Int)<=(k:Int):=by omega);have kj:=aA hO.o.aB;have gw:Hid (∀W,Below wo.heap.size wo W->W.cell? ⟨b,o+k*3,none⟩=some (.bool s)∧W.cell? ⟨b,o+k*3+1,none⟩=some (.slice Ai xs.length ci)∧W.cell? ⟨b,o+k*3+2,none⟩=some (.slice Ei ps.length ei)∧W.cell? ⟨gc,0,none⟩=some (.bool sx)∧W.cell? ⟨gc,1,none⟩=some (.slice Ax kx cx)):=fun W hW=>
     ⟨(hW.cell (p:=⟨b,o+k*3,none⟩) hb).trans e1,(hW.cell (p:=⟨b,o+k*3+1,none⟩) hb).trans e2,(hW.cell (p:=⟨b,o+k*3+2,none⟩) hb).trans e3,(Hd0.o.aB hW).cell0,(Hd0.o.aB hW).cell1⟩
    have E8:=aA e8;have E9:=aA e9;obtain ⟨a1,a2,a3,a4,a5⟩:=gw.o _ kj.o;clear e8 e9 e1 e2 e3 wY;have qm:Hid (∀W,Below wt.heap.size wt W->W.cell? ⟨b,o+k*3,none⟩=some (.bool s)∧W.cell? ⟨b,o+k*3+1,none⟩=some (.slice Ai xs.length ci)∧W.cell? ⟨b,o+k*3+2,none⟩=some (.slice Ei ps.length ei)∧W.cell? ⟨gc,0,none⟩=some (.bool sx)∧W.cell? ⟨gc,1,none⟩=some (.slice Ax kx cx)):=fun W hW=>gw.o _ (kj.o.tm hW);have Cm:Hid (∀W,Below wt.heap.size wt W->aC 98 #[.agg #[.bool s,.slice Ai xs.length ci],.agg #[.bool sx,.slice Ax kx cx]] W (gj W (aF s xs*aF sx zs) (xs.length+kx))):=fun W hW=>
     Yg s sx Ai Ax xs.length kx ci cx xs zs W (E8.o.aB (kj.o.tm hW)) (Hz.o.aB (kj.o.tm hW)) e4 e5 hkc Ks (by omega) (by omega)
    (have q1:E.length+1<=maxLen:=by unfold maxLen;omega);(have q2:(E.length+1)*56<=140737488355328:=by omega);have wX:Hid (∀j,u5.ownBlock=some j->wo.heap.size<=j∧j<wt.heap.size):=hO1.o;have F:Hid (∀(w7 w8:World) (s2:Bool) (A2:Option Addr) (k2 c2:Nat) (ls:List Int) (gg cap:Nat),Below wt.heap.size wt w7->k2<=c2->c2<=9223372036854775807->k2<=xs.length+kx->aD w7 A2 k2 ls->bW s2 ls (aF s xs*aF sx zs)->(0<k2->∀z,A2=some z->wt.heap.size<=z.block)->w8.ownsRow wo.heap.size 44 3 (.slice (some ⟨gg,0,none⟩) (E.length+1) cap) (E.length+1) (aS E++[.bool s2,.slice A2 k2 c2,.slice Ei ps.length ei])->(w7.alloc (.cells #[.bool s2,.slice A2 k2 c2,.slice Ei ps.length ei] 44)).grownBy w8 u5.ownBlock->(u5.ownBlock=some gg∨gg=w7.heap.size+1)->∃E2:List bA,E2.length=E.length+1∧kZ wo w8 n (C+K+1) (.slice (some ⟨gg,0,none⟩) (E.length+1) cap) E2 (gD (aF sx zs) (aU (L.take (k+1))))):=fun w7 w8 s2 A2 k2 c2 ls gg cap hb h1 h2 h3 h4 h5 h6 h7 h8 h9=>by
     obtain rfl:=h4.len;have Jn:=hO.o.next (x:=(((A2,c2),(Ei,ei)),((s2,ls),ps))) (o:=(.cells #[.bool s2,.slice A2 ls.length c2,.slice Ei ps.length ei] 44)) hb ⟨h1,h2,e6,e7,h4,(E9.o.aB kj.o).aB hb⟩ JO.o (by show ls.length<=C+K+1;omega)
      (fun h0 z hz e=>by have h10:=h6 h0 z hz;have h11:=wX.o _ e;have:=hb.size;omega) (fun h0 z hz e=>by have h10:=Bc E9.o h0 hz;have h11:=wX.o _ e;omega)
      h7 h8 h9 rfl
     refine ⟨E++[(((A2,c2),(Ei,ei)),((s2,ls),ps))],by rw [eF];rfl,?_⟩;have e:bp ((s2,ls),ps)=(ps,aF sx zs*aF s xs):=by
      show (ps,aF s2 ls)=_;rw [h5.eq,mg]
     rw [Htk.o];show kZ _ _ _ _ _ _ (_++[(ps,aF sx zs*aF s xs)]);rw [<- e];exact Jn
    have HOW:=aA (fun W (hW:Below wt.heap.size wt W)=>dZ hO.o.own hW);(have xU:Hid (∀(W:World) (ob:Obj),Below wt.heap.size wt W->wo.heap.size<=(W.alloc ob).heap.size):=fun W ob hW=>by have:=hW.size;have:=kj.o.size;simp;omega);have hBw:=aA (fun W (hW:Below wt.heap.size wt W)=>kj.o.tm hW);clear hO kj E8 E9 a1 a2 a3 a4 a5;obtain ⟨a1,a2,a3,a4,a5⟩:=qm.o _ aW;(go_wp2_with fail);go_region_held3 (fun W=>W.cell? ⟨b,o+k*3,none⟩=some (.bool s)∧W.cell? ⟨b,o+k*3+1,none⟩=some (.slice Ai xs.length ci)∧W.cell? ⟨b,o+k*3+2,none⟩=some (.slice Ei ps.length ei)∧W.cell? ⟨gc,0,none⟩=some (.bool sx)∧W.cell? ⟨gc,1,none⟩=some (.slice Ax kx cx))
     (first | go_keep | exact qm.o _ aW.drew | exact qm.o _ gN | exact qm.o _ (gN.alloc gN.size _) | exact gw.o _ iD)
     (first
       | (go_at_call 98;refine (Cm.o _ (by first | exact aW.drew | exact aW)).mono ?_;rintro e w7 ⟨s2,A2,k2,c2,ls,rfl,p1,p2,p3,p4,p5,pf,lI⟩;have gN:Below wt.heap.size wt w7:=(by first | exact aW.drew.trans lI | exact lI))
       | ((refine su _ (by rfl) _ _ _ (by rfl) wo.heap.size 44 i0 _ 3 56 underlying22 uA iQ iC iP rfl (by omega) u5 E.length (aS E) (by rfl) ((HOW.o _ gN).alloc _) ⟨w7.heap.size,0,none⟩ 1 1 [.bool s2,.slice A2 k2 c2,.slice Ei ps.length ei] (by rfl) (by rfl) (gK (cs:=#[.bool s2,.slice A2 k2 c2,.slice Ei ps.length ei]) (t:=44) (fr:=(0,0)) (bO w7 _)) (by simp [Value.oneCell']) (Nat.one_pos) q1 q2 (xU.o _ _ gN) (w7.heap.size+1) (by simp) ?_);intro gg cap w8 fu aX gO rT;have iD:Below wo.heap.size wo w8:=((hBw.o _ gN).alloc (hBw.o _ gN).size _).grown aX ((hBw.o _ gN).alloc (hBw.o _ gN).size _).size (fun j hj=>(wX.o j hj).1)))
    obtain ⟨E2,hE2,hO3⟩:=F.o w7 w8 s2 A2 k2 c2 ls gg cap gN p1 p2 p3 p4 p5 pf fu aX gO
    have HO3:=aA hO3;(have hE3:E2.length<=k+1:=by omega);clear hO3 hE2 fu aX gO rT iD gN lI p4 p5 pf F Cm qm HOW xU hBw a1 a2 a3 a4 a5;(go_wp2_with fail);go_roundw
    case rel=>exact ⟨k+1,E2,by omega,by go_num,HO3,hE3⟩
    case measure=>simp [intOf];omega
  . have fP:L.take k=L:=gZ (by rw [HL.o];omega)
    have sF:=hO.o;rw [fP] at sF;obtain ⟨B,d,rfl,Cp⟩:=sF.o (by omega) (by omega) (by omega);have HCp:=aA Cp;have Hb:=aA sF.aB;(have dI:¬(k:Int)<(ma:Int):=by omega);clear fP sF Cp hO;(go_wp2_with fail);refine HCp.o.mono ?_;intro e w9 h9;obtain ⟨A9,c9,T,rfl,t1,t2,t3,t4,t5,t6⟩:=HG.o _ _ _ (h9.from_ Hb.o);have F:Hid (oB w n (gD (aF sx zs) (aU L)) (.returned (.slice A9 T.length c9)) w9):=⟨A9,c9,T,rfl,t1,t2,t3,t4,t5,t6⟩;clear h9 t3 t4 t5 t6;(go_wp2_with fail);go_ret;exact F.o
def Nw {m:Nat} {L:List TV}(h:jM w A m L):∃E:List bA,E.map (·.2)=L∧E.length=m∧(∀x∈E,gL w x)∧Reads w w.heap.size 3 A m (aS E):=by
 rcases jJ m with rfl | hm
 . have hL:L=[]:=acg.1 h.len
   subst hL;exact ⟨[],rfl,rfl,fun x hx=>(by cases hx),vJ rfl fun h0=>absurd h0 (S9 0)⟩
 . obtain ⟨b,o,e,hb,hc⟩:=h.at_ hm
   have key:∀k,k<=L.length->∃E:List bA,E.length=k∧E.map (·.2)=L.take k∧(∀x∈E,gL w x)∧∀i (h:i<E.length),w.cell? ⟨b,o+3*i,none⟩=some (.bool (E[i]).2.1.1)∧w.cell? ⟨b,o+(3*i+1),none⟩=some (.slice (E[i]).1.1.1 (E[i]).2.1.2.length (E[i]).1.1.2)∧w.cell? ⟨b,o+(3*i+2),none⟩=some (.slice (E[i]).1.2.1 (E[i]).2.2.length (E[i]).1.2.2):=by
    intro k;induction k with
    | zero=>intro _;exact ⟨[],rfl,by rw [Ea];rfl,fun x hx=>(by cases hx),fun i hi=>absurd hi (tG i)⟩
    | succ k ih=>
      intro hk;obtain ⟨E,k1,k2,k3,k4⟩:=ih (by omega);obtain ⟨Ai,ci,Ei,ei,e1,e2,e3,e4,e5,e6,e7,e8,e9⟩:=hc k (by omega);refine ⟨E++[(((Ai,ci),(Ei,ei)),L[k])],by rw [eF,k1];rfl,by rw [jK,k2,lu (by omega)];rfl,fun x hx=> ?_,fun i hi=> ?_⟩
      . rcases gV.1 hx with hx | hx
        . exact k3 x hx
        . rw [en.1 hx];exact ⟨e4,e5,e6,e7,e8,e9⟩
      . rcases qz i E.length with hlt | wZ
        . rw [Ti hlt];exact k4 i hlt
        . rw [eF] at hi
          have XL:i<E.length+1:=hi;(obtain rfl:i=E.length:=by omega);rw [acs aK];subst k1;simp only [pT,Tj];exact ⟨e1,e2,e3⟩
   obtain ⟨E,k1,k2,k3,k4⟩:=key L.length aK;rw [LK] at k2;exact ⟨E,k2,k1.trans h.len,k3,vJ (k1.trans h.len) fun _=>⟨b,o,e,hb,k4⟩⟩
def UX (n C K:Nat) (A B:Option Addr) (ma ca mb cb:Nat) (L T:List TV) (w:World) (hx:jM w A ma L) (hy:jM w B mb T) (hl:∀t∈L,t.2.length=n) (hlT:∀t∈T,t.2.length=n) (hC:∀t∈L,t.1.2.length<=C) (hCT:∀t∈T,t.1.2.length<=C) (hC1:C<=3900000000000) (hK:K<=3900000000000) (IP:bM (aU L)+bM (aU T)<2^(64*K)) (hm:ma+mb<=2400000000000) (hn:n<=1000000):
 aC 59 #[.slice A ma ca,.slice B mb cb] w (qG w n (aU L++aU T)):=by
 obtain ⟨i0,hi,iQ,iC,iP⟩:=dJ nW;obtain ⟨E,k1,k2,k3,k4⟩:=Nw hx;obtain ⟨F,j1,j2,j3,j4⟩:=Nw hy;have al:Below w.heap.size w (w.alloc (.cells #[] 44)):=aW.alloc aK _;have HA:Hid (World.ownsRow (w.alloc (.cells #[] 44)) w.heap.size 44 3 (.slice (some ⟨w.heap.size,0,none⟩) 0 0) 0 []):=vO w _ aK;have JX:Hid (Reads (w.alloc (.cells #[] 44)) w.heap.size 3 A ma (aS E)):=k4.alloc aK _;have hr2:Hid (∀W,Below w.heap.size w W->Reads W w.heap.size 3 B mb (aS F)):=fun W hW=>j4.below hW;have o1:=lK E;have o2:=lK F;have q1:0+ma<=maxLen:=by unfold maxLen;omega
 have q2:(0+ma)*56<=140737488355328:=by omega
 have q3:0+ma+mb<=maxLen:=by unfold maxLen;omega
 have q4:(0+ma+mb)*56<=140737488355328:=by omega
 have Fin:Hid (∀W v,Below w.heap.size w W->W.ownsRow w.heap.size 44 3 v (0+ma+mb) ([]++aS E++aS F)->∃D d,v=.slice D (0+ma+mb) d∧aC 30 #[.slice D (0+ma+mb) d] W (qG w n (aU L++aU T))):=fun W v hW aY=>by
  have hEF:(E++F).length=0+ma+mb:=by rw [eF,k2,j2];omega
  have avQ:(E++F).map (·.2)=L++T:=by rw [jK,k1,j1]
  obtain ⟨D,d,e,_,_,ht⟩:=kD (E:=E++F) (by rw [yw];exact aY) hEF fun x hx=>by
   rcases gV.1 hx with hx | hx
   . exact (k3 x hx).aB hW
   . exact (j3 x hx).aB hW
  rw [avQ] at ht;refine ⟨D,d,e,(KF n C K D _ d (L++T) W ht (fun t ht=>(gV.1 ht).elim (hl t) (hlT t)) (fun t ht=>(gV.1 ht).elim (hC t) (hCT t)) hC1 hK (by rw [fT,qy];exact IP) (by omega) hn).mono fun e w' h=> ?_⟩;have h2:=h.from_ hW;rwa [fT] at h2
 clear hx hy hl hlT hC hCT k1 k2 k3 k4 j1 j2 j3 j4 IP;go_enter func59,ntmps59
 go_wp2_with (first
  | (at_builtin;refine bN (w:=w1) rfl _ _ 22 rfl w.heap.size 44 i0 _ 3 56 underlying22 hi iQ iC iP rfl (by decide) v1 (0+ma) ([]++aS E) rfl jG w.heap.size B mb cb (aS F) rfl (hr2.o w1 ah) o2 q3 q4 ah.size ?_;intro v2 w2 bL R9 XR;have iU:Below w.heap.size w w2:=ah.grown R9 ah.size (fun k hk=>(jG.lt k hk).1);obtain ⟨D,d,rfl,Cp⟩:=Fin.o w2 v2 iU bL;have HCp:=aA Cp;clear Cp R9 XR bL jG)
  | (at_builtin;refine bN (w:=w.alloc (.cells #[] 44)) rfl _ _ 22 rfl w.heap.size 44 i0 _ 3 56 underlying22 hi iQ iC iP rfl (by decide) _ 0 [] rfl HA.o w.heap.size A ma ca (aS E) rfl JX.o o1 q1 q2 (by simp) ?_;intro v1 w1 jG wQ aaS;have ah:Below w.heap.size w w1:=al.grown wQ (by simp) (fun k hk=>by have F3:some w.heap.size=some k:=hk;injection F3 with F3;omega);clear wQ aaS))
 have HC2:=HCp.o;rw [ct] at HC2;refine HC2.mono ?_;intro e w9 h9;clear Fin HA JX hr2 al o1 o2 hi iQ iC iP ah iU HCp HC2 q1 q2 q3 q4;obtain ⟨A9,c9,T9,rfl,t1,t2,t3,t4,t5,t6,t7⟩:=h9;have G:Hid (qG w n (aU L++aU T) (.returned (.slice A9 T9.length c9)) w9):=⟨A9,c9,T9,rfl,t1,t2,t3,t4,t5,t6,t7⟩;clear t3 t4 t5 t6 t7;go_wp2_with fail
 go_ret;exact G.o
def Wq (L:Mv) (t:mj) (T:Mv):mulM (L++[t]) T=mulM L T++mulM [t] T:=Et _ _ _
def WQ {L:List TV} (h:i<L.length) (T:Mv):mulM (aU (L.take (i+1))) T=mulM (aU (L.take i)) T++mulM [bp L[i]] T:=by
 rw [lu h,fT];exact Wq _ _ _
def Xi {T:List TV} (h:k<T.length) (t:mj):mulM [t] (aU (T.take (k+1)))=mulM [t] (aU (T.take k))++[(eE t.1 (T[k]).2,t.2*(bp T[k]).2)]:=by
 rw [lu h,fT,xL,xL,jK];rfl
def Z5 {a b:fE}(ha:∀x∈a,0<=x∧x<=1000000000000) (hb:∀x∈b,0<=x∧x<=1000000000000) (j:Nat):C7 (nth (eE a b) j):=by
 rcases qz j (eE a b).length with h | h
 . obtain ⟨y,hy,z,hz,e⟩:=Ov (iK h)
   have:=ha y hy;have:=hb z hz;rw [e];constructor<;>omega
 . rw [cW h]
   constructor<;>omega
def OM (n C K:Nat) (A B:Option Addr) (ma ca mb cb:Nat) (L T:List TV) (w:World) (hx:jM w A ma L) (hy:jM w B mb T) (hl:∀t∈L,t.2.length=n) (hlT:∀t∈T,t.2.length=n) (hC:∀t∈L,t.1.2.length<=C) (hCT:∀t∈T,t.1.2.length<=K)
 (hbL:∀t∈L,∀x∈t.2,0<=x∧x<=1000000000000) (hbT:∀t∈T,∀x∈t.2,0<=x∧x<=1000000000000) (hm:ma*mb<=2400000000000) (PS:ma<=2400000000000) (hmb:mb<=2400000000000) (hn:n<=1000000) (hCK:C+K<=3800000000000):
 aC 64 #[.slice A ma ca,.slice B mb cb] w (oB w n (mulM (aU L) (aU T))):=by
 obtain ⟨i0,uA,iQ,iC,iP⟩:=dJ nW;obtain ⟨j0,hj,uK,yg,Fw⟩:=dJ sD;have Hx:=aA hx;have Hy:=aA hy;have HL:=aA hx.len;have HT:=aA hy.len;have Hl:=aA hl;have HlT:=aA hlT;have HC:=aA hC;have HCT:=aA hCT;have HbL:=aA hbL;have HbT:=aA hbT;clear hx hy hl hlT hC hCT hbL hbT;go_enter func64,ntmps64
 obtain ⟨wo,rfl⟩:∃wo:World,wo=w:=⟨_,rfl⟩;go_wp2_with fail
 go_loopw [5,6] (fun v kk wr=>∃(i:Nat) (E:List bA),i<=ma∧kk=.int .i64 (i:Int)∧Hid (kZ wo wr n (C+K+1) v E (mulM (aU (L.take i)) (aU T)))∧Hid (E.length<=i*mb)) (fun _ kk _=>ma-(intOf kk).toNat)
 case atStart=>exact ⟨0,[],by omega,rfl,kZ.start _ _ _,by show _<=_;rw [zm];exact aK⟩
 case round=>
  obtain ⟨i,E,hi,rfl,hO,Kv⟩:=hrel;by_cases hlt:i<ma
  . obtain ⟨b,o,rfl,hb,hc⟩:=Hx.o.at_ (by omega)
    (have vD:i<L.length:=by rw [HL.o];exact hlt);obtain ⟨Ai,ci,Ei,ei,e1,e2,e3,e4,e5,e6,e7,e8,e9⟩:=hc i vD;have wY:=Hl.o _ (bw vD);have Qc:=HC.o _ (bw vD);have uG:=HbL.o _ (bw vD);have Htk:=aA (WQ vD (aU T));clear hc;generalize L[i]=x at*
    obtain ⟨⟨s,xs⟩,ps⟩:=x;simp only at e1 e2 e3 e4 e6 e8 e9 wY Qc uG;have JO:=aA wY;have Hbd:=aA uG;rw [aq 3 i] at e1 e2 e3;rw [<- j9] at e2 e3;(have dI:(i:Int)<(ma:Int):=by omega);(have wP:(0:Int)<=(i:Int):=by omega);have aHQ:i*mb+mb<=2400000000000:=by
     have h1:=bI mb (show i+1<=ma by omega);rw [bQ,bP] at h1;omega
    have gw:Hid (∀W,Below wo.heap.size wo W->W.cell? ⟨b,o+i*3,none⟩=some (.bool s)∧W.cell? ⟨b,o+i*3+1,none⟩=some (.slice Ai xs.length ci)∧W.cell? ⟨b,o+i*3+2,none⟩=some (.slice Ei ps.length ei)):=fun W hW=>
     ⟨(hW.cell (p:=⟨b,o+i*3,none⟩) hb).trans e1,(hW.cell (p:=⟨b,o+i*3+1,none⟩) hb).trans e2,(hW.cell (p:=⟨b,o+i*3+2,none⟩) hb).trans e3⟩
    have E8:=aA e8;have E9:=aA e9;have hst:Hid (kZ wo wr n (C+K+1) u5 E (mulM (aU (L.take i)) (aU T)++mulM [(ps,aF s xs)] (aU (T.take 0)))):=by
     show kZ _ _ _ _ _ _ _;rw [Ea];show kZ _ _ _ _ _ _ (_++[]);rw [tH];exact hO.o
    have aoi:Hid (E.length<=i*mb+0):=Kv.o;clear e8 e9 e1 e2 e3 wY uG hO Kv;(go_wp2_with fail);go_loopw [5,7] (fun v kk wr=>∃(k:Nat) (E:List bA),k<=mb∧kk=.int .i64 (k:Int)∧Hid (kZ wo wr n (C+K+1) v E (mulM (aU (L.take i)) (aU T)++mulM [(ps,aF s xs)] (aU (T.take k))))∧Hid (E.length<=i*mb+k)) (fun _ kk _=>mb-(intOf kk).toNat)
    case atStart=>exact ⟨0,E,by omega,rfl,hst,aoi⟩
    case round=>
     clear hst aoi;obtain ⟨k,E,hk,rfl,hO,Kv⟩:=hrel;obtain ⟨wt,rfl⟩:∃wt:World,wt=wr:=⟨_,rfl⟩;have wX:=aA (fun j (h:u5.ownBlock=some j)=>hO.o.own.lt j h);by_cases avS:k<mb
     . obtain ⟨b2,o2,rfl,cU,Ml⟩:=Hy.o.at_ (by omega)
       (have hkT:k<T.length:=by rw [HT.o];exact avS);obtain ⟨Bi,di,Fi,fi,f1,f2,f3,f4,f5,f6,f7,f8,f9⟩:=Ml k hkT;have Me:=HlT.o _ (bw hkT);have awf:=HCT.o _ (bw hkT);have akr:=HbT.o _ (bw hkT);have azu:=aA (Xi hkT (ps,aF s xs));clear Ml;generalize T[k]=y at*
       obtain ⟨⟨s',ys⟩,qs⟩:=y;simp only at f1 f2 f3 f4 f6 f8 f9 Me awf akr;have arw:=aA Me;have arL:=aA akr;rw [aq 3 k] at f1 f2 f3;rw [<- j9] at f2 f3;(have aoQ:(k:Int)<(mb:Int):=by omega);(have aIu:(0:Int)<=(k:Int):=by omega);have kj:=aA hO.o.aB;have y7:Hid (∀W,Below wo.heap.size wo W->W.cell? ⟨b2,o2+k*3,none⟩=some (.bool s')∧W.cell? ⟨b2,o2+k*3+1,none⟩=some (.slice Bi ys.length di)∧W.cell? ⟨b2,o2+k*3+2,none⟩=some (.slice Fi qs.length fi)):=fun W hW=>
        ⟨(hW.cell (p:=⟨b2,o2+k*3,none⟩) cU).trans f1,(hW.cell (p:=⟨b2,o2+k*3+1,none⟩) cU).trans f2,(hW.cell (p:=⟨b2,o2+k*3+2,none⟩) cU).trans f3⟩
       have F8:=aA f8;have F9:=aA f9;(have SI:E.length+1<=2400000000000:=by have:=Kv.o;omega);clear f8 f9 f1 f2 f3 Me akr;have hsl:Hid ((eE ps qs).length=n):=oI JO.o arw.o;(go_wp2_with fail);go_loopw [8,9] (fun v jj wr=>∃j:Nat,j<=ps.length∧jj=.int .i64 (j:Int)∧wr.ownsRow wt.heap.size 3 1 v j (ints ((eE ps qs).take j))∧Below wt.heap.size wt wr) (fun _ jj _=>ps.length-(intOf jj).toNat)
       case atStart=>exact ⟨0,by omega,rfl,nu _ _ _ _,aW⟩
       case round=>
        obtain ⟨j,F7,rfl,aY,bD⟩:=hrel;obtain ⟨a1,a2,a3⟩:=gw.o _ (kj.o.tm bD);obtain ⟨b1,b2',b3⟩:=y7.o _ (kj.o.tm bD);by_cases aoS:j<ps.length
        . have wY:=JO.o
          have Me:=arw.o;obtain ⟨be,oe,rfl,qw,hce⟩:=E9.o.at_ (by omega);obtain ⟨bf,of,rfl,VK,PX⟩:=F9.o.at_ (by omega);have ha:=((kj.o.tm bD).cell (p:=⟨be,oe+j,none⟩) qw).trans (hce j (by omega));have pL:=((kj.o.tm bD).cell (p:=⟨bf,of+j,none⟩) VK).trans (PX j (by omega));obtain ⟨p1,p2⟩:=Hbd.o _ (iK (by omega:j<ps.length));obtain ⟨q1,q2⟩:=arL.o _ (iK (by omega:j<qs.length));have ew:IntKind.i64.wrap (nth ps j+nth qs j)=nth ps j+nth qs j:=bR _ (by omega);have Hat:=aA (Xq (a:=ps) (b:=qs) (j:=j) (by omega) (by omega));(have aar:(j:Int)<(ps.length:Int):=by omega);(have aoR:(j:Int)<(qs.length:Int):=by omega);(have Qd:(0:Int)<=(j:Int):=by omega);have HO1:=aA aY;(have z1:j+1<=maxLen:=by unfold maxLen;omega);(have z2:(j+1)*8<=140737488355328:=by omega);(have z3:Hid (∀(o:Obj),wt.heap.size<=(wr.alloc o).heap.size):=fun o=>by have:=bD.size;simp;omega);have PA:Hid (∀W,Below wt.heap.size wt W->W.cell? ⟨b,o+i*3+2,none⟩=some (.slice (some ⟨be,oe,none⟩) ps.length ei)∧W.cell? ⟨b2,o2+k*3+2,none⟩=some (.slice (some ⟨bf,of,none⟩) qs.length fi)∧W.cell? ⟨be,oe+j,none⟩=some (.int .i64 (nth ps j))∧W.cell? ⟨bf,of+j,none⟩=some (.int .i64 (nth qs j))):=fun W hW=>
           ⟨(gw.o _ (kj.o.tm hW)).2.2,(y7.o _ (kj.o.tm hW)).2.2,((kj.o.tm hW).cell (p:=⟨be,oe+j,none⟩) qw).trans (hce j (by omega)),((kj.o.tm hW).cell (p:=⟨bf,of+j,none⟩) VK).trans (PX j (by omega))⟩
          generalize nth ps j=pj at*
          generalize nth qs j=qj at*
          clear hce PX wY Me p1 p2 q1 q2;(go_wp2_with fail);go_region_held3 (fun W=>W.cell? ⟨b,o+i*3+2,none⟩=some (.slice (some ⟨be,oe,none⟩) ps.length ei)∧W.cell? ⟨b2,o2+k*3+2,none⟩=some (.slice (some ⟨bf,of,none⟩) qs.length fi)∧W.cell? ⟨be,oe+j,none⟩=some (.int .i64 pj)∧W.cell? ⟨bf,of+j,none⟩=some (.int .i64 qj))
           (first | go_keep | exact PA.o _ jh)
           (first | (refine su _ (by rfl) _ _ _ (by rfl) wt.heap.size 3 j0 _ 1 8 underlying42 hj uK yg Fw rfl (by omega) u8 j (ints ((eE ps qs).take j)) (by rfl) ((HO1.o.alloc _).drew) ⟨wr.heap.size,0,none⟩ 1 1 [.int .i64 (pj+qj)] (by rfl) (by rfl) (gK (cs:=#[.int .i64 (pj+qj)]) (t:=3) (fr:=(0,0)) (bO wr _)) (by simp [Value.oneCell']) (by omega) z1 z2 (z3.o _) (wr.heap.size+1) (by simp) ?_;intro gg cap w8 fu aX gO rT;have jh:Below wt.heap.size wt w8:=yT bD HO1.o aX bD.size))
          have aam:w8.ownsRow wt.heap.size 3 1 (.slice (some ⟨gg,0,none⟩) (j+1) cap) (j+1) (ints ((eE ps qs).take (j+1))):=by
           rw [Hat.o,FA];exact fu
          clear fu aX gO rT aY HO1;(go_wp2_with fail);go_roundw
          case rel=>exact ⟨j+1,by omega,by go_num,aam,jh⟩
          case measure=>simp [intOf];omega
        . obtain rfl:j=ps.length:=by omega
          obtain ⟨wj,rfl⟩:∃wj:World,wj=wr:=⟨_,rfl⟩;(have si:(eE ps qs).length=ps.length:=by rw [hsl.o,JO.o]);rw [gZ (by rw [si];exact aK)] at aY;obtain ⟨A1,c1,rfl⟩:=eM aY;obtain ⟨g1,g2⟩:=jl aY;have hIe:Hid (Ints wj A1 ps.length (eE ps qs)):=Ints.gi aY (Z5 Hbd.o arL.o);have ahe:Hid (0<ps.length->∀z,A1=some z->u5.ownBlock≠some z.block):=fun _ z hz e=>by
           subst hz;have h1:=(aY.lt z.block rfl).1;have h2:=(wX.o _ e).2;omega
          have sF:=aA (hO.o.ji bD);have hwj:=aA (kj.o.tm bD);have aHu:=bD.size;(have aar:¬(ps.length:Int)<(ps.length:Int):=by omega);have E3:Hid (∀W,Below wo.heap.size wo W->W.cell? ⟨b,o+i*3,none⟩=some (.bool s)∧W.cell? ⟨b,o+i*3+1,none⟩=some (.slice Ai xs.length ci)∧W.cell? ⟨b2,o2+k*3,none⟩=some (.bool s')∧W.cell? ⟨b2,o2+k*3+1,none⟩=some (.slice Bi ys.length di)):=fun W hW=>
           ⟨(gw.o _ hW).1,(gw.o _ hW).2.1,(y7.o _ hW).1,(y7.o _ hW).2.1⟩
          have PC:Hid (∀W,Below wj.heap.size wj W->W.cell? ⟨b,o+i*3,none⟩=some (.bool s)∧W.cell? ⟨b,o+i*3+1,none⟩=some (.slice Ai xs.length ci)∧W.cell? ⟨b2,o2+k*3,none⟩=some (.bool s')∧W.cell? ⟨b2,o2+k*3+1,none⟩=some (.slice Bi ys.length di)):=fun W hW=>
           ⟨(gw.o _ (hwj.o.tm hW)).1,(gw.o _ (hwj.o.tm hW)).2.1,(y7.o _ (hwj.o.tm hW)).1,(y7.o _ (hwj.o.tm hW)).2.1⟩
          have Cm:Hid (∀W,Below wj.heap.size wj W->aC 98 #[.agg #[.bool s,.slice Ai xs.length ci],.agg #[.bool s',.slice Bi ys.length di]] W (gj W (aF s xs*aF s' ys) (xs.length+ys.length))):=fun W hW=>
           Yg s s' Ai Bi xs.length ys.length ci di xs ys W (E8.o.aB (hwj.o.tm hW)) (F8.o.aB (hwj.o.tm hW)) e4 e5 f4 f5 (by omega) (by omega)
          (have q1:E.length+1<=maxLen:=by unfold maxLen;omega);(have q2:(E.length+1)*56<=140737488355328:=by omega);have F:Hid (∀(w7 w8:World) (s2:Bool) (A2:Option Addr) (k2 c2:Nat) (ls:List Int) (gg cap:Nat),Below wj.heap.size wj w7->k2<=c2->c2<=9223372036854775807->k2<=xs.length+ys.length->aD w7 A2 k2 ls->bW s2 ls (aF s xs*aF s' ys)->(0<k2->∀z,A2=some z->wj.heap.size<=z.block)->w8.ownsRow wo.heap.size 44 3 (.slice (some ⟨gg,0,none⟩) (E.length+1) cap) (E.length+1) (aS E++[.bool s2,.slice A2 k2 c2,.slice A1 ps.length c1])->(w7.alloc (.cells #[.bool s2,.slice A2 k2 c2,.slice A1 ps.length c1] 44)).grownBy w8 u5.ownBlock->(u5.ownBlock=some gg∨gg=w7.heap.size+1)->∃E2:List bA,E2.length=E.length+1∧kZ wo w8 n (C+K+1) (.slice (some ⟨gg,0,none⟩) (E.length+1) cap) E2 (mulM (aU (L.take i)) (aU T)++mulM [(ps,aF s xs)] (aU (T.take (k+1))))):=fun w7 w8 s2 A2 k2 c2 ls gg cap hb h1 h2 h3 h4 h5 h6 h7 h8 h9=>by
           obtain rfl:=h4.len;have Jn:=sF.o.next (x:=(((A2,c2),(A1,c1)),((s2,ls),eE ps qs))) (o:=(.cells #[.bool s2,.slice A2 ls.length c2,.slice A1 ps.length c1] 44)) hb ⟨h1,h2,by show (eE ps qs).length<=c1;rw [si];exact g1,g2,h4,by show Ints w7 A1 (eE ps qs).length (eE ps qs);rw [si];exact hIe.o.aB hb⟩ hsl.o (by show ls.length<=C+K+1;omega)
            (fun h0 z hz e=>by have h10:=h6 h0 z hz;have h11:=wX.o _ e;omega) (fun h0 z hz e=>ahe.o (by have h0':0<(eE ps qs).length:=h0;omega) z hz e)
            (by show w8.ownsRow _ _ _ _ _ (aS E++[.bool s2,.slice A2 ls.length c2,.slice A1 (eE ps qs).length c1]);rw [si];exact h7) h8 h9 rfl
           refine ⟨E++[(((A2,c2),(A1,c1)),((s2,ls),eE ps qs))],by rw [eF];rfl,?_⟩;have e:bp ((s2,ls),eE ps qs)=(eE ps qs,aF s xs*aF s' ys):=by
            show (eE ps qs,aF s2 ls)=_;rw [h5.eq]
           rw [e,vA] at Jn;rw [azu.o];exact Jn
          have HOW:=aA (fun W (hW:Below wj.heap.size wj W)=>dZ sF.o.own hW);(have xU:Hid (∀(W:World) (ob:Obj),Below wj.heap.size wj W->wo.heap.size<=(W.alloc ob).heap.size):=fun W ob hW=>by have:=hW.size;have:=hwj.o.size;simp;omega);have hBw:=aA (fun W (hW:Below wj.heap.size wj W)=>hwj.o.tm hW);have aJW:=Kv.o;have Rq:=aA (fun j (h:u5.ownBlock=some j)=>wX.o j h);have a9:=a3;clear hO sF kj E8 E9 F8 F9 a1 a2 a3 b1 b2' b3 aY bD hIe ahe gw y7 Kv;obtain ⟨a1,a2,a3,a4⟩:=PC.o _ aW;(go_wp2_with fail);go_region_held3 (fun W=>W.cell? ⟨b,o+i*3,none⟩=some (.bool s)∧W.cell? ⟨b,o+i*3+1,none⟩=some (.slice Ai xs.length ci)∧W.cell? ⟨b2,o2+k*3,none⟩=some (.bool s')∧W.cell? ⟨b2,o2+k*3+1,none⟩=some (.slice Bi ys.length di))
           (first | go_keep | exact PC.o _ aW.drew | exact PC.o _ gN | exact PC.o _ (gN.alloc gN.size _) | exact E3.o _ iD)
           (first
             | (go_at_call 98;refine (Cm.o _ (by first | exact aW.drew | exact aW)).mono ?_;rintro e w7 ⟨s2,A2,k2,c2,ls,rfl,p1,p2,p3,p4,p5,pf,lI⟩;have gN:Below wj.heap.size wj w7:=(by first | exact aW.drew.trans lI | exact lI))
             | ((refine su _ (by rfl) _ _ _ (by rfl) wo.heap.size 44 i0 _ 3 56 underlying22 uA iQ iC iP rfl (by omega) u5 E.length (aS E) (by rfl) ((HOW.o _ gN).alloc _) ⟨w7.heap.size,0,none⟩ 1 1 [.bool s2,.slice A2 k2 c2,.slice A1 ps.length c1] (by rfl) (by rfl) (gK (cs:=#[.bool s2,.slice A2 k2 c2,.slice A1 ps.length c1]) (t:=44) (fr:=(0,0)) (bO w7 _)) (by simp [Value.oneCell']) (Nat.one_pos) q1 q2 (xU.o _ _ gN) (w7.heap.size+1) (by simp) ?_);intro gg cap w8 fu aX gO rT;have iD:Below wo.heap.size wo w8:=((hBw.o _ gN).alloc (hBw.o _ gN).size _).grown aX ((hBw.o _ gN).alloc (hBw.o _ gN).size _).size (fun j hj=>(Rq.o j hj).1)))
          obtain ⟨E2,hE2,hO3⟩:=F.o w7 w8 s2 A2 k2 c2 ls gg cap gN p1 p2 p3 p4 p5 pf fu aX gO
          have HO3:=aA hO3;(have hE3:Hid (E2.length<=i*mb+(k+1)):=by show _<=_;omega);clear hO3 hE2 fu aX gO rT iD gN lI p4 p5 pf F Cm PC HOW xU hBw a1 a2 a3 a4;(go_wp2_with fail);go_roundw
          case rel=>exact ⟨k+1,E2,by omega,by go_num,HO3,hE3⟩
          case measure=>simp [intOf];omega
     . obtain rfl:k=mb:=by omega
       (have aoQ:¬(k:Int)<(k:Int):=by omega);have hO3:Hid (kZ wo wt n (C+K+1) u5 E (mulM (aU (L.take (i+1))) (aU T))):=by
        have h:=hO.o;rw [show T.take k=T from gZ (by rw [HT.o];exact aK)] at h;show kZ _ _ _ _ _ _ _;rw [Htk.o];exact h
       have hE3:Hid (E.length<=(i+1)*k):=by
        have:=Kv.o;show _<=_;rw [bQ,bP];exact this
       clear hO Kv;(go_wp2_with fail);go_roundw
       case rel=>exact ⟨i+1,E,by omega,by go_num,hO3,hE3⟩
       case measure=>simp [intOf];omega
  . obtain rfl:i=ma:=by omega
    have fP:L.take i=L:=gZ (by rw [HL.o];omega);have sF:=hO.o;rw [fP] at sF;have SI:=Kv.o;obtain ⟨D,d,rfl,Cp⟩:=sF.o (by omega) (by omega) (by omega);have HCp:=aA Cp;have Hb:=aA sF.aB;(have dI:¬(i:Int)<(i:Int):=by omega);clear fP sF Cp hO;(go_wp2_with fail);refine HCp.o.mono ?_;intro e w9 h9;obtain ⟨A9,c9,T9,rfl,t1,t2,t3,t4,t5,t6⟩:=h9.from_ Hb.o;have F:Hid (oB wo n (mulM (aU L) (aU T)) (.returned (.slice A9 T9.length c9)) w9):=⟨A9,c9,T9,rfl,t1,t2,t3,t4,t5,t6⟩;clear h9 t3 t4 t5 t6;(go_wp2_with fail);go_ret;exact F.o
attribute [-go_sem] run_max_int2
attribute [local go_sem] OB
def WU (n i:Nat) (hi:i<n) (A:Option Addr) (m c:Nat) (L:List TV) (w:World) (hx:jM w A m L) (hl:∀t∈L,t.2.length=n) (hb:∀t∈L,∀x∈t.2,0<=x∧x<=1000000000000) (hm:m<=2400000000000) (hn:n<=1000000):
 aC 94 #[.slice A m c,.int .i64 (i:Int)] w fun e w'=>e=.returned (.int .i64 (dgI i (aU L)))∧w'=w:=by
 have Hx:=aA hx;have HL:=aA hx.len;have Hl:=aA hl;have Hb:=aA hb;clear hx hl hb;go_enter func94,ntmps94
 obtain ⟨wo,rfl⟩:∃wo:World,wo=w:=⟨_,rfl⟩;go_wp2_with fail
 go_loopw [5,6] (fun v kk wr=>∃(k:Nat),k<=m∧v=.int .i64 (dgI i (aU (L.take k)))∧kk=.int .i64 (k:Int)∧wr=wo) (fun _ kk _=>m-(intOf kk).toNat)
 case atStart=>exact ⟨0,dc _,rfl,rfl,rfl⟩
 case round=>
  obtain ⟨k,hk,rfl,rfl,rfl⟩:=hrel;by_cases hlt:k<m
  . obtain ⟨b,o,rfl,hb,hc⟩:=Hx.o.at_ (by omega)
    (have vD:k<L.length:=by rw [HL.o];exact hlt);obtain ⟨Ai,ci,Ei,ei,e1,e2,e3,e4,e5,e6,e7,e8,e9⟩:=hc k vD;have wY:=Hl.o _ (bw vD);have uG:=Hb.o _ (bw vD);have hs:Hid (dgI i (aU (L.take (k+1)))=max (dgI i (aU (L.take k))) (nth (L[k]).2 i)):=by
     show _=_;rw [lu vD,fT];exact abq _ _
    clear hc e1 e2 e4 e5 e7 e8;generalize L[k]=x at*
    obtain ⟨⟨s,xs⟩,ps⟩:=x;(have dI:(k:Int)<(m:Int):=by omega);(have wP:(0:Int)<=(k:Int):=by omega);(have uA:(0:Int)<=(i:Int):=by omega);(have e3':wr.cell? ⟨b,o+k*3+2,none⟩=some (.slice Ei ps.length ei):=by have:=e3;rwa [aq 3 k] at this);have aIn:ps.length=n:=wY;obtain ⟨be,oe,rfl,qw,hce⟩:=e9.at_ (show 0<ps.length by omega);have hci:=hce i (by omega);(have hil:(i:Int)<(ps.length:Int):=by omega);clear hce e9 wY uG;(go_wp2_with fail);go_roundw
    case rel=>exact ⟨k+1,by omega,by rw [hs.o],by go_num,(by first | trivial | rfl)⟩
    case measure=>simp [intOf];omega
  . have dI:¬(k:Int)<(m:Int):=by omega
    have F:Hid (L.take k=L):=gZ (by rw [HL.o];omega);(go_wp2_with fail);go_ret;exact ⟨by first | rfl | (rw [F.o];rfl) | rw [F.o],rfl⟩
def aby {L:List TV} (h:k<L.length):xY i z (aU (L.take (k+1)))=xY i z (aU (L.take k))++(if nth (L[k]).2 i=z then [((L[k]).2.set i 0,(bp L[k]).2)] else []):=by
 rw [lu h,fT];unfold xY;rw [NI,jK];congr 1
 show ((List.filter _ [bp L[k]]).map _)=_;by_cases e:nth (L[k]).2 i=z
 . rw [aM e,xk (by simpa [bp] using e)]
   rfl
 . rw [af e,vk (by simpa [bp] using e)]
   rfl
def adL (n C i:Nat) (hi:i<n) (y:Int) (A:Option Addr) (m c:Nat) (L:List TV) (w:World) (hx:jM w A m L) (hl:∀t∈L,t.2.length=n) (hb:∀t∈L,∀x∈t.2,0<=x∧x<=1000000000000) (hC:∀t∈L,t.1.2.length<=C) (hC1:C<=3800000000000) (hm:m<=1000000000000) (hn:n<=1000000):
 aC 95 #[.slice A m c,.int .i64 (i:Int),.int .i64 y] w (oB w n (xY i y (aU L))):=by
 obtain ⟨i0,uA,iQ,iC,iP⟩:=dJ nW;obtain ⟨j0,hj,uK,yg,Fw⟩:=dJ sD;have Hx:=aA hx;have HL:=aA hx.len;have Hl:=aA hl;have Hb:=aA hb;have HC:=aA hC;clear hx hl hb hC;go_enter func95,ntmps95
 obtain ⟨wo,rfl⟩:∃wo:World,wo=w:=⟨_,rfl⟩;go_wp2_with fail
 go_loopw [7,8] (fun v kk wr=>∃(k:Nat) (E:List bA),k<=m∧kk=.int .i64 (k:Int)∧Hid (kZ wo wr n C v E (xY i y (aU (L.take k))))∧E.length<=k) (fun _ kk _=>m-(intOf kk).toNat)
 case atStart=>exact ⟨0,[],by omega,rfl,kZ.start _ _ _,aK⟩
 case round=>
  obtain ⟨k,E,hk,rfl,hO,Kv⟩:=hrel;obtain ⟨wt,rfl⟩:∃wt:World,wt=wr:=⟨_,rfl⟩;have hO1:=aA (fun j (h:u7.ownBlock=some j)=>hO.o.own.lt j h);by_cases hlt:k<m
  . obtain ⟨b,o,rfl,hb,hc⟩:=Hx.o.at_ (by omega)
    (have vD:k<L.length:=by rw [HL.o];exact hlt);obtain ⟨Ai,ci,Ei,ei,e1,e2,e3,e4,e5,e6,e7,e8,e9⟩:=hc k vD;have wY:=Hl.o _ (bw vD);have Qc:=HC.o _ (bw vD);have uG:=Hb.o _ (bw vD);have Htk:=aA (aby (i:=i) (z:=y) vD);clear hc;generalize L[k]=x at*
    obtain ⟨⟨s,xs⟩,ps⟩:=x;simp only at e1 e2 e3 e4 e6 e8 e9 wY Qc uG;have JO:=aA wY;rw [aq 3 k] at e1 e2 e3;rw [<- j9] at e2 e3;(have dI:(k:Int)<(m:Int):=by omega);(have wP:(0:Int)<=(k:Int):=by omega);(have apg:(0:Int)<=(i:Int):=by omega);(have tj:(i:Int)<(ps.length:Int):=by omega);obtain ⟨be,oe,rfl,qw,hce⟩:=e9.at_ (by omega);have aaI:=hce i (by omega);have kj:=aA hO.o.aB;have gw:Hid (∀W,Below wo.heap.size wo W->W.cell? ⟨b,o+k*3,none⟩=some (.bool s)∧W.cell? ⟨b,o+k*3+1,none⟩=some (.slice Ai xs.length ci)∧W.cell? ⟨b,o+k*3+2,none⟩=some (.slice (some ⟨be,oe,none⟩) ps.length ei)∧W.cell? ⟨be,oe+i,none⟩=some (.int .i64 (nth ps i))):=fun W hW=>
     ⟨(hW.cell (p:=⟨b,o+k*3,none⟩) hb).trans e1,(hW.cell (p:=⟨b,o+k*3+1,none⟩) hb).trans e2,(hW.cell (p:=⟨b,o+k*3+2,none⟩) hb).trans e3,(hW.cell (p:=⟨be,oe+i,none⟩) qw).trans aaI⟩
    have E8:=aA e8;have E9:=aA e9;have Hbd:=aA uG;obtain ⟨a1,a2,a3,a4⟩:=gw.o _ kj.o;clear e8 e9 e1 e2 e3 wY hce aaI uG;by_cases hyy:nth ps i=y
    . have Hyy:=aA hyy
      have hyb:(nth ps i==y)=true:=QG.2 hyy;have hR:Hid (Reads wt wt.heap.size 1 (some ⟨be,oe,none⟩) ps.length (ints ps)):=(E9.o.aB kj.o).reads;have Fc:=aA E9.o.ok;(have q1:0+ps.length<=maxLen:=by have:=JO.o;unfold maxLen;omega);(have q2:(0+ps.length)*8<=140737488355328:=by have:=JO.o;omega);obtain ⟨b1,b2,b3,b4⟩:=gw.o _ (kj.o.alloc kj.o.size (.cells #[] 3));clear hyy;(have r1:E.length+1<=maxLen:=by unfold maxLen;omega);(have r2:(E.length+1)*56<=140737488355328:=by omega);(go_wp2_with (at_builtin;first | (refine nv (w:=(w1.setCell ⟨ge,i,none⟩ (.int .i64 0)).alloc (.cells #[.bool s,.slice Ai xs.length ci,.slice (some ⟨ge,0,none⟩) ps.length ce] 44)) (by rfl) _ _ _ (by rfl) wo.heap.size 44 i0 _ 3 56 underlying22 uA iQ iC iP rfl (by omega) u7 E.length (aS E) (by rfl) ((dZ hO.o.own cU).alloc _) ⟨w1.heap.size,0,none⟩ 1 1 [.bool s,.slice Ai xs.length ci,.slice (some ⟨ge,0,none⟩) ps.length ce] (by rfl) (by rfl) (gK (cs:=#[.bool s,.slice Ai xs.length ci,.slice (some ⟨ge,0,none⟩) ps.length ce]) (t:=44) (fr:=(0,0)) (by have h:=bO (w1.setCell ⟨ge,i,none⟩ (.int .i64 0)) (.cells #[.bool s,.slice Ai xs.length ci,.slice (some ⟨ge,0,none⟩) ps.length ce] 44);simpa using h)) (by simp [Value.oneCell']) Nat.one_pos r1 r2 (by have h1:=cU.size;have h2:=kj.o.size;simp at h1 ⊢;omega) (w1.heap.size+1) (by simp) ?_;intro gg cap w8 fu Rz aku rT) | (refine bN (w:=wt.alloc (.cells #[] 3)) rfl _ _ 42 rfl wt.heap.size 3 j0 (.int .i64 0) 1 8 underlying42 hj uK yg Fw rfl (by decide) _ 0 [] rfl (bB wt 3 aK) wt.heap.size (some ⟨be,oe,none⟩) ps.length ei (ints ps) rfl (hR.o.alloc aK _) (iN ps) q1 q2 (by simp) ?_;intro v' w1 aY aX gO;rw [kY,ct] at aY;have dH:Below wt.heap.size wt w1:=((Below.refl _ wt).alloc aK _).grown aX (by simp) (fun k hk=>((bB wt 3 aK).lt k hk).1);obtain ⟨ge,ce,rfl,hgB,Nj⟩:=aY.form (by omega);have hcell:w1.cell? ⟨ge,i,none⟩=some (.int .i64 (nth ps i)):=(by have h:=aY.cells (g:=ge) rfl i _ (sZ (by omega));rw [kI,ct] at h;exact h);have Bk:w1.frozen? ⟨ge,i,none⟩=false:=aY.frozenAt _;have cU:=dH.setCell (p:=⟨ge,i,none⟩) hgB (.int .i64 0);obtain ⟨c1,c2,c3,c4⟩:=gw.o _ (kj.o.tm cU))));have hst:=(aY.stored i (.int .i64 0)).1;rw [ints_set] at hst;have FI:=jl hst;have XF:∀j,C7 (nth (ps.set i 0) j):=fun j=>by
       rw [iX (by omega)];split
       . constructor<;>omega
       . exact Fc.o j
      have hIe:=Ints.gi hst XF;have zx:(ps.set i 0).length=ps.length:=gH;have sF:=hO.o.ji cU;have ox:=kj.o.tm cU;have Jn:=sF.next (x:=(((Ai,ci),(some ⟨ge,0,none⟩,ce)),((s,xs),ps.set i 0))) (o:=(.cells #[.bool s,.slice Ai xs.length ci,.slice (some ⟨ge,0,none⟩) ps.length ce] 44)) (H:=w1.heap.size+1) aW ⟨e4,e5,by show (ps.set i 0).length<=ce;rw [zx];exact FI.1,FI.2,E8.o.aB ox,by show Ints _ _ (ps.set i 0).length _;rw [zx];exact hIe⟩ (by show (ps.set i 0).length=n;rw [zx];exact JO.o) Qc
       (fun h0 z hz e=>by
         obtain ⟨b9,o9,hA9,ajG,_⟩:=E8.o.at_ h0;rw [hA9] at hz;injection hz with hz
         subst hz;have:=(hO1.o _ e).1;have h8:b9<wo.heap.size:=ajG;have h9:wo.heap.size<=b9:=this;omega)
       (fun h0 z hz e=>by injection hz with hz;subst hz;have h11:=(hO1.o ge e).2;omega)
       (by show w8.ownsRow _ _ _ _ _ (aS E++[.bool s,.slice Ai xs.length ci,.slice (some ⟨ge,0,none⟩) (ps.set i 0).length ce]);rw [zx];exact fu) Rz aku (by simp)
      have HO3:Hid (kZ wo w8 n C (.slice (some ⟨gg,0,none⟩) (E.length+1) cap) (E++[(((Ai,ci),(some ⟨ge,0,none⟩,ce)),((s,xs),ps.set i 0))]) (xY i y (aU (L.take (k+1))))):=by
       show kZ _ _ _ _ _ _ _;rw [Htk.o,aM Hyy.o];exact Jn
      go_roundw
      case rel=>exact ⟨k+1,_,by omega,by go_num,HO3,by rw [eF];show E.length+1<=k+1;omega⟩
      case measure=>simp [intOf];omega
    . have hyb:(nth ps i==y)=false:=jD.2 hyy
      have HO3:Hid (kZ wo wt n C u7 E (xY i y (aU (L.take (k+1))))):=by
       show kZ _ _ _ _ _ _ _;rw [Htk.o,af hyy,tH];exact hO.o
      clear hyy;(go_wp2_with fail);go_roundw
      case rel=>exact ⟨k+1,E,by omega,by go_num,HO3,by omega⟩
      case measure=>simp [intOf];omega
  . have fP:L.take k=L:=gZ (by rw [HL.o];omega)
    have sF:=hO.o;rw [fP] at sF;obtain ⟨B,d,rfl,Cp⟩:=sF.o (by omega) (by omega) (by omega);have HCp:=aA Cp;have Hb:=aA sF.aB;(have dI:¬(k:Int)<(m:Int):=by omega);clear fP sF Cp hO;(go_wp2_with fail);refine HCp.o.mono ?_;intro e w9 h9;obtain ⟨A9,c9,T,rfl,t1,t2,t3,t4,t5,t6⟩:=h9.from_ Hb.o;have F:Hid (oB wo n (xY i y (aU L)) (.returned (.slice A9 T.length c9)) w9):=⟨A9,c9,T,rfl,t1,t2,t3,t4,t5,t6⟩;clear h9 t3 t4 t5 t6;(go_wp2_with fail);go_ret;exact F.o
def upT (i:Nat) (y:Int) (t:TV):TV:=(t.1,t.2.set i (nth t.2 i+y))
def aiX (i:Nat) (y:Int) (L:List TV):aU (L.map (upT i y))=DL i y (aU L):=by
 unfold aU DL;rw [jw,jw];rfl
def adt {y:Int} {L:List TV} (h:k<L.length):(L.take (k+1)).map (upT i y)=(L.take k).map (upT i y)++[upT i y L[k]]:=by
 rw [lu h,jK];rfl
def acM (w:World) (T:List TV) (e:Ending) (w':World):Prop:=
 ∃B d,e=.returned (.slice B T.length d)∧T.length<=d∧d<=9223372036854775807∧jM w' B T.length T∧Below w.heap.size w w'
def Yw {L:List TV} (h:k<L.length):DL i z (aU (L.take (k+1)))=DL i z (aU (L.take k))++[((L[k]).2.set i (nth (L[k]).2 i+z),(bp L[k]).2)]:=by
 rw [lu h,fT];unfold DL;rw [jK];rfl
def anr (n C i:Nat) (hi:i<n) (y:Int) (yg:0<=y∧y<=1000000000000) (A:Option Addr) (m c:Nat) (L:List TV) (w:World) (hx:jM w A m L) (hl:∀t∈L,t.2.length=n) (hb:∀t∈L,∀x∈t.2,0<=x∧x<=1000000000000) (hC:∀t∈L,t.1.2.length<=C) (hC1:C<=3800000000000) (hm:m<=1000000000000) (hn:n<=1000000):
 aC 97 #[.slice A m c,.int .i64 (i:Int),.int .i64 y] w (acM w (L.map (upT i y))):=by
 obtain ⟨i0,uA,iQ,iC,iP⟩:=dJ nW;obtain ⟨j0,hj,uK,yg,Fw⟩:=dJ sD;have Hx:=aA hx;have HL:=aA hx.len;have Hl:=aA hl;have Hb:=aA hb;have HC:=aA hC;clear hx hl hb hC;go_enter func97,ntmps97
 obtain ⟨wo,rfl⟩:∃wo:World,wo=w:=⟨_,rfl⟩;go_wp2_with fail
 go_loopw [7,8] (fun v kk wr=>∃(k:Nat) (E:List bA),k<=m∧kk=.int .i64 (k:Int)∧Hid (kZ wo wr n C v E (DL i y (aU (L.take k))))∧E.length<=k∧Hid (E.map (·.2)=(L.take k).map (upT i y))) (fun _ kk _=>m-(intOf kk).toNat)
 case atStart=>exact ⟨0,[],by omega,rfl,kZ.start _ _ _,aK,rfl⟩
 case round=>
  obtain ⟨k,E,hk,rfl,hO,Kv,hEq⟩:=hrel;obtain ⟨wt,rfl⟩:∃wt:World,wt=wr:=⟨_,rfl⟩;have hO1:=aA (fun j (h:u7.ownBlock=some j)=>hO.o.own.lt j h);by_cases hlt:k<m
  . obtain ⟨b,o,rfl,hb,hc⟩:=Hx.o.at_ (by omega)
    (have vD:k<L.length:=by rw [HL.o];exact hlt);obtain ⟨Ai,ci,Ei,ei,e1,e2,e3,e4,e5,e6,e7,e8,e9⟩:=hc k vD;have wY:=Hl.o _ (bw vD);have Qc:=HC.o _ (bw vD);have uG:=Hb.o _ (bw vD);have Htk:=aA (Yw (i:=i) (z:=y) vD);have Htm:=aA (adt (i:=i) (y:=y) vD);clear hc;generalize L[k]=x at*
    obtain ⟨⟨s,xs⟩,ps⟩:=x;simp only at e1 e2 e3 e4 e6 e8 e9 wY Qc uG;have JO:=aA wY;rw [aq 3 k] at e1 e2 e3;rw [<- j9] at e2 e3;(have dI:(k:Int)<(m:Int):=by omega);(have wP:(0:Int)<=(k:Int):=by omega);(have apg:(0:Int)<=(i:Int):=by omega);(have tj:(i:Int)<(ps.length:Int):=by omega);obtain ⟨be,oe,rfl,qw,hce⟩:=e9.at_ (by omega);have aaI:=hce i (by omega);have kj:=aA hO.o.aB;have gw:Hid (∀W,Below wo.heap.size wo W->W.cell? ⟨b,o+k*3,none⟩=some (.bool s)∧W.cell? ⟨b,o+k*3+1,none⟩=some (.slice Ai xs.length ci)∧W.cell? ⟨b,o+k*3+2,none⟩=some (.slice (some ⟨be,oe,none⟩) ps.length ei)∧W.cell? ⟨be,oe+i,none⟩=some (.int .i64 (nth ps i))):=fun W hW=>
     ⟨(hW.cell (p:=⟨b,o+k*3,none⟩) hb).trans e1,(hW.cell (p:=⟨b,o+k*3+1,none⟩) hb).trans e2,(hW.cell (p:=⟨b,o+k*3+2,none⟩) hb).trans e3,(hW.cell (p:=⟨be,oe+i,none⟩) qw).trans aaI⟩
    have E8:=aA e8;have E9:=aA e9;have Hbd:=aA uG;obtain ⟨a1,a2,a3,a4⟩:=gw.o _ kj.o;clear e8 e9 e1 e2 e3 wY hce aaI uG;have Hpi:=aA (Hbd.o _ (iK (xs:=ps) (i:=i) (by omega)));have ew:IntKind.i64.wrap (nth ps i+y)=nth ps i+y:=bR _ (by have:=Hpi.o;omega);have hR:Hid (Reads wt wt.heap.size 1 (some ⟨be,oe,none⟩) ps.length (ints ps)):=(E9.o.aB kj.o).reads;have Fc:=aA E9.o.ok;(have q1:0+ps.length<=maxLen:=by have:=JO.o;unfold maxLen;omega);(have q2:(0+ps.length)*8<=140737488355328:=by have:=JO.o;omega);obtain ⟨b1,b2,b3,b4⟩:=gw.o _ (kj.o.alloc kj.o.size (.cells #[] 3));(have r1:E.length+1<=maxLen:=by unfold maxLen;omega);(have r2:(E.length+1)*56<=140737488355328:=by omega);(go_wp2_with (at_builtin;first | (refine nv (w:=(w1.setCell ⟨ge,i,none⟩ (.int .i64 (nth ps i+y))).alloc (.cells #[.bool s,.slice Ai xs.length ci,.slice (some ⟨ge,0,none⟩) ps.length ce] 44)) (by rfl) _ _ _ (by rfl) wo.heap.size 44 i0 _ 3 56 underlying22 uA iQ iC iP rfl (by omega) u7 E.length (aS E) (by rfl) ((dZ hO.o.own cU).alloc _) ⟨w1.heap.size,0,none⟩ 1 1 [.bool s,.slice Ai xs.length ci,.slice (some ⟨ge,0,none⟩) ps.length ce] (by rfl) (by rfl) (gK (cs:=#[.bool s,.slice Ai xs.length ci,.slice (some ⟨ge,0,none⟩) ps.length ce]) (t:=44) (fr:=(0,0)) (by have h:=bO (w1.setCell ⟨ge,i,none⟩ (.int .i64 (nth ps i+y))) (.cells #[.bool s,.slice Ai xs.length ci,.slice (some ⟨ge,0,none⟩) ps.length ce] 44);simpa using h)) (by simp [Value.oneCell']) Nat.one_pos r1 r2 (by have h1:=cU.size;have h2:=kj.o.size;simp at h1 ⊢;omega) (w1.heap.size+1) (by simp) ?_;intro gg cap w8 fu Rz aku rT) | (refine bN (w:=wt.alloc (.cells #[] 3)) rfl _ _ 42 rfl wt.heap.size 3 j0 (.int .i64 0) 1 8 underlying42 hj uK yg Fw rfl (by decide) _ 0 [] rfl (bB wt 3 aK) wt.heap.size (some ⟨be,oe,none⟩) ps.length ei (ints ps) rfl (hR.o.alloc aK _) (iN ps) q1 q2 (by simp) ?_;intro v' w1 aY aX gO;rw [kY,ct] at aY;have dH:Below wt.heap.size wt w1:=((Below.refl _ wt).alloc aK _).grown aX (by simp) (fun k hk=>((bB wt 3 aK).lt k hk).1);obtain ⟨ge,ce,rfl,hgB,Nj⟩:=aY.form (by omega);have hcell:w1.cell? ⟨ge,i,none⟩=some (.int .i64 (nth ps i)):=(by have h:=aY.cells (g:=ge) rfl i _ (sZ (by omega));rw [kI,ct] at h;exact h);have Bk:w1.frozen? ⟨ge,i,none⟩=false:=aY.frozenAt _;have cU:=dH.setCell (p:=⟨ge,i,none⟩) hgB (.int .i64 (nth ps i+y));obtain ⟨c1,c2,c3,c4⟩:=gw.o _ (kj.o.tm cU))));have hst:=(aY.stored i (.int .i64 (nth ps i+y))).1;rw [ints_set] at hst;have FI:=jl hst;have XF:∀j,C7 (nth (ps.set i (nth ps i+y)) j):=fun j=>by
     rw [iX (by omega)];split
     . have:=Hpi.o;constructor<;>omega
     . exact Fc.o j
    have hIe:=Ints.gi hst XF;have zx:(ps.set i (nth ps i+y)).length=ps.length:=gH;have sF:=hO.o.ji cU;have ox:=kj.o.tm cU;have Jn:=sF.next (x:=(((Ai,ci),(some ⟨ge,0,none⟩,ce)),((s,xs),ps.set i (nth ps i+y)))) (o:=(.cells #[.bool s,.slice Ai xs.length ci,.slice (some ⟨ge,0,none⟩) ps.length ce] 44)) (H:=w1.heap.size+1) aW ⟨e4,e5,by show (ps.set i (nth ps i+y)).length<=ce;rw [zx];exact FI.1,FI.2,E8.o.aB ox,by show Ints _ _ (ps.set i (nth ps i+y)).length _;rw [zx];exact hIe⟩ (by show (ps.set i (nth ps i+y)).length=n;rw [zx];exact JO.o) Qc
     (fun h0 z hz e=>by
       obtain ⟨b9,o9,hA9,ajG,_⟩:=E8.o.at_ h0;rw [hA9] at hz;injection hz with hz
       subst hz;have:=(hO1.o _ e).1;have h8:b9<wo.heap.size:=ajG;have h9:wo.heap.size<=b9:=this;omega)
     (fun h0 z hz e=>by injection hz with hz;subst hz;have h11:=(hO1.o ge e).2;omega)
     (by show w8.ownsRow _ _ _ _ _ (aS E++[.bool s,.slice Ai xs.length ci,.slice (some ⟨ge,0,none⟩) (ps.set i (nth ps i+y)).length ce]);rw [zx];exact fu) Rz aku (by simp)
    have HO3:Hid (kZ wo w8 n C (.slice (some ⟨gg,0,none⟩) (E.length+1) cap) (E++[(((Ai,ci),(some ⟨ge,0,none⟩,ce)),((s,xs),ps.set i (nth ps i+y)))]) (DL i y (aU (L.take (k+1))))):=by
     show kZ _ _ _ _ _ _ _;rw [Htk.o];exact Jn
    have HQ3:Hid ((E++[(((Ai,ci),(some (⟨ge,0,none⟩:Addr),ce)),((s,xs),ps.set i (nth ps i+y)))]).map (·.2)=(L.take (k+1)).map (upT i y)):=by
     show _=_;rw [jK,hEq.o,Htm.o];rfl
    go_roundw
    case rel=>exact ⟨k+1,_,by omega,by go_num,HO3,by rw [eF];show E.length+1<=k+1;omega,HQ3⟩
    case measure=>simp [intOf];omega
  . have fP:L.take k=L:=gZ (by rw [HL.o];omega)
    have sF:=hO.o;rw [fP] at sF;obtain ⟨B,d,rfl,z1,z2,z3⟩:=kD sF.own rfl sF.ok;have hQ:=hEq.o;rw [fP] at hQ;(have hEL:E.length=(L.map (upT i y)).length:=by rw [<- hQ,dW]);rw [hQ,hEL] at z3;have F:Hid (acM wo (L.map (upT i y)) (.returned (.slice B E.length d)) wt):=⟨B,d,by rw [hEL],by rw [<- hEL];exact z1,z2,z3,sF.aB⟩;(have dI:¬(k:Int)<(m:Int):=by omega);clear fP sF hO z3 hQ hEL hEq;(go_wp2_with fail);go_ret;exact F.o
open aG
def NX (w:World) (i m:Nat) (g:Pn m) (e:Ending) (w':World):Prop:=
 ∃g':Pn m,(g'=g∨g'= -g)∧o7 g'∧∃A c T,e=.returned (.slice A T.length c)∧T.length<=c∧c<=9223372036854775807∧jM w' A T.length T∧eP (i+m) T∧aU T=iI i m g'∧Below w.heap.size w w'
def XM {i m:Nat} {g:Pn m} {x:TV} {R:List TV}(hP:eP (i+m) (x::R)) (e:aU (x::R)=iI i m g):(x.1.1=false->o7 g)∧(x.1.1=true->o7 (-g)):=by
 have hz:aF x.1.1 x.1.2≠0:=hP.mv.ne (bp x) ay;cases hp:mU m g with
 | nil=>unfold iI at e;rw [hp] at e;cases e
 | cons t L=>
   unfold iI at e;rw [hp] at e;have e1:aF x.1.1 x.1.2=t.2:=fN Prod.snd (l6 e).1;constructor
   . intro h t' L' h'
     rw [hp] at h';rw [<-(l6 h').1,<- e1];rw [h] at hz ⊢;(have:aF false x.1.2=(limbs x.1.2:Int):=by simp [aF]);omega
   . intro h t' L' h'
     rw [Fp,hp] at h';rw [<-(l6 h').1];show 0< -t.2;rw [<- e1];rw [h] at hz ⊢;(have:aF true x.1.2= -(limbs x.1.2:Int):=by simp [aF]);omega
def Yq (C i m:Nat) (hn:i+m<=6) (A:Option Addr) (c:Nat) (T:List TV) (g:Pn m) (w:World) (hx:jM w A T.length T) (Qf:T.length<=c) (Ml:c<=9223372036854775807) (hP:eP (i+m) T) (e:aU T=iI i m g) (hC:∀t∈T,t.1.2.length<=C) (hC1:C<=3700000000000) (hm:T.length<=1000000000000):
 aC 58 #[.slice A T.length c] w (NX w i m g):=by
 have F0:Hid (o7 g->NX w i m g (.returned (.slice A T.length c)) w):=fun h=>⟨g,.inl rfl,h,A,c,T,rfl,Qf,Ml,hx,hP,e,aW⟩;have S:Hid (∀W,Below w.heap.size w W->∀s B k d zs,aD W B k zs->k<=1->k<=d->d<=9223372036854775807->aF s zs= -1->aC 91 #[.slice A T.length c,.agg #[.bool s,.slice B k d]] W (oB W (i+m) (gD (-1) (aU T)))):=fun W hW s B k d zs h1 h2 h3 h4 h5=>by
  have h:=Gb (i+m) C 1 A T.length c T s B k d zs W (hx.aB hW) (fun t ht=>hP.mv.len (bp t) (aj.2 ⟨t,ht,rfl⟩)) hC h1 h2 h3 h4 (by omega) (by omega) (by omega);rwa [h5] at h
 have Ee:=aA e;by_cases h0:T.length=0
 . have hT:=lz h0
   have hg:g=0:=xD.1 (by rw [<- e,hT];rfl);have F:=aA (F0.o (fun t L h=>by rw [hg,sR.2 rfl] at h;cases h));have hl:¬(0:Int)<(T.length:Int):=by omega
   clear hx e hP hC F0 S hT hg h0;go_enter func58,ntmps58
   go_wp2_with fail
   go_ret;exact F.o
 . have hl:(0:Int)<(T.length:Int):=by omega
   have tq:0<T.length:=pV h0;obtain ⟨b,o,hA,hb,hc⟩:=hx.at_ (by omega);subst hA;obtain ⟨Ai,ci,Ei,ei,z1,_⟩:=hc 0 tq;have Fx:((T[0]'tq).1.1=false->o7 g)∧((T[0]'tq).1.1=true->o7 (-g)):=by
    match T,hP,e,tq with
    | x::R,hP,e,_=>exact XM hP e
   have Hs:=aA Fx;have z2:w.cell? ⟨b,o,none⟩=some (.bool (T[0]'tq).1.1):=z1;clear z1 hc Fx hx e hP hC h0;generalize (T[0]'tq).1.1=s at*
   cases s with
   | false=>
     have F:=aA (F0.o (Hs.o.1 rfl));clear F0 S Hs;(go_enter func58,ntmps58);(go_wp2_with fail);go_ret;exact F.o
   | true=>
     have PN:=aA (Hs.o.2 rfl);clear F0 Hs;(go_enter func58,ntmps58);obtain ⟨wo,rfl⟩:∃wo:World,wo=w:=⟨_,rfl⟩;(go_wp2_with fail);refine (Yf wo).mono ?_;rintro e w1 ⟨s3,A3,k3,c3,l3,rfl,o1,o2,o3,o4,o5,o6⟩;have Cs:=aA (S.o w1 o6 s3 A3 k3 c3 l3 o4 o3 o1 o2 o5.eq);have B1:=aA o6;clear o4 o5 o6 S;(go_wp2_with fail);refine Cs.o.mono ?_;rintro e w2 ⟨A4,c4,T4,rfl,t1,t2,t3,t4,t5,t6⟩;have F:Hid (NX wo i m g (.returned (.slice A4 T4.length c4)) w2):=⟨-g,.inr rfl,PN.o,A4,c4,T4,rfl,t1,t2,t3,t4,OD t4.mv (by rw [<- Ee.o];exact t5),B1.o.tm t6⟩;clear t3 t4 t5 t6;(go_wp2_with fail);go_ret;exact F.o
def NY (w:World) (n:Nat) (Q:Mv) (e:Ending) (w':World):Prop:=
 ∃A c T,e=.returned (.tuple #[.slice A T.length c,.bool true])∧T.length<=c∧c<=9223372036854775807∧jM w' A T.length T∧eP n T∧jR n (aU T) Q∧Below w.heap.size w w'
def Pz (h:Below B w0 w) (hg:B<=g) (u v:Value):Below B w0 ((w.setCell ⟨g,0,none⟩ u).setCell ⟨g,1,none⟩ v):=(h.setCell (p:=⟨g,0,none⟩) hg _).setCell (p:=⟨g,1,none⟩) hg _
def UK {ps:fE}(h0:w.cell? ⟨g,0,none⟩=some (.bool s)) (h1:w.cell? ⟨g,1,none⟩=some (.slice A ls.length c)) (h2:w.cell? ⟨g,2,none⟩=some (.slice E ps.length d)) (hg:g<w.heap.size)
 (k1:ls.length<=c) (k2:c<=9223372036854775807) (k3:ps.length<=d) (k4:d<=9223372036854775807) (hL:aD w A ls.length ls) (hE:Ints w E ps.length ps):jM w (some ⟨g,0,none⟩) 1 [((s,ls),ps)]:=
 ⟨rfl,fun _=>⟨g,0,rfl,hg,fun i hi=>by
   have XL:i<1:=hi;obtain rfl:i=0:=by omega
   exact ⟨A,c,E,d,h0,h1,h2,k1,k2,k3,k4,hL,hE⟩⟩⟩
def qV {F:Nat} {R:List TV}(h:eP n R) (hF:∀t∈aU R,t.2.natAbs<=F) (hK:F<2^(64*K)):∀t∈R,t.1.2.length<=K:=fun t ht=>
 (h.co t ht).cap (aR (hF (bp t) (aj.2 ⟨t,ht,rfl⟩)) hK)
def uC {R:List TV}(h:eP n R):∀t∈aU R,t.2.natAbs<=bM (aU R):=fun t ht=>h.mv.small (jR.refl n _) ht
def adM (n K1 K2:Nat) (A B:Option Addr) (ma ca mb cb:Nat) (L T:List TV) (Q P':Mv) (pl:fE) (cl:Int) (w:World)
 (hx:jM w A ma L) (hy:jM w B mb T) (hL:eP n L) (hT:eP n T) (hTe:aU T=(pl,cl)::P')
 (hQ:bC n Q) (hE:jR n (aU L) (mulM Q (aU T))) (hQb:C8 1000000000000 Q) (hTb:C8 1000000000000 (aU T)) (hq:Q.length*mb<=1000000000000) (hq1:Q.length<=1000000000000) (hmb:mb<=1000000000000)
 (hK1:bM Q<2^(64*K1)) (hK2:bM (aU T)<2^(64*K2)) (hK:K1+K2<=3700000000000) (hn:n<=6):
 aC 96 #[.slice A ma ca,.slice B mb cb] w (NY w n Q):=by
 obtain ⟨i0,uA,iQ,iC,iP⟩:=dJ nW;obtain ⟨j0,hj,uK,yg,Fw⟩:=dJ sD;have hT0:0<T.length:=by
  rcases jJ T.length with h | h
  . rw [lz h] at hTe;cases hTe
  . exact h
 have hlp:bp T[0]=(pl,cl):=by
  match T,hTe with
  | y::T,e=>exact (l6 e).1
 have aau:=hT.mv.len _ (aj.2 ⟨_,bw hT0,rfl⟩);have PS:ma=L.length:=hx.len.symm;have avP:mb=T.length:=hy.len.symm;have aHS:0<mb:=by omega
 subst PS;obtain ⟨bb,ob,rfl,IK,hcb⟩:=hy.at_ (by omega);obtain ⟨Bi,di,Fi,fi,f1,f2,f3,f4,f5,f6,f7,f8,f9⟩:=hcb 0 hT0;have hTC:=qV hT (uC hT) hK2;have auT:=hTC _ (bw hT0);have hqb:∀x∈T[0].2,0<=x∧x<=1000000000000:=hTb (bp T[0]) (aj.2 ⟨_,bw hT0,rfl⟩);have hlT:∀t∈T,t.2.length=n:=fun t ht=>hT.mv.len (bp t) (aj.2 ⟨t,ht,rfl⟩);have hTP:bC n ((pl,cl)::P'):=by rw [<- hTe];exact hT.mv
 have apw:cl≠0:=hTP.ne (pl,cl) ay;clear hcb;generalize T[0]=y at*
 obtain ⟨⟨sb,ys⟩,qs⟩:=y;obtain ⟨rfl,rfl⟩:qs=pl∧aF sb ys=cl:=by injection hlp with e1 e2;exact ⟨e1,e2⟩
 simp only [jv,je,ct] at f1 f2 f3 f4 f6 f8 f9 auT hqb aau;have Ru:qs.length=n:=aau;have anT:0<limbs ys:=by
  rcases jJ (limbs ys) with h | h
  . exfalso
    apply apw;unfold aF;cases sb<;>simp [h]
  . exact h
 have y7:Hid (∀V,Below w.heap.size w V->V.cell? ⟨bb,ob,none⟩=some (.bool sb)∧V.cell? ⟨bb,ob+1,none⟩=some (.slice Bi ys.length di)∧V.cell? ⟨bb,ob+2,none⟩=some (.slice Fi qs.length fi)):=fun V hV=>
  ⟨(hV.cell (p:=⟨bb,ob,none⟩) IK).trans f1,(hV.cell (p:=⟨bb,ob+1,none⟩) IK).trans f2,(hV.cell (p:=⟨bb,ob+2,none⟩) IK).trans f3⟩
 have F8:=aA f8;have F9:=aA f9;have Hy:=aA hy;have HTP:=aA hTP;have HTe:=aA hTe;have HQ:=aA hQ;have HQb:=aA hQb;have HTa:=aA hK2;have HQa:=aA hK1;have HE:=aA hE;have HTm:=aA hT.mv.len;have HlT:=aA hlT;have HTC:=aA hTC;have HTb:Hid (∀t∈T,∀x∈t.2,0<=x∧x<=1000000000000):=fun t ht x hx=>hTb (bp t) (aj.2 ⟨t,ht,rfl⟩) x hx;have Hqb:=aA hqb;have Hlq:=aA Ru;have azq:=aA anT;have hS0:Hid (QW n Q (aU T) 0 (aU L)):=QW.start hE;have hLP:=aA hL;have aoj:Hid (∀V,Only (fun k=>(Value.slice none 0 0).ownBlock=some k) w V->jM V A L.length L):=fun V hV=>hx.aB (hV.below aK (fun k hk=>by cases hk));clear hx hy hL hT hE hTP hTe hTC hTb hQ hQb hK1 hK2 f1 f2 f3 f8 f9 aau hlp anT hlT hqb Ru hT0 avP;go_enter func96,ntmps96
 obtain ⟨wo,rfl⟩:∃wo:World,wo=w:=⟨_,rfl⟩;go_wp2_with fail
 go_loopg [6,7] (Q.length+1) (fun gk v6 v7 wr=>∃(Ar:Option Addr) (cr:Nat) (R:List TV) (k:Nat) (E:List bA),k<=Q.length∧Q.length-k<gk∧v6=.slice Ar R.length cr∧Hid (E.length=k)∧Hid (∀V,Only (fun k=>v7.ownBlock=some k) wr V->jM V Ar R.length R)∧Hid (eP n R)∧Hid (QW n Q (aU T) k (aU R))∧Hid (kZ wo wr n K1 v7 E (Q.take k)))
 case atStart=>exact ⟨A,ca,L,0,[],dc _,xm _,rfl,rfl,aoj,hLP,hS0,kZ.start _ _ _⟩
 case round=>
  clear aoj hLP hS0;obtain ⟨Ar,cr,R,kq,E,hQC,Mh,rfl,Kv,aky,XU,hSt,hO⟩:=hrel;obtain ⟨wp,rfl⟩:∃wp:World,wp=wr:=⟨_,rfl⟩;have hRC:R.length<=1000000000000:=by
   have h:=XU.o.mv.count hSt.o.eq;rw [bE,Er,bE,xh] at h;have h2:=Hy.o.len;have h3:(Q.length-kq)*T.length<=Q.length*mb:=dN (Nat.sub_le _ _) (by omega);omega
  have hRa:bM (aU R)<=bM Q*bM (aU T):=by
   have hld:fI n (Q.drop kq):=fun t ht=>HQ.o.len t (vh ht);refine aH (XU.o.mv.Sq hSt.o.eq (hld.mul HTm.o)) ?_;rw [QB];exact bI _ (LF _ _)
  have hRK:bM (aU R)<2^(64*(K1+K2)):=by
   refine aR hRa ?_;rw [ak,iH];exact QC HQa.o HTa.o
  have HRK:=aA hRK;clear hRa hRK;by_cases h0:0<R.length
  . have hRt:=aky.o wp (Only.refl _ _)
    obtain ⟨b,o,rfl,hb,hc⟩:=hRt.at_ h0;obtain ⟨Ai,ci,Ei,ei,e1,e2,e3,e4,e5,e6,e7,e8,e9⟩:=hc 0 h0;have auW:=qV XU.o (uC XU.o) HRK.o _ (bw h0);obtain ⟨sp,z,Rv,uX,hk3,hstep⟩:∃sp z,kq<Q.length∧Q.drop kq=(sp,z)::Q.drop (kq+1)∧bp (R[0])=(eE sp qs,z*aF sb ys)∧QW n Q (aU T) (kq+1) (aU R++mulM [(sp, -z)] (aU T)):=by
     match R,XU.o,hSt.o,h0 with
     | x::R,hp,hst,_=>
       have h1:bC n (bp x::aU R):=hp.mv;(have h2:QW n Q ((qs,aF sb ys)::P') kq (bp x::aU R):=by rw [<- HTe.o];exact hst);rw [HTe.o];exact h2.lead h1 HQ.o HTP.o
    have hsQ:(sp,z)∈Q:=vh (uX ▸ ay);have aok:=HQb.o _ hsQ;have XE:sp.length=n:=HQ.o.len _ hsQ;have hQk:Hid (Q.take (kq+1)=Q.take kq++[(sp,z)]):=by
     have e:=xb Rv;rw [uX] at e;show _=_;rw [lu Rv,(l6 e).1]
    have hzF:z.natAbs<=bM Q:=P9 hsQ;clear hc hRt;generalize R[0]=x at*
    obtain ⟨⟨s,xs⟩,ps⟩:=x;(obtain ⟨rfl,hxz⟩:ps=eE sp qs∧aF s xs=z*aF sb ys:=by injection hk3 with u1 u2;exact ⟨u1,u2⟩);simp only [jv,je,ct] at e1 e2 e3 e4 e6 e8 e9 auW;obtain ⟨ps,hps⟩:∃ps,eE sp qs=ps:=⟨_,rfl⟩;rw [hps] at e3 e6 e9;(have hlp:ps.length=n:=by rw [<- hps];exact oI XE Hlq.o);have aoA:∀j,j<ps.length->nth ps j=nth sp j+nth qs j:=fun j hj=>by
     have e2:(eE sp qs)[j]'(by rw [hps];exact hj)=sp[j]'(by omega)+qs[j]'(by have:=Hlq.o;omega):=ach;rw [gJ hj,gJ (by omega:j<sp.length),gJ (by have:=Hlq.o;omega:j<qs.length),<- e2];simp only [hps]
    have azF:=aA aoA;have Hps:=aA hps;have Hlp:=aA hlp;have afZ:=aA XE;have alL:=aA aok;have azv:=aA hstep;have HzF:=aA hzF;have Hxz:=aA hxz;have Hk1:=aA Rv;have E8:=aA e8;have E9:=aA e9;have wX:=aA (fun j (h:u7.ownBlock=some j)=>hO.o.own.lt j h);have qu:=aA hO.o.aB;(have hR0:(0:Int)<(R.length:Int):=by omega);(have aHT:(0:Int)<(mb:Int):=by omega);have hRs:=hRC;have gw:Hid (∀V,Below wp.heap.size wp V->V.cell? ⟨b,o,none⟩=some (.bool s)∧V.cell? ⟨b,o+1,none⟩=some (.slice Ai xs.length ci)∧V.cell? ⟨b,o+2,none⟩=some (.slice Ei ps.length ei)∧V.cell? ⟨bb,ob,none⟩=some (.bool sb)∧V.cell? ⟨bb,ob+1,none⟩=some (.slice Bi ys.length di)∧V.cell? ⟨bb,ob+2,none⟩=some (.slice Fi qs.length fi)):=fun V hV=>
     have k:=y7.o V (qu.o.tm hV)
     ⟨(hV.cell (p:=⟨b,o,none⟩) hb).trans e1,(hV.cell (p:=⟨b,o+1,none⟩) hb).trans e2,(hV.cell (p:=⟨b,o+2,none⟩) hb).trans e3,k.1,k.2.1,k.2.2⟩
    have Ce:Hid (∀V,Below wp.heap.size wp V->aC 75 #[.agg #[.bool s,.slice Ai xs.length ci],.agg #[.bool sb,.slice Bi ys.length di]] V (fun e V'=>∃s1 A1 k1 c1 l1,e=.returned (.tuple #[.agg #[.bool s1,.slice A1 k1 c1],.int .i64 0])∧k1<=c1∧c1<=9223372036854775807∧aD V' A1 k1 l1∧bW s1 l1 z∧(0<k1->∀y,A1=some y->V.heap.size<=y.block)∧Below V.heap.size V V')):=fun V hV=>by
     refine (Yh s sb Ai Bi xs.length ys.length ci di xs ys V (E8.o.aB hV) (F8.o.aB (qu.o.tm hV)) e4 e5 f4 f5 (by omega) (by omega) azq.o).mono ?_;rintro e V' ⟨s1,A1,k1,c1,l1,h1,_,h2,h3,h4,h5,h6,h7⟩;(have hm:aF s xs % aF sb ys=0:=by rw [Hxz.o];exact Int.mul_emod_left _ _);(have hdv:aF s xs / aF sb ys=z:=by rw [Hxz.o];exact Tf _ apw);rw [aM hm] at h1;exact ⟨s1,A1,k1,c1,l1,h1,h2,h3,h4,by rw [<- hdv];exact h5 hm,h6,h7⟩
    clear e1 e2 e3 e8 e9 hlp XE aok hstep hzF hxz aoA Rv uX hk3 hsQ hps;obtain ⟨a1,a2,a3,a4,a5,a6⟩:=gw.o _ aW;(go_wp2_with fail);go_cut [8,9] (fun s8 s9 wx=>∃(gd:Nat) (s1:Bool) (A1:Option Addr) (k1 c1:Nat) (l1:List Int),s8=.pointer (some ⟨gd,0,none⟩)∧s9=.int .i64 0∧wp.heap.size<=gd∧Hid (Duo wx gd (.bool s1) (.slice A1 k1 c1))∧k1<=c1∧c1<=9223372036854775807∧Hid (aD wx A1 k1 l1)∧Hid (bW s1 l1 z)∧Hid (0<k1->∀y,A1=some y->wp.heap.size<=y.block)∧Hid (Below wp.heap.size wp wx))
    case first=>
     go_region_held3 (fun V=>V.cell? ⟨b,o,none⟩=some (.bool s)∧V.cell? ⟨b,o+1,none⟩=some (.slice Ai xs.length ci)∧V.cell? ⟨b,o+2,none⟩=some (.slice Ei ps.length ei)∧V.cell? ⟨bb,ob,none⟩=some (.bool sb)∧V.cell? ⟨bb,ob+1,none⟩=some (.slice Bi ys.length di)∧V.cell? ⟨bb,ob+2,none⟩=some (.slice Fi qs.length fi))
      (first | go_keep | exact gw.o _ aW.drew | exact gw.o _ (aW.alloc aK _).drew | exact gw.o _ qw | exact gw.o _ (qw.alloc qw.size _) | exact gw.o _ (Pz qw aK _ _))
      (first | (go_at_call 75;refine (Ce.o _ (by first | exact aW.drew | exact (aW.alloc aK _).drew)).mono ?_;rintro e we ⟨s1,A1,k1',u9,l1,rfl,z2,z3,z4,z5,z6,zU⟩;have qw:Below wp.heap.size wp we:=(by first | exact aW.drew.trans zU | exact (aW.alloc aK _).drew.trans (zU.mono (by simp)));(first | (have tD:=(Duo.new wp (.bool false) (.slice none 0 0));have tE:=Duo.aB (w:=(World.alloc wp _).drew) tD zU;have u0:=tE.cell0;have u1:=tE.cell1;have v0:=tE.frozen 0;have v1:=tE.frozen 1) | skip)))
     all_goals
      (go_wp2_with fail);go_meet
      first
       | exact ⟨wp.heap.size,s1,A1,k1',u9,l1,rfl,rfl,aK,tE.set _ _,z2,z3,tE.limbs _ _ rfl rfl z4,z5,(fun h0 y hy=>by first | exact z6 h0 y hy | (have h:=z6 h0 y hy;simp at h;omega)),Pz qw aK _ _⟩
       | exact ⟨we.heap.size,s1,A1,k1',u9,l1,rfl,rfl,qw.size,Duo.new we _ _,z2,z3,z4.alloc _,z5,(fun h0 y hy=>by first | exact z6 h0 y hy | (have h:=z6 h0 y hy;simp at h;omega)),qw.alloc qw.size _⟩
    case rest=>
     obtain ⟨gd,s1,A1,k1,d1,l1,rfl,rfl,hgd,hDd,p2,p3,hLd,hZd,hFd,hBd⟩:=hcut;obtain ⟨w7,rfl⟩:∃V:World,V=wc:=⟨_,rfl⟩;clear a1 a2 a3 a4 a5 a6 Ce;have aIO:=hDd.o.lt;have aJl:=aA (qu.o.tm hBd.o);(go_wp2_with fail);go_loopw [10,11] (fun v jj wj=>∃j:Nat,j<=ps.length∧jj=.int .i64 (j:Int)∧wj.ownsRow w7.heap.size 3 1 v j (ints (sp.take j))∧Below w7.heap.size w7 wj) (fun _ jj _=>ps.length-(intOf jj).toNat)
     case atStart=>exact ⟨0,by omega,rfl,nu _ _ _ _,aW⟩
     case round=>
      obtain ⟨j,F7,rfl,aY,bD⟩:=hrel;obtain ⟨wj,rfl⟩:∃wj:World,wj=wr:=⟨_,rfl⟩;obtain ⟨a1,a2,a3,a4,a5,a6⟩:=gw.o _ (hBd.o.tm bD);by_cases aoS:j<ps.length
      . have wY:=Hlp.o
        have Me:=Hlq.o;obtain ⟨be,oe,rfl,qw,hce⟩:=E9.o.at_ (by omega);obtain ⟨bf,of,rfl,VK,PX⟩:=F9.o.at_ (by omega);obtain ⟨p1,p4⟩:=alL.o _ (iK (xs:=sp) (i:=j) (by have:=afZ.o;omega));have hpj:=azF.o j aoS;obtain ⟨q1,q2⟩:=Hqb.o _ (iK (by omega:j<qs.length));(have aar:(j:Int)<(ps.length:Int):=by omega);(have aoR:(j:Int)<(qs.length:Int):=by omega);(have Qd:(0:Int)<=(j:Int):=by omega);have PA:Hid (∀V,Below wj.heap.size wj V->V.cell? ⟨b,o+2,none⟩=some (.slice (some ⟨be,oe,none⟩) ps.length ei)∧V.cell? ⟨bb,ob+2,none⟩=some (.slice (some ⟨bf,of,none⟩) qs.length fi)∧V.cell? ⟨be,oe+j,none⟩=some (.int .i64 (nth ps j))∧V.cell? ⟨bf,of+j,none⟩=some (.int .i64 (nth qs j))):=fun V hV=>
         have XS:=hBd.o.trans ((bD.tm hV).mono hBd.o.size);have k:=gw.o _ XS
         ⟨k.2.2.1,k.2.2.2.2.2,(XS.cell (p:=⟨be,oe+j,none⟩) qw).trans (hce j (by omega)),((qu.o.tm XS).cell (p:=⟨bf,of+j,none⟩) VK).trans (PX j (by omega))⟩
        obtain ⟨c1,c2,c3,c4⟩:=PA.o _ aW;have ew:IntKind.i64.wrap (nth ps j-nth qs j)=nth ps j-nth qs j:=bR _ (by omega);(have uv:¬nth ps j<nth qs j:=by omega);have Hat:Hid (sp.take (j+1)=sp.take j++[nth ps j-nth qs j]):=by
         show _=_;(have hjs:j<sp.length:=by have:=afZ.o;omega);rw [lu hjs,hpj,show nth sp j+nth qs j-nth qs j=nth sp j by omega,gJ hjs]
        have HO1:Hid (wj.drew.ownsRow w7.heap.size 3 1 u10 j (ints (sp.take j))):=gQ aY;have ahi:Below w7.heap.size w7 wj.drew:=bD.drew;have O9:Hid (∀V,Below wj.drew.heap.size wj.drew V->V.cell? ⟨b,o+2,none⟩=some (.slice (some ⟨be,oe,none⟩) ps.length ei)∧V.cell? ⟨bb,ob+2,none⟩=some (.slice (some ⟨bf,of,none⟩) qs.length fi)∧V.cell? ⟨be,oe+j,none⟩=some (.int .i64 (nth ps j))∧V.cell? ⟨bf,of+j,none⟩=some (.int .i64 (nth qs j))):=fun V hV=>PA.o V ((Below.refl wj.heap.size wj).drew.trans hV);have BV:Hid (∀V,Below w7.heap.size w7 V->V.cell? ⟨b,o+2,none⟩=some (.slice (some ⟨be,oe,none⟩) ps.length ei)∧V.cell? ⟨bb,ob+2,none⟩=some (.slice (some ⟨bf,of,none⟩) qs.length fi)∧V.cell? ⟨be,oe+j,none⟩=some (.int .i64 (nth ps j))∧V.cell? ⟨bf,of+j,none⟩=some (.int .i64 (nth qs j))):=fun V hV=>
         have XS:=hBd.o.tm hV;have k:=gw.o _ XS
         ⟨k.2.2.1,k.2.2.2.2.2,(XS.cell (p:=⟨be,oe+j,none⟩) qw).trans (hce j (by omega)),((qu.o.tm XS).cell (p:=⟨bf,of+j,none⟩) VK).trans (PX j (by omega))⟩
        (have z1:j+1<=maxLen:=by unfold maxLen;omega);(have z2:(j+1)*8<=140737488355328:=by omega);(have z3:Hid (∀(ob:Obj),w7.heap.size<=(wj.drew.alloc ob).heap.size):=fun ob=>by have:=bD.size;simp;omega);generalize nth ps j=pj at*
        generalize nth qs j=qj at*
        clear hce PX wY Me p1 p4 q1 q2 hpj;(go_wp2_with fail);go_region
        clear aY bD PA c1 c2 c3 c4 a1 a2 a3 a4 a5 a6;generalize wj.drew=wk at*
        obtain ⟨c1,c2,c3,c4⟩:=O9.o _ aW;have apt:decide (pj<qj)=false:=zC (by omega);rw [apt];clear uv apt;(go_wp2_with fail);go_region_held3 (fun V=>V.cell? ⟨b,o+2,none⟩=some (.slice (some ⟨be,oe,none⟩) ps.length ei)∧V.cell? ⟨bb,ob+2,none⟩=some (.slice (some ⟨bf,of,none⟩) qs.length fi)∧V.cell? ⟨be,oe+j,none⟩=some (.int .i64 pj)∧V.cell? ⟨bf,of+j,none⟩=some (.int .i64 qj))
         (first | go_keep | exact BV.o _ jh)
         (first | (refine su _ (by rfl) _ _ _ (by rfl) w7.heap.size 3 j0 _ 1 8 underlying42 hj uK yg Fw rfl (by omega) u10 j (ints (sp.take j)) (by rfl) ((HO1.o.alloc _).drew) ⟨wk.heap.size,0,none⟩ 1 1 [.int .i64 (pj-qj)] (by rfl) (by rfl) (gK (cs:=#[.int .i64 (pj-qj)]) (t:=3) (fr:=(0,0)) (bO wk _)) (by simp [Value.oneCell']) (by omega) z1 z2 (z3.o _) (wk.heap.size+1) (by simp) ?_;intro gg cap w8 fu aX gO rT;have jh:Below w7.heap.size w7 w8:=yT ahi HO1.o aX ahi.size))
        have aam:w8.ownsRow w7.heap.size 3 1 (.slice (some ⟨gg,0,none⟩) (j+1) cap) (j+1) (ints (sp.take (j+1))):=by
         rw [Hat.o,FA];exact fu
        clear fu aX gO rT HO1;(go_wp2_with fail);go_roundw
        case rel=>exact ⟨j+1,by omega,by go_num,aam,jh⟩
        case measure=>simp [intOf];omega
      . obtain rfl:j=ps.length:=by omega
        have wY:=Hlp.o;have Me:=Hlq.o;(have si:sp.length=ps.length:=by rw [afZ.o,wY]);rw [gZ (by rw [si];exact aK)] at aY;obtain ⟨X,cx,rfl⟩:=eM aY;obtain ⟨g1,g2⟩:=jl aY;have hz:=hZd.o;have XF:∀i,C7 (nth sp i):=fun i=>by
         rcases qz i sp.length with h | h
         . have h1:=alL.o _ (iK h)
           constructor<;>omega
         . rw [cW h];constructor<;>omega
        have hIe:Ints wj X ps.length sp:=Ints.gi aY XF;have aaD:0<ps.length->∀z,X=some z->w7.heap.size<=z.block:=fun _ z hz=>(aY.lt z.block (by subst hz;rfl)).1;have hsl:=afZ.o;have hzF:=HzF.o;clear aY XF hZd;have zA:l1.length<=K1:=hz.cap (aR hzF HQa.o);have aJD:=Hk1.o;have Rv:l1.length=k1:=hLd.o.len;subst Rv;have hDj:=hDd.o.aB bD;have dH:Below wp.heap.size wp wj:=hBd.o.tm bD;have aog:=dH.size;have avn:=bD.size;(have aar:¬(ps.length:Int)<(ps.length:Int):=by omega);have m0:=hDj.cell0;have m1:=hDj.cell1;(have hlj:wj.heap.size<(wj.alloc (.cells #[.bool s1,.slice A1 l1.length d1,.slice X ps.length cx] 44)).heap.size:=by simp);have hxE:gL (wj.alloc (.cells #[.bool s1,.slice A1 l1.length d1,.slice X ps.length cx] 44)) (((A1,d1),(X,cx)),((s1,l1),sp)):=
         ⟨p2,p3,by show sp.length<=cx;rw [si];exact g1,g2,(hLd.o.aB bD).alloc _,by show Ints _ X sp.length sp;rw [si];exact hIe.aB (aW.alloc aK _)⟩
        obtain ⟨h0c,h1c,h2c⟩:=ve wj (.bool s1) (.slice A1 l1.length d1) (.slice X ps.length cx) 44;have Fh:Below wp.heap.size wp (wj.alloc (.cells #[.bool s1,.slice A1 l1.length d1,.slice X ps.length cx] 44)):=dH.alloc aog _;have aka:0<l1.length->∀y,A1=some y->wp.heap.size<=y.block:=hFd.o;(have q1:E.length+1<=maxLen:=by have h1:=Kv.o;unfold maxLen;omega);(have q2:(E.length+1)*56<=140737488355328:=by have h1:=Kv.o;omega);(have q3:Hid (wo.heap.size<=((wj.alloc (.cells #[.bool s1,.slice A1 l1.length d1,.slice X ps.length cx] 44)).alloc (.cells #[.bool s1,.slice A1 l1.length d1,.slice X ps.length cx] 44)).heap.size):=by have:=qu.o.size;show _<=_;simp;omega);have HOW:Hid (((wj.alloc (.cells #[.bool s1,.slice A1 l1.length d1,.slice X ps.length cx] 44)).alloc (.cells #[.bool s1,.slice A1 l1.length d1,.slice X ps.length cx] 44)).ownsRow wo.heap.size 44 3 u7 E.length (aS E)):=(dZ hO.o.own Fh).alloc _;have F:Hid (∀(w8:World) (gg cap:Nat),w8.ownsRow wo.heap.size 44 3 (.slice (some ⟨gg,0,none⟩) (E.length+1) cap) (E.length+1) (aS E++[.bool s1,.slice A1 l1.length d1,.slice X ps.length cx])->((wj.alloc (.cells #[.bool s1,.slice A1 l1.length d1,.slice X ps.length cx] 44)).alloc (.cells #[.bool s1,.slice A1 l1.length d1,.slice X ps.length cx] 44)).grownBy w8 u7.ownBlock->(u7.ownBlock=some gg∨gg=wj.heap.size+1+1)->
         kZ wo w8 n K1 (.slice (some ⟨gg,0,none⟩) (E.length+1) cap) (E++[(((A1,d1),(X,cx)),((s1,l1),sp))]) (Q.take kq++[(sp,z)])∧jM w8 (some ⟨b,o,none⟩) R.length R∧jM w8 (some ⟨wj.heap.size,0,none⟩) 1 [((s1,l1),sp)]):=fun w8 gg cap h7 h8 h9=>by
         have Jn:=hO.o.next (x:=(((A1,d1),(X,cx)),((s1,l1),sp))) (o:=(.cells #[.bool s1,.slice A1 l1.length d1,.slice X ps.length cx] 44)) (H:=wj.heap.size+1+1) Fh hxE hsl zA
          (fun h0 y hy e=>by have h10:=aka h0 y hy;have h11:=(wX.o _ e).2;omega) (fun h0 y hy e=>by have h10:=aaD (by have h0':0<sp.length:=h0;omega) y hy;have h11:=(wX.o _ e).2;have h12:=hBd.o.size;omega)
          (by show w8.ownsRow _ _ _ _ _ (aS E++[.bool s1,.slice A1 l1.length d1,.slice X sp.length cx]);rw [si];exact h7) h8 h9 (by simp)
         have e:bp ((s1,l1),sp)=(sp,z):=by
          show (sp,aF s1 l1)=_;rw [hz.eq]
         rw [e] at Jn;have ho:Only (fun k=>u7.ownBlock=some k) (wj.alloc (.cells #[.bool s1,.slice A1 l1.length d1,.slice X ps.length cx] 44)) w8:=(jF (aW.alloc aK _)).trans (Only.fH h8);have hoP:Only (fun k=>u7.ownBlock=some k) wp w8:=(jF Fh).trans ho;refine ⟨Jn,aky.o _ hoP,?_⟩;(have XJ:¬u7.ownBlock=some wj.heap.size:=fun e=>by have:=(wX.o _ e).2;omega);have FB:=iE hxE ho (fun h0 y hy e=>by have h10:=aka h0 y hy;have h11:=(wX.o _ e).2;omega) (fun h0 y hy e=>by have h10:=aaD (by have h0':0<sp.length:=h0;omega) y hy;have h11:=(wX.o _ e).2;have h12:=hBd.o.size;omega);exact UK ((ho.cell (p:=⟨wj.heap.size,0,none⟩) hlj XJ).trans h0c) ((ho.cell (p:=⟨wj.heap.size,1,none⟩) hlj XJ).trans h1c) (by rw [si];exact (ho.cell (p:=⟨wj.heap.size,2,none⟩) hlj XJ).trans h2c) (gh hlj ho.size) p2 p3 FB.2.2.1 g2 FB.2.2.2.2.1 FB.2.2.2.2.2
        have Hz:=aA hz;have Hsl:=aA hsl;have a9:=a3;clear hz hzF hO aky hxE hIe aaD aka hLd hFd hDj hDd hBd bD gw y7 a1 a2 a3 a4 a5 a6 E8 E9 F8 F9 hsl si wY Me;(go_wp2_with (at_builtin;refine nv (w:=(wj.alloc (.cells #[.bool s1,.slice A1 l1.length d1,.slice X ps.length cx] 44)).alloc (.cells #[.bool s1,.slice A1 l1.length d1,.slice X ps.length cx] 44)) (by rfl) _ _ _ (by rfl) wo.heap.size 44 i0 _ 3 56 underlying22 uA iQ iC iP rfl (by omega) u7 E.length (aS E) (by rfl) HOW.o ⟨wj.heap.size+1,0,none⟩ 1 1 [.bool s1,.slice A1 l1.length d1,.slice X ps.length cx] (by rfl) (by rfl) (gK (cs:=#[.bool s1,.slice A1 l1.length d1,.slice X ps.length cx]) (t:=44) (fr:=(0,0)) (by have:=bO (wj.alloc (.cells #[.bool s1,.slice A1 l1.length d1,.slice X ps.length cx] 44)) (.cells #[.bool s1,.slice A1 l1.length d1,.slice X ps.length cx] 44);rwa [aJ] at this)) (by simp [Value.oneCell']) (Nat.one_pos) q1 q2 q3.o (wj.heap.size+1+1) (by simp) ?_;intro gg cap w8 fu aX gO rT));obtain ⟨Pa,hR8,hT8⟩:=F.o w8 gg cap fu aX gO
        have iD:=Pa.aB;obtain ⟨gt,yP⟩:∃g,wj.heap.size=g:=⟨_,rfl⟩;rw [yP] at hT8 ⊢;have Ct:Hid (aC 64 #[.slice (some ⟨gt,0,none⟩) 1 1,.slice (some ⟨bb,ob,none⟩) mb cb] w8 (oB w8 n (mulM [(sp,z)] (aU T)))):=by
         have h:=OM n K1 K2 (some ⟨gt,0,none⟩) (some ⟨bb,ob,none⟩) 1 1 mb cb [((s1,l1),sp)] T w8 hT8 (Hy.o.aB iD) (fun t ht=>by rw [en.1 ht];exact Hsl.o) HlT.o (fun t ht=>by rw [en.1 ht];exact zA) HTC.o (fun t ht x hx=>by rw [en.1 ht] at hx;exact alL.o x hx) (fun t ht x hx=>HTb.o t ht x hx) (by omega) (by omega) (by omega) (by omega) (by omega);have e:aU [((s1,l1),sp)]=[(sp,z)]:=by
          show [(sp,aF s1 l1)]=_;rw [Hz.o.eq]
         rw [e] at h;exact h
        have UC:=aA Pa;have HR8:=aA hR8;clear F Pa hR8 hT8 fu aX gO HOW q3 h0c h1c h2c m0 m1 yP dH Fh hlj;(go_wp2_with fail);refine Ct.o.mono ?_;rintro e w9 ⟨A9,c9,T9,rfl,t1,t2,t3,t4,t5,t6⟩;have hm9:T9.length<=mb:=by
         have h:=t4.mv.count t5;rw [bE,Er,bE] at h;have h2:=Hy.o.len;simp only [List.length_singleton,bP] at h;omega
        (have aoX:fI n [(sp,z)]:=fun t ht=>by rw [en.1 ht];exact Hsl.o);have akv:bM (aU T9)<=bM Q*bM (aU T):=by
         refine aH (t4.mv.Sq t5 (aoX.mul HTm.o)) ?_;rw [abP];exact bI _ HzF.o
        have hpK:bM Q*bM (aU T)<2^(64*(K1+K2)):=by
         rw [ak,iH];exact QC HQa.o HTa.o
        have hC9:=qV t4 (uC t4) (aR akv hpK);have hl9:∀t∈T9,t.2.length=n:=fun t ht=>t4.mv.len (bp t) (aj.2 ⟨t,ht,rfl⟩);have H9:=aA t3;have HP9:=aA t4;have HE9:=aA t5;have Xv:=aA t6;have HC9:=aA hC9;have Hl9:=aA hl9;have arN:=aA akv;have HpK:=aA hpK;clear t3 t4 t5 t6 Ct hC9 hl9 akv hpK;(go_wp2_with fail);refine (Yf w9).mono ?_;rintro e mA ⟨s3,A3,k3,c3,l3,rfl,o1,o2,o3,o4,o5,o6⟩;have Cs:=aA (Gb n (K1+K2) 1 A9 T9.length c9 T9 s3 A3 k3 c3 l3 mA (H9.o.aB o6) Hl9.o HC9.o o4 o3 o1 o2 (by omega) (by omega) (by omega));rw [o5.eq] at Cs;have agp:=aA (Xv.o.tm o6);clear o4 o5 o6;(go_wp2_with fail);refine Cs.o.mono ?_;rintro e FV ⟨A11,c11,Vm,rfl,y1,y2,y3,y4,y5,y6⟩;have aHV:Vm.length<=mb:=by
         have h:=y4.mv.count y5;unfold gD at h;rw [dW,bE,bE] at h;omega
        have ahl:bM (aU Vm)<=bM Q*bM (aU T):=by
         refine aH (y4.mv.Sq y5 (fun t ht=> ?_)) ?_
         . obtain ⟨u,hu,rfl⟩:=aj.1 ht
           exact HP9.o.mv.len u hu
         . rw [FM];exact arN.o
        have aqd:=qV y4 (uC y4) (aR ahl HpK.o);have apc:∀t∈Vm,t.2.length=n:=fun t ht=>y4.mv.len (bp t) (aj.2 ⟨t,ht,rfl⟩);have hlR:∀t∈R,t.2.length=n:=fun t ht=>XU.o.mv.len (bp t) (aj.2 ⟨t,ht,rfl⟩);have hCR:=qV XU.o (uC XU.o) HRK.o;have afq:=agp.o.tm y6;have ase:=aA (UX n (K1+K2) (K1+K2+1) (some ⟨b,o,none⟩) A11 R.length cr Vm.length c11 R Vm FV (HR8.o.aB afq) y3 hlR apc hCR aqd (by omega) (by omega) (by have h1:=HRK.o;have h2:=HpK.o;rw [show 64*(K1+K2+1)=64*(K1+K2)+64 by omega,iH];omega) (by omega) (by omega));have ago:=aA afq;have arT:=aA y5;have hgg:=(UC.o.own.lt gg rfl).2;have aBZ:=afq.size;clear y3 y4 y5 y6 ahl aqd apc hlR hCR afq Cs H9 HP9 HC9 Hl9 arN Xv agp;(go_wp2_with fail);refine ase.o.mono ?_;rintro e w12 ⟨A12,c12,T12,rfl,x1,x2,x3,x4,x5,x6,x7⟩;have apQ:Hid (∀V,Only (fun k=>(Value.slice (some ⟨gg,0,none⟩) (E.length+1) cap).ownBlock=some k) w12 V->jM V A12 T12.length T12):=fun V hV=>x6 V (hV.mono fun k hk=>by
         (have uX:gg=k:=by injection hk);show k<_;omega)
        have axQ:=aA x4;have axJ:Hid (QW n Q (aU T) (kq+1) (aU T12)):=azv.o.congr (x5.trans ((jR.refl n (aU R)).add ((arT.o.trans (HE9.o.scale (-1))).trans (Wk n))));have sF:=aA (UC.o.ji (ago.o.tm x7));clear x3 x4 x5 x6 x7 ase arT HE9 ago UC HR8;(go_wp2_with fail);go_roundg (gk-1)
        case measure=>omega
        case rel=>exact ⟨A12,c12,T12,kq+1,E++[(((A1,d1),(X,cx)),((s1,l1),sp))],by omega,by omega,rfl,by show _=_;rw [eF,Kv.o];rfl,apQ,axQ,axJ,by rw [hQk.o];exact sF⟩
  . have hRe:R=[]:=lz (by omega)
    subst hRe;have hkQ:kq=Q.length:=by
     (have h:QW n Q ((qs,aF sb ys)::P') kq []:=by rw [<- HTe.o];exact hSt.o);exact h.done HQ.o HTP.o
    have hO:Hid (kZ wo wp n K1 u7 E Q):=by
     have h:=hO.o;rw [hkQ,LK] at h;exact h
    have hb:=hO.o.aB;obtain ⟨D,d,rfl,Cp⟩:=hO.o.o (by omega) (by omega) (by have h1:=Kv.o;omega);have HCp:=aA Cp;have Hb:=aA hb;(have hR0:¬(0:Int)<((([]:List TV).length:Nat):Int):=by simp);clear Cp hb hO hSt;(go_wp2_with fail);refine HCp.o.mono ?_;intro e w9 h9;obtain ⟨A9,c9,T9,rfl,t1,t2,t3,t4,t5,t6⟩:=h9.from_ Hb.o;have Fin:Hid (NY wo n Q (.returned (.tuple #[.slice A9 T9.length c9,.bool true])) w9):=⟨A9,c9,T9,rfl,t1,t2,t3,t4,t5,t6⟩;clear h9 t3 t4 t5 t6;(go_wp2_with fail);go_ret2;exact Fin.o
def QV (w:World) (n:Nat) (M:Mv) (e:Ending) (w':World):Prop:=
 ∃A c T,e=.returned (.slice A T.length c)∧T.length<=c∧c<=9223372036854775807∧jM w' A T.length T∧eP n T∧aU T=M∧Below w.heap.size w w'
def ans (n:Nat) (A B:Option Addr) (ma ca mb cb:Nat) (Q:Mv) (w:World) (hQ:bC n Q)
 (C0:aC 96 #[.slice A ma ca,.slice B mb cb] w (NY w n Q)):
 aC 62 #[.slice A ma ca,.slice B mb cb] w (QV w n Q):=by
 have HC:=aA C0;have HQ:=aA hQ;clear C0 hQ;go_enter func62,ntmps62
 go_wp2_with fail
 refine HC.o.mono ?_;rintro e w1 ⟨A1,c1,T,rfl,t1,t2,t3,t4,t5,t6⟩;have F:Hid (QV w n Q (.returned (.slice A1 T.length c1)) w1):=⟨A1,c1,T,rfl,t1,t2,t3,t4,t4.mv.unique HQ.o t5,t6⟩;clear t3 t4 t5 t6;go_wp2_with fail
 go_ret;exact F.o
def abN (i:Nat) (A:Mv):bM (yu i A)=bM A:=by
 unfold bM yu;rw [jw];rfl
def VY {a:Nat}(h:0<a):∃k,a<2^(64*(k+1))∧2^(64*k)<=a:=by
 have h1:a<2^(a.log2+1):=Nat.lt_log2_self;exact ⟨a.log2 / 64,gh h1 (fM (by omega) (by omega)),aH (fM (by omega) (by omega)) (Nat.log2_self_le (by omega))⟩
def Ev {a b K:Nat}(ha:a<2^(64*K)) (hb:b<2^(64*K)) (h:a*b<2^(64*K)):∃K1 K2,a<2^(64*K1)∧b<2^(64*K2)∧K1+K2<=K+1:=by
 rcases jJ a with h0 | h0
 . exact ⟨0,K,by rw [h0];exact iG (by omega),hb,by omega⟩
 . rcases jJ b with h1 | h1
   . exact ⟨K,0,ha,by rw [h1];exact iG (by omega),by omega⟩
   . obtain ⟨p,p1,p2⟩:=VY h0
     obtain ⟨q,q1,q2⟩:=VY h1;refine ⟨p+1,q+1,p1,q1,?_⟩;(have h2:2^(64*p+64*q)<2^(64*K):=by rw [iH];exact aR (dN p2 q2) h);have h3:=(Nat.pow_lt_pow_iff_right (by omega)).1 h2;omega
section
variable {i m : Nat} {f g : Pn m} {D : Nat -> Nat}
def sN (i:Nat) (f:Pn m):bM (iI i m f)=aI.nm f:=(abN i _).trans (CI m f)
def sJ (i:Nat) (h:aI.dg D f):(iI i m f).length<=aI.j6 (Pn m) D:=by
 unfold iI yu mU;rw [dW,S8];exact mF h
def Lz (i:Nat) (h:aI.dg D f) {d:Nat}(hD:∀j,D j<=d):C8 d (iI i m f):=fun t ht x hx=>by
 obtain ⟨s,hs,rfl⟩:=aj.1 ht;have Cf:x∈List.replicate i (0:Int)++s.1:=hx;rcases gV.1 Cf with e | e
 . rw [abR e]
   omega
 . obtain ⟨e',he,hk⟩:=DC h s (Iz.1 hs)
   rw [kY] at he;have h0:=jA m f s hs x e;obtain ⟨j,hj,hxj⟩:=acj e;have h1:=hk j;have h2:=hD j;rw [<- he,gJ hj,hxj] at h1;omega
def OS {n:Nat} {X:Mv}(hi:i<n) (h:fI n X):DL i 0 X=X:=by
 unfold DL;have e:∀t∈X,((t.1.set i (nth t.1 i+0),t.2):mj)=t:=fun t ht=>by
  have hl:=h t ht;have e1:t.1.set i (nth t.1 i+0)=t.1:=by
   refine oT (by rw [gH]) fun j hj=> ?_;rw [iX (by omega)];by_cases e2:j=i
   . rw [aM e2,e2,zl]
   . rw [af e2]
  rw [e1]
 exact (ER e).trans (List.map_id' X)
def aiF (i:Nat) (c:Pn m):iI (i+1) m c=iI i (m+1) (mkK (Poly.C c)):=by
 have h:=OC (i:=i) 0 c;have hl:fI (i+(m+1)) (iI (i+1) m c):=by
  have h1:=(lN (i+1) c).len;rwa [show i+1+m=i+(m+1) by omega] at h1
 have h2:DL i (0:Nat) (iI (i+1) m c)=iI (i+1) m c:=OS (by omega) hl;rw [h2] at h;exact h
end
def jQ (m K:Nat) (f g:Pn m):Prop:=∃D E:Nat->Nat,aI.dg D f∧aI.dg E g∧(∀j,D j+E j<1000000000000)∧aI.nm f<2^(64*K)∧aI.nm g<2^(64*K)∧aI.nm f*aI.nm g<2^(64*K)∧aI.j6 (Pn m) D*aI.j6 (Pn m) E<=1000000000000
def ir (m K:Nat) (f:Pn m):Prop:=∃D:Nat->Nat,aI.dg D f∧aI.j6 (Pn m) D<=1000000000000∧(∀j,D j<1000000000000)∧aI.nm f<2^(64*K)
def jQ.l {f g:Pn m}(h:jQ m K f g):ir m K f:=by
 obtain ⟨D,E,h1,h2,h3,h4,h5,h6,h7⟩:=h;exact ⟨D,h1,aH (jP _ (aI.nN _)) h7,fun j=>by have:=h3 j;omega,h4⟩
def jQ.r {f g:Pn m}(h:jQ m K f g):ir m K g:=by
 obtain ⟨D,E,h1,h2,h3,h4,h5,h6,h7⟩:=h;exact ⟨E,h2,aH (iT _ (aI.nN _)) h7,fun j=>by have:=h3 j;omega,h5⟩
def Rw (w:World) (v:Value) (i m:Nat) (f:Pn m):Prop:=∃A c T,v=.slice A T.length c∧T.length<=c∧c<=9223372036854775807∧jM w A T.length T∧eP (i+m) T∧aU T=iI i m f
def oA (w:World) (i m:Nat) (f:Pn m) (e:Ending) (w':World):Prop:=∃v,e=.returned v∧Rw w' v i m f∧Below w.heap.size w w'
def Rw.aB {f:Pn m}(h:Rw w v i m f) (hb:Below w.heap.size w w'):Rw w' v i m f:=by
 obtain ⟨A,c,T,h1,h2,h3,h4,h5,h6⟩:=h;exact ⟨A,c,T,h1,h2,h3,h4.aB hb,h5,h6⟩
def pZ {f:Pn m} {T:List TV}(h:ir m K f) (hP:eP (i+m) T) (e:aU T=iI i m f):T.length<=1000000000000∧(∀t∈T,t.2.length=i+m)∧(∀t∈T,∀x∈t.2,0<=x∧x<=1000000000000)∧(∀t∈T,t.1.2.length<=K):=by
 obtain ⟨D,d1,d2,d3,d4⟩:=h;refine ⟨?_,fun t ht=>hP.mv.len (bp t) (aj.2 ⟨t,ht,rfl⟩),fun t ht=> ?_,?_⟩
 . rw [<- bE,e]
   exact aH (sJ i d1) d2
 . have hb:=Lz i d1 (d:=1000000000000) fun j=>nK (d3 j)
   rw [<- e] at hb;exact hb (bp t) (aj.2 ⟨t,ht,rfl⟩)
 . exact qV hP (uC hP) (by rw [e,sN];exact d4)
def GW {f g:Pn m} (hK:K<=3690000000000) (hn:i+m<=6) (fit:jQ m K f g) (hf:Rw w u i m f) (hg:Rw w v i m g):aC 64 #[u,v] w (oA w i m (f*g)):=by
 obtain ⟨A,c,L,rfl,l1,l2,l3,l4,l5⟩:=hf;obtain ⟨B,d,T,rfl,t1,t2,t3,t4,t5⟩:=hg;obtain ⟨p1,p2,p3,_⟩:=pZ fit.l l4 l5;obtain ⟨q1,q2,q3,_⟩:=pZ fit.r t4 t5;obtain ⟨D,E,d1,d2,d3,d4,d5,d6,d7⟩:=fit;obtain ⟨K1,K2,k1,k2,k3⟩:=Ev d4 d5 d6;have c1:=qV l4 (uC l4) (K:=K1) (by rw [l5,sN];exact k1);have c2:=qV t4 (uC t4) (K:=K2) (by rw [t5,sN];exact k2);have n1:L.length<=aI.j6 (Pn m) D:=by rw [<- bE,l5];exact sJ i d1
 have n2:T.length<=aI.j6 (Pn m) E:=by rw [<- bE,t5];exact sJ i d2
 have n3:=aH (dN n1 n2) d7;refine (OM (i+m) K1 K2 A B L.length c T.length d L T w l3 t3 p2 q2 c1 c2 p3 q3 (by omega) (by omega) (by omega) (by omega) (by omega)).mono ?_;rintro e w1 ⟨A1,e1,T1,rfl,z1,z2,z3,z4,z5,z6⟩;exact ⟨_,rfl,⟨A1,e1,T1,rfl,z1,z2,z3,z4,Ya z4.mv (by rw [<- l5,<- t5];exact z5)⟩,z6⟩
def YY {f g:Pn m} (hK:K<=3900000000000) (hn:i+m<=6) (fF:ir m K f) (fG:ir m K g) (IP:aI.nm f+aI.nm g<2^(64*K)) (hf:Rw w u i m f) (hg:Rw w v i m g):aC 59 #[u,v] w (oA w i m (f+g)):=by
 obtain ⟨A,c,L,rfl,l1,l2,l3,l4,l5⟩:=hf;obtain ⟨B,d,T,rfl,t1,t2,t3,t4,t5⟩:=hg;obtain ⟨p1,p2,p3,p4⟩:=pZ fF l4 l5;obtain ⟨q1,q2,q3,q4⟩:=pZ fG t4 t5;refine (UX (i+m) K K A B L.length c T.length d L T w l3 t3 p2 q2 p4 q4 hK hK (by rw [l5,t5,sN,sN];exact IP) (by omega) (by omega)).mono ?_;intro e w1 h;obtain ⟨A1,e1,T1,rfl,z1,z2,z3,z4,z5,z6⟩:=h.r;exact ⟨_,rfl,⟨A1,e1,T1,rfl,z1,z2,z3,z4,Yd z4.mv (by rw [<- l5,<- t5];exact z5)⟩,z6⟩
def aiE {f:Pn m} {B:Option Addr} {zs:List Int}(hK:K<=3700000000000) (hn:i+m<=6) (fF:ir m K f) (hf:Rw w u i m f) (h1:aD w B k zs) (h2:k<=1) (h3:k<=d) (h4:d<=9223372036854775807) (h5:aF s zs= -1):aC 91 #[u,.agg #[.bool s,.slice B k d]] w (oA w i m (-f)):=by
 obtain ⟨A,c,L,rfl,l1,l2,l3,l4,l5⟩:=hf;obtain ⟨p1,p2,p3,p4⟩:=pZ fF l4 l5;refine (Gb (i+m) K 1 A L.length c L s B k d zs w l3 p2 p4 h1 h2 h3 h4 (by omega) (by omega) (by omega)).mono ?_;rintro e w1 ⟨A1,e1,T1,rfl,z1,z2,z3,z4,z5,z6⟩;exact ⟨_,rfl,⟨A1,e1,T1,rfl,z1,z2,z3,z4,OD z4.mv (by rw [<- l5,<- h5];exact z5)⟩,z6⟩
def Lt {f:Pn (m+1)} (hn:i+(m+1)<=6) (fF:ir (m+1) K f) (hf:Rw w u i (m+1) f):aC 94 #[u,.int .i64 (i:Int)] w fun e w'=>e=.returned (.int .i64 (((kids f).len:Int)-1))∧w'=w:=by
 obtain ⟨A,c,L,rfl,l1,l2,l3,l4,l5⟩:=hf;obtain ⟨p1,p2,p3,p4⟩:=pZ fF l4 l5;have h:=WU (i+(m+1)) i (by omega) A L.length c L w l3 p2 p3 (by omega) (by omega);rwa [l5,Yb] at h
def Lu {f:Pn (m+1)} (hK:K<=3700000000000) (hn:i+(m+1)<=6) (fF:ir (m+1) K f) (hf:Rw w u i (m+1) f) (k:Nat):aC 95 #[u,.int .i64 (i:Int),.int .i64 (k:Int)] w (oA w (i+1) m ((kids f).co k)):=by
 obtain ⟨A,c,L,rfl,l1,l2,l3,l4,l5⟩:=hf;obtain ⟨p1,p2,p3,p4⟩:=pZ fF l4 l5;refine (adL (i+(m+1)) K i (by omega) k A L.length c L w l3 p2 p3 p4 (by omega) (by omega) (by omega)).mono ?_;rintro e w1 ⟨A1,e1,T1,rfl,z1,z2,z3,z4,z5,z6⟩;have e9:i+(m+1)=i+1+m:=by omega
 refine ⟨_,rfl,⟨A1,e1,T1,rfl,z1,z2,z3,e9 ▸ z4,?_⟩,z6⟩;rw [l5] at z5;exact (e9 ▸ z4:eP (i+1+m) T1).mv.unique (lN (i+1) _) (e9 ▸ z5.trans (Yc k))
def anm {f:Pn m} (hK:K<=3700000000000) (hn:i+(m+1)<=6) (fF:ir m K f) (hf:Rw w u (i+1) m f) (k:Nat) (hk:k<=1000000000000):aC 97 #[u,.int .i64 (i:Int),.int .i64 (k:Int)] w (oA w i (m+1) (mkK (Poly.mono k f))):=by
 obtain ⟨A,c,L,rfl,l1,l2,l3,l4,l5⟩:=hf;obtain ⟨p1,p2,p3,p4⟩:=pZ fF l4 l5;have e9:i+1+m=i+(m+1):=by omega
 refine (anr (i+(m+1)) K i (by omega) k (by omega) A L.length c L w l3 (fun t ht=>(p2 t ht).trans e9) p3 p4 (by omega) (by omega) (by omega)).mono ?_;rintro e w1 ⟨A1,e1,rfl,z1,z2,z3,z6⟩;have h1:aU (L.map (upT i k))=iI i (m+1) (mkK (Poly.mono k f)):=by rw [aiX,l5,OC]
 refine ⟨_,rfl,⟨A1,e1,_,rfl,z1,z2,z3,⟨by rw [h1];exact lN i _,fun t ht=> ?_⟩,h1⟩,z6⟩;obtain ⟨s,hs,rfl⟩:=aj.1 ht;exact l4.co s hs
def Rw.C {c:Pn m} (h:Rw w v (i+1) m c):Rw w v i (m+1) (mkK (Poly.C c)):=by
 obtain ⟨A,k,L,rfl,l1,l2,l3,l4,l5⟩:=h;have e9:i+1+m=i+(m+1):=by omega
 exact ⟨A,k,L,rfl,l1,l2,l3,e9 ▸ l4,l5.trans (aiF i c)⟩
def ann {f g q:Pn m} (hK:K<=3690000000000) (hn:i+m<=6) (fit:jQ m K q g) (VG:g≠0) (e:f=q*g) (hf:Rw w u i m f) (hg:Rw w v i m g):aC 62 #[u,v] w (oA w i m q):=by
 obtain ⟨A,c,L,rfl,l1,l2,l3,l4,l5⟩:=hf;obtain ⟨B,d,T,rfl,t1,t2,t3,t4,t5⟩:=hg;obtain ⟨q1,q2,q3,_⟩:=pZ fit.r t4 t5;obtain ⟨D,E,d1,d2,d3,d4,d5,d6,d7⟩:=fit;obtain ⟨K1,K2,k1,k2,k3⟩:=Ev d4 d5 d6;have n1:(iI i m q).length<=aI.j6 (Pn m) D:=sJ i d1;have n2:T.length<=aI.j6 (Pn m) E:=by rw [<- bE,t5];exact sJ i d2
 have n3:=aH (dN n1 n2) d7;have n4:(iI i m q).length<=1000000000000:=aH n1 (aH (jP _ (aI.nN _)) d7);cases hT:aU T with
 | nil=>exact absurd (xD.1 (t5.symm.trans hT)) VG
 | cons x P'=>
   have hE:jR (i+m) (aU L) (mulM (iI i m q) (aU T)):=by
    rw [l5,t5,e];unfold iI;rw [<- UJ];refine YL (LZ (dQ m _).len (jA m _) ((dQ m _).len.mul (dQ m _).len) ((jA m _).mul (jA m _)) ?_);rw [mD,AO (dQ m q).len (jA m q) (dQ m g).len (jA m g),mD,mD]
   refine (ans (i+m) A B L.length c T.length d (iI i m q) w (lN i q) (adM (i+m) K1 K2 A B L.length c T.length d L T (iI i m q) P' x.1 x.2 w l3 t3 l4 t4 hT (lN i q) hE (Lz i d1 (d:=1000000000000) fun j=>by have:=d3 j;omega) (by rw [t5];exact Lz i d2 (d:=1000000000000) fun j=>by have:=d3 j;omega) n3 n4 q1 (by rw [sN];exact k1) (by rw [t5,sN];exact k2) (by omega) hn)).mono ?_;rintro e2 w1 ⟨A1,e1,T1,rfl,z1,z2,z3,z4,z5,z6⟩;exact ⟨_,rfl,⟨A1,e1,T1,rfl,z1,z2,z3,z4,z5⟩,z6⟩
def Rw.nil (w:World) (i m:Nat):Rw w (.slice none 0 0) i m 0:=⟨none,0,[],rfl,aK,by omega,jM.nil _ _,eP.nil _,(xD.2 rfl).symm⟩
def agr (n:Nat) (a b:Pn n):Prop:=∀(i N:Nat) (w:World) (u v:Value),i+n=N->N<=6->Rw w u i n a->Rw w v i n b->aC 29 #[u,v,.int .i64 (i:Int),.int .i64 (N:Int)] w (fun e w'=>∃g,nL g a b∧o7 g∧oA w i n g e w')
def agq (w:World) (i m:Nat) (g:Pn m) (e:Ending) (w':World):Prop:=∃g':Pn m,(g'=g∨g'= -g)∧o7 g'∧oA w i m g' e w'
def GX {f:Pn m} (hK:K<=3700000000000) (hn:i+m<=6) (fF:ir m K f) (hf:Rw w u i m f):aC 58 #[u] w (agq w i m f):=by
 obtain ⟨A,c,L,rfl,l1,l2,l3,l4,l5⟩:=hf;obtain ⟨p1,p2,p3,p4⟩:=pZ fF l4 l5;refine (Yq K i m hn A c L f w l3 l1 l2 l4 l5 p4 hK p1).mono ?_;rintro e w1 ⟨g',h1,h2,A1,e1,T1,rfl,z1,z2,z3,z4,z5,z6⟩;exact ⟨g',h1,h2,_,rfl,⟨A1,e1,T1,rfl,z1,z2,z3,z4,z5⟩,z6⟩
section
variable {n : Nat} {f : Nat -> Pn n} {m : Nat} {c g : Pn n}
def QU (f:Nat->Pn n) (m:Nat) (c:Pn n):Prop:=(∀i,i<m->Dv c (f i))∧∀d,(∀i,i<m->Dv d (f i))->Dv d c
def QU.zero (f:Nat->Pn n):QU f 0 0:=⟨fun i hi=>absurd hi (tG i),fun d _=>Dv.zero d⟩
def QU.next (h:QU f m c) (hg:nL g c (f m)):QU f (m+1) g:=⟨fun i hi=>by
 by_cases e:i=m
 . rw [e];exact hg.r
 . exact hg.l.trans (h.1 i (by omega)),fun d hd=>hg.top d (h.2 d fun i hi=>hd i (by omega)) (hd m (by omega))⟩
def QU.cont {f:Poly (Pn n)}(h:QU f.co f.len c):Poly.Cont c f:=⟨fun i=>by
 by_cases hi:i<f.len
 . exact h.1 i hi
 . rw [Poly.az f i (by omega)];exact Dv.zero c,fun d hd=>h.2 d fun i _=>hd i⟩
end
def ags (n:Nat) (a b:Pn n):Prop:=∀(S:Nat->Prop) (w:World) (u v:Value),aO S n w u a->aO S n w v b->aC 27 #[.int .i64 (n:Int),u,v] w (fun e w'=>∃g,nL g a b∧bV S w n g e w')
def wM (n:Nat) (a b:Pn n):Prop:=ags n a b∧agr n a b
def Gt (n:Nat) (hn:n<=100) (S:Nat->Prop) (w:World) (v:Value) (f:Pn (n+1)) (hf:aO S (n+1) w v f) (hlen:(kids f).len<=1000000000000) (hc:∀m c,m<(kids f).len->QU (kids f).co m c->wM n c ((kids f).co m)):
 aC 52 #[v,.int .i64 ((n:Int)+1)] w (fun e w'=>∃c,Poly.Cont c (kids f)∧bV S w n c e w'):=by
 obtain ⟨B,c,rfl,h1,h2,h3⟩:=hf.here;have ew:IntKind.i64.wrap ((n:Int)+1-1)=(n:Int):=by rw [bR _ (by omega)];omega
 have ew2:IntKind.i64.wrap (n:Int)=(n:Int):=bR _ (by omega);have t0:=((aa.new w (.bool false) (.slice none 0 0) (.slice B (kids f).len c)).aB (aW.alloc aK (.cells #[.bool false,.slice none 0 0,.slice none 0 0] 51))).aB (aW.alloc aK (.cells #[.bool false,.slice none 0 0,.slice none 0 0] 51));have t1:=(aa.new (w.alloc (.cells #[.bool false,.slice none 0 0,.slice B (kids f).len c] 51)) (.bool false) (.slice none 0 0) (.slice none 0 0)).aB (aW.alloc aK (.cells #[.bool false,.slice none 0 0,.slice none 0 0] 51));have t2:=aa.new ((w.alloc (.cells #[.bool false,.slice none 0 0,.slice B (kids f).len c] 51)).alloc (.cells #[.bool false,.slice none 0 0,.slice none 0 0] 51)) (.bool false) (.slice none 0 0) (.slice none 0 0);rw [aJ] at t1;rw [aJ,aJ] at t2;have hb:Below w.heap.size w (((w.alloc (.cells #[.bool false,.slice none 0 0,.slice B (kids f).len c] 51)).alloc (.cells #[.bool false,.slice none 0 0,.slice none 0 0] 51)).alloc (.cells #[.bool false,.slice none 0 0,.slice none 0 0] 51)):=((aW.alloc aK _).alloc (by simp) _).alloc (by simp;omega) _;have hsz:(((w.alloc (.cells #[.bool false,.slice none 0 0,.slice B (kids f).len c] 51)).alloc (.cells #[.bool false,.slice none 0 0,.slice none 0 0] 51)).alloc (.cells #[.bool false,.slice none 0 0,.slice none 0 0] 51)).heap.size=w.heap.size+1+1+1:=by simp
 have k0:=t0.aP;have H3:=aA h3;have Hc:=aA hc;clear h3 hf hc;unfold bG;go_enter func52,ntmps52
 go_wp2_with fail
 generalize kj:((w.alloc (.cells #[.bool false,.slice none 0 0,.slice B (kids f).len c] 51)).alloc (.cells #[.bool false,.slice none 0 0,.slice none 0 0] 51)).alloc (.cells #[.bool false,.slice none 0 0,.slice none 0 0] 51)=wt at*
 clear kj;have T1:=aA t1;have T2:=aA t2;have HB:=aA hb;clear t0 t1 t2 hb k0;go_loopw [11] (fun i wr=>∃(m:Nat) (g:Pn n) (s:Bool) (A:Option Addr) (k c':Nat) (B':Option Addr) (m' d':Nat),m<=(kids f).len∧i=.int .i64 (m:Int)∧Hid (QU (kids f).co m g)∧Hid (aa wr (w.heap.size+1+1) (.bool s) (.slice A k c') (.slice B' m' d'))∧Hid (aO (fun b=>(S b∧b<w.heap.size)∨wt.heap.size<=b) n wr (.agg #[.bool s,.slice A k c',.slice B' m' d']) g)∧Hid (Only (fun b=>b=w.heap.size+1+1∨wt.heap.size<=b) wt wr)) (fun i _=>(kids f).len-(intOf i).toNat)
 case atStart=>exact ⟨0,0,false,none,0,0,none,0,0,dc _,rfl,QU.zero _,T2,aO.nought _ _ n,Only.refl _ _⟩
 case round=>
  clear T2;obtain ⟨m,g,s,A,k,c',B',m',d',hm,rfl,hG,hT,hV,j5⟩:=hrel;obtain ⟨wp,rfl⟩:∃wp:World,wp=wr:=⟨_,rfl⟩;have P1:Hid (aa wp (w.heap.size+1) (.bool false) (.slice none 0 0) (.slice none 0 0)):=T1.o.keep (j5.o.block _ T1.o.lt (by omega));have pY:Hid (Below w.heap.size w wp):=HB.o.trans (j5.o.below (nK (by omega)) fun b hb=>by omega);by_cases hlt:m<(kids f).len
  . have dI:(m:Int)<((kids f).len:Int):=by omega
    obtain ⟨b,o,rfl,hb,hl,IG⟩:=H3.o (by omega);obtain ⟨s1,A1,k1,c1,B1,m1,d1,e1,e2,e3,e4⟩:=IG m hlt;(have XK:(0:Int)<=(m:Int):=by omega);have g1:=(pY.o.cell (p:=⟨b,o+m*3,none⟩) hl).trans e1;have g2:=(pY.o.cell (p:=⟨b,o+m*3+1,none⟩) hl).trans e2;have g3:=(pY.o.cell (p:=⟨b,o+m*3+2,none⟩) hl).trans e3;(have wF:b<wp.heap.size:=by have:=pY.o.size;omega);have E4:=aA (e4.aB pY.o);clear IG e1 e2 e3 e4;have uY:Below wp.heap.size wp (wp.alloc (.cells #[.bool s1,.slice A1 k1 c1,.slice B1 m1 d1] 51)):=aW.alloc aK _;have tQ:=hT.o.aB uY;have tX:=aa.new wp (.bool s1) (.slice A1 k1 c1) (.slice B1 m1 d1);have b0:=tQ.cell0;have b1:=tQ.cell1;have b2:=tQ.aP;have hwz:=j5.o.size;have C:=aA ((Hc.o m g hlt hG.o).1 (fun b=>(S b∧b<w.heap.size)∨wt.heap.size<=b) (wp.alloc (.cells #[.bool s1,.slice A1 k1 c1,.slice B1 m1 d1] 51)) _ _ (hV.o.aB uY) ((E4.o.aB uY).mono fun b hb=> .inl hb));have Q1:=aA (P1.o.aB uY);have TQ:=aA tQ;have Hq:=aA uY;(have Ru:w.heap.size+1+1<wp.heap.size:=by have:=hT.o.lt;omega);clear hT hV E4 P1 tQ tX uY;unfold bG at C;(go_wp2_with fail);refine C.o.mono ?_;rintro e w1 ⟨g',FE,s7,A7,k7,c7,B7,m7,d7,rfl,Qa,gN⟩;have hq:=Hq.o.size;have T7:=aA (TQ.o.aB gN);have f0:=T7.o.frozen 0;have f1:=T7.o.frozen 1;have f2:=T7.o.frozen 2;have r0:=T7.o.cell0;have r1:=T7.o.cell1;have r2:=T7.o.aP;have HV:Hid (aO (fun b=>(S b∧b<w.heap.size)∨wt.heap.size<=b) n (((w1.setCell ⟨w.heap.size+1+1,0,none⟩ (.bool s7)).setCell ⟨w.heap.size+1+1,1,none⟩ (.slice A7 k7 c7)).setCell ⟨w.heap.size+1+1,2,none⟩ (.slice B7 m7 d7)) (.agg #[.bool s7,.slice A7 k7 c7,.slice B7 m7 d7]) g'):=
     aO.only (aZ w1 (w.heap.size+1+1) _ _ _) (fun b hb e=>by rcases hb with (hb | hb) | hb<;>omega) (fun b hb=>hb.elim id fun h=> .inr (by omega)) Qa
    have HT:Hid (aa (((w1.setCell ⟨w.heap.size+1+1,0,none⟩ (.bool s7)).setCell ⟨w.heap.size+1+1,1,none⟩ (.slice A7 k7 c7)).setCell ⟨w.heap.size+1+1,2,none⟩ (.slice B7 m7 d7)) (w.heap.size+1+1) (.bool s7) (.slice A7 k7 c7) (.slice B7 m7 d7)):=T7.o.set _ _ _;have HG:Hid (QU (kids f).co (m+1) g'):=hG.o.next FE;have HON:Hid (Only (fun b=>b=w.heap.size+1+1∨wt.heap.size<=b) wt (((w1.setCell ⟨w.heap.size+1+1,0,none⟩ (.bool s7)).setCell ⟨w.heap.size+1+1,1,none⟩ (.slice A7 k7 c7)).setCell ⟨w.heap.size+1+1,2,none⟩ (.slice B7 m7 d7))):=
     ((j5.o.trans ((Only.bY Hq.o).mono fun b hb=> .inr (by omega))).trans ((Only.bY gN).mono fun b hb=> .inr (by omega))).trans ((aZ w1 (w.heap.size+1+1) _ _ _).mono fun b hb=> .inl hb)
    clear Qa gN C TQ Hq hG FE j5;unfold bG;(go_wp2_with fail);go_roundw
    case rel=>exact ⟨m+1,g',s7,A7,k7,c7,B7,m7,d7,by omega,by go_num,HG,HT,HV,HON⟩
    case measure=>simp [intOf];omega
  . have dI:¬(m:Int)<((kids f).len:Int):=by omega
    (obtain rfl:m=(kids f).len:=by omega);have b0:=hT.o.cell0;have b1:=hT.o.cell1;have b2:=hT.o.aP;have r0:=P1.o.cell0;have r1:=P1.o.cell1;have r2:=P1.o.aP;have r3:=P1.o.frozen 0;have r4:=P1.o.frozen 1;have r5:=P1.o.frozen 2;have F:Hid (aO (fun b=>S b∨w.heap.size<=b) n (((wp.setCell ⟨w.heap.size+1,0,none⟩ (.bool s)).setCell ⟨w.heap.size+1,1,none⟩ (.slice A k c')).setCell ⟨w.heap.size+1,2,none⟩ (.slice B' m' d')) (.agg #[.bool s,.slice A k c',.slice B' m' d']) g):=
     aO.only (aZ wp (w.heap.size+1) _ _ _) (fun b hb e=>by rcases hb with hb | hb<;>omega) (fun b hb=>hb.imp (fun h=>h.1) fun h=>by omega) hV.o
    have pL:Hid (Below w.heap.size w (((wp.setCell ⟨w.heap.size+1,0,none⟩ (.bool s)).setCell ⟨w.heap.size+1,1,none⟩ (.slice A k c')).setCell ⟨w.heap.size+1,2,none⟩ (.slice B' m' d'))):=((pY.o.setCell (p:=⟨w.heap.size+1,0,none⟩) (rG _) _).setCell (p:=⟨w.heap.size+1,1,none⟩) (rG _) _).setCell (p:=⟨w.heap.size+1,2,none⟩) (rG _) _;have HG:=aA hG.o.cont;clear hT hV j5 hG;(go_wp2_with fail);exact ax (v:=.agg #[.bool s,.slice A k c',.slice B' m' d']) (cI (fn:=f52) rfl _ _ _ _ _ _ _ rfl (P1.o.set (.bool s) (.slice A k c') (.slice B' m' d')) underlying51 rfl cm) rfl
     ⟨g,HG.o,s,A,k,c',B',m',d',rfl,F.o,pL.o⟩
