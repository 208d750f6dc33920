import Derived.Test.YtehcoffbiplphaaGreatHLims
set_option linter.all false
namespace Go.Proofs.YtehcoffbiplphaaGreat
open Go.RowKit
variable {w w':World} {t:TypeId} {base m n B i j:Nat} {v u:Value} {a b z:Int} {xs:List Int} {A:Option Addr} {p q:Addr}
abbrev TV:=(Bool×List Int)×fI
def bS (t:TV):mH:=(t.2,aI t.1.1 t.1.2)
def aP (L:List TV):Mv:=L.map bS
def eN (L M:List TV):aP (L++M)=aP L++aP M:=ij
def au (L:List TV):(aP L).length=L.length:=dJ _
structure eH (n:Nat) (L:List TV):Prop where
 mv:av n (aP L)
 co:∀t∈L,dN t.1.1 t.1.2 (aI t.1.1 t.1.2)
def eH.nil (n:Nat):eH n []:=⟨av.nil n,fun t h=>by cases h⟩
def Bg:∀{L M:List TV},(∀t∈L,dN t.1.1 t.1.2 (aI t.1.1 t.1.2))->(∀t∈M,dN t.1.1 t.1.2 (aI t.1.1 t.1.2))->aP L=aP M->L=M
 | [],[],_,_,_=>rfl
 | s::L,t::M,h,k,e=>by
   injection e with e1 e2
   have h1:=h s aV;have k1:=k t aV;have e3:s.2=t.2:=dh Prod.fst e1;have e4:aI s.1.1 s.1.2=aI t.1.1 t.1.2:=dh Prod.snd e1;rw [<- e4] at k1;obtain ⟨u1,u2⟩:=h1.unique k1;rw [show s=t from WY (WY u1 u2) e3,Bg (fun x hx=>h x (bX _ hx)) (fun x hx=>k x (bX _ hx)) e2]
structure iI (w:World) (A:Option Addr) (m:Nat) (L:List TV):Prop where
 len:L.length=m
 at_:0<m->∃b o,A=some ⟨b,o,none⟩∧b<w.heap.size∧∀i (h:i<L.length),∃Ai ci Ei ei,
  w.cell? ⟨b,o+3*i,none⟩=some (.bool (L[i]).1.1)∧w.cell? ⟨b,o+(3*i+1),none⟩=some (.slice Ai (L[i]).1.2.length ci)∧w.cell? ⟨b,o+(3*i+2),none⟩=some (.slice Ei (L[i]).2.length ei)∧
  (L[i]).1.2.length<=ci∧ci<=9223372036854775807∧(L[i]).2.length<=ei∧ei<=9223372036854775807∧aD w Ai (L[i]).1.2.length (L[i]).1.2∧Ints w Ei (L[i]).2.length (L[i]).2
section
variable {w w' : World} {A : Option Addr} {m : Nat} {L : List TV}
def iI.aC (h:iI w A m L) (hb:Below w.heap.size w w'):iI w' A m L:=
 ⟨h.len,fun hm=>by
   obtain ⟨b,o,e,hlt,hc⟩:=h.at_ hm;refine ⟨b,o,e,iE hlt hb.size,fun i hi=> ?_⟩;obtain ⟨Ai,ci,Ei,ei,h1,h2,h3,h4,h5,h8,h9,h6,h7⟩:=hc i hi;exact ⟨Ai,ci,Ei,ei,(hb.cell (p:=⟨b,o+3*i,none⟩) hlt).trans h1,(hb.cell (p:=⟨b,o+(3*i+1),none⟩) hlt).trans h2,(hb.cell (p:=⟨b,o+(3*i+2),none⟩) hlt).trans h3,h4,h5,h8,h9,h6.aC hb,h7.aC hb⟩⟩
def iI.nil (w:World) (A:Option Addr):iI w A 0 []:=⟨rfl,fun h=>absurd h (by omega)⟩
end
abbrev ax:=((Option Addr×Nat)×(Option Addr×Nat))×TV
def kU (x:ax):List Value:=[.bool x.2.1.1,.slice x.1.1.1 x.2.1.2.length x.1.1.2,.slice x.1.2.1 x.2.2.length x.1.2.2]
def aS (L:List ax):List Value:=L.flatMap kU
def gC (x:ax) (L:List ax):aS (x::L)=kU x++aS L:=by simp [aS]
def zH (L M:List ax):aS (L++M)=aS L++aS M:=by simp [aS,Lt]
def qI (L:List ax) (x:ax):aS (L++[x])=aS L++kU x:=by simp [aS,Lt]
def nJ (L:List ax):(aS L).length=L.length*3:=by
 induction L with
 | nil=>rfl
 | cons x L ih=>rw [gC,eC,ih,rL];show 3+_=_;omega
def jL:∀{L:List ax} {i:Nat}(h:i<L.length),(aS L)[3*i]? =some (.bool (L[i]).2.1.1)∧(aS L)[3*i+1]? =some (.slice (L[i]).1.1.1 (L[i]).2.1.2.length (L[i]).1.1.2)∧(aS L)[3*i+2]? =some (.slice (L[i]).1.2.1 (L[i]).2.2.length (L[i]).1.2.2)
 | x::L,0,_=>by rw [gC];exact ⟨rfl,rfl,rfl⟩
 | x::L,i+1,h=>by
   have ih:=jL (L:=L) (i:=i) (FI h);rw [gC];have hl:(kU x).length=3:=rfl;rw [DL (by rw [hl];omega),DL (by rw [hl];omega),DL (by rw [hl];omega),hl,show 3*(i+1)-3=3*i by omega,show 3*(i+1)+1-3=3*i+1 by omega,show 3*(i+1)+2-3=3*i+2 by omega];exact ih
def lQ (L:List ax):∀u∈aS L,u.oneCell'=true:=by
 intro u hu;obtain ⟨x,_,hx⟩:=tG.1 hu;simp only [kU,iH,lD,yB] at hx;rcases hx with rfl | rfl | rfl<;>rfl
def gV (w:World) (x:ax):Prop:=x.2.1.2.length<=x.1.1.2∧x.1.1.2<=9223372036854775807∧x.2.2.length<=x.1.2.2∧x.1.2.2<=9223372036854775807∧aD w x.1.1.1 x.2.1.2.length x.2.1.2∧Ints w x.1.2.1 x.2.2.length x.2.2
def gV.aC {x:ax}(h:gV w x) (hb:Below w.heap.size w w'):gV w' x:=⟨h.1,h.2.1,h.2.2.1,h.2.2.2.1,h.2.2.2.2.1.aC hb,h.2.2.2.2.2.aC hb⟩
def jK {E:List ax}(h:w.ownsRow base t 3 v m (aS E)) (hm:E.length=m) (hi:∀x∈E,gV w x):
 ∃B d,v=.slice B m d∧m<=d∧d<=maxLen∧iI w B m (E.map (·.2)):=by
 rcases h.2 with ⟨hv,h0⟩ | ⟨g,cap,cur,hv,hg,hh,hc,hmx,abl⟩
 . subst h0
   obtain rfl:=lK hm;exact ⟨none,0,hv,aL,bL _,iI.nil _ _⟩
 . refine ⟨_,cap,hv,by omega,by omega,by rw [dJ,hm],fun h0=>⟨g,0,rfl,(jm.1 hh).1,fun i V6=> ?_⟩⟩
   have yz:i<E.length:=by simpa using V6
   have e:(E.map (·.2))[i]=(E[i]).2:=by simp
   subst hv;obtain ⟨t0,t1,t2⟩:=jL yz;have c0:=h.cells (g:=g) rfl (3*i) _ t0;have c1:=h.cells (g:=g) rfl (3*i+1) _ t1;have c2:=h.cells (g:=g) rfl (3*i+2) _ t2;rw [j5] at c0 c1 c2;obtain ⟨k1,k2,k3,k4,k5,k6⟩:=hi _ (bR yz);rw [e];exact ⟨_,_,_,_,c0,c1,c2,k1,k2,k3,k4,k5,k6⟩
def bH (p:fI):Lit:=.string (keyBytes (p.map (Lit.int .i64)))
def zK (l:Lit) (ls:List Lit):keyBytes (l::ls)=l.keyBytes++keyBytes ls:=rfl
def ET (ha:DX a) (hb:DX b) (h:(Lit.int .i64 a).keyBytes=(Lit.int .i64 b).keyBytes):a=b:=by
 have h1:bytesBE 8 (a % 2^64).toNat=bytesBE 8 (b % 2^64).toNat:=h;have h2:=bytesBE_inj (by (have:(256:Nat)^8=18446744073709551616:=by decide);omega) (by (have:(256:Nat)^8=18446744073709551616:=by decide);omega) h1;obtain ⟨a1,a2⟩:=ha;obtain ⟨b1,b2⟩:=hb;omega
def keyBytes_inj:∀{p q:fI},p.length=q.length->(∀x∈p,DX x)->(∀x∈q,DX x)->keyBytes (p.map (Lit.int .i64))=keyBytes (q.map (Lit.int .i64))->p=q
 | [],[],_,_,_,_=>rfl
 | x::p,y::q,hl,hp,hq,h=>by
   rw [uK,uK,zK,zK] at h;obtain ⟨h1,h2⟩:=List.append_inj h (by
    show (bytesBE 8 _).length=(bytesBE 8 _).length;rw [length_bytesBE,length_bytesBE])
   rw [ET (hp x aV) (hq y aV) h1,keyBytes_inj (by simpa using hl) (fun z hz=>hp z (bX _ hz)) (fun z hz=>hq z (bX _ hz)) h2]
structure iY (n:Nat) (p:fI):Prop where
 len:p.length=6
 bd:∀x∈p,0<=x∧x<=4611686018427387904
 zero:∀i,n<=i->nth p i=0
def iY.i64 {p:fI}(h:iY n p):∀x∈p,DX x:=fun x hx=>by have:=h.bd x hx;constructor<;>omega
def iY.inj {p q:fI}(h:iY n p) (k:iY n q) (e:bH p=bH q):p=q:=by
 unfold bH at e;injection e with e
 exact keyBytes_inj (h.len.trans k.len.symm) h.i64 k.i64 e
def mZ (v:Value):Option (DataW Value×List MemPlace):=
 match v with
 | .agg cs=>
   match cs.toList with
   | [.bool _,.slice _ _ _]=>some (.held (.agg cs),[])
   | _=>none
 | _=>none
def Pz (s:Bool) (A:Option Addr) (k c:Nat):mZ (.agg #[.bool s,.slice A k c])=some (.held (.agg #[.bool s,.slice A k c]),[]):=rfl
def LK {v:Value} {y:DataW Value×List MemPlace}(h:mZ v=some y):∃s A k c,v=.agg #[.bool s,.slice A k c]∧y=(.held v,[]):=by
 cases v<;>simp only [mZ] at h<;>try (cases h;done)
 rename_i cs
 obtain ⟨l⟩:=cs;split at h
 . rename_i e
   injection h with h
   simp only at e;subst e;exact ⟨_,_,_,_,rfl,h.symm⟩
 . cases h
structure Yz (w:World) (v:Value) (B:Nat) (z:Int):Prop where
 ex:∃s A k c ls,v=.agg #[.bool s,.slice A k c]∧k<=c∧c<=9223372036854775807∧k<=B∧aD w A k ls∧aI s ls=z
def Yz.aC (h:Yz w v B z) (hb:Below w.heap.size w w'):Yz w' v B z:=by
 obtain ⟨s,A,k,c,ls,e,h1,h2,h3,h4,h5⟩:=h.ex;exact ⟨s,A,k,c,ls,e,h1,h2,h3,h4.aC hb,h5⟩
def Yz.mono {C:Nat} (h:Yz w v B z) (hb:B<=C):Yz w v C z:=by
 obtain ⟨s,A,k,c,ls,e,h1,h2,h3,h4,h5⟩:=h.ex;exact ⟨s,A,k,c,ls,e,h1,h2,by omega,h4,h5⟩
structure pU (w:World) (D:DataW Value) (n B:Nat) (L:Mv):Prop where
 key:∀kl,Maps.has D kl=true->∃p,kl=bH p∧iY n p∧∃t∈L,t.1=p
 at_:∀p,iY n p->Maps.has D (bH p)=true->∃v,(∀zd,D.atKey (bH p) zd=.held v)∧Yz w v B (gh L p)
 none:∀p,iY n p->Maps.has D (bH p)=false->gh L p=0
 isMap:Maps.IsMap D
section
variable {w w' : World} {D : DataW Value} {n B C : Nat} {L M : Mv}
def pU.aC (h:pU w D n B L) (hb:Below w.heap.size w w'):pU w' D n B L:=
 ⟨h.key,fun p hp hh=>by obtain ⟨v,h1,h2⟩:=h.at_ p hp hh;exact ⟨v,h1,h2.aC hb⟩,h.none,h.isMap⟩
def pU.mono (h:pU w D n B L) (hb:B<=C):pU w D n C L:=
 ⟨h.key,fun p hp hh=>by obtain ⟨v,h1,h2⟩:=h.at_ p hp hh;exact ⟨v,h1,h2.mono hb⟩,h.none,h.isMap⟩
def pU.start (w:World) (n B:Nat):pU w (.map []) n B []:=
 ⟨fun kl hk=>by simp [Maps.has] at hk,fun p _ hk=>by simp [Maps.has] at hk,fun _ _ _=>rfl,Maps.isMap_empty⟩
def pU.put (h:pU w D n B L) {p:fI}(hp:iY n p) {v:Value} {t:Int}(hv:Yz w v B (gh L p+t)):pU w (D.put (bH p) (.held v)) n B (L++[(p,t)]):=by
 have hk:WideAt.IsKeyLit (bH p):=trivial;have LR:∀q,gh (L++[(p,t)]) q=gh L q+(if p=q then t else 0):=fun q=>by
  rw [ic,aj,qF];show _+((if p=q then t else 0)+0)=_;omega
 refine ⟨fun kl Ds=> ?_,fun q hq hh=> ?_,fun q hq hh=> ?_,h.isMap.put _ _⟩
 . by_cases e:kl=bH p
   . exact ⟨p,e,hp,(p,t),UR _ (dS.2 rfl),rfl⟩
   . rw [Maps.has_put_other e] at Ds
     obtain ⟨q,h1,h2,u,h3,h4⟩:=h.key kl Ds;exact ⟨q,h1,h2,u,UQ _ h3,h4⟩
 . rw [LR]
   by_cases e:p=q
   . subst e
     rw [aM rfl];exact ⟨v,fun zd=>Maps.atKey_put_same h.isMap hk _ zd,hv⟩
   . have hne:bH q≠bH p:=fun e2=>e (hp.inj hq e2.symm)
     rw [Maps.has_put_other hne] at hh;obtain ⟨v',h1,h2⟩:=h.at_ q hq hh;rw [aY e,AP];exact ⟨v',fun zd=>by rw [Maps.atKey_put_other hne];exact h1 zd,h2⟩
 . rw [LR]
   by_cases e:p=q
   . subst e
     rw [Maps.has_put_same h.isMap hk] at hh;cases hh
   . have hne:bH q≠bH p:=fun e2=>e (hp.inj hq e2.symm)
     rw [Maps.has_put_other hne] at hh;rw [aY e,h.none q hq hh];rfl
end
def iZ (n:Nat) (p:fI):fI:=p++List.replicate (6-n) 0
def qW {p:fI}(hn:n<=6) (hp:p.length=n):(iZ n p).length=6:=by
 unfold iZ;rw [eC,fQ];omega
def Ku {p:fI}(hp:p.length=n):(iZ n p).take n=p:=by
 unfold iZ;rw [<- hp,List.take_left'];rfl
def PA {p q:fI}(hp:p.length=n) (hq:q.length=n) (h:iZ n p=iZ n q):p=q:=by
 rw [<- Ku hp,<- Ku hq,h]
def xQ (n i:Nat):nth (List.replicate n 0) i=0:=by
 unfold nth;by_cases h:i<n<;>simp [List.getD,h]
def EG {p:fI}(hn:n<=6) (hp:p.length=n) (hb:∀x∈p,0<=x∧x<=4611686018427387904):iY n (iZ n p):=by
 refine ⟨qW hn hp,fun x hx=> ?_,fun i hi=> ?_⟩
 . rcases gT.1 hx with hx | hx
   . exact hb x hx
   . rw [(ads.1 hx).2];omega
 . unfold iZ
   rw [nO (by omega),xQ]
def iY.pad {p:fI}(hn:n<=6) (h:iY n p):p=iZ n (p.take n):=by
 refine kW ?_ fun i hi=> ?_
 . rw [qW hn (by rw [cQ,h.len];omega),h.len]
 . by_cases sZ:i<n
   . unfold iZ
     rw [nN (by rw [cQ,h.len];omega)];unfold nth;simp [List.getD,sZ]
   . unfold iZ
     rw [nO (by rw [cQ,h.len];omega),xQ,h.zero i (by omega)]
def iY.take_length {p:fI}(hn:n<=6) (h:iY n p):(p.take n).length=n:=by rw [cQ,h.len];omega
def liftM (n:Nat) (L:Mv):Mv:=L.map fun t=>(iZ n t.1,t.2)
def Mu (n:Nat) (L M:Mv):liftM n (L++M)=liftM n L++liftM n M:=ij
def JG:∀{L:Mv},eW n L->∀{p:fI},p.length=n->gh (liftM n L) (iZ n p)=gh L p
 | [],_,_,_=>rfl
 | t::L,h,p,hp=>by
   have ih:=JG (L:=L) (fun s hs=>h s (bX _ hs)) hp;show (if iZ n t.1=iZ n p then t.2 else 0)+gh (liftM n L) (iZ n p)=(if t.1=p then t.2 else 0)+gh L p;rw [ih];congr 1
   by_cases e:t.1=p
   . rw [aM e,aM (by rw [e])]
   . rw [aY e,aY fun e2=>e (PA (h t aV) hp e2)]
structure DU (D:DataW Value) (n:Nat) (L:Mv) (left:Lit->Bool) (E:Mv):Prop where
 len:eW n E
 ne:∀t∈E,t.2≠0
 nodup:(E.map (·.1)).Pairwise (· ≠ ·)
 from_:∀t∈E,iY n (iZ n t.1)∧Maps.has D (bH (iZ n t.1))=true∧left (bH (iZ n t.1))=false∧t.2=gh L (iZ n t.1)
 all:∀p,iY n p->Maps.has D (bH p)=true->left (bH p)=false->gh L p≠0->∃t∈E,iZ n t.1=p
section
variable {D : DataW Value} {n : Nat} {L E : Mv} {left : Lit -> Bool}
def DU.start (D:DataW Value) (n:Nat) (L:Mv):DU D n L (Maps.has D) []:=
 ⟨fun t h=>(by cases h),fun t h=>(by cases h),List.Pairwise.nil,fun t h=>(by cases h),fun p _ h1 h2=>by rw [h1] at h2;cases h2⟩
def DU.skip (h:DU D n L left E) {p:fI}(hp:iY n p) (h0:gh L p=0):DU D n L (fun z=>left z && !z.sameKey (bH p)) E where
 len:=h.len
 ne:=h.ne
 nodup:=h.nodup
 from_ t ht:=by
  obtain ⟨h1,h2,h3,h4⟩:=h.from_ t ht;exact ⟨h1,h2,by rw [h3];rfl,h4⟩
 all q hq h1 h2 h3:=by
  by_cases e:left (bH q)=false
  . exact h.all q hq h1 e h3
  . have h4:(bH q).sameKey (bH p)=true:=by
     cases hl:left (bH q) with
     | false=>exact absurd hl e
     | true=>rw [hl] at h2;simpa using h2
    have h5:=hq.inj hp (Tx h4);rw [h5] at h3;exact absurd h0 h3
def DU.take (hn:n<=6) (h:DU D n L left E) {p:fI}(hp:iY n p) (hh:Maps.has D (bH p)=true) (hl:left (bH p)=true) (h0:gh L p≠0):
 DU D n L (fun z=>left z && !z.sameKey (bH p)) (E++[(p.take n,gh L p)]) where
 len:=h.len.append fun t ht=>by rw [dS.1 ht];exact hp.take_length hn
 ne t ht:=by
  rcases gT.1 ht with ht | ht
  . exact h.ne t ht
  . rw [dS.1 ht];exact h0
 nodup:=by
  rw [ij,Ez];refine ⟨h.nodup,xz _ _,fun q hq r hr e=> ?_⟩;obtain ⟨t,ht,rfl⟩:=af.1 hq;have CI:r=p.take n:=by simpa using hr
  have h3:=(h.from_ t ht).2.2.1;rw [e,CI,<- hp.pad hn,hl] at h3;cases h3
 from_ t ht:=by
  rcases gT.1 ht with ht | ht
  . obtain ⟨h1,h2,h3,h4⟩:=h.from_ t ht
    exact ⟨h1,h2,by rw [h3];rfl,h4⟩
  . rw [dS.1 ht]
    show iY n (iZ n (p.take n))∧_∧_∧gh L p=gh L (iZ n (p.take n));rw [<- hp.pad hn];exact ⟨hp,hh,by rw [adb (show WideAt.IsKeyLit (bH p) from trivial)];simp,rfl⟩
 all q hq h1 h2 h3:=by
  by_cases e:left (bH q)=false
  . obtain ⟨t,ht,e2⟩:=h.all q hq h1 e h3
    exact ⟨t,UQ _ ht,e2⟩
  . have h4:(bH q).sameKey (bH p)=true:=by
     cases hl:left (bH q) with
     | false=>exact absurd hl e
     | true=>rw [hl] at h2;simpa using h2
    have h5:=hq.inj hp (Tx h4);exact ⟨_,UR _ (dS.2 rfl),by show iZ n (p.take n)=q;rw [<- hp.pad hn,h5]⟩
def DU.done {w:World} {B:Nat} {M:Mv}(hn:n<=6) (h:DU D n L left E) (hl:∀k,left k=false) (hs:pU w D n B L) (_hM:eW n M) (hb:Dj 4611686018427387904 M) (LU:∀p,p.length=n->gh L (iZ n p)=gh M p):jI n E M:=fun p hp=>by
 by_cases hx:∃t∈E,t.1=p
 . obtain ⟨t,ht,rfl⟩:=hx
   rw [mV h.nodup t ht,(h.from_ t ht).2.2.2,LU _ hp]
 . rw [l7 fun t ht e=>hx ⟨t,ht,e⟩]
   by_cases h0:gh M p=0
   . exact h0.symm
   . exfalso
     obtain ⟨s,uF,vH⟩:=Th h0;have hg:iY n (iZ n p):=EG hn hp fun x hx=>hb s uF x (by rw [vH];exact hx);rw [<- LU p hp] at h0;cases hh:Maps.has D (bH (iZ n p)) with
     | false=>exact h0 (hs.none _ hg hh)
     | true=>
       obtain ⟨t,ht,e⟩:=h.all _ hg hh (hl _) h0;exact hx ⟨t,ht,PA (h.len t ht) hp e⟩
end
structure Seen (D:DataW Value) (n:Nat) (L:Mv) (left:Lit->Bool) (E:Mv):Prop where
 nodup:(E.map (·.1)).Pairwise (· ≠ ·)
 from_:∀t∈E,iY n t.1∧Maps.has D (bH t.1)=true∧left (bH t.1)=false∧t.2=gh L t.1
 all:∀p,iY n p->Maps.has D (bH p)=true->left (bH p)=false->∃t∈E,t.1=p
section
variable {D : DataW Value} {n : Nat} {L E : Mv} {left : Lit -> Bool}
def Seen.start (D:DataW Value) (n:Nat) (L:Mv):Seen D n L (Maps.has D) []:=
 ⟨List.Pairwise.nil,fun t h=>(by cases h),fun p _ h1 h2=>by rw [h1] at h2;cases h2⟩
def Seen.step (h:Seen D n L left E) {p:fI}(hp:iY n p) (hh:Maps.has D (bH p)=true) (hl:left (bH p)=true):
 Seen D n L (fun z=>left z && !z.sameKey (bH p)) (E++[(p,gh L p)]) where
 nodup:=by
  rw [ij,Ez];refine ⟨h.nodup,xz _ _,fun q hq r hr e=> ?_⟩;obtain ⟨t,ht,rfl⟩:=af.1 hq;have CI:r=p:=by simpa using hr
  have h3:=(h.from_ t ht).2.2.1;rw [e,CI,hl] at h3;cases h3
 from_ t ht:=by
  rcases gT.1 ht with ht | ht
  . obtain ⟨h1,h2,h3,h4⟩:=h.from_ t ht
    exact ⟨h1,h2,by rw [h3];rfl,h4⟩
  . rw [dS.1 ht]
    exact ⟨hp,hh,by rw [adb (show WideAt.IsKeyLit (bH p) from trivial)];simp,rfl⟩
 all q hq h1 h2:=by
  by_cases e:left (bH q)=false
  . obtain ⟨t,ht,e2⟩:=h.all q hq h1 e
    exact ⟨t,UQ _ ht,e2⟩
  . have h4:(bH q).sameKey (bH p)=true:=by
     cases hl:left (bH q) with
     | false=>exact absurd hl e
     | true=>rw [hl] at h2;simpa using h2
    have h5:=hq.inj hp (Tx h4);exact ⟨_,UR _ (dS.2 rfl),h5.symm⟩
def Seen.done {w:World} {B:Nat}(h:Seen D n L left E) (hl:∀k,left k=false) (hs:pU w D n B L) (hg:∀t∈L,iY n t.1):jI 6 E L:=fun p _=>by
 by_cases hx:∃t∈E,t.1=p
 . obtain ⟨t,ht,rfl⟩:=hx
   rw [mV h.nodup t ht,(h.from_ t ht).2.2.2]
 . rw [l7 fun t ht e=>hx ⟨t,ht,e⟩]
   by_cases h0:gh L p=0
   . exact h0.symm
   . exfalso
     obtain ⟨s,uF,vH⟩:=Th h0;(have hgp:iY n p:=by rw [<- vH];exact hg s uF);cases hh:Maps.has D (bH p) with
     | false=>exact h0 (hs.none _ hgp hh)
     | true=>
       obtain ⟨t,ht,e⟩:=h.all _ hgp hh (hl _);exact hx ⟨t,ht,e⟩
def Seen.awE (h:Seen D n L left E):eW 6 E:=fun t ht=>(h.from_ t ht).1.len
end
def Xx (hn:n<=6) {L:Mv}(h:eW n L):eW 6 (liftM n L):=fun t ht=>by
 obtain ⟨s,hs,rfl⟩:=af.1 ht;exact qW hn (h s hs)
def Xy (hn:n<=6) {L:Mv}(h:eW n L) (hb:Dj 4611686018427387904 L):∀t∈liftM n L,iY n t.1:=fun t ht=>by
 obtain ⟨s,hs,rfl⟩:=af.1 ht;exact EG hn (h s hs) (hb s hs)
def afK (hn:n<=6) {L M:Mv}(h:jI 6 L (liftM n M)) (hM:eW n M):∀p,p.length=n->gh L (iZ n p)=gh M p:=fun p hp=>by
 rw [h _ (qW hn hp),JG hM hp]
def Ib:∀{a b:fI} {i:Nat},a.length=b.length->(∀j,j<i->nth a j=nth b j)->i<a.length->nth a i<nth b i->ir a b
 | x::a,y::b,0,_,_,_,h=> .inl h
 | x::a,y::b,i+1,hl,he,hi,h=>by
   have e0:=he 0 (by omega);refine .inr ⟨e0,Ib (i:=i) (by simpa using hl) (fun j hj=>he (j+1) (by omega)) (by simpa using hi) h⟩
def pK (a b:fI):Int:=if ir a b then -1 else if ir b a then 1 else 0
def C9 {a b:fI}(h:ir a b):pK a b= -1:=aM h
def Gh {a b:fI}(h:ir b a):pK a b=1:=by
 unfold pK;rw [aY fun h2=>ir.irrefl a (ir.trans h2 h),aM h]
def yj (a:fI):pK a a=0:=by
 unfold pK;rw [aY (ir.irrefl a),aY (ir.irrefl a)]
def sj {a b:fI}:pK a b<0↔ir a b:=by
 unfold pK;by_cases h:ir a b
 . rw [aM h];exact ⟨fun _=>h,fun _=>by omega⟩
 . rw [aY h]
   refine ⟨fun h2=> ?_,fun h2=>absurd h2 h⟩;split at h2<;>omega
open aF
def mY (i:Nat):Mv->Nat
 | []=>0
 | t::L=>max ((nth t.1 i).toNat+1) (mY i L)
def vR (i:Nat):∀L M:Mv,mY i (L++M)=max (mY i L) (mY i M)
 | [],M=>(Nat.max_eq_right (bL _)).symm
 | t::L,M=>by
   show max _ (mY i (L++M))=max (max _ (mY i L)) _;rw [vR i L M,Nat.max_assoc]
def EE:∀{L:Mv} {t:mH},t∈L->(nth t.1 i).toNat<mY i L
 | s::L,t,h=>by
   show _<max _ _;rcases iH.1 h with rfl | h
   . exact iE (xy _) (Lz _ _)
   . exact iE (EE h) (Lv _ _)
def IG {d:Nat}:∀{L:Mv},(∀t∈L,(nth t.1 i).toNat<d)->mY i L<=d
 | [],_=>bL _
 | t::L,h=>Nat.max_le.2 ⟨h t aV,IG fun s hs=>h s (bX _ hs)⟩
def oC (i j:Nat) (L:Mv):Mv:=L.filter fun t=>nth t.1 i==(j:Int)
def EF {L:Mv} {t:mH}(h:t∈oC i j L):t∈L:=(Ew.1 h).1
def Me (i j:Nat) (L M:Mv):oC i j (L++M)=oC i j L++oC i j M:=Np _ _
noncomputable def jB:(m:Nat)->Nat->Mv->Pn m
 | 0,_,L=>Yp (eM (fun t=>t.2) L)
 | m+1,i,L=>mkK ⟨fun j=>if j<mY i L then jB m (i+1) (oC i j L) else 0,mY i L,fun j hj=>aY (by omega)⟩
def xM (m i:Nat) (L:Mv) (j:Nat):(kids (jB (m+1) i L)).co j=if j<mY i L then jB m (i+1) (oC i j L) else 0:=rfl
def ID (m i:Nat) (L:Mv):(kids (jB (m+1) i L)).Sh (mY i L):=fun j hj=>by rw [xM,aY (by omega)]
noncomputable def cf:(n:Nat)->Pn n->fI->Int
 | 0,z,_=>vM z
 | _+1,_,[]=>0
 | n+1,f,e::p=>if 0<=e then cf n ((kids f).co e.toNat) p else 0
def kP (n:Nat) (f:Pn (n+1)) (e:Int) (p:fI):cf (n+1) f (e::p)=if 0<=e then cf n ((kids f).co e.toNat) p else 0:=rfl
def rV:∀(n:Nat) (p:fI),cf n (0:Pn n) p=0
 | 0,p=>by show vM 0=0;rfl
 | n+1,[]=>rfl
 | n+1,e::p=>by
   rw [kP,LD,Poly.C7,rV n p];split<;>rfl
def Tk:∀(n:Nat) (f g:Pn n) (p:fI),cf n (f+g) p=cf n f p+cf n g p
 | 0,f,g,p=>aeI f g
 | n+1,f,g,[]=>rfl
 | n+1,f,g,e::p=>by
   rw [kP,kP,kP,Il,Poly.pJ,Tk n];split<;>rfl
def acL:∀(n:Nat) (f:Pn n) (p:fI),cf n (-f) p= -cf n f p
 | 0,f,p=>MH f
 | n+1,f,[]=>rfl
 | n+1,f,e::p=>by
   rw [kP,kP,Bo,Poly.zv,acL n];split<;>rfl
def sk:∀{n:Nat} {f g:Pn n},(∀p:fI,p.length=n->cf n f p=cf n g p)->f=g
 | 0,f,g,h=>h [] rfl
 | n+1,f,g,h=>Poly.ext (a:=kids f) (b:=kids g) fun j=>sk fun p hp=>by
   have h1:=h ((j:Int)::p) (by rw [rL,hp]);rw [kP,kP,aM (by omega),aM (by omega),jc] at h1;exact h1
def atL (i:Nat) (L:Mv) (p:fI):Int:=eM (fun t=>if t.1.drop i=p then t.2 else 0) L
def BG {α:Type}(q:α->Bool) (f:α->Int):∀L:List α,eM f (L.filter q)=eM (fun a=>if q a then f a else 0) L
 | []=>rfl
 | a::L=>by
   show _=(if q a then f a else 0)+eM _ L;rw [JX,<- BG q f L];by_cases h:q a=true
   . rw [aM h,aM h];rfl
   . rw [aY h,aY h];omega
def oM {α:Type} {f:α->Int} {L:List α}(h:∀a∈L,f a=0):eM f L=0:=by rw [fk (g:=fun _=>0) h,pE]
def acq {p:fI}(h:i<p.length):p.drop i=nth p i::p.drop (i+1):=by
 rw [xm h,fV h]
def Qk:∀(m i:Nat) (L:Mv) (p:fI),(∀t∈L,t.1.length=i+m)->(∀t∈L,∀x∈t.1,0<=x)->p.length=m->cf m (jB m i L) p=atL i L p
 | 0,i,L,p,hL,_,hp=>by
   show eM (fun t=>t.2) L=_;refine fk fun t ht=> ?_;rw [aM];rw [lK hp,DT (by rw [hL t ht];omega)]
 | m+1,i,L,[],_,_,hp=>by cases hp
 | m+1,i,L,e::p,hL,h0,hp=>by
   have Gb:p.length=m:=by simpa using hp
   have hd:∀t∈L,t.1.drop i=nth t.1 i::t.1.drop (i+1):=fun t ht=>acq (by rw [hL t ht];omega);have hn:∀t∈L,0<=nth t.1 i:=fun t ht=>h0 t ht _ (gL (by rw [hL t ht];omega));rw [kP,xM];by_cases he:0<=e
   . rw [aM he]
     have key:atL (i+1) (oC i e.toNat L) p=atL i L (e::p):=by
      unfold atL oC;rw [BG];refine fk fun t ht=> ?_;rw [hd t ht,show ((e.toNat:Nat):Int)=e by omega];by_cases h1:nth t.1 i=e
      . rw [h1,aM (beq_self_eq_true e)]
        by_cases h2:t.1.drop (i+1)=p
        . rw [aM h2,aM (by rw [h2])]
        . rw [aY h2,aY (fun h3=>h2 (mF h3).2)]
      . rw [aY (fun h3=>h1 (eq_of_beq h3)),aY (fun h3=>h1 (mF h3).1)]
     by_cases hN:e.toNat<mY i L
     . rw [aM hN,Qk m (i+1) _ p (fun t ht=>by rw [hL t (EF ht)];omega) (fun t ht=>h0 t (EF ht)) Gb,key]
     . rw [aY hN,rV]
       refine (oM fun t ht=>aY fun h3=> ?_).symm;rw [hd t ht] at h3;have h4:=EE (i:=i) ht;rw [(mF h3).1] at h4;exact hN h4
   . rw [aY he]
     refine (oM fun t ht=>aY fun h3=> ?_).symm;rw [hd t ht] at h3;have h4:=hn t ht;rw [(mF h3).1] at h4;exact he h4
def Gx {α:Type}(f:α->Int):∀L:List α,(eM f L).natAbs<=(L.map fun a=>(f a).natAbs).sum
 | []=>aL
 | a::L=>by
   have h:=Gx f L;show (f a+eM f L).natAbs<=_;rw [uK,UO];omega
def nu (t:mH) (L:Mv):bJ (t::L)=t.2.natAbs+bJ L:=by
 unfold bJ;rw [uK,UO]
def O9 (i:Nat):∀(L:Mv) (N:Nat),nS N (fun j=>bJ (oC i j L))<=bJ L
 | [],N=>by
   have e:(fun j=>bJ (oC i j []))=fun _=>0:=funext fun j=>rfl;rw [e,Be];exact ig (jZ N)
 | t::L,N=>by
   have e:∀j,bJ (oC i j (t::L))=(if nth t.1 i==(j:Int) then t.2.natAbs else 0)+bJ (oC i j L):=fun j=>by
    unfold oC;rw [JX];split
    . exact nu _ _
    . exact (bh _).symm
   rw [qc fun j _=>e j,aav,nu];refine JW ?_ (O9 i L N);have one:∀N:Nat,nS N (fun j=>if nth t.1 i==(j:Int) then t.2.natAbs else 0)<=t.2.natAbs∧((∀j,j<N->nth t.1 i≠(j:Int))->nS N (fun j=>if nth t.1 i==(j:Int) then t.2.natAbs else 0)=0):=fun N=>by
    induction N with
    | zero=>exact ⟨bL _,fun _=>rfl⟩
    | succ N ih=>
      have h1:nS (N+1) (fun j=>if nth t.1 i==(j:Int) then t.2.natAbs else 0)=nS N (fun j=>if nth t.1 i==(j:Int) then t.2.natAbs else 0)+(if nth t.1 i==((N:Nat):Int) then t.2.natAbs else 0):=rfl;rw [h1];by_cases h:nth t.1 i=((N:Nat):Int)
      . rw [ih.2 fun j hj e2=>by omega,aM (Qy.2 h)]
        exact ⟨by omega,fun h3=>absurd h (h3 N (by omega))⟩
      . rw [aY fun h3=>h (eq_of_beq h3)]
        exact ⟨by have:=ih.1;omega,fun h3=>by rw [ih.2 fun j hj=>h3 j (by omega)]⟩
   exact (one N).1
def IE:∀(m i:Nat) (L:Mv),aH.nm (jB m i L)<=bJ L
 | 0,i,L=>Gx _ L
 | m+1,i,L=>by
   show Poly.jS (kids (jB (m+1) i L))<=_;rw [Poly.jt (ID m i L)];refine aG (K0 fun j hj=> ?_) (O9 i L (mY i L));rw [xM,aM hj];exact IE m (i+1) _
def xL:∀(m i:Nat) (L:Mv) (D:Nat->Nat),(∀t∈L,∀k,(nth t.1 (i+k)).toNat<=D k)->aH.dg D (jB m i L)
 | 0,i,L,D,_=>trivial
 | m+1,i,L,D,h=>by
   have h':Poly.mo D (kids (jB (m+1) i L)):=by
    refine ⟨(ID m i L).mono (IG fun t ht=>Nat.lt_succ_of_le (h t ht 0)),fun j=> ?_⟩;rw [xM];split
    . exact xL m (i+1) _ _ fun t ht k=>by
       have h1:=h t (EF ht) (k+1);rwa [show i+(k+1)=i+1+k by omega] at h1
    . exact aH.en _
   exact h'
def sQ {e:TypeId} {sz:Nat} {xs:List Value}(h:w.ownsRow base e sz v n xs) (hb:Below w.heap.size w w'):w'.ownsRow base e sz v n xs:=
 ki h (Only.bZ hb) fun k hk hq=>by have:=(h.lt k hk).2;omega
structure Nx (TT TE:TypeId) (w0 wr:World) (v:Value) (Vs:List Value) (Es:List (List ax)):Prop where
 own:wr.ownsRow w0.heap.size TT 1 v Vs.length Vs
 len:Es.length=Vs.length
 rows:∀(j:Nat) (V:Value) (E:List ax),Vs[j]? =some V->Es[j]? =some E->wr.ownsRow w0.heap.size TE 3 V E.length (aS E)
 apart:∀(j k:Nat) (V V':Value),Vs[j]? =some V->Vs[k]? =some V'->j≠k->∀b,V.ownBlock=some b->V'.ownBlock≠some b
 off:∀(j:Nat) (V:Value),Vs[j]? =some V->∀b,v.ownBlock=some b->V.ownBlock≠some b
 ok:∀(j:Nat) (E:List ax),Es[j]? =some E->∀x∈E,gV w0 x
 aC:Below w0.heap.size w0 wr
section
variable {TT TE : TypeId} {w0 wr wt w3 : World} {v : Value} {Vs : List Value} {Es : List (List ax)}
def Nx.start (TT TE:TypeId) (h:Below w0.heap.size w0 wr):Nx TT TE w0 wr (.slice none 0 0) [] []:=
 ⟨nv _ _ _ _,rfl,fun j V E h=>by simp at h,fun j k V V' h=>by simp at h,fun j V h=>by simp at h,fun j E h=>by simp at h,h⟩
def Nx.jX (h:Nx TT TE w0 wr v Vs Es) (hb:Below wr.heap.size wr wt):Nx TT TE w0 wt v Vs Es:=
 ⟨sQ h.own hb,h.len,fun j V E h1 h2=>sQ (h.rows j V E h1 h2) hb,h.apart,h.off,h.ok,h.aC.tm hb⟩
def Nx.at_ (h:Nx TT TE w0 wr v Vs Es) {j:Nat}(hj:j<Vs.length):∃V E,Vs[j]? =some V∧Es[j]? =some E∧wr.ownsRow w0.heap.size TE 3 V E.length (aS E):=by
 have hj':j<Es.length:=by rw [h.len];exact hj
 exact ⟨Vs[j],Es[j],uT hj,uT hj',h.rows j _ _ (uT hj) (uT hj')⟩
def Nx.push {gg cap:Nat} {o:Obj}(h:Nx TT TE w0 wr v Vs Es) (aa:w3.ownsRow w0.heap.size TT 1 (.slice (some ⟨gg,0,none⟩) (Vs.length+1) cap) (Vs.length+1) (Vs++[.slice none 0 0])) (rD:(wr.alloc o).grownBy w3 v.ownBlock) (gZ:v.ownBlock=some gg∨gg=wr.heap.size+1):
 Nx TT TE w0 w3 (.slice (some ⟨gg,0,none⟩) (Vs.length+1) cap) (Vs++[.slice none 0 0]) (Es++[[]]):=by
 have b1:Below wr.heap.size wr (wr.alloc o):=aU.alloc aL _;have o3:Only (fun k=>v.ownBlock=some k) (wr.alloc o) w3:=(Only.fK rD).mono (fun i hi=>by first | exact hi | exact hi.symm);have old:∀{j:Nat} {V:Value},(Vs++[Value.slice none 0 0])[j]? =some V->(j<Vs.length∧Vs[j]? =some V)∨(j=Vs.length∧V=.slice none 0 0):=fun {j V} hj=>by
  rcases pT j Vs.length with hl | hl
  . rw [Tw hl] at hj;exact .inl ⟨hl,hj⟩
  . rw [DL hl] at hj
    by_cases e:j=Vs.length
    . rw [e,vC] at hj
      exact .inr ⟨e,by injection hj with hj;exact hj.symm⟩
    . rw [JV (by show 1<=_;omega)] at hj;cases hj
 have XY:∀{j:Nat} {E:List ax},(Es++[[]])[j]? =some E->(j<Vs.length∧Es[j]? =some E)∨(j=Vs.length∧E=[]):=fun {j E} hj=>by
  rcases pT j Es.length with hl | hl
  . rw [Tw hl] at hj;exact .inl ⟨by rw [<- h.len];exact hl,hj⟩
  . rw [DL hl] at hj
    by_cases e:j=Es.length
    . rw [e,vC] at hj
      exact .inr ⟨by rw [e,h.len],by injection hj with hj;exact hj.symm⟩
    . rw [JV (by show 1<=_;omega)] at hj;cases hj
 refine ⟨by rw [eC];exact aa,by rw [eC,eC,h.len];rfl,fun j V E h1 h2=> ?_,fun j k V V' h1 h2 hne b e1 e2=> ?_,fun j V h1 b e1 e2=> ?_,fun j E h1 x hx=> ?_,?_⟩
 . rcases old h1 with ⟨l1,g1⟩ | ⟨l1,g1⟩
   . rcases XY h2 with ⟨l2,g2⟩ | ⟨l2,g2⟩
     . exact ki (sQ (h.rows j V E g1 g2) b1) o3 fun k hk hq=>h.off j V g1 k hq hk
     . omega
   . rcases XY h2 with ⟨l2,g2⟩ | ⟨l2,g2⟩
     . omega
     . rw [g1,g2];exact nv _ _ _ _
 . rcases old h1 with ⟨l1,g1⟩ | ⟨l1,g1⟩
   . rcases old h2 with ⟨l2,g2⟩ | ⟨l2,g2⟩
     . exact h.apart j k V V' g1 g2 hne b e1 e2
     . rw [g2] at e2;cases e2
   . rw [g1] at e1;cases e1
 . rcases old h1 with ⟨l1,g1⟩ | ⟨l1,g1⟩
   . have e3:gg=b:=by injection e1
     rcases gZ with h3 | h3
     . exact h.off j V g1 b (by rw [h3,e3]) e2
     . obtain ⟨V',E',q1,q2,q3⟩:=h.at_ l1
       rw [g1] at q1;injection q1 with q1
       subst q1;have:=(q3.lt b e2).2;omega
   . rw [g1] at e2;cases e2
 . rcases XY h1 with ⟨l1,g1⟩ | ⟨l1,g1⟩
   . exact h.ok j E g1 x hx
   . rw [g1] at hx;cases hx
 . have:=h.aC.size
   exact (h.aC.alloc h.aC.size o).grown rD (by simp;omega) (fun k hk=>(h.own.lt k hk).1)
def Nx.add {gg cap vb cv j:Nat} {o:Obj} {V:Value} {E:List ax} {x:ax}(h:Nx TT TE w0 wr (.slice (some ⟨vb,0,none⟩) Vs.length cv) Vs Es) (hV:Vs[j]? =some V) (hE:Es[j]? =some E) (hx:gV w0 x)
 (aa:w3.ownsRow w0.heap.size TE 3 (.slice (some ⟨gg,0,none⟩) (E.length+1) cap) (E.length+1) (aS E++kU x)) (rD:(wr.alloc o).grownBy w3 V.ownBlock) (gZ:V.ownBlock=some gg∨gg=wr.heap.size+1):
 Nx TT TE w0 (w3.setCell ⟨vb,j,none⟩ (.slice (some ⟨gg,0,none⟩) (E.length+1) cap)) (.slice (some ⟨vb,0,none⟩) Vs.length cv) (Vs.set j (.slice (some ⟨gg,0,none⟩) (E.length+1) cap)) (Es.set j (E++[x])):=by
 have hj:j<Vs.length:=(F3.1 hV).1;have hjE:j<Es.length:=by rw [h.len];exact hj
 have b1:Below wr.heap.size wr (wr.alloc o):=aU.alloc aL _;have o3:Only (fun k=>V.ownBlock=some k) (wr.alloc o) w3:=(Only.fK rD).mono (fun i hi=>by first | exact hi | exact hi.symm);have o4:Only (fun k=>k=vb) w3 (w3.setCell ⟨vb,j,none⟩ (.slice (some ⟨gg,0,none⟩) (E.length+1) cap)):=(Only.refl (fun k=>k=vb) w3).setCell (p:=⟨vb,j,none⟩) rfl _;have tV:(Value.slice (some ⟨vb,0,none⟩) Vs.length cv).ownBlock=some vb:=rfl;have hvl:=h.own.lt vb tV;have gvb:gg≠vb:=fun e=>by
  rcases gZ with h3 | h3
  . exact h.off j V hV vb tV (by rw [h3,e])
  . omega
 have ZX:∀{k:Nat} {V':Value},(Vs.set j (.slice (some ⟨gg,0,none⟩) (E.length+1) cap))[k]? =some V'->(k=j∧V'=.slice (some ⟨gg,0,none⟩) (E.length+1) cap)∨(k≠j∧Vs[k]? =some V'):=fun {k V'} hk=>by
  by_cases e:k=j
  . subst e
    rw [UN hj] at hk;injection hk with hk
    exact .inl ⟨rfl,hk.symm⟩
  . rw [UM (fun h=>e h.symm)] at hk
    exact .inr ⟨e,hk⟩
 have XK:∀{k:Nat} {E':List ax},(Es.set j (E++[x]))[k]? =some E'->(k=j∧E'=E++[x])∨(k≠j∧Es[k]? =some E'):=fun {k E'} hk=>by
  by_cases e:k=j
  . subst e
    rw [UN hjE] at hk;injection hk with hk
    exact .inl ⟨rfl,hk.symm⟩
  . rw [UM (fun h=>e h.symm)] at hk
    exact .inr ⟨e,hk⟩
 have aps:∀{k:Nat} {V':Value},Vs[k]? =some V'->∀b,V'.ownBlock=some b->b<wr.heap.size:=fun {k V'} hk b hb=>by
  obtain ⟨V2,E2,q1,q2,q3⟩:=h.at_ (F3.1 hk).1;rw [hk] at q1;injection q1 with q1
  subst q1;exact (q3.lt b hb).2
 have ahV:∀{k:Nat} {V':Value},k≠j->Vs[k]? =some V'->V'.ownBlock≠some gg:=fun {k V'} hk h1 e=>by
  rcases gZ with h3 | h3
  . exact h.apart j k V V' hV h1 (fun e2=>hk e2.symm) gg h3 e
  . have:=aps h1 gg e;omega
 refine ⟨?_,by rw [fW,fW,h.len],fun k V' E' h1 h2=> ?_,fun k l V1 V2 h1 h2 hne b e1 e2=> ?_,fun k V' h1 b e1 e2=> ?_,fun k E' h1 y hy=> ?_,?_⟩
 . rw [fW]
   exact vT (ki (sQ h.own b1) o3 fun k hk hq=>h.off j V hV k hk hq) j _
 . rcases ZX h1 with ⟨l1,g1⟩ | ⟨l1,g1⟩
   . rcases XK h2 with ⟨l2,g2⟩ | ⟨l2,g2⟩
     . subst g1;subst g2
       rw [eC,qI];exact ki aa o4 fun k hk hq=>by
        (have e:gg=k:=by injection hk);exact gvb (e.trans hq)
     . exact absurd l1 l2
   . rcases XK h2 with ⟨l2,g2⟩ | ⟨l2,g2⟩
     . exact absurd l2 l1
     . exact ki (ki (sQ (h.rows k V' E' g1 g2) b1) o3 fun b hb hq=>h.apart j k V V' hV g1 (fun e=>l1 e.symm) b hq hb) o4 fun b hb hq=>h.off k V' g1 vb tV (by rw [hb,hq])
 . rcases ZX h1 with ⟨l1,g1⟩ | ⟨l1,g1⟩
   . rcases ZX h2 with ⟨l2,g2⟩ | ⟨l2,g2⟩
     . exact hne (l1.trans l2.symm)
     . rw [g1] at e1
       (have e:gg=b:=by injection e1);rw [<- e] at e2;exact ahV l2 g2 e2
   . rcases ZX h2 with ⟨l2,g2⟩ | ⟨l2,g2⟩
     . rw [g2] at e2
       (have e:gg=b:=by injection e2);rw [<- e] at e1;exact ahV l1 g1 e1
     . exact h.apart k l V1 V2 g1 g2 hne b e1 e2
 . have e0:vb=b:=by injection e1
   rcases ZX h1 with ⟨l1,g1⟩ | ⟨l1,g1⟩
   . rw [g1] at e2
     (have e:gg=b:=by injection e2);exact gvb (e.trans e0.symm)
   . exact h.off k V' g1 vb tV (by rw [e2,e0])
 . rcases XK h1 with ⟨l1,g1⟩ | ⟨l1,g1⟩
   . rw [g1] at hy
     rcases gT.1 hy with hy | hy
     . exact h.ok j E hE y hy
     . rw [dS.1 hy];exact hx
   . exact h.ok k E' g1 y hy
 . have:=h.aC.size
   obtain ⟨V2,E2,q1,q2,q3⟩:=h.at_ hj;rw [hV] at q1;injection q1 with q1
   subst q1;exact ((h.aC.alloc h.aC.size o).grown rD (by simp;omega) (fun k hk=>(q3.lt k hk).1)).setCell (p:=⟨vb,j,none⟩) hvl.1 _
end
structure wS (i:Nat) (L:List TV) (M:Mv) (Es:List (List ax)):Prop where
 len:mY i M<=Es.length
 at_:∀(j:Nat) (E:List ax),Es[j]? =some E->aP (E.map (·.2))=oC i j M
 sub:∀(j:Nat) (E:List ax),Es[j]? =some E->∀x∈E,x.2∈L
def SI {M:Mv}(h0:∀t∈M,0<=nth t.1 i) (h:mY i M<=j):oC i j M=[]:=by
 unfold oC;rw [List.filter_eq_nil_iff];intro t ht e;have h1:=EE (i:=i) ht;have h2:=eq_of_beq e;omega
section
variable {i : Nat} {L : List TV} {M : Mv} {Es : List (List ax)}
def wS.start (i:Nat) (L:List TV):wS i L [] []:=⟨aL,fun j E h=>by simp at h,fun j E h=>by simp at h⟩
def wS.push (h:wS i L M Es) (h0:∀t∈M,0<=nth t.1 i):wS i L M (Es++[[]]):=by
 have XY:∀{j:Nat} {E:List ax},(Es++[[]])[j]? =some E->Es[j]? =some E∨(j=Es.length∧E=[]):=fun {j E} hj=>by
  rcases pT j Es.length with hl | hl
  . rw [Tw hl] at hj;exact .inl hj
  . rw [DL hl] at hj
    by_cases e:j=Es.length
    . rw [e,vC] at hj
      exact .inr ⟨e,by injection hj with hj;exact hj.symm⟩
    . rw [JV (by show 1<=_;omega)] at hj;cases hj
 refine ⟨by rw [eC];have:=h.len;omega,fun j E hj=> ?_,fun j E hj x hx=> ?_⟩
 . rcases XY hj with g | ⟨g1,g2⟩
   . exact h.at_ j E g
   . rw [g2,SI h0 (by rw [g1];exact h.len)];rfl
 . rcases XY hj with g | ⟨g1,g2⟩
   . exact h.sub j E g x hx
   . rw [g2] at hx;cases hx
def wS.add (h:wS i L M Es) {j:Nat} {E:List ax} {x:ax}(hE:Es[j]? =some E) (hx:x.2∈L) (hn:nth (bS x.2).1 i=(j:Int)):wS i L (M++[bS x.2]) (Es.set j (E++[x])):=by
 have hjE:j<Es.length:=(F3.1 hE).1;have XK:∀{k:Nat} {E':List ax},(Es.set j (E++[x]))[k]? =some E'->(k=j∧E'=E++[x])∨(k≠j∧Es[k]? =some E'):=fun {k E'} hk=>by
  by_cases e:k=j
  . subst e
    rw [UN hjE] at hk;injection hk with hk
    exact .inl ⟨rfl,hk.symm⟩
  . rw [UM (fun h=>e h.symm)] at hk
    exact .inr ⟨e,hk⟩
 refine ⟨?_,fun k E' hk=> ?_,fun k E' hk y hy=> ?_⟩
 . rw [fW,vR]
   refine Nat.max_le.2 ⟨h.len,?_⟩;show max _ 0<=_;rw [hn];omega
 . rw [Me]
   rcases XK hk with ⟨g1,g2⟩ | ⟨g1,g2⟩
   . subst g1;subst g2
     rw [ij,eN,h.at_ k E hE];congr 1
     unfold oC;rw [JX,aM (by rw [hn];exact beq_self_eq_true _)];rfl
   . rw [h.at_ k E' g2]
     unfold oC;rw [JX,aY (fun e=>g1 (by have:=eq_of_beq e;omega)),List.filter_nil,tI]
 . rcases XK hk with ⟨g1,g2⟩ | ⟨g1,g2⟩
   . rw [g2] at hy
     rcases gT.1 hy with hy | hy
     . exact h.sub j E hE y hy
     . rw [dS.1 hy];exact hx
   . exact h.sub k E' g2 y hy
end
noncomputable def dW:(n:Nat)->fI->Pn n->Mv
 | 0,pre,z=>if vM z=0 then [] else [(pre,vM z)]
 | n+1,pre,f=>(List.range (kids f).len).flatMap fun k:Nat=>dW n (pre++[(k:Int)]) ((kids f).co k)
def iB (pre:fI) (z:Pn 0):dW 0 pre z=if vM z=0 then [] else [(pre,vM z)]:=rfl
def j9 (n:Nat) (pre:fI) (f:Pn (n+1)):dW (n+1) pre f=(List.range (kids f).len).flatMap fun k:Nat=>dW n (pre++[(k:Int)]) ((kids f).co k):=rfl
def Dx:∀{n:Nat} {pre:fI} {f:Pn n} {D:Nat->Nat} {d:Nat},aH.dg D f->(∀j,D j<=d)->∀t∈dW n pre f,∃e:fI,t.1=pre++e∧e.length=n∧(∀x∈e,0<=x∧x<=(d:Int))∧t.2≠0
 | 0,pre,z,D,d,_,_,t,ht=>by
   rw [iB] at ht;by_cases h:vM z=0
   . rw [aM h] at ht;cases ht
   . rw [aY h] at ht
     rw [dS.1 ht];exact ⟨[],(tI _).symm,rfl,fun x hx=>absurd hx (lD),h⟩
 | n+1,pre,f,D,d,hf,hD,t,ht=>by
   have EY:Poly.mo D (kids f):=hf;rw [j9] at ht;obtain ⟨k,hk,ht⟩:=tG.1 ht;have Gc:=om.1 hk;obtain ⟨e,h1,h2,h3,h4⟩:=Dx (EY.2 k) (fun j=>hD (j+1)) t ht;refine ⟨(k:Int)::e,by rw [h1,vD];rfl,by rw [rL,h2],fun x hx=> ?_,h4⟩;rcases iH.1 hx with rfl | hx
   . have h5:=Poly.bV EY.1
     have h6:=hD 0;constructor<;>omega
   . exact h3 x hx
def acu:∀{n:Nat}(f:Pn n),∃D,aH.dg D f∧∃d,∀j,D j<=d
 | 0,_=>⟨fun _=>0,trivial,0,fun _=>aL⟩
 | n+1,f=>by
   have key:∀m,∃D d,(∀i,i<m->aH.dg D ((kids f).co i))∧∀j,D j<=d:=fun m=>by
    induction m with
    | zero=>exact ⟨fun _=>0,0,fun i hi=>absurd hi (rK i),fun _=>aL⟩
    | succ m ih=>
      obtain ⟨D,d,h1,h2⟩:=ih;obtain ⟨E,h3,e,h4⟩:=acu ((kids f).co m);refine ⟨fun j=>max (D j) (E j),max d e,fun i hi=> ?_,fun j=>by have:=h2 j;have:=h4 j;show max _ _<=_;omega⟩;by_cases hm:i=m
      . rw [hm];exact aH.jr _ _ _ (fun j=>Lv _ _) h3
      . exact aH.jr _ _ _ (fun j=>Lz _ _) (h1 i (by omega))
   obtain ⟨D,d,h1,h2⟩:=key (kids f).len;refine ⟨Poly.bg (kids f).len D,(show Poly.mo _ (kids f) from ⟨(Poly.ay _).mono (rI _),fun i=> ?_⟩),max (kids f).len d,fun j=> ?_⟩
   . by_cases hi:i<(kids f).len
     . exact h1 i hi
     . rw [Poly.ay _ i (by omega)];exact aH.en _
   . cases j with
     | zero=>exact Lz _ _
     | succ j=>exact aG (h2 j) (Lv _ _)
def rY {pre:fI} {f:Pn n} {t:mH}(ht:t∈dW n pre f):∃e:fI,t.1=pre++e∧e.length=n∧(∀x∈e,0<=x)∧t.2≠0:=by
 obtain ⟨D,h1,d,h2⟩:=acu f;obtain ⟨e,g1,g2,g3,g4⟩:=Dx h1 h2 t ht;exact ⟨e,g1,g2,fun x hx=>(g3 x hx).1,g4⟩
def Gw {k:Nat} {g:Nat->Int}(hk:k<m) (h:∀j,j<m->j≠k->g j=0):eM g (List.range m)=g k:=by
 refine Kh (List.pairwise_lt_range.imp fun h=>Nat.ne_of_lt h) (om.2 hk) fun j hj hne=>h j (om.1 hj) hne
def Kc:∀(n:Nat) (pre:fI) (f:Pn n) (p:fI),p.length=n->gh (dW n pre f) (pre++p)=cf n f p
 | 0,pre,z,p,hp=>by
   rw [lK hp,tI,iB];by_cases h:vM z=0
   . rw [aM h];exact h.symm
   . rw [aY h,aj,aM rfl,qF]
     exact AP _
 | n+1,pre,f,[],hp=>by cases hp
 | n+1,pre,f,e::p,hp=>by
   have Gb:p.length=n:=by simpa using hp
   rw [kP,j9];unfold gh;rw [Dy];have hz:∀k:Nat,(k:Int)≠e->eM (fun t:mH=>if t.1=pre++e::p then t.2 else 0) (dW n (pre++[(k:Int)]) ((kids f).co k))=0:=fun k hk=>oM fun t ht=>aY fun h=>by
    obtain ⟨e',h1,_⟩:=rY ht;rw [h1,vD] at h;exact hk (mF (List.append_cancel_left h)).1
   by_cases he:0<=e
   . rw [aM he]
     (have hke:((e.toNat:Nat):Int)=e:=by omega);by_cases hl:e.toNat<(kids f).len
     . rw [Gw hl fun j _ hne=>hz j (by omega)]
       have ih:=Kc n (pre++[((e.toNat:Nat):Int)]) ((kids f).co e.toNat) p Gb;rw [<- ih,vD,hke];rfl
     . rw [Poly.ay _ _ (by omega),rV]
       exact oM fun k hk=>hz k (by have:=om.1 hk;omega)
   . rw [aY he]
     exact oM fun k _=>hz k (by omega)
def Vn:∀(pre:fI) {a b:fI},ir a b->ir (pre++a) (pre++b)
 | [],_,_,h=>h
 | _::pre,_,_,h=> .inr ⟨rfl,Vn pre h⟩
def Kb:∀(n:Nat) (pre:fI) (f:Pn n),(dW n pre f).Pairwise fun s t=>ir s.1 t.1
 | 0,pre,z=>by
   rw [iB];split
   . exact List.Pairwise.nil
   . exact xz _ _
 | n+1,pre,f=>by
   rw [j9];have key:∀l:List Nat,l.Pairwise (· < ·)->(l.flatMap fun k:Nat=>dW n (pre++[(k:Int)]) ((kids f).co k)).Pairwise fun s t=>ir s.1 t.1:=fun l=>by
    induction l with
    | nil=>intro _;exact List.Pairwise.nil
    | cons k l ih=>
      intro h;obtain ⟨h1,h2⟩:=gQ.1 h;rw [vz];refine Ez.2 ⟨Kb n _ _,ih h2,fun s hs t ht=> ?_⟩;obtain ⟨k',Gc,ht⟩:=tG.1 ht;obtain ⟨e1,g1,_⟩:=rY hs;obtain ⟨e2,g2,_⟩:=rY ht;rw [g1,g2,vD,vD];have:=h1 k' Gc;exact Vn pre (.inl (show (k:Int)<(k':Int) by omega))
   exact key _ List.pairwise_lt_range
def ML (n:Nat) (f:Pn n):av n (dW n [] f).reverse:=
 ⟨fun t ht=>by
   obtain ⟨e,h1,h2,_⟩:=rY (JU.1 ht);rw [h1];exact h2,by
   rw [List.pairwise_reverse];exact Kb n [] f,fun t ht=>by
   obtain ⟨e,_,_,_,h4⟩:=rY (JU.1 ht);exact h4⟩
def rX (n:Nat) (f:Pn n) (p:fI) (hp:p.length=n):gh (dW n [] f).reverse p=cf n f p:=by
 rw [Qg (Uc _)];exact Kc n [] f p hp
def I8 {α:Type} {F:Nat->List α}:∀l:List Nat,(∀k∈l,(F k).length<=B)->(l.flatMap F).length<=l.length*B
 | [],_=>bL _
 | k::l,h=>by
   rw [vz,eC,rL,bO,bN];have h1:=h k aV;have h2:=I8 l fun j hj=>h j (bX _ hj);omega
def mP:∀{n:Nat} {pre:fI} {f:Pn n} {D:Nat->Nat},aH.dg D f->(dW n pre f).length<=aH.jo (Pn n) D
 | 0,pre,z,D,_=>by
   rw [iB];split
   . exact bL _
   . exact aL
 | n+1,pre,f,D,h=>by
   have h':Poly.mo D (kids f):=h;rw [j9];refine aG (I8 (B:=aH.jo (Pn n) (fun j=>D (j+1))) _ fun k _=>mP (h'.2 k)) ?_;rw [Ev];show _<=(D 0+1)*aH.jo (Pn n) (fun j=>D (j+1));exact bG _ (Poly.bV h'.1)
def Gr:∀(n:Nat) (pre:fI) (f:Pn n),dW n pre (-f)=(dW n pre f).map fun t=>(t.1, -t.2)
 | 0,pre,z=>by
   rw [iB,iB];by_cases h:vM z=0
   . rw [aM h,aM (by rw [MH,h];rfl)];rfl
   . rw [aY h,aY (fun e=>h (by rw [MH] at e;omega))];rfl
 | n+1,pre,f=>by
   have hl:(kids (-f)).len=(kids f).len:=Um (Poly.bV fun i hi=>by rw [Bo,Poly.zv,Poly.ay _ i hi,aF.neg_zero]) (Poly.bV fun i hi=>by
    have h1:=Poly.ay (kids (-f)) i hi;rw [Bo,Poly.zv] at h1;rw [<- aF.neg_neg ((kids f).co i),h1,aF.neg_zero])
   rw [j9,j9,hl,List.map_flatMap];refine I9 fun k _=> ?_;rw [Bo,Poly.zv];exact Gr n _ _
def qy (L:Mv):Prop:=∀t∈L,∀x∈t.1,0<=x
def qy.append {L M:Mv}(h:qy L) (k:qy M):qy (L++M):=fun t ht=>(gT.1 ht).elim (h t) (k t)
def qy.tail {t:mH} {L:Mv}(h:qy (t::L)):qy L:=fun s hs=>h s (bX _ hs)
def Gi:∀{a b:fI},(∀x∈a,0<=x)->(∀x∈b,0<=x)->∀x∈dI a b,0<=x
 | [],b,_,_,x,hx=>by cases b<;>exact absurd hx lD
 | _::_,[],_,_,x,hx=>absurd hx lD
 | u::a,v::b,h,k,x,hx=>by
   rcases iH.1 (show x∈(u+v)::dI a b from hx) with rfl | hx
   . have h1:=h u aV
     have h2:=k v aV;omega
   . exact Gi (fun y hy=>h y (bX _ hy)) (fun y hy=>k y (bX _ hy)) x hx
def qy.mul {L M:Mv}(h:qy L) (k:qy M):qy (mulM L M):=fun t ht=>by
 obtain ⟨a,ha,ht⟩:=tG.1 ht;obtain ⟨b,hb,rfl⟩:=af.1 ht;exact Gi (h a ha) (k b hb)
def qy.scale {L:Mv}(h:qy L) (c:Int):qy (fS c L):=fun t ht=>by
 obtain ⟨x,hx,rfl⟩:=af.1 ht;exact h x hx
noncomputable def iU (n:Nat) (L:Mv):Pn n:=jB n 0 L
section
variable {n : Nat} {L M : Mv}
def oL (h:eW n L) (k:qy L) {p:fI}(hp:p.length=n):cf n (iU n L) p=gh L p:=by
 unfold iU;rw [Qk n 0 L p (fun t ht=>by rw [h t ht];omega) k hp];rfl
section
variable (hL:eW n L) (kL:qy L) (hM:eW n M) (kM:qy M)
include hL kL hM kM
theorem xD (e:jI n L M):iU n L=iU n M:=sk fun p hp=>by rw [oL hL kL hp,oL hM kM hp,e p hp]
theorem Aq (e:iU n L=iU n M):jI n L M:=fun p hp=>by rw [<- oL hL kL hp,<- oL hM kM hp,e]
theorem MJ:iU n (L++M)=iU n L+iU n M:=sk fun p hp=>by
 rw [Tk,oL (hL.append hM) (kL.append kM) hp,oL hL kL hp,oL hM kM hp,ic]
end
def aeJ (hL:eW n L) (kL:qy L):iU n (fS (-1) L)= -iU n L:=sk fun p hp=>by
 rw [acL,oL (hL.scale _) (kL.scale _) hp,oL hL kL hp,uy];omega
def uA (n:Nat):iU n []=0:=sk fun p hp=>by
 rw [oL (fun t ht=>absurd ht lD) (fun t ht=>absurd ht lD) hp,rV];rfl
end
noncomputable def Jx:(n:Nat)->fI->Int->Pn n
 | 0,_,c=>Yp c
 | n+1,e::p,c=>mkK (Poly.mono e.toNat (Jx n p c))
 | _+1,[],_=>0
def zV:∀(n:Nat) (p:fI) (c:Int) (q:fI),p.length=n->q.length=n->(∀x∈p,0<=x)->cf n (Jx n p c) q=if p=q then c else 0
 | 0,p,c,q,hp,hq,_=>by
   rw [lK hp,lK hq,aM rfl];rfl
 | n+1,[],_,_,hp,_,_=>by cases hp
 | n+1,_::_,_,[],_,hq,_=>by cases hq
 | n+1,e::p,c,x::q,hp,hq,h=>by
   have ih:=zV n p c q (by simpa using hp) (by simpa using hq) fun y hy=>h y (bX _ hy);have he:=h e aV;have e1:kids (Jx (n+1) (e::p) c)=Poly.mono e.toNat (Jx n p c):=rfl;rw [kP,e1,Poly.dZ];by_cases hx:0<=x
   . rw [aM hx]
     by_cases Bz:x=e
     . subst Bz
       rw [aM rfl,ih];by_cases Yr:p=q
       . rw [aM Yr,aM (by rw [Yr])]
       . rw [aY Yr,aY (fun h3=>Yr (mF h3).2)]
     . rw [aY (by omega),rV,aY (fun h3=>Bz (mF h3).1.symm)]
   . rw [aY hx,aY (fun h3=>hx (by rw [<-(mF h3).1];exact he))]
def GS:∀(n:Nat) (p q:fI) (c d:Int),p.length=n->q.length=n->(∀x∈p,0<=x)->(∀x∈q,0<=x)->Jx n (dI p q) (c*d)=Jx n p c*Jx n q d
 | 0,_,_,_,_,_,_,_,_=>rfl
 | n+1,[],_,_,_,hp,_,_,_=>by cases hp
 | n+1,_::_,[],_,_,_,hq,_,_=>by cases hq
 | n+1,e::p,x::q,c,d,hp,hq,h,k=>by
   have ih:=GS n p q c d (by simpa using hp) (by simpa using hq) (fun y hy=>h y (bX _ hy)) fun y hy=>k y (bX _ hy);have he:=h e aV;have hx:=k x aV;show mkK (Poly.mono (e+x).toNat (Jx n (dI p q) (c*d)))=mkK (Poly.mono e.toNat (Jx n p c)*Poly.mono x.toNat (Jx n q d));rw [Poly.IW,ih,show (e+x).toNat=e.toNat+x.toNat by omega]
def tq {t:mH}(h:t.1.length=n) (k:∀x∈t.1,0<=x):iU n [t]=Jx n t.1 t.2:=sk fun p hp=>by
 rw [oL (fun s hs=>by rw [dS.1 hs];exact h) (fun s hs=>by rw [dS.1 hs];exact k) hp,zV n t.1 t.2 p h hp k,aj,qF,AP]
section
variable {n : Nat}
def eW.one {t:mH}(h:t.1.length=n):eW n [t]:=fun s hs=>by rw [dS.1 hs];exact h
def qy.one {t:mH}(k:∀x∈t.1,0<=x):qy [t]:=fun s hs=>by rw [dS.1 hs];exact k
def eW.tail {t:mH} {L:Mv}(h:eW n (t::L)):eW n L:=fun s hs=>h s (bX _ hs)
def xF {t:mH} {L:Mv}(h:eW n (t::L)) (k:qy (t::L)):iU n (t::L)=Jx n t.1 t.2+iU n L:=by
 have h1:=h t aV;have k1:=k t aV;have:=MJ (n:=n) (eW.one h1) (qy.one k1) h.tail k.tail;rw [tq h1 k1] at this;exact this
def zU {t:mH}(h1:t.1.length=n) (k1:∀x∈t.1,0<=x):∀{M:Mv},eW n M->qy M->iU n (M.map fun b=>(dI t.1 b.1,t.2*b.2))=Jx n t.1 t.2*iU n M
 | [],_,_=>by
   show iU n []=_;rw [uA,aF.mul_zero]
 | s::M,h,k=>by
   have hs:=h s aV;have ks:=k s aV;have e:((s::M).map fun b=>(dI t.1 b.1,t.2*b.2))=(dI t.1 s.1,t.2*s.2)::M.map fun b=>(dI t.1 b.1,t.2*b.2):=rfl;have hl:eW n ((s::M).map fun b=>(dI t.1 b.1,t.2*b.2)):=fun u hu=>by
    obtain ⟨b,hb,rfl⟩:=af.1 hu;exact kF h1 (h b hb)
   have hk:qy ((s::M).map fun b=>(dI t.1 b.1,t.2*b.2)):=fun u hu=>by
    obtain ⟨b,hb,rfl⟩:=af.1 hu;exact Gi k1 (k b hb)
   rw [e] at hl hk ⊢;rw [xF hl hk,xF h k,aF.mul_add,zU h1 k1 h.tail k.tail];congr 1
   exact GS n t.1 s.1 t.2 s.2 h1 hs k1 ks
def yL:∀{L M:Mv},eW n L->qy L->eW n M->qy M->iU n (mulM L M)=iU n L*iU n M
 | [],M,_,_,_,_=>by
   show iU n []=_;rw [uA,aF.zero_mul]
 | t::L,M,h,k,hM,kM=>by
   have h1:=h t aV;have k1:=k t aV;have e:mulM (t::L) M=(M.map fun b=>(dI t.1 b.1,t.2*b.2))++mulM L M:=vz;have hl:eW n (M.map fun b=>(dI t.1 b.1,t.2*b.2)):=fun u hu=>by
    obtain ⟨b,hb,rfl⟩:=af.1 hu;exact kF h1 (hM b hb)
   have hk:qy (M.map fun b=>(dI t.1 b.1,t.2*b.2)):=fun u hu=>by
    obtain ⟨b,hb,rfl⟩:=af.1 hu;exact Gi k1 (kM b hb)
   rw [e,MJ hl hk (h.tail.mul hM) (k.tail.mul kM),xF h k,aF.add_mul,zU h1 k1 hM kM,yL h.tail k.tail hM kM]
end
noncomputable def iy (n:Nat) (f:Pn n):Mv:=(dW n [] f).reverse
def fU (n:Nat) (f:Pn n):qy (iy n f):=fun t ht=>by
 obtain ⟨e,h1,_,h3,_⟩:=rY (JU.1 ht);rw [h1];exact h3
def bB (n:Nat) (f:Pn n):av n (iy n f):=ML n f
def iF (n:Nat) (f:Pn n):iU n (iy n f)=f:=sk fun p hp=>by rw [oL (bB n f).len (fU n f) hp];exact rX n f p hp
def iK {L:Mv} {f:Pn n}(h:av n L) (k:qy L) (e:iU n L=f):L=iy n f:=
 h.unique (bB n f) (Aq h.len k (bB n f).len (fU n f) (by rw [iF];exact e))
def iV (f:Pn n):Prop:=∀t L,iy n f=t::L->0<t.2
def yR (n:Nat) (f:Pn n):iy n (-f)=(iy n f).map fun t=>(t.1, -t.2):=by
 unfold iy;rw [Gr,Ub]
def jT {f:Pn n}:iy n f=[]↔f=0:=by
 constructor
 . intro h
   rw [<- iF n f,h,uA]
 . intro h
   rw [h];exact (iK (av.nil n) (fun t ht=>absurd ht lD) (uA n)).symm
def iV.eq {n:Nat} {f g:Pn n}(h:iV f) (k:iV g) (e:g=f∨g= -f):g=f:=by
 rcases e with e | e
 . exact e
 . cases hf:iy n f with
   | nil=>
     have h0:=jT.1 hf;rw [e,h0,aF.neg_zero]
   | cons t L=>
     exfalso;have h1:=h t L hf;have h2:=k (t.1, -t.2) (L.map fun t=>(t.1, -t.2)) (by rw [e,yR,hf];rfl);have h3:0< -t.2:=h2;omega
def afb {n:Nat}(f:Pn n):iV f∨(iV (-f)∧∃t L,iy n f=t::L∧t.2<0):=by
 cases hf:iy n f with
 | nil=>exact .inl fun t L e=>by rw [hf] at e;cases e
 | cons t L=>
   have hne:t.2≠0:=(bB n f).ne t (by rw [hf];exact aV);by_cases h:0<t.2
   . exact .inl fun t' L' e=>by
      rw [hf] at e;injection e with e1 _
      rw [<- e1];exact h
   . refine .inr ⟨fun t' L' e=> ?_,t,L,rfl,by omega⟩
     rw [yR,hf] at e;injection e with e1 _
     rw [<- e1];show 0< -t.2;omega
def aaZ (h:a*b=1):a=1∨a= -1:=by
 have h1:a.natAbs*b.natAbs=1:=by rw [<- sw,h];rfl
 have h2:a.natAbs=1:=adq h1;omega
def GR:∀{n:Nat} {a b:Pn n},a*b=1->a=1∨a= -1
 | 0,a,b,h=>aaZ (a:=vM a) (b:=vM b) h
 | n+1,a,b,h=>by
   have h':kids a*kids b=1:=h;have mg:(1:Poly (Pn n))≠0:=Dom.mg;have ha:kids a≠0:=fun e=>mg (by rw [<- h',e,aF.zero_mul]);have hb:kids b≠0:=fun e=>mg (by rw [<- h',e,aF.mul_zero]);have hl:=(Poly.lu ha hb).1;have l1:(1:Poly (Pn n)).len<=1:=Poly.bV fun i hi=>by rw [Poly.uP,aY (by omega)]
   have pa:=Poly.cI ha;have pb:=Poly.cI hb;rw [h'] at hl;have sa:(kids a).Sh 1:=(Poly.ay _).mono (by omega);have sb:(kids b).Sh 1:=(Poly.ay _).mono (by omega);have e0:(kids a).co 0*(kids b).co 0=1:=by
    (have h2:(kids a*kids b).co 0=(1:Poly (Pn n)).co 0:=by rw [h']);rw [Poly.oZ,Poly.uP,aM rfl,aF.ek,aF.kV,aF.zero_add] at h2;exact h2
   rcases GR e0 with h3 | h3
   . left
     refine Poly.ext (a:=kids a) (b:=(1:Poly (Pn n))) fun i=> ?_;rw [Poly.uP];by_cases hi:i=0
     . rw [hi,aM rfl,h3]
     . rw [aY hi,sa i (by omega)]
   . right
     refine Poly.ext (a:=kids a) (b:= -(1:Poly (Pn n))) fun i=> ?_;rw [Poly.zv,Poly.uP];by_cases hi:i=0
     . rw [hi,aM rfl,h3]
     . rw [aY hi,sa i (by omega),aF.neg_zero]
def Qo {f g:Pn n}(h:Dv f g) (k:Dv g f):g=f∨g= -f:=by
 obtain ⟨u,hu⟩:=h;obtain ⟨v,hv⟩:=k;by_cases hf:f=0
 . left
   rw [hu,hf,aF.zero_mul]
 . have h1:f*(u*v)=f*1:=by rw [<- aF.mul_assoc,<- hu,<- hv,aF.mul_one]
   rcases GR (Dom.cancel hf h1) with h2 | h2
   . left;rw [hu,h2,aF.mul_one]
   . right;rw [hu,h2,aF.mul_neg,aF.mul_one]
def nh.pm {g h a b:Pn n}(hg:nh g a b) (hh:nh h a b):h=g∨h= -g:=
 Qo (hh.top g hg.l hg.r) (hg.top h hh.l hh.r)
def nh.one {g h a b:Pn n}(hg:nh g a b) (hh:nh h a b) (pg:iV g) (ph:iV h):h=g:=pg.eq ph (hg.pm hh)
def nh.neg {g a b:Pn n}(hg:nh g a b):nh (-g) a b:=by
 have h1:Dv (-g) g:=⟨-1,by rw [aF.neg_mul,aF.mul_neg,aF.mul_one,aF.neg_neg]⟩;have h2:Dv g (-g):=(Dv.refl g).neg;exact ⟨h1.trans hg.l,h1.trans hg.r,fun d k l=>(hg.top d k l).trans h2⟩
def Bt {g a b:Pn n}(hg:nh g a b):g=0↔a=0∧b=0:=by
 constructor
 . intro h
   rw [h] at hg;exact ⟨Dv.of0 hg.l,Dv.of0 hg.r⟩
 . intro ⟨h1,h2⟩
   have h3:=hg.top 0 (by rw [h1];exact Dv.refl _) (by rw [h2];exact Dv.refl _);exact Dv.of0 h3
def OZ (n:Nat):iU n [(List.replicate n (0:Int),1)]=1:=by
 rw [tq (by simp) (fun x hx=>by rw [vE hx];exact nw _)];have key:∀n:Nat,Jx n (List.replicate n (0:Int)) 1=(1:Pn n):=fun n=>by
  induction n with
  | zero=>rfl
  | succ n ih=>
    show mkK (Poly.mono (Int.toNat 0) (Jx n (List.replicate n (0:Int)) 1))=1;rw [ih];rfl
 exact key n
def Zx (n:Nat):iV (1:Pn n):=fun t L e=>by
 have h:[(List.replicate n (0:Int),(1:Int))]=iy n 1:=iK ⟨eW.one (by simp),xz _ _,fun t ht=>by rw [dS.1 ht];exact Int.one_ne_zero⟩ (qy.one fun x hx=>by rw [vE hx];exact nw _) (OZ n);rw [<- h] at e;injection e with e1 _
 rw [<- e1];show (0:Int)<1;omega
def zG (i:Nat) (L:Mv):Mv:=L.map fun t=>(List.replicate i 0++t.1,t.2)
section
variable {i m : Nat} {A B : Mv}
def Rm (i:Nat) (A B:Mv):zG i (A++B)=zG i A++zG i B:=ij
def sG (L:Mv):zG 0 L=L:=by
 unfold zG;rw [show (fun t:mH=>(List.replicate 0 0++t.1,t.2))=id from rfl,List.map_id]
def aeC (h:eW m A):eW (i+m) (zG i A):=fun t ht=>by
 obtain ⟨s,hs,rfl⟩:=af.1 ht;rw [eC,fQ,h s hs]
def K7:∀(i:Nat) {a b:fI},ir a b->ir (List.replicate i 0++a) (List.replicate i 0++b)
 | 0,_,_,h=>h
 | i+1,_,_,h=> .inr ⟨rfl,K7 i h⟩
def Wz (h:av m A):av (i+m) (zG i A):=⟨aeC h.len,mG.2 (h.ord.imp fun h=>K7 i h),fun t ht=>by
 obtain ⟨s,hs,rfl⟩:=af.1 ht;exact h.ne s hs⟩
def Wy (c:Int):zG i (fS c A)=fS c (zG i A):=by
 unfold zG fS;rw [jl,jl];rfl
def JN:∀(i:Nat) (a b:fI),dI (List.replicate i 0++a) (List.replicate i 0++b)=List.replicate i 0++dI a b
 | 0,_,_=>rfl
 | i+1,a,b=>by
   show (0+0)::dI (List.replicate i 0++a) (List.replicate i 0++b)=0::_;rw [JN i];rfl
def VB:zG i (mulM A B)=mulM (zG i A) (zG i B):=by
 unfold zG mulM;rw [List.map_flatMap,List.flatMap_map];congr 1
 funext a
 rw [jl,jl];refine E6 fun b _=> ?_;show (List.replicate i 0++dI a.1 b.1,_)=(dI (List.replicate i 0++a.1) (List.replicate i 0++b.1),_);rw [JN]
def uz (q:fI):∀A:Mv,gh (zG i A) (List.replicate i 0++q)=gh A q
 | []=>rfl
 | t::A=>by
   show gh ((List.replicate i 0++t.1,t.2)::zG i A) _=_;rw [aj,aj,uz q A];simp only [List.append_cancel_left_eq]
def sD {p:fI}(h:∀q:fI,p≠List.replicate i 0++q):∀A:Mv,gh (zG i A) p=0
 | []=>rfl
 | t::A=>by
   show gh ((List.replicate i 0++t.1,t.2)::zG i A) _=_;rw [aj,sD h A,aY (fun e=>h _ e.symm)];rfl
def ZM (h:jI m A B):jI (i+m) (zG i A) (zG i B):=fun p hp=>by
 by_cases hq:∃q:fI,p=List.replicate i 0++q
 . obtain ⟨q,rfl⟩:=hq
   rw [uz,uz];refine h q ?_;rw [eC,fQ] at hp;omega
 . have h2:∀q:fI,p≠List.replicate i 0++q:=fun q e=>hq ⟨q,e⟩
   rw [sD h2,sD h2]
end
noncomputable def gj (i m:Nat) (f:Pn m):Mv:=zG i (iy m f)
section
variable {i m : Nat} {L : Mv} {f g : Pn m}
def lV (i:Nat) (f:Pn m):av (i+m) (gj i m f):=Wz (bB m f)
section
variable (h:av (i+m) L)
include h
theorem MT {A:Mv}(hA:eW m A) (kA:qy A) (e:jI (i+m) L (zG i A)):L=gj i m (iU m A):=by
 refine h.unique (lV i _) (e.trans (ZM ?_));exact Aq hA kA (bB m _).len (fU m _) (by rw [iF])
theorem Zc (e:jI (i+m) L (mulM (gj i m f) (gj i m g))):L=gj i m (f*g):=by
 have hf:=bB m f;have hg:=bB m g;have e1:jI (i+m) L (zG i (mulM (iy m f) (iy m g))):=by rw [VB];exact e
 rw [MT h (hf.len.mul hg.len) ((fU m f).mul (fU m g)) e1,yL hf.len (fU m f) hg.len (fU m g),iF,iF]
theorem Zf (e:jI (i+m) L (gj i m f++gj i m g)):L=gj i m (f+g):=by
 have hf:=bB m f;have hg:=bB m g;have e1:jI (i+m) L (zG i (iy m f++iy m g)):=by rw [Rm];exact e
 rw [MT h (hf.len.append hg.len) ((fU m f).append (fU m g)) e1,MJ hf.len (fU m f) hg.len (fU m g),iF,iF]
theorem Ot (e:jI (i+m) L (fS (-1) (gj i m f))):L=gj i m (-f):=by
 have hf:=bB m f;have e1:jI (i+m) L (zG i (fS (-1) (iy m f))):=by rw [Wy];exact e
 rw [MT h (hf.len.scale _) ((fU m f).scale _) e1,aeJ hf.len (fU m f),iF]
end
def xH:gj i m f=[]↔f=0:=by
 unfold gj zG;rw [List.map_eq_nil_iff];exact jT
end
def xg (i:Nat) (k:Int) (L:Mv):Mv:=(L.filter fun t=>nth t.1 i==k).map fun t=>(t.1.set i 0,t.2)
def EB (i:Nat) (k:Int) (L:Mv):Mv:=L.map fun t=>(t.1.set i (nth t.1 i+k),t.2)
section
variable {n i m : Nat}
def Oj {a p:fI} {k:Int}(ha:a.length=p.length) (hi:i<p.length) (hk:nth a i=k) (hp:nth p i=0):a.set i 0=p↔a=p.set i k:=by
 constructor
 . intro e
   refine kW (by rw [fW];exact ha) fun j hj=> ?_;rw [gK hi];by_cases e2:j=i
   . rw [aM e2,e2];exact hk
   . rw [aY e2,<- e,gK (by omega),aY e2]
 . intro e
   refine kW (by rw [fW];exact ha) fun j hj=> ?_;rw [gK (by omega)];by_cases e2:j=i
   . rw [aM e2,e2];exact hp.symm
   . rw [aY e2,e,gK hi,aY e2]
def acI {k:Int} {p:fI}(hp:p.length=n) (hi:i<n) (h0:nth p i=0):∀{L:Mv},eW n L->gh (xg i k L) p=gh L (p.set i k)
 | [],_=>rfl
 | t::L,h=>by
   have ih:=acI hp hi h0 (L:=L) (k:=k) fun s hs=>h s (bX _ hs);have hl:=h t aV;by_cases e:nth t.1 i=k
   . have e1:xg i k (t::L)=(t.1.set i 0,t.2)::xg i k L:=by
      unfold xg;rw [xx (by simpa using e)];rfl
     rw [e1,aj,aj,ih];simp only [Oj (by omega:t.1.length=p.length) (by omega:i<p.length) e h0]
   . have e1:xg i k (t::L)=xg i k L:=by
      unfold xg;rw [vw (by simpa using e)]
     rw [e1,aj,ih,aY (fun e2=>e (by rw [e2,gK (by omega),aM rfl])),FD]
def amL {k:Int} {p:fI}(hi:i<n) (h0:nth p i≠0):∀{L:Mv},eW n L->gh (xg i k L) p=0:=fun {L} h=>by
 have key:∀M:Mv,(∀t∈M,nth t.1 i=0)->gh M p=0:=fun M=>by
  induction M with
  | nil=>intro _;rfl
  | cons t M ih=>
    intro h;rw [aj,ih fun s hs=>h s (bX _ hs),aY (fun e=>h0 (by rw [<- e];exact h t aV))];rfl
 refine key _ fun t ht=> ?_;obtain ⟨s,hs,rfl⟩:=af.1 ht;have hl:=h s (Ew.1 hs).1;show nth (s.1.set i 0) i=0;rw [gK (by omega),aM rfl]
def ua (i:Nat) (q:fI):List.replicate (i+1) (0:Int)++q=List.replicate i 0++0::q:=by
 rw [adz,vD];rfl
def yU (i:Nat) (x:Int) (q:fI):nth (List.replicate i 0++x::q) i=x:=by
 rw [fV (by simp)];simp
def D8 (i:Nat) (x y:Int) (q:fI):(List.replicate i 0++x::q).set i y=List.replicate i 0++y::q:=by
 rw [List.set_append];simp
def Ze {f:Pn (m+1)}(k:Nat):jI (i+(m+1)) (xg i k (gj i (m+1) f)) (gj (i+1) m ((kids f).co k)):=fun p hp=>by
 have hL:eW (i+(m+1)) (gj i (m+1) f):=(lV i f).len;by_cases h0:nth p i=0
 . rw [acI hp (by omega) h0 hL]
   by_cases hq:∃q:fI,p=List.replicate (i+1) 0++q
   . obtain ⟨q,rfl⟩:=hq
     have hql:q.length=m:=by
      rw [eC,fQ] at hp;omega
     rw [ua,D8,<- ua];unfold gj;rw [uz,uz];have e1:=rX (m+1) f ((k:Int)::q) (by rw [rL,hql]);have e2:=rX m ((kids f).co k) q hql;rw [kP,aM (by omega),jc] at e1;exact e1.trans e2.symm
   . have h2:∀q:fI,p≠List.replicate (i+1) 0++q:=fun q e=>hq ⟨q,e⟩
     have h3:∀q:fI,p.set i k≠List.replicate i 0++q:=fun q e=>by
      have hl:=dh List.length e;rw [fW,eC,fQ] at hl;match q,hl with
      | [],hl=>rw [List.length_nil] at hl;omega
      | x::q,_=>
        refine h2 q ?_;have e3:(p.set i k).set i 0=p:=by
         rw [List.set_set];refine kW (by rw [fW]) fun j hj=> ?_;rw [fW] at hj;rw [gK (by omega)];by_cases e4:j=i
         . rw [aM e4,e4,h0]
         . rw [aY e4]
        rw [<- e3,e,D8,ua]
     unfold gj;rw [sD h2,sD h3]
 . rw [amL (by omega) h0 hL]
   refine (sD (fun q e=>h0 ?_) _).symm;rw [e,ua,yU]
def Zv (k:Nat) (c:Pn m):EB i k (gj (i+1) m c)=zG i ((iy m c).map fun t=>((k:Int)::t.1,t.2)):=by
 unfold EB gj zG;rw [jl,jl];refine E6 fun t _=> ?_;show (List.set (List.replicate (i+1) 0++t.1) i (nth (List.replicate (i+1) 0++t.1) i+k),t.2)=(List.replicate i 0++((k:Int)::t.1),t.2);rw [ua,yU,D8,FD]
def SG (k:Nat) (c:Pn m):av (m+1) ((iy m c).map fun t=>((k:Int)::t.1,t.2)):=by
 have hc:=bB m c;refine ⟨fun t ht=> ?_,mG.2 (hc.ord.imp fun h=> .inr ⟨rfl,h⟩),fun t ht=> ?_⟩
 . obtain ⟨s,hs,rfl⟩:=af.1 ht
   rw [rL,hc.len s hs]
 . obtain ⟨s,hs,rfl⟩:=af.1 ht
   exact hc.ne s hs
def Oq (k:Nat) (c:Pn m):EB i k (gj (i+1) m c)=gj i (m+1) (mkK (Poly.mono k c)):=by
 have hp:=SG k c;have hn:qy ((iy m c).map fun t=>((k:Int)::t.1,t.2)):=fun t ht x hx=>by
  obtain ⟨s,hs,rfl⟩:=af.1 ht;rcases iH.1 hx with e | e
  . rw [e];omega
  . exact fU m c s hs x e
 rw [Zv];unfold gj;rw [iK hp hn (f:=mkK (Poly.mono k c)) (sk fun p qm=> ?_)];rw [oL hp.len hn qm];match p,qm with
 | e::q,qm=>
   have hq:q.length=m:=by rw [rL] at qm;omega
   have key:∀M:Mv,gh (M.map fun t=>((k:Int)::t.1,t.2)) (e::q)=if e=k then gh M q else 0:=fun M=>by
    induction M with
    | nil=>show (0:Int)=_;split<;>rfl
    | cons t M ih=>
      rw [uK,aj,aj,ih];simp only [UU];by_cases h:e=k
      . simp only [h,true_and,tH]
      . simp only [h,AO,show¬(k:Int)=e from fun x=>h x.symm,false_and]
        rfl
   rw [key,kP,uE,Poly.dZ];have e2:=rX m c q hq;by_cases h:e=k
   . rw [aM h,aM (by omega),aM (by omega)]
     exact e2
   . rw [aY h]
     by_cases h2:0<=e
     . rw [aM h2,aY (by omega),rV]
     . rw [aY h2]
def dgI (i:Nat) (L:Mv):Int:=L.foldl (fun d t=>max d (nth t.1 i)) (-1)
def acy (L:Mv) (t:mH):dgI i (L++[t])=max (dgI i L) (nth t.1 i):=List.foldl_append
def QU (i:Nat):∀(L:Mv) (a d:Int),a<=d->(∀t∈L,nth t.1 i<=d)->(a=d∨∃t∈L,nth t.1 i=d)->L.foldl (fun d t=>max d (nth t.1 i)) a=d
 | [],a,d,_,_,h=>by
   rcases h with h | ⟨t,ht,_⟩
   . exact h
   . cases ht
 | t::L,a,d,h1,h2,h3=>by
   have ht:=h2 t aV;refine QU i L _ d (by show max a _<=d;omega) (fun s hs=>h2 s (bX _ hs)) ?_;rcases h3 with h3 | ⟨s,hs,e⟩
   . left;show max a _=d;omega
   . rcases iH.1 hs with e2 | hs
     . left;rw [e2] at e;show max a _=d;omega
     . exact .inr ⟨s,hs,e⟩
def agY {L:Mv} {p:fI}(h:gh L p≠0):∃t∈L,t.1=p:=by
 refine kQ fun hn=>h ?_;have key:∀M:Mv,(∀t∈M,t.1≠p)->gh M p=0:=fun M=>by
  induction M with
  | nil=>intro _;rfl
  | cons t M ih=>
    intro h;rw [aj,ih fun s hs=>h s (bX _ hs),aY (h t aV)];rfl
 exact key L fun t ht e=>hn ⟨t,ht,e⟩
def ahb:∀{m:Nat} {f:Pn m},f≠0->∃q:fI,q.length=m∧cf m f q≠0:=fun {m f} h=>by
 refine kQ fun hn=>h (sk fun p hp=> ?_);rw [rV];exact kQ fun e=>hn ⟨p,hp,e⟩
def Zd (i:Nat) (f:Pn (m+1)):dgI i (gj i (m+1) f)=((kids f).len:Int)-1:=by
 have hp:=bB (m+1) f;have hlt:∀t∈gj i (m+1) f,nth t.1 i<=((kids f).len:Int)-1:=fun t ht=>by
  obtain ⟨s,hs,rfl⟩:=af.1 ht;have hl:=hp.len s hs;have hc:=hp.JE s hs;have hne:=hp.ne s hs;have e1:=rX (m+1) f s.1 hl;match s,hl,hc,hne,e1 with
  | (e::q,z),hl,hc,hne,e1=>
    show nth (List.replicate i 0++e::q) i<=_;rw [yU];have hz:cf (m+1) f (e::q)≠0:=by
     rw [<- e1];show gh (iy (m+1) f) (e::q)≠0;rw [hc];exact hne
    rw [kP] at hz;refine kQ fun hb=>hz ?_;by_cases h2:0<=e
    . rw [aM h2,Poly.ay (kids f) e.toNat (by omega),rV]
    . rw [aY h2]
 by_cases h0:(kids f).len=0
 . have hf:f=0:=jC.1 h0
   rw [h0,xH.2 hf];rfl
 . have hlc:(kids f).co ((kids f).len-1)≠0:=Poly.ve (show 0<(kids f).len by omega)
   obtain ⟨q,hq,hne⟩:=ahb hlc;refine QU i _ _ _ (by omega) hlt (.inr ?_);have e1:=rX (m+1) f ((((kids f).len-1:Nat):Int)::q) (by rw [rL,hq]);rw [kP,aM (by omega),jc] at e1;obtain ⟨t,ht,e2⟩:=agY (L:=iy (m+1) f) (by show gh (iy (m+1) f) _≠0;unfold iy;rw [e1];exact hne);refine ⟨_,af.2 ⟨t,ht,rfl⟩,?_⟩;show nth (List.replicate i 0++t.1) i=_;rw [e2,yU];omega
end
def FO:∀(L:List ax) (k:Nat),(aS L).take (k*3)=aS (L.take k)
 | [],k=>by simp [aS]
 | x::L,0=>by simp [aS]
 | x::L,k+1=>by
   rw [List.take_succ_cons,gC,gC,<- FO L k];rw [List.take_append,show (kU x).length=3 from rfl,iC (by show (3:Nat)<=_;omega),show (k+1)*3-3=k*3 by omega]
def FP:∀(L:List ax) (k:Nat),(aS L).drop (k*3)=aS (L.drop k)
 | [],k=>by simp [aS]
 | x::L,0=>by simp [aS]
 | x::L,k+1=>by
   rw [List.drop_succ_cons,gC,<- FP L k];rw [List.drop_append,show (kU x).length=3 from rfl,List.drop_of_length_le (by show (3:Nat)<=_;omega),show (k+1)*3-3=k*3 by omega,og]
def IB (x:ax) (s:Bool) (A:Option Addr) (c:Nat) (ls:List Int):ax:=(((A,c),x.1.2),((s,ls),x.2.2))
def Gu:∀(L:List ax) (k:Nat) (h:k<L.length) (s:Bool) (A:Option Addr) (c:Nat) (ls:List Int),((aS L).set (3*k) (.bool s)).set (3*k+1) (.slice A ls.length c)=aS (L.set k (IB L[k] s A c ls))
 | x::L,0,_,s,A,c,ls=>by rw [acY,gC,gC];rfl
 | x::L,k+1,h,s,A,c,ls=>by
   rw [Jj,gC,gC,WU _ _ (by show (3:Nat)<=_;omega),WU _ _ (by show (3:Nat)<=_;omega),show 3*(k+1)-(kU x).length=3*k from by show 3*(k+1)-3=_;omega,show 3*(k+1)+1-(kU x).length=3*k+1 from by show 3*(k+1)+1-3=_;omega,Gu L k (FI h) s A c ls];rfl
section
variable {E : List ax} {n k : Nat}
def yG (E:List ax):Prop:=E.Pairwise fun x y=>ir y.2.2 x.2.2
def yG.put (h:yG E) (hk:k<E.length) (s:Bool) (A:Option Addr) (c:Nat) (ls:List Int):yG (E.set k (IB E[k] s A c ls)):=by
 unfold yG at h ⊢;have e:(E.set k (IB E[k] s A c ls)).map (fun x=>x.2.2)=E.map (fun x=>x.2.2):=by
  rw [Jf];refine anb (by simp) fun i h1 h2=> ?_;rw [List.getElem_set];split
  . rename_i e;subst e;simp [IB]
  . simp
 have h2:(E.map (fun x:ax=>x.2.2)).Pairwise (fun p q=>ir q p):=mG.2 h;rw [<- e] at h2;exact mG.1 h2
def yG.insert (h:yG E) {x:ax}(h1:∀j (hj:j<E.length),j<k->ir x.2.2 (E[j]).2.2) (h2:∀(hk:k<E.length),ir (E[k]).2.2 x.2.2):yG (E.take k++x::E.drop k):=by
 unfold yG at h ⊢;have hd:∀y∈E.drop k,ir y.2.2 x.2.2:=fun y hy=>by
  obtain ⟨i,hi,rfl⟩:=uR.1 hy;rw [xw] at hi;rw [List.getElem_drop];rcases jM i with rfl | h0
  . exact h2 (by omega)
  . exact ir.trans (adt.1 h k (k+i) (by omega) (by omega) (by omega)) (h2 (by omega))
 have ht:∀y∈E.take k,ir x.2.2 y.2.2:=fun y hy=>by
  obtain ⟨i,hi,rfl⟩:=uR.1 hy;rw [cQ] at hi;rw [List.getElem_take];exact h1 i (by omega) (by omega)
 rw [Ez,gQ];have h3:=h;rw [<- DR k E,Ez] at h3;refine ⟨h3.1,⟨hd,h3.2.1⟩,fun a ha b hb=> ?_⟩;rcases iH.1 hb with rfl | hb
 . exact ht a ha
 . exact h3.2.2 a ha b hb
def insert_eq {x:ax} {M:Mv}(h:jI n (aP (E.map (·.2))) M):jI n (aP ((E.take k++x::E.drop k).map (·.2))) (M++[bS x.2]):=by
 have h1:(aP ((E.take k++x::E.drop k).map (·.2))).Perm (bS x.2::aP (E.map (·.2))):=by
  have h2:(E.take k++x::E.drop k).Perm (x::E):=by
   have:=List.perm_middle (a:=x) (l₁:=E.take k) (l₂:=E.drop k);rwa [DR] at this
  exact (h2.map (·.2)).map bS
 refine (jI.perm h1).trans fun p hp=> ?_;rw [aj,h p hp,ic,aj,qF];omega
def WO:∀{E:List ax} {k:Nat}(hk:k<E.length) {s:Bool} {A:Option Addr} {c:Nat} {ls:List Int} {z:Int}(_:aI s ls=aI (E[k]).2.1.1 (E[k]).2.1.2+z) (p:fI),gh (aP ((E.set k (IB E[k] s A c ls)).map (·.2))) p=gh (aP (E.map (·.2))) p+if (E[k]).2.2=p then z else 0
 | x::E,0,_,s,A,c,ls,z,h,p=>by
   show gh ((x.2.2,aI s ls)::aP (E.map (·.2))) p=gh ((x.2.2,aI x.2.1.1 x.2.1.2)::aP (E.map (·.2))) p+if x.2.2=p then z else 0
   have h':aI s ls=aI x.2.1.1 x.2.1.2+z:=h;rw [aj,aj];show (if x.2.2=p then aI s ls else 0)+_=(if x.2.2=p then aI x.2.1.1 x.2.1.2 else 0)+_+_;split<;>omega
 | x::E,k+1,hk,s,A,c,ls,z,h,p=>by
   have Gc:k<E.length:=FI hk;have ih:=WO (E:=E) (k:=k) Gc (A:=A) (c:=c) h p;show gh (bS x.2::aP ((E.set k (IB E[k] s A c ls)).map (·.2))) p=gh (bS x.2::aP (E.map (·.2))) p+if (E[k]).2.2=p then z else 0
   rw [aj,aj,ih];omega
def put_eq {M:Mv}(h:jI n (aP (E.map (·.2))) M) (hk:k<E.length) {s:Bool} {A:Option Addr} {c:Nat} {ls:List Int} {t:mH}(hp:(E[k]).2.2=t.1) (hz:aI s ls=aI (E[k]).2.1.1 (E[k]).2.1.2+t.2):jI n (aP ((E.set k (IB E[k] s A c ls)).map (·.2))) (M++[t]):=fun p Gb=>by
 rw [WO hk hz,h p Gb,ic,aj,qF,hp];omega
def iu (E:List ax):List ax:=E.filter fun x=>aI x.2.1.1 x.2.1.2 !=0
def YR {E:List ax} {j:Nat}(hj:j<E.length) (h:aI (E[j]).2.1.1 (E[j]).2.1.2≠0):iu (E.take (j+1))=iu (E.take j)++[E[j]]:=by
 unfold iu;rw [kG hj,Np,xx (by simpa using h)];rfl
def ack {E:List ax} {j:Nat}(hj:j<E.length) (h:aI (E[j]).2.1.1 (E[j]).2.1.2=0):iu (E.take (j+1))=iu (E.take j):=by
 unfold iu;rw [kG hj,Np,vw (by simp [h])];simp
def r9 {E:List ax} {x:ax}(h:x∈iu E):x∈E∧aI x.2.1.1 x.2.1.2≠0:=by
 obtain ⟨h1,h2⟩:=Ew.1 h;exact ⟨h1,by simpa using h2⟩
def acm (E:List ax):(iu E).length<=E.length:=Nr _ _
def QT (n:Nat):∀E:List ax,jI n (aP ((iu E).map (·.2))) (aP (E.map (·.2)))
 | [],p,_=>rfl
 | x::E,p,hp=>by
   have ih:=QT n E p hp;show _=gh (bS x.2::aP (E.map (·.2))) p;rw [aj,<- ih];by_cases h:aI x.2.1.1 x.2.1.2=0
   . rw [show iu (x::E)=iu E from vw (by simp [h])]
     show _=(if x.2.2=p then aI x.2.1.1 x.2.1.2 else 0)+_;rw [h];split<;>omega
   . rw [show iu (x::E)=x::iu E from xx (by simpa using h)]
     show gh (bS x.2::aP ((iu E).map (·.2))) p=_;rw [aj]
def TS (h:yG E) (hl:∀x∈E,x.2.2.length=n) (hz:∀x∈E,dN x.2.1.1 x.2.1.2 (aI x.2.1.1 x.2.1.2)):eH n ((iu E).map (·.2)):=by
 refine ⟨⟨fun t ht=> ?_,?_,fun t ht=> ?_⟩,fun t ht=> ?_⟩
 . obtain ⟨u,hu,rfl⟩:=af.1 ht
   obtain ⟨x,hx,rfl⟩:=af.1 hu;exact hl x (r9 hx).1
 . unfold aP
   rw [jl,mG];exact h.sublist List.filter_sublist
 . obtain ⟨u,hu,rfl⟩:=af.1 ht
   obtain ⟨x,hx,rfl⟩:=af.1 hu;exact (r9 hx).2
 . obtain ⟨x,hx,rfl⟩:=af.1 ht
   exact hz x (r9 hx).1
def acn (h:yG E) (hl:∀x∈E,x.2.2.length=n) {M:Mv}(e:jI n (aP (E.map (·.2))) M):∀x∈E,(aI x.2.1.1 x.2.1.2).natAbs<=bJ M:=fun x hx=>by
 have hd:((aP (E.map (·.2))).map (·.1)).Pairwise (· ≠ ·):=by
  unfold aP;rw [jl,jl,mG];refine List.Pairwise.imp ?_ (show List.Pairwise (fun x y:ax=>ir y.2.2 x.2.2) E from h);intro a b EZ e;have e:a.2.2=b.2.2:=e;rw [<- e] at EZ;exact ir.irrefl _ EZ
 have h1:=mV hd (bS x.2) (af.2 ⟨x.2,af.2 ⟨x,hx,rfl⟩,rfl⟩);have h2:gh (aP (E.map (·.2))) x.2.2=aI x.2.1.1 x.2.1.2:=h1;rw [<- h2,e x.2.2 (hl x hx)];exact NY M _
def Yd (M:Mv) (i:Nat):bJ (M.take i)<=bJ M:=by
 have h:bJ M=bJ (M.take i)+bJ (M.drop i):=by rw [<- qu,DR]
 omega
end
def aD.zz (h:aD w A n xs) {a b:Value}(hp:w.cell? p=some u) (hq:w.cell? q=some v) (hu:∀i,u≠ .int .u64 i) (hv:∀i,v≠ .int .u64 i):aD ((w.setCell p a).setCell q b) A n xs:=by
 refine ⟨h.len,fun hm=> ?_,h.ok⟩;obtain ⟨bb,o,e,hb,hc⟩:=h.at_ hm;refine ⟨bb,o,e,by simpa using hb,fun i hi=> ?_⟩;have:=hc i hi;rw [jk _ _ _ _ (fun e=> ?_),jk _ _ _ _ (fun e=> ?_)]
 . exact this
 . rw [<- e,hp] at this;injection this with this;exact hu _ this
 . rw [<- e,hq] at this;injection this with this;exact hv _ this
def Ints.zz (h:Ints w A n xs) {a b:Value}(hp:w.cell? p=some u) (hq:w.cell? q=some v) (hu:∀i,u≠ .int .i64 i) (hv:∀i,v≠ .int .i64 i):Ints ((w.setCell p a).setCell q b) A n xs:=by
 refine ⟨h.len,fun hm=> ?_,h.ok⟩;obtain ⟨bb,o,e,hb,hc⟩:=h.at_ hm;refine ⟨bb,o,e,by simpa using hb,fun i hi=> ?_⟩;have:=hc i hi;rw [jk _ _ _ _ (fun e=> ?_),jk _ _ _ _ (fun e=> ?_)]
 . exact this
 . rw [<- e,hp] at this;injection this with this;exact hu _ this
 . rw [<- e,hq] at this;injection this with this;exact hv _ this
def gV.zz {x:ax}(h:gV w x) {s:Bool} {c:Nat}(a b:Value) (hp:w.cell? p=some (.bool s)) (hq:w.cell? q=some (.slice A m c)):gV ((w.setCell p a).setCell q b) x:=
 ⟨h.1,h.2.1,h.2.2.1,h.2.2.2.1,h.2.2.2.2.1.zz hp hq (fun _ e=>by cases e) (fun _ e=>by cases e),h.2.2.2.2.2.zz hp hq (fun _ e=>by cases e) (fun _ e=>by cases e)⟩
def vP {E:List ax}(hE:E.length=n)
 (h:0<n->∃b o,A=some ⟨b,o,none⟩∧b<w.heap.size∧∀i (h:i<E.length),w.cell? ⟨b,o+3*i,none⟩=some (.bool (E[i]).2.1.1)∧w.cell? ⟨b,o+(3*i+1),none⟩=some (.slice (E[i]).1.1.1 (E[i]).2.1.2.length (E[i]).1.1.2)∧w.cell? ⟨b,o+(3*i+2),none⟩=some (.slice (E[i]).1.2.1 (E[i]).2.2.length (E[i]).1.2.2)):
 Reads w w.heap.size 3 A n (aS E):=by
 refine ⟨by rw [nJ,hE],fun hn=> ?_⟩;obtain ⟨b,o,rfl,hb,hc⟩:=h hn;refine ⟨_,rfl,hb,fun j u hu=> ?_⟩;rw [j5];have hj:j<(aS E).length:=(F3.1 hu).1;rw [nJ] at hj;have h3:j % 3<3:=jy _ (by omega);have hd:=su j 3;have hi:j / 3<E.length:=by omega
 obtain ⟨g0,g1,g2⟩:=jL hi;obtain ⟨c0,c1,c2⟩:=hc (j / 3) hi;rcases (by omega:j % 3=0∨j % 3=1∨j % 3=2) with e | e | e
 . rw [show j=3*(j / 3) by omega] at hu ⊢
   rw [g0] at hu;rw [<- hu];exact c0
 . rw [show j=3*(j / 3)+1 by omega] at hu ⊢
   rw [g1] at hu;rw [<- hu];exact c1
 . rw [show j=3*(j / 3)+2 by omega] at hu ⊢
   rw [g2] at hu;rw [<- hu];exact c2
def Rz {cap:Nat} {E:List ax}(h:w.ownsRow base t 3 (.slice A n cap) n (aS E)) (hE:E.length=n):Reads w w.heap.size 3 A n (aS E):=
 vP hE fun h0=>by
  obtain ⟨g,cap',hv,hg,hl⟩:=h.form h0;injection hv with wN _ Mz
  subst wN Mz;refine ⟨g,0,rfl,(h.lt g rfl).2,fun i hi=> ?_⟩;obtain ⟨t0,t1,t2⟩:=jL hi;have c0:=h.cells (g:=g) rfl (3*i) _ t0;have c1:=h.cells (g:=g) rfl (3*i+1) _ t1;have c2:=h.cells (g:=g) rfl (3*i+2) _ t2;rw [j5] at c0 c1 c2;exact ⟨c0,c1,c2⟩
def xR (s:fI) (z:Int) (T:Mv):mulM [(s,z)] T=T.map fun t=>(dI s t.1,z*t.2):=by
 unfold mulM;simp
def Yc {a b:fI} (ha:j<a.length) (hb:j<b.length):(dI a b).take (j+1)=(dI a b).take j++[nth a j+nth b j]:=by
 have hl:j<(dI a b).length:=by unfold dI;rw [adp];omega
 have e:(dI a b)[j]=a[j]+b[j]:=ado;rw [kG hl,fV ha,fV hb,e]
def Kq (t:mH) (ht:t.1.length=n):∀N:Mv,av n N->∃N',av n N'∧jI n N' (t::N)∧bJ N'<=bJ (t::N)∧∀u∈N',u.1=t.1∨∃s∈N,s.1=u.1
 | [],_=>by
   by_cases h0:t.2=0
   . exact ⟨[],av.nil n,fun q _=>by rw [aj,h0];simp,bL _,fun u hu=>by cases hu⟩
   . exact ⟨[t],⟨fun u hu=>by rw [dS.1 hu];exact ht,xz _ _,fun u hu=>by rw [dS.1 hu];exact h0⟩,jI.refl _ _,aL,fun u hu=> .inl (by rw [dS.1 hu])⟩
 | s::L,h=>by
   have hs:=h.len s aV;obtain ⟨o1,o2⟩:=gQ.1 h.ord;have ab:∀(a:mH) (X:Mv),bJ (a::X)=a.2.natAbs+bJ X:=fun _ _=>rfl;rcases ir.tri (a:=s.1) (b:=t.1) (hs.trans ht.symm) with h1 | h1 | h1
   . by_cases h0:t.2=0
     . exact ⟨s::L,h,fun q _=>by rw [aj t,h0];simp,by rw [ab t];omega,fun u hu=> .inr ⟨u,hu,rfl⟩⟩
     . refine ⟨t::s::L,⟨fun u hu=> ?_,gQ.2 ⟨fun u hu=> ?_,h.ord⟩,fun u hu=> ?_⟩,jI.refl _ _,aL,fun u hu=> ?_⟩
       . rcases iH.1 hu with rfl | hu
         . exact ht
         . exact h.len u hu
       . rcases iH.1 hu with rfl | hu
         . exact h1
         . exact ir.trans (o1 u hu) h1
       . rcases iH.1 hu with rfl | hu
         . exact h0
         . exact h.ne u hu
       . rcases iH.1 hu with rfl | hu
         . exact .inl rfl
         . exact .inr ⟨u,hu,rfl⟩
   . by_cases h0:s.2+t.2=0
     . refine ⟨L,h.tail,fun q _=> ?_,by rw [ab t,ab s];omega,fun u hu=> .inr ⟨u,bX _ hu,rfl⟩⟩
       rw [aj,aj,h1];split<;>omega
     . refine ⟨(s.1,s.2+t.2)::L,⟨fun u hu=> ?_,gQ.2 ⟨o1,o2⟩,fun u hu=> ?_⟩,fun q _=> ?_,?_,fun u hu=> ?_⟩
       . rcases iH.1 hu with rfl | hu
         . exact hs
         . exact h.len u (bX _ hu)
       . rcases iH.1 hu with rfl | hu
         . exact h0
         . exact h.ne u (bX _ hu)
       . rw [aj,aj,aj,h1]
         split<;>omega
       . rw [ab t,ab s,ab]
         have:=Int.natAbs_add_le s.2 t.2;show (s.2+t.2).natAbs+_<=_;omega
       . rcases iH.1 hu with rfl | hu
         . exact .inl h1
         . exact .inr ⟨u,bX _ hu,rfl⟩
   . obtain ⟨N',k1,k2,k3,k4⟩:=Kq t ht L h.tail
     refine ⟨s::N',⟨fun u hu=> ?_,gQ.2 ⟨fun u hu=> ?_,k1.ord⟩,fun u hu=> ?_⟩,fun q hq=> ?_,?_,fun u hu=> ?_⟩
     . rcases iH.1 hu with rfl | hu
       . exact hs
       . exact k1.len u hu
     . rcases k4 u hu with e | ⟨v,hv,e⟩
       . rw [e];exact h1
       . rw [<- e];exact o1 v hv
     . rcases iH.1 hu with rfl | hu
       . exact h.ne _ aV
       . exact k1.ne u hu
     . rw [aj,k2 q hq,aj,aj,aj];omega
     . rw [ab,ab t,ab s]
       rw [ab t] at k3;omega
     . rcases iH.1 hu with rfl | hu
       . exact .inr ⟨_,aV,rfl⟩
       . rcases k4 u hu with e | ⟨v,hv,e⟩
         . exact .inl e
         . exact .inr ⟨v,bX _ hv,e⟩
def O8:∀X:Mv,eW n X->∃N,av n N∧jI n N X∧bJ N<=bJ X
 | [],_=>⟨[],av.nil n,jI.refl _ _,aL⟩
 | t::X,h=>by
   obtain ⟨N,h1,h2,h3⟩:=O8 X fun u hu=>h u (bX _ hu);obtain ⟨N',k1,k2,k3,_⟩:=Kq t (h t aV) N h1;refine ⟨N',k1,fun q hq=>by rw [k2 q hq,aj,aj,h2 q hq],?_⟩;have e1:bJ (t::N)=t.2.natAbs+bJ N:=rfl;have e2:bJ (t::X)=t.2.natAbs+bJ X:=rfl;omega
def av.Tv {N X:Mv}(h:av n N) (e:jI n N X) (hX:eW n X):bJ N<=bJ X:=by
 obtain ⟨N',h1,h2,h3⟩:=O8 X hX;rw [h.unique h1 (e.trans h2.symm)];exact h3
def Fu:∀L:Mv,bJ (fS (-1) L)=bJ L
 | []=>rfl
 | t::L=>by
   have ih:=Fu L;show (-1*t.2).natAbs+bJ (fS (-1) L)=t.2.natAbs+bJ L;rw [ih,E0,Jc,UL]
def acX (t:mH):∀T:Mv,bJ (mulM [t] T)=t.2.natAbs*bJ T:=fun T=>by
 rw [xR];induction T with
 | nil=>show 0=_*0;rw [jZ]
 | cons u T ih=>
   show (t.2*u.2).natAbs+bJ (T.map _)=t.2.natAbs*(u.2.natAbs+bJ T);rw [ak,<- ih,sw]
def Ve (s:fI) (z:Int) (q:fI):∀T:Mv,gh (mulM [(s, -z)] T) q= -gh (mulM [(s,z)] T) q:=fun T=>by
 rw [xR,xR];induction T with
 | nil=>rfl
 | cons t T ih=>
   rw [uK,uK,aj,aj,ih];show (if dI s t.1=q then -z*t.2 else 0)+_= -((if dI s t.1=q then z*t.2 else 0)+_);split
   . rw [E0];omega
   . omega
def Qr:∀{L:Mv} {t:mH},t∈L->t.2.natAbs<=bJ L
 | s::L,t,h=>by
   show _<=s.2.natAbs+bJ L;rcases iH.1 h with e | e
   . rw [e];omega
   . have:=Qr e;omega
def Xd (n:Nat) {T:Mv} {s:fI} {c:Int}:jI n (fS (-1) (mulM [(s,c)] T)) (mulM [(s, -c)] T):=fun q _=>by
 rw [uy,Ve,E0,Jc]
section
variable {n : Nat} {Q R P' : Mv} {pl : fI} {cl : Int} {k : Nat}
def zY:∀{Q:Mv}(_:av n Q) (j:Nat),av n (Q.drop j)
 | _,h,0=>by rw [Qw];exact h
 | [],h,_+1=>h
 | t::Q,h,j+1=>zY (Q:=Q) h.tail j
structure RN (n:Nat) (Q T:Mv) (k:Nat) (R:Mv):Prop where
 le:k<=Q.length
 eq:jI n R (mulM (Q.drop k) T)
def RN.lead {x:mH}(h:RN n Q ((pl,cl)::P') k (x::R)) (hR:av n (x::R)) (hQ:av n Q) (hT:av n ((pl,cl)::P')):
 ∃s z,k<Q.length∧Q.drop k=(s,z)::Q.drop (k+1)∧x=(dI s pl,z*cl)∧RN n Q ((pl,cl)::P') (k+1) ((x::R)++mulM [(s, -z)] ((pl,cl)::P')):=by
 have hk:k<Q.length:=by
  refine kQ fun hk=> ?_;have e:=h.eq;rw [DT (by omega)] at e;exact absurd (hR.afu e) (by simp)
 have e:=xm hk;have h1:=h.eq;have hd:=zY hQ k;rw [e] at h1 hd;obtain ⟨N',hN⟩:=hd.PW hT hR h1;refine ⟨(Q[k]).1,(Q[k]).2,hk,e,(mF hN).1,hk,fun q hq=> ?_⟩;have h2:=h1 q hq;rw [show Q[k]::Q.drop (k+1)=[Q[k]]++Q.drop (k+1) from rfl,FV,ic] at h2;rw [ic,h2,Ve];show gh (mulM [Q[k]] _) q+_+ -gh (mulM [Q[k]] _) q=_;omega
def RN.done (h:RN n Q ((pl,cl)::P') k []) (hQ:av n Q) (hT:av n ((pl,cl)::P')):k=Q.length:=by
 refine kQ fun hk=> ?_;have hk:k<Q.length:=by have:=h.le;omega
 have e:=xm hk;have h1:=h.eq;have hd:=zY hQ k;rw [e] at h1 hd;obtain ⟨N',hN⟩:=hd.PW hT (av.nil n) h1;cases hN
def RN.start {L T:Mv}(h:jI n L (mulM Q T)):RN n Q T 0 L:=⟨bL _,h⟩
def RN.congr {T R':Mv}(h:RN n Q T k R) (e:jI n R' R):RN n Q T k R':=⟨h.le,e.trans h.eq⟩
def Lq:∀(Q:Mv) (k:Nat),bJ (Q.drop k)<=bJ Q
 | _,0=>aL
 | [],_+1=>aL
 | t::Q,k+1=>by
   refine aG (Lq Q k) ?_;show bJ Q<=t.2.natAbs+bJ Q;exact JT _ _
end
def Lp (F:Nat->Mv):∀l:List Nat,bJ (l.flatMap F)=(l.map fun k=>bJ (F k)).sum
 | []=>rfl
 | k::l=>by rw [vz,qu,Lp F l,uK,UO]
def Kk (f:Nat->Nat):∀n,((List.range n).map f).sum=nS n f
 | 0=>rfl
 | n+1=>by
   rw [AR,ij,List.sum_append,Kk f n];show _+(f n+0)=nS n f+f n;omega
def JP:∀(n:Nat) (pre:fI) (f:Pn n),bJ (dW n pre f)=aH.nm f
 | 0,pre,z=>by
   rw [iB,akt];by_cases h:vM z=0
   . rw [aM h,h];rfl
   . rw [aY h]
     show (vM z).natAbs+0=_;omega
 | n+1,pre,f=>by
   rw [j9,Lp,Kk,yX];unfold Poly.jS;exact qc fun k _=>JP n _ _
def acW (L:Mv):bJ L.reverse=bJ L:=by
 unfold bJ;rw [Ub,List.sum_reverse]
def xh (n:Nat) (f:Pn n):bJ (iy n f)=aH.nm f:=by
 unfold iy;rw [acW,JP]
def MI (L:Mv):aH.nm (iU n L)<=bJ L:=IE n 0 L
def Dw:∀{n:Nat} {pre:fI} {f:Pn n} {D:Nat->Nat},aH.dg D f->∀t∈dW n pre f,∃e:fI,t.1=pre++e∧∀k,(nth e k).toNat<=D k
 | 0,pre,z,D,_,t,ht=>by
   rw [iB] at ht;by_cases h:vM z=0
   . rw [aM h] at ht;cases ht
   . rw [aY h] at ht
     rw [dS.1 ht];exact ⟨[],(tI _).symm,fun k=>by rw [bw (bL _)];exact bL _⟩
 | n+1,pre,f,D,hf,t,ht=>by
   have EY:Poly.mo D (kids f):=hf;rw [j9] at ht;obtain ⟨k,hk,ht⟩:=tG.1 ht;have Gc:=om.1 hk;obtain ⟨e,h1,h2⟩:=Dw (EY.2 k) t ht;refine ⟨(k:Int)::e,by rw [h1,vD];rfl,fun j=> ?_⟩;cases j with
   | zero=>
     show ((k:Int)).toNat<=D 0;have h5:=Poly.bV EY.1;omega
   | succ j=>exact h2 j
def Mb {f:Pn n} {D:Nat->Nat}(h:aH.dg D f) {t:mH}(ht:t∈iy n f) (k:Nat):(nth t.1 k).toNat<=D k:=by
 obtain ⟨e,h1,h2⟩:=Dw h t (JU.1 ht);rw [h1];exact h2 k
