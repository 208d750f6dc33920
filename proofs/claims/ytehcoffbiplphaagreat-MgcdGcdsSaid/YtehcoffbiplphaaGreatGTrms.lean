import Derived.Test.YtehcoffbiplphaaGreatGLims
set_option linter.all false
namespace Go.Proofs.YtehcoffbiplphaaGreat
open Go.RowKit
variable {w w':World} {t:TypeId} {base m n B i j:Nat} {v u:Value} {a b z:Int} {xs:List Int} {A:Option Addr} {p q:Addr}
abbrev TV:=(Bool×List Int)×fE
def bp (t:TV):mj:=(t.2,aF t.1.1 t.1.2)
def aU (L:List TV):Mv:=L.map bp
def fT (L M:List TV):aU (L++M)=aU L++aU M:=jK
def bE (L:List TV):(aU L).length=L.length:=dW _
structure eP (n:Nat) (L:List TV):Prop where
 mv:bC n (aU L)
 co:∀t∈L,bW t.1.1 t.1.2 (aF t.1.1 t.1.2)
def eP.nil (n:Nat):eP n []:=⟨bC.nil n,fun t h=>by cases h⟩
def Fs:∀{L M:List TV},(∀t∈L,bW t.1.1 t.1.2 (aF t.1.1 t.1.2))->(∀t∈M,bW t.1.1 t.1.2 (aF t.1.1 t.1.2))->aU L=aU M->L=M
 | [],[],_,_,_=>rfl
 | s::L,t::M,h,k,e=>by
   injection e with e1 e2
   have h1:=h s ay;have k1:=k t ay;have e3:s.2=t.2:=fN Prod.fst e1;have e4:aF s.1.1 s.1.2=aF t.1.1 t.1.2:=fN Prod.snd e1;rw [<- e4] at k1;obtain ⟨u1,u2⟩:=h1.unique k1;rw [show s=t from Ve (Ve u1 u2) e3,Fs (fun x hx=>h x (bn _ hx)) (fun x hx=>k x (bn _ hx)) e2]
structure jM (w:World) (A:Option Addr) (m:Nat) (L:List TV):Prop where
 len:L.length=m
 at_:0<m->∃b o,A=some ⟨b,o,none⟩∧b<w.heap.size∧∀i (h:i<L.length),∃Ai ci Ei ei,
  w.cell? ⟨b,o+3*i,none⟩=some (.bool (L[i]).1.1)∧w.cell? ⟨b,o+(3*i+1),none⟩=some (.slice Ai (L[i]).1.2.length ci)∧w.cell? ⟨b,o+(3*i+2),none⟩=some (.slice Ei (L[i]).2.length ei)∧
  (L[i]).1.2.length<=ci∧ci<=9223372036854775807∧(L[i]).2.length<=ei∧ei<=9223372036854775807∧aD w Ai (L[i]).1.2.length (L[i]).1.2∧Ints w Ei (L[i]).2.length (L[i]).2
section
variable {w w' : World} {A : Option Addr} {m : Nat} {L : List TV}
def jM.aB (h:jM w A m L) (hb:Below w.heap.size w w'):jM w' A m L:=
 ⟨h.len,fun hm=>by
   obtain ⟨b,o,e,hlt,hc⟩:=h.at_ hm;refine ⟨b,o,e,gh hlt hb.size,fun i hi=> ?_⟩;obtain ⟨Ai,ci,Ei,ei,h1,h2,h3,h4,h5,h8,h9,h6,h7⟩:=hc i hi;exact ⟨Ai,ci,Ei,ei,(hb.cell (p:=⟨b,o+3*i,none⟩) hlt).trans h1,(hb.cell (p:=⟨b,o+(3*i+1),none⟩) hlt).trans h2,(hb.cell (p:=⟨b,o+(3*i+2),none⟩) hlt).trans h3,h4,h5,h8,h9,h6.aB hb,h7.aB hb⟩⟩
def jM.nil (w:World) (A:Option Addr):jM w A 0 []:=⟨rfl,fun h=>absurd h (by omega)⟩
end
abbrev bA:=((Option Addr×Nat)×(Option Addr×Nat))×TV
def kN (x:bA):List Value:=[.bool x.2.1.1,.slice x.1.1.1 x.2.1.2.length x.1.1.2,.slice x.1.2.1 x.2.2.length x.1.2.2]
def aS (L:List bA):List Value:=L.flatMap kN
def fV (x:bA) (L:List bA):aS (x::L)=kN x++aS L:=by simp [aS]
def yw (L M:List bA):aS (L++M)=aS L++aS M:=by simp [aS,Ed]
def qN (L:List bA) (x:bA):aS (L++[x])=aS L++kN x:=by simp [aS,Ed]
def mo (L:List bA):(aS L).length=L.length*3:=by
 induction L with
 | nil=>rfl
 | cons x L ih=>rw [fV,eF,ih,rI];show 3+_=_;omega
def jH:∀{L:List bA} {i:Nat}(h:i<L.length),(aS L)[3*i]? =some (.bool (L[i]).2.1.1)∧(aS L)[3*i+1]? =some (.slice (L[i]).1.1.1 (L[i]).2.1.2.length (L[i]).1.1.2)∧(aS L)[3*i+2]? =some (.slice (L[i]).1.2.1 (L[i]).2.2.length (L[i]).1.2.2)
 | x::L,0,_=>by rw [fV];exact ⟨rfl,rfl,rfl⟩
 | x::L,i+1,h=>by
   have ih:=jH (L:=L) (i:=i) (Eb h);rw [fV];have hl:(kN x).length=3:=rfl;rw [CK (by rw [hl];omega),CK (by rw [hl];omega),CK (by rw [hl];omega),hl,show 3*(i+1)-3=3*i by omega,show 3*(i+1)+1-3=3*i+1 by omega,show 3*(i+1)+2-3=3*i+2 by omega];exact ih
def lK (L:List bA):∀u∈aS L,u.oneCell'=true:=by
 intro u hu;obtain ⟨x,_,hx⟩:=uR.1 hu;simp only [kN,iV,pE,FO] at hx;rcases hx with rfl | rfl | rfl<;>rfl
def gL (w:World) (x:bA):Prop:=x.2.1.2.length<=x.1.1.2∧x.1.1.2<=9223372036854775807∧x.2.2.length<=x.1.2.2∧x.1.2.2<=9223372036854775807∧aD w x.1.1.1 x.2.1.2.length x.2.1.2∧Ints w x.1.2.1 x.2.2.length x.2.2
def gL.aB {x:bA}(h:gL w x) (hb:Below w.heap.size w w'):gL w' x:=⟨h.1,h.2.1,h.2.2.1,h.2.2.2.1,h.2.2.2.2.1.aB hb,h.2.2.2.2.2.aB hb⟩
def kD {E:List bA}(h:w.ownsRow base t 3 v m (aS E)) (hm:E.length=m) (hi:∀x∈E,gL w x):
 ∃B d,v=.slice B m d∧m<=d∧d<=maxLen∧jM w B m (E.map (·.2)):=by
 rcases h.2 with ⟨hv,h0⟩ | ⟨g,cap,cur,hv,hg,hh,hc,hmx,aag⟩
 . subst h0
   obtain rfl:=lz hm;exact ⟨none,0,hv,aK,dc _,jM.nil _ _⟩
 . refine ⟨_,cap,hv,by omega,by omega,by rw [dW,hm],fun h0=>⟨g,0,rfl,(jf.1 hh).1,fun i XL=> ?_⟩⟩
   have yh:i<E.length:=by simpa using XL
   have e:(E.map (·.2))[i]=(E[i]).2:=by simp
   subst hv;obtain ⟨t0,t1,t2⟩:=jH yh;have c0:=h.cells (g:=g) rfl (3*i) _ t0;have c1:=h.cells (g:=g) rfl (3*i+1) _ t1;have c2:=h.cells (g:=g) rfl (3*i+2) _ t2;rw [kI] at c0 c1 c2;obtain ⟨k1,k2,k3,k4,k5,k6⟩:=hi _ (bw yh);rw [e];exact ⟨_,_,_,_,c0,c1,c2,k1,k2,k3,k4,k5,k6⟩
def bJ (p:fE):Lit:=.string (keyBytes (p.map (Lit.int .i64)))
def yy (l:Lit) (ls:List Lit):keyBytes (l::ls)=l.keyBytes++keyBytes ls:=rfl
def Dt (ha:C7 a) (hb:C7 b) (h:(Lit.int .i64 a).keyBytes=(Lit.int .i64 b).keyBytes):a=b:=by
 have h1:bytesBE 8 (a % 2^64).toNat=bytesBE 8 (b % 2^64).toNat:=h;have h2:=bytesBE_inj (by (have:(256:Nat)^8=18446744073709551616:=by decide);omega) (by (have:(256:Nat)^8=18446744073709551616:=by decide);omega) h1;obtain ⟨a1,a2⟩:=ha;obtain ⟨b1,b2⟩:=hb;omega
def keyBytes_inj:∀{p q:fE},p.length=q.length->(∀x∈p,C7 x)->(∀x∈q,C7 x)->keyBytes (p.map (Lit.int .i64))=keyBytes (q.map (Lit.int .i64))->p=q
 | [],[],_,_,_,_=>rfl
 | x::p,y::q,hl,hp,hq,h=>by
   rw [vB,vB,yy,yy] at h;obtain ⟨h1,h2⟩:=List.append_inj h (by
    show (bytesBE 8 _).length=(bytesBE 8 _).length;rw [length_bytesBE,length_bytesBE])
   rw [Dt (hp x ay) (hq y ay) h1,keyBytes_inj (by simpa using hl) (fun z hz=>hp z (bn _ hz)) (fun z hz=>hq z (bn _ hz)) h2]
structure ia (n:Nat) (p:fE):Prop where
 len:p.length=6
 bd:∀x∈p,0<=x∧x<=4611686018427387904
 zero:∀i,n<=i->nth p i=0
def ia.i64 {p:fE}(h:ia n p):∀x∈p,C7 x:=fun x hx=>by have:=h.bd x hx;constructor<;>omega
def ia.inj {p q:fE}(h:ia n p) (k:ia n q) (e:bJ p=bJ q):p=q:=by
 unfold bJ at e;injection e with e
 exact keyBytes_inj (h.len.trans k.len.symm) h.i64 k.i64 e
def mR (v:Value):Option (DataW Value×List MemPlace):=
 match v with
 | .agg cs=>
   match cs.toList with
   | [.bool _,.slice _ _ _]=>some (.held (.agg cs),[])
   | _=>none
 | _=>none
def PF (s:Bool) (A:Option Addr) (k c:Nat):mR (.agg #[.bool s,.slice A k c])=some (.held (.agg #[.bool s,.slice A k c]),[]):=rfl
def Kl {v:Value} {y:DataW Value×List MemPlace}(h:mR v=some y):∃s A k c,v=.agg #[.bool s,.slice A k c]∧y=(.held v,[]):=by
 cases v<;>simp only [mR] at h<;>try (cases h;done)
 rename_i cs
 obtain ⟨l⟩:=cs;split at h
 . rename_i e
   injection h with h
   simp only at e;subst e;exact ⟨_,_,_,_,rfl,h.symm⟩
 . cases h
structure YF (w:World) (v:Value) (B:Nat) (z:Int):Prop where
 ex:∃s A k c ls,v=.agg #[.bool s,.slice A k c]∧k<=c∧c<=9223372036854775807∧k<=B∧aD w A k ls∧aF s ls=z
def YF.aB (h:YF w v B z) (hb:Below w.heap.size w w'):YF w' v B z:=by
 obtain ⟨s,A,k,c,ls,e,h1,h2,h3,h4,h5⟩:=h.ex;exact ⟨s,A,k,c,ls,e,h1,h2,h3,h4.aB hb,h5⟩
def YF.mono {C:Nat} (h:YF w v B z) (hb:B<=C):YF w v C z:=by
 obtain ⟨s,A,k,c,ls,e,h1,h2,h3,h4,h5⟩:=h.ex;exact ⟨s,A,k,c,ls,e,h1,h2,by omega,h4,h5⟩
structure pW (w:World) (D:DataW Value) (n B:Nat) (L:Mv):Prop where
 key:∀kl,Maps.has D kl=true->∃p,kl=bJ p∧ia n p∧∃t∈L,t.1=p
 at_:∀p,ia n p->Maps.has D (bJ p)=true->∃v,(∀zd,D.atKey (bJ p) zd=.held v)∧YF w v B (iA L p)
 none:∀p,ia n p->Maps.has D (bJ p)=false->iA L p=0
 isMap:Maps.IsMap D
section
variable {w w' : World} {D : DataW Value} {n B C : Nat} {L M : Mv}
def pW.aB (h:pW w D n B L) (hb:Below w.heap.size w w'):pW w' D n B L:=
 ⟨h.key,fun p hp hh=>by obtain ⟨v,h1,h2⟩:=h.at_ p hp hh;exact ⟨v,h1,h2.aB hb⟩,h.none,h.isMap⟩
def pW.mono (h:pW w D n B L) (hb:B<=C):pW w D n C L:=
 ⟨h.key,fun p hp hh=>by obtain ⟨v,h1,h2⟩:=h.at_ p hp hh;exact ⟨v,h1,h2.mono hb⟩,h.none,h.isMap⟩
def pW.start (w:World) (n B:Nat):pW w (.map []) n B []:=
 ⟨fun kl hk=>by simp [Maps.has] at hk,fun p _ hk=>by simp [Maps.has] at hk,fun _ _ _=>rfl,Maps.isMap_empty⟩
def pW.put (h:pW w D n B L) {p:fE}(hp:ia n p) {v:Value} {t:Int}(hv:YF w v B (iA L p+t)):pW w (D.put (bJ p) (.held v)) n B (L++[(p,t)]):=by
 have hk:WideAt.IsKeyLit (bJ p):=trivial;have Kt:∀q,iA (L++[(p,t)]) q=iA L q+(if p=q then t else 0):=fun q=>by
  rw [jI,av,rU];show _+((if p=q then t else 0)+0)=_;omega
 refine ⟨fun kl D7=> ?_,fun q hq hh=> ?_,fun q hq hh=> ?_,h.isMap.put _ _⟩
 . by_cases e:kl=bJ p
   . exact ⟨p,e,hp,(p,t),TL _ (en.2 rfl),rfl⟩
   . rw [Maps.has_put_other e] at D7
     obtain ⟨q,h1,h2,u,h3,h4⟩:=h.key kl D7;exact ⟨q,h1,h2,u,TK _ h3,h4⟩
 . rw [Kt]
   by_cases e:p=q
   . subst e
     rw [aM rfl];exact ⟨v,fun zd=>Maps.atKey_put_same h.isMap hk _ zd,hv⟩
   . have hne:bJ q≠bJ p:=fun e2=>e (hp.inj hq e2.symm)
     rw [Maps.has_put_other hne] at hh;obtain ⟨v',h1,h2⟩:=h.at_ q hq hh;rw [af e,zl];exact ⟨v',fun zd=>by rw [Maps.atKey_put_other hne];exact h1 zd,h2⟩
 . rw [Kt]
   by_cases e:p=q
   . subst e
     rw [Maps.has_put_same h.isMap hk] at hh;cases hh
   . have hne:bJ q≠bJ p:=fun e2=>e (hp.inj hq e2.symm)
     rw [Maps.has_put_other hne] at hh;rw [af e,h.none q hq hh];rfl
end
def ic (n:Nat) (p:fE):fE:=p++List.replicate (6-n) 0
def qc {p:fE}(hn:n<=6) (hp:p.length=n):(ic n p).length=6:=by
 unfold ic;rw [eF,gI];omega
def KP {p:fE}(hp:p.length=n):(ic n p).take n=p:=by
 unfold ic;rw [<- hp,List.take_left'];rfl
def OX {p q:fE}(hp:p.length=n) (hq:q.length=n) (h:ic n p=ic n q):p=q:=by
 rw [<- KP hp,<- KP hq,h]
def xK (n i:Nat):nth (List.replicate n 0) i=0:=by
 unfold nth;by_cases h:i<n<;>simp [List.getD,h]
def DV {p:fE}(hn:n<=6) (hp:p.length=n) (hb:∀x∈p,0<=x∧x<=4611686018427387904):ia n (ic n p):=by
 refine ⟨qc hn hp,fun x hx=> ?_,fun i hi=> ?_⟩
 . rcases gV.1 hx with hx | hx
   . exact hb x hx
   . rw [(ack.1 hx).2];omega
 . unfold ic
   rw [nH (by omega),xK]
def ia.pad {p:fE}(hn:n<=6) (h:ia n p):p=ic n (p.take n):=by
 refine oT ?_ fun i hi=> ?_
 . rw [qc hn (by rw [cS,h.len];omega),h.len]
 . by_cases tj:i<n
   . unfold ic
     rw [nE (by rw [cS,h.len];omega)];unfold nth;simp [List.getD,tj]
   . unfold ic
     rw [nH (by rw [cS,h.len];omega),xK,h.zero i (by omega)]
def ia.take_length {p:fE}(hn:n<=6) (h:ia n p):(p.take n).length=n:=by rw [cS,h.len];omega
def liftM (n:Nat) (L:Mv):Mv:=L.map fun t=>(ic n t.1,t.2)
def MT (n:Nat) (L M:Mv):liftM n (L++M)=liftM n L++liftM n M:=jK
def Ic:∀{L:Mv},fI n L->∀{p:fE},p.length=n->iA (liftM n L) (ic n p)=iA L p
 | [],_,_,_=>rfl
 | t::L,h,p,hp=>by
   have ih:=Ic (L:=L) (fun s hs=>h s (bn _ hs)) hp;show (if ic n t.1=ic n p then t.2 else 0)+iA (liftM n L) (ic n p)=(if t.1=p then t.2 else 0)+iA L p;rw [ih];congr 1
   by_cases e:t.1=p
   . rw [aM e,aM (by rw [e])]
   . rw [af e,af fun e2=>e (OX (h t ay) hp e2)]
structure CU (D:DataW Value) (n:Nat) (L:Mv) (left:Lit->Bool) (E:Mv):Prop where
 len:fI n E
 ne:∀t∈E,t.2≠0
 nodup:(E.map (·.1)).Pairwise (· ≠ ·)
 from_:∀t∈E,ia n (ic n t.1)∧Maps.has D (bJ (ic n t.1))=true∧left (bJ (ic n t.1))=false∧t.2=iA L (ic n t.1)
 all:∀p,ia n p->Maps.has D (bJ p)=true->left (bJ p)=false->iA L p≠0->∃t∈E,ic n t.1=p
section
variable {D : DataW Value} {n : Nat} {L E : Mv} {left : Lit -> Bool}
def CU.start (D:DataW Value) (n:Nat) (L:Mv):CU D n L (Maps.has D) []:=
 ⟨fun t h=>(by cases h),fun t h=>(by cases h),List.Pairwise.nil,fun t h=>(by cases h),fun p _ h1 h2=>by rw [h1] at h2;cases h2⟩
def CU.skip (h:CU D n L left E) {p:fE}(hp:ia n p) (h0:iA L p=0):CU D n L (fun z=>left z && !z.sameKey (bJ p)) E where
 len:=h.len
 ne:=h.ne
 nodup:=h.nodup
 from_ t ht:=by
  obtain ⟨h1,h2,h3,h4⟩:=h.from_ t ht;exact ⟨h1,h2,by rw [h3];rfl,h4⟩
 all q hq h1 h2 h3:=by
  by_cases e:left (bJ q)=false
  . exact h.all q hq h1 e h3
  . have h4:(bJ q).sameKey (bJ p)=true:=by
     cases hl:left (bJ q) with
     | false=>exact absurd hl e
     | true=>rw [hl] at h2;simpa using h2
    have h5:=hq.inj hp (Su h4);rw [h5] at h3;exact absurd h0 h3
def CU.take (hn:n<=6) (h:CU D n L left E) {p:fE}(hp:ia n p) (hh:Maps.has D (bJ p)=true) (hl:left (bJ p)=true) (h0:iA L p≠0):
 CU D n L (fun z=>left z && !z.sameKey (bJ p)) (E++[(p.take n,iA L p)]) where
 len:=h.len.append fun t ht=>by rw [en.1 ht];exact hp.take_length hn
 ne t ht:=by
  rcases gV.1 ht with ht | ht
  . exact h.ne t ht
  . rw [en.1 ht];exact h0
 nodup:=by
  rw [jK,EP];refine ⟨h.nodup,EO _ _,fun q hq r hr e=> ?_⟩;obtain ⟨t,ht,rfl⟩:=aj.1 hq;have Fb:r=p.take n:=by simpa using hr
  have h3:=(h.from_ t ht).2.2.1;rw [e,Fb,<- hp.pad hn,hl] at h3;cases h3
 from_ t ht:=by
  rcases gV.1 ht with ht | ht
  . obtain ⟨h1,h2,h3,h4⟩:=h.from_ t ht
    exact ⟨h1,h2,by rw [h3];rfl,h4⟩
  . rw [en.1 ht]
    show ia n (ic n (p.take n))∧_∧_∧iA L p=iA L (ic n (p.take n));rw [<- hp.pad hn];exact ⟨hp,hh,by rw [abU (show WideAt.IsKeyLit (bJ p) from trivial)];simp,rfl⟩
 all q hq h1 h2 h3:=by
  by_cases e:left (bJ q)=false
  . obtain ⟨t,ht,e2⟩:=h.all q hq h1 e h3
    exact ⟨t,TK _ ht,e2⟩
  . have h4:(bJ q).sameKey (bJ p)=true:=by
     cases hl:left (bJ q) with
     | false=>exact absurd hl e
     | true=>rw [hl] at h2;simpa using h2
    have h5:=hq.inj hp (Su h4);exact ⟨_,TL _ (en.2 rfl),by show ic n (p.take n)=q;rw [<- hp.pad hn,h5]⟩
def CU.done {w:World} {B:Nat} {M:Mv}(hn:n<=6) (h:CU D n L left E) (hl:∀k,left k=false) (hs:pW w D n B L) (_hM:fI n M) (hb:C8 4611686018427387904 M) (Ku:∀p,p.length=n->iA L (ic n p)=iA M p):jR n E M:=fun p hp=>by
 by_cases hx:∃t∈E,t.1=p
 . obtain ⟨t,ht,rfl⟩:=hx
   rw [mN h.nodup t ht,(h.from_ t ht).2.2.2,Ku _ hp]
 . rw [oc fun t ht e=>hx ⟨t,ht,e⟩]
   by_cases h0:iA M p=0
   . exact h0.symm
   . exfalso
     obtain ⟨s,tZ,uW⟩:=SZ h0;have hg:ia n (ic n p):=DV hn hp fun x hx=>hb s tZ x (by rw [uW];exact hx);rw [<- Ku p hp] at h0;cases hh:Maps.has D (bJ (ic n p)) with
     | false=>exact h0 (hs.none _ hg hh)
     | true=>
       obtain ⟨t,ht,e⟩:=h.all _ hg hh (hl _) h0;exact hx ⟨t,ht,OX (h.len t ht) hp e⟩
end
structure Seen (D:DataW Value) (n:Nat) (L:Mv) (left:Lit->Bool) (E:Mv):Prop where
 nodup:(E.map (·.1)).Pairwise (· ≠ ·)
 from_:∀t∈E,ia n t.1∧Maps.has D (bJ t.1)=true∧left (bJ t.1)=false∧t.2=iA L t.1
 all:∀p,ia n p->Maps.has D (bJ p)=true->left (bJ p)=false->∃t∈E,t.1=p
section
variable {D : DataW Value} {n : Nat} {L E : Mv} {left : Lit -> Bool}
def Seen.start (D:DataW Value) (n:Nat) (L:Mv):Seen D n L (Maps.has D) []:=
 ⟨List.Pairwise.nil,fun t h=>(by cases h),fun p _ h1 h2=>by rw [h1] at h2;cases h2⟩
def Seen.step (h:Seen D n L left E) {p:fE}(hp:ia n p) (hh:Maps.has D (bJ p)=true) (hl:left (bJ p)=true):
 Seen D n L (fun z=>left z && !z.sameKey (bJ p)) (E++[(p,iA L p)]) where
 nodup:=by
  rw [jK,EP];refine ⟨h.nodup,EO _ _,fun q hq r hr e=> ?_⟩;obtain ⟨t,ht,rfl⟩:=aj.1 hq;have Fb:r=p:=by simpa using hr
  have h3:=(h.from_ t ht).2.2.1;rw [e,Fb,hl] at h3;cases h3
 from_ t ht:=by
  rcases gV.1 ht with ht | ht
  . obtain ⟨h1,h2,h3,h4⟩:=h.from_ t ht
    exact ⟨h1,h2,by rw [h3];rfl,h4⟩
  . rw [en.1 ht]
    exact ⟨hp,hh,by rw [abU (show WideAt.IsKeyLit (bJ p) from trivial)];simp,rfl⟩
 all q hq h1 h2:=by
  by_cases e:left (bJ q)=false
  . obtain ⟨t,ht,e2⟩:=h.all q hq h1 e
    exact ⟨t,TK _ ht,e2⟩
  . have h4:(bJ q).sameKey (bJ p)=true:=by
     cases hl:left (bJ q) with
     | false=>exact absurd hl e
     | true=>rw [hl] at h2;simpa using h2
    have h5:=hq.inj hp (Su h4);exact ⟨_,TL _ (en.2 rfl),h5.symm⟩
def Seen.done {w:World} {B:Nat}(h:Seen D n L left E) (hl:∀k,left k=false) (hs:pW w D n B L) (hg:∀t∈L,ia n t.1):jR 6 E L:=fun p _=>by
 by_cases hx:∃t∈E,t.1=p
 . obtain ⟨t,ht,rfl⟩:=hx
   rw [mN h.nodup t ht,(h.from_ t ht).2.2.2]
 . rw [oc fun t ht e=>hx ⟨t,ht,e⟩]
   by_cases h0:iA L p=0
   . exact h0.symm
   . exfalso
     obtain ⟨s,tZ,uW⟩:=SZ h0;(have hgp:ia n p:=by rw [<- uW];exact hg s tZ);cases hh:Maps.has D (bJ p) with
     | false=>exact h0 (hs.none _ hgp hh)
     | true=>
       obtain ⟨t,ht,e⟩:=h.all _ hgp hh (hl _);exact hx ⟨t,ht,e⟩
def Seen.auK (h:Seen D n L left E):fI 6 E:=fun t ht=>(h.from_ t ht).1.len
end
def W9 (hn:n<=6) {L:Mv}(h:fI n L):fI 6 (liftM n L):=fun t ht=>by
 obtain ⟨s,hs,rfl⟩:=aj.1 ht;exact qc hn (h s hs)
def XA (hn:n<=6) {L:Mv}(h:fI n L) (hb:C8 4611686018427387904 L):∀t∈liftM n L,ia n t.1:=fun t ht=>by
 obtain ⟨s,hs,rfl⟩:=aj.1 ht;exact DV hn (h s hs) (hb s hs)
def aew (hn:n<=6) {L M:Mv}(h:jR 6 L (liftM n M)) (hM:fI n M):∀p,p.length=n->iA L (ic n p)=iA M p:=fun p hp=>by
 rw [h _ (qc hn hp),Ic hM hp]
def Gv:∀{a b:fE} {i:Nat},a.length=b.length->(∀j,j<i->nth a j=nth b j)->i<a.length->nth a i<nth b i->jN a b
 | x::a,y::b,0,_,_,_,h=> .inl h
 | x::a,y::b,i+1,hl,he,hi,h=>by
   have e0:=he 0 (by omega);refine .inr ⟨e0,Gv (i:=i) (by simpa using hl) (fun j hj=>he (j+1) (by omega)) (by simpa using hi) h⟩
def rV (a b:fE):Int:=if jN a b then -1 else if jN b a then 1 else 0
def GF {a b:fE}(h:jN a b):rV a b= -1:=aM h
def M3 {a b:fE}(h:jN b a):rV a b=1:=by
 unfold rV;rw [af fun h2=>jN.irrefl a (jN.trans h2 h),aM h]
def yS (a:fE):rV a a=0:=by
 unfold rV;rw [af (jN.irrefl a),af (jN.irrefl a)]
def sk {a b:fE}:rV a b<0↔jN a b:=by
 unfold rV;by_cases h:jN a b
 . rw [aM h];exact ⟨fun _=>h,fun _=>by omega⟩
 . rw [af h]
   refine ⟨fun h2=> ?_,fun h2=>absurd h2 h⟩;split at h2<;>omega
open aG
def mQ (i:Nat):Mv->Nat
 | []=>0
 | t::L=>max ((nth t.1 i).toNat+1) (mQ i L)
def vL (i:Nat):∀L M:Mv,mQ i (L++M)=max (mQ i L) (mQ i M)
 | [],M=>(Nat.max_eq_right (dc _)).symm
 | t::L,M=>by
   show max _ (mQ i (L++M))=max (max _ (mQ i L)) _;rw [vL i L M,Nat.max_assoc]
def DT:∀{L:Mv} {t:mj},t∈L->(nth t.1 i).toNat<mQ i L
 | s::L,t,h=>by
   show _<max _ _;rcases iV.1 h with rfl | h
   . exact gh (xm _) (LI _ _)
   . exact gh (DT h) (LH _ _)
def Gh {d:Nat}:∀{L:Mv},(∀t∈L,(nth t.1 i).toNat<d)->mQ i L<=d
 | [],_=>dc _
 | t::L,h=>Nat.max_le.2 ⟨h t ay,Gh fun s hs=>h s (bn _ hs)⟩
def oD (i j:Nat) (L:Mv):Mv:=L.filter fun t=>nth t.1 i==(j:Int)
def DU {L:Mv} {t:mj}(h:t∈oD i j L):t∈L:=(EN.1 h).1
def MB (i j:Nat) (L M:Mv):oD i j (L++M)=oD i j L++oD i j M:=NI _ _
noncomputable def iy:(m:Nat)->Nat->Mv->Pn m
 | 0,_,L=>X6 (fD (fun t=>t.2) L)
 | m+1,i,L=>mkK ⟨fun j=>if j<mQ i L then iy m (i+1) (oD i j L) else 0,mQ i L,fun j hj=>af (by omega)⟩
def xG (m i:Nat) (L:Mv) (j:Nat):(kids (iy (m+1) i L)).co j=if j<mQ i L then iy m (i+1) (oD i j L) else 0:=rfl
def Gf (m i:Nat) (L:Mv):(kids (iy (m+1) i L)).Sh (mQ i L):=fun j hj=>by rw [xG,af (by omega)]
noncomputable def cf:(n:Nat)->Pn n->fE->Int
 | 0,z,_=>vG z
 | _+1,_,[]=>0
 | n+1,f,e::p=>if 0<=e then cf n ((kids f).co e.toNat) p else 0
def kH (n:Nat) (f:Pn (n+1)) (e:Int) (p:fE):cf (n+1) f (e::p)=if 0<=e then cf n ((kids f).co e.toNat) p else 0:=rfl
def rW:∀(n:Nat) (p:fE),cf n (0:Pn n) p=0
 | 0,p=>by show vG 0=0;rfl
 | n+1,[]=>rfl
 | n+1,e::p=>by
   rw [kH,Kh,Poly.Bz,rW n p];split<;>rfl
def Sc:∀(n:Nat) (f g:Pn n) (p:fE),cf n (f+g) p=cf n f p+cf n g p
 | 0,f,g,p=>adz f g
 | n+1,f,g,[]=>rfl
 | n+1,f,g,e::p=>by
   rw [kH,kH,kH,Hh,Poly.pM,Sc n];split<;>rfl
def abD:∀(n:Nat) (f:Pn n) (p:fE),cf n (-f) p= -cf n f p
 | 0,f,p=>LW f
 | n+1,f,[]=>rfl
 | n+1,f,e::p=>by
   rw [kH,kH,BR,Poly.ze,abD n];split<;>rfl
def uP:∀{n:Nat} {f g:Pn n},(∀p:fE,p.length=n->cf n f p=cf n g p)->f=g
 | 0,f,g,h=>h [] rfl
 | n+1,f,g,h=>Poly.ext (a:=kids f) (b:=kids g) fun j=>uP fun p hp=>by
   have h1:=h ((j:Int)::p) (by rw [rI,hp]);rw [kH,kH,aM (by omega),aM (by omega),jY] at h1;exact h1
def atL (i:Nat) (L:Mv) (p:fE):Int:=fD (fun t=>if t.1.drop i=p then t.2 else 0) L
def AR {α:Type}(q:α->Bool) (f:α->Int):∀L:List α,fD f (L.filter q)=fD (fun a=>if q a then f a else 0) L
 | []=>rfl
 | a::L=>by
   show _=(if q a then f a else 0)+fD _ L;rw [I2,<- AR q f L];by_cases h:q a=true
   . rw [aM h,aM h];rfl
   . rw [af h,af h];omega
def oM {α:Type} {f:α->Int} {L:List α}(h:∀a∈L,f a=0):fD f L=0:=by rw [gP (g:=fun _=>0) h,rZ]
def abk {p:fE}(h:i<p.length):p.drop i=nth p i::p.drop (i+1):=by
 rw [xb h,gJ h]
def Px:∀(m i:Nat) (L:Mv) (p:fE),(∀t∈L,t.1.length=i+m)->(∀t∈L,∀x∈t.1,0<=x)->p.length=m->cf m (iy m i L) p=atL i L p
 | 0,i,L,p,hL,_,hp=>by
   show fD (fun t=>t.2) L=_;refine gP fun t ht=> ?_;rw [aM];rw [lz hp,CP (by rw [hL t ht];omega)]
 | m+1,i,L,[],_,_,hp=>by cases hp
 | m+1,i,L,e::p,hL,h0,hp=>by
   have Jm:p.length=m:=by simpa using hp
   have hd:∀t∈L,t.1.drop i=nth t.1 i::t.1.drop (i+1):=fun t ht=>abk (by rw [hL t ht];omega);have hn:∀t∈L,0<=nth t.1 i:=fun t ht=>h0 t ht _ (iK (by rw [hL t ht];omega));rw [kH,xG];by_cases he:0<=e
   . rw [aM he]
     have key:atL (i+1) (oD i e.toNat L) p=atL i L (e::p):=by
      unfold atL oD;rw [AR];refine gP fun t ht=> ?_;rw [hd t ht,show ((e.toNat:Nat):Int)=e by omega];by_cases h1:nth t.1 i=e
      . rw [h1,aM (beq_self_eq_true e)]
        by_cases h2:t.1.drop (i+1)=p
        . rw [aM h2,aM (by rw [h2])]
        . rw [af h2,af (fun h3=>h2 (l6 h3).2)]
      . rw [af (fun h3=>h1 (eq_of_beq h3)),af (fun h3=>h1 (l6 h3).1)]
     by_cases hN:e.toNat<mQ i L
     . rw [aM hN,Px m (i+1) _ p (fun t ht=>by rw [hL t (DU ht)];omega) (fun t ht=>h0 t (DU ht)) Jm,key]
     . rw [af hN,rW]
       refine (oM fun t ht=>af fun h3=> ?_).symm;rw [hd t ht] at h3;have h4:=DT (i:=i) ht;rw [(l6 h3).1] at h4;exact hN h4
   . rw [af he]
     refine (oM fun t ht=>af fun h3=> ?_).symm;rw [hd t ht] at h3;have h4:=hn t ht;rw [(l6 h3).1] at h4;exact he h4
def GV {α:Type}(f:α->Int):∀L:List α,(fD f L).natAbs<=(L.map fun a=>(f a).natAbs).sum
 | []=>aK
 | a::L=>by
   have h:=GV f L;show (f a+fD f L).natAbs<=_;rw [vB,TJ];omega
def nk (t:mj) (L:Mv):bM (t::L)=t.2.natAbs+bM L:=by
 unfold bM;rw [vB,TJ]
def OW (i:Nat):∀(L:Mv) (N:Nat),nS N (fun j=>bM (oD i j L))<=bM L
 | [],N=>by
   have e:(fun j=>bM (oD i j []))=fun _=>0:=funext fun j=>rfl;rw [e,BI];exact kQ (jv N)
 | t::L,N=>by
   have e:∀j,bM (oD i j (t::L))=(if nth t.1 i==(j:Int) then t.2.natAbs else 0)+bM (oD i j L):=fun j=>by
    unfold oD;rw [I2];split
    . exact nk _ _
    . exact (ct _).symm
   rw [qd fun j _=>e j,Zb,nk];refine I1 ?_ (OW i L N);have one:∀N:Nat,nS N (fun j=>if nth t.1 i==(j:Int) then t.2.natAbs else 0)<=t.2.natAbs∧((∀j,j<N->nth t.1 i≠(j:Int))->nS N (fun j=>if nth t.1 i==(j:Int) then t.2.natAbs else 0)=0):=fun N=>by
    induction N with
    | zero=>exact ⟨dc _,fun _=>rfl⟩
    | succ N ih=>
      have h1:nS (N+1) (fun j=>if nth t.1 i==(j:Int) then t.2.natAbs else 0)=nS N (fun j=>if nth t.1 i==(j:Int) then t.2.natAbs else 0)+(if nth t.1 i==((N:Nat):Int) then t.2.natAbs else 0):=rfl;rw [h1];by_cases h:nth t.1 i=((N:Nat):Int)
      . rw [ih.2 fun j hj e2=>by omega,aM (QG.2 h)]
        exact ⟨by omega,fun h3=>absurd h (h3 N (by omega))⟩
      . rw [af fun h3=>h (eq_of_beq h3)]
        exact ⟨by have:=ih.1;omega,fun h3=>by rw [ih.2 fun j hj=>h3 j (by omega)]⟩
   exact (one N).1
def Gg:∀(m i:Nat) (L:Mv),aI.nm (iy m i L)<=bM L
 | 0,i,L=>GV _ L
 | m+1,i,L=>by
   show Poly.jT (kids (iy (m+1) i L))<=_;rw [Poly.jm (Gf m i L)];refine aH (KX fun j hj=> ?_) (OW i L (mQ i L));rw [xG,aM hj];exact Gg m (i+1) _
def Af:∀(m i:Nat) (L:Mv) (D:Nat->Nat),(∀t∈L,∀k,(nth t.1 (i+k)).toNat<=D k)->aI.dg D (iy m i L)
 | 0,i,L,D,_=>trivial
 | m+1,i,L,D,h=>by
   have h':Poly.mX D (kids (iy (m+1) i L)):=by
    refine ⟨(Gf m i L).mono (Gh fun t ht=>Nat.lt_succ_of_le (h t ht 0)),fun j=> ?_⟩;rw [xG];split
    . exact Af m (i+1) _ _ fun t ht k=>by
       have h1:=h t (DU ht) (k+1);rwa [show i+(k+1)=i+1+k by omega] at h1
    . exact aI.fQ _
   exact h'
def sS {e:TypeId} {sz:Nat} {xs:List Value}(h:w.ownsRow base e sz v n xs) (hb:Below w.heap.size w w'):w'.ownsRow base e sz v n xs:=
 kU h (Only.bY hb) fun k hk hq=>by have:=(h.lt k hk).2;omega
structure NT (TT TE:TypeId) (w0 wr:World) (v:Value) (Vs:List Value) (Es:List (List bA)):Prop where
 own:wr.ownsRow w0.heap.size TT 1 v Vs.length Vs
 len:Es.length=Vs.length
 rows:∀(j:Nat) (V:Value) (E:List bA),Vs[j]? =some V->Es[j]? =some E->wr.ownsRow w0.heap.size TE 3 V E.length (aS E)
 apart:∀(j k:Nat) (V V':Value),Vs[j]? =some V->Vs[k]? =some V'->j≠k->∀b,V.ownBlock=some b->V'.ownBlock≠some b
 off:∀(j:Nat) (V:Value),Vs[j]? =some V->∀b,v.ownBlock=some b->V.ownBlock≠some b
 ok:∀(j:Nat) (E:List bA),Es[j]? =some E->∀x∈E,gL w0 x
 aB:Below w0.heap.size w0 wr
section
variable {TT TE : TypeId} {w0 wr wt w3 : World} {v : Value} {Vs : List Value} {Es : List (List bA)}
def NT.start (TT TE:TypeId) (h:Below w0.heap.size w0 wr):NT TT TE w0 wr (.slice none 0 0) [] []:=
 ⟨nu _ _ _ _,rfl,fun j V E h=>by simp at h,fun j k V V' h=>by simp at h,fun j V h=>by simp at h,fun j E h=>by simp at h,h⟩
def NT.ji (h:NT TT TE w0 wr v Vs Es) (hb:Below wr.heap.size wr wt):NT TT TE w0 wt v Vs Es:=
 ⟨sS h.own hb,h.len,fun j V E h1 h2=>sS (h.rows j V E h1 h2) hb,h.apart,h.off,h.ok,h.aB.tm hb⟩
def NT.at_ (h:NT TT TE w0 wr v Vs Es) {j:Nat}(hj:j<Vs.length):∃V E,Vs[j]? =some V∧Es[j]? =some E∧wr.ownsRow w0.heap.size TE 3 V E.length (aS E):=by
 have hj':j<Es.length:=by rw [h.len];exact hj
 exact ⟨Vs[j],Es[j],xo hj,xo hj',h.rows j _ _ (xo hj) (xo hj')⟩
def NT.push {gg cap:Nat} {o:Obj}(h:NT TT TE w0 wr v Vs Es) (aY:w3.ownsRow w0.heap.size TT 1 (.slice (some ⟨gg,0,none⟩) (Vs.length+1) cap) (Vs.length+1) (Vs++[.slice none 0 0])) (rE:(wr.alloc o).grownBy w3 v.ownBlock) (gO:v.ownBlock=some gg∨gg=wr.heap.size+1):
 NT TT TE w0 w3 (.slice (some ⟨gg,0,none⟩) (Vs.length+1) cap) (Vs++[.slice none 0 0]) (Es++[[]]):=by
 have b1:Below wr.heap.size wr (wr.alloc o):=aW.alloc aK _;have o3:Only (fun k=>v.ownBlock=some k) (wr.alloc o) w3:=(Only.fH rE).mono (fun i hi=>by first | exact hi | exact hi.symm);have old:∀{j:Nat} {V:Value},(Vs++[Value.slice none 0 0])[j]? =some V->(j<Vs.length∧Vs[j]? =some V)∨(j=Vs.length∧V=.slice none 0 0):=fun {j V} hj=>by
  rcases qz j Vs.length with hl | hl
  . rw [Sr hl] at hj;exact .inl ⟨hl,hj⟩
  . rw [CK hl] at hj
    by_cases e:j=Vs.length
    . rw [e,pT] at hj
      exact .inr ⟨e,by injection hj with hj;exact hj.symm⟩
    . rw [TI (by show 1<=_;omega)] at hj;cases hj
 have We:∀{j:Nat} {E:List bA},(Es++[[]])[j]? =some E->(j<Vs.length∧Es[j]? =some E)∨(j=Vs.length∧E=[]):=fun {j E} hj=>by
  rcases qz j Es.length with hl | hl
  . rw [Sr hl] at hj;exact .inl ⟨by rw [<- h.len];exact hl,hj⟩
  . rw [CK hl] at hj
    by_cases e:j=Es.length
    . rw [e,pT] at hj
      exact .inr ⟨by rw [e,h.len],by injection hj with hj;exact hj.symm⟩
    . rw [TI (by show 1<=_;omega)] at hj;cases hj
 refine ⟨by rw [eF];exact aY,by rw [eF,eF,h.len];rfl,fun j V E h1 h2=> ?_,fun j k V V' h1 h2 hne b e1 e2=> ?_,fun j V h1 b e1 e2=> ?_,fun j E h1 x hx=> ?_,?_⟩
 . rcases old h1 with ⟨l1,g1⟩ | ⟨l1,g1⟩
   . rcases We h2 with ⟨l2,g2⟩ | ⟨l2,g2⟩
     . exact kU (sS (h.rows j V E g1 g2) b1) o3 fun k hk hq=>h.off j V g1 k hq hk
     . omega
   . rcases We h2 with ⟨l2,g2⟩ | ⟨l2,g2⟩
     . omega
     . rw [g1,g2];exact nu _ _ _ _
 . rcases old h1 with ⟨l1,g1⟩ | ⟨l1,g1⟩
   . rcases old h2 with ⟨l2,g2⟩ | ⟨l2,g2⟩
     . exact h.apart j k V V' g1 g2 hne b e1 e2
     . rw [g2] at e2;cases e2
   . rw [g1] at e1;cases e1
 . rcases old h1 with ⟨l1,g1⟩ | ⟨l1,g1⟩
   . have e3:gg=b:=by injection e1
     rcases gO with h3 | h3
     . exact h.off j V g1 b (by rw [h3,e3]) e2
     . obtain ⟨V',E',q1,q2,q3⟩:=h.at_ l1
       rw [g1] at q1;injection q1 with q1
       subst q1;have:=(q3.lt b e2).2;omega
   . rw [g1] at e2;cases e2
 . rcases We h1 with ⟨l1,g1⟩ | ⟨l1,g1⟩
   . exact h.ok j E g1 x hx
   . rw [g1] at hx;cases hx
 . have:=h.aB.size
   exact (h.aB.alloc h.aB.size o).grown rE (by simp;omega) (fun k hk=>(h.own.lt k hk).1)
def NT.add {gg cap vb cv j:Nat} {o:Obj} {V:Value} {E:List bA} {x:bA}(h:NT TT TE w0 wr (.slice (some ⟨vb,0,none⟩) Vs.length cv) Vs Es) (hV:Vs[j]? =some V) (hE:Es[j]? =some E) (hx:gL w0 x)
 (aY:w3.ownsRow w0.heap.size TE 3 (.slice (some ⟨gg,0,none⟩) (E.length+1) cap) (E.length+1) (aS E++kN x)) (rE:(wr.alloc o).grownBy w3 V.ownBlock) (gO:V.ownBlock=some gg∨gg=wr.heap.size+1):
 NT TT TE w0 (w3.setCell ⟨vb,j,none⟩ (.slice (some ⟨gg,0,none⟩) (E.length+1) cap)) (.slice (some ⟨vb,0,none⟩) Vs.length cv) (Vs.set j (.slice (some ⟨gg,0,none⟩) (E.length+1) cap)) (Es.set j (E++[x])):=by
 have hj:j<Vs.length:=(FU.1 hV).1;have hjE:j<Es.length:=by rw [h.len];exact hj
 have b1:Below wr.heap.size wr (wr.alloc o):=aW.alloc aK _;have o3:Only (fun k=>V.ownBlock=some k) (wr.alloc o) w3:=(Only.fH rE).mono (fun i hi=>by first | exact hi | exact hi.symm);have o4:Only (fun k=>k=vb) w3 (w3.setCell ⟨vb,j,none⟩ (.slice (some ⟨gg,0,none⟩) (E.length+1) cap)):=(Only.refl (fun k=>k=vb) w3).setCell (p:=⟨vb,j,none⟩) rfl _;have wX:(Value.slice (some ⟨vb,0,none⟩) Vs.length cv).ownBlock=some vb:=rfl;have hvl:=h.own.lt vb wX;have gvb:gg≠vb:=fun e=>by
  rcases gO with h3 | h3
  . exact h.off j V hV vb wX (by rw [h3,e])
  . omega
 have YU:∀{k:Nat} {V':Value},(Vs.set j (.slice (some ⟨gg,0,none⟩) (E.length+1) cap))[k]? =some V'->(k=j∧V'=.slice (some ⟨gg,0,none⟩) (E.length+1) cap)∨(k≠j∧Vs[k]? =some V'):=fun {k V'} hk=>by
  by_cases e:k=j
  . subst e
    rw [TH hj] at hk;injection hk with hk
    exact .inl ⟨rfl,hk.symm⟩
  . rw [TF (fun h=>e h.symm)] at hk
    exact .inr ⟨e,hk⟩
 have WO:∀{k:Nat} {E':List bA},(Es.set j (E++[x]))[k]? =some E'->(k=j∧E'=E++[x])∨(k≠j∧Es[k]? =some E'):=fun {k E'} hk=>by
  by_cases e:k=j
  . subst e
    rw [TH hjE] at hk;injection hk with hk
    exact .inl ⟨rfl,hk.symm⟩
  . rw [TF (fun h=>e h.symm)] at hk
    exact .inr ⟨e,hk⟩
 have anP:∀{k:Nat} {V':Value},Vs[k]? =some V'->∀b,V'.ownBlock=some b->b<wr.heap.size:=fun {k V'} hk b hb=>by
  obtain ⟨V2,E2,q1,q2,q3⟩:=h.at_ (FU.1 hk).1;rw [hk] at q1;injection q1 with q1
  subst q1;exact (q3.lt b hb).2
 have agD:∀{k:Nat} {V':Value},k≠j->Vs[k]? =some V'->V'.ownBlock≠some gg:=fun {k V'} hk h1 e=>by
  rcases gO with h3 | h3
  . exact h.apart j k V V' hV h1 (fun e2=>hk e2.symm) gg h3 e
  . have:=anP h1 gg e;omega
 refine ⟨?_,by rw [gH,gH,h.len],fun k V' E' h1 h2=> ?_,fun k l V1 V2 h1 h2 hne b e1 e2=> ?_,fun k V' h1 b e1 e2=> ?_,fun k E' h1 y hy=> ?_,?_⟩
 . rw [gH]
   exact vN (kU (sS h.own b1) o3 fun k hk hq=>h.off j V hV k hk hq) j _
 . rcases YU h1 with ⟨l1,g1⟩ | ⟨l1,g1⟩
   . rcases WO h2 with ⟨l2,g2⟩ | ⟨l2,g2⟩
     . subst g1;subst g2
       rw [eF,qN];exact kU aY o4 fun k hk hq=>by
        (have e:gg=k:=by injection hk);exact gvb (e.trans hq)
     . exact absurd l1 l2
   . rcases WO h2 with ⟨l2,g2⟩ | ⟨l2,g2⟩
     . exact absurd l2 l1
     . exact kU (kU (sS (h.rows k V' E' g1 g2) b1) o3 fun b hb hq=>h.apart j k V V' hV g1 (fun e=>l1 e.symm) b hq hb) o4 fun b hb hq=>h.off k V' g1 vb wX (by rw [hb,hq])
 . rcases YU h1 with ⟨l1,g1⟩ | ⟨l1,g1⟩
   . rcases YU h2 with ⟨l2,g2⟩ | ⟨l2,g2⟩
     . exact hne (l1.trans l2.symm)
     . rw [g1] at e1
       (have e:gg=b:=by injection e1);rw [<- e] at e2;exact agD l2 g2 e2
   . rcases YU h2 with ⟨l2,g2⟩ | ⟨l2,g2⟩
     . rw [g2] at e2
       (have e:gg=b:=by injection e2);rw [<- e] at e1;exact agD l1 g1 e1
     . exact h.apart k l V1 V2 g1 g2 hne b e1 e2
 . have e0:vb=b:=by injection e1
   rcases YU h1 with ⟨l1,g1⟩ | ⟨l1,g1⟩
   . rw [g1] at e2
     (have e:gg=b:=by injection e2);exact gvb (e.trans e0.symm)
   . exact h.off k V' g1 vb wX (by rw [e2,e0])
 . rcases WO h1 with ⟨l1,g1⟩ | ⟨l1,g1⟩
   . rw [g1] at hy
     rcases gV.1 hy with hy | hy
     . exact h.ok j E hE y hy
     . rw [en.1 hy];exact hx
   . exact h.ok k E' g1 y hy
 . have:=h.aB.size
   obtain ⟨V2,E2,q1,q2,q3⟩:=h.at_ hj;rw [hV] at q1;injection q1 with q1
   subst q1;exact ((h.aB.alloc h.aB.size o).grown rE (by simp;omega) (fun k hk=>(q3.lt k hk).1)).setCell (p:=⟨vb,j,none⟩) hvl.1 _
end
structure wJ (i:Nat) (L:List TV) (M:Mv) (Es:List (List bA)):Prop where
 len:mQ i M<=Es.length
 at_:∀(j:Nat) (E:List bA),Es[j]? =some E->aU (E.map (·.2))=oD i j M
 sub:∀(j:Nat) (E:List bA),Es[j]? =some E->∀x∈E,x.2∈L
def RJ {M:Mv}(h0:∀t∈M,0<=nth t.1 i) (h:mQ i M<=j):oD i j M=[]:=by
 unfold oD;rw [List.filter_eq_nil_iff];intro t ht e;have h1:=DT (i:=i) ht;have h2:=eq_of_beq e;omega
section
variable {i : Nat} {L : List TV} {M : Mv} {Es : List (List bA)}
def wJ.start (i:Nat) (L:List TV):wJ i L [] []:=⟨aK,fun j E h=>by simp at h,fun j E h=>by simp at h⟩
def wJ.push (h:wJ i L M Es) (h0:∀t∈M,0<=nth t.1 i):wJ i L M (Es++[[]]):=by
 have We:∀{j:Nat} {E:List bA},(Es++[[]])[j]? =some E->Es[j]? =some E∨(j=Es.length∧E=[]):=fun {j E} hj=>by
  rcases qz j Es.length with hl | hl
  . rw [Sr hl] at hj;exact .inl hj
  . rw [CK hl] at hj
    by_cases e:j=Es.length
    . rw [e,pT] at hj
      exact .inr ⟨e,by injection hj with hj;exact hj.symm⟩
    . rw [TI (by show 1<=_;omega)] at hj;cases hj
 refine ⟨by rw [eF];have:=h.len;omega,fun j E hj=> ?_,fun j E hj x hx=> ?_⟩
 . rcases We hj with g | ⟨g1,g2⟩
   . exact h.at_ j E g
   . rw [g2,RJ h0 (by rw [g1];exact h.len)];rfl
 . rcases We hj with g | ⟨g1,g2⟩
   . exact h.sub j E g x hx
   . rw [g2] at hx;cases hx
def wJ.add (h:wJ i L M Es) {j:Nat} {E:List bA} {x:bA}(hE:Es[j]? =some E) (hx:x.2∈L) (hn:nth (bp x.2).1 i=(j:Int)):wJ i L (M++[bp x.2]) (Es.set j (E++[x])):=by
 have hjE:j<Es.length:=(FU.1 hE).1;have WO:∀{k:Nat} {E':List bA},(Es.set j (E++[x]))[k]? =some E'->(k=j∧E'=E++[x])∨(k≠j∧Es[k]? =some E'):=fun {k E'} hk=>by
  by_cases e:k=j
  . subst e
    rw [TH hjE] at hk;injection hk with hk
    exact .inl ⟨rfl,hk.symm⟩
  . rw [TF (fun h=>e h.symm)] at hk
    exact .inr ⟨e,hk⟩
 refine ⟨?_,fun k E' hk=> ?_,fun k E' hk y hy=> ?_⟩
 . rw [gH,vL]
   refine Nat.max_le.2 ⟨h.len,?_⟩;show max _ 0<=_;rw [hn];omega
 . rw [MB]
   rcases WO hk with ⟨g1,g2⟩ | ⟨g1,g2⟩
   . subst g1;subst g2
     rw [jK,fT,h.at_ k E hE];congr 1
     unfold oD;rw [I2,aM (by rw [hn];exact beq_self_eq_true _)];rfl
   . rw [h.at_ k E' g2]
     unfold oD;rw [I2,af (fun e=>g1 (by have:=eq_of_beq e;omega)),List.filter_nil,tH]
 . rcases WO hk with ⟨g1,g2⟩ | ⟨g1,g2⟩
   . rw [g2] at hy
     rcases gV.1 hy with hy | hy
     . exact h.sub j E hE y hy
     . rw [en.1 hy];exact hx
   . exact h.sub k E' g2 y hy
end
noncomputable def dn:(n:Nat)->fE->Pn n->Mv
 | 0,pre,z=>if vG z=0 then [] else [(pre,vG z)]
 | n+1,pre,f=>(List.range (kids f).len).flatMap fun k:Nat=>dn n (pre++[(k:Int)]) ((kids f).co k)
def gW (pre:fE) (z:Pn 0):dn 0 pre z=if vG z=0 then [] else [(pre,vG z)]:=rfl
def j7 (n:Nat) (pre:fE) (f:Pn (n+1)):dn (n+1) pre f=(List.range (kids f).len).flatMap fun k:Nat=>dn n (pre++[(k:Int)]) ((kids f).co k):=rfl
def DD:∀{n:Nat} {pre:fE} {f:Pn n} {D:Nat->Nat} {d:Nat},aI.dg D f->(∀j,D j<=d)->∀t∈dn n pre f,∃e:fE,t.1=pre++e∧e.length=n∧(∀x∈e,0<=x∧x<=(d:Int))∧t.2≠0
 | 0,pre,z,D,d,_,_,t,ht=>by
   rw [gW] at ht;by_cases h:vG z=0
   . rw [aM h] at ht;cases ht
   . rw [af h] at ht
     rw [en.1 ht];exact ⟨[],(tH _).symm,rfl,fun x hx=>absurd hx (pE),h⟩
 | n+1,pre,f,D,d,hf,hD,t,ht=>by
   have D8:Poly.mX D (kids f):=hf;rw [j7] at ht;obtain ⟨k,hk,ht⟩:=uR.1 ht;have F3:=oo.1 hk;obtain ⟨e,h1,h2,h3,h4⟩:=DD (D8.2 k) (fun j=>hD (j+1)) t ht;refine ⟨(k:Int)::e,by rw [h1,vA];rfl,by rw [rI,h2],fun x hx=> ?_,h4⟩;rcases iV.1 hx with rfl | hx
   . have h5:=Poly.bU D8.1
     have h6:=hD 0;constructor<;>omega
   . exact h3 x hx
def abn:∀{n:Nat}(f:Pn n),∃D,aI.dg D f∧∃d,∀j,D j<=d
 | 0,_=>⟨fun _=>0,trivial,0,fun _=>aK⟩
 | n+1,f=>by
   have key:∀m,∃D d,(∀i,i<m->aI.dg D ((kids f).co i))∧∀j,D j<=d:=fun m=>by
    induction m with
    | zero=>exact ⟨fun _=>0,0,fun i hi=>absurd hi (tG i),fun _=>aK⟩
    | succ m ih=>
      obtain ⟨D,d,h1,h2⟩:=ih;obtain ⟨E,h3,e,h4⟩:=abn ((kids f).co m);refine ⟨fun j=>max (D j) (E j),max d e,fun i hi=> ?_,fun j=>by have:=h2 j;have:=h4 j;show max _ _<=_;omega⟩;by_cases hm:i=m
      . rw [hm];exact aI.jk _ _ _ (fun j=>LH _ _) h3
      . exact aI.jk _ _ _ (fun j=>LI _ _) (h1 i (by omega))
   obtain ⟨D,d,h1,h2⟩:=key (kids f).len;refine ⟨Poly.bZ (kids f).len D,(show Poly.mX _ (kids f) from ⟨(Poly.az _).mono (rG _),fun i=> ?_⟩),max (kids f).len d,fun j=> ?_⟩
   . by_cases hi:i<(kids f).len
     . exact h1 i hi
     . rw [Poly.az _ i (by omega)];exact aI.fQ _
   . cases j with
     | zero=>exact LI _ _
     | succ j=>exact aH (h2 j) (LH _ _)
def rY {pre:fE} {f:Pn n} {t:mj}(ht:t∈dn n pre f):∃e:fE,t.1=pre++e∧e.length=n∧(∀x∈e,0<=x)∧t.2≠0:=by
 obtain ⟨D,h1,d,h2⟩:=abn f;obtain ⟨e,g1,g2,g3,g4⟩:=DD h1 h2 t ht;exact ⟨e,g1,g2,fun x hx=>(g3 x hx).1,g4⟩
def GU {k:Nat} {g:Nat->Int}(hk:k<m) (h:∀j,j<m->j≠k->g j=0):fD g (List.range m)=g k:=by
 refine J6 (List.pairwise_lt_range.imp fun h=>Nat.ne_of_lt h) (oo.2 hk) fun j hj hne=>h j (oo.1 hj) hne
def J2:∀(n:Nat) (pre:fE) (f:Pn n) (p:fE),p.length=n->iA (dn n pre f) (pre++p)=cf n f p
 | 0,pre,z,p,hp=>by
   rw [lz hp,tH,gW];by_cases h:vG z=0
   . rw [aM h];exact h.symm
   . rw [af h,av,aM rfl,rU]
     exact zl _
 | n+1,pre,f,[],hp=>by cases hp
 | n+1,pre,f,e::p,hp=>by
   have Jm:p.length=n:=by simpa using hp
   rw [kH,j7];unfold iA;rw [DG];have hz:∀k:Nat,(k:Int)≠e->fD (fun t:mj=>if t.1=pre++e::p then t.2 else 0) (dn n (pre++[(k:Int)]) ((kids f).co k))=0:=fun k hk=>oM fun t ht=>af fun h=>by
    obtain ⟨e',h1,_⟩:=rY ht;rw [h1,vA] at h;exact hk (l6 (List.append_cancel_left h)).1
   by_cases he:0<=e
   . rw [aM he]
     (have hke:((e.toNat:Nat):Int)=e:=by omega);by_cases hl:e.toNat<(kids f).len
     . rw [GU hl fun j _ hne=>hz j (by omega)]
       have ih:=J2 n (pre++[((e.toNat:Nat):Int)]) ((kids f).co e.toNat) p Jm;rw [<- ih,vA,hke];rfl
     . rw [Poly.az _ _ (by omega),rW]
       exact oM fun k hk=>hz k (by have:=oo.1 hk;omega)
   . rw [af he]
     exact oM fun k _=>hz k (by omega)
def Uz:∀(pre:fE) {a b:fE},jN a b->jN (pre++a) (pre++b)
 | [],_,_,h=>h
 | _::pre,_,_,h=> .inr ⟨rfl,Uz pre h⟩
def J1:∀(n:Nat) (pre:fE) (f:Pn n),(dn n pre f).Pairwise fun s t=>jN s.1 t.1
 | 0,pre,z=>by
   rw [gW];split
   . exact List.Pairwise.nil
   . exact EO _ _
 | n+1,pre,f=>by
   rw [j7];have key:∀l:List Nat,l.Pairwise (· < ·)->(l.flatMap fun k:Nat=>dn n (pre++[(k:Int)]) ((kids f).co k)).Pairwise fun s t=>jN s.1 t.1:=fun l=>by
    induction l with
    | nil=>intro _;exact List.Pairwise.nil
    | cons k l ih=>
      intro h;obtain ⟨h1,h2⟩:=jC.1 h;rw [vo];refine EP.2 ⟨J1 n _ _,ih h2,fun s hs t ht=> ?_⟩;obtain ⟨k',F3,ht⟩:=uR.1 ht;obtain ⟨e1,g1,_⟩:=rY hs;obtain ⟨e2,g2,_⟩:=rY ht;rw [g1,g2,vA,vA];have:=h1 k' F3;exact Uz pre (.inl (show (k:Int)<(k':Int) by omega))
   exact key _ List.pairwise_lt_range
def Li (n:Nat) (f:Pn n):bC n (dn n [] f).reverse:=
 ⟨fun t ht=>by
   obtain ⟨e,h1,h2,_⟩:=rY (Iz.1 ht);rw [h1];exact h2,by
   rw [List.pairwise_reverse];exact J1 n [] f,fun t ht=>by
   obtain ⟨e,_,_,_,h4⟩:=rY (Iz.1 ht);exact h4⟩
def rX (n:Nat) (f:Pn n) (p:fE) (hp:p.length=n):iA (dn n [] f).reverse p=cf n f p:=by
 rw [Pv (Tu _)];exact J2 n [] f p hp
def IV {α:Type} {F:Nat->List α}:∀l:List Nat,(∀k∈l,(F k).length<=B)->(l.flatMap F).length<=l.length*B
 | [],_=>dc _
 | k::l,h=>by
   rw [vo,eF,rI,bQ,bP];have h1:=h k ay;have h2:=IV l fun j hj=>h j (bn _ hj);omega
def mF:∀{n:Nat} {pre:fE} {f:Pn n} {D:Nat->Nat},aI.dg D f->(dn n pre f).length<=aI.j6 (Pn n) D
 | 0,pre,z,D,_=>by
   rw [gW];split
   . exact dc _
   . exact aK
 | n+1,pre,f,D,h=>by
   have h':Poly.mX D (kids f):=h;rw [j7];refine aH (IV (B:=aI.j6 (Pn n) (fun j=>D (j+1))) _ fun k _=>mF (h'.2 k)) ?_;rw [EM];show _<=(D 0+1)*aI.j6 (Pn n) (fun j=>D (j+1));exact bI _ (Poly.bU h'.1)
def GN:∀(n:Nat) (pre:fE) (f:Pn n),dn n pre (-f)=(dn n pre f).map fun t=>(t.1, -t.2)
 | 0,pre,z=>by
   rw [gW,gW];by_cases h:vG z=0
   . rw [aM h,aM (by rw [LW,h];rfl)];rfl
   . rw [af h,af (fun e=>h (by rw [LW] at e;omega))];rfl
 | n+1,pre,f=>by
   have hl:(kids (-f)).len=(kids f).len:=Tc (Poly.bU fun i hi=>by rw [BR,Poly.ze,Poly.az _ i hi,aG.neg_zero]) (Poly.bU fun i hi=>by
    have h1:=Poly.az (kids (-f)) i hi;rw [BR,Poly.ze] at h1;rw [<- aG.neg_neg ((kids f).co i),h1,aG.neg_zero])
   rw [j7,j7,hl,List.map_flatMap];refine IW fun k _=> ?_;rw [BR,Poly.ze];exact GN n _ _
def tP (L:Mv):Prop:=∀t∈L,∀x∈t.1,0<=x
def tP.append {L M:Mv}(h:tP L) (k:tP M):tP (L++M):=fun t ht=>(gV.1 ht).elim (h t) (k t)
def tP.tail {t:mj} {L:Mv}(h:tP (t::L)):tP L:=fun s hs=>h s (bn _ hs)
def GG:∀{a b:fE},(∀x∈a,0<=x)->(∀x∈b,0<=x)->∀x∈eE a b,0<=x
 | [],b,_,_,x,hx=>by cases b<;>exact absurd hx pE
 | _::_,[],_,_,x,hx=>absurd hx pE
 | u::a,v::b,h,k,x,hx=>by
   rcases iV.1 (show x∈(u+v)::eE a b from hx) with rfl | hx
   . have h1:=h u ay
     have h2:=k v ay;omega
   . exact GG (fun y hy=>h y (bn _ hy)) (fun y hy=>k y (bn _ hy)) x hx
def tP.mul {L M:Mv}(h:tP L) (k:tP M):tP (mulM L M):=fun t ht=>by
 obtain ⟨a,ha,ht⟩:=uR.1 ht;obtain ⟨b,hb,rfl⟩:=aj.1 ht;exact GG (h a ha) (k b hb)
def tP.scale {L:Mv}(h:tP L) (c:Int):tP (gD c L):=fun t ht=>by
 obtain ⟨x,hx,rfl⟩:=aj.1 ht;exact h x hx
noncomputable def iO (n:Nat) (L:Mv):Pn n:=iy n 0 L
section
variable {n : Nat} {L M : Mv}
def pI (h:fI n L) (k:tP L) {p:fE}(hp:p.length=n):cf n (iO n L) p=iA L p:=by
 unfold iO;rw [Px n 0 L p (fun t ht=>by rw [h t ht];omega) k hp];rfl
section
variable (hL:fI n L) (kL:tP L) (hM:fI n M) (kM:tP M)
include hL kL hM kM
theorem GM (e:jR n L M):iO n L=iO n M:=uP fun p hp=>by rw [pI hL kL hp,pI hM kM hp,e p hp]
theorem LZ (e:iO n L=iO n M):jR n L M:=fun p hp=>by rw [<- pI hL kL hp,<- pI hM kM hp,e]
theorem Lc:iO n (L++M)=iO n L+iO n M:=uP fun p hp=>by
 rw [Sc,pI (hL.append hM) (kL.append kM) hp,pI hL kL hp,pI hM kM hp,jI]
end
def adA (hL:fI n L) (kL:tP L):iO n (gD (-1) L)= -iO n L:=uP fun p hp=>by
 rw [abD,pI (hL.scale _) (kL.scale _) hp,pI hL kL hp,uy];omega
def AJ (n:Nat):iO n []=0:=uP fun p hp=>by
 rw [pI (fun t ht=>absurd ht pE) (fun t ht=>absurd ht pE) hp,rW];rfl
end
noncomputable def Le:(n:Nat)->fE->Int->Pn n
 | 0,_,c=>X6 c
 | n+1,e::p,c=>mkK (Poly.mono e.toNat (Le n p c))
 | _+1,[],_=>0
def DB:∀(n:Nat) (p:fE) (c:Int) (q:fE),p.length=n->q.length=n->(∀x∈p,0<=x)->cf n (Le n p c) q=if p=q then c else 0
 | 0,p,c,q,hp,hq,_=>by
   rw [lz hp,lz hq,aM rfl];rfl
 | n+1,[],_,_,hp,_,_=>by cases hp
 | n+1,_::_,_,[],_,hq,_=>by cases hq
 | n+1,e::p,c,x::q,hp,hq,h=>by
   have ih:=DB n p c q (by simpa using hp) (by simpa using hq) fun y hy=>h y (bn _ hy);have he:=h e ay;have e1:kids (Le (n+1) (e::p) c)=Poly.mono e.toNat (Le n p c):=rfl;rw [kH,e1,Poly.dV];by_cases hx:0<=x
   . rw [aM hx]
     by_cases FB:x=e
     . subst FB
       rw [aM rfl,ih];by_cases hpq:p=q
       . rw [aM hpq,aM (by rw [hpq])]
       . rw [af hpq,af (fun h3=>hpq (l6 h3).2)]
     . rw [af (by omega),rW,af (fun h3=>FB (l6 h3).1.symm)]
   . rw [af hx,af (fun h3=>hx (by rw [<-(l6 h3).1];exact he))]
def Ld:∀(n:Nat) (p q:fE) (c d:Int),p.length=n->q.length=n->(∀x∈p,0<=x)->(∀x∈q,0<=x)->Le n (eE p q) (c*d)=Le n p c*Le n q d
 | 0,_,_,_,_,_,_,_,_=>rfl
 | n+1,[],_,_,_,hp,_,_,_=>by cases hp
 | n+1,_::_,[],_,_,_,hq,_,_=>by cases hq
 | n+1,e::p,x::q,c,d,hp,hq,h,k=>by
   have ih:=Ld n p q c d (by simpa using hp) (by simpa using hq) (fun y hy=>h y (bn _ hy)) fun y hy=>k y (bn _ hy);have he:=h e ay;have hx:=k x ay;show mkK (Poly.mono (e+x).toNat (Le n (eE p q) (c*d)))=mkK (Poly.mono e.toNat (Le n p c)*Poly.mono x.toNat (Le n q d));rw [Poly.Gs,ih,show (e+x).toNat=e.toNat+x.toNat by omega]
def UO {t:mj}(h:t.1.length=n) (k:∀x∈t.1,0<=x):iO n [t]=Le n t.1 t.2:=uP fun p hp=>by
 rw [pI (fun s hs=>by rw [en.1 hs];exact h) (fun s hs=>by rw [en.1 hs];exact k) hp,DB n t.1 t.2 p h hp k,av,rU,zl]
section
variable {n : Nat}
def fI.one {t:mj}(h:t.1.length=n):fI n [t]:=fun s hs=>by rw [en.1 hs];exact h
def tP.one {t:mj}(k:∀x∈t.1,0<=x):tP [t]:=fun s hs=>by rw [en.1 hs];exact k
def fI.tail {t:mj} {L:Mv}(h:fI n (t::L)):fI n L:=fun s hs=>h s (bn _ hs)
def wu {t:mj} {L:Mv}(h:fI n (t::L)) (k:tP (t::L)):iO n (t::L)=Le n t.1 t.2+iO n L:=by
 have h1:=h t ay;have k1:=k t ay;have:=Lc (n:=n) (fI.one h1) (tP.one k1) h.tail k.tail;rw [UO h1 k1] at this;exact this
def zI {t:mj}(h1:t.1.length=n) (k1:∀x∈t.1,0<=x):∀{M:Mv},fI n M->tP M->iO n (M.map fun b=>(eE t.1 b.1,t.2*b.2))=Le n t.1 t.2*iO n M
 | [],_,_=>by
   show iO n []=_;rw [AJ,aG.mul_zero]
 | s::M,h,k=>by
   have hs:=h s ay;have ks:=k s ay;have e:((s::M).map fun b=>(eE t.1 b.1,t.2*b.2))=(eE t.1 s.1,t.2*s.2)::M.map fun b=>(eE t.1 b.1,t.2*b.2):=rfl;have hl:fI n ((s::M).map fun b=>(eE t.1 b.1,t.2*b.2)):=fun u hu=>by
    obtain ⟨b,hb,rfl⟩:=aj.1 hu;exact oI h1 (h b hb)
   have hk:tP ((s::M).map fun b=>(eE t.1 b.1,t.2*b.2)):=fun u hu=>by
    obtain ⟨b,hb,rfl⟩:=aj.1 hu;exact GG k1 (k b hb)
   rw [e] at hl hk ⊢;rw [wu hl hk,wu h k,aG.mul_add,zI h1 k1 h.tail k.tail];congr 1
   exact Ld n t.1 s.1 t.2 s.2 h1 hs k1 ks
def AO:∀{L M:Mv},fI n L->tP L->fI n M->tP M->iO n (mulM L M)=iO n L*iO n M
 | [],M,_,_,_,_=>by
   show iO n []=_;rw [AJ,aG.zero_mul]
 | t::L,M,h,k,hM,kM=>by
   have h1:=h t ay;have k1:=k t ay;have e:mulM (t::L) M=(M.map fun b=>(eE t.1 b.1,t.2*b.2))++mulM L M:=vo;have hl:fI n (M.map fun b=>(eE t.1 b.1,t.2*b.2)):=fun u hu=>by
    obtain ⟨b,hb,rfl⟩:=aj.1 hu;exact oI h1 (hM b hb)
   have hk:tP (M.map fun b=>(eE t.1 b.1,t.2*b.2)):=fun u hu=>by
    obtain ⟨b,hb,rfl⟩:=aj.1 hu;exact GG k1 (kM b hb)
   rw [e,Lc hl hk (h.tail.mul hM) (k.tail.mul kM),wu h k,aG.add_mul,zI h1 k1 hM kM,AO h.tail k.tail hM kM]
end
noncomputable def mU (n:Nat) (f:Pn n):Mv:=(dn n [] f).reverse
def jA (n:Nat) (f:Pn n):tP (mU n f):=fun t ht=>by
 obtain ⟨e,h1,_,h3,_⟩:=rY (Iz.1 ht);rw [h1];exact h3
def dQ (n:Nat) (f:Pn n):bC n (mU n f):=Li n f
def mD (n:Nat) (f:Pn n):iO n (mU n f)=f:=uP fun p hp=>by rw [pI (dQ n f).len (jA n f) hp];exact rX n f p hp
def lQ {L:Mv} {f:Pn n}(h:bC n L) (k:tP L) (e:iO n L=f):L=mU n f:=
 h.unique (dQ n f) (LZ h.len k (dQ n f).len (jA n f) (by rw [mD];exact e))
def o7 (f:Pn n):Prop:=∀t L,mU n f=t::L->0<t.2
def Fp (n:Nat) (f:Pn n):mU n (-f)=(mU n f).map fun t=>(t.1, -t.2):=by
 unfold mU;rw [GN,Tt]
def sR {f:Pn n}:mU n f=[]↔f=0:=by
 constructor
 . intro h
   rw [<- mD n f,h,AJ]
 . intro h
   rw [h];exact (lQ (bC.nil n) (fun t ht=>absurd ht pE) (AJ n)).symm
def o7.eq {n:Nat} {f g:Pn n}(h:o7 f) (k:o7 g) (e:g=f∨g= -f):g=f:=by
 rcases e with e | e
 . exact e
 . cases hf:mU n f with
   | nil=>
     have h0:=sR.1 hf;rw [e,h0,aG.neg_zero]
   | cons t L=>
     exfalso;have h1:=h t L hf;have h2:=k (t.1, -t.2) (L.map fun t=>(t.1, -t.2)) (by rw [e,Fp,hf];rfl);have h3:0< -t.2:=h2;omega
def Z2 (h:a*b=1):a=1∨a= -1:=by
 have h1:a.natAbs*b.natAbs=1:=by rw [<- vn,h];rfl
 have h2:a.natAbs=1:=Nat.eq_one_of_mul_eq_one_right h1;omega
def LU:∀{n:Nat} {a b:Pn n},a*b=1->a=1∨a= -1
 | 0,a,b,h=>Z2 (a:=vG a) (b:=vG b) h
 | n+1,a,b,h=>by
   have h':kids a*kids b=1:=h;have nh:(1:Poly (Pn n))≠0:=Dom.nh;have ha:kids a≠0:=fun e=>nh (by rw [<- h',e,aG.zero_mul]);have hb:kids b≠0:=fun e=>nh (by rw [<- h',e,aG.mul_zero]);have hl:=(Poly.lZ ha hb).1;have l1:(1:Poly (Pn n)).len<=1:=Poly.bU fun i hi=>by rw [Poly.uM,af (by omega)]
   have pa:=Poly.cH ha;have pb:=Poly.cH hb;rw [h'] at hl;have sa:(kids a).Sh 1:=(Poly.az _).mono (by omega);have sb:(kids b).Sh 1:=(Poly.az _).mono (by omega);have e0:(kids a).co 0*(kids b).co 0=1:=by
    (have h2:(kids a*kids b).co 0=(1:Poly (Pn n)).co 0:=by rw [h']);rw [Poly.oZ,Poly.uM,aM rfl,aG.eW,aG.kO,aG.zero_add] at h2;exact h2
   rcases LU e0 with h3 | h3
   . left
     refine Poly.ext (a:=kids a) (b:=(1:Poly (Pn n))) fun i=> ?_;rw [Poly.uM];by_cases hi:i=0
     . rw [hi,aM rfl,h3]
     . rw [af hi,sa i (by omega)]
   . right
     refine Poly.ext (a:=kids a) (b:= -(1:Poly (Pn n))) fun i=> ?_;rw [Poly.ze,Poly.uM];by_cases hi:i=0
     . rw [hi,aM rfl,h3]
     . rw [af hi,sa i (by omega),aG.neg_zero]
def abL {f g:Pn n}(h:Dv f g) (k:Dv g f):g=f∨g= -f:=by
 obtain ⟨u,hu⟩:=h;obtain ⟨v,hv⟩:=k;by_cases hf:f=0
 . left
   rw [hu,hf,aG.zero_mul]
 . have h1:f*(u*v)=f*1:=by rw [<- aG.mul_assoc,<- hu,<- hv,aG.mul_one]
   rcases LU (Dom.cancel hf h1) with h2 | h2
   . left;rw [hu,h2,aG.mul_one]
   . right;rw [hu,h2,aG.mul_neg,aG.mul_one]
def nL.pm {g h a b:Pn n}(hg:nL g a b) (hh:nL h a b):h=g∨h= -g:=
 abL (hh.top g hg.l hg.r) (hg.top h hh.l hh.r)
def nL.one {g h a b:Pn n}(hg:nL g a b) (hh:nL h a b) (pg:o7 g) (ph:o7 h):h=g:=pg.eq ph (hg.pm hh)
def nL.neg {g a b:Pn n}(hg:nL g a b):nL (-g) a b:=by
 have h1:Dv (-g) g:=⟨-1,by rw [aG.neg_mul,aG.mul_neg,aG.mul_one,aG.neg_neg]⟩;have h2:Dv g (-g):=(Dv.refl g).neg;exact ⟨h1.trans hg.l,h1.trans hg.r,fun d k l=>(hg.top d k l).trans h2⟩
def BW {g a b:Pn n}(hg:nL g a b):g=0↔a=0∧b=0:=by
 constructor
 . intro h
   rw [h] at hg;exact ⟨Dv.of0 hg.l,Dv.of0 hg.r⟩
 . intro ⟨h1,h2⟩
   have h3:=hg.top 0 (by rw [h1];exact Dv.refl _) (by rw [h2];exact Dv.refl _);exact Dv.of0 h3
def yu (i:Nat) (L:Mv):Mv:=L.map fun t=>(List.replicate i 0++t.1,t.2)
section
variable {i m : Nat} {A B : Mv}
def Qn (i:Nat) (A B:Mv):yu i (A++B)=yu i A++yu i B:=jK
def Ns (L:Mv):yu 0 L=L:=by
 unfold yu;rw [show (fun t:mj=>(List.replicate 0 0++t.1,t.2))=id from rfl,List.map_id]
def adu (h:fI m A):fI (i+m) (yu i A):=fun t ht=>by
 obtain ⟨s,hs,rfl⟩:=aj.1 ht;rw [eF,gI,h s hs]
def Ka:∀(i:Nat) {a b:fE},jN a b->jN (List.replicate i 0++a) (List.replicate i 0++b)
 | 0,_,_,h=>h
 | i+1,_,_,h=> .inr ⟨rfl,Ka i h⟩
def V4 (h:bC m A):bC (i+m) (yu i A):=⟨adu h.len,mZ.2 (h.ord.imp fun h=>Ka i h),fun t ht=>by
 obtain ⟨s,hs,rfl⟩:=aj.1 ht;exact h.ne s hs⟩
def V3 (c:Int):yu i (gD c A)=gD c (yu i A):=by
 unfold yu gD;rw [jw,jw];rfl
def Io:∀(i:Nat) (a b:fE),eE (List.replicate i 0++a) (List.replicate i 0++b)=List.replicate i 0++eE a b
 | 0,_,_=>rfl
 | i+1,a,b=>by
   show (0+0)::eE (List.replicate i 0++a) (List.replicate i 0++b)=0::_;rw [Io i];rfl
def UJ:yu i (mulM A B)=mulM (yu i A) (yu i B):=by
 unfold yu mulM;rw [List.map_flatMap,List.flatMap_map];congr 1
 funext a
 rw [jw,jw];refine ER fun b _=> ?_;show (List.replicate i 0++eE a.1 b.1,_)=(eE (List.replicate i 0++a.1) (List.replicate i 0++b.1),_);rw [Io]
def uz (q:fE):∀A:Mv,iA (yu i A) (List.replicate i 0++q)=iA A q
 | []=>rfl
 | t::A=>by
   show iA ((List.replicate i 0++t.1,t.2)::yu i A) _=_;rw [av,av,uz q A];simp only [List.append_cancel_left_eq]
def sH {p:fE}(h:∀q:fE,p≠List.replicate i 0++q):∀A:Mv,iA (yu i A) p=0
 | []=>rfl
 | t::A=>by
   show iA ((List.replicate i 0++t.1,t.2)::yu i A) _=_;rw [av,sH h A,af (fun e=>h _ e.symm)];rfl
def YL (h:jR m A B):jR (i+m) (yu i A) (yu i B):=fun p hp=>by
 by_cases hq:∃q:fE,p=List.replicate i 0++q
 . obtain ⟨q,rfl⟩:=hq
   rw [uz,uz];refine h q ?_;rw [eF,gI] at hp;omega
 . have h2:∀q:fE,p≠List.replicate i 0++q:=fun q e=>hq ⟨q,e⟩
   rw [sH h2,sH h2]
end
noncomputable def iI (i m:Nat) (f:Pn m):Mv:=yu i (mU m f)
section
variable {i m : Nat} {L : Mv} {f g : Pn m}
def lN (i:Nat) (f:Pn m):bC (i+m) (iI i m f):=V4 (dQ m f)
section
variable (h:bC (i+m) L)
include h
theorem Lv {A:Mv}(hA:fI m A) (kA:tP A) (e:jR (i+m) L (yu i A)):L=iI i m (iO m A):=by
 refine h.unique (lN i _) (e.trans (YL ?_));exact LZ hA kA (dQ m _).len (jA m _) (by rw [mD])
theorem Ya (e:jR (i+m) L (mulM (iI i m f) (iI i m g))):L=iI i m (f*g):=by
 have hf:=dQ m f;have hg:=dQ m g;have e1:jR (i+m) L (yu i (mulM (mU m f) (mU m g))):=by rw [UJ];exact e
 rw [Lv h (hf.len.mul hg.len) ((jA m f).mul (jA m g)) e1,AO hf.len (jA m f) hg.len (jA m g),mD,mD]
theorem Yd (e:jR (i+m) L (iI i m f++iI i m g)):L=iI i m (f+g):=by
 have hf:=dQ m f;have hg:=dQ m g;have e1:jR (i+m) L (yu i (mU m f++mU m g)):=by rw [Qn];exact e
 rw [Lv h (hf.len.append hg.len) ((jA m f).append (jA m g)) e1,Lc hf.len (jA m f) hg.len (jA m g),mD,mD]
theorem OD (e:jR (i+m) L (gD (-1) (iI i m f))):L=iI i m (-f):=by
 have hf:=dQ m f;have e1:jR (i+m) L (yu i (gD (-1) (mU m f))):=by rw [V3];exact e
 rw [Lv h (hf.len.scale _) ((jA m f).scale _) e1,adA hf.len (jA m f),mD]
end
def xD:iI i m f=[]↔f=0:=by
 unfold iI yu;rw [List.map_eq_nil_iff];exact sR
end
def xY (i:Nat) (k:Int) (L:Mv):Mv:=(L.filter fun t=>nth t.1 i==k).map fun t=>(t.1.set i 0,t.2)
def DL (i:Nat) (k:Int) (L:Mv):Mv:=L.map fun t=>(t.1.set i (nth t.1 i+k),t.2)
section
variable {n i m : Nat}
def N7 {a p:fE} {k:Int}(ha:a.length=p.length) (hi:i<p.length) (hk:nth a i=k) (hp:nth p i=0):a.set i 0=p↔a=p.set i k:=by
 constructor
 . intro e
   refine oT (by rw [gH];exact ha) fun j hj=> ?_;rw [iX hi];by_cases e2:j=i
   . rw [aM e2,e2];exact hk
   . rw [af e2,<- e,iX (by omega),af e2]
 . intro e
   refine oT (by rw [gH];exact ha) fun j hj=> ?_;rw [iX (by omega)];by_cases e2:j=i
   . rw [aM e2,e2];exact hp.symm
   . rw [af e2,e,iX hi,af e2]
def abz {k:Int} {p:fE}(hp:p.length=n) (hi:i<n) (h0:nth p i=0):∀{L:Mv},fI n L->iA (xY i k L) p=iA L (p.set i k)
 | [],_=>rfl
 | t::L,h=>by
   have ih:=abz hp hi h0 (L:=L) (k:=k) fun s hs=>h s (bn _ hs);have hl:=h t ay;by_cases e:nth t.1 i=k
   . have e1:xY i k (t::L)=(t.1.set i 0,t.2)::xY i k L:=by
      unfold xY;rw [xk (by simpa using e)];rfl
     rw [e1,av,av,ih];simp only [N7 (by omega:t.1.length=p.length) (by omega:i<p.length) e h0]
   . have e1:xY i k (t::L)=xY i k L:=by
      unfold xY;rw [vk (by simpa using e)]
     rw [e1,av,ih,af (fun e2=>e (by rw [e2,iX (by omega),aM rfl])),EU]
def alo {k:Int} {p:fE}(hi:i<n) (h0:nth p i≠0):∀{L:Mv},fI n L->iA (xY i k L) p=0:=fun {L} h=>by
 have key:∀M:Mv,(∀t∈M,nth t.1 i=0)->iA M p=0:=fun M=>by
  induction M with
  | nil=>intro _;rfl
  | cons t M ih=>
    intro h;rw [av,ih fun s hs=>h s (bn _ hs),af (fun e=>h0 (by rw [<- e];exact h t ay))];rfl
 refine key _ fun t ht=> ?_;obtain ⟨s,hs,rfl⟩:=aj.1 ht;have hl:=h s (EN.1 hs).1;show nth (s.1.set i 0) i=0;rw [iX (by omega),aM rfl]
def uf (i:Nat) (q:fE):List.replicate (i+1) (0:Int)++q=List.replicate i 0++0::q:=by
 rw [acz,vA];rfl
def yG (i:Nat) (x:Int) (q:fE):nth (List.replicate i 0++x::q) i=x:=by
 rw [gJ (by simp)];simp
def DJ (i:Nat) (x y:Int) (q:fE):(List.replicate i 0++x::q).set i y=List.replicate i 0++y::q:=by
 rw [List.set_append];simp
def Yc {f:Pn (m+1)}(k:Nat):jR (i+(m+1)) (xY i k (iI i (m+1) f)) (iI (i+1) m ((kids f).co k)):=fun p hp=>by
 have hL:fI (i+(m+1)) (iI i (m+1) f):=(lN i f).len;by_cases h0:nth p i=0
 . rw [abz hp (by omega) h0 hL]
   by_cases hq:∃q:fE,p=List.replicate (i+1) 0++q
   . obtain ⟨q,rfl⟩:=hq
     have hql:q.length=m:=by
      rw [eF,gI] at hp;omega
     rw [uf,DJ,<- uf];unfold iI;rw [uz,uz];have e1:=rX (m+1) f ((k:Int)::q) (by rw [rI,hql]);have e2:=rX m ((kids f).co k) q hql;rw [kH,aM (by omega),jY] at e1;exact e1.trans e2.symm
   . have h2:∀q:fE,p≠List.replicate (i+1) 0++q:=fun q e=>hq ⟨q,e⟩
     have h3:∀q:fE,p.set i k≠List.replicate i 0++q:=fun q e=>by
      have hl:=fN List.length e;rw [gH,eF,gI] at hl;match q,hl with
      | [],hl=>rw [List.length_nil] at hl;omega
      | x::q,_=>
        refine h2 q ?_;have e3:(p.set i k).set i 0=p:=by
         rw [List.set_set];refine oT (by rw [gH]) fun j hj=> ?_;rw [gH] at hj;rw [iX (by omega)];by_cases e4:j=i
         . rw [aM e4,e4,h0]
         . rw [af e4]
        rw [<- e3,e,DJ,uf]
     unfold iI;rw [sH h2,sH h3]
 . rw [alo (by omega) h0 hL]
   refine (sH (fun q e=>h0 ?_) _).symm;rw [e,uf,yG]
def Yx (k:Nat) (c:Pn m):DL i k (iI (i+1) m c)=yu i ((mU m c).map fun t=>((k:Int)::t.1,t.2)):=by
 unfold DL iI yu;rw [jw,jw];refine ER fun t _=> ?_;show (List.set (List.replicate (i+1) 0++t.1) i (nth (List.replicate (i+1) 0++t.1) i+k),t.2)=(List.replicate i 0++((k:Int)::t.1),t.2);rw [uf,yG,DJ,EU]
def RF (k:Nat) (c:Pn m):bC (m+1) ((mU m c).map fun t=>((k:Int)::t.1,t.2)):=by
 have hc:=dQ m c;refine ⟨fun t ht=> ?_,mZ.2 (hc.ord.imp fun h=> .inr ⟨rfl,h⟩),fun t ht=> ?_⟩
 . obtain ⟨s,hs,rfl⟩:=aj.1 ht
   rw [rI,hc.len s hs]
 . obtain ⟨s,hs,rfl⟩:=aj.1 ht
   exact hc.ne s hs
def OC (k:Nat) (c:Pn m):DL i k (iI (i+1) m c)=iI i (m+1) (mkK (Poly.mono k c)):=by
 have hp:=RF k c;have hn:tP ((mU m c).map fun t=>((k:Int)::t.1,t.2)):=fun t ht x hx=>by
  obtain ⟨s,hs,rfl⟩:=aj.1 ht;rcases iV.1 hx with e | e
  . rw [e];omega
  . exact jA m c s hs x e
 rw [Yx];unfold iI;rw [lQ hp hn (f:=mkK (Poly.mono k c)) (uP fun p th=> ?_)];rw [pI hp.len hn th];match p,th with
 | e::q,th=>
   have hq:q.length=m:=by rw [rI] at th;omega
   have key:∀M:Mv,iA (M.map fun t=>((k:Int)::t.1,t.2)) (e::q)=if e=k then iA M q else 0:=fun M=>by
    induction M with
    | nil=>show (0:Int)=_;split<;>rfl
    | cons t M ih=>
      rw [vB,av,av,ih];simp only [Tk];by_cases h:e=k
      . simp only [h,true_and,rJ]
      . simp only [h,vr,show¬(k:Int)=e from fun x=>h x.symm,false_and]
        rfl
   rw [key,kH,uE,Poly.dV];have e2:=rX m c q hq;by_cases h:e=k
   . rw [aM h,aM (by omega),aM (by omega)]
     exact e2
   . rw [af h]
     by_cases h2:0<=e
     . rw [aM h2,af (by omega),rW]
     . rw [af h2]
def dgI (i:Nat) (L:Mv):Int:=L.foldl (fun d t=>max d (nth t.1 i)) (-1)
def abq (L:Mv) (t:mj):dgI i (L++[t])=max (dgI i L) (nth t.1 i):=List.foldl_append
def Pc (i:Nat):∀(L:Mv) (a d:Int),a<=d->(∀t∈L,nth t.1 i<=d)->(a=d∨∃t∈L,nth t.1 i=d)->L.foldl (fun d t=>max d (nth t.1 i)) a=d
 | [],a,d,_,_,h=>by
   rcases h with h | ⟨t,ht,_⟩
   . exact h
   . cases ht
 | t::L,a,d,h1,h2,h3=>by
   have ht:=h2 t ay;refine Pc i L _ d (by show max a _<=d;omega) (fun s hs=>h2 s (bn _ hs)) ?_;rcases h3 with h3 | ⟨s,hs,e⟩
   . left;show max a _=d;omega
   . rcases iV.1 hs with e2 | hs
     . left;rw [e2] at e;show max a _=d;omega
     . exact .inr ⟨s,hs,e⟩
def afI {L:Mv} {p:fE}(h:iA L p≠0):∃t∈L,t.1=p:=by
 refine nw fun hn=>h ?_;have key:∀M:Mv,(∀t∈M,t.1≠p)->iA M p=0:=fun M=>by
  induction M with
  | nil=>intro _;rfl
  | cons t M ih=>
    intro h;rw [av,ih fun s hs=>h s (bn _ hs),af (h t ay)];rfl
 exact key L fun t ht e=>hn ⟨t,ht,e⟩
def afM:∀{m:Nat} {f:Pn m},f≠0->∃q:fE,q.length=m∧cf m f q≠0:=fun {m f} h=>by
 refine nw fun hn=>h (uP fun p hp=> ?_);rw [rW];exact nw fun e=>hn ⟨p,hp,e⟩
def Yb (i:Nat) (f:Pn (m+1)):dgI i (iI i (m+1) f)=((kids f).len:Int)-1:=by
 have hp:=dQ (m+1) f;have hlt:∀t∈iI i (m+1) f,nth t.1 i<=((kids f).len:Int)-1:=fun t ht=>by
  obtain ⟨s,hs,rfl⟩:=aj.1 ht;have hl:=hp.len s hs;have hc:=hp.Mz s hs;have hne:=hp.ne s hs;have e1:=rX (m+1) f s.1 hl;match s,hl,hc,hne,e1 with
  | (e::q,z),hl,hc,hne,e1=>
    show nth (List.replicate i 0++e::q) i<=_;rw [yG];have hz:cf (m+1) f (e::q)≠0:=by
     rw [<- e1];show iA (mU (m+1) f) (e::q)≠0;rw [hc];exact hne
    rw [kH] at hz;refine nw fun hb=>hz ?_;by_cases h2:0<=e
    . rw [aM h2,Poly.az (kids f) e.toNat (by omega),rW]
    . rw [af h2]
 by_cases h0:(kids f).len=0
 . have hf:f=0:=jB.1 h0
   rw [h0,xD.2 hf];rfl
 . have hlc:(kids f).co ((kids f).len-1)≠0:=Poly.vU (show 0<(kids f).len by omega)
   obtain ⟨q,hq,hne⟩:=afM hlc;refine Pc i _ _ _ (by omega) hlt (.inr ?_);have e1:=rX (m+1) f ((((kids f).len-1:Nat):Int)::q) (by rw [rI,hq]);rw [kH,aM (by omega),jY] at e1;obtain ⟨t,ht,e2⟩:=afI (L:=mU (m+1) f) (by show iA (mU (m+1) f) _≠0;unfold mU;rw [e1];exact hne);refine ⟨_,aj.2 ⟨t,ht,rfl⟩,?_⟩;show nth (List.replicate i 0++t.1) i=_;rw [e2,yG];omega
end
def Ej:∀(L:List bA) (k:Nat),(aS L).take (k*3)=aS (L.take k)
 | [],k=>by simp [aS]
 | x::L,0=>by simp [aS]
 | x::L,k+1=>by
   rw [List.take_succ_cons,fV,fV,<- Ej L k];rw [List.take_append,show (kN x).length=3 from rfl,gZ (by show (3:Nat)<=_;omega),show (k+1)*3-3=k*3 by omega]
def El:∀(L:List bA) (k:Nat),(aS L).drop (k*3)=aS (L.drop k)
 | [],k=>by simp [aS]
 | x::L,0=>by simp [aS]
 | x::L,k+1=>by
   rw [List.drop_succ_cons,fV,<- El L k];rw [List.drop_append,show (kN x).length=3 from rfl,List.drop_of_length_le (by show (3:Nat)<=_;omega),show (k+1)*3-3=k*3 by omega,kY]
def Gd (x:bA) (s:Bool) (A:Option Addr) (c:Nat) (ls:List Int):bA:=(((A,c),x.1.2),((s,ls),x.2.2))
def GR:∀(L:List bA) (k:Nat) (h:k<L.length) (s:Bool) (A:Option Addr) (c:Nat) (ls:List Int),((aS L).set (3*k) (.bool s)).set (3*k+1) (.slice A ls.length c)=aS (L.set k (Gd L[k] s A c ls))
 | x::L,0,_,s,A,c,ls=>by rw [Te,fV,fV];rfl
 | x::L,k+1,h,s,A,c,ls=>by
   rw [JF,fV,fV,NM _ _ (by show (3:Nat)<=_;omega),NM _ _ (by show (3:Nat)<=_;omega),show 3*(k+1)-(kN x).length=3*k from by show 3*(k+1)-3=_;omega,show 3*(k+1)+1-(kN x).length=3*k+1 from by show 3*(k+1)+1-3=_;omega,GR L k (Eb h) s A c ls];rfl
section
variable {E : List bA} {n k : Nat}
def xu (E:List bA):Prop:=E.Pairwise fun x y=>jN y.2.2 x.2.2
def xu.put (h:xu E) (hk:k<E.length) (s:Bool) (A:Option Addr) (c:Nat) (ls:List Int):xu (E.set k (Gd E[k] s A c ls)):=by
 unfold xu at h ⊢;have e:(E.set k (Gd E[k] s A c ls)).map (fun x=>x.2.2)=E.map (fun x=>x.2.2):=by
  rw [JE];refine alG (by simp) fun i h1 h2=> ?_;rw [List.getElem_set];split
  . rename_i e;subst e;simp [Gd]
  . simp
 have h2:(E.map (fun x:bA=>x.2.2)).Pairwise (fun p q=>jN q p):=mZ.2 h;rw [<- e] at h2;exact mZ.1 h2
def xu.insert (h:xu E) {x:bA}(h1:∀j (hj:j<E.length),j<k->jN x.2.2 (E[j]).2.2) (h2:∀(hk:k<E.length),jN (E[k]).2.2 x.2.2):xu (E.take k++x::E.drop k):=by
 unfold xu at h ⊢;have hd:∀y∈E.drop k,jN y.2.2 x.2.2:=fun y hy=>by
  obtain ⟨i,hi,rfl⟩:=vq.1 hy;rw [xh] at hi;rw [List.getElem_drop];rcases jJ i with rfl | h0
  . exact h2 (by omega)
  . exact jN.trans (acm.1 h k (k+i) (by omega) (by omega) (by omega)) (h2 (by omega))
 have ht:∀y∈E.take k,jN x.2.2 y.2.2:=fun y hy=>by
  obtain ⟨i,hi,rfl⟩:=vq.1 hy;rw [cS] at hi;rw [List.getElem_take];exact h1 i (by omega) (by omega)
 rw [EP,jC];have h3:=h;rw [<- CO k E,EP] at h3;refine ⟨h3.1,⟨hd,h3.2.1⟩,fun a ha b hb=> ?_⟩;rcases iV.1 hb with rfl | hb
 . exact ht a ha
 . exact h3.2.2 a ha b hb
def insert_eq {x:bA} {M:Mv}(h:jR n (aU (E.map (·.2))) M):jR n (aU ((E.take k++x::E.drop k).map (·.2))) (M++[bp x.2]):=by
 have h1:(aU ((E.take k++x::E.drop k).map (·.2))).Perm (bp x.2::aU (E.map (·.2))):=by
  have h2:(E.take k++x::E.drop k).Perm (x::E):=by
   have:=List.perm_middle (a:=x) (l₁:=E.take k) (l₂:=E.drop k);rwa [CO] at this
  exact (h2.map (·.2)).map bp
 refine (jR.perm h1).trans fun p hp=> ?_;rw [av,h p hp,jI,av,rU];omega
def VV:∀{E:List bA} {k:Nat}(hk:k<E.length) {s:Bool} {A:Option Addr} {c:Nat} {ls:List Int} {z:Int}(_:aF s ls=aF (E[k]).2.1.1 (E[k]).2.1.2+z) (p:fE),iA (aU ((E.set k (Gd E[k] s A c ls)).map (·.2))) p=iA (aU (E.map (·.2))) p+if (E[k]).2.2=p then z else 0
 | x::E,0,_,s,A,c,ls,z,h,p=>by
   show iA ((x.2.2,aF s ls)::aU (E.map (·.2))) p=iA ((x.2.2,aF x.2.1.1 x.2.1.2)::aU (E.map (·.2))) p+if x.2.2=p then z else 0
   have h':aF s ls=aF x.2.1.1 x.2.1.2+z:=h;rw [av,av];show (if x.2.2=p then aF s ls else 0)+_=(if x.2.2=p then aF x.2.1.1 x.2.1.2 else 0)+_+_;split<;>omega
 | x::E,k+1,hk,s,A,c,ls,z,h,p=>by
   have F3:k<E.length:=Eb hk;have ih:=VV (E:=E) (k:=k) F3 (A:=A) (c:=c) h p;show iA (bp x.2::aU ((E.set k (Gd E[k] s A c ls)).map (·.2))) p=iA (bp x.2::aU (E.map (·.2))) p+if (E[k]).2.2=p then z else 0
   rw [av,av,ih];omega
def put_eq {M:Mv}(h:jR n (aU (E.map (·.2))) M) (hk:k<E.length) {s:Bool} {A:Option Addr} {c:Nat} {ls:List Int} {t:mj}(hp:(E[k]).2.2=t.1) (hz:aF s ls=aF (E[k]).2.1.1 (E[k]).2.1.2+t.2):jR n (aU ((E.set k (Gd E[k] s A c ls)).map (·.2))) (M++[t]):=fun p Jm=>by
 rw [VV hk hz,h p Jm,jI,av,rU,hp];omega
def ij (E:List bA):List bA:=E.filter fun x=>aF x.2.1.1 x.2.1.2 !=0
def Xa {E:List bA} {j:Nat}(hj:j<E.length) (h:aF (E[j]).2.1.1 (E[j]).2.1.2≠0):ij (E.take (j+1))=ij (E.take j)++[E[j]]:=by
 unfold ij;rw [lu hj,NI,xk (by simpa using h)];rfl
def abf {E:List bA} {j:Nat}(hj:j<E.length) (h:aF (E[j]).2.1.1 (E[j]).2.1.2=0):ij (E.take (j+1))=ij (E.take j):=by
 unfold ij;rw [lu hj,NI,vk (by simp [h])];simp
def sG {E:List bA} {x:bA}(h:x∈ij E):x∈E∧aF x.2.1.1 x.2.1.2≠0:=by
 obtain ⟨h1,h2⟩:=EN.1 h;exact ⟨h1,by simpa using h2⟩
def abg (E:List bA):(ij E).length<=E.length:=NQ _ _
def Pb (n:Nat):∀E:List bA,jR n (aU ((ij E).map (·.2))) (aU (E.map (·.2)))
 | [],p,_=>rfl
 | x::E,p,hp=>by
   have ih:=Pb n E p hp;show _=iA (bp x.2::aU (E.map (·.2))) p;rw [av,<- ih];by_cases h:aF x.2.1.1 x.2.1.2=0
   . rw [show ij (x::E)=ij E from vk (by simp [h])]
     show _=(if x.2.2=p then aF x.2.1.1 x.2.1.2 else 0)+_;rw [h];split<;>omega
   . rw [show ij (x::E)=x::ij E from xk (by simpa using h)]
     show iA (bp x.2::aU ((ij E).map (·.2))) p=_;rw [av]
def SL (h:xu E) (hl:∀x∈E,x.2.2.length=n) (hz:∀x∈E,bW x.2.1.1 x.2.1.2 (aF x.2.1.1 x.2.1.2)):eP n ((ij E).map (·.2)):=by
 refine ⟨⟨fun t ht=> ?_,?_,fun t ht=> ?_⟩,fun t ht=> ?_⟩
 . obtain ⟨u,hu,rfl⟩:=aj.1 ht
   obtain ⟨x,hx,rfl⟩:=aj.1 hu;exact hl x (sG hx).1
 . unfold aU
   rw [jw,mZ];exact h.sublist List.filter_sublist
 . obtain ⟨u,hu,rfl⟩:=aj.1 ht
   obtain ⟨x,hx,rfl⟩:=aj.1 hu;exact (sG hx).2
 . obtain ⟨x,hx,rfl⟩:=aj.1 ht
   exact hz x (sG hx).1
def abh (h:xu E) (hl:∀x∈E,x.2.2.length=n) {M:Mv}(e:jR n (aU (E.map (·.2))) M):∀x∈E,(aF x.2.1.1 x.2.1.2).natAbs<=bM M:=fun x hx=>by
 have hd:((aU (E.map (·.2))).map (·.1)).Pairwise (· ≠ ·):=by
  unfold aU;rw [jw,jw,mZ];refine List.Pairwise.imp ?_ (show List.Pairwise (fun x y:bA=>jN y.2.2 x.2.2) E from h);intro a b IP e;have e:a.2.2=b.2.2:=e;rw [<- e] at IP;exact jN.irrefl _ IP
 have h1:=mN hd (bp x.2) (aj.2 ⟨x.2,aj.2 ⟨x,hx,rfl⟩,rfl⟩);have h2:iA (aU (E.map (·.2))) x.2.2=aF x.2.1.1 x.2.1.2:=h1;rw [<- h2,e x.2.2 (hl x hx)];exact M0 M _
def Xr (M:Mv) (i:Nat):bM (M.take i)<=bM M:=by
 have h:bM M=bM (M.take i)+bM (M.drop i):=by rw [<- qy,CO]
 omega
end
def aD.zg (h:aD w A n xs) {a b:Value}(hp:w.cell? p=some u) (hq:w.cell? q=some v) (hu:∀i,u≠ .int .u64 i) (hv:∀i,v≠ .int .u64 i):aD ((w.setCell p a).setCell q b) A n xs:=by
 refine ⟨h.len,fun hm=> ?_,h.ok⟩;obtain ⟨bb,o,e,hb,hc⟩:=h.at_ hm;refine ⟨bb,o,e,by simpa using hb,fun i hi=> ?_⟩;have:=hc i hi;rw [iF _ _ _ _ (fun e=> ?_),iF _ _ _ _ (fun e=> ?_)]
 . exact this
 . rw [<- e,hp] at this;injection this with this;exact hu _ this
 . rw [<- e,hq] at this;injection this with this;exact hv _ this
def Ints.zg (h:Ints w A n xs) {a b:Value}(hp:w.cell? p=some u) (hq:w.cell? q=some v) (hu:∀i,u≠ .int .i64 i) (hv:∀i,v≠ .int .i64 i):Ints ((w.setCell p a).setCell q b) A n xs:=by
 refine ⟨h.len,fun hm=> ?_,h.ok⟩;obtain ⟨bb,o,e,hb,hc⟩:=h.at_ hm;refine ⟨bb,o,e,by simpa using hb,fun i hi=> ?_⟩;have:=hc i hi;rw [iF _ _ _ _ (fun e=> ?_),iF _ _ _ _ (fun e=> ?_)]
 . exact this
 . rw [<- e,hp] at this;injection this with this;exact hu _ this
 . rw [<- e,hq] at this;injection this with this;exact hv _ this
def gL.zg {x:bA}(h:gL w x) {s:Bool} {c:Nat}(a b:Value) (hp:w.cell? p=some (.bool s)) (hq:w.cell? q=some (.slice A m c)):gL ((w.setCell p a).setCell q b) x:=
 ⟨h.1,h.2.1,h.2.2.1,h.2.2.2.1,h.2.2.2.2.1.zg hp hq (fun _ e=>by cases e) (fun _ e=>by cases e),h.2.2.2.2.2.zg hp hq (fun _ e=>by cases e) (fun _ e=>by cases e)⟩
def vJ {E:List bA}(hE:E.length=n)
 (h:0<n->∃b o,A=some ⟨b,o,none⟩∧b<w.heap.size∧∀i (h:i<E.length),w.cell? ⟨b,o+3*i,none⟩=some (.bool (E[i]).2.1.1)∧w.cell? ⟨b,o+(3*i+1),none⟩=some (.slice (E[i]).1.1.1 (E[i]).2.1.2.length (E[i]).1.1.2)∧w.cell? ⟨b,o+(3*i+2),none⟩=some (.slice (E[i]).1.2.1 (E[i]).2.2.length (E[i]).1.2.2)):
 Reads w w.heap.size 3 A n (aS E):=by
 refine ⟨by rw [mo,hE],fun hn=> ?_⟩;obtain ⟨b,o,rfl,hb,hc⟩:=h hn;refine ⟨_,rfl,hb,fun j u hu=> ?_⟩;rw [kI];have hj:j<(aS E).length:=(FU.1 hu).1;rw [mo] at hj;have h3:j % 3<3:=jO _ (by omega);have hd:=sr j 3;have hi:j / 3<E.length:=by omega
 obtain ⟨g0,g1,g2⟩:=jH hi;obtain ⟨c0,c1,c2⟩:=hc (j / 3) hi;rcases (by omega:j % 3=0∨j % 3=1∨j % 3=2) with e | e | e
 . rw [show j=3*(j / 3) by omega] at hu ⊢
   rw [g0] at hu;rw [<- hu];exact c0
 . rw [show j=3*(j / 3)+1 by omega] at hu ⊢
   rw [g1] at hu;rw [<- hu];exact c1
 . rw [show j=3*(j / 3)+2 by omega] at hu ⊢
   rw [g2] at hu;rw [<- hu];exact c2
def Qy {cap:Nat} {E:List bA}(h:w.ownsRow base t 3 (.slice A n cap) n (aS E)) (hE:E.length=n):Reads w w.heap.size 3 A n (aS E):=
 vJ hE fun h0=>by
  obtain ⟨g,cap',hv,hg,hl⟩:=h.form h0;injection hv with wN _ VA
  subst wN VA;refine ⟨g,0,rfl,(h.lt g rfl).2,fun i hi=> ?_⟩;obtain ⟨t0,t1,t2⟩:=jH hi;have c0:=h.cells (g:=g) rfl (3*i) _ t0;have c1:=h.cells (g:=g) rfl (3*i+1) _ t1;have c2:=h.cells (g:=g) rfl (3*i+2) _ t2;rw [kI] at c0 c1 c2;exact ⟨c0,c1,c2⟩
def xL (s:fE) (z:Int) (T:Mv):mulM [(s,z)] T=T.map fun t=>(eE s t.1,z*t.2):=by
 unfold mulM;simp
def Xq {a b:fE} (ha:j<a.length) (hb:j<b.length):(eE a b).take (j+1)=(eE a b).take j++[nth a j+nth b j]:=by
 have hl:j<(eE a b).length:=by unfold eE;rw [aci];omega
 have e:(eE a b)[j]=a[j]+b[j]:=ach;rw [lu hl,gJ ha,gJ hb,e]
def KI (t:mj) (ht:t.1.length=n):∀N:Mv,bC n N->∃N',bC n N'∧jR n N' (t::N)∧bM N'<=bM (t::N)∧∀u∈N',u.1=t.1∨∃s∈N,s.1=u.1
 | [],_=>by
   by_cases h0:t.2=0
   . exact ⟨[],bC.nil n,fun q _=>by rw [av,h0];simp,dc _,fun u hu=>by cases hu⟩
   . exact ⟨[t],⟨fun u hu=>by rw [en.1 hu];exact ht,EO _ _,fun u hu=>by rw [en.1 hu];exact h0⟩,jR.refl _ _,aK,fun u hu=> .inl (by rw [en.1 hu])⟩
 | s::L,h=>by
   have hs:=h.len s ay;obtain ⟨o1,o2⟩:=jC.1 h.ord;have ab:∀(a:mj) (X:Mv),bM (a::X)=a.2.natAbs+bM X:=fun _ _=>rfl;rcases jN.tri (a:=s.1) (b:=t.1) (hs.trans ht.symm) with h1 | h1 | h1
   . by_cases h0:t.2=0
     . exact ⟨s::L,h,fun q _=>by rw [av t,h0];simp,by rw [ab t];omega,fun u hu=> .inr ⟨u,hu,rfl⟩⟩
     . refine ⟨t::s::L,⟨fun u hu=> ?_,jC.2 ⟨fun u hu=> ?_,h.ord⟩,fun u hu=> ?_⟩,jR.refl _ _,aK,fun u hu=> ?_⟩
       . rcases iV.1 hu with rfl | hu
         . exact ht
         . exact h.len u hu
       . rcases iV.1 hu with rfl | hu
         . exact h1
         . exact jN.trans (o1 u hu) h1
       . rcases iV.1 hu with rfl | hu
         . exact h0
         . exact h.ne u hu
       . rcases iV.1 hu with rfl | hu
         . exact .inl rfl
         . exact .inr ⟨u,hu,rfl⟩
   . by_cases h0:s.2+t.2=0
     . refine ⟨L,h.tail,fun q _=> ?_,by rw [ab t,ab s];omega,fun u hu=> .inr ⟨u,bn _ hu,rfl⟩⟩
       rw [av,av,h1];split<;>omega
     . refine ⟨(s.1,s.2+t.2)::L,⟨fun u hu=> ?_,jC.2 ⟨o1,o2⟩,fun u hu=> ?_⟩,fun q _=> ?_,?_,fun u hu=> ?_⟩
       . rcases iV.1 hu with rfl | hu
         . exact hs
         . exact h.len u (bn _ hu)
       . rcases iV.1 hu with rfl | hu
         . exact h0
         . exact h.ne u (bn _ hu)
       . rw [av,av,av,h1]
         split<;>omega
       . rw [ab t,ab s,ab]
         have:=Int.natAbs_add_le s.2 t.2;show (s.2+t.2).natAbs+_<=_;omega
       . rcases iV.1 hu with rfl | hu
         . exact .inl h1
         . exact .inr ⟨u,bn _ hu,rfl⟩
   . obtain ⟨N',k1,k2,k3,k4⟩:=KI t ht L h.tail
     refine ⟨s::N',⟨fun u hu=> ?_,jC.2 ⟨fun u hu=> ?_,k1.ord⟩,fun u hu=> ?_⟩,fun q hq=> ?_,?_,fun u hu=> ?_⟩
     . rcases iV.1 hu with rfl | hu
       . exact hs
       . exact k1.len u hu
     . rcases k4 u hu with e | ⟨v,hv,e⟩
       . rw [e];exact h1
       . rw [<- e];exact o1 v hv
     . rcases iV.1 hu with rfl | hu
       . exact h.ne _ ay
       . exact k1.ne u hu
     . rw [av,k2 q hq,av,av,av];omega
     . rw [ab,ab t,ab s]
       rw [ab t] at k3;omega
     . rcases iV.1 hu with rfl | hu
       . exact .inr ⟨_,ay,rfl⟩
       . rcases k4 u hu with e | ⟨v,hv,e⟩
         . exact .inl e
         . exact .inr ⟨v,bn _ hv,e⟩
def OV:∀X:Mv,fI n X->∃N,bC n N∧jR n N X∧bM N<=bM X
 | [],_=>⟨[],bC.nil n,jR.refl _ _,aK⟩
 | t::X,h=>by
   obtain ⟨N,h1,h2,h3⟩:=OV X fun u hu=>h u (bn _ hu);obtain ⟨N',k1,k2,k3,_⟩:=KI t (h t ay) N h1;refine ⟨N',k1,fun q hq=>by rw [k2 q hq,av,av,h2 q hq],?_⟩;have e1:bM (t::N)=t.2.natAbs+bM N:=rfl;have e2:bM (t::X)=t.2.natAbs+bM X:=rfl;omega
def bC.Sq {N X:Mv}(h:bC n N) (e:jR n N X) (hX:fI n X):bM N<=bM X:=by
 obtain ⟨N',h1,h2,h3⟩:=OV X hX;rw [h.unique h1 (e.trans h2.symm)];exact h3
def FM:∀L:Mv,bM (gD (-1) L)=bM L
 | []=>rfl
 | t::L=>by
   have ih:=FM L;show (-1*t.2).natAbs+bM (gD (-1) L)=t.2.natAbs+bM L;rw [ih,ES,I6,TD]
def abP (t:mj):∀T:Mv,bM (mulM [t] T)=t.2.natAbs*bM T:=fun T=>by
 rw [xL];induction T with
 | nil=>show 0=_*0;rw [jv]
 | cons u T ih=>
   show (t.2*u.2).natAbs+bM (T.map _)=t.2.natAbs*(u.2.natAbs+bM T);rw [ak,<- ih,vn]
def Uo (s:fE) (z:Int) (q:fE):∀T:Mv,iA (mulM [(s, -z)] T) q= -iA (mulM [(s,z)] T) q:=fun T=>by
 rw [xL,xL];induction T with
 | nil=>rfl
 | cons t T ih=>
   rw [vB,vB,av,av,ih];show (if eE s t.1=q then -z*t.2 else 0)+_= -((if eE s t.1=q then z*t.2 else 0)+_);split
   . rw [ES];omega
   . omega
def P9:∀{L:Mv} {t:mj},t∈L->t.2.natAbs<=bM L
 | s::L,t,h=>by
   show _<=s.2.natAbs+bM L;rcases iV.1 h with e | e
   . rw [e];omega
   . have:=P9 e;omega
def Wk (n:Nat) {T:Mv} {s:fE} {c:Int}:jR n (gD (-1) (mulM [(s,c)] T)) (mulM [(s, -c)] T):=fun q _=>by
 rw [uy,Uo,ES,I6]
section
variable {n : Nat} {Q R P' : Mv} {pl : fE} {cl : Int} {k : Nat}
def zM:∀{Q:Mv}(_:bC n Q) (j:Nat),bC n (Q.drop j)
 | _,h,0=>by rw [QE];exact h
 | [],h,_+1=>h
 | t::Q,h,j+1=>zM (Q:=Q) h.tail j
structure QW (n:Nat) (Q T:Mv) (k:Nat) (R:Mv):Prop where
 le:k<=Q.length
 eq:jR n R (mulM (Q.drop k) T)
def QW.lead {x:mj}(h:QW n Q ((pl,cl)::P') k (x::R)) (hR:bC n (x::R)) (hQ:bC n Q) (hT:bC n ((pl,cl)::P')):
 ∃s z,k<Q.length∧Q.drop k=(s,z)::Q.drop (k+1)∧x=(eE s pl,z*cl)∧QW n Q ((pl,cl)::P') (k+1) ((x::R)++mulM [(s, -z)] ((pl,cl)::P')):=by
 have hk:k<Q.length:=by
  refine nw fun hk=> ?_;have e:=h.eq;rw [CP (by omega)] at e;exact absurd (hR.aeg e) (by simp)
 have e:=xb hk;have h1:=h.eq;have hd:=zM hQ k;rw [e] at h1 hd;obtain ⟨N',hN⟩:=hd.Oq hT hR h1;refine ⟨(Q[k]).1,(Q[k]).2,hk,e,(l6 hN).1,hk,fun q hq=> ?_⟩;have h2:=h1 q hq;rw [show Q[k]::Q.drop (k+1)=[Q[k]]++Q.drop (k+1) from rfl,Et,jI] at h2;rw [jI,h2,Uo];show iA (mulM [Q[k]] _) q+_+ -iA (mulM [Q[k]] _) q=_;omega
def QW.done (h:QW n Q ((pl,cl)::P') k []) (hQ:bC n Q) (hT:bC n ((pl,cl)::P')):k=Q.length:=by
 refine nw fun hk=> ?_;have hk:k<Q.length:=by have:=h.le;omega
 have e:=xb hk;have h1:=h.eq;have hd:=zM hQ k;rw [e] at h1 hd;obtain ⟨N',hN⟩:=hd.Oq hT (bC.nil n) h1;cases hN
def QW.start {L T:Mv}(h:jR n L (mulM Q T)):QW n Q T 0 L:=⟨dc _,h⟩
def QW.congr {T R':Mv}(h:QW n Q T k R) (e:jR n R' R):QW n Q T k R':=⟨h.le,e.trans h.eq⟩
def LF:∀(Q:Mv) (k:Nat),bM (Q.drop k)<=bM Q
 | _,0=>aK
 | [],_+1=>aK
 | t::Q,k+1=>by
   refine aH (LF Q k) ?_;show bM Q<=t.2.natAbs+bM Q;exact Iy _ _
end
def LD (F:Nat->Mv):∀l:List Nat,bM (l.flatMap F)=(l.map fun k=>bM (F k)).sum
 | []=>rfl
 | k::l=>by rw [vo,qy,LD F l,vB,TJ]
def J9 (f:Nat->Nat):∀n,((List.range n).map f).sum=nS n f
 | 0=>rfl
 | n+1=>by
   rw [zn,jK,List.sum_append,J9 f n];show _+(f n+0)=nS n f+f n;omega
def Iq:∀(n:Nat) (pre:fE) (f:Pn n),bM (dn n pre f)=aI.nm f
 | 0,pre,z=>by
   rw [gW,aiU];by_cases h:vG z=0
   . rw [aM h,h];rfl
   . rw [af h]
     show (vG z).natAbs+0=_;omega
 | n+1,pre,f=>by
   rw [j7,LD,J9,yI];unfold Poly.jT;exact qd fun k _=>Iq n _ _
def abO (L:Mv):bM L.reverse=bM L:=by
 unfold bM;rw [Tt,List.sum_reverse]
def CI (n:Nat) (f:Pn n):bM (mU n f)=aI.nm f:=by
 unfold mU;rw [abO,Iq]
def LY (L:Mv):aI.nm (iO n L)<=bM L:=Gg n 0 L
def DC:∀{n:Nat} {pre:fE} {f:Pn n} {D:Nat->Nat},aI.dg D f->∀t∈dn n pre f,∃e:fE,t.1=pre++e∧∀k,(nth e k).toNat<=D k
 | 0,pre,z,D,_,t,ht=>by
   rw [gW] at ht;by_cases h:vG z=0
   . rw [aM h] at ht;cases ht
   . rw [af h] at ht
     rw [en.1 ht];exact ⟨[],(tH _).symm,fun k=>by rw [cW (dc _)];exact dc _⟩
 | n+1,pre,f,D,hf,t,ht=>by
   have D8:Poly.mX D (kids f):=hf;rw [j7] at ht;obtain ⟨k,hk,ht⟩:=uR.1 ht;have F3:=oo.1 hk;obtain ⟨e,h1,h2⟩:=DC (D8.2 k) t ht;refine ⟨(k:Int)::e,by rw [h1,vA];rfl,fun j=> ?_⟩;cases j with
   | zero=>
     show ((k:Int)).toNat<=D 0;have h5:=Poly.bU D8.1;omega
   | succ j=>exact h2 j
def RG {f:Pn n} {D:Nat->Nat}(h:aI.dg D f) {t:mj}(ht:t∈mU n f) (k:Nat):(nth t.1 k).toNat<=D k:=by
 obtain ⟨e,h1,h2⟩:=DC h t (Iz.1 ht);rw [h1];exact h2 k
