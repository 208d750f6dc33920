import Derived.Test.YtehcoffbiplphaaGreatHTrM
import Derived.Test.YtehcoffbiplphaaGreatHRadB
set_option linter.all false
set_option maxHeartbeats 16000000
set_option maxRecDepth 100000
namespace Go.Proofs.YtehcoffbiplphaaGreat
open Go.Proofs.Tryz
open aF
variable {n u K:Nat} {D:Nat->Nat}
def Un {R:Type} [aF R] (a:R):Prop:=∃b,a*b=1
section
variable {n i : Nat}
def Ed {q:Pn n} {D:Nat->Nat}(hi:i<n) (h:aH.dg D q) (h0:D i=0):oJ n i q=0:=by
 have hz:∀t∈vo i (iy n q),t.2=0:=fun t ht=>by
  obtain ⟨s,hs,rfl⟩:=uH ht;have h1:=Mb h hs i;have hl:=(bB n q).len s hs;have h2:=fU n q s hs _ (gL (xs:=s.1) (i:=i) (by rw [hl];exact hi));show s.2*nth s.1 i=0;rw [show nth s.1 i=0 by omega,xu]
 have e:jI n (vo i (iy n q)) []:=fun p _=>by
  have key:∀L:Mv,(∀t∈L,t.2=0)->gh L p=0:=fun L=>by
   induction L with
   | nil=>intro _;rfl
   | cons t L ih=>
     intro h;rw [aj,ih fun s hs=>h s (bX _ hs),h t aV];split<;>rfl
  exact key _ hz
 exact (xD (WJ (bB n q).len) (NS (fU n q)) (fun _ h=>by cases h) (fun _ h=>by cases h) e).trans (uA n)
def agS {q:Pn n}(hi:i<n) (h:oJ n i q=0) {s:mH}(hs:s∈iy n q):nth s.1 i=0:=by
 have hp:=bB n q;have nn:∀t∈iy n q,0<=nth t.1 i:=fun t ht=>fU n q t ht _ (gL (by rw [hp.len t ht];exact hi));refine kQ fun hne=> ?_;have h0:=nn s hs;have hl:=hp.len s hs;have l1:eW n (vo i (iy n q)):=WJ hp.len;have hz:jI n (vo i (iy n q)) []:=Aq l1 (NS (fU n q)) (fun _ h=>by cases h) (fun _ h=>by cases h) (by rw [uA];exact h);have hc:=hz (s.1.set i (nth s.1 i-1)) (by rw [fW];exact hl);have e1:gh (vo i (iy n q)) (s.1.set i (nth s.1 i-1))=eM (fun t:mH=>if t.1=s.1 then t.2*nth s.1 i else 0) (iy n q):=by
  unfold vo;rw [NX];refine fk fun t ht=> ?_;have ht0:=nn t ht;have hlt:=hp.len t ht;by_cases e:t.1=s.1
  . rw [aM e,e,show max (nth s.1 i-1) 0=nth s.1 i-1 by omega,aM rfl]
  . rw [aY e]
    by_cases e2:t.1.set i (max (nth t.1 i-1) 0)=s.1.set i (nth s.1 i-1)
    . rw [aM e2]
      have e3:max (nth t.1 i-1) 0=nth s.1 i-1:=by
       have:=dh (fun p=>nth p i) e2;simp only [gK (show i<t.1.length by omega),gK (show i<s.1.length by omega),tH] at this;exact this
      have e4:nth t.1 i=0:=by
       refine kQ fun k=>e ?_;(have e5:nth t.1 i=nth s.1 i:=by omega);refine kW (by omega) fun j hj=> ?_;by_cases ej:j=i
       . rw [ej];exact e5
       . have:=dh (fun p=>nth p j) e2
         simp only [gK (show i<t.1.length by omega),gK (show i<s.1.length by omega),aY ej] at this;exact this
      rw [e4,xu]
    . rw [aY e2,xu]
 have e2:eM (fun t:mH=>if t.1=s.1 then t.2*nth s.1 i else 0) (iy n q)=gh (iy n q) s.1*nth s.1 i:=by
  have key:∀L:Mv,eM (fun t:mH=>if t.1=s.1 then t.2*nth s.1 i else 0) L=gh L s.1*nth s.1 i:=fun L=>by
   induction L with
   | nil=>exact (uV _).symm
   | cons t L ih=>
     rw [aj,rJ,<- ih];show (if t.1=s.1 then t.2*nth s.1 i else 0)+_=_;congr 1
     split
     . rfl
     . rw [uV]
  exact key _
 rw [e1,e2,hp.JE s hs] at hc;have hc:s.2*nth s.1 i=0:=hc;rcases Int.mul_eq_zero.1 hc with h | h
 . exact hp.ne s hs h
 . exact hne h
def Tf {q:Pn n}(h:∀i,i<n->oJ n i q=0):∃z,q=qq n z:=by
 have hp:=bB n q;have hz:∀s∈iy n q,s.1=List.replicate n 0:=fun s hs=>by
  refine kW (by rw [hp.len s hs,fQ]) fun j hj=> ?_;rw [hp.len s hs] at hj;rw [agS hj (h j hj) hs,fV (by rw [fQ];exact hj),zQ]
 cases hq:iy n q with
 | nil=>
   refine ⟨0,?_⟩;rw [jT.1 hq];refine (sk fun p qm=> ?_).symm;unfold qq;rw [zV n _ _ _ (by simp) qm fun x hx=>by rw [vE hx];exact nw _];have:=oL (n:=n) (L:=[]) (fun _ h=>by cases h) (fun _ h=>by cases h) qm;rw [uA] at this;rw [this];split<;>rfl
 | cons s L=>
   refine ⟨s.2,?_⟩;have hL:L=[]:=by
    cases L with
    | nil=>rfl
    | cons t L=>
      rw [hq] at hp hz;have h1:=(gQ.1 hp.ord).1 t aV;rw [hz s aV,hz t (bX _ aV)] at h1;exact absurd h1 (ir.irrefl _)
   have e1:=iF n q;rw [hq,hL] at e1;rw [<- e1];have Ah:=hz s (by rw [hq];exact aV);rw [tq (by rw [Ah];simp) (fun x hx=>by rw [Ah] at hx;rw [vE hx];exact nw _),Ah];rfl
end
section
variable {n : Nat}
def Qe:qq n 1=1:=by
 have h:=OZ n;rw [tq (by simp) (fun x hx=>by rw [vE hx];exact nw _)] at h;exact h
def C6 (a b:Int):qq n (a*b)=qq n a*qq n b:=by
 have h:=GS n (List.replicate n 0) (List.replicate n 0) a b (by simp) (by simp) (fun x hx=>by rw [vE hx];exact nw _) (fun x hx=>by rw [vE hx];exact nw _);rw [El (by simp)] at h;exact h
def agV {z:Int}(h:z=1∨z= -1):Un (qq n z):=by
 refine ⟨qq n z,?_⟩;rw [<- C6,show z*z=1 by rcases h with h | h<;>rw [h]<;>rfl];exact Qe
def Pm (f:Pn n):Prop:=f≠0∧∀z u,f=qq n z*u->z=1∨z= -1
def XL {z:Int}(hz:z≠0) (u:Pn n):iy n (qq n z*u)=fS z (iy n u):=by
 have hp:=bB n u;have hn:=fU n u;have h1:av n (fS z (iy n u)):=⟨hp.len.scale z,mG.2 hp.ord,fun t ht=>by
  obtain ⟨s,hs,rfl⟩:=af.1 ht;exact Int.mul_ne_zero hz (hp.ne s hs)⟩
 exact (iK h1 (hn.scale z) (by rw [Ka hp.len hn,iF])).symm
def akl {f:Pn n}(hf:f≠0):Pm (IC n f):=by
 have h0:IC n f≠0:=fun e=>hf (ud.1 e);refine ⟨h0,fun z u e=> ?_⟩;have hz:z≠0:=fun k=>h0 (by
  rw [e,k];have h1:=C6 (n:=n) 0 0;have h2:qq n 0=0:=by
   have h3:(0:Int)*0=0:=rfl;have h4:=Tf (n:=n) (q:=0) fun i hi=>Ed (D:=fun _=>0) hi (aH.en _) rfl;obtain ⟨w,hw⟩:=h4;have h5:=dh (fun x=>qq n 0*x) hw;simp only [aF.mul_zero] at h5;rw [<- C6,uV] at h5;exact h5.symm
  rw [h2,aF.zero_mul])
 have h1:=amN (bB n f) fun k=>hf (jT.1 k);rw [yO,e,XL hz,zw] at h1;have h2:=adq h1;omega
def amI {x y:Pn n}(hy:y≠0) (dy:aH.dg (fun _=>0) y) (h:Dv x y):∃z,x=qq n z:=by
 have dx:=(aH.factor _ y x hy dy h).1;exact Tf fun i hi=>Ed hi dx rfl
def zB.pm {q g h:Pn n} {k:Nat}(hg:zB n k q g) (hh:zB n k q h):h=g∨h= -g:=Qo (hh.top g hg.l hg.r) (hg.top h hh.l hh.r)
def amJ (w:Int):aH.dg (fun _=>0) (qq n w):=by
 rw [show qq n w=iU n [(List.replicate n 0,w)] from (tq (t:=(List.replicate n 0,w)) (by simp) (fun x hx=>by rw [vE hx];exact nw _)).symm];refine xL n 0 _ (fun _=>0) fun t ht k=> ?_;rw [dS.1 ht,bh];show (nth (List.replicate n (0:Int)) k).toNat<=0;by_cases h:k<n
 . rw [fV (by rw [fQ];exact h),zQ]
   exact aL
 . rw [bw (by rw [fQ];omega)]
   exact aL
end
def Zy {n:Nat} {f g:Pn n}(hf:iV f) (hg:iV g):iV (f*g):=fun h H e=>by
 have PF:=bB n f;have PG:=bB n g;have PH:=bB n (f*g);have NF:=fU n f;have NG:=fU n g;have E:jI n (iy n (f*g)) (mulM (iy n f) (iy n g)):=Aq PH.len (fU n _) (PF.len.mul PG.len) (NF.mul NG) (by rw [yL PF.len NF PG.len NG,iF,iF,iF]);cases ef:iy n f with
 | nil=>
   rw [jT.1 ef,aF.zero_mul,jT.2 rfl] at e;cases e
 | cons s L=>
   cases eg:iy n g with
   | nil=>
     rw [jT.1 eg,aF.mul_zero,jT.2 rfl] at e;cases e
   | cons t M=>
     have h1:=hf s L ef;have h2:=hg t M eg;rw [e] at PH E;rw [ef] at PF E;rw [eg] at PG E;have hs:=PF.len s aV;have ht:=PG.len t aV;have hl:=PH.len h aV;have h3:0<s.2*t.2:=Int.mul_pos h1 h2;have h4:gh (h::H) (dI s.1 t.1)=s.2*t.2:=(E _ (kF hs ht)).trans (PV PF PG);have h5:gh (mulM (s::L) (t::M)) h.1=h.2:=(E _ hl).symm.trans PH.mU;have h6:¬∀u∈mulM (s::L) (t::M),u.1≠h.1:=fun k=>PH.ne h aV (by rw [<- h5,l7 k]);have h7:h.1=dI s.1 t.1:=kQ fun hne=>h6 fun u hu k=>by
      obtain ⟨a,ha,hu⟩:=tG.1 hu;obtain ⟨b,hb,hu⟩:=af.1 hu;(have e1:dI a.1 b.1=h.1:=by rw [<- k,<- hu]);have la:=PF.len a ha;have lb:=PG.len b hb;have hlt:ir h.1 (dI s.1 t.1):=by
       rw [<- e1] at hne ⊢;rcases iH.1 ha with rfl | ha'
       . rcases iH.1 hb with rfl | nI
         . exact absurd rfl hne
         . rw [pM,pM a.1]
           exact ir.add (by omega) (by omega) (by omega) ((gQ.1 PG.ord).1 b nI) (.inr rfl)
       . have cZ:ir b.1 t.1∨b.1=t.1:=by
          rcases iH.1 hb with rfl | nI
          . exact .inr rfl
          . exact .inl ((gQ.1 PG.ord).1 b nI)
         exact ir.add (by omega) (by omega) (by omega) ((gQ.1 PF.ord).1 a ha') cZ
      have:=PH.JF hlt;omega
     have h8:gh (h::H) h.1=h.2:=PH.mU;rw [h7,h4] at h8;rw [<- h8];exact h3
def XR {n:Nat} {q:Pn n}(h:iV q) (k:iV (-q)):q=0:=by
 cases hf:iy n q with
 | nil=>exact jT.1 hf
 | cons t L=>
   exfalso;have h1:=h t L hf;have h2:0< -t.2:=k (t.1, -t.2) (L.map fun t=>(t.1, -t.2)) (by rw [yR,hf];rfl);omega
def VQ {n:Nat} {f:Pn n}:iV (IC n f):=fun t L e=>by
 rw [<- yO] at e;cases hf:iy n f with
 | nil=>rw [hf] at e;cases e
 | cons s M=>
   have hs:s.2≠0:=(bB n f).ne s (by rw [hf];exact aV);have hd:=uI (L:=s::M) (t:=s) aV;have hm:=tJ s.2 (sA (s::M));have hz:sA (s::M)=if s.2<0 then -(j8 (s::M):Int) else (j8 (s::M):Int):=rfl
   rw [hf] at e;have e2:(s.1,s.2 / sA (s::M))=t:=by
    unfold BR at e;rw [uK] at e;injection e
   rw [<- e2];show 0<s.2 / sA (s::M);generalize s.2 / sA (s::M)=d at*
   generalize sA (s::M)=z at*
   refine kQ fun hn=> ?_;by_cases CJ:s.2<0
   . rw [aM CJ] at hz
     have h1:0<=(-z)*(-d):=yC (by omega) (by omega);rw [UI] at h1;omega
   . rw [aY CJ] at hz
     have h1:0<=z*(-d):=yC (by omega) (by omega);rw [Nq] at h1;omega
def aeS {q g r:Pn n}(q0:q≠0) (e:q=r*g) (pq:iV q) (pg:g=q∨iV g):iV r:=by
 rcases pg with h | h
 . have h1:q*r=q*1:=by rw [aF.mul_one,aF.mul_comm q r];rw [h] at e;exact e.symm
   rw [Dom.cancel q0 h1];exact Zx n
 . rcases afb r with h1 | ⟨h1,_⟩
   . exact h1
   . have h2:=Zy h1 h
     rw [aF.neg_mul,<- e] at h2;exact absurd (XR pq h2) q0
def Oy {n k:Nat} {q g g' r r':Pn n}(q0:q≠0) (e:q=r*g) (e':q=r'*g') (h:zB n k q g) (h':zB n k q g') (p:iV r) (p':iV r'):r'=r:=by
 have g0:g≠0:=fun hz=>q0 (by rw [e,hz,aF.mul_zero]);refine p.eq p' ?_;rcases h.pm h' with k | k
 . refine .inl (Dom.cancel g0 ?_)
   rw [aF.mul_comm g r',aF.mul_comm g r,<- e,e',k]
 . refine .inr (Dom.cancel g0 ?_)
   rw [aF.mul_comm g r',aF.mul_comm g (-r),aF.neg_mul,<- e,e',k,aF.mul_neg,aF.neg_neg]
def akb {q g g' r:Pn n}(q0:q≠0) (pm:Pm q) (e:q=r*g) (h:zB n n q g) (h':zB n n q g') (p:iV r) (pq:iV q):q=r↔∃z,g'=qq n z:=by
 have one:∀x:Pn n,x=1∨x= -1->∃z,x=qq n z:=fun x hx=>by
  refine amI (y:=1) Dom.mg (by rw [<- Qe];exact amJ 1) ⟨x,?_⟩;rcases hx with k | k<;>rw [k]
  . rw [aF.mul_one]
  . rw [aF.neg_mul,aF.one_mul,aF.neg_neg]
 constructor
 . intro k
   have r0:r≠0:=fun z=>q0 (by rw [k,z]);have g1:g=1:=Dom.cancel r0 (by rw [<- e,aF.mul_one,k]);refine one g' ?_;rw [<- g1];exact h.pm h'
 . rintro ⟨z,hz⟩
   obtain ⟨u,hu⟩:=h'.l;have h1:=pm.2 z u (by rw [<- hz];exact hu);obtain ⟨b,hb⟩:=agV (n:=n) h1;have h2:g'=1∨g'= -1:=by rw [hz];exact GR hb
   have h3:g=1∨g= -1:=by
    rcases h'.pm h with k | k<;>rcases h2 with k2 | k2<;>rw [k2] at k
    . exact .inl k
    . exact .inr k
    . exact .inr k
    . exact .inl (by rw [k,aF.neg_neg])
   refine p.eq pq ?_;rcases h3 with k | k
   . exact .inl (by rw [e,k,aF.mul_one])
   . exact .inr (by rw [e,k,aF.mul_neg,aF.mul_one])
open Go.RowKit
def ajL (w:World) (n:Nat) (q:Pn n) (e:Ending) (w':World):Prop:=∃g r:Pn n,q=r*g∧zB n n q g∧(g=q∨iV g)∧mI w 0 n r e w'
def Rl (hK:2000=K) (h:u<=2^e6):u<2^(64*K):=aR h (oA (by decide) (by have:=wP;omega))
def aeB {v:Nat}(hK:2000=K) (h:u<=2^e6) (k:v<=2^e6):u*v<2^(64*K):=aR (ct h k) (by rw [<- iD];exact oA (by decide) (by have:=wP;omega))
def VK (n:Nat) (hn:n<=3) (D:Nat->Nat) (hD:∀j,D j<=1000) (hV:aH.jo (Pn n) D<=4096) (f q:Pn n) (w:World) (v:Value) (hv:Rw w v 0 n f) (hq:IC n f=q) (df:aH.dg D f) (nf:aH.nm f<=2^e6):
 aB 35 #[.int .i64 (n:Int),v] w (fun e w'=>∃(s:Bool) (A1:Option Addr) (k1 c1:Nat) (x:Value),e=.returned (.tuple #[.agg #[.bool s,.slice A1 k1 c1],x,.int .i64 0])∧Rw w' x 0 n q∧Below w.heap.size w w'):=by
 obtain ⟨A,c,T,rfl,wN,RU,Mz,hv4,hv5⟩:=hv;have eT:aP T=iy n f:=by
  rw [hv5];unfold gj;rw [sG]
 rw [bh] at hv4;have hA:Arg n 1000 T:=sq hD hV hv4 eT df nf;obtain ⟨K,hK⟩:∃K:Nat,2000=K:=⟨_,rfl⟩;refine (aeW n 1000 K A T.length c T w Mz (vr hA (by omega)) hA.co (by omega) (by omega) (by rw [eT,xh];exact Rl hK nf)).mono ?_;rintro e w1 ⟨s,A1,k1,c1,ls,B,cB,T',P,rfl,y1,y2,y3,y4,y5,y6,y7,y8,y9,y10,y11,y12⟩;have e':aP T'=iy n q:=by
  have nnT:qy (aP T):=by rw [eT];exact fU n f
  have qx:=y4.mv.bd y5 hA.Tp;have h1:aP P=iy n (iU n (aP T)):=iK y4.mv (fun t ht u hu=>(qx t ht u hu).1) (xD y4.mv.len (fun t ht u hu=>(qx t ht u hu).1) hA.KD nnT y5);rw [y11,h1,yO,eT,iF,hq]
 exact ⟨s,A1,k1,c1,_,rfl,⟨B,cB,T',rfl,y7,y8,y9,by rw [bh];exact y10,by unfold gj;rw [sG];exact e'⟩,y12⟩
def akh (n:Nat) (hn:n<=3) (D:Nat->Nat) (hD:∀j,D j<=1000) (hV:aH.jo (Pn n) D<=4096) (f q:Pn n) (w:World) (v:Value) (hv:Rw w v 0 n f) (hq:IC n f=q) (q0:q≠0) (df:aH.dg D f) (nf:aH.nm f<=2^e6) (dq:aH.dg D q)
 (fit:∀g,Dv g q->aH.nm g<=2^e6) (nD:∀k,k<n->aH.nm (oJ n k q)<=2^e6) (ok:∀k g,k<n->zB n k q g->vF n g (oJ n k q)):
 aB 33 #[.int .i64 (n:Int),v] w (ajL w n q):=by
 obtain ⟨K,hK⟩:∃K:Nat,2000=K:=⟨_,rfl⟩;have Cp:=aA (VK n hn D hD hV f q w v hv hq df nf);have DG:∀g,Dv g q->aH.dg D g:=fun g h=>(aH.factor _ _ _ q0 dq h).1;have FM:Hid (∀g r,q=r*g->jO n K r g):=fun g r e=>by
  have h1:Dv g q:=⟨r,by rw [e,aF.mul_comm]⟩;have h2:Dv r q:=⟨g,e⟩;refine ⟨D,D,DG _ h2,DG _ h1,fun j=>by have:=hD j;omega,Rl hK (fit _ h2),Rl hK (fit _ h1),aeB hK (fit _ h2) (fit _ h1),?_⟩;exact aG (ct hV hV) (by omega)
 have Dr:Hid (∀(k:Nat) (W:World) (v':Value),k<n->Rw W v' 0 n q->aB 71 #[.int .i64 (n:Int),v',.int .i64 (k:Int)] W (fun e w'=>∃x,e=.returned (.tuple #[x,.int .i64 0])∧Rw w' x 0 n (oJ n k q)∧Below W.heap.size W w')):=fun k W v' hk hv'=>by
  obtain ⟨B,cB,T',rfl,_,_,hT',hP',e'⟩:=hv';rw [bh] at hP';unfold gj at e';rw [sG] at e';have A':Arg n 1000 T':=sq hD hV hP' e' dq (fit q (Dv.refl q));refine (Zn n 1000 B T'.length cB T' k W hT' (vr A' (by omega)) hk A'.co (by omega)).mono ?_;rintro e w' ⟨A6,c6,L6,rfl,u1,u2,u3,u4,u5,u6⟩;have QJ:NU k (aP T')=vo k (aP T'):=rfl;rw [QJ] at u5;have bd6:Dj 1000 (vo k (aP T')):=fun t ht u hu=>by
   obtain ⟨s',uu,rfl⟩:=uH ht;have qx:=A'.Tp s' uu;rcases pR hu with hu | hu
   . exact qx u hu
   . rw [hu]
     by_cases hi:k<s'.1.length
     . have:=qx _ (gL hi);omega
     . rw [bw (by omega)];omega
  have n2:qy (aP L6):=fun t ht v hv=>(u4.mv.bd u5 bd6 t ht v hv).1;have l1:eW n (vo k (aP T')):=fun t ht=>by
   obtain ⟨s',uu,rfl⟩:=uH ht;rw [fW];exact A'.KD s' uu
  have n1:qy (vo k (aP T')):=NS fun t ht v hv=>(A'.Tp t ht v hv).1;have eD:iU n (aP L6)=oJ n k q:=by
   have h:=xD u4.mv.len n2 l1 n1 u5;rw [h,e'];rfl
  exact ⟨_,rfl,⟨A6,c6,L6,rfl,u1,u2,u3,by rw [bh];exact u4,by unfold gj;rw [sG];exact iK u4.mv n2 eD⟩,u6⟩
 have Cb:Hid (∀W x y g r,q=r*g->Rw W x 0 n q->Rw W y 0 n g->aB 62 #[x,y] W (mI W 0 n r)):=fun W x y g r e h1 h2=>ahN (K:=K) (by omega) (by omega) (FM.o g r e) (fun hz=>q0 (by rw [e,hz,aF.mul_zero])) e h1 h2;have Cc:Hid (∀k g W x y,k<n->zB n k q g->Rw W x 0 n g->Rw W y 0 n (oJ n k q)->aB 29 #[x,y,.int .i64 0,.int .i64 (n:Int)] W (fun e w'=>∃g',nh g' g (oJ n k q)∧iV g'∧mI W 0 n g' e w')):=fun k g W x y hk hg h1 h2=>(ok k g hk hg).2 0 n W x y (bh n) (by omega) h1 h2;clear hv DG FM df nf dq fit nD ok hq hV hD hK;go_enter func33,ntmps33
 obtain ⟨wo,rfl⟩:∃wo:World,wo=w:=⟨_,rfl⟩;go_wp2_with fail
 refine Cp.o.mono ?_;rintro e w1 ⟨s,A1,k1,c1,x1,rfl,y1,y2⟩;have hal:Below w1.heap.size w1 (w1.alloc (.cells #[.bool s,.slice A1 k1 c1] 41)):=aU.alloc aL _;have R2:=aA (y1.aC hal);have B2:=aA (az y2 hal);clear y1 y2 Cp hal;go_wp2_with fail
 generalize w1.alloc (.cells #[.bool s,.slice A1 k1 c1] 41)=w2 at*
 go_loopw [8,9,10,11] (fun g8 kk x10 x11 wr=>∃(k:Nat) (g:Pn n),k<=n∧kk=.int .i64 (k:Int)∧Hid (zB n k q g)∧Hid (g=q∨iV g)∧Hid (Rw wr g8 0 n g)∧Hid (Below w2.heap.size w2 wr)) (fun _ kk _ _ _=>n-(intOf kk).toNat)
 case atStart=>exact ⟨0,q,bL _,rfl,zB.start n q,.inl rfl,R2.o,aU⟩
 case round=>
  obtain ⟨k,g,hk,rfl,hG,hP,hR,hB⟩:=hrel;obtain ⟨wp,rfl⟩:∃wp:World,wp=wr:=⟨_,rfl⟩;have BW:=aA (az B2.o hB.o);by_cases hlt:k<n
  . have dH:(k:Int)<(n:Int):=by omega
    have Cd:=aA (Dr.o k wp x1 hlt (R2.o.aC hB.o));have CC:=aA (fun W y h1 h2=>Cc.o k g W u8 y hlt hG.o h1 h2);have RD:=aA hlt;clear hlt;(go_wp2_with fail);refine Cd.o.mono ?_;rintro e w3 ⟨y,rfl,r3,b3⟩;have C2:=aA (CC.o w3 y (hR.o.aC b3) r3);have B3:=aA (az hB.o b3);clear r3 b3 CC Cd hR hP BW;(go_wp2_with fail);refine C2.o.mono ?_;rintro e w4 ⟨g',CO,Gb,x4,rfl,r4,b4⟩;have R4:=aA r4;have P4:=aA Gb;have B4:=aA (az B3.o b4);have G4:=aA (hG.o.next CO);clear r4 b4 CO Gb C2 B3 hG;(go_wp2_with fail);go_roundw
    case rel=>exact ⟨k+1,g',by have:=RD.o;omega,by go_num,G4,.inr P4.o,R4,B4⟩
    case measure=>have:=RD.o;simp [intOf];omega
  . have dH:¬(k:Int)<(n:Int):=by omega
    (obtain rfl:k=n:=by omega);obtain ⟨r,hr⟩:=hG.o.l;(have CI:q=r*g:=by rw [hr,aF.mul_comm]);have C2:=aA (Cb.o wp x1 u8 g r CI (R2.o.aC hB.o) hR.o);have HG:=aA hG.o;have HQ:=aA CI;have HPP:=aA hP.o;clear hG hR hB hlt hr CI hP;(go_wp2_with fail);refine C2.o.mono ?_;rintro e w3 ⟨x3,rfl,r3,b3⟩;have F:Hid (ajL wo k q (.returned x3) w3):=⟨g,r,HQ.o,HG.o,HPP.o,x3,rfl,r3,az BW.o b3⟩;clear r3 b3 C2 HG HQ HPP;(go_wp2_with fail);go_ret;exact F.o
def N0 (w:World) (n:Nat) (q:Pn n) (e:Ending) (w':World):Prop:=
 (q=0∧e=.returned (.tuple #[.slice none 0 0,.int .i64 8])∧Below w.heap.size w w')∨
 (q≠0∧∃g r:Pn n,q=r*g∧zB n n q g∧iV r∧mJ w n (iy n r) e w')
structure AW (n:Nat) (f q:Pn n) (D:Nat->Nat):Prop where
 pr:IC n f=q
 bD:∀j,D j<=1000
 V:aH.jo (Pn n) D<=4096
 df:aH.dg D f
 nf:aH.nm f<=2^e6
 dq:q≠0->aH.dg D q
 fit:q≠0->∀g,Dv g q->aH.nm g<=2^e6
 nD:q≠0->∀k,k<n->aH.nm (oJ n k q)<=2^e6
 ok:q≠0->∀k g,k<n->zB n k q g->vF n g (oJ n k q)
def AW.zero {f q:Pn n} (h:AW n f q D):q=0↔f=0:=by rw [<- h.pr];exact ud
def AW.rad {f q:Pn n} (h:AW n f q D) (hn:n<=3) (q0:q≠0) {w:World} {v:Value}(hv:Rw w v 0 n f):
 aB 33 #[.int .i64 (n:Int),v] w (fun e w'=>∃g r:Pn n,q=r*g∧zB n n q g∧iV r∧mI w 0 n r e w'):=
 (akh n hn D h.bD h.V f q w v hv h.pr q0 h.df h.nf (h.dq q0) (h.fit q0) (h.nD q0) (h.ok q0)).mono fun e w' ⟨g,r,h1,h2,h3,h4⟩=>⟨g,r,h1,h2,aeS q0 h1 (by rw [<- h.pr];exact VQ) h3,h4⟩
def SB (n:Nat) (hn:n<=3) (D:Nat->Nat) (A:Option Addr) (m c:Nat) (L:List TV) (w:World) (hx:iI w A m L) (hL:Arg n 1000 L) (ha:bJ (aP L)<2^(64*2000)) (q:Pn n) (fit:AW n (iU n (aP L)) q D):
 aB 15 #[.int .i64 (n:Int),.slice A m c] w (N0 w n q):=by
 have c1:Hid (aB 9 #[.int .i64 (n:Int),.slice A m c] w fun e w'=>e=.returned (.int .i64 0)∧w'=w):=(oO n A m c L w hx).mono fun e w' h=>by
  obtain ⟨h3,h4⟩:=h;rw [rU (vr hL (by omega))] at h3;exact ⟨h3,h4.symm⟩
 have p1:=aA (Oo n (by omega) A m c L w hx hL ha);have hz:=fit.zero;have cr:Hid (q≠0->∀W v,Rw W v 0 n (iU n (aP L))->aB 33 #[.int .i64 (n:Int),v] W (fun e w'=>∃g r:Pn n,q=r*g∧zB n n q g∧iV r∧mI W 0 n r e w')):=fun q0 W v h=>fit.rad hn q0 h;have cf:Hid (∀W A9 c9 T r,q≠0->Dv r q->iI W A9 T.length T->eH n T->aP T=iy n r->aB 9 #[.int .i64 (n:Int),.slice A9 T.length c9] W fun e w'=>e=.returned (.int .i64 0)∧w'=W):=fun W A9 c9 T r q0 hr hT hP eT=>by
  refine (oO n A9 T.length c9 T W hT).mono fun e w' h=> ?_;obtain ⟨h3,h4⟩:=h;rw [rU (vr (sq fit.bD fit.V hP eT (aH.factor _ _ _ q0 (fit.dq q0) hr).1 (fit.fit q0 r hr)) (by omega))] at h3;exact ⟨h3,h4.symm⟩
 clear hx hL ha fit;generalize iU n (aP L)=f at*
 go_enter func15,ntmps15
 obtain ⟨wo,rfl⟩:∃wo:World,wo=w:=⟨_,rfl⟩;go_wp2_with fail
 refine c1.o.mono ?_;rintro e w1 ⟨rfl,h9⟩;obtain rfl:=h9.symm;go_wp2_with fail
 refine p1.o.mono ?_;rintro e w2 ⟨v,rfl,r2,b2⟩;obtain ⟨A2,c2,T2,rfl,z1,z2,z3,z4,z5⟩:=r2;have R2:Hid (Rw w2 (.slice A2 T2.length c2) 0 n f):=⟨A2,c2,T2,rfl,z1,z2,z3,z4,z5⟩;have B2:=aA b2;have hl:=uB z5;clear z3 z4 z5 b2 p1 c1;generalize T2.length=l2 at*
 by_cases h0:f=0
 . have e1:((l2:Int)==0)=true:=by have:=hl.2 h0;simp [this]
   have F:Hid (N0 wo n q (.returned (.tuple #[.slice none 0 0,.int .i64 8])) w2):=.inl ⟨hz.2 h0,rfl,B2.o⟩;clear hl h0 hz cr cf R2;go_wp2_with fail
   go_ret2;exact F.o
 . have e1:((l2:Int)==0)=false:=by have:l2≠0:=fun e=>h0 (hl.1 e);simp [this]
   have q0:q≠0:=fun e=>h0 (hz.1 e);have Cr:=aA (cr.o q0 w2 _ R2.o);have Q0:=aA q0;clear hl h0 hz cr R2 q0;go_wp2_with fail
   refine Cr.o.mono ?_;rintro e w3 ⟨g,r,h1,h2,h3,v3,rfl,⟨A5,k5,T5,rfl,y1,y2,y3,y4,y5⟩,b3⟩;rw [bh] at y4;have e5:aP T5=iy n r:=by
    rw [y5];unfold gj;rw [sG]
   have CF:=aA (cf.o w3 A5 k5 T5 r Q0.o ⟨g,h1⟩ y3 y4 e5);have F:Hid (N0 wo n q (.returned (.tuple #[.slice A5 T5.length k5,.int .i64 0])) w3):=.inr ⟨Q0.o,g,r,h1,h2,h3,A5,k5,T5,rfl,y1,y2,y3,y4,by rw [e5];exact jI.refl _ _,az B2.o b3⟩;clear h1 h2 h3 y3 y4 y5 e5 b3 Cr cf;go_wp2_with fail
   refine CF.o.mono ?_;rintro e w6 ⟨rfl,h9⟩;obtain rfl:=h9.symm;go_wp2_with fail
   go_ret2;exact F.o
def N3 (w:World) (n:Nat) (q:Pn n) (e:Ending) (w':World):Prop:=
 (q=0∧e=.returned (.tuple #[.bool false,.int .i64 8])∧Below w.heap.size w w')∨
 (q≠0∧∃(g r:Pn n) (b:Bool),q=r*g∧zB n n q g∧iV r∧(q=r↔b=true)∧e=.returned (.tuple #[.bool b,.int .i64 0])∧Below w.heap.size w w')
def aoU (n:Nat) (hn:n<=3) (D:Nat->Nat) (A:Option Addr) (m c:Nat) (L:List TV) (w:World) (hx:iI w A m L) (hL:Arg n 1000 L) (ha:bJ (aP L)<2^(64*2000)) (q:Pn n) (fit:AW n (iU n (aP L)) q D):
 aB 17 #[.int .i64 (n:Int),.slice A m c] w (N3 w n q):=by
 have c1:Hid (aB 9 #[.int .i64 (n:Int),.slice A m c] w fun e w'=>e=.returned (.int .i64 0)∧w'=w):=(oO n A m c L w hx).mono fun e w' h=>by
  obtain ⟨h3,h4⟩:=h;rw [rU (vr hL (by omega))] at h3;exact ⟨h3,h4.symm⟩
 have p1:=aA (Oo n (by omega) A m c L w hx hL ha);have hz:=fit.zero;have cr:Hid (q≠0->∀W v,Rw W v 0 n (iU n (aP L))->aB 33 #[.int .i64 (n:Int),v] W (fun e w'=>∃g r:Pn n,q=r*g∧zB n n q g∧iV r∧mI W 0 n r e w')):=fun q0 W v h=>fit.rad hn q0 h;have cp:Hid (∀W v,Rw W v 0 n (iU n (aP L))->aB 35 #[.int .i64 (n:Int),v] W (fun e w'=>∃(s:Bool) (A1:Option Addr) (k1 c1:Nat) (x:Value),e=.returned (.tuple #[.agg #[.bool s,.slice A1 k1 c1],x,.int .i64 0])∧Rw w' x 0 n q∧Below W.heap.size W w')):=fun W v h=>VK n hn D fit.bD fit.V _ q W v h fit.pr fit.df fit.nf;have cl:Hid (q≠0->∀(T:List TV) r,Dv r q->eH n T->aP T=iy n r->T.length<=4096):=fun q0 T r hr hP eT=>(sq fit.bD fit.V hP eT (aH.factor _ _ _ q0 (fit.dq q0) hr).1 (fit.fit q0 r hr)).cnt;clear hx hL ha fit;generalize iU n (aP L)=f at*
 go_enter func17,ntmps17
 obtain ⟨wo,rfl⟩:∃wo:World,wo=w:=⟨_,rfl⟩;go_wp2_with fail
 refine c1.o.mono ?_;rintro e w1 ⟨rfl,h9⟩;obtain rfl:=h9.symm;go_wp2_with fail
 refine p1.o.mono ?_;rintro e w2 ⟨v,rfl,r2,b2⟩;obtain ⟨A2,c2,T2,rfl,z1,z2,z3,z4,z5⟩:=r2;have R2:Hid (Rw w2 (.slice A2 T2.length c2) 0 n f):=⟨A2,c2,T2,rfl,z1,z2,z3,z4,z5⟩;have B2:=aA b2;have hl:=uB z5;clear z3 z4 z5 b2 p1 c1;generalize T2.length=l2 at*
 by_cases h0:f=0
 . have e1:((l2:Int)==0)=true:=by have:=hl.2 h0;simp [this]
   have F:Hid (N3 wo n q (.returned (.tuple #[.bool false,.int .i64 8])) w2):=.inl ⟨hz.2 h0,rfl,B2.o⟩;clear hl h0 hz cr cp cl R2;go_wp2_with fail
   go_ret2;exact F.o
 . have e1:((l2:Int)==0)=false:=by have:l2≠0:=fun e=>h0 (hl.1 e);simp [this]
   have q0:q≠0:=fun e=>h0 (hz.1 e);have Cp:=aA (cp.o w2 _ R2.o);have Cr:=aA (fun W (hW:Below w2.heap.size w2 W)=>cr.o q0 W _ (R2.o.aC hW));have CL:=aA (cl.o q0);have Q0:=aA q0;clear hl h0 hz cr cp cl R2 q0;go_wp2_with fail
   refine Cp.o.mono ?_;rintro e w3 ⟨s,A1,k1,c1,x,rfl,r3,b3⟩;have hal:Below w3.heap.size w3 (w3.alloc (.cells #[.bool s,.slice A1 k1 c1] 41)):=aU.alloc aL _;have R3:=aA (r3.aC hal);have Cr3:=aA (Cr.o _ (az b3 hal));have B3:=aA (az B2.o (az b3 hal));clear r3 b3 hal Cr Cp B2;go_wp2_with fail
   generalize w3.alloc (.cells #[.bool s,.slice A1 k1 c1] 41)=w4 at*
   refine Cr3.o.mono ?_;rintro e w5 ⟨g,r,h1,h2,h3,v5,rfl,r5,b5⟩;obtain ⟨A3,c3,T3,rfl,x1,x2,x3,x4,x5⟩:=R3.o.aC b5;obtain ⟨A5,c5,T5,rfl,y1,y2,y3,y4,y5⟩:=r5;rw [bh] at x4 y4;unfold gj at x5 y5;rw [sG] at x5 y5;obtain ⟨b,hb⟩:∃b:Bool,(q=r↔b=true):=by
    by_cases h:q=r
    . exact ⟨true,fun _=>rfl,fun _=>h⟩
    . exact ⟨false,fun k=>absurd k h,fun k=>by cases k⟩
   have nI:(T3=T5)↔b=true:=by
    rw [<- hb];constructor
    . intro h
      rw [h] at x5;rw [<- iF n q,<- x5,y5,iF]
    . intro h
      exact Bg x4.co y4.co (by rw [x5,y5,h])
   have Cs:=aA (Gz A3 A5 T3.length T5.length c3 c5 T3 T5 w5 x3 y3 (by have:=CL.o T3 q (Dv.refl q) x4 x5;omega) (by have:=CL.o T5 r ⟨g,h1⟩ y4 y5;omega) (fun i h h'=>(x4.mv.len (bS T3[i]) (af.2 ⟨_,bR h,rfl⟩)).trans (y4.mv.len (bS T5[i]) (af.2 ⟨_,bR h',rfl⟩)).symm) b nI);have F:Hid (∀w',Below w5.heap.size w5 w'->N3 wo n q (.returned (.tuple #[.bool b,.int .i64 0])) w'):=fun w' h=> .inr ⟨Q0.o,g,r,b,h1,h2,h3,hb,rfl,az B3.o (az b5 h)⟩;clear h1 h2 h3 hb nI x3 x4 x5 y3 y4 y5 b5 R3 Cr3 B3 CL;generalize T3.length=l3 at*
   generalize T5.length=l5 at*
   go_wp2_with fail
   refine Cs.o.mono ?_;rintro e w6 ⟨rfl,h6⟩;have F6:=aA (F.o w6 h6);clear F h6;go_wp2_with fail
   go_ret2;exact F6.o
def afd {z:Int}(hz:z≠0):iy n (qq n z)=[(List.replicate n 0,z)]:=by
 have hp:av n [(List.replicate n (0:Int),z)]:=⟨fun t ht=>by rw [dS.1 ht];simp,xz _ _,fun t ht=>by rw [dS.1 ht];exact hz⟩;have hn:qy [(List.replicate n (0:Int),z)]:=fun t ht x hx=>by
  rw [dS.1 ht] at hx;rw [vE hx];exact nw _
 exact (iK hp hn (tq (t:=(List.replicate n 0,z)) (by simp) (hn _ (dS.2 rfl)))).symm
def acE:qq n 0=0:=by
 obtain ⟨w,hw⟩:=Tf (n:=n) (q:=0) fun i hi=>Ed (D:=fun _=>0) hi (aH.en _) rfl;have h5:=dh (fun x=>qq n 0*x) hw;simp only [aF.mul_zero] at h5;rw [<- C6,uV] at h5;exact h5.symm
def NW {g:Pn n}(g0:g≠0):(∃z,g=qq n z)↔∃t,iy n g=[t]∧∀j,j<n->nth t.1 j=0:=by
 constructor
 . rintro ⟨z,e⟩
   have hz:z≠0:=fun k=>g0 (by rw [e,k,acE]);refine ⟨_,by rw [e];exact afd hz,fun j hj=> ?_⟩;show nth (List.replicate n (0:Int)) j=0;rw [fV (by rw [fQ];exact hj),zQ]
 . rintro ⟨t,e,h⟩
   have hp:=bB n g;rw [e] at hp;have hl:=hp.len t (dS.2 rfl);have h1:t.1=List.replicate n 0:=kW (by rw [hl,fQ]) fun j hj=>by
    rw [hl] at hj;rw [h j hj,fV (by rw [fQ];exact hj),zQ]
   have h2:=iF n g;rw [e,tq hl (fun x hx=>by rw [h1] at hx;rw [vE hx];exact nw _),h1] at h2;exact ⟨t.2,h2.symm⟩
def DY (w:World) (n:Nat) (q:Pn n) (e:Ending) (w':World):Prop:=
 (q=0∧e=.returned (.tuple #[.bool false,.int .i64 8])∧Below w.heap.size w w')∨
 (q≠0∧∃(g:Pn n) (b:Bool),zB n n q g∧(b=true↔∃z,g=qq n z)∧e=.returned (.tuple #[.bool b,.int .i64 0])∧Below w.heap.size w w')
def mIs (n:Nat) (hn:n<=3) (A:Option Addr) (m c:Nat) (w:World) (q:Pn n) (D:Nat->Nat) (hD:∀j,D j<=1000) (hV:aH.jo (Pn n) D<=4096) (fit:∀g,q≠0->Dv g q->aH.dg D g∧aH.nm g<=2^e6) (cr:aB 32 #[.int .i64 (n:Int),.slice A m c] w (Gl w n q)):
 aB 16 #[.int .i64 (n:Int),.slice A m c] w (DY w n q):=by
 have Cr:=aA cr;have fq:=aA fit;have KI:=Ia n (by omega);clear cr fit;go_enter func16,ntmps16
 go_wp2_with fail
 refine Cr.o.mono ?_;rintro e w1 (⟨h0,rfl,cZ⟩ | ⟨h0,g,r,s,A1,k1,c1,B1,m1,d1,s',A2,k2,c2,B2,m2,d2,rfl,hq,hK,t1,t2,cZ⟩)
 . have F:Hid (∀W,Below w1.heap.size w1 W->DY w n q (.returned (.tuple #[.bool false,.int .i64 8])) W):=fun W hW=> .inl ⟨h0,rfl,cZ.tm hW⟩
   have ba:Hid (Below w1.heap.size w1 ((w1.alloc (.cells #[.bool false,.slice none 0 0,.slice none 0 0] 51)).alloc (.cells #[.bool false,.slice none 0 0,.slice none 0 0] 51))):=(aU.alloc aL _).alloc (by simp) _;clear cZ Cr fq;unfold bE;go_wp2_with fail
   go_ret2;exact F.o _ ba.o
 . have tB:=aX.new (w1.alloc (.cells #[.bool s,.slice A1 k1 c1,.slice B1 m1 d1] 51)) (.bool s') (.slice A2 k2 c2) (.slice B2 m2 d2)
   rw [aJ] at tB;have ba:Below w1.heap.size w1 ((w1.alloc (.cells #[.bool s,.slice A1 k1 c1,.slice B1 m1 d1] 51)).alloc (.cells #[.bool s',.slice A2 k2 c2,.slice B2 m2 d2] 51)):=(aU.alloc aL _).alloc (by simp) _;have ZG:=aA (cZ.tm ba);have OG:Hid (g≠0):=fun e=>h0 (by rw [hq,e,aF.mul_zero]);obtain ⟨dg,ng⟩:=fq.o g h0 hK.l;have Hf:=aA (t2.aC ba);have HK:=aA hK;have H0:=aA h0;have TB:=aA tB;have Lf:Hid (Nz n g):=oT n g D dg fun j=>by have:=hD j;omega
   obtain ⟨C,hC⟩:∃C:Nat,10=C:=⟨_,rfl⟩;have hC0:C<=1000000:=by omega
   have Nf:Hid (aH.nm g<2^(64*C)):=aR ng (oA (by decide) (by have:=wP;omega));have Yh:Hid ((dW n [] g).length<=4096):=by have:=mP (pre:=[]) dg;show _<=_;omega
   have a0:=tB.cell0;have a1:=tB.cell1;have a2:=tB.aN;clear t1 t2 cZ Cr fq hq hK h0 ba dg ng hC;unfold bE at Hf ⊢;go_wp2_with fail
   generalize je:(w1.alloc (.cells #[.bool s,.slice A1 k1 c1,.slice B1 m1 d1] 51)).alloc (.cells #[.bool s',.slice A2 k2 c2,.slice B2 m2 d2] 51)=wt at*
   clear je;have Ht:Hid (aB 34 #[.agg #[.bool s',.slice A2 k2 c2,.slice B2 m2 d2],.int .i64 (n:Int),.int .i64 0,.slice (some ⟨wt.heap.size,0,none⟩) n n,.slice none 0 0] (World.drew (wt.alloc (.cells (ints (List.replicate n 0)).toArray 3))) (wJ wt wt.heap.size n 0 C (List.replicate n 0) (dW n [] g))):=by
    have hW:Below wt.heap.size wt wt:=aU;have h:=Mn C hC0 n n 0 wt (World.drew (wt.alloc (.cells (ints (List.replicate n 0)).toArray 3))) _ g wt.heap.size (List.replicate n 0) (.slice none 0 0) [] [] (by omega) (by omega) (Hf.o) ((QX _ _ _ n (by omega) hW.size).aC aU.drew) (GP.start _ _ _ _ ((hW.alloc hW.size _).drew)) Nf.o Lf.o (by rw [x9];have:=Yh.o;simp;omega);rw [x9,og] at h;exact h
   have eF:Hid (∀W,Below wt.heap.size wt W->(fun W=>W.cell? ⟨w1.heap.size+1,0,none⟩=some (.bool s')∧W.cell? ⟨w1.heap.size+1,1,none⟩=some (.slice A2 k2 c2)∧W.cell? ⟨w1.heap.size+1,2,none⟩=some (.slice B2 m2 d2)) W):=fun W hW=>⟨((TB.o.aC hW)).cell0,((TB.o.aC hW)).cell1,((TB.o.aC hW)).aN⟩;refine fh (S:=fun W=>W.cell? ⟨w1.heap.size+1,0,none⟩=some (.bool s')∧W.cell? ⟨w1.heap.size+1,1,none⟩=some (.slice A2 k2 c2)∧W.cell? ⟨w1.heap.size+1,2,none⟩=some (.slice B2 m2 d2)) (z:=99) (by kernel_rfl) ?_;have hHeld:=eF.o _ (Below.refl wt.heap.size wt).drew;try dsimp only at hHeld
   refine tk 99 0 (.agg #[.bool s',.slice A2 k2 c2,.slice B2 m2 d2]) rfl hHeld ?_;try simp only [fx,Act.put]
   refine tk 99 1 (.int .i64 (n:Int)) rfl hHeld ?_;try simp only [fx,Act.put]
   refine tk 99 2 (.int .i64 (n:Int)) rfl hHeld ?_;try simp only [fx,Act.put]
   refine aT (rs:=[3]) (by kernel_rfl) (by simp) ?_;refine aK.cons rfl (by decide) (fun KK bu=> ?_) aK.nil;go_simp;refine bu.o _ _ (eF.o _ (aU.alloc aL (.cells (ints (List.replicate n 0)).toArray 3)).drew) (fun hHeld=> ?_);clear bu KK;try dsimp only at hHeld
   try simp only [fx,Act.put]
   refine aT (rs:=[4]) (by kernel_rfl) (by simp) ?_;refine aK.cons rfl (by decide) (fun KK bu=> ?_) aK.nil;go_simp;refine Ht.o.mono ?_;rintro e w2 ⟨v1,E1,es1,rfl,q1,q2,q3⟩;have Q3:=aA q3;obtain ⟨Av,cv,hv⟩:=kI q3.own;subst hv;have Im:Hid ((fun W=>W.cell? ⟨w1.heap.size+1,0,none⟩=some (.bool s')∧W.cell? ⟨w1.heap.size+1,1,none⟩=some (.slice A2 k2 c2)∧W.cell? ⟨w1.heap.size+1,2,none⟩=some (.slice B2 m2 d2)) w2):=eF.o _ q3.aC;clear q1 q2 q3;go_wp2_with fail
   refine bu.o _ _ Im.o (fun hHeld=> ?_);clear bu KK;try dsimp only at hHeld
   try simp only [fx,Act.put]
   refine aT (rs:=[5]) (by kernel_rfl) (by simp) ?_;refine aK.cons rfl (by decide) (fun KK bu=> ?_) aK.nil;go_simp;refine bu.o _ _ Im.o (fun hHeld=> ?_);clear bu KK;try dsimp only at hHeld
   try simp only [fx,Act.put]
   refine fE (by kernel_rfl) ?_ _;have Wq:Hid (Below w.heap.size w w2):=ZG.o.tm Q3.o.aC;have G:Hid (∀b:Bool,(b=true↔∃z,g=qq n z)->DY w n q (.returned (.tuple #[.bool b,.int .i64 0])) w2):=fun b hb=> .inr ⟨H0.o,g,b,HK.o,hb,rfl,Wq.o⟩;have hE:Hid (aP (E1.map (·.2))=dW n [] g):=Q3.o.eq;have GK:Hid (E1.length=(iy n g).length):=by
    show _=_;unfold iy;rw [UJ,<- hE.o,au,dJ]
   clear hHeld Im eF Ht Hf Nf Lf TB HK H0 ZG Wq;by_cases h1:E1.length=1
   . obtain ⟨B9,d9,hv9,jQ,Yt,ht⟩:=jK Q3.o.own rfl Q3.o.ok
     injection hv9 with hv9 _ akN
     subst hv9;subst akN;obtain ⟨x,hx⟩:=adi.1 h1;subst hx;have kR:x.2.2.length=n:=Q3.o.len x (dS.2 rfl);have qm:Hid (iy n g=[bS x.2]):=by
      show _=_;unfold iy;rw [<- hE.o];rfl
     obtain ⟨b,o,rfl,hb,hc⟩:=ht.at_ (by simp);obtain ⟨Ai,ci,Ei,ei,y1,y2,y3,y4,y5,y6,z7,y8,y9⟩:=hc 0 (by simp);have z3:w2.cell? ⟨b,o+2,none⟩=some (.slice Ei x.2.2.length ei):=y3;have z6:x.2.2.length<=ei:=y6;have z9:Ints w2 Ei x.2.2.length x.2.2:=y9;clear y1 y2 y3 y4 y5 y6 y8 y9;rw [kR] at z3 z6 z9;have X:=aA z9;have hnn:Hid (∀j,j<n->0<=nth x.2.2 j):=fun j hj=>fU n g (bS x.2) (by rw [qm.o];exact dS.2 rfl) _ (gL (xs:=x.2.2) (i:=j) (by rw [kR];exact hj));have no:Hid (∀j,j<n->0<nth x.2.2 j->DY w n q (.returned (.tuple #[.bool false,.int .i64 0])) w2):=fun j hj h=>G.o false ⟨fun h=>(by cases h),fun h2=>by
      obtain ⟨t,ht,h3⟩:=(NW OG.o).1 h2;rw [qm.o] at ht;injection ht with ht
      have h4:=h3 j hj;rw [<- ht] at h4;have h4:nth x.2.2 j=0:=h4;omega⟩
     have yes:Hid ((∀j,j<n->nth x.2.2 j=0)->DY w n q (.returned (.tuple #[.bool true,.int .i64 0])) w2):=fun h=>G.o true ⟨fun _=>(NW OG.o).2 ⟨_,qm.o,h⟩,fun _=>rfl⟩;have hl9:(List.length [x]:Int)=1:=rfl;clear hc ht z9 hE GK G Q3 qm h1 jQ Yt kR;(go_wp2_with fail);go_loopw [35] (fun i wr=>∃k:Nat,k<=n∧i=.int .i64 k∧Hid (∀j,j<k->nth x.2.2 j=0)∧wr=w2) (fun i _=>n-(intOf i).toNat)
     case atStart=>exact ⟨0,bL _,rfl,(fun j hj=>absurd hj (rK j)),rfl⟩
     case round=>
      obtain ⟨k,hk,rfl,eR,rfl⟩:=hrel;by_cases hlt:k<n
      . obtain ⟨b',o',rfl,nI,hc'⟩:=X.o.at_ (by omega)
        have CP:=hc' k hlt;(have dH:(k:Int)<(n:Int):=by omega);(have wT:(0:Int)<=(k:Int):=by omega);clear hc';by_cases hz:0<nth x.2.2 k
        . have F:=aA (no.o k hlt hz)
          (go_wp2_with fail);go_ret2;exact F.o
        . have jE:nth x.2.2 k=0:=by have:=hnn.o k hlt;omega
          have HZ:=aA jE;clear jE;(go_wp2_with fail);go_roundw
          case rel=>exact ⟨k+1,by omega,by go_num,(fun j hj=>if e:j=k then e ▸ HZ.o else eR.o j (by omega)),(by first | trivial | rfl)⟩
          case measure=>simp [intOf];omega
      . have dH:¬(k:Int)<(n:Int):=by omega
        have F:=aA (yes.o fun j hj=>eR.o j (by omega));(go_wp2_with fail);go_ret2;exact F.o
   . have hne:((E1.length:Int) !=1)=true:=by simp;omega
     have F:=aA (G.o false ⟨fun h=>(by cases h),fun h=>by
      obtain ⟨t,ht,_⟩:=(NW OG.o).1 h;have h2:=GK.o;rw [ht] at h2;exact absurd h2 h1⟩)
     clear h1 G;(go_wp2_with fail);go_ret2;exact F.o
def U4 (w:World) (e:Ending) (w':World):Prop:=e=.returned (.tuple #[.slice none 0 0,.int .i64 1])∧Below w.heap.size w w'
def N4 (w:World) (e:Ending) (w':World):Prop:=e=.returned (.tuple #[.bool false,.int .i64 1])∧Below w.heap.size w w'
def FX (n:Int) (A:Option Addr) (m c:Nat) (L:List TV) (w:World) (hx:iI w A m L) (h:GN n L=1):
 aB 32 #[.int .i64 n,.slice A m c] w (fun e w'=>e=.returned (.tuple #[.agg #[.bool false,.slice none 0 0,.slice none 0 0],.agg #[.bool false,.slice none 0 0,.slice none 0 0],.int .i64 1])∧Below w.heap.size w w'):=by
 have Cp:=aA (fun W (hW:Below w.heap.size w W)=>aaC n A m c L W (hx.aC hW) h);clear hx h;have t0:=(aX.new w (.bool false) (.slice none 0 0) (.slice none 0 0)).aC (aU.alloc aL (.cells #[.bool false,.slice none 0 0,.slice none 0 0] 51));have t1:=aX.new (w.alloc (.cells #[.bool false,.slice none 0 0,.slice none 0 0] 51)) (.bool false) (.slice none 0 0) (.slice none 0 0);rw [aJ] at t1;have hb:Below w.heap.size w ((w.alloc (.cells #[.bool false,.slice none 0 0,.slice none 0 0] 51)).alloc (.cells #[.bool false,.slice none 0 0,.slice none 0 0] 51)):=(aU.alloc aL _).alloc (by simp) _;go_enter func32,ntmps32
 go_wp2_with fail
 generalize je:(w.alloc (.cells #[.bool false,.slice none 0 0,.slice none 0 0] 51)).alloc (.cells #[.bool false,.slice none 0 0,.slice none 0 0] 51)=wt at*
 clear je;have T0:=aA t0;have T1:=aA t1;have HB:=aA hb;clear t0 t1 hb;refine (Cp.o wt HB.o).mono ?_;rintro e w1 ⟨rfl,p12⟩;have wu:=aA (HB.o.tm p12);have X0:=aA (T0.o.aC p12);have X1:=aA (T1.o.aC p12);clear p12 Cp T0 T1 HB;have nH:Hid (Below w1.heap.size w1 (w1.alloc (.cells #[.bool false,.slice none 0 0] 41))):=aU.alloc aL _;have r0:=(X0.o.aC nH.o).cell0;have r1:=(X0.o.aC nH.o).cell1;have r2:=(X0.o.aC nH.o).aN;have r3:=(X0.o.aC nH.o).frozen 0;have r4:=(X0.o.aC nH.o).frozen 1;have r5:=(X0.o.aC nH.o).frozen 2;have v0:=(X1.o.aC nH.o).cell0;have v1:=(X1.o.aC nH.o).cell1;have v2:=(X1.o.aC nH.o).aN;have v3:=(X1.o.aC nH.o).frozen 0;have v4:=(X1.o.aC nH.o).frozen 1;have v5:=(X1.o.aC nH.o).frozen 2;have ZG:Hid (Below w.heap.size w (w1.alloc (.cells #[.bool false,.slice none 0 0] 41))):=wu.o.tm nH.o;have l1:=(X1.o.aC nH.o).lt;have l0:=(X0.o.aC nH.o).lt;obtain ⟨y1,y2⟩:=Gq (X0.o.aC nH.o) (X1.o.aC nH.o) (by omega) (.bool false) (.slice none 0 0) (.slice none 0 0) (.bool false) (.slice none 0 0) (.slice none 0 0);have Y1:=aA y1;have Y2:=aA y2;have HBe:=aA (Nc ZG.o (g:=w.heap.size) (h:=w.heap.size+1) aL (by omega) (.bool false) (.slice none 0 0) (.slice none 0 0) (.bool false) (.slice none 0 0) (.slice none 0 0));clear y1 y2;go_wp2_with fail
 exact bK (v:=.tuple #[.agg #[.bool false,.slice none 0 0,.slice none 0 0],.agg #[.bool false,.slice none 0 0,.slice none 0 0],.int .i64 1]) (xI (fn:=f32) rfl _ _ _ w.heap.size (w.heap.size+1) _ _ rfl rfl (rj Y1.o) (rj Y2.o)) rfl ⟨rfl,HBe.o⟩
def Pk (n:Int) (A:Option Addr) (m c:Nat) (L:List TV) (w:World) (hx:iI w A m L) (h:GN n L=1):aB 14 #[.int .i64 n,.slice A m c] w (U4 w):=by
 have Cr:=aA (FX n A m c L w hx h);clear hx h;go_enter func14,ntmps14
 go_wp2_with fail
 refine Cr.o.mono ?_;rintro e w1 ⟨rfl,cZ⟩;have F:Hid (∀W,Below w1.heap.size w1 W->U4 w (.returned (.tuple #[.slice none 0 0,.int .i64 1])) W):=fun W hW=>⟨rfl,cZ.tm hW⟩;have ba:Hid (Below w1.heap.size w1 ((w1.alloc (.cells #[.bool false,.slice none 0 0,.slice none 0 0] 51)).alloc (.cells #[.bool false,.slice none 0 0,.slice none 0 0] 51))):=(aU.alloc aL _).alloc (by simp) _;clear cZ Cr;go_wp2_with fail
 go_ret2;exact F.o _ ba.o
def akA (n:Int) (A:Option Addr) (m c:Nat) (L:List TV) (w:World) (hx:iI w A m L) (h:GN n L=1):aB 16 #[.int .i64 n,.slice A m c] w (N4 w):=by
 have Cr:=aA (FX n A m c L w hx h);clear hx h;go_enter func16,ntmps16
 go_wp2_with fail
 refine Cr.o.mono ?_;rintro e w1 ⟨rfl,cZ⟩;have F:Hid (∀W,Below w1.heap.size w1 W->N4 w (.returned (.tuple #[.bool false,.int .i64 1])) W):=fun W hW=>⟨rfl,cZ.tm hW⟩;have ba:Hid (Below w1.heap.size w1 ((w1.alloc (.cells #[.bool false,.slice none 0 0,.slice none 0 0] 51)).alloc (.cells #[.bool false,.slice none 0 0,.slice none 0 0] 51))):=(aU.alloc aL _).alloc (by simp) _;clear cZ Cr;go_wp2_with fail
 go_ret2;exact F.o _ ba.o
def J5 (n:Int) (A:Option Addr) (m c:Nat) (L:List TV) (w:World) (hx:iI w A m L) (h:GN n L=1):aB 15 #[.int .i64 n,.slice A m c] w (U4 w):=by
 have C:=aA (oO n A m c L w hx);unfold Jl at C;rw [h] at C;clear hx h;go_enter func15,ntmps15
 obtain ⟨wo,rfl⟩:∃wo:World,wo=w:=⟨_,rfl⟩;go_wp2_with fail
 refine C.o.mono ?_;rintro e w1 ⟨rfl,h9⟩;obtain rfl:=h9;go_wp2_with fail
 go_ret2;exact ⟨rfl,aU⟩
def Zm (n:Int) (A:Option Addr) (m c:Nat) (L:List TV) (w:World) (hx:iI w A m L) (h:GN n L=1):aB 17 #[.int .i64 n,.slice A m c] w (N4 w):=by
 have C:=aA (oO n A m c L w hx);unfold Jl at C;rw [h] at C;clear hx h;go_enter func17,ntmps17
 obtain ⟨wo,rfl⟩:∃wo:World,wo=w:=⟨_,rfl⟩;go_wp2_with fail
 refine C.o.mono ?_;rintro e w1 ⟨rfl,h9⟩;obtain rfl:=h9;go_wp2_with fail
 go_ret2;exact ⟨rfl,aU⟩
def akc {x y z:Nat}(hn:n<=3) (hs:(x+1)*(y+1)*(z+1)<=20) (hz:n=2->z=0) {f:Pn n}(fd:aH.dg (D3 x y z) f) (fn:aH.nm f<=2^67):AW n f (IC n f) (D3 x y z):=by
 have e:∀{u:Nat},u<=2^hb x y z->u<=2^e6:=fun h=>aG h (fP (by decide) (by have:=LS hs;have:=wP;omega));have b:∀{u:Nat},u<=2^67->u<=2^hb x y z:=fun h=>aG h (fP (by omega) (by unfold hb;omega));obtain ⟨q,hq⟩:∃q,IC n f=q:=⟨_,rfl⟩;have nq:aH.nm q<=2^67:=by rw [<- hq];exact aG (Zs _ _) fn
 have dq:aH.dg (D3 x y z) q:=by
  by_cases h0:f=0
  . have:q=0:=by rw [<- hq];exact ud.2 h0
    rw [this];exact aH.en _
  . rw [<- hq]
    exact (aH.factor _ _ _ h0 fd (Ma n _)).1
 have Fq:N6 n x y z q:=⟨dq,aG nq (fP (by omega) (by omega))⟩;have nD:∀k,aH.nm (oJ n k q)<=2^hb x y z:=fun k=>by
  refine aG (WK dq) (aG (ai (aG (adW hs k) (pH _)) nq) (fP (by omega) ?_));unfold hb;omega
 rw [hq];exact ⟨hq,fun j=>by have:=Wv hs j;omega,by have:=yK hn hs;omega,fd,e (b fn),fun _=>dq,fun h0 g hg=>e (Fq.dv hn hs h0 hg).nm,fun _ k _=>e (nD k),fun h0 k g _ hK=>EN x y z hn hs hz g (oJ n k q) (Fq.dv hn hs h0 hK.l).dg (NT dq) (Fq.dv hn hs h0 hK.l).nm (nD k)⟩
def afP {k:Nat} {q g:Pn n}(h:zB n k q g):zB n k q (-g):=by
 have dn:∀{x:Pn n},Dv g x->Dv (-g) x:=fun ⟨u,hu⟩=>⟨-u,by rw [hu,aF.neg_mul,aF.mul_neg,aF.neg_neg]⟩;exact ⟨dn h.l,fun i hi=>dn (h.r i hi),fun d h1 h2=>(h.top d h1 h2).trans ⟨-1,by rw [aF.mul_neg,aF.mul_one]⟩⟩
def Li {a b:Bool} {p:Prop}(h:p↔a=true) (k:p↔b=true):a=b:=by
 cases a<;>cases b
 . rfl
 . exact absurd (h.1 (k.2 rfl)) (by decide)
 . exact absurd (k.1 (h.2 rfl)) (by decide)
 . rfl
def Ur (n:Int) (A:Option Addr) (m c:Nat) (w0 w:World) (e:Ending) (w':World):Prop:=
 ∃(T:List TV) (k k2:Int) (b:Bool) (A':Option Addr) (c':Nat),e=.returned (.tuple #[.slice A' T.length c',.int .i64 k])∧T.length<=100000000∧iI w' A' T.length T∧Below w.heap.size w w'∧
 (∀W,Below w0.heap.size w0 W->aB 15 #[.int .i64 n,.slice A m c] W fun e w''=>∃A'' c'',e=.returned (.tuple #[.slice A'' T.length c'',.int .i64 k])∧iI w'' A'' T.length T∧Below W.heap.size W w'')∧
 (∀W,Below w0.heap.size w0 W->aB 16 #[.int .i64 n,.slice A m c] W fun e w''=>e=.returned (.tuple #[.bool b,.int .i64 k2])∧Below W.heap.size W w'')∧
 (∀W,Below w0.heap.size w0 W->aB 17 #[.int .i64 n,.slice A m c] W fun e w''=>e=.returned (.tuple #[.bool b,.int .i64 k2])∧Below W.heap.size W w'')
def aka (n:Int) (A:Option Addr) (m c:Nat) (L:List TV) (w0 w:World) (hx:iI w0 A m L) (hw:Below w0.heap.size w0 w) (h:GN n L=1):aB 14 #[.int .i64 n,.slice A m c] w (Ur n A m c w0 w):=by
 refine (Pk n A m c L w (hx.aC hw) h).mono ?_;rintro e w' ⟨rfl,hb⟩;exact ⟨[],1,1,false,none,0,rfl,by simp,iI.nil _ _,hb,fun W hW=>(J5 n A m c L W (hx.aC hW) h).mono fun e w2 ⟨h1,h2⟩=>⟨none,0,h1,iI.nil _ _,h2⟩,fun W hW=>akA n A m c L W (hx.aC hW) h,fun W hW=>Zm n A m c L W (hx.aC hW) h⟩
def aeR (n x y z:Nat) (hn:n<=3) (hs:(x+1)*(y+1)*(z+1)<=20) (hz:n=2->z=0) (A:Option Addr) (m c:Nat) (L:List TV) (w0 w:World) (hx:iI w0 A m L) (hw:Below w0.heap.size w0 w) (hL:Arg n 1000 L) (ha:bJ (aP L)<2^(64*2000)) (fd:aH.dg (D3 x y z) (iU n (aP L))) (fn:aH.nm (iU n (aP L))<=2^67):
 aB 14 #[.int .i64 (n:Int),.slice A m c] w (Ur n A m c w0 w):=by
 have RF:=akc hn hs hz fd fn;have aic:=RF.zero;obtain ⟨q,hq⟩:∃q,IC n (iU n (aP L))=q:=⟨_,rfl⟩;have R1:=FY n x y z hn hs hz A m c L w (hx.aC hw) hL fd fn;have R2:=fun W (hW:Below w0.heap.size w0 W)=>SB n hn (D3 x y z) A m c L W (hx.aC hW) hL ha _ RF;have I1:=fun W (hW:Below w0.heap.size w0 W)=>mIs n hn A m c W _ (D3 x y z) RF.bD RF.V (fun g h0 hg=>⟨(aH.factor _ _ _ h0 (RF.dq h0) hg).1,RF.fit h0 g hg⟩) (FW n x y z hn hs hz A m c L W (hx.aC hW) hL fd fn);have I2:=fun W (hW:Below w0.heap.size w0 W)=>aoU n hn (D3 x y z) A m c L W (hx.aC hW) hL ha _ RF;rw [hq] at R1 RF aic;simp only [hq] at R2 I1 I2;refine R1.mono ?_;rintro e w' (⟨h0,rfl,hb⟩ | ⟨h0,g,r,r',e1,hK,hr,hp,A',c',T,rfl,g1,g2,g3,g4,g5,g6⟩)
 . refine ⟨[],8,8,false,none,0,rfl,by simp,iI.nil _ _,hb,fun W hW=>(R2 W hW).mono fun e w2 h=> ?_,fun W hW=>(I1 W hW).mono fun e w2 h=> ?_,fun W hW=>(I2 W hW).mono fun e w2 h=> ?_⟩
   . rcases h with ⟨_,h2,h3⟩ | ⟨h1,_⟩
     . exact ⟨none,0,h2,iI.nil _ _,h3⟩
     . exact absurd h0 h1
   . rcases h with ⟨_,h2,h3⟩ | ⟨h1,_⟩
     . exact ⟨h2,h3⟩
     . exact absurd h0 h1
   . rcases h with ⟨_,h2,h3⟩ | ⟨h1,_⟩
     . exact ⟨h2,h3⟩
     . exact absurd h0 h1
 . have f0:iU n (aP L)≠0:=fun e=>h0 (aic.2 e)
   have pm:Pm q:=by rw [<- hq];exact akl f0
   have pq:iV q:=by rw [<- hq];exact VQ
   obtain ⟨k1,e2,K1⟩:∃k1,q=r'*k1∧zB n n q k1:=by
    rcases hr with h | h
    . exact ⟨g,by rw [h];exact e1,hK⟩
    . exact ⟨-g,by rw [h,aF.neg_mul,aF.mul_neg,aF.neg_neg];exact e1,afP hK⟩
   have eT:aP T=iy n r':=g4.mv.unique (bB n r') g5;have cT:T.length<=4096:=(sq RF.bD RF.V g4 eT (aH.factor _ _ _ h0 (RF.dq h0) ⟨k1,e2⟩).1 (RF.fit h0 r' ⟨k1,e2⟩)).cnt;obtain ⟨b,hb⟩:∃b:Bool,(q=r'↔b=true):=by
    by_cases h:q=r'
    . exact ⟨true,fun _=>rfl,fun _=>h⟩
    . exact ⟨false,fun k=>absurd k h,fun k=>by cases k⟩
   refine ⟨T,0,0,b,A',c',rfl,by omega,g3,g6,fun W hW=>(R2 W hW).mono fun e w2 h=> ?_,fun W hW=>(I1 W hW).mono fun e w2 h=> ?_,fun W hW=>(I2 W hW).mono fun e w2 h=> ?_⟩
   . rcases h with ⟨h1,_⟩ | ⟨_,g',r2,e3,K2,p2,A2,c2,T2,rfl,y1,y2,y3,y4,y5,y6⟩
     . exact absurd h1 h0
     . have er:=Oy h0 e2 e3 K1 K2 hp p2
       (have e4:aP T2=aP T:=by rw [y4.mv.unique (bB n r2) y5,eT,er]);obtain rfl:=Bg y4.co g4.co e4;exact ⟨A2,c2,rfl,y3,y6⟩
   . rcases h with ⟨h1,_⟩ | ⟨_,g',b',K2,cN,rfl,y6⟩
     . exact absurd h1 h0
     . have:=Li ((akb h0 pm e2 K1 K2 hp pq).trans cN.symm) hb
       rw [this];exact ⟨rfl,y6⟩
   . rcases h with ⟨h1,_⟩ | ⟨_,g',r2,b',e3,K2,p2,cN,rfl,y6⟩
     . exact absurd h1 h0
     . have er:=Oy h0 e2 e3 K1 K2 hp p2
       rw [er] at cN;rw [Li cN hb];exact ⟨rfl,y6⟩
def Mr (n most:Int) (g c:Nat) (A:Option Addr) (m1 c1:Nat) (L:List TV) (w:World) (hg:g<w.heap.size) (q0:w.cell? ⟨g,0,none⟩=some (.slice A m1 c1)) (hx:iI w A m1 L) (h1:m1<=9223372036854775807):
 aB 11 #[.int .i64 n,.int .i64 most,.int .i64 20,.slice (some ⟨g,0,none⟩) 1 c] w (jd w n most 20 1 (fun _=>L)):=
 aaM n most 20 g 1 c (fun _=>A) (fun _=>m1) (fun _=>c1) (fun _=>L) w (by omega) (by omega) hg (fun k hk=>by
  obtain rfl:k=0:=by omega
  exact ⟨q0,hx,h1⟩)
def ER (a0:Int) (A1:Option Addr) (m1 c1:Nat) (L1:List TV) (w:World) (lo0: -9223372036854775808<=a0) (rT:a0<=9223372036854775807)
 (w1:iI w A1 m1 L1) (h1:m1<=c1) (k1:c1<=9223372036854775807):
 aB 4 #[.int .i64 a0,.slice A1 m1 c1] w fun e w'=>e=.returned (.bool true)∧Below w.heap.size w w':=by
 have Ta:=aA w1;clear w1;by_cases oH:Q8 a0 L1
 . have ck1:Hid (∀W,Below w.heap.size w W->aB 9 #[.int .i64 a0,.slice A1 m1 c1] W fun e w'=>e=.returned (.int .i64 0)∧w'=W):=fun W hW=>(oO a0 A1 m1 c1 L1 W (Ta.o.aC hW)).mono fun e w' h=>by
    obtain ⟨h3,h4⟩:=h;rw [rU oH] at h3;exact ⟨h3,h4.symm⟩
   clear oH;go_enter func4,ntmps4
   obtain ⟨wo,rfl⟩:∃wo:World,wo=w:=⟨_,rfl⟩;go_wp2_with fail
   refine (WS wo).mono ?_;rintro e wa ⟨rfl,nH⟩;have K1:=aA (ck1.o wa nH);have ba:Below wa.heap.size wa (wa.alloc (.cells #[.slice A1 m1 c1] 22)):=aU.alloc aL _;have hq:=bM wa (.cells #[.slice A1 m1 c1] 22);have hsz:wa.heap.size<(wa.alloc (.cells #[.slice A1 m1 c1] 22)).heap.size:=by simp
   have HB:=aA (nH.tm ba);have q0:(wa.alloc (.cells #[.slice A1 m1 c1] 22)).cell? ⟨wa.heap.size,0,none⟩=some (.slice A1 m1 c1):=by
    rw [dQ _ _ 0 _ _ (0,0) hq];rfl
   have Cs:=aA (Mr a0 7 wa.heap.size 1 A1 m1 c1 L1 _ hsz q0 (Ta.o.aC HB.o) (by omega));clear ba hq hsz q0 nH ck1;go_wp2_with fail
   refine K1.o.mono ?_;rintro e wx ⟨rfl,h9⟩;obtain rfl:=h9.symm;clear K1;go_wp2_with fail
   generalize hwb:wa.alloc (.cells #[.slice A1 m1 c1] 22)=wb at*
   clear hwb;refine Cs.o.mono ?_;rintro e wc ⟨bb,rfl,hbc,hsm⟩;have HC:=aA (HB.o.tm hbc);have Hs:=aA hsm;clear hbc hsm Cs HB;cases bb with
   | false=>
     (go_wp2_with fail);go_ret;exact ⟨rfl,HC.o⟩
   | true=>
     have o1:=((Hs.o rfl).2.1 0 (by omega)).2.2;obtain ⟨n,x,y,z,hn0,hn,hs,hz,QH⟩:=aeK (Hs.o rfl) (by omega) (by omega);subst hn0;obtain ⟨ar1,dg1,nm1⟩:=QH 0 (by omega) (vK Ta.o);have R:=aA (aeR n x y z hn hs hz A1 m1 c1 L1 wo wc Ta.o HC.o ar1 (ahj ar1 (vK Ta.o) o1) dg1 nm1);clear QH Hs dg1 nm1 ar1 hz o1 hs Ta;generalize (n:Int)=a0 at*
     (go_wp2_with fail);refine R.o.mono ?_;rintro e wd ⟨T,k,k2,b,A',c',rfl,lT,t1,b1,R2,I1,I2⟩;have HD:=aA (az HC.o b1);have T1:=aA t1;have C2:=aA (R2 wd HD.o);have J1:=aA I1;have J2:=aA I2;clear t1 b1 R2 I1 I2 R HC;(go_wp2_with fail);refine C2.o.mono ?_;rintro e we ⟨A2,c2,rfl,t2,b2⟩;have HE:=aA (az HD.o b2);have C3:=aA (J1.o we HE.o);have Sm0:=aA (fun W (hW:Below we.heap.size we W)=>GX A' A2 T.length c' c2 T W (T1.o.aC (az b2 hW)) (t2.aC hW) lT);clear t2 b2 C2 T1 HD J1;(go_wp2_with fail);refine C3.o.mono ?_;rintro e wf ⟨rfl,b3⟩;have HF:=aA (az HE.o b3);have C4:=aA (J2.o wf HF.o);have Sm1:=aA (fun W (hW:Below wf.heap.size wf W)=>Sm0.o W (az b3 hW));clear b3 C3 Sm0 HE J2;(go_wp2_with fail);refine C4.o.mono ?_;rintro e wg ⟨rfl,b4⟩;have HG:=aA (az HF.o b4);have Sm:=aA (Sm1.o wg b4);(have hk:(k==k)=true:=by simp);(have zP:(k2==k2)=true:=by simp);clear b4 C4 Sm1 HF;(go_wp2_with fail);refine Sm.o.mono ?_;rintro e wh ⟨rfl,b5⟩;have HH:=aA (az HG.o b5);clear b5 Sm HG;(go_wp2_with fail);go_ret;exact ⟨by simp,HH.o⟩
 . have R:Hid (∀W,Below w.heap.size w W->aB 14 #[.int .i64 a0,.slice A1 m1 c1] W (Ur a0 A1 m1 c1 w W)):=fun W hW=>aka a0 A1 m1 c1 L1 w W Ta.o hW (DA oH)
   have ck1:Hid (∀W,Below w.heap.size w W->aB 9 #[.int .i64 a0,.slice A1 m1 c1] W fun e w'=>e=.returned (.int .i64 1)∧w'=W):=fun W hW=>(oO a0 A1 m1 c1 L1 W (Ta.o.aC hW)).mono fun e w' h=>by
    obtain ⟨h3,h4⟩:=h;rw [DA oH] at h3;exact ⟨h3,h4.symm⟩
   clear oH Ta;go_enter func4,ntmps4
   obtain ⟨wo,rfl⟩:∃wo:World,wo=w:=⟨_,rfl⟩;go_wp2_with fail
   refine (WS wo).mono ?_;rintro e wc ⟨rfl,nH⟩;have K1:=aA (ck1.o wc nH);have RR:=aA (R.o wc nH);have HC:=aA nH;clear ck1 R nH;go_wp2_with fail
   refine K1.o.mono ?_;rintro e wx ⟨rfl,h9⟩;obtain rfl:=h9.symm;clear K1;go_wp2_with fail
   refine RR.o.mono ?_;rintro e wd ⟨T,k,k2,b,A',c',rfl,lT,t1,b1,R2,I1,I2⟩;have HD:=aA (az HC.o b1);have T1:=aA t1;have C2:=aA (R2 wd HD.o);have J1:=aA I1;have J2:=aA I2;clear t1 b1 R2 I1 I2 RR HC;go_wp2_with fail
   refine C2.o.mono ?_;rintro e we ⟨A2,c2,rfl,t2,b2⟩;have HE:=aA (az HD.o b2);have C3:=aA (J1.o we HE.o);have Sm0:=aA (fun W (hW:Below we.heap.size we W)=>GX A' A2 T.length c' c2 T W (T1.o.aC (az b2 hW)) (t2.aC hW) lT);clear t2 b2 C2 T1 HD J1;go_wp2_with fail
   refine C3.o.mono ?_;rintro e wf ⟨rfl,b3⟩;have HF:=aA (az HE.o b3);have C4:=aA (J2.o wf HF.o);have Sm1:=aA (fun W (hW:Below wf.heap.size wf W)=>Sm0.o W (az b3 hW));clear b3 C3 Sm0 HE J2;go_wp2_with fail
   refine C4.o.mono ?_;rintro e wg ⟨rfl,b4⟩;have HG:=aA (az HF.o b4);have Sm:=aA (Sm1.o wg b4);have hk:(k==k)=true:=by simp
   have zP:(k2==k2)=true:=by simp
   clear b4 C4 Sm1 HF;go_wp2_with fail
   refine Sm.o.mono ?_;rintro e wh ⟨rfl,b5⟩;have HH:=aA (az HG.o b5);clear b5 Sm HG;go_wp2_with fail
   go_ret;exact ⟨by simp,HH.o⟩
