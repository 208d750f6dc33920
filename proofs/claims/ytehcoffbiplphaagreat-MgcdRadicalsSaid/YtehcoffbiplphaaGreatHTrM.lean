import Derived.Test.YtehcoffbiplphaaGreatHRpln
import Derived.Test.YtehcoffbiplphaaGreatHIv
import Derived.Test.YtehcoffbiplphaaGreatHPlV
import Derived.Test.YtehcoffbiplphaaGreatHLwA
set_option linter.all false
set_option maxHeartbeats 16000000
set_option maxRecDepth 100000
namespace Go.Proofs.YtehcoffbiplphaaGreat
open Go.Proofs.Tryz
open aF Go.RowKit
variable {w0 w:World} {D M De DF:Nat->Nat} {k g n K i m h le He HF L H d B e x y z j:Nat} {Dm:Nat->Nat->Nat} {a b:Value} {c nn most:Int}
def az {w':World}(h:Below w0.heap.size w0 w) (b:Below w.heap.size w w'):Below w0.heap.size w0 w':=h.tm b
def kS:∀{n:Nat} {D E:Nat->Nat},(∀j,D j<=E j)->aH.jo (Pn n) D<=aH.jo (Pn n) E
 | 0,_,_,_=>aL
 | n+1,D,E,h=>ct (pO (h 0)) (kS fun j=>h (j+1))
def Poly.YV {R:Type} [aH R] {p:Poly R} (h:mo D p) (hk:k+1<=p.len):mo D (mono k p.lc):=⟨fun i hi=>by
 have h8:=bV h.1;rw [dZ,aY (by omega)],fun i=>by
 rw [dZ];split
 . exact h.2 _
 . exact aH.en _⟩
def tR (n K:Nat) (D E:Nat->Nat) (x y:Pn (n+1)):Prop:=aH.dg D x∧aH.dg E y∧(∀j,D j+((kids x).len+2)*E j<1000000000000)∧aH.nm y<2^(64*K)∧(2*aH.nm y)^((kids x).len+1-(kids y).len)*aH.nm x<2^(64*K)∧aH.jo (Pn (n+1)) (fun j=>D j+((kids x).len+2)*E j)*aH.jo (Pn (n+1)) E<=1000000000000
section
variable {n K : Nat} {D E : Nat -> Nat} {x y p : Pn (n + 1)} {k : Nat}
def tR.q (h:tR n K D E x y):iw (n+1) K y:=by
 obtain ⟨h1,h2,h3,h4,h5,h6⟩:=h;exact ⟨E,h2,aG (iT _ (aH.nQ _)) h6,fun j=>by
  have h7:=h3 j;have h8:1*E j<=((kids x).len+2)*E j:=bG _ (by omega);omega,h4⟩
def tR.pw (h:tR n K D E x y) (hy:y≠0) (hI:Poly.RI (kids x) (kids y) D E k (kids p)) {r:Nat}(hr:k+r<=(kids x).len+1-(kids y).len):(2*aH.nm y)^r*aH.nm p<2^(64*K):=by
 have h1:aH.nm p<=(2*aH.nm y)^k*aH.nm x:=hI.nm;have h2:1<=aH.nm y:=aH.rB y hy;refine aR ?_ h.2.2.2.2.1;refine aG (bn _ h1) ?_;rw [<- dA,<- iD];exact bG _ (fP (by omega) (by omega))
def tR.pp (h:tR n K D E x y) (hy:y≠0) (hI:Poly.RI (kids x) (kids y) D E k (kids p)):iw (n+1) K p:=by
 have hk:k<=(kids x).len:=by have:=hI.len;omega
 have h5:aH.nm p<2^(64*K):=by
  have h6:=h.pw hy hI (r:=0) (by rcases hI.rounds with e | e<;>omega);rwa [wQ,bN] at h6
 obtain ⟨h1,h2,h3,h4,_,h6⟩:=h;have le:∀j,D j+k*E j<=D j+((kids x).len+2)*E j:=fun j=>JZ (bG _ (by omega)) _;exact ⟨fun j=>D j+k*E j,hI.dg,aG (kS le) (aG (jR _ (aH.nQ _)) h6),fun j=>aR (le j) (h3 j),h5⟩
def iw.neg {m K:Nat} {f:Pn m}(h:iw m K f):iw m K (-f):=by
 obtain ⟨D,h1,h2,h3,h4⟩:=h;exact ⟨D,aH.Ec _ _ h1,h2,h3,by rw [aH.zZ];exact h4⟩
def arW {f:Pn (n+1)}(h:aH.dg E f):aH.dg (fun j=>E (j+1)) (kids f).lc:=(show Poly.mo E (kids f) from h).2 _
def aaf (f:Pn (n+1)):aH.nm (kids f).lc<=aH.nm f:=Poly.rC (kids f) _
def tR.step (h:tR n K D E x y) (hy:y≠0) (hI:Poly.RI (kids x) (kids y) D E k (kids p)) (hl:(kids y).len<=(kids p).len):
 jO (n+1) K p (mkK (Poly.C (kids y).lc))∧jO (n+1) K (mkK (Poly.mono ((kids p).len-(kids y).len) (kids p).lc)) y∧aH.nm (p*mkK (Poly.C (kids y).lc))+aH.nm (-(mkK (Poly.mono ((kids p).len-(kids y).len) (kids p).lc)*y))<2^(64*K)∧iw (n+1) K (p*mkK (Poly.C (kids y).lc))∧iw (n+1) K (mkK (Poly.mono ((kids p).len-(kids y).len) (kids p).lc)*y)∧iw n K (kids p).lc:=by
 have hy':(kids y)≠0:=fun e=>hy e;have hly:=Poly.cI hy';have hk:k<(kids x).len:=by have:=hI.len;omega
 have S1:k+1<=(kids x).len+1-(kids y).len:=by have:=hI.len;omega
 have pP:=h.pp hy hI;have n1:=h.pw hy hI S1;rw [UE] at n1;have ny:1<=aH.nm y:=aH.rB y hy;obtain ⟨h1,h2,h3,h4,_,h6⟩:=h;have dP:Poly.mo (fun j=>D j+k*E j) (kids p):=hI.dg;have nP:aH.nm p<2^(64*K):=by obtain ⟨_,_,_,_,h⟩:=pP;exact h
 have nC:aH.nm (mkK (Poly.C (kids y).lc))<=aH.nm y:=by rw [Xb];exact aaf y
 have nM:aH.nm (mkK (Poly.mono ((kids p).len-(kids y).len) (kids p).lc))<=aH.nm p:=aG (Poly.yY (R:=Pn n) _ (kids p).lc) (aaf p);have le:∀j,D j+k*E j<=D j+((kids x).len+2)*E j:=fun j=>JZ (bG _ (by omega)) _;have xW:∀j,(D j+k*E j)+E j<=D j+((kids x).len+2)*E j:=fun j=>by
  have h7:k*E j+E j<=((kids x).len+2)*E j:=by
   have:(k+1)*E j<=((kids x).len+2)*E j:=bG _ (by omega);rwa [bO,bN] at this
  omega
 have sE:∀j,D j+k*E j+E j<1000000000000:=fun j=>aR (xW j) (h3 j);have two:2*(aH.nm p*aH.nm y)<2^(64*K):=by
  have e:2*aH.nm y*aH.nm p=2*(aH.nm p*aH.nm y):=by rw [dA,aq (aH.nm y)]
  rwa [e] at n1
 have v1:aH.jo (Pn (n+1)) (fun j=>D j+k*E j)*aH.jo (Pn (n+1)) E<=1000000000000:=aG (bG _ (kS le)) h6;have dC:aH.dg E (mkK (Poly.C (kids y).lc)):=aH.jr _ _ _ (fun j=>by cases j with | zero=>exact bL _ | succ j=>exact aL) (acv (arW h2));have dM:aH.dg (fun j=>D j+k*E j) (mkK (Poly.mono ((kids p).len-(kids y).len) (kids p).lc)):=(show Poly.mo _ (kids (mkK _)) from Poly.YV dP (by omega));have m1:aH.nm p*aH.nm (mkK (Poly.C (kids y).lc))<=aH.nm p*aH.nm y:=bn _ nC;have m2:aH.nm (mkK (Poly.mono ((kids p).len-(kids y).len) (kids p).lc))*aH.nm y<=aH.nm p*aH.nm y:=bG _ nM;have p1:=aH.mh p (mkK (Poly.C (kids y).lc));have p2:=aH.mh (mkK (Poly.mono ((kids p).len-(kids y).len) (kids p).lc)) y;have vv:∀F:Nat->Nat,(∀j,F j<=D j+((kids x).len+2)*E j)->aH.jo (Pn (n+1)) F<=1000000000000:=fun F hF=>aG (kS hF) (aG (jR _ (aH.nQ _)) h6);refine ⟨⟨_,E,dP,dC,sE,nP,aR nC h4,by omega,v1⟩,⟨_,E,dM,h2,sE,aR nM nP,h4,by omega,v1⟩,?_,⟨_,aH.jh _ _ _ _ dP dC,vv _ xW,fun j=>sE j,by omega⟩,⟨_,aH.jh _ _ _ _ dM h2,vv _ xW,fun j=>sE j,by omega⟩,⟨fun j=>D (j+1)+k*E (j+1),dP.2 _,?_,fun j=>by have:=sE (j+1);show D (j+1)+k*E (j+1)<_;omega,aR (aaf p) nP⟩⟩
 . rw [aH.zZ]
   omega
 . refine aG ?_ (vv _ le)
   show aH.jo (Pn n) _<=(D 0+k*E 0+1)*aH.jo (Pn n) _;exact iT _ (by omega)
end
def aeT (i m K:Nat) (hK:K<=3690000000000) (hn:i+(m+1)<=6) (f q:Pn (m+1)) (D E:Nat->Nat) (w:World) (u v:Value) (hf:Rw w u i (m+1) f) (hq:Rw w v i (m+1) q) (q0:q≠0) (fit:tR m K D E f q):
 aB 63 #[u,v,.int .i64 (i:Int)] w (fun e w'=>∃r k,Poly.RI (kids f) (kids q) D E k (kids r)∧(kids r).len<(kids q).len∧mI w i (m+1) r e w'):=by
 have q0':kids q≠0:=fun e=>q0 e;obtain ⟨dq,hdq⟩:∃dq,(kids q).len=dq+1:=⟨(kids q).len-1,by have:=Poly.cI q0';omega⟩;have C1:Hid (aB 94 #[v,.int .i64 (i:Int)] w fun e w'=>e=.returned (.int .i64 (dq:Int))∧w'=w):=by
  have h:=MR hn fit.q hq;rw [hdq] at h;have e:(((dq+1:Nat):Int)-1)=(dq:Int):=by omega
  rwa [e] at h
 have C2:Hid (aB 95 #[v,.int .i64 (i:Int),.int .i64 (dq:Int)] w (mI w (i+1) m (kids q).lc)):=by
  have h:=MS (by omega) hn fit.q hq dq;have e:(kids q).co dq=(kids q).lc:=by unfold Poly.lc;rw [hdq,DK]
  rwa [e] at h
 have I0:=aA (Poly.RI.start (kids f) (kids q) E (D:=D) fit.1);have HF:=aA hf;have HQ:=aA hq;have Fit:=aA fit;have Hdq:=aA hdq;have hdl:dq<=1000000000000:=by
  obtain ⟨E',h1,_,h3,_⟩:=fit.q;have h4:=Poly.bV (show Poly.mo E' (kids q) from h1).1;have h5:=h3 0;omega
 have qm:∀(p:Pn (m+1)) (k:Nat),Poly.RI (kids f) (kids q) D E k (kids p)->(kids p).len<=1000000000000:=fun p k h=>by
  obtain ⟨E',h1,_,h3,_⟩:=fit.pp q0 h;have h4:=Poly.bV (show Poly.mo E' (kids p) from h1).1;have h5:=h3 0;omega
 have Hpl:=aA qm;clear hf hq fit hdq qm q0';go_enter func63,ntmps63
 obtain ⟨wo,rfl⟩:∃wo:World,wo=w:=⟨_,rfl⟩;go_wp2_with fail
 refine C1.o.mono ?_;rintro e w1 ⟨rfl,h9⟩;obtain rfl:=h9.symm;go_wp2_with fail
 refine C2.o.mono ?_;rintro e wt ⟨vl,rfl,hRl,NJ⟩;have HL:=aA hRl;have ZF:=aA NJ;have B0:=aA (Below.refl wt.heap.size wt);have HFt:=aA (HF.o.aC NJ);clear hRl NJ C1 C2;go_wp2_with fail
 go_loopg [0] ((kids f).len+1) (fun gk s0 wr=>∃(p:Pn (m+1)) (k:Nat),(kids p).len<gk∧Hid (Poly.RI (kids f) (kids q) D E k (kids p))∧Hid (Rw wr s0 i (m+1) p)∧Hid (Below wt.heap.size wt wr))
 case atStart=>exact ⟨f,0,by omega,I0,HFt,B0⟩
 case round=>
  clear I0 HFt B0;obtain ⟨p,k,hg,hI,hR,hB⟩:=hrel;obtain ⟨wp,rfl⟩:∃wp:World,wp=wr:=⟨_,rfl⟩;by_cases hlt:(kids q).len<=(kids p).len
  . obtain ⟨dp,hdp⟩:∃dp,(kids p).len=dp+1:=⟨(kids p).len-1,by have:=Hdq.o;omega⟩
    have qm:=Hpl.o p k hI.o;have fp:=Fit.o.pp q0 hI.o;obtain ⟨f1,f2,f3,f4,f5,f6⟩:=Fit.o.step q0 hI.o hlt;(have hd:(kids p).len-(kids q).len=dp-dq:=by have:=Hdq.o;omega);rw [hd] at f2 f3 f5;have Cd:Hid (aB 94 #[u0,.int .i64 (i:Int)] wp fun e w'=>e=.returned (.int .i64 (dp:Int))∧w'=wp):=by
     have h:=MR hn fp hR.o;rw [hdp] at h;(have e:(((dp+1:Nat):Int)-1)=(dp:Int):=by omega);rwa [e] at h
    have Cc:Hid (aB 95 #[u0,.int .i64 (i:Int),.int .i64 (dp:Int)] wp (mI wp (i+1) m (kids p).lc)):=by
     have h:=MS (by omega) hn fp hR.o dp;(have e:(kids p).co dp=(kids p).lc:=by unfold Poly.lc;rw [hdp,DK]);rwa [e] at h
    have Cu:Hid (∀V x,Rw V x (i+1) m (kids p).lc->aB 97 #[x,.int .i64 (i:Int),.int .i64 ((dp-dq:Nat):Int)] V (mI V i (m+1) (mkK (Poly.mono (dp-dq) (kids p).lc)))):=fun V x h=>aoL (by omega) hn f6 h (dp-dq) (by omega);have CT1:Hid (∀V,Below wp.heap.size wp V->aB 64 #[u0,vl] V (mI V i (m+1) (p*mkK (Poly.C (kids q).lc)))):=fun V h=>G0 hK hn f1 (hR.o.aC h) ((HL.o.aC (az hB.o h)).C);have CT2:Hid (∀V x,Below wp.heap.size wp V->Rw V x i (m+1) (mkK (Poly.mono (dp-dq) (kids p).lc))->aB 64 #[x,v] V (mI V i (m+1) (mkK (Poly.mono (dp-dq) (kids p).lc)*q))):=fun V x h h2=>G0 hK hn f2 h2 (HQ.o.aC (az (ZF.o.tm hB.o) h));have CS:Hid (∀V x s B k d zs,Rw V x i (m+1) (mkK (Poly.mono (dp-dq) (kids p).lc)*q)->aD V B k zs->k<=1->k<=d->d<=9223372036854775807->aI s zs= -1->aB 91 #[x,.agg #[.bool s,.slice B k d]] V (mI V i (m+1) (-(mkK (Poly.mono (dp-dq) (kids p).lc)*q)))):=fun V x s B k d zs h1 h2 h3 h4 h5 h6=>ajY (by omega) hn f5 h1 h2 h3 h4 h5 h6;have CA:Hid (∀V x y,Rw V x i (m+1) (p*mkK (Poly.C (kids q).lc))->Rw V y i (m+1) (-(mkK (Poly.mono (dp-dq) (kids p).lc)*q))->aB 59 #[x,y] V (mI V i (m+1) (p*mkK (Poly.C (kids q).lc)+ -(mkK (Poly.mono (dp-dq) (kids p).lc)*q)))):=fun V x y h1 h2=>Za (by omega) hn f4 f5.neg f3 h1 h2;have hN:Hid (Poly.RI (kids f) (kids q) D E (k+1) (Poly.J4 (kids q) (kids p))∧(Poly.J4 (kids q) (kids p)).len+1<=(kids p).len):=by
     have q0':kids q≠0:=fun e=>q0 e;have h1:=Poly.bV (Poly.MW q0' hlt);exact ⟨hI.o.next q0' (show Poly.mo E (kids q) from Fit.o.2.1) hlt,by omega⟩
    have e9:Hid (p*mkK (Poly.C (kids q).lc)+ -(mkK (Poly.mono (dp-dq) (kids p).lc)*q)=mkK (Poly.J4 (kids q) (kids p))):=by
     show _=kids p*Poly.C (kids q).lc-Poly.mono ((kids p).len-(kids q).len) (kids p).lc*kids q;rw [hd];exact (aF.sub_def _ _).symm
    (have ew:IntKind.i64.wrap ((dp:Int)-(dq:Int))=((dp-dq:Nat):Int):=by have:=Hdq.o;rw [bP _ (by omega)];omega);(have xC:(dq:Int)<=(dp:Int):=by have:=Hdq.o;omega);have LP:=aA hg;clear f1 f2 f3 f4 f5 f6 fp hI hd hdp hlt hR hg;(go_wp2_with fail);refine Cd.o.mono ?_;rintro e w2 ⟨rfl,h9⟩;obtain rfl:=h9.symm;(go_wp2_with fail);refine Cd.o.mono ?_;rintro e w2 ⟨rfl,h9⟩;obtain rfl:=h9.symm;(go_wp2_with fail);refine Cc.o.mono ?_;rintro e w2 ⟨x2,rfl,r2,b2⟩;have Cu2:=aA (Cu.o w2 x2 r2);clear r2 Cd Cc Cu;(go_wp2_with fail);refine Cu2.o.mono ?_;rintro e w3 ⟨x3,rfl,r3,b3⟩;have b4:=aA (b2.tm b3);have R3:=aA r3;clear r3 b2 b3 Cu2;(go_wp2_with fail);refine (CT1.o w3 b4.o).mono ?_;rintro e w4 ⟨x4,rfl,r4,b5⟩;have b6:=aA (az b4.o b5);have CT:=aA (CT2.o w4 x3 b6.o (R3.o.aC b5));have R4:=aA r4;clear r4 b5 R3 CT1 CT2 b4;(go_wp2_with fail);refine CT.o.mono ?_;rintro e w5 ⟨x5,rfl,r5,b7⟩;have b8:=aA (az b6.o b7);have R5:=aA r5;have R6:=aA (R4.o.aC b7);clear r5 b7 R4 CT b6;(go_wp2_with fail);refine (Zi w5).mono ?_;rintro e w6 ⟨s3,A3,k3,c3,l3,rfl,o1,o2,o3,o4,o5,o6⟩;have b9:=aA (az b8.o o6);have CS':=aA (CS.o w6 x5 s3 A3 k3 c3 l3 (R5.o.aC o6) o4 o3 o1 o2 o5.eq);have R7:=aA (R6.o.aC o6);clear o4 o5 o6 R5 R6 CS b8;(go_wp2_with fail);refine CS'.o.mono ?_;rintro e w7 ⟨x7,rfl,r7,b10⟩;have b11:=aA (az b9.o b10);have CA':=aA (CA.o w7 x4 x7 (R7.o.aC b10) r7);clear r7 b10 R7 CA CS' b9;(go_wp2_with fail);refine CA'.o.mono ?_;rintro e w8 ⟨x8,rfl,r8,b12⟩;have HR:Hid (Rw w8 x8 i (m+1) (mkK (Poly.J4 (kids q) (kids p)))):=by
     show Rw _ _ _ _ _;rw [<- e9.o];exact r8
    have FK:Hid (Below wt.heap.size wt w8):=az hB.o (az b11.o b12);clear r8 b12 CA' e9 b11;(go_wp2_with fail);go_roundg (gk-1)
    case measure=>have:=LP.o;omega
    case rel=>exact ⟨mkK (Poly.J4 (kids q) (kids p)),k+1,by have:=hN.o.2;have:=LP.o;show (Poly.J4 (kids q) (kids p)).len<gk-1;omega,hN.o.1,HR,FK⟩
  . obtain ⟨z,hz⟩:∃z:Int,((kids p).len:Int)-1=z:=⟨_,rfl⟩
    have Cd:Hid (aB 94 #[u0,.int .i64 (i:Int)] wp fun e w'=>e=.returned (.int .i64 z)∧w'=wp):=by
     have h:=MR hn (Fit.o.pp q0 hI.o) hR.o;rwa [hz] at h
    (have xC:¬(dq:Int)<=z:=by have:=Hdq.o;omega);have F:Hid (∃r k,Poly.RI (kids f) (kids q) D E k (kids r)∧(kids r).len<(kids q).len∧mI wo i (m+1) r (.returned u0) wp):=⟨p,k,hI.o,by omega,u0,rfl,hR.o,ZF.o.tm hB.o⟩;clear hz hI hR hlt hg;(go_wp2_with fail);refine Cd.o.mono ?_;rintro e w2 ⟨rfl,h9⟩;obtain rfl:=h9.symm;(go_wp2_with fail);go_ret;exact F.o
def sV {g':Nat} {o:Obj}(h:w.heap[g]? =some o) (hne:g≠g') (a b c:Value):(((w.setCell ⟨g',0,none⟩ a).setCell ⟨g',1,none⟩ b).setCell ⟨g',2,none⟩ c).heap[g]? =some o:=by
 have h1:(w.setCell ⟨g',0,none⟩ a).heap[g]? =w.heap[g]? :=Ep w ⟨g',0,none⟩ a g hne;have h2:((w.setCell ⟨g',0,none⟩ a).setCell ⟨g',1,none⟩ b).heap[g]? =(w.setCell ⟨g',0,none⟩ a).heap[g]? :=Ep _ ⟨g',1,none⟩ b g hne;have h3:(((w.setCell ⟨g',0,none⟩ a).setCell ⟨g',1,none⟩ b).setCell ⟨g',2,none⟩ c).heap[g]? =((w.setCell ⟨g',0,none⟩ a).setCell ⟨g',1,none⟩ b).heap[g]? :=Ep _ ⟨g',2,none⟩ c g hne;rw [h3,h2,h1];exact h
def adJ (n K:Nat) (x:Pn (n+1)) (g:Pn n):Prop:=∃D E:Nat->Nat,aH.dg D x∧aH.dg E g∧D 0<1000000000000∧(∀j,D (j+1)+E j<1000000000000)∧aH.nm x<2^(64*K)∧aH.nm g<2^(64*K)∧aH.nm x*aH.nm g<2^(64*K)∧aH.jo (Pn (n+1)) D*aH.jo (Pn n) E<=1000000000000
def Vv {a b:Pn 0} {u v:Nat}(hu:u=(vM a).natAbs) (hv:v=(vM b).natAbs):nh (Yp ((Nat.gcd u v:Nat):Int)) a b:=by
 subst hu;subst hv;have key:∀(d x:Int),(∃c:Int,x=d*c)↔d.natAbs∣x.natAbs:=fun d x=>by
  rw [adk];exact Iff.rfl
 refine ⟨(key _ _).2 ?_,(key _ _).2 ?_,fun d h1 h2=>(key _ _).2 ?_⟩
 . show ((Nat.gcd _ _:Nat):Int).natAbs∣_
   rw [Et];exact Nat.gcd_dvd_left _ _
 . show ((Nat.gcd _ _:Nat):Int).natAbs∣_
   rw [Et];exact Nat.gcd_dvd_right _ _
 . show _∣((Nat.gcd _ _:Nat):Int).natAbs
   rw [Et];exact Nat.dvd_gcd ((key _ _).1 h1) ((key _ _).1 h2)
def yx (n:Nat) (f:Pn (n+1)):Prop:=(kids f).len<=1000000000000∧(∀m c,m<(kids f).len->RL (kids f).co m c->vF n c ((kids f).co m))∧∃K,K<=3690000000000∧iw (n+1) K f
structure N8 (n K:Nat) (a b:Pn (n+1)) (I:Pn (n+1)->Pn (n+1)->Prop):Prop where
 ca:yx n a
 cb:yx n b
 by1:∀c z,Poly.Cont c (kids a)->kids a=Poly.C c*kids z->jO (n+1) K z (mkK (Poly.C c))
 by2:∀c z,Poly.Cont c (kids b)->kids b=Poly.C c*kids z->jO (n+1) K z (mkK (Poly.C c))
 st:∀c d x y,Poly.Cont c (kids a)->Poly.Cont d (kids b)->kids a=Poly.C c*kids x->kids b=Poly.C d*kids y->I x y
 rs:∀x y,I x y->y≠0->∃D E,tR n K D E x y∧∀r k,Poly.RI (kids x) (kids y) D E k (kids r)->(kids r).len<(kids y).len->(r=0->I y 0)∧(r≠0->yx n r∧∀c z,Poly.Cont c (kids r)->kids r=Poly.C c*kids z->jO (n+1) K z (mkK (Poly.C c))∧I y z)
 gc:∀c d,Poly.Cont c (kids a)->Poly.Cont d (kids b)->vF n c d
 fin:∀c d g x,I x 0->Poly.Cont c (kids a)->Poly.Cont d (kids b)->nh g c d->g≠0∧nh (x*mkK (Poly.C g)) a b∧adJ n K x g
def aaK (K:Nat) (hK:K<=3900000000000) (a b:Pn 0) (na:aH.nm a<2^(64*K)) (nb:aH.nm b<2^(64*K)):ahH 0 a b:=by
 intro S w u v hf hg;obtain ⟨s,A,k,c,xs,rfl,h1,h2,h3,h4,_⟩:=hf;obtain ⟨t,B,m,d,ys,rfl,i1,i2,i3,i4,_⟩:=hg;have hk:k<=K:=by have h5:=h4.cap (K:=K) na;have h6:=h3.len;omega
 have hm:m<=K:=by have h5:=i4.cap (K:=K) nb;have h6:=i3.len;omega
 have hG:Hid (nh (Yp ((Nat.gcd (limbs xs) (limbs ys):Nat):Int)) a b):=Vv (by rw [<- h4.eq];unfold aI;cases s<;>simp) (by rw [<- i4.eq];unfold aI;cases t<;>simp);have Cs:=aA (fun W (hW:Below w.heap.size w W)=>aoA s t A B k m c d xs ys W (h3.aC hW) (i3.aC hW) h1 h2 i1 i2 (by omega) (by omega));have hb:Below w.heap.size w (((w.alloc (.cells #[.bool s,.slice A k c,.slice none 0 0] 51)).alloc (.cells #[.bool t,.slice B m d,.slice none 0 0] 51)).alloc (.cells #[.bool false,.slice none 0 0,.slice none 0 0] 51)):=((aU.alloc aL _).alloc (by simp) _).alloc (by simp;omega) _;have t2:=aX.new ((w.alloc (.cells #[.bool s,.slice A k c,.slice none 0 0] 51)).alloc (.cells #[.bool t,.slice B m d,.slice none 0 0] 51)) (.bool false) (.slice none 0 0) (.slice none 0 0);rw [aJ,aJ] at t2;have T2:=aA t2;have HB:=aA hb;clear h3 h4 i3 i4 na nb hb t2;generalize ((Nat.gcd (limbs xs) (limbs ys):Nat):Int)=gz at*
 unfold bE;show Calls _ _ #[.int .i64 0,_,_] _ _;go_enter func27,ntmps27
 go_wp2_with fail
 refine (Cs.o _ (by exact HB.o)).mono ?_;rintro e w1 ⟨s1,A1,k1,c1,ls,rfl,q1,q2,_,q4,q5,q6,cZ⟩;have T3:=aA (T2.o.aC cZ);have r0:=T3.o.cell0;have r1:=T3.o.cell1;have r2:=T3.o.aN;have r3:=T3.o.frozen 0;have r4:=T3.o.frozen 1;have r5:=T3.o.frozen 2;have hs3:w.heap.size+1+1+1<=(((w.alloc (.cells #[.bool s,.slice A k c,.slice none 0 0] 51)).alloc (.cells #[.bool t,.slice B m d,.slice none 0 0] 51)).alloc (.cells #[.bool false,.slice none 0 0,.slice none 0 0] 51)).heap.size:=by simp
 have F:Hid (aO (fun b=>S b∨w.heap.size<=b) 0 (((w1.setCell ⟨w.heap.size+1+1,0,none⟩ (.bool s1)).setCell ⟨w.heap.size+1+1,1,none⟩ (.slice A1 k1 c1)).setCell ⟨w.heap.size+1+1,2,none⟩ (.slice none 0 0)) (bE s1 A1 k1 c1 none 0 0) (Yp gz)):=
  aO.num q1 q2 (lZ q4 (aZ w1 (w.heap.size+1+1) _ _ _) fun h0 y hy e=>by have:=q6 h0 y hy;omega) q5 fun h0 y hy=> .inr (by have:=q6 h0 y hy;omega)
 have cN:Below w.heap.size w w1:=HB.o.tm cZ;have nI:=aA (gP cN (show w.heap.size<=w.heap.size+1+1 by omega) (.bool s1) (.slice A1 k1 c1) (.slice none 0 0));clear q4 q5 q6 cZ Cs hs3 HB cN;go_wp2_with fail
 exact bK (v:=.agg #[.bool s1,.slice A1 k1 c1,.slice none 0 0]) (dO (fn:=Tryz.f27) rfl _ _ _ _ _ _ _ rfl (T3.o.set (.bool s1) (.slice A1 k1 c1) (.slice none 0 0)) underlying51 rfl cW) rfl
  ⟨_,hG.o,s1,A1,k1,c1,none,0,0,rfl,F.o,nI.o⟩
def aaI (n:Nat) (hn:n<=97) (a b:Pn (n+1)) (h0:a=0∨b=0):ahH (n+1) a b:=by
 intro S w u v hf hg;rw [lI];show Calls _ _ #[.int .i64 ((n:Int)+1),_,_] _ _;obtain ⟨Ba,ca,rfl,_,_,h3⟩:=id hf;obtain ⟨Bb,cb,rfl,_,_,i3⟩:=id hg;clear h3 i3;obtain ⟨la,sY⟩:∃la:Nat,(kids a).len=la:=⟨_,rfl⟩;obtain ⟨lb,uv⟩:∃lb:Nat,(kids b).len=lb:=⟨_,rfl⟩;have EY:=hf.here;have CO:=hg.here;rw [sY] at EY;rw [uv] at CO;have jE:(((n:Int)+1)==0)=false:=mD.2 (by omega);have ew:IntKind.i64.wrap ((n:Int)+1-1)=(n:Int):=by rw [bP _ (by omega)];omega
 have ew2:IntKind.i64.wrap (n:Int)=(n:Int):=bP _ (by omega);have t0:=((aX.new w (.bool false) (.slice none 0 0) (.slice Ba la ca)).aC (aU.alloc aL (.cells #[.bool false,.slice none 0 0,.slice Bb lb cb] 51))).aC (aU.alloc aL (.cells #[.bool false,.slice none 0 0,.slice none 0 0] 51));have t1:=(aX.new (w.alloc (.cells #[.bool false,.slice none 0 0,.slice Ba la ca] 51)) (.bool false) (.slice none 0 0) (.slice Bb lb cb)).aC (aU.alloc aL (.cells #[.bool false,.slice none 0 0,.slice none 0 0] 51));have t2:=aX.new ((w.alloc (.cells #[.bool false,.slice none 0 0,.slice Ba la ca] 51)).alloc (.cells #[.bool false,.slice none 0 0,.slice Bb lb cb] 51)) (.bool false) (.slice none 0 0) (.slice none 0 0);rw [aJ] at t1;rw [aJ,aJ] at t2;have hb:Below w.heap.size w (((w.alloc (.cells #[.bool false,.slice none 0 0,.slice Ba la ca] 51)).alloc (.cells #[.bool false,.slice none 0 0,.slice Bb lb cb] 51)).alloc (.cells #[.bool false,.slice none 0 0,.slice none 0 0] 51)):=((aU.alloc aL _).alloc (by simp) _).alloc (by simp;omega) _;have hsz:(((w.alloc (.cells #[.bool false,.slice none 0 0,.slice Ba la ca] 51)).alloc (.cells #[.bool false,.slice none 0 0,.slice Bb lb cb] 51)).alloc (.cells #[.bool false,.slice none 0 0,.slice none 0 0] 51)).heap.size=w.heap.size+1+1+1:=by simp
 have CN:Hid (∀V,Below w.heap.size w V->aB 51 #[.agg #[.bool false,.slice none 0 0,.slice Ba la ca],.int .i64 ((n:Int)+1)] V (Says V (a=0))):=fun V hV=>sU _ n V _ a (EY.aC hV);have CM:Hid (∀V,Below w.heap.size w V->aB 51 #[.agg #[.bool false,.slice none 0 0,.slice Bb lb cb],.int .i64 ((n:Int)+1)] V (Says V (b=0))):=fun V hV=>sU _ n V _ b (CO.aC hV);have HFw:=aA (EY.aC hb);have HGw:=aA (CO.aC hb);clear hf hg EY CO;unfold bE;rw [sY,uv];go_enter func27,ntmps27
 go_wp2_with fail
 generalize je:((w.alloc (.cells #[.bool false,.slice none 0 0,.slice Ba la ca] 51)).alloc (.cells #[.bool false,.slice none 0 0,.slice Bb lb cb] 51)).alloc (.cells #[.bool false,.slice none 0 0,.slice none 0 0] 51)=wt at*
 clear je;have T0:=aA t0;have T1:=aA t1;have T2:=aA t2;have HB:=aA hb;clear t0 t1 t2 hb;refine (CN.o _ HB.o).mono ?_;rintro e w1 ⟨ra,rfl,hra,cZ⟩;have wu:=aA (HB.o.tm cZ);have P0:=aA (T0.o.aC cZ);have P1:=aA (T1.o.aC cZ);have P2:=aA (T2.o.aC cZ);have HF1:=aA (HFw.o.aC cZ);have HG1:=aA (HGw.o.aC cZ);have uF:=cZ.size;by_cases ha:a=0
 . obtain rfl:ra=true:=hra.2 ha
   have a0:=P1.o.cell0;have a1:=P1.o.cell1;have a2:=P1.o.aN;have r0:=P2.o.cell0;have r1:=P2.o.cell1;have r2:=P2.o.aN;have r3:=P2.o.frozen 0;have r4:=P2.o.frozen 1;have r5:=P2.o.frozen 2;have F:Hid (aO (fun b=>S b∨w.heap.size<=b) (n+1) (((w1.setCell ⟨w.heap.size+1+1,0,none⟩ (.bool false)).setCell ⟨w.heap.size+1+1,1,none⟩ (.slice none 0 0)).setCell ⟨w.heap.size+1+1,2,none⟩ (.slice Bb lb cb)) (.agg #[.bool false,.slice none 0 0,.slice Bb lb cb]) b):=
    aO.only (aZ w1 (w.heap.size+1+1) _ _ _) (fun b hb e=>by have:=hb.2;omega) (fun b hb=> .inl hb.1) HG1.o
   have nI:=aA (gP wu.o (show w.heap.size<=w.heap.size+1+1 by omega) (.bool false) (.slice none 0 0) (.slice Bb lb cb));have hG:Hid (nh b a b):=by
    rw [ha];exact (Poly.Bu b).symm
   clear hra cZ HF1 HG1;go_wp2_with fail
   exact bK (v:=.agg #[.bool false,.slice none 0 0,.slice Bb lb cb]) (dO (fn:=Tryz.f27) rfl _ _ _ _ _ _ _ rfl (P2.o.set (.bool false) (.slice none 0 0) (.slice Bb lb cb)) underlying51 rfl cW) rfl
    ⟨b,hG.o,false,none,0,0,Bb,lb,cb,rfl,F.o,nI.o⟩
 . obtain rfl:ra=false:=by cases ra with
    | false=>rfl
    | true=>exact absurd (hra.1 rfl) ha
   have WC:b=0:=h0.resolve_left ha;have a0:=P1.o.cell0;have a1:=P1.o.cell1;have a2:=P1.o.aN;clear hra cZ;go_wp2_with fail
   refine (CM.o _ wu.o).mono ?_;rintro e w2 ⟨rb,rfl,hrb,cN⟩;obtain rfl:rb=true:=hrb.2 WC;have FK:=aA (wu.o.tm cN);have Q0:=aA (P0.o.aC cN);have Q2:=aA (P2.o.aC cN);have HF2:=aA (HF1.o.aC cN);have c0:=Q0.o.cell0;have c1:=Q0.o.cell1;have c2:=Q0.o.aN;have r0:=Q2.o.cell0;have r1:=Q2.o.cell1;have r2:=Q2.o.aN;have r3:=Q2.o.frozen 0;have r4:=Q2.o.frozen 1;have r5:=Q2.o.frozen 2;have F:Hid (aO (fun b=>S b∨w.heap.size<=b) (n+1) (((w2.setCell ⟨w.heap.size+1+1,0,none⟩ (.bool false)).setCell ⟨w.heap.size+1+1,1,none⟩ (.slice none 0 0)).setCell ⟨w.heap.size+1+1,2,none⟩ (.slice Ba la ca)) (.agg #[.bool false,.slice none 0 0,.slice Ba la ca]) a):=
    aO.only (aZ w2 (w.heap.size+1+1) _ _ _) (fun b hb e=>by have:=hb.2;omega) (fun b hb=> .inl hb.1) HF2.o
   have nI:=aA (gP FK.o (show w.heap.size<=w.heap.size+1+1 by omega) (.bool false) (.slice none 0 0) (.slice Ba la ca));have hG:Hid (nh a a b):=by
    rw [WC];exact Poly.Bu a
   clear hrb cN HF1 HG1 HF2;go_wp2_with fail
   exact bK (v:=.agg #[.bool false,.slice none 0 0,.slice Ba la ca]) (dO (fn:=Tryz.f27) rfl _ _ _ _ _ _ _ rfl (Q2.o.set (.bool false) (.slice none 0 0) (.slice Ba la ca)) underlying51 rfl cW) rfl
    ⟨a,hG.o,false,none,0,0,Ba,la,ca,rfl,F.o,nI.o⟩
def aaJ (n K:Nat) (hK:K<=3900000000000) (hn:n<=97) (a b:Pn (n+1)) (WE:a≠0) (rF:b≠0) (I:Pn (n+1)->Pn (n+1)->Prop) (H:N8 n K a b I):ahH (n+1) a b:=by
 intro S w u v hf hg;rw [lI];show Calls _ _ #[.int .i64 ((n:Int)+1),_,_] _ _;obtain ⟨Ba,ca,rfl,_,_,h3⟩:=id hf;obtain ⟨Bb,cb,rfl,_,_,i3⟩:=id hg;clear h3 i3;obtain ⟨la,sY⟩:∃la:Nat,(kids a).len=la:=⟨_,rfl⟩;obtain ⟨lb,uv⟩:∃lb:Nat,(kids b).len=lb:=⟨_,rfl⟩;have EY:=hf.here;have CO:=hg.here;rw [sY] at EY;rw [uv] at CO;have jE:(((n:Int)+1)==0)=false:=mD.2 (by omega);have ew:IntKind.i64.wrap ((n:Int)+1-1)=(n:Int):=by rw [bP _ (by omega)];omega
 have ew2:IntKind.i64.wrap (n:Int)=(n:Int):=bP _ (by omega);have t0:=((aX.new w (.bool false) (.slice none 0 0) (.slice Ba la ca)).aC (aU.alloc aL (.cells #[.bool false,.slice none 0 0,.slice Bb lb cb] 51))).aC (aU.alloc aL (.cells #[.bool false,.slice none 0 0,.slice none 0 0] 51));have t1:=(aX.new (w.alloc (.cells #[.bool false,.slice none 0 0,.slice Ba la ca] 51)) (.bool false) (.slice none 0 0) (.slice Bb lb cb)).aC (aU.alloc aL (.cells #[.bool false,.slice none 0 0,.slice none 0 0] 51));have t2:=aX.new ((w.alloc (.cells #[.bool false,.slice none 0 0,.slice Ba la ca] 51)).alloc (.cells #[.bool false,.slice none 0 0,.slice Bb lb cb] 51)) (.bool false) (.slice none 0 0) (.slice none 0 0);rw [aJ] at t1;rw [aJ,aJ] at t2;have hb:Below w.heap.size w (((w.alloc (.cells #[.bool false,.slice none 0 0,.slice Ba la ca] 51)).alloc (.cells #[.bool false,.slice none 0 0,.slice Bb lb cb] 51)).alloc (.cells #[.bool false,.slice none 0 0,.slice none 0 0] 51)):=((aU.alloc aL _).alloc (by simp) _).alloc (by simp;omega) _;have hsz:(((w.alloc (.cells #[.bool false,.slice none 0 0,.slice Ba la ca] 51)).alloc (.cells #[.bool false,.slice none 0 0,.slice Bb lb cb] 51)).alloc (.cells #[.bool false,.slice none 0 0,.slice none 0 0] 51)).heap.size=w.heap.size+1+1+1:=by simp
 have CN:Hid (∀V,Below w.heap.size w V->aB 51 #[.agg #[.bool false,.slice none 0 0,.slice Ba la ca],.int .i64 ((n:Int)+1)] V (Says V (a=0))):=fun V hV=>sU _ n V _ a (EY.aC hV);have CM:Hid (∀V,Below w.heap.size w V->aB 51 #[.agg #[.bool false,.slice none 0 0,.slice Bb lb cb],.int .i64 ((n:Int)+1)] V (Says V (b=0))):=fun V hV=>sU _ n V _ b (CO.aC hV);have HFw:=aA (EY.aC hb);have HGw:=aA (CO.aC hb);clear hf hg EY CO;unfold bE;rw [sY,uv];go_enter func27,ntmps27
 go_wp2_with fail
 generalize je:((w.alloc (.cells #[.bool false,.slice none 0 0,.slice Ba la ca] 51)).alloc (.cells #[.bool false,.slice none 0 0,.slice Bb lb cb] 51)).alloc (.cells #[.bool false,.slice none 0 0,.slice none 0 0] 51)=wt at*
 clear je;have T0:=aA t0;have T1:=aA t1;have T2:=aA t2;have HB:=aA hb;clear t0 t1 t2 hb;refine (CN.o _ HB.o).mono ?_;rintro e w1 ⟨ra,rfl,hra,cZ⟩;have wu:=aA (HB.o.tm cZ);have P0:=aA (T0.o.aC cZ);have P1:=aA (T1.o.aC cZ);have P2:=aA (T2.o.aC cZ);have HF1:=aA (HFw.o.aC cZ);have HG1:=aA (HGw.o.aC cZ);have uF:=cZ.size;obtain rfl:ra=false:=by cases ra with
  | false=>rfl
  | true=>exact absurd (hra.1 rfl) WE
 have a0:=P1.o.cell0;have a1:=P1.o.cell1;have a2:=P1.o.aN;clear hra cZ;go_wp2_with fail
 refine (CM.o _ wu.o).mono ?_;rintro e w2 ⟨rb,rfl,hrb,cN⟩;obtain rfl:rb=false:=by cases rb with
  | false=>rfl
  | true=>exact absurd (hrb.1 rfl) rF
 have FK:=aA (wu.o.tm cN);have Q0:=aA (P0.o.aC cN);have Q1:=aA (P1.o.aC cN);have Q2:=aA (P2.o.aC cN);have HF2:=aA (HF1.o.aC cN);have HG2:=aA (HG1.o.aC cN);have vH:w.heap.size+1+1+1<=w2.heap.size:=by have:=cN.size;omega
 clear hrb cN P0 P1 P2 HF1 HG1 wu HB T0 T1 T2 CN CM a0 a1 a2 HFw HGw uF;clear hsz;have HH:=aA H;clear H;have ZQ:=(HF2.o.here).mono (T:=fun b=>((S b∧b<w.heap.size)∨w.heap.size+1+1+1<=b)∧b<w2.heap.size) fun b hb=>⟨.inl hb.1,hb.2⟩;have t_G:=(HG2.o.here).mono (T:=fun b=>((S b∧b<w.heap.size)∨w.heap.size+1+1+1<=b)∧b<w2.heap.size) fun b hb=>⟨.inl hb.1,hb.2⟩;have CK7:Hid (∀(T:Nat->Prop) (V:World),Below w2.heap.size w2 V->aO T (n+1) V (.agg #[.bool false,.slice none 0 0,.slice Ba la ca]) a->aB 52 #[.agg #[.bool false,.slice none 0 0,.slice Ba la ca],.int .i64 ((n:Int)+1)] V (fun e w'=>∃c,Poly.Cont c (kids a)∧bW T V n c e w')):=fun T V _ hv=>IX n (by omega) T V _ a hv HH.o.ca.1 HH.o.ca.2.1;have CM7:Hid (∀(T:Nat->Prop) (V:World),Below w2.heap.size w2 V->aO T (n+1) V (.agg #[.bool false,.slice none 0 0,.slice Bb lb cb]) b->aB 52 #[.agg #[.bool false,.slice none 0 0,.slice Bb lb cb],.int .i64 ((n:Int)+1)] V (fun e w'=>∃c,Poly.Cont c (kids b)∧bW T V n c e w')):=fun T V _ hv=>IX n (by omega) T V _ b hv HH.o.cb.1 HH.o.cb.2.1;have qa0:=Q0.o.cell0;have qa1:=Q0.o.cell1;have qa2:=Q0.o.aN;have qb0:=Q1.o.cell0;have qb1:=Q1.o.cell1;have qb2:=Q1.o.aN;go_wp2_with fail
 have sW:Hid (∀V,Below w2.heap.size w2 V->(fun V=>V.cell? ⟨w.heap.size,0,none⟩=some (.bool false)∧V.cell? ⟨w.heap.size,1,none⟩=some (.slice none 0 0)∧V.cell? ⟨w.heap.size,2,none⟩=some (.slice Ba la ca)∧V.cell? ⟨w.heap.size+1,0,none⟩=some (.bool false)∧V.cell? ⟨w.heap.size+1,1,none⟩=some (.slice none 0 0)∧V.cell? ⟨w.heap.size+1,2,none⟩=some (.slice Bb lb cb)) V):=fun V hV=>⟨(Q0.o.aC hV).cell0,(Q0.o.aC hV).cell1,(Q0.o.aC hV).aN,(Q1.o.aC hV).cell0,(Q1.o.aC hV).cell1,(Q1.o.aC hV).aN⟩;go_cut [7,8] (fun s7 s8 wx=>∃(g7 g8:Nat) (cf cg:Pn n) (s1:Bool) (A1:Option Addr) (k1 c1:Nat) (B1:Option Addr) (m1 d1:Nat) (s2:Bool) (A2:Option Addr) (k2 c2:Nat) (B2:Option Addr) (m2 d2:Nat),s7=.pointer (some ⟨g7,0,none⟩)∧s8=.pointer (some ⟨g8,0,none⟩)∧w2.heap.size<=g7∧w2.heap.size<=g8∧Hid (Poly.Cont cf (kids a))∧Hid (Poly.Cont cg (kids b))∧Hid (aX wx g7 (.bool s1) (.slice A1 k1 c1) (.slice B1 m1 d1))∧Hid (aX wx g8 (.bool s2) (.slice A2 k2 c2) (.slice B2 m2 d2))∧Hid (aO (fun b=>(S b∧b<w.heap.size)∨w.heap.size+1+1+1<=b) n wx (.agg #[.bool s1,.slice A1 k1 c1,.slice B1 m1 d1]) cf)∧Hid (aO (fun b=>(S b∧b<w.heap.size)∨w.heap.size+1+1+1<=b) n wx (.agg #[.bool s2,.slice A2 k2 c2,.slice B2 m2 d2]) cg)∧Hid (Below w2.heap.size w2 wx))
 case first=>
  refine fh (S:=fun V=>V.cell? ⟨w.heap.size,0,none⟩=some (.bool false)∧V.cell? ⟨w.heap.size,1,none⟩=some (.slice none 0 0)∧V.cell? ⟨w.heap.size,2,none⟩=some (.slice Ba la ca)∧V.cell? ⟨w.heap.size+1,0,none⟩=some (.bool false)∧V.cell? ⟨w.heap.size+1,1,none⟩=some (.slice none 0 0)∧V.cell? ⟨w.heap.size+1,2,none⟩=some (.slice Bb lb cb)) (z:=9) (by kernel_rfl) ?_;have hHeld:=sW.o _ (Below.refl w2.heap.size w2).drew;try dsimp only at hHeld
  refine tk 9 0 (.agg #[.bool false,.slice none 0 0,.slice Ba la ca]) rfl hHeld ?_;try simp only [fx,Act.put]
  refine tk 9 1 (.int .i64 ((n:Int)+1)) rfl hHeld ?_;try simp only [fx,Act.put]
  refine tk 9 3 (.agg #[.bool false,.slice none 0 0,.slice Bb lb cb]) rfl hHeld ?_;try simp only [fx,Act.put]
  refine tk 9 4 (.int .i64 ((n:Int)+1)) rfl hHeld ?_;try simp only [fx,Act.put]
  have iq:Hid (∀b,w2.heap.size<=b->(fun b=>(S b∧b<w.heap.size)∨w.heap.size+1+1+1<=b) b):=fun b hb=> .inr (by omega);refine o7 (w0:=w2) [⟨2,34,2,KT (fun b=>(S b∧b<w.heap.size)∨w.heap.size+1+1+1<=b) n (fun x=>Poly.Cont x (kids a))⟩,⟨5,37,5,KT (fun b=>(S b∧b<w.heap.size)∨w.heap.size+1+1+1<=b) n (fun x=>Poly.Cont x (kids b))⟩,⟨6,7,6,KB w2 6 (.cells #[.bool false,.slice none 0 0,.slice none 0 0] 51) (fun g=> .pointer (some ⟨g,0,none⟩))⟩,⟨7,8,7,KB w2 7 (.cells #[.bool false,.slice none 0 0,.slice none 0 0] 51) (fun g=> .pointer (some ⟨g,0,none⟩))⟩] [2,5,6,7] [34,37,7,8] [8,9] #[true,true,true,true,true,true,true,true,false,false] 2 rfl rfl (by kernel_rfl) rfl rfl (Below.refl w2.heap.size w2).drew (fc KT.keeps (fc KT.keeps (fc KB.keeps (fc KB.keeps (fn))))) (fc ?_ (fc ?_ (fc ?_ (fc ?_ (fn))))) ?_
  . intro L a V B hr hd h
    have r32:=h.old 32 rfl rfl;have r33:=h.old 33 rfl rfl;refine eP rfl fun KK bu=> ?_;go_simp;refine (CK7.o _ V h.aC (h.tree ZQ)).mono ?_;rintro e w' ⟨x,hx,s0,A0,k0,c0,B0,m0,d0,rfl,hv,hb⟩;unfold bE;(go_wp2_with fail);exact bu.o _ _ (sW.o _ (h.aC.tm hb)) (h.put 0 rfl hr hb ⟨_,s0,A0,k0,c0,B0,m0,d0,rfl,hx,h.res iq.o hv⟩)
  . intro L a V B hr hd h
    have r35:=h.old 35 rfl rfl;have r36:=h.old 36 rfl rfl;refine eP rfl fun KK bu=> ?_;go_simp;refine (CM7.o _ V h.aC (h.tree t_G)).mono ?_;rintro e w' ⟨x,hx,s0,A0,k0,c0,B0,m0,d0,rfl,hv,hb⟩;unfold bE;(go_wp2_with fail);exact bu.o _ _ (sW.o _ (h.aC.tm hb)) (h.put 1 rfl hr hb ⟨_,s0,A0,k0,c0,B0,m0,d0,rfl,hx,h.res iq.o hv⟩)
  . intro L a V B hr hd h
    refine eP rfl fun KK bu=> ?_;go_simp;exact bu.o _ _ (sW.o _ (h.aC.alloc h.aC.size _)) (h.box 2 rfl hr)
  . intro L a V B hr hd h
    refine eP rfl fun KK bu=> ?_;go_simp;exact bu.o _ _ (sW.o _ (h.aC.alloc h.aC.size _)) (h.box 3 rfl hr)
  intro a9 wv B h;obtain ⟨_,qK,cf,sK,AK,kK,cK,BK,mK,dK,rfl,eK,tK⟩:=h.get 0 rfl rfl (.inl rfl);obtain ⟨_,qL,cg,sL,AL,kL,cL,BL,mL,dL,rfl,eL,tL⟩:=h.get 1 rfl rfl (.inl rfl);obtain ⟨_,qX,gX,rfl,hX,lX,BX⟩:=h.get 2 rfl rfl (.inl rfl);obtain ⟨_,qY,gY,rfl,hY,lY,BY⟩:=h.get 3 rfl rfl (.inl rfl);have hV:=aA h.aC;have hz9:=h.aC.size;have tK:Hid (aO (fun b=>((S b∧b<w.heap.size)∨w.heap.size+1+1+1<=b)∧b≠gX∧b≠gY) n wv (.agg #[.bool sK,.slice AK kK cK,.slice BK mK dK]) cf):=tK.o.mono fun b hb=>⟨hb.1,fun e=>hb.2 6 (e ▸ BX),fun e=>hb.2 7 (e ▸ BY)⟩;have tL:Hid (aO (fun b=>((S b∧b<w.heap.size)∨w.heap.size+1+1+1<=b)∧b≠gX∧b≠gY) n wv (.agg #[.bool sL,.slice AL kL cL,.slice BL mL dL]) cg):=tL.o.mono fun b hb=>⟨hb.1,fun e=>hb.2 6 (e ▸ BX),fun e=>hb.2 7 (e ▸ BY)⟩;have nXY:gX≠gY:=fun e=>absurd (h.inj 6 7 gX BX (e ▸ BY)) (by decide);obtain rfl:=h.act [(34,_),(37,_),(7,_),(8,_)] rfl (fc qK (fc qL (fc qX (fc qY (fn)))));simp only [List.foldr];try simp only [fx,Act.put]
  clear h;have tX:Hid (aX wv gX (.bool false) (.slice none 0 0) (.slice none 0 0)):=lX.o;have tY:Hid (aX wv gY (.bool false) (.slice none 0 0) (.slice none 0 0)):=lY.o;have v0X:=tX.o.cell0;have f0X:=tX.o.frozen 0;have v1X:=tX.o.cell1;have f1X:=tX.o.frozen 1;have v2X:=tX.o.aN;have f2X:=tX.o.frozen 2;have v0Y:=tY.o.cell0;have f0Y:=tY.o.frozen 0;have v1Y:=tY.o.cell1;have f1Y:=tY.o.frozen 1;have v2Y:=tY.o.aN;have f2Y:=tY.o.frozen 2;have eX:Hid (aX (((wv.setCell ⟨gX,0,none⟩ (.bool sK)).setCell ⟨gX,1,none⟩ (.slice AK kK cK)).setCell ⟨gX,2,none⟩ (.slice BK mK dK)) gX (.bool sK) (.slice AK kK cK) (.slice BK mK dK)):=tX.o.set _ _ _;have eY:Hid (aX (((wv.setCell ⟨gX,0,none⟩ (.bool sK)).setCell ⟨gX,1,none⟩ (.slice AK kK cK)).setCell ⟨gX,2,none⟩ (.slice BK mK dK)) gY (.bool false) (.slice none 0 0) (.slice none 0 0)):=sV tY.o (by omega) _ _ _;have eK9:Hid (aO (fun b=>((S b∧b<w.heap.size)∨w.heap.size+1+1+1<=b)∧b≠gX∧b≠gY) n (((wv.setCell ⟨gX,0,none⟩ (.bool sK)).setCell ⟨gX,1,none⟩ (.slice AK kK cK)).setCell ⟨gX,2,none⟩ (.slice BK mK dK)) (.agg #[.bool sK,.slice AK kK cK,.slice BK mK dK]) cf):=tK.o.only (aZ wv gX _ _ _) (fun b hb e=>hb.2.1 e) (fun b hb=>hb);have eL9:Hid (aO (fun b=>((S b∧b<w.heap.size)∨w.heap.size+1+1+1<=b)∧b≠gX∧b≠gY) n (((wv.setCell ⟨gX,0,none⟩ (.bool sK)).setCell ⟨gX,1,none⟩ (.slice AK kK cK)).setCell ⟨gX,2,none⟩ (.slice BK mK dK)) (.agg #[.bool sL,.slice AL kL cL,.slice BL mL dL]) cg):=tL.o.only (aZ wv gX _ _ _) (fun b hb e=>hb.2.1 e) (fun b hb=>hb);have eV:Below w2.heap.size w2 (((wv.setCell ⟨gX,0,none⟩ (.bool sK)).setCell ⟨gX,1,none⟩ (.slice AK kK cK)).setCell ⟨gX,2,none⟩ (.slice BK mK dK)):=gP hV.o hX _ _ _;refine aT (rs:=[8]) (by kernel_rfl) (by simp) ?_;refine aK.cons rfl (by decide) (fun KK bu=> ?_) aK.nil;go_simp;refine bu.o _ _ (sW.o _ eV) (fun _=> ?_);clear bu KK v0X v1X v2X f0X f1X f2X v0Y v1Y v2Y f0Y f1Y f2Y;try simp only [fx,Act.put]
  generalize RZ:(((wv.setCell ⟨gX,0,none⟩ (.bool sK)).setCell ⟨gX,1,none⟩ (.slice AK kK cK)).setCell ⟨gX,2,none⟩ (.slice BK mK dK))=wq at*
  clear RZ;have v0Y:=eY.o.cell0;have f0Y:=eY.o.frozen 0;have v1Y:=eY.o.cell1;have f1Y:=eY.o.frozen 1;have v2Y:=eY.o.aN;have f2Y:=eY.o.frozen 2;refine aT (rs:=[9]) (by kernel_rfl) (by simp) ?_;refine aK.last rfl (fun KK bu=> ?_);go_simp;refine bu.o _ _ ?_;clear bu KK;refine fE (by kernel_rfl) ?_ _;go_wp2_with fail
  go_meet
  exact ⟨gX,gY,cf,cg,sK,AK,kK,cK,BK,mK,dK,sL,AL,kL,cL,BL,mL,dL,rfl,rfl,hX,hY,eK,eL,sV eX.o nXY _ _ _,eY.o.set _ _ _,eK9.o.only (aZ wq gY _ _ _) (fun b hb e=>hb.2.2 e) (fun b hb=>hb.1),eL9.o.only (aZ wq gY _ _ _) (fun b hb e=>hb.2.2 e) (fun b hb=>hb.1),gP eV hY _ _ _⟩
 case rest=>
  obtain ⟨g7,g8,cf,cg,s1,A1,k1,c1,B1,m1,d1,s2,A2,k2,c2,B2,m2,d2,rfl,rfl,zl,hg8,QM,hcg,hT7,hT8,YI,hV8,Yw⟩:=hcut;obtain ⟨wx,rfl⟩:∃V:World,V=wc:=⟨_,rfl⟩;have arb:cf≠0:=QM.o.ne (fun e=>WE e);have ara:cg≠0:=hcg.o.ne (fun e=>rF e);obtain ⟨fa,hfa⟩:=QM.o.dv.dv;obtain ⟨fb,hfb⟩:=hcg.o.dv.dv;have hI0:Hid (I (mkK fa) (mkK fb)):=HH.o.st cf cg (mkK fa) (mkK fb) QM.o hcg.o hfa hfb;have ea:Hid (a=mkK fa*mkK (Poly.C cf)):=by
   show kids a=fa*Poly.C cf;rw [hfa,aF.mul_comm]
  have eb:Hid (b=mkK fb*mkK (Poly.C cg)):=by
   show kids b=fb*Poly.C cg;rw [hfb,aF.mul_comm]
  have aix:=aA (HH.o.by1 cf (mkK fa) QM.o hfa);have aiw:=aA (HH.o.by2 cg (mkK fb) hcg.o hfb);clear hfa hfb sW CK7 CM7 ZQ t_G qa0 qa1 qa2 qb0 qb1 qb2;have u0:=hT7.o.cell0;have u1:=hT7.o.cell1;have u2:=hT7.o.aN;have bz:Below wx.heap.size wx ((wx.alloc (.cells #[.bool s1,.slice A1 k1 c1,.slice B1 m1 d1] 51)).alloc (.cells #[.bool false,.slice none 0 0,.slice (some ⟨wx.heap.size,0,none⟩) 1 1] 51)):=jx (jx aU _) _;have l9:Hid (aX ((wx.alloc (.cells #[.bool s1,.slice A1 k1 c1,.slice B1 m1 d1] 51)).alloc (.cells #[.bool false,.slice none 0 0,.slice (some ⟨wx.heap.size,0,none⟩) 1 1] 51)) (wx.heap.size+1) (.bool false) (.slice none 0 0) (.slice (some ⟨wx.heap.size,0,none⟩) 1 1)):=Xt wx (.cells #[.bool s1,.slice A1 k1 c1,.slice B1 m1 d1] 51) (.cells #[.bool false,.slice none 0 0,.slice (some ⟨wx.heap.size,0,none⟩) 1 1] 51);have hsx:=Yw.o.size;have V9:Hid (aO (fun b=>(S b∧b<w.heap.size)∨w.heap.size+1+1+1<=b) (n+1) ((wx.alloc (.cells #[.bool s1,.slice A1 k1 c1,.slice B1 m1 d1] 51)).alloc (.cells #[.bool false,.slice none 0 0,.slice (some ⟨wx.heap.size,0,none⟩) 1 1] 51)) (.agg #[.bool false,.slice none 0 0,.slice (some ⟨wx.heap.size,0,none⟩) 1 1]) (mkK (Poly.C cf))):=aO.one (aaO (Ie wx (.cells #[.bool s1,.slice A1 k1 c1,.slice B1 m1 d1] 51)) (.cells #[.bool false,.slice none 0 0,.slice (some ⟨wx.heap.size,0,none⟩) 1 1] 51)) (YI.o.aC bz) arb (.inr (by omega));go_wp2_with fail
  generalize hwz:(wx.alloc (.cells #[.bool s1,.slice A1 k1 c1,.slice B1 m1 d1] 51)).alloc (.cells #[.bool false,.slice none 0 0,.slice (some ⟨wx.heap.size,0,none⟩) 1 1] 51)=wz at*
  clear hwz u0 u1 u2;have hB9:Below w2.heap.size w2 wz:=Yw.o.tm bz;have hs9:=bz.size;have Yk:=aA (FK.o.tm hB9);have R0:=aA (Q0.o.aC hB9);have R1:=aA (Q1.o.aC hB9);have R2:=aA (Q2.o.aC hB9);have R7:=aA (hT7.o.aC bz);have R8:=aA (hT8.o.aC bz);have V7:=aA (YI.o.aC bz);have V8:=aA (hV8.o.aC bz);have t_A:=((HF2.o.aC hB9).here).mono (T:=fun b=>((S b∧b<w.heap.size)∨w.heap.size+1+1+1<=b)∧b<wz.heap.size) fun b hb=>⟨.inl hb.1,hb.2⟩;have t_B:=((HG2.o.aC hB9).here).mono (T:=fun b=>((S b∧b<w.heap.size)∨w.heap.size+1+1+1<=b)∧b<wz.heap.size) fun b hb=>⟨.inl hb.1,hb.2⟩;have t_O:=V9.o.here;have t_c:=V8.o.here;clear Yw hT7 hT8 YI hV8 bz Q0 Q1 Q2 HF2 HG2;have CB9:Hid (∀(T:Nat->Prop) (V:World),Below wz.heap.size wz V->aO T (n+1) V (.agg #[.bool false,.slice none 0 0,.slice Ba la ca]) a->aO T (n+1) V (.agg #[.bool false,.slice none 0 0,.slice (some ⟨wx.heap.size,0,none⟩) 1 1]) (mkK (Poly.C cf))->aB 53 #[.agg #[.bool false,.slice none 0 0,.slice Ba la ca],.int .i64 ((n:Int)+1),.agg #[.bool false,.slice none 0 0,.slice (some ⟨wx.heap.size,0,none⟩) 1 1]] V (bW T V (n+1) (mkK fa))):=fun T V _ h1 h2=>by
   obtain ⟨D,E,e1,e2,e3,e4,e5,e6,_⟩:=aix.o;rw [ea.o] at h1;have h9:=mby K hK (n+1) (by omega) T V _ _ (mkK fa) (mkK (Poly.C cf)) D E h1 h2 (Poly.Dd arb) e1 e2 e3 e4 e5 e6;rw [lI] at h9;exact h9
  have CD9:Hid (∀(T:Nat->Prop) (V:World),Below wz.heap.size wz V->aO T (n+1) V (.agg #[.bool false,.slice none 0 0,.slice Bb lb cb]) b->∀v,aO T (n+1) V v (mkK (Poly.C cg))->aB 53 #[.agg #[.bool false,.slice none 0 0,.slice Bb lb cb],.int .i64 ((n:Int)+1),v] V (bW T V (n+1) (mkK fb))):=fun T V _ h1 v h2=>by
   obtain ⟨D,E,e1,e2,e3,e4,e5,e6,_⟩:=aiw.o;rw [eb.o] at h1;have h9:=mby K hK (n+1) (by omega) T V _ _ (mkK fb) (mkK (Poly.C cg)) D E h1 h2 (Poly.Dd ara) e1 e2 e3 e4 e5 e6;rw [lI] at h9;exact h9
  have hw9:w.heap.size+1+1+1<=wz.heap.size:=by omega
  have Br:Hid (∀V,Below wz.heap.size wz V->(fun V=>V.cell? ⟨w.heap.size,0,none⟩=some (.bool false)∧V.cell? ⟨w.heap.size,1,none⟩=some (.slice none 0 0)∧V.cell? ⟨w.heap.size,2,none⟩=some (.slice Ba la ca)∧V.cell? ⟨wx.heap.size+1,0,none⟩=some (.bool false)∧V.cell? ⟨wx.heap.size+1,1,none⟩=some (.slice none 0 0)∧V.cell? ⟨wx.heap.size+1,2,none⟩=some (.slice (some ⟨wx.heap.size,0,none⟩) 1 1)∧V.cell? ⟨w.heap.size+1,0,none⟩=some (.bool false)∧V.cell? ⟨w.heap.size+1,1,none⟩=some (.slice none 0 0)∧V.cell? ⟨w.heap.size+1,2,none⟩=some (.slice Bb lb cb)∧V.cell? ⟨g8,0,none⟩=some (.bool s2)∧V.cell? ⟨g8,1,none⟩=some (.slice A2 k2 c2)∧V.cell? ⟨g8,2,none⟩=some (.slice B2 m2 d2)) V):=fun V hV=>⟨(R0.o.aC hV).cell0,(R0.o.aC hV).cell1,(R0.o.aC hV).aN,(l9.o.aC hV).cell0,(l9.o.aC hV).cell1,(l9.o.aC hV).aN,(R1.o.aC hV).cell0,(R1.o.aC hV).cell1,(R1.o.aC hV).aN,(R8.o.aC hV).cell0,(R8.o.aC hV).cell1,(R8.o.aC hV).aN⟩;go_cut [10,11] (fun s10 s11 wa=>∃(jq iG:Nat) (s3:Bool) (A3:Option Addr) (k3 c3:Nat) (B3:Option Addr) (m3 d3:Nat) (s4:Bool) (A4:Option Addr) (k4 c4:Nat) (B4:Option Addr) (m4 d4:Nat),s10=.pointer (some ⟨jq,0,none⟩)∧s11=.pointer (some ⟨iG,0,none⟩)∧wz.heap.size<=jq∧wz.heap.size<=iG∧jq≠iG∧Hid (aX wa jq (.bool s3) (.slice A3 k3 c3) (.slice B3 m3 d3))∧Hid (aX wa iG (.bool s4) (.slice A4 k4 c4) (.slice B4 m4 d4))∧Hid (aO (fun b=>((S b∧b<w.heap.size)∨w.heap.size+1+1+1<=b)∧b≠jq∧b≠iG) (n+1) wa (.agg #[.bool s3,.slice A3 k3 c3,.slice B3 m3 d3]) (mkK fa))∧Hid (aO (fun b=>((S b∧b<w.heap.size)∨w.heap.size+1+1+1<=b)∧b≠jq∧b≠iG) (n+1) wa (.agg #[.bool s4,.slice A4 k4 c4,.slice B4 m4 d4]) (mkK fb))∧Hid (Below wz.heap.size wz wa))
  case first=>
   refine fh (S:=fun V=>V.cell? ⟨w.heap.size,0,none⟩=some (.bool false)∧V.cell? ⟨w.heap.size,1,none⟩=some (.slice none 0 0)∧V.cell? ⟨w.heap.size,2,none⟩=some (.slice Ba la ca)∧V.cell? ⟨wx.heap.size+1,0,none⟩=some (.bool false)∧V.cell? ⟨wx.heap.size+1,1,none⟩=some (.slice none 0 0)∧V.cell? ⟨wx.heap.size+1,2,none⟩=some (.slice (some ⟨wx.heap.size,0,none⟩) 1 1)∧V.cell? ⟨w.heap.size+1,0,none⟩=some (.bool false)∧V.cell? ⟨w.heap.size+1,1,none⟩=some (.slice none 0 0)∧V.cell? ⟨w.heap.size+1,2,none⟩=some (.slice Bb lb cb)∧V.cell? ⟨g8,0,none⟩=some (.bool s2)∧V.cell? ⟨g8,1,none⟩=some (.slice A2 k2 c2)∧V.cell? ⟨g8,2,none⟩=some (.slice B2 m2 d2)) (z:=13) (by kernel_rfl) ?_;have hHeld:=Br.o _ (Below.refl wz.heap.size wz).drew;try dsimp only at hHeld
   refine tk 13 0 (.agg #[.bool false,.slice none 0 0,.slice Ba la ca]) rfl hHeld ?_;try simp only [fx,Act.put]
   refine tk 13 1 (.int .i64 ((n:Int)+1)) rfl hHeld ?_;try simp only [fx,Act.put]
   refine tk 13 2 (.agg #[.bool false,.slice none 0 0,.slice (some ⟨wx.heap.size,0,none⟩) 1 1]) rfl hHeld ?_;try simp only [fx,Act.put]
   refine tk 13 4 (.agg #[.bool false,.slice none 0 0,.slice Bb lb cb]) rfl hHeld ?_;try simp only [fx,Act.put]
   refine tk 13 5 (.int .i64 ((n:Int)+1)) rfl hHeld ?_;try simp only [fx,Act.put]
   refine tk 13 6 (.agg #[.bool s2,.slice A2 k2 c2,.slice B2 m2 d2]) rfl hHeld ?_;try simp only [fx,Act.put]
   have iq:Hid (∀b,wz.heap.size<=b->(fun b=>(S b∧b<w.heap.size)∨w.heap.size+1+1+1<=b) b):=fun b hb=> .inr (by omega);refine o7 (w0:=wz) [⟨3,44,3,KT (fun b=>(S b∧b<w.heap.size)∨w.heap.size+1+1+1<=b) (n+1) (fun x=>(mkK fa)=x)⟩,⟨9,50,9,KT (fun b=>(S b∧b<w.heap.size)∨w.heap.size+1+1+1<=b) (n+1) (fun x=>(mkK fb)=x)⟩,⟨10,10,10,KB wz 10 (.cells #[.bool false,.slice none 0 0,.slice none 0 0] 51) (fun g=> .pointer (some ⟨g,0,none⟩))⟩,⟨11,11,11,KB wz 11 (.cells #[.bool false,.slice none 0 0,.slice none 0 0] 51) (fun g=> .pointer (some ⟨g,0,none⟩))⟩,⟨7,48,7,KR wz (.cells #[.bool s2,.slice A2 k2 c2,.slice B2 m2 d2] 51) (fun g=> .slice (some ⟨g,0,none⟩) 1 1)⟩,⟨8,49,8,KR wz (.cells #[.bool s2,.slice A2 k2 c2,.slice B2 m2 d2] 51) (fun g=> .agg #[.bool false,.slice none 0 0,.slice (some ⟨g,0,none⟩) 1 1])⟩] [3,9,10,11,7,8] [44,50,10,11,48,49] [12,13] #[true,true,true,true,true,true,true,true,true,true,true,true,false,false] 2 rfl rfl (by kernel_rfl) rfl rfl (Below.refl wz.heap.size wz).drew (fc KT.keeps (fc KT.keeps (fc KB.keeps (fc KB.keeps (fc KR.keeps (fc KR.keeps (fn))))))) (fc ?_ (fc ?_ (fc ?_ (fc ?_ (fc ?_ (fc ?_ (fn))))))) ?_
   . intro L a V B hr hd h
     have r41:=h.old 41 rfl rfl;have r42:=h.old 42 rfl rfl;have r43:=h.old 43 rfl rfl;refine eP rfl fun KK bu=> ?_;go_simp;refine (CB9.o _ V h.aC (h.tree t_A) (h.tree t_O)).mono ?_;rintro e w' ⟨s0,A0,k0,c0,B0,m0,d0,rfl,hv,hb⟩;unfold bE;(go_wp2_with fail);exact bu.o _ _ (Br.o _ (h.aC.tm hb)) (h.put 0 rfl hr hb ⟨_,s0,A0,k0,c0,B0,m0,d0,rfl,rfl,h.res iq.o hv⟩)
   . intro L a V B hr hd h
     obtain ⟨_,qU,gU,rfl,hU,lU,nU⟩:=h.get 5 rfl (hd 8 (by kernel_rfl)) (.inl rfl);have r45:=h.old 45 rfl rfl;have r46:=h.old 46 rfl rfl;refine eP rfl fun KK bu=> ?_;go_simp;refine (CD9.o _ V h.aC (h.tree t_B) _ (aO.one lU.o (h.tree t_c) ara ⟨⟨.inr (by omega),nU⟩,(jm.1 lU.o).1⟩)).mono ?_;rintro e w' ⟨s0,A0,k0,c0,B0,m0,d0,rfl,hv,hb⟩;unfold bE;(go_wp2_with fail);exact bu.o _ _ (Br.o _ (h.aC.tm hb)) (h.put 1 rfl hr hb ⟨_,s0,A0,k0,c0,B0,m0,d0,rfl,rfl,h.res iq.o hv⟩)
   . intro L a V B hr hd h
     refine eP rfl fun KK bu=> ?_;go_simp;exact bu.o _ _ (Br.o _ (h.aC.alloc h.aC.size _)) (h.box 2 rfl hr)
   . intro L a V B hr hd h
     refine eP rfl fun KK bu=> ?_;go_simp;exact bu.o _ _ (Br.o _ (h.aC.alloc h.aC.size _)) (h.box 3 rfl hr)
   . intro L a V B hr hd h
     have r47:=h.old 47 rfl rfl;refine eP rfl fun KK bu=> ?_;go_simp;exact bu.o _ _ (Br.o _ (h.aC.alloc h.aC.size _)) (h.row 4 rfl hr)
   . intro L a V B hr hd h
     obtain ⟨_,qR,gR,rfl,hR,lR,nR⟩:=h.get 4 rfl (hd 7 (by kernel_rfl)) (.inl rfl);refine eP rfl fun KK bu=> ?_;go_simp;exact bu.o _ _ (Br.o _ h.aC) (h.put 5 rfl hr aU ⟨gR,rfl,hR,lR,nR⟩)
   intro a9 wv B h;obtain ⟨_,qC,_,sC,AC,kC,cC,BC,mC,dC,rfl,rfl,tC⟩:=h.get 0 rfl rfl (.inl rfl);obtain ⟨_,qE,_,sE,AE,kE,cE,BE,mE,dE,rfl,rfl,tE⟩:=h.get 1 rfl rfl (.inl rfl);obtain ⟨_,qX,gX,rfl,hX,lX,BX⟩:=h.get 2 rfl rfl (.inl rfl);obtain ⟨_,qY,gY,rfl,hY,lY,BY⟩:=h.get 3 rfl rfl (.inl rfl);obtain ⟨_,qR,gR,rfl,hR,lR,nR⟩:=h.get 4 rfl rfl (.inl rfl);obtain ⟨_,qU,gU,rfl,hU,lU,nU⟩:=h.get 5 rfl rfl (.inl rfl);have hV:=aA h.aC;have hz9:=h.aC.size;have tC:Hid (aO (fun b=>((S b∧b<w.heap.size)∨w.heap.size+1+1+1<=b)∧b≠gX∧b≠gY) (n+1) wv (.agg #[.bool sC,.slice AC kC cC,.slice BC mC dC]) (mkK fa)):=tC.o.mono fun b hb=>⟨hb.1,fun e=>hb.2 10 (e ▸ BX),fun e=>hb.2 11 (e ▸ BY)⟩;have tE:Hid (aO (fun b=>((S b∧b<w.heap.size)∨w.heap.size+1+1+1<=b)∧b≠gX∧b≠gY) (n+1) wv (.agg #[.bool sE,.slice AE kE cE,.slice BE mE dE]) (mkK fb)):=tE.o.mono fun b hb=>⟨hb.1,fun e=>hb.2 10 (e ▸ BX),fun e=>hb.2 11 (e ▸ BY)⟩;have nXY:gX≠gY:=fun e=>absurd (h.inj 10 11 gX BX (e ▸ BY)) (by decide);obtain rfl:=h.act [(44,_),(50,_),(10,_),(11,_),(48,_),(49,_)] rfl (fc qC (fc qE (fc qX (fc qY (fc qR (fc qU (fn)))))));simp only [List.foldr];try simp only [fx,Act.put]
   clear h;have tX:Hid (aX wv gX (.bool false) (.slice none 0 0) (.slice none 0 0)):=lX.o;have tY:Hid (aX wv gY (.bool false) (.slice none 0 0) (.slice none 0 0)):=lY.o;have v0X:=tX.o.cell0;have f0X:=tX.o.frozen 0;have v1X:=tX.o.cell1;have f1X:=tX.o.frozen 1;have v2X:=tX.o.aN;have f2X:=tX.o.frozen 2;have v0Y:=tY.o.cell0;have f0Y:=tY.o.frozen 0;have v1Y:=tY.o.cell1;have f1Y:=tY.o.frozen 1;have v2Y:=tY.o.aN;have f2Y:=tY.o.frozen 2;have eX:Hid (aX (((wv.setCell ⟨gX,0,none⟩ (.bool sC)).setCell ⟨gX,1,none⟩ (.slice AC kC cC)).setCell ⟨gX,2,none⟩ (.slice BC mC dC)) gX (.bool sC) (.slice AC kC cC) (.slice BC mC dC)):=tX.o.set _ _ _;have eY:Hid (aX (((wv.setCell ⟨gX,0,none⟩ (.bool sC)).setCell ⟨gX,1,none⟩ (.slice AC kC cC)).setCell ⟨gX,2,none⟩ (.slice BC mC dC)) gY (.bool false) (.slice none 0 0) (.slice none 0 0)):=sV tY.o (by omega) _ _ _;have eC9:Hid (aO (fun b=>((S b∧b<w.heap.size)∨w.heap.size+1+1+1<=b)∧b≠gX∧b≠gY) (n+1) (((wv.setCell ⟨gX,0,none⟩ (.bool sC)).setCell ⟨gX,1,none⟩ (.slice AC kC cC)).setCell ⟨gX,2,none⟩ (.slice BC mC dC)) (.agg #[.bool sC,.slice AC kC cC,.slice BC mC dC]) (mkK fa)):=tC.o.only (aZ wv gX _ _ _) (fun b hb e=>hb.2.1 e) (fun b hb=>hb);have eE9:Hid (aO (fun b=>((S b∧b<w.heap.size)∨w.heap.size+1+1+1<=b)∧b≠gX∧b≠gY) (n+1) (((wv.setCell ⟨gX,0,none⟩ (.bool sC)).setCell ⟨gX,1,none⟩ (.slice AC kC cC)).setCell ⟨gX,2,none⟩ (.slice BC mC dC)) (.agg #[.bool sE,.slice AE kE cE,.slice BE mE dE]) (mkK fb)):=tE.o.only (aZ wv gX _ _ _) (fun b hb e=>hb.2.1 e) (fun b hb=>hb);have eV:Below wz.heap.size wz (((wv.setCell ⟨gX,0,none⟩ (.bool sC)).setCell ⟨gX,1,none⟩ (.slice AC kC cC)).setCell ⟨gX,2,none⟩ (.slice BC mC dC)):=gP hV.o hX _ _ _;refine aT (rs:=[12]) (by kernel_rfl) (by simp) ?_;refine aK.cons rfl (by decide) (fun KK bu=> ?_) aK.nil;go_simp;refine bu.o _ _ (Br.o _ eV) (fun _=> ?_);clear bu KK v0X v1X v2X f0X f1X f2X v0Y v1Y v2Y f0Y f1Y f2Y;try simp only [fx,Act.put]
   generalize RZ:(((wv.setCell ⟨gX,0,none⟩ (.bool sC)).setCell ⟨gX,1,none⟩ (.slice AC kC cC)).setCell ⟨gX,2,none⟩ (.slice BC mC dC))=wq at*
   clear RZ;have v0Y:=eY.o.cell0;have f0Y:=eY.o.frozen 0;have v1Y:=eY.o.cell1;have f1Y:=eY.o.frozen 1;have v2Y:=eY.o.aN;have f2Y:=eY.o.frozen 2;refine aT (rs:=[13]) (by kernel_rfl) (by simp) ?_;refine aK.last rfl (fun KK bu=> ?_);go_simp;refine bu.o _ _ ?_;clear bu KK;refine fE (by kernel_rfl) ?_ _;go_wp2_with fail
   go_meet
   exact ⟨gX,gY,sC,AC,kC,cC,BC,mC,dC,sE,AE,kE,cE,BE,mE,dE,rfl,rfl,hX,hY,nXY,sV eX.o nXY _ _ _,eY.o.set _ _ _,eC9.o.only (aZ wq gY _ _ _) (fun b hb e=>hb.2.2 e) (fun b hb=>hb),eE9.o.only (aZ wq gY _ _ _) (fun b hb e=>hb.2.2 e) (fun b hb=>hb),gP eV hY _ _ _⟩
  case rest=>
   obtain ⟨jq,iG,s3,A3,k3,c3,B3,m3,d3,s4,A4,k4,c4,B4,m4,d4,rfl,rfl,ayT,ayS,alv,NK,zn,abX,YJ,hBa⟩:=hcut;obtain ⟨wa,rfl⟩:∃V:World,V=wc:=⟨_,rfl⟩;have hsa:=hBa.o.size;have ZG:=aA (Yk.o.tm hBa.o);have aJc:=NK.o.lt;have aJb:=zn.o.lt;have Y2:=aA (R2.o.aC hBa.o);have Y7:=aA (R7.o.aC hBa.o);have Y8:=aA (R8.o.aC hBa.o);have hl7:=R7.o.lt;have hl8:=R8.o.lt;have W7:=aA ((V7.o.here.aC hBa.o).mono (T:=fun b=>((S b∧b<w.heap.size)∨w.heap.size+1+1+1<=b)∧b≠jq∧b≠iG) fun b hb=>⟨hb.1,by have:=hb.2;omega,by have:=hb.2;omega⟩);have W8:=aA ((V8.o.here.aC hBa.o).mono (T:=fun b=>((S b∧b<w.heap.size)∨w.heap.size+1+1+1<=b)∧b≠jq∧b≠iG) fun b hb=>⟨hb.1,by have:=hb.2;omega,by have:=hb.2;omega⟩);clear Br CB9 CD9 t_A t_B t_O t_c V7 V8 V9 l9 R0 R1 R2 R7 R8 hBa aix aiw;go_wp2_with fail
   go_loopg [] ((kids (mkK fb)).len+1) (fun gk wr=>∃(x y:Pn (n+1)) (s3:Bool) (A3:Option Addr) (k3 c3:Nat) (B3:Option Addr) (m3 d3:Nat) (s4:Bool) (A4:Option Addr) (k4 c4:Nat) (B4:Option Addr) (m4 d4:Nat),(kids y).len<gk∧Hid (I x y)∧Hid (aX wr jq (.bool s3) (.slice A3 k3 c3) (.slice B3 m3 d3))∧Hid (aX wr iG (.bool s4) (.slice A4 k4 c4) (.slice B4 m4 d4))∧Hid (aO (fun b=>((S b∧b<w.heap.size)∨w.heap.size+1+1+1<=b)∧b≠jq∧b≠iG) (n+1) wr (.agg #[.bool s3,.slice A3 k3 c3,.slice B3 m3 d3]) x)∧Hid (aO (fun b=>((S b∧b<w.heap.size)∨w.heap.size+1+1+1<=b)∧b≠jq∧b≠iG) (n+1) wr (.agg #[.bool s4,.slice A4 k4 c4,.slice B4 m4 d4]) y)∧Hid (Only (fun b=>b=jq∨b=iG∨wa.heap.size<=b) wa wr))
   case atStart=>exact ⟨mkK fa,mkK fb,s3,A3,k3,c3,B3,m3,d3,s4,A4,k4,c4,B4,m4,d4,by omega,hI0,NK,zn,abX,YJ,Only.refl _ _⟩
   case round=>
    clear NK zn abX YJ hI0;obtain ⟨x,y,s3,A3,k3,c3,B3,m3,d3,s4,A4,k4,c4,B4,m4,d4,OE,hI,NK,zn,abX,YJ,j7⟩:=hrel;obtain ⟨wp,rfl⟩:∃wp:World,wp=wr:=⟨_,rfl⟩;have pW:Hid (Below w.heap.size w wp):=ZG.o.trans (j7.o.below ZG.o.size fun b hb=>by omega);have hwz:=j7.o.size;have p0:=zn.o.cell0;have p1:=zn.o.cell1;have p2:=zn.o.aN;have atT:=aA (sU _ n wp _ y YJ.o);(go_wp2_with fail);refine atT.o.mono ?_;rintro e w3 ⟨ry,rfl,hry,nZ⟩;have hs3:=nZ.size;have T10:=aA (NK.o.aC nZ);have Wi:=aA (zn.o.aC nZ);have V10:=aA (abX.o.aC nZ);have V11:=aA (YJ.o.aC nZ);have on3:Hid (Only (fun b=>b=jq∨b=iG∨wa.heap.size<=b) wa w3):=j7.o.trans ((Only.bZ nZ).mono fun b hb=> .inr (.inr (by omega)));have HB3:=aA (pW.o.tm nZ);have apQ:=aA hry;clear hry nZ NK zn abX YJ j7 atT p0 p1 p2 pW;have p0:=T10.o.cell0;have p1:=T10.o.cell1;have p2:=T10.o.aN;have q0:=Wi.o.cell0;have q1:=Wi.o.cell1;have q2:=Wi.o.aN;cases ry with
    | true=>
      have rz:y=0:=apQ.o.1 rfl;subst rz;have t_X:=V10.o.here;have t_c:=((W7.o.here.only on3.o (fun b hb e=>by rcases e with e | e | e;(exact hb.1.2.1 e);(exact hb.1.2.2 e);(have:=hb.2;omega)) (fun b hb=>hb.1)).here);have t_d:=((W8.o.here.only on3.o (fun b hb e=>by rcases e with e | e | e;(exact hb.1.2.1 e);(exact hb.1.2.2 e);(have:=hb.2;omega)) (fun b hb=>hb.1)).here);have T7':Hid (aX w3 g7 (.bool s1) (.slice A1 k1 c1) (.slice B1 m1 d1)):=Y7.o.keep (on3.o.block _ Y7.o.lt (by omega));have T8':Hid (aX w3 g8 (.bool s2) (.slice A2 k2 c2) (.slice B2 m2 d2)):=Y8.o.keep (on3.o.block _ Y8.o.lt (by omega));have T2':Hid (aX w3 (w.heap.size+1+1) (.bool false) (.slice none 0 0) (.slice none 0 0)):=Y2.o.keep (on3.o.block _ Y2.o.lt (by omega));have LP:jq<w3.heap.size∧iG<w3.heap.size:=⟨T10.o.lt,Wi.o.lt⟩;have aCz:Hid (∀(T:Nat->Prop) (V:World),Below w3.heap.size w3 V->aO T n V (.agg #[.bool s1,.slice A1 k1 c1,.slice B1 m1 d1]) cf->aO T n V (.agg #[.bool s2,.slice A2 k2 c2,.slice B2 m2 d2]) cg->aB 27 #[.int .i64 (n:Int),.agg #[.bool s1,.slice A1 k1 c1,.slice B1 m1 d1],.agg #[.bool s2,.slice A2 k2 c2,.slice B2 m2 d2]] V (fun e w'=>∃g,nh g cf cg∧bW T V n g e w')):=fun T V _ h1 h2=>(HH.o.gc cf cg QM.o hcg.o).1 T V _ _ h1 h2;clear p0 p1 p2 q0 q1 q2;have Sl:Hid (∀V,Below w3.heap.size w3 V->(fun V=>V.cell? ⟨jq,0,none⟩=some (.bool s3)∧V.cell? ⟨jq,1,none⟩=some (.slice A3 k3 c3)∧V.cell? ⟨jq,2,none⟩=some (.slice B3 m3 d3)∧V.cell? ⟨g7,0,none⟩=some (.bool s1)∧V.cell? ⟨g7,1,none⟩=some (.slice A1 k1 c1)∧V.cell? ⟨g7,2,none⟩=some (.slice B1 m1 d1)∧V.cell? ⟨g8,0,none⟩=some (.bool s2)∧V.cell? ⟨g8,1,none⟩=some (.slice A2 k2 c2)∧V.cell? ⟨g8,2,none⟩=some (.slice B2 m2 d2)) V):=fun V hV=>⟨(T10.o.aC hV).cell0,(T10.o.aC hV).cell1,(T10.o.aC hV).aN,(T7'.o.aC hV).cell0,(T7'.o.aC hV).cell1,(T7'.o.aC hV).aN,(T8'.o.aC hV).cell0,(T8'.o.aC hV).cell1,(T8'.o.aC hV).aN⟩;(go_wp2_with fail);refine fh (S:=fun V=>V.cell? ⟨jq,0,none⟩=some (.bool s3)∧V.cell? ⟨jq,1,none⟩=some (.slice A3 k3 c3)∧V.cell? ⟨jq,2,none⟩=some (.slice B3 m3 d3)∧V.cell? ⟨g7,0,none⟩=some (.bool s1)∧V.cell? ⟨g7,1,none⟩=some (.slice A1 k1 c1)∧V.cell? ⟨g7,2,none⟩=some (.slice B1 m1 d1)∧V.cell? ⟨g8,0,none⟩=some (.bool s2)∧V.cell? ⟨g8,1,none⟩=some (.slice A2 k2 c2)∧V.cell? ⟨g8,2,none⟩=some (.slice B2 m2 d2)) (z:=8) (by kernel_rfl) ?_;have hHeld:=Sl.o _ (Below.refl w3.heap.size w3).drew;(try dsimp only at hHeld);refine tk 8 0 (.agg #[.bool s3,.slice A3 k3 c3,.slice B3 m3 d3]) rfl hHeld ?_;(try simp only [fx,Act.put]);refine tk 8 1 (.int .i64 ((n:Int)+1)) rfl hHeld ?_;(try simp only [fx,Act.put]);refine tk 8 2 (.int .i64 ((n:Int)+1)) rfl hHeld ?_;(try simp only [fx,Act.put]);refine tk 8 3 (.int .i64 (n:Int)) rfl hHeld ?_;(try simp only [fx,Act.put]);refine tk 8 4 (.agg #[.bool s1,.slice A1 k1 c1,.slice B1 m1 d1]) rfl hHeld ?_;(try simp only [fx,Act.put]);refine tk 8 5 (.agg #[.bool s2,.slice A2 k2 c2,.slice B2 m2 d2]) rfl hHeld ?_;(try simp only [fx,Act.put]);refine aT (rs:=[6]) (by kernel_rfl) (by simp) ?_;refine aK.cons rfl (by decide) (fun KK bu=> ?_) ?_
      . skip
        go_simp;refine (aCz.o (fun b=>(((S b∧b<w.heap.size)∨w.heap.size+1+1+1<=b)∧b≠jq∧b≠iG)∧b<w3.heap.size) (World.drew w3) (Below.refl w3.heap.size w3).drew ((t_c.aC (Below.refl w3.heap.size w3).drew).mono (fun b hb=>⟨hb.1,by have h9:=hb.2;omega⟩)) ((t_d.aC (Below.refl w3.heap.size w3).drew).mono (fun b hb=>⟨hb.1,by have h9:=hb.2;omega⟩))).mono ?_;rintro e wK ⟨gg,hgg,sK,AK,kK,cK,BK,mK,dK,rfl,hK,hbK⟩;have Bv:Below w3.heap.size w3 wK:=(Below.refl w3.heap.size w3).drew.trans (hbK.mono (Below.refl w3.heap.size w3).drew.size);have axf:w3.heap.size<=wK.heap.size:=by
         have h2:=hbK.size;change (w3).heap.size<=_ at h2
         exact h2
        have t_X:=((t_X.aC (Below.refl w3.heap.size w3).drew).aC hbK).mono (T:=fun b=>(((S b∧b<w.heap.size)∨w.heap.size+1+1+1<=b)∧b≠jq∧b≠iG)∧b<wK.heap.size) (fun b hb=>⟨hb.1,by have h9:=hb.2;omega⟩);have t_c:=((t_c.aC (Below.refl w3.heap.size w3).drew).aC hbK).mono (T:=fun b=>(((S b∧b<w.heap.size)∨w.heap.size+1+1+1<=b)∧b≠jq∧b≠iG)∧b<wK.heap.size) (fun b hb=>⟨hb.1,by have h9:=hb.2;omega⟩);have t_d:=((t_d.aC (Below.refl w3.heap.size w3).drew).aC hbK).mono (T:=fun b=>(((S b∧b<w.heap.size)∨w.heap.size+1+1+1<=b)∧b≠jq∧b≠iG)∧b<wK.heap.size) (fun b hb=>⟨hb.1,by have h9:=hb.2;omega⟩);have t_K:aO (fun b=>(((S b∧b<w.heap.size)∨w.heap.size+1+1+1<=b)∧b≠jq∧b≠iG)∧b<wK.heap.size) n wK (bE sK AK kK cK BK mK dK) gg:=hK.here.mono fun b hb=>by
         rcases hb with ⟨h1 | h1,h3⟩
         . exact ⟨h1.1,h3⟩
         . change (w3).heap.size<=b at h1
           exact ⟨⟨.inr (by omega),by omega,by omega⟩,h3⟩
        clear hK;obtain ⟨OG,hG',D,E,f1,f2,f3,f4,f5,f6,f7,_⟩:=HH.o.fin cf cg gg x hI.o QM.o hcg.o hgg;have hG:=aA hG';have aCC:Hid (∀(T:Nat->Prop) (V:World),Below w3.heap.size w3 V->aO T (n+1) V (.agg #[.bool s3,.slice A3 k3 c3,.slice B3 m3 d3]) x->∀v,aO T n V v gg->aB 55 #[.agg #[.bool s3,.slice A3 k3 c3,.slice B3 m3 d3],.int .i64 ((n:Int)+1),v] V (bW T V (n+1) (x*mkK (Poly.C gg)))):=fun T V _ h1 v h2=>Vj n K (by omega) (Bh K hK (n+1) (by omega)) T V _ v x gg D E h1 h2 OG f1 f2 f3 f4 f5 f6 f7;clear hG' f1 f2 f3 f4 f5 f6 f7;unfold bE;(go_wp2_with fail);refine bu.o _ _ (Sl.o _ Bv) (fun hHeld=> ?_);clear bu KK;(try dsimp only at hHeld);(try simp only [fx,Act.put]);refine aT (rs:=[7]) (by kernel_rfl) (by simp) ?_;refine aK.cons rfl (by decide) (fun KK bu=> ?_) ?_
        . skip
          go_simp;refine (aCC.o (fun b=>(((S b∧b<w.heap.size)∨w.heap.size+1+1+1<=b)∧b≠jq∧b≠iG)∧b<wK.heap.size) wK Bv ((t_X.aC (Below.refl wK.heap.size wK)).mono (fun b hb=>⟨hb.1,by have h9:=hb.2;omega⟩)) _ ((t_K.aC (Below.refl wK.heap.size wK)).mono (fun b hb=>⟨hb.1,by have h9:=hb.2;omega⟩))).mono ?_;rintro e wC ⟨sC,AC,kC,cC,BC,mC,dC,rfl,hC,Yu⟩;have Bw:Below w3.heap.size w3 wC:=Bv.tm Yu;have axg:wK.heap.size<=wC.heap.size:=by
           have h2:=Yu.size;change (wK).heap.size<=_ at h2
           exact h2
          have t_X:=((t_X.aC (Below.refl wK.heap.size wK)).aC Yu).mono (T:=fun b=>(((S b∧b<w.heap.size)∨w.heap.size+1+1+1<=b)∧b≠jq∧b≠iG)∧b<wC.heap.size) (fun b hb=>⟨hb.1,by have h9:=hb.2;omega⟩);have t_c:=((t_c.aC (Below.refl wK.heap.size wK)).aC Yu).mono (T:=fun b=>(((S b∧b<w.heap.size)∨w.heap.size+1+1+1<=b)∧b≠jq∧b≠iG)∧b<wC.heap.size) (fun b hb=>⟨hb.1,by have h9:=hb.2;omega⟩);have t_d:=((t_d.aC (Below.refl wK.heap.size wK)).aC Yu).mono (T:=fun b=>(((S b∧b<w.heap.size)∨w.heap.size+1+1+1<=b)∧b≠jq∧b≠iG)∧b<wC.heap.size) (fun b hb=>⟨hb.1,by have h9:=hb.2;omega⟩);have t_K:=((t_K.aC (Below.refl wK.heap.size wK)).aC Yu).mono (T:=fun b=>(((S b∧b<w.heap.size)∨w.heap.size+1+1+1<=b)∧b≠jq∧b≠iG)∧b<wC.heap.size) (fun b hb=>⟨hb.1,by have h9:=hb.2;omega⟩);have t_C:aO (fun b=>(((S b∧b<w.heap.size)∨w.heap.size+1+1+1<=b)∧b≠jq∧b≠iG)∧b<wC.heap.size) (n+1) wC (bE sC AC kC cC BC mC dC) (x*mkK (Poly.C gg)):=hC.here.mono fun b hb=>by
           rcases hb with ⟨h1 | h1,h3⟩
           . exact ⟨h1.1,h3⟩
           . change (wK).heap.size<=b at h1
             exact ⟨⟨.inr (by omega),by omega,by omega⟩,h3⟩
          clear hC;unfold bE;(go_wp2_with fail);refine bu.o _ _ (Sl.o _ Bw) (fun hHeld=> ?_);clear bu KK;(try dsimp only at hHeld);(try simp only [fx,Act.put]);refine aT (rs:=[8]) (by kernel_rfl) (by simp) ?_;refine aK.last rfl (fun KK bu=> ?_);have tz:=T2'.o.aC Bw;have v0:=tz.cell0;have f0:=tz.frozen 0;have v1:=tz.cell1;have f1:=tz.frozen 1;have v2:=tz.aN;have f2:=tz.frozen 2;have eZ:Hid (aO (fun b=>S b∨w.heap.size<=b) (n+1) (((wC.setCell ⟨w.heap.size+1+1,0,none⟩ (.bool sC)).setCell ⟨w.heap.size+1+1,1,none⟩ (.slice AC kC cC)).setCell ⟨w.heap.size+1+1,2,none⟩ (.slice BC mC dC)) (.agg #[.bool sC,.slice AC kC cC,.slice BC mC dC]) (x*mkK (Poly.C gg))):=t_C.only (aZ wC (w.heap.size+1+1) _ _ _) (fun b hb e=>by rcases hb.1.1 with h | h<;>omega) (fun b hb=>hb.1.1.imp (fun h=>h.1) fun h=>by omega);have eB:Hid (Below w.heap.size w (((wC.setCell ⟨w.heap.size+1+1,0,none⟩ (.bool sC)).setCell ⟨w.heap.size+1+1,1,none⟩ (.slice AC kC cC)).setCell ⟨w.heap.size+1+1,2,none⟩ (.slice BC mC dC))):=gP (HB3.o.tm Bw) (by omega) _ _ _;have eT:Hid (aX (((wC.setCell ⟨w.heap.size+1+1,0,none⟩ (.bool sC)).setCell ⟨w.heap.size+1+1,1,none⟩ (.slice AC kC cC)).setCell ⟨w.heap.size+1+1,2,none⟩ (.slice BC mC dC)) (w.heap.size+1+1) (.bool sC) (.slice AC kC cC) (.slice BC mC dC)):=tz.set _ _ _;go_simp;refine bu.o _ _ ?_;clear bu KK;refine fE (by kernel_rfl) ?_ _;(go_wp2_with fail);exact bK (v:=.agg #[.bool sC,.slice AC kC cC,.slice BC mC dC]) (dO (fn:=Tryz.f27) rfl _ _ _ _ _ _ _ rfl eT.o underlying51 rfl cW) rfl
           ⟨x*mkK (Poly.C gg),hG.o,sC,AC,kC,cC,BC,mC,dC,rfl,eZ.o,eB.o⟩
        exact aK.nil
      exact aK.nil
    | false=>
      (have rz:y≠0:=fun e=>by have:=apQ.o.2 e;cases this);obtain ⟨D,E,⟨f1,f2,f3,f4,f5,_⟩,YB⟩:=HH.o.rs x y hI.o rz;have Hrs:=aA YB;have CR:Hid (aB 54 #[.agg #[.bool s3,.slice A3 k3 c3,.slice B3 m3 d3],.int .i64 ((n:Int)+1),.agg #[.bool s4,.slice A4 k4 c4,.slice B4 m4 d4]] w3 (fun e w'=>∃r k,Poly.RI (kids x) (kids y) D E k (kids r)∧(kids r).len<(kids y).len∧bW (fun b=>((S b∧b<w.heap.size)∨w.heap.size+1+1+1<=b)∧b≠jq∧b≠iG) w3 (n+1) r e w')):=apg n K hK (by omega) _ w3 _ _ x y D E V10.o V11.o rz f1 f2 f3 f4 f5;clear YB f1 f2 f3 f4 f5;(go_wp2_with fail);refine CR.o.mono ?_;rintro e w4 ⟨r,k,hRI,CE,s5,A5,k5,c5,B5,m5,d5,rfl,hv5,TF⟩;have hs4:=TF.size;have ba:Below w4.heap.size w4 (w4.alloc (.cells #[.bool s5,.slice A5 k5 c5,.slice B5 m5 d5] 51)):=jx aU _;have U10:=(T10.o.aC TF).aC ba;have U11:=(Wi.o.aC TF).aC ba;have U12:=aX.new w4 (.bool s5) (.slice A5 k5 c5) (.slice B5 m5 d5);have apC:Hid (aO (fun b=>((S b∧b<w.heap.size)∨w.heap.size+1+1+1<=b)∧b≠jq∧b≠iG) (n+1) (w4.alloc (.cells #[.bool s5,.slice A5 k5 c5,.slice B5 m5 d5] 51)) (.agg #[.bool s5,.slice A5 k5 c5,.slice B5 m5 d5]) r):=(hv5.aC ba).mono fun b hb=>hb.elim id fun h9=>⟨.inr (by omega),by omega,by omega⟩;have vy5:Hid (aO (fun b=>((S b∧b<w.heap.size)∨w.heap.size+1+1+1<=b)∧b≠jq∧b≠iG) (n+1) (w4.alloc (.cells #[.bool s5,.slice A5 k5 c5,.slice B5 m5 d5] 51)) (.agg #[.bool s4,.slice A4 k4 c4,.slice B4 m4 d4]) y):=(V11.o.aC TF).aC ba;have on4:Hid (Only (fun b=>b=jq∨b=iG∨wa.heap.size<=b) wa (w4.alloc (.cells #[.bool s5,.slice A5 k5 c5,.slice B5 m5 d5] 51))):=(on3.o.trans ((Only.bZ TF).mono fun b hb=> .inr (.inr (by omega)))).trans ((Only.bZ ba).mono fun b hb=> .inr (.inr (by omega)));have HRI:=aA hRI;clear hv5 hRI CR p0 p1 p2 q0 q1 q2;unfold bE;(go_wp2_with fail);generalize hw5:w4.alloc (.cells #[.bool s5,.slice A5 k5 c5,.slice B5 m5 d5] 51)=w5 at*
      (have aMz:w4.heap.size<w5.heap.size:=by rw [<- hw5];simp);clear hw5;have v0:=U10.cell0;have v1:=U10.cell1;have v2:=U10.aN;have v3:=U10.frozen 0;have v4:=U10.frozen 1;have v5:=U10.frozen 2;have y0:=U11.cell0;have y1:=U11.cell1;have y2:=U11.aN;have y3:=U11.frozen 0;have y4:=U11.frozen 1;have y5:=U11.frozen 2;have z0:=U12.cell0;have z1:=U12.cell1;have z2:=U12.aN;have eX:Hid (aX (((((w5.setCell ⟨jq,0,none⟩ (.bool s4)).setCell ⟨jq,1,none⟩ (.slice A4 k4 c4)).setCell ⟨jq,2,none⟩ (.slice B4 m4 d4)).setCell ⟨iG,0,none⟩ (.bool s5)).setCell ⟨iG,1,none⟩ (.slice A5 k5 c5) |>.setCell ⟨iG,2,none⟩ (.slice B5 m5 d5)) jq (.bool s4) (.slice A4 k4 c4) (.slice B4 m4 d4)):=sV (U10.set _ _ _) alv _ _ _;have eY:Hid (aX (((((w5.setCell ⟨jq,0,none⟩ (.bool s4)).setCell ⟨jq,1,none⟩ (.slice A4 k4 c4)).setCell ⟨jq,2,none⟩ (.slice B4 m4 d4)).setCell ⟨iG,0,none⟩ (.bool s5)).setCell ⟨iG,1,none⟩ (.slice A5 k5 c5) |>.setCell ⟨iG,2,none⟩ (.slice B5 m5 d5)) iG (.bool s5) (.slice A5 k5 c5) (.slice B5 m5 d5)):=aX.set (sV U11 alv.symm _ _ _) _ _ _;have eVy:Hid (aO (fun b=>((S b∧b<w.heap.size)∨w.heap.size+1+1+1<=b)∧b≠jq∧b≠iG) (n+1) (((((w5.setCell ⟨jq,0,none⟩ (.bool s4)).setCell ⟨jq,1,none⟩ (.slice A4 k4 c4)).setCell ⟨jq,2,none⟩ (.slice B4 m4 d4)).setCell ⟨iG,0,none⟩ (.bool s5)).setCell ⟨iG,1,none⟩ (.slice A5 k5 c5) |>.setCell ⟨iG,2,none⟩ (.slice B5 m5 d5)) (.agg #[.bool s4,.slice A4 k4 c4,.slice B4 m4 d4]) y):=(vy5.o.only (aZ w5 jq _ _ _) (fun b hb e=>hb.2.1 e) (fun b hb=>hb)).only (aZ _ iG _ _ _) (fun b hb e=>hb.2.2 e) (fun b hb=>hb);have eVr:Hid (aO (fun b=>((S b∧b<w.heap.size)∨w.heap.size+1+1+1<=b)∧b≠jq∧b≠iG) (n+1) (((((w5.setCell ⟨jq,0,none⟩ (.bool s4)).setCell ⟨jq,1,none⟩ (.slice A4 k4 c4)).setCell ⟨jq,2,none⟩ (.slice B4 m4 d4)).setCell ⟨iG,0,none⟩ (.bool s5)).setCell ⟨iG,1,none⟩ (.slice A5 k5 c5) |>.setCell ⟨iG,2,none⟩ (.slice B5 m5 d5)) (.agg #[.bool s5,.slice A5 k5 c5,.slice B5 m5 d5]) r):=(apC.o.only (aZ w5 jq _ _ _) (fun b hb e=>hb.2.1 e) (fun b hb=>hb)).only (aZ _ iG _ _ _) (fun b hb e=>hb.2.2 e) (fun b hb=>hb);have eOn:Hid (Only (fun b=>b=jq∨b=iG∨wa.heap.size<=b) wa (((((w5.setCell ⟨jq,0,none⟩ (.bool s4)).setCell ⟨jq,1,none⟩ (.slice A4 k4 c4)).setCell ⟨jq,2,none⟩ (.slice B4 m4 d4)).setCell ⟨iG,0,none⟩ (.bool s5)).setCell ⟨iG,1,none⟩ (.slice A5 k5 c5) |>.setCell ⟨iG,2,none⟩ (.slice B5 m5 d5))):=(on4.o.trans ((aZ w5 jq _ _ _).mono fun b hb=> .inl hb)).trans ((aZ _ iG _ _ _).mono fun b hb=> .inr (.inl hb));clear vy5 apC on4;go_cut [] (fun V=>Hid (aX V jq (.bool s4) (.slice A4 k4 c4) (.slice B4 m4 d4))∧Hid (aX V iG (.bool s5) (.slice A5 k5 c5) (.slice B5 m5 d5))∧Hid (aO (fun b=>((S b∧b<w.heap.size)∨w.heap.size+1+1+1<=b)∧b≠jq∧b≠iG) (n+1) V (.agg #[.bool s4,.slice A4 k4 c4,.slice B4 m4 d4]) y)∧Hid (aO (fun b=>((S b∧b<w.heap.size)∨w.heap.size+1+1+1<=b)∧b≠jq∧b≠iG) (n+1) V (.agg #[.bool s5,.slice A5 k5 c5,.slice B5 m5 d5]) r)∧Hid (Only (fun b=>b=jq∨b=iG∨wa.heap.size<=b) wa V))
      case first=>
       go_region
       all_goals
        (go_wp2_with fail);go_meet
        exact ⟨eX.o.aC aU.drew,eY.o.aC aU.drew,eVy.o.aC aU.drew,eVr.o.aC aU.drew,eOn.o.trans ((Only.bZ (aU.drew)).mono fun b hb=> .inr (.inr (by have:=eOn.o.size;omega)))⟩
      case rest=>
       obtain ⟨NK,zn,hVy,hVr,akZ⟩:=hcut;obtain ⟨w6,rfl⟩:∃V:World,V=wc:=⟨_,rfl⟩;clear eX eY eVy eVr eOn U10 U11 U12 v0 v1 v2 v3 v4 v5 y0 y1 y2 y3 y4 y5 z0 z1 z2;have YA:=akZ.o.size;have p0:=zn.o.cell0;have p1:=zn.o.cell1;have p2:=zn.o.aN;have atS:=aA (sU _ n w6 _ r hVr.o);obtain ⟨Js,hr2⟩:=Hrs.o r k HRI.o CE;have Hr1:=aA Js;have Hr2:=aA hr2;clear Js hr2 Hrs;(go_wp2_with fail);refine atS.o.mono ?_;rintro e w7 ⟨rr,rfl,hrr,fe⟩;have hs7:=fe.size;have ane:=aA (NK.o.aC fe);have Yf:=aA (zn.o.aC fe);have Vy7:=aA (hVy.o.aC fe);have Vr7:=aA (hVr.o.aC fe);have on7:Hid (Only (fun b=>b=jq∨b=iG∨wa.heap.size<=b) wa w7):=akZ.o.trans ((Only.bZ fe).mono fun b hb=> .inr (.inr (by omega)));have apR:=aA hrr;clear hrr fe NK zn hVy hVr akZ atS p0 p1 p2;cases rr with
       | true=>
         have CH:r=0:=apR.o.1 rfl;have hIy:Hid (I y r):=by
          rw [CH];exact Hr1.o CH
         (go_wp2_with fail);go_roundg (gk-1)
         case measure=>omega
         case rel=>exact ⟨y,r,s4,A4,k4,c4,B4,m4,d4,s5,A5,k5,c5,B5,m5,d5,by omega,hIy,ane,Yf,Vy7,Vr7,on7⟩
       | false=>
         (have CH:r≠0:=fun e=>by have:=apR.o.2 e;cases this);obtain ⟨hcr,Ge⟩:=Hr2.o CH;have Hby:=aA Ge;clear Ge Hr1 Hr2;have t_R:=Vr7.o.here;have aCA:Hid (∀(T:Nat->Prop) (V:World),Below w7.heap.size w7 V->aO T (n+1) V (.agg #[.bool s5,.slice A5 k5 c5,.slice B5 m5 d5]) r->aB 52 #[.agg #[.bool s5,.slice A5 k5 c5,.slice B5 m5 d5],.int .i64 ((n:Int)+1)] V (fun e w'=>∃c,Poly.Cont c (kids r)∧bW T V n c e w')):=fun T V _ hv=>IX n (by omega) T V _ r hv hcr.1 hcr.2.1;have LP:jq<w7.heap.size∧iG<w7.heap.size:=⟨ane.o.lt,Yf.o.lt⟩;have Mw:Hid (∀V,Below w7.heap.size w7 V->(fun V=>V.cell? ⟨iG,0,none⟩=some (.bool s5)∧V.cell? ⟨iG,1,none⟩=some (.slice A5 k5 c5)∧V.cell? ⟨iG,2,none⟩=some (.slice B5 m5 d5)) V):=fun V hV=>⟨(Yf.o.aC hV).cell0,(Yf.o.aC hV).cell1,(Yf.o.aC hV).aN⟩;(go_wp2_with fail);refine fh (S:=fun V=>V.cell? ⟨iG,0,none⟩=some (.bool s5)∧V.cell? ⟨iG,1,none⟩=some (.slice A5 k5 c5)∧V.cell? ⟨iG,2,none⟩=some (.slice B5 m5 d5)) (z:=8) (by kernel_rfl) ?_;have hHeld:=Mw.o _ (Below.refl w7.heap.size w7).drew;(try dsimp only at hHeld);refine tk 8 0 (.agg #[.bool s5,.slice A5 k5 c5,.slice B5 m5 d5]) rfl hHeld ?_;(try simp only [fx,Act.put]);refine tk 8 1 (.int .i64 ((n:Int)+1)) rfl hHeld ?_;(try simp only [fx,Act.put]);refine tk 8 2 (.agg #[.bool s5,.slice A5 k5 c5,.slice B5 m5 d5]) rfl hHeld ?_;(try simp only [fx,Act.put]);refine tk 8 3 (.int .i64 ((n:Int)+1)) rfl hHeld ?_;(try simp only [fx,Act.put]);refine aT (rs:=[4]) (by kernel_rfl) (by simp) ?_;refine aK.cons rfl (by decide) (fun KK bu=> ?_) ?_
         . skip
           go_simp;refine (aCA.o (fun b=>(((S b∧b<w.heap.size)∨w.heap.size+1+1+1<=b)∧b≠jq∧b≠iG)∧b<w7.heap.size) (World.drew w7) (Below.refl w7.heap.size w7).drew ((t_R.aC (Below.refl w7.heap.size w7).drew).mono (fun b hb=>⟨hb.1,by have h9:=hb.2;omega⟩))).mono ?_;rintro e wK ⟨cr,alG,sK,AK,kK,cK,BK,mK,dK,rfl,hK,hbK⟩;have Bv:Below w7.heap.size w7 wK:=(Below.refl w7.heap.size w7).drew.trans (hbK.mono (Below.refl w7.heap.size w7).drew.size);have axf:w7.heap.size<=wK.heap.size:=by
            have h2:=hbK.size;change (w7).heap.size<=_ at h2
            exact h2
           have t_R:=((t_R.aC (Below.refl w7.heap.size w7).drew).aC hbK).mono (T:=fun b=>(((S b∧b<w.heap.size)∨w.heap.size+1+1+1<=b)∧b≠jq∧b≠iG)∧b<wK.heap.size) (fun b hb=>⟨hb.1,by have h9:=hb.2;omega⟩);have t_K:aO (fun b=>(((S b∧b<w.heap.size)∨w.heap.size+1+1+1<=b)∧b≠jq∧b≠iG)∧b<wK.heap.size) n wK (bE sK AK kK cK BK mK dK) cr:=hK.here.mono fun b hb=>by
            rcases hb with ⟨h1 | h1,h3⟩
            . exact ⟨h1.1,h3⟩
            . change (w7).heap.size<=b at h1
              exact ⟨⟨.inr (by omega),by omega,by omega⟩,h3⟩
           clear hK;have alH:cr≠0:=alG.ne (fun e=>CH e);obtain ⟨fz,EX⟩:=alG.dv.dv;obtain ⟨QH,arE⟩:=Hby.o cr (mkK fz) alG EX;have hIz:=aA arE;(have hlz:(kids (mkK fz)).len<=(kids r).len:=by rw [EX,Poly.fo alH];exact aL);have hrz:Hid (r=mkK fz*mkK (Poly.C cr)):=(show kids r=fz*Poly.C cr by rw [EX,aF.mul_comm]);have aCD:Hid (∀(T:Nat->Prop) (V:World),Below w7.heap.size w7 V->aO T (n+1) V (.agg #[.bool s5,.slice A5 k5 c5,.slice B5 m5 d5]) r->∀v,aO T (n+1) V v (mkK (Poly.C cr))->aB 53 #[.agg #[.bool s5,.slice A5 k5 c5,.slice B5 m5 d5],.int .i64 ((n:Int)+1),v] V (bW T V (n+1) (mkK fz))):=fun T V _ h1 v h2=>(by obtain ⟨D,E,e1,e2,e3,e4,e5,e6,_⟩:=QH;rw [hrz.o] at h1;have h9:=mby K hK (n+1) (by omega) T V _ _ (mkK fz) (mkK (Poly.C cr)) D E h1 h2 (Poly.Dd alH) e1 e2 e3 e4 e5 e6;rw [lI] at h9;exact h9);clear EX arE Hby;unfold bE;(go_wp2_with fail);refine bu.o _ _ (Mw.o _ Bv) (fun hHeld=> ?_);clear bu KK;(try dsimp only at hHeld);(try simp only [fx,Act.put]);refine aT (rs:=[5]) (by kernel_rfl) (by simp) ?_;refine aK.cons rfl (by decide) (fun KK bu=> ?_) ?_
           . skip
             go_simp;refine bu.o _ _ (Mw.o _ (jx Bv (.cells #[.bool sK,.slice AK kK cK,.slice BK mK dK] 51))) (fun hHeld=> ?_);clear bu KK;(try dsimp only at hHeld);(try simp only [fx,Act.put]);refine tk 8 6 (.agg #[.bool false,.slice none 0 0,.slice (some ⟨wK.heap.size,0,none⟩) 1 1]) rfl hHeld ?_;(try simp only [fx,Act.put]);refine aT (rs:=[7]) (by kernel_rfl) (by simp) ?_;refine aK.cons rfl (by decide) (fun KK bu=> ?_) ?_
             . skip
               go_simp;refine (aCD.o (fun b=>(((S b∧b<w.heap.size)∨w.heap.size+1+1+1<=b)∧b≠jq∧b≠iG)∧b<wK.heap.size+1) (World.alloc wK (.cells #[.bool sK,.slice AK kK cK,.slice BK mK dK] 51)) (jx Bv (.cells #[.bool sK,.slice AK kK cK,.slice BK mK dK] 51)) ((t_R.aC (jx (Below.refl wK.heap.size wK) (.cells #[.bool sK,.slice AK kK cK,.slice BK mK dK] 51))).mono (fun b hb=>⟨hb.1,by have h9:=hb.2;omega⟩)) _ (aO.one (S:=fun b=>(((S b∧b<w.heap.size)∨w.heap.size+1+1+1<=b)∧b≠jq∧b≠iG)∧b<wK.heap.size+1) (Ie _ (.cells #[.bool sK,.slice AK kK cK,.slice BK mK dK] 51)) ((t_K.aC (jx (Below.refl wK.heap.size wK) (.cells #[.bool sK,.slice AK kK cK,.slice BK mK dK] 51))).mono (fun b hb=>⟨hb.1,by have h9:=hb.2;omega⟩)) alH ⟨⟨.inr (by omega),by omega,by omega⟩,by omega⟩)).mono ?_;rintro e wC ⟨sC,AC,kC,cC,BC,mC,dC,rfl,hC,Yu⟩;have Bw:Below w7.heap.size w7 wC:=(jx Bv (.cells #[.bool sK,.slice AK kK cK,.slice BK mK dK] 51)).trans (Yu.mono (jx Bv (.cells #[.bool sK,.slice AK kK cK,.slice BK mK dK] 51)).size);have axg:wK.heap.size+1<=wC.heap.size:=by
                have h2:=Yu.size;change ((World.alloc wK (.cells #[.bool sK,.slice AK kK cK,.slice BK mK dK] 51))).heap.size<=_ at h2
                simp only [aJ] at h2;exact h2
               have l_B:wC.heap[wK.heap.size]? =some (.cells #[.bool sK,.slice AK kK cK,.slice BK mK dK] 51):=aaP Yu (Ie _ (.cells #[.bool sK,.slice AK kK cK,.slice BK mK dK] 51));have t_R:=((t_R.aC (jx (Below.refl wK.heap.size wK) (.cells #[.bool sK,.slice AK kK cK,.slice BK mK dK] 51))).aC Yu).mono (T:=fun b=>(((S b∧b<w.heap.size)∨w.heap.size+1+1+1<=b)∧b≠jq∧b≠iG)∧b<wC.heap.size) (fun b hb=>⟨hb.1,by have h9:=hb.2;omega⟩);have t_K:=((t_K.aC (jx (Below.refl wK.heap.size wK) (.cells #[.bool sK,.slice AK kK cK,.slice BK mK dK] 51))).aC Yu).mono (T:=fun b=>(((S b∧b<w.heap.size)∨w.heap.size+1+1+1<=b)∧b≠jq∧b≠iG)∧b<wC.heap.size) (fun b hb=>⟨hb.1,by have h9:=hb.2;omega⟩);have t_C:aO (fun b=>(((S b∧b<w.heap.size)∨w.heap.size+1+1+1<=b)∧b≠jq∧b≠iG)∧b<wC.heap.size) (n+1) wC (bE sC AC kC cC BC mC dC) (mkK fz):=hC.here.mono fun b hb=>by
                rcases hb with ⟨h1 | h1,h3⟩
                . exact ⟨h1.1,h3⟩
                . change ((World.alloc wK (.cells #[.bool sK,.slice AK kK cK,.slice BK mK dK] 51))).heap.size<=b at h1
                  simp only [aJ] at h1;exact ⟨⟨.inr (by omega),by omega,by omega⟩,h3⟩
               clear hC;unfold bE;(go_wp2_with fail);refine bu.o _ _ (Mw.o _ Bw) (fun hHeld=> ?_);clear bu KK;(try dsimp only at hHeld);(try simp only [fx,Act.put]);refine aT (rs:=[8]) (by kernel_rfl) (by simp) ?_;refine aK.last rfl (fun KK bu=> ?_);have tz:=Yf.o.aC Bw;have v0:=tz.cell0;have f0:=tz.frozen 0;have v1:=tz.cell1;have f1:=tz.frozen 1;have v2:=tz.aN;have f2:=tz.frozen 2;have eX:Hid (aX (((wC.setCell ⟨iG,0,none⟩ (.bool sC)).setCell ⟨iG,1,none⟩ (.slice AC kC cC)).setCell ⟨iG,2,none⟩ (.slice BC mC dC)) jq (.bool s4) (.slice A4 k4 c4) (.slice B4 m4 d4)):=sV (ane.o.aC Bw) alv _ _ _;have eY:Hid (aX (((wC.setCell ⟨iG,0,none⟩ (.bool sC)).setCell ⟨iG,1,none⟩ (.slice AC kC cC)).setCell ⟨iG,2,none⟩ (.slice BC mC dC)) iG (.bool sC) (.slice AC kC cC) (.slice BC mC dC)):=tz.set _ _ _;have eV:Hid (aO (fun b=>((S b∧b<w.heap.size)∨w.heap.size+1+1+1<=b)∧b≠jq∧b≠iG) (n+1) (((wC.setCell ⟨iG,0,none⟩ (.bool sC)).setCell ⟨iG,1,none⟩ (.slice AC kC cC)).setCell ⟨iG,2,none⟩ (.slice BC mC dC)) (.agg #[.bool s4,.slice A4 k4 c4,.slice B4 m4 d4]) y):=(Vy7.o.aC Bw).only (aZ wC iG _ _ _) (fun b hb e=>hb.2.2 e) (fun b hb=>hb);have eZ:Hid (aO (fun b=>((S b∧b<w.heap.size)∨w.heap.size+1+1+1<=b)∧b≠jq∧b≠iG) (n+1) (((wC.setCell ⟨iG,0,none⟩ (.bool sC)).setCell ⟨iG,1,none⟩ (.slice AC kC cC)).setCell ⟨iG,2,none⟩ (.slice BC mC dC)) (.agg #[.bool sC,.slice AC kC cC,.slice BC mC dC]) (mkK fz)):=t_C.only (aZ wC iG _ _ _) (fun b hb e=>hb.1.2.2 e) (fun b hb=>hb.1);have eO:Hid (Only (fun b=>b=jq∨b=iG∨wa.heap.size<=b) wa (((wC.setCell ⟨iG,0,none⟩ (.bool sC)).setCell ⟨iG,1,none⟩ (.slice AC kC cC)).setCell ⟨iG,2,none⟩ (.slice BC mC dC))):=(on7.o.trans ((Only.bZ Bw).mono fun b hb=> .inr (.inr (by omega)))).trans ((aZ wC iG _ _ _).mono fun b hb=> .inr (.inl hb));go_simp;refine bu.o _ _ ?_;clear bu KK;refine fE (by kernel_rfl) ?_ _;(go_wp2_with fail);go_roundg (gk-1)
               case measure=>omega
               case rel=>exact ⟨y,mkK fz,s4,A4,k4,c4,B4,m4,d4,sC,AC,kC,cC,BC,mC,dC,by omega,hIz,eX,eY,eV,eZ,eO⟩
             exact aK.nil
           exact aK.nil
         exact aK.nil
def U8:∀{n:Nat} {D E:Nat->Nat},aH.jo (Pn n) (fun j=>D j+E j)<=aH.jo (Pn n) D*aH.jo (Pn n) E
 | 0,_,_=>aL
 | n+1,D,E=>by
   show (D 0+E 0+1)*aH.jo (Pn n) (fun j=>D (j+1)+E (j+1))<=(D 0+1)*aH.jo (Pn n) (fun j=>D (j+1))*((E 0+1)*aH.jo (Pn n) (fun j=>E (j+1)));rw [Er];refine ct ?_ U8;rw [bO,ak,bN];omega
def adJ.mul {x:Pn (n+1)} {g:Pn n}(h:adJ n K x g):jO (n+1) K x (mkK (Poly.C g)):=by
 obtain ⟨D,E,h1,h2,h3,h4,h5,h6,h7,h8⟩:=h;refine ⟨D,Poly.bg 0 E,h1,acv h2,fun j=> ?_,h5,by rw [Xb];exact h6,by rw [Xb];exact h7,?_⟩
 . cases j with
   | zero=>show D 0+0<_;omega
   | succ j=>exact h4 j
 . show aH.jo (Pn (n+1)) D*((0+1)*aH.jo (Pn n) E)<=_
   rw [bh,bN];exact h8
def jO.prod {x g:Pn n}(h:jO n K x g):iw n K (x*g):=by
 obtain ⟨D,E,h1,h2,h3,h4,h5,h6,h7⟩:=h;exact ⟨_,aH.jh _ _ _ _ h1 h2,aG U8 h7,h3,aR (aH.mh _ _) h6⟩
def akC {a b:Pn n}(h:a=0∨b=0):nh (a+b) a b:=by
 rcases h with h | h
 . rw [h,aF.zero_add]
   exact ⟨Dv.zero b,Dv.refl b,fun d _ h2=>h2⟩
 . rw [h,aF.add_zero]
   exact ⟨Dv.refl a,Dv.zero a,fun d h1 _=>h1⟩
def Ga {a b g g':Pn n}(hg:nh g a b) (h:g'=g∨g'= -g):nh g' a b:=by
 rcases h with e | e
 . rw [e];exact hg
 . rw [e];exact hg.neg
def uB {f:Pn m} {T:List TV}(e:aP T=gj i m f):T.length=0↔f=0:=by
 rw [<- xH (i:=i),<- e,<- au,adn]
def SC (i m N K:Nat) (hi:i+(m+1)=N) (hN:N<=6) (hK:K<=3700000000000) (f:Pn (m+1)) (w:World) (v:Value) (hf:Rw w v i (m+1) f) (fit:iw (m+1) K f) (hl:(kids f).len<=1000000000000) (hc:∀k c,k<(kids f).len->RL (kids f).co k c->vF m c ((kids f).co k)):
 aB 61 #[v,.int .i64 (i:Int),.int .i64 (N:Int)] w (fun e w'=>∃c,Poly.Cont c (kids f)∧mI w (i+1) m c e w'):=by
 have HF:=aA hf;have Hc:=aA hc;have Fit:=aA fit;have ew:IntKind.i64.wrap ((i:Int)+1)=(i:Int)+1:=bP _ (by omega);obtain ⟨z,hz⟩:∃z:Int,((kids f).len:Int)-1=z:=⟨_,rfl⟩;have Hz:=aA hz;have Cd:Hid (∀V,Below w.heap.size w V->aB 94 #[v,.int .i64 (i:Int)] V fun e w'=>e=.returned (.int .i64 z)∧w'=V):=fun V hV=>by
  have h:=MR (by omega) Fit.o (HF.o.aC hV);rwa [hz] at h
 clear hf hc fit hz;go_enter func61,ntmps61
 obtain ⟨wo,rfl⟩:∃wo:World,wo=w:=⟨_,rfl⟩;go_wp2_with fail
 go_loopw [7,8] (fun g7 kk wr=>∃(k:Nat) (g:Pn m),k<=(kids f).len∧kk=.int .i64 (k:Int)∧Hid (RL (kids f).co k g)∧Hid (Rw wr g7 (i+1) m g)∧Hid (Below wo.heap.size wo wr)) (fun _ kk _=>(kids f).len-(intOf kk).toNat)
 case atStart=>exact ⟨0,0,bL _,rfl,RL.zero _,Rw.nil _ _ _,aU⟩
 case round=>
  obtain ⟨k,g,hk,rfl,hG,hR,hB⟩:=hrel;obtain ⟨wp,rfl⟩:∃wp:World,wp=wr:=⟨_,rfl⟩;have Cd':=aA (Cd.o wp hB.o);by_cases hlt:k<(kids f).len
  . have mj:(k:Int)<=z:=by have:=Hz.o;omega
    have Cc:=aA (MS hK (by omega) Fit.o (HF.o.aC hB.o) k);have CC:Hid (∀V x,Rw V u7 (i+1) m g->Rw V x (i+1) m ((kids f).co k)->aB 29 #[u7,x,.int .i64 ((i:Int)+1),.int .i64 (N:Int)] V (fun e w'=>∃g',nh g' g ((kids f).co k)∧iV g'∧mI V (i+1) m g' e w')):=fun V x h1 h2=>by
     have h:=(Hc.o k g hlt hG.o).2 (i+1) N V u7 x (by omega) hN h1 h2;rwa [lI] at h
    have RD:=aA hlt;clear hlt Cd;(go_wp2_with fail);refine Cd'.o.mono ?_;rintro e w1 ⟨rfl,h9⟩;obtain rfl:=h9.symm;(go_wp2_with fail);refine Cc.o.mono ?_;rintro e w2 ⟨x,rfl,r2,b2⟩;have C2:=aA (CC.o w2 x (hR.o.aC b2) r2);have B2:=aA (az hB.o b2);clear r2 b2 CC Cc hR;(go_wp2_with fail);refine C2.o.mono ?_;rintro e w3 ⟨g',CO,Gb,x3,rfl,r3,b3⟩;have R3:=aA r3;have B3:=aA (az B2.o b3);have G3:=aA (hG.o.next CO);clear r3 b3 CO Gb C2 B2 hG;(go_wp2_with fail);go_roundw
    case rel=>exact ⟨k+1,g',by have:=RD.o;omega,by go_num,G3,R3,B3⟩
    case measure=>have:=RD.o;simp [intOf];omega
  . have mj:¬(k:Int)<=z:=by have:=Hz.o;omega
    (obtain rfl:k=(kids f).len:=by omega);have F:Hid (∃c,Poly.Cont c (kids f)∧mI wo (i+1) m c (.returned u7) wp):=⟨g,hG.o.cont,u7,rfl,hR.o,hB.o⟩;clear hG hR hB;(go_wp2_with fail);refine Cd'.o.mono ?_;rintro e w1 ⟨rfl,h9⟩;obtain rfl:=h9.symm;(go_wp2_with fail);go_ret;exact F.o
def Hu (n K:Nat) (hK:K<=3690000000000) (a b:Pn n) (fa:iw n K a) (fb:iw n K b) (h0:a=0∨b=0):ahG n a b:=by
 intro i N w u v hN hN6 hf hg;have hnm:aH.nm a+aH.nm b<2^(64*K):=by
  obtain ⟨_,_,_,_,h1⟩:=fa;obtain ⟨_,_,_,_,h2⟩:=fb;rcases h0 with h | h<;>rw [h,aH.kJ]<;>omega
 have fs:iw n K (a+b):=by
  rcases h0 with h | h
  . rw [h,aF.zero_add];exact fb
  . rw [h,aF.add_zero];exact fa
 have C1:=aA (Za (by omega) (by omega) fa fb hnm hf hg);have C2:Hid (∀V x,Rw V x i n (a+b)->aB 58 #[x] V (ahE V i n (a+b))):=fun V x h=>G2 (by omega) (by omega) fs h;have HG:=aA (akC h0);obtain ⟨Aa,ca,Ta,rfl,a1,a2,a3,a4,a5⟩:=hf;obtain ⟨Ab,cb,Tb,rfl,b1,b2,b3,b4,b5⟩:=hg;have z1:=uB a5;have z2:=uB b5;clear a3 a4 a5 b3 b4 b5 hnm fs fa fb;generalize Ta.length=la at*
 generalize Tb.length=lb at*
 by_cases ha:a=0
 . have e1:((la:Int)==0)=true:=by have:=z1.2 ha;simp [this]
   clear z1 z2 h0 ha;go_enter func29,ntmps29
   go_wp2_with fail
   refine C1.o.mono ?_;rintro e w1 ⟨x1,rfl,r1,b4⟩;have C3:=aA (C2.o w1 x1 r1);have B1:=aA b4;clear r1 b4 C1 C2;go_wp2_with fail
   refine C3.o.mono ?_;rintro e w2 ⟨g',h1,h2,x2,rfl,r2,b5⟩;have F:Hid (∃g,nh g a b∧iV g∧mI w i n g (.returned x2) w2):=⟨g',Ga HG.o h1,h2,x2,rfl,r2,az B1.o b5⟩;clear h1 h2 r2 b5;go_wp2_with fail
   go_ret;exact F.o
 . have e1:((la:Int)==0)=false:=mD.2 (fun h=>ha (z1.1 (by omega)))
   have e2:((lb:Int)==0)=true:=by have:=z2.2 (h0.resolve_left ha);simp [this]
   clear z1 z2 h0 ha;go_enter func29,ntmps29
   go_wp2_with fail
   refine C1.o.mono ?_;rintro e w1 ⟨x1,rfl,r1,b4⟩;have C3:=aA (C2.o w1 x1 r1);have B1:=aA b4;clear r1 b4 C1 C2;go_wp2_with fail
   refine C3.o.mono ?_;rintro e w2 ⟨g',h1,h2,x2,rfl,r2,b5⟩;have F:Hid (∃g,nh g a b∧iV g∧mI w i n g (.returned x2) w2):=⟨g',Ga HG.o h1,h2,x2,rfl,r2,az B1.o b5⟩;clear h1 h2 r2 b5;go_wp2_with fail
   go_ret;exact F.o
def SD (m K:Nat) (hK:K<=3690000000000) (a b:Pn (m+1)) (WE:a≠0) (rF:b≠0) (I:Pn (m+1)->Pn (m+1)->Prop) (H:N8 m K a b I):ahG (m+1) a b:=by
 intro i N w u v hN hN6 hf hg;have ew:IntKind.i64.wrap ((i:Int)+1)=(i:Int)+1:=bP _ (by omega);have ne3:((i:Int)==(N:Int))=false:=mD.2 (by omega);have con:∀(f:Pn (m+1)) V x,yx m f->Rw V x i (m+1) f->aB 61 #[x,.int .i64 (i:Int),.int .i64 (N:Int)] V (fun e w'=>∃c,Poly.Cont c (kids f)∧mI V (i+1) m c e w'):=fun f V x hc h=>by
  obtain ⟨h1,h2,K',h3,h4⟩:=hc;exact SC i m N K' hN hN6 (by omega) f V x h h4 h1 h2
 have quo:∀(f:Pn (m+1)) (c:Pn m) (z:Poly (Pn m)) V x y,f≠0->Poly.Cont c (kids f)->kids f=Poly.C c*z->jO (m+1) K (mkK z) (mkK (Poly.C c))->Rw V x i (m+1) f->Rw V y (i+1) m c->aB 62 #[x,y] V (mI V i (m+1) (mkK z)):=fun f c z V x y f0 hc e ft h1 h2=>
  ahN hK (by omega) ft (fun e0=>Poly.Dd (hc.ne fun e2=>f0 e2) e0) (show kids f=z*Poly.C c by rw [e,aF.mul_comm]) h1 h2.C
 have CON:=aA con;have QUO:=aA quo;have C1:=aA (fun (_:Unit)=>con a w u H.ca hf);have Hf:=aA hf;have Hg:=aA hg;have HH:=aA H;obtain ⟨Aa,ca,Ta,rfl,a1,a2,a3,a4,a5⟩:=hf;obtain ⟨Ab,cb,Tb,rfl,b1,b2,b3,b4,b5⟩:=hg;have RS:((Ta.length:Int)==0)=false:=mD.2 (fun h=>WE ((uB a5).1 (by omega)));have RQ:((Tb.length:Int)==0)=false:=mD.2 (fun h=>rF ((uB b5).1 (by omega)));clear a3 a4 a5 b3 b4 b5 con quo H;generalize Ta.length=la at*
 generalize Tb.length=lb at*
 go_enter func29,ntmps29
 obtain ⟨wo,rfl⟩:∃wo:World,wo=w:=⟨_,rfl⟩;go_wp2_with fail
 refine (C1.o ()).mono ?_;rintro e w1 ⟨c,hc,x1,rfl,r1,b3⟩;have R1:=aA r1;have B1:=aA b3;have C2:=aA (CON.o b w1 (.slice Ab lb cb) HH.o.cb (Hg.o.aC b3));have HC:=aA hc;clear r1 b3 hc C1;go_wp2_with fail
 refine C2.o.mono ?_;rintro e w2 ⟨d,hd,x2,rfl,r2,b4⟩;have HD:=aA hd;obtain ⟨fa,hfa⟩:=HC.o.dv.dv;obtain ⟨fb,hfb⟩:=hd.dv.dv;have I0:Hid (I (mkK fa) (mkK fb)):=HH.o.st c d (mkK fa) (mkK fb) HC.o hd hfa hfb;have R2:=aA r2;have B2:=aA (az B1.o b4);have R1':=aA (R1.o.aC b4);have C3:=aA (QUO.o a c fa w2 (.slice Aa la ca) x1 WE HC.o hfa (HH.o.by1 c (mkK fa) HC.o hfa) (Hf.o.aC B2.o) R1'.o);have C4:Hid (∀V,Below w2.heap.size w2 V->aB 62 #[.slice Ab lb cb,x2] V (mI V i (m+1) (mkK fb))):=fun V h=>QUO.o b d fb V (.slice Ab lb cb) x2 rF HD.o hfb (HH.o.by2 d (mkK fb) HD.o hfb) (Hg.o.aC (az B2.o h)) (R2.o.aC h);clear r2 b4 hd hfa hfb R1 B1 C2;go_wp2_with fail
 refine C3.o.mono ?_;rintro e w3 ⟨x3,rfl,r3,b5⟩;have C5:=aA (C4.o w3 b5);have R3:=aA r3;have B3:=aA b5;clear r3 b5 C3 C4;go_wp2_with fail
 refine C5.o.mono ?_;rintro e wt ⟨x4,rfl,r4,b6⟩;have R4:=aA r4;have R3':=aA (R3.o.aC b6);have B4:=aA (az B3.o b6);have B0:Hid (Below wo.heap.size wo wt):=B2.o.tm B4.o;have R1t:=aA (R1'.o.aC B4.o);have R2t:=aA (R2.o.aC B4.o);have BT:=aA (Below.refl wt.heap.size wt);clear r4 b6 C5 R3 B3 B2 R1' R2 B4;go_wp2_with fail
 go_loopg [11,12] ((kids (mkK fb)).len+1) (fun gk sx sy wr=>∃x y:Pn (m+1),(kids y).len<gk∧Hid (I x y)∧Hid (Rw wr sx i (m+1) x)∧Hid (Rw wr sy i (m+1) y)∧Hid (Below wt.heap.size wt wr))
 case atStart=>exact ⟨mkK fa,mkK fb,xy _,I0,R3',R4,BT⟩
 case round=>
  clear I0 R3' R4 BT;obtain ⟨x,y,OE,hI,hX,hY,hB⟩:=hrel;obtain ⟨wp,rfl⟩:∃wp:World,wp=wr:=⟨_,rfl⟩;obtain ⟨Ay,cy,Ty,rfl,y1,y2,y3,y4,y5⟩:=id hY.o;have zy:=uB y5;clear y3 y4 y5;generalize Ty.length=ly at*
  by_cases rz:y=0
  . have xB:¬(0:Int)<(ly:Int):=by have:=zy.2 rz;omega
    subst rz;have CG:Hid (aB 29 #[x1,x2,.int .i64 ((i:Int)+1),.int .i64 (N:Int)] wp (fun e w'=>∃g,nh g c d∧iV g∧mI wp (i+1) m g e w')):=by
     have h:=(HH.o.gc c d HC.o HD.o).2 (i+1) N wp x1 x2 (by omega) hN6 (R1t.o.aC hB.o) (R2t.o.aC hB.o);rwa [lI] at h
    have FIN:Hid (∀g,nh g c d->nh (x*mkK (Poly.C g)) a b∧jO (m+1) K x (mkK (Poly.C g))∧iw (m+1) K (x*mkK (Poly.C g))):=fun g hg=>by
     obtain ⟨h1,h2,h3⟩:=HH.o.fin c d g x hI.o HC.o HD.o hg;exact ⟨h2,h3.mul,h3.mul.prod⟩
    have HX:=aA hX.o;have Yk:=aA (B0.o.tm hB.o);clear zy hX hY hI hB OE R1t R2t HH;(go_wp2_with fail);refine CG.o.mono ?_;rintro e w5 ⟨g,hg,_,x5,rfl,r5,b7⟩;obtain ⟨g1,g2,g3⟩:=FIN.o g hg;have G1:=aA g1;have CM:=aA (G0 hK (by omega) g2 (HX.o.aC b7) r5.C);have CR:Hid (∀V z,Rw V z i (m+1) (x*mkK (Poly.C g))->aB 58 #[z] V (ahE V i (m+1) (x*mkK (Poly.C g)))):=fun V z h=>G2 (by omega) (by omega) g3 h;have B5:=aA (az Yk.o b7);clear g1 g2 g3 r5 b7 hg CG FIN HX Yk;(go_wp2_with fail);refine CM.o.mono ?_;rintro e w6 ⟨x6,rfl,r6,b8⟩;have CR':=aA (CR.o w6 x6 r6);have B6:=aA (az B5.o b8);clear r6 b8 CM CR B5;(go_wp2_with fail);refine CR'.o.mono ?_;rintro e w7 ⟨g',h1,h2,x7,rfl,r7,b9⟩;have F:Hid (∃g,nh g a b∧iV g∧mI wo i (m+1) g (.returned x7) w7):=⟨g',Ga G1.o h1,h2,x7,rfl,r7,az B6.o b9⟩;clear h1 h2 r7 b9;(go_wp2_with fail);go_ret;exact F.o
  . have xB:(0:Int)<(ly:Int):=by
     rcases jM ly with h | h
     . exact absurd (zy.1 h) rz
     . omega
    obtain ⟨D,E,fit,YB⟩:=HH.o.rs x y hI.o rz;have Hrs:=aA YB;have CR:=aA (aeT i m K hK (by omega) x y D E wp _ _ hX.o hY.o rz fit);have Hgk:=aA OE;clear YB fit zy hX hI OE;(go_wp2_with fail);refine CR.o.mono ?_;rintro e w5 ⟨r,k,hri,CE,x5,rfl,r5,b7⟩;obtain ⟨CH,Js⟩:=Hrs.o r k hri CE;have HR:=aA r5;have B5:=aA (az hB.o b7);have Y5:=aA (hY.o.aC b7);have HR1:=aA Js;have Hrl:=aA CE;obtain ⟨Ar,cr,Tr,rfl,z1,z2,z3,z4,z5⟩:=r5;have zr:=uB z5;clear z3 z4 z5 hri CE b7 CR Hrs Js hY hB;generalize Tr.length=lr at*
    by_cases r0:r=0
    . have GK:¬(0:Int)<(lr:Int):=by have:=zr.2 r0;omega
      have IN:=aA (CH r0);have R0:=aA (Rw.nil w5 i (m+1));clear CH HR1 zr HR;(go_wp2_with fail);go_roundg (gk-1)
      case measure=>have:=Hgk.o;omega
      case rel=>exact ⟨y,0,by have h:=Hgk.o;have h2:(kids (0:Pn (m+1))).len=0:=Poly.gI;have h3:=Poly.cI (show kids y≠0 from fun e=>rz e);omega,IN,Y5,R0,B5⟩
    . have GK:(0:Int)<(lr:Int):=by
       rcases jM lr with h | h
       . exact absurd (zr.1 h) r0
       . omega
      obtain ⟨QM,hz⟩:=HR1.o r0;have HZ:=aA hz;have CC:=aA (CON.o r w5 _ QM HR.o);clear CH HR1 zr QM hz;(go_wp2_with fail);refine CC.o.mono ?_;rintro e w6 ⟨c6,hc6,x6,rfl,r6,b8⟩;obtain ⟨fz,EX⟩:=hc6.dv.dv;obtain ⟨ft,iz⟩:=HZ.o c6 (mkK fz) hc6 EX;have IZ:=aA iz;have hlz:Hid ((kids (mkK fz)).len=(kids r).len):=by
       show _=_;rw [EX,Poly.fo (hc6.ne fun e2=>r0 e2)];rfl
      have CQ:=aA (QUO.o r c6 fz w6 _ x6 r0 hc6 EX ft (HR.o.aC b8) r6);have B6:=aA (az B5.o b8);have Y6:=aA (Y5.o.aC b8);clear r6 b8 EX hc6 ft iz HZ CC HR B5 Y5;(go_wp2_with fail);refine CQ.o.mono ?_;rintro e w7 ⟨x7,rfl,r7,b9⟩;have R7:=aA r7;have B7:=aA (az B6.o b9);have Y7:=aA (Y6.o.aC b9);clear r7 b9 CQ B6 Y6;(go_wp2_with fail);go_roundg (gk-1)
      case measure=>have:=Hgk.o;omega
      case rel=>exact ⟨y,mkK fz,by have h:=Hgk.o;have h2:=Hrl.o;have h3:=hlz.o;omega,IZ,Y7,R7,B7⟩
def aoM {a:Pn 0}(ha:a≠0):gj i 0 a=[(List.replicate i 0,vM a)]:=by
 have h:vM a≠0:=fun e=>ha e;unfold gj zG iy;rw [iB,aY h];show [(List.replicate i (0:Int)++[],vM a)]=_;rw [tI]
def row_one {a:Pn 0} {T:List TV}(ha:a≠0) (hP:eH (i+0) T) (e:aP T=gj i 0 a):∃s xs,T=[((s,xs),List.replicate i 0)]∧dN s xs (vM a):=by
 rw [aoM ha] at e;have hl:T.length=1:=by rw [<- au,e];rfl
 obtain ⟨⟨⟨s,xs⟩,ps⟩,rfl⟩:=adi.1 hl;have e1:((ps,aI s xs):mH)=(List.replicate i 0,vM a):=(mF e).1;obtain ⟨rfl,e2⟩:=Prod.mk.inj e1;have h:=hP.co _ aV;exact ⟨s,xs,rfl,⟨h.pl,e2,h.nz⟩⟩
def SE (K:Nat) (hK:K<=3690000000000) (a b:Pn 0) (na:aH.nm a<2^(64*K)) (nb:aH.nm b<2^(64*K)) (ha:a≠0) (hb:b≠0):ahG 0 a b:=by
 intro i N w u v hN hN6 hf hg;obtain rfl:i=N:=hN;obtain ⟨Aa,ca,Ta,rfl,a1,a2,a3,a4,a5⟩:=hf;obtain ⟨Ab,cb,Tb,rfl,b1,b2,b3,b4,b5⟩:=hg;obtain ⟨s,xs,rfl,jD⟩:=row_one ha a4 a5;obtain ⟨t,ys,rfl,jJ⟩:=row_one hb b4 b5;obtain ⟨ba,oa,rfl,nH,hca⟩:=a3.at_ (by show 0<1;omega);obtain ⟨bb,ob,rfl,I4,hcb⟩:=b3.at_ (by show 0<1;omega);obtain ⟨Ai,ci,Ei,ei,e1,e2,e3,e4,e5,e6,e7,e8,e9⟩:=hca 0 (by show 0<1;omega);obtain ⟨Bi,di,Fi,fi,f1,f2,_,f4,f5,_,_,f8,_⟩:=hcb 0 (by show 0<1;omega);simp only [UT,jZ,ja,bh] at e1 e2 e3 e4 e6 e8 e9 f1 f2 f4 f8;have hr:(List.replicate i (0:Int)).length=i:=fQ;rw [hr] at e3 e6 e9;have hkx:xs.length<=K:=by have h5:=jD.cap (K:=K) na;omega
 have hky:ys.length<=K:=by have h5:=jJ.cap (K:=K) nb;omega
 have hG:Hid (nh (Yp ((Nat.gcd (limbs xs) (limbs ys):Nat):Int)) a b):=Vv (by rw [<- jD.eq];unfold aI;cases s<;>simp) (by rw [<- jJ.eq];unfold aI;cases t<;>simp);have OG:((Nat.gcd (limbs xs) (limbs ys):Nat):Int)≠0:=fun e=>ha ((Bt hG.o).1 e).1;have hgn:aH.nm (Yp ((Nat.gcd (limbs xs) (limbs ys):Nat):Int))<2^(64*K):=by
  refine aR ?_ na;have hx:limbs xs=aH.nm a:=by
   show _=(vM a).natAbs;rw [<- jD.eq];unfold aI;cases s<;>simp
  show (((Nat.gcd (limbs xs) (limbs ys):Nat):Int)).natAbs<=_;rw [Et,<- hx];refine Nat.gcd_le_left _ ?_;rw [hx];exact aH.rB a ha
 have keep:Hid (∀V,Below w.heap.size w V->V.cell? ⟨ba,oa,none⟩=some (.bool s)∧V.cell? ⟨ba,oa+1,none⟩=some (.slice Ai xs.length ci)∧V.cell? ⟨ba,oa+2,none⟩=some (.slice Ei i ei)∧V.cell? ⟨bb,ob,none⟩=some (.bool t)∧V.cell? ⟨bb,ob+1,none⟩=some (.slice Bi ys.length di)):=fun V hV=>
  ⟨(hV.cell (p:=⟨ba,oa,none⟩) nH).trans e1,(hV.cell (p:=⟨ba,oa+1,none⟩) nH).trans e2,(hV.cell (p:=⟨ba,oa+2,none⟩) nH).trans e3,(hV.cell (p:=⟨bb,ob,none⟩) I4).trans f1,(hV.cell (p:=⟨bb,ob+1,none⟩) I4).trans f2⟩
 have CG:Hid (∀V,Below w.heap.size w V->aB 60 #[.agg #[.bool s,.slice Ai xs.length ci],.agg #[.bool t,.slice Bi ys.length di]] V (pX V ((Nat.gcd (limbs xs) (limbs ys):Nat):Int) (max xs.length ys.length))):=fun V hV=>ahO s t Ai Bi xs.length ys.length ci di xs ys V (e8.aC hV) (f8.aC hV) e4 e5 f4 f5 (by omega) (by omega);have CR:Hid (∀V x,Rw V x i 0 (Yp ((Nat.gcd (limbs xs) (limbs ys):Nat):Int))->aB 58 #[x] V (ahE V i 0 (Yp ((Nat.gcd (limbs xs) (limbs ys):Nat):Int)))):=fun V x h=>G2 (K:=K) (by omega) (by omega) ⟨fun _=>0,trivial,by show 1<=_;omega,fun _=>by show 0<_;omega,hgn⟩ h;have E9:=aA e9;have MK:Hid (∀V s1 A1 k1 c1 l1,Below w.heap.size w V->k1<=c1->c1<=9223372036854775807->aD V A1 k1 l1->dN s1 l1 ((Nat.gcd (limbs xs) (limbs ys):Nat):Int)->Rw (V.alloc (.cells #[.bool s1,.slice A1 k1 c1,.slice Ei i ei] 44)) (.slice (some ⟨V.heap.size,0,none⟩) 1 1) i 0 (Yp ((Nat.gcd (limbs xs) (limbs ys):Nat):Int))):=fun V s1 A1 k1 c1 l1 hV h1 h2 h3 h4=>by
  obtain rfl:=h3.len;have hal:Below V.heap.size V (V.alloc (.cells #[.bool s1,.slice A1 l1.length c1,.slice Ei i ei] 44)):=aU.alloc aL _;have hq:=bM V (.cells #[.bool s1,.slice A1 l1.length c1,.slice Ei i ei] 44);have hsz:V.heap.size<(V.alloc (.cells #[.bool s1,.slice A1 l1.length c1,.slice Ei i ei] 44)).heap.size:=by simp
  have hT:iI (V.alloc (.cells #[.bool s1,.slice A1 l1.length c1,.slice Ei i ei] 44)) (some ⟨V.heap.size,0,none⟩) 1 [((s1,l1),List.replicate i 0)]:=
   VC (by rw [dQ _ _ 0 _ _ (0,0) hq];rfl) (by rw [dQ _ _ 1 _ _ (0,0) hq];rfl) (by rw [dQ _ _ 2 _ _ (0,0) hq,hr];rfl) hsz h1 h2 (by rw [hr];exact e6) e7 (h3.aC hal) (by rw [hr];exact E9.o.aC (hV.tm hal))
  have e:aP [((s1,l1),List.replicate i 0)]=gj i 0 (Yp ((Nat.gcd (limbs xs) (limbs ys):Nat):Int)):=by
   rw [aoM (show Yp ((Nat.gcd (limbs xs) (limbs ys):Nat):Int)≠0 from OG)];show [((List.replicate i (0:Int),aI s1 l1):mH)]=_;rw [h4.eq];rfl
  exact ⟨_,1,[((s1,l1),List.replicate i 0)],rfl,aL,by omega,hT,⟨by rw [e];exact lV i _,fun t ht=>by
   rw [dS.1 ht];exact ⟨h4.pl,rfl,h4.nz⟩⟩,e⟩
 clear hr a3 a4 a5 b3 b4 b5 hca hcb e8 e9 f8 jD jJ na nb hgn;obtain ⟨k1,k2,k3,k4,k5⟩:=keep.o w aU;have hie:((i:Int)==(i:Int))=true:=by simp
 go_enter func29,ntmps29
 go_wp2_with fail
 go_region_held3 (fun W=>W.cell? ⟨ba,oa,none⟩=some (.bool s)∧W.cell? ⟨ba,oa+1,none⟩=some (.slice Ai xs.length ci)∧W.cell? ⟨ba,oa+2,none⟩=some (.slice Ei i ei)∧W.cell? ⟨bb,ob,none⟩=some (.bool t)∧W.cell? ⟨bb,ob+1,none⟩=some (.slice Bi ys.length di))
  (first | go_keep | exact keep.o _ aU.drew | exact keep.o _ mN | exact keep.o _ (mN.alloc mN.size _) | exact keep.o _ hbf)
  (first | (go_at_call 60;refine (CG.o _ aU.drew).mono ?_;rintro e we ⟨s1,A1,k1,c1,l1,rfl,z1,z2,z3,z4,z5,se⟩;have mN:Below w.heap.size w we:=aU.drew.trans se;have HR:=aA (MK.o we s1 A1 k1 c1 l1 mN z1 z2 z4 z5);clear z4 z5) | (go_at_call 58;refine (CR.o _ _ HR.o).mono ?_;rintro e wf ⟨g',y1,y2,x7,rfl,y3,azq⟩;have hbf:Below w.heap.size w wf:=az (mN.alloc mN.size _) azq;have F:Hid (∃g,nh g a b∧iV g∧mI w i 0 g (.returned x7) wf):=⟨g',Ga hG.o y1,y2,x7,rfl,y3,hbf⟩;clear y1 y2 y3))
 all_goals
  go_wp2_with fail
  go_ret;exact F.o
def aAH (hK:K<=3690000000000) (hn:n<=97) {a b:Pn (n+1)}(ha:a≠0) (hb:b≠0) {I:Pn (n+1)->Pn (n+1)->Prop}(H:N8 n K a b I):vF (n+1) a b:=⟨aaJ n K (by omega) hn a b ha hb I H,SD n K hK a b ha hb I H⟩
def ase (hK:K<=3690000000000) (hn:n<=97) {a b:Pn (n+1)}(fa:iw (n+1) K a) (fb:iw (n+1) K b) (h0:a=0∨b=0):vF (n+1) a b:=⟨aaI n hn a b h0,Hu (n+1) K hK a b fa fb h0⟩
def aAI (hK:K<=3690000000000) {a b:Pn 0}(na:aH.nm a<2^(64*K)) (nb:aH.nm b<2^(64*K)):vF 0 a b:=by
 refine ⟨aaK K (by omega) a b na nb,?_⟩;have fit:∀x:Pn 0,aH.nm x<2^(64*K)->iw 0 K x:=fun x h=>⟨fun _=>0,trivial,by show 1<=_;omega,fun _=>by show 0<_;omega,h⟩;by_cases h0:a=0∨b=0
 . exact Hu 0 K hK a b (fit a na) (fit b nb) h0
 . exact SE K hK a b na nb (fun e=>h0 (.inl e)) (fun e=>h0 (.inr e))
def RL.bound {f:Nat->Pn n} {c:Pn n} (hg:RL f m c) (dg:∀i,aH.dg D (f i)) (nm:∀i,aH.nm (f i)<=h):aH.dg D c∧aH.nm c<=aH.uk (Pn n) D*h:=by
 by_cases h0:∃i,i<m∧f i≠0
 . obtain ⟨i,hi,hne⟩:=h0
   obtain ⟨h1,h2⟩:=aH.factor D (f i) c hne (dg i) (hg.1 i hi);exact ⟨h1,aG h2 (bn _ (nm i))⟩
 . have hz:c=0:=by
    refine Dv.of0 (hg.2 0 fun i hi=> ?_);have h1:f i=0:=kQ fun e=>h0 ⟨i,hi,e⟩;rw [h1];exact Dv.refl _
   rw [hz,aH.kJ];exact ⟨aH.en D,bL _⟩
def Cont.bound {f:Poly (Pn n)} {c:Pn n} (hc:Poly.Cont c f) (hf:f≠0) (dg:∀i,aH.dg D (f.co i)) (nm:Poly.jS f<=h):aH.dg D c∧aH.nm c<=aH.uk (Pn n) D*h:=by
 have hl:=Poly.Fc hf;obtain ⟨h1,h2⟩:=aH.factor D f.lc c hl (dg _) (hc.dv _);exact ⟨h1,aG h2 (bn _ (aG (Poly.rC f _) nm))⟩
def Low (n:Nat) (D:Nat->Nat) (h:Nat):Prop:=∀g p:Pn n,aH.dg D g->aH.dg D p->aH.nm g<=h->aH.nm p<=h->vF n g p
def Low.less {D':Nat->Nat} {h':Nat}(k:Low n D h) (hD:∀j,D' j<=D j) (hh:h'<=h):Low n D' h':=fun g p h1 h2 h3 h4=>k g p (aH.jr _ _ _ hD h1) (aH.jr _ _ _ hD h2) (aG h3 hh) (aG h4 hh)
def Low.cont {f:Pn (n+1)}(k:Low n D (aH.uk (Pn n) D*h)) (rf:∃K,K<=3690000000000∧iw (n+1) K f) (hl:(kids f).len<=1000000000000) (dg:∀i,aH.dg D ((kids f).co i)) (nm:aH.nm f<=h):yx n f:=by
 have hph:=aH.lH (R:=Pn n) D;refine ⟨hl,fun m c _ hc=> ?_,rf⟩;have h1:=hc.bound dg fun i=>aG (gD f i) nm;exact k c _ h1.1 (dg m) h1.2 (aG (gD f m) (aG nm (iT h hph)))
def aiW {f z:Pn (n+1)} {c:Pn n}(hf:f≠0) (hc:Poly.Cont c (kids f)) (e:kids f=Poly.C c*kids z) (dg:aH.dg D f) (nm:aH.nm f<=h) (hD:∀j,D j+D j<1000000000000)
 (hK:aH.uk (Pn n) (fun j=>D (j+1))*h*(aH.uk (Pn (n+1)) D*h)<2^(64*K)) (hh:0<h) (hv:aH.jo (Pn (n+1)) D*aH.jo (Pn n) (fun j=>D (j+1))<=1000000000000):jO (n+1) K z (mkK (Poly.C c)):=by
 have dg':Poly.mo D (kids f):=dg;have h1:=Cont.bound hc (fun e0=>hf e0) dg'.2 nm;obtain ⟨h2,h3⟩:=aH.factor (R:=Pn (n+1)) D f z hf dg ⟨mkK (Poly.C c),by show kids f=kids z*Poly.C c;rw [e,aF.mul_comm]⟩;have p1:=aH.lH (R:=Pn n) (fun j=>D (j+1));have p2:=aH.lH (R:=Pn (n+1)) D;have h4:aH.nm z<=aH.uk (Pn (n+1)) D*h:=aG h3 (bn _ nm);have h5:aH.nm (mkK (Poly.C c))<=aH.uk (Pn n) (fun j=>D (j+1))*h:=by rw [Xb];exact h1.2
 have q1:1<=aH.uk (Pn n) (fun j=>D (j+1))*h:=iR p1 hh;have q2:1<=aH.uk (Pn (n+1)) D*h:=iR p2 hh;refine ⟨D,Poly.bg 0 (fun j=>D (j+1)),h2,acv h1.1,fun j=> ?_,aR h4 (aR (iT _ q1) hK),aR h5 (aR (jR _ q2) hK),?_,?_⟩
 . cases j with
   | zero=>show D 0+0<_;have:=hD 0;omega
   | succ j=>exact hD (j+1)
 . rw [aq]
   exact aR (ct h5 h4) hK
 . show aH.jo (Pn (n+1)) D*((0+1)*aH.jo (Pn n) fun j=>D (j+1))<=_
   rw [bh,bN];exact hv
def Mm {R:Type} [aH R] {E:Nat->Nat} {f g:Poly R}(hf:∀i,aH.dg D (f.co i)) (hg:∀i,aH.dg E (g.co i)) (i:Nat):aH.dg (fun j=>D j+E j) ((f*g).co i):=by
 rw [Poly.oZ];exact zq fun k _=>aH.jh D E _ _ (hf k) (hg _)
def Pl (la lb l:Nat):Prop:=l<=min la lb∨l=la+lb
def Ox (la lb l:Nat):Nat:=if l=la+lb then max la lb else l
structure Num (n K la lb:Nat) (Dm:Nat->Nat->Nat) (M:Nat->Nat) (De:Nat->Nat) (le He:Nat):Prop where
 low:∀l k,Pl la lb l->k<=Ox la lb l->Low n (fun j=>(k+1)*(De j+Dm l j)) (aH.uk (Pn n) (fun j=>(k+1)*(De j+Dm l j))*((2*(He*M l))^k*(He*M l)))
 size:∀l k,Pl la lb l->k<=Ox la lb l->(2*(He*M l))^k*(He*M l)<2^(64*K)
 fit:∀l k,Pl la lb l->k<=Ox la lb l->∀(r:Pn (n+1)),r≠0->(kids r).len<=le+max la lb->(∀i,aH.dg (fun j=>(k+1)*(De j+Dm l j)) ((kids r).co i))->aH.nm r<=(2*(He*M l))^k*(He*M l)->∀c z,Poly.Cont c (kids r)->kids r=Poly.C c*kids z->jO (n+1) K z (mkK (Poly.C c))
 agT:(le+max la lb)*(le+max la lb+4)<1000000000000
 deg:∀l j,Pl la lb l->(De j+Dm l j)*(le+max la lb+4)<1000000000000
 cnt:∀l,Pl la lb l->aH.jo (Pn (n+1)) (Poly.bg ((le+max la lb)*(le+max la lb+4)) fun j=>(De j+Dm l j)*(le+max la lb+4))*aH.jo (Pn (n+1)) (Poly.bg (le+max la lb) fun j=>De j+Dm l j)<=1000000000000
 k:K<=3690000000000
def agW {F G:Pn (n+1)} {e a b:Poly (Pn n)} (N:Num n K a.len b.len Dm M De le He) (hk:Poly.Kn (Poly.PB Dm M) a b) (Gc:Poly.Kn (Poly.PB Dm M) b a) (he:Poly.Prim e) (mj:e.len<=le) (de:∀i,aH.dg De (e.co i)) (ne:Poly.jS e<=He) (ha:0<a.len) (hb:0<b.len)
 (x y:Pn (n+1)) (hI:Poly.Inv (Poly.PB Dm M) e a b (kids F) (kids G) (kids x) (kids y)) (hy:y≠0):
 ∃D E,tR n K D E x y∧∀r k,Poly.RI (kids x) (kids y) D E k (kids r)->(kids r).len<(kids y).len->(r=0->Poly.Inv (Poly.PB Dm M) e a b (kids F) (kids G) (kids y) (kids (0:Pn (n+1))))∧(r≠0->yx n r∧∀c z,Poly.Cont c (kids r)->kids r=Poly.C c*kids z->jO (n+1) K z (mkK (Poly.C c))∧Poly.Inv (Poly.PB Dm M) e a b (kids F) (kids G) (kids y) (kids z)):=by
 obtain ⟨l,x1,y1,ex,ey,CB,⟨pX1,pX2⟩,⟨pY1,pY2⟩,CU⟩:=hI.known hk;have hl:Pl a.len b.len l:=CU.imp (fun h=>h.2.2) fun h=>h.1;have hy':kids y≠0:=fun e0=>hy e0;have xZ:y1≠0:=fun e0=>hy' (by rw [ey,e0,aF.mul_zero]);have aLg:=Poly.cI he.ne;have ly1:=Poly.cI xZ;have lx:=Poly.lq he.ne CB;have ly:=Poly.lq he.ne xZ;rw [<- ex] at lx;rw [<- ey] at ly;have lx1:=Poly.cI CB;have aKd:x1.len<=max a.len b.len∧y1.len<=max a.len b.len:=by omega
 have hrd:(kids x).len+1-(kids y).len<=Ox a.len b.len l:=by
  unfold Ox;split<;>omega
 have nX:Poly.jS (kids x)<=He*M l:=by rw [ex];exact aG (Poly.uD x1 _ e (Poly.ay e)) (ct ne pX2)
 have nY:Poly.jS (kids y)<=He*M l:=by rw [ey];exact aG (Poly.uD y1 _ e (Poly.ay e)) (ct ne pY2)
 have dX:Poly.mo (Poly.bg (le+max a.len b.len) fun j=>De j+Dm l j) (kids x):=⟨(Poly.ay _).mono (by show (kids x).len<=le+max a.len b.len+1;omega),fun i=>by rw [ex];exact Mm de pX1 i⟩;have dY:Poly.mo (Poly.bg (le+max a.len b.len) fun j=>De j+Dm l j) (kids y):=⟨(Poly.ay _).mono (by show (kids y).len<=le+max a.len b.len+1;omega),fun i=>by rw [ey];exact Mm de pY1 i⟩;have pw:∀k,(2*Poly.jS (kids y))^k*Poly.jS (kids x)<=(2*(He*M l))^k*(He*M l):=fun k=>ct (AJ (bn 2 nY) k) nX;have s0:He*M l<2^(64*K):=by
  have:=N.size l 0 hl (bL _);rwa [wQ,bN] at this
 have vX:=N.cnt l hl;have up:∀m,m+1<=le+max a.len b.len+4->∀j,Poly.bg (le+max a.len b.len) (fun j=>De j+Dm l j) j+m*Poly.bg (le+max a.len b.len) (fun j=>De j+Dm l j) j<=Poly.bg ((le+max a.len b.len)*(le+max a.len b.len+4)) (fun j=>(De j+Dm l j)*(le+max a.len b.len+4)) j:=fun m hm j=>by
  have e:∀X:Nat,X+m*X<=X*(le+max a.len b.len+4):=fun X=>by
   have h:=bn X hm;rw [ak,bl,aq X m] at h;omega
  cases j with
  | zero=>exact e _
  | succ j=>exact e _
 refine ⟨_,_,⟨dX,dY,fun j=> ?_,aR nY s0,aR (pw _) (N.size l _ hl hrd),aG (bG _ (kS (up ((kids x).len+2) (by omega)))) vX⟩,fun r k hR CE=> ?_⟩
 . have hm:(kids x).len+2+1<=le+max a.len b.len+4:=by omega
   cases j with
   | zero=>
     show (le+max a.len b.len)+((kids x).len+2)*(le+max a.len b.len)<_;have h5:=bn (le+max a.len b.len) hm;have h6:=N.agT;rw [ak _ ((kids x).len+2),bl,aq _ ((kids x).len+2)] at h5;omega
   | succ j=>
     show (De j+Dm l j)+((kids x).len+2)*(De j+Dm l j)<_;have h5:=bn (De j+Dm l j) hm;have h6:=N.deg l j hl;rw [ak _ ((kids x).len+2),bl,aq _ ((kids x).len+2)] at h5;omega
 . have hkr:k<=Ox a.len b.len l:=by
    rcases hR.rounds with h0 | h0
    . rw [h0];exact bL _
    . omega
   have nR:aH.nm r<=(2*(He*M l))^k*(He*M l):=aG hR.nm (pw k);have agN:(fun j=>(Poly.bg (le+max a.len b.len) (fun j=>De j+Dm l j)) (j+1)+k*(Poly.bg (le+max a.len b.len) (fun j=>De j+Dm l j)) (j+1))=fun j=>(k+1)*(De j+Dm l j):=funext fun j=>by
    show (De j+Dm l j)+k*(De j+Dm l j)=_;rw [bO,bN,xk]
   have dR:∀i,aH.dg (fun j=>(k+1)*(De j+Dm l j)) ((kids r).co i):=fun i=>by
    rw [<- agN];exact hR.dg.2 i
   have V5:(kids r).len<=le+max a.len b.len:=by omega
   obtain ⟨Q,e1,e2⟩:=hR.eq;have M9:=Dom.SF (Poly.Fc hy') k;have tZ:le+max a.len b.len<=1000000000000:=by
    have h6:=N.agT;have h7:(le+max a.len b.len)*1<=(le+max a.len b.len)*(le+max a.len b.len+4):=bn _ (by omega);omega
   have rf:iw (n+1) K r:=⟨_,hR.dg,aG (kS (up k (by have:Ox a.len b.len l<=max a.len b.len:=(by unfold Ox;rcases hl with h | h<;>split<;>omega);omega))) (aG (jR _ (aH.nQ _)) vX),fun j=>by
    have h1:=up k (by have:Ox a.len b.len l<=max a.len b.len:=(by unfold Ox;rcases hl with h | h<;>split<;>omega);omega) j;have h2:=N.agT;refine aR h1 ?_;cases j with
    | zero=>exact h2
    | succ j=>exact N.deg l j hl,aR nR (N.size l k hl hkr)⟩
   refine ⟨fun h0=> ?_,fun h0=>⟨Low.cont (N.low l k hl hkr) ⟨K,N.k,rf⟩ (by omega) dR nR,fun c z hc hz=>⟨N.fit l k hl hkr r h0 V5 dR nR c z hc hz,?_⟩⟩⟩
   . exact hI.next hk Gc he hy' M9 Dom.mg e1 CE e2 (by rw [h0];exact (aF.mul_zero _).symm) (.inl rfl)
   . have CI:kids r≠0:=fun e0=>h0 e0
     exact hI.next hk Gc he hy' M9 (hc.ne CI) e1 CE e2 hz (.inr (hc.aeX CI hz))
structure ahm (n K la lb:Nat) (Dm:Nat->Nat->Nat) (M:Nat->Nat) (De:Nat->Nat) (le He:Nat) (DF:Nat->Nat) (HF:Nat) (F:Pn (n+1)):Prop where
 len:(kids F).len<=1000000000000
 dg:∀i,aH.dg DF ((kids F).co i)
 nm:aH.nm F<=HF
 rf:iw (n+1) K F
 fit:∀c z,Poly.Cont c (kids F)->kids F=Poly.C c*kids z->jO (n+1) K z (mkK (Poly.C c))
def amK {F G:Pn (n+1)} {e a b q:Poly (Pn n)} {cq:Pn n} (N:Num n K a.len b.len Dm M De le He) (hk:Poly.Kn (Poly.PB Dm M) a b) (Gc:Poly.Kn (Poly.PB Dm M) b a) (he:Poly.Prim e) (mj:e.len<=le) (de:∀i,aH.dg De (e.co i)) (ne:Poly.jS e<=He)
 (hF:F≠0) (hG:G≠0) (hcq:cq≠0) (eq:q=Poly.C cq*e) (ea:kids F=q*a) (eb:kids G=q*b) (nF:ahm n K a.len b.len Dm M De le He DF HF F) (nG:ahm n K a.len b.len Dm M De le He DF HF G) (SY:Low n DF (aH.uk (Pn n) DF*HF))
 (sc:∀l,Pl a.len b.len l->(He*M l)*(aH.uk (Pn n) DF*HF)<2^(64*K)) (dsc:∀l j,Pl a.len b.len l->De j+Dm l j+DF j<1000000000000) (vsc:∀l,Pl a.len b.len l->aH.jo (Pn (n+1)) (Poly.bg (le+max a.len b.len) fun j=>De j+Dm l j)*aH.jo (Pn n) DF<=1000000000000) (hHF:0<HF):
 N8 n K F G (fun x y=>Poly.Inv (Poly.PB Dm M) e a b (kids F) (kids G) (kids x) (kids y)):=by
 have hF':kids F≠0:=fun e0=>hF e0;have hG':kids G≠0:=fun e0=>hG e0;have WE:a≠0:=fun e0=>hF' (by rw [ea,e0,aF.mul_zero]);have rF:b≠0:=fun e0=>hG' (by rw [eb,e0,aF.mul_zero]);refine ⟨SY.cont ⟨K,N.k,nF.rf⟩ nF.len nF.dg nF.nm,SY.cont ⟨K,N.k,nG.rf⟩ nG.len nG.dg nG.nm,nF.fit,nG.fit,fun c d x y hc hd ex ey=>Poly.Inv.start hF' hG' he hcq eq ea eb hc hd ex ey,fun x y hI hy=>agW N hk Gc he mj de ne (Poly.cI WE) (Poly.cI rF) x y hI hy,fun c d hc hd=> ?_,fun c d g x hI hc hd hg=> ?_⟩
 . have h1:=Cont.bound hc hF' nF.dg nF.nm
   have h2:=Cont.bound hd hG' nG.dg nG.nm;exact SY c d h1.1 h2.1 h1.2 h2.2
 . have hc0:=hc.ne hF'
   have OG:g≠0:=fun e0=>hc0 (Dv.of0 (by rw [<- e0];exact hg.l));have hlc:=Poly.Fc hF';obtain ⟨g1,g2⟩:=aH.factor DF (kids F).lc g hlc (nF.dg _) (hg.l.trans (hc.dv _));have g3:aH.nm g<=aH.uk (Pn n) DF*HF:=aG g2 (bn _ (aG (gD F _) nF.nm));have hI':Poly.Inv (Poly.PB Dm M) e a b (kids F) (kids G) (kids x) 0:=hI;obtain ⟨l,x1,y1,ex,_,CB,⟨pX1,pX2⟩,_,CU⟩:=hI'.known hk;have hl:Pl a.len b.len l:=CU.imp (fun h=>h.2.2) fun h=>h.1;have lx:=Poly.lq he.ne CB;rw [<- ex] at lx;have hlx:(kids x).len<=le+max a.len b.len:=by
    (have uG:x1.len<=max a.len b.len:=by omega);omega
   have nX:aH.nm x<=He*M l:=by
    show Poly.jS (kids x)<=_;rw [ex];exact aG (Poly.uD x1 _ e (Poly.ay e)) (ct ne pX2)
   have dX:aH.dg (Poly.bg (le+max a.len b.len) fun j=>De j+Dm l j) x:=(show Poly.mo (Poly.bg (le+max a.len b.len) fun j=>De j+Dm l j) (kids x) from ⟨(Poly.ay _).mono (by show (kids x).len<=le+max a.len b.len+1;omega),fun i=>by rw [ex];exact Mm de pX1 i⟩);have tZ:le+max a.len b.len<1000000000000:=by
    have h6:=N.agT;have h7:(le+max a.len b.len)*1<=(le+max a.len b.len)*(le+max a.len b.len+4):=bn _ (by omega);omega
   have s:=sc l hl;have p1:1<=aH.uk (Pn n) DF*HF:=iR (aH.lH _) hHF;have LM:x≠0:=fun e0=>hI.px.ne (by rw [e0];rfl);have p2:1<=He*M l:=aG (aH.rB x LM) nX;refine ⟨OG,?_,Poly.bg (le+max a.len b.len) (fun j=>De j+Dm l j),DF,dX,g1,tZ,fun j=>dsc l j hl,aR nX (aR (jR _ p1) s),aR g3 (aR (iT _ p2) s),aR (ct nX g3) s,vsc l hl⟩;have Ra:=hI'.done hc hd hg;have e9:x*mkK (Poly.C g)=mkK (Poly.C g*kids x):=(show kids x*Poly.C g=Poly.C g*kids x from aF.mul_comm _ _);rw [e9];exact aaU.2 Ra
def Lc (hK:K<=3690000000000) (hn:n<=97) {F G:Pn (n+1)} {e a b q:Poly (Pn n)} {cq:Pn n} (N:Num n K a.len b.len Dm M De le He) (hk:Poly.Kn (Poly.PB Dm M) a b) (Gc:Poly.Kn (Poly.PB Dm M) b a) (he:Poly.Prim e) (mj:e.len<=le) (de:∀i,aH.dg De (e.co i)) (ne:Poly.jS e<=He)
 (hF:F≠0) (hG:G≠0) (hcq:cq≠0) (eq:q=Poly.C cq*e) (ea:kids F=q*a) (eb:kids G=q*b) (nF:ahm n K a.len b.len Dm M De le He DF HF F) (nG:ahm n K a.len b.len Dm M De le He DF HF G) (SY:Low n DF (aH.uk (Pn n) DF*HF))
 (sc:∀l,Pl a.len b.len l->(He*M l)*(aH.uk (Pn n) DF*HF)<2^(64*K)) (dsc:∀l j,Pl a.len b.len l->De j+Dm l j+DF j<1000000000000) (vsc:∀l,Pl a.len b.len l->aH.jo (Pn (n+1)) (Poly.bg (le+max a.len b.len) fun j=>De j+Dm l j)*aH.jo (Pn n) DF<=1000000000000) (hHF:0<HF):vF (n+1) F G:=
 aAH hK hn hF hG (amK N hk Gc he mj de ne hF hG hcq eq ea eb nF nG SY sc dsc vsc hHF)
def akB (hK:K<=3690000000000) (hh:h<2^(64*K)) (D:Nat->Nat):Low 0 D h:=fun g p _ _ ng np=>aAI hK (aR ng hh) (aR np hh)
def Tm {r z:Pn 1} {c:Pn 0}(hr:r≠0) (e:kids r=Poly.C c*kids z) (hl:(kids r).len<=L) (hL:L<1000000000000) (nm:aH.nm r<=h) (hh:h<2^(64*K)):jO 1 K z (mkK (Poly.C c)):=by
 have CI:kids r≠0:=fun e0=>hr e0;have hc:c≠0:=fun e0=>CI (by rw [e,e0,Poly.FL,aF.zero_mul]);have hz:kids z≠0:=fun e0=>CI (by rw [e,e0,aF.mul_zero]);have hlz:(kids z).len=(kids r).len:=by rw [e,Poly.fo hc]
 have h1:=aag e;have nm':Poly.jS (kids r)<=h:=nm;have p1:1<=aH.nm c:=aH.rB c hc;have p2:1<=Poly.jS (kids z):=aH.rB (R:=Pn 1) z (fun e0=>hz e0);have n1:Poly.jS (kids z)<=h:=aG (aG (iT _ p1) (ig h1)) nm';have n2:aH.nm c<=h:=aG (aG (jR _ p2) (ig h1)) nm';have n3:aH.nm (mkK (Poly.C c))=aH.nm c:=Xb c;refine ⟨Poly.bg L (fun _=>0),Poly.bg 0 (fun _=>0),(show Poly.mo _ (kids z) from ⟨(Poly.ay _).mono (by show (kids z).len<=L+1;omega),fun _=>trivial⟩),acv trivial,fun j=> ?_,aR n1 hh,by rw [n3];exact aR n2 hh,?_,?_⟩
 . cases j with
   | zero=>show L+0<_;omega
   | succ j=>show 0+0<_;omega
 . rw [n3,aq]
   exact aR (aG (ig h1) nm') hh
 . show (L+1)*1*((0+1)*1)<=_
   omega
def O3:Poly.Prim (1:Poly (Pn n)):=fun d hd=>by
 have h:=hd 0;rwa [Poly.uP,aM rfl] at h
def awB (hK:K<=3690000000000) (D:Nat->Nat) (hD:D 0<=L) (hH:0<H) (hL:(1+(L+1))*(1+(L+1)+4)<1000000000000) (hHK:H<2^(64*K)) (hV:((1+(L+1))*(1+(L+1)+4)+1)*(1+(L+1)+1)<=1000000000000)
 (big:∀la lb l k,la<=L+1->lb<=L+1->Pl la lb l->k<=Ox la lb l->(2*(1*M1 la lb H L l))^k*(1*M1 la lb H L l)<2^(64*K))
 (sc:∀la lb l,la<=L+1->lb<=L+1->Pl la lb l->(1*M1 la lb H L l)*(1*H)<2^(64*K)):Low 1 D H:=by
 intro F G dF dG nF nG;have rw1:∀X:Pn 1,aH.dg D X->aH.nm X<=H->iw 1 K X:=fun X hX nX=>⟨Poly.bg L fun _=>0,(show Poly.mo _ (kids X) from ⟨((show Poly.mo D (kids X) from hX).1).mono (by show D 0+1<=L+1;omega),fun _=>trivial⟩),by
  show (L+1)*1<=_;have h7:(1+(L+1))*1<=(1+(L+1))*(1+(L+1)+4):=bn _ (by omega);omega,fun j=>by
  have h7:(1+(L+1))*1<=(1+(L+1))*(1+(L+1)+4):=bn _ (by omega);cases j with
  | zero=>show L<_;omega
  | succ j=>show 0<_;omega,aR nX hHK⟩
 by_cases h0:F=0∨G=0
 . exact ase hK (by omega) (rw1 F dF nF) (rw1 G dG nG) h0
 . have hF:F≠0:=fun e=>h0 (.inl e)
   have hG:G≠0:=fun e=>h0 (.inr e);have dF':Poly.mo D (kids F):=dF;have dG':Poly.mo D (kids G):=dG;have lF:(kids F).len<=L+1:=aG (Poly.bV dF'.1) (by omega);have lG:(kids G).len<=L+1:=aG (Poly.bV dG'.1) (by omega);have hLL:1+(L+1)<1000000000000:=by
    have h7:(1+(L+1))*1<=(1+(L+1))*(1+(L+1)+4):=bn _ (by omega);omega
   have ld:=awH (la:=(kids F).len) (lb:=(kids G).len) (H:=H) (L:=L) (fun _=>0) (by omega);have kn:=ld.kn (a:=kids F) (b:=kids G) (fun e=>hF e) (fun e=>hG e) (fun _=>trivial) (fun _=>trivial) nF nG;have ls:=ld.symm;have kn':=ls.kn (a:=kids G) (b:=kids F) (fun e=>hG e) (fun e=>hF e) (fun _=>trivial) (fun _=>trivial) nG nF;have N:Num 0 K (kids F).len (kids G).len (fun _ j=>(fun _=>0) j) (M1 (kids F).len (kids G).len H L) (fun _=>0) 1 1:=by
    refine ⟨fun l k hl hk=>akB hK ?_ _,fun l k hl hk=>big _ _ l k lF lG hl hk,fun l k hl hk r hr V5 _ nr c z _ e=>Tm hr e (L:=1+max (kids F).len (kids G).len) V5 (by omega) nr (big _ _ l k lF lG hl hk),?_,fun l j hl=>by show (0+0)*_<_;omega,fun l hl=> ?_,hK⟩
    . show 1*_<_
      rw [bN];exact big _ _ l k lF lG hl hk
    . refine aR (ct (show _<=1+(L+1) by omega) (show _<=1+(L+1)+4 by omega)) hL
    . show ((1+max (kids F).len (kids G).len)*(1+max (kids F).len (kids G).len+4)+1)*1*((1+max (kids F).len (kids G).len+1)*1)<=_
      rw [bl,bl];exact aG (ct (pO (ct (by omega) (by omega))) (by omega)) hV
   refine Lc (K:=K) hK (by omega) (e:=1) (a:=kids F) (b:=kids G) (q:=1) (cq:=1) (DF:=fun _=>0) (HF:=H) N kn kn' O3 (Poly.bV (Poly.J3 1)) (fun _=>trivial) (ig (aH.sS (R:=Pn 1))) hF hG Dom.mg (by rw [Poly.RO,aF.one_mul]) (aF.one_mul _).symm (aF.one_mul _).symm ⟨by omega,fun _=>trivial,nF,rw1 F dF nF,fun c z _ e=>Tm hF e lF (by omega) nF hHK⟩ ⟨by omega,fun _=>trivial,nG,rw1 G dG nG,fun c z _ e=>Tm hG e lG (by omega) nG hHK⟩ (akB hK (by show 1*H<_;rw [bN];exact hHK) _) (fun l hl=>sc _ _ l lF lG hl) (fun l j hl=>by show 0+0+0<_;omega) (fun l hl=>by show (1+max (kids F).len (kids G).len+1)*1*1<=_;omega) hH
def afe {R:Type} [aH R] (L:Nat) (Di:Nat->Nat):aH.uk R Di<=Poly.ED R (Poly.bg L Di):=by
 show aH.uk R Di<=aH.uk R Di*(2*L+1)^L*(L+1)*(2*(2*L+1))^L;rw [dA,dA];exact jR _ (iR (iN (by omega)) (iR (by omega) (iN (by omega))))
def asK (n K L:Nat) (Dk:Nat->Nat) (B:Nat):Prop:=∃h,B<=h∧Low n Dk (aH.uk (Pn n) Dk*h)∧aH.uk (Pn n) Dk*h*(aH.uk (Pn (n+1)) (Poly.bg (L+1) Dk)*h)<2^(64*K)∧(∀j,Dk j+Dk j<1000000000000)∧aH.jo (Pn (n+1)) (Poly.bg (L+1) Dk)*aH.jo (Pn n) Dk<=1000000000000
def apo (hK:K<=3690000000000) (hn:n<=97) {Di:Nat->Nat} {Dm:Nat->Nat->Nat->Nat->Nat} {M:Nat->Nat->Nat->Nat}
 (ld:∀la lb,max la lb<=L+1->Poly.Lad (Pn n) la lb H Di (Dm la lb) (M la lb)) (D:Nat->Nat) (hD:D 0<=L) (hd:∀j,D (j+1)<=Di j) (hH:0<H) (hL:(L+2)*(L+6)<1000000000000)
 (hDm:∀la lb l j,la<=L+1->lb<=L+1->Pl la lb l->Dm la lb l j*(L+6)<1000000000000)
 (hV:∀la lb l,la<=L+1->lb<=L+1->Pl la lb l->aH.jo (Pn (n+1)) (Poly.bg ((L+2)*(L+6)) fun j=>Dm la lb l j*(L+6))*aH.jo (Pn (n+1)) (Poly.bg (L+2) (Dm la lb l))<=1000000000000)
 (low:∀la lb l k,la<=L+1->lb<=L+1->Pl la lb l->k<=Ox la lb l->asK n K L (fun j=>(k+1)*Dm la lb l j) ((2*M la lb l)^k*M la lb l)):Low (n+1) D H:=by
 intro F G dF dG nF nG;have g0:∀(Dk:Nat->Nat) h,0<h->h*h<=aH.uk (Pn n) Dk*h*(aH.uk (Pn (n+1)) (Poly.bg (L+1) Dk)*h):=fun Dk h _=>ct (iT _ (aH.lH _)) (iT _ (aH.lH _));have mi:∀la lb l,max la lb<=L+1->Pl la lb l->M la lb (la+lb)<=M la lb l∧∀j,Di j<=Dm la lb l j:=fun la lb l hm hl=>by
  have h1:=(ld la lb hm).less (la+lb) l (by rcases hl with h | h<;>omega);exact ⟨h1.1,fun j=>aG ((ld la lb hm).stD j) (h1.2 j)⟩
 have m0:∀la lb l,max la lb<=L+1->Pl la lb l->aH.uk (Pn n) Di*H<=M la lb l:=fun la lb l hm hl=>aG (bG _ (afe _ Di)) (aG (ld la lb hm).stM (mi la lb l hm hl).1);obtain ⟨hh,hh1,hh2,hh3,hh4,hh5⟩:=low (L+1) (L+1) (L+1+(L+1)) 0 aL aL (.inr rfl) (bL _);rw [wQ,bN] at hh1;have ajP:aH.uk (Pn n) Di*H<=hh:=aG (m0 (L+1) (L+1) _ (by omega) (.inr rfl)) hh1;have awh:aH.uk (Pn (n+1)) (Poly.bg L Di)*H<=hh:=by
  have h1:=(ld (L+1) (L+1) (by omega)).stM;rw [Nat.max_self,DK] at h1;exact aG h1 hh1
 have hh0:0<hh:=iE (iR (aH.lH _) hH) ajP;have arN:aH.uk (Pn n) Di*H*(aH.uk (Pn (n+1)) (Poly.bg L Di)*H)<2^(64*K):=aR (ct ajP awh) (aR (g0 _ hh hh0) hh3);have hDi:∀j,Di j+Di j<1000000000000:=fun j=>by
  have h1:=(mi (L+1) (L+1) (L+1+(L+1)) (by omega) (.inr rfl)).2 j;have h2:(0+1)*Dm (L+1) (L+1) (L+1+(L+1)) j+(0+1)*Dm (L+1) (L+1) (L+1+(L+1)) j<1000000000000:=hh4 j;omega
 have vDi:aH.jo (Pn (n+1)) (Poly.bg L Di)*aH.jo (Pn n) Di<=1000000000000:=by
  have h1:∀j,Di j<=(0+1)*Dm (L+1) (L+1) (L+1+(L+1)) j:=fun j=>by
   have h1:=(mi (L+1) (L+1) (L+1+(L+1)) (by omega) (.inr rfl)).2 j;omega
  refine aG (ct (kS fun j=> ?_) (kS h1)) hh5;cases j with
  | zero=>show L<=L+1;omega
  | succ j=>exact h1 j
 have rwG:∀X:Pn (n+1),aH.dg D X->aH.nm X<=H->iw (n+1) K X:=fun X hX nX=>⟨Poly.bg L Di,(show Poly.mo _ (kids X) from ⟨((show Poly.mo D (kids X) from hX).1).mono (by show D 0+1<=L+1;omega),fun i=>aH.jr _ _ _ hd ((show Poly.mo D (kids X) from hX).2 i)⟩),aG (jR _ (aH.nQ _)) vDi,fun j=>by
  have h7:1*(L+6)<=(L+2)*(L+6):=bG _ (by omega);cases j with
  | zero=>show L<_;omega
  | succ j=>have:=hDi j;show Di j<_;omega,aR nX (aR (aG (iT _ (aH.lH _)) (jR _ (iR (aH.lH _) hH))) arN)⟩
 by_cases h0:F=0∨G=0
 . exact ase hK hn (rwG F dF nF) (rwG G dG nG) h0
 . have hF:F≠0:=fun e=>h0 (.inl e)
   have hG:G≠0:=fun e=>h0 (.inr e);have dF':Poly.mo D (kids F):=dF;have dG':Poly.mo D (kids G):=dG;have lF:(kids F).len<=L+1:=aG (Poly.bV dF'.1) (by omega);have lG:(kids G).len<=L+1:=aG (Poly.bV dG'.1) (by omega);have cF:∀i,aH.dg Di ((kids F).co i):=fun i=>aH.jr _ _ _ hd (dF'.2 i);have cG:∀i,aH.dg Di ((kids G).co i):=fun i=>aH.jr _ _ _ hd (dG'.2 i);have hLL:L+6<1000000000000:=by
    have h7:1*(L+6)<=(L+2)*(L+6):=bG _ (by omega);omega
   have kn:=(ld (kids F).len (kids G).len (by omega)).kn (a:=kids F) (b:=kids G) (fun e=>hF e) (fun e=>hG e) cF cG nF nG;have kn':=(ld (kids F).len (kids G).len (by omega)).symm.kn (a:=kids G) (b:=kids F) (fun e=>hG e) (fun e=>hF e) cG cF nG nF;have SY:Low n Di (aH.uk (Pn n) Di*H):=hh2.less (fun j=>by
    have h1:=(mi (L+1) (L+1) (L+1+(L+1)) (by omega) (.inr rfl)).2 j;show Di j<=(0+1)*Dm (L+1) (L+1) (L+1+(L+1)) j;omega) (aG ajP (iT _ (aH.lH _)))
   have fits:∀X:Pn (n+1),X≠0->(kids X).len<=L+1->(∀i,aH.dg Di ((kids X).co i))->aH.nm X<=H->∀c z,Poly.Cont c (kids X)->kids X=Poly.C c*kids z->jO (n+1) K z (mkK (Poly.C c)):=fun X hX lX cX nX c z hc e=>
    aiW (D:=Poly.bg L Di) hX hc e (show Poly.mo _ (kids X) from ⟨(Poly.ay _).mono (by show _<=L+1;omega),cX⟩) nX (fun j=>by
     cases j with
     | zero=>show L+L<_
             have h7:2*(L+6)<=(L+2)*(L+6):=bG _ (by omega);omega
     | succ j=>exact hDi j) arN hH vDi
   obtain ⟨la,sY⟩:∃la,(kids F).len=la:=⟨_,rfl⟩;obtain ⟨lb,uv⟩:∃lb,(kids G).len=lb:=⟨_,rfl⟩;have N:Num n K (kids F).len (kids G).len (Dm (kids F).len (kids G).len) (M (kids F).len (kids G).len) (fun _=>0) 1 1:=by
    rw [sY,uv];rw [sY] at lF;rw [uv] at lG;refine ⟨fun l k hl hk=> ?_,fun l k hl hk=> ?_,fun l k hl hk r hr lr dr nr c z hc e=> ?_,?_,fun l j hl=> ?_,fun l hl=> ?_,hK⟩
    . obtain ⟨h,h1,h2,_,_,_⟩:=low la lb l k lF lG hl hk
      simp only [bh,bN];exact h2.less (fun j=>aL) (bn _ h1)
    . obtain ⟨h,h1,_,h3,_,_⟩:=low la lb l k lF lG hl hk
      simp only [bN];by_cases hz:h=0
      . rw [hz] at h1
        exact aR h1 (iN (by omega))
      . have Vx:0<h:=uS hz
        exact aR h1 (aR (aG (iT h Vx) (g0 _ h Vx)) h3)
    . obtain ⟨h,h1,_,h3,h4,h5⟩:=low la lb l k lF lG hl hk
      simp only [bh,bN] at dr nr;have nr':=aG nr h1;have Vx:0<h:=iE (aH.rB r hr) nr';refine aiW (D:=Poly.bg (L+1) (fun j=>(k+1)*Dm la lb l j)) hr hc e (show Poly.mo _ (kids r) from ⟨(Poly.ay _).mono (by show _<=L+1+1;omega),dr⟩) nr' (fun j=> ?_) h3 Vx h5;cases j with
      | zero=>show L+1+(L+1)<_
              have h7:2*(L+6)<=(L+2)*(L+6):=bG _ (by omega);omega
      | succ j=>exact h4 j
    . exact aR (ct (show _<=L+2 by omega) (show _<=L+6 by omega)) hL
    . show (0+Dm la lb l j)*_<_
      rw [bh];exact aR (bn _ (by omega)) (hDm la lb l j lF lG hl)
    . refine aG (ct (kS fun j=> ?_) (kS fun j=> ?_)) (hV la lb l lF lG hl)
      . cases j with
        | zero=>exact ct (by omega) (by omega)
        | succ j=>show (0+Dm la lb l j)*_<=_;rw [bh];exact bn _ (by omega)
      . cases j with
        | zero=>show 1+max la lb<=L+2;omega
        | succ j=>show 0+Dm la lb l j<=Dm la lb l j;omega
   refine Lc (K:=K) hK hn (e:=1) (a:=kids F) (b:=kids G) (q:=1) (cq:=1) (DF:=Di) (HF:=H) N kn kn' O3 (Poly.bV (Poly.J3 1)) (fun i=> ?_) (ig (aH.sS (R:=Pn (n+1)))) hF hG Dom.mg (by rw [Poly.RO,aF.one_mul]) (aF.one_mul _).symm (aF.one_mul _).symm ⟨by omega,cF,nF,rwG F dF nF,fits F hF lF cF nF⟩ ⟨by omega,cG,nG,rwG G dG nG,fits G hG lG cG nG⟩ SY (fun l hl=> ?_) (fun l j hl=> ?_) (fun l hl=> ?_) hH
   . rw [Poly.uP]
     split
     . exact aH.Eb _
     . exact aH.en _
   . rw [sY,uv] at hl ⊢
     obtain ⟨h,h1,_,h3,_,_⟩:=low la lb l 0 (by omega) (by omega) hl (bL _);rw [wQ,bN] at h1;have h5:=m0 la lb l (by omega) hl;have Vx:0<h:=iE (iR (aH.lH _) hH) (aG h5 h1);rw [bN];exact aR (ct h1 (aG h5 h1)) (aR (g0 _ h Vx) h3)
   . rw [sY,uv] at hl ⊢
     obtain ⟨h,_,_,_,h4,_⟩:=low la lb l 0 (by omega) (by omega) hl (bL _);have h2:(0+1)*Dm la lb l j+(0+1)*Dm la lb l j<1000000000000:=h4 j;have h1:=(mi la lb l (by omega) hl).2 j;show 0+Dm la lb l j+Di j<_;omega
   . rw [sY,uv] at hl ⊢
     have h1:=(mi la lb l (by omega) hl).2;have h2:=hV la lb l (by omega) (by omega) hl;rw [aq] at h2;refine aG (ct (kS fun j=> ?_) ?_) h2
     . cases j with
       | zero=>show 1+max la lb<=L+2;omega
       | succ j=>show 0+Dm la lb l j<=Dm la lb l j;omega
     . refine aG (kS (E:=fun j=>Dm la lb l j*(L+6)) fun j=>aG (h1 j) (jR _ (by omega))) ?_
       show _<=((L+2)*(L+6)+1)*aH.jo (Pn n) _;exact iT _ (by omega)
def asr (x y:Nat):4*(x*y)<=(x+y)*(x+y):=by
 have key:∀x d:Nat,4*(x*(x+d))<=(x+(x+d))*(x+(x+d)):=fun x d=>by
  have e1:4*(x*(x+d))=4*(x*x)+4*(x*d):=by rw [ak x,ak]
  have e2:(x+(x+d))*(x+(x+d))=4*(x*x)+4*(x*d)+d*d:=by
   have e3:x+(x+d)=2*x+d:=by omega
   rw [e3,bO,ak,ak];have e4:2*x*(2*x)=4*(x*x):=by rw [Er]
   have e5:2*x*d=2*(x*d):=dA _ _ _;have e6:d*(2*x)=2*(x*d):=by rw [oh,aq d x]
   rw [e4,e5,e6];omega
  rw [e1,e2];omega
 rcases Nat.le_total x y with h | h
 . have:=key x (y-x)
   rwa [show x+(y-x)=y by omega] at this
 . have:=key y (x-y)
   rw [show y+(x-y)=x by omega] at this;rwa [aq x y,xk x y]
def yN {la lb l:Nat}(sY:la<=L+1) (uv:lb<=L+1) (hl:Pl la lb l) (hk:k<=Ox la lb l):2*((k+1)*(la+lb-2*l+2))<=(L+3)*(L+3)∧k<=L+1:=by
 unfold Ox at hk;by_cases h:l=la+lb
 . rw [aM h] at hk
   have ht:la+lb-2*l+2=2:=by omega
   rw [ht];have h1:=asr (L+2) 1;refine ⟨?_,by omega⟩;rw [bl] at h1;have h2:(L+2+1)*(L+2+1)=(L+3)*(L+3):=rfl;rw [h2] at h1;omega
 . rw [aY h] at hk
   have hm:l<=min la lb:=hl.resolve_right h;have h1:=asr (l+1) (L+2-l);rw [show l+1+(L+2-l)=L+3 by omega] at h1;have h2:(k+1)*(la+lb-2*l+2)<=(l+1)*(2*(L+2-l)):=ct (by omega) (by omega);have h3:(l+1)*(2*(L+2-l))=2*((l+1)*(L+2-l)):=oh _ _ _;refine ⟨?_,by omega⟩;rw [h3] at h2;omega
def K8 (hK:K<=3690000000000) (D:Nat->Nat) (hD:D 0<=L) (hL:(1+(L+1))*(1+(L+1)+4)<1000000000000) (hg:4*L+8<=2^g) (hV:((1+(L+1))*(1+(L+1)+4)+1)*(1+(L+1)+1)<=1000000000000)
 (b1:2*((L+2)*(g*(2*L+1)+2))+(L+3)*(L+3)*(g+h+2)<128*K) (b2:g*(2*L+1)+1+(g+h+2)*(2*L+4)+h<64*K):Low 1 D (2^h):=by
 have hH:0<2^h:=iN (by omega);refine awB hK D hD hH hL (oA (by omega) (by omega)) hV (fun la lb l k sY uv hl hk=> ?_) (fun la lb l sY uv hl=> ?_)
 . have m1:=Wl (l:=l) sY uv hg (Nat.le_refl (2^h))
   obtain ⟨r1,r2⟩:=yN sY uv hl hk;obtain ⟨T,hT⟩:∃T,la+lb-2*l+2=T:=⟨_,rfl⟩;rw [hT] at m1 r1;rw [bN];have m2:=ai (jF (k:=k) (ai (show 2<=2^1 by decide) m1)) m1;refine aR m2 (oA (by omega) ?_);obtain ⟨X,hX⟩:∃X,g*(2*L+1)=X:=⟨_,rfl⟩;obtain ⟨G,hG⟩:∃G,g+h+2=G:=⟨_,rfl⟩;rw [hX,hG];rw [hX,hG] at b1;have e1:(1+(X+1+G*T))*k+(X+1+G*T)<=(k+1)*(X+2)+(k+1)*T*G:=by
    have e2:(1+(X+1+G*T))*k=k*(X+2)+k*T*G:=by
     rw [show 1+(X+1+G*T)=(X+2)+G*T by omega,bO,aq (X+2) k];congr 1
     rw [aq (G*T) k,aq G T,dA]
    rw [e2,bO k 1 (X+2),bN,bO k 1 T,bN,bO (k*T) T G,aq T G];omega
   have e3:(k+1)*(X+2)<=(L+2)*(X+2):=bG _ (by omega);have e4:2*((k+1)*T)*G<=(L+3)*(L+3)*G:=bG _ r1;rw [dA 2] at e4;omega
 . have m1:=Wl (l:=l) sY uv hg (Nat.le_refl (2^h))
   rw [bN,bN];refine aR (ai m1 (Nat.le_refl (2^h))) (oA (by omega) ?_);have e1:(g+h+2)*(la+lb-2*l+2)<=(g+h+2)*(2*L+4):=bn _ (by omega);omega
def Xs (hK:K<=3690000000000) {gg S:Nat}(hg:4*(5*(2*L+3)*d+d)+8<=2^g) (hgL:4*L+8<=2^g) (hgg:4*S+8<=2^gg) (ayO:4*(L+1)+8<=2^gg)
 (hS:(L+3)*(L+3)*d<=2*S) (hB:(L+3)*(L+3)*(40*(g*d)+5*(2*g+h+2))+2*((L+2)*(8*(g*L)+8*g+8+3*(2*g+h+2)))<=8*B)
 (hLS:(1+(S+1))*(1+(S+1)+4)<1000000000000) (hL:(L+2)*(L+6)<1000000000000) (hdL:(2*L+4)*d*(L+6)<1000000000000)
 (v1:((L+2)*(L+6)+1)*((2*L+4)*d*(L+6)+1)*((L+3)*((2*L+4)*d+1))<=1000000000000) (v2:(L+2)*(S+1)*(S+1)<=1000000000000) (v3:((1+(S+1))*(1+(S+1)+4)+1)*(1+(S+1)+1)<=1000000000000)
 (b1:2*((S+2)*(gg*(2*S+1)+2))+(S+3)*(S+3)*(gg+(gg*(2*S+1)+B)+2)<128*K) (b2:gg*(2*S+1)+1+(gg+(gg*(2*S+1)+B)+2)*(2*S+4)+(gg*(2*S+1)+B)<64*K)
 (b3:gg*(2*S+1)+B+(gg*(2*S+1)+gg*(2*(L+1)+1)+B)<64*K):Low 2 (oo L d) (2^h):=by
 have tS:∀{la lb l k},la<=L+1->lb<=L+1->Pl la lb l->k<=Ox la lb l->(k+1)*((la+lb-2*l+2)*d)<=S:=fun {la lb l k} sY uv hl hk=>by
  have r1:=(yN sY uv hl hk).1;have h1:2*((k+1)*(la+lb-2*l+2))*d<=(L+3)*(L+3)*d:=bG _ r1;have h2:2*((k+1)*(la+lb-2*l+2))*d=2*((k+1)*((la+lb-2*l+2)*d)):=by rw [dA,dA]
  omega
 refine apo (n:=1) hK (by omega) (L:=L) (Di:=BS d) (Dm:=fun la lb l=>BS ((la+lb-2*l+2)*d)) (M:=fun la lb l=>M2 la lb (2^h) L d l) (fun la lb hm=>awG hm) _ (Nat.le_refl L) (fun j=>aL) (iN (by omega)) hL (fun la lb l j sY uv hl=> ?_) (fun la lb l sY uv hl=> ?_) (fun la lb l k sY uv hl hk=> ?_)
 . cases j with
   | zero=>exact aR (bG _ (bG _ (show la+lb-2*l+2<=2*L+4 by omega))) hdL
   | succ j=>show 0*_<_;omega
 . have ht:(la+lb-2*l+2)*d<=(2*L+4)*d:=bG _ (by omega)
   show ((L+2)*(L+6)+1)*(((la+lb-2*l+2)*d*(L+6)+1)*1)*((L+2+1)*(((la+lb-2*l+2)*d+1)*1))<=_;rw [bl,bl];exact aG (ct (bn _ (pO (bG _ ht))) (bn _ (pO ht))) v1
 . have hs:=tS sY uv hl hk
   have m1:=ahn (l:=l) (d:=d) sY uv hg hgL (Nat.le_refl (2^h));obtain ⟨r1,r2⟩:=yN sY uv hl hk;have pS:=Kt (e:=S) hgg;have qS:=Ks (L:=L+1) (e:=S) hgg ayO;have e0:(fun j=>(k+1)*BS ((la+lb-2*l+2)*d) j) 0=(k+1)*((la+lb-2*l+2)*d):=rfl;refine ⟨2^B,?_,?_,?_,fun j=> ?_,?_⟩
   . obtain ⟨t,ht⟩:∃t,la+lb-2*l=t:=⟨_,rfl⟩
     rw [ht] at m1 r1;have m2:=ai (jF (k:=k) (ai (show 2<=2^1 by decide) m1)) m1;refine aG m2 (fP (by omega) ?_);obtain ⟨G,hG⟩:∃G,2*g+h+2=G:=⟨_,rfl⟩;rw [hG] at hB ⊢;obtain ⟨m,hm⟩:∃m,g*(2*(5*(t+1)*d+d)+1)+g*(2*L+1)+1+G*(c5 t+1)=m:=⟨_,rfl⟩;rw [hm];(have c1:4*(c5 t+1)<=5*(t+2)+3:=by unfold c5;omega);have c2:4*(G*(c5 t+1))<=5*(G*(t+2))+3*G:=by
      have h1:G*(4*(c5 t+1))<=G*(5*(t+2)+3):=bn _ c1;have h2:G*(4*(c5 t+1))=4*(G*(c5 t+1)):=oh _ _ _;(have h3:G*(5*(t+2)+3)=5*(G*(t+2))+3*G:=by rw [ak G (5*(t+2)),oh G 5,aq G 3]);omega
     have c3:g*(2*(5*(t+1)*d+d)+1)<=10*(g*d*(t+2))+g:=by
      have h1:2*(5*(t+1)*d+d)+1<=10*(d*(t+2))+1:=by
       (have h2:5*(t+1)*d=5*(d*t)+5*d:=by rw [dA,aq (t+1) d,ak,bl,ak]);(have h3:d*(t+2)=d*t+2*d:=by rw [ak,aq d 2]);omega
      have h4:=bn g h1;rw [ak g (10*_),bl,oh g 10,<- dA g d] at h4;exact h4
     (have c4:g*(2*L+1)=2*(g*L)+g:=by rw [ak,bl,oh]);have c5':4*(m+1)<=(t+2)*(40*(g*d)+5*G)+(8*(g*L)+8*g+8+3*G):=by
      have h1:(t+2)*(40*(g*d)+5*G)=40*(g*d*(t+2))+5*(G*(t+2)):=by
       rw [ak,oh,oh (t+2) 5,aq (t+2) (g*d),aq (t+2) G]
      rw [h1];omega
     have c6:4*((k+1)*(m+1))<=(k+1)*(t+2)*(40*(g*d)+5*G)+(k+1)*(8*(g*L)+8*g+8+3*G):=by
      have h1:=bn (k+1) c5';rw [oh,ak (k+1) ((t+2)*_),<- dA (k+1) (t+2)] at h1;exact h1
     have c7:2*((k+1)*(t+2))*(40*(g*d)+5*G)<=(L+3)*(L+3)*(40*(g*d)+5*G):=bG _ r1;rw [dA 2] at c7;have c8:(k+1)*(8*(g*L)+8*g+8+3*G)<=(L+2)*(8*(g*L)+8*g+8+3*G):=bG _ (by omega);have c9:(1+m)*k+m+1=(k+1)*(m+1):=by
      rw [bO k 1 (m+1),bN,aq (1+m) k,xk 1 m];omega
     omega
   . refine (K8 hK (L:=S) (g:=gg) (h:=gg*(2*S+1)+B) (fun j=>(k+1)*BS ((la+lb-2*l+2)*d) j) (show (k+1)*((la+lb-2*l+2)*d)<=S from hs) hLS hgg v3 b1 b2).less (fun j=>aL) ?_
     rw [VS];show yy ((k+1)*((la+lb-2*l+2)*d))*2^B<=_;exact ai (aG (uj hs) pS) aL
   . show aH.uk (Pn 1) _*2^B*(Poly.ED (Pn 1) (Poly.bg (L+1) _)*2^B)<_
     rw [Md,VS];show yy ((k+1)*((la+lb-2*l+2)*d))*2^B*(xN (L+1) ((k+1)*((la+lb-2*l+2)*d))*2^B)<_;exact aR (ai (ai (aG (uj hs) pS) aL) (ai (aG (rZ aL hs) qS) aL)) (oA (by omega) b3)
   . cases j with
     | zero=>
       show (k+1)*((la+lb-2*l+2)*d)+(k+1)*((la+lb-2*l+2)*d)<_;have h7:(1+(S+1))*4<=(1+(S+1))*(1+(S+1)+4):=bn _ (by omega);omega
     | succ j=>show (k+1)*0+(k+1)*0<_;omega
   . show (L+1+1)*(((k+1)*((la+lb-2*l+2)*d)+1)*1)*(((k+1)*((la+lb-2*l+2)*d)+1)*1)<=_
     rw [bl];exact aG (ct (bn _ (pO hs)) (pO hs)) v2
open Poly
def mx (f:Nat->Nat):Nat->Nat
 | 0=>f 0
 | n+1=>mx f n+f (n+1)
def ahX (f:Nat->Nat):∀{n i:Nat},i<=n->f i<=mx f n
 | 0,i,h=>by
   have:i=0:=by omega
   rw [this];exact aL
 | n+1,i,h=>by
   show f i<=mx f n+f (n+1);by_cases e:i=n+1
   . rw [e];exact JT _ _
   . exact aG (ahX f (n:=n) (by omega)) (FB _ _)
def Wk {t:Nat}(hH:0<H):0<Ny H L d e t:=by
 unfold Ny;exact iR (Z4 _ _ _) (iR (by omega) (iE hH (Na _ _ _ (iR (by omega) (by omega)))))
def ok2 (L d h:Nat):Bool:=
 let g:=lg (4*(5*(2*L+3)*d+d)+8+(4*L+8))
 let S:=((L+3)*(L+3)*d+1) / 2
 let gg:=lg (4*S+8+(4*(L+1)+8))
 let B:=((L+3)*(L+3)*(40*(g*d)+5*(2*g+h+2))+2*((L+2)*(8*(g*L)+8*g+8+3*(2*g+h+2)))+7) / 8
 Nat.ble ((1+(S+1))*(1+(S+1)+4)+1) 1000000000000 && Nat.ble ((L+2)*(L+6)+1) 1000000000000 && Nat.ble ((2*L+4)*d*(L+6)+1) 1000000000000 &&
 Nat.ble (2*((S+2)*(gg*(2*S+1)+2))+(S+3)*(S+3)*(gg+(gg*(2*S+1)+B)+2)+1) (128*3690000000000) && Nat.ble (gg*(2*S+1)+1+(gg+(gg*(2*S+1)+B)+2)*(2*S+4)+(gg*(2*S+1)+B)+1) (64*3690000000000) &&
 Nat.ble (gg*(2*S+1)+B+(gg*(2*S+1)+gg*(2*(L+1)+1)+B)+1) (64*3690000000000) &&
 Nat.ble (((L+2)*(L+6)+1)*((2*L+4)*d*(L+6)+1)*((L+3)*((2*L+4)*d+1))) 1000000000000 && Nat.ble ((L+2)*(S+1)*(S+1)) 1000000000000 && Nat.ble (((1+(S+1))*(1+(S+1)+4)+1)*(1+(S+1)+1)) 1000000000000
def B3 (h L d e:Nat):Nat:=mx (fun l=>(2*Ny (2^h) L d e (2*(L+1-l)))^l*Ny (2^h) L d e (2*(L+1-l))) (L+1)+(2*Ny (2^h) L d e 0)^(L+1)*Ny (2^h) L d e 0
def ok3 (L d e h B h2:Nat):Bool:=
 let R:=(L+3)*(L+3) / 2
 Nat.ble ((L+2)*(L+6)+1) 1000000000000 && Nat.ble ((2*L+4)*d*(L+6)+1) 1000000000000 && Nat.ble ((2*L+4)*e*(L+6)+1) 1000000000000 &&
 Nat.ble (R*d+R*d+1) 1000000000000 && Nat.ble (R*e+R*e+1) 1000000000000 &&
 Nat.ble (lg (xN (R*d) (R*e))+B+(lg (uh (L+1) (R*d) (R*e))+B)+1) (64*3690000000000) && Nat.ble (B3 h L d e) (2^B) && Nat.ble (lg (xN (R*d) (R*e))+B) h2 && ok2 (R*d) (R*e) h2 &&
 Nat.ble (((L+2)*(L+6)+1)*((2*L+4)*d*(L+6)+1)*((2*L+4)*e*(L+6)+1)*((L+3)*((2*L+4)*d+1)*((2*L+4)*e+1))) 1000000000000 && Nat.ble ((L+2)*((R*d+1)*(R*e+1))*((R*d+1)*(R*e+1))) 1000000000000
def shapes (p:Nat->Nat->Nat->Bool):Bool:=(List.range 20).all fun x=>(List.range (20 / (x+1))).all fun y=>(List.range (20 / (x+1) / (y+1))).all fun z=>p x y z
def yT {p:Nat->Nat->Nat->Bool}(h:shapes p=true) (hx:(x+1)*(y+1)*(z+1)<=20):p x y z=true:=by
 have h1:=FA.1 h;have a2:(x+1)*(y+1)<=20:=aG (jR _ (by omega)) hx;have a3:x+1<=20:=aG (jR _ (by omega)) a2;have b2:y+1<=20 / (x+1):=(Ul (by omega)).2 (by rw [aq];exact a2);have b3:z+1<=20 / (x+1) / (y+1):=by
  rw [Wd];exact (Ul (iR (by omega) (by omega))).2 (by rw [aq];exact hx)
 have h2:=FA.1 (h1 x (om.2 (by omega)));have h3:=FA.1 (h2 y (om.2 (by omega)));exact h3 z (om.2 (by omega))
def Vo (k:ok2 L d h=true):Low 2 (oo L d) (2^h):=by
 unfold ok2 at k;simp only [wY,rH] at k;obtain ⟨⟨⟨⟨⟨⟨⟨⟨k1,k2⟩,k3⟩,k4⟩,k5⟩,k6⟩,v1⟩,v2⟩,v3⟩:=k;have g1:=pH (4*(5*(2*L+3)*d+d)+8+(4*L+8));have g2:=pH (4*(((L+3)*(L+3)*d+1) / 2)+8+(4*(L+1)+8));exact Xs (K:=3690000000000) aL (aG (FB _ _) g1) (aG (JT _ _) g1) (aG (FB _ _) g2) (aG (JT _ _) g2) (by omega) (by omega) k1 k2 k3 v1 v2 v3 k4 k5 k6
def afJ {h2:Nat}(k:ok3 L d e h B h2=true):Low 3 (Poly.bg L (oo d e)) (2^h):=by
 unfold ok3 at k;simp only [wY,rH] at k;obtain ⟨⟨⟨⟨⟨⟨⟨⟨⟨⟨k1,k2⟩,k3⟩,k4⟩,k5⟩,k6⟩,kB⟩,kh⟩,k7⟩,v1⟩,v2⟩:=k;obtain ⟨K,hK⟩:∃K:Nat,3690000000000=K:=⟨_,rfl⟩;rw [hK] at k6;have l2:=Vo k7;have hH:0<2^h:=iN (by omega);obtain ⟨R,hR⟩:∃R,(L+3)*(L+3) / 2=R:=⟨_,rfl⟩;have hBm:∀l,l<=L+1->(2*Ny (2^h) L d e (2*(L+1-l)))^l*Ny (2^h) L d e (2*(L+1-l))<=2^B:=fun l hl=>aG (aG (ahX (fun l=>(2*Ny (2^h) L d e (2*(L+1-l)))^l*Ny (2^h) L d e (2*(L+1-l))) hl) (FB _ _)) kB;have hBs:(2*Ny (2^h) L d e 0)^(L+1)*Ny (2^h) L d e 0<=2^B:=aG (JT _ _) kB;rw [hR] at k4 k5 k6 kh l2 v2;have tS:∀{la lb l k},la<=L+1->lb<=L+1->Pl la lb l->k<=Ox la lb l->∀x,(k+1)*((la+lb-2*l+2)*x)<=R*x:=fun {la lb l k} sY uv hl hk x=>by
  have r1:=(yN sY uv hl hk).1;rw [<- dA];exact bG _ (by omega)
 refine apo (n:=2) (K:=K) (ig hK.symm) (by omega) (L:=L) (Di:=oo d e) (Dm:=fun la lb l=>oo ((la+lb-2*l+2)*d) ((la+lb-2*l+2)*e)) (M:=fun la lb l=>Ny (2^h) L d e (la+lb-2*l)) (fun la lb hm=>awF hm) _ (Nat.le_refl L) (fun j=>aL) hH k1 (fun la lb l j sY uv hl=> ?_) (fun la lb l sY uv hl=> ?_) (fun la lb l k sY uv hl hk=> ?_)
 . match j with
   | 0=>exact aR (bG _ (bG _ (show la+lb-2*l+2<=2*L+4 by omega))) k2
   | 1=>exact aR (bG _ (bG _ (show la+lb-2*l+2<=2*L+4 by omega))) k3
   | j+2=>show 0*_<_;omega
 . have ht:∀x,(la+lb-2*l+2)*x<=(2*L+4)*x:=fun x=>bG _ (by omega)
   show ((L+2)*(L+6)+1)*(((la+lb-2*l+2)*d*(L+6)+1)*(((la+lb-2*l+2)*e*(L+6)+1)*1))*((L+2+1)*(((la+lb-2*l+2)*d+1)*(((la+lb-2*l+2)*e+1)*1)))<=_;have e9:∀a b c:Nat,a*(b*(c*1))=a*b*c:=fun a b c=>by rw [bl,dA]
   rw [e9,e9];exact aG (ct (ct (bn _ (pO (bG _ (ht d)))) (pO (bG _ (ht e)))) (ct (bn _ (pO (ht d))) (pO (ht e)))) v1
 . have hs:=tS sY uv hl hk
   have dd:∀j,(fun j=>(k+1)*oo ((la+lb-2*l+2)*d) ((la+lb-2*l+2)*e) j) j<=oo (R*d) (R*e) j:=fun j=>by
    match j with
    | 0=>exact hs d
    | 1=>exact hs e
    | j+2=>show (k+1)*0<=_;omega
   have p2:xN ((fun j=>(k+1)*oo ((la+lb-2*l+2)*d) ((la+lb-2*l+2)*e) j) 0) ((fun j=>(k+1)*oo ((la+lb-2*l+2)*d) ((la+lb-2*l+2)*e) j) 1)<=2^lg (xN (R*d) (R*e)):=aG (rZ (hs d) (hs e)) (pH _);have p3:uh (L+1) ((fun j=>(k+1)*oo ((la+lb-2*l+2)*d) ((la+lb-2*l+2)*e) j) 0) ((fun j=>(k+1)*oo ((la+lb-2*l+2)*d) ((la+lb-2*l+2)*e) j) 1)<=2^lg (uh (L+1) (R*d) (R*e)):=aG (ug aL (hs d) (hs e)) (pH _);refine ⟨2^B,?_,?_,?_,fun j=> ?_,?_⟩
   . unfold Ox at hk
     by_cases h0:l=la+lb
     . rw [aM h0] at hk
       (have e0:la+lb-2*l=0:=by omega);show (2*Ny (2^h) L d e (la+lb-2*l))^k*Ny (2^h) L d e (la+lb-2*l)<=_;rw [e0];have m0:=Wk (L:=L) (d:=d) (e:=e) (t:=0) hH;exact aG (bG _ (fP (by omega) (by omega))) hBs
     . rw [aY h0] at hk
       have hm:l<=min la lb:=hl.resolve_right h0;have m1:=Q9 (H:=2^h) (L:=L) (d:=d) (e:=e) (show la+lb-2*l<=2*(L+1-l) by omega);have m0:=Wk (L:=L) (d:=d) (e:=e) (t:=2*(L+1-l)) hH;exact aG (ct (mQ (bn _ m1) hk (by omega)) m1) (hBm l (by omega))
   . refine l2.less dd (aG ?_ (fP (by omega) kh))
     rw [VR,iD];exact bG _ p2
   . show aH.uk (Pn 2) _*2^B*(Poly.ED (Pn 2) (Poly.bg (L+1) _)*2^B)<_
     rw [Mc,VR];exact aR (ai (ai p2 aL) (ai p3 aL)) (oA (by omega) k6)
   . have:=dd j
     have h8:oo (R*d) (R*e) j+oo (R*d) (R*e) j<1000000000000:=by
      match j with
      | 0=>exact k4
      | 1=>exact k5
      | j+2=>show 0+0<_;omega
     omega
   . show (L+1+1)*(((k+1)*((la+lb-2*l+2)*d)+1)*(((k+1)*((la+lb-2*l+2)*e)+1)*1))*(((k+1)*((la+lb-2*l+2)*d)+1)*(((k+1)*((la+lb-2*l+2)*e)+1)*1))<=_
     rw [bl];have q:=ct (pO (hs d)) (pO (hs e));exact aG (ct (bn _ q) q) v2
def hb (x y z:Nat):Nat:=68+lg (uh x y z)
def afM {a b:Nat}(h:a<=b):lg a<=lg b:=by
 unfold lg;refine pO ?_;by_cases ha:a=0
 . rw [ha]
   exact aG (ig (by decide)) (bL _)
 . exact (Nat.le_log2 (by omega)).2 (aG (Nat.log2_self_le ha) h)
def WD {x' y' z':Nat}(h1:x<=x') (h2:y<=y') (h3:z<=z'):hb x y z<=hb x' y' z':=JZ (afM (ug h1 h2 h3)) _
def aoF:List (Nat×Nat×Nat×Nat×Nat×Nat):=[(0,0,19,293,8370,9556),(0,1,9,162,4096,4615),(0,2,5,124,2788,3104),(0,3,4,122,2747,3056),(0,4,3,122,2747,3056),(0,5,2,124,2788,3104),(0,9,1,162,4096,4615),(0,19,0,293,8370,9556),(1,0,9,162,7776,8889),(1,1,4,111,4293,4793),(1,2,2,99,3492,3856),(1,4,1,111,4293,4793),(1,9,0,162,7776,8889),(2,0,5,124,7436,8333),(2,1,2,99,4682,5108),(2,2,1,99,4682,5108),(2,5,0,124,7436,8333),(3,0,4,122,9574,10687),(3,4,0,122,9574,10687),(4,0,3,122,11046,12159),(4,1,1,111,8283,8880),(4,3,0,122,11046,12159),(5,0,2,124,12133,13101),(5,2,0,124,12133,13101),(9,0,1,162,27214,28327),(9,1,0,162,27214,28327),(19,0,0,293,127232,127233)]
def aeG:aoF.all (fun m=>ok3 m.1 m.2.1 m.2.2.1 m.2.2.2.1 m.2.2.2.2.1 m.2.2.2.2.2 && (ok2 m.1 m.2.1 m.2.2.2.1 && Nat.ble (hb m.1 m.2.1 m.2.2.1) m.2.2.2.1))=true:=by decide+kernel
def under:shapes (fun x y z=>aoF.any fun m=>Nat.ble x m.1 && (Nat.ble y m.2.1 && Nat.ble z m.2.2.1))=true:=by decide+kernel
def ZO (h:(x+1)*(y+1)*(z+1)<=20):∃m:Nat×Nat×Nat×Nat×Nat×Nat,(ok3 m.1 m.2.1 m.2.2.1 m.2.2.2.1 m.2.2.2.2.1 m.2.2.2.2.2=true∧ok2 m.1 m.2.1 m.2.2.2.1=true∧hb m.1 m.2.1 m.2.2.1<=m.2.2.2.1)∧x<=m.1∧y<=m.2.1∧z<=m.2.2.1:=by
 have h1:=yT under h;obtain ⟨m,hm,h2⟩:=UW.1 h1;rw [wY,wY,rH,rH,rH] at h2;have h3:=FA.1 aeG m hm;rw [wY,wY,rH] at h3;exact ⟨m,h3,h2⟩
def SZ (h:(x+1)*(y+1)*(z+1)<=20):Low 3 (Poly.bg x (oo y z)) (2^hb x y z):=by
 obtain ⟨m,hk,h1,h2,h3⟩:=ZO h;refine (afJ hk.1).less (fun j=> ?_) (fP (by omega) (aG (WD h1 h2 h3) hk.2.2));match j with
 | 0=>exact h1
 | 1=>exact h2
 | 2=>exact h3
 | j+3=>exact aL
def Sa (h:(x+1)*(y+1)*(0+1)<=20):Low 2 (Poly.bg x (oo y 0)) (2^hb x y 0):=by
 obtain ⟨m,hk,h1,h2,h3⟩:=ZO h;refine (Vo hk.2.1).less (fun j=> ?_) (fP (by omega) (aG (WD h1 h2 h3) hk.2.2));match j with
 | 0=>exact h1
 | 1=>exact h2
 | 2=>exact aL
 | j+3=>exact aL
def ark:shapes (fun x y z=>Nat.ble (hb x y z) 300)=true:=by decide+kernel
def LS (h:(x+1)*(y+1)*(z+1)<=20):hb x y z<=300:=by
 have h1:=yT ark h;rwa [rH] at h1
def EN:∀{n:Nat}(x y z:Nat),n<=3->(x+1)*(y+1)*(z+1)<=20->(n=2->z=0)->Low n (Poly.bg x (oo y z)) (2^hb x y z)
 | 0,x,y,z,_,hx,_=>by
   obtain ⟨K,hK⟩:∃K:Nat,10=K:=⟨_,rfl⟩;exact akB (K:=K) (by omega) (oA (by decide) (by have:=LS hx;omega)) _
 | 1,x,y,z,_,hx,_=>by
   have a2:(x+1)*(y+1)<=20:=aG (jR _ (by omega)) hx;have a3:x+1<=20:=aG (jR _ (by omega)) a2;obtain ⟨h,hh⟩:∃h:Nat,300=h:=⟨_,rfl⟩;exact (K8 (K:=3690000000000) aL (L:=19) (g:=7) (h:=h) _ (show x<=19 by omega) (by decide) (by decide) (by decide) (by rw [<- hh];decide) (by rw [<- hh];decide)).less (fun _=>aL) (fP (by decide) (by have:=LS hx;omega))
 | 2,x,y,z,_,hx,hz=>by
   rw [hz rfl] at hx ⊢;exact Sa hx
 | 3,x,y,z,_,hx,_=>SZ hx
 | n+4,x,y,z,hn,_,_=>absurd hn (by omega)
def D3 (x y z:Nat):Nat->Nat:=Poly.bg x (oo y z)
def Wv (h:(x+1)*(y+1)*(z+1)<=20) (j:Nat):D3 x y z j<=19:=by
 have a2:(x+1)*(y+1)<=20:=aG (jR _ (by omega)) h;have a3:x+1<=20:=aG (jR _ (by omega)) a2;have a4:y+1<=20:=aG (iT _ (by omega)) a2;have a5:z+1<=20:=aG (iT _ (iR (by omega) (by omega))) h;match j with
 | 0=>show x<=19;omega
 | 1=>show y<=19;omega
 | 2=>show z<=19;omega
 | j+3=>exact bL _
def ako:shapes (fun x y z=>Nat.ble (xN x y) (uh x y z) && Nat.ble (yy x) (uh x y z))=true:=by decide+kernel
def Kr:∀{n x y z:Nat},n<=3->(x+1)*(y+1)*(z+1)<=20->aH.uk (Pn n) (D3 x y z)<=2^lg (uh x y z):=fun {n x y z} hn h=>by
 have h1:=yT ako h;rw [wY,rH,rH] at h1;have h2:=pH (uh x y z);match n,hn with
 | 0,_=>exact iN (by omega)
 | 1,_=>exact aG h1.2 h2
 | 2,_=>exact aG h1.1 h2
 | 3,_=>exact h2
 | n+4,hn=>omega
def yK:∀{n x y z:Nat},n<=3->(x+1)*(y+1)*(z+1)<=20->aH.jo (Pn n) (D3 x y z)<=20:=fun {n x y z} hn h=>by
 have a2:(x+1)*(y+1)<=20:=aG (jR _ (by omega)) h;have a3:x+1<=20:=aG (jR _ (by omega)) a2;match n,hn with
 | 0,_=>show 1<=20;omega
 | 1,_=>show (x+1)*1<=20;omega
 | 2,_=>show (x+1)*((y+1)*1)<=20;rw [bl];exact a2
 | 3,_=>show (x+1)*((y+1)*((z+1)*1))<=20;rw [bl,<- dA];exact h
 | n+4,hn=>omega
@[irreducible] def e6:Nat:=600
def wP:e6=600:=by
 unfold e6;rfl
structure Fit (n x y z:Nat) (f:Pn n):Prop where
 dg:aH.dg (D3 x y z) f
 nm:aH.nm f<=2^hb x y z
structure N6 (n x y z:Nat) (f:Pn n):Prop where
 dg:aH.dg (D3 x y z) f
 nm:aH.nm f<=2^68
section
variable {n x y z : Nat} {f g h : Pn n}
def N6.fit (h:N6 n x y z f):Fit n x y z f:=⟨h.dg,aG h.nm (fP (by omega) (by unfold hb;omega))⟩
def N6.dv (h:N6 n x y z f) (hn:n<=3) (hs:(x+1)*(y+1)*(z+1)<=20) (hf:f≠0) (hg:Dv g f):Fit n x y z g:=by
 obtain ⟨h1,h2⟩:=aH.factor _ f g hf h.dg hg;refine ⟨h1,aG h2 (aG (ai (Kr hn hs) h.nm) (fP (by omega) ?_))⟩;unfold hb;omega
def Fit.less (h:Fit n x y z f) (hn:n<=3) (hs:(x+1)*(y+1)*(z+1)<=20) (hf:f≠0) (hg:Dv g f):aH.dg (D3 x y z) g∧aH.nm g<=2^e6:=by
 obtain ⟨h1,h2⟩:=aH.factor _ f g hf h.dg hg;have h3:=LS hs;refine ⟨h1,aG h2 (aG (ai (Kr hn hs) h.nm) (fP (by omega) ?_))⟩;have h4:68+lg (uh x y z)<=300:=h3;have h5:=wP;omega
end
def afQ {f g h:Pn n}(hf:Fit n x y z f) (hg:Fit n x y z g) (hn:n<=3) (hs:(x+1)*(y+1)*(z+1)<=20) (hh:nh h f g):aH.dg (D3 x y z) h∧aH.nm h<=2^e6:=by
 by_cases f0:f=0
 . by_cases g0:g=0
   . rw [(Bt hh).2 ⟨f0,g0⟩,aH.kJ]
     exact ⟨aH.en _,bL _⟩
   . exact hg.less hn hs g0 hh.r
 . exact hf.less hn hs f0 hh.l
def U3 (w:World) (n:Nat) (a b:Pn n) (e:Ending) (w':World):Prop:=∃g,nh g a b∧iV g∧mJ w n (iy n g) e w'
def aaH (n:Nat) (hn:n<=3) (A B:Option Addr) (ma ca mb cb:Nat) (L1 L2:List TV) (w:World) (hx:iI w A ma L1) (hy:iI w B mb L2) (h1:Arg n 1000 L1) (h2:Arg n 1000 L2) (QE:ma<=ca) (hca:ca<=9223372036854775807) (hmb:mb<=cb) (hcb:cb<=9223372036854775807)
 (D:Nat->Nat) (hD:∀j,D j<=1000) (hV:aH.jo (Pn n) D<=4096) (ok:vF n (iU n (aP L1)) (iU n (aP L2))) (fit:∀g,nh g (iU n (aP L1)) (iU n (aP L2))->aH.dg D g∧aH.nm g<=2^e6):
 aB 10 #[.int .i64 (n:Int),.slice A ma ca,.slice B mb cb] w (U3 w n (iU n (aP L1)) (iU n (aP L2))):=by
 have c1:=aA (fun W (hW:Below w.heap.size w W)=>ri (n:Int) A ma ca L1 W (hx.aC hW) (vr h1 (by omega)));have c2:=aA (fun W (hW:Below w.heap.size w W)=>ri (n:Int) B mb cb L2 W (hy.aC hW) (vr h2 (by omega)));have p1:Hid (∀W,Below w.heap.size w W->aB 28 #[.int .i64 (n:Int),.int .i64 0,.slice A ma ca] W (bW (fun _=>False) W n (iU n (aP L1)))):=fun W hW=>xS 1000 (by omega) n n 0 A ma ca L1 W (by omega) (by omega) (hx.aC hW) h1 QE hca;have p2:Hid (∀W,Below w.heap.size w W->aB 28 #[.int .i64 (n:Int),.int .i64 0,.slice B mb cb] W (bW (fun _=>False) W n (iU n (aP L2)))):=fun W hW=>xS 1000 (by omega) n n 0 B mb cb L2 W (by omega) (by omega) (hy.aC hW) h2 hmb hcb;have hc:=aA ok;have hr:Hid (∀(W:World) (u:Value) (g:Pn n),nh g (iU n (aP L1)) (iU n (aP L2))->aO (fun _=>True) n W u g->aB 26 #[.int .i64 (n:Int),u] W (yu W n g)):=fun W u g hg hu=>by
  obtain ⟨d1,d2⟩:=fit g hg;obtain ⟨C,hC⟩:∃C:Nat,10=C:=⟨_,rfl⟩;exact mright n C (by omega) (by omega) W u g D hu (aR d2 (oA (by decide) (by have:=wP;omega))) d1 hD (by have:=mP (pre:=[]) d1;omega)
 clear hx hy h1 h2 ok fit;generalize iU n (aP L1)=a at*
 generalize iU n (aP L2)=b at*
 go_enter func10,ntmps10
 go_wp2_with fail
 refine (c1.o w aU).mono ?_;rintro e w1 ⟨rfl,cZ⟩;have Jo:=aA cZ;clear cZ c1;go_wp2_with fail
 refine (c2.o w1 Jo.o).mono ?_;rintro e w2 ⟨rfl,cN⟩;have wI:=aA (Jo.o.tm cN);clear cN c2 Jo;go_wp2_with fail
 refine (p1.o w2 wI.o).mono ?_;rintro e w3 ⟨s1,A1,k1,c1,B1,m1,d1,rfl,t1,nZ⟩;have RH:=aA (wI.o.tm nZ);have T1:=aA t1;clear nZ t1 p1 wI;unfold bE at T1 ⊢;go_wp2_with fail
 refine (p2.o w3 RH.o).mono ?_;rintro e w4 ⟨s2,A2,k2,c2,B2,m2,d2,rfl,t2,TF⟩;have Hb4:=aA (RH.o.tm TF);have T1':=aA ((T1.o.aC TF).mono (T:=fun _=>True) fun _ _=>trivial);have T2:=aA (t2.mono (T:=fun _=>True) fun _ _=>trivial);clear TF t2 p2 RH T1;unfold bE at T2 ⊢;go_wp2_with fail
 refine (hc.o.1 (fun _=>True) w4 _ _ T1'.o T2.o).mono ?_;rintro e w5 ⟨g,hg,s3,A3,k3,c3,B3,m3,d3,rfl,t3,YG⟩;have Hb5:=aA (Hb4.o.tm YG);have Hr:=aA (hr.o w5 _ g hg (t3.mono fun _ _=>trivial));have Hg:=aA hg;clear YG t3 hc hr Hb4 T1' T2 hg;unfold bE at Hr ⊢;go_wp2_with fail
 refine Hr.o.mono ?_;rintro e w6 ⟨g',CO,hp,A6,c6,L6,rfl,q1,q2,q3,q4,q5,q6⟩;have F:Hid (U3 w n a b (.returned (.tuple #[.slice A6 L6.length c6,.int .i64 0])) w6):=by
  refine ⟨g',?_,hp,A6,c6,L6,rfl,q1,q2,q3,q4,q5,Hb5.o.tm q6⟩;rcases CO with e | e
  . rw [e];exact Hg.o
  . rw [e];exact Hg.o.neg
 clear Hr q3 q4 q5 q6 CO hp Hg Hb5;go_wp2_with fail
 go_ret2;exact F.o
def afD (n x y z:Nat) (hn:n<=3) (hs:(x+1)*(y+1)*(z+1)<=20) (hz:n=2->z=0) (A B:Option Addr) (ma ca mb cb:Nat) (L1 L2:List TV) (w:World) (hx:iI w A ma L1) (hy:iI w B mb L2) (h1:Arg n 1000 L1) (h2:Arg n 1000 L2) (QE:ma<=ca) (hca:ca<=9223372036854775807) (hmb:mb<=cb) (hcb:cb<=9223372036854775807)
 (f1:Fit n x y z (iU n (aP L1))) (f2:Fit n x y z (iU n (aP L2))):
 aB 10 #[.int .i64 (n:Int),.slice A ma ca,.slice B mb cb] w (U3 w n (iU n (aP L1)) (iU n (aP L2))):=
 aaH n hn A B ma ca mb cb L1 L2 w hx hy h1 h2 QE hca hmb hcb (D3 x y z) (fun j=>by have:=Wv hs j;omega) (by have:=yK hn hs;omega) (EN x y z hn hs hz _ _ f1.dg f2.dg f1.nm f2.nm) fun _ hg=>afQ f1 f2 hn hs hg
noncomputable def qq (n:Nat) (c:Int):Pn n:=Jx n (List.replicate n 0) c
def El:∀{n:Nat} {p:fI},p.length=n->dI (List.replicate n 0) p=p
 | 0,p,h=>by rw [lK h];rfl
 | n+1,[],h=>by cases h
 | n+1,x::p,h=>by
   show (0+x)::dI (List.replicate n 0) p=_;rw [El (by simpa using h),FD]
def Ka {L:Mv}(h:eW n L) (k:qy L) (c:Int):iU n (fS c L)=qq n c*iU n L:=by
 have e:fS c L=L.map fun b=>(dI (List.replicate n 0) b.1,c*b.2):=E6 fun t ht=>by rw [El (h t ht)]
 rw [e];exact zU (t:=(List.replicate n 0,c)) (by simp) (fun x hx=>by rw [vE hx];exact nw _) h k
noncomputable def IC (n:Nat) (f:Pn n):Pn n:=iU n (BR (iy n f))
def ahQ {L:Mv}(h:qy L):qy (BR L):=fun t ht=>by
 obtain ⟨x,hx,rfl⟩:=af.1 ht;exact h x hx
def yO (n:Nat) (f:Pn n):BR (iy n f)=iy n (IC n f):=iK (O4 (bB n f)) (ahQ (fU n f)) rfl
def VP (n:Nat) (f:Pn n):f=qq n (sA (iy n f))*IC n f:=by
 have h:=Ka (O4 (bB n f)).len (ahQ (fU n f)) (sA (iy n f));rw [Om,iF] at h;exact h
def Ma (n:Nat) (f:Pn n):Dv (IC n f) f:=⟨qq n (sA (iy n f)),by rw [aF.mul_comm];exact VP n f⟩
def aeZ {L:Mv}:bJ (BR L)<=bJ L:=by
 have key:∀M:Mv,(∀t∈M,t∈L)->bJ (M.map fun t=>(t.1,t.2 / sA L))<=bJ M:=fun M=>by
  induction M with
  | nil=>intro _;exact aL
  | cons t M ih=>
    intro h;rw [uK,nu,nu];refine JW ?_ (ih fun s hs=>h s (bX _ hs));have h1:=uI (h t aV);show (t.2 / sA L).natAbs<=t.2.natAbs;have h2:=tJ t.2 (sA L);rw [h1,AP] at h2;(have h3:(sA L).natAbs*(t.2 / sA L).natAbs=t.2.natAbs:=by rw [<- sw,h2]);by_cases h0:sA L=0
    . rw [h0,Int.ediv_zero];exact bL _
    . rw [<- h3]
      exact iT _ (by omega)
 exact key L fun t ht=>ht
def Zs (n:Nat) (f:Pn n):aH.nm (IC n f)<=aH.nm f:=by
 refine aG (MI _) (aG aeZ ?_);rw [xh];exact aL
def ud {f:Pn n}:IC n f=0↔f=0:=by
 constructor
 . intro h
   have h1:=VP n f;rw [h,aF.mul_zero] at h1;exact h1
 . intro h
   have h1:=Ma n f;rw [h] at h1;unfold IC;rw [h,jT.2 rfl];exact uA n
def vo (i:Nat) (L:Mv):Mv:=mapM (fun p=>p.set i (max (nth p i-1) 0)) (fun p=>nth p i) L
noncomputable def oJ (n i:Nat) (q:Pn n):Pn n:=iU n (vo i (iy n q))
def uH {L:Mv} {t:mH}(ht:t∈vo i L):∃s∈L,t=(s.1.set i (max (nth s.1 i-1) 0),s.2*nth s.1 i):=by
 obtain ⟨s,hs,e⟩:=af.1 ht;exact ⟨s,hs,e.symm⟩
def NS {L:Mv}(h:qy L):qy (vo i L):=fun t ht x hx=>by
 obtain ⟨s,hs,rfl⟩:=uH ht;rcases pR hx with hx | hx
 . exact h s hs x hx
 . rw [hx];omega
def NT {q:Pn n} (h:aH.dg D q):aH.dg D (oJ n i q):=by
 refine xL n 0 _ D fun t ht k=> ?_;rw [bh];obtain ⟨s,hs,rfl⟩:=uH ht;have h1:=Mb h hs k;by_cases hi:i<s.1.length
 . show (nth (s.1.set i _) k).toNat<=_
   rw [gK hi];split
   . rename_i e
     rw [e] at h1;subst e;omega
   . exact h1
 . show (nth (s.1.set i _) k).toNat<=_
   rw [WV (by omega)];exact h1
def WK {q:Pn n} (h:aH.dg D q):aH.nm (oJ n i q)<=D i*aH.nm q:=by
 refine aG (MI _) ?_;rw [<- xh];have key:∀M:Mv,(∀t∈M,t∈iy n q)->bJ (vo i M)<=D i*bJ M:=fun M=>by
  induction M with
  | nil=>intro _;exact bL _
  | cons t M ih=>
    intro hM;have e:vo i (t::M)=(t.1.set i (max (nth t.1 i-1) 0),t.2*nth t.1 i)::vo i M:=rfl;rw [e,nu,nu,ak];refine JW ?_ (ih fun s hs=>hM s (bX _ hs));show (t.2*nth t.1 i).natAbs<=_;rw [sw,aq];refine bG _ ?_;have h1:=Mb h (hM t aV) i;by_cases hi:i<t.1.length
    . have h2:=fU n q t (hM t aV) _ (gL hi)
      omega
    . rw [bw (by omega)]
      exact bL _
 exact key _ fun t ht=>ht
structure zB (n k:Nat) (q g:Pn n):Prop where
 l:Dv g q
 r:∀i,i<k->Dv g (oJ n i q)
 top:∀d,Dv d q->(∀i,i<k->Dv d (oJ n i q))->Dv d g
def zB.start (n:Nat) (q:Pn n):zB n 0 q q:=⟨Dv.refl q,fun i hi=>absurd hi (rK i),fun d h _=>h⟩
def zB.next {q g h:Pn n}(hg:zB n k q g) (hh:nh h g (oJ n k q)):zB n (k+1) q h:=
 ⟨hh.l.trans hg.l,fun i hi=>by
   by_cases e:i=k
   . rw [e];exact hh.r
   . exact hh.l.trans (hg.r i (by omega)),fun d h1 h2=>hh.top d (hg.top d h1 fun i hi=>h2 i (by omega)) (h2 k (by omega))⟩
def aeD {R:Type} [Dc R] {d f:Poly R} {c:R}(hf:f≠0) (h1:f.lc=1) (hd:Dv d f) (hc:c≠0) (hk:Dv d (Poly.C c)):Dv d 1:=by
 obtain ⟨e,he⟩:=hd;have d0:d≠0:=fun h=>hf (by rw [he,h,aF.zero_mul]);have e0:e≠0:=fun h=>hf (by rw [he,h,aF.mul_zero]);have hl:=(lu d0 e0).2;rw [<- he,h1] at hl;have c0:Poly.C c≠0:=fun h=>hc (by
  have h2:(Poly.C c).co 0=(0:Poly R).co 0:=by rw [h]
  rw [wW,aM rfl,C7] at h2;exact h2)
 have hlen:d.len<=1:=aG (Dv.bV hk c0) (bV (J3 c));have hp:=cI d0;have jQ:d.len=1:=by omega
 have hdc:d=Poly.C d.lc:=Poly.ext fun i=>by
  rw [wW];by_cases hi:i=0
  . rw [hi,aM rfl]
    show d.co 0=d.co (d.len-1);rw [jQ]
  . rw [aY hi]
    exact ay d i (by omega)
 refine ⟨Poly.C e.lc,?_⟩;rw [hdc];refine Poly.ext fun i=> ?_;rw [kX,wW,uP];by_cases hi:i=0
 . rw [aM hi,aM hi];exact hl
 . rw [aY hi,aY hi,aF.mul_zero]
noncomputable def V (i j:Nat) (c:Int):Pn 2:=Jx 2 [(i:Int),(j:Int)] c
def ES (i j:Nat) (c:Int):kids (V i j c)=Poly.mono i (Jx 1 [(j:Int)] c):=rfl
def adH (i j k l:Nat) (c d:Int):V i j c*V k l d=V (i+k) (j+l) (c*d):=by
 have h:=GS 2 [(i:Int),(j:Int)] [(k:Int),(l:Int)] c d rfl rfl (fun x hx=>by
  rcases iH.1 hx with e | hx
  . omega
  . rw [dS.1 hx];omega) (fun x hx=>by
  rcases iH.1 hx with e | hx
  . omega
  . rw [dS.1 hx];omega)
 unfold V;rw [<- h];rfl
def FN (i j:Nat) (c:Int):iU 2 [([(i:Int),(j:Int)],c)]=V i j c:=tq (n:=2) (t:=([(i:Int),(j:Int)],c)) rfl (fun x hx=>by
 rcases iH.1 hx with e | hx
 . omega
 . rw [dS.1 hx];omega)
def yt (hc:c≠0):iy 2 (V i j c)=[([(i:Int),(j:Int)],c)]:=by
 have hp:av 2 [([(i:Int),(j:Int)],c)]:=⟨fun t ht=>by rw [dS.1 ht];rfl,xz _ _,fun t ht=>by rw [dS.1 ht];exact hc⟩;have hn:qy [([(i:Int),(j:Int)],c)]:=fun t ht x hx=>by
  rw [dS.1 ht] at hx;rcases iH.1 hx with e | hx
  . omega
  . rw [dS.1 hx];omega
 exact (iK hp hn (FN i j c)).symm
def ast (hc:c≠0):V i j c≠0:=fun e=>by
 have h:=yt (i:=i) (j:=j) hc;rw [jT.2 e] at h;cases h
def ajQ (hc:c≠0):Jx 1 [(j:Int)] c≠0:=fun e=>by
 have h:=zV 1 [(j:Int)] c [(j:Int)] rfl rfl (fun x hx=>by rw [dS.1 hx];omega);rw [e,rV,aM rfl] at h;exact hc h.symm
def VG:Jx 1 [((0:Nat):Int)] 1=(1:Pn 1):=rfl
def aaT (c:Int):kids (V 1 0 1+V 0 1 c)≠0∧(kids (V 1 0 1+V 0 1 c)).lc=1:=by
 have h1:(kids (V 1 0 1+V 0 1 c)).co 1=1:=by
  rw [Il,pJ,ES,ES,dZ,dZ,aM rfl,aY (by omega),aF.add_zero];exact VG
 have hs:(kids (V 1 0 1+V 0 1 c)).Sh 2:=fun i hi=>by
  rw [Il,pJ,ES,ES,dZ,dZ,aY (by omega),aY (by omega),aF.add_zero]
 have hne:(kids (V 1 0 1+V 0 1 c)).co 1≠0:=by rw [h1];exact Dom.mg
 have hl:(kids (V 1 0 1+V 0 1 c)).len=2:=EO hs hne;refine ⟨fun e=>hne (by rw [e,C7]),?_⟩;show (kids (V 1 0 1+V 0 1 c)).co ((kids (V 1 0 1+V 0 1 c)).len-1)=1;rw [hl];exact h1
def afN:kids (V 1 0 1)≠0∧(kids (V 1 0 1)).lc=1:=by
 have h1:(kids (V 1 0 1)).co 1=1:=by
  rw [ES,dZ,aM rfl];exact VG
 have hs:(kids (V 1 0 1)).Sh 2:=fun i hi=>by rw [ES,dZ,aY (by omega)]
 have hne:(kids (V 1 0 1)).co 1≠0:=by rw [h1];exact Dom.mg
 have hl:(kids (V 1 0 1)).len=2:=EO hs hne;refine ⟨fun e=>hne (by rw [e,C7]),?_⟩;show (kids (V 1 0 1)).co ((kids (V 1 0 1)).len-1)=1;rw [hl];exact h1
def OT {d f:Pn 2} (hf:kids f≠0∧(kids f).lc=1) (hd:Dv d f) (hc:c≠0) (hk:Dv d (V 0 1 c)):Dv d 1:=
 aeD (d:=kids d) (f:=kids f) (c:=Jx 1 [((1:Nat):Int)] c) hf.1 hf.2 hd (ajQ hc) hk
def aw1:Mv:=[([2,0],1),([0,2], -1)]
def aw2:Mv:=[([2,0],1),([1,1],2),([0,2],1)]
def KU:Mv:=[([1,0],1),([0,1],1)]
def awD:Mv:=[([1,0],1),([0,1], -1)]
def Nd {L:Mv}(h:∀t∈L,t.1.length=2∧∀x∈t.1,0<=x):eW 2 L∧qy L:=⟨fun t ht=>(h t ht).1,fun t ht=>(h t ht).2⟩
def acT:eW 2 aw1∧qy aw1:=Nd (by decide)
def acS:eW 2 aw2∧qy aw2:=Nd (by decide)
def mq:eW 2 KU∧qy KU:=Nd (by decide)
def Ej:eW 2 awD∧qy awD:=Nd (by decide)
def amY:iU 2 aw1=iU 2 KU*iU 2 awD:=by
 rw [<- yL mq.1 mq.2 Ej.1 Ej.2];refine xD acT.1 acT.2 (mq.1.mul Ej.1) (mq.2.mul Ej.2) fun p _=> ?_;have e:mulM KU awD=[([2,0],1),([1,1], -1),([1,1],1),([0,2], -1)]:=rfl;rw [e];unfold aw1;simp only [aj,qF];by_cases h:[1,1]=p
 . rw [aM h,aM h];omega
 . rw [aY h,aY h];omega
def amX:iU 2 aw2=iU 2 KU*iU 2 KU:=by
 rw [<- yL mq.1 mq.2 mq.1 mq.2];refine xD acS.1 acS.2 (mq.1.mul mq.1) (mq.2.mul mq.2) fun p _=> ?_;have e:mulM KU KU=[([2,0],1),([1,1],1),([1,1],1),([0,2],1)]:=rfl;rw [e];unfold aw2;simp only [aj,qF];by_cases h:[1,1]=p
 . rw [aM h,aM h];omega
 . rw [aY h,aY h];omega
def acR:iU 2 KU=V 1 0 1+V 0 1 1:=by
 unfold KU;rw [xF mq.1 mq.2];exact dh (fun u=>V 1 0 1+u) (FN 0 1 1)
def asn:iU 2 awD=V 1 0 1+V 0 1 (-1):=by
 unfold awD;rw [xF Ej.1 Ej.2];exact dh (fun u=>V 1 0 1+u) (FN 0 1 (-1))
def asu (i j:Nat) (c d:Int):V i j c+V i j d=V i j (c+d):=sk fun p hp=>by
 unfold V;have hn:∀x∈ [(i:Int),(j:Int)],0<=x:=fun x hx=>by
  rcases iH.1 hx with e | hx
  . omega
  . rw [dS.1 hx];omega
 rw [Tk,zV 2 _ _ p rfl hp hn,zV 2 _ _ p rfl hp hn,zV 2 _ _ p rfl hp hn];split<;>omega
def amW:nh (iU 2 KU) (iU 2 aw1) (iU 2 aw2):=by
 have h1:nh (1:Pn 2) (iU 2 awD) (iU 2 KU):=by
  refine ⟨Dv.one _,Dv.one _,fun d h k=> ?_⟩;have h2:Dv d (V 0 1 2):=by
   have e:V 0 1 2=iU 2 KU-iU 2 awD:=by
    rw [acR,asn];(have e1:V 0 1 1=V 0 1 2+V 0 1 (-1):=by rw [asu];rfl);rw [e1,aF.sub_def,<- aF.add_assoc,aF.add_comm (V 1 0 1) (V 0 1 2),aF.add_assoc (V 0 1 2),aF.add_assoc (V 0 1 2),aF.add_neg,aF.add_zero]
   rw [e];exact k.sub h
  rw [acR] at k;exact OT (aaT 1) k (by omega) h2
 have h3:=nh.mul (c:=iU 2 KU) (fun e=>by
  rw [acR] at e;exact (aaT 1).1 e) h1
 rw [aF.mul_one,<- amY,<- amX] at h3;exact h3
def Ll:iy 2 (iU 2 KU)=KU:=(iK ⟨mq.1,by unfold KU;decide,by unfold KU;decide⟩ mq.2 rfl).symm
def ahi:iV (iU 2 KU):=fun t L e=>by
 rw [Ll] at e;injection e with e1 _
 rw [<- e1];decide
def amV {g r r':Pn 2}(hq:IC 2 (V 2 1 4)=r*g) (hK:zB 2 2 (IC 2 (V 2 1 4)) g) (hr:r'=r∨r'= -r) (hp:iV r'):r'=V 1 1 1:=by
 have e0:IC 2 (V 2 1 4)=V 2 1 1:=by
  unfold IC;rw [yt (by omega)];exact FN 2 1 1
 rw [e0] at hq hK;have ex:oJ 2 0 (V 2 1 1)=V 1 1 2:=by
  unfold oJ;rw [yt (by omega)];exact FN 1 1 2
 have ey:oJ 2 1 (V 2 1 1)=V 2 0 1:=by
  unfold oJ;rw [yt (by omega)];exact FN 2 0 1
 have m1:V 2 1 1=V 1 0 1*V 1 1 1:=by rw [adH];rfl
 have m2:V 1 1 2=V 1 0 1*V 0 1 2:=by rw [adH];rfl
 have m3:V 2 0 1=V 1 0 1*V 1 0 1:=by rw [adH];rfl
 have hx:Dv (V 1 0 1) g:=hK.top _ ⟨_,m1⟩ fun i hi=>by
  match i,hi with
  | 0,_=>rw [ex];exact ⟨_,m2⟩
  | 1,_=>rw [ey];exact ⟨_,m3⟩
  | i+2,hi=>omega
 obtain ⟨h,hh⟩:=hx;have x0:V 1 0 1≠0:=ast (by omega);have g1:=hK.r 0 (by omega);have g2:=hK.r 1 (by omega);rw [ex,m2,hh] at g1;rw [ey,m3,hh] at g2;have hu:Dv h 1:=OT afN (Dv.cancel x0 g2) (by omega) (Dv.cancel x0 g1);obtain ⟨v,hv⟩:=hu;have sX:iV (V 1 1 1):=fun t L e=>by
  rw [yt (by omega)] at e;injection e with e1 _
  rw [<- e1];show (0:Int)<1;omega
 have key:r=V 1 1 1∨r= -V 1 1 1:=by
  have e3:V 1 0 1*V 1 1 1=V 1 0 1*(r*h):=by
   rw [<- m1,hq,hh,<- aF.mul_assoc,<- aF.mul_assoc,aF.mul_comm r]
  have e4:=Dom.cancel x0 e3;rcases GR hv.symm with e5 | e5
  . left;rw [e4,e5,aF.mul_one]
  . right;rw [e4,e5,aF.mul_neg,aF.mul_one,aF.neg_neg]
 refine sX.eq hp ?_;rcases hr with e | e<;>rcases key with k | k
 . left;rw [e,k]
 . right;rw [e,k]
 . right;rw [e,k]
 . left;rw [e,k,aF.neg_neg]
def akp:shapes (fun x y z=>Nat.ble x (uh x y z) && (Nat.ble y (uh x y z) && Nat.ble z (uh x y z)))=true:=by decide+kernel
def adW (h:(x+1)*(y+1)*(z+1)<=20) (j:Nat):D3 x y z j<=uh x y z:=by
 have h1:=yT akp h;rw [wY,wY,rH,rH,rH] at h1;match j with
 | 0=>exact h1.1
 | 1=>exact h1.2.1
 | 2=>exact h1.2.2
 | j+3=>exact bL _
def sq {q:Pn n} {T:List TV} (hD:∀j,D j<=1000) (hV:aH.jo (Pn n) D<=4096) (hT:eH n T) (e:aP T=iy n q) (dq:aH.dg D q) (nq:aH.nm q<=2^e6):Arg n 1000 T:=by
 have hl:=dh List.length e;rw [au] at hl;have hc:(iy n q).length<=4096:=by
  unfold iy;rw [UJ];exact aG (mP dq) hV
 refine ⟨fun t ht=> ?_,fun t ht u hu=> ?_,fun t ht=> ?_,by omega⟩
 . have h1:bS t∈aP T:=af.2 ⟨t,ht,rfl⟩
   exact hT.mv.len _ h1
 . have h1:bS t∈iy n q:=by rw [<- e];exact af.2 ⟨t,ht,rfl⟩
   have h2:=fU n q _ h1 u hu;obtain ⟨k,hk,zP⟩:=uR.1 hu;have h3:=Mb dq h1 k;have h4:=hD k;have h5:nth (bS t).1 k=u:=by
    rw [fV (show k<(bS t).1.length from hk)];exact zP
   rw [h5] at h3;omega
 . have h1:bS t∈iy n q:=by rw [<- e];exact af.2 ⟨t,ht,rfl⟩
   have h2:(bS t).2.natAbs<=bJ (iy n q):=by
    have:∀M:Mv,bS t∈M->(bS t).2.natAbs<=bJ M:=fun M=>by
     induction M with
     | nil=>intro h;cases h
     | cons s M ih=>
       intro h;rw [nu];rcases iH.1 h with e2 | h
       . rw [<- e2];omega
       . have:=ih h;omega
    exact this _ h1
   rw [xh] at h2;obtain ⟨K,hK⟩:∃K:Nat,1000=K:=⟨_,rfl⟩;have h3:=(hT.co t ht).cap (K:=K) (aR (show (aI t.1.1 t.1.2).natAbs<=2^e6 from aG h2 nq) (oA (by decide) (by have:=wP;omega)));omega
def Gl (w:World) (n:Nat) (q:Pn n) (e:Ending) (w':World):Prop:=
 (q=0∧e=.returned (.tuple #[bE false none 0 0 none 0 0,bE false none 0 0 none 0 0,.int .i64 8])∧Below w.heap.size w w')∨
 (q≠0∧∃(g r:Pn n) (s:Bool) (A:Option Addr) (k c:Nat) (B:Option Addr) (m d:Nat) (s':Bool) (A':Option Addr) (k' c':Nat) (B':Option Addr) (m' d':Nat),e=.returned (.tuple #[bE s A k c B m d,bE s' A' k' c' B' m' d',.int .i64 0])∧q=r*g∧zB n n q g∧aO (fun _=>True) n w' (bE s A k c B m d) r∧aO (fun _=>True) n w' (bE s' A' k' c' B' m' d') g∧Below w.heap.size w w')
def xI {fn:Func} {p q u:Tmp} {ty:TypeId}(h:fn.results=#[.cell p ty,.cell q ty,.tmp u]) (tmps:Array Value) (P:Program) (w:World) (g1 g2:Nat) (v1 v2:Value)
 (hp:tmps.getD p undef=.pointer (some ⟨g1,0,none⟩)) (hq:tmps.getD q undef=.pointer (some ⟨g2,0,none⟩)) (h1:(loadVar ty ⟨g1,0,none⟩).run P w=.ok v1 w) (h2:(loadVar ty ⟨g2,0,none⟩).run P w=.ok v2 w):
 (results fn tmps).run P w=.ok (.tuple #[v1,v2,tmps.getD u undef]) w:=by
 have Gb:tmps[p]?.getD undef=.pointer (some ⟨g1,0,none⟩):=by simpa using hp
 have hq':tmps[q]?.getD undef=.pointer (some ⟨g2,0,none⟩):=by simpa using hq
 simp [results,h,Gb,hq',asAddr,h1,h2]
def Gq {c a' b' c':Value}(hg:aX w g a b c) (hh:aX w h a' b' c') (hne:g≠h) (x y z x' y' z':Value):
 aX ((((((w.setCell ⟨g,0,none⟩ x).setCell ⟨g,1,none⟩ y).setCell ⟨g,2,none⟩ z).setCell ⟨h,0,none⟩ x').setCell ⟨h,1,none⟩ y').setCell ⟨h,2,none⟩ z') g x y z∧
 aX ((((((w.setCell ⟨g,0,none⟩ x).setCell ⟨g,1,none⟩ y).setCell ⟨g,2,none⟩ z).setCell ⟨h,0,none⟩ x').setCell ⟨h,1,none⟩ y').setCell ⟨h,2,none⟩ z') h x' y' z':=
 ⟨((((hg.set x y z).far (p:=⟨h,0,none⟩) hne x').far (p:=⟨h,1,none⟩) hne y').far (p:=⟨h,2,none⟩) hne z'),((((hh.far (p:=⟨g,0,none⟩) (fun e=>hne e.symm) x).far (p:=⟨g,1,none⟩) (fun e=>hne e.symm) y).far (p:=⟨g,2,none⟩) (fun e=>hne e.symm) z).set x' y' z')⟩
def Nc (hb:Below H w0 w) (hg:H<=g) (hh:H<=h) (x y z x' y' z':Value):Below H w0 ((((((w.setCell ⟨g,0,none⟩ x).setCell ⟨g,1,none⟩ y).setCell ⟨g,2,none⟩ z).setCell ⟨h,0,none⟩ x').setCell ⟨h,1,none⟩ y').setCell ⟨h,2,none⟩ z'):=gP (gP hb hg x y z) hh x' y' z'
def IJ (x y z x' y' z':Value):Only (fun b=>b=g∨b=h) w ((((((w.setCell ⟨g,0,none⟩ x).setCell ⟨g,1,none⟩ y).setCell ⟨g,2,none⟩ z).setCell ⟨h,0,none⟩ x').setCell ⟨h,1,none⟩ y').setCell ⟨h,2,none⟩ z'):=
 ((aZ w g x y z).mono fun b hb=> .inl hb).trans ((aZ _ h x' y' z').mono fun b hb=> .inr hb)
def rj {c:Value}(h:aX w g a b c):(loadVar 51 ⟨g,0,none⟩).run prog w=.ok (.agg #[a,b,c]) w:=JS w g _ _ _ _ _ h underlying51 rfl cW
def Mo (n:Nat) (hn:n<=3) (A:Option Addr) (m c:Nat) (L:List TV) (w:World) (hx:iI w A m L) (hL:Arg n 1000 L) (q:Pn n) (hq:IC n (iU n (aP L))=q) (D:Nat->Nat) (hD:∀j,D j<=1000) (hV:aH.jo (Pn n) D<=4096) (dq:aH.dg D q)
 (fit:∀g,q≠0->Dv g q->aH.nm g<=2^e6) (nD:∀k,k<n->aH.nm (oJ n k q)<=2^e6) (ok:∀k g,k<n->q≠0->zB n k q g->vF n g (oJ n k q)):
 aB 32 #[.int .i64 (n:Int),.slice A m c] w (Gl w n q):=by
 have nnL:qy (aP L):=fun t ht u hu=>(hL.Tp t ht u hu).1;have apq:=hL.KD;have Cp:=aA (fun W (hW:Below w.heap.size w W)=>aph n 1000 A m c L W (hx.aC hW) hL (by omega) (by omega));have pl:Hid (∀P T:List TV,eH n P->jI n (aP P) (aP L)->aP T=BR (aP P)->aP T=iy n q):=fun P T hP he hT=>by
  have qx:=hP.mv.bd he hL.Tp;have h1:aP P=iy n (iU n (aP L)):=iK hP.mv (fun t ht u hu=>(qx t ht u hu).1) (xD hP.mv.len (fun t ht u hu=>(qx t ht u hu).1) apq nnL he);rw [hT,h1,yO,hq]
 have Dq:=aA dq;have FQ:Hid (∀g,q≠0->Dv g q->aH.dg D g∧aH.nm g<=2^e6):=fun g h0 hg=>⟨(aH.factor _ _ _ h0 dq hg).1,fit g h0 hg⟩;have ND:=aA nD;have OK:=aA ok;clear hx hL apq nnL hq dq fit nD ok;have t0:=(aX.new w (.bool false) (.slice none 0 0) (.slice none 0 0)).aC (aU.alloc aL (.cells #[.bool false,.slice none 0 0,.slice none 0 0] 51));have t1:=aX.new (w.alloc (.cells #[.bool false,.slice none 0 0,.slice none 0 0] 51)) (.bool false) (.slice none 0 0) (.slice none 0 0);rw [aJ] at t1;have hb:Below w.heap.size w ((w.alloc (.cells #[.bool false,.slice none 0 0,.slice none 0 0] 51)).alloc (.cells #[.bool false,.slice none 0 0,.slice none 0 0] 51)):=(aU.alloc aL _).alloc (by simp) _;go_enter func32,ntmps32
 go_wp2_with fail
 generalize je:(w.alloc (.cells #[.bool false,.slice none 0 0,.slice none 0 0] 51)).alloc (.cells #[.bool false,.slice none 0 0,.slice none 0 0] 51)=wt at*
 clear je;have T0:=aA t0;have T1:=aA t1;have HB:=aA hb;clear t0 t1 hb;refine (Cp.o wt HB.o).mono ?_;rintro e w1 ⟨s1,A1,k1,c1,Xr,B1,cB1,T,P,rfl,p1,p2,p3,p4,p5,p6,p7,p8,p9,p10,p11,p12⟩;have hTq:=aA (pl.o P T p4 p5 p11);have HT:=aA p9;have PT:=aA p10;have wu:=aA (HB.o.tm p12);have X0:=aA (T0.o.aC p12);have X1:=aA (T1.o.aC p12);clear p3 p4 p5 p6 p9 p10 p11 p12 pl Cp T0 T1 HB;have nH:Hid (Below w1.heap.size w1 (w1.alloc (.cells #[.bool s1,.slice A1 k1 c1] 41))):=aU.alloc aL _;have r0:=(X0.o.aC nH.o).cell0;have r1:=(X0.o.aC nH.o).cell1;have r2:=(X0.o.aC nH.o).aN;have r3:=(X0.o.aC nH.o).frozen 0;have r4:=(X0.o.aC nH.o).frozen 1;have r5:=(X0.o.aC nH.o).frozen 2;have v0:=(X1.o.aC nH.o).cell0;have v1:=(X1.o.aC nH.o).cell1;have v2:=(X1.o.aC nH.o).aN;have v3:=(X1.o.aC nH.o).frozen 0;have v4:=(X1.o.aC nH.o).frozen 1;have v5:=(X1.o.aC nH.o).frozen 2;by_cases h0:T.length=0
 . have Aj:q=0:=jT.1 (by rw [<- hTq.o,lK h0];rfl)
   have jE:((T.length:Int)==0)=true:=by rw [h0];rfl
   have ZG:Hid (Below w.heap.size w (w1.alloc (.cells #[.bool s1,.slice A1 k1 c1] 41))):=wu.o.tm nH.o;have Y0:=aA (((X0.o.aC nH.o).set (.bool false) (.slice none 0 0) (.slice none 0 0)));have l1:=(X1.o.aC nH.o).lt;have l0:=(X0.o.aC nH.o).lt;obtain ⟨y1,y2⟩:=Gq (X0.o.aC nH.o) (X1.o.aC nH.o) (by omega) (.bool false) (.slice none 0 0) (.slice none 0 0) (.bool false) (.slice none 0 0) (.slice none 0 0);have Y1:=aA y1;have Y2:=aA y2;have HBe:=aA (Nc ZG.o (g:=w.heap.size) (h:=w.heap.size+1) aL (by omega) (.bool false) (.slice none 0 0) (.slice none 0 0) (.bool false) (.slice none 0 0) (.slice none 0 0));clear h0 y1 y2 Y0;go_wp2_with fail
   exact bK (v:=.tuple #[.agg #[.bool false,.slice none 0 0,.slice none 0 0],.agg #[.bool false,.slice none 0 0,.slice none 0 0],.int .i64 8]) (xI (fn:=f32) rfl _ _ _ w.heap.size (w.heap.size+1) _ _ rfl rfl (rj Y1.o) (rj Y2.o)) rfl
    (.inl ⟨Aj,rfl,HBe.o⟩)
 . have jE:((T.length:Int)==0)=false:=mD.2 (by omega)
   have Aj:Hid (q≠0):=fun e=>h0 (by
    have h1:=dh List.length hTq.o;rw [au,jT.2 e] at h1;exact h1)
   have AT:=aA (sq hD hV PT.o hTq.o Dq.o (FQ.o q Aj.o (Dv.refl q)).2);have hTt:Hid (iU n (aP T)=q):=by show _=_;rw [hTq.o,iF]
   have ZG:Hid (Below w.heap.size w (w1.alloc (.cells #[.bool s1,.slice A1 k1 c1] 41))):=wu.o.tm nH.o;have Cq:Hid (aB 28 #[.int .i64 (n:Int),.int .i64 0,.slice B1 T.length cB1] (w1.alloc (.cells #[.bool s1,.slice A1 k1 c1] 41)) (bW (fun _=>False) (w1.alloc (.cells #[.bool s1,.slice A1 k1 c1] 41)) n q)):=by
    have h:=xS 1000 (by omega) n n 0 B1 T.length cB1 T (w1.alloc (.cells #[.bool s1,.slice A1 k1 c1] 41)) (by omega) (by omega) (HT.o.aC nH.o) AT.o p7 p8;have e:jB n 0 (aP T)=q:=hTt.o;rw [e] at h;exact h
   have ZC:=aA (HT.o.aC nH.o);have Z0:=aA (X0.o.aC nH.o);have Z1:=aA (X1.o.aC nH.o);clear h0 r0 r1 r2 r3 r4 r5 v0 v1 v2 v3 v4 v5 X0 X1 HT wu;go_wp2_with fail
   generalize hw1:w1.alloc (.cells #[.bool s1,.slice A1 k1 c1] 41)=wa at*
   clear hw1 nH;refine Cq.o.mono ?_;rintro e w2 ⟨s2,A2,k2,c2,B2,m2,d2,rfl,t2,cN⟩;have FK:=aA (ZG.o.tm cN);have HT2:=aA (ZC.o.aC cN);have U0:=aA (Z0.o.aC cN);have U1:=aA (Z1.o.aC cN);have zlt:w.heap.size+1<w2.heap.size:=U1.o.lt;have Tq:Hid (aO (fun b=>w.heap.size+2<=b∧b<w2.heap.size) n w2 (bE s2 A2 k2 c2 B2 m2 d2) q):=t2.here.mono fun b hb=>⟨by
    have h9:=Z1.o.lt;rcases hb.1 with h | h
    . exact h.elim
    . omega,hb.2⟩
   clear t2 cN Cq Z0 Z1 ZC ZG;unfold bE;have t10:=aX.new w2 (.bool s2) (.slice A2 k2 c2) (.slice B2 m2 d2);have ba:Below w2.heap.size w2 (w2.alloc (.cells #[.bool s2,.slice A2 k2 c2,.slice B2 m2 d2] 51)):=aU.alloc aL _;have jJ:Hid ((w2.alloc (.cells #[.bool s2,.slice A2 k2 c2,.slice B2 m2 d2] 51)).heap.size=w2.heap.size+1):=aJ _ _;have o0:=t10.cell0;have o1:=t10.cell1;have o2:=t10.aN;go_wp2_with fail
   generalize hw2:w2.alloc (.cells #[.bool s2,.slice A2 k2 c2,.slice B2 m2 d2] 51)=w4 at*
   clear hw2 o0 o1 o2;have t11:=aX.new w4 (.bool s2) (.slice A2 k2 c2) (.slice B2 m2 d2);rw [jJ.o] at t11;have bb:Below w4.heap.size w4 (w4.alloc (.cells #[.bool s2,.slice A2 k2 c2,.slice B2 m2 d2] 51)):=aU.alloc aL _;have T10:=aA t10;have BA:=aA ba;have BB:=aA bb;have Tq4:Hid (aO (fun b=>b≠w2.heap.size+1∧w.heap.size+2<=b) n w4 (bE s2 A2 k2 c2 B2 m2 d2) q):=(Tq.o.aC ba).mono fun b hb=>⟨by have:=hb.2;omega,hb.1⟩;have Tq5:=aA (Tq4.o.aC bb);generalize hw4:w4.alloc (.cells #[.bool s2,.slice A2 k2 c2,.slice B2 m2 d2] 51)=w5 at*
   clear hw4;have Wi:=aA t11;clear t10 t11 ba bb Tq;go_loopw [39] (fun kk wr=>∃(k:Nat) (s:Bool) (A':Option Addr) (q' c':Nat) (B':Option Addr) (m' d':Nat) (g:Pn n),k<=n∧kk=.int .i64 (k:Int)∧Hid (Below w4.heap.size w4 wr)∧Hid (aX wr (w2.heap.size+1) (.bool s) (.slice A' q' c') (.slice B' m' d'))∧Hid (aO (fun b=>b≠w2.heap.size+1∧w.heap.size+2<=b) n wr (bE s A' q' c' B' m' d') g)∧Hid (zB n k q g)) (fun kk _=>n-(intOf kk).toNat)
   case atStart=>exact ⟨0,s2,A2,k2,c2,B2,m2,d2,q,bL _,rfl,BB,Wi,Tq5.o,zB.start n q⟩
   case round=>
    clear Wi BB Tq5;obtain ⟨k,s,A',q',c',B',m',d',g,hk,rfl,qp,hT,hg,hK⟩:=hrel;obtain ⟨wp,rfl⟩:∃wp:World,wp=wr:=⟨_,rfl⟩;have KJ:=hT.o.lt;have x0:=hT.o.cell0;have x1:=hT.o.cell1;have x2:=hT.o.aN;have x3:=hT.o.frozen 0;have x4:=hT.o.frozen 1;have x5:=hT.o.frozen 2;by_cases hlt:k<n
    . have dH:(k:Int)<(n:Int):=by omega
      have HTp:=aA ((HT2.o.aC BA.o).aC qp.o);have bdT:Dj 1000 (aP T):=AT.o.Tp;have Cd:=aA (akq n 1000 B1 T.length cB1 T k wp HTp.o AT.o (by omega) hlt (by omega) (fun t ht u hu=>by
       obtain ⟨s',uu,rfl⟩:=uH (i:=k) ht;have qx:=bdT s' uu;rcases pR hu with hu | hu
       . exact qx u hu
       . rw [hu]
         by_cases hi:k<s'.1.length
         . have:=qx _ (gL hi);omega
         . rw [bw (by omega)];omega))
      clear HTp bdT;(go_wp2_with fail);refine Cd.o.mono ?_;rintro e w6 ⟨A6,c6,L6,rfl,u1,u2,u3,u4,u5,u6⟩;have gW:Below wp.heap.size wp w6:=u6;have n2:qy (aP L6):=fun t ht v hv=>by
       have bd6:Dj 1000 (vo k (aP T)):=fun t ht u hu=>by
        obtain ⟨s',uu,rfl⟩:=uH ht;have qx:=AT.o.Tp s' uu;rcases pR hu with hu | hu
        . exact qx u hu
        . rw [hu]
          by_cases hi:k<s'.1.length
          . have:=qx _ (gL hi);omega
          . rw [bw (by omega)];omega
       exact (u4.mv.bd u5 bd6 t ht v hv).1
      have eD:iU n (aP L6)=oJ n k q:=by
       have l1:eW n (vo k (aP T)):=fun t ht=>by
        obtain ⟨s',uu,rfl⟩:=uH ht;rw [fW];exact AT.o.KD s' uu
       have n1:qy (vo k (aP T)):=NS fun t ht v hv=>(AT.o.Tp t ht v hv).1;have h:=xD u4.mv.len n2 l1 n1 u5;rw [h,hTq.o];rfl
      have dD:aH.dg D (oJ n k q):=NT Dq.o;have A6':Arg n 1000 L6:=sq hD hV u4 (iK u4.mv n2 eD) dD (ND.o k hlt);have Cl:Hid (∀W,Below w6.heap.size w6 W->aB 28 #[.int .i64 (n:Int),.int .i64 0,.slice A6 L6.length c6] W (bW (fun _=>False) W n (oJ n k q))):=fun W hW=>by
       have h:=xS 1000 (by omega) n n 0 A6 L6.length c6 L6 W (by omega) (by omega) (u3.aC hW) A6' u1 u2;have e:jB n 0 (aP L6)=oJ n k q:=eD;rw [e] at h;exact h
      have Cc:=aA (OK.o k g hlt Aj.o hK.o);have TB:=aA (hT.o.aC gW);have TG:=aA (hg.o.aC gW);have HK:=aA hK.o;have Wq:=aA (qp.o.tm gW);have hl6:=TB.o.lt;have hz4:Hid (w4.heap.size=w2.heap.size+1):=jJ.o;have eF:Hid (∀W,Below w6.heap.size w6 W->(fun W=>W.cell? ⟨w2.heap.size+1,0,none⟩=some (.bool s)∧W.cell? ⟨w2.heap.size+1,1,none⟩=some (.slice A' q' c')∧W.cell? ⟨w2.heap.size+1,2,none⟩=some (.slice B' m' d')) W):=fun W hW=>⟨(TB.o.aC hW).cell0,(TB.o.aC hW).cell1,(TB.o.aC hW).aN⟩;clear hT hg hK qp x0 x1 x2 x3 x4 x5 u3 u4 u5 u6 eD dD A6' Cd gW;(go_wp2_with fail);refine fh (S:=fun W=>W.cell? ⟨w2.heap.size+1,0,none⟩=some (.bool s)∧W.cell? ⟨w2.heap.size+1,1,none⟩=some (.slice A' q' c')∧W.cell? ⟨w2.heap.size+1,2,none⟩=some (.slice B' m' d')) (z:=6) (by kernel_rfl) ?_;have hHeld:=eF.o _ (Below.refl w6.heap.size w6).drew;(try dsimp only at hHeld);refine tk 6 0 (.int .i64 (n:Int)) rfl hHeld ?_;(try simp only [fx,Act.put]);refine tk 6 1 (.agg #[.bool s,.slice A' q' c',.slice B' m' d']) rfl hHeld ?_;(try simp only [fx,Act.put]);refine tk 6 2 (.int .i64 (n:Int)) rfl hHeld ?_;(try simp only [fx,Act.put]);refine tk 6 3 (.slice A6 L6.length c6) rfl hHeld ?_;(try simp only [fx,Act.put]);refine aT (rs:=[4]) (by kernel_rfl) (by simp) ?_;refine aK.cons rfl (by decide) (fun KK bu=> ?_) aK.nil;go_simp;refine (Cl.o _ aU.drew).mono ?_;rintro e w7 ⟨s7,A7,k7,c7,B7,m7,d7,rfl,t7,kO⟩;have fe:Below w6.heap.size w6 w7:=aU.drew.trans kO;have T7:=aA (t7.mono (T:=fun b=>b≠w2.heap.size+1∧w.heap.size+2<=b) fun b hb=>by
       rcases hb with hb | hb
       . exact hb.elim
       . have h8:w6.heap.size<=b:=hb
         exact ⟨by omega,by omega⟩)
      have TG7:=aA (TG.o.aC fe);clear t7;unfold bE;(go_wp2_with fail);refine bu.o _ _ (eF.o _ fe) (fun hHeld=> ?_);clear bu KK;(try dsimp only at hHeld);(try simp only [fx,Act.put]);refine aT (rs:=[5]) (by kernel_rfl) (by simp) ?_;refine aK.cons rfl (by decide) (fun KK bu=> ?_) aK.nil;go_simp;refine (Cc.o.1 (fun b=>b≠w2.heap.size+1∧w.heap.size+2<=b) w7 _ _ TG7.o T7.o).mono ?_;rintro e w8 ⟨g8,hg8,s8,A8,k8,c8,B8,m8,d8,rfl,t8,YF⟩;have Ak:Below w6.heap.size w6 w8:=fe.tm YF;have T8:=aA (t8.mono (T:=fun b=>b≠w2.heap.size+1∧w.heap.size+2<=b) fun b hb=>by
       rcases hb with hb | hb
       . exact hb
       . have h8:=fe.size
         exact ⟨by omega,by omega⟩)
      have HK8:=aA (HK.o.next hg8);have TB8:=aA (TB.o.aC Ak);clear t8 hg8;unfold bE;(go_wp2_with fail);refine bu.o _ _ (eF.o _ Ak) (fun hHeld=> ?_);clear bu KK;(try dsimp only at hHeld);(try simp only [fx,Act.put]);refine aT (rs:=[6]) (by kernel_rfl) (by simp) ?_;refine aK.last rfl (fun KK bu=> ?_);have y0:=TB8.o.cell0;have y1:=TB8.o.cell1;have y2:=TB8.o.aN;have y3:=TB8.o.frozen 0;have y4:=TB8.o.frozen 1;have y5:=TB8.o.frozen 2;have y6:=TB8.o.lt;go_simp;refine bu.o _ _ ?_;clear bu KK;refine fE (by kernel_rfl) ?_ _;have TB9:=aA (TB8.o.set (.bool s8) (.slice A8 k8 c8) (.slice B8 m8 d8));have T9:Hid (aO (fun b=>b≠w2.heap.size+1∧w.heap.size+2<=b) n _ (bE s8 A8 k8 c8 B8 m8 d8) g8):=T8.o.only (aZ w8 (w2.heap.size+1) (.bool s8) (.slice A8 k8 c8) (.slice B8 m8 d8)) (fun b hb e=>hb.1 e) fun b hb=>hb;have Yk:=aA (gP (Wq.o.tm Ak) (ig hz4.o) (.bool s8) (.slice A8 k8 c8) (.slice B8 m8 d8));clear hHeld fe kO Ak YF T8 TB8 eF Cl Cc TB TG HK Wq T7 TG7 y0 y1 y2 y3 y4 y5 y6;(go_wp2_with fail);go_roundw
      case rel=>exact ⟨k+1,s8,A8,k8,c8,B8,m8,d8,g8,by omega,by go_num,Yk,TB9,T9,HK8⟩
      case measure=>simp [intOf];omega
    . have dH:¬(k:Int)<(n:Int):=by omega
      (obtain rfl:k=n:=by omega);obtain ⟨r,hr⟩:=hK.o.l;(have CI:q=r*g:=by rw [hr,aF.mul_comm]);have g0:g≠0:=fun e=>Aj.o (by rw [CI,e,aF.mul_zero]);have Fg:=FQ.o g Aj.o hK.o.l;have Fr:=FQ.o r Aj.o ⟨g,CI⟩;obtain ⟨K1,hK1⟩:∃K:Nat,100=K:=⟨_,rfl⟩;have lg':∀{u:Nat},u<=2^e6->u<2^(64*K1):=fun h=>aR h (oA (by decide) (by have:=wP;omega));have Cb:Hid (∀W,Below wp.heap.size wp W->aB 53 #[.agg #[.bool s2,.slice A2 k2 c2,.slice B2 m2 d2],.int .i64 (k:Int),.agg #[.bool s,.slice A' q' c',.slice B' m' d']] W (bW (fun b=>w.heap.size+2<=b) W k r)):=fun W hW=>by
       have hp:aO (fun b=>w.heap.size+2<=b) k W (bE s2 A2 k2 c2 B2 m2 d2) (r*g):=by
        rw [<- CI];exact (((Tq4.o.mono (T:=fun b=>w.heap.size+2<=b) fun _ hb=>hb.2).aC qp.o).aC hW)
       exact mby K1 (by omega) k (by omega) (fun b=>w.heap.size+2<=b) W _ _ r g D D hp ((hg.o.mono (T:=fun b=>w.heap.size+2<=b) fun _ hb=>hb.2).aC hW) g0 Fr.1 Fg.1 (fun j=>by have:=hD j;omega) (lg' Fr.2) (lg' Fg.2) (aR (ai Fr.2 Fg.2) (oA (by decide) (by have:=wP;omega)))
      have TB:=aA hT.o;have TA:=aA (T10.o.aC qp.o);have HG:=aA hg.o;have HK:=aA hK.o;have HR:=aA CI;have V0:=aA ((U0.o.aC BA.o).aC qp.o);have V1:=aA ((U1.o.aC BA.o).aC qp.o);have pW:=aA ((FK.o.tm BA.o).trans (qp.o.mono (aG FK.o.size BA.o.size)));have eF:Hid (∀W,Below wp.heap.size wp W->(fun W=>W.cell? ⟨w2.heap.size,0,none⟩=some (.bool s2)∧W.cell? ⟨w2.heap.size,1,none⟩=some (.slice A2 k2 c2)∧W.cell? ⟨w2.heap.size,2,none⟩=some (.slice B2 m2 d2)∧W.cell? ⟨w2.heap.size+1,0,none⟩=some (.bool s)∧W.cell? ⟨w2.heap.size+1,1,none⟩=some (.slice A' q' c')∧W.cell? ⟨w2.heap.size+1,2,none⟩=some (.slice B' m' d')) W):=fun W hW=>⟨(TA.o.aC hW).cell0,(TA.o.aC hW).cell1,(TA.o.aC hW).aN,(TB.o.aC hW).cell0,(TB.o.aC hW).cell1,(TB.o.aC hW).aN⟩;(have hzp:w2.heap.size<wp.heap.size:=by have:=TA.o.lt;exact this);clear hT hg hK qp x0 x1 x2 x3 x4 x5 hr CI g0 Fg Fr lg' hK1;(go_wp2_with fail);refine fh (S:=fun W=>W.cell? ⟨w2.heap.size,0,none⟩=some (.bool s2)∧W.cell? ⟨w2.heap.size,1,none⟩=some (.slice A2 k2 c2)∧W.cell? ⟨w2.heap.size,2,none⟩=some (.slice B2 m2 d2)∧W.cell? ⟨w2.heap.size+1,0,none⟩=some (.bool s)∧W.cell? ⟨w2.heap.size+1,1,none⟩=some (.slice A' q' c')∧W.cell? ⟨w2.heap.size+1,2,none⟩=some (.slice B' m' d')) (z:=99) (by kernel_rfl) ?_;have hHeld:=eF.o _ (Below.refl wp.heap.size wp).drew;(try dsimp only at hHeld);refine tk 99 0 (.agg #[.bool s2,.slice A2 k2 c2,.slice B2 m2 d2]) rfl hHeld ?_;(try simp only [fx,Act.put]);refine tk 99 1 (.int .i64 (k:Int)) rfl hHeld ?_;(try simp only [fx,Act.put]);refine tk 99 2 (.agg #[.bool s,.slice A' q' c',.slice B' m' d']) rfl hHeld ?_;(try simp only [fx,Act.put]);refine tk 99 4 (.agg #[.bool s,.slice A' q' c',.slice B' m' d']) rfl hHeld ?_;(try simp only [fx,Act.put]);refine aT (rs:=[3]) (by kernel_rfl) (by simp) ?_;refine aK.cons rfl (by decide) (fun KK bu=> ?_) aK.nil;go_simp;refine (Cb.o _ aU.drew).mono ?_;rintro e w7 ⟨s7,A7,k7,c7,B7,m7,d7,rfl,t7,kO⟩;have fe:Below wp.heap.size wp w7:=aU.drew.trans kO;have T7:=aA (t7.mono (T:=fun b=>w.heap.size+2<=b) fun b hb=>by
       rcases hb with hb | hb
       . exact hb
       . have h8:wp.heap.size<=b:=hb
         omega)
      have HG7:=aA ((HG.o.aC fe).mono (T:=fun b=>w.heap.size+2<=b) fun _ hb=>hb.2);have W0:=aA (V0.o.aC fe);have W1:=aA (V1.o.aC fe);have KS:=aA (eF.o _ fe);clear t7;unfold bE;(go_wp2_with fail);refine bu.o _ _ KS.o (fun hHeld=> ?_);clear bu KK;(try dsimp only at hHeld);(try simp only [fx,Act.put]);have TA7:=aA (TA.o.aC fe);have TB7:=aA (TB.o.aC fe);have K5:Hid ((fun W=>W.cell? ⟨w2.heap.size,0,none⟩=some (.bool s2)∧W.cell? ⟨w2.heap.size,1,none⟩=some (.slice A2 k2 c2)∧W.cell? ⟨w2.heap.size,2,none⟩=some (.slice B2 m2 d2)∧W.cell? ⟨w2.heap.size+1,0,none⟩=some (.bool s)∧W.cell? ⟨w2.heap.size+1,1,none⟩=some (.slice A' q' c')∧W.cell? ⟨w2.heap.size+1,2,none⟩=some (.slice B' m' d')) (((w7.setCell ⟨w.heap.size,0,none⟩ (.bool s7)).setCell ⟨w.heap.size,1,none⟩ (.slice A7 k7 c7)).setCell ⟨w.heap.size,2,none⟩ (.slice B7 m7 d7))):=by
       have o5:=aZ w7 w.heap.size (.bool s7) (.slice A7 k7 c7) (.slice B7 m7 d7);have a5:=TA7.o.keep (o5.block _ TA7.o.lt (by omega));have b5:=TB7.o.keep (o5.block _ TB7.o.lt (by omega));exact ⟨a5.cell0,a5.cell1,a5.aN,b5.cell0,b5.cell1,b5.aN⟩
      have K6:Hid ((fun W=>W.cell? ⟨w2.heap.size,0,none⟩=some (.bool s2)∧W.cell? ⟨w2.heap.size,1,none⟩=some (.slice A2 k2 c2)∧W.cell? ⟨w2.heap.size,2,none⟩=some (.slice B2 m2 d2)∧W.cell? ⟨w2.heap.size+1,0,none⟩=some (.bool s)∧W.cell? ⟨w2.heap.size+1,1,none⟩=some (.slice A' q' c')∧W.cell? ⟨w2.heap.size+1,2,none⟩=some (.slice B' m' d')) ((((((w7.setCell ⟨w.heap.size,0,none⟩ (.bool s7)).setCell ⟨w.heap.size,1,none⟩ (.slice A7 k7 c7)).setCell ⟨w.heap.size,2,none⟩ (.slice B7 m7 d7)).setCell ⟨w.heap.size+1,0,none⟩ (.bool s)).setCell ⟨w.heap.size+1,1,none⟩ (.slice A' q' c')).setCell ⟨w.heap.size+1,2,none⟩ (.slice B' m' d'))):=by
       have o5:=IJ (w:=w7) (g:=w.heap.size) (h:=w.heap.size+1) (.bool s7) (.slice A7 k7 c7) (.slice B7 m7 d7) (.bool s) (.slice A' q' c') (.slice B' m' d');have a5:=TA7.o.keep (o5.block _ TA7.o.lt (by omega));have b5:=TB7.o.keep (o5.block _ TB7.o.lt (by omega));exact ⟨a5.cell0,a5.cell1,a5.aN,b5.cell0,b5.cell1,b5.aN⟩
      have r0:=W0.o.cell0;have r1:=W0.o.cell1;have r2:=W0.o.aN;have r3:=W0.o.frozen 0;have r4:=W0.o.frozen 1;have r5:=W0.o.frozen 2;have r6:=W0.o.lt;have v0:=W1.o.cell0;have v1:=W1.o.cell1;have v2:=W1.o.aN;have v3:=W1.o.frozen 0;have v4:=W1.o.frozen 1;have v5:=W1.o.frozen 2;have v6:=W1.o.lt;refine aT (rs:=[5]) (by kernel_rfl) (by simp) ?_;refine aK.cons rfl (by decide) (fun KK bu=> ?_) aK.nil;go_simp;refine bu.o _ _ K5.o (fun hHeld=> ?_);clear bu KK;(try dsimp only at hHeld);(try simp only [fx,Act.put]);refine aT (rs:=[6]) (by kernel_rfl) (by simp) ?_;refine aK.cons rfl (by decide) (fun KK bu=> ?_) aK.nil;go_simp;refine bu.o _ _ K6.o (fun hHeld=> ?_);clear bu KK;(try dsimp only at hHeld);(try simp only [fx,Act.put]);refine aT (rs:=[7]) (by kernel_rfl) (by simp) ?_;refine aK.cons rfl (by decide) (fun KK bu=> ?_) aK.nil;go_simp;refine bu.o _ _ K6.o (fun hHeld=> ?_);clear bu KK;(try dsimp only at hHeld);(try simp only [fx,Act.put]);refine fE (by kernel_rfl) ?_ _;obtain ⟨y1,y2⟩:=Gq W0.o W1.o (by omega) (.bool s7) (.slice A7 k7 c7) (.slice B7 m7 d7) (.bool s) (.slice A' q' c') (.slice B' m' d');have Y1:=aA y1;have Y2:=aA y2;have HBe:=aA (Nc (pW.o.tm fe) (g:=w.heap.size) (h:=w.heap.size+1) aL (by omega) (.bool s7) (.slice A7 k7 c7) (.slice B7 m7 d7) (.bool s) (.slice A' q' c') (.slice B' m' d'));have R1:=aA (T7.o.only (IJ (w:=w7) (g:=w.heap.size) (h:=w.heap.size+1) (.bool s7) (.slice A7 k7 c7) (.slice B7 m7 d7) (.bool s) (.slice A' q' c') (.slice B' m' d')) (fun b hb e=>by omega) (T:=fun _=>True) fun _ _=>trivial);have R2:=aA (HG7.o.only (IJ (w:=w7) (g:=w.heap.size) (h:=w.heap.size+1) (.bool s7) (.slice A7 k7 c7) (.slice B7 m7 d7) (.bool s) (.slice A' q' c') (.slice B' m' d')) (fun b hb e=>by omega) (T:=fun _=>True) fun _ _=>trivial);clear y1 y2 K5 K6 T7 HG7 W0 W1 fe kO KS hHeld eF;(go_wp2_with fail);exact bK (v:=.tuple #[.agg #[.bool s7,.slice A7 k7 c7,.slice B7 m7 d7],.agg #[.bool s,.slice A' q' c',.slice B' m' d'],.int .i64 0]) (xI (fn:=f32) rfl _ _ _ w.heap.size (w.heap.size+1) _ _ rfl rfl (rj Y1.o) (rj Y2.o)) rfl
       (.inr ⟨Aj.o,g,r,s7,A7,k7,c7,B7,m7,d7,s,A',q',c',B',m',d',rfl,HR.o,HK.o,R1.o,R2.o,HBe.o⟩)
def FW (n x y z:Nat) (hn:n<=3) (hs:(x+1)*(y+1)*(z+1)<=20) (hz:n=2->z=0) (A:Option Addr) (m c:Nat) (L:List TV) (w:World) (hx:iI w A m L) (hL:Arg n 1000 L) (fd:aH.dg (D3 x y z) (iU n (aP L))) (fn:aH.nm (iU n (aP L))<=2^67):
 aB 32 #[.int .i64 (n:Int),.slice A m c] w (Gl w n (IC n (iU n (aP L)))):=by
 obtain ⟨q,hq⟩:∃q,IC n (iU n (aP L))=q:=⟨_,rfl⟩;have nq:aH.nm q<=2^67:=by rw [<- hq];exact aG (Zs _ _) fn
 have dq:aH.dg (D3 x y z) q:=by
  by_cases h0:iU n (aP L)=0
  . have:q=0:=by rw [<- hq];exact ud.2 h0
    rw [this];exact aH.en _
  . rw [<- hq]
    exact (aH.factor _ _ _ h0 fd (Ma n _)).1
 have Fq:N6 n x y z q:=⟨dq,aG nq (fP (by omega) (by omega))⟩;have nD:∀k,aH.nm (oJ n k q)<=2^hb x y z:=fun k=>by
  refine aG (WK dq) (aG (ai (aG (adW hs k) (pH _)) nq) (fP (by omega) ?_));unfold hb;omega
 have e:∀{u:Nat},u<=2^hb x y z->u<=2^e6:=fun h=>aG h (fP (by decide) (by have:=LS hs;have:=wP;omega));rw [hq];exact Mo n hn A m c L w hx hL q hq (D3 x y z) (fun j=>by have:=Wv hs j;omega) (by have:=yK hn hs;omega) dq (fun g h0 hg=>e (Fq.dv hn hs h0 hg).nm) (fun k _=>e (nD k)) fun k g _ h0 hK=>EN x y z hn hs hz g (oJ n k q) (Fq.dv hn hs h0 hK.l).dg (NT dq) (Fq.dv hn hs h0 hK.l).nm (nD k)
def Gm (w:World) (n:Nat) (q:Pn n) (e:Ending) (w':World):Prop:=
 (q=0∧e=.returned (.tuple #[.slice none 0 0,.int .i64 8])∧Below w.heap.size w w')∨
 (q≠0∧∃g r r':Pn n,q=r*g∧zB n n q g∧(r'=r∨r'= -r)∧iV r'∧mJ w n (iy n r') e w')
def Mq (n:Nat) (hn:n<=3) (A:Option Addr) (m c:Nat) (w:World) (q:Pn n) (D:Nat->Nat) (hD:∀j,D j<=1000) (hV:aH.jo (Pn n) D<=4096) (fit:∀g,q≠0->Dv g q->aH.dg D g∧aH.nm g<=2^e6) (cr:aB 32 #[.int .i64 (n:Int),.slice A m c] w (Gl w n q)):
 aB 14 #[.int .i64 (n:Int),.slice A m c] w (Gm w n q):=by
 have Cr:=aA cr;have fq:=aA fit;clear cr fit;go_enter func14,ntmps14
 go_wp2_with fail
 refine Cr.o.mono ?_;rintro e w1 (⟨h0,rfl,cZ⟩ | ⟨h0,g,r,s,A1,k1,c1,B1,m1,d1,s',A2,k2,c2,B2,m2,d2,rfl,hq,hK,t1,t2,cZ⟩)
 . have F:Hid (∀W,Below w1.heap.size w1 W->Gm w n q (.returned (.tuple #[.slice none 0 0,.int .i64 8])) W):=fun W hW=> .inl ⟨h0,rfl,cZ.tm hW⟩
   have ba:Hid (Below w1.heap.size w1 ((w1.alloc (.cells #[.bool false,.slice none 0 0,.slice none 0 0] 51)).alloc (.cells #[.bool false,.slice none 0 0,.slice none 0 0] 51))):=(aU.alloc aL _).alloc (by simp) _;clear cZ Cr fq;unfold bE;go_wp2_with fail
   go_ret2;exact F.o _ ba.o
 . have ba:Below w1.heap.size w1 ((w1.alloc (.cells #[.bool s,.slice A1 k1 c1,.slice B1 m1 d1] 51)).alloc (.cells #[.bool s',.slice A2 k2 c2,.slice B2 m2 d2] 51)):=(aU.alloc aL _).alloc (by simp) _
   have BA:=aA (cZ.tm ba);have Cc:Hid (∀W,Below w1.heap.size w1 W->aB 26 #[.int .i64 (n:Int),.agg #[.bool s,.slice A1 k1 c1,.slice B1 m1 d1]] W (yu W n r)):=fun W hW=>by
    obtain ⟨e1,e2⟩:=fq.o r h0 ⟨g,hq⟩;obtain ⟨C,hC⟩:∃C:Nat,10=C:=⟨_,rfl⟩;exact mright n C (by omega) (by omega) W _ r D (t1.aC hW) (aR e2 (oA (by decide) (by have:=wP;omega))) e1 hD (by have:=mP (pre:=[]) e1;omega)
   have HQ:=aA hq;have HK:=aA hK;have H0:=aA h0;have tA:=(aX.new w1 (.bool s) (.slice A1 k1 c1) (.slice B1 m1 d1)).aC (aU.alloc aL (.cells #[.bool s',.slice A2 k2 c2,.slice B2 m2 d2] 51));have a0:=tA.cell0;have a1:=tA.cell1;have a2:=tA.aN;have CC:=aA (Cc.o _ ba);clear t1 t2 cZ Cr fq hq hK h0 tA ba;unfold bE;go_wp2_with fail
   refine CC.o.mono ?_;rintro e w2 ⟨r',CI,hp,A3,c3,L3,rfl,p1,p2,p3,p4,p5,p6⟩;have F:Hid (Gm w n q (.returned (.tuple #[.slice A3 L3.length c3,.int .i64 0])) w2):=.inr ⟨H0.o,g,r,r',HQ.o,HK.o,CI,hp,A3,c3,L3,rfl,p1,p2,p3,p4,p5,BA.o.tm p6⟩;clear p3 p4 p5 p6 CC Cc;go_wp2_with fail
   go_ret2;exact F.o
def FY (n x y z:Nat) (hn:n<=3) (hs:(x+1)*(y+1)*(z+1)<=20) (hz:n=2->z=0) (A:Option Addr) (m c:Nat) (L:List TV) (w:World) (hx:iI w A m L) (hL:Arg n 1000 L) (fd:aH.dg (D3 x y z) (iU n (aP L))) (fn:aH.nm (iU n (aP L))<=2^67):
 aB 14 #[.int .i64 (n:Int),.slice A m c] w (Gm w n (IC n (iU n (aP L)))):=
 Mq n hn A m c w _ (D3 x y z) (fun j=>by have:=Wv hs j;omega) (by have:=yK hn hs;omega) (fun r h0 hr=>by
  have F0:N6 n x y z (iU n (aP L)):=⟨fd,aG fn (fP (by omega) (by omega))⟩;have F1:=F0.dv hn hs (fun e=>h0 (ud.2 e)) (hr.trans (Ma n _));exact ⟨F1.dg,aG F1.nm (fP (by decide) (by have:=LS hs;have:=wP;omega))⟩) (FW n x y z hn hs hz A m c L w hx hL fd fn)
def uZ {t:TypeId} {E:List ax} {cs:Array Value}(h:w.heap[g]? =some (.cells cs t (0,0))) (hcs:cs.toList=aS E) (hE:E.length<=1000) (oH:∀x∈E,gV w x):iI w (some ⟨g,0,none⟩) E.length (E.map (·.2)):=by
 have hsz:cs.size=E.length*3:=by
  have h1:=dh List.length hcs;rw [nJ,WZ] at h1;exact h1
 have ho:w.ownsRow 0 t 3 (.slice (some ⟨g,0,none⟩) E.length E.length) E.length (aS E):=⟨nJ E,.inr ⟨g,E.length,cs,rfl,bL _,h,aL,by unfold maxLen;omega,hsz,by rw [hcs];exact iC (by rw [nJ];exact aL)⟩⟩;obtain ⟨B,d,hv,_,_,ht⟩:=jK ho rfl oH;injection hv with hv
 rw [<- hv] at ht;exact ht
def KP (neg:Bool) (c x y:Int) (a b:Nat):ax:=(((some ⟨a,0,none⟩,1),(some ⟨b,0,none⟩,2)),((neg,[c]),[x,y]))
def Wt (w:World) (neg:Bool) (c x y:Int) (e:Ending) (w':World):Prop:=∃a b,e=.returned (.agg #[.bool neg,.slice (some ⟨a,0,none⟩) 1 1,.slice (some ⟨b,0,none⟩) 2 2])∧gV w' (KP neg c x y a b)∧Below w.heap.size w w'
def rS (neg:Bool) (c x y:Int) (w:World) (hc:0<=c∧c<18446744073709551616) (hx:DX x) (hy:DX y):
 aB 24 #[.bool neg,.int .u64 c,.int .i64 x,.int .i64 y] w (Wt w neg c x y):=by
 have tr:=((Jk.new 44 w (.bool neg) (.slice (some ⟨w.heap.size+1,0,none⟩) 1 1) (.slice (some ⟨w.heap.size+1+1,0,none⟩) 2 2)).aC (aU.alloc aL (.cells #[.int .u64 c] 38))).aC (aU.alloc aL (.cells #[.int .i64 x,.int .i64 y] 3));have rc:(((w.alloc (.cells #[.bool neg,.slice (some ⟨w.heap.size+1,0,none⟩) 1 1,.slice (some ⟨w.heap.size+1+1,0,none⟩) 2 2] 44)).alloc (.cells #[.int .u64 c] 38)).alloc (.cells #[.int .i64 x,.int .i64 y] 3)).cell? ⟨w.heap.size+1,0,none⟩=some (.int .u64 c):=by
  have h1:((w.alloc (.cells #[.bool neg,.slice (some ⟨w.heap.size+1,0,none⟩) 1 1,.slice (some ⟨w.heap.size+1+1,0,none⟩) 2 2] 44)).alloc (.cells #[.int .u64 c] 38)).heap[w.heap.size+1]? =some (.cells #[.int .u64 c] 38):=by
   have h:=bM (w.alloc (.cells #[.bool neg,.slice (some ⟨w.heap.size+1,0,none⟩) 1 1,.slice (some ⟨w.heap.size+1+1,0,none⟩) 2 2] 44)) (.cells #[.int .u64 c] 38);rwa [aJ] at h
  have h2:(((w.alloc (.cells #[.bool neg,.slice (some ⟨w.heap.size+1,0,none⟩) 1 1,.slice (some ⟨w.heap.size+1+1,0,none⟩) 2 2] 44)).alloc (.cells #[.int .u64 c] 38)).alloc (.cells #[.int .i64 x,.int .i64 y] 3)).heap[w.heap.size+1]? =some (.cells #[.int .u64 c] 38):=(Below.heap_alloc _ (.cells #[.int .i64 x,.int .i64 y] 3) _ (jm.1 h1).1).trans h1;rw [dQ _ _ 0 _ _ (0,0) h2];rfl
 have rx:Row (((w.alloc (.cells #[.bool neg,.slice (some ⟨w.heap.size+1,0,none⟩) 1 1,.slice (some ⟨w.heap.size+1+1,0,none⟩) 2 2] 44)).alloc (.cells #[.int .u64 c] 38)).alloc (.cells #[.int .i64 x,.int .i64 y] 3)) (w.heap.size+1+1) 3 [x,y]:=by
  have h:=bM ((w.alloc (.cells #[.bool neg,.slice (some ⟨w.heap.size+1,0,none⟩) 1 1,.slice (some ⟨w.heap.size+1+1,0,none⟩) 2 2] 44)).alloc (.cells #[.int .u64 c] 38)) (.cells #[.int .i64 x,.int .i64 y] 3);rw [aJ,aJ] at h;exact h
 have hb:Below w.heap.size w (((w.alloc (.cells #[.bool neg,.slice (some ⟨w.heap.size+1,0,none⟩) 1 1,.slice (some ⟨w.heap.size+1+1,0,none⟩) 2 2] 44)).alloc (.cells #[.int .u64 c] 38)).alloc (.cells #[.int .i64 x,.int .i64 y] 3)):=((aU.alloc aL _).alloc (by simp) _).alloc (by simp;omega) _;have hsz:Hid (w.heap.size+1<(((w.alloc (.cells #[.bool neg,.slice (some ⟨w.heap.size+1,0,none⟩) 1 1,.slice (some ⟨w.heap.size+1+1,0,none⟩) 2 2] 44)).alloc (.cells #[.int .u64 c] 38)).alloc (.cells #[.int .i64 x,.int .i64 y] 3)).heap.size):=by
  show _<_;simp
 have F:Hid (Wt w neg c x y (.returned (.agg #[.bool neg,.slice (some ⟨w.heap.size+1,0,none⟩) 1 1,.slice (some ⟨w.heap.size+1+1,0,none⟩) 2 2])) (((w.alloc (.cells #[.bool neg,.slice (some ⟨w.heap.size+1,0,none⟩) 1 1,.slice (some ⟨w.heap.size+1+1,0,none⟩) 2 2] 44)).alloc (.cells #[.int .u64 c] 38)).alloc (.cells #[.int .i64 x,.int .i64 y] 3))):=by
  refine ⟨_,_,rfl,⟨aL,by show 1<=_;omega,aL,by show 2<=_;omega,⟨rfl,fun _=>⟨_,0,rfl,hsz.o,fun i hi=> ?_⟩,fun i=> ?_⟩,rx.ints fun i=> ?_⟩,hb⟩
  . have h1:[c].length=1:=rfl
    have e:i=0:=by
     have:i<1:=hi;omega
    rw [e];exact rc
  . match i with
    | 0=>exact hc
    | i+1=>show (0:Int)<=0∧(0:Int)<_;omega
  . match i with
    | 0=>exact hx
    | 1=>exact hy
    | i+2=>show DX 0;constructor<;>omega
 have TR:=aA tr;clear tr rc rx hb hsz;go_enter func24,ntmps24
 go_wp2_with fail
 exact bK (v:=.agg #[.bool neg,.slice (some ⟨w.heap.size+1,0,none⟩) 1 1,.slice (some ⟨w.heap.size+1+1,0,none⟩) 2 2]) (dO (fn:=Tryz.f24) rfl _ _ _ _ _ _ _ rfl TR.o underlying44 rfl Ke) rfl F.o
def amo {M:Mv}(h:∀t∈M,(nth t.1 0).toNat<=x∧(nth t.1 1).toNat<=y∧t.1.length=2) (ha:bJ M<=2^67):aH.dg (D3 x y 0) (iU 2 M)∧aH.nm (iU 2 M)<=2^67:=by
 refine ⟨xL 2 0 M _ fun t ht k=> ?_,aG (MI M) ha⟩;obtain ⟨h1,h2,h3⟩:=h t ht;rw [bh];match k with
 | 0=>exact h1
 | 1=>exact h2
 | k+2=>rw [bw (by omega)];exact bL _
def arg2 {L:List TV}(h:∀t∈L,t.2.length=2∧(∀x∈t.2,0<=x∧x<=1000)∧t.1.2.length<=1000) (hl:L.length<=4096):Arg 2 1000 L:=⟨fun t ht=>(h t ht).1,fun t ht=>(h t ht).2.1,fun t ht=>(h t ht).2.2,hl⟩
def gF {x:Int}(h:0<=x∧x<=1000):DX x:=by constructor<;>omega
def exA:List TV:=[((false,[1]),[2,0]),((true,[1]),[0,2])]
def exB:List TV:=[((false,[1]),[2,0]),((false,[2]),[1,1]),((false,[1]),[0,2])]
def exC:List TV:=[((false,[4]),[2,1])]
def exG:List TV:=[((false,[1]),[1,0]),((false,[1]),[0,1])]
def exR:List TV:=[((false,[1]),[1,1])]
def TY:aP exA=aw1:=by decide
def TW:aP exB=aw2:=by decide
def NN:aP exC=[([2,1],4)]:=by decide
def amt:aP exG=KU:=by decide
def amq:aP exR=[([1,1],1)]:=by decide
def Dt (c:Int) (h:0<c∧c<18446744073709551616):dN false [c] (aI false [c]):=by
 refine ⟨⟨fun i=> ?_,fun _=> ?_⟩,rfl,fun e=>by cases e⟩
 . match i with
   | 0=>exact ⟨by show 0<=c;omega,h.2⟩
   | i+1=>show (0:Int)<=0∧(0:Int)<_;omega
 . show c≠0
   omega
def amu:∀t∈exG,dN t.1.1 t.1.2 (aI t.1.1 t.1.2):=fun t ht=>by
 unfold exG at ht;rcases iH.1 ht with e | ht
 . rw [e];exact Dt 1 (by omega)
 . rw [dS.1 ht];exact Dt 1 (by omega)
def amr:∀t∈exR,dN t.1.1 t.1.2 (aI t.1.1 t.1.2):=fun t ht=>by
 unfold exR at ht;rw [dS.1 ht];exact Dt 1 (by omega)
def WS (w:World):aB 8 #[] w fun e w'=>e=.returned (.bool true)∧Below w.heap.size w w':=by
 have asq:Arg 2 1000 exA:=arg2 (by unfold exA;decide) (by unfold exA;decide);have asp:Arg 2 1000 exB:=arg2 (by unfold exB;decide) (by unfold exB;decide);have aso:Arg 2 1000 exC:=arg2 (by unfold exC;decide) (by unfold exC;decide);have fA:Fit 2 2 2 0 (iU 2 (aP exA)):=by
  have h:=amo (x:=2) (y:=2) (M:=aP exA) (by rw [TY];unfold aw1;decide) (by rw [TY];exact aG (show bJ aw1<=2 by decide) (by decide));exact N6.fit ⟨h.1,aG h.2 (fP (by omega) (by omega))⟩
 have fB:Fit 2 2 2 0 (iU 2 (aP exB)):=by
  have h:=amo (x:=2) (y:=2) (M:=aP exB) (by rw [TW];unfold aw2;decide) (by rw [TW];exact aG (show bJ aw2<=4 by decide) (by decide));exact N6.fit ⟨h.1,aG h.2 (fP (by omega) (by omega))⟩
 have fC:=amo (x:=2) (y:=1) (M:=aP exC) (by rw [NN];decide) (by rw [NN];exact aG (show bJ [([2,1],4)]<=4 by decide) (by decide));have Cg:=aA (fun (A B:Option Addr) (W:World) (h1:iI W A 2 exA) (h2:iI W B 3 exB)=>afD 2 2 2 0 (by omega) (by omega) (fun _=>rfl) A B 2 2 3 3 exA exB W h1 h2 asq asp (by omega) (by omega) (by omega) (by omega) fA fB);have Cr:=aA (fun (A:Option Addr) (W:World) (h1:iI W A 1 exC)=>FY 2 2 1 0 (by omega) (by omega) (fun _=>rfl) A 1 1 exC W h1 aso fC.1 fC.2);clear asq asp aso fA fB fC;go_enter func8,ntmps8
 obtain ⟨wo,rfl⟩:∃wo:World,wo=w:=⟨_,rfl⟩;have U2:Hid (Below wo.heap.size wo wo):=aU;go_wp2_with fail
 refine (rS false 1 2 0 wo (by omega) (gF (by omega)) (gF (by omega))).mono ?_;rintro e v1 ⟨a1,b1,rfl,ok1,cZ⟩;have wu:=aA (U2.o.tm cZ);have OK1:=aA ok1;clear ok1 cZ;go_wp2_with fail
 refine (rS true 1 0 2 v1 (by omega) (gF (by omega)) (gF (by omega))).mono ?_;rintro e v2 ⟨a2,b2,rfl,ok2,cN⟩;have FK:=aA (wu.o.tm cN);have ajt:=aA (OK1.o.aC cN);clear OK1;have OK2:=aA ok2;clear ok2 cN;have bb3:Below v2.heap.size v2 (v2.alloc (.cells #[.bool false,.slice (some ⟨a1,0,none⟩) 1 1,.slice (some ⟨b1,0,none⟩) 2 2,.bool true,.slice (some ⟨a2,0,none⟩) 1 1,.slice (some ⟨b2,0,none⟩) 2 2] 44)):=aU.alloc aL _;have TA:Hid (iI (v2.alloc (.cells #[.bool false,.slice (some ⟨a1,0,none⟩) 1 1,.slice (some ⟨b1,0,none⟩) 2 2,.bool true,.slice (some ⟨a2,0,none⟩) 1 1,.slice (some ⟨b2,0,none⟩) 2 2] 44)) (some ⟨v2.heap.size,0,none⟩) 2 exA):=uZ (E:=[KP false 1 2 0 a1 b1,KP true 1 0 2 a2 b2]) (bM v2 _) rfl (by show 2<=1000;omega) (fun x hx=>by
  simp only [iH,lD,yB] at hx;rcases hx with rfl | rfl
  . exact ajt.o.aC bb3
  . exact OK2.o.aC bb3)
 clear ajt;clear OK2;have HB3:=aA (FK.o.tm bb3);go_wp2_with fail
 generalize hw3:v2.alloc (.cells #[.bool false,.slice (some ⟨a1,0,none⟩) 1 1,.slice (some ⟨b1,0,none⟩) 2 2,.bool true,.slice (some ⟨a2,0,none⟩) 1 1,.slice (some ⟨b2,0,none⟩) 2 2] 44)=v3 at*
 clear hw3 bb3;go_wp2_with fail
 refine (rS false 1 2 0 v3 (by omega) (gF (by omega)) (gF (by omega))).mono ?_;rintro e v4 ⟨a4,b4,rfl,ok4,TF⟩;have HB4:=aA (HB3.o.tm TF);have asz:=aA (TA.o.aC TF);clear TA;have OK4:=aA ok4;clear ok4 TF;go_wp2_with fail
 refine (rS false 2 1 1 v4 (by omega) (gF (by omega)) (gF (by omega))).mono ?_;rintro e v5 ⟨a5,b5,rfl,ok5,YG⟩;have HB5:=aA (HB4.o.tm YG);have asy:=aA (asz.o.aC YG);clear asz;have ajs:=aA (OK4.o.aC YG);clear OK4;have OK5:=aA ok5;clear ok5 YG;go_wp2_with fail
 refine (rS false 1 0 2 v5 (by omega) (gF (by omega)) (gF (by omega))).mono ?_;rintro e v6 ⟨a6,b6,rfl,ok6,gW⟩;have HB6:=aA (HB5.o.tm gW);have asx:=aA (asy.o.aC gW);clear asy;have ajr:=aA (ajs.o.aC gW);clear ajs;have ajq:=aA (OK5.o.aC gW);clear OK5;have OK6:=aA ok6;clear ok6 gW;have bb7:Below v6.heap.size v6 (v6.alloc (.cells #[.bool false,.slice (some ⟨a4,0,none⟩) 1 1,.slice (some ⟨b4,0,none⟩) 2 2,.bool false,.slice (some ⟨a5,0,none⟩) 1 1,.slice (some ⟨b5,0,none⟩) 2 2,.bool false,.slice (some ⟨a6,0,none⟩) 1 1,.slice (some ⟨b6,0,none⟩) 2 2] 44)):=aU.alloc aL _;have TB:Hid (iI (v6.alloc (.cells #[.bool false,.slice (some ⟨a4,0,none⟩) 1 1,.slice (some ⟨b4,0,none⟩) 2 2,.bool false,.slice (some ⟨a5,0,none⟩) 1 1,.slice (some ⟨b5,0,none⟩) 2 2,.bool false,.slice (some ⟨a6,0,none⟩) 1 1,.slice (some ⟨b6,0,none⟩) 2 2] 44)) (some ⟨v6.heap.size,0,none⟩) 3 exB):=uZ (E:=[KP false 1 2 0 a4 b4,KP false 2 1 1 a5 b5,KP false 1 0 2 a6 b6]) (bM v6 _) rfl (by show 3<=1000;omega) (fun x hx=>by
  simp only [iH,lD,yB] at hx;rcases hx with rfl | rfl | rfl
  . exact ajr.o.aC bb7
  . exact ajq.o.aC bb7
  . exact OK6.o.aC bb7)
 clear ajr;clear ajq;clear OK6;have HB7:=aA (HB6.o.tm bb7);have asw:=aA (asx.o.aC bb7);clear asx;go_wp2_with fail
 generalize hw7:v6.alloc (.cells #[.bool false,.slice (some ⟨a4,0,none⟩) 1 1,.slice (some ⟨b4,0,none⟩) 2 2,.bool false,.slice (some ⟨a5,0,none⟩) 1 1,.slice (some ⟨b5,0,none⟩) 2 2,.bool false,.slice (some ⟨a6,0,none⟩) 1 1,.slice (some ⟨b6,0,none⟩) 2 2] 44)=v7 at*
 clear hw7 bb7;refine (Cg.o _ _ v7 asw.o TB.o).mono ?_;rintro e v8 ⟨g,hg,hp,Ag,cg,Lg,rfl,g1,g2,g3,g4,g5,g6⟩;have eg:Lg=exG:=by
  have h1:g=iU 2 KU:=by
   rw [TY,TW] at hg;exact amW.one hg ahi hp
  have h2:aP Lg=aP exG:=by
   rw [amt,<- Ll,<- h1];exact g4.mv.unique (bB 2 g) g5
  exact Bg g4.co amu h2
 subst eg;have HB8:=aA (HB7.o.tm g6);have TG:=aA g3;clear hg hp g1 g2 g3 g4 g5 g6 Cg asw TB;go_wp2_with fail
 refine (rS false 4 2 1 v8 (by omega) (gF (by omega)) (gF (by omega))).mono ?_;rintro e v9 ⟨a9,b9,rfl,ok9,CX⟩;have Yk:=aA (HB8.o.tm CX);have asv:=aA (TG.o.aC CX);clear TG;have OK9:=aA ok9;clear ok9 CX;have ahh:Below v9.heap.size v9 (v9.alloc (.cells #[.bool false,.slice (some ⟨a9,0,none⟩) 1 1,.slice (some ⟨b9,0,none⟩) 2 2] 44)):=aU.alloc aL _;have TC:Hid (iI (v9.alloc (.cells #[.bool false,.slice (some ⟨a9,0,none⟩) 1 1,.slice (some ⟨b9,0,none⟩) 2 2] 44)) (some ⟨v9.heap.size,0,none⟩) 1 exC):=uZ (E:=[KP false 4 2 1 a9 b9]) (bM v9 _) rfl (by show 1<=1000;omega) (fun x hx=>by
  simp only [iH,lD,yB] at hx;rcases hx with rfl
  . exact OK9.o.aC ahh)
 clear OK9;have ahD:=aA (Yk.o.tm ahh);have ajo:=aA (asv.o.aC ahh);clear asv;go_wp2_with fail
 generalize awX:v9.alloc (.cells #[.bool false,.slice (some ⟨a9,0,none⟩) 1 1,.slice (some ⟨b9,0,none⟩) 2 2] 44)=v10 at*
 clear awX ahh;refine (Cr.o _ v10 TC.o).mono ?_;rintro e v11 (⟨h0,_,_⟩ | ⟨h0,g,r,r',hq,hK,hr,hp,Ar,cr,Lr,rfl,g1,g2,g3,g4,g5,g6⟩)
 . exfalso
   rw [NN] at h0;have h1:iU 2 [([2,1],4)]=V 2 1 4:=FN 2 1 4;rw [h1] at h0;exact ast (by omega) (ud.1 h0)
 have er:Lr=exR:=by
  rw [NN] at hq hK;have h1:iU 2 [([2,1],4)]=V 2 1 4:=FN 2 1 4;rw [h1] at hq hK;have h2:=amV hq hK hr hp;have h3:aP Lr=aP exR:=by
   rw [amq];have h4:=yt (i:=1) (j:=1) (c:=1) (by omega);rw [<- h2] at h4;exact (g4.mv.unique (bB 2 r') g5).trans h4
  exact Bg g4.co amr h3
 subst er;have ahC:=aA (ahD.o.tm g6);have TR:=aA g3;have ajn:=aA (ajo.o.aC g6);clear h0 hq hK hr hp g1 g2 g3 g4 g5 g6 Cr TC ajo;go_wp2_with fail
 refine (rS false 1 1 0 v11 (by omega) (gF (by omega)) (gF (by omega))).mono ?_;rintro e v12 ⟨a12,b12,rfl,apc,KN⟩;have aCn:=aA (ahC.o.tm KN);have ajm:=aA (ajn.o.aC KN);clear ajn;have ajj:=aA (TR.o.aC KN);clear TR;have asH:=aA apc;clear apc KN;go_wp2_with fail
 refine (rS false 1 0 1 v12 (by omega) (gF (by omega)) (gF (by omega))).mono ?_;rintro e v13 ⟨a13,b13,rfl,apb,CY⟩;have aCm:=aA (aCn.o.tm CY);have ajl:=aA (ajm.o.aC CY);clear ajm;have aji:=aA (ajj.o.aC CY);clear ajj;have Wj:=aA (asH.o.aC CY);clear asH;have asG:=aA apb;clear apb CY;have Yb:Below v13.heap.size v13 (v13.alloc (.cells #[.bool false,.slice (some ⟨a12,0,none⟩) 1 1,.slice (some ⟨b12,0,none⟩) 2 2,.bool false,.slice (some ⟨a13,0,none⟩) 1 1,.slice (some ⟨b13,0,none⟩) 2 2] 44)):=aU.alloc aL _;have T1:Hid (iI (v13.alloc (.cells #[.bool false,.slice (some ⟨a12,0,none⟩) 1 1,.slice (some ⟨b12,0,none⟩) 2 2,.bool false,.slice (some ⟨a13,0,none⟩) 1 1,.slice (some ⟨b13,0,none⟩) 2 2] 44)) (some ⟨v13.heap.size,0,none⟩) 2 exG):=uZ (E:=[KP false 1 1 0 a12 b12,KP false 1 0 1 a13 b13]) (bM v13 _) rfl (by show 2<=1000;omega) (fun x hx=>by
  simp only [iH,lD,yB] at hx;rcases hx with rfl | rfl
  . exact Wj.o.aC Yb
  . exact asG.o.aC Yb)
 clear Wj;clear asG;have ahB:=aA (aCm.o.tm Yb);have ajk:=aA (ajl.o.aC Yb);clear ajl;have ajh:=aA (aji.o.aC Yb);clear aji;go_wp2_with fail
 generalize awW:v13.alloc (.cells #[.bool false,.slice (some ⟨a12,0,none⟩) 1 1,.slice (some ⟨b12,0,none⟩) 2 2,.bool false,.slice (some ⟨a13,0,none⟩) 1 1,.slice (some ⟨b13,0,none⟩) 2 2] 44)=v14 at*
 clear awW Yb;refine (GX _ _ 2 _ _ exG v14 ajk.o T1.o (by omega)).mono ?_;rintro e v15 ⟨rfl,alU⟩;have aCl:=aA (ahB.o.tm alU);clear ajk T1;have ajg:=aA (ajh.o.aC alU);clear ajh;clear alU;go_wp2_with fail
 refine (rS false 1 1 1 v15 (by omega) (gF (by omega)) (gF (by omega))).mono ?_;rintro e v16 ⟨a16,b16,rfl,apa,alT⟩;have aCk:=aA (aCl.o.tm alT);have ajf:=aA (ajg.o.aC alT);clear ajg;have asF:=aA apa;clear apa alT;have ahg:Below v16.heap.size v16 (v16.alloc (.cells #[.bool false,.slice (some ⟨a16,0,none⟩) 1 1,.slice (some ⟨b16,0,none⟩) 2 2] 44)):=aU.alloc aL _;have T2:Hid (iI (v16.alloc (.cells #[.bool false,.slice (some ⟨a16,0,none⟩) 1 1,.slice (some ⟨b16,0,none⟩) 2 2] 44)) (some ⟨v16.heap.size,0,none⟩) 1 exR):=uZ (E:=[KP false 1 1 1 a16 b16]) (bM v16 _) rfl (by show 1<=1000;omega) (fun x hx=>by
  simp only [iH,lD,yB] at hx;rcases hx with rfl
  . exact asF.o.aC ahg)
 clear asF;have aCj:=aA (aCk.o.tm ahg);have aje:=aA (ajf.o.aC ahg);clear ajf;go_wp2_with fail
 generalize awV:v16.alloc (.cells #[.bool false,.slice (some ⟨a16,0,none⟩) 1 1,.slice (some ⟨b16,0,none⟩) 2 2] 44)=v17 at*
 clear awV ahg;refine (GX _ _ 1 _ _ exR v17 aje.o T2.o (by omega)).mono ?_;rintro e v18 ⟨rfl,arn⟩;have aCi:=aA (aCj.o.tm arn);clear aje T2;clear arn;go_wp2_with fail
 go_ret;exact ⟨rfl,aCi.o⟩
def ZW {places:Int} {Ls:Nat->List TV}(pl:Nat) (qm:places<=(pl:Int)) (h:Sml nn most places m Ls) (hm:0<m) (hmo:most<=7):∃n x y z:Nat,nn=(n:Int)∧n<=3∧(x+1)*(y+1)*(z+1)<=pl∧(n=2->z=0)∧∀k,k<m->(∀t∈Ls k,aQ t.1.2)->Arg n 1000 (Ls k)∧aH.dg (D3 x y z) (iU n (aP (Ls k)))∧aH.nm (iU n (aP (Ls k)))<=2^67:=by
 obtain ⟨h3,hL,ds,hd,hc,hp⟩:=h;have hn0:0<=nn:=(hL 0 hm).2.1.1;obtain ⟨n,rfl⟩:∃n:Nat,nn=(n:Int):=⟨nn.toNat,by omega⟩;have d0:=hd 0;have d1:=hd 1;have d2:=hd 2;have d3:=hd 3;have apW:((nth ds 0).toNat+1)*((nth ds 1).toNat+1)*((nth ds 2).toNat+1)<=pl:=by
  have e0:mX ds 3=(((((nth ds 0).toNat+1)*((nth ds 1).toNat+1)*((nth ds 2).toNat+1):Nat)):Int):=by
   show 1*(nth ds 0+1)*(nth ds 1+1)*(nth ds 2+1)=_;rw [sr,sr,Jc,show (((nth ds 0).toNat+1:Nat):Int)=nth ds 0+1 by omega,show (((nth ds 1).toNat+1:Nat):Int)=nth ds 1+1 by omega,show (((nth ds 2).toNat+1:Nat):Int)=nth ds 2+1 by omega]
  have e1:mX ds 3<=mX ds 4:=by
   have h1:=D9 hd 3;have h2:mX ds 3*1<=mX ds 3*(nth ds 3+1):=Uj (by omega) (by omega);show _<=mX ds 3*(nth ds 3+1);omega
  omega
 refine ⟨n,(nth ds 0).toNat,(nth ds 1).toNat,if n=2 then 0 else (nth ds 2).toNat,rfl,by omega,?_,fun e=>aM e,fun k hk abw=> ?_⟩
 . refine aG (bn _ ?_) apW
   split<;>omega
 . obtain ⟨l1,l2,l3⟩:=hL k hk
   have hlen:∀t∈Ls k,t.2.length=n:=fun t ht=>by
    obtain ⟨i,hi,rfl⟩:=uR.1 ht;have:=(l2.2.2.2 i hi).1;omega
   have hE:∀t∈Ls k,∀u∈t.2,0<=u∧u<=1000:=fun t ht u hu=>by
    obtain ⟨i,hi,rfl⟩:=uR.1 ht;obtain ⟨j,hj,hj2⟩:=uR.1 hu;have h9:=(l2.2.2.2 i hi).2 j hj;rw [fV hj,hj2] at h9;exact h9
   refine ⟨⟨hlen,hE,fun t ht=>by have:=l3 t ht;omega,l2.2.2.1⟩,xL n 0 _ _ fun t ht j=> ?_,?_⟩
   . obtain ⟨s,uu,rfl⟩:=af.1 ht
     rw [bh];have hcv:=hc k hk s uu j;show (nth s.2 j).toNat<=_;have hls:=hlen s uu;match j with
     | 0=>show (nth s.2 0).toNat<=(nth ds 0).toNat;omega
     | 1=>show (nth s.2 1).toNat<=(nth ds 1).toNat;omega
     | 2=>
       show (nth s.2 2).toNat<=if n=2 then 0 else (nth ds 2).toNat
       split
       . rw [bw (by omega)];exact Nat.le_refl 0
       . omega
     | j+3=>rw [bw (by omega)];exact bL _
   . refine aG (MI _) ?_
     have h1:bJ (aP (Ls k))<=(aP (Ls k)).length*2^64:=DJ fun t ht=>by
      obtain ⟨s,uu,rfl⟩:=af.1 ht;have h2:=LJ s.1.1 (abw s uu) (l3 s uu);exact oy h2
     rw [au] at h1;(have h2:(Ls k).length<=7:=by omega);exact aG h1 (aG (bG _ h2) (by decide))
def aeK {Ls:Nat->List TV}(h:Sml nn most 20 m Ls) (hm:0<m) (hmo:most<=7):∃n x y z:Nat,nn=(n:Int)∧n<=3∧(x+1)*(y+1)*(z+1)<=20∧(n=2->z=0)∧∀k,k<m->(∀t∈Ls k,aQ t.1.2)->Arg n 1000 (Ls k)∧aH.dg (D3 x y z) (iU n (aP (Ls k)))∧aH.nm (iU n (aP (Ls k)))<=2^67:=ZW 20 (nw _) h hm hmo
def Oo (n:Nat) (hn:n<=6) (A:Option Addr) (m c:Nat) (L:List TV) (w:World) (hx:iI w A m L) (h:Arg n 1000 L) (ha:bJ (aP L)<2^(64*2000)):aB 30 #[.slice A m c] w (mI w 0 n (iU n (aP L))):=by
 have hl:=hx.len;have hc:=h.cnt;refine (IA n 1000 2000 A m c L w hx h.len h.co (by omega) (by omega) ha (by omega) (by omega)).mono ?_;rintro e w1 ⟨A1,c1,T,rfl,z1,z2,z3,z4,z5,z6⟩;have nn:qy (aP L):=fun t ht u hu=>(h.Tp t ht u hu).1;have nt:qy (aP T):=fun t ht u hu=>(z4.mv.bd z5 h.Tp t ht u hu).1;have e1:aP T=iy n (iU n (aP L)):=iK z4.mv nt (xD z4.mv.len nt h.KD nn z5);refine ⟨_,rfl,⟨A1,c1,T,rfl,z1,z2,z3,by rw [bh];exact z4,?_⟩,z6⟩;unfold gj;rw [sG];exact e1
def ahj {C:Nat} {L:List TV}(h:Arg n C L) (hl:∀t∈L,aQ t.1.2) (hC:∀t∈L,t.1.2.length<=1):bJ (aP L)<2^(64*2000):=by
 have key:∀M:List TV,(∀t∈M,aQ t.1.2)->(∀t∈M,t.1.2.length<=1)->bJ (aP M)<=M.length*2^64:=fun M=>by
  induction M with
  | nil=>intro _ _;exact bL _
  | cons t M ih=>
    intro k1 k2;have i:=ih (fun s hs=>k1 s (bX _ hs)) (fun s hs=>k2 s (bX _ hs));have h1:=dc (k1 t aV);have h2:=k2 t aV;have h3:2^(64*t.1.2.length)<=2^64:=fP (by omega) (by omega);(have h4:(aI t.1.1 t.1.2).natAbs=limbs t.1.2:=by unfold aI;split<;>simp);show (aI t.1.1 t.1.2).natAbs+bJ (aP M)<=(M.length+1)*2^64;rw [h4,bO,bN];omega
 have h1:=key L hl hC;have h2:=h.cnt;obtain ⟨E,hE⟩:∃E:Nat,2000=E:=⟨_,rfl⟩;rw [hE];have h3:(2:Nat)^(12+64+1)<=2^(64*E):=fP (by omega) (by omega);have h4:L.length*2^64<=4096*2^64:=bG _ h2;have h5:(4096:Nat)*2^64<2^(12+64+1):=by decide
 omega
