import Derived.Test.YtehcoffbiplphaaGreatGRpln
import Derived.Test.YtehcoffbiplphaaGreatGIv
import Derived.Test.YtehcoffbiplphaaGreatGPlV
import Derived.Test.YtehcoffbiplphaaGreatGLwA
set_option linter.all false
set_option maxHeartbeats 16000000
set_option maxRecDepth 100000
namespace Go.Proofs.YtehcoffbiplphaaGreat
open Go.Proofs.Tryz
open aG Go.RowKit
variable {w0 w:World} {D M De DF:Nat->Nat} {k g n K i m h le He HF L H d B e x y z j:Nat} {Dm:Nat->Nat->Nat} {a b:Value} {c nn most:Int}
def eC {w':World}(h:Below w0.heap.size w0 w) (b:Below w.heap.size w w'):Below w0.heap.size w0 w':=h.tm b
def kJ:∀{n:Nat} {D E:Nat->Nat},(∀j,D j<=E j)->aI.j6 (Pn n) D<=aI.j6 (Pn n) E
 | 0,_,_,_=>aK
 | n+1,D,E,h=>dN (pR (h 0)) (kJ fun j=>h (j+1))
def Poly.Xg {R:Type} [aI R] {p:Poly R} (h:mX D p) (hk:k+1<=p.len):mX D (mono k p.lc):=⟨fun i hi=>by
 have h8:=bU h.1;rw [dV,af (by omega)],fun i=>by
 rw [dV];split
 . exact h.2 _
 . exact aI.fQ _⟩
def tJ (n K:Nat) (D E:Nat->Nat) (x y:Pn (n+1)):Prop:=aI.dg D x∧aI.dg E y∧(∀j,D j+((kids x).len+2)*E j<1000000000000)∧aI.nm y<2^(64*K)∧(2*aI.nm y)^((kids x).len+1-(kids y).len)*aI.nm x<2^(64*K)∧aI.j6 (Pn (n+1)) (fun j=>D j+((kids x).len+2)*E j)*aI.j6 (Pn (n+1)) E<=1000000000000
section
variable {n K : Nat} {D E : Nat -> Nat} {x y p : Pn (n + 1)} {k : Nat}
def tJ.q (h:tJ n K D E x y):ir (n+1) K y:=by
 obtain ⟨h1,h2,h3,h4,h5,h6⟩:=h;exact ⟨E,h2,aH (iT _ (aI.nN _)) h6,fun j=>by
  have h7:=h3 j;have h8:1*E j<=((kids x).len+2)*E j:=bI _ (by omega);omega,h4⟩
def tJ.pw (h:tJ n K D E x y) (hy:y≠0) (hI:Poly.RI (kids x) (kids y) D E k (kids p)) {r:Nat}(hr:k+r<=(kids x).len+1-(kids y).len):(2*aI.nm y)^r*aI.nm p<2^(64*K):=by
 have h1:aI.nm p<=(2*aI.nm y)^k*aI.nm x:=hI.nm;have h2:1<=aI.nm y:=aI.rC y hy;refine aR ?_ h.2.2.2.2.1;refine aH (bl _ h1) ?_;rw [<- cn,<- iH];exact bI _ (fM (by omega) (by omega))
def tJ.pp (h:tJ n K D E x y) (hy:y≠0) (hI:Poly.RI (kids x) (kids y) D E k (kids p)):ir (n+1) K p:=by
 have hk:k<=(kids x).len:=by have:=hI.len;omega
 have h5:aI.nm p<2^(64*K):=by
  have h6:=h.pw hy hI (r:=0) (by rcases hI.rounds with e | e<;>omega);rwa [wH,bP] at h6
 obtain ⟨h1,h2,h3,h4,_,h6⟩:=h;have le:∀j,D j+k*E j<=D j+((kids x).len+2)*E j:=fun j=>JG (bI _ (by omega)) _;exact ⟨fun j=>D j+k*E j,hI.dg,aH (kJ le) (aH (jP _ (aI.nN _)) h6),fun j=>aR (le j) (h3 j),h5⟩
def ir.neg {m K:Nat} {f:Pn m}(h:ir m K f):ir m K (-f):=by
 obtain ⟨D,h1,h2,h3,h4⟩:=h;exact ⟨D,aI.EB _ _ h1,h2,h3,by rw [aI.zN];exact h4⟩
def aqq {f:Pn (n+1)}(h:aI.dg E f):aI.dg (fun j=>E (j+1)) (kids f).lc:=(show Poly.mX E (kids f) from h).2 _
def ZL (f:Pn (n+1)):aI.nm (kids f).lc<=aI.nm f:=Poly.rD (kids f) _
def tJ.step (h:tJ n K D E x y) (hy:y≠0) (hI:Poly.RI (kids x) (kids y) D E k (kids p)) (hl:(kids y).len<=(kids p).len):
 jQ (n+1) K p (mkK (Poly.C (kids y).lc))∧jQ (n+1) K (mkK (Poly.mono ((kids p).len-(kids y).len) (kids p).lc)) y∧aI.nm (p*mkK (Poly.C (kids y).lc))+aI.nm (-(mkK (Poly.mono ((kids p).len-(kids y).len) (kids p).lc)*y))<2^(64*K)∧ir (n+1) K (p*mkK (Poly.C (kids y).lc))∧ir (n+1) K (mkK (Poly.mono ((kids p).len-(kids y).len) (kids p).lc)*y)∧ir n K (kids p).lc:=by
 have hy':(kids y)≠0:=fun e=>hy e;have hly:=Poly.cH hy';have hk:k<(kids x).len:=by have:=hI.len;omega
 have Rv:k+1<=(kids x).len+1-(kids y).len:=by have:=hI.len;omega
 have pP:=h.pp hy hI;have n1:=h.pw hy hI Rv;rw [S4] at n1;have ny:1<=aI.nm y:=aI.rC y hy;obtain ⟨h1,h2,h3,h4,_,h6⟩:=h;have dP:Poly.mX (fun j=>D j+k*E j) (kids p):=hI.dg;have nP:aI.nm p<2^(64*K):=by obtain ⟨_,_,_,_,h⟩:=pP;exact h
 have nC:aI.nm (mkK (Poly.C (kids y).lc))<=aI.nm y:=by rw [Wi];exact ZL y
 have nM:aI.nm (mkK (Poly.mono ((kids p).len-(kids y).len) (kids p).lc))<=aI.nm p:=aH (Poly.yJ (R:=Pn n) _ (kids p).lc) (ZL p);have le:∀j,D j+k*E j<=D j+((kids x).len+2)*E j:=fun j=>JG (bI _ (by omega)) _;have jy:∀j,(D j+k*E j)+E j<=D j+((kids x).len+2)*E j:=fun j=>by
  have h7:k*E j+E j<=((kids x).len+2)*E j:=by
   have:(k+1)*E j<=((kids x).len+2)*E j:=bI _ (by omega);rwa [bQ,bP] at this
  omega
 have sE:∀j,D j+k*E j+E j<1000000000000:=fun j=>aR (jy j) (h3 j);have two:2*(aI.nm p*aI.nm y)<2^(64*K):=by
  have e:2*aI.nm y*aI.nm p=2*(aI.nm p*aI.nm y):=by rw [cn,aq (aI.nm y)]
  rwa [e] at n1
 have v1:aI.j6 (Pn (n+1)) (fun j=>D j+k*E j)*aI.j6 (Pn (n+1)) E<=1000000000000:=aH (bI _ (kJ le)) h6;have dC:aI.dg E (mkK (Poly.C (kids y).lc)):=aI.jk _ _ _ (fun j=>by cases j with | zero=>exact dc _ | succ j=>exact aK) (abo (aqq h2));have dM:aI.dg (fun j=>D j+k*E j) (mkK (Poly.mono ((kids p).len-(kids y).len) (kids p).lc)):=(show Poly.mX _ (kids (mkK _)) from Poly.Xg dP (by omega));have m1:aI.nm p*aI.nm (mkK (Poly.C (kids y).lc))<=aI.nm p*aI.nm y:=bl _ nC;have m2:aI.nm (mkK (Poly.mono ((kids p).len-(kids y).len) (kids p).lc))*aI.nm y<=aI.nm p*aI.nm y:=bI _ nM;have p1:=aI.mV p (mkK (Poly.C (kids y).lc));have p2:=aI.mV (mkK (Poly.mono ((kids p).len-(kids y).len) (kids p).lc)) y;have vv:∀F:Nat->Nat,(∀j,F j<=D j+((kids x).len+2)*E j)->aI.j6 (Pn (n+1)) F<=1000000000000:=fun F hF=>aH (kJ hF) (aH (jP _ (aI.nN _)) h6);refine ⟨⟨_,E,dP,dC,sE,nP,aR nC h4,by omega,v1⟩,⟨_,E,dM,h2,sE,aR nM nP,h4,by omega,v1⟩,?_,⟨_,aI.jb _ _ _ _ dP dC,vv _ jy,fun j=>sE j,by omega⟩,⟨_,aI.jb _ _ _ _ dM h2,vv _ jy,fun j=>sE j,by omega⟩,⟨fun j=>D (j+1)+k*E (j+1),dP.2 _,?_,fun j=>by have:=sE (j+1);show D (j+1)+k*E (j+1)<_;omega,aR (ZL p) nP⟩⟩
 . rw [aI.zN]
   omega
 . refine aH ?_ (vv _ le)
   show aI.j6 (Pn n) _<=(D 0+k*E 0+1)*aI.j6 (Pn n) _;exact iT _ (by omega)
end
def adK (i m K:Nat) (hK:K<=3690000000000) (hn:i+(m+1)<=6) (f q:Pn (m+1)) (D E:Nat->Nat) (w:World) (u v:Value) (hf:Rw w u i (m+1) f) (hq:Rw w v i (m+1) q) (q0:q≠0) (fit:tJ m K D E f q):
 aC 63 #[u,v,.int .i64 (i:Int)] w (fun e w'=>∃r k,Poly.RI (kids f) (kids q) D E k (kids r)∧(kids r).len<(kids q).len∧oA w i (m+1) r e w'):=by
 have q0':kids q≠0:=fun e=>q0 e;obtain ⟨dq,hdq⟩:∃dq,(kids q).len=dq+1:=⟨(kids q).len-1,by have:=Poly.cH q0';omega⟩;have C1:Hid (aC 94 #[v,.int .i64 (i:Int)] w fun e w'=>e=.returned (.int .i64 (dq:Int))∧w'=w):=by
  have h:=Lt hn fit.q hq;rw [hdq] at h;have e:(((dq+1:Nat):Int)-1)=(dq:Int):=by omega
  rwa [e] at h
 have C2:Hid (aC 95 #[v,.int .i64 (i:Int),.int .i64 (dq:Int)] w (oA w (i+1) m (kids q).lc)):=by
  have h:=Lu (by omega) hn fit.q hq dq;have e:(kids q).co dq=(kids q).lc:=by unfold Poly.lc;rw [hdq,vt]
  rwa [e] at h
 have I0:=aA (Poly.RI.start (kids f) (kids q) E (D:=D) fit.1);have HF:=aA hf;have HQ:=aA hq;have Fit:=aA fit;have Hdq:=aA hdq;have hdl:dq<=1000000000000:=by
  obtain ⟨E',h1,_,h3,_⟩:=fit.q;have h4:=Poly.bU (show Poly.mX E' (kids q) from h1).1;have h5:=h3 0;omega
 have th:∀(p:Pn (m+1)) (k:Nat),Poly.RI (kids f) (kids q) D E k (kids p)->(kids p).len<=1000000000000:=fun p k h=>by
  obtain ⟨E',h1,_,h3,_⟩:=fit.pp q0 h;have h4:=Poly.bU (show Poly.mX E' (kids p) from h1).1;have h5:=h3 0;omega
 have Hpl:=aA th;clear hf hq fit hdq th q0';go_enter func63,ntmps63
 obtain ⟨wo,rfl⟩:∃wo:World,wo=w:=⟨_,rfl⟩;go_wp2_with fail
 refine C1.o.mono ?_;rintro e w1 ⟨rfl,h9⟩;obtain rfl:=h9.symm;go_wp2_with fail
 refine C2.o.mono ?_;rintro e wt ⟨vl,rfl,hRl,Mn⟩;have HL:=aA hRl;have HBt:=aA Mn;have B0:=aA (Below.refl wt.heap.size wt);have HFt:=aA (HF.o.aB Mn);clear hRl Mn C1 C2;go_wp2_with fail
 go_loopg [0] ((kids f).len+1) (fun gk s0 wr=>∃(p:Pn (m+1)) (k:Nat),(kids p).len<gk∧Hid (Poly.RI (kids f) (kids q) D E k (kids p))∧Hid (Rw wr s0 i (m+1) p)∧Hid (Below wt.heap.size wt wr))
 case atStart=>exact ⟨f,0,by omega,I0,HFt,B0⟩
 case round=>
  clear I0 HFt B0;obtain ⟨p,k,hg,hI,hR,hB⟩:=hrel;obtain ⟨wp,rfl⟩:∃wp:World,wp=wr:=⟨_,rfl⟩;by_cases hlt:(kids q).len<=(kids p).len
  . obtain ⟨dp,hdp⟩:∃dp,(kids p).len=dp+1:=⟨(kids p).len-1,by have:=Hdq.o;omega⟩
    have th:=Hpl.o p k hI.o;have fp:=Fit.o.pp q0 hI.o;obtain ⟨f1,f2,f3,f4,f5,f6⟩:=Fit.o.step q0 hI.o hlt;(have hd:(kids p).len-(kids q).len=dp-dq:=by have:=Hdq.o;omega);rw [hd] at f2 f3 f5;have Cd:Hid (aC 94 #[u0,.int .i64 (i:Int)] wp fun e w'=>e=.returned (.int .i64 (dp:Int))∧w'=wp):=by
     have h:=Lt hn fp hR.o;rw [hdp] at h;(have e:(((dp+1:Nat):Int)-1)=(dp:Int):=by omega);rwa [e] at h
    have Cc:Hid (aC 95 #[u0,.int .i64 (i:Int),.int .i64 (dp:Int)] wp (oA wp (i+1) m (kids p).lc)):=by
     have h:=Lu (by omega) hn fp hR.o dp;(have e:(kids p).co dp=(kids p).lc:=by unfold Poly.lc;rw [hdp,vt]);rwa [e] at h
    have Cu:Hid (∀V x,Rw V x (i+1) m (kids p).lc->aC 97 #[x,.int .i64 (i:Int),.int .i64 ((dp-dq:Nat):Int)] V (oA V i (m+1) (mkK (Poly.mono (dp-dq) (kids p).lc)))):=fun V x h=>anm (by omega) hn f6 h (dp-dq) (by omega);have CT1:Hid (∀V,Below wp.heap.size wp V->aC 64 #[u0,vl] V (oA V i (m+1) (p*mkK (Poly.C (kids q).lc)))):=fun V h=>GW hK hn f1 (hR.o.aB h) ((HL.o.aB (eC hB.o h)).C);have CT2:Hid (∀V x,Below wp.heap.size wp V->Rw V x i (m+1) (mkK (Poly.mono (dp-dq) (kids p).lc))->aC 64 #[x,v] V (oA V i (m+1) (mkK (Poly.mono (dp-dq) (kids p).lc)*q))):=fun V x h h2=>GW hK hn f2 h2 (HQ.o.aB (eC (HBt.o.tm hB.o) h));have CS:Hid (∀V x s B k d zs,Rw V x i (m+1) (mkK (Poly.mono (dp-dq) (kids p).lc)*q)->aD V B k zs->k<=1->k<=d->d<=9223372036854775807->aF s zs= -1->aC 91 #[x,.agg #[.bool s,.slice B k d]] V (oA V i (m+1) (-(mkK (Poly.mono (dp-dq) (kids p).lc)*q)))):=fun V x s B k d zs h1 h2 h3 h4 h5 h6=>aiE (by omega) hn f5 h1 h2 h3 h4 h5 h6;have CA:Hid (∀V x y,Rw V x i (m+1) (p*mkK (Poly.C (kids q).lc))->Rw V y i (m+1) (-(mkK (Poly.mono (dp-dq) (kids p).lc)*q))->aC 59 #[x,y] V (oA V i (m+1) (p*mkK (Poly.C (kids q).lc)+ -(mkK (Poly.mono (dp-dq) (kids p).lc)*q)))):=fun V x y h1 h2=>YY (by omega) hn f4 f5.neg f3 h1 h2;have hN:Hid (Poly.RI (kids f) (kids q) D E (k+1) (Poly.Jf (kids q) (kids p))∧(Poly.Jf (kids q) (kids p)).len+1<=(kids p).len):=by
     have q0':kids q≠0:=fun e=>q0 e;have h1:=Poly.bU (Poly.L4 q0' hlt);exact ⟨hI.o.next q0' (show Poly.mX E (kids q) from Fit.o.2.1) hlt,by omega⟩
    have e9:Hid (p*mkK (Poly.C (kids q).lc)+ -(mkK (Poly.mono (dp-dq) (kids p).lc)*q)=mkK (Poly.Jf (kids q) (kids p))):=by
     show _=kids p*Poly.C (kids q).lc-Poly.mono ((kids p).len-(kids q).len) (kids p).lc*kids q;rw [hd];exact (aG.sub_def _ _).symm
    (have ew:IntKind.i64.wrap ((dp:Int)-(dq:Int))=((dp-dq:Nat):Int):=by have:=Hdq.o;rw [bR _ (by omega)];omega);(have wZ:(dq:Int)<=(dp:Int):=by have:=Hdq.o;omega);have Nj:=aA hg;clear f1 f2 f3 f4 f5 f6 fp hI hd hdp hlt hR hg;(go_wp2_with fail);refine Cd.o.mono ?_;rintro e w2 ⟨rfl,h9⟩;obtain rfl:=h9.symm;(go_wp2_with fail);refine Cd.o.mono ?_;rintro e w2 ⟨rfl,h9⟩;obtain rfl:=h9.symm;(go_wp2_with fail);refine Cc.o.mono ?_;rintro e w2 ⟨x2,rfl,r2,b2⟩;have Cu2:=aA (Cu.o w2 x2 r2);clear r2 Cd Cc Cu;(go_wp2_with fail);refine Cu2.o.mono ?_;rintro e w3 ⟨x3,rfl,r3,b3⟩;have b4:=aA (b2.tm b3);have R3:=aA r3;clear r3 b2 b3 Cu2;(go_wp2_with fail);refine (CT1.o w3 b4.o).mono ?_;rintro e w4 ⟨x4,rfl,r4,b5⟩;have b6:=aA (eC b4.o b5);have CT:=aA (CT2.o w4 x3 b6.o (R3.o.aB b5));have R4:=aA r4;clear r4 b5 R3 CT1 CT2 b4;(go_wp2_with fail);refine CT.o.mono ?_;rintro e w5 ⟨x5,rfl,r5,b7⟩;have b8:=aA (eC b6.o b7);have R5:=aA r5;have R6:=aA (R4.o.aB b7);clear r5 b7 R4 CT b6;(go_wp2_with fail);refine (Yf w5).mono ?_;rintro e w6 ⟨s3,A3,k3,c3,l3,rfl,o1,o2,o3,o4,o5,o6⟩;have b9:=aA (eC b8.o o6);have CS':=aA (CS.o w6 x5 s3 A3 k3 c3 l3 (R5.o.aB o6) o4 o3 o1 o2 o5.eq);have R7:=aA (R6.o.aB o6);clear o4 o5 o6 R5 R6 CS b8;(go_wp2_with fail);refine CS'.o.mono ?_;rintro e w7 ⟨x7,rfl,r7,b10⟩;have b11:=aA (eC b9.o b10);have CA':=aA (CA.o w7 x4 x7 (R7.o.aB b10) r7);clear r7 b10 R7 CA CS' b9;(go_wp2_with fail);refine CA'.o.mono ?_;rintro e w8 ⟨x8,rfl,r8,b12⟩;have HR:Hid (Rw w8 x8 i (m+1) (mkK (Poly.Jf (kids q) (kids p)))):=by
     show Rw _ _ _ _ _;rw [<- e9.o];exact r8
    have GI:Hid (Below wt.heap.size wt w8):=eC hB.o (eC b11.o b12);clear r8 b12 CA' e9 b11;(go_wp2_with fail);go_roundg (gk-1)
    case measure=>have:=Nj.o;omega
    case rel=>exact ⟨mkK (Poly.Jf (kids q) (kids p)),k+1,by have:=hN.o.2;have:=Nj.o;show (Poly.Jf (kids q) (kids p)).len<gk-1;omega,hN.o.1,HR,GI⟩
  . obtain ⟨z,hz⟩:∃z:Int,((kids p).len:Int)-1=z:=⟨_,rfl⟩
    have Cd:Hid (aC 94 #[u0,.int .i64 (i:Int)] wp fun e w'=>e=.returned (.int .i64 z)∧w'=wp):=by
     have h:=Lt hn (Fit.o.pp q0 hI.o) hR.o;rwa [hz] at h
    (have wZ:¬(dq:Int)<=z:=by have:=Hdq.o;omega);have F:Hid (∃r k,Poly.RI (kids f) (kids q) D E k (kids r)∧(kids r).len<(kids q).len∧oA wo i (m+1) r (.returned u0) wp):=⟨p,k,hI.o,by omega,u0,rfl,hR.o,HBt.o.tm hB.o⟩;clear hz hI hR hlt hg;(go_wp2_with fail);refine Cd.o.mono ?_;rintro e w2 ⟨rfl,h9⟩;obtain rfl:=h9.symm;(go_wp2_with fail);go_ret;exact F.o
def sX {g':Nat} {o:Obj}(h:w.heap[g]? =some o) (hne:g≠g') (a b c:Value):(((w.setCell ⟨g',0,none⟩ a).setCell ⟨g',1,none⟩ b).setCell ⟨g',2,none⟩ c).heap[g]? =some o:=by
 have h1:(w.setCell ⟨g',0,none⟩ a).heap[g]? =w.heap[g]? :=EJ w ⟨g',0,none⟩ a g hne;have h2:((w.setCell ⟨g',0,none⟩ a).setCell ⟨g',1,none⟩ b).heap[g]? =(w.setCell ⟨g',0,none⟩ a).heap[g]? :=EJ _ ⟨g',1,none⟩ b g hne;have h3:(((w.setCell ⟨g',0,none⟩ a).setCell ⟨g',1,none⟩ b).setCell ⟨g',2,none⟩ c).heap[g]? =((w.setCell ⟨g',0,none⟩ a).setCell ⟨g',1,none⟩ b).heap[g]? :=EJ _ ⟨g',2,none⟩ c g hne;rw [h3,h2,h1];exact h
def acC (n K:Nat) (x:Pn (n+1)) (g:Pn n):Prop:=∃D E:Nat->Nat,aI.dg D x∧aI.dg E g∧D 0<1000000000000∧(∀j,D (j+1)+E j<1000000000000)∧aI.nm x<2^(64*K)∧aI.nm g<2^(64*K)∧aI.nm x*aI.nm g<2^(64*K)∧aI.j6 (Pn (n+1)) D*aI.j6 (Pn n) E<=1000000000000
def U9 {a b:Pn 0} {u v:Nat}(hu:u=(vG a).natAbs) (hv:v=(vG b).natAbs):nL (X6 ((Nat.gcd u v:Nat):Int)) a b:=by
 subst hu;subst hv;have key:∀(d x:Int),(∃c:Int,x=d*c)↔d.natAbs∣x.natAbs:=fun d x=>by
  rw [acd];exact Iff.rfl
 refine ⟨(key _ _).2 ?_,(key _ _).2 ?_,fun d h1 h2=>(key _ _).2 ?_⟩
 . show ((Nat.gcd _ _:Nat):Int).natAbs∣_
   rw [EL];exact Nat.gcd_dvd_left _ _
 . show ((Nat.gcd _ _:Nat):Int).natAbs∣_
   rw [EL];exact Nat.gcd_dvd_right _ _
 . show _∣((Nat.gcd _ _:Nat):Int).natAbs
   rw [EL];exact Nat.dvd_gcd ((key _ _).1 h1) ((key _ _).1 h2)
def yb (n:Nat) (f:Pn (n+1)):Prop:=(kids f).len<=1000000000000∧(∀m c,m<(kids f).len->QU (kids f).co m c->wM n c ((kids f).co m))∧∃K,K<=3690000000000∧ir (n+1) K f
structure Nc (n K:Nat) (a b:Pn (n+1)) (I:Pn (n+1)->Pn (n+1)->Prop):Prop where
 ca:yb n a
 cb:yb n b
 by1:∀c z,Poly.Cont c (kids a)->kids a=Poly.C c*kids z->jQ (n+1) K z (mkK (Poly.C c))
 by2:∀c z,Poly.Cont c (kids b)->kids b=Poly.C c*kids z->jQ (n+1) K z (mkK (Poly.C c))
 st:∀c d x y,Poly.Cont c (kids a)->Poly.Cont d (kids b)->kids a=Poly.C c*kids x->kids b=Poly.C d*kids y->I x y
 rs:∀x y,I x y->y≠0->∃D E,tJ n K D E x y∧∀r k,Poly.RI (kids x) (kids y) D E k (kids r)->(kids r).len<(kids y).len->(r=0->I y 0)∧(r≠0->yb n r∧∀c z,Poly.Cont c (kids r)->kids r=Poly.C c*kids z->jQ (n+1) K z (mkK (Poly.C c))∧I y z)
 gc:∀c d,Poly.Cont c (kids a)->Poly.Cont d (kids b)->wM n c d
 fin:∀c d g x,I x 0->Poly.Cont c (kids a)->Poly.Cont d (kids b)->nL g c d->g≠0∧nL (x*mkK (Poly.C g)) a b∧acC n K x g
def Zl (K:Nat) (hK:K<=3900000000000) (a b:Pn 0) (na:aI.nm a<2^(64*K)) (nb:aI.nm b<2^(64*K)):ags 0 a b:=by
 intro S w u v hf hg;obtain ⟨s,A,k,c,xs,rfl,h1,h2,h3,h4,_⟩:=hf;obtain ⟨t,B,m,d,ys,rfl,i1,i2,i3,i4,_⟩:=hg;have hk:k<=K:=by have h5:=h4.cap (K:=K) na;have h6:=h3.len;omega
 have hm:m<=K:=by have h5:=i4.cap (K:=K) nb;have h6:=i3.len;omega
 have hG:Hid (nL (X6 ((Nat.gcd (limbs xs) (limbs ys):Nat):Int)) a b):=U9 (by rw [<- h4.eq];unfold aF;cases s<;>simp) (by rw [<- i4.eq];unfold aF;cases t<;>simp);have Cs:=aA (fun W (hW:Below w.heap.size w W)=>ana s t A B k m c d xs ys W (h3.aB hW) (i3.aB hW) h1 h2 i1 i2 (by omega) (by omega));have hb:Below w.heap.size w (((w.alloc (.cells #[.bool s,.slice A k c,.slice none 0 0] 51)).alloc (.cells #[.bool t,.slice B m d,.slice none 0 0] 51)).alloc (.cells #[.bool false,.slice none 0 0,.slice none 0 0] 51)):=((aW.alloc aK _).alloc (by simp) _).alloc (by simp;omega) _;have t2:=aa.new ((w.alloc (.cells #[.bool s,.slice A k c,.slice none 0 0] 51)).alloc (.cells #[.bool t,.slice B m d,.slice none 0 0] 51)) (.bool false) (.slice none 0 0) (.slice none 0 0);rw [aJ,aJ] at t2;have T2:=aA t2;have HB:=aA hb;clear h3 h4 i3 i4 na nb hb t2;generalize ((Nat.gcd (limbs xs) (limbs ys):Nat):Int)=gz at*
 unfold bG;show Calls _ _ #[.int .i64 0,_,_] _ _;go_enter func27,ntmps27
 go_wp2_with fail
 refine (Cs.o _ (by exact HB.o)).mono ?_;rintro e w1 ⟨s1,A1,k1,c1,ls,rfl,q1,q2,_,q4,q5,q6,dH⟩;have T3:=aA (T2.o.aB dH);have r0:=T3.o.cell0;have r1:=T3.o.cell1;have r2:=T3.o.aP;have r3:=T3.o.frozen 0;have r4:=T3.o.frozen 1;have r5:=T3.o.frozen 2;have hs3:w.heap.size+1+1+1<=(((w.alloc (.cells #[.bool s,.slice A k c,.slice none 0 0] 51)).alloc (.cells #[.bool t,.slice B m d,.slice none 0 0] 51)).alloc (.cells #[.bool false,.slice none 0 0,.slice none 0 0] 51)).heap.size:=by simp
 have F:Hid (aO (fun b=>S b∨w.heap.size<=b) 0 (((w1.setCell ⟨w.heap.size+1+1,0,none⟩ (.bool s1)).setCell ⟨w.heap.size+1+1,1,none⟩ (.slice A1 k1 c1)).setCell ⟨w.heap.size+1+1,2,none⟩ (.slice none 0 0)) (bG s1 A1 k1 c1 none 0 0) (X6 gz)):=
  aO.num q1 q2 (lV q4 (aZ w1 (w.heap.size+1+1) _ _ _) fun h0 y hy e=>by have:=q6 h0 y hy;omega) q5 fun h0 y hy=> .inr (by have:=q6 h0 y hy;omega)
 have cU:Below w.heap.size w w1:=HB.o.tm dH;have pL:=aA (gG cU (show w.heap.size<=w.heap.size+1+1 by omega) (.bool s1) (.slice A1 k1 c1) (.slice none 0 0));clear q4 q5 q6 dH Cs hs3 HB cU;go_wp2_with fail
 exact ax (v:=.agg #[.bool s1,.slice A1 k1 c1,.slice none 0 0]) (cI (fn:=Tryz.f27) rfl _ _ _ _ _ _ _ rfl (T3.o.set (.bool s1) (.slice A1 k1 c1) (.slice none 0 0)) underlying51 rfl cm) rfl
  ⟨_,hG.o,s1,A1,k1,c1,none,0,0,rfl,F.o,pL.o⟩
def Zj (n:Nat) (hn:n<=97) (a b:Pn (n+1)) (h0:a=0∨b=0):ags (n+1) a b:=by
 intro S w u v hf hg;rw [k9];show Calls _ _ #[.int .i64 ((n:Int)+1),_,_] _ _;obtain ⟨Ba,ca,rfl,_,_,h3⟩:=id hf;obtain ⟨Bb,cb,rfl,_,_,i3⟩:=id hg;clear h3 i3;obtain ⟨la,si⟩:∃la:Nat,(kids a).len=la:=⟨_,rfl⟩;obtain ⟨lb,wF⟩:∃lb:Nat,(kids b).len=lb:=⟨_,rfl⟩;have D8:=hf.here;have FE:=hg.here;rw [si] at D8;rw [wF] at FE;have iQ:(((n:Int)+1)==0)=false:=jD.2 (by omega);have ew:IntKind.i64.wrap ((n:Int)+1-1)=(n:Int):=by rw [bR _ (by omega)];omega
 have ew2:IntKind.i64.wrap (n:Int)=(n:Int):=bR _ (by omega);have t0:=((aa.new w (.bool false) (.slice none 0 0) (.slice Ba la ca)).aB (aW.alloc aK (.cells #[.bool false,.slice none 0 0,.slice Bb lb cb] 51))).aB (aW.alloc aK (.cells #[.bool false,.slice none 0 0,.slice none 0 0] 51));have t1:=(aa.new (w.alloc (.cells #[.bool false,.slice none 0 0,.slice Ba la ca] 51)) (.bool false) (.slice none 0 0) (.slice Bb lb cb)).aB (aW.alloc aK (.cells #[.bool false,.slice none 0 0,.slice none 0 0] 51));have t2:=aa.new ((w.alloc (.cells #[.bool false,.slice none 0 0,.slice Ba la ca] 51)).alloc (.cells #[.bool false,.slice none 0 0,.slice Bb lb cb] 51)) (.bool false) (.slice none 0 0) (.slice none 0 0);rw [aJ] at t1;rw [aJ,aJ] at t2;have hb:Below w.heap.size w (((w.alloc (.cells #[.bool false,.slice none 0 0,.slice Ba la ca] 51)).alloc (.cells #[.bool false,.slice none 0 0,.slice Bb lb cb] 51)).alloc (.cells #[.bool false,.slice none 0 0,.slice none 0 0] 51)):=((aW.alloc aK _).alloc (by simp) _).alloc (by simp;omega) _;have hsz:(((w.alloc (.cells #[.bool false,.slice none 0 0,.slice Ba la ca] 51)).alloc (.cells #[.bool false,.slice none 0 0,.slice Bb lb cb] 51)).alloc (.cells #[.bool false,.slice none 0 0,.slice none 0 0] 51)).heap.size=w.heap.size+1+1+1:=by simp
 have CN:Hid (∀V,Below w.heap.size w V->aC 51 #[.agg #[.bool false,.slice none 0 0,.slice Ba la ca],.int .i64 ((n:Int)+1)] V (Says V (a=0))):=fun V hV=>sW _ n V _ a (D8.aB hV);have CM:Hid (∀V,Below w.heap.size w V->aC 51 #[.agg #[.bool false,.slice none 0 0,.slice Bb lb cb],.int .i64 ((n:Int)+1)] V (Says V (b=0))):=fun V hV=>sW _ n V _ b (FE.aB hV);have HFw:=aA (D8.aB hb);have HGw:=aA (FE.aB hb);clear hf hg D8 FE;unfold bG;rw [si,wF];go_enter func27,ntmps27
 go_wp2_with fail
 generalize kj:((w.alloc (.cells #[.bool false,.slice none 0 0,.slice Ba la ca] 51)).alloc (.cells #[.bool false,.slice none 0 0,.slice Bb lb cb] 51)).alloc (.cells #[.bool false,.slice none 0 0,.slice none 0 0] 51)=wt at*
 clear kj;have T0:=aA t0;have T1:=aA t1;have T2:=aA t2;have HB:=aA hb;clear t0 t1 t2 hb;refine (CN.o _ HB.o).mono ?_;rintro e w1 ⟨ra,rfl,hra,dH⟩;have zz:=aA (HB.o.tm dH);have P0:=aA (T0.o.aB dH);have P1:=aA (T1.o.aB dH);have P2:=aA (T2.o.aB dH);have HF1:=aA (HFw.o.aB dH);have HG1:=aA (HGw.o.aB dH);have tZ:=dH.size;by_cases ha:a=0
 . obtain rfl:ra=true:=hra.2 ha
   have a0:=P1.o.cell0;have a1:=P1.o.cell1;have a2:=P1.o.aP;have r0:=P2.o.cell0;have r1:=P2.o.cell1;have r2:=P2.o.aP;have r3:=P2.o.frozen 0;have r4:=P2.o.frozen 1;have r5:=P2.o.frozen 2;have F:Hid (aO (fun b=>S b∨w.heap.size<=b) (n+1) (((w1.setCell ⟨w.heap.size+1+1,0,none⟩ (.bool false)).setCell ⟨w.heap.size+1+1,1,none⟩ (.slice none 0 0)).setCell ⟨w.heap.size+1+1,2,none⟩ (.slice Bb lb cb)) (.agg #[.bool false,.slice none 0 0,.slice Bb lb cb]) b):=
    aO.only (aZ w1 (w.heap.size+1+1) _ _ _) (fun b hb e=>by have:=hb.2;omega) (fun b hb=> .inl hb.1) HG1.o
   have pL:=aA (gG zz.o (show w.heap.size<=w.heap.size+1+1 by omega) (.bool false) (.slice none 0 0) (.slice Bb lb cb));have hG:Hid (nL b a b):=by
    rw [ha];exact (Poly.BZ b).symm
   clear hra dH HF1 HG1;go_wp2_with fail
   exact ax (v:=.agg #[.bool false,.slice none 0 0,.slice Bb lb cb]) (cI (fn:=Tryz.f27) rfl _ _ _ _ _ _ _ rfl (P2.o.set (.bool false) (.slice none 0 0) (.slice Bb lb cb)) underlying51 rfl cm) rfl
    ⟨b,hG.o,false,none,0,0,Bb,lb,cb,rfl,F.o,pL.o⟩
 . obtain rfl:ra=false:=by cases ra with
    | false=>rfl
    | true=>exact absurd (hra.1 rfl) ha
   have VI:b=0:=h0.resolve_left ha;have a0:=P1.o.cell0;have a1:=P1.o.cell1;have a2:=P1.o.aP;clear hra dH;go_wp2_with fail
   refine (CM.o _ zz.o).mono ?_;rintro e w2 ⟨rb,rfl,hrb,cU⟩;obtain rfl:rb=true:=hrb.2 VI;have GI:=aA (zz.o.tm cU);have Q0:=aA (P0.o.aB cU);have Q2:=aA (P2.o.aB cU);have HF2:=aA (HF1.o.aB cU);have c0:=Q0.o.cell0;have c1:=Q0.o.cell1;have c2:=Q0.o.aP;have r0:=Q2.o.cell0;have r1:=Q2.o.cell1;have r2:=Q2.o.aP;have r3:=Q2.o.frozen 0;have r4:=Q2.o.frozen 1;have r5:=Q2.o.frozen 2;have F:Hid (aO (fun b=>S b∨w.heap.size<=b) (n+1) (((w2.setCell ⟨w.heap.size+1+1,0,none⟩ (.bool false)).setCell ⟨w.heap.size+1+1,1,none⟩ (.slice none 0 0)).setCell ⟨w.heap.size+1+1,2,none⟩ (.slice Ba la ca)) (.agg #[.bool false,.slice none 0 0,.slice Ba la ca]) a):=
    aO.only (aZ w2 (w.heap.size+1+1) _ _ _) (fun b hb e=>by have:=hb.2;omega) (fun b hb=> .inl hb.1) HF2.o
   have pL:=aA (gG GI.o (show w.heap.size<=w.heap.size+1+1 by omega) (.bool false) (.slice none 0 0) (.slice Ba la ca));have hG:Hid (nL a a b):=by
    rw [VI];exact Poly.BZ a
   clear hrb cU HF1 HG1 HF2;go_wp2_with fail
   exact ax (v:=.agg #[.bool false,.slice none 0 0,.slice Ba la ca]) (cI (fn:=Tryz.f27) rfl _ _ _ _ _ _ _ rfl (Q2.o.set (.bool false) (.slice none 0 0) (.slice Ba la ca)) underlying51 rfl cm) rfl
    ⟨a,hG.o,false,none,0,0,Ba,la,ca,rfl,F.o,pL.o⟩
def Zk (n K:Nat) (hK:K<=3900000000000) (hn:n<=97) (a b:Pn (n+1)) (VM:a≠0) (ox:b≠0) (I:Pn (n+1)->Pn (n+1)->Prop) (H:Nc n K a b I):ags (n+1) a b:=by
 intro S w u v hf hg;rw [k9];show Calls _ _ #[.int .i64 ((n:Int)+1),_,_] _ _;obtain ⟨Ba,ca,rfl,_,_,h3⟩:=id hf;obtain ⟨Bb,cb,rfl,_,_,i3⟩:=id hg;clear h3 i3;obtain ⟨la,si⟩:∃la:Nat,(kids a).len=la:=⟨_,rfl⟩;obtain ⟨lb,wF⟩:∃lb:Nat,(kids b).len=lb:=⟨_,rfl⟩;have D8:=hf.here;have FE:=hg.here;rw [si] at D8;rw [wF] at FE;have iQ:(((n:Int)+1)==0)=false:=jD.2 (by omega);have ew:IntKind.i64.wrap ((n:Int)+1-1)=(n:Int):=by rw [bR _ (by omega)];omega
 have ew2:IntKind.i64.wrap (n:Int)=(n:Int):=bR _ (by omega);have t0:=((aa.new w (.bool false) (.slice none 0 0) (.slice Ba la ca)).aB (aW.alloc aK (.cells #[.bool false,.slice none 0 0,.slice Bb lb cb] 51))).aB (aW.alloc aK (.cells #[.bool false,.slice none 0 0,.slice none 0 0] 51));have t1:=(aa.new (w.alloc (.cells #[.bool false,.slice none 0 0,.slice Ba la ca] 51)) (.bool false) (.slice none 0 0) (.slice Bb lb cb)).aB (aW.alloc aK (.cells #[.bool false,.slice none 0 0,.slice none 0 0] 51));have t2:=aa.new ((w.alloc (.cells #[.bool false,.slice none 0 0,.slice Ba la ca] 51)).alloc (.cells #[.bool false,.slice none 0 0,.slice Bb lb cb] 51)) (.bool false) (.slice none 0 0) (.slice none 0 0);rw [aJ] at t1;rw [aJ,aJ] at t2;have hb:Below w.heap.size w (((w.alloc (.cells #[.bool false,.slice none 0 0,.slice Ba la ca] 51)).alloc (.cells #[.bool false,.slice none 0 0,.slice Bb lb cb] 51)).alloc (.cells #[.bool false,.slice none 0 0,.slice none 0 0] 51)):=((aW.alloc aK _).alloc (by simp) _).alloc (by simp;omega) _;have hsz:(((w.alloc (.cells #[.bool false,.slice none 0 0,.slice Ba la ca] 51)).alloc (.cells #[.bool false,.slice none 0 0,.slice Bb lb cb] 51)).alloc (.cells #[.bool false,.slice none 0 0,.slice none 0 0] 51)).heap.size=w.heap.size+1+1+1:=by simp
 have CN:Hid (∀V,Below w.heap.size w V->aC 51 #[.agg #[.bool false,.slice none 0 0,.slice Ba la ca],.int .i64 ((n:Int)+1)] V (Says V (a=0))):=fun V hV=>sW _ n V _ a (D8.aB hV);have CM:Hid (∀V,Below w.heap.size w V->aC 51 #[.agg #[.bool false,.slice none 0 0,.slice Bb lb cb],.int .i64 ((n:Int)+1)] V (Says V (b=0))):=fun V hV=>sW _ n V _ b (FE.aB hV);have HFw:=aA (D8.aB hb);have HGw:=aA (FE.aB hb);clear hf hg D8 FE;unfold bG;rw [si,wF];go_enter func27,ntmps27
 go_wp2_with fail
 generalize kj:((w.alloc (.cells #[.bool false,.slice none 0 0,.slice Ba la ca] 51)).alloc (.cells #[.bool false,.slice none 0 0,.slice Bb lb cb] 51)).alloc (.cells #[.bool false,.slice none 0 0,.slice none 0 0] 51)=wt at*
 clear kj;have T0:=aA t0;have T1:=aA t1;have T2:=aA t2;have HB:=aA hb;clear t0 t1 t2 hb;refine (CN.o _ HB.o).mono ?_;rintro e w1 ⟨ra,rfl,hra,dH⟩;have zz:=aA (HB.o.tm dH);have P0:=aA (T0.o.aB dH);have P1:=aA (T1.o.aB dH);have P2:=aA (T2.o.aB dH);have HF1:=aA (HFw.o.aB dH);have HG1:=aA (HGw.o.aB dH);have tZ:=dH.size;obtain rfl:ra=false:=by cases ra with
  | false=>rfl
  | true=>exact absurd (hra.1 rfl) VM
 have a0:=P1.o.cell0;have a1:=P1.o.cell1;have a2:=P1.o.aP;clear hra dH;go_wp2_with fail
 refine (CM.o _ zz.o).mono ?_;rintro e w2 ⟨rb,rfl,hrb,cU⟩;obtain rfl:rb=false:=by cases rb with
  | false=>rfl
  | true=>exact absurd (hrb.1 rfl) ox
 have GI:=aA (zz.o.tm cU);have Q0:=aA (P0.o.aB cU);have Q1:=aA (P1.o.aB cU);have Q2:=aA (P2.o.aB cU);have HF2:=aA (HF1.o.aB cU);have HG2:=aA (HG1.o.aB cU);have uW:w.heap.size+1+1+1<=w2.heap.size:=by have:=cU.size;omega
 clear hrb cU P0 P1 P2 HF1 HG1 zz HB T0 T1 T2 CN CM a0 a1 a2 HFw HGw tZ;clear hsz;have HH:=aA H;clear H;have YP:=(HF2.o.here).mono (T:=fun b=>((S b∧b<w.heap.size)∨w.heap.size+1+1+1<=b)∧b<w2.heap.size) fun b hb=>⟨.inl hb.1,hb.2⟩;have t_G:=(HG2.o.here).mono (T:=fun b=>((S b∧b<w.heap.size)∨w.heap.size+1+1+1<=b)∧b<w2.heap.size) fun b hb=>⟨.inl hb.1,hb.2⟩;have CK7:Hid (∀(T:Nat->Prop) (V:World),Below w2.heap.size w2 V->aO T (n+1) V (.agg #[.bool false,.slice none 0 0,.slice Ba la ca]) a->aC 52 #[.agg #[.bool false,.slice none 0 0,.slice Ba la ca],.int .i64 ((n:Int)+1)] V (fun e w'=>∃c,Poly.Cont c (kids a)∧bV T V n c e w')):=fun T V _ hv=>Gt n (by omega) T V _ a hv HH.o.ca.1 HH.o.ca.2.1;have CM7:Hid (∀(T:Nat->Prop) (V:World),Below w2.heap.size w2 V->aO T (n+1) V (.agg #[.bool false,.slice none 0 0,.slice Bb lb cb]) b->aC 52 #[.agg #[.bool false,.slice none 0 0,.slice Bb lb cb],.int .i64 ((n:Int)+1)] V (fun e w'=>∃c,Poly.Cont c (kids b)∧bV T V n c e w')):=fun T V _ hv=>Gt n (by omega) T V _ b hv HH.o.cb.1 HH.o.cb.2.1;have qa0:=Q0.o.cell0;have qa1:=Q0.o.cell1;have qa2:=Q0.o.aP;have qb0:=Q1.o.cell0;have qb1:=Q1.o.cell1;have qb2:=Q1.o.aP;go_wp2_with fail
 have BV:Hid (∀V,Below w2.heap.size w2 V->(fun V=>V.cell? ⟨w.heap.size,0,none⟩=some (.bool false)∧V.cell? ⟨w.heap.size,1,none⟩=some (.slice none 0 0)∧V.cell? ⟨w.heap.size,2,none⟩=some (.slice Ba la ca)∧V.cell? ⟨w.heap.size+1,0,none⟩=some (.bool false)∧V.cell? ⟨w.heap.size+1,1,none⟩=some (.slice none 0 0)∧V.cell? ⟨w.heap.size+1,2,none⟩=some (.slice Bb lb cb)) V):=fun V hV=>⟨(Q0.o.aB hV).cell0,(Q0.o.aB hV).cell1,(Q0.o.aB hV).aP,(Q1.o.aB hV).cell0,(Q1.o.aB hV).cell1,(Q1.o.aB hV).aP⟩;go_cut [7,8] (fun s7 s8 wx=>∃(g7 g8:Nat) (cf cg:Pn n) (s1:Bool) (A1:Option Addr) (k1 c1:Nat) (B1:Option Addr) (m1 d1:Nat) (s2:Bool) (A2:Option Addr) (k2 c2:Nat) (B2:Option Addr) (m2 d2:Nat),s7=.pointer (some ⟨g7,0,none⟩)∧s8=.pointer (some ⟨g8,0,none⟩)∧w2.heap.size<=g7∧w2.heap.size<=g8∧Hid (Poly.Cont cf (kids a))∧Hid (Poly.Cont cg (kids b))∧Hid (aa wx g7 (.bool s1) (.slice A1 k1 c1) (.slice B1 m1 d1))∧Hid (aa wx g8 (.bool s2) (.slice A2 k2 c2) (.slice B2 m2 d2))∧Hid (aO (fun b=>(S b∧b<w.heap.size)∨w.heap.size+1+1+1<=b) n wx (.agg #[.bool s1,.slice A1 k1 c1,.slice B1 m1 d1]) cf)∧Hid (aO (fun b=>(S b∧b<w.heap.size)∨w.heap.size+1+1+1<=b) n wx (.agg #[.bool s2,.slice A2 k2 c2,.slice B2 m2 d2]) cg)∧Hid (Below w2.heap.size w2 wx))
 case first=>
  refine gC (S:=fun V=>V.cell? ⟨w.heap.size,0,none⟩=some (.bool false)∧V.cell? ⟨w.heap.size,1,none⟩=some (.slice none 0 0)∧V.cell? ⟨w.heap.size,2,none⟩=some (.slice Ba la ca)∧V.cell? ⟨w.heap.size+1,0,none⟩=some (.bool false)∧V.cell? ⟨w.heap.size+1,1,none⟩=some (.slice none 0 0)∧V.cell? ⟨w.heap.size+1,2,none⟩=some (.slice Bb lb cb)) (z:=9) (by kernel_rfl) ?_;have hHeld:=BV.o _ (Below.refl w2.heap.size w2).drew;try dsimp only at hHeld
  refine tk 9 0 (.agg #[.bool false,.slice none 0 0,.slice Ba la ca]) rfl hHeld ?_;try simp only [fx,Act.put]
  refine tk 9 1 (.int .i64 ((n:Int)+1)) rfl hHeld ?_;try simp only [fx,Act.put]
  refine tk 9 3 (.agg #[.bool false,.slice none 0 0,.slice Bb lb cb]) rfl hHeld ?_;try simp only [fx,Act.put]
  refine tk 9 4 (.int .i64 ((n:Int)+1)) rfl hHeld ?_;try simp only [fx,Act.put]
  have iq:Hid (∀b,w2.heap.size<=b->(fun b=>(S b∧b<w.heap.size)∨w.heap.size+1+1+1<=b) b):=fun b hb=> .inr (by omega);refine pG (w0:=w2) [⟨2,34,2,KT (fun b=>(S b∧b<w.heap.size)∨w.heap.size+1+1+1<=b) n (fun x=>Poly.Cont x (kids a))⟩,⟨5,37,5,KT (fun b=>(S b∧b<w.heap.size)∨w.heap.size+1+1+1<=b) n (fun x=>Poly.Cont x (kids b))⟩,⟨6,7,6,KB w2 6 (.cells #[.bool false,.slice none 0 0,.slice none 0 0] 51) (fun g=> .pointer (some ⟨g,0,none⟩))⟩,⟨7,8,7,KB w2 7 (.cells #[.bool false,.slice none 0 0,.slice none 0 0] 51) (fun g=> .pointer (some ⟨g,0,none⟩))⟩] [2,5,6,7] [34,37,7,8] [8,9] #[true,true,true,true,true,true,true,true,false,false] 2 rfl rfl (by kernel_rfl) rfl rfl (Below.refl w2.heap.size w2).drew (fc KT.keeps (fc KT.keeps (fc KB.keeps (fc KB.keeps (fn))))) (fc ?_ (fc ?_ (fc ?_ (fc ?_ (fn))))) ?_
  . intro L a V B hr hd h
    have r32:=h.old 32 rfl rfl;have r33:=h.old 33 rfl rfl;refine eN rfl fun KK cZ=> ?_;go_simp;refine (CK7.o _ V h.aB (h.tree YP)).mono ?_;rintro e w' ⟨x,hx,s0,A0,k0,c0,B0,m0,d0,rfl,hv,hb⟩;unfold bG;(go_wp2_with fail);exact cZ.o _ _ (BV.o _ (h.aB.tm hb)) (h.put 0 rfl hr hb ⟨_,s0,A0,k0,c0,B0,m0,d0,rfl,hx,h.res iq.o hv⟩)
  . intro L a V B hr hd h
    have r35:=h.old 35 rfl rfl;have r36:=h.old 36 rfl rfl;refine eN rfl fun KK cZ=> ?_;go_simp;refine (CM7.o _ V h.aB (h.tree t_G)).mono ?_;rintro e w' ⟨x,hx,s0,A0,k0,c0,B0,m0,d0,rfl,hv,hb⟩;unfold bG;(go_wp2_with fail);exact cZ.o _ _ (BV.o _ (h.aB.tm hb)) (h.put 1 rfl hr hb ⟨_,s0,A0,k0,c0,B0,m0,d0,rfl,hx,h.res iq.o hv⟩)
  . intro L a V B hr hd h
    refine eN rfl fun KK cZ=> ?_;go_simp;exact cZ.o _ _ (BV.o _ (h.aB.alloc h.aB.size _)) (h.box 2 rfl hr)
  . intro L a V B hr hd h
    refine eN rfl fun KK cZ=> ?_;go_simp;exact cZ.o _ _ (BV.o _ (h.aB.alloc h.aB.size _)) (h.box 3 rfl hr)
  intro a9 wv B h;obtain ⟨_,qK,cf,sK,AK,kK,cK,BK,mK,dK,rfl,eK,tK⟩:=h.get 0 rfl rfl (.inl rfl);obtain ⟨_,qL,cg,sL,AL,kL,cL,BL,mL,dL,rfl,eL,tL⟩:=h.get 1 rfl rfl (.inl rfl);obtain ⟨_,qX,gX,rfl,hX,lX,BX⟩:=h.get 2 rfl rfl (.inl rfl);obtain ⟨_,qY,gY,rfl,hY,lY,BY⟩:=h.get 3 rfl rfl (.inl rfl);have hV:=aA h.aB;have hz9:=h.aB.size;have tK:Hid (aO (fun b=>((S b∧b<w.heap.size)∨w.heap.size+1+1+1<=b)∧b≠gX∧b≠gY) n wv (.agg #[.bool sK,.slice AK kK cK,.slice BK mK dK]) cf):=tK.o.mono fun b hb=>⟨hb.1,fun e=>hb.2 6 (e ▸ BX),fun e=>hb.2 7 (e ▸ BY)⟩;have tL:Hid (aO (fun b=>((S b∧b<w.heap.size)∨w.heap.size+1+1+1<=b)∧b≠gX∧b≠gY) n wv (.agg #[.bool sL,.slice AL kL cL,.slice BL mL dL]) cg):=tL.o.mono fun b hb=>⟨hb.1,fun e=>hb.2 6 (e ▸ BX),fun e=>hb.2 7 (e ▸ BY)⟩;have nXY:gX≠gY:=fun e=>absurd (h.inj 6 7 gX BX (e ▸ BY)) (by decide);obtain rfl:=h.act [(34,_),(37,_),(7,_),(8,_)] rfl (fc qK (fc qL (fc qX (fc qY (fn)))));simp only [List.foldr];try simp only [fx,Act.put]
  clear h;have tX:Hid (aa wv gX (.bool false) (.slice none 0 0) (.slice none 0 0)):=lX.o;have tY:Hid (aa wv gY (.bool false) (.slice none 0 0) (.slice none 0 0)):=lY.o;have v0X:=tX.o.cell0;have f0X:=tX.o.frozen 0;have v1X:=tX.o.cell1;have f1X:=tX.o.frozen 1;have v2X:=tX.o.aP;have f2X:=tX.o.frozen 2;have v0Y:=tY.o.cell0;have f0Y:=tY.o.frozen 0;have v1Y:=tY.o.cell1;have f1Y:=tY.o.frozen 1;have v2Y:=tY.o.aP;have f2Y:=tY.o.frozen 2;have eX:Hid (aa (((wv.setCell ⟨gX,0,none⟩ (.bool sK)).setCell ⟨gX,1,none⟩ (.slice AK kK cK)).setCell ⟨gX,2,none⟩ (.slice BK mK dK)) gX (.bool sK) (.slice AK kK cK) (.slice BK mK dK)):=tX.o.set _ _ _;have eY:Hid (aa (((wv.setCell ⟨gX,0,none⟩ (.bool sK)).setCell ⟨gX,1,none⟩ (.slice AK kK cK)).setCell ⟨gX,2,none⟩ (.slice BK mK dK)) gY (.bool false) (.slice none 0 0) (.slice none 0 0)):=sX tY.o (by omega) _ _ _;have eK9:Hid (aO (fun b=>((S b∧b<w.heap.size)∨w.heap.size+1+1+1<=b)∧b≠gX∧b≠gY) n (((wv.setCell ⟨gX,0,none⟩ (.bool sK)).setCell ⟨gX,1,none⟩ (.slice AK kK cK)).setCell ⟨gX,2,none⟩ (.slice BK mK dK)) (.agg #[.bool sK,.slice AK kK cK,.slice BK mK dK]) cf):=tK.o.only (aZ wv gX _ _ _) (fun b hb e=>hb.2.1 e) (fun b hb=>hb);have eL9:Hid (aO (fun b=>((S b∧b<w.heap.size)∨w.heap.size+1+1+1<=b)∧b≠gX∧b≠gY) n (((wv.setCell ⟨gX,0,none⟩ (.bool sK)).setCell ⟨gX,1,none⟩ (.slice AK kK cK)).setCell ⟨gX,2,none⟩ (.slice BK mK dK)) (.agg #[.bool sL,.slice AL kL cL,.slice BL mL dL]) cg):=tL.o.only (aZ wv gX _ _ _) (fun b hb e=>hb.2.1 e) (fun b hb=>hb);have eV:Below w2.heap.size w2 (((wv.setCell ⟨gX,0,none⟩ (.bool sK)).setCell ⟨gX,1,none⟩ (.slice AK kK cK)).setCell ⟨gX,2,none⟩ (.slice BK mK dK)):=gG hV.o hX _ _ _;refine aV (rs:=[8]) (by kernel_rfl) (by simp) ?_;refine aL.cons rfl (by decide) (fun KK cZ=> ?_) aL.nil;go_simp;refine cZ.o _ _ (BV.o _ eV) (fun _=> ?_);clear cZ KK v0X v1X v2X f0X f1X f2X v0Y v1Y v2Y f0Y f1Y f2Y;try simp only [fx,Act.put]
  generalize Ry:(((wv.setCell ⟨gX,0,none⟩ (.bool sK)).setCell ⟨gX,1,none⟩ (.slice AK kK cK)).setCell ⟨gX,2,none⟩ (.slice BK mK dK))=wq at*
  clear Ry;have v0Y:=eY.o.cell0;have f0Y:=eY.o.frozen 0;have v1Y:=eY.o.cell1;have f1Y:=eY.o.frozen 1;have v2Y:=eY.o.aP;have f2Y:=eY.o.frozen 2;refine aV (rs:=[9]) (by kernel_rfl) (by simp) ?_;refine aL.last rfl (fun KK cZ=> ?_);go_simp;refine cZ.o _ _ ?_;clear cZ KK;refine fK (by kernel_rfl) ?_ _;go_wp2_with fail
  go_meet
  exact ⟨gX,gY,cf,cg,sK,AK,kK,cK,BK,mK,dK,sL,AL,kL,cL,BL,mL,dL,rfl,rfl,hX,hY,eK,eL,sX eX.o nXY _ _ _,eY.o.set _ _ _,eK9.o.only (aZ wq gY _ _ _) (fun b hb e=>hb.2.2 e) (fun b hb=>hb.1),eL9.o.only (aZ wq gY _ _ _) (fun b hb e=>hb.2.2 e) (fun b hb=>hb.1),gG eV hY _ _ _⟩
 case rest=>
  obtain ⟨g7,g8,cf,cg,s1,A1,k1,c1,B1,m1,d1,s2,A2,k2,c2,B2,m2,d2,rfl,rfl,zT,hg8,PX,hcg,hT7,hT8,XS,hV8,YC⟩:=hcut;obtain ⟨wx,rfl⟩:∃V:World,V=wc:=⟨_,rfl⟩;have apz:cf≠0:=PX.o.ne (fun e=>VM e);have apy:cg≠0:=hcg.o.ne (fun e=>ox e);obtain ⟨fa,hfa⟩:=PX.o.dv.dv;obtain ⟨fb,hfb⟩:=hcg.o.dv.dv;have hI0:Hid (I (mkK fa) (mkK fb)):=HH.o.st cf cg (mkK fa) (mkK fb) PX.o hcg.o hfa hfb;have ea:Hid (a=mkK fa*mkK (Poly.C cf)):=by
   show kids a=fa*Poly.C cf;rw [hfa,aG.mul_comm]
  have eb:Hid (b=mkK fb*mkK (Poly.C cg)):=by
   show kids b=fb*Poly.C cg;rw [hfb,aG.mul_comm]
  have ahd:=aA (HH.o.by1 cf (mkK fa) PX.o hfa);have ahc:=aA (HH.o.by2 cg (mkK fb) hcg.o hfb);clear hfa hfb BV CK7 CM7 YP t_G qa0 qa1 qa2 qb0 qb1 qb2;have u0:=hT7.o.cell0;have u1:=hT7.o.cell1;have u2:=hT7.o.aP;have bz:Below wx.heap.size wx ((wx.alloc (.cells #[.bool s1,.slice A1 k1 c1,.slice B1 m1 d1] 51)).alloc (.cells #[.bool false,.slice none 0 0,.slice (some ⟨wx.heap.size,0,none⟩) 1 1] 51)):=jt (jt aW _) _;have l9:Hid (aa ((wx.alloc (.cells #[.bool s1,.slice A1 k1 c1,.slice B1 m1 d1] 51)).alloc (.cells #[.bool false,.slice none 0 0,.slice (some ⟨wx.heap.size,0,none⟩) 1 1] 51)) (wx.heap.size+1) (.bool false) (.slice none 0 0) (.slice (some ⟨wx.heap.size,0,none⟩) 1 1)):=Wz wx (.cells #[.bool s1,.slice A1 k1 c1,.slice B1 m1 d1] 51) (.cells #[.bool false,.slice none 0 0,.slice (some ⟨wx.heap.size,0,none⟩) 1 1] 51);have hsx:=YC.o.size;have V9:Hid (aO (fun b=>(S b∧b<w.heap.size)∨w.heap.size+1+1+1<=b) (n+1) ((wx.alloc (.cells #[.bool s1,.slice A1 k1 c1,.slice B1 m1 d1] 51)).alloc (.cells #[.bool false,.slice none 0 0,.slice (some ⟨wx.heap.size,0,none⟩) 1 1] 51)) (.agg #[.bool false,.slice none 0 0,.slice (some ⟨wx.heap.size,0,none⟩) 1 1]) (mkK (Poly.C cf))):=aO.one (Zp (Gx wx (.cells #[.bool s1,.slice A1 k1 c1,.slice B1 m1 d1] 51)) (.cells #[.bool false,.slice none 0 0,.slice (some ⟨wx.heap.size,0,none⟩) 1 1] 51)) (XS.o.aB bz) apz (.inr (by omega));go_wp2_with fail
  generalize hwz:(wx.alloc (.cells #[.bool s1,.slice A1 k1 c1,.slice B1 m1 d1] 51)).alloc (.cells #[.bool false,.slice none 0 0,.slice (some ⟨wx.heap.size,0,none⟩) 1 1] 51)=wz at*
  clear hwz u0 u1 u2;have hB9:Below w2.heap.size w2 wz:=YC.o.tm bz;have hs9:=bz.size;have Xv:=aA (GI.o.tm hB9);have R0:=aA (Q0.o.aB hB9);have R1:=aA (Q1.o.aB hB9);have R2:=aA (Q2.o.aB hB9);have R7:=aA (hT7.o.aB bz);have R8:=aA (hT8.o.aB bz);have V7:=aA (XS.o.aB bz);have V8:=aA (hV8.o.aB bz);have t_A:=((HF2.o.aB hB9).here).mono (T:=fun b=>((S b∧b<w.heap.size)∨w.heap.size+1+1+1<=b)∧b<wz.heap.size) fun b hb=>⟨.inl hb.1,hb.2⟩;have t_B:=((HG2.o.aB hB9).here).mono (T:=fun b=>((S b∧b<w.heap.size)∨w.heap.size+1+1+1<=b)∧b<wz.heap.size) fun b hb=>⟨.inl hb.1,hb.2⟩;have t_O:=V9.o.here;have t_c:=V8.o.here;clear YC hT7 hT8 XS hV8 bz Q0 Q1 Q2 HF2 HG2;have CB9:Hid (∀(T:Nat->Prop) (V:World),Below wz.heap.size wz V->aO T (n+1) V (.agg #[.bool false,.slice none 0 0,.slice Ba la ca]) a->aO T (n+1) V (.agg #[.bool false,.slice none 0 0,.slice (some ⟨wx.heap.size,0,none⟩) 1 1]) (mkK (Poly.C cf))->aC 53 #[.agg #[.bool false,.slice none 0 0,.slice Ba la ca],.int .i64 ((n:Int)+1),.agg #[.bool false,.slice none 0 0,.slice (some ⟨wx.heap.size,0,none⟩) 1 1]] V (bV T V (n+1) (mkK fa))):=fun T V _ h1 h2=>by
   obtain ⟨D,E,e1,e2,e3,e4,e5,e6,_⟩:=ahd.o;rw [ea.o] at h1;have h9:=mby K hK (n+1) (by omega) T V _ _ (mkK fa) (mkK (Poly.C cf)) D E h1 h2 (Poly.CZ apz) e1 e2 e3 e4 e5 e6;rw [k9] at h9;exact h9
  have CD9:Hid (∀(T:Nat->Prop) (V:World),Below wz.heap.size wz V->aO T (n+1) V (.agg #[.bool false,.slice none 0 0,.slice Bb lb cb]) b->∀v,aO T (n+1) V v (mkK (Poly.C cg))->aC 53 #[.agg #[.bool false,.slice none 0 0,.slice Bb lb cb],.int .i64 ((n:Int)+1),v] V (bV T V (n+1) (mkK fb))):=fun T V _ h1 v h2=>by
   obtain ⟨D,E,e1,e2,e3,e4,e5,e6,_⟩:=ahc.o;rw [eb.o] at h1;have h9:=mby K hK (n+1) (by omega) T V _ _ (mkK fb) (mkK (Poly.C cg)) D E h1 h2 (Poly.CZ apy) e1 e2 e3 e4 e5 e6;rw [k9] at h9;exact h9
  have hw9:w.heap.size+1+1+1<=wz.heap.size:=by omega
  have BU:Hid (∀V,Below wz.heap.size wz V->(fun V=>V.cell? ⟨w.heap.size,0,none⟩=some (.bool false)∧V.cell? ⟨w.heap.size,1,none⟩=some (.slice none 0 0)∧V.cell? ⟨w.heap.size,2,none⟩=some (.slice Ba la ca)∧V.cell? ⟨wx.heap.size+1,0,none⟩=some (.bool false)∧V.cell? ⟨wx.heap.size+1,1,none⟩=some (.slice none 0 0)∧V.cell? ⟨wx.heap.size+1,2,none⟩=some (.slice (some ⟨wx.heap.size,0,none⟩) 1 1)∧V.cell? ⟨w.heap.size+1,0,none⟩=some (.bool false)∧V.cell? ⟨w.heap.size+1,1,none⟩=some (.slice none 0 0)∧V.cell? ⟨w.heap.size+1,2,none⟩=some (.slice Bb lb cb)∧V.cell? ⟨g8,0,none⟩=some (.bool s2)∧V.cell? ⟨g8,1,none⟩=some (.slice A2 k2 c2)∧V.cell? ⟨g8,2,none⟩=some (.slice B2 m2 d2)) V):=fun V hV=>⟨(R0.o.aB hV).cell0,(R0.o.aB hV).cell1,(R0.o.aB hV).aP,(l9.o.aB hV).cell0,(l9.o.aB hV).cell1,(l9.o.aB hV).aP,(R1.o.aB hV).cell0,(R1.o.aB hV).cell1,(R1.o.aB hV).aP,(R8.o.aB hV).cell0,(R8.o.aB hV).cell1,(R8.o.aB hV).aP⟩;go_cut [10,11] (fun s10 s11 wa=>∃(jV fW:Nat) (s3:Bool) (A3:Option Addr) (k3 c3:Nat) (B3:Option Addr) (m3 d3:Nat) (s4:Bool) (A4:Option Addr) (k4 c4:Nat) (B4:Option Addr) (m4 d4:Nat),s10=.pointer (some ⟨jV,0,none⟩)∧s11=.pointer (some ⟨fW,0,none⟩)∧wz.heap.size<=jV∧wz.heap.size<=fW∧jV≠fW∧Hid (aa wa jV (.bool s3) (.slice A3 k3 c3) (.slice B3 m3 d3))∧Hid (aa wa fW (.bool s4) (.slice A4 k4 c4) (.slice B4 m4 d4))∧Hid (aO (fun b=>((S b∧b<w.heap.size)∨w.heap.size+1+1+1<=b)∧b≠jV∧b≠fW) (n+1) wa (.agg #[.bool s3,.slice A3 k3 c3,.slice B3 m3 d3]) (mkK fa))∧Hid (aO (fun b=>((S b∧b<w.heap.size)∨w.heap.size+1+1+1<=b)∧b≠jV∧b≠fW) (n+1) wa (.agg #[.bool s4,.slice A4 k4 c4,.slice B4 m4 d4]) (mkK fb))∧Hid (Below wz.heap.size wz wa))
  case first=>
   refine gC (S:=fun V=>V.cell? ⟨w.heap.size,0,none⟩=some (.bool false)∧V.cell? ⟨w.heap.size,1,none⟩=some (.slice none 0 0)∧V.cell? ⟨w.heap.size,2,none⟩=some (.slice Ba la ca)∧V.cell? ⟨wx.heap.size+1,0,none⟩=some (.bool false)∧V.cell? ⟨wx.heap.size+1,1,none⟩=some (.slice none 0 0)∧V.cell? ⟨wx.heap.size+1,2,none⟩=some (.slice (some ⟨wx.heap.size,0,none⟩) 1 1)∧V.cell? ⟨w.heap.size+1,0,none⟩=some (.bool false)∧V.cell? ⟨w.heap.size+1,1,none⟩=some (.slice none 0 0)∧V.cell? ⟨w.heap.size+1,2,none⟩=some (.slice Bb lb cb)∧V.cell? ⟨g8,0,none⟩=some (.bool s2)∧V.cell? ⟨g8,1,none⟩=some (.slice A2 k2 c2)∧V.cell? ⟨g8,2,none⟩=some (.slice B2 m2 d2)) (z:=13) (by kernel_rfl) ?_;have hHeld:=BU.o _ (Below.refl wz.heap.size wz).drew;try dsimp only at hHeld
   refine tk 13 0 (.agg #[.bool false,.slice none 0 0,.slice Ba la ca]) rfl hHeld ?_;try simp only [fx,Act.put]
   refine tk 13 1 (.int .i64 ((n:Int)+1)) rfl hHeld ?_;try simp only [fx,Act.put]
   refine tk 13 2 (.agg #[.bool false,.slice none 0 0,.slice (some ⟨wx.heap.size,0,none⟩) 1 1]) rfl hHeld ?_;try simp only [fx,Act.put]
   refine tk 13 4 (.agg #[.bool false,.slice none 0 0,.slice Bb lb cb]) rfl hHeld ?_;try simp only [fx,Act.put]
   refine tk 13 5 (.int .i64 ((n:Int)+1)) rfl hHeld ?_;try simp only [fx,Act.put]
   refine tk 13 6 (.agg #[.bool s2,.slice A2 k2 c2,.slice B2 m2 d2]) rfl hHeld ?_;try simp only [fx,Act.put]
   have iq:Hid (∀b,wz.heap.size<=b->(fun b=>(S b∧b<w.heap.size)∨w.heap.size+1+1+1<=b) b):=fun b hb=> .inr (by omega);refine pG (w0:=wz) [⟨3,44,3,KT (fun b=>(S b∧b<w.heap.size)∨w.heap.size+1+1+1<=b) (n+1) (fun x=>(mkK fa)=x)⟩,⟨9,50,9,KT (fun b=>(S b∧b<w.heap.size)∨w.heap.size+1+1+1<=b) (n+1) (fun x=>(mkK fb)=x)⟩,⟨10,10,10,KB wz 10 (.cells #[.bool false,.slice none 0 0,.slice none 0 0] 51) (fun g=> .pointer (some ⟨g,0,none⟩))⟩,⟨11,11,11,KB wz 11 (.cells #[.bool false,.slice none 0 0,.slice none 0 0] 51) (fun g=> .pointer (some ⟨g,0,none⟩))⟩,⟨7,48,7,KR wz (.cells #[.bool s2,.slice A2 k2 c2,.slice B2 m2 d2] 51) (fun g=> .slice (some ⟨g,0,none⟩) 1 1)⟩,⟨8,49,8,KR wz (.cells #[.bool s2,.slice A2 k2 c2,.slice B2 m2 d2] 51) (fun g=> .agg #[.bool false,.slice none 0 0,.slice (some ⟨g,0,none⟩) 1 1])⟩] [3,9,10,11,7,8] [44,50,10,11,48,49] [12,13] #[true,true,true,true,true,true,true,true,true,true,true,true,false,false] 2 rfl rfl (by kernel_rfl) rfl rfl (Below.refl wz.heap.size wz).drew (fc KT.keeps (fc KT.keeps (fc KB.keeps (fc KB.keeps (fc KR.keeps (fc KR.keeps (fn))))))) (fc ?_ (fc ?_ (fc ?_ (fc ?_ (fc ?_ (fc ?_ (fn))))))) ?_
   . intro L a V B hr hd h
     have r41:=h.old 41 rfl rfl;have r42:=h.old 42 rfl rfl;have r43:=h.old 43 rfl rfl;refine eN rfl fun KK cZ=> ?_;go_simp;refine (CB9.o _ V h.aB (h.tree t_A) (h.tree t_O)).mono ?_;rintro e w' ⟨s0,A0,k0,c0,B0,m0,d0,rfl,hv,hb⟩;unfold bG;(go_wp2_with fail);exact cZ.o _ _ (BU.o _ (h.aB.tm hb)) (h.put 0 rfl hr hb ⟨_,s0,A0,k0,c0,B0,m0,d0,rfl,rfl,h.res iq.o hv⟩)
   . intro L a V B hr hd h
     obtain ⟨_,qU,gU,rfl,hU,lU,nU⟩:=h.get 5 rfl (hd 8 (by kernel_rfl)) (.inl rfl);have r45:=h.old 45 rfl rfl;have r46:=h.old 46 rfl rfl;refine eN rfl fun KK cZ=> ?_;go_simp;refine (CD9.o _ V h.aB (h.tree t_B) _ (aO.one lU.o (h.tree t_c) apy ⟨⟨.inr (by omega),nU⟩,(jf.1 lU.o).1⟩)).mono ?_;rintro e w' ⟨s0,A0,k0,c0,B0,m0,d0,rfl,hv,hb⟩;unfold bG;(go_wp2_with fail);exact cZ.o _ _ (BU.o _ (h.aB.tm hb)) (h.put 1 rfl hr hb ⟨_,s0,A0,k0,c0,B0,m0,d0,rfl,rfl,h.res iq.o hv⟩)
   . intro L a V B hr hd h
     refine eN rfl fun KK cZ=> ?_;go_simp;exact cZ.o _ _ (BU.o _ (h.aB.alloc h.aB.size _)) (h.box 2 rfl hr)
   . intro L a V B hr hd h
     refine eN rfl fun KK cZ=> ?_;go_simp;exact cZ.o _ _ (BU.o _ (h.aB.alloc h.aB.size _)) (h.box 3 rfl hr)
   . intro L a V B hr hd h
     have r47:=h.old 47 rfl rfl;refine eN rfl fun KK cZ=> ?_;go_simp;exact cZ.o _ _ (BU.o _ (h.aB.alloc h.aB.size _)) (h.row 4 rfl hr)
   . intro L a V B hr hd h
     obtain ⟨_,qR,gR,rfl,hR,lR,nR⟩:=h.get 4 rfl (hd 7 (by kernel_rfl)) (.inl rfl);refine eN rfl fun KK cZ=> ?_;go_simp;exact cZ.o _ _ (BU.o _ h.aB) (h.put 5 rfl hr aW ⟨gR,rfl,hR,lR,nR⟩)
   intro a9 wv B h;obtain ⟨_,qC,_,sC,AC,kC,cC,BC,mC,dC,rfl,rfl,tC⟩:=h.get 0 rfl rfl (.inl rfl);obtain ⟨_,qE,_,sE,AE,kE,cE,BE,mE,dE,rfl,rfl,tE⟩:=h.get 1 rfl rfl (.inl rfl);obtain ⟨_,qX,gX,rfl,hX,lX,BX⟩:=h.get 2 rfl rfl (.inl rfl);obtain ⟨_,qY,gY,rfl,hY,lY,BY⟩:=h.get 3 rfl rfl (.inl rfl);obtain ⟨_,qR,gR,rfl,hR,lR,nR⟩:=h.get 4 rfl rfl (.inl rfl);obtain ⟨_,qU,gU,rfl,hU,lU,nU⟩:=h.get 5 rfl rfl (.inl rfl);have hV:=aA h.aB;have hz9:=h.aB.size;have tC:Hid (aO (fun b=>((S b∧b<w.heap.size)∨w.heap.size+1+1+1<=b)∧b≠gX∧b≠gY) (n+1) wv (.agg #[.bool sC,.slice AC kC cC,.slice BC mC dC]) (mkK fa)):=tC.o.mono fun b hb=>⟨hb.1,fun e=>hb.2 10 (e ▸ BX),fun e=>hb.2 11 (e ▸ BY)⟩;have tE:Hid (aO (fun b=>((S b∧b<w.heap.size)∨w.heap.size+1+1+1<=b)∧b≠gX∧b≠gY) (n+1) wv (.agg #[.bool sE,.slice AE kE cE,.slice BE mE dE]) (mkK fb)):=tE.o.mono fun b hb=>⟨hb.1,fun e=>hb.2 10 (e ▸ BX),fun e=>hb.2 11 (e ▸ BY)⟩;have nXY:gX≠gY:=fun e=>absurd (h.inj 10 11 gX BX (e ▸ BY)) (by decide);obtain rfl:=h.act [(44,_),(50,_),(10,_),(11,_),(48,_),(49,_)] rfl (fc qC (fc qE (fc qX (fc qY (fc qR (fc qU (fn)))))));simp only [List.foldr];try simp only [fx,Act.put]
   clear h;have tX:Hid (aa wv gX (.bool false) (.slice none 0 0) (.slice none 0 0)):=lX.o;have tY:Hid (aa wv gY (.bool false) (.slice none 0 0) (.slice none 0 0)):=lY.o;have v0X:=tX.o.cell0;have f0X:=tX.o.frozen 0;have v1X:=tX.o.cell1;have f1X:=tX.o.frozen 1;have v2X:=tX.o.aP;have f2X:=tX.o.frozen 2;have v0Y:=tY.o.cell0;have f0Y:=tY.o.frozen 0;have v1Y:=tY.o.cell1;have f1Y:=tY.o.frozen 1;have v2Y:=tY.o.aP;have f2Y:=tY.o.frozen 2;have eX:Hid (aa (((wv.setCell ⟨gX,0,none⟩ (.bool sC)).setCell ⟨gX,1,none⟩ (.slice AC kC cC)).setCell ⟨gX,2,none⟩ (.slice BC mC dC)) gX (.bool sC) (.slice AC kC cC) (.slice BC mC dC)):=tX.o.set _ _ _;have eY:Hid (aa (((wv.setCell ⟨gX,0,none⟩ (.bool sC)).setCell ⟨gX,1,none⟩ (.slice AC kC cC)).setCell ⟨gX,2,none⟩ (.slice BC mC dC)) gY (.bool false) (.slice none 0 0) (.slice none 0 0)):=sX tY.o (by omega) _ _ _;have eC9:Hid (aO (fun b=>((S b∧b<w.heap.size)∨w.heap.size+1+1+1<=b)∧b≠gX∧b≠gY) (n+1) (((wv.setCell ⟨gX,0,none⟩ (.bool sC)).setCell ⟨gX,1,none⟩ (.slice AC kC cC)).setCell ⟨gX,2,none⟩ (.slice BC mC dC)) (.agg #[.bool sC,.slice AC kC cC,.slice BC mC dC]) (mkK fa)):=tC.o.only (aZ wv gX _ _ _) (fun b hb e=>hb.2.1 e) (fun b hb=>hb);have eE9:Hid (aO (fun b=>((S b∧b<w.heap.size)∨w.heap.size+1+1+1<=b)∧b≠gX∧b≠gY) (n+1) (((wv.setCell ⟨gX,0,none⟩ (.bool sC)).setCell ⟨gX,1,none⟩ (.slice AC kC cC)).setCell ⟨gX,2,none⟩ (.slice BC mC dC)) (.agg #[.bool sE,.slice AE kE cE,.slice BE mE dE]) (mkK fb)):=tE.o.only (aZ wv gX _ _ _) (fun b hb e=>hb.2.1 e) (fun b hb=>hb);have eV:Below wz.heap.size wz (((wv.setCell ⟨gX,0,none⟩ (.bool sC)).setCell ⟨gX,1,none⟩ (.slice AC kC cC)).setCell ⟨gX,2,none⟩ (.slice BC mC dC)):=gG hV.o hX _ _ _;refine aV (rs:=[12]) (by kernel_rfl) (by simp) ?_;refine aL.cons rfl (by decide) (fun KK cZ=> ?_) aL.nil;go_simp;refine cZ.o _ _ (BU.o _ eV) (fun _=> ?_);clear cZ KK v0X v1X v2X f0X f1X f2X v0Y v1Y v2Y f0Y f1Y f2Y;try simp only [fx,Act.put]
   generalize Ry:(((wv.setCell ⟨gX,0,none⟩ (.bool sC)).setCell ⟨gX,1,none⟩ (.slice AC kC cC)).setCell ⟨gX,2,none⟩ (.slice BC mC dC))=wq at*
   clear Ry;have v0Y:=eY.o.cell0;have f0Y:=eY.o.frozen 0;have v1Y:=eY.o.cell1;have f1Y:=eY.o.frozen 1;have v2Y:=eY.o.aP;have f2Y:=eY.o.frozen 2;refine aV (rs:=[13]) (by kernel_rfl) (by simp) ?_;refine aL.last rfl (fun KK cZ=> ?_);go_simp;refine cZ.o _ _ ?_;clear cZ KK;refine fK (by kernel_rfl) ?_ _;go_wp2_with fail
   go_meet
   exact ⟨gX,gY,sC,AC,kC,cC,BC,mC,dC,sE,AE,kE,cE,BE,mE,dE,rfl,rfl,hX,hY,nXY,sX eX.o nXY _ _ _,eY.o.set _ _ _,eC9.o.only (aZ wq gY _ _ _) (fun b hb e=>hb.2.2 e) (fun b hb=>hb),eE9.o.only (aZ wq gY _ _ _) (fun b hb e=>hb.2.2 e) (fun b hb=>hb),gG eV hY _ _ _⟩
  case rest=>
   obtain ⟨jV,fW,s3,A3,k3,c3,B3,m3,d3,s4,A4,k4,c4,B4,m4,d4,rfl,rfl,awU,awT,ajV,Mq,zW,aaV,XT,hBa⟩:=hcut;obtain ⟨wa,rfl⟩:∃V:World,V=wc:=⟨_,rfl⟩;have hsa:=hBa.o.size;have HBa:=aA (Xv.o.tm hBa.o);have aGX:=Mq.o.lt;have aGW:=zW.o.lt;have Y2:=aA (R2.o.aB hBa.o);have Y7:=aA (R7.o.aB hBa.o);have Y8:=aA (R8.o.aB hBa.o);have hl7:=R7.o.lt;have hl8:=R8.o.lt;have W7:=aA ((V7.o.here.aB hBa.o).mono (T:=fun b=>((S b∧b<w.heap.size)∨w.heap.size+1+1+1<=b)∧b≠jV∧b≠fW) fun b hb=>⟨hb.1,by have:=hb.2;omega,by have:=hb.2;omega⟩);have W8:=aA ((V8.o.here.aB hBa.o).mono (T:=fun b=>((S b∧b<w.heap.size)∨w.heap.size+1+1+1<=b)∧b≠jV∧b≠fW) fun b hb=>⟨hb.1,by have:=hb.2;omega,by have:=hb.2;omega⟩);clear BU CB9 CD9 t_A t_B t_O t_c V7 V8 V9 l9 R0 R1 R2 R7 R8 hBa ahd ahc;go_wp2_with fail
   go_loopg [] ((kids (mkK fb)).len+1) (fun gk wr=>∃(x y:Pn (n+1)) (s3:Bool) (A3:Option Addr) (k3 c3:Nat) (B3:Option Addr) (m3 d3:Nat) (s4:Bool) (A4:Option Addr) (k4 c4:Nat) (B4:Option Addr) (m4 d4:Nat),(kids y).len<gk∧Hid (I x y)∧Hid (aa wr jV (.bool s3) (.slice A3 k3 c3) (.slice B3 m3 d3))∧Hid (aa wr fW (.bool s4) (.slice A4 k4 c4) (.slice B4 m4 d4))∧Hid (aO (fun b=>((S b∧b<w.heap.size)∨w.heap.size+1+1+1<=b)∧b≠jV∧b≠fW) (n+1) wr (.agg #[.bool s3,.slice A3 k3 c3,.slice B3 m3 d3]) x)∧Hid (aO (fun b=>((S b∧b<w.heap.size)∨w.heap.size+1+1+1<=b)∧b≠jV∧b≠fW) (n+1) wr (.agg #[.bool s4,.slice A4 k4 c4,.slice B4 m4 d4]) y)∧Hid (Only (fun b=>b=jV∨b=fW∨wa.heap.size<=b) wa wr))
   case atStart=>exact ⟨mkK fa,mkK fb,s3,A3,k3,c3,B3,m3,d3,s4,A4,k4,c4,B4,m4,d4,by omega,hI0,Mq,zW,aaV,XT,Only.refl _ _⟩
   case round=>
    clear Mq zW aaV XT hI0;obtain ⟨x,y,s3,A3,k3,c3,B3,m3,d3,s4,A4,k4,c4,B4,m4,d4,Mh,hI,Mq,zW,aaV,XT,j5⟩:=hrel;obtain ⟨wp,rfl⟩:∃wp:World,wp=wr:=⟨_,rfl⟩;have pY:Hid (Below w.heap.size w wp):=HBa.o.trans (j5.o.below HBa.o.size fun b hb=>by omega);have hwz:=j5.o.size;have p0:=zW.o.cell0;have p1:=zW.o.cell1;have p2:=zW.o.aP;have asi:=aA (sW _ n wp _ y XT.o);(go_wp2_with fail);refine asi.o.mono ?_;rintro e w3 ⟨ry,rfl,hry,nV⟩;have hs3:=nV.size;have T10:=aA (Mq.o.aB nV);have Vm:=aA (zW.o.aB nV);have V10:=aA (aaV.o.aB nV);have V11:=aA (XT.o.aB nV);have on3:Hid (Only (fun b=>b=jV∨b=fW∨wa.heap.size<=b) wa w3):=j5.o.trans ((Only.bY nV).mono fun b hb=> .inr (.inr (by omega)));have HB3:=aA (pY.o.tm nV);have aoo:=aA hry;clear hry nV Mq zW aaV XT j5 asi p0 p1 p2 pY;have p0:=T10.o.cell0;have p1:=T10.o.cell1;have p2:=T10.o.aP;have q0:=Vm.o.cell0;have q1:=Vm.o.cell1;have q2:=Vm.o.aP;cases ry with
    | true=>
      have uK:y=0:=aoo.o.1 rfl;subst uK;have t_X:=V10.o.here;have t_c:=((W7.o.here.only on3.o (fun b hb e=>by rcases e with e | e | e;(exact hb.1.2.1 e);(exact hb.1.2.2 e);(have:=hb.2;omega)) (fun b hb=>hb.1)).here);have t_d:=((W8.o.here.only on3.o (fun b hb e=>by rcases e with e | e | e;(exact hb.1.2.1 e);(exact hb.1.2.2 e);(have:=hb.2;omega)) (fun b hb=>hb.1)).here);have T7':Hid (aa w3 g7 (.bool s1) (.slice A1 k1 c1) (.slice B1 m1 d1)):=Y7.o.keep (on3.o.block _ Y7.o.lt (by omega));have T8':Hid (aa w3 g8 (.bool s2) (.slice A2 k2 c2) (.slice B2 m2 d2)):=Y8.o.keep (on3.o.block _ Y8.o.lt (by omega));have T2':Hid (aa w3 (w.heap.size+1+1) (.bool false) (.slice none 0 0) (.slice none 0 0)):=Y2.o.keep (on3.o.block _ Y2.o.lt (by omega));have Nj:jV<w3.heap.size∧fW<w3.heap.size:=⟨T10.o.lt,Vm.o.lt⟩;have aAH:Hid (∀(T:Nat->Prop) (V:World),Below w3.heap.size w3 V->aO T n V (.agg #[.bool s1,.slice A1 k1 c1,.slice B1 m1 d1]) cf->aO T n V (.agg #[.bool s2,.slice A2 k2 c2,.slice B2 m2 d2]) cg->aC 27 #[.int .i64 (n:Int),.agg #[.bool s1,.slice A1 k1 c1,.slice B1 m1 d1],.agg #[.bool s2,.slice A2 k2 c2,.slice B2 m2 d2]] V (fun e w'=>∃g,nL g cf cg∧bV T V n g e w')):=fun T V _ h1 h2=>(HH.o.gc cf cg PX.o hcg.o).1 T V _ _ h1 h2;clear p0 p1 p2 q0 q1 q2;have Rl:Hid (∀V,Below w3.heap.size w3 V->(fun V=>V.cell? ⟨jV,0,none⟩=some (.bool s3)∧V.cell? ⟨jV,1,none⟩=some (.slice A3 k3 c3)∧V.cell? ⟨jV,2,none⟩=some (.slice B3 m3 d3)∧V.cell? ⟨g7,0,none⟩=some (.bool s1)∧V.cell? ⟨g7,1,none⟩=some (.slice A1 k1 c1)∧V.cell? ⟨g7,2,none⟩=some (.slice B1 m1 d1)∧V.cell? ⟨g8,0,none⟩=some (.bool s2)∧V.cell? ⟨g8,1,none⟩=some (.slice A2 k2 c2)∧V.cell? ⟨g8,2,none⟩=some (.slice B2 m2 d2)) V):=fun V hV=>⟨(T10.o.aB hV).cell0,(T10.o.aB hV).cell1,(T10.o.aB hV).aP,(T7'.o.aB hV).cell0,(T7'.o.aB hV).cell1,(T7'.o.aB hV).aP,(T8'.o.aB hV).cell0,(T8'.o.aB hV).cell1,(T8'.o.aB hV).aP⟩;(go_wp2_with fail);refine gC (S:=fun V=>V.cell? ⟨jV,0,none⟩=some (.bool s3)∧V.cell? ⟨jV,1,none⟩=some (.slice A3 k3 c3)∧V.cell? ⟨jV,2,none⟩=some (.slice B3 m3 d3)∧V.cell? ⟨g7,0,none⟩=some (.bool s1)∧V.cell? ⟨g7,1,none⟩=some (.slice A1 k1 c1)∧V.cell? ⟨g7,2,none⟩=some (.slice B1 m1 d1)∧V.cell? ⟨g8,0,none⟩=some (.bool s2)∧V.cell? ⟨g8,1,none⟩=some (.slice A2 k2 c2)∧V.cell? ⟨g8,2,none⟩=some (.slice B2 m2 d2)) (z:=8) (by kernel_rfl) ?_;have hHeld:=Rl.o _ (Below.refl w3.heap.size w3).drew;(try dsimp only at hHeld);refine tk 8 0 (.agg #[.bool s3,.slice A3 k3 c3,.slice B3 m3 d3]) rfl hHeld ?_;(try simp only [fx,Act.put]);refine tk 8 1 (.int .i64 ((n:Int)+1)) rfl hHeld ?_;(try simp only [fx,Act.put]);refine tk 8 2 (.int .i64 ((n:Int)+1)) rfl hHeld ?_;(try simp only [fx,Act.put]);refine tk 8 3 (.int .i64 (n:Int)) rfl hHeld ?_;(try simp only [fx,Act.put]);refine tk 8 4 (.agg #[.bool s1,.slice A1 k1 c1,.slice B1 m1 d1]) rfl hHeld ?_;(try simp only [fx,Act.put]);refine tk 8 5 (.agg #[.bool s2,.slice A2 k2 c2,.slice B2 m2 d2]) rfl hHeld ?_;(try simp only [fx,Act.put]);refine aV (rs:=[6]) (by kernel_rfl) (by simp) ?_;refine aL.cons rfl (by decide) (fun KK cZ=> ?_) ?_
      . skip
        go_simp;refine (aAH.o (fun b=>(((S b∧b<w.heap.size)∨w.heap.size+1+1+1<=b)∧b≠jV∧b≠fW)∧b<w3.heap.size) (World.drew w3) (Below.refl w3.heap.size w3).drew ((t_c.aB (Below.refl w3.heap.size w3).drew).mono (fun b hb=>⟨hb.1,by have h9:=hb.2;omega⟩)) ((t_d.aB (Below.refl w3.heap.size w3).drew).mono (fun b hb=>⟨hb.1,by have h9:=hb.2;omega⟩))).mono ?_;rintro e wK ⟨gg,hgg,sK,AK,kK,cK,BK,mK,dK,rfl,hK,hbK⟩;have Bd:Below w3.heap.size w3 wK:=(Below.refl w3.heap.size w3).drew.trans (hbK.mono (Below.refl w3.heap.size w3).drew.size);have avl:w3.heap.size<=wK.heap.size:=by
         have h2:=hbK.size;change (w3).heap.size<=_ at h2
         exact h2
        have t_X:=((t_X.aB (Below.refl w3.heap.size w3).drew).aB hbK).mono (T:=fun b=>(((S b∧b<w.heap.size)∨w.heap.size+1+1+1<=b)∧b≠jV∧b≠fW)∧b<wK.heap.size) (fun b hb=>⟨hb.1,by have h9:=hb.2;omega⟩);have t_c:=((t_c.aB (Below.refl w3.heap.size w3).drew).aB hbK).mono (T:=fun b=>(((S b∧b<w.heap.size)∨w.heap.size+1+1+1<=b)∧b≠jV∧b≠fW)∧b<wK.heap.size) (fun b hb=>⟨hb.1,by have h9:=hb.2;omega⟩);have t_d:=((t_d.aB (Below.refl w3.heap.size w3).drew).aB hbK).mono (T:=fun b=>(((S b∧b<w.heap.size)∨w.heap.size+1+1+1<=b)∧b≠jV∧b≠fW)∧b<wK.heap.size) (fun b hb=>⟨hb.1,by have h9:=hb.2;omega⟩);have t_K:aO (fun b=>(((S b∧b<w.heap.size)∨w.heap.size+1+1+1<=b)∧b≠jV∧b≠fW)∧b<wK.heap.size) n wK (bG sK AK kK cK BK mK dK) gg:=hK.here.mono fun b hb=>by
         rcases hb with ⟨h1 | h1,h3⟩
         . exact ⟨h1.1,h3⟩
         . change (w3).heap.size<=b at h1
           exact ⟨⟨.inr (by omega),by omega,by omega⟩,h3⟩
        clear hK;obtain ⟨VG,hG',D,E,f1,f2,f3,f4,f5,f6,f7,_⟩:=HH.o.fin cf cg gg x hI.o PX.o hcg.o hgg;have hG:=aA hG';have aAK:Hid (∀(T:Nat->Prop) (V:World),Below w3.heap.size w3 V->aO T (n+1) V (.agg #[.bool s3,.slice A3 k3 c3,.slice B3 m3 d3]) x->∀v,aO T n V v gg->aC 55 #[.agg #[.bool s3,.slice A3 k3 c3,.slice B3 m3 d3],.int .i64 ((n:Int)+1),v] V (bV T V (n+1) (x*mkK (Poly.C gg)))):=fun T V _ h1 v h2=>Uu n K (by omega) (BJ K hK (n+1) (by omega)) T V _ v x gg D E h1 h2 VG f1 f2 f3 f4 f5 f6 f7;clear hG' f1 f2 f3 f4 f5 f6 f7;unfold bG;(go_wp2_with fail);refine cZ.o _ _ (Rl.o _ Bd) (fun hHeld=> ?_);clear cZ KK;(try dsimp only at hHeld);(try simp only [fx,Act.put]);refine aV (rs:=[7]) (by kernel_rfl) (by simp) ?_;refine aL.cons rfl (by decide) (fun KK cZ=> ?_) ?_
        . skip
          go_simp;refine (aAK.o (fun b=>(((S b∧b<w.heap.size)∨w.heap.size+1+1+1<=b)∧b≠jV∧b≠fW)∧b<wK.heap.size) wK Bd ((t_X.aB (Below.refl wK.heap.size wK)).mono (fun b hb=>⟨hb.1,by have h9:=hb.2;omega⟩)) _ ((t_K.aB (Below.refl wK.heap.size wK)).mono (fun b hb=>⟨hb.1,by have h9:=hb.2;omega⟩))).mono ?_;rintro e wC ⟨sC,AC,kC,cC,BC,mC,dC,rfl,hC,YB⟩;have Be:Below w3.heap.size w3 wC:=Bd.tm YB;have avm:wK.heap.size<=wC.heap.size:=by
           have h2:=YB.size;change (wK).heap.size<=_ at h2
           exact h2
          have t_X:=((t_X.aB (Below.refl wK.heap.size wK)).aB YB).mono (T:=fun b=>(((S b∧b<w.heap.size)∨w.heap.size+1+1+1<=b)∧b≠jV∧b≠fW)∧b<wC.heap.size) (fun b hb=>⟨hb.1,by have h9:=hb.2;omega⟩);have t_c:=((t_c.aB (Below.refl wK.heap.size wK)).aB YB).mono (T:=fun b=>(((S b∧b<w.heap.size)∨w.heap.size+1+1+1<=b)∧b≠jV∧b≠fW)∧b<wC.heap.size) (fun b hb=>⟨hb.1,by have h9:=hb.2;omega⟩);have t_d:=((t_d.aB (Below.refl wK.heap.size wK)).aB YB).mono (T:=fun b=>(((S b∧b<w.heap.size)∨w.heap.size+1+1+1<=b)∧b≠jV∧b≠fW)∧b<wC.heap.size) (fun b hb=>⟨hb.1,by have h9:=hb.2;omega⟩);have t_K:=((t_K.aB (Below.refl wK.heap.size wK)).aB YB).mono (T:=fun b=>(((S b∧b<w.heap.size)∨w.heap.size+1+1+1<=b)∧b≠jV∧b≠fW)∧b<wC.heap.size) (fun b hb=>⟨hb.1,by have h9:=hb.2;omega⟩);have t_C:aO (fun b=>(((S b∧b<w.heap.size)∨w.heap.size+1+1+1<=b)∧b≠jV∧b≠fW)∧b<wC.heap.size) (n+1) wC (bG sC AC kC cC BC mC dC) (x*mkK (Poly.C gg)):=hC.here.mono fun b hb=>by
           rcases hb with ⟨h1 | h1,h3⟩
           . exact ⟨h1.1,h3⟩
           . change (wK).heap.size<=b at h1
             exact ⟨⟨.inr (by omega),by omega,by omega⟩,h3⟩
          clear hC;unfold bG;(go_wp2_with fail);refine cZ.o _ _ (Rl.o _ Be) (fun hHeld=> ?_);clear cZ KK;(try dsimp only at hHeld);(try simp only [fx,Act.put]);refine aV (rs:=[8]) (by kernel_rfl) (by simp) ?_;refine aL.last rfl (fun KK cZ=> ?_);have tz:=T2'.o.aB Be;have v0:=tz.cell0;have f0:=tz.frozen 0;have v1:=tz.cell1;have f1:=tz.frozen 1;have v2:=tz.aP;have f2:=tz.frozen 2;have eZ:Hid (aO (fun b=>S b∨w.heap.size<=b) (n+1) (((wC.setCell ⟨w.heap.size+1+1,0,none⟩ (.bool sC)).setCell ⟨w.heap.size+1+1,1,none⟩ (.slice AC kC cC)).setCell ⟨w.heap.size+1+1,2,none⟩ (.slice BC mC dC)) (.agg #[.bool sC,.slice AC kC cC,.slice BC mC dC]) (x*mkK (Poly.C gg))):=t_C.only (aZ wC (w.heap.size+1+1) _ _ _) (fun b hb e=>by rcases hb.1.1 with h | h<;>omega) (fun b hb=>hb.1.1.imp (fun h=>h.1) fun h=>by omega);have eB:Hid (Below w.heap.size w (((wC.setCell ⟨w.heap.size+1+1,0,none⟩ (.bool sC)).setCell ⟨w.heap.size+1+1,1,none⟩ (.slice AC kC cC)).setCell ⟨w.heap.size+1+1,2,none⟩ (.slice BC mC dC))):=gG (HB3.o.tm Be) (by omega) _ _ _;have eT:Hid (aa (((wC.setCell ⟨w.heap.size+1+1,0,none⟩ (.bool sC)).setCell ⟨w.heap.size+1+1,1,none⟩ (.slice AC kC cC)).setCell ⟨w.heap.size+1+1,2,none⟩ (.slice BC mC dC)) (w.heap.size+1+1) (.bool sC) (.slice AC kC cC) (.slice BC mC dC)):=tz.set _ _ _;go_simp;refine cZ.o _ _ ?_;clear cZ KK;refine fK (by kernel_rfl) ?_ _;(go_wp2_with fail);exact ax (v:=.agg #[.bool sC,.slice AC kC cC,.slice BC mC dC]) (cI (fn:=Tryz.f27) rfl _ _ _ _ _ _ _ rfl eT.o underlying51 rfl cm) rfl
           ⟨x*mkK (Poly.C gg),hG.o,sC,AC,kC,cC,BC,mC,dC,rfl,eZ.o,eB.o⟩
        exact aL.nil
      exact aL.nil
    | false=>
      (have uK:y≠0:=fun e=>by have:=aoo.o.2 e;cases this);obtain ⟨D,E,⟨f1,f2,f3,f4,f5,_⟩,XI⟩:=HH.o.rs x y hI.o uK;have Hrs:=aA XI;have CR:Hid (aC 54 #[.agg #[.bool s3,.slice A3 k3 c3,.slice B3 m3 d3],.int .i64 ((n:Int)+1),.agg #[.bool s4,.slice A4 k4 c4,.slice B4 m4 d4]] w3 (fun e w'=>∃r k,Poly.RI (kids x) (kids y) D E k (kids r)∧(kids r).len<(kids y).len∧bV (fun b=>((S b∧b<w.heap.size)∨w.heap.size+1+1+1<=b)∧b≠jV∧b≠fW) w3 (n+1) r e w')):=anE n K hK (by omega) _ w3 _ _ x y D E V10.o V11.o uK f1 f2 f3 f4 f5;clear XI f1 f2 f3 f4 f5;(go_wp2_with fail);refine CR.o.mono ?_;rintro e w4 ⟨r,k,hRI,Cj,s5,A5,k5,c5,B5,m5,d5,rfl,hv5,vW⟩;have hs4:=vW.size;have ba:Below w4.heap.size w4 (w4.alloc (.cells #[.bool s5,.slice A5 k5 c5,.slice B5 m5 d5] 51)):=jt aW _;have U10:=(T10.o.aB vW).aB ba;have U11:=(Vm.o.aB vW).aB ba;have U12:=aa.new w4 (.bool s5) (.slice A5 k5 c5) (.slice B5 m5 d5);have anZ:Hid (aO (fun b=>((S b∧b<w.heap.size)∨w.heap.size+1+1+1<=b)∧b≠jV∧b≠fW) (n+1) (w4.alloc (.cells #[.bool s5,.slice A5 k5 c5,.slice B5 m5 d5] 51)) (.agg #[.bool s5,.slice A5 k5 c5,.slice B5 m5 d5]) r):=(hv5.aB ba).mono fun b hb=>hb.elim id fun h9=>⟨.inr (by omega),by omega,by omega⟩;have vy5:Hid (aO (fun b=>((S b∧b<w.heap.size)∨w.heap.size+1+1+1<=b)∧b≠jV∧b≠fW) (n+1) (w4.alloc (.cells #[.bool s5,.slice A5 k5 c5,.slice B5 m5 d5] 51)) (.agg #[.bool s4,.slice A4 k4 c4,.slice B4 m4 d4]) y):=(V11.o.aB vW).aB ba;have on4:Hid (Only (fun b=>b=jV∨b=fW∨wa.heap.size<=b) wa (w4.alloc (.cells #[.bool s5,.slice A5 k5 c5,.slice B5 m5 d5] 51))):=(on3.o.trans ((Only.bY vW).mono fun b hb=> .inr (.inr (by omega)))).trans ((Only.bY ba).mono fun b hb=> .inr (.inr (by omega)));have HRI:=aA hRI;clear hv5 hRI CR p0 p1 p2 q0 q1 q2;unfold bG;(go_wp2_with fail);generalize hw5:w4.alloc (.cells #[.bool s5,.slice A5 k5 c5,.slice B5 m5 d5] 51)=w5 at*
      (have aKn:w4.heap.size<w5.heap.size:=by rw [<- hw5];simp);clear hw5;have v0:=U10.cell0;have v1:=U10.cell1;have v2:=U10.aP;have v3:=U10.frozen 0;have v4:=U10.frozen 1;have v5:=U10.frozen 2;have y0:=U11.cell0;have y1:=U11.cell1;have y2:=U11.aP;have y3:=U11.frozen 0;have y4:=U11.frozen 1;have y5:=U11.frozen 2;have z0:=U12.cell0;have z1:=U12.cell1;have z2:=U12.aP;have eX:Hid (aa (((((w5.setCell ⟨jV,0,none⟩ (.bool s4)).setCell ⟨jV,1,none⟩ (.slice A4 k4 c4)).setCell ⟨jV,2,none⟩ (.slice B4 m4 d4)).setCell ⟨fW,0,none⟩ (.bool s5)).setCell ⟨fW,1,none⟩ (.slice A5 k5 c5) |>.setCell ⟨fW,2,none⟩ (.slice B5 m5 d5)) jV (.bool s4) (.slice A4 k4 c4) (.slice B4 m4 d4)):=sX (U10.set _ _ _) ajV _ _ _;have eY:Hid (aa (((((w5.setCell ⟨jV,0,none⟩ (.bool s4)).setCell ⟨jV,1,none⟩ (.slice A4 k4 c4)).setCell ⟨jV,2,none⟩ (.slice B4 m4 d4)).setCell ⟨fW,0,none⟩ (.bool s5)).setCell ⟨fW,1,none⟩ (.slice A5 k5 c5) |>.setCell ⟨fW,2,none⟩ (.slice B5 m5 d5)) fW (.bool s5) (.slice A5 k5 c5) (.slice B5 m5 d5)):=aa.set (sX U11 ajV.symm _ _ _) _ _ _;have eVy:Hid (aO (fun b=>((S b∧b<w.heap.size)∨w.heap.size+1+1+1<=b)∧b≠jV∧b≠fW) (n+1) (((((w5.setCell ⟨jV,0,none⟩ (.bool s4)).setCell ⟨jV,1,none⟩ (.slice A4 k4 c4)).setCell ⟨jV,2,none⟩ (.slice B4 m4 d4)).setCell ⟨fW,0,none⟩ (.bool s5)).setCell ⟨fW,1,none⟩ (.slice A5 k5 c5) |>.setCell ⟨fW,2,none⟩ (.slice B5 m5 d5)) (.agg #[.bool s4,.slice A4 k4 c4,.slice B4 m4 d4]) y):=(vy5.o.only (aZ w5 jV _ _ _) (fun b hb e=>hb.2.1 e) (fun b hb=>hb)).only (aZ _ fW _ _ _) (fun b hb e=>hb.2.2 e) (fun b hb=>hb);have eVr:Hid (aO (fun b=>((S b∧b<w.heap.size)∨w.heap.size+1+1+1<=b)∧b≠jV∧b≠fW) (n+1) (((((w5.setCell ⟨jV,0,none⟩ (.bool s4)).setCell ⟨jV,1,none⟩ (.slice A4 k4 c4)).setCell ⟨jV,2,none⟩ (.slice B4 m4 d4)).setCell ⟨fW,0,none⟩ (.bool s5)).setCell ⟨fW,1,none⟩ (.slice A5 k5 c5) |>.setCell ⟨fW,2,none⟩ (.slice B5 m5 d5)) (.agg #[.bool s5,.slice A5 k5 c5,.slice B5 m5 d5]) r):=(anZ.o.only (aZ w5 jV _ _ _) (fun b hb e=>hb.2.1 e) (fun b hb=>hb)).only (aZ _ fW _ _ _) (fun b hb e=>hb.2.2 e) (fun b hb=>hb);have eOn:Hid (Only (fun b=>b=jV∨b=fW∨wa.heap.size<=b) wa (((((w5.setCell ⟨jV,0,none⟩ (.bool s4)).setCell ⟨jV,1,none⟩ (.slice A4 k4 c4)).setCell ⟨jV,2,none⟩ (.slice B4 m4 d4)).setCell ⟨fW,0,none⟩ (.bool s5)).setCell ⟨fW,1,none⟩ (.slice A5 k5 c5) |>.setCell ⟨fW,2,none⟩ (.slice B5 m5 d5))):=(on4.o.trans ((aZ w5 jV _ _ _).mono fun b hb=> .inl hb)).trans ((aZ _ fW _ _ _).mono fun b hb=> .inr (.inl hb));clear vy5 anZ on4;go_cut [] (fun V=>Hid (aa V jV (.bool s4) (.slice A4 k4 c4) (.slice B4 m4 d4))∧Hid (aa V fW (.bool s5) (.slice A5 k5 c5) (.slice B5 m5 d5))∧Hid (aO (fun b=>((S b∧b<w.heap.size)∨w.heap.size+1+1+1<=b)∧b≠jV∧b≠fW) (n+1) V (.agg #[.bool s4,.slice A4 k4 c4,.slice B4 m4 d4]) y)∧Hid (aO (fun b=>((S b∧b<w.heap.size)∨w.heap.size+1+1+1<=b)∧b≠jV∧b≠fW) (n+1) V (.agg #[.bool s5,.slice A5 k5 c5,.slice B5 m5 d5]) r)∧Hid (Only (fun b=>b=jV∨b=fW∨wa.heap.size<=b) wa V))
      case first=>
       go_region
       all_goals
        (go_wp2_with fail);go_meet
        exact ⟨eX.o.aB aW.drew,eY.o.aB aW.drew,eVy.o.aB aW.drew,eVr.o.aB aW.drew,eOn.o.trans ((Only.bY (aW.drew)).mono fun b hb=> .inr (.inr (by have:=eOn.o.size;omega)))⟩
      case rest=>
       obtain ⟨Mq,zW,hVy,hVr,ajx⟩:=hcut;obtain ⟨w6,rfl⟩:∃V:World,V=wc:=⟨_,rfl⟩;clear eX eY eVy eVr eOn U10 U11 U12 v0 v1 v2 v3 v4 v5 y0 y1 y2 y3 y4 y5 z0 z1 z2;have XH:=ajx.o.size;have p0:=zW.o.cell0;have p1:=zW.o.cell1;have p2:=zW.o.aP;have ash:=aA (sW _ n w6 _ r hVr.o);obtain ⟨JX,hr2⟩:=Hrs.o r k HRI.o Cj;have Hr1:=aA JX;have Hr2:=aA hr2;clear JX hr2 Hrs;(go_wp2_with fail);refine ash.o.mono ?_;rintro e w7 ⟨rr,rfl,hrr,gN⟩;have hs7:=gN.size;have alI:=aA (Mq.o.aB gN);have Xt:=aA (zW.o.aB gN);have Vy7:=aA (hVy.o.aB gN);have Vr7:=aA (hVr.o.aB gN);have on7:Hid (Only (fun b=>b=jV∨b=fW∨wa.heap.size<=b) wa w7):=ajx.o.trans ((Only.bY gN).mono fun b hb=> .inr (.inr (by omega)));have aop:=aA hrr;clear hrr gN Mq zW hVy hVr ajx ash p0 p1 p2;cases rr with
       | true=>
         have oK:r=0:=aop.o.1 rfl;have hIy:Hid (I y r):=by
          rw [oK];exact Hr1.o oK
         (go_wp2_with fail);go_roundg (gk-1)
         case measure=>omega
         case rel=>exact ⟨y,r,s4,A4,k4,c4,B4,m4,d4,s5,A5,k5,c5,B5,m5,d5,by omega,hIy,alI,Xt,Vy7,Vr7,on7⟩
       | false=>
         (have oK:r≠0:=fun e=>by have:=aop.o.2 e;cases this);obtain ⟨hcr,GA⟩:=Hr2.o oK;have Hby:=aA GA;clear GA Hr1 Hr2;have t_R:=Vr7.o.here;have aAI:Hid (∀(T:Nat->Prop) (V:World),Below w7.heap.size w7 V->aO T (n+1) V (.agg #[.bool s5,.slice A5 k5 c5,.slice B5 m5 d5]) r->aC 52 #[.agg #[.bool s5,.slice A5 k5 c5,.slice B5 m5 d5],.int .i64 ((n:Int)+1)] V (fun e w'=>∃c,Poly.Cont c (kids r)∧bV T V n c e w')):=fun T V _ hv=>Gt n (by omega) T V _ r hv hcr.1 hcr.2.1;have Nj:jV<w7.heap.size∧fW<w7.heap.size:=⟨alI.o.lt,Xt.o.lt⟩;have MV:Hid (∀V,Below w7.heap.size w7 V->(fun V=>V.cell? ⟨fW,0,none⟩=some (.bool s5)∧V.cell? ⟨fW,1,none⟩=some (.slice A5 k5 c5)∧V.cell? ⟨fW,2,none⟩=some (.slice B5 m5 d5)) V):=fun V hV=>⟨(Xt.o.aB hV).cell0,(Xt.o.aB hV).cell1,(Xt.o.aB hV).aP⟩;(go_wp2_with fail);refine gC (S:=fun V=>V.cell? ⟨fW,0,none⟩=some (.bool s5)∧V.cell? ⟨fW,1,none⟩=some (.slice A5 k5 c5)∧V.cell? ⟨fW,2,none⟩=some (.slice B5 m5 d5)) (z:=8) (by kernel_rfl) ?_;have hHeld:=MV.o _ (Below.refl w7.heap.size w7).drew;(try dsimp only at hHeld);refine tk 8 0 (.agg #[.bool s5,.slice A5 k5 c5,.slice B5 m5 d5]) rfl hHeld ?_;(try simp only [fx,Act.put]);refine tk 8 1 (.int .i64 ((n:Int)+1)) rfl hHeld ?_;(try simp only [fx,Act.put]);refine tk 8 2 (.agg #[.bool s5,.slice A5 k5 c5,.slice B5 m5 d5]) rfl hHeld ?_;(try simp only [fx,Act.put]);refine tk 8 3 (.int .i64 ((n:Int)+1)) rfl hHeld ?_;(try simp only [fx,Act.put]);refine aV (rs:=[4]) (by kernel_rfl) (by simp) ?_;refine aL.cons rfl (by decide) (fun KK cZ=> ?_) ?_
         . skip
           go_simp;refine (aAI.o (fun b=>(((S b∧b<w.heap.size)∨w.heap.size+1+1+1<=b)∧b≠jV∧b≠fW)∧b<w7.heap.size) (World.drew w7) (Below.refl w7.heap.size w7).drew ((t_R.aB (Below.refl w7.heap.size w7).drew).mono (fun b hb=>⟨hb.1,by have h9:=hb.2;omega⟩))).mono ?_;rintro e wK ⟨cr,akf,sK,AK,kK,cK,BK,mK,dK,rfl,hK,hbK⟩;have Bd:Below w7.heap.size w7 wK:=(Below.refl w7.heap.size w7).drew.trans (hbK.mono (Below.refl w7.heap.size w7).drew.size);have avl:w7.heap.size<=wK.heap.size:=by
            have h2:=hbK.size;change (w7).heap.size<=_ at h2
            exact h2
           have t_R:=((t_R.aB (Below.refl w7.heap.size w7).drew).aB hbK).mono (T:=fun b=>(((S b∧b<w.heap.size)∨w.heap.size+1+1+1<=b)∧b≠jV∧b≠fW)∧b<wK.heap.size) (fun b hb=>⟨hb.1,by have h9:=hb.2;omega⟩);have t_K:aO (fun b=>(((S b∧b<w.heap.size)∨w.heap.size+1+1+1<=b)∧b≠jV∧b≠fW)∧b<wK.heap.size) n wK (bG sK AK kK cK BK mK dK) cr:=hK.here.mono fun b hb=>by
            rcases hb with ⟨h1 | h1,h3⟩
            . exact ⟨h1.1,h3⟩
            . change (w7).heap.size<=b at h1
              exact ⟨⟨.inr (by omega),by omega,by omega⟩,h3⟩
           clear hK;have akg:cr≠0:=akf.ne (fun e=>oK e);obtain ⟨fz,Bk⟩:=akf.dv.dv;obtain ⟨Mi,apX⟩:=Hby.o cr (mkK fz) akf Bk;have hIz:=aA apX;(have hlz:(kids (mkK fz)).len<=(kids r).len:=by rw [Bk,Poly.fU akg];exact aK);have hrz:Hid (r=mkK fz*mkK (Poly.C cr)):=(show kids r=fz*Poly.C cr by rw [Bk,aG.mul_comm]);have aAL:Hid (∀(T:Nat->Prop) (V:World),Below w7.heap.size w7 V->aO T (n+1) V (.agg #[.bool s5,.slice A5 k5 c5,.slice B5 m5 d5]) r->∀v,aO T (n+1) V v (mkK (Poly.C cr))->aC 53 #[.agg #[.bool s5,.slice A5 k5 c5,.slice B5 m5 d5],.int .i64 ((n:Int)+1),v] V (bV T V (n+1) (mkK fz))):=fun T V _ h1 v h2=>(by obtain ⟨D,E,e1,e2,e3,e4,e5,e6,_⟩:=Mi;rw [hrz.o] at h1;have h9:=mby K hK (n+1) (by omega) T V _ _ (mkK fz) (mkK (Poly.C cr)) D E h1 h2 (Poly.CZ akg) e1 e2 e3 e4 e5 e6;rw [k9] at h9;exact h9);clear Bk apX Hby;unfold bG;(go_wp2_with fail);refine cZ.o _ _ (MV.o _ Bd) (fun hHeld=> ?_);clear cZ KK;(try dsimp only at hHeld);(try simp only [fx,Act.put]);refine aV (rs:=[5]) (by kernel_rfl) (by simp) ?_;refine aL.cons rfl (by decide) (fun KK cZ=> ?_) ?_
           . skip
             go_simp;refine cZ.o _ _ (MV.o _ (jt Bd (.cells #[.bool sK,.slice AK kK cK,.slice BK mK dK] 51))) (fun hHeld=> ?_);clear cZ KK;(try dsimp only at hHeld);(try simp only [fx,Act.put]);refine tk 8 6 (.agg #[.bool false,.slice none 0 0,.slice (some ⟨wK.heap.size,0,none⟩) 1 1]) rfl hHeld ?_;(try simp only [fx,Act.put]);refine aV (rs:=[7]) (by kernel_rfl) (by simp) ?_;refine aL.cons rfl (by decide) (fun KK cZ=> ?_) ?_
             . skip
               go_simp;refine (aAL.o (fun b=>(((S b∧b<w.heap.size)∨w.heap.size+1+1+1<=b)∧b≠jV∧b≠fW)∧b<wK.heap.size+1) (World.alloc wK (.cells #[.bool sK,.slice AK kK cK,.slice BK mK dK] 51)) (jt Bd (.cells #[.bool sK,.slice AK kK cK,.slice BK mK dK] 51)) ((t_R.aB (jt (Below.refl wK.heap.size wK) (.cells #[.bool sK,.slice AK kK cK,.slice BK mK dK] 51))).mono (fun b hb=>⟨hb.1,by have h9:=hb.2;omega⟩)) _ (aO.one (S:=fun b=>(((S b∧b<w.heap.size)∨w.heap.size+1+1+1<=b)∧b≠jV∧b≠fW)∧b<wK.heap.size+1) (Gx _ (.cells #[.bool sK,.slice AK kK cK,.slice BK mK dK] 51)) ((t_K.aB (jt (Below.refl wK.heap.size wK) (.cells #[.bool sK,.slice AK kK cK,.slice BK mK dK] 51))).mono (fun b hb=>⟨hb.1,by have h9:=hb.2;omega⟩)) akg ⟨⟨.inr (by omega),by omega,by omega⟩,by omega⟩)).mono ?_;rintro e wC ⟨sC,AC,kC,cC,BC,mC,dC,rfl,hC,YB⟩;have Be:Below w7.heap.size w7 wC:=(jt Bd (.cells #[.bool sK,.slice AK kK cK,.slice BK mK dK] 51)).trans (YB.mono (jt Bd (.cells #[.bool sK,.slice AK kK cK,.slice BK mK dK] 51)).size);have avm:wK.heap.size+1<=wC.heap.size:=by
                have h2:=YB.size;change ((World.alloc wK (.cells #[.bool sK,.slice AK kK cK,.slice BK mK dK] 51))).heap.size<=_ at h2
                simp only [aJ] at h2;exact h2
               have l_B:wC.heap[wK.heap.size]? =some (.cells #[.bool sK,.slice AK kK cK,.slice BK mK dK] 51):=Zq YB (Gx _ (.cells #[.bool sK,.slice AK kK cK,.slice BK mK dK] 51));have t_R:=((t_R.aB (jt (Below.refl wK.heap.size wK) (.cells #[.bool sK,.slice AK kK cK,.slice BK mK dK] 51))).aB YB).mono (T:=fun b=>(((S b∧b<w.heap.size)∨w.heap.size+1+1+1<=b)∧b≠jV∧b≠fW)∧b<wC.heap.size) (fun b hb=>⟨hb.1,by have h9:=hb.2;omega⟩);have t_K:=((t_K.aB (jt (Below.refl wK.heap.size wK) (.cells #[.bool sK,.slice AK kK cK,.slice BK mK dK] 51))).aB YB).mono (T:=fun b=>(((S b∧b<w.heap.size)∨w.heap.size+1+1+1<=b)∧b≠jV∧b≠fW)∧b<wC.heap.size) (fun b hb=>⟨hb.1,by have h9:=hb.2;omega⟩);have t_C:aO (fun b=>(((S b∧b<w.heap.size)∨w.heap.size+1+1+1<=b)∧b≠jV∧b≠fW)∧b<wC.heap.size) (n+1) wC (bG sC AC kC cC BC mC dC) (mkK fz):=hC.here.mono fun b hb=>by
                rcases hb with ⟨h1 | h1,h3⟩
                . exact ⟨h1.1,h3⟩
                . change ((World.alloc wK (.cells #[.bool sK,.slice AK kK cK,.slice BK mK dK] 51))).heap.size<=b at h1
                  simp only [aJ] at h1;exact ⟨⟨.inr (by omega),by omega,by omega⟩,h3⟩
               clear hC;unfold bG;(go_wp2_with fail);refine cZ.o _ _ (MV.o _ Be) (fun hHeld=> ?_);clear cZ KK;(try dsimp only at hHeld);(try simp only [fx,Act.put]);refine aV (rs:=[8]) (by kernel_rfl) (by simp) ?_;refine aL.last rfl (fun KK cZ=> ?_);have tz:=Xt.o.aB Be;have v0:=tz.cell0;have f0:=tz.frozen 0;have v1:=tz.cell1;have f1:=tz.frozen 1;have v2:=tz.aP;have f2:=tz.frozen 2;have eX:Hid (aa (((wC.setCell ⟨fW,0,none⟩ (.bool sC)).setCell ⟨fW,1,none⟩ (.slice AC kC cC)).setCell ⟨fW,2,none⟩ (.slice BC mC dC)) jV (.bool s4) (.slice A4 k4 c4) (.slice B4 m4 d4)):=sX (alI.o.aB Be) ajV _ _ _;have eY:Hid (aa (((wC.setCell ⟨fW,0,none⟩ (.bool sC)).setCell ⟨fW,1,none⟩ (.slice AC kC cC)).setCell ⟨fW,2,none⟩ (.slice BC mC dC)) fW (.bool sC) (.slice AC kC cC) (.slice BC mC dC)):=tz.set _ _ _;have eV:Hid (aO (fun b=>((S b∧b<w.heap.size)∨w.heap.size+1+1+1<=b)∧b≠jV∧b≠fW) (n+1) (((wC.setCell ⟨fW,0,none⟩ (.bool sC)).setCell ⟨fW,1,none⟩ (.slice AC kC cC)).setCell ⟨fW,2,none⟩ (.slice BC mC dC)) (.agg #[.bool s4,.slice A4 k4 c4,.slice B4 m4 d4]) y):=(Vy7.o.aB Be).only (aZ wC fW _ _ _) (fun b hb e=>hb.2.2 e) (fun b hb=>hb);have eZ:Hid (aO (fun b=>((S b∧b<w.heap.size)∨w.heap.size+1+1+1<=b)∧b≠jV∧b≠fW) (n+1) (((wC.setCell ⟨fW,0,none⟩ (.bool sC)).setCell ⟨fW,1,none⟩ (.slice AC kC cC)).setCell ⟨fW,2,none⟩ (.slice BC mC dC)) (.agg #[.bool sC,.slice AC kC cC,.slice BC mC dC]) (mkK fz)):=t_C.only (aZ wC fW _ _ _) (fun b hb e=>hb.1.2.2 e) (fun b hb=>hb.1);have eO:Hid (Only (fun b=>b=jV∨b=fW∨wa.heap.size<=b) wa (((wC.setCell ⟨fW,0,none⟩ (.bool sC)).setCell ⟨fW,1,none⟩ (.slice AC kC cC)).setCell ⟨fW,2,none⟩ (.slice BC mC dC))):=(on7.o.trans ((Only.bY Be).mono fun b hb=> .inr (.inr (by omega)))).trans ((aZ wC fW _ _ _).mono fun b hb=> .inr (.inl hb));go_simp;refine cZ.o _ _ ?_;clear cZ KK;refine fK (by kernel_rfl) ?_ _;(go_wp2_with fail);go_roundg (gk-1)
               case measure=>omega
               case rel=>exact ⟨y,mkK fz,s4,A4,k4,c4,B4,m4,d4,sC,AC,kC,cC,BC,mC,dC,by omega,hIz,eX,eY,eV,eZ,eO⟩
             exact aL.nil
           exact aL.nil
         exact aL.nil
def UG:∀{n:Nat} {D E:Nat->Nat},aI.j6 (Pn n) (fun j=>D j+E j)<=aI.j6 (Pn n) D*aI.j6 (Pn n) E
 | 0,_,_=>aK
 | n+1,D,E=>by
   show (D 0+E 0+1)*aI.j6 (Pn n) (fun j=>D (j+1)+E (j+1))<=(D 0+1)*aI.j6 (Pn n) (fun j=>D (j+1))*((E 0+1)*aI.j6 (Pn n) (fun j=>E (j+1)));rw [EK];refine dN ?_ UG;rw [bQ,ak,bP];omega
def acC.mul {x:Pn (n+1)} {g:Pn n}(h:acC n K x g):jQ (n+1) K x (mkK (Poly.C g)):=by
 obtain ⟨D,E,h1,h2,h3,h4,h5,h6,h7,h8⟩:=h;refine ⟨D,Poly.bZ 0 E,h1,abo h2,fun j=> ?_,h5,by rw [Wi];exact h6,by rw [Wi];exact h7,?_⟩
 . cases j with
   | zero=>show D 0+0<_;omega
   | succ j=>exact h4 j
 . show aI.j6 (Pn (n+1)) D*((0+1)*aI.j6 (Pn n) E)<=_
   rw [ct,bP];exact h8
def jQ.prod {x g:Pn n}(h:jQ n K x g):ir n K (x*g):=by
 obtain ⟨D,E,h1,h2,h3,h4,h5,h6,h7⟩:=h;exact ⟨_,aI.jb _ _ _ _ h1 h2,aH UG h7,h3,aR (aI.mV _ _) h6⟩
def ajc {a b:Pn n}(h:a=0∨b=0):nL (a+b) a b:=by
 rcases h with h | h
 . rw [h,aG.zero_add]
   exact ⟨Dv.zero b,Dv.refl b,fun d _ h2=>h2⟩
 . rw [h,aG.add_zero]
   exact ⟨Dv.refl a,Dv.zero a,fun d h1 _=>h1⟩
def Fv {a b g g':Pn n}(hg:nL g a b) (h:g'=g∨g'= -g):nL g' a b:=by
 rcases h with e | e
 . rw [e];exact hg
 . rw [e];exact hg.neg
def xz {f:Pn m} {T:List TV}(e:aU T=iI i m f):T.length=0↔f=0:=by
 rw [<- xD (i:=i),<- e,<- bE,acg]
def Q6 (i m N K:Nat) (hi:i+(m+1)=N) (hN:N<=6) (hK:K<=3700000000000) (f:Pn (m+1)) (w:World) (v:Value) (hf:Rw w v i (m+1) f) (fit:ir (m+1) K f) (hl:(kids f).len<=1000000000000) (hc:∀k c,k<(kids f).len->QU (kids f).co k c->wM m c ((kids f).co k)):
 aC 61 #[v,.int .i64 (i:Int),.int .i64 (N:Int)] w (fun e w'=>∃c,Poly.Cont c (kids f)∧oA w (i+1) m c e w'):=by
 have HF:=aA hf;have Hc:=aA hc;have Fit:=aA fit;have ew:IntKind.i64.wrap ((i:Int)+1)=(i:Int)+1:=bR _ (by omega);obtain ⟨z,hz⟩:∃z:Int,((kids f).len:Int)-1=z:=⟨_,rfl⟩;have Hz:=aA hz;have Cd:Hid (∀V,Below w.heap.size w V->aC 94 #[v,.int .i64 (i:Int)] V fun e w'=>e=.returned (.int .i64 z)∧w'=V):=fun V hV=>by
  have h:=Lt (by omega) Fit.o (HF.o.aB hV);rwa [hz] at h
 clear hf hc fit hz;go_enter func61,ntmps61
 obtain ⟨wo,rfl⟩:∃wo:World,wo=w:=⟨_,rfl⟩;go_wp2_with fail
 go_loopw [7,8] (fun g7 kk wr=>∃(k:Nat) (g:Pn m),k<=(kids f).len∧kk=.int .i64 (k:Int)∧Hid (QU (kids f).co k g)∧Hid (Rw wr g7 (i+1) m g)∧Hid (Below wo.heap.size wo wr)) (fun _ kk _=>(kids f).len-(intOf kk).toNat)
 case atStart=>exact ⟨0,0,dc _,rfl,QU.zero _,Rw.nil _ _ _,aW⟩
 case round=>
  obtain ⟨k,g,hk,rfl,hG,hR,hB⟩:=hrel;obtain ⟨wp,rfl⟩:∃wp:World,wp=wr:=⟨_,rfl⟩;have Cd':=aA (Cd.o wp hB.o);by_cases hlt:k<(kids f).len
  . have mS:(k:Int)<=z:=by have:=Hz.o;omega
    have Cc:=aA (Lu hK (by omega) Fit.o (HF.o.aB hB.o) k);have CC:Hid (∀V x,Rw V u7 (i+1) m g->Rw V x (i+1) m ((kids f).co k)->aC 29 #[u7,x,.int .i64 ((i:Int)+1),.int .i64 (N:Int)] V (fun e w'=>∃g',nL g' g ((kids f).co k)∧o7 g'∧oA V (i+1) m g' e w')):=fun V x h1 h2=>by
     have h:=(Hc.o k g hlt hG.o).2 (i+1) N V u7 x (by omega) hN h1 h2;rwa [k9] at h
    have Vt:=aA hlt;clear hlt Cd;(go_wp2_with fail);refine Cd'.o.mono ?_;rintro e w1 ⟨rfl,h9⟩;obtain rfl:=h9.symm;(go_wp2_with fail);refine Cc.o.mono ?_;rintro e w2 ⟨x,rfl,r2,b2⟩;have C2:=aA (CC.o w2 x (hR.o.aB b2) r2);have B2:=aA (eC hB.o b2);clear r2 b2 CC Cc hR;(go_wp2_with fail);refine C2.o.mono ?_;rintro e w3 ⟨g',FE,Jm,x3,rfl,r3,b3⟩;have R3:=aA r3;have B3:=aA (eC B2.o b3);have G3:=aA (hG.o.next FE);clear r3 b3 FE Jm C2 B2 hG;(go_wp2_with fail);go_roundw
    case rel=>exact ⟨k+1,g',by have:=Vt.o;omega,by go_num,G3,R3,B3⟩
    case measure=>have:=Vt.o;simp [intOf];omega
  . have mS:¬(k:Int)<=z:=by have:=Hz.o;omega
    (obtain rfl:k=(kids f).len:=by omega);have F:Hid (∃c,Poly.Cont c (kids f)∧oA wo (i+1) m c (.returned u7) wp):=⟨g,hG.o.cont,u7,rfl,hR.o,hB.o⟩;clear hG hR hB;(go_wp2_with fail);refine Cd'.o.mono ?_;rintro e w1 ⟨rfl,h9⟩;obtain rfl:=h9.symm;(go_wp2_with fail);go_ret;exact F.o
def Ga (n K:Nat) (hK:K<=3690000000000) (a b:Pn n) (fa:ir n K a) (fb:ir n K b) (h0:a=0∨b=0):agr n a b:=by
 intro i N w u v hN hN6 hf hg;have hnm:aI.nm a+aI.nm b<2^(64*K):=by
  obtain ⟨_,_,_,_,h1⟩:=fa;obtain ⟨_,_,_,_,h2⟩:=fb;rcases h0 with h | h<;>rw [h,aI.kF]<;>omega
 have fs:ir n K (a+b):=by
  rcases h0 with h | h
  . rw [h,aG.zero_add];exact fb
  . rw [h,aG.add_zero];exact fa
 have C1:=aA (YY (by omega) (by omega) fa fb hnm hf hg);have C2:Hid (∀V x,Rw V x i n (a+b)->aC 58 #[x] V (agq V i n (a+b))):=fun V x h=>GX (by omega) (by omega) fs h;have HG:=aA (ajc h0);obtain ⟨Aa,ca,Ta,rfl,a1,a2,a3,a4,a5⟩:=hf;obtain ⟨Ab,cb,Tb,rfl,b1,b2,b3,b4,b5⟩:=hg;have z1:=xz a5;have z2:=xz b5;clear a3 a4 a5 b3 b4 b5 hnm fs fa fb;generalize Ta.length=la at*
 generalize Tb.length=lb at*
 by_cases ha:a=0
 . have e1:((la:Int)==0)=true:=by have:=z1.2 ha;simp [this]
   clear z1 z2 h0 ha;go_enter func29,ntmps29
   go_wp2_with fail
   refine C1.o.mono ?_;rintro e w1 ⟨x1,rfl,r1,b4⟩;have C3:=aA (C2.o w1 x1 r1);have B1:=aA b4;clear r1 b4 C1 C2;go_wp2_with fail
   refine C3.o.mono ?_;rintro e w2 ⟨g',h1,h2,x2,rfl,r2,b5⟩;have F:Hid (∃g,nL g a b∧o7 g∧oA w i n g (.returned x2) w2):=⟨g',Fv HG.o h1,h2,x2,rfl,r2,eC B1.o b5⟩;clear h1 h2 r2 b5;go_wp2_with fail
   go_ret;exact F.o
 . have e1:((la:Int)==0)=false:=jD.2 (fun h=>ha (z1.1 (by omega)))
   have e2:((lb:Int)==0)=true:=by have:=z2.2 (h0.resolve_left ha);simp [this]
   clear z1 z2 h0 ha;go_enter func29,ntmps29
   go_wp2_with fail
   refine C1.o.mono ?_;rintro e w1 ⟨x1,rfl,r1,b4⟩;have C3:=aA (C2.o w1 x1 r1);have B1:=aA b4;clear r1 b4 C1 C2;go_wp2_with fail
   refine C3.o.mono ?_;rintro e w2 ⟨g',h1,h2,x2,rfl,r2,b5⟩;have F:Hid (∃g,nL g a b∧o7 g∧oA w i n g (.returned x2) w2):=⟨g',Fv HG.o h1,h2,x2,rfl,r2,eC B1.o b5⟩;clear h1 h2 r2 b5;go_wp2_with fail
   go_ret;exact F.o
def Q7 (m K:Nat) (hK:K<=3690000000000) (a b:Pn (m+1)) (VM:a≠0) (ox:b≠0) (I:Pn (m+1)->Pn (m+1)->Prop) (H:Nc m K a b I):agr (m+1) a b:=by
 intro i N w u v hN hN6 hf hg;have ew:IntKind.i64.wrap ((i:Int)+1)=(i:Int)+1:=bR _ (by omega);have ne3:((i:Int)==(N:Int))=false:=jD.2 (by omega);have con:∀(f:Pn (m+1)) V x,yb m f->Rw V x i (m+1) f->aC 61 #[x,.int .i64 (i:Int),.int .i64 (N:Int)] V (fun e w'=>∃c,Poly.Cont c (kids f)∧oA V (i+1) m c e w'):=fun f V x hc h=>by
  obtain ⟨h1,h2,K',h3,h4⟩:=hc;exact Q6 i m N K' hN hN6 (by omega) f V x h h4 h1 h2
 have quo:∀(f:Pn (m+1)) (c:Pn m) (z:Poly (Pn m)) V x y,f≠0->Poly.Cont c (kids f)->kids f=Poly.C c*z->jQ (m+1) K (mkK z) (mkK (Poly.C c))->Rw V x i (m+1) f->Rw V y (i+1) m c->aC 62 #[x,y] V (oA V i (m+1) (mkK z)):=fun f c z V x y f0 hc e ft h1 h2=>
  ann hK (by omega) ft (fun e0=>Poly.CZ (hc.ne fun e2=>f0 e2) e0) (show kids f=z*Poly.C c by rw [e,aG.mul_comm]) h1 h2.C
 have CON:=aA con;have QUO:=aA quo;have C1:=aA (fun (_:Unit)=>con a w u H.ca hf);have Hf:=aA hf;have Hg:=aA hg;have HH:=aA H;obtain ⟨Aa,ca,Ta,rfl,a1,a2,a3,a4,a5⟩:=hf;obtain ⟨Ab,cb,Tb,rfl,b1,b2,b3,b4,b5⟩:=hg;have nJ:((Ta.length:Int)==0)=false:=jD.2 (fun h=>VM ((xz a5).1 (by omega)));have nI:((Tb.length:Int)==0)=false:=jD.2 (fun h=>ox ((xz b5).1 (by omega)));clear a3 a4 a5 b3 b4 b5 con quo H;generalize Ta.length=la at*
 generalize Tb.length=lb at*
 go_enter func29,ntmps29
 obtain ⟨wo,rfl⟩:∃wo:World,wo=w:=⟨_,rfl⟩;go_wp2_with fail
 refine (C1.o ()).mono ?_;rintro e w1 ⟨c,hc,x1,rfl,r1,b3⟩;have R1:=aA r1;have B1:=aA b3;have C2:=aA (CON.o b w1 (.slice Ab lb cb) HH.o.cb (Hg.o.aB b3));have HC:=aA hc;clear r1 b3 hc C1;go_wp2_with fail
 refine C2.o.mono ?_;rintro e w2 ⟨d,hd,x2,rfl,r2,b4⟩;have HD:=aA hd;obtain ⟨fa,hfa⟩:=HC.o.dv.dv;obtain ⟨fb,hfb⟩:=hd.dv.dv;have I0:Hid (I (mkK fa) (mkK fb)):=HH.o.st c d (mkK fa) (mkK fb) HC.o hd hfa hfb;have R2:=aA r2;have B2:=aA (eC B1.o b4);have R1':=aA (R1.o.aB b4);have C3:=aA (QUO.o a c fa w2 (.slice Aa la ca) x1 VM HC.o hfa (HH.o.by1 c (mkK fa) HC.o hfa) (Hf.o.aB B2.o) R1'.o);have C4:Hid (∀V,Below w2.heap.size w2 V->aC 62 #[.slice Ab lb cb,x2] V (oA V i (m+1) (mkK fb))):=fun V h=>QUO.o b d fb V (.slice Ab lb cb) x2 ox HD.o hfb (HH.o.by2 d (mkK fb) HD.o hfb) (Hg.o.aB (eC B2.o h)) (R2.o.aB h);clear r2 b4 hd hfa hfb R1 B1 C2;go_wp2_with fail
 refine C3.o.mono ?_;rintro e w3 ⟨x3,rfl,r3,b5⟩;have C5:=aA (C4.o w3 b5);have R3:=aA r3;have B3:=aA b5;clear r3 b5 C3 C4;go_wp2_with fail
 refine C5.o.mono ?_;rintro e wt ⟨x4,rfl,r4,b6⟩;have R4:=aA r4;have R3':=aA (R3.o.aB b6);have B4:=aA (eC B3.o b6);have B0:Hid (Below wo.heap.size wo wt):=B2.o.tm B4.o;have R1t:=aA (R1'.o.aB B4.o);have R2t:=aA (R2.o.aB B4.o);have BT:=aA (Below.refl wt.heap.size wt);clear r4 b6 C5 R3 B3 B2 R1' R2 B4;go_wp2_with fail
 go_loopg [11,12] ((kids (mkK fb)).len+1) (fun gk sx sy wr=>∃x y:Pn (m+1),(kids y).len<gk∧Hid (I x y)∧Hid (Rw wr sx i (m+1) x)∧Hid (Rw wr sy i (m+1) y)∧Hid (Below wt.heap.size wt wr))
 case atStart=>exact ⟨mkK fa,mkK fb,xm _,I0,R3',R4,BT⟩
 case round=>
  clear I0 R3' R4 BT;obtain ⟨x,y,Mh,hI,hX,hY,hB⟩:=hrel;obtain ⟨wp,rfl⟩:∃wp:World,wp=wr:=⟨_,rfl⟩;obtain ⟨Ay,cy,Ty,rfl,y1,y2,y3,y4,y5⟩:=id hY.o;have zy:=xz y5;clear y3 y4 y5;generalize Ty.length=ly at*
  by_cases uK:y=0
  . have zx:¬(0:Int)<(ly:Int):=by have:=zy.2 uK;omega
    subst uK;have CG:Hid (aC 29 #[x1,x2,.int .i64 ((i:Int)+1),.int .i64 (N:Int)] wp (fun e w'=>∃g,nL g c d∧o7 g∧oA wp (i+1) m g e w')):=by
     have h:=(HH.o.gc c d HC.o HD.o).2 (i+1) N wp x1 x2 (by omega) hN6 (R1t.o.aB hB.o) (R2t.o.aB hB.o);rwa [k9] at h
    have FIN:Hid (∀g,nL g c d->nL (x*mkK (Poly.C g)) a b∧jQ (m+1) K x (mkK (Poly.C g))∧ir (m+1) K (x*mkK (Poly.C g))):=fun g hg=>by
     obtain ⟨h1,h2,h3⟩:=HH.o.fin c d g x hI.o HC.o HD.o hg;exact ⟨h2,h3.mul,h3.mul.prod⟩
    have HX:=aA hX.o;have Xv:=aA (B0.o.tm hB.o);clear zy hX hY hI hB Mh R1t R2t HH;(go_wp2_with fail);refine CG.o.mono ?_;rintro e w5 ⟨g,hg,_,x5,rfl,r5,b7⟩;obtain ⟨g1,g2,g3⟩:=FIN.o g hg;have G1:=aA g1;have CM:=aA (GW hK (by omega) g2 (HX.o.aB b7) r5.C);have CR:Hid (∀V z,Rw V z i (m+1) (x*mkK (Poly.C g))->aC 58 #[z] V (agq V i (m+1) (x*mkK (Poly.C g)))):=fun V z h=>GX (by omega) (by omega) g3 h;have B5:=aA (eC Xv.o b7);clear g1 g2 g3 r5 b7 hg CG FIN HX Xv;(go_wp2_with fail);refine CM.o.mono ?_;rintro e w6 ⟨x6,rfl,r6,b8⟩;have CR':=aA (CR.o w6 x6 r6);have B6:=aA (eC B5.o b8);clear r6 b8 CM CR B5;(go_wp2_with fail);refine CR'.o.mono ?_;rintro e w7 ⟨g',h1,h2,x7,rfl,r7,b9⟩;have F:Hid (∃g,nL g a b∧o7 g∧oA wo i (m+1) g (.returned x7) w7):=⟨g',Fv G1.o h1,h2,x7,rfl,r7,eC B6.o b9⟩;clear h1 h2 r7 b9;(go_wp2_with fail);go_ret;exact F.o
  . have zx:(0:Int)<(ly:Int):=by
     rcases jJ ly with h | h
     . exact absurd (zy.1 h) uK
     . omega
    obtain ⟨D,E,fit,XI⟩:=HH.o.rs x y hI.o uK;have Hrs:=aA XI;have CR:=aA (adK i m K hK (by omega) x y D E wp _ _ hX.o hY.o uK fit);have Hgk:=aA Mh;clear XI fit zy hX hI Mh;(go_wp2_with fail);refine CR.o.mono ?_;rintro e w5 ⟨r,k,hri,Cj,x5,rfl,r5,b7⟩;obtain ⟨oK,JX⟩:=Hrs.o r k hri Cj;have HR:=aA r5;have B5:=aA (eC hB.o b7);have Y5:=aA (hY.o.aB b7);have HR1:=aA JX;have Hrl:=aA Cj;obtain ⟨Ar,cr,Tr,rfl,z1,z2,z3,z4,z5⟩:=r5;have zr:=xz z5;clear z3 z4 z5 hri Cj b7 CR Hrs JX hY hB;generalize Tr.length=lr at*
    by_cases r0:r=0
    . have zA:¬(0:Int)<(lr:Int):=by have:=zr.2 r0;omega
      have IN:=aA (oK r0);have R0:=aA (Rw.nil w5 i (m+1));clear oK HR1 zr HR;(go_wp2_with fail);go_roundg (gk-1)
      case measure=>have:=Hgk.o;omega
      case rel=>exact ⟨y,0,by have h:=Hgk.o;have h2:(kids (0:Pn (m+1))).len=0:=Poly.fo;have h3:=Poly.cH (show kids y≠0 from fun e=>uK e);omega,IN,Y5,R0,B5⟩
    . have zA:(0:Int)<(lr:Int):=by
       rcases jJ lr with h | h
       . exact absurd (zr.1 h) r0
       . omega
      obtain ⟨PX,hz⟩:=HR1.o r0;have HZ:=aA hz;have CC:=aA (CON.o r w5 _ PX HR.o);clear oK HR1 zr PX hz;(go_wp2_with fail);refine CC.o.mono ?_;rintro e w6 ⟨c6,hc6,x6,rfl,r6,b8⟩;obtain ⟨fz,Bk⟩:=hc6.dv.dv;obtain ⟨ft,iz⟩:=HZ.o c6 (mkK fz) hc6 Bk;have IZ:=aA iz;have hlz:Hid ((kids (mkK fz)).len=(kids r).len):=by
       show _=_;rw [Bk,Poly.fU (hc6.ne fun e2=>r0 e2)];rfl
      have CQ:=aA (QUO.o r c6 fz w6 _ x6 r0 hc6 Bk ft (HR.o.aB b8) r6);have B6:=aA (eC B5.o b8);have Y6:=aA (Y5.o.aB b8);clear r6 b8 Bk hc6 ft iz HZ CC HR B5 Y5;(go_wp2_with fail);refine CQ.o.mono ?_;rintro e w7 ⟨x7,rfl,r7,b9⟩;have R7:=aA r7;have B7:=aA (eC B6.o b9);have Y7:=aA (Y6.o.aB b9);clear r7 b9 CQ B6 Y6;(go_wp2_with fail);go_roundg (gk-1)
      case measure=>have:=Hgk.o;omega
      case rel=>exact ⟨y,mkK fz,by have h:=Hgk.o;have h2:=Hrl.o;have h3:=hlz.o;omega,IZ,Y7,R7,B7⟩
def ano {a:Pn 0}(ha:a≠0):iI i 0 a=[(List.replicate i 0,vG a)]:=by
 have h:vG a≠0:=fun e=>ha e;unfold iI yu mU;rw [gW,af h];show [(List.replicate i (0:Int)++[],vG a)]=_;rw [tH]
def row_one {a:Pn 0} {T:List TV}(ha:a≠0) (hP:eP (i+0) T) (e:aU T=iI i 0 a):∃s xs,T=[((s,xs),List.replicate i 0)]∧bW s xs (vG a):=by
 rw [ano ha] at e;have hl:T.length=1:=by rw [<- bE,e];rfl
 obtain ⟨⟨⟨s,xs⟩,ps⟩,rfl⟩:=List.length_eq_one_iff.1 hl;have e1:((ps,aF s xs):mj)=(List.replicate i 0,vG a):=(l6 e).1;obtain ⟨rfl,e2⟩:=Prod.mk.inj e1;have h:=hP.co _ ay;exact ⟨s,xs,rfl,⟨h.pl,e2,h.nz⟩⟩
def Q8 (K:Nat) (hK:K<=3690000000000) (a b:Pn 0) (na:aI.nm a<2^(64*K)) (nb:aI.nm b<2^(64*K)) (ha:a≠0) (hb:b≠0):agr 0 a b:=by
 intro i N w u v hN hN6 hf hg;obtain rfl:i=N:=hN;obtain ⟨Aa,ca,Ta,rfl,a1,a2,a3,a4,a5⟩:=hf;obtain ⟨Ab,cb,Tb,rfl,b1,b2,b3,b4,b5⟩:=hg;obtain ⟨s,xs,rfl,iC⟩:=row_one ha a4 a5;obtain ⟨t,ys,rfl,iP⟩:=row_one hb b4 b5;obtain ⟨ba,oa,rfl,pK,hca⟩:=a3.at_ (by show 0<1;omega);obtain ⟨bb,ob,rfl,IK,hcb⟩:=b3.at_ (by show 0<1;omega);obtain ⟨Ai,ci,Ei,ei,e1,e2,e3,e4,e5,e6,e7,e8,e9⟩:=hca 0 (by show 0<1;omega);obtain ⟨Bi,di,Fi,fi,f1,f2,_,f4,f5,_,_,f8,_⟩:=hcb 0 (by show 0<1;omega);simp only [Tj,jv,je,ct] at e1 e2 e3 e4 e6 e8 e9 f1 f2 f4 f8;have hr:(List.replicate i (0:Int)).length=i:=gI;rw [hr] at e3 e6 e9;have hkx:xs.length<=K:=by have h5:=iC.cap (K:=K) na;omega
 have hky:ys.length<=K:=by have h5:=iP.cap (K:=K) nb;omega
 have hG:Hid (nL (X6 ((Nat.gcd (limbs xs) (limbs ys):Nat):Int)) a b):=U9 (by rw [<- iC.eq];unfold aF;cases s<;>simp) (by rw [<- iP.eq];unfold aF;cases t<;>simp);have VG:((Nat.gcd (limbs xs) (limbs ys):Nat):Int)≠0:=fun e=>ha ((BW hG.o).1 e).1;have hgn:aI.nm (X6 ((Nat.gcd (limbs xs) (limbs ys):Nat):Int))<2^(64*K):=by
  refine aR ?_ na;have hx:limbs xs=aI.nm a:=by
   show _=(vG a).natAbs;rw [<- iC.eq];unfold aF;cases s<;>simp
  show (((Nat.gcd (limbs xs) (limbs ys):Nat):Int)).natAbs<=_;rw [EL,<- hx];refine Nat.gcd_le_left _ ?_;rw [hx];exact aI.rC a ha
 have keep:Hid (∀V,Below w.heap.size w V->V.cell? ⟨ba,oa,none⟩=some (.bool s)∧V.cell? ⟨ba,oa+1,none⟩=some (.slice Ai xs.length ci)∧V.cell? ⟨ba,oa+2,none⟩=some (.slice Ei i ei)∧V.cell? ⟨bb,ob,none⟩=some (.bool t)∧V.cell? ⟨bb,ob+1,none⟩=some (.slice Bi ys.length di)):=fun V hV=>
  ⟨(hV.cell (p:=⟨ba,oa,none⟩) pK).trans e1,(hV.cell (p:=⟨ba,oa+1,none⟩) pK).trans e2,(hV.cell (p:=⟨ba,oa+2,none⟩) pK).trans e3,(hV.cell (p:=⟨bb,ob,none⟩) IK).trans f1,(hV.cell (p:=⟨bb,ob+1,none⟩) IK).trans f2⟩
 have CG:Hid (∀V,Below w.heap.size w V->aC 60 #[.agg #[.bool s,.slice Ai xs.length ci],.agg #[.bool t,.slice Bi ys.length di]] V (tV V ((Nat.gcd (limbs xs) (limbs ys):Nat):Int) (max xs.length ys.length))):=fun V hV=>anp s t Ai Bi xs.length ys.length ci di xs ys V (e8.aB hV) (f8.aB hV) e4 e5 f4 f5 (by omega) (by omega);have CR:Hid (∀V x,Rw V x i 0 (X6 ((Nat.gcd (limbs xs) (limbs ys):Nat):Int))->aC 58 #[x] V (agq V i 0 (X6 ((Nat.gcd (limbs xs) (limbs ys):Nat):Int)))):=fun V x h=>GX (K:=K) (by omega) (by omega) ⟨fun _=>0,trivial,by show 1<=_;omega,fun _=>by show 0<_;omega,hgn⟩ h;have E9:=aA e9;have MK:Hid (∀V s1 A1 k1 c1 l1,Below w.heap.size w V->k1<=c1->c1<=9223372036854775807->aD V A1 k1 l1->bW s1 l1 ((Nat.gcd (limbs xs) (limbs ys):Nat):Int)->Rw (V.alloc (.cells #[.bool s1,.slice A1 k1 c1,.slice Ei i ei] 44)) (.slice (some ⟨V.heap.size,0,none⟩) 1 1) i 0 (X6 ((Nat.gcd (limbs xs) (limbs ys):Nat):Int))):=fun V s1 A1 k1 c1 l1 hV h1 h2 h3 h4=>by
  obtain rfl:=h3.len;have hal:Below V.heap.size V (V.alloc (.cells #[.bool s1,.slice A1 l1.length c1,.slice Ei i ei] 44)):=aW.alloc aK _;have hq:=bO V (.cells #[.bool s1,.slice A1 l1.length c1,.slice Ei i ei] 44);have hsz:V.heap.size<(V.alloc (.cells #[.bool s1,.slice A1 l1.length c1,.slice Ei i ei] 44)).heap.size:=by simp
  have hT:jM (V.alloc (.cells #[.bool s1,.slice A1 l1.length c1,.slice Ei i ei] 44)) (some ⟨V.heap.size,0,none⟩) 1 [((s1,l1),List.replicate i 0)]:=
   UK (by rw [dA _ _ 0 _ _ (0,0) hq];rfl) (by rw [dA _ _ 1 _ _ (0,0) hq];rfl) (by rw [dA _ _ 2 _ _ (0,0) hq,hr];rfl) hsz h1 h2 (by rw [hr];exact e6) e7 (h3.aB hal) (by rw [hr];exact E9.o.aB (hV.tm hal))
  have e:aU [((s1,l1),List.replicate i 0)]=iI i 0 (X6 ((Nat.gcd (limbs xs) (limbs ys):Nat):Int)):=by
   rw [ano (show X6 ((Nat.gcd (limbs xs) (limbs ys):Nat):Int)≠0 from VG)];show [((List.replicate i (0:Int),aF s1 l1):mj)]=_;rw [h4.eq];rfl
  exact ⟨_,1,[((s1,l1),List.replicate i 0)],rfl,aK,by omega,hT,⟨by rw [e];exact lN i _,fun t ht=>by
   rw [en.1 ht];exact ⟨h4.pl,rfl,h4.nz⟩⟩,e⟩
 clear hr a3 a4 a5 b3 b4 b5 hca hcb e8 e9 f8 iC iP na nb hgn;obtain ⟨k1,k2,k3,k4,k5⟩:=keep.o w aW;have hie:((i:Int)==(i:Int))=true:=by simp
 go_enter func29,ntmps29
 go_wp2_with fail
 go_region_held3 (fun W=>W.cell? ⟨ba,oa,none⟩=some (.bool s)∧W.cell? ⟨ba,oa+1,none⟩=some (.slice Ai xs.length ci)∧W.cell? ⟨ba,oa+2,none⟩=some (.slice Ei i ei)∧W.cell? ⟨bb,ob,none⟩=some (.bool t)∧W.cell? ⟨bb,ob+1,none⟩=some (.slice Bi ys.length di))
  (first | go_keep | exact keep.o _ aW.drew | exact keep.o _ qw | exact keep.o _ (qw.alloc qw.size _) | exact keep.o _ VK)
  (first | (go_at_call 60;refine (CG.o _ aW.drew).mono ?_;rintro e we ⟨s1,A1,k1,c1,l1,rfl,z1,z2,z3,z4,z5,zU⟩;have qw:Below w.heap.size w we:=aW.drew.trans zU;have HR:=aA (MK.o we s1 A1 k1 c1 l1 qw z1 z2 z4 z5);clear z4 z5) | (go_at_call 58;refine (CR.o _ _ HR.o).mono ?_;rintro e wf ⟨g',y1,y2,x7,rfl,y3,axr⟩;have VK:Below w.heap.size w wf:=eC (qw.alloc qw.size _) axr;have F:Hid (∃g,nL g a b∧o7 g∧oA w i 0 g (.returned x7) wf):=⟨g',Fv hG.o y1,y2,x7,rfl,y3,VK⟩;clear y1 y2 y3))
 all_goals
  go_wp2_with fail
  go_ret;exact F.o
def ayR (hK:K<=3690000000000) (hn:n<=97) {a b:Pn (n+1)}(ha:a≠0) (hb:b≠0) {I:Pn (n+1)->Pn (n+1)->Prop}(H:Nc n K a b I):wM (n+1) a b:=⟨Zk n K (by omega) hn a b ha hb I H,Q7 n K hK a b ha hb I H⟩
def aqx (hK:K<=3690000000000) (hn:n<=97) {a b:Pn (n+1)}(fa:ir (n+1) K a) (fb:ir (n+1) K b) (h0:a=0∨b=0):wM (n+1) a b:=⟨Zj n hn a b h0,Ga (n+1) K hK a b fa fb h0⟩
def ayS (hK:K<=3690000000000) {a b:Pn 0}(na:aI.nm a<2^(64*K)) (nb:aI.nm b<2^(64*K)):wM 0 a b:=by
 refine ⟨Zl K (by omega) a b na nb,?_⟩;have fit:∀x:Pn 0,aI.nm x<2^(64*K)->ir 0 K x:=fun x h=>⟨fun _=>0,trivial,by show 1<=_;omega,fun _=>by show 0<_;omega,h⟩;by_cases h0:a=0∨b=0
 . exact Ga 0 K hK a b (fit a na) (fit b nb) h0
 . exact Q8 K hK a b na nb (fun e=>h0 (.inl e)) (fun e=>h0 (.inr e))
def QU.bound {f:Nat->Pn n} {c:Pn n} (hg:QU f m c) (dg:∀i,aI.dg D (f i)) (nm:∀i,aI.nm (f i)<=h):aI.dg D c∧aI.nm c<=aI.uk (Pn n) D*h:=by
 by_cases h0:∃i,i<m∧f i≠0
 . obtain ⟨i,hi,hne⟩:=h0
   obtain ⟨h1,h2⟩:=aI.factor D (f i) c hne (dg i) (hg.1 i hi);exact ⟨h1,aH h2 (bl _ (nm i))⟩
 . have hz:c=0:=by
    refine Dv.of0 (hg.2 0 fun i hi=> ?_);have h1:f i=0:=nw fun e=>h0 ⟨i,hi,e⟩;rw [h1];exact Dv.refl _
   rw [hz,aI.kF];exact ⟨aI.fQ D,dc _⟩
def Cont.bound {f:Poly (Pn n)} {c:Pn n} (hc:Poly.Cont c f) (hf:f≠0) (dg:∀i,aI.dg D (f.co i)) (nm:Poly.jT f<=h):aI.dg D c∧aI.nm c<=aI.uk (Pn n) D*h:=by
 have hl:=Poly.E0 hf;obtain ⟨h1,h2⟩:=aI.factor D f.lc c hl (dg _) (hc.dv _);exact ⟨h1,aH h2 (bl _ (aH (Poly.rD f _) nm))⟩
def Low (n:Nat) (D:Nat->Nat) (h:Nat):Prop:=∀g p:Pn n,aI.dg D g->aI.dg D p->aI.nm g<=h->aI.nm p<=h->wM n g p
def Low.less {D':Nat->Nat} {h':Nat}(k:Low n D h) (hD:∀j,D' j<=D j) (hh:h'<=h):Low n D' h':=fun g p h1 h2 h3 h4=>k g p (aI.jk _ _ _ hD h1) (aI.jk _ _ _ hD h2) (aH h3 hh) (aH h4 hh)
def Low.cont {f:Pn (n+1)}(k:Low n D (aI.uk (Pn n) D*h)) (rf:∃K,K<=3690000000000∧ir (n+1) K f) (hl:(kids f).len<=1000000000000) (dg:∀i,aI.dg D ((kids f).co i)) (nm:aI.nm f<=h):yb n f:=by
 have hph:=aI.ki (R:=Pn n) D;refine ⟨hl,fun m c _ hc=> ?_,rf⟩;have h1:=hc.bound dg fun i=>aH (fZ f i) nm;exact k c _ h1.1 (dg m) h1.2 (aH (fZ f m) (aH nm (iT h hph)))
def ahx {f z:Pn (n+1)} {c:Pn n}(hf:f≠0) (hc:Poly.Cont c (kids f)) (e:kids f=Poly.C c*kids z) (dg:aI.dg D f) (nm:aI.nm f<=h) (hD:∀j,D j+D j<1000000000000)
 (hK:aI.uk (Pn n) (fun j=>D (j+1))*h*(aI.uk (Pn (n+1)) D*h)<2^(64*K)) (hh:0<h) (hv:aI.j6 (Pn (n+1)) D*aI.j6 (Pn n) (fun j=>D (j+1))<=1000000000000):jQ (n+1) K z (mkK (Poly.C c)):=by
 have dg':Poly.mX D (kids f):=dg;have h1:=Cont.bound hc (fun e0=>hf e0) dg'.2 nm;obtain ⟨h2,h3⟩:=aI.factor (R:=Pn (n+1)) D f z hf dg ⟨mkK (Poly.C c),by show kids f=kids z*Poly.C c;rw [e,aG.mul_comm]⟩;have p1:=aI.ki (R:=Pn n) (fun j=>D (j+1));have p2:=aI.ki (R:=Pn (n+1)) D;have h4:aI.nm z<=aI.uk (Pn (n+1)) D*h:=aH h3 (bl _ nm);have h5:aI.nm (mkK (Poly.C c))<=aI.uk (Pn n) (fun j=>D (j+1))*h:=by rw [Wi];exact h1.2
 have q1:1<=aI.uk (Pn n) (fun j=>D (j+1))*h:=iR p1 hh;have q2:1<=aI.uk (Pn (n+1)) D*h:=iR p2 hh;refine ⟨D,Poly.bZ 0 (fun j=>D (j+1)),h2,abo h1.1,fun j=> ?_,aR h4 (aR (iT _ q1) hK),aR h5 (aR (jP _ q2) hK),?_,?_⟩
 . cases j with
   | zero=>show D 0+0<_;have:=hD 0;omega
   | succ j=>exact hD (j+1)
 . rw [aq]
   exact aR (dN h5 h4) hK
 . show aI.j6 (Pn (n+1)) D*((0+1)*aI.j6 (Pn n) fun j=>D (j+1))<=_
   rw [ct,bP];exact hv
def ML {R:Type} [aI R] {E:Nat->Nat} {f g:Poly R}(hf:∀i,aI.dg D (f.co i)) (hg:∀i,aI.dg E (g.co i)) (i:Nat):aI.dg (fun j=>D j+E j) ((f*g).co i):=by
 rw [Poly.oZ];exact zY fun k _=>aI.jb D E _ _ (hf k) (hg _)
def Pl (la lb l:Nat):Prop:=l<=min la lb∨l=la+lb
def OJ (la lb l:Nat):Nat:=if l=la+lb then max la lb else l
structure Num (n K la lb:Nat) (Dm:Nat->Nat->Nat) (M:Nat->Nat) (De:Nat->Nat) (le He:Nat):Prop where
 low:∀l k,Pl la lb l->k<=OJ la lb l->Low n (fun j=>(k+1)*(De j+Dm l j)) (aI.uk (Pn n) (fun j=>(k+1)*(De j+Dm l j))*((2*(He*M l))^k*(He*M l)))
 size:∀l k,Pl la lb l->k<=OJ la lb l->(2*(He*M l))^k*(He*M l)<2^(64*K)
 fit:∀l k,Pl la lb l->k<=OJ la lb l->∀(r:Pn (n+1)),r≠0->(kids r).len<=le+max la lb->(∀i,aI.dg (fun j=>(k+1)*(De j+Dm l j)) ((kids r).co i))->aI.nm r<=(2*(He*M l))^k*(He*M l)->∀c z,Poly.Cont c (kids r)->kids r=Poly.C c*kids z->jQ (n+1) K z (mkK (Poly.C c))
 afE:(le+max la lb)*(le+max la lb+4)<1000000000000
 deg:∀l j,Pl la lb l->(De j+Dm l j)*(le+max la lb+4)<1000000000000
 cnt:∀l,Pl la lb l->aI.j6 (Pn (n+1)) (Poly.bZ ((le+max la lb)*(le+max la lb+4)) fun j=>(De j+Dm l j)*(le+max la lb+4))*aI.j6 (Pn (n+1)) (Poly.bZ (le+max la lb) fun j=>De j+Dm l j)<=1000000000000
 k:K<=3690000000000
def afG {F G:Pn (n+1)} {e a b:Poly (Pn n)} (N:Num n K a.len b.len Dm M De le He) (hk:Poly.Kn (Poly.PB Dm M) a b) (F3:Poly.Kn (Poly.PB Dm M) b a) (he:Poly.Prim e) (mS:e.len<=le) (de:∀i,aI.dg De (e.co i)) (ne:Poly.jT e<=He) (ha:0<a.len) (hb:0<b.len)
 (x y:Pn (n+1)) (hI:Poly.Inv (Poly.PB Dm M) e a b (kids F) (kids G) (kids x) (kids y)) (hy:y≠0):
 ∃D E,tJ n K D E x y∧∀r k,Poly.RI (kids x) (kids y) D E k (kids r)->(kids r).len<(kids y).len->(r=0->Poly.Inv (Poly.PB Dm M) e a b (kids F) (kids G) (kids y) (kids (0:Pn (n+1))))∧(r≠0->yb n r∧∀c z,Poly.Cont c (kids r)->kids r=Poly.C c*kids z->jQ (n+1) K z (mkK (Poly.C c))∧Poly.Inv (Poly.PB Dm M) e a b (kids F) (kids G) (kids y) (kids z)):=by
 obtain ⟨l,x1,y1,ex,ey,Bg,⟨pX1,pX2⟩,⟨pY1,pY2⟩,Bl⟩:=hI.known hk;have hl:Pl a.len b.len l:=Bl.imp (fun h=>h.2.2) fun h=>h.1;have hy':kids y≠0:=fun e0=>hy e0;have yg:y1≠0:=fun e0=>hy' (by rw [ey,e0,aG.mul_zero]);have aIZ:=Poly.cH he.ne;have ly1:=Poly.cH yg;have lx:=Poly.lW he.ne Bg;have ly:=Poly.lW he.ne yg;rw [<- ex] at lx;rw [<- ey] at ly;have lx1:=Poly.cH Bg;have aHX:x1.len<=max a.len b.len∧y1.len<=max a.len b.len:=by omega
 have hrd:(kids x).len+1-(kids y).len<=OJ a.len b.len l:=by
  unfold OJ;split<;>omega
 have nX:Poly.jT (kids x)<=He*M l:=by rw [ex];exact aH (Poly.uD x1 _ e (Poly.az e)) (dN ne pX2)
 have nY:Poly.jT (kids y)<=He*M l:=by rw [ey];exact aH (Poly.uD y1 _ e (Poly.az e)) (dN ne pY2)
 have dX:Poly.mX (Poly.bZ (le+max a.len b.len) fun j=>De j+Dm l j) (kids x):=⟨(Poly.az _).mono (by show (kids x).len<=le+max a.len b.len+1;omega),fun i=>by rw [ex];exact ML de pX1 i⟩;have dY:Poly.mX (Poly.bZ (le+max a.len b.len) fun j=>De j+Dm l j) (kids y):=⟨(Poly.az _).mono (by show (kids y).len<=le+max a.len b.len+1;omega),fun i=>by rw [ey];exact ML de pY1 i⟩;have pw:∀k,(2*Poly.jT (kids y))^k*Poly.jT (kids x)<=(2*(He*M l))^k*(He*M l):=fun k=>dN (zk (bl 2 nY) k) nX;have s0:He*M l<2^(64*K):=by
  have:=N.size l 0 hl (dc _);rwa [wH,bP] at this
 have vX:=N.cnt l hl;have up:∀m,m+1<=le+max a.len b.len+4->∀j,Poly.bZ (le+max a.len b.len) (fun j=>De j+Dm l j) j+m*Poly.bZ (le+max a.len b.len) (fun j=>De j+Dm l j) j<=Poly.bZ ((le+max a.len b.len)*(le+max a.len b.len+4)) (fun j=>(De j+Dm l j)*(le+max a.len b.len+4)) j:=fun m hm j=>by
  have e:∀X:Nat,X+m*X<=X*(le+max a.len b.len+4):=fun X=>by
   have h:=bl X hm;rw [ak,bg,aq X m] at h;omega
  cases j with
  | zero=>exact e _
  | succ j=>exact e _
 refine ⟨_,_,⟨dX,dY,fun j=> ?_,aR nY s0,aR (pw _) (N.size l _ hl hrd),aH (bI _ (kJ (up ((kids x).len+2) (by omega)))) vX⟩,fun r k hR Cj=> ?_⟩
 . have hm:(kids x).len+2+1<=le+max a.len b.len+4:=by omega
   cases j with
   | zero=>
     show (le+max a.len b.len)+((kids x).len+2)*(le+max a.len b.len)<_;have h5:=bl (le+max a.len b.len) hm;have h6:=N.afE;rw [ak _ ((kids x).len+2),bg,aq _ ((kids x).len+2)] at h5;omega
   | succ j=>
     show (De j+Dm l j)+((kids x).len+2)*(De j+Dm l j)<_;have h5:=bl (De j+Dm l j) hm;have h6:=N.deg l j hl;rw [ak _ ((kids x).len+2),bg,aq _ ((kids x).len+2)] at h5;omega
 . have hkr:k<=OJ a.len b.len l:=by
    rcases hR.rounds with h0 | h0
    . rw [h0];exact dc _
    . omega
   have nR:aI.nm r<=(2*(He*M l))^k*(He*M l):=aH hR.nm (pw k);have afy:(fun j=>(Poly.bZ (le+max a.len b.len) (fun j=>De j+Dm l j)) (j+1)+k*(Poly.bZ (le+max a.len b.len) (fun j=>De j+Dm l j)) (j+1))=fun j=>(k+1)*(De j+Dm l j):=funext fun j=>by
    show (De j+Dm l j)+k*(De j+Dm l j)=_;rw [bQ,bP,xZ]
   have dR:∀i,aI.dg (fun j=>(k+1)*(De j+Dm l j)) ((kids r).co i):=fun i=>by
    rw [<- afy];exact hR.dg.2 i
   have VF:(kids r).len<=le+max a.len b.len:=by omega
   obtain ⟨Q,e1,e2⟩:=hR.eq;have Mf:=Dom.RD (Poly.E0 hy') k;have wY:le+max a.len b.len<=1000000000000:=by
    have h6:=N.afE;have h7:(le+max a.len b.len)*1<=(le+max a.len b.len)*(le+max a.len b.len+4):=bl _ (by omega);omega
   have rf:ir (n+1) K r:=⟨_,hR.dg,aH (kJ (up k (by have:OJ a.len b.len l<=max a.len b.len:=(by unfold OJ;rcases hl with h | h<;>split<;>omega);omega))) (aH (jP _ (aI.nN _)) vX),fun j=>by
    have h1:=up k (by have:OJ a.len b.len l<=max a.len b.len:=(by unfold OJ;rcases hl with h | h<;>split<;>omega);omega) j;have h2:=N.afE;refine aR h1 ?_;cases j with
    | zero=>exact h2
    | succ j=>exact N.deg l j hl,aR nR (N.size l k hl hkr)⟩
   refine ⟨fun h0=> ?_,fun h0=>⟨Low.cont (N.low l k hl hkr) ⟨K,N.k,rf⟩ (by omega) dR nR,fun c z hc hz=>⟨N.fit l k hl hkr r h0 VF dR nR c z hc hz,?_⟩⟩⟩
   . exact hI.next hk F3 he hy' Mf Dom.nh e1 Cj e2 (by rw [h0];exact (aG.mul_zero _).symm) (.inl rfl)
   . have Fb:kids r≠0:=fun e0=>h0 e0
     exact hI.next hk F3 he hy' Mf (hc.ne Fb) e1 Cj e2 hz (.inr (hc.adN Fb hz))
structure afW (n K la lb:Nat) (Dm:Nat->Nat->Nat) (M:Nat->Nat) (De:Nat->Nat) (le He:Nat) (DF:Nat->Nat) (HF:Nat) (F:Pn (n+1)):Prop where
 len:(kids F).len<=1000000000000
 dg:∀i,aI.dg DF ((kids F).co i)
 nm:aI.nm F<=HF
 rf:ir (n+1) K F
 fit:∀c z,Poly.Cont c (kids F)->kids F=Poly.C c*kids z->jQ (n+1) K z (mkK (Poly.C c))
def aln {F G:Pn (n+1)} {e a b q:Poly (Pn n)} {cq:Pn n} (N:Num n K a.len b.len Dm M De le He) (hk:Poly.Kn (Poly.PB Dm M) a b) (F3:Poly.Kn (Poly.PB Dm M) b a) (he:Poly.Prim e) (mS:e.len<=le) (de:∀i,aI.dg De (e.co i)) (ne:Poly.jT e<=He)
 (hF:F≠0) (hG:G≠0) (hcq:cq≠0) (eq:q=Poly.C cq*e) (ea:kids F=q*a) (eb:kids G=q*b) (nF:afW n K a.len b.len Dm M De le He DF HF F) (nG:afW n K a.len b.len Dm M De le He DF HF G) (Ra:Low n DF (aI.uk (Pn n) DF*HF))
 (sc:∀l,Pl a.len b.len l->(He*M l)*(aI.uk (Pn n) DF*HF)<2^(64*K)) (dsc:∀l j,Pl a.len b.len l->De j+Dm l j+DF j<1000000000000) (vsc:∀l,Pl a.len b.len l->aI.j6 (Pn (n+1)) (Poly.bZ (le+max a.len b.len) fun j=>De j+Dm l j)*aI.j6 (Pn n) DF<=1000000000000) (hHF:0<HF):
 Nc n K F G (fun x y=>Poly.Inv (Poly.PB Dm M) e a b (kids F) (kids G) (kids x) (kids y)):=by
 have hF':kids F≠0:=fun e0=>hF e0;have hG':kids G≠0:=fun e0=>hG e0;have VM:a≠0:=fun e0=>hF' (by rw [ea,e0,aG.mul_zero]);have ox:b≠0:=fun e0=>hG' (by rw [eb,e0,aG.mul_zero]);refine ⟨Ra.cont ⟨K,N.k,nF.rf⟩ nF.len nF.dg nF.nm,Ra.cont ⟨K,N.k,nG.rf⟩ nG.len nG.dg nG.nm,nF.fit,nG.fit,fun c d x y hc hd ex ey=>Poly.Inv.start hF' hG' he hcq eq ea eb hc hd ex ey,fun x y hI hy=>afG N hk F3 he mS de ne (Poly.cH VM) (Poly.cH ox) x y hI hy,fun c d hc hd=> ?_,fun c d g x hI hc hd hg=> ?_⟩
 . have h1:=Cont.bound hc hF' nF.dg nF.nm
   have h2:=Cont.bound hd hG' nG.dg nG.nm;exact Ra c d h1.1 h2.1 h1.2 h2.2
 . have hc0:=hc.ne hF'
   have VG:g≠0:=fun e0=>hc0 (Dv.of0 (by rw [<- e0];exact hg.l));have hlc:=Poly.E0 hF';obtain ⟨g1,g2⟩:=aI.factor DF (kids F).lc g hlc (nF.dg _) (hg.l.trans (hc.dv _));have g3:aI.nm g<=aI.uk (Pn n) DF*HF:=aH g2 (bl _ (aH (fZ F _) nF.nm));have hI':Poly.Inv (Poly.PB Dm M) e a b (kids F) (kids G) (kids x) 0:=hI;obtain ⟨l,x1,y1,ex,_,Bg,⟨pX1,pX2⟩,_,Bl⟩:=hI'.known hk;have hl:Pl a.len b.len l:=Bl.imp (fun h=>h.2.2) fun h=>h.1;have lx:=Poly.lW he.ne Bg;rw [<- ex] at lx;have hlx:(kids x).len<=le+max a.len b.len:=by
    (have oL:x1.len<=max a.len b.len:=by omega);omega
   have nX:aI.nm x<=He*M l:=by
    show Poly.jT (kids x)<=_;rw [ex];exact aH (Poly.uD x1 _ e (Poly.az e)) (dN ne pX2)
   have dX:aI.dg (Poly.bZ (le+max a.len b.len) fun j=>De j+Dm l j) x:=(show Poly.mX (Poly.bZ (le+max a.len b.len) fun j=>De j+Dm l j) (kids x) from ⟨(Poly.az _).mono (by show (kids x).len<=le+max a.len b.len+1;omega),fun i=>by rw [ex];exact ML de pX1 i⟩);have wY:le+max a.len b.len<1000000000000:=by
    have h6:=N.afE;have h7:(le+max a.len b.len)*1<=(le+max a.len b.len)*(le+max a.len b.len+4):=bl _ (by omega);omega
   have s:=sc l hl;have p1:1<=aI.uk (Pn n) DF*HF:=iR (aI.ki _) hHF;have Mc:x≠0:=fun e0=>hI.px.ne (by rw [e0];rfl);have p2:1<=He*M l:=aH (aI.rC x Mc) nX;refine ⟨VG,?_,Poly.bZ (le+max a.len b.len) (fun j=>De j+Dm l j),DF,dX,g1,wY,fun j=>dsc l j hl,aR nX (aR (jP _ p1) s),aR g3 (aR (iT _ p2) s),aR (dN nX g3) s,vsc l hl⟩;have Qe:=hI'.done hc hd hg;have e9:x*mkK (Poly.C g)=mkK (Poly.C g*kids x):=(show kids x*Poly.C g=Poly.C g*kids x from aG.mul_comm _ _);rw [e9];exact Zv.2 Qe
def K3 (hK:K<=3690000000000) (hn:n<=97) {F G:Pn (n+1)} {e a b q:Poly (Pn n)} {cq:Pn n} (N:Num n K a.len b.len Dm M De le He) (hk:Poly.Kn (Poly.PB Dm M) a b) (F3:Poly.Kn (Poly.PB Dm M) b a) (he:Poly.Prim e) (mS:e.len<=le) (de:∀i,aI.dg De (e.co i)) (ne:Poly.jT e<=He)
 (hF:F≠0) (hG:G≠0) (hcq:cq≠0) (eq:q=Poly.C cq*e) (ea:kids F=q*a) (eb:kids G=q*b) (nF:afW n K a.len b.len Dm M De le He DF HF F) (nG:afW n K a.len b.len Dm M De le He DF HF G) (Ra:Low n DF (aI.uk (Pn n) DF*HF))
 (sc:∀l,Pl a.len b.len l->(He*M l)*(aI.uk (Pn n) DF*HF)<2^(64*K)) (dsc:∀l j,Pl a.len b.len l->De j+Dm l j+DF j<1000000000000) (vsc:∀l,Pl a.len b.len l->aI.j6 (Pn (n+1)) (Poly.bZ (le+max a.len b.len) fun j=>De j+Dm l j)*aI.j6 (Pn n) DF<=1000000000000) (hHF:0<HF):wM (n+1) F G:=
 ayR hK hn hF hG (aln N hk F3 he mS de ne hF hG hcq eq ea eb nF nG Ra sc dsc vsc hHF)
def ajb (hK:K<=3690000000000) (hh:h<2^(64*K)) (D:Nat->Nat):Low 0 D h:=fun g p _ _ ng np=>ayS hK (aR ng hh) (aR np hh)
def Si {r z:Pn 1} {c:Pn 0}(hr:r≠0) (e:kids r=Poly.C c*kids z) (hl:(kids r).len<=L) (hL:L<1000000000000) (nm:aI.nm r<=h) (hh:h<2^(64*K)):jQ 1 K z (mkK (Poly.C c)):=by
 have Fb:kids r≠0:=fun e0=>hr e0;have hc:c≠0:=fun e0=>Fb (by rw [e,e0,Poly.Ef,aG.zero_mul]);have hz:kids z≠0:=fun e0=>Fb (by rw [e,e0,aG.mul_zero]);have hlz:(kids z).len=(kids r).len:=by rw [e,Poly.fU hc]
 have h1:=ZM e;have nm':Poly.jT (kids r)<=h:=nm;have p1:1<=aI.nm c:=aI.rC c hc;have p2:1<=Poly.jT (kids z):=aI.rC (R:=Pn 1) z (fun e0=>hz e0);have n1:Poly.jT (kids z)<=h:=aH (aH (iT _ p1) (kQ h1)) nm';have n2:aI.nm c<=h:=aH (aH (jP _ p2) (kQ h1)) nm';have n3:aI.nm (mkK (Poly.C c))=aI.nm c:=Wi c;refine ⟨Poly.bZ L (fun _=>0),Poly.bZ 0 (fun _=>0),(show Poly.mX _ (kids z) from ⟨(Poly.az _).mono (by show (kids z).len<=L+1;omega),fun _=>trivial⟩),abo trivial,fun j=> ?_,aR n1 hh,by rw [n3];exact aR n2 hh,?_,?_⟩
 . cases j with
   | zero=>show L+0<_;omega
   | succ j=>show 0+0<_;omega
 . rw [n3,aq]
   exact aR (aH (kQ h1) nm') hh
 . show (L+1)*1*((0+1)*1)<=_
   omega
def OP:Poly.Prim (1:Poly (Pn n)):=fun d hd=>by
 have h:=hd 0;rwa [Poly.uM,aM rfl] at h
def auI (hK:K<=3690000000000) (D:Nat->Nat) (hD:D 0<=L) (hH:0<H) (hL:(1+(L+1))*(1+(L+1)+4)<1000000000000) (hHK:H<2^(64*K)) (hV:((1+(L+1))*(1+(L+1)+4)+1)*(1+(L+1)+1)<=1000000000000)
 (big:∀la lb l k,la<=L+1->lb<=L+1->Pl la lb l->k<=OJ la lb l->(2*(1*M1 la lb H L l))^k*(1*M1 la lb H L l)<2^(64*K))
 (sc:∀la lb l,la<=L+1->lb<=L+1->Pl la lb l->(1*M1 la lb H L l)*(1*H)<2^(64*K)):Low 1 D H:=by
 intro F G dF dG nF nG;have rw1:∀X:Pn 1,aI.dg D X->aI.nm X<=H->ir 1 K X:=fun X hX nX=>⟨Poly.bZ L fun _=>0,(show Poly.mX _ (kids X) from ⟨((show Poly.mX D (kids X) from hX).1).mono (by show D 0+1<=L+1;omega),fun _=>trivial⟩),by
  show (L+1)*1<=_;have h7:(1+(L+1))*1<=(1+(L+1))*(1+(L+1)+4):=bl _ (by omega);omega,fun j=>by
  have h7:(1+(L+1))*1<=(1+(L+1))*(1+(L+1)+4):=bl _ (by omega);cases j with
  | zero=>show L<_;omega
  | succ j=>show 0<_;omega,aR nX hHK⟩
 by_cases h0:F=0∨G=0
 . exact aqx hK (by omega) (rw1 F dF nF) (rw1 G dG nG) h0
 . have hF:F≠0:=fun e=>h0 (.inl e)
   have hG:G≠0:=fun e=>h0 (.inr e);have dF':Poly.mX D (kids F):=dF;have dG':Poly.mX D (kids G):=dG;have lF:(kids F).len<=L+1:=aH (Poly.bU dF'.1) (by omega);have lG:(kids G).len<=L+1:=aH (Poly.bU dG'.1) (by omega);have hLL:1+(L+1)<1000000000000:=by
    have h7:(1+(L+1))*1<=(1+(L+1))*(1+(L+1)+4):=bl _ (by omega);omega
   have ld:=auN (la:=(kids F).len) (lb:=(kids G).len) (H:=H) (L:=L) (fun _=>0) (by omega);have kn:=ld.kn (a:=kids F) (b:=kids G) (fun e=>hF e) (fun e=>hG e) (fun _=>trivial) (fun _=>trivial) nF nG;have ls:=ld.symm;have kn':=ls.kn (a:=kids G) (b:=kids F) (fun e=>hG e) (fun e=>hF e) (fun _=>trivial) (fun _=>trivial) nG nF;have N:Num 0 K (kids F).len (kids G).len (fun _ j=>(fun _=>0) j) (M1 (kids F).len (kids G).len H L) (fun _=>0) 1 1:=by
    refine ⟨fun l k hl hk=>ajb hK ?_ _,fun l k hl hk=>big _ _ l k lF lG hl hk,fun l k hl hk r hr VF _ nr c z _ e=>Si hr e (L:=1+max (kids F).len (kids G).len) VF (by omega) nr (big _ _ l k lF lG hl hk),?_,fun l j hl=>by show (0+0)*_<_;omega,fun l hl=> ?_,hK⟩
    . show 1*_<_
      rw [bP];exact big _ _ l k lF lG hl hk
    . refine aR (dN (show _<=1+(L+1) by omega) (show _<=1+(L+1)+4 by omega)) hL
    . show ((1+max (kids F).len (kids G).len)*(1+max (kids F).len (kids G).len+4)+1)*1*((1+max (kids F).len (kids G).len+1)*1)<=_
      rw [bg,bg];exact aH (dN (pR (dN (by omega) (by omega))) (by omega)) hV
   refine K3 (K:=K) hK (by omega) (e:=1) (a:=kids F) (b:=kids G) (q:=1) (cq:=1) (DF:=fun _=>0) (HF:=H) N kn kn' OP (Poly.bU (Poly.Je 1)) (fun _=>trivial) (kQ (aI.sV (R:=Pn 1))) hF hG Dom.nh (by rw [Poly.QX,aG.one_mul]) (aG.one_mul _).symm (aG.one_mul _).symm ⟨by omega,fun _=>trivial,nF,rw1 F dF nF,fun c z _ e=>Si hF e lF (by omega) nF hHK⟩ ⟨by omega,fun _=>trivial,nG,rw1 G dG nG,fun c z _ e=>Si hG e lG (by omega) nG hHK⟩ (ajb hK (by show 1*H<_;rw [bP];exact hHK) _) (fun l hl=>sc _ _ l lF lG hl) (fun l j hl=>by show 0+0+0<_;omega) (fun l hl=>by show (1+max (kids F).len (kids G).len+1)*1*1<=_;omega) hH
def adR {R:Type} [aI R] (L:Nat) (Di:Nat->Nat):aI.uk R Di<=Poly.DR R (Poly.bZ L Di):=by
 show aI.uk R Di<=aI.uk R Di*(2*L+1)^L*(L+1)*(2*(2*L+1))^L;rw [cn,cn];exact jP _ (iR (iG (by omega)) (iR (by omega) (iG (by omega))))
def aqY (n K L:Nat) (Dk:Nat->Nat) (B:Nat):Prop:=∃h,B<=h∧Low n Dk (aI.uk (Pn n) Dk*h)∧aI.uk (Pn n) Dk*h*(aI.uk (Pn (n+1)) (Poly.bZ (L+1) Dk)*h)<2^(64*K)∧(∀j,Dk j+Dk j<1000000000000)∧aI.j6 (Pn (n+1)) (Poly.bZ (L+1) Dk)*aI.j6 (Pn n) Dk<=1000000000000
def anM (hK:K<=3690000000000) (hn:n<=97) {Di:Nat->Nat} {Dm:Nat->Nat->Nat->Nat->Nat} {M:Nat->Nat->Nat->Nat}
 (ld:∀la lb,max la lb<=L+1->Poly.Lad (Pn n) la lb H Di (Dm la lb) (M la lb)) (D:Nat->Nat) (hD:D 0<=L) (hd:∀j,D (j+1)<=Di j) (hH:0<H) (hL:(L+2)*(L+6)<1000000000000)
 (hDm:∀la lb l j,la<=L+1->lb<=L+1->Pl la lb l->Dm la lb l j*(L+6)<1000000000000)
 (hV:∀la lb l,la<=L+1->lb<=L+1->Pl la lb l->aI.j6 (Pn (n+1)) (Poly.bZ ((L+2)*(L+6)) fun j=>Dm la lb l j*(L+6))*aI.j6 (Pn (n+1)) (Poly.bZ (L+2) (Dm la lb l))<=1000000000000)
 (low:∀la lb l k,la<=L+1->lb<=L+1->Pl la lb l->k<=OJ la lb l->aqY n K L (fun j=>(k+1)*Dm la lb l j) ((2*M la lb l)^k*M la lb l)):Low (n+1) D H:=by
 intro F G dF dG nF nG;have g0:∀(Dk:Nat->Nat) h,0<h->h*h<=aI.uk (Pn n) Dk*h*(aI.uk (Pn (n+1)) (Poly.bZ (L+1) Dk)*h):=fun Dk h _=>dN (iT _ (aI.ki _)) (iT _ (aI.ki _));have mi:∀la lb l,max la lb<=L+1->Pl la lb l->M la lb (la+lb)<=M la lb l∧∀j,Di j<=Dm la lb l j:=fun la lb l hm hl=>by
  have h1:=(ld la lb hm).less (la+lb) l (by rcases hl with h | h<;>omega);exact ⟨h1.1,fun j=>aH ((ld la lb hm).stD j) (h1.2 j)⟩
 have m0:∀la lb l,max la lb<=L+1->Pl la lb l->aI.uk (Pn n) Di*H<=M la lb l:=fun la lb l hm hl=>aH (bI _ (adR _ Di)) (aH (ld la lb hm).stM (mi la lb l hm hl).1);obtain ⟨hh,hh1,hh2,hh3,hh4,hh5⟩:=low (L+1) (L+1) (L+1+(L+1)) 0 aK aK (.inr rfl) (dc _);rw [wH,bP] at hh1;have aix:aI.uk (Pn n) Di*H<=hh:=aH (m0 (L+1) (L+1) _ (by omega) (.inr rfl)) hh1;have aun:aI.uk (Pn (n+1)) (Poly.bZ L Di)*H<=hh:=by
  have h1:=(ld (L+1) (L+1) (by omega)).stM;rw [Nat.max_self,vt] at h1;exact aH h1 hh1
 have hh0:0<hh:=gh (iR (aI.ki _) hH) aix;have aqg:aI.uk (Pn n) Di*H*(aI.uk (Pn (n+1)) (Poly.bZ L Di)*H)<2^(64*K):=aR (dN aix aun) (aR (g0 _ hh hh0) hh3);have hDi:∀j,Di j+Di j<1000000000000:=fun j=>by
  have h1:=(mi (L+1) (L+1) (L+1+(L+1)) (by omega) (.inr rfl)).2 j;have h2:(0+1)*Dm (L+1) (L+1) (L+1+(L+1)) j+(0+1)*Dm (L+1) (L+1) (L+1+(L+1)) j<1000000000000:=hh4 j;omega
 have vDi:aI.j6 (Pn (n+1)) (Poly.bZ L Di)*aI.j6 (Pn n) Di<=1000000000000:=by
  have h1:∀j,Di j<=(0+1)*Dm (L+1) (L+1) (L+1+(L+1)) j:=fun j=>by
   have h1:=(mi (L+1) (L+1) (L+1+(L+1)) (by omega) (.inr rfl)).2 j;omega
  refine aH (dN (kJ fun j=> ?_) (kJ h1)) hh5;cases j with
  | zero=>show L<=L+1;omega
  | succ j=>exact h1 j
 have rwG:∀X:Pn (n+1),aI.dg D X->aI.nm X<=H->ir (n+1) K X:=fun X hX nX=>⟨Poly.bZ L Di,(show Poly.mX _ (kids X) from ⟨((show Poly.mX D (kids X) from hX).1).mono (by show D 0+1<=L+1;omega),fun i=>aI.jk _ _ _ hd ((show Poly.mX D (kids X) from hX).2 i)⟩),aH (jP _ (aI.nN _)) vDi,fun j=>by
  have h7:1*(L+6)<=(L+2)*(L+6):=bI _ (by omega);cases j with
  | zero=>show L<_;omega
  | succ j=>have:=hDi j;show Di j<_;omega,aR nX (aR (aH (iT _ (aI.ki _)) (jP _ (iR (aI.ki _) hH))) aqg)⟩
 by_cases h0:F=0∨G=0
 . exact aqx hK hn (rwG F dF nF) (rwG G dG nG) h0
 . have hF:F≠0:=fun e=>h0 (.inl e)
   have hG:G≠0:=fun e=>h0 (.inr e);have dF':Poly.mX D (kids F):=dF;have dG':Poly.mX D (kids G):=dG;have lF:(kids F).len<=L+1:=aH (Poly.bU dF'.1) (by omega);have lG:(kids G).len<=L+1:=aH (Poly.bU dG'.1) (by omega);have cF:∀i,aI.dg Di ((kids F).co i):=fun i=>aI.jk _ _ _ hd (dF'.2 i);have cG:∀i,aI.dg Di ((kids G).co i):=fun i=>aI.jk _ _ _ hd (dG'.2 i);have hLL:L+6<1000000000000:=by
    have h7:1*(L+6)<=(L+2)*(L+6):=bI _ (by omega);omega
   have kn:=(ld (kids F).len (kids G).len (by omega)).kn (a:=kids F) (b:=kids G) (fun e=>hF e) (fun e=>hG e) cF cG nF nG;have kn':=(ld (kids F).len (kids G).len (by omega)).symm.kn (a:=kids G) (b:=kids F) (fun e=>hG e) (fun e=>hF e) cG cF nG nF;have Ra:Low n Di (aI.uk (Pn n) Di*H):=hh2.less (fun j=>by
    have h1:=(mi (L+1) (L+1) (L+1+(L+1)) (by omega) (.inr rfl)).2 j;show Di j<=(0+1)*Dm (L+1) (L+1) (L+1+(L+1)) j;omega) (aH aix (iT _ (aI.ki _)))
   have fits:∀X:Pn (n+1),X≠0->(kids X).len<=L+1->(∀i,aI.dg Di ((kids X).co i))->aI.nm X<=H->∀c z,Poly.Cont c (kids X)->kids X=Poly.C c*kids z->jQ (n+1) K z (mkK (Poly.C c)):=fun X hX lX cX nX c z hc e=>
    ahx (D:=Poly.bZ L Di) hX hc e (show Poly.mX _ (kids X) from ⟨(Poly.az _).mono (by show _<=L+1;omega),cX⟩) nX (fun j=>by
     cases j with
     | zero=>show L+L<_
             have h7:2*(L+6)<=(L+2)*(L+6):=bI _ (by omega);omega
     | succ j=>exact hDi j) aqg hH vDi
   obtain ⟨la,si⟩:∃la,(kids F).len=la:=⟨_,rfl⟩;obtain ⟨lb,wF⟩:∃lb,(kids G).len=lb:=⟨_,rfl⟩;have N:Num n K (kids F).len (kids G).len (Dm (kids F).len (kids G).len) (M (kids F).len (kids G).len) (fun _=>0) 1 1:=by
    rw [si,wF];rw [si] at lF;rw [wF] at lG;refine ⟨fun l k hl hk=> ?_,fun l k hl hk=> ?_,fun l k hl hk r hr lr dr nr c z hc e=> ?_,?_,fun l j hl=> ?_,fun l hl=> ?_,hK⟩
    . obtain ⟨h,h1,h2,_,_,_⟩:=low la lb l k lF lG hl hk
      simp only [ct,bP];exact h2.less (fun j=>aK) (bl _ h1)
    . obtain ⟨h,h1,_,h3,_,_⟩:=low la lb l k lF lG hl hk
      simp only [bP];by_cases hz:h=0
      . rw [hz] at h1
        exact aR h1 (iG (by omega))
      . have Ko:0<h:=pV hz
        exact aR h1 (aR (aH (iT h Ko) (g0 _ h Ko)) h3)
    . obtain ⟨h,h1,_,h3,h4,h5⟩:=low la lb l k lF lG hl hk
      simp only [ct,bP] at dr nr;have nr':=aH nr h1;have Ko:0<h:=gh (aI.rC r hr) nr';refine ahx (D:=Poly.bZ (L+1) (fun j=>(k+1)*Dm la lb l j)) hr hc e (show Poly.mX _ (kids r) from ⟨(Poly.az _).mono (by show _<=L+1+1;omega),dr⟩) nr' (fun j=> ?_) h3 Ko h5;cases j with
      | zero=>show L+1+(L+1)<_
              have h7:2*(L+6)<=(L+2)*(L+6):=bI _ (by omega);omega
      | succ j=>exact h4 j
    . exact aR (dN (show _<=L+2 by omega) (show _<=L+6 by omega)) hL
    . show (0+Dm la lb l j)*_<_
      rw [ct];exact aR (bl _ (by omega)) (hDm la lb l j lF lG hl)
    . refine aH (dN (kJ fun j=> ?_) (kJ fun j=> ?_)) (hV la lb l lF lG hl)
      . cases j with
        | zero=>exact dN (by omega) (by omega)
        | succ j=>show (0+Dm la lb l j)*_<=_;rw [ct];exact bl _ (by omega)
      . cases j with
        | zero=>show 1+max la lb<=L+2;omega
        | succ j=>show 0+Dm la lb l j<=Dm la lb l j;omega
   refine K3 (K:=K) hK hn (e:=1) (a:=kids F) (b:=kids G) (q:=1) (cq:=1) (DF:=Di) (HF:=H) N kn kn' OP (Poly.bU (Poly.Je 1)) (fun i=> ?_) (kQ (aI.sV (R:=Pn (n+1)))) hF hG Dom.nh (by rw [Poly.QX,aG.one_mul]) (aG.one_mul _).symm (aG.one_mul _).symm ⟨by omega,cF,nF,rwG F dF nF,fits F hF lF cF nF⟩ ⟨by omega,cG,nG,rwG G dG nG,fits G hG lG cG nG⟩ Ra (fun l hl=> ?_) (fun l j hl=> ?_) (fun l hl=> ?_) hH
   . rw [Poly.uM]
     split
     . exact aI.EA _
     . exact aI.fQ _
   . rw [si,wF] at hl ⊢
     obtain ⟨h,h1,_,h3,_,_⟩:=low la lb l 0 (by omega) (by omega) hl (dc _);rw [wH,bP] at h1;have h5:=m0 la lb l (by omega) hl;have Ko:0<h:=gh (iR (aI.ki _) hH) (aH h5 h1);rw [bP];exact aR (dN h1 (aH h5 h1)) (aR (g0 _ h Ko) h3)
   . rw [si,wF] at hl ⊢
     obtain ⟨h,_,_,_,h4,_⟩:=low la lb l 0 (by omega) (by omega) hl (dc _);have h2:(0+1)*Dm la lb l j+(0+1)*Dm la lb l j<1000000000000:=h4 j;have h1:=(mi la lb l (by omega) hl).2 j;show 0+Dm la lb l j+Di j<_;omega
   . rw [si,wF] at hl ⊢
     have h1:=(mi la lb l (by omega) hl).2;have h2:=hV la lb l (by omega) (by omega) hl;rw [aq] at h2;refine aH (dN (kJ fun j=> ?_) ?_) h2
     . cases j with
       | zero=>show 1+max la lb<=L+2;omega
       | succ j=>show 0+Dm la lb l j<=Dm la lb l j;omega
     . refine aH (kJ (E:=fun j=>Dm la lb l j*(L+6)) fun j=>aH (h1 j) (jP _ (by omega))) ?_
       show _<=((L+2)*(L+6)+1)*aI.j6 (Pn n) _;exact iT _ (by omega)
def aqK (x y:Nat):4*(x*y)<=(x+y)*(x+y):=by
 have key:∀x d:Nat,4*(x*(x+d))<=(x+(x+d))*(x+(x+d)):=fun x d=>by
  have e1:4*(x*(x+d))=4*(x*x)+4*(x*d):=by rw [ak x,ak]
  have e2:(x+(x+d))*(x+(x+d))=4*(x*x)+4*(x*d)+d*d:=by
   have e3:x+(x+d)=2*x+d:=by omega
   rw [e3,bQ,ak,ak];have e4:2*x*(2*x)=4*(x*x):=by rw [EK]
   have e5:2*x*d=2*(x*d):=cn _ _ _;have e6:d*(2*x)=2*(x*d):=by rw [om,aq d x]
   rw [e4,e5,e6];omega
  rw [e1,e2];omega
 rcases Nat.le_total x y with h | h
 . have:=key x (y-x)
   rwa [show x+(y-x)=y by omega] at this
 . have:=key y (x-y)
   rw [show y+(x-y)=x by omega] at this;rwa [aq x y,xZ x y]
def x9 {la lb l:Nat}(si:la<=L+1) (wF:lb<=L+1) (hl:Pl la lb l) (hk:k<=OJ la lb l):2*((k+1)*(la+lb-2*l+2))<=(L+3)*(L+3)∧k<=L+1:=by
 unfold OJ at hk;by_cases h:l=la+lb
 . rw [aM h] at hk
   have ht:la+lb-2*l+2=2:=by omega
   rw [ht];have h1:=aqK (L+2) 1;refine ⟨?_,by omega⟩;rw [bg] at h1;have h2:(L+2+1)*(L+2+1)=(L+3)*(L+3):=rfl;rw [h2] at h1;omega
 . rw [af h] at hk
   have hm:l<=min la lb:=hl.resolve_right h;have h1:=aqK (l+1) (L+2-l);rw [show l+1+(L+2-l)=L+3 by omega] at h1;have h2:(k+1)*(la+lb-2*l+2)<=(l+1)*(2*(L+2-l)):=dN (by omega) (by omega);have h3:(l+1)*(2*(L+2-l))=2*((l+1)*(L+2-l)):=om _ _ _;refine ⟨?_,by omega⟩;rw [h3] at h2;omega
def Kb (hK:K<=3690000000000) (D:Nat->Nat) (hD:D 0<=L) (hL:(1+(L+1))*(1+(L+1)+4)<1000000000000) (hg:4*L+8<=2^g) (hV:((1+(L+1))*(1+(L+1)+4)+1)*(1+(L+1)+1)<=1000000000000)
 (b1:2*((L+2)*(g*(2*L+1)+2))+(L+3)*(L+3)*(g+h+2)<128*K) (b2:g*(2*L+1)+1+(g+h+2)*(2*L+4)+h<64*K):Low 1 D (2^h):=by
 have hH:0<2^h:=iG (by omega);refine auI hK D hD hH hL (rH (by omega) (by omega)) hV (fun la lb l k si wF hl hk=> ?_) (fun la lb l si wF hl=> ?_)
 . have m1:=Vq (l:=l) si wF hg (Nat.le_refl (2^h))
   obtain ⟨r1,r2⟩:=x9 si wF hl hk;obtain ⟨T,hT⟩:∃T,la+lb-2*l+2=T:=⟨_,rfl⟩;rw [hT] at m1 r1;rw [bP];have m2:=ai (jE (k:=k) (ai (show 2<=2^1 by decide) m1)) m1;refine aR m2 (rH (by omega) ?_);obtain ⟨X,hX⟩:∃X,g*(2*L+1)=X:=⟨_,rfl⟩;obtain ⟨G,hG⟩:∃G,g+h+2=G:=⟨_,rfl⟩;rw [hX,hG];rw [hX,hG] at b1;have e1:(1+(X+1+G*T))*k+(X+1+G*T)<=(k+1)*(X+2)+(k+1)*T*G:=by
    have e2:(1+(X+1+G*T))*k=k*(X+2)+k*T*G:=by
     rw [show 1+(X+1+G*T)=(X+2)+G*T by omega,bQ,aq (X+2) k];congr 1
     rw [aq (G*T) k,aq G T,cn]
    rw [e2,bQ k 1 (X+2),bP,bQ k 1 T,bP,bQ (k*T) T G,aq T G];omega
   have e3:(k+1)*(X+2)<=(L+2)*(X+2):=bI _ (by omega);have e4:2*((k+1)*T)*G<=(L+3)*(L+3)*G:=bI _ r1;rw [cn 2] at e4;omega
 . have m1:=Vq (l:=l) si wF hg (Nat.le_refl (2^h))
   rw [bP,bP];refine aR (ai m1 (Nat.le_refl (2^h))) (rH (by omega) ?_);have e1:(g+h+2)*(la+lb-2*l+2)<=(g+h+2)*(2*L+4):=bl _ (by omega);omega
def Wy (hK:K<=3690000000000) {gg S:Nat}(hg:4*(5*(2*L+3)*d+d)+8<=2^g) (hgL:4*L+8<=2^g) (hgg:4*S+8<=2^gg) (awM:4*(L+1)+8<=2^gg)
 (hS:(L+3)*(L+3)*d<=2*S) (hB:(L+3)*(L+3)*(40*(g*d)+5*(2*g+h+2))+2*((L+2)*(8*(g*L)+8*g+8+3*(2*g+h+2)))<=8*B)
 (hLS:(1+(S+1))*(1+(S+1)+4)<1000000000000) (hL:(L+2)*(L+6)<1000000000000) (hdL:(2*L+4)*d*(L+6)<1000000000000)
 (v1:((L+2)*(L+6)+1)*((2*L+4)*d*(L+6)+1)*((L+3)*((2*L+4)*d+1))<=1000000000000) (v2:(L+2)*(S+1)*(S+1)<=1000000000000) (v3:((1+(S+1))*(1+(S+1)+4)+1)*(1+(S+1)+1)<=1000000000000)
 (b1:2*((S+2)*(gg*(2*S+1)+2))+(S+3)*(S+3)*(gg+(gg*(2*S+1)+B)+2)<128*K) (b2:gg*(2*S+1)+1+(gg+(gg*(2*S+1)+B)+2)*(2*S+4)+(gg*(2*S+1)+B)<64*K)
 (b3:gg*(2*S+1)+B+(gg*(2*S+1)+gg*(2*(L+1)+1)+B)<64*K):Low 2 (oy L d) (2^h):=by
 have tS:∀{la lb l k},la<=L+1->lb<=L+1->Pl la lb l->k<=OJ la lb l->(k+1)*((la+lb-2*l+2)*d)<=S:=fun {la lb l k} si wF hl hk=>by
  have r1:=(x9 si wF hl hk).1;have h1:2*((k+1)*(la+lb-2*l+2))*d<=(L+3)*(L+3)*d:=bI _ r1;have h2:2*((k+1)*(la+lb-2*l+2))*d=2*((k+1)*((la+lb-2*l+2)*d)):=by rw [cn,cn]
  omega
 refine anM (n:=1) hK (by omega) (L:=L) (Di:=Aj d) (Dm:=fun la lb l=>Aj ((la+lb-2*l+2)*d)) (M:=fun la lb l=>M2 la lb (2^h) L d l) (fun la lb hm=>auM hm) _ (Nat.le_refl L) (fun j=>aK) (iG (by omega)) hL (fun la lb l j si wF hl=> ?_) (fun la lb l si wF hl=> ?_) (fun la lb l k si wF hl hk=> ?_)
 . cases j with
   | zero=>exact aR (bI _ (bI _ (show la+lb-2*l+2<=2*L+4 by omega))) hdL
   | succ j=>show 0*_<_;omega
 . have ht:(la+lb-2*l+2)*d<=(2*L+4)*d:=bI _ (by omega)
   show ((L+2)*(L+6)+1)*(((la+lb-2*l+2)*d*(L+6)+1)*1)*((L+2+1)*(((la+lb-2*l+2)*d+1)*1))<=_;rw [bg,bg];exact aH (dN (bl _ (pR (bI _ ht))) (bl _ (pR ht))) v1
 . have hs:=tS si wF hl hk
   have m1:=afX (l:=l) (d:=d) si wF hg hgL (Nat.le_refl (2^h));obtain ⟨r1,r2⟩:=x9 si wF hl hk;have pS:=KN (e:=S) hgg;have qS:=KL (L:=L+1) (e:=S) hgg awM;have e0:(fun j=>(k+1)*Aj ((la+lb-2*l+2)*d) j) 0=(k+1)*((la+lb-2*l+2)*d):=rfl;refine ⟨2^B,?_,?_,?_,fun j=> ?_,?_⟩
   . obtain ⟨t,ht⟩:∃t,la+lb-2*l=t:=⟨_,rfl⟩
     rw [ht] at m1 r1;have m2:=ai (jE (k:=k) (ai (show 2<=2^1 by decide) m1)) m1;refine aH m2 (fM (by omega) ?_);obtain ⟨G,hG⟩:∃G,2*g+h+2=G:=⟨_,rfl⟩;rw [hG] at hB ⊢;obtain ⟨m,hm⟩:∃m,g*(2*(5*(t+1)*d+d)+1)+g*(2*L+1)+1+G*(c5 t+1)=m:=⟨_,rfl⟩;rw [hm];(have c1:4*(c5 t+1)<=5*(t+2)+3:=by unfold c5;omega);have c2:4*(G*(c5 t+1))<=5*(G*(t+2))+3*G:=by
      have h1:G*(4*(c5 t+1))<=G*(5*(t+2)+3):=bl _ c1;have h2:G*(4*(c5 t+1))=4*(G*(c5 t+1)):=om _ _ _;(have h3:G*(5*(t+2)+3)=5*(G*(t+2))+3*G:=by rw [ak G (5*(t+2)),om G 5,aq G 3]);omega
     have c3:g*(2*(5*(t+1)*d+d)+1)<=10*(g*d*(t+2))+g:=by
      have h1:2*(5*(t+1)*d+d)+1<=10*(d*(t+2))+1:=by
       (have h2:5*(t+1)*d=5*(d*t)+5*d:=by rw [cn,aq (t+1) d,ak,bg,ak]);(have h3:d*(t+2)=d*t+2*d:=by rw [ak,aq d 2]);omega
      have h4:=bl g h1;rw [ak g (10*_),bg,om g 10,<- cn g d] at h4;exact h4
     (have c4:g*(2*L+1)=2*(g*L)+g:=by rw [ak,bg,om]);have c5':4*(m+1)<=(t+2)*(40*(g*d)+5*G)+(8*(g*L)+8*g+8+3*G):=by
      have h1:(t+2)*(40*(g*d)+5*G)=40*(g*d*(t+2))+5*(G*(t+2)):=by
       rw [ak,om,om (t+2) 5,aq (t+2) (g*d),aq (t+2) G]
      rw [h1];omega
     have c6:4*((k+1)*(m+1))<=(k+1)*(t+2)*(40*(g*d)+5*G)+(k+1)*(8*(g*L)+8*g+8+3*G):=by
      have h1:=bl (k+1) c5';rw [om,ak (k+1) ((t+2)*_),<- cn (k+1) (t+2)] at h1;exact h1
     have c7:2*((k+1)*(t+2))*(40*(g*d)+5*G)<=(L+3)*(L+3)*(40*(g*d)+5*G):=bI _ r1;rw [cn 2] at c7;have c8:(k+1)*(8*(g*L)+8*g+8+3*G)<=(L+2)*(8*(g*L)+8*g+8+3*G):=bI _ (by omega);have c9:(1+m)*k+m+1=(k+1)*(m+1):=by
      rw [bQ k 1 (m+1),bP,aq (1+m) k,xZ 1 m];omega
     omega
   . refine (Kb hK (L:=S) (g:=gg) (h:=gg*(2*S+1)+B) (fun j=>(k+1)*Aj ((la+lb-2*l+2)*d) j) (show (k+1)*((la+lb-2*l+2)*d)<=S from hs) hLS hgg v3 b1 b2).less (fun j=>aK) ?_
     rw [Uc];show yf ((k+1)*((la+lb-2*l+2)*d))*2^B<=_;exact ai (aH (uj hs) pS) aK
   . show aI.uk (Pn 1) _*2^B*(Poly.DR (Pn 1) (Poly.bZ (L+1) _)*2^B)<_
     rw [MA,Uc];show yf ((k+1)*((la+lb-2*l+2)*d))*2^B*(xH (L+1) ((k+1)*((la+lb-2*l+2)*d))*2^B)<_;exact aR (ai (ai (aH (uj hs) pS) aK) (ai (aH (rq aK hs) qS) aK)) (rH (by omega) b3)
   . cases j with
     | zero=>
       show (k+1)*((la+lb-2*l+2)*d)+(k+1)*((la+lb-2*l+2)*d)<_;have h7:(1+(S+1))*4<=(1+(S+1))*(1+(S+1)+4):=bl _ (by omega);omega
     | succ j=>show (k+1)*0+(k+1)*0<_;omega
   . show (L+1+1)*(((k+1)*((la+lb-2*l+2)*d)+1)*1)*(((k+1)*((la+lb-2*l+2)*d)+1)*1)<=_
     rw [bg];exact aH (dN (bl _ (pR hs)) (pR hs)) v2
open Poly
def mx (f:Nat->Nat):Nat->Nat
 | 0=>f 0
 | n+1=>mx f n+f (n+1)
def agE (f:Nat->Nat):∀{n i:Nat},i<=n->f i<=mx f n
 | 0,i,h=>by
   have:i=0:=by omega
   rw [this];exact aK
 | n+1,i,h=>by
   show f i<=mx f n+f (n+1);by_cases e:i=n+1
   . rw [e];exact Iy _ _
   . exact aH (agE f (n:=n) (by omega)) (Ec _ _)
def Vp {t:Nat}(hH:0<H):0<NU H L d e t:=by
 unfold NU;exact iR (ZB _ _ _) (iR (by omega) (gh hH (M5 _ _ _ (iR (by omega) (by omega)))))
def ok2 (L d h:Nat):Bool:=
 let g:=lg (4*(5*(2*L+3)*d+d)+8+(4*L+8))
 let S:=((L+3)*(L+3)*d+1) / 2
 let gg:=lg (4*S+8+(4*(L+1)+8))
 let B:=((L+3)*(L+3)*(40*(g*d)+5*(2*g+h+2))+2*((L+2)*(8*(g*L)+8*g+8+3*(2*g+h+2)))+7) / 8
 Nat.ble ((1+(S+1))*(1+(S+1)+4)+1) 1000000000000 && Nat.ble ((L+2)*(L+6)+1) 1000000000000 && Nat.ble ((2*L+4)*d*(L+6)+1) 1000000000000 &&
 Nat.ble (2*((S+2)*(gg*(2*S+1)+2))+(S+3)*(S+3)*(gg+(gg*(2*S+1)+B)+2)+1) (128*3690000000000) && Nat.ble (gg*(2*S+1)+1+(gg+(gg*(2*S+1)+B)+2)*(2*S+4)+(gg*(2*S+1)+B)+1) (64*3690000000000) &&
 Nat.ble (gg*(2*S+1)+B+(gg*(2*S+1)+gg*(2*(L+1)+1)+B)+1) (64*3690000000000) &&
 Nat.ble (((L+2)*(L+6)+1)*((2*L+4)*d*(L+6)+1)*((L+3)*((2*L+4)*d+1))) 1000000000000 && Nat.ble ((L+2)*(S+1)*(S+1)) 1000000000000 && Nat.ble (((1+(S+1))*(1+(S+1)+4)+1)*(1+(S+1)+1)) 1000000000000
def B3 (h L d e:Nat):Nat:=mx (fun l=>(2*NU (2^h) L d e (2*(L+1-l)))^l*NU (2^h) L d e (2*(L+1-l))) (L+1)+(2*NU (2^h) L d e 0)^(L+1)*NU (2^h) L d e 0
def ok3 (L d e h B h2:Nat):Bool:=
 let R:=(L+3)*(L+3) / 2
 Nat.ble ((L+2)*(L+6)+1) 1000000000000 && Nat.ble ((2*L+4)*d*(L+6)+1) 1000000000000 && Nat.ble ((2*L+4)*e*(L+6)+1) 1000000000000 &&
 Nat.ble (R*d+R*d+1) 1000000000000 && Nat.ble (R*e+R*e+1) 1000000000000 &&
 Nat.ble (lg (xH (R*d) (R*e))+B+(lg (uh (L+1) (R*d) (R*e))+B)+1) (64*3690000000000) && Nat.ble (B3 h L d e) (2^B) && Nat.ble (lg (xH (R*d) (R*e))+B) h2 && ok2 (R*d) (R*e) h2 &&
 Nat.ble (((L+2)*(L+6)+1)*((2*L+4)*d*(L+6)+1)*((2*L+4)*e*(L+6)+1)*((L+3)*((2*L+4)*d+1)*((2*L+4)*e+1))) 1000000000000 && Nat.ble ((L+2)*((R*d+1)*(R*e+1))*((R*d+1)*(R*e+1))) 1000000000000
def shapes (p:Nat->Nat->Nat->Bool):Bool:=(List.range 20).all fun x=>(List.range (20 / (x+1))).all fun y=>(List.range (20 / (x+1) / (y+1))).all fun z=>p x y z
def yF {p:Nat->Nat->Nat->Bool}(h:shapes p=true) (hx:(x+1)*(y+1)*(z+1)<=20):p x y z=true:=by
 have h1:=EZ.1 h;have a2:(x+1)*(y+1)<=20:=aH (jP _ (by omega)) hx;have a3:x+1<=20:=aH (jP _ (by omega)) a2;have b2:y+1<=20 / (x+1):=(TZ (by omega)).2 (by rw [aq];exact a2);have b3:z+1<=20 / (x+1) / (y+1):=by
  rw [Vi];exact (TZ (iR (by omega) (by omega))).2 (by rw [aq];exact hx)
 have h2:=EZ.1 (h1 x (oo.2 (by omega)));have h3:=EZ.1 (h2 y (oo.2 (by omega)));exact h3 z (oo.2 (by omega))
def U3 (k:ok2 L d h=true):Low 2 (oy L d) (2^h):=by
 unfold ok2 at k;simp only [wV,rF] at k;obtain ⟨⟨⟨⟨⟨⟨⟨⟨k1,k2⟩,k3⟩,k4⟩,k5⟩,k6⟩,v1⟩,v2⟩,v3⟩:=k;have g1:=sA (4*(5*(2*L+3)*d+d)+8+(4*L+8));have g2:=sA (4*(((L+3)*(L+3)*d+1) / 2)+8+(4*(L+1)+8));exact Wy (K:=3690000000000) aK (aH (Ec _ _) g1) (aH (Iy _ _) g1) (aH (Ec _ _) g2) (aH (Iy _ _) g2) (by omega) (by omega) k1 k2 k3 v1 v2 v3 k4 k5 k6
def aev {h2:Nat}(k:ok3 L d e h B h2=true):Low 3 (Poly.bZ L (oy d e)) (2^h):=by
 unfold ok3 at k;simp only [wV,rF] at k;obtain ⟨⟨⟨⟨⟨⟨⟨⟨⟨⟨k1,k2⟩,k3⟩,k4⟩,k5⟩,k6⟩,kB⟩,kh⟩,k7⟩,v1⟩,v2⟩:=k;obtain ⟨K,hK⟩:∃K:Nat,3690000000000=K:=⟨_,rfl⟩;rw [hK] at k6;have l2:=U3 k7;have hH:0<2^h:=iG (by omega);obtain ⟨R,hR⟩:∃R,(L+3)*(L+3) / 2=R:=⟨_,rfl⟩;have hBm:∀l,l<=L+1->(2*NU (2^h) L d e (2*(L+1-l)))^l*NU (2^h) L d e (2*(L+1-l))<=2^B:=fun l hl=>aH (aH (agE (fun l=>(2*NU (2^h) L d e (2*(L+1-l)))^l*NU (2^h) L d e (2*(L+1-l))) hl) (Ec _ _)) kB;have hBs:(2*NU (2^h) L d e 0)^(L+1)*NU (2^h) L d e 0<=2^B:=aH (Iy _ _) kB;rw [hR] at k4 k5 k6 kh l2 v2;have tS:∀{la lb l k},la<=L+1->lb<=L+1->Pl la lb l->k<=OJ la lb l->∀x,(k+1)*((la+lb-2*l+2)*x)<=R*x:=fun {la lb l k} si wF hl hk x=>by
  have r1:=(x9 si wF hl hk).1;rw [<- cn];exact bI _ (by omega)
 refine anM (n:=2) (K:=K) (kQ hK.symm) (by omega) (L:=L) (Di:=oy d e) (Dm:=fun la lb l=>oy ((la+lb-2*l+2)*d) ((la+lb-2*l+2)*e)) (M:=fun la lb l=>NU (2^h) L d e (la+lb-2*l)) (fun la lb hm=>auL hm) _ (Nat.le_refl L) (fun j=>aK) hH k1 (fun la lb l j si wF hl=> ?_) (fun la lb l si wF hl=> ?_) (fun la lb l k si wF hl hk=> ?_)
 . match j with
   | 0=>exact aR (bI _ (bI _ (show la+lb-2*l+2<=2*L+4 by omega))) k2
   | 1=>exact aR (bI _ (bI _ (show la+lb-2*l+2<=2*L+4 by omega))) k3
   | j+2=>show 0*_<_;omega
 . have ht:∀x,(la+lb-2*l+2)*x<=(2*L+4)*x:=fun x=>bI _ (by omega)
   show ((L+2)*(L+6)+1)*(((la+lb-2*l+2)*d*(L+6)+1)*(((la+lb-2*l+2)*e*(L+6)+1)*1))*((L+2+1)*(((la+lb-2*l+2)*d+1)*(((la+lb-2*l+2)*e+1)*1)))<=_;have e9:∀a b c:Nat,a*(b*(c*1))=a*b*c:=fun a b c=>by rw [bg,cn]
   rw [e9,e9];exact aH (dN (dN (bl _ (pR (bI _ (ht d)))) (pR (bI _ (ht e)))) (dN (bl _ (pR (ht d))) (pR (ht e)))) v1
 . have hs:=tS si wF hl hk
   have dd:∀j,(fun j=>(k+1)*oy ((la+lb-2*l+2)*d) ((la+lb-2*l+2)*e) j) j<=oy (R*d) (R*e) j:=fun j=>by
    match j with
    | 0=>exact hs d
    | 1=>exact hs e
    | j+2=>show (k+1)*0<=_;omega
   have p2:xH ((fun j=>(k+1)*oy ((la+lb-2*l+2)*d) ((la+lb-2*l+2)*e) j) 0) ((fun j=>(k+1)*oy ((la+lb-2*l+2)*d) ((la+lb-2*l+2)*e) j) 1)<=2^lg (xH (R*d) (R*e)):=aH (rq (hs d) (hs e)) (sA _);have p3:uh (L+1) ((fun j=>(k+1)*oy ((la+lb-2*l+2)*d) ((la+lb-2*l+2)*e) j) 0) ((fun j=>(k+1)*oy ((la+lb-2*l+2)*d) ((la+lb-2*l+2)*e) j) 1)<=2^lg (uh (L+1) (R*d) (R*e)):=aH (ug aK (hs d) (hs e)) (sA _);refine ⟨2^B,?_,?_,?_,fun j=> ?_,?_⟩
   . unfold OJ at hk
     by_cases h0:l=la+lb
     . rw [aM h0] at hk
       (have e0:la+lb-2*l=0:=by omega);show (2*NU (2^h) L d e (la+lb-2*l))^k*NU (2^h) L d e (la+lb-2*l)<=_;rw [e0];have m0:=Vp (L:=L) (d:=d) (e:=e) (t:=0) hH;exact aH (bI _ (fM (by omega) (by omega))) hBs
     . rw [af h0] at hk
       have hm:l<=min la lb:=hl.resolve_right h0;have m1:=QK (H:=2^h) (L:=L) (d:=d) (e:=e) (show la+lb-2*l<=2*(L+1-l) by omega);have m0:=Vp (L:=L) (d:=d) (e:=e) (t:=2*(L+1-l)) hH;exact aH (dN (mH (bl _ m1) hk (by omega)) m1) (hBm l (by omega))
   . refine l2.less dd (aH ?_ (fM (by omega) kh))
     rw [Ub,iH];exact bI _ p2
   . show aI.uk (Pn 2) _*2^B*(Poly.DR (Pn 2) (Poly.bZ (L+1) _)*2^B)<_
     rw [L9,Ub];exact aR (ai (ai p2 aK) (ai p3 aK)) (rH (by omega) k6)
   . have:=dd j
     have h8:oy (R*d) (R*e) j+oy (R*d) (R*e) j<1000000000000:=by
      match j with
      | 0=>exact k4
      | 1=>exact k5
      | j+2=>show 0+0<_;omega
     omega
   . show (L+1+1)*(((k+1)*((la+lb-2*l+2)*d)+1)*(((k+1)*((la+lb-2*l+2)*e)+1)*1))*(((k+1)*((la+lb-2*l+2)*d)+1)*(((k+1)*((la+lb-2*l+2)*e)+1)*1))<=_
     rw [bg];have q:=dN (pR (hs d)) (pR (hs e));exact aH (dN (bl _ q) q) v2
def hb (x y z:Nat):Nat:=68+lg (uh x y z)
def aey {a b:Nat}(h:a<=b):lg a<=lg b:=by
 unfold lg;refine pR ?_;by_cases ha:a=0
 . rw [ha]
   exact aH (kQ (by decide)) (dc _)
 . exact (Nat.le_log2 (by omega)).2 (aH (Nat.log2_self_le ha) h)
def VL {x' y' z':Nat}(h1:x<=x') (h2:y<=y') (h3:z<=z'):hb x y z<=hb x' y' z':=JG (aey (ug h1 h2 h3)) _
def ang:List (Nat×Nat×Nat×Nat×Nat×Nat):=[(0,0,19,293,8370,9556),(0,1,9,162,4096,4615),(0,2,5,124,2788,3104),(0,3,4,122,2747,3056),(0,4,3,122,2747,3056),(0,5,2,124,2788,3104),(0,9,1,162,4096,4615),(0,19,0,293,8370,9556),(1,0,9,162,7776,8889),(1,1,4,111,4293,4793),(1,2,2,99,3492,3856),(1,4,1,111,4293,4793),(1,9,0,162,7776,8889),(2,0,5,124,7436,8333),(2,1,2,99,4682,5108),(2,2,1,99,4682,5108),(2,5,0,124,7436,8333),(3,0,4,122,9574,10687),(3,4,0,122,9574,10687),(4,0,3,122,11046,12159),(4,1,1,111,8283,8880),(4,3,0,122,11046,12159),(5,0,2,124,12133,13101),(5,2,0,124,12133,13101),(9,0,1,162,27214,28327),(9,1,0,162,27214,28327),(19,0,0,293,127232,127233)]
def adx:ang.all (fun m=>ok3 m.1 m.2.1 m.2.2.1 m.2.2.2.1 m.2.2.2.2.1 m.2.2.2.2.2 && (ok2 m.1 m.2.1 m.2.2.2.1 && Nat.ble (hb m.1 m.2.1 m.2.2.1) m.2.2.2.1))=true:=by decide+kernel
def under:shapes (fun x y z=>ang.any fun m=>Nat.ble x m.1 && (Nat.ble y m.2.1 && Nat.ble z m.2.2.1))=true:=by decide+kernel
def YN (h:(x+1)*(y+1)*(z+1)<=20):∃m:Nat×Nat×Nat×Nat×Nat×Nat,(ok3 m.1 m.2.1 m.2.2.1 m.2.2.2.1 m.2.2.2.2.1 m.2.2.2.2.2=true∧ok2 m.1 m.2.1 m.2.2.2.1=true∧hb m.1 m.2.1 m.2.2.1<=m.2.2.2.1)∧x<=m.1∧y<=m.2.1∧z<=m.2.2.1:=by
 have h1:=yF under h;obtain ⟨m,hm,h2⟩:=Tl.1 h1;rw [wV,wV,rF,rF,rF] at h2;have h3:=EZ.1 adx m hm;rw [wV,wV,rF] at h3;exact ⟨m,h3,h2⟩
def Rb (h:(x+1)*(y+1)*(z+1)<=20):Low 3 (Poly.bZ x (oy y z)) (2^hb x y z):=by
 obtain ⟨m,hk,h1,h2,h3⟩:=YN h;refine (aev hk.1).less (fun j=> ?_) (fM (by omega) (aH (VL h1 h2 h3) hk.2.2));match j with
 | 0=>exact h1
 | 1=>exact h2
 | 2=>exact h3
 | j+3=>exact aK
def Rc (h:(x+1)*(y+1)*(0+1)<=20):Low 2 (Poly.bZ x (oy y 0)) (2^hb x y 0):=by
 obtain ⟨m,hk,h1,h2,h3⟩:=YN h;refine (U3 hk.2.1).less (fun j=> ?_) (fM (by omega) (aH (VL h1 h2 h3) hk.2.2));match j with
 | 0=>exact h1
 | 1=>exact h2
 | 2=>exact aK
 | j+3=>exact aK
def apI:shapes (fun x y z=>Nat.ble (hb x y z) 300)=true:=by decide+kernel
def PY (h:(x+1)*(y+1)*(z+1)<=20):hb x y z<=300:=by
 have h1:=yF apI h;rwa [rF] at h1
def Dj:∀{n:Nat}(x y z:Nat),n<=3->(x+1)*(y+1)*(z+1)<=20->(n=2->z=0)->Low n (Poly.bZ x (oy y z)) (2^hb x y z)
 | 0,x,y,z,_,hx,_=>by
   obtain ⟨K,hK⟩:∃K:Nat,10=K:=⟨_,rfl⟩;exact ajb (K:=K) (by omega) (rH (by decide) (by have:=PY hx;omega)) _
 | 1,x,y,z,_,hx,_=>by
   have a2:(x+1)*(y+1)<=20:=aH (jP _ (by omega)) hx;have a3:x+1<=20:=aH (jP _ (by omega)) a2;obtain ⟨h,hh⟩:∃h:Nat,300=h:=⟨_,rfl⟩;exact (Kb (K:=3690000000000) aK (L:=19) (g:=7) (h:=h) _ (show x<=19 by omega) (by decide) (by decide) (by decide) (by rw [<- hh];decide) (by rw [<- hh];decide)).less (fun _=>aK) (fM (by decide) (by have:=PY hx;omega))
 | 2,x,y,z,_,hx,hz=>by
   rw [hz rfl] at hx ⊢;exact Rc hx
 | 3,x,y,z,_,hx,_=>Rb hx
 | n+4,x,y,z,hn,_,_=>absurd hn (by omega)
def D3 (x y z:Nat):Nat->Nat:=Poly.bZ x (oy y z)
def Vy (h:(x+1)*(y+1)*(z+1)<=20) (j:Nat):D3 x y z j<=19:=by
 have a2:(x+1)*(y+1)<=20:=aH (jP _ (by omega)) h;have a3:x+1<=20:=aH (jP _ (by omega)) a2;have a4:y+1<=20:=aH (iT _ (by omega)) a2;have a5:z+1<=20:=aH (iT _ (iR (by omega) (by omega))) h;match j with
 | 0=>show x<=19;omega
 | 1=>show y<=19;omega
 | 2=>show z<=19;omega
 | j+3=>exact dc _
def aiP:shapes (fun x y z=>Nat.ble (xH x y) (uh x y z) && Nat.ble (yf x) (uh x y z))=true:=by decide+kernel
def KJ:∀{n x y z:Nat},n<=3->(x+1)*(y+1)*(z+1)<=20->aI.uk (Pn n) (D3 x y z)<=2^lg (uh x y z):=fun {n x y z} hn h=>by
 have h1:=yF aiP h;rw [wV,rF,rF] at h1;have h2:=sA (uh x y z);match n,hn with
 | 0,_=>exact iG (by omega)
 | 1,_=>exact aH h1.2 h2
 | 2,_=>exact aH h1.1 h2
 | 3,_=>exact h2
 | n+4,hn=>omega
def uZ:∀{n x y z:Nat},n<=3->(x+1)*(y+1)*(z+1)<=20->aI.j6 (Pn n) (D3 x y z)<=20:=fun {n x y z} hn h=>by
 have a2:(x+1)*(y+1)<=20:=aH (jP _ (by omega)) h;have a3:x+1<=20:=aH (jP _ (by omega)) a2;match n,hn with
 | 0,_=>show 1<=20;omega
 | 1,_=>show (x+1)*1<=20;omega
 | 2,_=>show (x+1)*((y+1)*1)<=20;rw [bg];exact a2
 | 3,_=>show (x+1)*((y+1)*((z+1)*1))<=20;rw [bg,<- cn];exact h
 | n+4,hn=>omega
@[irreducible] def e6:Nat:=600
def FK:e6=600:=by
 unfold e6;rfl
structure Fit (n x y z:Nat) (f:Pn n):Prop where
 dg:aI.dg (D3 x y z) f
 nm:aI.nm f<=2^hb x y z
structure Jw (n x y z:Nat) (f:Pn n):Prop where
 dg:aI.dg (D3 x y z) f
 nm:aI.nm f<=2^68
section
variable {n x y z : Nat} {f g h : Pn n}
def Jw.fit (h:Jw n x y z f):Fit n x y z f:=⟨h.dg,aH h.nm (fM (by omega) (by unfold hb;omega))⟩
def Jw.dv (h:Jw n x y z f) (hn:n<=3) (hs:(x+1)*(y+1)*(z+1)<=20) (hf:f≠0) (hg:Dv g f):Fit n x y z g:=by
 obtain ⟨h1,h2⟩:=aI.factor _ f g hf h.dg hg;refine ⟨h1,aH h2 (aH (ai (KJ hn hs) h.nm) (fM (by omega) ?_))⟩;unfold hb;omega
def Fit.less (h:Fit n x y z f) (hn:n<=3) (hs:(x+1)*(y+1)*(z+1)<=20) (hf:f≠0) (hg:Dv g f):aI.dg (D3 x y z) g∧aI.nm g<=2^e6:=by
 obtain ⟨h1,h2⟩:=aI.factor _ f g hf h.dg hg;have h3:=PY hs;refine ⟨h1,aH h2 (aH (ai (KJ hn hs) h.nm) (fM (by omega) ?_))⟩;have h4:68+lg (uh x y z)<=300:=h3;have h5:=FK;omega
end
def MW {f g h:Pn n}(hf:Fit n x y z f) (hg:Fit n x y z g) (hn:n<=3) (hs:(x+1)*(y+1)*(z+1)<=20) (hh:nL h f g):aI.dg (D3 x y z) h∧aI.nm h<=2^e6:=by
 by_cases f0:f=0
 . by_cases g0:g=0
   . rw [(BW hh).2 ⟨f0,g0⟩,aI.kF]
     exact ⟨aI.fQ _,dc _⟩
   . exact hg.less hn hs g0 hh.r
 . exact hf.less hn hs f0 hh.l
def JT (w:World) (n:Nat) (a b:Pn n) (e:Ending) (w':World):Prop:=∃g,nL g a b∧o7 g∧ou w n (mU n g) e w'
def Zi (n:Nat) (hn:n<=3) (A B:Option Addr) (ma ca mb cb:Nat) (L1 L2:List TV) (w:World) (hx:jM w A ma L1) (hy:jM w B mb L2) (h1:Arg n 1000 L1) (h2:Arg n 1000 L2) (PS:ma<=ca) (hca:ca<=9223372036854775807) (hmb:mb<=cb) (hcb:cb<=9223372036854775807)
 (D:Nat->Nat) (hD:∀j,D j<=1000) (hV:aI.j6 (Pn n) D<=4096) (ok:wM n (iO n (aU L1)) (iO n (aU L2))) (fit:∀g,nL g (iO n (aU L1)) (iO n (aU L2))->aI.dg D g∧aI.nm g<=2^e6):
 aC 10 #[.int .i64 (n:Int),.slice A ma ca,.slice B mb cb] w (JT w n (iO n (aU L1)) (iO n (aU L2))):=by
 have c1:=aA (fun W (hW:Below w.heap.size w W)=>ru (n:Int) A ma ca L1 W (hx.aB hW) (zj h1 (by omega)));have c2:=aA (fun W (hW:Below w.heap.size w W)=>ru (n:Int) B mb cb L2 W (hy.aB hW) (zj h2 (by omega)));have p1:Hid (∀W,Below w.heap.size w W->aC 28 #[.int .i64 (n:Int),.int .i64 0,.slice A ma ca] W (bV (fun _=>False) W n (iO n (aU L1)))):=fun W hW=>xM 1000 (by omega) n n 0 A ma ca L1 W (by omega) (by omega) (hx.aB hW) h1 PS hca;have p2:Hid (∀W,Below w.heap.size w W->aC 28 #[.int .i64 (n:Int),.int .i64 0,.slice B mb cb] W (bV (fun _=>False) W n (iO n (aU L2)))):=fun W hW=>xM 1000 (by omega) n n 0 B mb cb L2 W (by omega) (by omega) (hy.aB hW) h2 hmb hcb;have hc:=aA ok;have hr:Hid (∀(W:World) (u:Value) (g:Pn n),nL g (iO n (aU L1)) (iO n (aU L2))->aO (fun _=>True) n W u g->aC 26 #[.int .i64 (n:Int),u] W (yY W n g)):=fun W u g hg hu=>by
  obtain ⟨d1,d2⟩:=fit g hg;obtain ⟨C,hC⟩:∃C:Nat,10=C:=⟨_,rfl⟩;exact mright n C (by omega) (by omega) W u g D hu (aR d2 (rH (by decide) (by have:=FK;omega))) d1 hD (by have:=mF (pre:=[]) d1;omega)
 clear hx hy h1 h2 ok fit;generalize iO n (aU L1)=a at*
 generalize iO n (aU L2)=b at*
 go_enter func10,ntmps10
 go_wp2_with fail
 refine (c1.o w aW).mono ?_;rintro e w1 ⟨rfl,dH⟩;have JQ:=aA dH;clear dH c1;go_wp2_with fail
 refine (c2.o w1 JQ.o).mono ?_;rintro e w2 ⟨rfl,cU⟩;have vz:=aA (JQ.o.tm cU);clear cU c2 JQ;go_wp2_with fail
 refine (p1.o w2 vz.o).mono ?_;rintro e w3 ⟨s1,A1,k1,c1,B1,m1,d1,rfl,t1,nV⟩;have QO:=aA (vz.o.tm nV);have T1:=aA t1;clear nV t1 p1 vz;unfold bG at T1 ⊢;go_wp2_with fail
 refine (p2.o w3 QO.o).mono ?_;rintro e w4 ⟨s2,A2,k2,c2,B2,m2,d2,rfl,t2,vW⟩;have Hb4:=aA (QO.o.tm vW);have T1':=aA ((T1.o.aB vW).mono (T:=fun _=>True) fun _ _=>trivial);have T2:=aA (t2.mono (T:=fun _=>True) fun _ _=>trivial);clear vW t2 p2 QO T1;unfold bG at T2 ⊢;go_wp2_with fail
 refine (hc.o.1 (fun _=>True) w4 _ _ T1'.o T2.o).mono ?_;rintro e w5 ⟨g,hg,s3,A3,k3,c3,B3,m3,d3,rfl,t3,xW⟩;have Hb5:=aA (Hb4.o.tm xW);have Hr:=aA (hr.o w5 _ g hg (t3.mono fun _ _=>trivial));have Hg:=aA hg;clear xW t3 hc hr Hb4 T1' T2 hg;unfold bG at Hr ⊢;go_wp2_with fail
 refine Hr.o.mono ?_;rintro e w6 ⟨g',FE,hp,A6,c6,L6,rfl,q1,q2,q3,q4,q5,q6⟩;have F:Hid (JT w n a b (.returned (.tuple #[.slice A6 L6.length c6,.int .i64 0])) w6):=by
  refine ⟨g',?_,hp,A6,c6,L6,rfl,q1,q2,q3,q4,q5,Hb5.o.tm q6⟩;rcases FE with e | e
  . rw [e];exact Hg.o
  . rw [e];exact Hg.o.neg
 clear Hr q3 q4 q5 q6 FE hp Hg Hb5;go_wp2_with fail
 go_ret2;exact F.o
def Uy (n x y z:Nat) (hn:n<=3) (hs:(x+1)*(y+1)*(z+1)<=20) (hz:n=2->z=0) (A B:Option Addr) (ma ca mb cb:Nat) (L1 L2:List TV) (w:World) (hx:jM w A ma L1) (hy:jM w B mb L2) (h1:Arg n 1000 L1) (h2:Arg n 1000 L2) (PS:ma<=ca) (hca:ca<=9223372036854775807) (hmb:mb<=cb) (hcb:cb<=9223372036854775807)
 (f1:Fit n x y z (iO n (aU L1))) (f2:Fit n x y z (iO n (aU L2))):
 aC 10 #[.int .i64 (n:Int),.slice A ma ca,.slice B mb cb] w (JT w n (iO n (aU L1)) (iO n (aU L2))):=
 Zi n hn A B ma ca mb cb L1 L2 w hx hy h1 h2 PS hca hmb hcb (D3 x y z) (fun j=>by have:=Vy hs j;omega) (by have:=uZ hn hs;omega) (Dj x y z hn hs hz _ _ f1.dg f2.dg f1.nm f2.nm) fun _ hg=>MW f1 f2 hn hs hg
noncomputable def alm (n:Nat) (c:Int):Pn n:=Le n (List.replicate n 0) c
def LC:∀{n:Nat} {p:fE},p.length=n->eE (List.replicate n 0) p=p
 | 0,p,h=>by rw [lz h];rfl
 | n+1,[],h=>by cases h
 | n+1,x::p,h=>by
   show (0+x)::eE (List.replicate n 0) p=_;rw [LC (by simpa using h),EU]
def WB {L:Mv}(h:fI n L) (k:tP L) (c:Int):iO n (gD c L)=alm n c*iO n L:=by
 have e:gD c L=L.map fun b=>(eE (List.replicate n 0) b.1,c*b.2):=ER fun t ht=>by rw [LC (h t ht)]
 rw [e];exact zI (t:=(List.replicate n 0,c)) (by simp) (fun x hx=>by rw [abR hx];exact Ix _) h k
noncomputable def Ua (n:Nat) (f:Pn n):Pn n:=iO n (QY (mU n f))
def agy {L:Mv}(h:tP L):tP (QY L):=fun t ht=>by
 obtain ⟨x,hx,rfl⟩:=aj.1 ht;exact h x hx
def WV (n:Nat) (f:Pn n):QY (mU n f)=mU n (Ua n f):=lQ (OQ (dQ n f)) (agy (jA n f)) rfl
def UZ (n:Nat) (f:Pn n):f=alm n (zB (mU n f))*Ua n f:=by
 have h:=WB (OQ (dQ n f)).len (agy (jA n f)) (zB (mU n f));rw [YX,mD] at h;exact h
def Q9 (n:Nat) (f:Pn n):Dv (Ua n f) f:=⟨alm n (zB (mU n f)),by rw [aG.mul_comm];exact UZ n f⟩
def adO {L:Mv}:bM (QY L)<=bM L:=by
 have key:∀M:Mv,(∀t∈M,t∈L)->bM (M.map fun t=>(t.1,t.2 / zB L))<=bM M:=fun M=>by
  induction M with
  | nil=>intro _;exact aK
  | cons t M ih=>
    intro h;rw [vB,nk,nk];refine I1 ?_ (ih fun s hs=>h s (bn _ hs));have h1:=yR (h t ay);show (t.2 / zB L).natAbs<=t.2.natAbs;have h2:=uS t.2 (zB L);rw [h1,zl] at h2;(have h3:(zB L).natAbs*(t.2 / zB L).natAbs=t.2.natAbs:=by rw [<- vn,h2]);by_cases h0:zB L=0
    . rw [h0,Int.ediv_zero];exact dc _
    . rw [<- h3]
      exact iT _ (by omega)
 exact key L fun t ht=>ht
def aiM (n:Nat) (f:Pn n):aI.nm (Ua n f)<=aI.nm f:=by
 refine aH (LY _) (aH adO ?_);rw [CI];exact aK
def Ge {f:Pn n}:Ua n f=0↔f=0:=by
 constructor
 . intro h
   have h1:=UZ n f;rw [h,aG.mul_zero] at h1;exact h1
 . intro h
   have h1:=Q9 n f;rw [h] at h1;unfold Ua;rw [h,sR.2 rfl];exact AJ n
def Mx (i:Nat) (L:Mv):Mv:=mapM (fun p=>p.set i (max (nth p i-1) 0)) (fun p=>nth p i) L
noncomputable def xX (n i:Nat) (q:Pn n):Pn n:=iO n (Mx i (mU n q))
def Bu {L:Mv} {t:mj}(ht:t∈Mx i L):∃s∈L,t=(s.1.set i (max (nth s.1 i-1) 0),s.2*nth s.1 i):=by
 obtain ⟨s,hs,e⟩:=aj.1 ht;exact ⟨s,hs,e.symm⟩
def ali {L:Mv}(h:tP L):tP (Mx i L):=fun t ht x hx=>by
 obtain ⟨s,hs,rfl⟩:=Bu ht;rcases rK hx with hx | hx
 . exact h s hs x hx
 . rw [hx];omega
def VQ {q:Pn n} (h:aI.dg D q):aI.dg D (xX n i q):=by
 refine Af n 0 _ D fun t ht k=> ?_;rw [ct];obtain ⟨s,hs,rfl⟩:=Bu ht;have h1:=RG h hs k;by_cases hi:i<s.1.length
 . show (nth (s.1.set i _) k).toNat<=_
   rw [iX hi];split
   . rename_i e
     rw [e] at h1;subst e;omega
   . exact h1
 . show (nth (s.1.set i _) k).toNat<=_
   rw [NN (by omega)];exact h1
def afD {q:Pn n} (h:aI.dg D q):aI.nm (xX n i q)<=D i*aI.nm q:=by
 refine aH (LY _) ?_;rw [<- CI];have key:∀M:Mv,(∀t∈M,t∈mU n q)->bM (Mx i M)<=D i*bM M:=fun M=>by
  induction M with
  | nil=>intro _;exact dc _
  | cons t M ih=>
    intro hM;have e:Mx i (t::M)=(t.1.set i (max (nth t.1 i-1) 0),t.2*nth t.1 i)::Mx i M:=rfl;rw [e,nk,nk,ak];refine I1 ?_ (ih fun s hs=>hM s (bn _ hs));show (t.2*nth t.1 i).natAbs<=_;rw [vn,aq];refine bI _ ?_;have h1:=RG h (hM t ay) i;by_cases hi:i<t.1.length
    . have h2:=jA n q t (hM t ay) _ (iK hi)
      omega
    . rw [cW (by omega)]
      exact dc _
 exact key _ fun t ht=>ht
structure IsK (n k:Nat) (q g:Pn n):Prop where
 l:Dv g q
 r:∀i,i<k->Dv g (xX n i q)
 top:∀d,Dv d q->(∀i,i<k->Dv d (xX n i q))->Dv d g
def IsK.start (n:Nat) (q:Pn n):IsK n 0 q q:=⟨Dv.refl q,fun i hi=>absurd hi (tG i),fun d h _=>h⟩
def IsK.next {q g h:Pn n}(hg:IsK n k q g) (hh:nL h g (xX n k q)):IsK n (k+1) q h:=
 ⟨hh.l.trans hg.l,fun i hi=>by
   by_cases e:i=k
   . rw [e];exact hh.r
   . exact hh.l.trans (hg.r i (by omega)),fun d h1 h2=>hh.top d (hg.top d h1 fun i hi=>h2 i (by omega)) (h2 k (by omega))⟩
def adv {R:Type} [CY R] {d f:Poly R} {c:R}(hf:f≠0) (h1:f.lc=1) (hd:Dv d f) (hc:c≠0) (hk:Dv d (Poly.C c)):Dv d 1:=by
 obtain ⟨e,he⟩:=hd;have d0:d≠0:=fun h=>hf (by rw [he,h,aG.zero_mul]);have e0:e≠0:=fun h=>hf (by rw [he,h,aG.mul_zero]);have hl:=(lZ d0 e0).2;rw [<- he,h1] at hl;have c0:Poly.C c≠0:=fun h=>hc (by
  have h2:(Poly.C c).co 0=(0:Poly R).co 0:=by rw [h]
  rw [wT,aM rfl,Bz] at h2;exact h2)
 have hlen:d.len<=1:=aH (Dv.bU hk c0) (bU (Je c));have hp:=cH d0;have jU:d.len=1:=by omega
 have hdc:d=Poly.C d.lc:=Poly.ext fun i=>by
  rw [wT];by_cases hi:i=0
  . rw [hi,aM rfl]
    show d.co 0=d.co (d.len-1);rw [jU]
  . rw [af hi]
    exact az d i (by omega)
 refine ⟨Poly.C e.lc,?_⟩;rw [hdc];refine Poly.ext fun i=> ?_;rw [kP,wT,uM];by_cases hi:i=0
 . rw [aM hi,aM hi];exact hl
 . rw [af hi,af hi,aG.mul_zero]
noncomputable def V (i j:Nat) (c:Int):Pn 2:=Le 2 [(i:Int),(j:Int)] c
def Ds (i j:Nat) (c:Int):kids (V i j c)=Poly.mono i (Le 1 [(j:Int)] c):=rfl
def acA (i j k l:Nat) (c d:Int):V i j c*V k l d=V (i+k) (j+l) (c*d):=by
 have h:=Ld 2 [(i:Int),(j:Int)] [(k:Int),(l:Int)] c d rfl rfl (fun x hx=>by
  rcases iV.1 hx with e | hx
  . omega
  . rw [en.1 hx];omega) (fun x hx=>by
  rcases iV.1 hx with e | hx
  . omega
  . rw [en.1 hx];omega)
 unfold V;rw [<- h];rfl
def Eh (i j:Nat) (c:Int):iO 2 [([(i:Int),(j:Int)],c)]=V i j c:=UO (n:=2) (t:=([(i:Int),(j:Int)],c)) rfl (fun x hx=>by
 rcases iV.1 hx with e | hx
 . omega
 . rw [en.1 hx];omega)
def yV (hc:c≠0):mU 2 (V i j c)=[([(i:Int),(j:Int)],c)]:=by
 have hp:bC 2 [([(i:Int),(j:Int)],c)]:=⟨fun t ht=>by rw [en.1 ht];rfl,EO _ _,fun t ht=>by rw [en.1 ht];exact hc⟩;have hn:tP [([(i:Int),(j:Int)],c)]:=fun t ht x hx=>by
  rw [en.1 ht] at hx;rcases iV.1 hx with e | hx
  . omega
  . rw [en.1 hx];omega
 exact (lQ hp hn (Eh i j c)).symm
def aqM (hc:c≠0):V i j c≠0:=fun e=>by
 have h:=yV (i:=i) (j:=j) hc;rw [sR.2 e] at h;cases h
def aiy (hc:c≠0):Le 1 [(j:Int)] c≠0:=fun e=>by
 have h:=DB 1 [(j:Int)] c [(j:Int)] rfl rfl (fun x hx=>by rw [en.1 hx];omega);rw [e,rW,aM rfl] at h;exact hc h.symm
def UQ:Le 1 [((0:Nat):Int)] 1=(1:Pn 1):=rfl
def Zu (c:Int):kids (V 1 0 1+V 0 1 c)≠0∧(kids (V 1 0 1+V 0 1 c)).lc=1:=by
 have h1:(kids (V 1 0 1+V 0 1 c)).co 1=1:=by
  rw [Hh,pM,Ds,Ds,dV,dV,aM rfl,af (by omega),aG.add_zero];exact UQ
 have hs:(kids (V 1 0 1+V 0 1 c)).Sh 2:=fun i hi=>by
  rw [Hh,pM,Ds,Ds,dV,dV,af (by omega),af (by omega),aG.add_zero]
 have hne:(kids (V 1 0 1+V 0 1 c)).co 1≠0:=by rw [h1];exact Dom.nh
 have hl:(kids (V 1 0 1+V 0 1 c)).len=2:=Dl hs hne;refine ⟨fun e=>hne (by rw [e,Bz]),?_⟩;show (kids (V 1 0 1+V 0 1 c)).co ((kids (V 1 0 1+V 0 1 c)).len-1)=1;rw [hl];exact h1
def aeA:kids (V 1 0 1)≠0∧(kids (V 1 0 1)).lc=1:=by
 have h1:(kids (V 1 0 1)).co 1=1:=by
  rw [Ds,dV,aM rfl];exact UQ
 have hs:(kids (V 1 0 1)).Sh 2:=fun i hi=>by rw [Ds,dV,af (by omega)]
 have hne:(kids (V 1 0 1)).co 1≠0:=by rw [h1];exact Dom.nh
 have hl:(kids (V 1 0 1)).len=2:=Dl hs hne;refine ⟨fun e=>hne (by rw [e,Bz]),?_⟩;show (kids (V 1 0 1)).co ((kids (V 1 0 1)).len-1)=1;rw [hl];exact h1
def Nt {d f:Pn 2} (hf:kids f≠0∧(kids f).lc=1) (hd:Dv d f) (hc:c≠0) (hk:Dv d (V 0 1 c)):Dv d 1:=
 adv (d:=kids d) (f:=kids f) (c:=Le 1 [((1:Nat):Int)] c) hf.1 hf.2 hd (aiy hc) hk
def aw1:Mv:=[([2,0],1),([0,2], -1)]
def aw2:Mv:=[([2,0],1),([1,1],2),([0,2],1)]
def Jt:Mv:=[([1,0],1),([0,1],1)]
def awD:Mv:=[([1,0],1),([0,1], -1)]
def M8 {L:Mv}(h:∀t∈L,t.1.length=2∧∀x∈t.1,0<=x):fI 2 L∧tP L:=⟨fun t ht=>(h t ht).1,fun t ht=>(h t ht).2⟩
def abK:fI 2 aw1∧tP aw1:=M8 (by decide)
def abJ:fI 2 aw2∧tP aw2:=M8 (by decide)
def mY:fI 2 Jt∧tP Jt:=M8 (by decide)
def EF:fI 2 awD∧tP awD:=M8 (by decide)
def alD:iO 2 aw1=iO 2 Jt*iO 2 awD:=by
 rw [<- AO mY.1 mY.2 EF.1 EF.2];refine GM abK.1 abK.2 (mY.1.mul EF.1) (mY.2.mul EF.2) fun p _=> ?_;have e:mulM Jt awD=[([2,0],1),([1,1], -1),([1,1],1),([0,2], -1)]:=rfl;rw [e];unfold aw1;simp only [av,rU];by_cases h:[1,1]=p
 . rw [aM h,aM h];omega
 . rw [af h,af h];omega
def alC:iO 2 aw2=iO 2 Jt*iO 2 Jt:=by
 rw [<- AO mY.1 mY.2 mY.1 mY.2];refine GM abJ.1 abJ.2 (mY.1.mul mY.1) (mY.2.mul mY.2) fun p _=> ?_;have e:mulM Jt Jt=[([2,0],1),([1,1],1),([1,1],1),([0,2],1)]:=rfl;rw [e];unfold aw2;simp only [av,rU];by_cases h:[1,1]=p
 . rw [aM h,aM h];omega
 . rw [af h,af h];omega
def abI:iO 2 Jt=V 1 0 1+V 0 1 1:=by
 unfold Jt;rw [wu mY.1 mY.2];exact fN (fun u=>V 1 0 1+u) (Eh 0 1 1)
def aqG:iO 2 awD=V 1 0 1+V 0 1 (-1):=by
 unfold awD;rw [wu EF.1 EF.2];exact fN (fun u=>V 1 0 1+u) (Eh 0 1 (-1))
def aqN (i j:Nat) (c d:Int):V i j c+V i j d=V i j (c+d):=uP fun p hp=>by
 unfold V;have hn:∀x∈ [(i:Int),(j:Int)],0<=x:=fun x hx=>by
  rcases iV.1 hx with e | hx
  . omega
  . rw [en.1 hx];omega
 rw [Sc,DB 2 _ _ p rfl hp hn,DB 2 _ _ p rfl hp hn,DB 2 _ _ p rfl hp hn];split<;>omega
def alB:nL (iO 2 Jt) (iO 2 aw1) (iO 2 aw2):=by
 have h1:nL (1:Pn 2) (iO 2 awD) (iO 2 Jt):=by
  refine ⟨Dv.one _,Dv.one _,fun d h k=> ?_⟩;have h2:Dv d (V 0 1 2):=by
   have e:V 0 1 2=iO 2 Jt-iO 2 awD:=by
    rw [abI,aqG];(have e1:V 0 1 1=V 0 1 2+V 0 1 (-1):=by rw [aqN];rfl);rw [e1,aG.sub_def,<- aG.add_assoc,aG.add_comm (V 1 0 1) (V 0 1 2),aG.add_assoc (V 0 1 2),aG.add_assoc (V 0 1 2),aG.add_neg,aG.add_zero]
   rw [e];exact k.sub h
  rw [abI] at k;exact Nt (Zu 1) k (by omega) h2
 have h3:=nL.mul (c:=iO 2 Jt) (fun e=>by
  rw [abI] at e;exact (Zu 1).1 e) h1
 rw [aG.mul_one,<- alD,<- alC] at h3;exact h3
def LA:mU 2 (iO 2 Jt)=Jt:=(lQ ⟨mY.1,by unfold Jt;decide,by unfold Jt;decide⟩ mY.2 rfl).symm
def afS:o7 (iO 2 Jt):=fun t L e=>by
 rw [LA] at e;injection e with e1 _
 rw [<- e1];decide
def alA {g r r':Pn 2}(hq:Ua 2 (V 2 1 4)=r*g) (hK:IsK 2 2 (Ua 2 (V 2 1 4)) g) (hr:r'=r∨r'= -r) (hp:o7 r'):r'=V 1 1 1:=by
 have e0:Ua 2 (V 2 1 4)=V 2 1 1:=by
  unfold Ua;rw [yV (by omega)];exact Eh 2 1 1
 rw [e0] at hq hK;have ex:xX 2 0 (V 2 1 1)=V 1 1 2:=by
  unfold xX;rw [yV (by omega)];exact Eh 1 1 2
 have ey:xX 2 1 (V 2 1 1)=V 2 0 1:=by
  unfold xX;rw [yV (by omega)];exact Eh 2 0 1
 have m1:V 2 1 1=V 1 0 1*V 1 1 1:=by rw [acA];rfl
 have m2:V 1 1 2=V 1 0 1*V 0 1 2:=by rw [acA];rfl
 have m3:V 2 0 1=V 1 0 1*V 1 0 1:=by rw [acA];rfl
 have hx:Dv (V 1 0 1) g:=hK.top _ ⟨_,m1⟩ fun i hi=>by
  match i,hi with
  | 0,_=>rw [ex];exact ⟨_,m2⟩
  | 1,_=>rw [ey];exact ⟨_,m3⟩
  | i+2,hi=>omega
 obtain ⟨h,hh⟩:=hx;have x0:V 1 0 1≠0:=aqM (by omega);have g1:=hK.r 0 (by omega);have g2:=hK.r 1 (by omega);rw [ex,m2,hh] at g1;rw [ey,m3,hh] at g2;have hu:Dv h 1:=Nt aeA (Dv.cancel x0 g2) (by omega) (Dv.cancel x0 g1);obtain ⟨v,hv⟩:=hu;have tq:o7 (V 1 1 1):=fun t L e=>by
  rw [yV (by omega)] at e;injection e with e1 _
  rw [<- e1];show (0:Int)<1;omega
 have key:r=V 1 1 1∨r= -V 1 1 1:=by
  have e3:V 1 0 1*V 1 1 1=V 1 0 1*(r*h):=by
   rw [<- m1,hq,hh,<- aG.mul_assoc,<- aG.mul_assoc,aG.mul_comm r]
  have e4:=Dom.cancel x0 e3;rcases LU hv.symm with e5 | e5
  . left;rw [e4,e5,aG.mul_one]
  . right;rw [e4,e5,aG.mul_neg,aG.mul_one,aG.neg_neg]
 refine tq.eq hp ?_;rcases hr with e | e<;>rcases key with k | k
 . left;rw [e,k]
 . right;rw [e,k]
 . right;rw [e,k]
 . left;rw [e,k,aG.neg_neg]
def aiQ:shapes (fun x y z=>Nat.ble x (uh x y z) && (Nat.ble y (uh x y z) && Nat.ble z (uh x y z)))=true:=by decide+kernel
def alY (h:(x+1)*(y+1)*(z+1)<=20) (j:Nat):D3 x y z j<=uh x y z:=by
 have h1:=yF aiQ h;rw [wV,wV,rF,rF,rF] at h1;match j with
 | 0=>exact h1.1
 | 1=>exact h1.2.1
 | 2=>exact h1.2.2
 | j+3=>exact dc _
def Im {q:Pn n} {T:List TV} (hD:∀j,D j<=1000) (hV:aI.j6 (Pn n) D<=4096) (hT:eP n T) (e:aU T=mU n q) (dq:aI.dg D q) (nq:aI.nm q<=2^e6):Arg n 1000 T:=by
 have hl:=fN List.length e;rw [bE] at hl;have hc:(mU n q).length<=4096:=by
  unfold mU;rw [S8];exact aH (mF dq) hV
 refine ⟨fun t ht=> ?_,fun t ht u hu=> ?_,fun t ht=> ?_,by omega⟩
 . have h1:bp t∈aU T:=aj.2 ⟨t,ht,rfl⟩
   exact hT.mv.len _ h1
 . have h1:bp t∈mU n q:=by rw [<- e];exact aj.2 ⟨t,ht,rfl⟩
   have h2:=jA n q _ h1 u hu;obtain ⟨k,hk,uX⟩:=vq.1 hu;have h3:=RG dq h1 k;have h4:=hD k;have h5:nth (bp t).1 k=u:=by
    rw [gJ (show k<(bp t).1.length from hk)];exact uX
   rw [h5] at h3;omega
 . have h1:bp t∈mU n q:=by rw [<- e];exact aj.2 ⟨t,ht,rfl⟩
   have h2:(bp t).2.natAbs<=bM (mU n q):=by
    have:∀M:Mv,bp t∈M->(bp t).2.natAbs<=bM M:=fun M=>by
     induction M with
     | nil=>intro h;cases h
     | cons s M ih=>
       intro h;rw [nk];rcases iV.1 h with e2 | h
       . rw [<- e2];omega
       . have:=ih h;omega
    exact this _ h1
   rw [CI] at h2;obtain ⟨K,hK⟩:∃K:Nat,1000=K:=⟨_,rfl⟩;have h3:=(hT.co t ht).cap (K:=K) (aR (show (aF t.1.1 t.1.2).natAbs<=2^e6 from aH h2 nq) (rH (by decide) (by have:=FK;omega)));omega
def afT {q:Pn n} {T:List TV}(hn:n<=3) (hs:(x+1)*(y+1)*(z+1)<=20) (hT:eP n T) (e:aU T=mU n q) (dq:aI.dg (D3 x y z) q) (nq:aI.nm q<=2^e6):Arg n 1000 T:=Im (fun j=>by have:=Vy hs j;omega) (by have:=uZ hn hs;omega) hT e dq nq
def NW (w:World) (n:Nat) (q:Pn n) (e:Ending) (w':World):Prop:=
 (q=0∧e=.returned (.tuple #[bG false none 0 0 none 0 0,bG false none 0 0 none 0 0,.int .i64 8])∧Below w.heap.size w w')∨
 (q≠0∧∃(g r:Pn n) (s:Bool) (A:Option Addr) (k c:Nat) (B:Option Addr) (m d:Nat) (s':Bool) (A':Option Addr) (k' c':Nat) (B':Option Addr) (m' d':Nat),e=.returned (.tuple #[bG s A k c B m d,bG s' A' k' c' B' m' d',.int .i64 0])∧q=r*g∧IsK n n q g∧aO (fun _=>True) n w' (bG s A k c B m d) r∧aO (fun _=>True) n w' (bG s' A' k' c' B' m' d') g∧Below w.heap.size w w')
def En {fn:Func} {p q u:Tmp} {ty:TypeId}(h:fn.results=#[.cell p ty,.cell q ty,.tmp u]) (tmps:Array Value) (P:Program) (w:World) (g1 g2:Nat) (v1 v2:Value)
 (hp:tmps.getD p undef=.pointer (some ⟨g1,0,none⟩)) (hq:tmps.getD q undef=.pointer (some ⟨g2,0,none⟩)) (h1:(loadVar ty ⟨g1,0,none⟩).run P w=.ok v1 w) (h2:(loadVar ty ⟨g2,0,none⟩).run P w=.ok v2 w):
 (results fn tmps).run P w=.ok (.tuple #[v1,v2,tmps.getD u undef]) w:=by
 have Jm:tmps[p]?.getD undef=.pointer (some ⟨g1,0,none⟩):=by simpa using hp
 have hq':tmps[q]?.getD undef=.pointer (some ⟨g2,0,none⟩):=by simpa using hq
 simp [results,h,Jm,hq',asAddr,h1,h2]
def Ny {c a' b' c':Value}(hg:aa w g a b c) (hh:aa w h a' b' c') (hne:g≠h) (x y z x' y' z':Value):
 aa ((((((w.setCell ⟨g,0,none⟩ x).setCell ⟨g,1,none⟩ y).setCell ⟨g,2,none⟩ z).setCell ⟨h,0,none⟩ x').setCell ⟨h,1,none⟩ y').setCell ⟨h,2,none⟩ z') g x y z∧
 aa ((((((w.setCell ⟨g,0,none⟩ x).setCell ⟨g,1,none⟩ y).setCell ⟨g,2,none⟩ z).setCell ⟨h,0,none⟩ x').setCell ⟨h,1,none⟩ y').setCell ⟨h,2,none⟩ z') h x' y' z':=
 ⟨((((hg.set x y z).far (p:=⟨h,0,none⟩) hne x').far (p:=⟨h,1,none⟩) hne y').far (p:=⟨h,2,none⟩) hne z'),((((hh.far (p:=⟨g,0,none⟩) (fun e=>hne e.symm) x).far (p:=⟨g,1,none⟩) (fun e=>hne e.symm) y).far (p:=⟨g,2,none⟩) (fun e=>hne e.symm) z).set x' y' z')⟩
def VZ (hb:Below H w0 w) (hg:H<=g) (hh:H<=h) (x y z x' y' z':Value):Below H w0 ((((((w.setCell ⟨g,0,none⟩ x).setCell ⟨g,1,none⟩ y).setCell ⟨g,2,none⟩ z).setCell ⟨h,0,none⟩ x').setCell ⟨h,1,none⟩ y').setCell ⟨h,2,none⟩ z'):=gG (gG hb hg x y z) hh x' y' z'
def Gk (x y z x' y' z':Value):Only (fun b=>b=g∨b=h) w ((((((w.setCell ⟨g,0,none⟩ x).setCell ⟨g,1,none⟩ y).setCell ⟨g,2,none⟩ z).setCell ⟨h,0,none⟩ x').setCell ⟨h,1,none⟩ y').setCell ⟨h,2,none⟩ z'):=
 ((aZ w g x y z).mono fun b hb=> .inl hb).trans ((aZ _ h x' y' z').mono fun b hb=> .inr hb)
def yN {c:Value}(h:aa w g a b c):(loadVar 51 ⟨g,0,none⟩).run prog w=.ok (.agg #[a,b,c]) w:=Iw w g _ _ _ _ _ h underlying51 rfl cm
def MM (n:Nat) (hn:n<=3) (A:Option Addr) (m c:Nat) (L:List TV) (w:World) (hx:jM w A m L) (hL:Arg n 1000 L) (q:Pn n) (hq:Ua n (iO n (aU L))=q) (D:Nat->Nat) (hD:∀j,D j<=1000) (hV:aI.j6 (Pn n) D<=4096) (dq:aI.dg D q)
 (fit:∀g,q≠0->Dv g q->aI.nm g<=2^e6) (nD:∀k,k<n->aI.nm (xX n k q)<=2^e6) (ok:∀k g,k<n->q≠0->IsK n k q g->wM n g (xX n k q)):
 aC 32 #[.int .i64 (n:Int),.slice A m c] w (NW w n q):=by
 have nnL:tP (aU L):=fun t ht u hu=>(hL.YE t ht u hu).1;have anN:=hL.O7;have Cp:=aA (fun W (hW:Below w.heap.size w W)=>anF n 1000 A m c L W (hx.aB hW) hL (by omega) (by omega));have pl:Hid (∀P T:List TV,eP n P->jR n (aU P) (aU L)->aU T=QY (aU P)->aU T=mU n q):=fun P T hP he hT=>by
  have uG:=hP.mv.bd he hL.YE;have h1:aU P=mU n (iO n (aU L)):=lQ hP.mv (fun t ht u hu=>(uG t ht u hu).1) (GM hP.mv.len (fun t ht u hu=>(uG t ht u hu).1) anN nnL he);rw [hT,h1,WV,hq]
 have Dq:=aA dq;have FQ:Hid (∀g,q≠0->Dv g q->aI.dg D g∧aI.nm g<=2^e6):=fun g h0 hg=>⟨(aI.factor _ _ _ h0 dq hg).1,fit g h0 hg⟩;have ND:=aA nD;have OK:=aA ok;clear hx hL anN nnL hq dq fit nD ok;have t0:=(aa.new w (.bool false) (.slice none 0 0) (.slice none 0 0)).aB (aW.alloc aK (.cells #[.bool false,.slice none 0 0,.slice none 0 0] 51));have t1:=aa.new (w.alloc (.cells #[.bool false,.slice none 0 0,.slice none 0 0] 51)) (.bool false) (.slice none 0 0) (.slice none 0 0);rw [aJ] at t1;have hb:Below w.heap.size w ((w.alloc (.cells #[.bool false,.slice none 0 0,.slice none 0 0] 51)).alloc (.cells #[.bool false,.slice none 0 0,.slice none 0 0] 51)):=(aW.alloc aK _).alloc (by simp) _;go_enter func32,ntmps32
 go_wp2_with fail
 generalize kj:(w.alloc (.cells #[.bool false,.slice none 0 0,.slice none 0 0] 51)).alloc (.cells #[.bool false,.slice none 0 0,.slice none 0 0] 51)=wt at*
 clear kj;have T0:=aA t0;have T1:=aA t1;have HB:=aA hb;clear t0 t1 hb;refine (Cp.o wt HB.o).mono ?_;rintro e w1 ⟨s1,A1,k1,c1,Wx,B1,cB1,T,P,rfl,p1,p2,p3,p4,p5,p6,p7,p8,p9,p10,p11,p12⟩;have hTq:=aA (pl.o P T p4 p5 p11);have HT:=aA p9;have PT:=aA p10;have zz:=aA (HB.o.tm p12);have X0:=aA (T0.o.aB p12);have X1:=aA (T1.o.aB p12);clear p3 p4 p5 p6 p9 p10 p11 p12 pl Cp T0 T1 HB;have pK:Hid (Below w1.heap.size w1 (w1.alloc (.cells #[.bool s1,.slice A1 k1 c1] 41))):=aW.alloc aK _;have r0:=(X0.o.aB pK.o).cell0;have r1:=(X0.o.aB pK.o).cell1;have r2:=(X0.o.aB pK.o).aP;have r3:=(X0.o.aB pK.o).frozen 0;have r4:=(X0.o.aB pK.o).frozen 1;have r5:=(X0.o.aB pK.o).frozen 2;have v0:=(X1.o.aB pK.o).cell0;have v1:=(X1.o.aB pK.o).cell1;have v2:=(X1.o.aB pK.o).aP;have v3:=(X1.o.aB pK.o).frozen 0;have v4:=(X1.o.aB pK.o).frozen 1;have v5:=(X1.o.aB pK.o).frozen 2;by_cases h0:T.length=0
 . have zw:q=0:=sR.1 (by rw [<- hTq.o,lz h0];rfl)
   have iQ:((T.length:Int)==0)=true:=by rw [h0];rfl
   have HBa:Hid (Below w.heap.size w (w1.alloc (.cells #[.bool s1,.slice A1 k1 c1] 41))):=zz.o.tm pK.o;have Y0:=aA (((X0.o.aB pK.o).set (.bool false) (.slice none 0 0) (.slice none 0 0)));have l1:=(X1.o.aB pK.o).lt;have l0:=(X0.o.aB pK.o).lt;obtain ⟨y1,y2⟩:=Ny (X0.o.aB pK.o) (X1.o.aB pK.o) (by omega) (.bool false) (.slice none 0 0) (.slice none 0 0) (.bool false) (.slice none 0 0) (.slice none 0 0);have Y1:=aA y1;have Y2:=aA y2;have HBe:=aA (VZ HBa.o (g:=w.heap.size) (h:=w.heap.size+1) aK (by omega) (.bool false) (.slice none 0 0) (.slice none 0 0) (.bool false) (.slice none 0 0) (.slice none 0 0));clear h0 y1 y2 Y0;go_wp2_with fail
   exact ax (v:=.tuple #[.agg #[.bool false,.slice none 0 0,.slice none 0 0],.agg #[.bool false,.slice none 0 0,.slice none 0 0],.int .i64 8]) (En (fn:=f32) rfl _ _ _ w.heap.size (w.heap.size+1) _ _ rfl rfl (yN Y1.o) (yN Y2.o)) rfl
    (.inl ⟨zw,rfl,HBe.o⟩)
 . have iQ:((T.length:Int)==0)=false:=jD.2 (by omega)
   have zw:Hid (q≠0):=fun e=>h0 (by
    have h1:=fN List.length hTq.o;rw [bE,sR.2 e] at h1;exact h1)
   have AT:=aA (Im hD hV PT.o hTq.o Dq.o (FQ.o q zw.o (Dv.refl q)).2);have hTt:Hid (iO n (aU T)=q):=by show _=_;rw [hTq.o,mD]
   have HBa:Hid (Below w.heap.size w (w1.alloc (.cells #[.bool s1,.slice A1 k1 c1] 41))):=zz.o.tm pK.o;have Cq:Hid (aC 28 #[.int .i64 (n:Int),.int .i64 0,.slice B1 T.length cB1] (w1.alloc (.cells #[.bool s1,.slice A1 k1 c1] 41)) (bV (fun _=>False) (w1.alloc (.cells #[.bool s1,.slice A1 k1 c1] 41)) n q)):=by
    have h:=xM 1000 (by omega) n n 0 B1 T.length cB1 T (w1.alloc (.cells #[.bool s1,.slice A1 k1 c1] 41)) (by omega) (by omega) (HT.o.aB pK.o) AT.o p7 p8;have e:iy n 0 (aU T)=q:=hTt.o;rw [e] at h;exact h
   have HT1:=aA (HT.o.aB pK.o);have Z0:=aA (X0.o.aB pK.o);have Z1:=aA (X1.o.aB pK.o);clear h0 r0 r1 r2 r3 r4 r5 v0 v1 v2 v3 v4 v5 X0 X1 HT zz;go_wp2_with fail
   generalize hw1:w1.alloc (.cells #[.bool s1,.slice A1 k1 c1] 41)=wa at*
   clear hw1 pK;refine Cq.o.mono ?_;rintro e w2 ⟨s2,A2,k2,c2,B2,m2,d2,rfl,t2,cU⟩;have GI:=aA (HBa.o.tm cU);have HT2:=aA (HT1.o.aB cU);have U0:=aA (Z0.o.aB cU);have U1:=aA (Z1.o.aB cU);have zlt:w.heap.size+1<w2.heap.size:=U1.o.lt;have Tq:Hid (aO (fun b=>w.heap.size+2<=b∧b<w2.heap.size) n w2 (bG s2 A2 k2 c2 B2 m2 d2) q):=t2.here.mono fun b hb=>⟨by
    have h9:=Z1.o.lt;rcases hb.1 with h | h
    . exact h.elim
    . omega,hb.2⟩
   clear t2 cU Cq Z0 Z1 HT1 HBa;unfold bG;have t10:=aa.new w2 (.bool s2) (.slice A2 k2 c2) (.slice B2 m2 d2);have ba:Below w2.heap.size w2 (w2.alloc (.cells #[.bool s2,.slice A2 k2 c2,.slice B2 m2 d2] 51)):=aW.alloc aK _;have iP:Hid ((w2.alloc (.cells #[.bool s2,.slice A2 k2 c2,.slice B2 m2 d2] 51)).heap.size=w2.heap.size+1):=aJ _ _;have o0:=t10.cell0;have o1:=t10.cell1;have o2:=t10.aP;go_wp2_with fail
   generalize hw2:w2.alloc (.cells #[.bool s2,.slice A2 k2 c2,.slice B2 m2 d2] 51)=w4 at*
   clear hw2 o0 o1 o2;have t11:=aa.new w4 (.bool s2) (.slice A2 k2 c2) (.slice B2 m2 d2);rw [iP.o] at t11;have bb:Below w4.heap.size w4 (w4.alloc (.cells #[.bool s2,.slice A2 k2 c2,.slice B2 m2 d2] 51)):=aW.alloc aK _;have T10:=aA t10;have BA:=aA ba;have BB:=aA bb;have Tq4:Hid (aO (fun b=>b≠w2.heap.size+1∧w.heap.size+2<=b) n w4 (bG s2 A2 k2 c2 B2 m2 d2) q):=(Tq.o.aB ba).mono fun b hb=>⟨by have:=hb.2;omega,hb.1⟩;have Tq5:=aA (Tq4.o.aB bb);generalize hw4:w4.alloc (.cells #[.bool s2,.slice A2 k2 c2,.slice B2 m2 d2] 51)=w5 at*
   clear hw4;have Vm:=aA t11;clear t10 t11 ba bb Tq;go_loopw [39] (fun kk wr=>∃(k:Nat) (s:Bool) (A':Option Addr) (q' c':Nat) (B':Option Addr) (m' d':Nat) (g:Pn n),k<=n∧kk=.int .i64 (k:Int)∧Hid (Below w4.heap.size w4 wr)∧Hid (aa wr (w2.heap.size+1) (.bool s) (.slice A' q' c') (.slice B' m' d'))∧Hid (aO (fun b=>b≠w2.heap.size+1∧w.heap.size+2<=b) n wr (bG s A' q' c' B' m' d') g)∧Hid (IsK n k q g)) (fun kk _=>n-(intOf kk).toNat)
   case atStart=>exact ⟨0,s2,A2,k2,c2,B2,m2,d2,q,dc _,rfl,BB,Vm,Tq5.o,IsK.start n q⟩
   case round=>
    clear Vm BB Tq5;obtain ⟨k,s,A',q',c',B',m',d',g,hk,rfl,qu,hT,hg,hK⟩:=hrel;obtain ⟨wp,rfl⟩:∃wp:World,wp=wr:=⟨_,rfl⟩;have Jo:=hT.o.lt;have x0:=hT.o.cell0;have x1:=hT.o.cell1;have x2:=hT.o.aP;have x3:=hT.o.frozen 0;have x4:=hT.o.frozen 1;have x5:=hT.o.frozen 2;by_cases hlt:k<n
    . have dI:(k:Int)<(n:Int):=by omega
      have HTp:=aA ((HT2.o.aB BA.o).aB qu.o);have bdT:C8 1000 (aU T):=AT.o.YE;have Cd:=aA (aiR n 1000 B1 T.length cB1 T k wp HTp.o AT.o (by omega) hlt (by omega) (fun t ht u hu=>by
       obtain ⟨s',wO,rfl⟩:=Bu (i:=k) ht;have uG:=bdT s' wO;rcases rK hu with hu | hu
       . exact uG u hu
       . rw [hu]
         by_cases hi:k<s'.1.length
         . have:=uG _ (iK hi);omega
         . rw [cW (by omega)];omega))
      clear HTp bdT;(go_wp2_with fail);refine Cd.o.mono ?_;rintro e w6 ⟨A6,c6,L6,rfl,u1,u2,u3,u4,u5,u6⟩;have iZ:Below wp.heap.size wp w6:=u6;have n2:tP (aU L6):=fun t ht v hv=>by
       have bd6:C8 1000 (Mx k (aU T)):=fun t ht u hu=>by
        obtain ⟨s',wO,rfl⟩:=Bu ht;have uG:=AT.o.YE s' wO;rcases rK hu with hu | hu
        . exact uG u hu
        . rw [hu]
          by_cases hi:k<s'.1.length
          . have:=uG _ (iK hi);omega
          . rw [cW (by omega)];omega
       exact (u4.mv.bd u5 bd6 t ht v hv).1
      have eD:iO n (aU L6)=xX n k q:=by
       have l1:fI n (Mx k (aU T)):=fun t ht=>by
        obtain ⟨s',wO,rfl⟩:=Bu ht;rw [gH];exact AT.o.O7 s' wO
       have n1:tP (Mx k (aU T)):=ali fun t ht v hv=>(AT.o.YE t ht v hv).1;have h:=GM u4.mv.len n2 l1 n1 u5;rw [h,hTq.o];rfl
      have dD:aI.dg D (xX n k q):=VQ Dq.o;have A6':Arg n 1000 L6:=Im hD hV u4 (lQ u4.mv n2 eD) dD (ND.o k hlt);have Cl:Hid (∀W,Below w6.heap.size w6 W->aC 28 #[.int .i64 (n:Int),.int .i64 0,.slice A6 L6.length c6] W (bV (fun _=>False) W n (xX n k q))):=fun W hW=>by
       have h:=xM 1000 (by omega) n n 0 A6 L6.length c6 L6 W (by omega) (by omega) (u3.aB hW) A6' u1 u2;have e:iy n 0 (aU L6)=xX n k q:=eD;rw [e] at h;exact h
      have Cc:=aA (OK.o k g hlt zw.o hK.o);have TB:=aA (hT.o.aB iZ);have TG:=aA (hg.o.aB iZ);have HK:=aA hK.o;have HBw:=aA (qu.o.tm iZ);have hl6:=TB.o.lt;have hz4:Hid (w4.heap.size=w2.heap.size+1):=iP.o;have ek:Hid (∀W,Below w6.heap.size w6 W->(fun W=>W.cell? ⟨w2.heap.size+1,0,none⟩=some (.bool s)∧W.cell? ⟨w2.heap.size+1,1,none⟩=some (.slice A' q' c')∧W.cell? ⟨w2.heap.size+1,2,none⟩=some (.slice B' m' d')) W):=fun W hW=>⟨(TB.o.aB hW).cell0,(TB.o.aB hW).cell1,(TB.o.aB hW).aP⟩;clear hT hg hK qu x0 x1 x2 x3 x4 x5 u3 u4 u5 u6 eD dD A6' Cd iZ;(go_wp2_with fail);refine gC (S:=fun W=>W.cell? ⟨w2.heap.size+1,0,none⟩=some (.bool s)∧W.cell? ⟨w2.heap.size+1,1,none⟩=some (.slice A' q' c')∧W.cell? ⟨w2.heap.size+1,2,none⟩=some (.slice B' m' d')) (z:=6) (by kernel_rfl) ?_;have hHeld:=ek.o _ (Below.refl w6.heap.size w6).drew;(try dsimp only at hHeld);refine tk 6 0 (.int .i64 (n:Int)) rfl hHeld ?_;(try simp only [fx,Act.put]);refine tk 6 1 (.agg #[.bool s,.slice A' q' c',.slice B' m' d']) rfl hHeld ?_;(try simp only [fx,Act.put]);refine tk 6 2 (.int .i64 (n:Int)) rfl hHeld ?_;(try simp only [fx,Act.put]);refine tk 6 3 (.slice A6 L6.length c6) rfl hHeld ?_;(try simp only [fx,Act.put]);refine aV (rs:=[4]) (by kernel_rfl) (by simp) ?_;refine aL.cons rfl (by decide) (fun KK cZ=> ?_) aL.nil;go_simp;refine (Cl.o _ aW.drew).mono ?_;rintro e w7 ⟨s7,A7,k7,c7,B7,m7,d7,rfl,t7,lI⟩;have gN:Below w6.heap.size w6 w7:=aW.drew.trans lI;have T7:=aA (t7.mono (T:=fun b=>b≠w2.heap.size+1∧w.heap.size+2<=b) fun b hb=>by
       rcases hb with hb | hb
       . exact hb.elim
       . have h8:w6.heap.size<=b:=hb
         exact ⟨by omega,by omega⟩)
      have TG7:=aA (TG.o.aB gN);clear t7;unfold bG;(go_wp2_with fail);refine cZ.o _ _ (ek.o _ gN) (fun hHeld=> ?_);clear cZ KK;(try dsimp only at hHeld);(try simp only [fx,Act.put]);refine aV (rs:=[5]) (by kernel_rfl) (by simp) ?_;refine aL.cons rfl (by decide) (fun KK cZ=> ?_) aL.nil;go_simp;refine (Cc.o.1 (fun b=>b≠w2.heap.size+1∧w.heap.size+2<=b) w7 _ _ TG7.o T7.o).mono ?_;rintro e w8 ⟨g8,hg8,s8,A8,k8,c8,B8,m8,d8,rfl,t8,XQ⟩;have jh:Below w6.heap.size w6 w8:=gN.tm XQ;have T8:=aA (t8.mono (T:=fun b=>b≠w2.heap.size+1∧w.heap.size+2<=b) fun b hb=>by
       rcases hb with hb | hb
       . exact hb
       . have h8:=gN.size
         exact ⟨by omega,by omega⟩)
      have HK8:=aA (HK.o.next hg8);have TB8:=aA (TB.o.aB jh);clear t8 hg8;unfold bG;(go_wp2_with fail);refine cZ.o _ _ (ek.o _ jh) (fun hHeld=> ?_);clear cZ KK;(try dsimp only at hHeld);(try simp only [fx,Act.put]);refine aV (rs:=[6]) (by kernel_rfl) (by simp) ?_;refine aL.last rfl (fun KK cZ=> ?_);have y0:=TB8.o.cell0;have y1:=TB8.o.cell1;have y2:=TB8.o.aP;have y3:=TB8.o.frozen 0;have y4:=TB8.o.frozen 1;have y5:=TB8.o.frozen 2;have y6:=TB8.o.lt;go_simp;refine cZ.o _ _ ?_;clear cZ KK;refine fK (by kernel_rfl) ?_ _;have TB9:=aA (TB8.o.set (.bool s8) (.slice A8 k8 c8) (.slice B8 m8 d8));have T9:Hid (aO (fun b=>b≠w2.heap.size+1∧w.heap.size+2<=b) n _ (bG s8 A8 k8 c8 B8 m8 d8) g8):=T8.o.only (aZ w8 (w2.heap.size+1) (.bool s8) (.slice A8 k8 c8) (.slice B8 m8 d8)) (fun b hb e=>hb.1 e) fun b hb=>hb;have Xv:=aA (gG (HBw.o.tm jh) (kQ hz4.o) (.bool s8) (.slice A8 k8 c8) (.slice B8 m8 d8));clear hHeld gN lI jh XQ T8 TB8 ek Cl Cc TB TG HK HBw T7 TG7 y0 y1 y2 y3 y4 y5 y6;(go_wp2_with fail);go_roundw
      case rel=>exact ⟨k+1,s8,A8,k8,c8,B8,m8,d8,g8,by omega,by go_num,Xv,TB9,T9,HK8⟩
      case measure=>simp [intOf];omega
    . have dI:¬(k:Int)<(n:Int):=by omega
      (obtain rfl:k=n:=by omega);obtain ⟨r,hr⟩:=hK.o.l;(have Fb:q=r*g:=by rw [hr,aG.mul_comm]);have g0:g≠0:=fun e=>zw.o (by rw [Fb,e,aG.mul_zero]);have Fg:=FQ.o g zw.o hK.o.l;have Fr:=FQ.o r zw.o ⟨g,Fb⟩;obtain ⟨K1,hK1⟩:∃K:Nat,100=K:=⟨_,rfl⟩;have lg':∀{u:Nat},u<=2^e6->u<2^(64*K1):=fun h=>aR h (rH (by decide) (by have:=FK;omega));have Cb:Hid (∀W,Below wp.heap.size wp W->aC 53 #[.agg #[.bool s2,.slice A2 k2 c2,.slice B2 m2 d2],.int .i64 (k:Int),.agg #[.bool s,.slice A' q' c',.slice B' m' d']] W (bV (fun b=>w.heap.size+2<=b) W k r)):=fun W hW=>by
       have hp:aO (fun b=>w.heap.size+2<=b) k W (bG s2 A2 k2 c2 B2 m2 d2) (r*g):=by
        rw [<- Fb];exact (((Tq4.o.mono (T:=fun b=>w.heap.size+2<=b) fun _ hb=>hb.2).aB qu.o).aB hW)
       exact mby K1 (by omega) k (by omega) (fun b=>w.heap.size+2<=b) W _ _ r g D D hp ((hg.o.mono (T:=fun b=>w.heap.size+2<=b) fun _ hb=>hb.2).aB hW) g0 Fr.1 Fg.1 (fun j=>by have:=hD j;omega) (lg' Fr.2) (lg' Fg.2) (aR (ai Fr.2 Fg.2) (rH (by decide) (by have:=FK;omega)))
      have TB:=aA hT.o;have TA:=aA (T10.o.aB qu.o);have HG:=aA hg.o;have HK:=aA hK.o;have HR:=aA Fb;have V0:=aA ((U0.o.aB BA.o).aB qu.o);have V1:=aA ((U1.o.aB BA.o).aB qu.o);have pY:=aA ((GI.o.tm BA.o).trans (qu.o.mono (aH GI.o.size BA.o.size)));have ek:Hid (∀W,Below wp.heap.size wp W->(fun W=>W.cell? ⟨w2.heap.size,0,none⟩=some (.bool s2)∧W.cell? ⟨w2.heap.size,1,none⟩=some (.slice A2 k2 c2)∧W.cell? ⟨w2.heap.size,2,none⟩=some (.slice B2 m2 d2)∧W.cell? ⟨w2.heap.size+1,0,none⟩=some (.bool s)∧W.cell? ⟨w2.heap.size+1,1,none⟩=some (.slice A' q' c')∧W.cell? ⟨w2.heap.size+1,2,none⟩=some (.slice B' m' d')) W):=fun W hW=>⟨(TA.o.aB hW).cell0,(TA.o.aB hW).cell1,(TA.o.aB hW).aP,(TB.o.aB hW).cell0,(TB.o.aB hW).cell1,(TB.o.aB hW).aP⟩;(have hzp:w2.heap.size<wp.heap.size:=by have:=TA.o.lt;exact this);clear hT hg hK qu x0 x1 x2 x3 x4 x5 hr Fb g0 Fg Fr lg' hK1;(go_wp2_with fail);refine gC (S:=fun W=>W.cell? ⟨w2.heap.size,0,none⟩=some (.bool s2)∧W.cell? ⟨w2.heap.size,1,none⟩=some (.slice A2 k2 c2)∧W.cell? ⟨w2.heap.size,2,none⟩=some (.slice B2 m2 d2)∧W.cell? ⟨w2.heap.size+1,0,none⟩=some (.bool s)∧W.cell? ⟨w2.heap.size+1,1,none⟩=some (.slice A' q' c')∧W.cell? ⟨w2.heap.size+1,2,none⟩=some (.slice B' m' d')) (z:=99) (by kernel_rfl) ?_;have hHeld:=ek.o _ (Below.refl wp.heap.size wp).drew;(try dsimp only at hHeld);refine tk 99 0 (.agg #[.bool s2,.slice A2 k2 c2,.slice B2 m2 d2]) rfl hHeld ?_;(try simp only [fx,Act.put]);refine tk 99 1 (.int .i64 (k:Int)) rfl hHeld ?_;(try simp only [fx,Act.put]);refine tk 99 2 (.agg #[.bool s,.slice A' q' c',.slice B' m' d']) rfl hHeld ?_;(try simp only [fx,Act.put]);refine tk 99 4 (.agg #[.bool s,.slice A' q' c',.slice B' m' d']) rfl hHeld ?_;(try simp only [fx,Act.put]);refine aV (rs:=[3]) (by kernel_rfl) (by simp) ?_;refine aL.cons rfl (by decide) (fun KK cZ=> ?_) aL.nil;go_simp;refine (Cb.o _ aW.drew).mono ?_;rintro e w7 ⟨s7,A7,k7,c7,B7,m7,d7,rfl,t7,lI⟩;have gN:Below wp.heap.size wp w7:=aW.drew.trans lI;have T7:=aA (t7.mono (T:=fun b=>w.heap.size+2<=b) fun b hb=>by
       rcases hb with hb | hb
       . exact hb
       . have h8:wp.heap.size<=b:=hb
         omega)
      have HG7:=aA ((HG.o.aB gN).mono (T:=fun b=>w.heap.size+2<=b) fun _ hb=>hb.2);have W0:=aA (V0.o.aB gN);have W1:=aA (V1.o.aB gN);have KS:=aA (ek.o _ gN);clear t7;unfold bG;(go_wp2_with fail);refine cZ.o _ _ KS.o (fun hHeld=> ?_);clear cZ KK;(try dsimp only at hHeld);(try simp only [fx,Act.put]);have TA7:=aA (TA.o.aB gN);have TB7:=aA (TB.o.aB gN);have K5:Hid ((fun W=>W.cell? ⟨w2.heap.size,0,none⟩=some (.bool s2)∧W.cell? ⟨w2.heap.size,1,none⟩=some (.slice A2 k2 c2)∧W.cell? ⟨w2.heap.size,2,none⟩=some (.slice B2 m2 d2)∧W.cell? ⟨w2.heap.size+1,0,none⟩=some (.bool s)∧W.cell? ⟨w2.heap.size+1,1,none⟩=some (.slice A' q' c')∧W.cell? ⟨w2.heap.size+1,2,none⟩=some (.slice B' m' d')) (((w7.setCell ⟨w.heap.size,0,none⟩ (.bool s7)).setCell ⟨w.heap.size,1,none⟩ (.slice A7 k7 c7)).setCell ⟨w.heap.size,2,none⟩ (.slice B7 m7 d7))):=by
       have o5:=aZ w7 w.heap.size (.bool s7) (.slice A7 k7 c7) (.slice B7 m7 d7);have a5:=TA7.o.keep (o5.block _ TA7.o.lt (by omega));have b5:=TB7.o.keep (o5.block _ TB7.o.lt (by omega));exact ⟨a5.cell0,a5.cell1,a5.aP,b5.cell0,b5.cell1,b5.aP⟩
      have K6:Hid ((fun W=>W.cell? ⟨w2.heap.size,0,none⟩=some (.bool s2)∧W.cell? ⟨w2.heap.size,1,none⟩=some (.slice A2 k2 c2)∧W.cell? ⟨w2.heap.size,2,none⟩=some (.slice B2 m2 d2)∧W.cell? ⟨w2.heap.size+1,0,none⟩=some (.bool s)∧W.cell? ⟨w2.heap.size+1,1,none⟩=some (.slice A' q' c')∧W.cell? ⟨w2.heap.size+1,2,none⟩=some (.slice B' m' d')) ((((((w7.setCell ⟨w.heap.size,0,none⟩ (.bool s7)).setCell ⟨w.heap.size,1,none⟩ (.slice A7 k7 c7)).setCell ⟨w.heap.size,2,none⟩ (.slice B7 m7 d7)).setCell ⟨w.heap.size+1,0,none⟩ (.bool s)).setCell ⟨w.heap.size+1,1,none⟩ (.slice A' q' c')).setCell ⟨w.heap.size+1,2,none⟩ (.slice B' m' d'))):=by
       have o5:=Gk (w:=w7) (g:=w.heap.size) (h:=w.heap.size+1) (.bool s7) (.slice A7 k7 c7) (.slice B7 m7 d7) (.bool s) (.slice A' q' c') (.slice B' m' d');have a5:=TA7.o.keep (o5.block _ TA7.o.lt (by omega));have b5:=TB7.o.keep (o5.block _ TB7.o.lt (by omega));exact ⟨a5.cell0,a5.cell1,a5.aP,b5.cell0,b5.cell1,b5.aP⟩
      have r0:=W0.o.cell0;have r1:=W0.o.cell1;have r2:=W0.o.aP;have r3:=W0.o.frozen 0;have r4:=W0.o.frozen 1;have r5:=W0.o.frozen 2;have r6:=W0.o.lt;have v0:=W1.o.cell0;have v1:=W1.o.cell1;have v2:=W1.o.aP;have v3:=W1.o.frozen 0;have v4:=W1.o.frozen 1;have v5:=W1.o.frozen 2;have v6:=W1.o.lt;refine aV (rs:=[5]) (by kernel_rfl) (by simp) ?_;refine aL.cons rfl (by decide) (fun KK cZ=> ?_) aL.nil;go_simp;refine cZ.o _ _ K5.o (fun hHeld=> ?_);clear cZ KK;(try dsimp only at hHeld);(try simp only [fx,Act.put]);refine aV (rs:=[6]) (by kernel_rfl) (by simp) ?_;refine aL.cons rfl (by decide) (fun KK cZ=> ?_) aL.nil;go_simp;refine cZ.o _ _ K6.o (fun hHeld=> ?_);clear cZ KK;(try dsimp only at hHeld);(try simp only [fx,Act.put]);refine aV (rs:=[7]) (by kernel_rfl) (by simp) ?_;refine aL.cons rfl (by decide) (fun KK cZ=> ?_) aL.nil;go_simp;refine cZ.o _ _ K6.o (fun hHeld=> ?_);clear cZ KK;(try dsimp only at hHeld);(try simp only [fx,Act.put]);refine fK (by kernel_rfl) ?_ _;obtain ⟨y1,y2⟩:=Ny W0.o W1.o (by omega) (.bool s7) (.slice A7 k7 c7) (.slice B7 m7 d7) (.bool s) (.slice A' q' c') (.slice B' m' d');have Y1:=aA y1;have Y2:=aA y2;have HBe:=aA (VZ (pY.o.tm gN) (g:=w.heap.size) (h:=w.heap.size+1) aK (by omega) (.bool s7) (.slice A7 k7 c7) (.slice B7 m7 d7) (.bool s) (.slice A' q' c') (.slice B' m' d'));have R1:=aA (T7.o.only (Gk (w:=w7) (g:=w.heap.size) (h:=w.heap.size+1) (.bool s7) (.slice A7 k7 c7) (.slice B7 m7 d7) (.bool s) (.slice A' q' c') (.slice B' m' d')) (fun b hb e=>by omega) (T:=fun _=>True) fun _ _=>trivial);have R2:=aA (HG7.o.only (Gk (w:=w7) (g:=w.heap.size) (h:=w.heap.size+1) (.bool s7) (.slice A7 k7 c7) (.slice B7 m7 d7) (.bool s) (.slice A' q' c') (.slice B' m' d')) (fun b hb e=>by omega) (T:=fun _=>True) fun _ _=>trivial);clear y1 y2 K5 K6 T7 HG7 W0 W1 gN lI KS hHeld ek;(go_wp2_with fail);exact ax (v:=.tuple #[.agg #[.bool s7,.slice A7 k7 c7,.slice B7 m7 d7],.agg #[.bool s,.slice A' q' c',.slice B' m' d'],.int .i64 0]) (En (fn:=f32) rfl _ _ _ w.heap.size (w.heap.size+1) _ _ rfl rfl (yN Y1.o) (yN Y2.o)) rfl
       (.inr ⟨zw.o,g,r,s7,A7,k7,c7,B7,m7,d7,s,A',q',c',B',m',d',rfl,HR.o,HK.o,R1.o,R2.o,HBe.o⟩)
def Ot (n x y z:Nat) (hn:n<=3) (hs:(x+1)*(y+1)*(z+1)<=20) (hz:n=2->z=0) (A:Option Addr) (m c:Nat) (L:List TV) (w:World) (hx:jM w A m L) (hL:Arg n 1000 L) (fd:aI.dg (D3 x y z) (iO n (aU L))) (fn:aI.nm (iO n (aU L))<=2^67):
 aC 32 #[.int .i64 (n:Int),.slice A m c] w (NW w n (Ua n (iO n (aU L)))):=by
 obtain ⟨q,hq⟩:∃q,Ua n (iO n (aU L))=q:=⟨_,rfl⟩;have nq:aI.nm q<=2^67:=by rw [<- hq];exact aH (aiM _ _) fn
 have dq:aI.dg (D3 x y z) q:=by
  by_cases h0:iO n (aU L)=0
  . have:q=0:=by rw [<- hq];exact Ge.2 h0
    rw [this];exact aI.fQ _
  . rw [<- hq]
    exact (aI.factor _ _ _ h0 fd (Q9 n _)).1
 have Fq:Jw n x y z q:=⟨dq,aH nq (fM (by omega) (by omega))⟩;have nD:∀k,aI.nm (xX n k q)<=2^hb x y z:=fun k=>by
  refine aH (afD dq) (aH (ai (aH (alY hs k) (sA _)) nq) (fM (by omega) ?_));unfold hb;omega
 have e:∀{u:Nat},u<=2^hb x y z->u<=2^e6:=fun h=>aH h (fM (by decide) (by have:=PY hs;have:=FK;omega));rw [hq];exact MM n hn A m c L w hx hL q hq (D3 x y z) (fun j=>by have:=Vy hs j;omega) (by have:=uZ hn hs;omega) dq (fun g h0 hg=>e (Fq.dv hn hs h0 hg).nm) (fun k _=>e (nD k)) fun k g _ h0 hK=>Dj x y z hn hs hz g (xX n k q) (Fq.dv hn hs h0 hK.l).dg (VQ dq) (Fq.dv hn hs h0 hK.l).nm (nD k)
def GK (w:World) (n:Nat) (q:Pn n) (e:Ending) (w':World):Prop:=
 (q=0∧e=.returned (.tuple #[.slice none 0 0,.int .i64 8])∧Below w.heap.size w w')∨
 (q≠0∧∃g r r':Pn n,q=r*g∧IsK n n q g∧(r'=r∨r'= -r)∧o7 r'∧ou w n (mU n r') e w')
def MP (n:Nat) (hn:n<=3) (A:Option Addr) (m c:Nat) (w:World) (q:Pn n) (D:Nat->Nat) (hD:∀j,D j<=1000) (hV:aI.j6 (Pn n) D<=4096) (fit:∀g,q≠0->Dv g q->aI.dg D g∧aI.nm g<=2^e6) (cr:aC 32 #[.int .i64 (n:Int),.slice A m c] w (NW w n q)):
 aC 14 #[.int .i64 (n:Int),.slice A m c] w (GK w n q):=by
 have Cr:=aA cr;have fq:=aA fit;clear cr fit;go_enter func14,ntmps14
 go_wp2_with fail
 refine Cr.o.mono ?_;rintro e w1 (⟨h0,rfl,dH⟩ | ⟨h0,g,r,s,A1,k1,c1,B1,m1,d1,s',A2,k2,c2,B2,m2,d2,rfl,hq,hK,t1,t2,dH⟩)
 . have F:Hid (∀W,Below w1.heap.size w1 W->GK w n q (.returned (.tuple #[.slice none 0 0,.int .i64 8])) W):=fun W hW=> .inl ⟨h0,rfl,dH.tm hW⟩
   have ba:Hid (Below w1.heap.size w1 ((w1.alloc (.cells #[.bool false,.slice none 0 0,.slice none 0 0] 51)).alloc (.cells #[.bool false,.slice none 0 0,.slice none 0 0] 51))):=(aW.alloc aK _).alloc (by simp) _;clear dH Cr fq;unfold bG;go_wp2_with fail
   go_ret2;exact F.o _ ba.o
 . have ba:Below w1.heap.size w1 ((w1.alloc (.cells #[.bool s,.slice A1 k1 c1,.slice B1 m1 d1] 51)).alloc (.cells #[.bool s',.slice A2 k2 c2,.slice B2 m2 d2] 51)):=(aW.alloc aK _).alloc (by simp) _
   have BA:=aA (dH.tm ba);have Cc:Hid (∀W,Below w1.heap.size w1 W->aC 26 #[.int .i64 (n:Int),.agg #[.bool s,.slice A1 k1 c1,.slice B1 m1 d1]] W (yY W n r)):=fun W hW=>by
    obtain ⟨e1,e2⟩:=fq.o r h0 ⟨g,hq⟩;obtain ⟨C,hC⟩:∃C:Nat,10=C:=⟨_,rfl⟩;exact mright n C (by omega) (by omega) W _ r D (t1.aB hW) (aR e2 (rH (by decide) (by have:=FK;omega))) e1 hD (by have:=mF (pre:=[]) e1;omega)
   have HQ:=aA hq;have HK:=aA hK;have H0:=aA h0;have tA:=(aa.new w1 (.bool s) (.slice A1 k1 c1) (.slice B1 m1 d1)).aB (aW.alloc aK (.cells #[.bool s',.slice A2 k2 c2,.slice B2 m2 d2] 51));have a0:=tA.cell0;have a1:=tA.cell1;have a2:=tA.aP;have CC:=aA (Cc.o _ ba);clear t1 t2 dH Cr fq hq hK h0 tA ba;unfold bG;go_wp2_with fail
   refine CC.o.mono ?_;rintro e w2 ⟨r',Fb,hp,A3,c3,L3,rfl,p1,p2,p3,p4,p5,p6⟩;have F:Hid (GK w n q (.returned (.tuple #[.slice A3 L3.length c3,.int .i64 0])) w2):=.inr ⟨H0.o,g,r,r',HQ.o,HK.o,Fb,hp,A3,c3,L3,rfl,p1,p2,p3,p4,p5,BA.o.tm p6⟩;clear p3 p4 p5 p6 CC Cc;go_wp2_with fail
   go_ret2;exact F.o
def O3 (n x y z:Nat) (hn:n<=3) (hs:(x+1)*(y+1)*(z+1)<=20) (hz:n=2->z=0) (A:Option Addr) (m c:Nat) (L:List TV) (w:World) (hx:jM w A m L) (hL:Arg n 1000 L) (fd:aI.dg (D3 x y z) (iO n (aU L))) (fn:aI.nm (iO n (aU L))<=2^67):
 aC 14 #[.int .i64 (n:Int),.slice A m c] w (GK w n (Ua n (iO n (aU L)))):=
 MP n hn A m c w _ (D3 x y z) (fun j=>by have:=Vy hs j;omega) (by have:=uZ hn hs;omega) (fun r h0 hr=>by
  have F0:Jw n x y z (iO n (aU L)):=⟨fd,aH fn (fM (by omega) (by omega))⟩;have F1:=F0.dv hn hs (fun e=>h0 (Ge.2 e)) (hr.trans (Q9 n _));exact ⟨F1.dg,aH F1.nm (fM (by decide) (by have:=PY hs;have:=FK;omega))⟩) (Ot n x y z hn hs hz A m c L w hx hL fd fn)
def ua {t:TypeId} {E:List bA} {cs:Array Value}(h:w.heap[g]? =some (.cells cs t (0,0))) (hcs:cs.toList=aS E) (hE:E.length<=1000) (lH:∀x∈E,gL w x):jM w (some ⟨g,0,none⟩) E.length (E.map (·.2)):=by
 have hsz:cs.size=E.length*3:=by
  have h1:=fN List.length hcs;rw [mo,Vg] at h1;exact h1
 have ho:w.ownsRow 0 t 3 (.slice (some ⟨g,0,none⟩) E.length E.length) E.length (aS E):=⟨mo E,.inr ⟨g,E.length,cs,rfl,dc _,h,aK,by unfold maxLen;omega,hsz,by rw [hcs];exact gZ (by rw [mo];exact aK)⟩⟩;obtain ⟨B,d,hv,_,_,ht⟩:=kD ho rfl lH;injection hv with hv
 rw [<- hv] at ht;exact ht
def Jr (neg:Bool) (c x y:Int) (a b:Nat):bA:=(((some ⟨a,0,none⟩,1),(some ⟨b,0,none⟩,2)),((neg,[c]),[x,y]))
def Vw (w:World) (neg:Bool) (c x y:Int) (e:Ending) (w':World):Prop:=∃a b,e=.returned (.agg #[.bool neg,.slice (some ⟨a,0,none⟩) 1 1,.slice (some ⟨b,0,none⟩) 2 2])∧gL w' (Jr neg c x y a b)∧Below w.heap.size w w'
def rS (neg:Bool) (c x y:Int) (w:World) (hc:0<=c∧c<18446744073709551616) (hx:C7 x) (hy:C7 y):
 aC 24 #[.bool neg,.int .u64 c,.int .i64 x,.int .i64 y] w (Vw w neg c x y):=by
 have tr:=((JI.new 44 w (.bool neg) (.slice (some ⟨w.heap.size+1,0,none⟩) 1 1) (.slice (some ⟨w.heap.size+1+1,0,none⟩) 2 2)).aB (aW.alloc aK (.cells #[.int .u64 c] 38))).aB (aW.alloc aK (.cells #[.int .i64 x,.int .i64 y] 3));have rc:(((w.alloc (.cells #[.bool neg,.slice (some ⟨w.heap.size+1,0,none⟩) 1 1,.slice (some ⟨w.heap.size+1+1,0,none⟩) 2 2] 44)).alloc (.cells #[.int .u64 c] 38)).alloc (.cells #[.int .i64 x,.int .i64 y] 3)).cell? ⟨w.heap.size+1,0,none⟩=some (.int .u64 c):=by
  have h1:((w.alloc (.cells #[.bool neg,.slice (some ⟨w.heap.size+1,0,none⟩) 1 1,.slice (some ⟨w.heap.size+1+1,0,none⟩) 2 2] 44)).alloc (.cells #[.int .u64 c] 38)).heap[w.heap.size+1]? =some (.cells #[.int .u64 c] 38):=by
   have h:=bO (w.alloc (.cells #[.bool neg,.slice (some ⟨w.heap.size+1,0,none⟩) 1 1,.slice (some ⟨w.heap.size+1+1,0,none⟩) 2 2] 44)) (.cells #[.int .u64 c] 38);rwa [aJ] at h
  have h2:(((w.alloc (.cells #[.bool neg,.slice (some ⟨w.heap.size+1,0,none⟩) 1 1,.slice (some ⟨w.heap.size+1+1,0,none⟩) 2 2] 44)).alloc (.cells #[.int .u64 c] 38)).alloc (.cells #[.int .i64 x,.int .i64 y] 3)).heap[w.heap.size+1]? =some (.cells #[.int .u64 c] 38):=(Below.heap_alloc _ (.cells #[.int .i64 x,.int .i64 y] 3) _ (jf.1 h1).1).trans h1;rw [dA _ _ 0 _ _ (0,0) h2];rfl
 have rx:Row (((w.alloc (.cells #[.bool neg,.slice (some ⟨w.heap.size+1,0,none⟩) 1 1,.slice (some ⟨w.heap.size+1+1,0,none⟩) 2 2] 44)).alloc (.cells #[.int .u64 c] 38)).alloc (.cells #[.int .i64 x,.int .i64 y] 3)) (w.heap.size+1+1) 3 [x,y]:=by
  have h:=bO ((w.alloc (.cells #[.bool neg,.slice (some ⟨w.heap.size+1,0,none⟩) 1 1,.slice (some ⟨w.heap.size+1+1,0,none⟩) 2 2] 44)).alloc (.cells #[.int .u64 c] 38)) (.cells #[.int .i64 x,.int .i64 y] 3);rw [aJ,aJ] at h;exact h
 have hb:Below w.heap.size w (((w.alloc (.cells #[.bool neg,.slice (some ⟨w.heap.size+1,0,none⟩) 1 1,.slice (some ⟨w.heap.size+1+1,0,none⟩) 2 2] 44)).alloc (.cells #[.int .u64 c] 38)).alloc (.cells #[.int .i64 x,.int .i64 y] 3)):=((aW.alloc aK _).alloc (by simp) _).alloc (by simp;omega) _;have hsz:Hid (w.heap.size+1<(((w.alloc (.cells #[.bool neg,.slice (some ⟨w.heap.size+1,0,none⟩) 1 1,.slice (some ⟨w.heap.size+1+1,0,none⟩) 2 2] 44)).alloc (.cells #[.int .u64 c] 38)).alloc (.cells #[.int .i64 x,.int .i64 y] 3)).heap.size):=by
  show _<_;simp
 have F:Hid (Vw w neg c x y (.returned (.agg #[.bool neg,.slice (some ⟨w.heap.size+1,0,none⟩) 1 1,.slice (some ⟨w.heap.size+1+1,0,none⟩) 2 2])) (((w.alloc (.cells #[.bool neg,.slice (some ⟨w.heap.size+1,0,none⟩) 1 1,.slice (some ⟨w.heap.size+1+1,0,none⟩) 2 2] 44)).alloc (.cells #[.int .u64 c] 38)).alloc (.cells #[.int .i64 x,.int .i64 y] 3))):=by
  refine ⟨_,_,rfl,⟨aK,by show 1<=_;omega,aK,by show 2<=_;omega,⟨rfl,fun _=>⟨_,0,rfl,hsz.o,fun i hi=> ?_⟩,fun i=> ?_⟩,rx.ints fun i=> ?_⟩,hb⟩
  . have h1:[c].length=1:=rfl
    have e:i=0:=by
     have:i<1:=hi;omega
    rw [e];exact rc
  . match i with
    | 0=>exact hc
    | i+1=>show (0:Int)<=0∧(0:Int)<_;omega
  . match i with
    | 0=>exact hx
    | 1=>exact hy
    | i+2=>show C7 0;constructor<;>omega
 have TR:=aA tr;clear tr rc rx hb hsz;go_enter func24,ntmps24
 go_wp2_with fail
 exact ax (v:=.agg #[.bool neg,.slice (some ⟨w.heap.size+1,0,none⟩) 1 1,.slice (some ⟨w.heap.size+1+1,0,none⟩) 2 2]) (cI (fn:=Tryz.f24) rfl _ _ _ _ _ _ _ rfl TR.o underlying44 rfl J3) rfl F.o
def akO {M:Mv}(h:∀t∈M,(nth t.1 0).toNat<=x∧(nth t.1 1).toNat<=y∧t.1.length=2) (ha:bM M<=2^67):aI.dg (D3 x y 0) (iO 2 M)∧aI.nm (iO 2 M)<=2^67:=by
 refine ⟨Af 2 0 M _ fun t ht k=> ?_,aH (LY M) ha⟩;obtain ⟨h1,h2,h3⟩:=h t ht;rw [ct];match k with
 | 0=>exact h1
 | 1=>exact h2
 | k+2=>rw [cW (by omega)];exact dc _
def arg2 {L:List TV}(h:∀t∈L,t.2.length=2∧(∀x∈t.2,0<=x∧x<=1000)∧t.1.2.length<=1000) (hl:L.length<=4096):Arg 2 1000 L:=⟨fun t ht=>(h t ht).1,fun t ht=>(h t ht).2.1,fun t ht=>(h t ht).2.2,hl⟩
def fe {x:Int}(h:0<=x∧x<=1000):C7 x:=by constructor<;>omega
def exA:List TV:=[((false,[1]),[2,0]),((true,[1]),[0,2])]
def exB:List TV:=[((false,[1]),[2,0]),((false,[2]),[1,1]),((false,[1]),[0,2])]
def exC:List TV:=[((false,[4]),[2,1])]
def exG:List TV:=[((false,[1]),[1,0]),((false,[1]),[0,1])]
def exR:List TV:=[((false,[1]),[1,1])]
def SR:aU exA=aw1:=by decide
def SQ:aU exB=aw2:=by decide
def Ms:aU exC=[([2,1],4)]:=by decide
def akV:aU exG=Jt:=by decide
def akS:aU exR=[([1,1],1)]:=by decide
def C9 (c:Int) (h:0<c∧c<18446744073709551616):bW false [c] (aF false [c]):=by
 refine ⟨⟨fun i=> ?_,fun _=> ?_⟩,rfl,fun e=>by cases e⟩
 . match i with
   | 0=>exact ⟨by show 0<=c;omega,h.2⟩
   | i+1=>show (0:Int)<=0∧(0:Int)<_;omega
 . show c≠0
   omega
def akW:∀t∈exG,bW t.1.1 t.1.2 (aF t.1.1 t.1.2):=fun t ht=>by
 unfold exG at ht;rcases iV.1 ht with e | ht
 . rw [e];exact C9 1 (by omega)
 . rw [en.1 ht];exact C9 1 (by omega)
def akT:∀t∈exR,bW t.1.1 t.1.2 (aF t.1.1 t.1.2):=fun t ht=>by
 unfold exR at ht;rw [en.1 ht];exact C9 1 (by omega)
def M7 (w:World):aC 8 #[] w fun e w'=>e=.returned (.bool true)∧Below w.heap.size w w':=by
 have aqJ:Arg 2 1000 exA:=arg2 (by unfold exA;decide) (by unfold exA;decide);have aqI:Arg 2 1000 exB:=arg2 (by unfold exB;decide) (by unfold exB;decide);have aqH:Arg 2 1000 exC:=arg2 (by unfold exC;decide) (by unfold exC;decide);have fA:Fit 2 2 2 0 (iO 2 (aU exA)):=by
  have h:=akO (x:=2) (y:=2) (M:=aU exA) (by rw [SR];unfold aw1;decide) (by rw [SR];exact aH (show bM aw1<=2 by decide) (by decide));exact Jw.fit ⟨h.1,aH h.2 (fM (by omega) (by omega))⟩
 have fB:Fit 2 2 2 0 (iO 2 (aU exB)):=by
  have h:=akO (x:=2) (y:=2) (M:=aU exB) (by rw [SQ];unfold aw2;decide) (by rw [SQ];exact aH (show bM aw2<=4 by decide) (by decide));exact Jw.fit ⟨h.1,aH h.2 (fM (by omega) (by omega))⟩
 have fC:=akO (x:=2) (y:=1) (M:=aU exC) (by rw [Ms];decide) (by rw [Ms];exact aH (show bM [([2,1],4)]<=4 by decide) (by decide));have Cg:=aA (fun (A B:Option Addr) (W:World) (h1:jM W A 2 exA) (h2:jM W B 3 exB)=>Uy 2 2 2 0 (by omega) (by omega) (fun _=>rfl) A B 2 2 3 3 exA exB W h1 h2 aqJ aqI (by omega) (by omega) (by omega) (by omega) fA fB);have Cr:=aA (fun (A:Option Addr) (W:World) (h1:jM W A 1 exC)=>O3 2 2 1 0 (by omega) (by omega) (fun _=>rfl) A 1 1 exC W h1 aqH fC.1 fC.2);clear aqJ aqI aqH fA fB fC;go_enter func8,ntmps8
 obtain ⟨wo,rfl⟩:∃wo:World,wo=w:=⟨_,rfl⟩;have HB0:Hid (Below wo.heap.size wo wo):=aW;go_wp2_with fail
 refine (rS false 1 2 0 wo (by omega) (fe (by omega)) (fe (by omega))).mono ?_;rintro e v1 ⟨a1,b1,rfl,ok1,dH⟩;have zz:=aA (HB0.o.tm dH);have OK1:=aA ok1;clear ok1 dH;go_wp2_with fail
 refine (rS true 1 0 2 v1 (by omega) (fe (by omega)) (fe (by omega))).mono ?_;rintro e v2 ⟨a2,b2,rfl,ok2,cU⟩;have GI:=aA (zz.o.tm cU);have ahW:=aA (OK1.o.aB cU);clear OK1;have OK2:=aA ok2;clear ok2 cU;have bb3:Below v2.heap.size v2 (v2.alloc (.cells #[.bool false,.slice (some ⟨a1,0,none⟩) 1 1,.slice (some ⟨b1,0,none⟩) 2 2,.bool true,.slice (some ⟨a2,0,none⟩) 1 1,.slice (some ⟨b2,0,none⟩) 2 2] 44)):=aW.alloc aK _;have TA:Hid (jM (v2.alloc (.cells #[.bool false,.slice (some ⟨a1,0,none⟩) 1 1,.slice (some ⟨b1,0,none⟩) 2 2,.bool true,.slice (some ⟨a2,0,none⟩) 1 1,.slice (some ⟨b2,0,none⟩) 2 2] 44)) (some ⟨v2.heap.size,0,none⟩) 2 exA):=ua (E:=[Jr false 1 2 0 a1 b1,Jr true 1 0 2 a2 b2]) (bO v2 _) rfl (by show 2<=1000;omega) (fun x hx=>by
  simp only [iV,pE,FO] at hx;rcases hx with rfl | rfl
  . exact ahW.o.aB bb3
  . exact OK2.o.aB bb3)
 clear ahW;clear OK2;have HB3:=aA (GI.o.tm bb3);go_wp2_with fail
 generalize hw3:v2.alloc (.cells #[.bool false,.slice (some ⟨a1,0,none⟩) 1 1,.slice (some ⟨b1,0,none⟩) 2 2,.bool true,.slice (some ⟨a2,0,none⟩) 1 1,.slice (some ⟨b2,0,none⟩) 2 2] 44)=v3 at*
 clear hw3 bb3;go_wp2_with fail
 refine (rS false 1 2 0 v3 (by omega) (fe (by omega)) (fe (by omega))).mono ?_;rintro e v4 ⟨a4,b4,rfl,ok4,vW⟩;have HB4:=aA (HB3.o.tm vW);have aqS:=aA (TA.o.aB vW);clear TA;have OK4:=aA ok4;clear ok4 vW;go_wp2_with fail
 refine (rS false 2 1 1 v4 (by omega) (fe (by omega)) (fe (by omega))).mono ?_;rintro e v5 ⟨a5,b5,rfl,ok5,xW⟩;have HB5:=aA (HB4.o.tm xW);have aqR:=aA (aqS.o.aB xW);clear aqS;have ahV:=aA (OK4.o.aB xW);clear OK4;have OK5:=aA ok5;clear ok5 xW;go_wp2_with fail
 refine (rS false 1 0 2 v5 (by omega) (fe (by omega)) (fe (by omega))).mono ?_;rintro e v6 ⟨a6,b6,rfl,ok6,iZ⟩;have HB6:=aA (HB5.o.tm iZ);have aqQ:=aA (aqR.o.aB iZ);clear aqR;have ahU:=aA (ahV.o.aB iZ);clear ahV;have ahT:=aA (OK5.o.aB iZ);clear OK5;have OK6:=aA ok6;clear ok6 iZ;have bb7:Below v6.heap.size v6 (v6.alloc (.cells #[.bool false,.slice (some ⟨a4,0,none⟩) 1 1,.slice (some ⟨b4,0,none⟩) 2 2,.bool false,.slice (some ⟨a5,0,none⟩) 1 1,.slice (some ⟨b5,0,none⟩) 2 2,.bool false,.slice (some ⟨a6,0,none⟩) 1 1,.slice (some ⟨b6,0,none⟩) 2 2] 44)):=aW.alloc aK _;have TB:Hid (jM (v6.alloc (.cells #[.bool false,.slice (some ⟨a4,0,none⟩) 1 1,.slice (some ⟨b4,0,none⟩) 2 2,.bool false,.slice (some ⟨a5,0,none⟩) 1 1,.slice (some ⟨b5,0,none⟩) 2 2,.bool false,.slice (some ⟨a6,0,none⟩) 1 1,.slice (some ⟨b6,0,none⟩) 2 2] 44)) (some ⟨v6.heap.size,0,none⟩) 3 exB):=ua (E:=[Jr false 1 2 0 a4 b4,Jr false 2 1 1 a5 b5,Jr false 1 0 2 a6 b6]) (bO v6 _) rfl (by show 3<=1000;omega) (fun x hx=>by
  simp only [iV,pE,FO] at hx;rcases hx with rfl | rfl | rfl
  . exact ahU.o.aB bb7
  . exact ahT.o.aB bb7
  . exact OK6.o.aB bb7)
 clear ahU;clear ahT;clear OK6;have HB7:=aA (HB6.o.tm bb7);have aqP:=aA (aqQ.o.aB bb7);clear aqQ;go_wp2_with fail
 generalize hw7:v6.alloc (.cells #[.bool false,.slice (some ⟨a4,0,none⟩) 1 1,.slice (some ⟨b4,0,none⟩) 2 2,.bool false,.slice (some ⟨a5,0,none⟩) 1 1,.slice (some ⟨b5,0,none⟩) 2 2,.bool false,.slice (some ⟨a6,0,none⟩) 1 1,.slice (some ⟨b6,0,none⟩) 2 2] 44)=v7 at*
 clear hw7 bb7;refine (Cg.o _ _ v7 aqP.o TB.o).mono ?_;rintro e v8 ⟨g,hg,hp,Ag,cg,Lg,rfl,g1,g2,g3,g4,g5,g6⟩;have eg:Lg=exG:=by
  have h1:g=iO 2 Jt:=by
   rw [SR,SQ] at hg;exact alB.one hg afS hp
  have h2:aU Lg=aU exG:=by
   rw [akV,<- LA,<- h1];exact g4.mv.unique (dQ 2 g) g5
  exact Fs g4.co akW h2
 subst eg;have HB8:=aA (HB7.o.tm g6);have TG:=aA g3;clear hg hp g1 g2 g3 g4 g5 g6 Cg aqP TB;go_wp2_with fail
 refine (rS false 4 2 1 v8 (by omega) (fe (by omega)) (fe (by omega))).mono ?_;rintro e v9 ⟨a9,b9,rfl,ok9,Fh⟩;have Xv:=aA (HB8.o.tm Fh);have aqO:=aA (TG.o.aB Fh);clear TG;have OK9:=aA ok9;clear ok9 Fh;have afR:Below v9.heap.size v9 (v9.alloc (.cells #[.bool false,.slice (some ⟨a9,0,none⟩) 1 1,.slice (some ⟨b9,0,none⟩) 2 2] 44)):=aW.alloc aK _;have TC:Hid (jM (v9.alloc (.cells #[.bool false,.slice (some ⟨a9,0,none⟩) 1 1,.slice (some ⟨b9,0,none⟩) 2 2] 44)) (some ⟨v9.heap.size,0,none⟩) 1 exC):=ua (E:=[Jr false 4 2 1 a9 b9]) (bO v9 _) rfl (by show 1<=1000;omega) (fun x hx=>by
  simp only [iV,pE,FO] at hx;rcases hx with rfl
  . exact OK9.o.aB afR)
 clear OK9;have agp:=aA (Xv.o.tm afR);have ahR:=aA (aqO.o.aB afR);clear aqO;go_wp2_with fail
 generalize avc:v9.alloc (.cells #[.bool false,.slice (some ⟨a9,0,none⟩) 1 1,.slice (some ⟨b9,0,none⟩) 2 2] 44)=v10 at*
 clear avc afR;refine (Cr.o _ v10 TC.o).mono ?_;rintro e v11 (⟨h0,_,_⟩ | ⟨h0,g,r,r',hq,hK,hr,hp,Ar,cr,Lr,rfl,g1,g2,g3,g4,g5,g6⟩)
 . exfalso
   rw [Ms] at h0;have h1:iO 2 [([2,1],4)]=V 2 1 4:=Eh 2 1 4;rw [h1] at h0;exact aqM (by omega) (Ge.1 h0)
 have er:Lr=exR:=by
  rw [Ms] at hq hK;have h1:iO 2 [([2,1],4)]=V 2 1 4:=Eh 2 1 4;rw [h1] at hq hK;have h2:=alA hq hK hr hp;have h3:aU Lr=aU exR:=by
   rw [akS];have h4:=yV (i:=1) (j:=1) (c:=1) (by omega);rw [<- h2] at h4;exact (g4.mv.unique (dQ 2 r') g5).trans h4
  exact Fs g4.co akT h3
 subst er;have ago:=aA (agp.o.tm g6);have TR:=aA g3;have ahQ:=aA (ahR.o.aB g6);clear h0 hq hK hr hp g1 g2 g3 g4 g5 g6 Cr TC ahR;go_wp2_with fail
 refine (rS false 1 1 0 v11 (by omega) (fe (by omega)) (fe (by omega))).mono ?_;rintro e v12 ⟨a12,b12,rfl,anA,Jq⟩;have aAv:=aA (ago.o.tm Jq);have ahP:=aA (ahQ.o.aB Jq);clear ahQ;have ahM:=aA (TR.o.aB Jq);clear TR;have aqW:=aA anA;clear anA Jq;go_wp2_with fail
 refine (rS false 1 0 1 v12 (by omega) (fe (by omega)) (fe (by omega))).mono ?_;rintro e v13 ⟨a13,b13,rfl,anz,Bn⟩;have aAu:=aA (aAv.o.tm Bn);have ahO:=aA (ahP.o.aB Bn);clear ahP;have ahL:=aA (ahM.o.aB Bn);clear ahM;have Vo:=aA (aqW.o.aB Bn);clear aqW;have aqV:=aA anz;clear anz Bn;have Xp:Below v13.heap.size v13 (v13.alloc (.cells #[.bool false,.slice (some ⟨a12,0,none⟩) 1 1,.slice (some ⟨b12,0,none⟩) 2 2,.bool false,.slice (some ⟨a13,0,none⟩) 1 1,.slice (some ⟨b13,0,none⟩) 2 2] 44)):=aW.alloc aK _;have T1:Hid (jM (v13.alloc (.cells #[.bool false,.slice (some ⟨a12,0,none⟩) 1 1,.slice (some ⟨b12,0,none⟩) 2 2,.bool false,.slice (some ⟨a13,0,none⟩) 1 1,.slice (some ⟨b13,0,none⟩) 2 2] 44)) (some ⟨v13.heap.size,0,none⟩) 2 exG):=ua (E:=[Jr false 1 1 0 a12 b12,Jr false 1 0 1 a13 b13]) (bO v13 _) rfl (by show 2<=1000;omega) (fun x hx=>by
  simp only [iV,pE,FO] at hx;rcases hx with rfl | rfl
  . exact Vo.o.aB Xp
  . exact aqV.o.aB Xp)
 clear Vo;clear aqV;have agn:=aA (aAu.o.tm Xp);have ahN:=aA (ahO.o.aB Xp);clear ahO;have ahK:=aA (ahL.o.aB Xp);clear ahL;go_wp2_with fail
 generalize avb:v13.alloc (.cells #[.bool false,.slice (some ⟨a12,0,none⟩) 1 1,.slice (some ⟨b12,0,none⟩) 2 2,.bool false,.slice (some ⟨a13,0,none⟩) 1 1,.slice (some ⟨b13,0,none⟩) 2 2] 44)=v14 at*
 clear avb Xp;refine (MQ _ _ 2 _ _ exG v14 ahN.o T1.o (by omega)).mono ?_;rintro e v15 ⟨rfl,akt⟩;have aAt:=aA (agn.o.tm akt);clear ahN T1;have ahJ:=aA (ahK.o.aB akt);clear ahK;clear akt;go_wp2_with fail
 refine (rS false 1 1 1 v15 (by omega) (fe (by omega)) (fe (by omega))).mono ?_;rintro e v16 ⟨a16,b16,rfl,anx,aks⟩;have aAs:=aA (aAt.o.tm aks);have ahI:=aA (ahJ.o.aB aks);clear ahJ;have aqU:=aA anx;clear anx aks;have afQ:Below v16.heap.size v16 (v16.alloc (.cells #[.bool false,.slice (some ⟨a16,0,none⟩) 1 1,.slice (some ⟨b16,0,none⟩) 2 2] 44)):=aW.alloc aK _;have T2:Hid (jM (v16.alloc (.cells #[.bool false,.slice (some ⟨a16,0,none⟩) 1 1,.slice (some ⟨b16,0,none⟩) 2 2] 44)) (some ⟨v16.heap.size,0,none⟩) 1 exR):=ua (E:=[Jr false 1 1 1 a16 b16]) (bO v16 _) rfl (by show 1<=1000;omega) (fun x hx=>by
  simp only [iV,pE,FO] at hx;rcases hx with rfl
  . exact aqU.o.aB afQ)
 clear aqU;have aAr:=aA (aAs.o.tm afQ);have ahH:=aA (ahI.o.aB afQ);clear ahI;go_wp2_with fail
 generalize ava:v16.alloc (.cells #[.bool false,.slice (some ⟨a16,0,none⟩) 1 1,.slice (some ⟨b16,0,none⟩) 2 2] 44)=v17 at*
 clear ava afQ;refine (MQ _ _ 1 _ _ exR v17 ahH.o T2.o (by omega)).mono ?_;rintro e v18 ⟨rfl,apK⟩;have aAq:=aA (aAr.o.tm apK);clear ahH T2;clear apK;go_wp2_with fail
 go_ret;exact ⟨rfl,aAq.o⟩
def aez {q:Pn n}(hn:n<=3) (hs:(x+1)*(y+1)*(z+1)<=20) (dq:aI.dg (D3 x y z) q):(mU n q).length<=20:=by
 unfold mU;rw [S8];exact aH (mF dq) (uZ hn hs)
def YT {places:Int} {Ls:Nat->List TV}(pl:Nat) (th:places<=(pl:Int)) (h:Sml nn most places m Ls) (hm:0<m) (hmo:most<=7):∃n x y z:Nat,nn=(n:Int)∧n<=3∧(x+1)*(y+1)*(z+1)<=pl∧(n=2->z=0)∧∀k,k<m->(∀t∈Ls k,aQ t.1.2)->Arg n 1000 (Ls k)∧aI.dg (D3 x y z) (iO n (aU (Ls k)))∧aI.nm (iO n (aU (Ls k)))<=2^67:=by
 obtain ⟨h3,hL,ds,hd,hc,hp⟩:=h;have hn0:0<=nn:=(hL 0 hm).2.1.1;obtain ⟨n,rfl⟩:∃n:Nat,nn=(n:Int):=⟨nn.toNat,by omega⟩;have d0:=hd 0;have d1:=hd 1;have d2:=hd 2;have d3:=hd 3;have aou:((nth ds 0).toNat+1)*((nth ds 1).toNat+1)*((nth ds 2).toNat+1)<=pl:=by
  have e0:mP ds 3=(((((nth ds 0).toNat+1)*((nth ds 1).toNat+1)*((nth ds 2).toNat+1):Nat)):Int):=by
   show 1*(nth ds 0+1)*(nth ds 1+1)*(nth ds 2+1)=_;rw [sq,sq,I6,show (((nth ds 0).toNat+1:Nat):Int)=nth ds 0+1 by omega,show (((nth ds 1).toNat+1:Nat):Int)=nth ds 1+1 by omega,show (((nth ds 2).toNat+1:Nat):Int)=nth ds 2+1 by omega]
  have e1:mP ds 3<=mP ds 4:=by
   have h1:=DK hd 3;have h2:mP ds 3*1<=mP ds 3*(nth ds 3+1):=TW (by omega) (by omega);show _<=mP ds 3*(nth ds 3+1);omega
  omega
 refine ⟨n,(nth ds 0).toNat,(nth ds 1).toNat,if n=2 then 0 else (nth ds 2).toNat,rfl,by omega,?_,fun e=>aM e,fun k hk aat=> ?_⟩
 . refine aH (bl _ ?_) aou
   split<;>omega
 . obtain ⟨l1,l2,l3⟩:=hL k hk
   have hlen:∀t∈Ls k,t.2.length=n:=fun t ht=>by
    obtain ⟨i,hi,rfl⟩:=vq.1 ht;have:=(l2.2.2.2 i hi).1;omega
   have hE:∀t∈Ls k,∀u∈t.2,0<=u∧u<=1000:=fun t ht u hu=>by
    obtain ⟨i,hi,rfl⟩:=vq.1 ht;obtain ⟨j,hj,hj2⟩:=vq.1 hu;have h9:=(l2.2.2.2 i hi).2 j hj;rw [gJ hj,hj2] at h9;exact h9
   refine ⟨⟨hlen,hE,fun t ht=>by have:=l3 t ht;omega,l2.2.2.1⟩,Af n 0 _ _ fun t ht j=> ?_,?_⟩
   . obtain ⟨s,wO,rfl⟩:=aj.1 ht
     rw [ct];have hcv:=hc k hk s wO j;show (nth s.2 j).toNat<=_;have hls:=hlen s wO;match j with
     | 0=>show (nth s.2 0).toNat<=(nth ds 0).toNat;omega
     | 1=>show (nth s.2 1).toNat<=(nth ds 1).toNat;omega
     | 2=>
       show (nth s.2 2).toNat<=if n=2 then 0 else (nth ds 2).toNat
       split
       . rw [cW (by omega)];exact Nat.le_refl 0
       . omega
     | j+3=>rw [cW (by omega)];exact dc _
   . refine aH (LY _) ?_
     have h1:bM (aU (Ls k))<=(aU (Ls k)).length*2^64:=CJ fun t ht=>by
      obtain ⟨s,wO,rfl⟩:=aj.1 ht;have h2:=Kk s.1.1 (aat s wO) (l3 s wO);exact nK h2
     rw [bE] at h1;(have h2:(Ls k).length<=7:=by omega);exact aH h1 (aH (bI _ h2) (by decide))
def adC {Ls:Nat->List TV}(h:Sml nn most 20 m Ls) (hm:0<m) (hmo:most<=7):∃n x y z:Nat,nn=(n:Int)∧n<=3∧(x+1)*(y+1)*(z+1)<=20∧(n=2->z=0)∧∀k,k<m->(∀t∈Ls k,aQ t.1.2)->Arg n 1000 (Ls k)∧aI.dg (D3 x y z) (iO n (aU (Ls k)))∧aI.nm (iO n (aU (Ls k)))<=2^67:=YT 20 (Ix _) h hm hmo
def OA (n:Nat) (hn:n<=6) (A:Option Addr) (m c:Nat) (L:List TV) (w:World) (hx:jM w A m L) (h:Arg n 1000 L) (ha:bM (aU L)<2^(64*2000)):aC 30 #[.slice A m c] w (oA w 0 n (iO n (aU L))):=by
 have hl:=hx.len;have hc:=h.cnt;refine (OO n 1000 2000 A m c L w hx h.len h.co (by omega) (by omega) ha (by omega) (by omega)).mono ?_;rintro e w1 ⟨A1,c1,T,rfl,z1,z2,z3,z4,z5,z6⟩;have nn:tP (aU L):=fun t ht u hu=>(h.YE t ht u hu).1;have nt:tP (aU T):=fun t ht u hu=>(z4.mv.bd z5 h.YE t ht u hu).1;have e1:aU T=mU n (iO n (aU L)):=lQ z4.mv nt (GM z4.mv.len nt h.O7 nn z5);refine ⟨_,rfl,⟨A1,c1,T,rfl,z1,z2,z3,by rw [ct];exact z4,?_⟩,z6⟩;unfold iI;rw [Ns];exact e1
def aiI (n x y z:Nat) (hn:n<=3) (hs:(x+1)*(y+1)*(z+1)<=20) (hz:n=2->z=0) (A B:Option Addr) (ma ca mb cb:Nat) (L1 L2:List TV) (w:World) (hx:jM w A ma L1) (hy:jM w B mb L2) (h1:Arg n 1000 L1) (h2:Arg n 1000 L2)
 (a1:bM (aU L1)<2^(64*2000)) (a2:bM (aU L2)<2^(64*2000)) (f1:Fit n x y z (iO n (aU L1))) (f2:Fit n x y z (iO n (aU L2))):
 aC 12 #[.int .i64 (n:Int),.slice A ma ca,.slice B mb cb] w (JT w n (iO n (aU L1)) (iO n (aU L2))):=by
 have c1:Hid (aC 9 #[.int .i64 (n:Int),.slice A ma ca] w fun e w'=>e=.returned (.int .i64 0)∧w'=w):=(sO n A ma ca L1 w hx).mono fun e w' h=>by
  obtain ⟨h3,h4⟩:=h;rw [qF (zj h1 (by omega))] at h3;exact ⟨h3,h4.symm⟩
 have c2:Hid (aC 9 #[.int .i64 (n:Int),.slice B mb cb] w fun e w'=>e=.returned (.int .i64 0)∧w'=w):=(sO n B mb cb L2 w hy).mono fun e w' h=>by
  obtain ⟨h3,h4⟩:=h;rw [qF (zj h2 (by omega))] at h3;exact ⟨h3,h4.symm⟩
 have p1:=aA (OA n (by omega) A ma ca L1 w hx h1 a1);have p2:Hid (∀W,Below w.heap.size w W->aC 30 #[.slice B mb cb] W (oA W 0 n (iO n (aU L2)))):=fun W hW=>OA n (by omega) B mb cb L2 W (hy.aB hW) h2 a2;have ok:wM n (iO n (aU L1)) (iO n (aU L2)):=Dj x y z hn hs hz _ _ f1.dg f2.dg f1.nm f2.nm;have cc:Hid (∀W u v,Rw W u 0 n (iO n (aU L1))->Rw W v 0 n (iO n (aU L2))->aC 29 #[u,v,.int .i64 0,.int .i64 (n:Int)] W (fun e w'=>∃g,nL g (iO n (aU L1)) (iO n (aU L2))∧o7 g∧oA W 0 n g e w')):=fun W u v k1 k2=>ok.2 0 n W u v (ct n) (by omega) k1 k2;have cf:Hid (∀W A9 c9 T g,nL g (iO n (aU L1)) (iO n (aU L2))->jM W A9 T.length T->eP n T->aU T=mU n g->aC 9 #[.int .i64 (n:Int),.slice A9 T.length c9] W fun e w'=>e=.returned (.int .i64 0)∧w'=W):=fun W A9 c9 T g hg hT hP eT=>by
  obtain ⟨d1,d2⟩:=MW f1 f2 hn hs hg;refine (sO n A9 T.length c9 T W hT).mono fun e w' h=> ?_;obtain ⟨h3,h4⟩:=h;rw [qF (zj (afT hn hs hP eT d1 d2) (by omega))] at h3;exact ⟨h3,h4.symm⟩
 clear hx hy h1 h2 a1 a2 f1 f2 ok;generalize iO n (aU L1)=a at*
 generalize iO n (aU L2)=b at*
 go_enter func12,ntmps12
 obtain ⟨wo,rfl⟩:∃wo:World,wo=w:=⟨_,rfl⟩;go_wp2_with fail
 refine c1.o.mono ?_;rintro e w1 ⟨rfl,h9⟩;obtain rfl:=h9.symm;go_wp2_with fail
 refine c2.o.mono ?_;rintro e w2 ⟨rfl,h9⟩;obtain rfl:=h9.symm;go_wp2_with fail
 refine p1.o.mono ?_;rintro e w3 ⟨u,rfl,r3,b3⟩;have P2:=aA (p2.o w3 b3);have R3:=aA r3;have B3:=aA b3;clear r3 b3 p1 p2 c1 c2;go_wp2_with fail
 refine P2.o.mono ?_;rintro e w4 ⟨v,rfl,r4,b4⟩;have C:=aA (cc.o w4 u v (R3.o.aB b4) r4);have B4:=aA (eC B3.o b4);clear r4 b4 R3 B3 P2 cc;go_wp2_with fail
 refine C.o.mono ?_;rintro e w5 ⟨g,hg,hp,v5,rfl,⟨A5,k5,T5,rfl,z1,z2,z3,z4,z5⟩,b5⟩;rw [ct] at z4;have e5:aU T5=mU n g:=by
  rw [z5];unfold iI;rw [Ns]
 have CF:=aA (cf.o w5 A5 k5 T5 g hg z3 z4 e5);have F:Hid (JT wo n a b (.returned (.tuple #[.slice A5 T5.length k5,.int .i64 0])) w5):=⟨g,hg,hp,A5,k5,T5,rfl,z1,z2,z3,z4,by rw [e5];exact jR.refl _ _,eC B4.o b5⟩;clear hg hp z3 z4 z5 e5 b5 C cf B4;go_wp2_with fail
 refine CF.o.mono ?_;rintro e w6 ⟨rfl,h9⟩;obtain rfl:=h9.symm;go_wp2_with fail
 go_ret2;exact F.o
def JU (w:World) (e:Ending) (w':World):Prop:=∃A n c,e=.returned (.tuple #[.slice A n c,.int .i64 1])∧Below w.heap.size w w'
def aep (n:Int) (A B:Option Addr) (ma ca mb cb:Nat) (L1 L2:List TV) (w:World) (hx:jM w A ma L1) (hy:jM w B mb L2) (h:¬Ja n L1∨¬Ja n L2):
 aC 10 #[.int .i64 n,.slice A ma ca,.slice B mb cb] w (JU w):=by
 have c1:=aA (RX n A ma ca L1 w hx);have c2:=aA (fun W (hW:Below w.heap.size w W)=>RX n B mb cb L2 W (hy.aB hW));clear hx hy;by_cases h1:Ja n L1
 . have h2:=h.resolve_left (fun e=>e h1)
   rw [qF h1] at c1;have c2':Hid (∀W,Below w.heap.size w W->aC 25 #[.int .i64 n,.slice B mb cb] W fun e w'=>e=.returned (.int .i64 1)∧Below W.heap.size W w'):=fun W hW=>by
    have h:=c2.o W hW;rwa [vZ h2] at h
   clear c2 h h1 h2;go_enter func10,ntmps10
   go_wp2_with fail
   refine c1.o.mono ?_;rintro e w1 ⟨rfl,dH⟩;have C2:=aA (c2'.o w1 dH);have B1:=aA dH;clear dH c1 c2';go_wp2_with fail
   refine C2.o.mono ?_;rintro e w2 ⟨rfl,cU⟩;have F:Hid (JU w (.returned (.tuple #[.slice none 0 0,.int .i64 1])) w2):=⟨none,0,0,rfl,eC B1.o cU⟩;clear cU;go_wp2_with fail
   go_ret2;exact F.o
 . rw [vZ h1] at c1
   clear c2 h h1;go_enter func10,ntmps10
   go_wp2_with fail
   refine c1.o.mono ?_;rintro e w1 ⟨rfl,dH⟩;have F:Hid (JU w (.returned (.tuple #[.slice none 0 0,.int .i64 1])) w1):=⟨none,0,0,rfl,dH⟩;clear dH c1;go_wp2_with fail
   go_ret2;exact F.o
def RZ (n most:Int) (g c:Nat) (A B:Option Addr) (m1 m2 c1 c2:Nat) (L M:List TV) (w:World) (hg:g<w.heap.size) (q0:w.cell? ⟨g,0,none⟩=some (.slice A m1 c1)) (q1:w.cell? ⟨g,1,none⟩=some (.slice B m2 c2)) (hx:jM w A m1 L) (hy:jM w B m2 M) (h1:m1<=9223372036854775807) (h2:m2<=9223372036854775807):
 aC 11 #[.int .i64 n,.int .i64 most,.int .i64 20,.slice (some ⟨g,0,none⟩) 2 c] w (jZ w n most 20 2 (fun k=>if k=0 then L else M)):=
 Zn n most 20 g 2 c (fun k=>if k=0 then A else B) (fun k=>if k=0 then m1 else m2) (fun k=>if k=0 then c1 else c2) (fun k=>if k=0 then L else M) w (by omega) (by omega) hg (fun k hk=>by
  match k,hk with
  | 0,_=>exact ⟨q0,hx,h1⟩
  | 1,_=>exact ⟨q1,hy,h2⟩
  | k+2,hk=>omega)
def Va {C:Nat} {L:List TV}(h:Arg n C L) (hl:∀t∈L,aQ t.1.2) (hC:∀t∈L,t.1.2.length<=1):bM (aU L)<2^(64*2000):=by
 have key:∀M:List TV,(∀t∈M,aQ t.1.2)->(∀t∈M,t.1.2.length<=1)->bM (aU M)<=M.length*2^64:=fun M=>by
  induction M with
  | nil=>intro _ _;exact dc _
  | cons t M ih=>
    intro k1 k2;have i:=ih (fun s hs=>k1 s (bn _ hs)) (fun s hs=>k2 s (bn _ hs));have h1:=eH (k1 t ay);have h2:=k2 t ay;have h3:2^(64*t.1.2.length)<=2^64:=fM (by omega) (by omega);(have h4:(aF t.1.1 t.1.2).natAbs=limbs t.1.2:=by unfold aF;split<;>simp);show (aF t.1.1 t.1.2).natAbs+bM (aU M)<=(M.length+1)*2^64;rw [h4,bQ,bP];omega
 have h1:=key L hl hC;have h2:=h.cnt;obtain ⟨E,hE⟩:∃E:Nat,2000=E:=⟨_,rfl⟩;rw [hE];have h3:(2:Nat)^(12+64+1)<=2^(64*E):=fM (by omega) (by omega);have h4:L.length*2^64<=4096*2^64:=bI _ h2;have h5:(4096:Nat)*2^64<2^(12+64+1):=by decide
 omega
def MU (a0:Int) (A1:Option Addr) (m1 c1:Nat) (L1:List TV) (A2:Option Addr) (m2 c2:Nat) (L2:List TV) (w:World) (lo0: -9223372036854775808<=a0) (uA:a0<=9223372036854775807)
 (w1:jM w A1 m1 L1) (h1:m1<=c1) (k1:c1<=9223372036854775807) (w2:jM w A2 m2 L2) (h2:m2<=c2) (k2:c2<=9223372036854775807):
 aC 3 #[.int .i64 a0,.slice A1 m1 c1,.slice A2 m2 c2] w fun e w'=>e=.returned (.bool true)∧Below w.heap.size w w':=by
 have Ta:=aA w1;have Tb:=aA w2;clear w1 w2;by_cases lH:Ja a0 L1∧Ja a0 L2
 . have ck1:Hid (∀W,Below w.heap.size w W->aC 9 #[.int .i64 a0,.slice A1 m1 c1] W fun e w'=>e=.returned (.int .i64 0)∧w'=W):=fun W hW=>(sO a0 A1 m1 c1 L1 W (Ta.o.aB hW)).mono fun e w' h=>by
    obtain ⟨h3,h4⟩:=h;rw [qF lH.1] at h3;exact ⟨h3,h4.symm⟩
   have ck2:Hid (∀W,Below w.heap.size w W->aC 9 #[.int .i64 a0,.slice A2 m2 c2] W fun e w'=>e=.returned (.int .i64 0)∧w'=W):=fun W hW=>(sO a0 A2 m2 c2 L2 W (Tb.o.aB hW)).mono fun e w' h=>by
    obtain ⟨h3,h4⟩:=h;rw [qF lH.2] at h3;exact ⟨h3,h4.symm⟩
   clear lH;go_enter func3,ntmps3
   obtain ⟨wo,rfl⟩:∃wo:World,wo=w:=⟨_,rfl⟩;go_wp2_with fail
   refine (M7 wo).mono ?_;rintro e wa ⟨rfl,pK⟩;have K1:=aA (ck1.o wa pK);have K2:=aA (ck2.o wa pK);have ba:Below wa.heap.size wa (wa.alloc (.cells #[.slice A1 m1 c1,.slice A2 m2 c2] 22)):=aW.alloc aK _;have hq:=bO wa (.cells #[.slice A1 m1 c1,.slice A2 m2 c2] 22);have hsz:wa.heap.size<(wa.alloc (.cells #[.slice A1 m1 c1,.slice A2 m2 c2] 22)).heap.size:=by simp
   have HB:=aA (pK.tm ba);have q0:(wa.alloc (.cells #[.slice A1 m1 c1,.slice A2 m2 c2] 22)).cell? ⟨wa.heap.size,0,none⟩=some (.slice A1 m1 c1):=by
    rw [dA _ _ 0 _ _ (0,0) hq];rfl
   have q1:(wa.alloc (.cells #[.slice A1 m1 c1,.slice A2 m2 c2] 22)).cell? ⟨wa.heap.size,1,none⟩=some (.slice A2 m2 c2):=by
    rw [dA _ _ 1 _ _ (0,0) hq];rfl
   have Cs:=aA (RZ a0 7 wa.heap.size 2 A1 A2 m1 m2 c1 c2 L1 L2 _ hsz q0 q1 (Ta.o.aB HB.o) (Tb.o.aB HB.o) (by omega) (by omega));clear ba hq hsz q0 q1 pK ck1 ck2;go_wp2_with fail
   refine K1.o.mono ?_;rintro e wx ⟨rfl,h9⟩;obtain rfl:=h9.symm;go_wp2_with fail
   refine K2.o.mono ?_;rintro e wx ⟨rfl,h9⟩;obtain rfl:=h9.symm;clear K1 K2;go_wp2_with fail
   generalize hwb:wa.alloc (.cells #[.slice A1 m1 c1,.slice A2 m2 c2] 22)=wb at*
   clear hwb;refine Cs.o.mono ?_;rintro e wc ⟨bb,rfl,hbc,hsm⟩;have HC:=aA (HB.o.tm hbc);have Hs:=aA hsm;clear hbc hsm Cs HB;cases bb with
   | false=>
     (go_wp2_with fail);go_ret;exact ⟨rfl,HC.o⟩
   | true=>
     have uu:=(Hs.o rfl).2.1;have o1:=(uu 0 (by omega)).2.2;have o2:=(uu 1 (by omega)).2.2;simp only [rJ,Nat.one_ne_zero,vr] at o1 o2;obtain ⟨n,x,y,z,hn0,hn,hs,hz,Mi⟩:=adC (Hs.o rfl) (by omega) (by omega);subst hn0;have f1:=Mi 0 (by omega) (pH Ta.o);have f2:=Mi 1 (by omega) (pH Tb.o);simp only [rJ,Nat.one_ne_zero,vr] at f1 f2;obtain ⟨ar1,dg1,nm1⟩:=f1;obtain ⟨ar2,dg2,nm2⟩:=f2;have F1:=aA (show Jw n x y z (iO n (aU L1)) from ⟨dg1,aH nm1 (fM (by omega) (by omega))⟩);have F2:=aA (show Jw n x y z (iO n (aU L2)) from ⟨dg2,aH nm2 (fM (by omega) (by omega))⟩);have AR1:=aA ar1;have AR2:=aA ar2;have HS:=aA hs;have HZ:=aA hz;have AB1:=aA (Va ar1 (pH Ta.o) o1);have AB2:=aA (Va ar2 (pH Tb.o) o2);clear Mi Hs dg1 nm1 dg2 nm2 ar1 ar2 hz uu o1 o2;have G1:=aA (Uy n x y z hn hs HZ.o A1 A2 m1 c1 m2 c2 L1 L2 wc (Ta.o.aB HC.o) (Tb.o.aB HC.o) AR1.o AR2.o h1 k1 h2 k2 F1.o.fit F2.o.fit);(go_wp2_with fail);refine G1.o.mono ?_;rintro e wd ⟨g,hg,pg,Ag,cg,Lg,rfl,g1,g2,g3,g4,g5,g6⟩;have Eg:Hid (aU Lg=mU n g):=g4.mv.unique (dQ n g) g5;have Tg:=aA g3;have Pg:=aA g4;have Hg:=aA hg;have Sg:=aA pg;have HD:=aA (HC.o.tm g6);clear hg pg g3 g4 g5 g6 G1;have G2:=aA (aiI n x y z hn hs HZ.o A1 A2 m1 c1 m2 c2 L1 L2 wd (Ta.o.aB HD.o) (Tb.o.aB HD.o) AR1.o AR2.o AB1.o AB2.o F1.o.fit F2.o.fit);(go_wp2_with fail);refine G2.o.mono ?_;rintro e we ⟨h,hh,ph,Ah,ch,Lh,rfl,r1,r2,r3,r4,r5,r6⟩;have eLh:Lh=Lg:=by
      have e1:h=g:=Hg.o.one hh Sg.o ph;(have e2:aU Lh=aU Lg:=by rw [Eg.o,<- e1];exact r4.mv.unique (dQ n h) r5);exact Fs r4.co Pg.o.co e2
     subst eLh;have Tg2:=aA (Tg.o.aB r6);have Th:=aA r3;have HE:=aA (HD.o.tm r6);clear hh ph r3 r4 r5 r6 G2 Tg;have hlen:Lh.length<=20:=by
      have e:=fN List.length Eg.o;rw [bE] at e;rw [e];exact aez hn hs (MW F1.o.fit F2.o.fit hn hs Hg.o).1
     have Sm:=aA (MQ Ag Ah Lh.length cg ch Lh we Tg2.o Th.o (by omega));clear Tg2 Th Eg Pg Hg Sg;(go_wp2_with fail);refine Sm.o.mono ?_;rintro e wf ⟨rfl,VK⟩;have HF:=aA (HE.o.tm VK);clear VK Sm;(go_wp2_with fail);go_ret;exact ⟨rfl,HF.o⟩
 . have hno:¬Ja a0 L1∨¬Ja a0 L2:=by
    by_cases h:Ja a0 L1
    . exact .inr fun e=>lH ⟨h,e⟩
    . exact .inl h
   have G:=aA (fun W (hW:Below w.heap.size w W)=>aep a0 A1 A2 m1 c1 m2 c2 L1 L2 W (Ta.o.aB hW) (Tb.o.aB hW) hno);have ck1:Hid (∀W,Below w.heap.size w W->aC 9 #[.int .i64 a0,.slice A1 m1 c1] W fun e w'=>e=.returned (.int .i64 (Xl a0 L1))∧w'=W):=fun W hW=>(sO a0 A1 m1 c1 L1 W (Ta.o.aB hW)).mono fun e w' h=>⟨h.1,h.2.symm⟩;have ck2:Hid (∀W,Below w.heap.size w W->aC 9 #[.int .i64 a0,.slice A2 m2 c2] W fun e w'=>e=.returned (.int .i64 (Xl a0 L2))∧w'=W):=fun W hW=>(sO a0 A2 m2 c2 L2 W (Tb.o.aB hW)).mono fun e w' h=>⟨h.1,h.2.symm⟩;by_cases ho1:Ja a0 L1
   . have ho2:=hno.resolve_left (fun e=>e ho1)
     rw [qF ho1] at ck1;rw [vZ ho2] at ck2;clear lH hno ho1 ho2 Ta Tb;(go_enter func3,ntmps3);obtain ⟨wo,rfl⟩:∃wo:World,wo=w:=⟨_,rfl⟩;(go_wp2_with fail);refine (M7 wo).mono ?_;rintro e wa ⟨rfl,pK⟩;have K1:=aA (ck1.o wa pK);have K2:=aA (ck2.o wa pK);have G1:=aA (G.o wa pK);have B1:=aA pK;clear ck1 ck2 G pK;(go_wp2_with fail);refine K1.o.mono ?_;rintro e wx ⟨rfl,h9⟩;obtain rfl:=h9.symm;(go_wp2_with fail);refine K2.o.mono ?_;rintro e wx ⟨rfl,h9⟩;obtain rfl:=h9.symm;(go_wp2_with fail);refine G1.o.mono ?_;rintro e wy ⟨A,nn,c,rfl,hb⟩;have B2:=aA (eC B1.o hb);clear hb;(go_wp2_with fail);go_ret;exact ⟨rfl,B2.o⟩
   . rw [vZ ho1] at ck1
     clear lH hno ho1 Ta Tb ck2;(go_enter func3,ntmps3);obtain ⟨wo,rfl⟩:∃wo:World,wo=w:=⟨_,rfl⟩;(go_wp2_with fail);refine (M7 wo).mono ?_;rintro e wa ⟨rfl,pK⟩;have K1:=aA (ck1.o wa pK);have G1:=aA (G.o wa pK);have B1:=aA pK;clear ck1 G pK;(go_wp2_with fail);refine K1.o.mono ?_;rintro e wx ⟨rfl,h9⟩;obtain rfl:=h9.symm;(go_wp2_with fail);refine G1.o.mono ?_;rintro e wy ⟨A,nn,c,rfl,hb⟩;have B2:=aA (eC B1.o hb);clear hb;(go_wp2_with fail);go_ret;exact ⟨rfl,B2.o⟩
