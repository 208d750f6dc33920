import Derived.Test.YtehcoffbiplphaaGreatGPlC
import Derived.Test.YtehcoffbiplphaaGreatGTrg
set_option linter.all false
set_option maxHeartbeats 16000000
set_option maxRecDepth 100000
namespace Go.Proofs.YtehcoffbiplphaaGreat
open Go.Proofs.Tryz
open Go.RowKit aG
def GQ:∀(L:List bA) (i:Nat) (x:bA) (h:i<L.length),x.1.2=(L[i]).1.2->x.2.2=(L[i]).2.2->aS (L.set i x)=((aS L).set (i*3) (.bool x.2.1.1)).set (i*3+1) (.slice x.1.1.1 x.2.1.2.length x.1.1.2)
 | [],i,x,h,_,_=>absurd h (tG i)
 | y::L,0,x,_,h1,h2=>by
   have h1':x.1.2=y.1.2:=h1;have h2':x.2.2=y.2.2:=h2;show kN x++aS L=_;rw [fV];unfold kN;rw [h1',h2'];rfl
 | y::L,i+1,x,h,h1,h2=>by
   have ih:=GQ L i x (Eb h) h1 h2;rw [JF,fV,fV,ih,show (i+1)*3=i*3+1+1+1 by omega];rfl
def DZ:Nat->Mv->Mv
 | 0,M=>M
 | _+1,[]=> []
 | k+1,t::M=>(t.1, -t.2)::DZ k M
def ZO:∀(k:Nat) (M:Mv),(DZ k M).length=M.length
 | 0,_=>rfl
 | _+1,[]=>rfl
 | k+1,t::M=>by show (DZ k M).length+1=_;rw [ZO k M];rfl
def Od:∀(k:Nat) (M:Mv),(DZ k M)[k]? =M[k]?
 | 0,_=>rfl
 | _+1,[]=>rfl
 | k+1,t::M=>by
   show ((t.1, -t.2)::DZ k M)[k+1]? =_;rw [acv,acv,Od k M]
def KV:∀(k:Nat) (M:Mv) (t:mj),M[k]? =some t->(DZ k M).set k (t.1, -t.2)=DZ (k+1) M
 | 0,[],t,h=>by cases h
 | 0,s::M,t,h=>by
   have e:s=t:=by injection h
   rw [e];rfl
 | k+1,[],t,h=>by cases h
 | k+1,s::M,t,h=>by
   show ((s.1, -s.2)::DZ k M).set (k+1) _=(s.1, -s.2)::DZ (k+1) M;rw [JF,KV k M t h]
def Oe:∀(M:Mv) (k:Nat),M.length<=k->DZ k M=M.map fun t=>(t.1, -t.2)
 | [],0,_=>rfl
 | [],_+1,_=>rfl
 | t::M,0,h=>by simp at h
 | t::M,k+1,h=>by
   show (t.1, -t.2)::DZ k M=_;rw [Oe M k (by simpa using h)];rfl
def aee (L:List TV) (k:Nat) (t:TV):aU (L.set k t)=(aU L).set k (bp t):=JE
section
variable {T : TypeId} {w0 wr : World} {ge n C g cap : Nat} {E : List bA} {M : Mv}
def GH.put {j:Nat} {x:bA}(h:GH T w0 wr ge n C (.slice (some ⟨g,0,none⟩) E.length cap) E M) (hj:j<E.length) (e1:x.1.2=(E[j]).1.2) (e2:x.2.2=(E[j]).2.2) (hx:gL wr x) (hxC:x.2.1.2.length<=C) (tj:rP (fun b=>b≠g∧b≠ge) x):
 GH T w0 ((wr.setCell ⟨g,j*3,none⟩ (.bool x.2.1.1)).setCell ⟨g,j*3+1,none⟩ (.slice x.1.1.1 x.2.1.2.length x.1.1.2)) ge n C (.slice (some ⟨g,0,none⟩) E.length cap) (E.set j x) (M.set j (bp x.2)):=by
 have hg:(Value.slice (some ⟨g,0,none⟩) E.length cap).ownBlock=some g:=rfl;have Nj:=h.own.lt g hg;have ho:Only (fun b=>b=g) wr ((wr.setCell ⟨g,j*3,none⟩ (.bool x.2.1.1)).setCell ⟨g,j*3+1,none⟩ (.slice x.1.1.1 x.2.1.2.length x.1.1.2)):=((Only.refl (fun b=>b=g) wr).setCell (p:=⟨g,j*3,none⟩) rfl _).setCell (p:=⟨g,j*3+1,none⟩) rfl _;have mem:∀{z:bA},z∈E.set j x->z=x∨z∈E:=fun {z} hz=>(rK hz).symm;have akP:∀z∈E.set j x,rP (fun b=>b≠g∧b≠ge) z:=fun z hz=>by
  rcases mem hz with e | hz
  . rw [e];exact tj
  . exact (h.far z hz).mono fun b hb=>⟨fun e=>hb.1 (by rw [e];rfl),hb.2⟩
 have okz:∀z∈E.set j x,gL wr z:=fun z hz=>by
  rcases mem hz with e | hz
  . rw [e];exact hx
  . exact h.ok z hz
 refine ⟨?_,fun z hz=>iE (okz z hz) ho (fun h0 y hy e=>((akP z hz).1 h0 y hy).1 e) (fun h0 y hy e=>((akP z hz).2 h0 y hy).1 e),fun z hz=>(akP z hz).mono fun b hb=>⟨fun e=>hb.1 (by injection e with e;exact e.symm),hb.2⟩,h.off,fun z hz=> ?_,fun z hz=> ?_,?_,h.aB.trans (ho.below h.aB.size fun b hb=>by omega)⟩
 . rw [gH,GQ E j x hj e1 e2]
   exact vN (vN h.own _ _) _ _
 . rcases mem hz with e | hz
   . rw [e,e2];exact h.len _ (bw hj)
   . exact h.len z hz
 . rcases mem hz with e | hz
   . rw [e];exact hxC
   . exact h.co z hz
 . rw [JE,aee,h.eq]
def GH.auv {N j:Nat} {x:bA}(hN:E.length=N) (h:GH T w0 wr ge n C (.slice (some ⟨g,0,none⟩) N cap) E M) (hj:j<E.length) (e1:x.1.2=(E[j]).1.2) (e2:x.2.2=(E[j]).2.2) (hx:gL wr x) (hxC:x.2.1.2.length<=C) (tj:rP (fun b=>b≠g∧b≠ge) x):
 (E.set j x).length=N∧GH T w0 ((wr.setCell ⟨g,j*3,none⟩ (.bool x.2.1.1)).setCell ⟨g,j*3+1,none⟩ (.slice x.1.1.1 x.2.1.2.length x.1.1.2)) ge n C (.slice (some ⟨g,0,none⟩) N cap) (E.set j x) (M.set j (bp x.2)):=by
 subst hN;exact ⟨gH,h.put hj e1 e2 hx hxC tj⟩
def ZA {n:Nat} {f:Pn n} {L:List TV} {t:TV}(e:aU L=dn n [] f) (h:L.getLast? =some t):∃R,mU n f=bp t::R:=by
 have h1:(aU L).getLast? =some (bp t):=by
  unfold aU;rw [List.getLast?_map,h];rfl
 rw [e] at h1;unfold mU;rw [<- List.head?_reverse] at h1;cases hr:(dn n [] f).reverse with
 | nil=>rw [hr] at h1;cases h1
 | cons a R=>
   rw [hr] at h1;injection h1 with h1
   exact ⟨R,by rw [h1]⟩
def aiN {n:Nat} {f:Pn n} {t:TV} {R:Mv}(e:mU n f=bp t::R) (hs:t.1.1=false):o7 f:=fun t' L' e'=>by
 have hne:=(dQ n f).ne (bp t) (by rw [e];exact ay);rw [e] at e';injection e' with e1 _
 rw [<- e1];have h1:(bp t).2=aF t.1.1 t.1.2:=rfl;rw [h1,hs] at hne ⊢;have h2:aF false t.1.2=(limbs t.1.2:Int):=by simp [aF]
 rw [h2] at hne ⊢;omega
def adP {n:Nat} {f:Pn n} {t:TV} {R:Mv}(e:mU n f=bp t::R) (hs:t.1.1=true):o7 (-f):=fun t' L' e'=>by
 have hne:=(dQ n f).ne (bp t) (by rw [e];exact ay);rw [Fp,e] at e';injection e' with e1 _
 rw [<- e1];show 0< -(bp t).2;have h1:(bp t).2=aF t.1.1 t.1.2:=rfl;rw [h1,hs] at hne ⊢;have h2:aF true t.1.2= -(limbs t.1.2:Int):=by simp [aF]
 rw [h2] at hne ⊢;omega
def adZ {d:Int} {M:Mv}(h:C8 d M):C8 d (M.map fun t=>(t.1, -t.2)):=fun t ht=>by
 obtain ⟨x,hx,rfl⟩:=aj.1 ht;exact h x hx
end
def J3:(prog.info? 44).map (·.size)=some 3:=by kernel_rfl
def aqZ (w:World) (L:List TV) (e:Ending) (w':World):Prop:=∃t Ai ci Ei ei,L.getLast? =some t∧e=.returned (.agg #[.bool t.1.1,.slice Ai t.1.2.length ci,.slice Ei t.2.length ei])∧Below w.heap.size w w'
def anH (A:Option Addr) (m c:Nat) (L:List TV) (w:World) (hx:jM w A m L) (hm:0<m) (hm2:m<=9223372036854775807):
 aC 50 #[.slice A m c] w (aqZ w L):=by
 obtain ⟨b,o,rfl,hl,hk⟩:=hx.at_ hm;obtain rfl:=hx.len;have PU:L.getLast? =some (L[L.length-1]'(by omega)):=by
  rw [List.getLast?_eq_getElem?,xo (by omega)]
 obtain ⟨Ai,ci,Ei,ei,h1,h2,h3,_,_,_,_,_,_⟩:=hk (L.length-1) (by omega);have ew:IntKind.i64.wrap ((L.length:Int)-1)=((L.length-1:Nat):Int):=by rw [bR _ (by omega)];omega
 have uA:(0:Int)<=((L.length-1:Nat):Int):=by omega
 have hi1:((L.length-1:Nat):Int)<(L.length:Int):=by omega
 have al:Below w.heap.size w (w.alloc (.cells #[.bool false,.slice none 0 0,.slice none 0 0] 44)):=aW.alloc aK _;rw [aq 3] at h1 h2 h3;rw [<- j9] at h2 h3;have g1:=(al.cell (p:=⟨b,o+(L.length-1)*3,none⟩) hl).trans h1;have g2:=(al.cell (p:=⟨b,o+(L.length-1)*3+1,none⟩) hl).trans h2;have g3:=(al.cell (p:=⟨b,o+(L.length-1)*3+2,none⟩) hl).trans h3;have ary:=aA PU;have tn:=JI.new 44 w (.bool false) (.slice none 0 0) (.slice none 0 0);clear h1 h2 h3 hk al PU;generalize L[L.length-1]=x at*
 clear hx;generalize L.length-1=i at*
 obtain ⟨⟨s,xs⟩,ps⟩:=x;simp only at g1 g2 g3;go_enter func50,ntmps50
 go_wp2_with fail
 exact ax (v:=.agg #[.bool s,.slice Ai xs.length ci,.slice Ei ps.length ei]) (cI (fn:=Tryz.f50) rfl _ _ _ _ _ _ _ rfl (JI.new 44 w (.bool s) (.slice Ai xs.length ci) (.slice Ei ps.length ei)) underlying44 rfl J3) rfl
  ⟨((s,xs),ps),Ai,ci,Ei,ei,ary.o,rfl,aW.alloc aK _⟩
def yY (w:World) (n:Nat) (f:Pn n) (e:Ending) (w':World):Prop:=∃g,(g=f∨g= -f)∧o7 g∧ou w n (mU n g) e w'
def SM (b:Bool) (A:Option Addr) (k c:Nat) (E:Option Addr) (m d:Nat) (w:World):(Instr.field 44 (.agg #[.bool b,.slice A k c,.slice E m d]) 0).run prog w=.ok (.agg #[.bool b,.slice A k c]) w:=by kernel_rfl
def Xb (b:Bool) (A:Option Addr) (k c:Nat) (w:World):(Instr.field 41 (.agg #[.bool b,.slice A k c]) 0).run prog w=.ok (.bool b) w:=by kernel_rfl
def RY (n:Nat) (hn:n<=6) (w:World):
 (Instr.makeSlice 42 (.int .i64 (n:Int)) (.int .i64 (n:Int))).run prog w=.ok (.slice (some ⟨w.heap.size,0,none⟩) n n) (w.alloc (.cells (ints (List.replicate n 0)).toArray 3)):=by
 obtain ⟨i0,uA,hu0,hu1,hu2⟩:=oH Kj;exact yx (P:=prog) underlying42 uA hu0 hu1 hu2 n (by omega) w
def abi (T:TypeId) (w0 w:World) (n:Nat) (hn:n<=6) (h:w0.heap.size<=w.heap.size):Nb T w0 (w.alloc (.cells (ints (List.replicate n 0)).toArray T)) w.heap.size n (List.replicate n 0):=by
 have h1:=Sy (e:=T) (size:=1) w (ints (List.replicate n 0)).toArray n h (by unfold maxLen;omega) (by simp [ints]);refine ⟨by simpa using h1,fun i=> ?_⟩;have h0:nth (List.replicate n (0:Int)) i=0:=by
  by_cases hi:i<n
  . rw [gJ (by simpa using hi)];simp
  . rw [cW (by simp;omega)]
 rw [h0];constructor<;>omega
def KU {T:TypeId} {w0 wr:World} {ge n C:Nat} {v:Value} {E:List bA} {M:Mv} {g:Pn n}(h:GH T w0 wr ge n C v E M) (hn:n<=6) (hC:C<=10000) (hM:jR n M (mU n g)) (hb:C8 1000 M) (hc:M.length<=4096):
 ∃B d,v=.slice B E.length d∧aC 20 #[.int .i64 (n:Int),.slice B E.length d] wr (ou w0 n (mU n g)):=by
 obtain ⟨B,d,hv,h1,h2,ht⟩:=kD h.own rfl h.ok;have wR:(E.map (·.2)).length<=4096:=by
  have:=fN List.length h.eq;rw [bE] at this;omega
 have hA:Arg n C (E.map (·.2)):=⟨fun t ht=>by
  obtain ⟨x,hx,rfl⟩:=aj.1 ht;exact h.len x hx,fun t ht=>by
  have h3:bp t∈M:=by rw [<- h.eq];exact aj.2 ⟨t,ht,rfl⟩
  exact hb _ h3,fun t ht=>by
  obtain ⟨x,hx,rfl⟩:=aj.1 ht;exact h.co x hx,wR⟩
 refine ⟨B,d,hv,(anG n C B E.length d (E.map (·.2)) wr ht hA hn hC).mono ?_⟩;intro e w' h9;obtain ⟨A,c,L,k1,k2,k3,k4,k5,k6,k7⟩:=h9.from_ h.aB;rw [h.eq] at k6;exact ⟨A,c,L,k1,k2,k3,k4,k5,k6.trans hM,k7⟩
def abH {n:Nat} {pre:fE} {f:Pn n} {D:Nat->Nat}(hf:aI.dg D f) (hD:∀j,D j<=1000) (hp:pre=[]):C8 1000 (dn n pre f):=fun t ht=>by
 obtain ⟨e,h1,_,h3,_⟩:=DD hf hD t ht;rw [hp,kY] at h1;rw [h1];exact h3
def mright (n C:Nat) (hn:n<=6) (hC:C<=10000) (w:World) (u:Value) (f:Pn n) (D:Nat->Nat) (hf:aO (fun _=>True) n w u f) (nf:aI.nm f<2^(64*C)) (df:aI.dg D f) (hD:∀j,D j<=1000) (wR:(dn n [] f).length<=4096):
 aC 26 #[.int .i64 (n:Int),u] w (yY w n f):=by
 obtain ⟨s0,A0,k0,c0,B0,m0,d0,hu⟩:=hf.shape;subst hu;have lf:QL n f:=pn n f D df fun j=>by have:=hD j;omega
 have uG:=aA (abH (pre:=[]) df hD rfl);have Ck:=RY n hn;have t0:=aa.new w (.bool s0) (.slice A0 k0 c0) (.slice B0 m0 d0);have hb:Below w.heap.size w (w.alloc (.cells #[.bool s0,.slice A0 k0 c0,.slice B0 m0 d0] 51)):=aW.alloc aK _;have HB:=aA hb;have T0:=aA t0;have agf:=aA wR;have Hf:=aA hf;have Nf:=aA nf;have Lf:=aA lf;clear hf t0 hb nf df wR lf;unfold bG at Hf ⊢;go_enter func26,ntmps26
 go_wp2_with fail
 generalize kj:w.alloc (.cells #[.bool s0,.slice A0 k0 c0,.slice B0 m0 d0] 51)=wt at*
 clear kj;have Ht:Hid (aC 34 #[.agg #[.bool s0,.slice A0 k0 c0,.slice B0 m0 d0],.int .i64 (n:Int),.int .i64 0,.slice (some ⟨wt.heap.size,0,none⟩) n n,.slice none 0 0] (World.drew (wt.alloc (.cells (ints (List.replicate n 0)).toArray 3))) (yX wt wt.heap.size n 0 C (List.replicate n 0) (dn n [] f))):=by
  have hW:Below wt.heap.size wt wt:=aW;have h:=Ut C (by omega) n n 0 wt (World.drew (wt.alloc (.cells (ints (List.replicate n 0)).toArray 3))) _ f wt.heap.size (List.replicate n 0) (.slice none 0 0) [] [] (by omega) hn (Hf.o.aB HB.o) ((abi _ _ _ n hn hW.size).aB aW.drew) (GH.start _ _ _ _ ((hW.alloc hW.size _).drew)) Nf.o Lf.o (by rw [Ea];have:=agf.o;simp;omega);rw [Ea,kY] at h;exact h
 have ek:Hid (∀W,Below wt.heap.size wt W->(fun W=>W.cell? ⟨w.heap.size,0,none⟩=some (.bool s0)∧W.cell? ⟨w.heap.size,1,none⟩=some (.slice A0 k0 c0)∧W.cell? ⟨w.heap.size,2,none⟩=some (.slice B0 m0 d0)) W):=fun W hW=>⟨((T0.o.aB hW)).cell0,((T0.o.aB hW)).cell1,((T0.o.aB hW)).aP⟩;refine gC (S:=fun W=>W.cell? ⟨w.heap.size,0,none⟩=some (.bool s0)∧W.cell? ⟨w.heap.size,1,none⟩=some (.slice A0 k0 c0)∧W.cell? ⟨w.heap.size,2,none⟩=some (.slice B0 m0 d0)) (z:=99) (by kernel_rfl) ?_;have hHeld:=ek.o _ (Below.refl wt.heap.size wt).drew;try dsimp only at hHeld
 refine tk 99 0 (.agg #[.bool s0,.slice A0 k0 c0,.slice B0 m0 d0]) rfl hHeld ?_;try simp only [fx,Act.put]
 refine tk 99 1 (.int .i64 (n:Int)) rfl hHeld ?_;try simp only [fx,Act.put]
 refine tk 99 2 (.int .i64 (n:Int)) rfl hHeld ?_;try simp only [fx,Act.put]
 refine aV (rs:=[3]) (by kernel_rfl) (by simp) ?_;refine aL.cons rfl (by decide) (fun KK cZ=> ?_) aL.nil;go_simp;refine cZ.o _ _ (ek.o _ (aW.alloc aK (.cells (ints (List.replicate n 0)).toArray 3)).drew) (fun hHeld=> ?_);clear cZ KK;try dsimp only at hHeld
 try simp only [fx,Act.put]
 refine aV (rs:=[4]) (by kernel_rfl) (by simp) ?_;refine aL.cons rfl (by decide) (fun KK cZ=> ?_) aL.nil;go_simp;refine Ht.o.mono ?_;rintro e w1 ⟨v1,E1,es1,rfl,q1,q2,q3⟩;have Q3:=aA q3;obtain ⟨Av,cv,hv⟩:=lS q3.own;subst hv;have Hge:=aA q1.lo;have Zy:Hid ((fun W=>W.cell? ⟨w.heap.size,0,none⟩=some (.bool s0)∧W.cell? ⟨w.heap.size,1,none⟩=some (.slice A0 k0 c0)∧W.cell? ⟨w.heap.size,2,none⟩=some (.slice B0 m0 d0)) w1):=ek.o _ q3.aB;clear q1 q2 q3;go_wp2_with fail
 refine cZ.o _ _ Zy.o (fun hHeld=> ?_);clear cZ KK;try dsimp only at hHeld
 try simp only [fx,Act.put]
 refine aV (rs:=[5]) (by kernel_rfl) (by simp) ?_;refine aL.cons rfl (by decide) (fun KK cZ=> ?_) aL.nil;go_simp;refine cZ.o _ _ Zy.o (fun hHeld=> ?_);clear cZ KK;try dsimp only at hHeld
 try simp only [fx,Act.put]
 refine fK (by kernel_rfl) ?_ _;clear hHeld Zy ek Ht Hf Nf Lf T0;have zA:Hid (E1.length=(dn n [] f).length):=by
  show _=_;rw [<- Q3.o.eq,bE,dW]
 have HBw:Hid (Below w.heap.size w w1):=HB.o.tm Q3.o.aB;by_cases h0:E1.length=0
 . have hM:dn n [] f=[]:=lz (by rw [<- zA.o];exact h0)
   have hp:mU n f=[]:=by unfold mU;rw [hM];rfl
   have hz:((E1.length:Int)==0)=true:=by rw [h0];rfl
   have F:Hid (yY w n f (.returned (.tuple #[.slice none 0 0,.int .i64 0])) w1):=by
    refine ⟨f,.inl rfl,(fun t L e=>by rw [hp] at e;cases e),none,0,[],rfl,aK,by omega,jM.nil _ _,eP.nil n,?_,HBw.o⟩;rw [hp];exact jR.refl _ _
   clear hM hp h0;go_wp2_with fail
   go_ret2;exact F.o
 . have hz:((E1.length:Int)==0)=false:=jD.2 (by omega)
   have hcn:=agf.o;have hE1:E1.length<=4096:=by rw [zA.o];exact hcn
   obtain ⟨B9,d9,hv9,jU,XO,ht⟩:=kD Q3.o.own rfl Q3.o.ok;injection hv9 with hv9 _ avf
   subst hv9;subst avf;have Ce:=aA (anH Av E1.length cv (E1.map (·.2)) w1 ht (by omega) (by omega));clear ht jU XO hcn;go_wp2_with fail
   refine Ce.o.mono ?_;rintro e w2 ⟨t,Ai,ci,Ei,ei,PU,rfl,cU⟩;obtain ⟨R,hR⟩:=ZA Q3.o.eq PU;have Q4:=aA (Q3.o.ji cU);have aLX:Hid (Below w.heap.size w w2):=HBw.o.tm cU;have HBt:Hid (Below w.heap.size w wt):=HB.o;have ajW:=aA (gh Hge.o.2 cU.size);clear PU cU Ce Q3 HBw;obtain ⟨⟨sx,xs⟩,ps⟩:=t;have aIU:=fun W=>SM sx Ai xs.length ci Ei ps.length ei W;have aIT:=fun W=>Xb sx Ai xs.length ci W;cases sx with
   | false=>
     have tq:=aA (aiN hR rfl);clear hR;obtain ⟨B8,d8,X7,Cn⟩:=KU Q4.o hn hC (jR.perm (Tu _).symm) uG.o agf.o;injection X7 with X7 _ ajn
     subst X7;subst ajn;have CN:=aA Cn;clear Cn Q4;(go_wp2_with fail);refine CN.o.mono ?_;intro e w3 h3;obtain ⟨A3,c3,L3,rfl,p1,p2,p3,p4,p5,p6⟩:=h3;have F:Hid (yY w n f (.returned (.tuple #[.slice A3 L3.length c3,.int .i64 0])) w3):=⟨f,.inl rfl,tq.o,A3,c3,L3,rfl,p1,p2,p3,p4,p5,HBt.o.tm p6⟩;clear p3 p4 p5 p6;(go_wp2_with fail);go_ret2;exact F.o
   | true=>
     have tq:=aA (adP hR rfl);clear hR;obtain ⟨g1,M6,wN,wQ,R9⟩:=Q4.o.own.form (by omega);injection wN with wN _ Rs
     subst wN;subst Rs;(go_wp2_with fail);go_loopw [24] (fun kk wr=>∃(k:Nat) (E:List bA),k<=E1.length∧kk=.int .i64 (k:Int)∧Hid (E.length=E1.length)∧Hid (GH 44 wt wr wt.heap.size n C (.slice (some ⟨g1,0,none⟩) E1.length cv) E (DZ k (dn n [] f)))∧Hid (wt.heap.size<wr.heap.size)) (fun kk _=>E1.length-(intOf kk).toNat)
     case atStart=>exact ⟨0,E1,dc _,rfl,rfl,Q4.o,ajW.o⟩
     case round=>
      obtain ⟨k,E,hk,rfl,hE,hT,Ry⟩:=hrel;obtain ⟨wp,rfl⟩:∃wp:World,wp=wr:=⟨_,rfl⟩;by_cases hlt:k<E1.length
      . have dI:(k:Int)<(E1.length:Int):=by omega
        (have wP:(0:Int)<=(k:Int):=by omega);(have rL:k<E.length:=by rw [hE.o];exact hlt);obtain ⟨x0,x1,x2⟩:=jH rL;have own:=hT.o.own;rw [hE.o] at own;have a0:=own.cellAt (3*k) (by omega);have a1:=own.cellAt (3*k+1) (by omega);rw [x0] at a0;rw [x1] at a1;rw [aq 3 k] at a0 a1;have z0:=own.frozenAt (k*3);have z1:=own.frozenAt (k*3+1);have Nj:=own.lt g1 rfl;have lH:=hT.o.ok _ (bw rL);have yj:=hT.o.far _ (bw rL);have Qc:=hT.o.co _ (bw rL);have hMk:(dn n [] f)[k]? =some (bp (E[k]).2):=by
         rw [<- Od k,<- hT.o.eq];unfold aU;rw [List.getElem?_map,List.getElem?_map,xo rL];rfl
        have HMk:=aA (KV k _ _ hMk);have Hx:=aA (show E[k]=E[k] from rfl);have Cn:=aA (fun W (hW:Below wp.heap.size wp W)=>YI (E[k]).2.1.1 (E[k]).1.1.1 (E[k]).2.1.2.length (E[k]).1.1.2 (E[k]).2.1.2 W (lH.2.2.2.2.1.aB hW) lH.1 lH.2.1 (by omega));have F:Hid (∀(w3:World) (s':Bool) (A':Option Addr) (k' c':Nat) (ls:List Int),Below wp.heap.size wp w3->k'<=c'->c'<=9223372036854775807->k'<=(E[k]).2.1.2.length->aD w3 A' k' ls->bW s' ls (-aF (E[k]).2.1.1 (E[k]).2.1.2)->(0<k'->∀y,A'=some y->wp.heap.size<=y.block)->
         w3.frozen? ⟨g1,k*3,none⟩=false∧w3.frozen? ⟨g1,k*3+1,none⟩=false∧w3.cell? ⟨g1,k*3,none⟩=some (.bool (E[k]).2.1.1)∧w3.cell? ⟨g1,k*3+1,none⟩=some (.slice (E[k]).1.1.1 (E[k]).2.1.2.length (E[k]).1.1.2)∧g1<w3.heap.size∧∃E2:List bA,Hid (E2.length=E1.length)∧Hid (GH 44 wt ((w3.setCell ⟨g1,k*3,none⟩ (.bool s')).setCell ⟨g1,k*3+1,none⟩ (.slice A' k' c')) wt.heap.size n C (.slice (some ⟨g1,0,none⟩) E1.length cv) E2 (DZ (k+1) (dn n [] f)))∧Hid (wt.heap.size<((w3.setCell ⟨g1,k*3,none⟩ (.bool s')).setCell ⟨g1,k*3+1,none⟩ (.slice A' k' c')).heap.size)):=fun w3 s' A' k' c' ls nV r1 r2 r3 r4 r5 r6=>by
         obtain rfl:=r4.len;refine ⟨(nV.frozen (p:=⟨g1,k*3,none⟩) Nj.2).trans z0,(nV.frozen (p:=⟨g1,k*3+1,none⟩) Nj.2).trans z1,(nV.cell (p:=⟨g1,k*3,none⟩) Nj.2).trans a0,(nV.cell (p:=⟨g1,k*3+1,none⟩) Nj.2).trans a1,gh Nj.2 nV.size,?_⟩;have ajy:=lH.aB nV;have hx:gL w3 ((((A',c'),(E[k]).1.2),((s',ls),(E[k]).2.2)):bA):=⟨r1,r2,ajy.2.2.1,ajy.2.2.2.1,r4,ajy.2.2.2.2.2⟩;have tj:rP (fun b=>b≠g1∧b≠wt.heap.size) ((((A',c'),(E[k]).1.2),((s',ls),(E[k]).2.2)):bA):=⟨fun q0 y hy=>by
          have h9:=r6 q0 y hy;have h8:=Ry.o;exact ⟨by omega,by omega⟩,fun q0 y hy=>by
          have h9:=yj.2 q0 y hy;exact ⟨fun e=>h9.1 (by rw [e];rfl),h9.2⟩⟩
         obtain ⟨u1,u2⟩:=(hT.o.ji nV).auv hE.o (x:=(((A',c'),(E[k]).1.2),((s',ls),(E[k]).2.2))) rL rfl rfl hx (aH r3 Qc) tj;have ev:bp ((s',ls),(E[k]).2.2)=((bp (E[k]).2).1, -(bp (E[k]).2).2):=by
          show ((E[k]).2.2,aF s' ls)=_;rw [r5.eq];rfl
         rw [ev,HMk.o] at u2;refine ⟨_,u1,u2,?_⟩;have h8:=Ry.o;have h7:=nV.size;show wt.heap.size<_;simp;omega
        clear x0 x1 x2 own lH yj Qc hMk HMk Hx hT hE;generalize (E[k]).2.1.1=sx1 at*
        generalize (E[k]).2.1.2.length=lx1 at*
        generalize (E[k]).1.1.1=Ax1 at*
        generalize (E[k]).1.1.2=cx1 at*
        (go_wp2_with fail);refine (Cn.o wp aW).mono ?_;rintro e w3 ⟨s',A',k',c',ls,rfl,r1,r2,r3,r4,r5,r6,r7⟩;obtain ⟨f0,f1,y0,y1,yl,E2,u1,u2,u3⟩:=F.o w3 s' A' k' c' ls r7 r1 r2 r3 r4 r5 r6;clear F Cn r1 r2 r3 r4 r5 r6 r7 a0 a1 z0 z1;(go_wp2_with fail);go_roundw
        case rel=>exact ⟨k+1,E2,by omega,by go_num,u1,u2,u3⟩
        case measure=>simp [intOf];omega
      . have dI:¬(k:Int)<(E1.length:Int):=by omega
        have fP:=Oe (dn n [] f) k (by have:=zA.o;omega);have hT2:=hT.o;rw [fP] at hT2;have hM:jR n ((dn n [] f).map fun t=>(t.1, -t.2)) (mU n (-f)):=by
         rw [Fp];unfold mU;rw [Tt];exact jR.perm (Tu _).symm
        obtain ⟨B8,d8,X7,Cn⟩:=KU hT2 hn hC hM (adZ uG.o) (by rw [dW];exact agf.o);rw [hE.o] at X7 Cn;injection X7 with X7 _ ajn
        subst X7;subst ajn;have CN:=aA Cn;clear Cn hT2 fP hM hT hE;(go_wp2_with fail);refine CN.o.mono ?_;intro e w3 h3;obtain ⟨A3,c3,L3,rfl,p1,p2,p3,p4,p5,p6⟩:=h3;have F:Hid (yY w n f (.returned (.tuple #[.slice A3 L3.length c3,.int .i64 0])) w3):=⟨-f,.inr rfl,tq.o,A3,c3,L3,rfl,p1,p2,p3,p4,p5,HBt.o.tm p6⟩;clear p3 p4 p5 p6;(go_wp2_with fail);go_ret2;exact F.o
