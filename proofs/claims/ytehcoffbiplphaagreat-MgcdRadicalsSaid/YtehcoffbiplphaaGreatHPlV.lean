import Derived.Test.YtehcoffbiplphaaGreatHPlC
import Derived.Test.YtehcoffbiplphaaGreatHTrg
set_option linter.all false
set_option maxHeartbeats 16000000
set_option maxRecDepth 100000
namespace Go.Proofs.YtehcoffbiplphaaGreat
open Go.Proofs.Tryz
open Go.RowKit aF
def Gt:∀(L:List ax) (i:Nat) (x:ax) (h:i<L.length),x.1.2=(L[i]).1.2->x.2.2=(L[i]).2.2->aS (L.set i x)=((aS L).set (i*3) (.bool x.2.1.1)).set (i*3+1) (.slice x.1.1.1 x.2.1.2.length x.1.1.2)
 | [],i,x,h,_,_=>absurd h (rK i)
 | y::L,0,x,_,h1,h2=>by
   have h1':x.1.2=y.1.2:=h1;have h2':x.2.2=y.2.2:=h2;show kU x++aS L=_;rw [gC];unfold kU;rw [h1',h2'];rfl
 | y::L,i+1,x,h,h1,h2=>by
   have ih:=Gt L i x (FI h) h1 h2;rw [Jj,gC,gC,ih,show (i+1)*3=i*3+1+1+1 by omega];rfl
def EK:Nat->Mv->Mv
 | 0,M=>M
 | _+1,[]=> []
 | k+1,t::M=>(t.1, -t.2)::EK k M
def aai:∀(k:Nat) (M:Mv),(EK k M).length=M.length
 | 0,_=>rfl
 | _+1,[]=>rfl
 | k+1,t::M=>by show (EK k M).length+1=_;rw [aai k M];rfl
def PK:∀(k:Nat) (M:Mv),(EK k M)[k]? =M[k]?
 | 0,_=>rfl
 | _+1,[]=>rfl
 | k+1,t::M=>by
   show ((t.1, -t.2)::EK k M)[k+1]? =_;rw [adx,adx,PK k M]
def Ky:∀(k:Nat) (M:Mv) (t:mH),M[k]? =some t->(EK k M).set k (t.1, -t.2)=EK (k+1) M
 | 0,[],t,h=>by cases h
 | 0,s::M,t,h=>by
   have e:s=t:=by injection h
   rw [e];rfl
 | k+1,[],t,h=>by cases h
 | k+1,s::M,t,h=>by
   show ((s.1, -s.2)::EK k M).set (k+1) _=(s.1, -s.2)::EK (k+1) M;rw [Jj,Ky k M t h]
def PL:∀(M:Mv) (k:Nat),M.length<=k->EK k M=M.map fun t=>(t.1, -t.2)
 | [],0,_=>rfl
 | [],_+1,_=>rfl
 | t::M,0,h=>by simp at h
 | t::M,k+1,h=>by
   show (t.1, -t.2)::EK k M=_;rw [PL M k (by simpa using h)];rfl
def afs (L:List TV) (k:Nat) (t:TV):aP (L.set k t)=(aP L).set k (bS t):=Jf
section
variable {T : TypeId} {w0 wr : World} {ge n C g cap : Nat} {E : List ax} {M : Mv}
def GP.put {j:Nat} {x:ax}(h:GP T w0 wr ge n C (.slice (some ⟨g,0,none⟩) E.length cap) E M) (hj:j<E.length) (e1:x.1.2=(E[j]).1.2) (e2:x.2.2=(E[j]).2.2) (hx:gV wr x) (hxC:x.2.1.2.length<=C) (sZ:rR (fun b=>b≠g∧b≠ge) x):
 GP T w0 ((wr.setCell ⟨g,j*3,none⟩ (.bool x.2.1.1)).setCell ⟨g,j*3+1,none⟩ (.slice x.1.1.1 x.2.1.2.length x.1.1.2)) ge n C (.slice (some ⟨g,0,none⟩) E.length cap) (E.set j x) (M.set j (bS x.2)):=by
 have hg:(Value.slice (some ⟨g,0,none⟩) E.length cap).ownBlock=some g:=rfl;have LP:=h.own.lt g hg;have ho:Only (fun b=>b=g) wr ((wr.setCell ⟨g,j*3,none⟩ (.bool x.2.1.1)).setCell ⟨g,j*3+1,none⟩ (.slice x.1.1.1 x.2.1.2.length x.1.1.2)):=((Only.refl (fun b=>b=g) wr).setCell (p:=⟨g,j*3,none⟩) rfl _).setCell (p:=⟨g,j*3+1,none⟩) rfl _;have mem:∀{z:ax},z∈E.set j x->z=x∨z∈E:=fun {z} hz=>(pR hz).symm;have amp:∀z∈E.set j x,rR (fun b=>b≠g∧b≠ge) z:=fun z hz=>by
  rcases mem hz with e | hz
  . rw [e];exact sZ
  . exact (h.far z hz).mono fun b hb=>⟨fun e=>hb.1 (by rw [e];rfl),hb.2⟩
 have okz:∀z∈E.set j x,gV wr z:=fun z hz=>by
  rcases mem hz with e | hz
  . rw [e];exact hx
  . exact h.ok z hz
 refine ⟨?_,fun z hz=>iM (okz z hz) ho (fun h0 y hy e=>((amp z hz).1 h0 y hy).1 e) (fun h0 y hy e=>((amp z hz).2 h0 y hy).1 e),fun z hz=>(amp z hz).mono fun b hb=>⟨fun e=>hb.1 (by injection e with e;exact e.symm),hb.2⟩,h.off,fun z hz=> ?_,fun z hz=> ?_,?_,h.aC.trans (ho.below h.aC.size fun b hb=>by omega)⟩
 . rw [fW,Gt E j x hj e1 e2]
   exact vT (vT h.own _ _) _ _
 . rcases mem hz with e | hz
   . rw [e,e2];exact h.len _ (bR hj)
   . exact h.len z hz
 . rcases mem hz with e | hz
   . rw [e];exact hxC
   . exact h.co z hz
 . rw [Jf,afs,h.eq]
def GP.awp {N j:Nat} {x:ax}(hN:E.length=N) (h:GP T w0 wr ge n C (.slice (some ⟨g,0,none⟩) N cap) E M) (hj:j<E.length) (e1:x.1.2=(E[j]).1.2) (e2:x.2.2=(E[j]).2.2) (hx:gV wr x) (hxC:x.2.1.2.length<=C) (sZ:rR (fun b=>b≠g∧b≠ge) x):
 (E.set j x).length=N∧GP T w0 ((wr.setCell ⟨g,j*3,none⟩ (.bool x.2.1.1)).setCell ⟨g,j*3+1,none⟩ (.slice x.1.1.1 x.2.1.2.length x.1.1.2)) ge n C (.slice (some ⟨g,0,none⟩) N cap) (E.set j x) (M.set j (bS x.2)):=by
 subst hN;exact ⟨fW,h.put hj e1 e2 hx hxC sZ⟩
def Z3 {n:Nat} {f:Pn n} {L:List TV} {t:TV}(e:aP L=dW n [] f) (h:L.getLast? =some t):∃R,iy n f=bS t::R:=by
 have h1:(aP L).getLast? =some (bS t):=by
  unfold aP;rw [List.getLast?_map,h];rfl
 rw [e] at h1;unfold iy;rw [<- List.head?_reverse] at h1;cases hr:(dW n [] f).reverse with
 | nil=>rw [hr] at h1;cases h1
 | cons a R=>
   rw [hr] at h1;injection h1 with h1
   exact ⟨R,by rw [h1]⟩
def akm {n:Nat} {f:Pn n} {t:TV} {R:Mv}(e:iy n f=bS t::R) (hs:t.1.1=false):iV f:=fun t' L' e'=>by
 have hne:=(bB n f).ne (bS t) (by rw [e];exact aV);rw [e] at e';injection e' with e1 _
 rw [<- e1];have h1:(bS t).2=aI t.1.1 t.1.2:=rfl;rw [h1,hs] at hne ⊢;have h2:aI false t.1.2=(limbs t.1.2:Int):=by simp [aI]
 rw [h2] at hne ⊢;omega
def afa {n:Nat} {f:Pn n} {t:TV} {R:Mv}(e:iy n f=bS t::R) (hs:t.1.1=true):iV (-f):=fun t' L' e'=>by
 have hne:=(bB n f).ne (bS t) (by rw [e];exact aV);rw [yR,e] at e';injection e' with e1 _
 rw [<- e1];show 0< -(bS t).2;have h1:(bS t).2=aI t.1.1 t.1.2:=rfl;rw [h1,hs] at hne ⊢;have h2:aI true t.1.2= -(limbs t.1.2:Int):=by simp [aI]
 rw [h2] at hne ⊢;omega
def afn {d:Int} {M:Mv}(h:Dj d M):Dj d (M.map fun t=>(t.1, -t.2)):=fun t ht=>by
 obtain ⟨x,hx,rfl⟩:=af.1 ht;exact h x hx
end
def Ke:(prog.info? 44).map (·.size)=some 3:=by kernel_rfl
def asL (w:World) (L:List TV) (e:Ending) (w':World):Prop:=∃t Ai ci Ei ei,L.getLast? =some t∧e=.returned (.agg #[.bool t.1.1,.slice Ai t.1.2.length ci,.slice Ei t.2.length ei])∧Below w.heap.size w w'
def apj (A:Option Addr) (m c:Nat) (L:List TV) (w:World) (hx:iI w A m L) (hm:0<m) (hm2:m<=9223372036854775807):
 aB 50 #[.slice A m c] w (asL w L):=by
 obtain ⟨b,o,rfl,hl,hk⟩:=hx.at_ hm;obtain rfl:=hx.len;have QG:L.getLast? =some (L[L.length-1]'(by omega)):=by
  rw [List.getLast?_eq_getElem?,uT (by omega)]
 obtain ⟨Ai,ci,Ei,ei,h1,h2,h3,_,_,_,_,_,_⟩:=hk (L.length-1) (by omega);have ew:IntKind.i64.wrap ((L.length:Int)-1)=((L.length-1:Nat):Int):=by rw [bP _ (by omega)];omega
 have rT:(0:Int)<=((L.length-1:Nat):Int):=by omega
 have hi1:((L.length-1:Nat):Int)<(L.length:Int):=by omega
 have al:Below w.heap.size w (w.alloc (.cells #[.bool false,.slice none 0 0,.slice none 0 0] 44)):=aU.alloc aL _;rw [aq 3] at h1 h2 h3;rw [<- jb] at h2 h3;have g1:=(al.cell (p:=⟨b,o+(L.length-1)*3,none⟩) hl).trans h1;have g2:=(al.cell (p:=⟨b,o+(L.length-1)*3+1,none⟩) hl).trans h2;have g3:=(al.cell (p:=⟨b,o+(L.length-1)*3+2,none⟩) hl).trans h3;have ath:=aA QG;have tn:=Jk.new 44 w (.bool false) (.slice none 0 0) (.slice none 0 0);clear h1 h2 h3 hk al QG;generalize L[L.length-1]=x at*
 clear hx;generalize L.length-1=i at*
 obtain ⟨⟨s,xs⟩,ps⟩:=x;simp only at g1 g2 g3;go_enter func50,ntmps50
 go_wp2_with fail
 exact bK (v:=.agg #[.bool s,.slice Ai xs.length ci,.slice Ei ps.length ei]) (dO (fn:=Tryz.f50) rfl _ _ _ _ _ _ _ rfl (Jk.new 44 w (.bool s) (.slice Ai xs.length ci) (.slice Ei ps.length ei)) underlying44 rfl Ke) rfl
  ⟨((s,xs),ps),Ai,ci,Ei,ei,ath.o,rfl,aU.alloc aL _⟩
def yu (w:World) (n:Nat) (f:Pn n) (e:Ending) (w':World):Prop:=∃g,(g=f∨g= -f)∧iV g∧mJ w n (iy n g) e w'
def TU (b:Bool) (A:Option Addr) (k c:Nat) (E:Option Addr) (m d:Nat) (w:World):(Instr.field 44 (.agg #[.bool b,.slice A k c,.slice E m d]) 0).run prog w=.ok (.agg #[.bool b,.slice A k c]) w:=by kernel_rfl
def YS (b:Bool) (A:Option Addr) (k c:Nat) (w:World):(Instr.field 41 (.agg #[.bool b,.slice A k c]) 0).run prog w=.ok (.bool b) w:=by kernel_rfl
def Ia (n:Nat) (hn:n<=6) (w:World):
 (Instr.makeSlice 42 (.int .i64 (n:Int)) (.int .i64 (n:Int))).run prog w=.ok (.slice (some ⟨w.heap.size,0,none⟩) n n) (w.alloc (.cells (ints (List.replicate n 0)).toArray 3)):=by
 obtain ⟨i0,rT,hu0,hu1,hu2⟩:=oG LI;exact zJ (P:=prog) underlying42 rT hu0 hu1 hu2 n (by omega) w
def QX (T:TypeId) (w0 w:World) (n:Nat) (hn:n<=6) (h:w0.heap.size<=w.heap.size):N7 T w0 (w.alloc (.cells (ints (List.replicate n 0)).toArray T)) w.heap.size n (List.replicate n 0):=by
 have h1:=UB (e:=T) (size:=1) w (ints (List.replicate n 0)).toArray n h (by unfold maxLen;omega) (by simp [ints]);refine ⟨by simpa using h1,fun i=> ?_⟩;have h0:nth (List.replicate n (0:Int)) i=0:=by
  by_cases hi:i<n
  . rw [fV (by simpa using hi)];simp
  . rw [bw (by simp;omega)]
 rw [h0];constructor<;>omega
def Kw {T:TypeId} {w0 wr:World} {ge n C:Nat} {v:Value} {E:List ax} {M:Mv} {g:Pn n}(h:GP T w0 wr ge n C v E M) (hn:n<=6) (hC:C<=10000) (hM:jI n M (iy n g)) (hb:Dj 1000 M) (hc:M.length<=4096):
 ∃B d,v=.slice B E.length d∧aB 20 #[.int .i64 (n:Int),.slice B E.length d] wr (mJ w0 n (iy n g)):=by
 obtain ⟨B,d,hv,h1,h2,ht⟩:=jK h.own rfl h.ok;have tj:(E.map (·.2)).length<=4096:=by
  have:=dh List.length h.eq;rw [au] at this;omega
 have hA:Arg n C (E.map (·.2)):=⟨fun t ht=>by
  obtain ⟨x,hx,rfl⟩:=af.1 ht;exact h.len x hx,fun t ht=>by
  have h3:bS t∈M:=by rw [<- h.eq];exact af.2 ⟨t,ht,rfl⟩
  exact hb _ h3,fun t ht=>by
  obtain ⟨x,hx,rfl⟩:=af.1 ht;exact h.co x hx,tj⟩
 refine ⟨B,d,hv,(api n C B E.length d (E.map (·.2)) wr ht hA hn hC).mono ?_⟩;intro e w' h9;obtain ⟨A,c,L,k1,k2,k3,k4,k5,k6,k7⟩:=h9.from_ h.aC;rw [h.eq] at k6;exact ⟨A,c,L,k1,k2,k3,k4,k5,k6.trans hM,k7⟩
def acQ {n:Nat} {pre:fI} {f:Pn n} {D:Nat->Nat}(hf:aH.dg D f) (hD:∀j,D j<=1000) (hp:pre=[]):Dj 1000 (dW n pre f):=fun t ht=>by
 obtain ⟨e,h1,_,h3,_⟩:=Dx hf hD t ht;rw [hp,og] at h1;rw [h1];exact h3
def mright (n C:Nat) (hn:n<=6) (hC:C<=10000) (w:World) (u:Value) (f:Pn n) (D:Nat->Nat) (hf:aO (fun _=>True) n w u f) (nf:aH.nm f<2^(64*C)) (df:aH.dg D f) (hD:∀j,D j<=1000) (tj:(dW n [] f).length<=4096):
 aB 26 #[.int .i64 (n:Int),u] w (yu w n f):=by
 obtain ⟨s0,A0,k0,c0,B0,m0,d0,hu⟩:=hf.shape;subst hu;have lf:Nz n f:=oT n f D df fun j=>by have:=hD j;omega
 have qx:=aA (acQ (pre:=[]) df hD rfl);have KI:=Ia n hn;have t0:=aX.new w (.bool s0) (.slice A0 k0 c0) (.slice B0 m0 d0);have hb:Below w.heap.size w (w.alloc (.cells #[.bool s0,.slice A0 k0 c0,.slice B0 m0 d0] 51)):=aU.alloc aL _;have HB:=aA hb;have T0:=aA t0;have Yh:=aA tj;have Hf:=aA hf;have Nf:=aA nf;have Lf:=aA lf;clear hf t0 hb nf df tj lf;unfold bE at Hf ⊢;go_enter func26,ntmps26
 go_wp2_with fail
 generalize je:w.alloc (.cells #[.bool s0,.slice A0 k0 c0,.slice B0 m0 d0] 51)=wt at*
 clear je;have Ht:Hid (aB 34 #[.agg #[.bool s0,.slice A0 k0 c0,.slice B0 m0 d0],.int .i64 (n:Int),.int .i64 0,.slice (some ⟨wt.heap.size,0,none⟩) n n,.slice none 0 0] (World.drew (wt.alloc (.cells (ints (List.replicate n 0)).toArray 3))) (wJ wt wt.heap.size n 0 C (List.replicate n 0) (dW n [] f))):=by
  have hW:Below wt.heap.size wt wt:=aU;have h:=Mn C (by omega) n n 0 wt (World.drew (wt.alloc (.cells (ints (List.replicate n 0)).toArray 3))) _ f wt.heap.size (List.replicate n 0) (.slice none 0 0) [] [] (by omega) hn (Hf.o.aC HB.o) ((QX _ _ _ n hn hW.size).aC aU.drew) (GP.start _ _ _ _ ((hW.alloc hW.size _).drew)) Nf.o Lf.o (by rw [x9];have:=Yh.o;simp;omega);rw [x9,og] at h;exact h
 have eF:Hid (∀W,Below wt.heap.size wt W->(fun W=>W.cell? ⟨w.heap.size,0,none⟩=some (.bool s0)∧W.cell? ⟨w.heap.size,1,none⟩=some (.slice A0 k0 c0)∧W.cell? ⟨w.heap.size,2,none⟩=some (.slice B0 m0 d0)) W):=fun W hW=>⟨((T0.o.aC hW)).cell0,((T0.o.aC hW)).cell1,((T0.o.aC hW)).aN⟩;refine fh (S:=fun W=>W.cell? ⟨w.heap.size,0,none⟩=some (.bool s0)∧W.cell? ⟨w.heap.size,1,none⟩=some (.slice A0 k0 c0)∧W.cell? ⟨w.heap.size,2,none⟩=some (.slice B0 m0 d0)) (z:=99) (by kernel_rfl) ?_;have hHeld:=eF.o _ (Below.refl wt.heap.size wt).drew;try dsimp only at hHeld
 refine tk 99 0 (.agg #[.bool s0,.slice A0 k0 c0,.slice B0 m0 d0]) rfl hHeld ?_;try simp only [fx,Act.put]
 refine tk 99 1 (.int .i64 (n:Int)) rfl hHeld ?_;try simp only [fx,Act.put]
 refine tk 99 2 (.int .i64 (n:Int)) rfl hHeld ?_;try simp only [fx,Act.put]
 refine aT (rs:=[3]) (by kernel_rfl) (by simp) ?_;refine aK.cons rfl (by decide) (fun KK bu=> ?_) aK.nil;go_simp;refine bu.o _ _ (eF.o _ (aU.alloc aL (.cells (ints (List.replicate n 0)).toArray 3)).drew) (fun hHeld=> ?_);clear bu KK;try dsimp only at hHeld
 try simp only [fx,Act.put]
 refine aT (rs:=[4]) (by kernel_rfl) (by simp) ?_;refine aK.cons rfl (by decide) (fun KK bu=> ?_) aK.nil;go_simp;refine Ht.o.mono ?_;rintro e w1 ⟨v1,E1,es1,rfl,q1,q2,q3⟩;have Q3:=aA q3;obtain ⟨Av,cv,hv⟩:=kI q3.own;subst hv;have Hge:=aA q1.lo;have Im:Hid ((fun W=>W.cell? ⟨w.heap.size,0,none⟩=some (.bool s0)∧W.cell? ⟨w.heap.size,1,none⟩=some (.slice A0 k0 c0)∧W.cell? ⟨w.heap.size,2,none⟩=some (.slice B0 m0 d0)) w1):=eF.o _ q3.aC;clear q1 q2 q3;go_wp2_with fail
 refine bu.o _ _ Im.o (fun hHeld=> ?_);clear bu KK;try dsimp only at hHeld
 try simp only [fx,Act.put]
 refine aT (rs:=[5]) (by kernel_rfl) (by simp) ?_;refine aK.cons rfl (by decide) (fun KK bu=> ?_) aK.nil;go_simp;refine bu.o _ _ Im.o (fun hHeld=> ?_);clear bu KK;try dsimp only at hHeld
 try simp only [fx,Act.put]
 refine fE (by kernel_rfl) ?_ _;clear hHeld Im eF Ht Hf Nf Lf T0;have GK:Hid (E1.length=(dW n [] f).length):=by
  show _=_;rw [<- Q3.o.eq,au,dJ]
 have Wq:Hid (Below w.heap.size w w1):=HB.o.tm Q3.o.aC;by_cases h0:E1.length=0
 . have hM:dW n [] f=[]:=lK (by rw [<- GK.o];exact h0)
   have hp:iy n f=[]:=by unfold iy;rw [hM];rfl
   have hz:((E1.length:Int)==0)=true:=by rw [h0];rfl
   have F:Hid (yu w n f (.returned (.tuple #[.slice none 0 0,.int .i64 0])) w1):=by
    refine ⟨f,.inl rfl,(fun t L e=>by rw [hp] at e;cases e),none,0,[],rfl,aL,by omega,iI.nil _ _,eH.nil n,?_,Wq.o⟩;rw [hp];exact jI.refl _ _
   clear hM hp h0;go_wp2_with fail
   go_ret2;exact F.o
 . have hz:((E1.length:Int)==0)=false:=mD.2 (by omega)
   have hcn:=Yh.o;have hE1:E1.length<=4096:=by rw [GK.o];exact hcn
   obtain ⟨B9,d9,hv9,jQ,Yt,ht⟩:=jK Q3.o.own rfl Q3.o.ok;injection hv9 with hv9 _ akN
   subst hv9;subst akN;have Ce:=aA (apj Av E1.length cv (E1.map (·.2)) w1 ht (by omega) (by omega));clear ht jQ Yt hcn;go_wp2_with fail
   refine Ce.o.mono ?_;rintro e w2 ⟨t,Ai,ci,Ei,ei,QG,rfl,cN⟩;obtain ⟨R,hR⟩:=Z3 Q3.o.eq QG;have Q4:=aA (Q3.o.jX cN);have aOn:Hid (Below w.heap.size w w2):=Wq.o.tm cN;have ZF:Hid (Below w.heap.size w wt):=HB.o;have alw:=aA (iE Hge.o.2 cN.size);clear QG cN Ce Q3 Wq;obtain ⟨⟨sx,xs⟩,ps⟩:=t;have aLb:=fun W=>TU sx Ai xs.length ci Ei ps.length ei W;have aLa:=fun W=>YS sx Ai xs.length ci W;cases sx with
   | false=>
     have sX:=aA (akm hR rfl);clear hR;obtain ⟨B8,d8,Yq,Cn⟩:=Kw Q4.o hn hC (jI.perm (Uc _).symm) qx.o Yh.o;injection Yq with Yq _ akP
     subst Yq;subst akP;have CN:=aA Cn;clear Cn Q4;(go_wp2_with fail);refine CN.o.mono ?_;intro e w3 h3;obtain ⟨A3,c3,L3,rfl,p1,p2,p3,p4,p5,p6⟩:=h3;have F:Hid (yu w n f (.returned (.tuple #[.slice A3 L3.length c3,.int .i64 0])) w3):=⟨f,.inl rfl,sX.o,A3,c3,L3,rfl,p1,p2,p3,p4,p5,ZF.o.tm p6⟩;clear p3 p4 p5 p6;(go_wp2_with fail);go_ret2;exact F.o
   | true=>
     have sX:=aA (afa hR rfl);clear hR;obtain ⟨g1,Nb,wN,wU,S6⟩:=Q4.o.own.form (by omega);injection wN with wN _ RU
     subst wN;subst RU;(go_wp2_with fail);go_loopw [24] (fun kk wr=>∃(k:Nat) (E:List ax),k<=E1.length∧kk=.int .i64 (k:Int)∧Hid (E.length=E1.length)∧Hid (GP 44 wt wr wt.heap.size n C (.slice (some ⟨g1,0,none⟩) E1.length cv) E (EK k (dW n [] f)))∧Hid (wt.heap.size<wr.heap.size)) (fun kk _=>E1.length-(intOf kk).toNat)
     case atStart=>exact ⟨0,E1,bL _,rfl,rfl,Q4.o,alw.o⟩
     case round=>
      obtain ⟨k,E,hk,rfl,hE,hT,RZ⟩:=hrel;obtain ⟨wp,rfl⟩:∃wp:World,wp=wr:=⟨_,rfl⟩;by_cases hlt:k<E1.length
      . have dH:(k:Int)<(E1.length:Int):=by omega
        (have wT:(0:Int)<=(k:Int):=by omega);(have rM:k<E.length:=by rw [hE.o];exact hlt);obtain ⟨x0,x1,x2⟩:=jL rM;have own:=hT.o.own;rw [hE.o] at own;have a0:=own.cellAt (3*k) (by omega);have a1:=own.cellAt (3*k+1) (by omega);rw [x0] at a0;rw [x1] at a1;rw [aq 3 k] at a0 a1;have z0:=own.frozenAt (k*3);have z1:=own.frozenAt (k*3+1);have LP:=own.lt g1 rfl;have oH:=hT.o.ok _ (bR rM);have wV:=hT.o.far _ (bR rM);have Ju:=hT.o.co _ (bR rM);have hMk:(dW n [] f)[k]? =some (bS (E[k]).2):=by
         rw [<- PK k,<- hT.o.eq];unfold aP;rw [List.getElem?_map,List.getElem?_map,uT rM];rfl
        have HMk:=aA (Ky k _ _ hMk);have Hx:=aA (show E[k]=E[k] from rfl);have Cn:=aA (fun W (hW:Below wp.heap.size wp W)=>ZH (E[k]).2.1.1 (E[k]).1.1.1 (E[k]).2.1.2.length (E[k]).1.1.2 (E[k]).2.1.2 W (oH.2.2.2.2.1.aC hW) oH.1 oH.2.1 (by omega));have F:Hid (∀(w3:World) (s':Bool) (A':Option Addr) (k' c':Nat) (ls:List Int),Below wp.heap.size wp w3->k'<=c'->c'<=9223372036854775807->k'<=(E[k]).2.1.2.length->aD w3 A' k' ls->dN s' ls (-aI (E[k]).2.1.1 (E[k]).2.1.2)->(0<k'->∀y,A'=some y->wp.heap.size<=y.block)->
         w3.frozen? ⟨g1,k*3,none⟩=false∧w3.frozen? ⟨g1,k*3+1,none⟩=false∧w3.cell? ⟨g1,k*3,none⟩=some (.bool (E[k]).2.1.1)∧w3.cell? ⟨g1,k*3+1,none⟩=some (.slice (E[k]).1.1.1 (E[k]).2.1.2.length (E[k]).1.1.2)∧g1<w3.heap.size∧∃E2:List ax,Hid (E2.length=E1.length)∧Hid (GP 44 wt ((w3.setCell ⟨g1,k*3,none⟩ (.bool s')).setCell ⟨g1,k*3+1,none⟩ (.slice A' k' c')) wt.heap.size n C (.slice (some ⟨g1,0,none⟩) E1.length cv) E2 (EK (k+1) (dW n [] f)))∧Hid (wt.heap.size<((w3.setCell ⟨g1,k*3,none⟩ (.bool s')).setCell ⟨g1,k*3+1,none⟩ (.slice A' k' c')).heap.size)):=fun w3 s' A' k' c' ls nZ r1 r2 r3 r4 r5 r6=>by
         obtain rfl:=r4.len;refine ⟨(nZ.frozen (p:=⟨g1,k*3,none⟩) LP.2).trans z0,(nZ.frozen (p:=⟨g1,k*3+1,none⟩) LP.2).trans z1,(nZ.cell (p:=⟨g1,k*3,none⟩) LP.2).trans a0,(nZ.cell (p:=⟨g1,k*3+1,none⟩) LP.2).trans a1,iE LP.2 nZ.size,?_⟩;have ala:=oH.aC nZ;have hx:gV w3 ((((A',c'),(E[k]).1.2),((s',ls),(E[k]).2.2)):ax):=⟨r1,r2,ala.2.2.1,ala.2.2.2.1,r4,ala.2.2.2.2.2⟩;have sZ:rR (fun b=>b≠g1∧b≠wt.heap.size) ((((A',c'),(E[k]).1.2),((s',ls),(E[k]).2.2)):ax):=⟨fun q0 y hy=>by
          have h9:=r6 q0 y hy;have h8:=RZ.o;exact ⟨by omega,by omega⟩,fun q0 y hy=>by
          have h9:=wV.2 q0 y hy;exact ⟨fun e=>h9.1 (by rw [e];rfl),h9.2⟩⟩
         obtain ⟨u1,u2⟩:=(hT.o.jX nZ).awp hE.o (x:=(((A',c'),(E[k]).1.2),((s',ls),(E[k]).2.2))) rM rfl rfl hx (aG r3 Ju) sZ;have ev:bS ((s',ls),(E[k]).2.2)=((bS (E[k]).2).1, -(bS (E[k]).2).2):=by
          show ((E[k]).2.2,aI s' ls)=_;rw [r5.eq];rfl
         rw [ev,HMk.o] at u2;refine ⟨_,u1,u2,?_⟩;have h8:=RZ.o;have h7:=nZ.size;show wt.heap.size<_;simp;omega
        clear x0 x1 x2 own oH wV Ju hMk HMk Hx hT hE;generalize (E[k]).2.1.1=sx1 at*
        generalize (E[k]).2.1.2.length=lx1 at*
        generalize (E[k]).1.1.1=Ax1 at*
        generalize (E[k]).1.1.2=cx1 at*
        (go_wp2_with fail);refine (Cn.o wp aU).mono ?_;rintro e w3 ⟨s',A',k',c',ls,rfl,r1,r2,r3,r4,r5,r6,r7⟩;obtain ⟨f0,f1,y0,y1,yl,E2,u1,u2,u3⟩:=F.o w3 s' A' k' c' ls r7 r1 r2 r3 r4 r5 r6;clear F Cn r1 r2 r3 r4 r5 r6 r7 a0 a1 z0 z1;(go_wp2_with fail);go_roundw
        case rel=>exact ⟨k+1,E2,by omega,by go_num,u1,u2,u3⟩
        case measure=>simp [intOf];omega
      . have dH:¬(k:Int)<(E1.length:Int):=by omega
        have eR:=PL (dW n [] f) k (by have:=GK.o;omega);have hT2:=hT.o;rw [eR] at hT2;have hM:jI n ((dW n [] f).map fun t=>(t.1, -t.2)) (iy n (-f)):=by
         rw [yR];unfold iy;rw [Ub];exact jI.perm (Uc _).symm
        obtain ⟨B8,d8,Yq,Cn⟩:=Kw hT2 hn hC hM (afn qx.o) (by rw [dJ];exact Yh.o);rw [hE.o] at Yq Cn;injection Yq with Yq _ akP
        subst Yq;subst akP;have CN:=aA Cn;clear Cn hT2 eR hM hT hE;(go_wp2_with fail);refine CN.o.mono ?_;intro e w3 h3;obtain ⟨A3,c3,L3,rfl,p1,p2,p3,p4,p5,p6⟩:=h3;have F:Hid (yu w n f (.returned (.tuple #[.slice A3 L3.length c3,.int .i64 0])) w3):=⟨-f,.inr rfl,sX.o,A3,c3,L3,rfl,p1,p2,p3,p4,p5,ZF.o.tm p6⟩;clear p3 p4 p5 p6;(go_wp2_with fail);go_ret2;exact F.o
