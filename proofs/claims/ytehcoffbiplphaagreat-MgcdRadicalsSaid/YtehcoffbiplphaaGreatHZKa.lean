import Derived.Test.YtehcoffbiplphaaGreatHTrms
import Derived.Test.YtehcoffbiplphaaGreatHDvA
set_option linter.all false
set_option maxHeartbeats 1000000
set_option maxRecDepth 100000
namespace Go.Proofs.YtehcoffbiplphaaGreat
open Go.Proofs.Tryz
variable {xs ls:List Int} {w:World} {P:Program} {ty:TypeId}
def agZ {a b:Nat}(h:b<=a):¬ji a b<0:=by unfold ji;rw [aY (by omega)];split<;>omega
def EU (h:aQ xs) {n:Nat}(hn:xs.length=n) (neg:Bool):dN (neg && decide (0<cU xs n)) (xs.take (cU xs n)) (aI neg xs):=by
 obtain ⟨p1,p2⟩:=bF h hn;have hl:=cS xs n;have hlen:(xs.take (cU xs n)).length=cU xs n:=by rw [cQ];omega
 have h0:=p1.kN;refine ⟨p1,?_,fun e=> ?_⟩
 . unfold aI
   cases neg with
   | false=>simp only [Bool.false_and,AO,E3];rw [p2]
   | true=>
     by_cases e:0<cU xs n
     . simp only [Bool.true_and,DM e,tH];rw [p2]
     . simp only [Bool.true_and,uJ e,tH,E3,AO]
       have:=h0.2 (by omega);omega
 . rw [hlen]
   cases neg with
   | false=>simp at e
   | true=>simpa using e
def Pw (s:Bool) (xs:List Int):aI (!s) xs= -aI s xs:=by unfold aI;cases s<;>simp
def Px {s t:Bool} {ys zs:List Int}(h:limbs zs=limbs xs*limbs ys):aI (s !=t) zs=aI s xs*aI t ys:=by
 unfold aI;cases s<;>cases t<;>simp [h,E0,Nq]
open Go.RowKit
def pX (w:World) (z:Int) (K:Nat) (e:Ending) (w':World):Prop:=
 ∃s A k c ls,e=.returned (.agg #[.bool s,.slice A k c])∧k<=c∧c<=9223372036854775807∧k<=K∧aD w' A k ls∧dN s ls z∧Below w.heap.size w w'
def iA (w:World) (z:Int) (K:Nat) (e:Ending) (w':World):Prop:=
 ∃s A k c ls,e=.returned (.agg #[.bool s,.slice A k c])∧k<=c∧c<=9223372036854775807∧k<=K∧aD w' A k ls∧dN s ls z∧(0<k->∀y,A=some y->w.heap.size<=y.block)∧Below w.heap.size w w'
def iA.z {z:Int} {K:Nat} {e:Ending} {w':World}(h:iA w z K e w'):pX w z K e w':=by
 obtain ⟨s,A,k,c,ls,h1,h2,h3,h4,h5,h6,_,h8⟩:=h;exact ⟨s,A,k,c,ls,h1,h2,h3,h4,h5,h6,h8⟩
def Al (neg:Bool) (A:Option Addr) (n c:Nat) (xs:List Int) (w:World) (hx:aD w A n xs) (hn:n<=c) (hc:c<=9223372036854775807) (Dp:n<=8500000000000):
 aB 80 #[.bool neg,.slice A n c] w fun e w'=>∃s A k c ls,e=.returned (.agg #[.bool s,.slice A k c])∧k<=c∧c<=9223372036854775807∧k<=n∧aD w' A k ls∧dN s ls (aI neg xs)∧(0<k->∀y,A=some y->w.heap.size<=y.block)∧Below w.heap.size w w':=by
 have hz:=EU hx.ok hx.len neg;have hl:=cS xs n;refine (U6 neg A n c xs w hx hn hc (by omega)).mono ?_;rintro e w' ⟨A1,c1,rfl,h1,h2,h3,h4,h5⟩;exact ⟨_,A1,_,c1,_,rfl,h1,h2,by rw [cQ];omega,h3,hz,h5,h4⟩
def ZH (s:Bool) (A:Option Addr) (n c:Nat) (xs:List Int) (w:World) (hx:aD w A n xs) (hn:n<=c) (hc:c<=9223372036854775807) (Dp:n<=8500000000000):
 aB 45 #[.agg #[.bool s,.slice A n c]] w (iA w (-aI s xs) n):=by
 have Cn:=aA (fun W (h:Below w.heap.size w W)=>Al (!s) A n c xs W (hx.aC h) hn hc Dp);rw [Pw] at Cn;have vh:=(Duo.new w (.bool s) (.slice A n c)).aC (aU.alloc aL (.cells #[.bool false,.slice none 0 0] 41));have hd:=Duo.new (w.alloc (.cells #[.bool s,.slice A n c] 41)) (.bool false) (.slice none 0 0);rw [aJ] at hd;have c0:=vh.cell0;have c1:=vh.cell1;have Hd:=aA hd;clear hd vh hx;go_enter func45,ntmps45
 go_wp2_with fail
 refine (Cn.o _ (by exact (aU.alloc aL _).alloc (by simp) _)).mono ?_;rintro e w1 ⟨s1,A1,k1,rP,ls,rfl,h1,h2,h3,h4,h5,h7,h6⟩;have jQ:=Hd.o.aC h6;have k0:=jQ.cell0;have GZ:=jQ.cell1;have f0:=jQ.frozen 0;have f1:=jQ.frozen 1;have hb:Below w.heap.size w w1:=(((Below.refl _ w).alloc aL _).alloc (by simp) _).trans (h6.mono (by simp;omega));have Jn:=aA jQ;have H7:Hid (0<k1->∀y,A1=some y->w.heap.size<=y.block):=fun h0 y hy=>aG (by simp;omega) (h7 h0 y hy);have H5:=aA h5;clear jQ h6 h5 h7;go_wp2
 exact bK (dO (fn:=f45) rfl _ _ _ _ _ _ _ rfl (Jn.o.set _ _) underlying41 rfl bQ) rfl
  ⟨s1,A1,k1,rP,ls,rfl,h1,h2,h3,Jn.o.limbs _ _ rfl rfl h4,H5.o,H7.o,(hb.setCell (p:=⟨w.heap.size+1,0,none⟩) (by simp) _).setCell (p:=⟨w.heap.size+1,1,none⟩) (by simp) _⟩
def Duo.other {g:Nat} {u v:Value}(h:Duo w g u v) (p:Addr) (hp:p.block≠g) (a:Value):Duo (w.setCell p a) g u v:=by
 unfold Duo at h ⊢;simp [World.setCell,wR,h,hp]
def results_cell_tmp {fn:Func} {p u:Tmp} (h:fn.results=#[.cell p ty,.tmp u]) (tmps:Array Value) (w:World) (g:Nat) (t:TypeId) (cs:Array Value) (fr:Nat×Nat) (d:TypeDesc)
 (hp:tmps.getD p undef=.pointer (some ⟨g,0,none⟩)) (hg:w.heap[g]? =some (.cells cs t fr))
 (hu:P.underlying ty=some d) (hd:(match d with | .struct _ | .array _ _=>true | _=>false)=true) (hi:(P.info? ty).map (·.size)=some cs.size):
 (results fn tmps).run P w=.ok (.tuple #[.agg cs,tmps.getD u undef]) w:=by
 have Gb:tmps[p]?.getD undef=.pointer (some ⟨g,0,none⟩):=by simpa using hp
 simp [results,h,Gb,asAddr,JS w g t ty cs fr d hg hu hd hi]
def BN {fn:Func} {p q u:Tmp} {ty':TypeId}(h:fn.results=#[.cell p ty,.cell q ty',.tmp u]) (tmps:Array Value) (w:World) (g g':Nat) (t t':TypeId) (cs cs':Array Value) (fr fr':Nat×Nat) (d d':TypeDesc)
 (hp:tmps.getD p undef=.pointer (some ⟨g,0,none⟩)) (hg:w.heap[g]? =some (.cells cs t fr))
 (hq:tmps.getD q undef=.pointer (some ⟨g',0,none⟩)) (CO:w.heap[g']? =some (.cells cs' t' fr'))
 (hu:P.underlying ty=some d) (hd:(match d with | .struct _ | .array _ _=>true | _=>false)=true) (hi:(P.info? ty).map (·.size)=some cs.size)
 (hu':P.underlying ty'=some d') (Ra:(match d' with | .struct _ | .array _ _=>true | _=>false)=true) (yz:(P.info? ty').map (·.size)=some cs'.size):
 (results fn tmps).run P w=.ok (.tuple #[.agg cs,.agg cs',tmps.getD u undef]) w:=by
 have Gb:tmps[p]?.getD undef=.pointer (some ⟨g,0,none⟩):=by simpa using hp
 have hq':tmps[q]?.getD undef=.pointer (some ⟨g',0,none⟩):=by simpa using hq
 simp [results,h,Gb,hq',asAddr,JS w g t ty cs fr d hg hu hd hi,JS w g' t' ty' cs' fr' d' CO hu' Ra yz]
def OO (x:Int) (w:World) (h0:0<=x) (h1:x<=9223372036854775807):aB 46 #[.int .i64 x] w (pX w x 1):=by
 have hz:=EU (xs:=[x]) (fun i=>by
  cases i with
  | zero=>exact ⟨h0,by show x<_;omega⟩
  | succ i=>rw [bw (by simp)];omega) (n:=1) rfl false
 refine (aet x w h0 h1).mono ?_;rintro e w' ⟨A,c,rfl,q1,q2,q3,q4⟩;have hl:=cS [x] 1;have e1:aI false [x]=x:=by unfold aI;simp [limbs];omega
 rw [e1,Bool.false_and] at hz;exact ⟨false,A,_,c,_,rfl,q1,q2,by rw [cQ];omega,by rw [cQ] at*;exact q3,hz,q4⟩
def aAz (w:World) (u0 v0 u1 v1 u2 v2 u3 v3:Value):
 Duo ((((w.alloc (.cells #[u0,v0] 41)).alloc (.cells #[u1,v1] 41)).alloc (.cells #[u2,v2] 41)).alloc (.cells #[u3,v3] 41)) w.heap.size u0 v0∧
 Duo ((((w.alloc (.cells #[u0,v0] 41)).alloc (.cells #[u1,v1] 41)).alloc (.cells #[u2,v2] 41)).alloc (.cells #[u3,v3] 41)) (w.heap.size+1) u1 v1∧
 Duo ((((w.alloc (.cells #[u0,v0] 41)).alloc (.cells #[u1,v1] 41)).alloc (.cells #[u2,v2] 41)).alloc (.cells #[u3,v3] 41)) (w.heap.size+1+1) u2 v2∧
 Duo ((((w.alloc (.cells #[u0,v0] 41)).alloc (.cells #[u1,v1] 41)).alloc (.cells #[u2,v2] 41)).alloc (.cells #[u3,v3] 41)) (w.heap.size+1+1+1) u3 v3∧
 Below w.heap.size w ((((w.alloc (.cells #[u0,v0] 41)).alloc (.cells #[u1,v1] 41)).alloc (.cells #[u2,v2] 41)).alloc (.cells #[u3,v3] 41)):=by
 have al:∀(W:World) (o:Obj),Below W.heap.size W (W.alloc o):=fun W o=>aU.alloc aL o;refine ⟨((((Duo.new w u0 v0).aC (al _ _)).aC (al _ _)).aC (al _ _)),?_,?_,?_,?_⟩
 . have:=((Duo.new (w.alloc (.cells #[u0,v0] 41)) u1 v1).aC (al _ (.cells #[u2,v2] 41))).aC (al _ (.cells #[u3,v3] 41))
   rw [aJ] at this;exact this
 . have:=(Duo.new ((w.alloc (.cells #[u0,v0] 41)).alloc (.cells #[u1,v1] 41)) u2 v2).aC (al _ (.cells #[u3,v3] 41))
   rw [aJ,aJ] at this;exact this
 . have:=Duo.new (((w.alloc (.cells #[u0,v0] 41)).alloc (.cells #[u1,v1] 41)).alloc (.cells #[u2,v2] 41)) u3 v3
   rw [aJ,aJ,aJ] at this;exact this
 . exact (((al w _).alloc (by simp) _).alloc (by simp;omega) _).alloc (by simp;omega) _
def aes {neg:Bool} (h:bY ls) (e:limbs ls=limbs xs) {k:Nat}(hk:ls.length=k):dN (neg && decide (0<(k:Int))) ls (aI neg xs):=by
 have hi:=h.kN;refine ⟨h,?_,fun hn=> ?_⟩
 . unfold aI
   cases neg
   . simp [e]
   . by_cases h0:0<k
     . have:decide (0<(k:Int))=true:=DM (by omega)
       rw [this,e];rfl
     . have h1:decide (0<(k:Int))=false:=uJ (by omega)
       have h2:=hi.2 (by omega);rw [h1,<- e,h2];rfl
 . cases neg
   . simp at hn
   . have:=FC (by simpa using hn)
     omega
def BP (s:Bool) (A:Option Addr) (n c:Nat) (xs:List Int) (w:World) (hx:aD w A n xs) (hn:n<=c) (hc:c<=9223372036854775807) (Dp:n<=9000000000000):
 aB 67 #[.agg #[.bool s,.slice A n c]] w (iA w (aI s xs) n):=by
 have Cn:=aA (fun W (h:Below w.heap.size w W)=>VL A n c xs W (hx.aC h) hn hc (by omega));have vh:=(Duo.new w (.bool s) (.slice A n c)).aC (aU.alloc aL (.cells #[.bool false,.slice none 0 0] 41));have hd:=Duo.new (w.alloc (.cells #[.bool s,.slice A n c] 41)) (.bool false) (.slice none 0 0);rw [aJ] at hd;have c0:=vh.cell0;have c1:=vh.cell1;have Hd:=aA hd;have Hd0:=aA vh;clear hd vh hx;go_enter func67,ntmps67
 go_wp2_with fail
 refine (Cn.o _ (by exact (aU.alloc aL _).alloc (by simp) _)).mono ?_;rintro e w1 ⟨A1,k1,rP,l1,rfl,h1,h2,h3,h4,h5,h6,hf,h7⟩;have jQ:=Hd.o.aC h7;have Yt:=Hd0.o.aC h7;have k0:=jQ.cell0;have GZ:=jQ.cell1;have f0:=jQ.frozen 0;have f1:=jQ.frozen 1;have c0':=Yt.cell0;have aMT:=Yt.cell1;have hb:Below w.heap.size w w1:=(((Below.refl _ w).alloc aL _).alloc (by simp) _).trans (h7.mono (by simp;omega));have Jn:=aA jQ;have hz:=aes (neg:=s) h5 h6 h4.len;have hfr:0<k1->∀y,A1=some y->w.heap.size<=y.block:=fun h0 y hy=>by have:=hf h0 y hy;simp at this;omega
 have Fin:Hid (∀b:Bool,b=(s && decide (0<(k1:Int)))->iA w (aI s xs) n (.returned (.agg #[.bool b,.slice A1 k1 rP])) ((w1.setCell ⟨w.heap.size+1,0,none⟩ (.bool b)).setCell ⟨w.heap.size+1,1,none⟩ (.slice A1 k1 rP))):=fun b mN=>by
  subst mN;exact ⟨_,A1,k1,rP,l1,rfl,h1,h2,h3,jQ.limbs _ _ rfl rfl h4,hz,hfr,(hb.setCell (p:=⟨w.heap.size+1,0,none⟩) (by simp) _).setCell (p:=⟨w.heap.size+1,1,none⟩) (by simp) _⟩
 clear jQ Yt h4 h5 h6 h7 hz hb hf hfr;cases s with
 | false=>
   go_wp2
   exact bK (dO (fn:=f67) rfl _ _ _ _ _ _ _ rfl (Jn.o.set _ _) underlying41 rfl bQ) rfl (Fin.o _ rfl)
 | true=>
   go_wp2
   exact bK (dO (fn:=f67) rfl _ _ _ _ _ _ _ rfl (Jn.o.set _ _) underlying41 rfl bQ) rfl (Fin.o _ (by simp))
def MZ (s:Bool) (A:Option Addr) (n c:Nat) (xs:List Int) (w:World) (hx:aD w A n xs) (hn:n<=c) (hc:c<=9223372036854775807) (Dp:n<=9000000000000):
 aB 67 #[.agg #[.bool s,.slice A n c]] w (pX w (aI s xs) n):=
 (BP s A n c xs w hx hn hc Dp).mono fun _ _ h=>h.z
def aoP (b:Bool) (F:FuncId) (s:Bool) (A:Option Addr) (n c:Nat) (xs:List Int) (w:World) (hx:aD w A n xs) (hn:n<=c) (hc:c<=9223372036854775807) (Dp:n<=9000000000000) (hF:F=74∧b=(!s)∨F=92∧b=false):
 aB F #[.agg #[.bool s,.slice A n c]] w (pX w (aI b xs) n):=by
 have Cn:=aA (fun W (h:Below w.heap.size w W)=>MZ b A n c xs W (hx.aC h) hn hc Dp);have vh:=(Duo.new w (.bool s) (.slice A n c)).aC (aU.alloc aL (.cells #[.bool false,.slice none 0 0] 41));have hd:=Duo.new (w.alloc (.cells #[.bool s,.slice A n c] 41)) (.bool false) (.slice none 0 0);rw [aJ] at hd;have c0:=vh.cell0;have c1:=vh.cell1;have Hd:=aA hd;clear hd vh hx;rcases hF with ⟨rfl,rfl⟩ | ⟨rfl,rfl⟩;all_goals
  first
  | with_reducible show Calls _ 74 _ _ _
    go_enter func74,ntmps74
  | go_enter func92,ntmps92
  go_wp2_with fail
  refine (Cn.o _ (by exact (aU.alloc aL _).alloc (by simp) _)).mono ?_;rintro e w1 ⟨s1,A1,k1,rP,ls,rfl,h1,h2,h3,h4,h5,h6⟩;have jQ:=Hd.o.aC h6;have k0:=jQ.cell0;have GZ:=jQ.cell1;have f0:=jQ.frozen 0;have f1:=jQ.frozen 1;have hb:Below w.heap.size w w1:=(((Below.refl _ w).alloc aL _).alloc (by simp) _).trans (h6.mono (by simp;omega));have Jn:=aA jQ;have H5:=aA h5;clear jQ h6 h5;go_wp2
  exact bK (dO (by rfl) _ _ _ _ _ _ _ (by rfl) (Jn.o.set _ _) underlying41 rfl bQ) rfl
   ⟨s1,A1,k1,rP,ls,rfl,h1,h2,h3,Jn.o.limbs _ _ rfl rfl h4,H5.o,(hb.setCell (p:=⟨w.heap.size+1,0,none⟩) (by simp) _).setCell (p:=⟨w.heap.size+1,1,none⟩) (by simp) _⟩
def aoO (s:Bool) (A:Option Addr) (n c:Nat) (xs:List Int) (w:World) (hx:aD w A n xs) (hn:n<=c) (hc:c<=9223372036854775807) (Dp:n<=9000000000000):
 aB 74 #[.agg #[.bool s,.slice A n c]] w (pX w (-aI s xs) n):=Pw s xs ▸ aoP _ _ s A n c xs w hx hn hc Dp (.inl ⟨rfl,rfl⟩)
def ahP (s:Bool) (A:Option Addr) (n c:Nat) (xs:List Int) (w:World) (hx:aD w A n xs) (hn:n<=c) (hc:c<=9223372036854775807) (Dp:n<=9000000000000):
 aB 92 #[.agg #[.bool s,.slice A n c]] w (pX w (((limbs xs:Nat):Int)) n):=aoP _ _ s A n c xs w hx hn hc Dp (.inr ⟨rfl,rfl⟩)
def Oi (z:Int):Int:=if z<0 then -1 else if 0<z then 1 else 0
def aeQ {s:Bool} {z:Int}(h:dN s ls z) (hs:s=true):Oi z= -1:=by
 have h1:=h.nz hs;have h2:=h.pl.kN;have h3:=h.eq;subst hs;unfold aI at h3;simp only [tH] at h3;unfold Oi;rw [aM (by omega)]
def aeP {z:Int}(h:dN false ls z):Oi z=if 0<(ls.length:Int) then 1 else 0:=by
 have h2:=h.pl.kN;have h3:=h.eq;unfold aI at h3;simp only [E3,AO] at h3;unfold Oi;rw [aY (by omega)];by_cases h0:0<ls.length
 . rw [aM (by omega),aM (by omega)]
 . rw [aY (by omega),aY (by omega)]
def R9 (s:Bool) (A:Option Addr) (n c:Nat) (xs:List Int) (w:World) (hx:aD w A n xs) (hn:n<=c) (hc:c<=9223372036854775807) (Dp:n<=9000000000000):
 aB 68 #[.agg #[.bool s,.slice A n c]] w fun e w'=>e=.returned (.int .i64 (Oi (aI s xs)))∧Below w.heap.size w w':=by
 have Cn:=aA (fun W (h:Below w.heap.size w W)=>MZ s A n c xs W (hx.aC h) hn hc Dp);have vh:=Duo.new w (.bool s) (.slice A n c);have c0:=vh.cell0;have c1:=vh.cell1;clear vh hx;generalize aI s xs=z at*
 go_enter func68,ntmps68
 go_wp2_with fail
 refine (Cn.o _ (by exact aU.alloc aL _)).mono ?_;rintro e w1 ⟨s1,A1,k1,rP,ls,rfl,h1,h2,h3,h4,h5,h6⟩;have hb:Below w.heap.size w w1:=((Below.refl _ w).alloc aL _).trans (h6.mono (by simp));have hl:=h4.len;have Hb:=aA (fun o=>hb.alloc hb.size o);cases s1 with
 | true=>
   have Hs:=aA (aeQ h5 rfl);clear h4 h5 h6 hb hl;go_wp2
   go_ret;rw [Hs.o];exact ⟨rfl,Hb.o _⟩
 | false=>
   have hs:=aeP h5;rw [hl] at hs;by_cases h0:0<k1
   . rw [aM (by omega)] at hs
     (have h0':(0:Int)<(k1:Int):=by omega);have Hs:=aA hs;clear h4 h5 h6 hb hl hs;(go_wp2);go_ret;rw [Hs.o];exact ⟨rfl,Hb.o _⟩
   . rw [aY (by omega)] at hs
     (have h0':¬(0:Int)<(k1:Int):=by omega);have Hs:=aA hs;clear h4 h5 h6 hb hl hs;(go_wp2);go_ret;rw [Hs.o];exact ⟨rfl,Hb.o _⟩
def Zi (w:World):
 aB 73 #[.int .i64 (-1)] w (pX w (-1) 1):=by
 have Cn:=aA (fun W (h:aD W (some ⟨w.heap.size+1,0,none⟩) 1 [1])=>MZ true (some ⟨w.heap.size+1,0,none⟩) 1 1 [1] W h (by omega) (by omega) (by omega));have hv:Hid (aI true [1]= -1):=by
  show -((limbs [1]:Nat):Int)= -1;rfl
 rw [hv.o] at Cn;have hd:=(Duo.new w (.bool false) (.slice none 0 0)).aC (aU.alloc aL (.cells #[.int .u64 1] 38));have uG:=aD.one (w.alloc (.cells #[.bool false,.slice none 0 0] 41)) 38 (x:=1) (by omega) (by omega);rw [aJ] at uG;have Hlm:=aA uG;have Hd:=aA hd;clear hd uG;go_enter func73,ntmps73
 go_wp2_with fail
 refine (Cn.o _ (by exact Hlm.o)).mono ?_;rintro e w1 ⟨s1,A1,k1,c1,ls,rfl,g1,g2,g3,g4,g5,hb⟩;have jQ:=Hd.o.aC hb;have k0:=jQ.cell0;have GZ:=jQ.cell1;have f0:=jQ.frozen 0;have f1:=jQ.frozen 1;have cN:Below w.heap.size w w1:=(((Below.refl _ w).alloc aL _).alloc (by simp) _).trans (hb.mono (by simp;omega));have Jn:=aA jQ;have G5:=aA g5;clear jQ hb g5;go_wp2
 exact bK (dO (fn:=f73) rfl _ _ _ _ _ _ _ rfl (Jn.o.set _ _) underlying41 rfl bQ) rfl
  ⟨s1,A1,k1,c1,ls,rfl,g1,g2,g3,Jn.o.limbs _ _ rfl rfl g4,G5.o,(cN.setCell (p:=⟨w.heap.size,0,none⟩) aL _).setCell (p:=⟨w.heap.size,1,none⟩) aL _⟩
