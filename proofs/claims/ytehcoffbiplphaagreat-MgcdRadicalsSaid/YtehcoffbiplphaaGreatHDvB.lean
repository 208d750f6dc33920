import Derived.Test.YtehcoffbiplphaaGreatHDvA
import Derived.Lib.AppendZerosOnto
set_option linter.all false
set_option maxHeartbeats 2000000
set_option maxRecDepth 100000
namespace Go.Proofs.YtehcoffbiplphaaGreat
open Go.Proofs.Tryz
open Go.RowKit
variable {s q base n m c g X Y:Nat} {u:Int} {xs us rs qs:List Int} {w:World} {e:TypeId} {P:Program} {ops:Array Oper} {o:Oper} {a:Act} {K:Act->World->Prop} {Q:Exit->Act->World->Prop} {E:Prop}
def kZ (hs:s<=64):(2:Nat)^s*2^(64-s)=18446744073709551616:=by
 rw [<- iD,show s+(64-s)=64 by omega]
def MP {v:Nat}(hs:s<=64) (hq:q<2^s):(v*2^s+q) % 18446744073709551616=v % 2^(64-s)*2^s+q∧(v*2^s+q) / 18446744073709551616=v / 2^(64-s):=by
 have hp:=kZ hs;have hP:0<2^s:=lJ s;have hR:0<2^(64-s):=lJ _;have h1:=su v (2^(64-s));have h2:=jy v hR;have h3:v % 2^(64-s)*2^s+q<18446744073709551616:=by
  have h4:(v % 2^(64-s)+1)*2^s<=2^(64-s)*2^s:=bG _ h2;rw [aq (2^(64-s)),hp,bO] at h4;omega
 have h5:v*2^s+q=18446744073709551616*(v / 2^(64-s))+(v % 2^(64-s)*2^s+q):=by
  have h6:v*2^s=2^s*2^(64-s)*(v / 2^(64-s))+v % 2^(64-s)*2^s:=by
   rw [dA,aq (2^s),<- bO,h1]
  rw [hp] at h6;omega
 rw [h5,Nat.mul_add_mod,Fz h3,Nat.mul_add_div (by omega),Fx h3];exact ⟨rfl,rfl⟩
def aeO (hs:s<64) (h0:0<=u) (h1:u<18446744073709551616) (hq:q<2^s):
 bits .or .u64 (IntKind.u64.wrap (u*2^s)) (q:Int)=(((u.toNat*2^s+q) % 18446744073709551616:Nat):Int)∧u / 2 / 2^(63-s)=(((u.toNat*2^s+q) / 18446744073709551616:Nat):Int):=by
 obtain ⟨v,rfl⟩:=JR h0;have hp:=kZ (s:=s) (by omega);obtain ⟨e1,e2⟩:=MP (v:=v) (by omega) hq;rw [jc,e1,e2];have hq2:(q:Int)<2^s:=by rw [<- gm];exact Int.ofNat_lt.2 hq
 have hR:0<2^(64-s):=lJ _;have h2:=jy v hR;have h4:(v % 2^(64-s)+1)*2^s<=2^(64-s)*2^s:=bG _ h2;rw [aq (2^(64-s)),hp,bO] at h4;have e3:IntKind.u64.wrap ((v:Int)*2^s)=((v % 2^(64-s):Nat):Int)*2^s:=by
  rw [ag,<- gm,<- sr,<- sr];have e4:=(MP (v:=v) (q:=0) (by omega) (lJ s)).1;rw [ja,ja] at e4;rw [<- e4];rfl
 constructor
 . rw [e3,zT (by omega) (by omega) hq2 ?_ (by omega),lI,sr,gm]
   rw [<- gm,<- sr];omega
 . have e5:(v:Int) / 2 / 2^(63-s)=((v / 2 / 2^(63-s):Nat):Int):=by rw [Qz,Qz,gm];rfl
   rw [e5,Wd,<- Nat.pow_succ',show (63-s).succ=64-s by omega]
def Ql (hx:aQ xs) (hs:s<64):∀k,(ah (jP xs (2^s)) k).2<2^s
 | 0=>lJ s
 | k+1=>by
   have ih:=Ql hx hs k;show ((nth xs k).toNat*2^s+(ah (jP xs (2^s)) k).2) / 18446744073709551616<2^s;have h:=hx k;rw [L9 (by omega)];have h1:((nth xs k).toNat+1)*2^s<=18446744073709551616*2^s:=bG _ (by omega);rw [bO] at h1;rw [aq (2^s)];omega
def MG (hs:s<64):2^s<18446744073709551616:=by
 have:=kZ (s:=s) (by omega);have h1:2<=2^(64-s):=by
  rw [show 64-s=(63-s)+1 by omega,kY];have:=lJ (63-s);omega
 have h2:2^s*2<=2^s*2^(64-s):=bn _ h1;have:=lJ s;omega
def aam (A:Option Addr) (n c ga gb:Nat) (xs:List Int) (s k q:Nat) (w:World) (ha:w.cell? ⟨ga,0,none⟩=some (.slice A n c)) (hb:w.cell? ⟨gb,0,none⟩=some (.int .i64 (s:Int))) (hx:aD w A n xs)
 (hk:k<n) (hn:n<=8500000000000) (hs:s<64) (hq:q<2^s):
 aB 142 #[.int .i64 (k:Int),.int .u64 (q:Int),.pointer (some ⟨ga,0,none⟩),.pointer (some ⟨gb,0,none⟩)] w fun e w'=>e=.returned (.tuple #[.int .u64 ((jP xs (2^s) k q).1:Int),.int .u64 ((jP xs (2^s) k q).2:Int)])∧∃j,w'=w.drewN j:=by
 have h1:=hx.ok k;obtain ⟨b,o,rfl,I4,hc⟩:=hx.at_ (by omega);have CP:=hc k hk;obtain ⟨e1,e2⟩:=aeO (u:=nth xs k) hs h1.1 h1.2 hq;have f1:((jP xs (2^s) k q).1:Int)=((((nth xs k).toNat*2^s+q) % 18446744073709551616:Nat):Int):=rfl;have f2:((jP xs (2^s) k q).2:Int)=((((nth xs k).toNat*2^s+q) / 18446744073709551616:Nat):Int):=rfl;rw [f1,f2];have wT:(0:Int)<=(k:Int):=by omega
 have hkn:(k:Int)<(n:Int):=by omega
 have e3:(s:Int).tmod 64=(s:Int):=by rw [Wc (by omega)];omega
 have e4:IntKind.i64.wrap (63-(s:Int))=((63-s:Nat):Int):=by rw [bP _ (by omega)];omega
 have Ah:(0:Int)<=(s:Int):=by omega
 have uF:¬(s:Int)<0:=by omega
 generalize ((nth xs k).toNat*2^s+q) % 18446744073709551616=r1 at*
 generalize ((nth xs k).toNat*2^s+q) / 18446744073709551616=r2 at*
 generalize nth xs k=u at*
 clear hc hx h1 f1 f2 hq;go_enter func142,ntmps142
 go_wp2_with fail
 go_quiet (fail)
 go_wp2_with fail
 go_ret2;exact ⟨rfl,_,rfl⟩
def OU (a b:Nat) (ha:a<18446744073709551616) (hb:b<18446744073709551616):bits .or .u64 (a:Int) (b:Int)=bits .or .u64 (b:Int) (a:Int):=by
 rw [Nk a b ha hb,Nk b a hb ha,Nat.or_comm]
def vO (xs:List Int) (s k _c:Nat):Nat×Nat:=((nth xs k).toNat / 2^s+(nth xs (k+1)).toNat % 2^s*2^(64-s),0)
def aeN (hx:aQ xs) (hs:s<64) (k c:Nat):(vO xs s k c).1<18446744073709551616:=by
 show (nth xs k).toNat / 2^s+(nth xs (k+1)).toNat % 2^s*2^(64-s)<_;have hp:=kZ (s:=s) (by omega);have hP:0<2^s:=lJ s;have h1:=hx k;have h2:(nth xs k).toNat / 2^s<2^(64-s):=by
  rw [L9 hP,aq,hp];omega
 have h3:=jy (nth xs (k+1)).toNat hP;have h4:((nth xs (k+1)).toNat % 2^s+1)*2^(64-s)<=2^s*2^(64-s):=bG _ h3;rw [hp,bO] at h4;omega
def Oh (hx:aQ xs) (hs:s<64):∀k,k<=xs.length->limbs (ah (vO xs s) k).1*2^s+(nth xs 0).toNat % 2^s=limbs (xs.take k)+2^(64*k)*((nth xs k).toNat % 2^s)
 | 0,_=>by
   show 0*_+_=limbs []+2^0*_;show 0*_+_=0+1*_;omega
 | k+1,hk=>by
   have ih:=Oh hx hs k (by omega);have hl:=cn (vO xs s) k;have e1:(ah (vO xs s) (k+1)).1=(ah (vO xs s) k).1++[((vO xs s k (ah (vO xs s) k).2).1:Int)]:=rfl;rw [e1,vZ,hl,jc,nV (by omega),bO];show _+2^(64*k)*((nth xs k).toNat / 2^s+(nth xs (k+1)).toNat % 2^s*2^(64-s))*2^s+_=_;have hp:=kZ (s:=s) (by omega);have h1:=su (nth xs k).toNat (2^s);have e2:2^(64*k)*((nth xs k).toNat / 2^s+(nth xs (k+1)).toNat % 2^s*2^(64-s))*2^s=2^(64*k)*(2^s*((nth xs k).toNat / 2^s))+2^(64*(k+1))*((nth xs (k+1)).toNat % 2^s):=by
    rw [dA,bO,ak,aq (2^s),dA ((nth xs (k+1)).toNat % 2^s),aq (2^(64-s)),hp,show 64*(k+1)=64*k+64 by omega,iD,dA (2^(64*k)) (2^64)];congr 2
    rw [aq]
   have e3:2^(64*k)*(nth xs k).toNat=2^(64*k)*(2^s*((nth xs k).toNat / 2^s))+2^(64*k)*((nth xs k).toNat % 2^s):=by rw [<- ak,h1]
   rw [e2,e3];omega
def aeL (hx:aQ xs) (hs:s<64):limbs (ah (vO xs s) xs.length).1=limbs xs / 2^s:=by
 have h:=Oh hx hs xs.length aL;rw [bw aL,L4] at h;have h0:(0:Int).toNat % 2^s=0:=Nat.zero_mod _;rw [h0,jZ,ja] at h;have hP:0<2^s:=lJ s;rw [<- h,aq,Nat.mul_add_div hP,Fx (jy _ hP)];rfl
def aeM {v:Int} (hs:s<64) (h0:0<=u) (h1:u<18446744073709551616) (h2:0<=v) (h3:v<18446744073709551616):
 bits .or .u64 (u / 2^s) (IntKind.u64.wrap (IntKind.u64.wrap (v*2)*2^(63-s)))=((u.toNat / 2^s+v.toNat % 2^s*2^(64-s):Nat):Int):=by
 obtain ⟨a,rfl⟩:=JR h0;obtain ⟨b,rfl⟩:=JR h2;rw [jc,jc];have hp:=kZ (s:=s) (by omega);have hP:0<2^s:=lJ s;have h4:a / 2^s<2^(64-s):=by
  rw [L9 hP,aq,hp];omega
 have h5:=jy b hP;have h6:(b % 2^s+1)*2^(64-s)<=2^s*2^(64-s):=bG _ h5;rw [hp,bO] at h6;have hR:=lJ (64-s);have e1:IntKind.u64.wrap (IntKind.u64.wrap ((b:Int)*2)*2^(63-s))=((b % 2^s*2^(64-s):Nat):Int):=by
  have e2:IntKind.u64.wrap (IntKind.u64.wrap ((b:Int)*2)*2^(63-s))=(((b*2^(64-s)) % 18446744073709551616:Nat):Int):=by
   rw [ag,ag,Int.mul_emod,Int.emod_emod_of_dvd _ (Int.dvd_refl _),<- Int.mul_emod,ada,sr,gm,Fw,<- Int.pow_succ',show 63-s+1=64-s by omega];rfl
  rw [e2];have e4:=(MP (v:=b) (q:=0) (s:=64-s) (by omega) hR).1;rw [show 64-(64-s)=s by omega,ja,ja] at e4;rw [e4]
 have e5:(a:Int) / 2^s=((a / 2^s:Nat):Int):=by rw [Qz,gm]
 rw [e1,e5,OU _ _ (by omega) (by omega),Nk _ _ (by omega) (by omega),aq,<- ajb h4];omega
def aal (A:Option Addr) (n c ga gb:Nat) (xs:List Int) (s k q:Nat) (w:World) (ha:w.cell? ⟨ga,0,none⟩=some (.slice A n c)) (hb:w.cell? ⟨gb,0,none⟩=some (.int .i64 (s:Int))) (hx:aD w A n xs)
 (hk:k<n) (hn:n<=8500000000000) (hs:s<64):
 aB 145 #[.int .i64 (k:Int),.int .u64 (q:Int),.pointer (some ⟨ga,0,none⟩),.pointer (some ⟨gb,0,none⟩)] w fun e w'=>e=.returned (.tuple #[.int .u64 ((vO xs s k q).1:Int),.int .u64 ((vO xs s k q).2:Int)])∧∃j,w'=w.drewN j:=by
 have h1:=hx.ok k;have h2:=hx.ok (k+1);have C:=aA (fun W (h:aD W A n xs)=>IV A n c xs (k+1) W h (by omega) (by omega));have Hx:=aA hx;obtain ⟨b,o,rfl,I4,hc⟩:=hx.at_ (by omega);have CP:=hc k hk;have e1:=aeM (u:=nth xs k) (v:=nth xs (k+1)) hs h1.1 h1.2 h2.1 h2.2;have f1:((vO xs s k q).1:Int)=(((nth xs k).toNat / 2^s+(nth xs (k+1)).toNat % 2^s*2^(64-s):Nat):Int):=rfl;have f2:((vO xs s k q).2:Int)=0:=rfl;rw [f1,f2];have wT:(0:Int)<=(k:Int):=by omega
 have hkn:(k:Int)<(n:Int):=by omega
 have e4:IntKind.i64.wrap (63-(s:Int))=((63-s:Nat):Int):=by rw [bP _ (by omega)];omega
 have e5:IntKind.i64.wrap ((k:Int)+1)=((k+1:Nat):Int):=by rw [bP _ (by omega)];omega
 have Ah:(0:Int)<=(s:Int):=by omega
 have uF:¬(s:Int)<0:=by omega
 generalize (nth xs k).toNat / 2^s+(nth xs (k+1)).toNat % 2^s*2^(64-s)=r1 at*
 generalize nth xs (k+1)=v at*
 generalize nth xs k=u at*
 clear hc hx h1 h2 f1 f2;go_enter func145,ntmps145
 go_wp2_with fail
 go_quiet (first | ((go_at_call 124);first | exact gG (C.o _ (Hx.o.drewN _)) | exact jf (C.o _ (Hx.o.drewN _))))
 go_wp2_with fail
 go_ret2;exact ⟨rfl,_,rfl⟩
def afo (A:Option Addr) (n c:Nat) (xs:List Int) (s:Nat) (w:World) (hx:aD w A n xs) (hn:n<=4000000000000) (hs:s<64) (hn0:0<n) (jV:n<=c) (_hc:c<=9223372036854775807):
 aB 119 #[.slice A n c,.int .i64 (s:Int)] w fun e w'=>∃zs,bY zs∧limbs zs=limbs xs / 2^s∧zs.length<=n∧qw w zs e w':=by
 obtain rfl:=hx.len;have oH:=aA (rW (fun k c=>aeN hx.ok hs k c) xs.length);have hlen:=aA (cn (vO xs s) xs.length);have hval:=aA (aeL hx.ok hs);have vk:Below w.heap.size w ((w.alloc (.cells #[.slice A xs.length c] 39)).alloc (.cells #[.int .i64 (s:Int)] 3)):=(aU.alloc aL _).alloc (by simp) _;have Wn:Hid (((w.alloc (.cells #[.slice A xs.length c] 39)).alloc (.cells #[.int .i64 (s:Int)] 3)).cell? ⟨w.heap.size,0,none⟩=some (.slice A xs.length c)):=u9 _ _ _ _;have Uy:Hid (((w.alloc (.cells #[.slice A xs.length c] 39)).alloc (.cells #[.int .i64 (s:Int)] 3)).cell? ⟨w.heap.size+1,0,none⟩=some (.int .i64 (s:Int))):=vA _ _ _ _;have Hx:=aA (hx.aC vk);have hc0:∀k,(ah (vO xs s) k).2=0:=fun k=>by cases k<;>rfl
 have C:Hid (aB 121 #[.int .i64 (xs.length:Int),.func (.func 145) #[] #[.pointer (some ⟨w.heap.size,0,none⟩),.pointer (some ⟨w.heap.size+1,0,none⟩)]] ((w.alloc (.cells #[.slice A xs.length c] 39)).alloc (.cells #[.int .i64 (s:Int)] 3)) fun e w'=>e=.returned (.tuple #[.slice (some ⟨w.heap.size+1+1,0,none⟩) xs.length xs.length,.int .u64 ((ah (vO xs s) xs.length).2:Int)])∧iJ w' (w.heap.size+1+1) 38 (ah (vO xs s) xs.length).1∧Below (w.heap.size+1+1) ((w.alloc (.cells #[.slice A xs.length c] 39)).alloc (.cells #[.int .i64 (s:Int)] 3)) w'):=by
  have h:=qZ _ (.inr (.inr (.inr (.inr rfl)))) (some ⟨w.heap.size,0,none⟩) (some ⟨w.heap.size+1,0,none⟩) (vO xs s) xs.length 1 ((w.alloc (.cells #[.slice A xs.length c] 39)).alloc (.cells #[.int .i64 (s:Int)] 3)) (by omega) (fun j hj=>by rw [hc0];omega) (fun j q W hj hq hW=> ?_)
  . simp only [aJ] at h
    exact h
  . have hsz:=hW.size
    simp only [aJ] at hsz hW;exact aal A xs.length c w.heap.size (w.heap.size+1) xs s j q W ((hW.cell (p:=⟨w.heap.size,0,none⟩) (by show w.heap.size<_;omega)).trans Wn.o) ((hW.cell (p:=⟨w.heap.size+1,0,none⟩) (by show w.heap.size+1<_;omega)).trans Uy.o) (Hx.o.below hW (by simp)) hj (by omega) hs
 have axN:max (s:Int) 0=(s:Int):=by omega
 have Ah:(0:Int)<=(s:Int):=by omega
 have hsd:(s:Int).tdiv 64=0:=by rw [Qx (by omega)];omega
 have hsm:(s:Int).tmod 64=(s:Int):=by rw [Wc (by omega)];omega
 obtain ⟨k,hk⟩:∃k,xs.length=k:=⟨_,rfl⟩;clear hx Wn Uy Hx hc0;rw [hk] at C oH hlen vk hval hn hn0 jV ⊢;clear hk;have hn1:¬(k:Int)<=0:=by omega
 have hn2:(0:Int)<=(k:Int):=by omega
 have hn3:(k:Int)<=(c:Int):=by omega
 go_enter func119,ntmps119
 go_wp2_with fail
 all_goals
  refine C.o.mono ?_;rintro e w1 ⟨rfl,fM,cZ⟩;have GM:=aA (vk.trans (cZ.mono (by omega)));have hL:=fM.limbs oH.o;rw [hlen.o] at hL;have HL:=aA hL;have xC:Hid (w.heap.size<=w.heap.size+1+1):=by show _<=_;omega
  have qm:=aA (bF oH.o hlen.o);clear hL cZ fM;generalize (ah (vO xs s) k).2=q at*
  generalize (ah (vO xs s) k).1=us at*
  generalize w.heap.size+1+1=g at*
  go_wp2_with fail
  refine (cH (some ⟨g,0,none⟩) k k us w1 HL.o aL (by omega)).mono ?_;rintro e w2 ⟨rfl,rfl⟩;have uG:=cS us k;have hln:(us.take (cU us k)).length=cU us k:=by rw [cQ,hlen.o];omega
  have F:Hid (∃zs,bY zs∧limbs zs=limbs xs / 2^s∧zs.length<=k∧qw w zs (.returned (.slice (some ⟨g,0,none⟩) (cU us k) k)) w2):=
   ⟨us.take (cU us k),qm.o.1,by rw [qm.o.2];exact hval.o,by omega,some ⟨g,0,none⟩,cU us k,k,rfl,uG,by omega,HL.o.take uG,fun y hy=>by injection hy with hy;subst hy;exact xC.o,GM.o⟩
  clear uG hln;go_wp2_with fail
  go_ret;exact F.o
def K9 (xs:List Int) (k:Nat):bI (xs.take k)=(bI xs).take k:=by simp [bI]
def Mf {A:Option Addr} {xs:List Value}(h:w.ownsRow base e 1 (.slice A n c) n xs) (hm:m<=n):w.ownsRow base e 1 (.slice A m c) m (xs.take m):=by
 refine ⟨by rw [cQ,h.1];omega,?_⟩;rcases h.2 with ⟨hv,h0⟩ | ⟨g,cap,cur,hv,hb,hg,jV,zA,hcs,ht⟩
 . injection hv with h1 h2 h3
   subst h1;subst h3;have:m=0:=by omega
   subst this;exact .inl ⟨rfl,rfl⟩
 . injection hv with h1 h2 h3
   subst h1;subst h3;refine .inr ⟨g,c,cur,rfl,hb,hg,by omega,zA,hcs,?_⟩;rw [<- ht,acZ,bl,bl,oz hm]
def jA (z:Value) (k:Nat):Builtin.zeroCells #[z] k=(List.replicate k z).toArray:=by
 apply Array.ext
 . simp [Builtin.zeroCells]
 . intro i h1 h2
   simp [Builtin.zeroCells,Nat.mod_one]
def qO (w:World) (base:Nat) (t tn ty e:TypeId) (i:TypeInfo) (z:Value) (kq kn:IntKind) (ht:P.underlying t=some (.slice e)) (htn:P.underlying tn=some (.int kn)) (hi:P.info? e=some i) (hz:i.zero=some z)
 (zO:i.size=1) (Ge:i.bytes=8) (hzc:z.cells=#[z]) (jD:z.oneCell'=true) (v:Value) (n:Nat) (xs:List Value) (aa:w.ownsRow base e 1 v n xs) (k:Nat) (xb:n+k<=17592186044416) (rO:base<=w.heap.size):
 ∃v' w',(Builtin.append_ #[t,tn] ty #[v,.int kq (k:Int)]).run P w=.ok v' w'∧w'.ownsRow base e 1 v' (n+k) (xs++List.replicate k z)∧w.grownBy w' v.ownBlock∧(v'.ownBlock=v.ownBlock∨v'.ownBlock=some w.heap.size):=by
 have hlen:(xs++List.replicate k z).length=(n+k)*1:=by rw [eC,aa.1,fQ];omega
 have hw:IntKind.i64.wrap (k:Int)=k:=by rw [IntKind.wrap_i64];omega
 have CJ:¬((k:Int)<0):=by omega
 have aAs:¬(281474976710656<(k:Int)*(i.bytes:Int)):=by rw [Ge];omega
 by_cases hk:k=0
 . subst hk
   have hw0:IntKind.i64.wrap 0=0:=by decide
   refine ⟨v,w,?_,by simpa using aa,⟨rfl,rfl,rfl,aL,fun _ _ _=>rfl⟩,.inl rfl⟩;rcases aa.2 with ⟨rfl,rfl⟩ | ⟨g,cap,cur,rfl,hbg,hg,jV,zA,hcs,LN⟩
   . simp [Builtin.append_,xq ht,xq htn,Go.sizeOf,typeInfo,hi,asInt,asIntOf,hw0]
   . simp [Builtin.append_,xq ht,xq htn,Go.sizeOf,typeInfo,hi,asInt,asIntOf,hw0,jV,storeCells]
 . rcases aa.2 with ⟨rfl,rfl⟩ | ⟨g,cap,cur,rfl,hbg,hg,jV,zA,hcs,LN⟩
   . have hx:xs=[]:=lK (by simpa using aa.1)
     subst hx;have hr:=Lib.run_append_nil_zeros (P:=P) w t tn ty e i z kq kn ht htn hi hz k (by omega) (by omega) (by omega) (by rw [Ge];omega);have xC:=grownCap_ge w k 0 e;refine ⟨_,_,hr,⟨by simp,.inr ⟨w.heap.size,_,_,by simp,rO,bM w.drew _,by simpa using xC,adg w k 0 e (by unfold maxLen;omega),?_,?_⟩⟩,⟨rfl,rfl,rfl,by simp,fun j hj _=>xo w.drew _ hj⟩,.inr rfl⟩
     . rw [hzc,jA,jA]
       simp;omega
     . rw [hzc,jA,jA]
       simp
   . by_cases hroom:n+k<=cap
     . have hst:=run_storeCells_at P g (n*1) e (List.replicate k z) 0 cur w hg (by rw [fQ];omega) (fun u hu=>by rw [vE hu];exact jD)
       simp only [ja] at hst;refine ⟨.slice (some ⟨g,0,none⟩) (n+k) cap,w.setRow g (cur.toList.take (n*1)++List.replicate k z++cur.toList.drop (n*1+k)).toArray,?_,⟨hlen,.inr ⟨g,cap,_,rfl,hbg,UA w g cur _ e _ hg,hroom,zA,?_,?_⟩⟩,⟨rfl,rfl,rfl,by simp [World.setRow],fun j _ hj=>setRow_other w g j _ (fun e=>hj (by simp [Value.ownBlock,e]))⟩,.inl rfl⟩
       . simp [Builtin.append_,xq ht,xq htn,Go.sizeOf,typeInfo,zeroValue,hi,hz,hzc,jA,asInt,asIntOf,hw,CJ,aAs,hroom,zO,Addr.add_lit] at hst ⊢
         simp [hst];exact fun h=>absurd h hk
       . simp only [List.size_toArray,eC,cQ,xw,WZ,fQ]
         omega
       . rw [LN]
         show ((xs++List.replicate k z)++_).take ((n+k)*1)=_;rw [<- hlen];exact List.take_left
     . have S9:=aa.cells (g:=g) rfl
       have hold:(Builtin.firstCells i.size n (.slice (some ⟨g,0,none⟩) n cap)).run P w.drew=.ok xs.toArray w.drew:=run_firstCells_some (P:=P) w.drew i.size n ⟨g,0,none⟩ n cap xs (by rw [zO];exact aa.1) S9;have hr:=Lib.run_append_grow_zeros (P:=P) w t tn ty e i z kq kn ht htn hi hz (some ⟨g,0,none⟩) n cap xs hold k (by omega) (by omega) (by omega) (by omega) (by rw [Ge];omega) (growslice_fits (by omega) (by rw [Ge];omega));have xC:=grownCap_ge w (n+k) cap e;refine ⟨_,_,hr,⟨hlen,.inr ⟨w.heap.size,_,_,rfl,rO,bM w.drew _,xC,adg w (n+k) cap e (by unfold maxLen;omega),?_,?_⟩⟩,⟨rfl,rfl,rfl,by simp,fun j hj _=>xo w.drew _ hj⟩,.inr rfl⟩
       . have:=aa.1
         rw [hzc,jA,jA];simp;omega
       . rw [hzc,jA,jA]
         simp only [Array.toList_append,vD];rw [<- vD,<- hlen];exact List.take_left
def Jp (w:World) (xs:List Int) (e:Ending) (w':World):Prop:=
 ∃A n c,e=.returned (.slice A n c)∧n<=c∧c<=9223372036854775807∧aD w' A n xs∧w'.ownsRow w.heap.size 38 1 (.slice A n c) n (bI xs)∧(∀x,A=some x->w.heap.size<=x.block)∧Below w.heap.size w w'
def adI (w:World) (xs:List Int) (s n:Nat) (e:Ending) (w':World):Prop:=
 ∃zs A k c,e=.returned (.tuple #[.slice A k c,.int .i64 0])∧bY zs∧limbs zs=limbs xs*2^s∧k<=n+1∧k<=c∧c<=9223372036854775807∧aD w' A k zs∧w'.ownsRow w.heap.size 38 1 (.slice A k c) k (bI zs)∧(∀x,A=some x->w.heap.size<=x.block)∧Below w.heap.size w w'
def Xf (A B:Option Addr) (n m c d:Nat) (xs ys:List Int) (w:World) (hx:aD w A n xs) (hy:aD w B m ys) (hn:n<=8500000000000) (hm:m<=8500000000000) (mj:limbs ys<=limbs xs):
 aB 118 #[.slice A n c,.slice B m d] w (Jp w (sH xs ys)):=by
 have C:=aA (PM A B n m c d xs ys w hx hy hn hm mj);clear hx hy mj;go_enter func118,ntmps118
 go_wp2_with fail
 refine C.o.mono ?_;rintro e w1 ⟨A1,k1,c1,rfl,g1,g2,g3,go,g4,g5⟩;have G3:=aA g3;have G4:=aA g4;have Go:=aA go;have G5:=aA g5;clear g3 g4 g5 go;go_wp2_with fail
 go_ret;exact ⟨A1,k1,c1,rfl,g1,g2,G3.o,Go.o,G4.o,G5.o⟩
def SR (A:Option Addr) (n c:Nat) (xs:List Int) (k:Nat) (w:World) (hx:aD w A n xs) (hn:n<=8500000000000) (hk:k<=8500000000000):
 aB 136 #[.slice A n c,.int .i64 (k:Int)] w (Jp w (List.replicate k 0++xs)):=by
 obtain ⟨i0,hi,jE,jD,jJ⟩:=eG fN;have KI:=iQ underlying39 hi jE jD jJ k (by omega) w;have hl:=hx.len;have Hr:=aA hx.reads;have KV:=aA hx.ok;have fM:=iJ.new w 38 (List.replicate k 0);have ox:Hid ((w.alloc (.cells (bI (List.replicate k 0)).toArray 38)).ownsRow w.heap.size 38 1 (.slice (some ⟨w.heap.size,0,none⟩) k k) k (bI (List.replicate k 0))):=by
  have h:=fM.own aL (n:=k) (by rw [fQ];exact aL) (by rw [fQ];unfold maxLen;omega);rw [fQ,iC (by rw [fQ];exact aL)] at h;exact h
 have hn0:(0:Int)<=(k:Int):=by omega
 clear hx hl fM;go_enter func136,ntmps136
 go_wp2_with (at_builtin;go_must (refine bU (w:=w.alloc (.cells (bI (List.replicate k 0)).toArray 38)) rfl _ _ 39 rfl w.heap.size 38 i0 (.int .u64 0) 1 8 underlying39 hi jE jD jJ rfl (by decide) _ k (bI (List.replicate k 0)) rfl ox.o w.heap.size A n c (bI xs) rfl (Hr.o.alloc aL _) (jU xs) (by unfold maxLen;omega) (by omega) (by simp) ?_);intro v' w1 aa aW gZ)
 have bp:w1.ownsRow w.heap.size 38 1 v' (k+n) (bI (List.replicate k 0++xs)):=by rw [fH];exact aa
 have hb:Below w.heap.size w w1:=((Below.refl _ w).alloc aL _).grown aW (by simp) (fun k hk=>(ox.o.lt k hk).1);have zR:=aA bp;have Hb:=aA hb;clear aa aW gZ hb bp;obtain ⟨A',c',rfl⟩:=fD zR.o;go_wp2_with fail
 go_ret;have hcc:k+n<=c'∧c'<=9223372036854775807:=by
  rcases zR.o.2 with ⟨hv,h0⟩ | ⟨g,cap,cur,hv,_,_,jV,zA,_⟩
  . injection hv;omega
  . injection hv with _ _ e
    unfold maxLen at zA;omega
 exact ⟨A',k+n,c',rfl,hcc.1,hcc.2,aD.ia zR.o (BU KV.o),zR.o,fun y hy=>(zR.o.lt y.block (by subst hy;rfl)).1,Hb.o⟩
def PO (A:Option Addr) (n c:Nat) (xs:List Int) (s:Nat) (w:World) (hx:aD w A n xs) (hn:n<=4000000000000) (hs:s<64):
 aB 115 #[.slice A n c,.int .i64 (s:Int)] w (adI w xs s n):=by
 obtain ⟨i0,hi,jE,jD,jJ⟩:=eG fN;obtain rfl:=hx.len;have kR:2^s<18446744073709551616:=MG hs;have CE:=aA (yM hx.ok kR);have oH:=aA (rW (MV xs (2^s)) xs.length);have hlen:=aA (cn (jP xs (2^s)) xs.length);have KG:Hid (rA xs (2^s)=(ah (jP xs (2^s)) xs.length).1++[((ah (jP xs (2^s)) xs.length).2:Int)]):=rfl;have vk:Below w.heap.size w ((w.alloc (.cells #[.slice A xs.length c] 39)).alloc (.cells #[.int .i64 (s:Int)] 3)):=(aU.alloc aL _).alloc (by simp) _;have Wn:Hid (((w.alloc (.cells #[.slice A xs.length c] 39)).alloc (.cells #[.int .i64 (s:Int)] 3)).cell? ⟨w.heap.size,0,none⟩=some (.slice A xs.length c)):=u9 _ _ _ _;have Uy:Hid (((w.alloc (.cells #[.slice A xs.length c] 39)).alloc (.cells #[.int .i64 (s:Int)] 3)).cell? ⟨w.heap.size+1,0,none⟩=some (.int .i64 (s:Int))):=vA _ _ _ _;have alI:=Uy.o;have Hx:=aA (hx.aC vk);have alJ:=Ql hx.ok hs;obtain ⟨k,hk⟩:∃k,xs.length=k:=⟨_,rfl⟩;have C:Hid (aB 121 #[.int .i64 (xs.length:Int),.func (.func 142) #[] #[.pointer (some ⟨w.heap.size,0,none⟩),.pointer (some ⟨w.heap.size+1,0,none⟩)]] ((w.alloc (.cells #[.slice A xs.length c] 39)).alloc (.cells #[.int .i64 (s:Int)] 3)) fun e w'=>e=.returned (.tuple #[.slice (some ⟨w.heap.size+1+1,0,none⟩) xs.length xs.length,.int .u64 ((ah (jP xs (2^s)) xs.length).2:Int)])∧iJ w' (w.heap.size+1+1) 38 (ah (jP xs (2^s)) xs.length).1∧Below (w.heap.size+1+1) ((w.alloc (.cells #[.slice A xs.length c] 39)).alloc (.cells #[.int .i64 (s:Int)] 3)) w'):=by
  have h:=qZ _ (.inr (.inr (.inr (.inl rfl)))) (some ⟨w.heap.size,0,none⟩) (some ⟨w.heap.size+1,0,none⟩) (jP xs (2^s)) xs.length (2^s) ((w.alloc (.cells #[.slice A xs.length c] 39)).alloc (.cells #[.int .i64 (s:Int)] 3)) (by omega) (fun j hj=>alJ j) (fun j q W hj hq hW=> ?_)
  . simp only [aJ] at h
    exact h
  . have hsz:=hW.size
    simp only [aJ] at hsz hW;exact aam A xs.length c w.heap.size (w.heap.size+1) xs s j q W ((hW.cell (p:=⟨w.heap.size,0,none⟩) (by show w.heap.size<_;omega)).trans Wn.o) ((hW.cell (p:=⟨w.heap.size+1,0,none⟩) (by show w.heap.size+1<_;omega)).trans Uy.o) (Hx.o.below hW (by simp)) hj (by omega) hs hq
 have hq:(ah (jP xs (2^s)) xs.length).2<18446744073709551616:=Nat.lt_trans (alJ _) kR;clear hx Wn Uy Hx kR alJ;rw [hk] at C oH hlen KG vk CE hn hq alI ⊢;clear hk;have Ah:¬(s:Int)<0:=by omega
 have uF:¬(262144:Int)<(s:Int):=by omega
 have hsd:(s:Int).tdiv 64=0:=by rw [Qx (by omega)];omega
 go_enter func115,ntmps115
 go_wp2_with fail
 refine C.o.mono ?_;rintro e w1 ⟨rfl,fM,cZ⟩;have GM:Below w.heap.size w w1:=vk.trans (cZ.mono (by omega));have uF:w.heap.size+1+1<w1.heap.size:=fM.lt;have NI:=(cZ.cell (p:=⟨w.heap.size+1,0,none⟩) (by show w.heap.size+1<_;omega)).trans alI;have ox:Hid (w1.ownsRow (w.heap.size+1+1) 38 1 (.slice (some ⟨w.heap.size+1+1,0,none⟩) k k) k (bI (ah (jP xs (2^s)) k).1)):=by
  have h:=fM.own aL (n:=k) (by rw [hlen.o];exact aL) (by rw [hlen.o];unfold maxLen;omega);rw [hlen.o,iC (by rw [hlen.o];exact aL)] at h;exact h
 clear C fM alI;generalize (ah (jP xs (2^s)) k).2=q at*
 generalize (ah (jP xs (2^s)) k).1=us at*
 have Vw:Hid (bI us++[.int .u64 (q:Int)]=bI (us++[(q:Int)])):=by show _=_;rw [fH];rfl
 have HL:Hid (∀(W:World) (gg cap:Nat),W.ownsRow (w.heap.size+1+1) 38 1 (.slice (some ⟨gg,0,none⟩) (k+1) cap) (k+1) (bI us++[.int .u64 (q:Int)])->aD W (some ⟨gg,0,none⟩) (k+1) (us++[(q:Int)])):=fun W gg cap h=>aD.ia (by rw [<- Vw.o];exact h) (oH.o.snoc (by omega) (by omega));have q1:Hid (k+1<=maxLen):=by show _<=_;unfold maxLen;omega
 have q2:Hid ((k+1)*8<=140737488355328):=by show _<=_;omega
 have q3:Hid (∀(o:Obj),w.heap.size+1+1<=(w1.drew.alloc o).heap.size):=fun o=>by
  have h1:(w1.drew.alloc o).heap.size=w1.heap.size+1:=aJ ..;omega
 have q4:Hid (∀(o:Obj),(w1.drew.alloc o).heap.size=w1.heap.size+1):=fun o=>aJ ..;have q5:Hid (∀(o:Obj),(w1.drew.alloc o).ownsRow (w.heap.size+1+1) 38 1 (.slice (some ⟨w.heap.size+1+1,0,none⟩) k k) k (bI us)):=fun o=>Nj (w:=w1.drew) ox.o o;have q6:Hid (∀u∈ [Value.int .u64 (q:Int)],u.oneCell'=true):=fun u hu=>by rw [dS.1 hu];rfl
 have NA:Hid (∀(o:Obj) (W':World),(w1.drew.alloc o).grownBy W' (some (w.heap.size+1+1))->W'.cell? ⟨w.heap.size+1,0,none⟩=some (.int .i64 (s:Int))):=fun o W' hg=>by
  have ho:Only (fun k=>some (w.heap.size+1+1)=some k) (w1.drew.alloc o) W':=(Only.fK hg).mono (fun i hi=>by first | exact hi | exact hi.symm);have hlt:(Addr.mk (w.heap.size+1) 0 none).block<(w1.drew.alloc o).heap.size:=by rw [q4.o];show w.heap.size+1<_;omega
  refine (ho.cell (p:=⟨w.heap.size+1,0,none⟩) hlt (fun e=>by injection e with e;have e2:w.heap.size+1+1=w.heap.size+1:=e;omega)).trans ?_;exact (vt w1.drew o ⟨w.heap.size+1,0,none⟩ (by show w.heap.size+1<w1.heap.size;omega)).trans NI
 have HM:Hid (∀(A:Option Addr) (c:Nat) (W:World),aD W A (k+1) (us++[(q:Int)])->aB 136 #[.slice A (k+1) c,.int .i64 0] W (Jp W (us++[(q:Int)]))):=fun A c W h=>SR A (k+1) c _ 0 W h (by omega) (by omega);have alk:Hid (∀(o:Obj),(w1.drew.alloc o).cell? ⟨w.heap.size+1,0,none⟩=some (.int .i64 (s:Int))):=fun o=>(vt w1.drew o ⟨w.heap.size+1,0,none⟩ (by show w.heap.size+1<w1.heap.size;omega)).trans NI;have alm:Hid (∀(o:Obj) (W':World),(w1.drew.alloc o).grownBy W' (some (w.heap.size+1+1))->∀W3,Below W'.heap.size W' W3->W3.cell? ⟨w.heap.size+1,0,none⟩=some (.int .i64 (s:Int))):=fun o W' hg W3 h3=>by
  have hsz:=(Only.fK hg).size;rw [q4.o] at hsz;exact (h3.cell (p:=⟨w.heap.size+1,0,none⟩) (by show w.heap.size+1<_;omega)).trans (NA.o o W' hg)
 have apG:Hid (∀(o:Obj) (W':World),(w1.drew.alloc o).grownBy W' (some (w.heap.size+1+1))->w.heap.size<=W'.heap.size):=fun o W' hg=>by
  have hsz:=(Only.fK hg).size;rw [q4.o] at hsz;omega
 have bC:Hid (∀(o:Obj) (W':World),(w1.drew.alloc o).grownBy W' (some (w.heap.size+1+1))->∀W3,Below W'.heap.size W' W3->Below w.heap.size w W3):=fun o W' hg W3 h3=>by
  have qx:Below w.heap.size w (w1.drew.alloc o):=GM.drew.alloc GM.size o;have h2:=qx.grown hg (by rw [q4.o];omega) (fun j hj=>by injection hj;omega);exact h2.tm h3
 go_wp2_with fail
 go_region_held3 (fun W=>W.cell? ⟨w.heap.size+1,0,none⟩=some (.int .i64 (s:Int)))
  (first | go_keep | exact alk.o _ | exact NA.o _ _ aW | exact NI | exact alm.o _ _ aW _ g5)
  (first
    | (go_at_call 136;refine (HM.o _ _ _ hL2).mono ?_;rintro e w3 ⟨A3,k3,c3,rfl,g1,g2,g3,go,g4,g5⟩)
    | (go_at_call 112;refine (cH A3 k3 c3 _ w3 g3 g1 g2).mono ?_;rintro e w4 ⟨rfl,rfl⟩)
    | ((refine pN _ (by rfl) _ _ _ (by rfl) (w.heap.size+1+1) 38 i0 _ 1 8 underlying39 hi jE jD jJ rfl (by omega) (.slice (some ⟨w.heap.size+1+1,0,none⟩) k k) k (bI us) (by rfl) (q5.o _) ⟨w1.heap.size,0,none⟩ 1 1 [.int .u64 (q:Int)] (by rfl) (by rfl) (gw (cs:=#[.int .u64 (q:Int)]) (t:=38) (fr:=(0,0)) (bM w1.drew _)) q6.o (Nat.one_pos) q1.o q2.o (q3.o _) (w1.heap.size+1) (q4.o _) ?_));intro gg cap w2 bp aW gZ CK;have hL2:=HL.o _ _ _ bp)
 have hl3:=g3.len;rw [eC,hlen.o] at hl3;have hl4:k3=k+1:=by rw [<- hl3];rfl
 subst hl4;have V3:=CE.o;rw [KG.o] at V3;have qm:=bF V3.1 (n:=k+1) V3.2.1;have uG:=cS (us++[(q:Int)]) (k+1);have hgg:=(bp.lt gg rfl).2;have hg4:∀x,A3=some x->w.heap.size<=x.block:=fun x hx=>by
  have h1:=g4 x hx;have h2:=apG.o _ _ aW;omega
 have hgo:w4.ownsRow w.heap.size 38 1 (.slice A3 (cU (us++[(q:Int)]) (k+1)) c3) (cU (us++[(q:Int)]) (k+1)) (bI ((us++[(q:Int)]).take (cU (us++[(q:Int)]) (k+1)))):=by
  have h:=Mf (PC go (apG.o _ _ aW)) uG;rw [<- K9] at h;exact h
 have F:Hid (adI w xs s k (.returned (.tuple #[.slice A3 (cU (us++[(q:Int)]) (k+1)) c3,.int .i64 0])) w4):=
  ⟨_,A3,_,c3,rfl,qm.1,by rw [qm.2];exact V3.2.2,uG,by omega,g2,g3.take uG,hgo,hg4,bC.o _ _ aW _ g5⟩
 go_wp2_with fail
 go_ret2;exact F.o
def Xv (a b:Int):limbs [a,b]=a.toNat+18446744073709551616*b.toNat:=by
 show a.toNat+2^64*(b.toNat+2^64*0)=_;omega
def Pp (a b c:Int):limbs [a,b,c]=a.toNat+18446744073709551616*(b.toNat+18446744073709551616*c.toNat):=by
 show a.toNat+2^64*(b.toNat+2^64*(c.toNat+2^64*0))=_;omega
def acp (h:xs.length=n+2):xs.drop n=[nth xs n,nth xs (n+1)]:=by
 rw [xm (by omega),xm (by omega),DT (by omega),fV (by omega),fV (by omega)]
def Tc (h:xs.length=n+3):xs.drop n=[nth xs n,nth xs (n+1),nth xs (n+2)]:=by
 rw [xm (by omega),xm (by omega),xm (by omega),DT (by omega),fV (by omega),fV (by omega),fV (by omega)]
def aeH (h:xs.length=n+2):((nth xs (n+1)).toNat*18446744073709551616+(nth xs n).toNat)*2^(64*n)<=limbs xs:=by
 have h1:=ru xs (k:=n) (by omega);rw [acp h,Xv] at h1;rw [h1,aq ((nth xs (n+1)).toNat)];have:(18446744073709551616*(nth xs (n+1)).toNat+(nth xs n).toNat)*2^(64*n)=2^(64*n)*((nth xs n).toNat+18446744073709551616*(nth xs (n+1)).toNat):=by rw [aq,xk]
 omega
def W5 (ok:aQ xs) (h:xs.length=n+3):limbs xs<(((nth xs (n+2)).toNat*18446744073709551616+(nth xs (n+1)).toNat)*18446744073709551616+(nth xs n).toNat+1)*2^(64*n):=by
 have h1:=ru xs (k:=n) (by omega);rw [Tc h,Pp] at h1;have h2:=dc (ok.take n);rw [cQ,oz (by omega)] at h2;have h3:(nth xs n).toNat+18446744073709551616*((nth xs (n+1)).toNat+18446744073709551616*(nth xs (n+2)).toNat)=((nth xs (n+2)).toNat*18446744073709551616+(nth xs (n+1)).toNat)*18446744073709551616+(nth xs n).toNat:=by omega
 rw [h1,h3];have:∀T,limbs (xs.take n)+2^(64*n)*T<(T+1)*2^(64*n):=fun T=>by
  clear h1 h3;generalize (2:Nat)^(64*n)=E at*
  rw [Nat.succ_mul,aq];omega
 exact this _
def aci {vs ps:List Int} {x:Nat}(hv:vs.length=n+2) (hp:ps.length=n+3) (ok:aQ ps) (hx:x<18446744073709551616) (h:x*limbs vs<=limbs ps)
 (hg:Yl (nth ps (n+2)).toNat (nth ps (n+1)).toNat (nth ps n).toNat (nth vs (n+1)).toNat (nth vs n).toNat g):x<=g:=by
 refine hg.2 x hx ?_;exact YQ (aeH hv) (W5 ok hp) h
structure uM (N V k:Nat) (us qs:List Int):Prop where
 ZN:aQ us
 qok:aQ qs
 eq:N=limbs (qs.drop k)*V*2^(64*k)+limbs us
 lt:limbs us<V*2^(64*k)
def uM.split {N V k n:Nat} {us qs:List Int}(h:uM N V (k+1) us qs) (hV:V<2^(64*n)) (hk:k+n+1<=us.length):limbs us=limbs (us.take k)+2^(64*k)*limbs ((us.drop k).take (n+1))∧limbs ((us.drop k).take (n+1))<V*18446744073709551616:=by
 have h1:=ru us (k:=k) (by omega);have h2:=ru (us.drop k) (k:=n+1) (by rw [xw];omega);have h3:=h.lt;have e1:(2:Nat)^(64*(k+1))=2^(64*k)*18446744073709551616:=by rw [show 64*(k+1)=64*k+64 by omega,iD]
 have hz:limbs ((us.drop k).drop (n+1))=0:=by
  rcases jM (limbs ((us.drop k).drop (n+1))) with h0 | h0
  . exact h0
  . exfalso
    have h4:V*2^(64*(k+1))<=2^(64*n)*2^(64*(k+1)):=bG _ (oy hV);rw [<- iD] at h4;have h5:2^(64*k)*(2^(64*(n+1))*1)<=2^(64*k)*(2^(64*(n+1))*limbs ((us.drop k).drop (n+1))):=bn _ (bn _ h0);rw [bl,<- iD,show 64*k+64*(n+1)=64*n+64*(k+1) by omega] at h5;(have h6:2^(64*k)*limbs (us.drop k)=2^(64*k)*limbs ((us.drop k).take (n+1))+2^(64*k)*(2^(64*(n+1))*limbs ((us.drop k).drop (n+1))):=by rw [h2,ak]);omega
 rw [hz,jZ,ja] at h2;rw [h2] at h1;refine ⟨h1,?_⟩;have h7:2^(64*k)*limbs ((us.drop k).take (n+1))<2^(64*k)*(V*18446744073709551616):=by
  have e2:V*2^(64*(k+1))=2^(64*k)*(V*18446744073709551616):=by rw [e1];ac_rfl
  omega
 exact Nat.lt_of_mul_lt_mul_left h7
def Ms {k:Nat}(hk:k+rs.length<=us.length) (hz:limbs (us.drop (k+rs.length))=0):limbs (Go.splice us k rs)=limbs (us.take k)+2^(64*k)*limbs rs:=by
 unfold Go.splice;rw [iP,iP,hz,jZ,ja,cQ,oz (by omega)]
def aac (xs ys:List Int) (i:Nat):nth (xs++ys) i=if i<xs.length then nth xs i else nth ys (i-xs.length):=by
 unfold nth;simp only [List.getD,List.getElem?_append];split<;>rfl
def yS {ys:List Int}(hx:aQ xs) (hy:aQ ys):aQ (xs++ys):=fun i=>by
 rw [aac];split
 . exact hx i
 . exact hy _
def VV (hx:aQ xs) (k:Nat):aQ (xs.drop k):=fun i=>by
 have h:=hx (k+i);have e:nth (xs.drop k) i=nth xs (k+i):=by unfold nth;simp [List.getD]
 rw [e];exact h
def XZ (hu:aQ us) (hr:aQ rs) (k:Nat):aQ (Go.splice us k rs):=yS (hu.take k) (yS hr (VV hu _))
def uM.next {N V k n x:Nat} {us qs rs:List Int}(h:uM N V (k+1) us qs) (hV:V<2^(64*n)) (hk:k+n+1<=us.length) (hq:k<qs.length) (hx:x<18446744073709551616)
 (h1:x*V<=limbs ((us.drop k).take (n+1))) (h2:limbs ((us.drop k).take (n+1))<(x+1)*V) (CE:rs.length=n+1) (hro:aQ rs) (hr:limbs rs=limbs ((us.drop k).take (n+1))-x*V):
 uM N V k (Go.splice us k rs) (qs.set k (x:Int)):=by
 obtain ⟨s1,s2⟩:=h.split hV hk;have e1:(2:Nat)^(64*(k+1))=2^(64*k)*18446744073709551616:=by rw [show 64*(k+1)=64*k+64 by omega,iD]
 have hz:limbs (us.drop (k+(n+1)))=0:=by
  have h3:=ru us (k:=k+(n+1)) (by omega);rw [List.take_add,iP,cQ,oz (by omega)] at h3;have h4:0<2^(64*(k+(n+1))):=lJ _;rcases jM (limbs (us.drop (k+(n+1)))) with h0 | h0
  . exact h0
  . have:=iR h4 h0
    omega
 have e2:=Ms (us:=us) (rs:=rs) (k:=k) (by omega) (by rw [CE];exact hz);have e3:limbs ((qs.set k (x:Int)).drop k)=x+18446744073709551616*limbs (qs.drop (k+1)):=by
  rw [zf (by rw [fW];exact hq),Fs,gK hq,aM rfl,jc]
 refine ⟨XZ h.ZN hro k,h.qok.set k (by omega) (by omega),?_,?_⟩
 . rw [e3,e2,hr,h.eq,s1,e1]
   generalize limbs ((us.drop k).take (n+1))=P at*
   generalize limbs (qs.drop (k+1))=Q at*
   generalize (2:Nat)^(64*k)=E at*
   obtain ⟨r,rfl⟩:∃r,P=x*V+r:=⟨P-x*V,by omega⟩;rw [Nat.add_sub_cancel_left,ak,bO,bO];have a1:Q*V*(E*18446744073709551616)=18446744073709551616*Q*V*E:=by ac_rfl
   have a2:E*(x*V)=x*V*E:=aq _ _;omega
 . rw [e2,hr]
   have h5:=dc (h.ZN.take k);rw [cQ,oz (by omega)] at h5;generalize limbs ((us.drop k).take (n+1))=P at*
   generalize (2:Nat)^(64*k)=E at*
   have h6:P-x*V+1<=V:=by rw [bO] at h2;omega
   have h7:E*(P-x*V+1)<=E*V:=bn _ h6;rw [ak,aq E V] at h7;omega
def uM.done (h:uM (X*2^s) (Y*2^s) 0 us qs):limbs qs=X / Y∧limbs us / 2^s=X % Y:=by
 have h1:=h.eq;have h2:=h.lt;rw [jZ,wQ,bl,Qw] at h1;rw [jZ,wQ,bl] at h2;have hP:0<2^s:=lJ s;have h3:limbs qs*(Y*2^s)<=X*2^s:=by omega
 have h4:X*2^s<(limbs qs+1)*(Y*2^s):=by rw [bO];omega
 obtain ⟨h5,h6⟩:=Qa h3 h4;obtain ⟨h7,h8⟩:=YT X Y hP;rw [<- h7,<- h8,h5];refine ⟨rfl,?_⟩;rw [<- h6];congr 1
 omega
def uM.start {la:Nat} (ZN:aQ us) (qok:aQ qs) (hu:limbs us=X*2^s) (hX:X<2^(64*la)) (hY:2^(64*(n-1))<=Y) (hn:0<n) (sY:n<=la+1) (hq:qs.length=la+1-n):uM (X*2^s) (Y*2^s) (la+1-n) us qs:=by
 have hP:0<2^s:=lJ s;refine ⟨ZN,qok,?_,?_⟩
 . rw [DT (by omega),hu]
   show _=0*_*_+_;omega
 . rw [hu]
   have h1:2^(64*(n-1))*2^(64*(la+1-n))<=Y*2^(64*(la+1-n)):=bG _ hY;rw [<- iD,show 64*(n-1)+64*(la+1-n)=64*la by omega] at h1;rw [Nat.mul_right_comm];exact aja (by omega) hP
def XV {xs:List Value}(h:w.ownsRow base e 1 (.slice (some ⟨g,0,none⟩) n c) n xs):∀j u,xs[j]? =some u->w.cell? ((⟨g,0,none⟩:Addr).add j)=some u:=h.cells rfl
def GA (w:World) (hgd:o.guard=none) (s x:Operand) (t tn:TypeId)
 (ho:o.op=.call { callee:=.builtin .append,args:=#[s,x],argTypes:=#[t,tn]}) (vs vx:Value) (hs:a.eval s=vs) (hx:a.eval x=vx)
 (v':Value) (w':World) (hr:(Builtin.append_ #[t,tn] o.type #[vs,vx]).run P w=.ok v' w') (h:K (a.put o.dst v') w'):if Region.wanted o (yielded ops a.tmps)=true then Oper.wp P o a w K Q else E:=by
 have hw:Region.wanted o (yielded ops a.tmps)=true:=by simp [Region.wanted,hgd]
 rw [aM hw];exact Lib.wp_append_run w s x t tn ho vs vx hs hx v' w' hr h
def Jz (hgd:o.guard=none) (d s:Operand) (dT sT:TypeId)
 (ho:o.op=.call { callee:=.builtin .copy,args:=#[d,s],argTypes:=#[dT,sT]}) (elem:TypeId) (hu:P.underlying dT=some (.slice elem)) (hsz:(P.info? elem).map (·.size)=some 1)
 (g off dLen dCap:Nat) (ad:Addr) (sLen sCap:Nat) (hd:a.eval d=.slice (some ⟨g,off,none⟩) dLen dCap) (hs:a.eval s=.slice (some ad) sLen sCap)
 (cur:List Value) (t:TypeId) (hg:w.heap[g]? =some (.cells cur.toArray t (0,0))) (cs:List Value) (hn:cs.length=Nat.min sLen dLen)
 (axk:∀j v,cs[j]? =some v->w.cell? (ad.add j)=some v) (QH:off+cs.length<=cur.length) (h1:∀v∈cs,v.oneCell'=true)
 (h:K (a.put o.dst (goInt cs.length)) (w.setRow g (splice cur off cs).toArray)):if Region.wanted o (yielded ops a.tmps)=true then Oper.wp P o a w K Q else E:=by
 have hw:Region.wanted o (yielded ops a.tmps)=true:=by simp [Region.wanted,hgd]
 rw [aM hw];have hrun:=run_copy_row (P:=P) w dT sT o.type elem g off dLen dCap ad sLen sCap cur.toArray t cs hu hsz hg hn axk (by simpa using QH) h1;have e:(cur.toArray.toList.take off++cs++cur.toArray.toList.drop (off+cs.length))=splice cur off cs:=by unfold splice;simp
 rw [e] at hrun;unfold Oper.wp;simp [execOp,ho,resolve,invoke,builtin,hd,hs,hrun,Result.andThen];exact h
def vS (ds:List Int) (m:Nat):List Int:=(ds++List.replicate m 0).take m
def XU {ds:List Int}(ok:aQ ds) (h:ds.length<=m):(vS ds m).length=m∧aQ (vS ds m)∧limbs (vS ds m)=limbs ds:=by
 have hz:aQ (List.replicate m (0:Int)):=fun i=>by
  by_cases hi:i<(List.replicate m (0:Int)).length
  . rw [fV hi,zQ];omega
  . rw [bw (by omega)];omega
 have ho:=yS ok hz;refine ⟨by unfold vS;rw [cQ,eC,fQ];omega,ho.take m,?_⟩;have h1:vS ds m=ds++List.replicate (m-ds.length) 0:=by
  unfold vS;rw [List.take_append,iC h,List.take_replicate];congr 2
  omega
 rw [h1,iP,nW,jZ,ja]
def wZ (w:World) (g:Nat) (xs:List Int) (ex:List Value):Prop:=w.heap[g]? =some (.cells (bI xs++ex).toArray 38 (0,0))
section
variable {w w' : World} {g : Nat} {xs : List Int} {ex : List Value}
def wZ.lt (h:wZ w g xs ex):g<w.heap.size:=(jm.1 h).1
def wZ.cell (h:wZ w g xs ex) {i:Nat}(hi:i<xs.length):w.cell? ⟨g,i,none⟩=some (.int .u64 (nth xs i)):=by
 rw [dQ w g i _ _ (0,0) h];simp only [List.getElem?_toArray];rw [Tw (by rw [gO];exact hi)];exact Bl hi
def wZ.aC (h:wZ w g xs ex) (hb:Below w.heap.size w w'):wZ w' g xs ex:=(hb.block g h.lt).trans h
def wZ.far (h:wZ w g xs ex) {p:Addr}(hp:g≠p.block) (u:Value):wZ (w.setCell p u) g xs ex:=(Ep w p u g hp).trans h
def wZ.limbs (h:wZ w g xs ex) (ok:aQ xs) {k m:Nat}(hk:k+m<=xs.length):aD w (some ⟨g,k,none⟩) m ((xs.drop k).take m):=
 ⟨by rw [cQ,xw];omega,fun _=>⟨g,k,rfl,h.lt,fun i hi=>by
   rw [h.cell (i:=k+i) (by omega),nK hi];congr 2
   unfold nth;simp [List.getD]⟩,(VV ok k).take m⟩
def wZ.splice (h:wZ w g xs ex) {k:Nat} {rs:List Int}(hk:k+rs.length<=xs.length):wZ (w.setRow g (Go.splice (bI xs++ex) k (bI rs)).toArray) g (Go.splice xs k rs) ex:=by
 unfold wZ;have e:Go.splice (bI xs++ex) k (bI rs)=bI (Go.splice xs k rs)++ex:=by
  unfold Go.splice;rw [List.take_append_of_le_length (by rw [gO];omega),List.drop_append_of_le_length (by rw [gO,gO];omega),fH,fH,gO];simp [bI,JQ,List.map_drop]
 rw [e];exact UA w g _ _ _ _ h
def PE {S:Nat->Prop}(h:Only S w w') (hg:S g) (cs:Array Value):Only S w (w'.setRow g cs):=
 ⟨h.os,h.tape,h.output,by simp [World.setRow];exact h.size,fun j hj hs=>(setRow_other w' g j cs (fun e=>hs (e ▸ hg))).trans (h.block j hj hs)⟩
def iJ.Rt {t:TypeId} {g':Nat}(h:iJ w g t xs) (hg:g≠g') (cs:Array Value):iJ (w.setRow g' cs) g t xs:=(setRow_other w g' g cs hg).trans h
end
def aaR (ds:List Int) (m:Nat):bI (vS ds m)=(bI ds++List.replicate m (Value.int .u64 0)).take m:=by
 unfold vS;rw [K9,fH];congr 2
 simp [bI]
def SJ (wl:World) (base:Nat) (Ad:Option Addr) (kd cd:Nat) (ds:List Int) (m:Nat) (hm:0<m) (hb:kd+m<=17592186044416) (own:wl.ownsRow base 38 1 (.slice Ad kd cd) kd (bI ds)) (rO:base<=wl.heap.size):
 ∃gz cz wz,(Builtin.append_ #[39,3] 39 #[.slice Ad kd cd,.int .i64 (m:Int)]).run prog wl=.ok (.slice (some ⟨gz,0,none⟩) (kd+m) cz) wz∧(∀j v,(bI (vS ds m))[j]? =some v->wz.cell? ((⟨gz,0,none⟩:Addr).add j)=some v)∧m<=cz∧cz<=maxLen∧Below base wl wz:=by
 obtain ⟨i0,hi,jE,jD,jJ⟩:=eG fN;have Iq:(Value.int .u64 0).cells=#[Value.int .u64 0]:=rfl;obtain ⟨va,wz,z1,z2,z3,z4⟩:=qO (P:=prog) wl base 39 3 39 38 i0 (.int .u64 0) .i64 .i64 underlying39 underlying3 hi jE jD jJ Iq rfl (.slice Ad kd cd) kd (bI ds) own m hb rO;obtain ⟨Az,cz,rfl⟩:=fD z2;obtain ⟨gz,rfl,_,_,WB,NH,_⟩:=xO z2 (by omega);refine ⟨gz,cz,wz,z1,fun j v hj=> ?_,by omega,NH,?_⟩
 . rw [aaR,We] at hj
   split at hj
   . exact XV z2 j v hj
   . cases hj
 . exact (Below.refl base wl).grown z3 rO (fun j hj=>(own.lt j hj).1)
