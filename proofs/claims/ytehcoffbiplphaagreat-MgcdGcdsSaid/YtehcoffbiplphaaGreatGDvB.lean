import Derived.Test.YtehcoffbiplphaaGreatGDvA
import Derived.Lib.AppendZerosOnto
set_option linter.all false
set_option maxHeartbeats 2000000
set_option maxRecDepth 100000
namespace Go.Proofs.YtehcoffbiplphaaGreat
open Go.Proofs.Tryz
open Go.RowKit
variable {s q base n m c g X Y:Nat} {u:Int} {xs us rs qs:List Int} {w:World} {e:TypeId} {A:Option Addr} {P:Program} {ops:Array Oper} {o:Oper} {a:Act} {K:Act->World->Prop} {Q:Exit->Act->World->Prop} {E:Prop}
def kS (hs:s<=64):(2:Nat)^s*2^(64-s)=18446744073709551616:=by
 rw [<- iH,show s+(64-s)=64 by omega]
def Lm {v:Nat}(hs:s<=64) (hq:q<2^s):(v*2^s+q) % 18446744073709551616=v % 2^(64-s)*2^s+q∧(v*2^s+q) / 18446744073709551616=v / 2^(64-s):=by
 have hp:=kS hs;have hP:0<2^s:=lC s;have hR:0<2^(64-s):=lC _;have h1:=sr v (2^(64-s));have h2:=jO v hR;have h3:v % 2^(64-s)*2^s+q<18446744073709551616:=by
  have h4:(v % 2^(64-s)+1)*2^s<=2^(64-s)*2^s:=bI _ h2;rw [aq (2^(64-s)),hp,bQ] at h4;omega
 have h5:v*2^s+q=18446744073709551616*(v / 2^(64-s))+(v % 2^(64-s)*2^s+q):=by
  have h6:v*2^s=2^s*2^(64-s)*(v / 2^(64-s))+v % 2^(64-s)*2^s:=by
   rw [cn,aq (2^s),<- bQ,h1]
  rw [hp] at h6;omega
 rw [h5,Nat.mul_add_mod,FT h3,Nat.mul_add_div (by omega),FR h3];exact ⟨rfl,rfl⟩
def adG (hs:s<64) (h0:0<=u) (h1:u<18446744073709551616) (hq:q<2^s):
 bits .or .u64 (IntKind.u64.wrap (u*2^s)) (q:Int)=(((u.toNat*2^s+q) % 18446744073709551616:Nat):Int)∧u / 2 / 2^(63-s)=(((u.toNat*2^s+q) / 18446744073709551616:Nat):Int):=by
 obtain ⟨v,rfl⟩:=Iu h0;have hp:=kS (s:=s) (by omega);obtain ⟨e1,e2⟩:=Lm (v:=v) (by omega) hq;rw [jY,e1,e2];have hq2:(q:Int)<2^s:=by rw [<- gT];exact Int.ofNat_lt.2 hq
 have hR:0<2^(64-s):=lC _;have h2:=jO v hR;have h4:(v % 2^(64-s)+1)*2^s<=2^(64-s)*2^s:=bI _ h2;rw [aq (2^(64-s)),hp,bQ] at h4;have e3:IntKind.u64.wrap ((v:Int)*2^s)=((v % 2^(64-s):Nat):Int)*2^s:=by
  rw [ag,<- gT,<- sq,<- sq];have e4:=(Lm (v:=v) (q:=0) (by omega) (lC s)).1;rw [je,je] at e4;rw [<- e4];rfl
 constructor
 . rw [e3,zH (by omega) (by omega) hq2 ?_ (by omega),k9,sq,gT]
   rw [<- gT,<- sq];omega
 . have e5:(v:Int) / 2 / 2^(63-s)=((v / 2 / 2^(63-s):Nat):Int):=by rw [QH,QH,gT];rfl
   rw [e5,Vi,<- Nat.pow_succ',show (63-s).succ=64-s by omega]
def Py (hx:aQ xs) (hs:s<64):∀k,(aN (gm xs (2^s)) k).2<2^s
 | 0=>lC s
 | k+1=>by
   have ih:=Py hx hs k;show ((nth xs k).toNat*2^s+(aN (gm xs (2^s)) k).2) / 18446744073709551616<2^s;have h:=hx k;rw [LL (by omega)];have h1:((nth xs k).toNat+1)*2^s<=18446744073709551616*2^s:=bI _ (by omega);rw [bQ] at h1;rw [aq (2^s)];omega
def LV (hs:s<64):2^s<18446744073709551616:=by
 have:=kS (s:=s) (by omega);have h1:2<=2^(64-s):=by
  rw [show 64-s=(63-s)+1 by omega,kR];have:=lC (63-s);omega
 have h2:2^s*2<=2^s*2^(64-s):=bl _ h1;have:=lC s;omega
def ZT (A:Option Addr) (n c ga gb:Nat) (xs:List Int) (s k q:Nat) (w:World) (ha:w.cell? ⟨ga,0,none⟩=some (.slice A n c)) (hb:w.cell? ⟨gb,0,none⟩=some (.int .i64 (s:Int))) (hx:aD w A n xs)
 (hk:k<n) (hn:n<=8500000000000) (hs:s<64) (hq:q<2^s):
 aC 142 #[.int .i64 (k:Int),.int .u64 (q:Int),.pointer (some ⟨ga,0,none⟩),.pointer (some ⟨gb,0,none⟩)] w fun e w'=>e=.returned (.tuple #[.int .u64 ((gm xs (2^s) k q).1:Int),.int .u64 ((gm xs (2^s) k q).2:Int)])∧∃j,w'=w.drewN j:=by
 have h1:=hx.ok k;obtain ⟨b,o,rfl,IK,hc⟩:=hx.at_ (by omega);have JZ:=hc k hk;obtain ⟨e1,e2⟩:=adG (u:=nth xs k) hs h1.1 h1.2 hq;have f1:((gm xs (2^s) k q).1:Int)=((((nth xs k).toNat*2^s+q) % 18446744073709551616:Nat):Int):=rfl;have f2:((gm xs (2^s) k q).2:Int)=((((nth xs k).toNat*2^s+q) / 18446744073709551616:Nat):Int):=rfl;rw [f1,f2];have wP:(0:Int)<=(k:Int):=by omega
 have hkn:(k:Int)<(n:Int):=by omega
 have e3:(s:Int).tmod 64=(s:Int):=by rw [Vh (by omega)];omega
 have e4:IntKind.i64.wrap (63-(s:Int))=((63-s:Nat):Int):=by rw [bR _ (by omega)];omega
 have IB:(0:Int)<=(s:Int):=by omega
 have tZ:¬(s:Int)<0:=by omega
 generalize ((nth xs k).toNat*2^s+q) % 18446744073709551616=r1 at*
 generalize ((nth xs k).toNat*2^s+q) / 18446744073709551616=r2 at*
 generalize nth xs k=u at*
 clear hc hx h1 f1 f2 hq;go_enter func142,ntmps142
 go_wp2_with fail
 go_quiet (fail)
 go_wp2_with fail
 go_ret2;exact ⟨rfl,_,rfl⟩
def MF (p1 p2:Option Addr) (f:Nat->Nat->Nat×Nat) (n cb:Nat) (w:World) (hn:n<=17500000000000) (VH:∀k,k<=n->(aN f k).2<cb)
 (hF:∀(k c:Nat) (W:World),k<n->c<cb->Below w.heap.size w W->aC 142 #[.int .i64 (k:Int),.int .u64 (c:Int),.pointer p1,.pointer p2] W fun e w'=>e=.returned (.tuple #[.int .u64 ((f k c).1:Int),.int .u64 ((f k c).2:Int)])∧∃j,w'=W.drewN j):
 aC 121 #[.int .i64 (n:Int),.func (.func 142) #[] #[.pointer p1,.pointer p2]] w fun e w'=>e=.returned (.tuple #[.slice (some ⟨w.heap.size,0,none⟩) n n,.int .u64 ((aN f n).2:Int)])∧eR w' w.heap.size 38 (aN f n).1∧Below w.heap.size w w':=by
 obtain ⟨i0,hi,iQ,iC,iP⟩:=dJ cN;have Ck:=ej underlying39 hi iQ iC iP n (by omega) w;have HF:=aA hF;have Hfc:=aA VH;have oK:Hid (eR (w.alloc (.cells (au (List.replicate n 0)).toArray 38)) w.heap.size 38 (rR f n 0)):=by
  show eR _ _ _ _;rw [um];exact eR.new w _ _
 have ox:Below w.heap.size w (w.alloc (.cells (au (List.replicate n 0)).toArray 38)):=aW.alloc aK _;clear hF VH;generalize (au (List.replicate n 0)).toArray=cs at*
 go_enter func121,ntmps121
 go_wp2_with fail
 clear Ck;go_loopw [7,13] (fun cv i wr=>∃k:Nat,k<=n∧cv=.int .u64 ((aN f k).2:Int)∧i=.int .i64 (k:Int)∧Hid (eR wr w.heap.size 38 (rR f n k))∧Below w.heap.size w wr) (fun _ i _=>n-(intOf i).toNat)
 case atStart=>exact ⟨0,by omega,rfl,rfl,oK,ox⟩
 case round=>
  obtain ⟨k,hk,rfl,rfl,bH,bD⟩:=hrel;by_cases hlt:k<n
  . have dI:(k:Int)<(n:Int):=by omega
    (have wP:(0:Int)<=(k:Int):=by omega);have hc:=Hfc.o k hk;have C:=aA (HF.o k (aN f k).2 wr hlt hc bD);have e2:Hid ((aN f (k+1)).2=(f k (aN f k).2).2):=rfl;have lD:=bH.o.set k ((f k (aN f k).2).1:Int);rw [xN f hlt] at lD;have oq:=aA lD;have Bk:=bH.o.frozen k;have FH:=bH.o.cell (i:=k) (by rw [qg f hk];exact hlt);have VJ:=bD.setCell (p:=⟨w.heap.size,k,none⟩) aK (.int .u64 ((f k (aN f k).2).1:Int));clear lD;generalize hcc:(aN f k).2=q at*
    (go_wp2_with fail);refine C.o.mono ?_;rintro e w1 ⟨rfl,j,rfl⟩;have aeY:(wr.drewN j).frozen? ⟨w.heap.size,k,none⟩=false:=Bk;have afd:(wr.drewN j).cell? ⟨w.heap.size,k,none⟩=some (.int .u64 (nth (rR f n k) k)):=FH;(go_wp2_with fail);go_roundw
    case rel=>exact ⟨k+1,by omega,by rw [e2.o],by go_num,by first | exact oq | exact oq.o.drewN j,by first | exact VJ | exact below_drewN VJ _⟩
    case measure=>simp [intOf];omega
  . obtain rfl:k=n:=by omega
    (have dI:¬(k:Int)<(k:Int):=by omega);have hr:=bH.o;rw [uo] at hr;have Hr:=aA hr;clear hr bH;(go_wp2_with fail);go_ret2;exact ⟨rfl,Hr.o,bD⟩
def Nu (a b:Nat) (ha:a<18446744073709551616) (hb:b<18446744073709551616):bits .or .u64 (a:Int) (b:Int)=bits .or .u64 (b:Int) (a:Int):=by
 rw [NF a b ha hb,NF b a hb ha,Nat.or_comm]
def vI (xs:List Int) (s k _c:Nat):Nat×Nat:=((nth xs k).toNat / 2^s+(nth xs (k+1)).toNat % 2^s*2^(64-s),0)
def adF (hx:aQ xs) (hs:s<64) (k c:Nat):(vI xs s k c).1<18446744073709551616:=by
 show (nth xs k).toNat / 2^s+(nth xs (k+1)).toNat % 2^s*2^(64-s)<_;have hp:=kS (s:=s) (by omega);have hP:0<2^s:=lC s;have h1:=hx k;have h2:(nth xs k).toNat / 2^s<2^(64-s):=by
  rw [LL hP,aq,hp];omega
 have h3:=jO (nth xs (k+1)).toNat hP;have h4:((nth xs (k+1)).toNat % 2^s+1)*2^(64-s)<=2^s*2^(64-s):=bI _ h3;rw [hp,bQ] at h4;omega
def N6 (hx:aQ xs) (hs:s<64):∀k,k<=xs.length->limbs (aN (vI xs s) k).1*2^s+(nth xs 0).toNat % 2^s=limbs (xs.take k)+2^(64*k)*((nth xs k).toNat % 2^s)
 | 0,_=>by
   show 0*_+_=limbs []+2^0*_;show 0*_+_=0+1*_;omega
 | k+1,hk=>by
   have ih:=N6 hx hs k (by omega);have hl:=bh (vI xs s) k;have e1:(aN (vI xs s) (k+1)).1=(aN (vI xs s) k).1++[((vI xs s k (aN (vI xs s) k).2).1:Int)]:=rfl;rw [e1,vT,hl,jY,nO (by omega),bQ];show _+2^(64*k)*((nth xs k).toNat / 2^s+(nth xs (k+1)).toNat % 2^s*2^(64-s))*2^s+_=_;have hp:=kS (s:=s) (by omega);have h1:=sr (nth xs k).toNat (2^s);have e2:2^(64*k)*((nth xs k).toNat / 2^s+(nth xs (k+1)).toNat % 2^s*2^(64-s))*2^s=2^(64*k)*(2^s*((nth xs k).toNat / 2^s))+2^(64*(k+1))*((nth xs (k+1)).toNat % 2^s):=by
    rw [cn,bQ,ak,aq (2^s),cn ((nth xs (k+1)).toNat % 2^s),aq (2^(64-s)),hp,show 64*(k+1)=64*k+64 by omega,iH,cn (2^(64*k)) (2^64)];congr 2
    rw [aq]
   have e3:2^(64*k)*(nth xs k).toNat=2^(64*k)*(2^s*((nth xs k).toNat / 2^s))+2^(64*k)*((nth xs k).toNat % 2^s):=by rw [<- ak,h1]
   rw [e2,e3];omega
def adD (hx:aQ xs) (hs:s<64):limbs (aN (vI xs s) xs.length).1=limbs xs / 2^s:=by
 have h:=N6 hx hs xs.length aK;rw [cW aK,LK] at h;have h0:(0:Int).toNat % 2^s=0:=Nat.zero_mod _;rw [h0,jv,je] at h;have hP:0<2^s:=lC s;rw [<- h,aq,Nat.mul_add_div hP,FR (jO _ hP)];rfl
def adE {v:Int} (hs:s<64) (h0:0<=u) (h1:u<18446744073709551616) (h2:0<=v) (h3:v<18446744073709551616):
 bits .or .u64 (u / 2^s) (IntKind.u64.wrap (IntKind.u64.wrap (v*2)*2^(63-s)))=((u.toNat / 2^s+v.toNat % 2^s*2^(64-s):Nat):Int):=by
 obtain ⟨a,rfl⟩:=Iu h0;obtain ⟨b,rfl⟩:=Iu h2;rw [jY,jY];have hp:=kS (s:=s) (by omega);have hP:0<2^s:=lC s;have h4:a / 2^s<2^(64-s):=by
  rw [LL hP,aq,hp];omega
 have h5:=jO b hP;have h6:(b % 2^s+1)*2^(64-s)<=2^s*2^(64-s):=bI _ h5;rw [hp,bQ] at h6;have hR:=lC (64-s);have e1:IntKind.u64.wrap (IntKind.u64.wrap ((b:Int)*2)*2^(63-s))=((b % 2^s*2^(64-s):Nat):Int):=by
  have e2:IntKind.u64.wrap (IntKind.u64.wrap ((b:Int)*2)*2^(63-s))=(((b*2^(64-s)) % 18446744073709551616:Nat):Int):=by
   rw [ag,ag,Int.mul_emod,Int.emod_emod_of_dvd _ (Int.dvd_refl _),<- Int.mul_emod,abT,sq,gT,FP,<- Int.pow_succ',show 63-s+1=64-s by omega];rfl
  rw [e2];have e4:=(Lm (v:=b) (q:=0) (s:=64-s) (by omega) hR).1;rw [show 64-(64-s)=s by omega,je,je] at e4;rw [e4]
 have e5:(a:Int) / 2^s=((a / 2^s:Nat):Int):=by rw [QH,gT]
 rw [e1,e5,Nu _ _ (by omega) (by omega),NF _ _ (by omega) (by omega),aq,<- ahE h4];omega
def ZR (A:Option Addr) (n c ga gb:Nat) (xs:List Int) (s k q:Nat) (w:World) (ha:w.cell? ⟨ga,0,none⟩=some (.slice A n c)) (hb:w.cell? ⟨gb,0,none⟩=some (.int .i64 (s:Int))) (hx:aD w A n xs)
 (hk:k<n) (hn:n<=8500000000000) (hs:s<64):
 aC 145 #[.int .i64 (k:Int),.int .u64 (q:Int),.pointer (some ⟨ga,0,none⟩),.pointer (some ⟨gb,0,none⟩)] w fun e w'=>e=.returned (.tuple #[.int .u64 ((vI xs s k q).1:Int),.int .u64 ((vI xs s k q).2:Int)])∧∃j,w'=w.drewN j:=by
 have h1:=hx.ok k;have h2:=hx.ok (k+1);have C:=aA (fun W (h:aD W A n xs)=>Gr A n c xs (k+1) W h (by omega) (by omega));have Hx:=aA hx;obtain ⟨b,o,rfl,IK,hc⟩:=hx.at_ (by omega);have JZ:=hc k hk;have e1:=adE (u:=nth xs k) (v:=nth xs (k+1)) hs h1.1 h1.2 h2.1 h2.2;have f1:((vI xs s k q).1:Int)=(((nth xs k).toNat / 2^s+(nth xs (k+1)).toNat % 2^s*2^(64-s):Nat):Int):=rfl;have f2:((vI xs s k q).2:Int)=0:=rfl;rw [f1,f2];have wP:(0:Int)<=(k:Int):=by omega
 have hkn:(k:Int)<(n:Int):=by omega
 have e4:IntKind.i64.wrap (63-(s:Int))=((63-s:Nat):Int):=by rw [bR _ (by omega)];omega
 have e5:IntKind.i64.wrap ((k:Int)+1)=((k+1:Nat):Int):=by rw [bR _ (by omega)];omega
 have IB:(0:Int)<=(s:Int):=by omega
 have tZ:¬(s:Int)<0:=by omega
 generalize (nth xs k).toNat / 2^s+(nth xs (k+1)).toNat % 2^s*2^(64-s)=r1 at*
 generalize nth xs (k+1)=v at*
 generalize nth xs k=u at*
 clear hc hx h1 h2 f1 f2;go_enter func145,ntmps145
 go_wp2_with fail
 go_quiet (first | ((go_at_call 124);first | exact fh (C.o _ (Hx.o.drewN _)) | exact ja (C.o _ (Hx.o.drewN _))))
 go_wp2_with fail
 go_ret2;exact ⟨rfl,_,rfl⟩
def MG (p1 p2:Option Addr) (f:Nat->Nat->Nat×Nat) (n cb:Nat) (w:World) (hn:n<=17500000000000) (VH:∀k,k<=n->(aN f k).2<cb)
 (hF:∀(k c:Nat) (W:World),k<n->c<cb->Below w.heap.size w W->aC 145 #[.int .i64 (k:Int),.int .u64 (c:Int),.pointer p1,.pointer p2] W fun e w'=>e=.returned (.tuple #[.int .u64 ((f k c).1:Int),.int .u64 ((f k c).2:Int)])∧∃j,w'=W.drewN j):
 aC 121 #[.int .i64 (n:Int),.func (.func 145) #[] #[.pointer p1,.pointer p2]] w fun e w'=>e=.returned (.tuple #[.slice (some ⟨w.heap.size,0,none⟩) n n,.int .u64 ((aN f n).2:Int)])∧eR w' w.heap.size 38 (aN f n).1∧Below w.heap.size w w':=by
 obtain ⟨i0,hi,iQ,iC,iP⟩:=dJ cN;have Ck:=ej underlying39 hi iQ iC iP n (by omega) w;have HF:=aA hF;have Hfc:=aA VH;have oK:Hid (eR (w.alloc (.cells (au (List.replicate n 0)).toArray 38)) w.heap.size 38 (rR f n 0)):=by
  show eR _ _ _ _;rw [um];exact eR.new w _ _
 have ox:Below w.heap.size w (w.alloc (.cells (au (List.replicate n 0)).toArray 38)):=aW.alloc aK _;clear hF VH;generalize (au (List.replicate n 0)).toArray=cs at*
 go_enter func121,ntmps121
 go_wp2_with fail
 clear Ck;go_loopw [7,13] (fun cv i wr=>∃k:Nat,k<=n∧cv=.int .u64 ((aN f k).2:Int)∧i=.int .i64 (k:Int)∧Hid (eR wr w.heap.size 38 (rR f n k))∧Below w.heap.size w wr) (fun _ i _=>n-(intOf i).toNat)
 case atStart=>exact ⟨0,by omega,rfl,rfl,oK,ox⟩
 case round=>
  obtain ⟨k,hk,rfl,rfl,bH,bD⟩:=hrel;by_cases hlt:k<n
  . have dI:(k:Int)<(n:Int):=by omega
    (have wP:(0:Int)<=(k:Int):=by omega);have hc:=Hfc.o k hk;have C:=aA (HF.o k (aN f k).2 wr hlt hc bD);have e2:Hid ((aN f (k+1)).2=(f k (aN f k).2).2):=rfl;have lD:=bH.o.set k ((f k (aN f k).2).1:Int);rw [xN f hlt] at lD;have oq:=aA lD;have Bk:=bH.o.frozen k;have FH:=bH.o.cell (i:=k) (by rw [qg f hk];exact hlt);have VJ:=bD.setCell (p:=⟨w.heap.size,k,none⟩) aK (.int .u64 ((f k (aN f k).2).1:Int));clear lD;generalize hcc:(aN f k).2=q at*
    (go_wp2_with fail);refine C.o.mono ?_;rintro e w1 ⟨rfl,j,rfl⟩;have aeY:(wr.drewN j).frozen? ⟨w.heap.size,k,none⟩=false:=Bk;have afd:(wr.drewN j).cell? ⟨w.heap.size,k,none⟩=some (.int .u64 (nth (rR f n k) k)):=FH;(go_wp2_with fail);go_roundw
    case rel=>exact ⟨k+1,by omega,by rw [e2.o],by go_num,by first | exact oq | exact oq.o.drewN j,by first | exact VJ | exact below_drewN VJ _⟩
    case measure=>simp [intOf];omega
  . obtain rfl:k=n:=by omega
    (have dI:¬(k:Int)<(k:Int):=by omega);have hr:=bH.o;rw [uo] at hr;have Hr:=aA hr;clear hr bH;(go_wp2_with fail);go_ret2;exact ⟨rfl,Hr.o,bD⟩
def aea (A:Option Addr) (n c:Nat) (xs:List Int) (s:Nat) (w:World) (hx:aD w A n xs) (hn:n<=4000000000000) (hs:s<64) (hn0:0<n) (ig:n<=c) (_hc:c<=9223372036854775807):
 aC 119 #[.slice A n c,.int .i64 (s:Int)] w fun e w'=>∃zs,bX zs∧limbs zs=limbs xs / 2^s∧zs.length<=n∧rA w zs e w':=by
 obtain rfl:=hx.len;have lH:=aA (od (fun k c=>adF hx.ok hs k c) xs.length);have hlen:=aA (bh (vI xs s) xs.length);have hval:=aA (adD hx.ok hs);have mW:Below w.heap.size w ((w.alloc (.cells #[.slice A xs.length c] 39)).alloc (.cells #[.int .i64 (s:Int)] 3)):=(aW.alloc aK _).alloc (by simp) _;have LN:Hid (((w.alloc (.cells #[.slice A xs.length c] 39)).alloc (.cells #[.int .i64 (s:Int)] 3)).cell? ⟨w.heap.size,0,none⟩=some (.slice A xs.length c)):=pN _ _ _ _;have Jv:Hid (((w.alloc (.cells #[.slice A xs.length c] 39)).alloc (.cells #[.int .i64 (s:Int)] 3)).cell? ⟨w.heap.size+1,0,none⟩=some (.int .i64 (s:Int))):=pO _ _ _ _;have Hx:=aA (hx.aB mW);have hc0:∀k,(aN (vI xs s) k).2=0:=fun k=>by cases k<;>rfl
 have C:Hid (aC 121 #[.int .i64 (xs.length:Int),.func (.func 145) #[] #[.pointer (some ⟨w.heap.size,0,none⟩),.pointer (some ⟨w.heap.size+1,0,none⟩)]] ((w.alloc (.cells #[.slice A xs.length c] 39)).alloc (.cells #[.int .i64 (s:Int)] 3)) fun e w'=>e=.returned (.tuple #[.slice (some ⟨w.heap.size+1+1,0,none⟩) xs.length xs.length,.int .u64 ((aN (vI xs s) xs.length).2:Int)])∧eR w' (w.heap.size+1+1) 38 (aN (vI xs s) xs.length).1∧Below (w.heap.size+1+1) ((w.alloc (.cells #[.slice A xs.length c] 39)).alloc (.cells #[.int .i64 (s:Int)] 3)) w'):=by
  have h:=MG (some ⟨w.heap.size,0,none⟩) (some ⟨w.heap.size+1,0,none⟩) (vI xs s) xs.length 1 ((w.alloc (.cells #[.slice A xs.length c] 39)).alloc (.cells #[.int .i64 (s:Int)] 3)) (by omega) (fun j hj=>by rw [hc0];omega) (fun j q W hj hq hW=> ?_)
  . simp only [aJ] at h
    exact h
  . have hsz:=hW.size
    simp only [aJ] at hsz hW;exact ZR A xs.length c w.heap.size (w.heap.size+1) xs s j q W ((hW.cell (p:=⟨w.heap.size,0,none⟩) (by show w.heap.size<_;omega)).trans LN.o) ((hW.cell (p:=⟨w.heap.size+1,0,none⟩) (by show w.heap.size+1<_;omega)).trans Jv.o) (Hx.o.below hW (by simp)) hj (by omega) hs
 have ajE:max (s:Int) 0=(s:Int):=by omega
 have IB:(0:Int)<=(s:Int):=by omega
 have hsd:(s:Int).tdiv 64=0:=by rw [QF (by omega)];omega
 have hsm:(s:Int).tmod 64=(s:Int):=by rw [Vh (by omega)];omega
 obtain ⟨k,hk⟩:∃k,xs.length=k:=⟨_,rfl⟩;clear hx LN Jv Hx hc0;rw [hk] at C lH hlen mW hval hn hn0 ig ⊢;clear hk;have hn1:¬(k:Int)<=0:=by omega
 have hn2:(0:Int)<=(k:Int):=by omega
 have hn3:(k:Int)<=(c:Int):=by omega
 go_enter func119,ntmps119
 go_wp2_with fail
 all_goals
  refine C.o.mono ?_;rintro e w1 ⟨rfl,bH,dH⟩;have nj:=aA (mW.trans (dH.mono (by omega)));have hL:=bH.limbs lH.o;rw [hlen.o] at hL;have HL:=aA hL;have wZ:Hid (w.heap.size<=w.heap.size+1+1):=by show _<=_;omega
  have th:=aA (bF lH.o hlen.o);clear hL dH bH;generalize (aN (vI xs s) k).2=q at*
  generalize (aN (vI xs s) k).1=us at*
  generalize w.heap.size+1+1=g at*
  go_wp2_with fail
  refine (bK (some ⟨g,0,none⟩) k k us w1 HL.o aK (by omega)).mono ?_;rintro e w2 ⟨rfl,rfl⟩;have oL:=bS us k;have hln:(us.take (bu us k)).length=bu us k:=by rw [cS,hlen.o];omega
  have F:Hid (∃zs,bX zs∧limbs zs=limbs xs / 2^s∧zs.length<=k∧rA w zs (.returned (.slice (some ⟨g,0,none⟩) (bu us k) k)) w2):=
   ⟨us.take (bu us k),th.o.1,by rw [th.o.2];exact hval.o,by omega,some ⟨g,0,none⟩,bu us k,k,rfl,oL,by omega,HL.o.take oL,fun y hy=>by injection hy with hy;subst hy;exact wZ.o,nj.o⟩
  clear oL hln;go_wp2_with fail
  go_ret;exact F.o
def Kc (xs:List Int) (k:Nat):au (xs.take k)=(au xs).take k:=by simp [au]
def MC {xs:List Value}(h:w.ownsRow base e 1 (.slice A n c) n xs) (hm:m<=n):w.ownsRow base e 1 (.slice A m c) m (xs.take m):=by
 refine ⟨by rw [cS,h.1];omega,?_⟩;rcases h.2 with ⟨hv,h0⟩ | ⟨g,cap,cur,hv,hb,hg,ig,wS,hcs,ht⟩
 . injection hv with h1 h2 h3
   subst h1;subst h3;have:m=0:=by omega
   subst this;exact .inl ⟨rfl,rfl⟩
 . injection hv with h1 h2 h3
   subst h1;subst h3;refine .inr ⟨g,c,cur,rfl,hb,hg,by omega,wS,hcs,?_⟩;rw [<- ht,abS,bg,bg,pF hm]
def iw (z:Value) (k:Nat):Builtin.zeroCells #[z] k=(List.replicate k z).toArray:=by
 apply Array.ext
 . simp [Builtin.zeroCells]
 . intro i h1 h2
   simp [Builtin.zeroCells,Nat.mod_one]
def qQ (w:World) (base:Nat) (t tn ty e:TypeId) (i:TypeInfo) (z:Value) (kq kn:IntKind) (ht:P.underlying t=some (.slice e)) (htn:P.underlying tn=some (.int kn)) (hi:P.info? e=some i) (hz:i.zero=some z)
 (y9:i.size=1) (GA:i.bytes=8) (hzc:z.cells=#[z]) (iC:z.oneCell'=true) (v:Value) (n:Nat) (xs:List Value) (aY:w.ownsRow base e 1 v n xs) (k:Nat) (xV:n+k<=17592186044416) (rN:base<=w.heap.size):
 ∃v' w',(Builtin.append_ #[t,tn] ty #[v,.int kq (k:Int)]).run P w=.ok v' w'∧w'.ownsRow base e 1 v' (n+k) (xs++List.replicate k z)∧w.grownBy w' v.ownBlock∧(v'.ownBlock=v.ownBlock∨v'.ownBlock=some w.heap.size):=by
 have hlen:(xs++List.replicate k z).length=(n+k)*1:=by rw [eF,aY.1,gI];omega
 have hw:IntKind.i64.wrap (k:Int)=k:=by rw [IntKind.wrap_i64];omega
 have PO:¬((k:Int)<0):=by omega
 have ayv:¬(281474976710656<(k:Int)*(i.bytes:Int)):=by rw [GA];omega
 by_cases hk:k=0
 . subst hk
   have hw0:IntKind.i64.wrap 0=0:=by decide
   refine ⟨v,w,?_,by simpa using aY,⟨rfl,rfl,rfl,aK,fun _ _ _=>rfl⟩,.inl rfl⟩;rcases aY.2 with ⟨rfl,rfl⟩ | ⟨g,cap,cur,rfl,hbg,hg,ig,wS,hcs,Kq⟩
   . simp [Builtin.append_,xg ht,xg htn,Go.sizeOf,typeInfo,hi,asInt,asIntOf,hw0]
   . simp [Builtin.append_,xg ht,xg htn,Go.sizeOf,typeInfo,hi,asInt,asIntOf,hw0,ig,storeCells]
 . rcases aY.2 with ⟨rfl,rfl⟩ | ⟨g,cap,cur,rfl,hbg,hg,ig,wS,hcs,Kq⟩
   . have hx:xs=[]:=lz (by simpa using aY.1)
     subst hx;have hr:=Lib.run_append_nil_zeros (P:=P) w t tn ty e i z kq kn ht htn hi hz k (by omega) (by omega) (by omega) (by rw [GA];omega);have wZ:=grownCap_ge w k 0 e;refine ⟨_,_,hr,⟨by simp,.inr ⟨w.heap.size,_,_,by simp,rN,bO w.drew _,by simpa using wZ,abX w k 0 e (by unfold maxLen;omega),?_,?_⟩⟩,⟨rfl,rfl,rfl,by simp,fun j hj _=>xd w.drew _ hj⟩,.inr rfl⟩
     . rw [hzc,iw,iw]
       simp;omega
     . rw [hzc,iw,iw]
       simp
   . by_cases hroom:n+k<=cap
     . have hst:=run_storeCells_at P g (n*1) e (List.replicate k z) 0 cur w hg (by rw [gI];omega) (fun u hu=>by rw [abR hu];exact iC)
       simp only [je] at hst;refine ⟨.slice (some ⟨g,0,none⟩) (n+k) cap,w.setRow g (cur.toList.take (n*1)++List.replicate k z++cur.toList.drop (n*1+k)).toArray,?_,⟨hlen,.inr ⟨g,cap,_,rfl,hbg,Sx w g cur _ e _ hg,hroom,wS,?_,?_⟩⟩,⟨rfl,rfl,rfl,by simp [World.setRow],fun j _ hj=>setRow_other w g j _ (fun e=>hj (by simp [Value.ownBlock,e]))⟩,.inl rfl⟩
       . simp [Builtin.append_,xg ht,xg htn,Go.sizeOf,typeInfo,zeroValue,hi,hz,hzc,iw,asInt,asIntOf,hw,PO,ayv,hroom,y9,Addr.add_lit] at hst ⊢
         simp [hst];exact fun h=>absurd h hk
       . simp only [List.size_toArray,eF,cS,xh,Vg,gI]
         omega
       . rw [Kq]
         show ((xs++List.replicate k z)++_).take ((n+k)*1)=_;rw [<- hlen];exact List.take_left
     . have SC:=aY.cells (g:=g) rfl
       have hold:(Builtin.firstCells i.size n (.slice (some ⟨g,0,none⟩) n cap)).run P w.drew=.ok xs.toArray w.drew:=run_firstCells_some (P:=P) w.drew i.size n ⟨g,0,none⟩ n cap xs (by rw [y9];exact aY.1) SC;have hr:=Lib.run_append_grow_zeros (P:=P) w t tn ty e i z kq kn ht htn hi hz (some ⟨g,0,none⟩) n cap xs hold k (by omega) (by omega) (by omega) (by omega) (by rw [GA];omega) (growslice_fits (by omega) (by rw [GA];omega));have wZ:=grownCap_ge w (n+k) cap e;refine ⟨_,_,hr,⟨hlen,.inr ⟨w.heap.size,_,_,rfl,rN,bO w.drew _,wZ,abX w (n+k) cap e (by unfold maxLen;omega),?_,?_⟩⟩,⟨rfl,rfl,rfl,by simp,fun j hj _=>xd w.drew _ hj⟩,.inr rfl⟩
       . have:=aY.1
         rw [hzc,iw,iw];simp;omega
       . rw [hzc,iw,iw]
         simp only [Array.toList_append,vA];rw [<- vA,<- hlen];exact List.take_left
def JS (w:World) (xs:List Int) (e:Ending) (w':World):Prop:=
 ∃A n c,e=.returned (.slice A n c)∧n<=c∧c<=9223372036854775807∧aD w' A n xs∧w'.ownsRow w.heap.size 38 1 (.slice A n c) n (au xs)∧(∀x,A=some x->w.heap.size<=x.block)∧Below w.heap.size w w'
def Xx (w:World) (xs:List Int) (e:Ending) (w':World):Prop:=
 ∃A n c,e=.returned (.tuple #[.slice A n c,.int .i64 0])∧n<=c∧c<=9223372036854775807∧aD w' A n xs∧w'.ownsRow w.heap.size 38 1 (.slice A n c) n (au xs)∧(∀x,A=some x->w.heap.size<=x.block)∧Below w.heap.size w w'
def acB (w:World) (xs:List Int) (s n:Nat) (e:Ending) (w':World):Prop:=
 ∃zs A k c,e=.returned (.tuple #[.slice A k c,.int .i64 0])∧bX zs∧limbs zs=limbs xs*2^s∧k<=n+1∧k<=c∧c<=9223372036854775807∧aD w' A k zs∧w'.ownsRow w.heap.size 38 1 (.slice A k c) k (au zs)∧(∀x,A=some x->w.heap.size<=x.block)∧Below w.heap.size w w'
def OY {base':Nat} {size:Nat} {v:Value} {xs:List Value}(h:w.ownsRow base e size v n xs) (hb:base'<=base):w.ownsRow base' e size v n xs:=by
 refine ⟨h.1,?_⟩;rcases h.2 with h2 | ⟨g,cap,cur,hv,hg,r⟩
 . exact .inl h2
 . exact .inr ⟨g,cap,cur,hv,aH hb hg,r⟩
def ZQ (A B:Option Addr) (n m c d:Nat) (xs ys:List Int) (w:World) (hx:aD w A n xs) (hy:aD w B m ys) (hn:n<=8500000000000) (hm:m<=8500000000000) (mS:limbs ys<=limbs xs):
 aC 89 #[.slice A n c,.slice B m d] w (Xx w (nZ xs ys)):=by
 obtain ⟨i0,hi,iQ,iC,iP⟩:=dJ cN;have jq:=hx.len;have uJ:=hy.len;obtain ⟨k,hk⟩:∃k:Nat,k=max n m:=⟨_,rfl⟩;have Bj:k<=8500000000000:=by omega
 have lH:=aA (od (Ll xs ys) k);have hlen:=aA (bh (jL xs ys) k);have se:Hid (nZ xs ys=(aN (jL xs ys) k).1.take (bu (aN (jL xs ys) k).1 k)):=by
  show _=_;unfold nZ;rw [jq,uJ,<- hk]
 have ox:Hid ((aN (jL xs ys) k).2=0):=by
  have h:=(mG hx.ok hy.ok mS).1;rw [jq,uJ,<- hk] at h;exact h
 have mW:Below w.heap.size w ((w.alloc (.cells #[.slice A n c] 39)).alloc (.cells #[.slice B m d] 39)):=(aW.alloc aK _).alloc (by simp) _;have ca:((w.alloc (.cells #[.slice A n c] 39)).alloc (.cells #[.slice B m d] 39)).cell? ⟨w.heap.size,0,none⟩=some (.slice A n c):=pN _ _ _ _;have cb:((w.alloc (.cells #[.slice A n c] 39)).alloc (.cells #[.slice B m d] 39)).cell? ⟨w.heap.size+1,0,none⟩=some (.slice B m d):=pO _ _ _ _;have Hx:=aA (hx.aB mW);have Hy:=aA (hy.aB mW);have LN:=aA ca;have Jv:=aA cb;have C:Hid (aC 121 #[.int .i64 (k:Int),.func (.func 126) #[] #[.pointer (some ⟨w.heap.size,0,none⟩),.pointer (some ⟨w.heap.size+1,0,none⟩)]] ((w.alloc (.cells #[.slice A n c] 39)).alloc (.cells #[.slice B m d] 39)) fun e w'=>e=.returned (.tuple #[.slice (some ⟨w.heap.size+1+1,0,none⟩) k k,.int .u64 0])∧eR w' (w.heap.size+1+1) 38 (aN (jL xs ys) k).1∧Below (w.heap.size+1+1) ((w.alloc (.cells #[.slice A n c] 39)).alloc (.cells #[.slice B m d] 39)) w'):=by
  have h:=BG (some ⟨w.heap.size,0,none⟩) (some ⟨w.heap.size+1,0,none⟩) (jL xs ys) k 2 ((w.alloc (.cells #[.slice A n c] 39)).alloc (.cells #[.slice B m d] 39)) (by omega) (fun j hj=>by have:=(AU hx.ok hy.ok j).1;omega) (fun j q W hj hq hW=> ?_)
  . simp only [aJ] at h
    rw [ox.o] at h;exact h
  . have hs:=hW.size
    simp only [aJ] at hs hW;exact Og A B n m c d w.heap.size (w.heap.size+1) xs ys j q W ((hW.cell (p:=⟨w.heap.size,0,none⟩) (by show w.heap.size<_;omega)).trans LN.o) ((hW.cell (p:=⟨w.heap.size+1,0,none⟩) (by show w.heap.size+1<_;omega)).trans Jv.o) (Hx.o.below hW (by simp)) (Hy.o.below hW (by simp)) (by omega) (by omega) (by omega) (by omega)
 clear hx hy jq uJ ca cb LN Jv ox mS;rcases Vf m n with X8 | X8 | X8
 . obtain rfl:k=n:=by omega
   have hmx:¬(k:Int)<=(m:Int):=by omega
   have aaq:(m:Int)<(k:Int):=by omega
   have ajE:max (k:Int) (m:Int)=(k:Int):=by omega
   clear hk;go_enter func89,ntmps89
   go_wp2_with fail
   refine C.o.mono ?_;rintro e w1 ⟨rfl,bH,dH⟩;have nj:Below w.heap.size w w1:=mW.trans (dH.mono (by omega));have C6:=bH.limbs lH.o;rw [hlen.o] at C6;have QS:=aA C6;have Ju:=aA bH;clear C bH Hx Hy C6;generalize (aN (jL xs ys) k).1=us at*
   go_wp2_with fail
   refine (bK (some ⟨w.heap.size+1+1,0,none⟩) k k us w1 QS.o aK (by omega)).mono ?_;rintro e w3 ⟨rfl,rfl⟩;have oL:=bS us k;go_wp2_with fail
   go_ret2;refine ⟨some ⟨w.heap.size+1+1,0,none⟩,_,k,rfl,oL,by omega,?_,?_,fun x hx=> ?_,nj⟩
   . rw [se.o]
     exact QS.o.take oL
   . have h:=Ju.o.own (base:=w.heap.size) (by omega) (n:=bu us k) (by rw [hlen.o];exact oL) (by rw [hlen.o];unfold maxLen;omega)
     rw [hlen.o,<- se.o] at h;exact h
   . injection hx with hx
     rw [<- hx];show w.heap.size<=w.heap.size+1+1;omega
 . obtain rfl:k=n:=by omega
   obtain rfl:k=m:=by omega
   have hmx:max (k:Int) (k:Int)=(k:Int):=by omega
   clear hk;go_enter func89,ntmps89
   go_wp2_with fail
   refine C.o.mono ?_;rintro e w1 ⟨rfl,bH,dH⟩;have nj:Below w.heap.size w w1:=mW.trans (dH.mono (by omega));have C6:=bH.limbs lH.o;rw [hlen.o] at C6;have QS:=aA C6;have Ju:=aA bH;clear C bH Hx Hy C6;generalize (aN (jL xs ys) k).1=us at*
   go_wp2_with fail
   refine (bK (some ⟨w.heap.size+1+1,0,none⟩) k k us w1 QS.o aK (by omega)).mono ?_;rintro e w3 ⟨rfl,rfl⟩;have oL:=bS us k;go_wp2_with fail
   go_ret2;refine ⟨some ⟨w.heap.size+1+1,0,none⟩,_,k,rfl,oL,by omega,?_,?_,fun x hx=> ?_,nj⟩
   . rw [se.o]
     exact QS.o.take oL
   . have h:=Ju.o.own (base:=w.heap.size) (by omega) (n:=bu us k) (by rw [hlen.o];exact oL) (by rw [hlen.o];unfold maxLen;omega)
     rw [hlen.o,<- se.o] at h;exact h
   . injection hx with hx
     rw [<- hx];show w.heap.size<=w.heap.size+1+1;omega
 . obtain rfl:k=m:=by omega
   have hmx:(n:Int)<=(k:Int):=by omega
   have aaq:(n:Int)<(k:Int):=by omega
   have ajE:max (n:Int) (k:Int)=(k:Int):=by omega
   have aoK:¬(k:Int)<=(n:Int):=by omega
   have aoJ:¬(k:Int)<(n:Int):=by omega
   clear hk;go_enter func89,ntmps89
   go_wp2_with fail
   refine C.o.mono ?_;rintro e w1 ⟨rfl,bH,dH⟩;have nj:Below w.heap.size w w1:=mW.trans (dH.mono (by omega));have C6:=bH.limbs lH.o;rw [hlen.o] at C6;have QS:=aA C6;have Ju:=aA bH;clear C bH Hx Hy C6;generalize (aN (jL xs ys) k).1=us at*
   go_wp2_with fail
   refine (bK (some ⟨w.heap.size+1+1,0,none⟩) k k us w1 QS.o aK (by omega)).mono ?_;rintro e w3 ⟨rfl,rfl⟩;have oL:=bS us k;go_wp2_with fail
   go_ret2;refine ⟨some ⟨w.heap.size+1+1,0,none⟩,_,k,rfl,oL,by omega,?_,?_,fun x hx=> ?_,nj⟩
   . rw [se.o]
     exact QS.o.take oL
   . have h:=Ju.o.own (base:=w.heap.size) (by omega) (n:=bu us k) (by rw [hlen.o];exact oL) (by rw [hlen.o];unfold maxLen;omega)
     rw [hlen.o,<- se.o] at h;exact h
   . injection hx with hx
     rw [<- hx];show w.heap.size<=w.heap.size+1+1;omega
def Wm (A B:Option Addr) (n m c d:Nat) (xs ys:List Int) (w:World) (hx:aD w A n xs) (hy:aD w B m ys) (hn:n<=8500000000000) (hm:m<=8500000000000) (mS:limbs ys<=limbs xs):
 aC 118 #[.slice A n c,.slice B m d] w (JS w (nZ xs ys)):=by
 have C:=aA (ZQ A B n m c d xs ys w hx hy hn hm mS);clear hx hy mS;go_enter func118,ntmps118
 go_wp2_with fail
 refine C.o.mono ?_;rintro e w1 ⟨A1,k1,c1,rfl,g1,g2,g3,go,g4,g5⟩;have G3:=aA g3;have G4:=aA g4;have Go:=aA go;have G5:=aA g5;clear g3 g4 g5 go;go_wp2_with fail
 go_ret;exact ⟨A1,k1,c1,rfl,g1,g2,G3.o,Go.o,G4.o,G5.o⟩
def RR (A:Option Addr) (n c:Nat) (xs:List Int) (k:Nat) (w:World) (hx:aD w A n xs) (hn:n<=8500000000000) (hk:k<=8500000000000):
 aC 136 #[.slice A n c,.int .i64 (k:Int)] w (JS w (List.replicate k 0++xs)):=by
 obtain ⟨i0,hi,iQ,iC,iP⟩:=dJ cN;have Ck:=ej underlying39 hi iQ iC iP k (by omega) w;have hl:=hx.len;have Hr:=aA hx.reads;have JN:=aA hx.ok;have bH:=eR.new w 38 (List.replicate k 0);have jr:Hid ((w.alloc (.cells (au (List.replicate k 0)).toArray 38)).ownsRow w.heap.size 38 1 (.slice (some ⟨w.heap.size,0,none⟩) k k) k (au (List.replicate k 0))):=by
  have h:=bH.own aK (n:=k) (by rw [gI];exact aK) (by rw [gI];unfold maxLen;omega);rw [gI,gZ (by rw [gI];exact aK)] at h;exact h
 have hn0:(0:Int)<=(k:Int):=by omega
 clear hx hl bH;go_enter func136,ntmps136
 go_wp2_with (at_builtin;go_must (refine bN (w:=w.alloc (.cells (au (List.replicate k 0)).toArray 38)) rfl _ _ 39 rfl w.heap.size 38 i0 (.int .u64 0) 1 8 underlying39 hi iQ iC iP rfl (by decide) _ k (au (List.replicate k 0)) rfl jr.o w.heap.size A n c (au xs) rfl (Hr.o.alloc aK _) (iL xs) (by unfold maxLen;omega) (by omega) (by simp) ?_);intro v' w1 aY aX gO)
 have bL:w1.ownsRow w.heap.size 38 1 v' (k+n) (au (List.replicate k 0++xs)):=by rw [dU];exact aY
 have hb:Below w.heap.size w w1:=((Below.refl _ w).alloc aK _).grown aX (by simp) (fun k hk=>(jr.o.lt k hk).1);have zD:=aA bL;have Hb:=aA hb;clear aY aX gO hb bL;obtain ⟨A',c',rfl⟩:=eM zD.o;go_wp2_with fail
 go_ret;have hcc:k+n<=c'∧c'<=9223372036854775807:=by
  rcases zD.o.2 with ⟨hv,h0⟩ | ⟨g,cap,cur,hv,_,_,ig,wS,_⟩
  . injection hv;omega
  . injection hv with _ _ e
    unfold maxLen at wS;omega
 exact ⟨A',k+n,c',rfl,hcc.1,hcc.2,aD.gi zD.o (Ak JN.o),zD.o,fun y hy=>(zD.o.lt y.block (by subst hy;rfl)).1,Hb.o⟩
def Oh (A:Option Addr) (n c:Nat) (xs:List Int) (s:Nat) (w:World) (hx:aD w A n xs) (hn:n<=4000000000000) (hs:s<64):
 aC 115 #[.slice A n c,.int .i64 (s:Int)] w (acB w xs s n):=by
 obtain ⟨i0,hi,iQ,iC,iP⟩:=dJ cN;obtain rfl:=hx.len;have jq:2^s<18446744073709551616:=LV hs;have Cj:=aA (ud hx.ok jq);have lH:=aA (od (Fm xs (2^s)) xs.length);have hlen:=aA (bh (gm xs (2^s)) xs.length);have se:Hid (qW xs (2^s)=(aN (gm xs (2^s)) xs.length).1++[((aN (gm xs (2^s)) xs.length).2:Int)]):=rfl;have mW:Below w.heap.size w ((w.alloc (.cells #[.slice A xs.length c] 39)).alloc (.cells #[.int .i64 (s:Int)] 3)):=(aW.alloc aK _).alloc (by simp) _;have LN:Hid (((w.alloc (.cells #[.slice A xs.length c] 39)).alloc (.cells #[.int .i64 (s:Int)] 3)).cell? ⟨w.heap.size,0,none⟩=some (.slice A xs.length c)):=pN _ _ _ _;have Jv:Hid (((w.alloc (.cells #[.slice A xs.length c] 39)).alloc (.cells #[.int .i64 (s:Int)] 3)).cell? ⟨w.heap.size+1,0,none⟩=some (.int .i64 (s:Int))):=pO _ _ _ _;have akh:=Jv.o;have Hx:=aA (hx.aB mW);have aki:=Py hx.ok hs;obtain ⟨k,hk⟩:∃k,xs.length=k:=⟨_,rfl⟩;have C:Hid (aC 121 #[.int .i64 (xs.length:Int),.func (.func 142) #[] #[.pointer (some ⟨w.heap.size,0,none⟩),.pointer (some ⟨w.heap.size+1,0,none⟩)]] ((w.alloc (.cells #[.slice A xs.length c] 39)).alloc (.cells #[.int .i64 (s:Int)] 3)) fun e w'=>e=.returned (.tuple #[.slice (some ⟨w.heap.size+1+1,0,none⟩) xs.length xs.length,.int .u64 ((aN (gm xs (2^s)) xs.length).2:Int)])∧eR w' (w.heap.size+1+1) 38 (aN (gm xs (2^s)) xs.length).1∧Below (w.heap.size+1+1) ((w.alloc (.cells #[.slice A xs.length c] 39)).alloc (.cells #[.int .i64 (s:Int)] 3)) w'):=by
  have h:=MF (some ⟨w.heap.size,0,none⟩) (some ⟨w.heap.size+1,0,none⟩) (gm xs (2^s)) xs.length (2^s) ((w.alloc (.cells #[.slice A xs.length c] 39)).alloc (.cells #[.int .i64 (s:Int)] 3)) (by omega) (fun j hj=>aki j) (fun j q W hj hq hW=> ?_)
  . simp only [aJ] at h
    exact h
  . have hsz:=hW.size
    simp only [aJ] at hsz hW;exact ZT A xs.length c w.heap.size (w.heap.size+1) xs s j q W ((hW.cell (p:=⟨w.heap.size,0,none⟩) (by show w.heap.size<_;omega)).trans LN.o) ((hW.cell (p:=⟨w.heap.size+1,0,none⟩) (by show w.heap.size+1<_;omega)).trans Jv.o) (Hx.o.below hW (by simp)) hj (by omega) hs hq
 have hq:(aN (gm xs (2^s)) xs.length).2<18446744073709551616:=Nat.lt_trans (aki _) jq;clear hx LN Jv Hx jq aki;rw [hk] at C lH hlen se mW Cj hn hq akh ⊢;clear hk;have IB:¬(s:Int)<0:=by omega
 have tZ:¬(262144:Int)<(s:Int):=by omega
 have hsd:(s:Int).tdiv 64=0:=by rw [QF (by omega)];omega
 go_enter func115,ntmps115
 go_wp2_with fail
 refine C.o.mono ?_;rintro e w1 ⟨rfl,bH,dH⟩;have nj:Below w.heap.size w w1:=mW.trans (dH.mono (by omega));have tZ:w.heap.size+1+1<w1.heap.size:=bH.lt;have Mm:=(dH.cell (p:=⟨w.heap.size+1,0,none⟩) (by show w.heap.size+1<_;omega)).trans akh;have jr:Hid (w1.ownsRow (w.heap.size+1+1) 38 1 (.slice (some ⟨w.heap.size+1+1,0,none⟩) k k) k (au (aN (gm xs (2^s)) k).1)):=by
  have h:=bH.own aK (n:=k) (by rw [hlen.o];exact aK) (by rw [hlen.o];unfold maxLen;omega);rw [hlen.o,gZ (by rw [hlen.o];exact aK)] at h;exact h
 clear C bH akh;generalize (aN (gm xs (2^s)) k).2=q at*
 generalize (aN (gm xs (2^s)) k).1=us at*
 have Ma:Hid (au us++[.int .u64 (q:Int)]=au (us++[(q:Int)])):=by show _=_;rw [dU];rfl
 have HL:Hid (∀(W:World) (gg cap:Nat),W.ownsRow (w.heap.size+1+1) 38 1 (.slice (some ⟨gg,0,none⟩) (k+1) cap) (k+1) (au us++[.int .u64 (q:Int)])->aD W (some ⟨gg,0,none⟩) (k+1) (us++[(q:Int)])):=fun W gg cap h=>aD.gi (by rw [<- Ma.o];exact h) (lH.o.snoc (by omega) (by omega));have q1:Hid (k+1<=maxLen):=by show _<=_;unfold maxLen;omega
 have q2:Hid ((k+1)*8<=140737488355328):=by show _<=_;omega
 have q3:Hid (∀(o:Obj),w.heap.size+1+1<=(w1.drew.alloc o).heap.size):=fun o=>by
  have h1:(w1.drew.alloc o).heap.size=w1.heap.size+1:=aJ ..;omega
 have q4:Hid (∀(o:Obj),(w1.drew.alloc o).heap.size=w1.heap.size+1):=fun o=>aJ ..;have q5:Hid (∀(o:Obj),(w1.drew.alloc o).ownsRow (w.heap.size+1+1) 38 1 (.slice (some ⟨w.heap.size+1+1,0,none⟩) k k) k (au us)):=fun o=>NC (w:=w1.drew) jr.o o;have q6:Hid (∀u∈ [Value.int .u64 (q:Int)],u.oneCell'=true):=fun u hu=>by rw [en.1 hu];rfl
 have Mg:Hid (∀(o:Obj) (W':World),(w1.drew.alloc o).grownBy W' (some (w.heap.size+1+1))->W'.cell? ⟨w.heap.size+1,0,none⟩=some (.int .i64 (s:Int))):=fun o W' hg=>by
  have ho:Only (fun k=>some (w.heap.size+1+1)=some k) (w1.drew.alloc o) W':=(Only.fH hg).mono (fun i hi=>by first | exact hi | exact hi.symm);have hlt:(Addr.mk (w.heap.size+1) 0 none).block<(w1.drew.alloc o).heap.size:=by rw [q4.o];show w.heap.size+1<_;omega
  refine (ho.cell (p:=⟨w.heap.size+1,0,none⟩) hlt (fun e=>by injection e with e;have e2:w.heap.size+1+1=w.heap.size+1:=e;omega)).trans ?_;exact (vg w1.drew o ⟨w.heap.size+1,0,none⟩ (by show w.heap.size+1<w1.heap.size;omega)).trans Mm
 have HM:Hid (∀(A:Option Addr) (c:Nat) (W:World),aD W A (k+1) (us++[(q:Int)])->aC 136 #[.slice A (k+1) c,.int .i64 0] W (JS W (us++[(q:Int)]))):=fun A c W h=>RR A (k+1) c _ 0 W h (by omega) (by omega);have ajK:Hid (∀(o:Obj),(w1.drew.alloc o).cell? ⟨w.heap.size+1,0,none⟩=some (.int .i64 (s:Int))):=fun o=>(vg w1.drew o ⟨w.heap.size+1,0,none⟩ (by show w.heap.size+1<w1.heap.size;omega)).trans Mm;have ajL:Hid (∀(o:Obj) (W':World),(w1.drew.alloc o).grownBy W' (some (w.heap.size+1+1))->∀W3,Below W'.heap.size W' W3->W3.cell? ⟨w.heap.size+1,0,none⟩=some (.int .i64 (s:Int))):=fun o W' hg W3 h3=>by
  have hsz:=(Only.fH hg).size;rw [q4.o] at hsz;exact (h3.cell (p:=⟨w.heap.size+1,0,none⟩) (by show w.heap.size+1<_;omega)).trans (Mg.o o W' hg)
 have aoe:Hid (∀(o:Obj) (W':World),(w1.drew.alloc o).grownBy W' (some (w.heap.size+1+1))->w.heap.size<=W'.heap.size):=fun o W' hg=>by
  have hsz:=(Only.fH hg).size;rw [q4.o] at hsz;omega
 have bD:Hid (∀(o:Obj) (W':World),(w1.drew.alloc o).grownBy W' (some (w.heap.size+1+1))->∀W3,Below W'.heap.size W' W3->Below w.heap.size w W3):=fun o W' hg W3 h3=>by
  have uG:Below w.heap.size w (w1.drew.alloc o):=nj.drew.alloc nj.size o;have h2:=uG.grown hg (by rw [q4.o];omega) (fun j hj=>by injection hj;omega);exact h2.tm h3
 go_wp2_with fail
 go_region_held3 (fun W=>W.cell? ⟨w.heap.size+1,0,none⟩=some (.int .i64 (s:Int)))
  (first | go_keep | exact ajK.o _ | exact Mg.o _ _ aX | exact Mm | exact ajL.o _ _ aX _ g5)
  (first
    | (go_at_call 136;refine (HM.o _ _ _ GC).mono ?_;rintro e w3 ⟨A3,k3,c3,rfl,g1,g2,g3,go,g4,g5⟩)
    | (go_at_call 112;refine (bK A3 k3 c3 _ w3 g3 g1 g2).mono ?_;rintro e w4 ⟨rfl,rfl⟩)
    | ((refine su _ (by rfl) _ _ _ (by rfl) (w.heap.size+1+1) 38 i0 _ 1 8 underlying39 hi iQ iC iP rfl (by omega) (.slice (some ⟨w.heap.size+1+1,0,none⟩) k k) k (au us) (by rfl) (q5.o _) ⟨w1.heap.size,0,none⟩ 1 1 [.int .u64 (q:Int)] (by rfl) (by rfl) (gK (cs:=#[.int .u64 (q:Int)]) (t:=38) (fr:=(0,0)) (bO w1.drew _)) q6.o (Nat.one_pos) q1.o q2.o (q3.o _) (w1.heap.size+1) (q4.o _) ?_));intro gg cap w2 bL aX gO uv;have GC:=HL.o _ _ _ bL)
 have hl3:=g3.len;rw [eF,hlen.o] at hl3;have hl4:k3=k+1:=by rw [<- hl3];rfl
 subst hl4;have VD:=Cj.o;rw [se.o] at VD;have th:=bF VD.1 (n:=k+1) VD.2.1;have oL:=bS (us++[(q:Int)]) (k+1);have hgg:=(bL.lt gg rfl).2;have hg4:∀x,A3=some x->w.heap.size<=x.block:=fun x hx=>by
  have h1:=g4 x hx;have h2:=aoe.o _ _ aX;omega
 have hgo:w4.ownsRow w.heap.size 38 1 (.slice A3 (bu (us++[(q:Int)]) (k+1)) c3) (bu (us++[(q:Int)]) (k+1)) (au ((us++[(q:Int)]).take (bu (us++[(q:Int)]) (k+1)))):=by
  have h:=MC (OY go (aoe.o _ _ aX)) oL;rw [<- Kc] at h;exact h
 have F:Hid (acB w xs s k (.returned (.tuple #[.slice A3 (bu (us++[(q:Int)]) (k+1)) c3,.int .i64 0])) w4):=
  ⟨_,A3,_,c3,rfl,th.1,by rw [th.2];exact VD.2.2,oL,by omega,g2,g3.take oL,hgo,hg4,bD.o _ _ aX _ g5⟩
 go_wp2_with fail
 go_ret2;exact F.o
def W5 (a b:Int):limbs [a,b]=a.toNat+18446744073709551616*b.toNat:=by
 show a.toNat+2^64*(b.toNat+2^64*0)=_;omega
def O5 (a b c:Int):limbs [a,b,c]=a.toNat+18446744073709551616*(b.toNat+18446744073709551616*c.toNat):=by
 show a.toNat+2^64*(b.toNat+2^64*(c.toNat+2^64*0))=_;omega
def abj (h:xs.length=n+2):xs.drop n=[nth xs n,nth xs (n+1)]:=by
 rw [xb (by omega),xb (by omega),CP (by omega),gJ (by omega),gJ (by omega)]
def SU (h:xs.length=n+3):xs.drop n=[nth xs n,nth xs (n+1),nth xs (n+2)]:=by
 rw [xb (by omega),xb (by omega),xb (by omega),CP (by omega),gJ (by omega),gJ (by omega),gJ (by omega)]
def ady (h:xs.length=n+2):((nth xs (n+1)).toNat*18446744073709551616+(nth xs n).toNat)*2^(64*n)<=limbs xs:=by
 have h1:=r9 xs (k:=n) (by omega);rw [abj h,W5] at h1;rw [h1,aq ((nth xs (n+1)).toNat)];have:(18446744073709551616*(nth xs (n+1)).toNat+(nth xs n).toNat)*2^(64*n)=2^(64*n)*((nth xs n).toNat+18446744073709551616*(nth xs (n+1)).toNat):=by rw [aq,xZ]
 omega
def V6 (ok:aQ xs) (h:xs.length=n+3):limbs xs<(((nth xs (n+2)).toNat*18446744073709551616+(nth xs (n+1)).toNat)*18446744073709551616+(nth xs n).toNat+1)*2^(64*n):=by
 have h1:=r9 xs (k:=n) (by omega);rw [SU h,O5] at h1;have h2:=eH (ok.take n);rw [cS,pF (by omega)] at h2;have h3:(nth xs n).toNat+18446744073709551616*((nth xs (n+1)).toNat+18446744073709551616*(nth xs (n+2)).toNat)=((nth xs (n+2)).toNat*18446744073709551616+(nth xs (n+1)).toNat)*18446744073709551616+(nth xs n).toNat:=by omega
 rw [h1,h3];have:∀T,limbs (xs.take n)+2^(64*n)*T<(T+1)*2^(64*n):=fun T=>by
  clear h1 h3;generalize (2:Nat)^(64*n)=E at*
  rw [Nat.succ_mul,aq];omega
 exact this _
def abd {vs ps:List Int} {x:Nat}(hv:vs.length=n+2) (hp:ps.length=n+3) (ok:aQ ps) (hx:x<18446744073709551616) (h:x*limbs vs<=limbs ps)
 (hg:Xw (nth ps (n+2)).toNat (nth ps (n+1)).toNat (nth ps n).toNat (nth vs (n+1)).toNat (nth vs n).toNat g):x<=g:=by
 refine hg.2 x hx ?_;exact XZ (ady hv) (V6 ok hp) h
structure uI (N V k:Nat) (us qs:List Int):Prop where
 YM:aQ us
 qok:aQ qs
 eq:N=limbs (qs.drop k)*V*2^(64*k)+limbs us
 lt:limbs us<V*2^(64*k)
def uI.split {N V k n:Nat} {us qs:List Int}(h:uI N V (k+1) us qs) (hV:V<2^(64*n)) (hk:k+n+1<=us.length):limbs us=limbs (us.take k)+2^(64*k)*limbs ((us.drop k).take (n+1))∧limbs ((us.drop k).take (n+1))<V*18446744073709551616:=by
 have h1:=r9 us (k:=k) (by omega);have h2:=r9 (us.drop k) (k:=n+1) (by rw [xh];omega);have h3:=h.lt;have e1:(2:Nat)^(64*(k+1))=2^(64*k)*18446744073709551616:=by rw [show 64*(k+1)=64*k+64 by omega,iH]
 have hz:limbs ((us.drop k).drop (n+1))=0:=by
  rcases jJ (limbs ((us.drop k).drop (n+1))) with h0 | h0
  . exact h0
  . exfalso
    have h4:V*2^(64*(k+1))<=2^(64*n)*2^(64*(k+1)):=bI _ (nK hV);rw [<- iH] at h4;have h5:2^(64*k)*(2^(64*(n+1))*1)<=2^(64*k)*(2^(64*(n+1))*limbs ((us.drop k).drop (n+1))):=bl _ (bl _ h0);rw [bg,<- iH,show 64*k+64*(n+1)=64*n+64*(k+1) by omega] at h5;(have h6:2^(64*k)*limbs (us.drop k)=2^(64*k)*limbs ((us.drop k).take (n+1))+2^(64*k)*(2^(64*(n+1))*limbs ((us.drop k).drop (n+1))):=by rw [h2,ak]);omega
 rw [hz,jv,je] at h2;rw [h2] at h1;refine ⟨h1,?_⟩;have h7:2^(64*k)*limbs ((us.drop k).take (n+1))<2^(64*k)*(V*18446744073709551616):=by
  have e2:V*2^(64*(k+1))=2^(64*k)*(V*18446744073709551616):=by rw [e1];ac_rfl
  omega
 exact Nat.lt_of_mul_lt_mul_left h7
def MR {k:Nat}(hk:k+rs.length<=us.length) (hz:limbs (us.drop (k+rs.length))=0):limbs (Go.splice us k rs)=limbs (us.take k)+2^(64*k)*limbs rs:=by
 unfold Go.splice;rw [iM,iM,hz,jv,je,cS,pF (by omega)]
def ZI (xs ys:List Int) (i:Nat):nth (xs++ys) i=if i<xs.length then nth xs i else nth ys (i-xs.length):=by
 unfold nth;simp only [List.getD,List.getElem?_append];split<;>rfl
def yD {ys:List Int}(hx:aQ xs) (hy:aQ ys):aQ (xs++ys):=fun i=>by
 rw [ZI];split
 . exact hx i
 . exact hy _
def Uf (hx:aQ xs) (k:Nat):aQ (xs.drop k):=fun i=>by
 have h:=hx (k+i);have e:nth (xs.drop k) i=nth xs (k+i):=by unfold nth;simp [List.getD]
 rw [e];exact h
def Wf (hu:aQ us) (hr:aQ rs) (k:Nat):aQ (Go.splice us k rs):=yD (hu.take k) (yD hr (Uf hu _))
def uI.next {N V k n x:Nat} {us qs rs:List Int}(h:uI N V (k+1) us qs) (hV:V<2^(64*n)) (hk:k+n+1<=us.length) (hq:k<qs.length) (hx:x<18446744073709551616)
 (h1:x*V<=limbs ((us.drop k).take (n+1))) (h2:limbs ((us.drop k).take (n+1))<(x+1)*V) (Cj:rs.length=n+1) (hro:aQ rs) (hr:limbs rs=limbs ((us.drop k).take (n+1))-x*V):
 uI N V k (Go.splice us k rs) (qs.set k (x:Int)):=by
 obtain ⟨s1,s2⟩:=h.split hV hk;have e1:(2:Nat)^(64*(k+1))=2^(64*k)*18446744073709551616:=by rw [show 64*(k+1)=64*k+64 by omega,iH]
 have hz:limbs (us.drop (k+(n+1)))=0:=by
  have h3:=r9 us (k:=k+(n+1)) (by omega);rw [List.take_add,iM,cS,pF (by omega)] at h3;have h4:0<2^(64*(k+(n+1))):=lC _;rcases jJ (limbs (us.drop (k+(n+1)))) with h0 | h0
  . exact h0
  . have:=iR h4 h0
    omega
 have e2:=MR (us:=us) (rs:=rs) (k:=k) (by omega) (by rw [Cj];exact hz);have e3:limbs ((qs.set k (x:Int)).drop k)=x+18446744073709551616*limbs (qs.drop (k+1)):=by
  rw [zP (by rw [gH];exact hq),FL,iX hq,aM rfl,jY]
 refine ⟨Wf h.YM hro k,h.qok.set k (by omega) (by omega),?_,?_⟩
 . rw [e3,e2,hr,h.eq,s1,e1]
   generalize limbs ((us.drop k).take (n+1))=P at*
   generalize limbs (qs.drop (k+1))=Q at*
   generalize (2:Nat)^(64*k)=E at*
   obtain ⟨r,rfl⟩:∃r,P=x*V+r:=⟨P-x*V,by omega⟩;rw [Nat.add_sub_cancel_left,ak,bQ,bQ];have a1:Q*V*(E*18446744073709551616)=18446744073709551616*Q*V*E:=by ac_rfl
   have a2:E*(x*V)=x*V*E:=aq _ _;omega
 . rw [e2,hr]
   have h5:=eH (h.YM.take k);rw [cS,pF (by omega)] at h5;generalize limbs ((us.drop k).take (n+1))=P at*
   generalize (2:Nat)^(64*k)=E at*
   have h6:P-x*V+1<=V:=by rw [bQ] at h2;omega
   have h7:E*(P-x*V+1)<=E*V:=bl _ h6;rw [ak,aq E V] at h7;omega
def uI.done (h:uI (X*2^s) (Y*2^s) 0 us qs):limbs qs=X / Y∧limbs us / 2^s=X % Y:=by
 have h1:=h.eq;have h2:=h.lt;rw [jv,wH,bg,QE] at h1;rw [jv,wH,bg] at h2;have hP:0<2^s:=lC s;have h3:limbs qs*(Y*2^s)<=X*2^s:=by omega
 have h4:X*2^s<(limbs qs+1)*(Y*2^s):=by rw [bQ];omega
 obtain ⟨h5,h6⟩:=Po h3 h4;obtain ⟨h7,h8⟩:=Xe X Y hP;rw [<- h7,<- h8,h5];refine ⟨rfl,?_⟩;rw [<- h6];congr 1
 omega
def uI.start {la:Nat} (YM:aQ us) (qok:aQ qs) (hu:limbs us=X*2^s) (hX:X<2^(64*la)) (hY:2^(64*(n-1))<=Y) (hn:0<n) (si:n<=la+1) (hq:qs.length=la+1-n):uI (X*2^s) (Y*2^s) (la+1-n) us qs:=by
 have hP:0<2^s:=lC s;refine ⟨YM,qok,?_,?_⟩
 . rw [CP (by omega),hu]
   show _=0*_*_+_;omega
 . rw [hu]
   have h1:2^(64*(n-1))*2^(64*(la+1-n))<=Y*2^(64*(la+1-n)):=bI _ hY;rw [<- iH,show 64*(n-1)+64*(la+1-n)=64*la by omega] at h1;rw [Nat.mul_right_comm];exact ahD (by omega) hP
def xI {xs:List Value}(h:w.ownsRow base e 1 (.slice A n c) n xs) (hn:0<n):∃g,A=some ⟨g,0,none⟩∧base<=g∧g<w.heap.size∧n<=c∧c<=maxLen∧∃ex,w.heap[g]? =some (.cells (xs++ex).toArray e (0,0))∧n+ex.length=c:=by
 rcases h.2 with ⟨_,h0⟩ | ⟨g,cap,cur,hv,hb,hg,ig,wS,hcs,ht⟩
 . omega
 . injection hv with h1 h2 h3
   subst h1;subst h3;refine ⟨g,rfl,hb,(jf.1 hg).1,ig,wS,cur.toList.drop n,?_,?_⟩
   . rw [hg,<- ht,bg,CO]
   . rw [xh,Vg];omega
def WZ {xs:List Value}(h:w.ownsRow base e 1 (.slice (some ⟨g,0,none⟩) n c) n xs):∀j u,xs[j]? =some u->w.cell? ((⟨g,0,none⟩:Addr).add j)=some u:=h.cells rfl
def FW (w:World) (hgd:o.guard=none) (s x:Operand) (t tn:TypeId)
 (ho:o.op=.call { callee:=.builtin .append,args:=#[s,x],argTypes:=#[t,tn]}) (vs vx:Value) (hs:a.eval s=vs) (hx:a.eval x=vx)
 (v':Value) (w':World) (hr:(Builtin.append_ #[t,tn] o.type #[vs,vx]).run P w=.ok v' w') (h:K (a.put o.dst v') w'):if Region.wanted o (yielded ops a.tmps)=true then Oper.wp P o a w K Q else E:=by
 have hw:Region.wanted o (yielded ops a.tmps)=true:=by simp [Region.wanted,hgd]
 rw [aM hw];exact Lib.wp_append_run w s x t tn ho vs vx hs hx v' w' hr h
def Jd (hgd:o.guard=none) (d s:Operand) (dT sT:TypeId)
 (ho:o.op=.call { callee:=.builtin .copy,args:=#[d,s],argTypes:=#[dT,sT]}) (elem:TypeId) (hu:P.underlying dT=some (.slice elem)) (hsz:(P.info? elem).map (·.size)=some 1)
 (g off dLen dCap:Nat) (ad:Addr) (sLen sCap:Nat) (hd:a.eval d=.slice (some ⟨g,off,none⟩) dLen dCap) (hs:a.eval s=.slice (some ad) sLen sCap)
 (cur:List Value) (t:TypeId) (hg:w.heap[g]? =some (.cells cur.toArray t (0,0))) (cs:List Value) (hn:cs.length=Nat.min sLen dLen)
 (avq:∀j v,cs[j]? =some v->w.cell? (ad.add j)=some v) (Mi:off+cs.length<=cur.length) (h1:∀v∈cs,v.oneCell'=true)
 (h:K (a.put o.dst (goInt cs.length)) (w.setRow g (splice cur off cs).toArray)):if Region.wanted o (yielded ops a.tmps)=true then Oper.wp P o a w K Q else E:=by
 have hw:Region.wanted o (yielded ops a.tmps)=true:=by simp [Region.wanted,hgd]
 rw [aM hw];have hrun:=run_copy_row (P:=P) w dT sT o.type elem g off dLen dCap ad sLen sCap cur.toArray t cs hu hsz hg hn avq (by simpa using Mi) h1;have e:(cur.toArray.toList.take off++cs++cur.toArray.toList.drop (off+cs.length))=splice cur off cs:=by unfold splice;simp
 rw [e] at hrun;unfold Oper.wp;simp [execOp,ho,resolve,invoke,builtin,hd,hs,hrun,Result.andThen];exact h
def vM (ds:List Int) (m:Nat):List Int:=(ds++List.replicate m 0).take m
def WY {ds:List Int}(ok:aQ ds) (h:ds.length<=m):(vM ds m).length=m∧aQ (vM ds m)∧limbs (vM ds m)=limbs ds:=by
 have hz:aQ (List.replicate m (0:Int)):=fun i=>by
  by_cases hi:i<(List.replicate m (0:Int)).length
  . rw [gJ hi,LJ];omega
  . rw [cW (by omega)];omega
 have ho:=yD ok hz;refine ⟨by unfold vM;rw [cS,eF,gI];omega,ho.take m,?_⟩;have h1:vM ds m=ds++List.replicate (m-ds.length) 0:=by
  unfold vM;rw [List.take_append,gZ h,List.take_replicate];congr 2
  omega
 rw [h1,iM,nQ,jv,je]
def wW (w:World) (g:Nat) (xs:List Int) (ex:List Value):Prop:=w.heap[g]? =some (.cells (au xs++ex).toArray 38 (0,0))
section
variable {w w' : World} {g : Nat} {xs : List Int} {ex : List Value}
def wW.lt (h:wW w g xs ex):g<w.heap.size:=(jf.1 h).1
def wW.cell (h:wW w g xs ex) {i:Nat}(hi:i<xs.length):w.cell? ⟨g,i,none⟩=some (.int .u64 (nth xs i)):=by
 rw [dA w g i _ _ (0,0) h];simp only [List.getElem?_toArray];rw [Sr (by rw [gF];exact hi)];exact BP hi
def wW.aB (h:wW w g xs ex) (hb:Below w.heap.size w w'):wW w' g xs ex:=(hb.block g h.lt).trans h
def wW.far (h:wW w g xs ex) {p:Addr}(hp:g≠p.block) (u:Value):wW (w.setCell p u) g xs ex:=(EJ w p u g hp).trans h
def wW.limbs (h:wW w g xs ex) (ok:aQ xs) {k m:Nat}(hk:k+m<=xs.length):aD w (some ⟨g,k,none⟩) m ((xs.drop k).take m):=
 ⟨by rw [cS,xh];omega,fun _=>⟨g,k,rfl,h.lt,fun i hi=>by
   rw [h.cell (i:=k+i) (by omega),mq hi];congr 2
   unfold nth;simp [List.getD]⟩,(Uf ok k).take m⟩
def wW.splice (h:wW w g xs ex) {k:Nat} {rs:List Int}(hk:k+rs.length<=xs.length):wW (w.setRow g (Go.splice (au xs++ex) k (au rs)).toArray) g (Go.splice xs k rs) ex:=by
 unfold wW;have e:Go.splice (au xs++ex) k (au rs)=au (Go.splice xs k rs)++ex:=by
  unfold Go.splice;rw [List.take_append_of_le_length (by rw [gF];omega),List.drop_append_of_le_length (by rw [gF,gF];omega),dU,dU,gF];simp [au,QD,List.map_drop]
 rw [e];exact Sx w g _ _ _ _ h
def Oa {S:Nat->Prop}(h:Only S w w') (hg:S g) (cs:Array Value):Only S w (w'.setRow g cs):=
 ⟨h.os,h.tape,h.output,by simp [World.setRow];exact h.size,fun j hj hs=>(setRow_other w' g j cs (fun e=>hs (e ▸ hg))).trans (h.block j hj hs)⟩
def eR.Qt {t:TypeId} {g':Nat}(h:eR w g t xs) (hg:g≠g') (cs:Array Value):eR (w.setRow g' cs) g t xs:=(setRow_other w g' g cs hg).trans h
end
def Oi (A:Option Addr) (n c:Nat) (xs:List Int) (x:Nat) (w:World) (hx:aD w A n xs) (hn:n<=8500000000000) (jq:x<18446744073709551616):
 aC 117 #[.slice A n c,.int .u64 (x:Int)] w fun e w'=>∃g cap,e=.returned (.slice (some ⟨g,0,none⟩) (n+1) cap)∧w.heap.size<=g∧n+1<=cap∧cap<=9223372036854775807∧aD w' (some ⟨g,0,none⟩) (n+1) (qW xs x)∧Below w.heap.size w w':=by
 obtain ⟨i0,hi,iQ,iC,iP⟩:=dJ cN;obtain rfl:=hx.len;have Cj:=aA (ud hx.ok jq);have hval:=aA (ue hx.ok jq xs.length);have lH:=aA (od (Fm xs x) xs.length);have hlen:=aA (bh (gm xs x) xs.length);have se:Hid (qW xs x=(aN (gm xs x) xs.length).1++[((aN (gm xs x) xs.length).2:Int)]):=rfl;have mW:Below w.heap.size w ((w.alloc (.cells #[.slice A xs.length c] 39)).alloc (.cells #[.int .u64 (x:Int)] 38)):=(aW.alloc aK _).alloc (by simp) _;have LN:Hid (((w.alloc (.cells #[.slice A xs.length c] 39)).alloc (.cells #[.int .u64 (x:Int)] 38)).cell? ⟨w.heap.size,0,none⟩=some (.slice A xs.length c)):=pN _ _ _ _;have Jv:Hid (((w.alloc (.cells #[.slice A xs.length c] 39)).alloc (.cells #[.int .u64 (x:Int)] 38)).cell? ⟨w.heap.size+1,0,none⟩=some (.int .u64 (x:Int))):=pO _ _ _ _;have Hx:=aA (hx.aB mW);obtain ⟨k,hk⟩:∃k,xs.length=k:=⟨_,rfl⟩;have C:Hid (aC 121 #[.int .i64 (xs.length:Int),.func (.func 144) #[] #[.pointer (some ⟨w.heap.size,0,none⟩),.pointer (some ⟨w.heap.size+1,0,none⟩)]] ((w.alloc (.cells #[.slice A xs.length c] 39)).alloc (.cells #[.int .u64 (x:Int)] 38)) fun e w'=>e=.returned (.tuple #[.slice (some ⟨w.heap.size+1+1,0,none⟩) xs.length xs.length,.int .u64 ((aN (gm xs x) xs.length).2:Int)])∧eR w' (w.heap.size+1+1) 38 (aN (gm xs x) xs.length).1∧Below (w.heap.size+1+1) ((w.alloc (.cells #[.slice A xs.length c] 39)).alloc (.cells #[.int .u64 (x:Int)] 38)) w'):=by
  have h:=BH (some ⟨w.heap.size,0,none⟩) (some ⟨w.heap.size+1,0,none⟩) (gm xs x) xs.length 18446744073709551616 ((w.alloc (.cells #[.slice A xs.length c] 39)).alloc (.cells #[.int .u64 (x:Int)] 38)) (by omega) (fun j hj=>(ue hx.ok jq j).1) (fun j q W hj hq hW=> ?_)
  . simp only [aJ] at h
    exact h
  . have hs:=hW.size
    simp only [aJ] at hs hW;exact Oj A xs.length c w.heap.size (w.heap.size+1) xs x j q W ((hW.cell (p:=⟨w.heap.size,0,none⟩) (by show w.heap.size<_;omega)).trans LN.o) ((hW.cell (p:=⟨w.heap.size+1,0,none⟩) (by show w.heap.size+1<_;omega)).trans Jv.o) (Hx.o.below hW (by simp)) hj hn jq hq
 have hq:(aN (gm xs x) xs.length).2<18446744073709551616:=hval.o.1;clear hx hval LN Jv Hx jq;rw [hk] at C lH hlen se mW Cj hn hq ⊢;clear hk;go_enter func117,ntmps117
 go_wp2_with fail
 refine C.o.mono ?_;rintro e w1 ⟨rfl,bH,dH⟩;have nj:Below w.heap.size w w1:=mW.trans (dH.mono (by omega));have tZ:w.heap.size+1+1<w1.heap.size:=bH.lt;have jr:Hid (w1.ownsRow (w.heap.size+1+1) 38 1 (.slice (some ⟨w.heap.size+1+1,0,none⟩) k k) k (au (aN (gm xs x) k).1)):=by
  have h:=bH.own aK (n:=k) (by rw [hlen.o];exact aK) (by rw [hlen.o];unfold maxLen;omega);rw [hlen.o,gZ (by rw [hlen.o];exact aK)] at h;exact h
 clear C bH;generalize (aN (gm xs x) k).2=q at*
 generalize (aN (gm xs x) k).1=us at*
 go_wp2_with (at_builtin;refine nv _ (by rfl) _ _ _ (by rfl) (w.heap.size+1+1) 38 i0 _ 1 8 underlying39 hi iQ iC iP rfl (by omega) (.slice (some ⟨w.heap.size+1+1,0,none⟩) k k) k (au us) (by rfl) (jr.o.alloc _) ⟨w1.heap.size,0,none⟩ 1 1 [.int .u64 (q:Int)] (by rfl) (by rfl) (gK (cs:=#[.int .u64 (q:Int)]) (t:=38) (fr:=(0,0)) (bO w1 _)) (by simp [Value.oneCell']) (by omega) (by unfold maxLen;omega) (by omega) (by simp;omega) (w1.heap.size+1) (by simp) ?_;intro gg cap w2 bL aX gO uv)
 have Mp:Below w.heap.size w w2:=((nj.alloc nj.size _)).grown aX (by simp;omega) (fun j hj=>by have:=(jr.o.lt j hj).1;omega);have Ma:au us++[.int .u64 (q:Int)]=au (us++[(q:Int)]):=by rw [dU];rfl
 rw [Ma] at bL;have GC:aD w2 (some ⟨gg,0,none⟩) (k+1) (us++[(q:Int)]):=aD.gi bL (lH.o.snoc (by omega) (by omega));have aeW:=(bL.lt gg rfl).1;obtain ⟨_,_,_,_,apA,ahg,_⟩:=xI bL (by omega);unfold maxLen at ahg;rw [<- se.o] at GC;have Qh:=aA GC;clear bL aX gO uv Ma GC;go_wp2_with fail
 go_ret;exact ⟨gg,cap,rfl,by omega,apA,by omega,Qh.o,Mp⟩
def Zs (ds:List Int) (m:Nat):au (vM ds m)=(au ds++List.replicate m (Value.int .u64 0)).take m:=by
 unfold vM;rw [Kc,dU];congr 2
 simp [au]
def RL (wl:World) (base:Nat) (Ad:Option Addr) (kd cd:Nat) (ds:List Int) (m:Nat) (hm:0<m) (hb:kd+m<=17592186044416) (own:wl.ownsRow base 38 1 (.slice Ad kd cd) kd (au ds)) (rN:base<=wl.heap.size):
 ∃gz cz wz,(Builtin.append_ #[39,3] 39 #[.slice Ad kd cd,.int .i64 (m:Int)]).run prog wl=.ok (.slice (some ⟨gz,0,none⟩) (kd+m) cz) wz∧(∀j v,(au (vM ds m))[j]? =some v->wz.cell? ((⟨gz,0,none⟩:Addr).add j)=some v)∧m<=cz∧cz<=maxLen∧Below base wl wz:=by
 obtain ⟨i0,hi,iQ,iC,iP⟩:=dJ cN;have Mb:(Value.int .u64 0).cells=#[Value.int .u64 0]:=rfl;obtain ⟨va,wz,z1,z2,z3,z4⟩:=qQ (P:=prog) wl base 39 3 39 38 i0 (.int .u64 0) .i64 .i64 underlying39 underlying3 hi iQ iC iP Mb rfl (.slice Ad kd cd) kd (au ds) own m hb rN;obtain ⟨Az,cz,rfl⟩:=eM z2;obtain ⟨gz,rfl,_,_,Qf,Ml,_⟩:=xI z2 (by omega);refine ⟨gz,cz,wz,z1,fun j v hj=> ?_,by omega,Ml,?_⟩
 . rw [Zs,Vj] at hj
   split at hj
   . exact WZ z2 j v hj
   . cases hj
 . exact (Below.refl base wl).grown z3 rN (fun j hj=>(own.lt j hj).1)
