import Derived.Test.YtehcoffbiplphaaGreatHZKa
set_option linter.all false
set_option maxHeartbeats 8000000
set_option maxRecDepth 100000
namespace Go.Proofs.YtehcoffbiplphaaGreat
open Go.Proofs.Tryz
variable {xs ys zs:List Int} {n:Int}
def dN.as {s:Bool} {ls:List Int} {z z':Int}(h:dN s ls z) (e:z=z'):dN s ls z':=e ▸ h
def zN {s t:Bool} (hst:(s==t)=true) (h:limbs zs=limbs xs+limbs ys):aI s zs=aI s xs+aI t ys:=by
 have:s=t:=by simpa using hst
 subst this;unfold aI;cases s<;>simp [h]<;>omega
def qD {s t:Bool} (hst:(s==t)=false) (h:limbs zs=limbs xs-limbs ys) (mj:limbs ys<=limbs xs):aI s zs=aI s xs+aI t ys:=by
 unfold aI;cases s<;>cases t<;>simp_all<;>omega
open Go.RowKit
def atV (F:FuncId):Prop:=
 ∀(A B:Option Addr) (n m c d:Nat) (xs ys:List Int) (w:World),aD w A n xs->aD w B m ys->n<=4000000000000->m<=4000000000000->aB F #[.slice A n c,.slice B m d] w fun e w'=>∃A k c ls,e=.returned (.slice A k c)∧k<=c∧c<=9223372036854775807∧k<=max n m+1∧aD w' A k ls∧limbs ls=limbs xs+limbs ys∧Below w.heap.size w w'
def asJ (F:FuncId):Prop:=
 ∀(A B:Option Addr) (n m c d:Nat) (xs ys:List Int) (w:World),aD w A n xs->aD w B m ys->n<=c->c<=9223372036854775807->m<=d->d<=9223372036854775807->n<=4000000000000->m<=4000000000000->aB F #[.slice A n c,.slice B m d] w fun e w'=>∃A k c ls,e=.returned (.slice A k c)∧k<=c∧c<=9223372036854775807∧k<=n+m+1∧aD w' A k ls∧limbs ls=limbs xs*limbs ys∧Below w.heap.size w w'
def asA (F:FuncId):Prop:=
 ∀(A B:Option Addr) (n m c d:Nat) (xs ys:List Int) (w:World),aD w A n xs->aD w B m ys->n<=4000000000000->m<=4000000000000->limbs ys<=limbs xs->aB F #[.slice A n c,.slice B m d] w fun e w'=>∃A k c ls,e=.returned (.tuple #[.slice A k c,.int .i64 0])∧k<=c∧c<=9223372036854775807∧k<=max n m∧aD w' A k ls∧limbs ls=limbs xs-limbs ys∧Below w.heap.size w w'
def aju (F:FuncId) (ar:Bool->Value->Array Value):Prop:=
 ∀(s:Bool) (A:Option Addr) (n c:Nat) (xs:List Int) (w:World),aD w A n xs->n<=c->c<=9223372036854775807->n<=8500000000000->aB F (ar s (.slice A n c)) w (iA w (aI s xs) n)
def Qq:atV 87:=fun A B n m c d xs ys w hx hy hn hm=>(Bd A B n m c d xs ys w hx hy (by omega) (by omega)).mono fun e w' ⟨A',k,c',h1,h2,h3,h4,_,h6⟩=>
 have h:=sF hx.ok hy.ok
 ⟨A',k,c',_,h1,h2,h3,by have:=h.2.2;rw [h4.len,hx.len,hy.len] at this;exact this,h4,h.2.1,h6⟩
def Qp:atV 99:=fun A B n m c d xs ys w hx hy hn hm=>(aoS A B n m c d xs ys w hx hy hn hm).mono fun e w' ⟨A',k,c',ls,h1,h2,h3,h4,h5,_,h6,h7⟩=>⟨A',k,c',ls,h1,h2,h3,h4,h5,h6,h7⟩
def aaz:asJ 106:=fun A B n m c d xs ys w hx hy h1 h2 h3 h4 hn hm=>(PR _ A B n m c d xs ys w (xy _) hx hy h1 h2 h3 h4 hn hm).mono fun e w' ⟨zs,g1,g2,g3,A1,k1,c1,g0,g4,g5,g6,g7,g8⟩=>⟨A1,k1,c1,zs,g0,g4,g5,by have:=g6.len;omega,g6,g2,g8⟩
def aay:asJ 129:=fun A B n m c d xs ys w hx hy _ _ _ _ hn hm=>(aoQ A B n m c d xs ys w hx hy hn hm).mono fun e w' ⟨A',k,c',ls,h1,h2,h3,h4,h5,_,h6,h7⟩=>⟨A',k,c',ls,h1,h2,h3,by omega,h5,h6,h7⟩
def ZV:asA 89:=fun A B n m c d xs ys w hx hy hn hm hl=>(GW A B n m c d xs ys w hx hy (by omega) (by omega) hl).mono fun e w' ⟨A',k,c',h1,h2,h3,h4,_,h6⟩=>
 have h:=pF hx.ok hy.ok hl
 ⟨A',k,c',_,h1,h2,h3,by have:=h.2.2.2;rw [h4.len,hx.len,hy.len] at this;exact this,h4,h.2.2.1,h6⟩
def ZU:asA 100:=fun A B n m c d xs ys w hx hy hn hm hl=>(O0 A B n m c d xs ys w hx hy hn hm).mono fun e w' h=>
 have ⟨A',k,c',ls,h1,h2,h3,h4,h5,_,h6,h7⟩:=h.yes hl
 ⟨A',k,c',ls,h1,h2,h3,by omega,h5,h6,h7⟩
def Mi:aju 80 fun s v=> #[.bool s,v]:=fun s A n c xs w hx h1 h2 h3=>Al s A n c xs w hx h1 h2 h3
def Mj:aju 67 fun s v=> #[.agg #[.bool s,v]]:=fun s A n c xs w hx h1 h2 h3=>BP s A n c xs w hx h1 h2 (by omega)
section
variable (s t : Bool) (A B : Option Addr) (n m c d : Nat) (xs ys : List Int) (w : World) (hx : aD w A n xs) (hy : aD w B m ys) (jV : n <= c) (hc : c <= 9223372036854775807) (nk : m <= d) (hd : d <= 9223372036854775807) (hn : n <= 4000000000000) (hm : m <= 4000000000000)
include hx hy jV hc nk hd hn hm
theorem ahf (z:Int) (F:FuncId) (K:Nat) (hF:(F=76∨F=98)∧z=aI s xs*aI t ys∧K=n+m+1∨(F=56∨F=66)∧(s==t)=true∧z=aI s xs+aI t ys∧K=max n m+1):
 aB F #[.agg #[.bool s,.slice A n c],.agg #[.bool t,.slice B m d]] w (iA w z K):=by
 have M1:=aA (fun W (h:Below w.heap.size w W)=>aaz A B n m c d xs ys W (hx.aC h) (hy.aC h) jV hc nk hd hn hm);have M2:=aA (fun W (h:Below w.heap.size w W)=>aay A B n m c d xs ys W (hx.aC h) (hy.aC h) jV hc nk hd hn hm);have M3:=aA (fun W (h:Below w.heap.size w W)=>Qq A B n m c d xs ys W (hx.aC h) (hy.aC h) hn hm);have M4:=aA (fun W (h:Below w.heap.size w W)=>Qp A B n m c d xs ys W (hx.aC h) (hy.aC h) hn hm);obtain ⟨b1,b2,b3,da,db,dr,hsz⟩:=stZ w s A n c t B m d;rcases hF with ⟨rfl | rfl,hz,hK⟩ | ⟨rfl | rfl,hst,hz,hK⟩;all_goals
  first
  | with_reducible show Calls _ 76 _ _ _
    have HV:Hid (∀zs,limbs zs=limbs xs*limbs ys->aI (s !=t) zs=z):=fun zs h=>(Px h).trans hz.symm;have Cm:=M1;have Cz:=aA Mi;clear hz;go_enter func76,ntmps76
  | with_reducible show Calls _ 98 _ _ _
    have HV:Hid (∀zs,limbs zs=limbs xs*limbs ys->aI (s !=t) zs=z):=fun zs h=>(Px h).trans hz.symm;have Cm:=M2;have Cz:=aA Mj;clear hz;go_enter func98,ntmps98
  | with_reducible show Calls _ 56 _ _ _
    have HV:Hid (∀zs,limbs zs=limbs xs+limbs ys->aI s zs=z):=fun zs h=>(zN hst h).trans hz.symm;have Cm:=M3;have Cz:=aA Mi;clear hz;go_enter func56,ntmps56
  | have HV:Hid (∀zs,limbs zs=limbs xs+limbs ys->aI s zs=z):=fun zs h=>(zN hst h).trans hz.symm
    have Cm:=M4;have Cz:=aA Mj;clear hz;go_enter func66,ntmps66
  have HK:=aA hK;clear hK M1 M2 M3 M4;go_wp2_with fail
  have Da:=aA da;have Db:=aA db;have Dr:=aA dr
  clear da db dr b1 b2 hx hy;generalize ((w.alloc (.cells #[.bool s,.slice A n c] 41)).alloc (.cells #[.bool t,.slice B m d] 41)).alloc (.cells #[.bool false,.slice none 0 0] 41)=wt at*
  have a0:=Da.o.cell0;have a1:=Da.o.cell1;have e0:=Db.o.cell0;have e1:=Db.o.cell1;have r0:=Dr.o.cell0;have r1:=Dr.o.cell1;have f0:=Dr.o.frozen 0;have f1:=Dr.o.frozen 1;have la:w.heap.size<wt.heap.size:=by omega
  have lb:w.heap.size+1<wt.heap.size:=by omega
  have lr:w.heap.size+1+1<wt.heap.size:=by omega
  have keep:=LF la lb a0 a1 e0 e1
  have res:=Zg lr r0 r1 Dr
  clear r0 r1 f0 f1
  (try go_wp2_with fail)
  have RS:w.heap.size+1+1≠w.heap.size:=by omega
  have RQ:w.heap.size+1+1≠w.heap.size+1:=by omega
  have xW:w.heap.size<=w.heap.size+1+1:=by omega
  have lr':w.heap.size<=wt.heap.size:=by omega
  clear hsz;generalize w.heap.size+1+1=gr at*
  generalize w.heap.size+1=gb at*
  have Pv:=aaX w gr gb s A n c t B m d RS RQ
  go_region_held3 (fun W=>W.cell? ⟨w.heap.size,0,none⟩=some (.bool s)∧W.cell? ⟨w.heap.size,1,none⟩=some (.slice A n c)∧W.cell? ⟨gb,0,none⟩=some (.bool t)∧W.cell? ⟨gb,1,none⟩=some (.slice B m d))
   (first | go_keep | exact keep.o _ aU.drew | exact keep.o _ fu | exact keep.o _ lC | exact Pv _ _ _ (keep.o _ lC))
   (first
     | ((first | go_at_call 106 | go_at_call 129 | go_at_call 87 | go_at_call 99);refine (Cm.o _ (by first | exact b3.drew | exact b3 | exact below_drewN b3 _)).mono ?_;rintro e w1 ⟨A1,k1,c1,zs,rfl,g4,g5,g3,g6,g2,Fo⟩;have fu:Below wt.heap.size wt w1:=aU.drew.trans Fo)
     | ((first | go_at_call 80 | go_at_call 67);refine (Cz.o _ A1 k1 c1 zs w1 g6 g4 g5 (by omega)).mono ?_;rintro e w2 ⟨s2,A2,k2,c2,ls,rfl,q1,q2,q3,q4,q5,qf,uw⟩;have lC:Below wt.heap.size wt w2:=fu.tm uw;obtain ⟨r0,r1,f0,f1⟩:=res.o w2 lC))
  have KW:=Dr.o.aC lC;have cN:Below w.heap.size w w2:=b3.trans (lC.mono (by omega));have Hz:=aA (q5.as (HV.o zs g2));have HF:Hid (0<k2->∀y,A2=some y->w.heap.size<=y.block):=fun h0 y hy=>aG (aG lr' fu.size) (qf h0 y hy);have zP:Hid (k2<=K):=by rw [HK.o];show _<=_;omega
  have HD:=aA KW;have Hq4:=aA q4;clear KW q4 q5 g6 keep qf g2 HK;go_wp2
  exact bK (dO (by rfl) _ _ _ _ _ _ _ (by rfl) (HD.o.set _ _) underlying41 rfl bQ) rfl
   ⟨s2,A2,k2,c2,ls,rfl,q1,q2,zP.o,HD.o.limbs _ _ rfl rfl Hq4.o,Hz.o,HF.o,(cN.setCell (p:=⟨gr,0,none⟩) xW _).setCell (p:=⟨gr,1,none⟩) xW _⟩
theorem ahI:aB 76 #[.agg #[.bool s,.slice A n c],.agg #[.bool t,.slice B m d]] w (iA w (aI s xs*aI t ys) (n+m+1)):=ahf s t A B n m c d xs ys w hx hy jV hc nk hd hn hm _ _ _ (.inl ⟨.inl rfl,rfl,rfl⟩)
theorem akd:aB 98 #[.agg #[.bool s,.slice A n c],.agg #[.bool t,.slice B m d]] w (iA w (aI s xs*aI t ys) (n+m+1)):=ahf s t A B n m c d xs ys w hx hy jV hc nk hd hn hm _ _ _ (.inl ⟨.inr rfl,rfl,rfl⟩)
theorem avV:aB 76 #[.agg #[.bool s,.slice A n c],.agg #[.bool t,.slice B m d]] w (pX w (aI s xs*aI t ys) (n+m+1)):=(ahI s t A B n m c d xs ys w hx hy jV hc nk hd hn hm).mono fun _ _ h=>h.z
end
def Rj (s t:Bool) (hst:(s==t)=false) (A B:Option Addr) (n m c d:Nat) (xs ys:List Int) (w:World) (hx:aD w A n xs) (hy:aD w B m ys) (jV:n<=c) (hc:c<=9223372036854775807) (nk:m<=d) (hd:d<=9223372036854775807) (hn:n<=4000000000000) (hm:m<=4000000000000) (mj:limbs ys<=limbs xs):
 aB 56 #[.agg #[.bool s,.slice A n c],.agg #[.bool t,.slice B m d]] w (iA w (aI s xs+aI t ys) (max n m+1)):=by
 have Cc:=aA (fun W (h:Below w.heap.size w W)=>yZ A B n m c d xs ys W (hx.aC h) (hy.aC h) jV hc nk hd hn hm);have Cs:=aA (fun W (h:aD W A n xs) (h':aD W B m ys)=>GW A B n m c d xs ys W h h' (by omega) (by omega) mj);have nj:=aA (pF hx.ok hy.ok mj);have YE:¬ji (limbs xs) (limbs ys)<0:=agZ mj;have kR:=hx.len;have wM:=hy.len;have Cz:=aA (fun (neg:Bool) A' n' c' zs W h h1 h2 h3=>Al neg A' n' c' zs W h h1 h2 h3);obtain ⟨b1,b2,b3,da,db,dr,hsz⟩:=stZ w s A n c t B m d;go_enter func56,ntmps56
 go_wp2_with fail
 have Da:=aA da;have Db:=aA db;have Dr:=aA dr
 have Hx:=aA hx;have Hy:=aA hy;clear da db dr b1 b2 hx hy;generalize ((w.alloc (.cells #[.bool s,.slice A n c] 41)).alloc (.cells #[.bool t,.slice B m d] 41)).alloc (.cells #[.bool false,.slice none 0 0] 41)=wt at*
 have a0:=Da.o.cell0;have a1:=Da.o.cell1;have e0:=Db.o.cell0;have e1:=Db.o.cell1;have r0:=Dr.o.cell0;have r1:=Dr.o.cell1;have f0:=Dr.o.frozen 0;have f1:=Dr.o.frozen 1;have la:w.heap.size<wt.heap.size:=by omega
 have lb:w.heap.size+1<wt.heap.size:=by omega
 have lr:w.heap.size+1+1<wt.heap.size:=by omega
 have keep:=LF la lb a0 a1 e0 e1
 have RS:w.heap.size+1+1≠w.heap.size:=by omega
 have RQ:w.heap.size+1+1≠w.heap.size+1:=by omega
 have xW:w.heap.size<=w.heap.size+1+1:=by omega
 have res:=Zg lr r0 r1 Dr
 clear r0 r1 f0 f1 hsz;go_wp2_with fail
 refine (Cc.o _ (by exact b3)).mono ?_;rintro e w1 ⟨rfl,j1,Gd⟩;have fu:Below wt.heap.size wt w1:=by subst Gd;exact below_drewN aU _
 clear Gd;obtain ⟨q1,q2,q3,q4⟩:=keep.o w1 fu;clear a0 a1 e0 e1;go_wp2_with fail
 refine (Cs.o _ (by exact Hx.o.aC (b3.trans (fu.mono (by omega)))) (by exact Hy.o.aC (b3.trans (fu.mono (by omega))))).mono ?_;rintro e w2 ⟨A1,k1,c1,rfl,g4,g5,g6,g7,uw⟩;have lC:Below wt.heap.size wt w2:=fu.tm uw;obtain ⟨v1,v2,v3,v4⟩:=keep.o w2 lC;clear q1 q2 q3 q4;have S1:=g6.len;go_wp2_with fail
 refine (Cz.o s A1 k1 c1 (sH xs ys) w2 g6 g4 g5 (by have:=nj.o.2.2.2;omega)).mono ?_;rintro e w3 ⟨s2,A2,k2,c2,ls,rfl,m1,m2,m3,m4,m5,qf,abM⟩;have Iz:Below wt.heap.size wt w3:=lC.tm abM;obtain ⟨r0,r1,f0,f1⟩:=res.o w3 Iz;have KW:=Dr.o.aC Iz;have cN:Below w.heap.size w w3:=b3.trans (Iz.mono (by omega));have hz:dN s2 ls (aI s xs+aI t ys):=by rw [<- qD hst (nj.o.2.2.1) mj];exact m5
 have HF:Hid (0<k2->∀y,A2=some y->w.heap.size<=y.block):=fun h0 y hy=>aG (aG (oy la) lC.size) (qf h0 y hy);have zP:k2<=max n m+1:=by have:=nj.o.2.2.2;omega
 have Hz:=aA hz;have HD:=aA KW;have Hq4:=aA m4;clear hz KW m4 m5 g6 keep qf;go_wp2
 exact bK (dO (fn:=f56) rfl _ _ _ _ _ _ _ rfl (HD.o.set _ _) underlying41 rfl bQ) rfl
  ⟨s2,A2,k2,c2,ls,rfl,m1,m2,zP,HD.o.limbs _ _ rfl rfl Hq4.o,Hz.o,HF.o,(cN.setCell (p:=⟨w.heap.size+1+1,0,none⟩) xW _).setCell (p:=⟨w.heap.size+1+1,1,none⟩) xW _⟩
def Ri (s t:Bool) (hst:(s==t)=false) (A B:Option Addr) (n m c d:Nat) (xs ys:List Int) (w:World) (hx:aD w A n xs) (hy:aD w B m ys) (jV:n<=c) (hc:c<=9223372036854775807) (nk:m<=d) (hd:d<=9223372036854775807) (hn:n<=4000000000000) (hm:m<=4000000000000) (hlt:limbs xs<limbs ys):
 aB 56 #[.agg #[.bool s,.slice A n c],.agg #[.bool t,.slice B m d]] w (iA w (aI s xs+aI t ys) (max n m+1)):=by
 have Cc:=aA (fun W (h:Below w.heap.size w W)=>yZ A B n m c d xs ys W (hx.aC h) (hy.aC h) jV hc nk hd hn hm);have Cs:=aA (fun W (h:aD W B m ys) (h':aD W A n xs)=>GW B A m n d c ys xs W h h' (by omega) (by omega) (by omega));have nj:=aA (pF hy.ok hx.ok (by omega));have YE:ji (limbs xs) (limbs ys)= -1:=NZ hlt;have kR:=hx.len;have wM:=hy.len;have Cz:=aA (fun (neg:Bool) A' n' c' zs W h h1 h2 h3=>Al neg A' n' c' zs W h h1 h2 h3);obtain ⟨b1,b2,b3,da,db,dr,hsz⟩:=stZ w s A n c t B m d;go_enter func56,ntmps56
 go_wp2_with fail
 have Da:=aA da;have Db:=aA db;have Dr:=aA dr
 have Hx:=aA hx;have Hy:=aA hy;clear da db dr b1 b2 hx hy;generalize ((w.alloc (.cells #[.bool s,.slice A n c] 41)).alloc (.cells #[.bool t,.slice B m d] 41)).alloc (.cells #[.bool false,.slice none 0 0] 41)=wt at*
 have a0:=Da.o.cell0;have a1:=Da.o.cell1;have e0:=Db.o.cell0;have e1:=Db.o.cell1;have r0:=Dr.o.cell0;have r1:=Dr.o.cell1;have f0:=Dr.o.frozen 0;have f1:=Dr.o.frozen 1;have la:w.heap.size<wt.heap.size:=by omega
 have lb:w.heap.size+1<wt.heap.size:=by omega
 have lr:w.heap.size+1+1<wt.heap.size:=by omega
 have keep:=LF la lb a0 a1 e0 e1
 have RS:w.heap.size+1+1≠w.heap.size:=by omega
 have RQ:w.heap.size+1+1≠w.heap.size+1:=by omega
 have xW:w.heap.size<=w.heap.size+1+1:=by omega
 clear r0 r1 f0 f1 hsz;go_wp2_with fail
 refine (Cc.o _ (by exact b3)).mono ?_;rintro e w1 ⟨rfl,j1,Gd⟩;have fu:Below wt.heap.size wt w1:=by subst Gd;exact below_drewN aU _
 clear Gd;obtain ⟨q1,q2,q3,q4⟩:=keep.o w1 fu;have qp:Below w.heap.size w w1:=b3.trans (fu.mono (by omega));have Hx1:=aA (Hx.o.aC qp);have Hy1:=aA (Hy.o.aC qp);have A1d:=Da.o.aC fu;have B1d:=Db.o.aC fu;have R1d:=Dr.o.aC fu;have fa0:=A1d.frozen 0;have fa1:=A1d.frozen 1;have fb0:=B1d.frozen 0;have fb1:=B1d.frozen 1;obtain ⟨ws,hws,was,wbs,wrs,wx,wy,wb,wsz⟩:∃ws:World,ws=(((w1.setCell ⟨w.heap.size,0,none⟩ (.bool t)).setCell ⟨w.heap.size,1,none⟩ (.slice B m d)).setCell ⟨w.heap.size+1,0,none⟩ (.bool s)).setCell ⟨w.heap.size+1,1,none⟩ (.slice A n c)∧Duo ws w.heap.size (.bool t) (.slice B m d)∧Duo ws (w.heap.size+1) (.bool s) (.slice A n c)∧Duo ws (w.heap.size+1+1) (.bool false) (.slice none 0 0)∧aD ws A n xs∧aD ws B m ys∧Below w.heap.size w ws∧w.heap.size+1+1<ws.heap.size:=by
  have X1:=A1d.limbs (.bool t) (.slice B m d) rfl rfl Hx1.o;have Y1:=A1d.limbs (.bool t) (.slice B m d) rfl rfl Hy1.o;have A2:=A1d.set (.bool t) (.slice B m d);have B2:=(B1d.other ⟨w.heap.size,0,none⟩ (by show w.heap.size≠w.heap.size+1;omega) (.bool t)).other ⟨w.heap.size,1,none⟩ (by show w.heap.size≠w.heap.size+1;omega) (.slice B m d);have R2:=(R1d.other ⟨w.heap.size,0,none⟩ (by show w.heap.size≠w.heap.size+1+1;omega) (.bool t)).other ⟨w.heap.size,1,none⟩ (by show w.heap.size≠w.heap.size+1+1;omega) (.slice B m d);refine ⟨_,rfl,?_,B2.set _ _,?_,B2.limbs _ _ rfl rfl X1,B2.limbs _ _ rfl rfl Y1,?_,?_⟩
  . exact (A2.other _ (by show w.heap.size+1≠w.heap.size;omega) _).other _ (by show w.heap.size+1≠w.heap.size;omega) _
  . exact (R2.other _ (by show w.heap.size+1≠w.heap.size+1+1;omega) _).other _ (by show w.heap.size+1≠w.heap.size+1+1;omega) _
  . exact (((qp.setCell (p:=⟨w.heap.size,0,none⟩) aL _).setCell (p:=⟨w.heap.size,1,none⟩) aL _).setCell (p:=⟨w.heap.size+1,0,none⟩) (by show w.heap.size<=w.heap.size+1;omega) _).setCell (p:=⟨w.heap.size+1,1,none⟩) (by show w.heap.size<=w.heap.size+1;omega) _
  . have:=fu.size
    simp;omega
 have Wa:=aA was;have Wb:=aA wbs;have Wr:=aA wrs;have p0:=was.cell0;have p1:=was.cell1;have p2:=wbs.cell0;have p3:=wbs.cell1;have Hws:=aA hws;rw [hws] at p0 p1 p2 p3;clear hws was wbs wrs a0 a1 e0 e1 A1d B1d R1d qp;go_wp2_with fail
 rw [<- Hws.o] at*
 refine (Cs.o _ (by exact wy) (by exact wx)).mono ?_;rintro e w2 ⟨A1,k1,c1,rfl,g4,g5,g6,g7,lC⟩;have v0:=(Wa.o.aC lC).cell0;have v1:=(Wa.o.aC lC).cell1;clear p0 p1 p2 p3;have S1:=g6.len;go_wp2_with fail
 refine (Cz.o t A1 k1 c1 (sH ys xs) w2 g6 g4 g5 (by have:=nj.o.2.2.2;omega)).mono ?_;rintro e w3 ⟨s2,A2,k2,c2,ls,rfl,m1,m2,m3,m4,m5,qf,abM⟩;have Iz:Below ws.heap.size ws w3:=lC.tm abM;have KW:=Wr.o.aC Iz;have r0:=KW.cell0;have r1:=KW.cell1;have f0:=KW.frozen 0;have f1:=KW.frozen 1;have cN:Below w.heap.size w w3:=wb.trans (Iz.mono (by omega));have hz:dN s2 ls (aI s xs+aI t ys):=by rw [Nl,<- qD (s:=t) (t:=s) (by cases s<;>cases t<;>simp_all) (nj.o.2.2.1) (by omega)];exact m5
 have HF:Hid (0<k2->∀y,A2=some y->w.heap.size<=y.block):=fun h0 y hy=>aG (aG wb.size lC.size) (qf h0 y hy);have zP:k2<=max n m+1:=by have:=nj.o.2.2.2;omega
 have Hz:=aA hz;have HD:=aA KW;have Hq4:=aA m4;clear hz KW m4 m5 g6 keep qf;go_wp2
 exact bK (dO (fn:=f56) rfl _ _ _ _ _ _ _ rfl (HD.o.set _ _) underlying41 rfl bQ) rfl
  ⟨s2,A2,k2,c2,ls,rfl,m1,m2,zP,HD.o.limbs _ _ rfl rfl Hq4.o,Hz.o,HF.o,(cN.setCell (p:=⟨w.heap.size+1+1,0,none⟩) xW _).setCell (p:=⟨w.heap.size+1+1,1,none⟩) xW _⟩
def ZK (s t:Bool) (A B:Option Addr) (n m c d:Nat) (xs ys:List Int) (w:World) (hx:aD w A n xs) (hy:aD w B m ys) (jV:n<=c) (hc:c<=9223372036854775807) (nk:m<=d) (hd:d<=9223372036854775807) (hn:n<=4000000000000) (hm:m<=4000000000000):
 aB 56 #[.agg #[.bool s,.slice A n c],.agg #[.bool t,.slice B m d]] w (iA w (aI s xs+aI t ys) (max n m+1)):=by
 cases hst:(s==t) with
 | true=>exact ahf s t A B n m c d xs ys w hx hy jV hc nk hd hn hm _ _ _ (.inr ⟨.inl rfl,hst,rfl,rfl⟩)
 | false=>
   rcases pT (limbs xs) (limbs ys) with h | h
   . exact Ri s t hst A B n m c d xs ys w hx hy jV hc nk hd hn hm h
   . exact Rj s t hst A B n m c d xs ys w hx hy jV hc nk hd hn hm h
def avW (s t:Bool) (A B:Option Addr) (n m c d:Nat) (xs ys:List Int) (w:World) (hx:aD w A n xs) (hy:aD w B m ys) (jV:n<=c) (hc:c<=9223372036854775807) (nk:m<=d) (hd:d<=9223372036854775807) (hn:n<=4000000000000) (hm:m<=4000000000000):
 aB 56 #[.agg #[.bool s,.slice A n c],.agg #[.bool t,.slice B m d]] w (pX w (aI s xs+aI t ys) (max n m+1)):=(ZK s t A B n m c d xs ys w hx hy jV hc nk hd hn hm).mono fun _ _ h=>h.z
def Ry (A B:Option Addr) (n m c d:Nat) (xs ys:List Int) (w:World) (hx:aD w A n xs) (hy:aD w B m ys) (hn:n<=9223372036854775807) (hm:m<=9223372036854775807) (r:Bool) (hr:(xs=ys)↔r=true):
 aB 102 #[.slice A n c,.slice B m d] w fun e w'=>e=.returned (.bool r)∧∃k,w'=w.drewN k:=by
 have Hl:=aA hx.len;have Hm:=aA hy.len;have Hr:=aA hr;clear hr;by_cases hnm:n=m
 . subst hnm
   have hne:((n:Int) !=(n:Int))=false:=by simp
   go_enter func102,ntmps102
   go_wp2
   go_loopw [5] (fun i wr=>∃k q:Nat,k<=n∧i=.int .i64 k∧Hid (∀j,j<k->nth xs j=nth ys j)∧wr=w.drewN q) (fun i _=>n-(intOf i).toNat)
   case atStart=>exact ⟨0,0,by omega,rfl,(fun j hj=>absurd hj (by omega)),rfl⟩
   case round=>
    obtain ⟨k,q,hk,rfl,eR,rfl⟩:=hrel;by_cases hlt:k<n
    . obtain ⟨b,o,rfl,hb,hc⟩:=hx.at_ (by omega)
      obtain ⟨b',o',rfl,nI,hc'⟩:=hy.at_ (by omega);have CP:=hc k hlt;have aqZ:=hc' k hlt;(have dH:(k:Int)<(n:Int):=by omega);by_cases hz:nth xs k=nth ys k
      . have Vx:(nth xs k !=nth ys k)=false:=by simp [hz]
        have Hz:=aA hz;clear hz;(go_wp2);go_quiet (fail)
        (go_wp2);go_roundw
        case rel=>exact ⟨k+1,_,by omega,by go_num,(fun j hj=>if e:j=k then e ▸ Hz.o else eR.o j (by omega)),rfl⟩
        case measure=>simp [intOf];omega
      . have Vx:(nth xs k !=nth ys k)=true:=by simp [hz]
        have Hz:Hid (r=false):=by
         show r=false;cases hrr:r with
         | false=>rfl
         | true=>exact absurd (Hr.o.2 hrr) (fun e=>hz (by rw [e]))
        clear hz;(go_wp2);go_quiet (fail)
        (go_wp2);go_ret;exact ⟨qQ Hz.o.symm,_,fJ _ _ _⟩
    . have Hz:=aA (Hr.o.1 (kW (xs:=xs) (ys:=ys) (by rw [Hl.o,Hm.o]) (fun i hi=>eR.o i (by have:=Hl.o;omega))))
      (go_wp2);go_ret;exact ⟨qQ Hz.o.symm,_,rfl⟩
 . have hne:((n:Int) !=(m:Int))=true:=by simp;omega
   have Hz:Hid (r=false):=by
    show r=false;cases hrr:r with
    | false=>rfl
    | true=>exact absurd (Hr.o.2 hrr) (fun e=>hnm (by rw [<- Hl.o,<- Hm.o,e]))
   go_enter func102,ntmps102
   go_wp2
   go_ret;exact ⟨qQ Hz.o.symm,0,rfl⟩
def aAA (w:World) (u0 v0 u1 v1:Value):
 Duo ((w.alloc (.cells #[u0,v0] 41)).alloc (.cells #[u1,v1] 41)) w.heap.size u0 v0∧
 Duo ((w.alloc (.cells #[u0,v0] 41)).alloc (.cells #[u1,v1] 41)) (w.heap.size+1) u1 v1∧
 Below w.heap.size w ((w.alloc (.cells #[u0,v0] 41)).alloc (.cells #[u1,v1] 41)):=by
 have al:∀(W:World) (o:Obj),Below W.heap.size W (W.alloc o):=fun W o=>aU.alloc aL o;refine ⟨(Duo.new w u0 v0).aC (al _ _),?_,(al w _).alloc (by simp) _⟩;have:=Duo.new (w.alloc (.cells #[u0,v0] 41)) u1 v1;rw [aJ] at this;exact this
def Rx (s t:Bool) (A B:Option Addr) (n m c d:Nat) (xs ys:List Int) (w:World) (hx:aD w A n xs) (hy:aD w B m ys) (hn:n<=9223372036854775807) (hm:m<=9223372036854775807) (r:Bool) (hr:(s=t∧xs=ys)↔r=true):
 aB 69 #[.agg #[.bool s,.slice A n c],.agg #[.bool t,.slice B m d]] w fun e w'=>e=.returned (.bool r)∧Below w.heap.size w w':=by
 obtain ⟨da,db,b2⟩:=aAA w (.bool s) (.slice A n c) (.bool t) (.slice B m d);have a0:=da.cell0;have a1:=da.cell1;have e0:=db.cell0;have e1:=db.cell1;by_cases hst:s=t
 . have afV:(s==t)=true:=by simp [hst]
   have Cs:=aA (fun W (h:Below w.heap.size w W)=>Ry A B n m c d xs ys W (hx.aC h) (hy.aC h) hn hm r ⟨fun e=>hr.1 ⟨hst,e⟩,fun e=>(hr.2 e).2⟩);clear hr hx hy hst da db;go_enter func69,ntmps69
   go_wp2_with fail
   refine (Cs.o _ (by exact b2)).mono ?_;rintro e w1 ⟨rfl,k,hk⟩;have hb:=below_drewN b2 k;rw [<- hk] at hb;clear hk;go_wp2_with fail
   go_ret;exact ⟨rfl,hb⟩
 . have afV:(s==t)=false:=by simp [hst]
   have Hz:Hid (r=false):=by
    show r=false;cases hrr:r with
    | false=>rfl
    | true=>exact absurd (hr.2 hrr).1 hst
   clear hr hx hy hst da db;go_enter func69,ntmps69
   go_wp2_with fail
   go_ret;exact ⟨qQ Hz.o.symm,b2⟩
def yh (A B:Option Addr) (n c d:Nat) (xs ys:List Int) (w:World) (hx:Ints w A n xs) (hy:Ints w B n ys) (hn:n<=9223372036854775807):
 aB 65 #[.slice A n c,.slice B n d] w fun e w'=>e=.returned (.int .i64 (pK xs ys))∧∃k,w'=w.drewN k:=by
 have Hl:=aA hx.len;have Hm:=aA hy.len;go_enter func65,ntmps65
 go_wp2
 go_loopw [5] (fun i wr=>∃k q:Nat,k<=n∧i=.int .i64 k∧Hid (∀j,j<k->nth xs j=nth ys j)∧wr=w.drewN q) (fun i _=>n-(intOf i).toNat)
 case atStart=>exact ⟨0,0,by omega,rfl,(fun j hj=>absurd hj (by omega)),rfl⟩
 case round=>
  obtain ⟨k,q,hk,rfl,eR,rfl⟩:=hrel;by_cases hlt:k<n
  . obtain ⟨b,o,rfl,hb,hc⟩:=hx.at_ (by omega)
    obtain ⟨b',o',rfl,nI,hc'⟩:=hy.at_ (by omega);have CP:=hc k hlt;have aqZ:=hc' k hlt;(have dH:(k:Int)<(n:Int):=by omega);rcases WX (nth xs k) (nth ys k) with h | h | h
    . have Hz:Hid (pK xs ys= -1):=C9 (Ib (i:=k) (by rw [Hl.o,Hm.o]) eR.o (by rw [Hl.o];exact hlt) h)
      (go_wp2);go_quiet (fail)
      (go_wp2);go_ret;exact ⟨oN Hz.o.symm,_,fJ _ _ _⟩
    . have jD:¬nth xs k<nth ys k:=by omega
      (have jJ:¬nth ys k<nth xs k:=by omega);have Hz:=aA h;clear h;(go_wp2);go_quiet (fail)
      (go_wp2);go_quiet (fail)
      (go_wp2);go_roundw
      case rel=>exact ⟨k+1,_,by omega,by go_num,(fun j hj=>if e:j=k then e ▸ Hz.o else eR.o j (by omega)),by first | rfl | exact fJ _ _ _ | (rw [fJ,fJ])⟩
      case measure=>simp [intOf];omega
    . have jD:¬nth xs k<nth ys k:=by omega
      have Hz:Hid (pK xs ys=1):=Gh (Ib (i:=k) (by rw [Hl.o,Hm.o]) (fun j hj=>(eR.o j hj).symm) (by rw [Hm.o];exact hlt) h);(go_wp2);go_quiet (fail)
      (go_wp2);go_quiet (fail)
      (go_wp2);go_ret;exact ⟨oN Hz.o.symm,_,by first | rfl | exact fJ _ _ _ | (rw [fJ,fJ])⟩
  . have Hz:Hid (pK xs ys=0):=by
     have:xs=ys:=kW (xs:=xs) (ys:=ys) (by rw [Hl.o,Hm.o]) (fun i hi=>eR.o i (by have:=Hl.o;omega));rw [this];exact yj ys
    (go_wp2);go_ret;exact ⟨oN Hz.o.symm,_,rfl⟩
def Ut (x:Int):Prop:=0<=x∧x<=1000
def IY (x:Int) (w:World) (h:Ut x):aB 49 #[.int .i64 x] w fun e w'=>e=.returned (.bool false)∧w=w':=by
 have h1:¬x<0:=by have:=h.1;omega
 have h2:¬1000<x:=by have:=h.2;omega
 clear h;go_enter func49,ntmps49
 go_wp2
 go_ret;exact ⟨rfl,rfl⟩
def SX (x:Int) (w:World) (h:¬Ut x):aB 49 #[.int .i64 x] w fun e w'=>e=.returned (.bool true)∧w=w':=by
 by_cases h1:x<0
 . clear h
   go_enter func49,ntmps49
   go_wp2
   go_ret;exact ⟨rfl,rfl⟩
 . have h2:1000<x:=by unfold Ut at h;omega
   clear h;go_enter func49,ntmps49
   go_wp2
   go_ret;exact ⟨rfl,rfl⟩
def Xl (A:Option Addr) (n c:Nat) (xs:List Int) (w:World) (hx:Ints w A n xs) (hn:n<=9223372036854775807) (h:∀i,i<n->Ut (nth xs i)):
 aB 83 #[.slice A n c,.func (.func 49) #[] #[]] w fun e w'=>e=.returned (.int .i64 (-1))∧w=w':=by
 have H:=aA h;clear h;go_enter func83,ntmps83
 go_wp2
 go_loopw [8] (fun i wr=>∃k:Nat,k<=n∧i=.int .i64 k∧w=wr) (fun i _=>n-(intOf i).toNat)
 case atStart=>exact ⟨0,by omega,rfl,rfl⟩
 case round=>
  obtain ⟨k,hk,rfl,rfl⟩:=hrel;by_cases hlt:k<n
  . obtain ⟨b,o,rfl,hb,hc⟩:=hx.at_ (by omega)
    have CP:=hc k hlt;(have dH:(k:Int)<(n:Int):=by omega);(go_wp2_with fail);refine (IY (nth xs k) w (H.o k hlt)).mono ?_;rintro e w' ⟨rfl,rfl⟩;(go_wp2);go_roundw
    case rel=>exact ⟨k+1,by omega,by go_num,trivial⟩
    case measure=>simp [intOf];omega
  . have dH:¬(k:Int)<(n:Int):=by omega
    (go_wp2);go_ret;exact ⟨rfl,rfl⟩
def Xm (A:Option Addr) (n c:Nat) (xs:List Int) (w:World) (hx:Ints w A n xs) (hn:n<=9223372036854775807) (h:¬∀i,i<n->Ut (nth xs i)):
 aB 83 #[.slice A n c,.func (.func 49) #[] #[]] w fun e w'=>(∃j:Nat,e=.returned (.int .i64 (j:Int)))∧w=w':=by
 have H:=aA h;clear h;go_enter func83,ntmps83
 go_wp2
 go_loopw [8] (fun i wr=>∃k:Nat,k<=n∧i=.int .i64 k∧Hid (∀j,j<k->Ut (nth xs j))∧w=wr) (fun i _=>n-(intOf i).toNat)
 case atStart=>exact ⟨0,by omega,rfl,(fun j hj=>absurd hj (by omega)),rfl⟩
 case round=>
  obtain ⟨k,hk,rfl,eR,rfl⟩:=hrel;by_cases hlt:k<n
  . obtain ⟨b,o,rfl,hb,hc⟩:=hx.at_ (by omega)
    have CP:=hc k hlt;(have dH:(k:Int)<(n:Int):=by omega);by_cases hz:Ut (nth xs k)
    . have Hz:=aA hz
      clear hz;(go_wp2_with fail);refine (IY (nth xs k) w Hz.o).mono ?_;rintro e w' ⟨rfl,rfl⟩;(go_wp2);go_roundw
      case rel=>exact ⟨k+1,by omega,by go_num,(fun j hj=>if e:j=k then e ▸ Hz.o else eR.o j (by omega)),trivial⟩
      case measure=>simp [intOf];omega
    . have Hz:=aA hz
      clear hz;(go_wp2_with fail);refine (SX (nth xs k) w Hz.o).mono ?_;rintro e w' ⟨rfl,rfl⟩;(go_wp2);go_ret;exact ⟨⟨k,rfl⟩,rfl⟩
  . exact absurd (fun i hi=>eR.o i (by omega)) H.o
def Bj (A:Option Addr) (n c:Nat) (xs:List Int) (w:World) (hx:Ints w A n xs) (hn:n<=9223372036854775807) (h:∀i,i<n->Ut (nth xs i)):
 aB 48 #[.slice A n c,.func (.func 49) #[] #[]] w fun e w'=>e=.returned (.bool false)∧w=w':=by
 have C:=aA (Xl A n c xs w hx hn h);clear hx h;go_enter func48,ntmps48
 go_wp2_with fail
 refine C.o.mono ?_;rintro e w' ⟨rfl,rfl⟩;go_wp2
 go_ret;exact ⟨rfl,rfl⟩
def Mp (A:Option Addr) (n c:Nat) (xs:List Int) (w:World) (hx:Ints w A n xs) (hn:n<=9223372036854775807) (h:¬∀i,i<n->Ut (nth xs i)):
 aB 48 #[.slice A n c,.func (.func 49) #[] #[]] w fun e w'=>e=.returned (.bool true)∧w=w':=by
 have C:=aA (Xm A n c xs w hx hn h);clear hx h;go_enter func48,ntmps48
 go_wp2_with fail
 refine C.o.mono ?_;rintro e w' ⟨⟨j,rfl⟩,rfl⟩;have hj:(0:Int)<=(j:Int):=by omega
 go_wp2
 go_ret;exact ⟨rfl,rfl⟩
def OkT (n:Int) (t:TV):Prop:=(t.2.length:Int)=n∧∀i,i<t.2.length->Ut (nth t.2 i)
def Q8 (n:Int) (L:List TV):Prop:=0<=n∧n<=6∧L.length<=4096∧∀i (h:i<L.length),OkT n L[i]
def ri (n:Int) (A:Option Addr) (m c:Nat) (L:List TV) (w:World) (hx:iI w A m L) (hL:Q8 n L):
 aB 25 #[.int .i64 n,.slice A m c] w fun e w'=>e=.returned (.int .i64 0)∧Below w.heap.size w w':=by
 have hl:=hx.len;obtain ⟨h1,h2,h3,h4⟩:=hL;have h1':¬n<0:=by omega
 have h2':¬6<n:=by omega
 have h3':¬(4096:Int)<(m:Int):=by omega
 have H4:=aA h4;have Hl:=aA hl;clear h4 hl h1 h2;go_enter func25,ntmps25
 go_wp2
 go_loopw [20] (fun i wr=>∃k:Nat,k<=m∧i=.int .i64 k∧Below w.heap.size w wr) (fun i _=>m-(intOf i).toNat)
 case atStart=>exact ⟨0,by omega,rfl,aU⟩
 case round=>
  obtain ⟨k,hk,rfl,bC⟩:=hrel;obtain ⟨wo,rfl⟩:∃wo:World,wo=wr:=⟨_,rfl⟩;by_cases hlt:k<m
  . obtain ⟨b,o,rfl,hb,hc⟩:=hx.at_ (by omega)
    (have Ds:k<L.length:=by rw [Hl.o];exact hlt);obtain ⟨Ai,ci,Ei,ei,e1,e2,e3,e4,e5,e6,e7,e8,e9⟩:=hc k Ds;have oH:=H4.o k Ds;clear hc;generalize L[k]=x at*
    obtain ⟨⟨s,xs⟩,ps⟩:=x;obtain ⟨o1,o2⟩:=oH;simp only at e1 e2 e3 e4 e6 e8 e9 o1 o2;(have dH:(k:Int)<(m:Int):=by omega);(have wT:(0:Int)<=(k:Int):=by omega);(have hz:((ps.length:Int) !=n)=false:=by simp [o1]);have k1:=(bC.cell (p:=⟨b,o+3*k,none⟩) hb).trans e1;have k2:=(bC.cell (p:=⟨b,o+(3*k+1),none⟩) hb).trans e2;have k3:=(bC.cell (p:=⟨b,o+(3*k+2),none⟩) hb).trans e3;rw [aq 3 k] at k1 k2 k3;rw [<- jb] at k2 k3;have Cc:=aA (fun W (h:Below w.heap.size w W)=>Bj Ei ps.length ei ps W (e9.aC h) (by omega) o2);clear e8 e9 e1 e2 e3 o1 o2;(go_wp2_with fail);refine (Cc.o _ (by exact bC.alloc bC.size _)).mono ?_;rintro e w' ⟨rfl,rfl⟩;(go_wp2);go_roundw
    case rel=>exact ⟨k+1,by omega,by go_num,bC.alloc bC.size _⟩
    case measure=>simp [intOf];omega
  . have dH:¬(k:Int)<(m:Int):=by omega
    (go_wp2);go_ret;exact ⟨rfl,bC⟩
def Pf (n:Int) (A:Option Addr) (m c:Nat) (w:World) (h:n<0):
 aB 25 #[.int .i64 n,.slice A m c] w fun e w'=>e=.returned (.int .i64 1)∧Below w.heap.size w w':=by
 have hb:=Below.refl w.heap.size w;go_enter func25,ntmps25
 go_wp2
 go_ret;exact ⟨rfl,hb⟩
def Pc (n:Int) (A:Option Addr) (m c:Nat) (w:World) (h:6<n):
 aB 25 #[.int .i64 n,.slice A m c] w fun e w'=>e=.returned (.int .i64 1)∧Below w.heap.size w w':=by
 have h1:¬n<0:=by omega
 have hb:=Below.refl w.heap.size w;go_enter func25,ntmps25
 go_wp2
 go_ret;exact ⟨rfl,hb⟩
def Pb (n:Int) (A:Option Addr) (m c:Nat) (w:World) (h1:¬n<0) (h2:¬6<n) (h:(4096:Int)<(m:Int)):
 aB 25 #[.int .i64 n,.slice A m c] w fun e w'=>e=.returned (.int .i64 1)∧Below w.heap.size w w':=by
 have hb:=Below.refl w.heap.size w;go_enter func25,ntmps25
 go_wp2
 go_ret;exact ⟨rfl,hb⟩
def Pa (n:Int) (A:Option Addr) (m c:Nat) (L:List TV) (w:World) (hx:iI w A m L) (h1:0<=n) (h2:n<=6) (h3:m<=4096) (hL:¬∀i (h:i<L.length),OkT n L[i]):
 aB 25 #[.int .i64 n,.slice A m c] w fun e w'=>e=.returned (.int .i64 1)∧Below w.heap.size w w':=by
 have hl:=hx.len;have h1':¬n<0:=by omega
 have h2':¬6<n:=by omega
 have h3':¬(4096:Int)<(m:Int):=by omega
 have H4:=aA hL;have Hl:=aA hl;clear hL hl h1 h2;go_enter func25,ntmps25
 go_wp2
 go_loopw [20] (fun i wr=>∃k:Nat,k<=m∧i=.int .i64 k∧Hid (∀i (h:i<L.length),i<k->OkT n L[i])∧Below w.heap.size w wr) (fun i _=>m-(intOf i).toNat)
 case atStart=>exact ⟨0,by omega,rfl,(fun i h hj=>absurd hj (by omega)),aU⟩
 case round=>
  obtain ⟨k,hk,rfl,eR,bC⟩:=hrel;obtain ⟨wo,rfl⟩:∃wo:World,wo=wr:=⟨_,rfl⟩;by_cases hlt:k<m
  . obtain ⟨b,o,rfl,hb,hc⟩:=hx.at_ (by omega)
    (have Ds:k<L.length:=by rw [Hl.o];exact hlt);obtain ⟨Ai,ci,Ei,ei,e1,e2,e3,e4,e5,e6,e7,e8,e9⟩:=hc k Ds;clear hc;have Wo:Hid (OkT n L[k]->∀i (h:i<L.length),i<k+1->OkT n L[i]):=fun ht i h hi=>by
     rcases pT i k with hik | hik
     . exact eR.o i h hik
     . obtain rfl:i=k:=by omega
       exact ht
    clear eR;generalize L[k]=x at*
    obtain ⟨⟨s,xs⟩,ps⟩:=x;simp only at e1 e2 e3 e4 e6 e8 e9;(have dH:(k:Int)<(m:Int):=by omega);(have wT:(0:Int)<=(k:Int):=by omega);have k1:=(bC.cell (p:=⟨b,o+3*k,none⟩) hb).trans e1;have k2:=(bC.cell (p:=⟨b,o+(3*k+1),none⟩) hb).trans e2;have k3:=(bC.cell (p:=⟨b,o+(3*k+2),none⟩) hb).trans e3;rw [aq 3 k] at k1 k2 k3;rw [<- jb] at k2 k3;have E9:=aA e9;clear e8 e9 e1 e2 e3;by_cases o1:(ps.length:Int)=n
    . have hz:((ps.length:Int) !=n)=false:=by simp [o1]
      by_cases o2:∀i,i<ps.length->Ut (nth ps i)
      . have Cc:=aA (fun W (h:Below w.heap.size w W)=>Bj Ei ps.length ei ps W (E9.o.aC h) (by omega) o2)
        have KV:=aA (Wo.o ⟨o1,o2⟩);clear o1 o2 Wo;(go_wp2_with fail);refine (Cc.o _ (by exact bC.alloc bC.size _)).mono ?_;rintro e w' ⟨rfl,rfl⟩;(go_wp2);go_roundw
        case rel=>exact ⟨k+1,by omega,by go_num,KV,bC.alloc bC.size _⟩
        case measure=>simp [intOf];omega
      . have Cc:=aA (fun W (h:Below w.heap.size w W)=>Mp Ei ps.length ei ps W (E9.o.aC h) (by omega) o2)
        clear o1 o2 Wo;(go_wp2_with fail);refine (Cc.o _ (by exact bC.alloc bC.size _)).mono ?_;rintro e w' ⟨rfl,rfl⟩;(go_wp2);go_ret;exact ⟨rfl,bC.alloc bC.size _⟩
    . have hz:((ps.length:Int) !=n)=true:=by simp [o1]
      clear o1 Wo;(go_wp2);go_ret;exact ⟨rfl,bC.alloc bC.size _⟩
  . exact absurd (fun i h=>eR.o i h (by rw [Hl.o] at h;omega)) H4.o
open Classical in
noncomputable def GN (n:Int) (L:List TV):Int:=if Q8 n L then 0 else 1
def rU {L:List TV}(h:Q8 n L):GN n L=0:=aM h
def DA {L:List TV}(h:¬Q8 n L):GN n L=1:=aY h
def aaL (n:Int) (A:Option Addr) (m c:Nat) (L:List TV) (w:World) (hx:iI w A m L):
 aB 25 #[.int .i64 n,.slice A m c] w fun e w'=>e=.returned (.int .i64 (GN n L))∧Below w.heap.size w w':=by
 by_cases h:Q8 n L
 . rw [rU h];exact ri n A m c L w hx h
 . rw [DA h]
   by_cases h1:n<0
   . exact Pf n A m c w h1
   . by_cases h2:6<n
     . exact Pc n A m c w h2
     . by_cases h3:(4096:Int)<(m:Int)
       . exact Pb n A m c w h1 h2 h3
       . exact Pa n A m c L w hx (by omega) (by omega) (by omega) (fun h4=>h ⟨by omega,by omega,by rw [hx.len];omega,h4⟩)
def Jl (n:Int) (L:List TV) (w:World) (e:Ending) (w':World):Prop:=e=.returned (.int .i64 (GN n L))∧w=w'
def GV {L:List TV}(w:World) (h:¬Q8 n L):Jl n L w (.returned (.int .i64 1)) w:=⟨by rw [DA h],rfl⟩
def Zh {L:List TV}(w:World) (h:Q8 n L):Jl n L w (.returned (.int .i64 0)) w:=⟨by rw [rU h],rfl⟩
def oO (n:Int) (A:Option Addr) (m c:Nat) (L:List TV) (w:World) (hx:iI w A m L):
 aB 9 #[.int .i64 n,.slice A m c] w (Jl n L w):=by
 have hl:=aA hx.len;by_cases h1:n<0
 . have F:=aA (GV (n:=n) (L:=L) w (fun h=>by have:=h.1;omega))
   clear hx;go_enter func9,ntmps9
   go_wp2
   go_ret;exact F.o
 by_cases h2:6<n
 . have F:=aA (GV (n:=n) (L:=L) w (fun h=>by have:=h.2.1;omega))
   clear hx;go_enter func9,ntmps9
   go_wp2
   go_ret;exact F.o
 by_cases h3:(4096:Int)<(m:Int)
 . have F:=aA (GV (n:=n) (L:=L) w (fun h=>by have:=h.2.2.1;have:=hl.o;omega))
   clear hx;go_enter func9,ntmps9
   go_wp2
   go_ret;exact F.o
 have Fn:Hid (∀k (h:k<L.length),¬OkT n L[k]->Jl n L w (.returned (.int .i64 1)) w):=fun k h hk=>GV w (fun ho=>hk (ho.2.2.2 k h));have Fy:Hid ((∀k (h:k<L.length),OkT n L[k])->Jl n L w (.returned (.int .i64 0)) w):=fun h=>Zh w ⟨by omega,by omega,by have:=hl.o;omega,h⟩;obtain ⟨nn,rfl⟩:∃nn:Nat,n=(nn:Int):=⟨n.toNat,by omega⟩;have hn6:nn<=6:=by omega
 clear h1 h2;have h1:¬(nn:Int)<0:=by omega
 have h2:¬(6:Int)<(nn:Int):=by omega
 go_enter func9,ntmps9
 go_wp2_with fail
 go_loopw [5] (fun i wr=>∃k:Nat,k<=m∧i=.int .i64 k∧w=wr∧Hid (∀j (h:j<L.length),j<k->OkT (nn:Int) L[j])) (fun i _=>m-(intOf i).toNat)
 case atStart=>exact ⟨0,by omega,rfl,rfl,fun j _ h=>absurd h (by omega)⟩
 case round=>
  obtain ⟨k,hk,rfl,rfl,hdone⟩:=hrel;by_cases hlt:k<m
  . obtain ⟨b,o,rfl,hb,hc⟩:=hx.at_ (by omega)
    (have Ds:k<L.length:=by rw [hl.o];exact hlt);obtain ⟨Ai,ci,Ei,ei,e1,e2,e3,e4,e5,e6,e7,e8,e9⟩:=hc k Ds;(have dH:(k:Int)<(m:Int):=by omega);(have wT:(0:Int)<=(k:Int):=by omega);rw [aq 3 k] at e3;rw [<- jb] at e3;have Fnk:=aA (Fn.o k Ds);have hstep:Hid (OkT (nn:Int) L[k]->∀j (h:j<L.length),j<k+1->OkT (nn:Int) L[j]):=fun h1 j hj hjk=>by
     by_cases e:j=k
     . subst e;exact h1
     . exact hdone.o j hj (by omega)
    clear hc e1 e2 e8;generalize L[k]=x at*
    obtain ⟨⟨s,xs⟩,ps⟩:=x;simp only at e3 e6 e9;have E9:=aA e9;clear e9;by_cases o1:ps.length=nn
    . have hz:((ps.length:Int) !=(nn:Int))=false:=by simp [o1]
      have O1:=aA o1;clear o1;(go_wp2_with fail);go_loopw [6] (fun i wr=>∃j:Nat,j<=nn∧i=.int .i64 j∧w=wr∧Hid (∀j',j'<j->Ut (nth ps j'))) (fun i _=>nn-(intOf i).toNat)
      case atStart=>exact ⟨0,by omega,rfl,rfl,fun j h=>absurd h (by omega)⟩
      case round=>
       obtain ⟨j,hj,rfl,rfl,sZ⟩:=hrel;by_cases hjl:j<nn
       . obtain ⟨be,oe,rfl,mN,hce⟩:=E9.o.at_ (by have:=O1.o;omega)
         have LQ:=hce j (by have:=O1.o;omega);(have abA:(j:Int)<(nn:Int):=by omega);(have hjp:(j:Int)<(ps.length:Int):=by have:=O1.o;omega);(have RY:(0:Int)<=(j:Int):=by omega);have hst:Hid (Ut (nth ps j)->∀j',j'<j+1->Ut (nth ps j')):=fun h1 j' hj'=>by
          by_cases e:j'=j
          . subst e;exact h1
          . exact sZ.o j' (by omega)
         have ari:Hid (¬Ut (nth ps j)->Jl (nn:Int) L w (.returned (.int .i64 1)) w):=fun h=>Fnk.o (fun ho=>h (ho.2 j (by have:=O1.o;show j<ps.length;omega)));clear hce;generalize nth ps j=y at*
         by_cases y1:y<0
         . have F:=aA (ari.o (fun h=>by have:=h.1;omega))
           (go_wp2_with fail);go_ret;exact F.o
         . by_cases y2:1000<y
           . have F:=aA (ari.o (fun h=>by have:=h.2;omega))
             (go_wp2_with fail);go_ret;exact F.o
           . have hn2:=aA (hst.o ⟨by omega,by omega⟩)
             (go_wp2_with fail);go_roundw
             case rel=>exact ⟨j+1,by omega,by go_num,(by first | trivial | rfl),hn2⟩
             case measure=>simp [intOf];omega
       . have hjn:nn=j:=by omega
         have hn3:Hid (∀j' (h:j'<L.length),j'<k+1->OkT (nn:Int) L[j']):=hstep.o ⟨by show ((ps.length:Nat):Int)=_;rw [O1.o],fun i hi=>sZ.o i (by have:=O1.o;have hi:i<ps.length:=hi;omega)⟩;(have abA:¬(j:Int)<(nn:Int):=by omega);clear hjn;(go_wp2_with fail);go_roundw
         case rel=>exact ⟨k+1,by omega,by go_num,(by first | trivial | rfl),hn3⟩
         case measure=>simp [intOf];omega
    . have hz:((ps.length:Int) !=(nn:Int))=true:=by simp;omega
      have F:Hid (Jl (nn:Int) L w (.returned (.int .i64 1)) w):=Fnk.o (fun ho=>o1 (by have:((ps.length:Nat):Int)=(nn:Int):=ho.1;omega));clear o1;(go_wp2_with fail);go_ret;exact F.o
  . have F:=aA (Fy.o (fun j hj=>hdone.o j hj (by have:=hl.o;omega)))
    (have dH:¬(k:Int)<(m:Int):=by omega);(go_wp2_with fail);go_ret;exact F.o
def acP {p:Prop} {r:Bool}(h:p↔r=true):(p->true=r)∧(¬p->false=r):=by
 cases r
 . exact ⟨fun k=>absurd (h.1 k) (by decide),fun _=>rfl⟩
 . exact ⟨fun _=>rfl,fun k=>absurd (h.2 rfl) k⟩
def Gz (A B:Option Addr) (n m c d:Nat) (L M:List TV) (w:World) (hx:iI w A n L) (hy:iI w B m M) (hn:n<=100000000) (hm:m<=100000000) (lx:∀i (h:i<L.length) (h':i<M.length),(L[i]).2.length=(M[i]).2.length) (r:Bool) (hr:L=M↔r=true):
 aB 31 #[.slice A n c,.slice B m d] w fun e w'=>e=.returned (.bool r)∧Below w.heap.size w w':=by
 have hL:=aA hx.len;have hM:=aA hy.len;have HR:=aA (acP hr);have LX:=aA lx;clear hr lx;by_cases hnm:n=m
 case neg=>
  have hne:((n:Int) !=(m:Int))=true:=by simp;omega
  have F:Hid (false=r):=HR.o.2 fun e=>hnm (by rw [<- hL.o,<- hM.o,e]);clear hx hy HR LX;go_enter func31,ntmps31
  go_wp2
  go_ret;exact ⟨qQ F.o,aU⟩
 obtain rfl:=hnm;have hne:((n:Int) !=(n:Int))=false:=by simp
 go_enter func31,ntmps31
 go_wp2
 go_loopw [5] (fun i wr=>∃k:Nat,k<=n∧i=.int .i64 k∧Hid (∀j,j<k->L[j]? =M[j]?)∧Below w.heap.size w wr) (fun i _=>n-(intOf i).toNat)
 case atStart=>exact ⟨0,by omega,rfl,(fun j hj=>absurd hj (by omega)),aU⟩
 case round=>
  obtain ⟨k,hk,rfl,eR,bC⟩:=hrel;obtain ⟨wo,rfl⟩:∃wo:World,wo=wr:=⟨_,rfl⟩;by_cases hlt:k<n
  . obtain ⟨b,o,rfl,hb,hc⟩:=hx.at_ (by omega)
    obtain ⟨b',o',rfl,nI,hc'⟩:=hy.at_ (by omega);(have Ds:k<L.length:=by rw [hL.o];exact hlt);(have hkm:k<M.length:=by rw [hM.o];exact hlt);have lp:=LX.o k Ds hkm;have Bz:L[k]? =some L[k]:=uT Ds;have hye:M[k]? =some M[k]:=uT hkm;obtain ⟨Ai,ci,Ei,ei,e1,e2,e3,e4,e5,e6,e7,e8,e9⟩:=hc k Ds;obtain ⟨Bi,di,Fi,fi,g1,g2,g3,g4,g5,g6,g7,g8,g9⟩:=hc' k hkm;clear hc hc';generalize L[k]=x at*
    generalize M[k]=y at*
    obtain ⟨⟨s,xs⟩,ps⟩:=x;obtain ⟨⟨t,ys⟩,qs⟩:=y;simp only at e1 e2 e3 e4 e6 e8 e9 g1 g2 g3 g4 g6 g8 g9 lp;have elq:qs.length=ps.length:=lp.symm;rw [elq] at g3 g6 g9;clear lp;have Hxe:=aA Bz;have Hye:=aA hye;clear Bz hye;(have dH:(k:Int)<(n:Int):=by omega);(have wT:(0:Int)<=(k:Int):=by omega);(have hz:((ps.length:Int) !=(ps.length:Int))=false:=by simp);rw [aq 3 k] at e1 e2 e3 g1 g2 g3;rw [<- jb] at e2 e3 g2 g3;by_cases Yr:ps=qs
    . subst Yr
      have Cc:=aA (fun W (h:Below w.heap.size w W)=>yh Ei Fi ps.length ei fi ps ps W (e9.aC h) (g9.aC h) (by omega));have Cs:=aA (fun W (h:Below w.heap.size w W)=>Rx s t Ai Bi xs.length ys.length ci di xs ys W (e8.aC h) (g8.aC h) (by omega) (by omega) (decide (s=t∧xs=ys)) ⟨fun h=>DM h,fun h=>FC h⟩);rw [yj] at Cc;clear e8 e9 g8 g9 hx hy;have keep:Hid (∀W,Below w.heap.size w W->W.cell? ⟨b,o+k*3,none⟩=some (.bool s)∧W.cell? ⟨b,o+k*3+1,none⟩=some (.slice Ai xs.length ci)∧W.cell? ⟨b,o+k*3+2,none⟩=some (.slice Ei ps.length ei)∧W.cell? ⟨b',o'+k*3,none⟩=some (.bool t)∧W.cell? ⟨b',o'+k*3+1,none⟩=some (.slice Bi ys.length di)∧W.cell? ⟨b',o'+k*3+2,none⟩=some (.slice Fi ps.length fi)):=fun W hW=>
       ⟨(hW.cell (p:=⟨b,o+k*3,none⟩) hb).trans e1,(hW.cell (p:=⟨b,o+k*3+1,none⟩) hb).trans e2,(hW.cell (p:=⟨b,o+k*3+2,none⟩) hb).trans e3,(hW.cell (p:=⟨b',o'+k*3,none⟩) nI).trans g1,(hW.cell (p:=⟨b',o'+k*3+1,none⟩) nI).trans g2,(hW.cell (p:=⟨b',o'+k*3+2,none⟩) nI).trans g3⟩
      obtain ⟨k1,k2,k3,k4,k5,k6⟩:=keep.o wo bC;clear e1 e2 e3 g1 g2 g3;by_cases hq':s=t∧xs=ys
      . rw [DM hq'] at Cs
        have hq:=aA hq';clear hq';(go_wp2);go_region_held3 (fun W=>W.cell? ⟨b,o+k*3,none⟩=some (.bool s)∧W.cell? ⟨b,o+k*3+1,none⟩=some (.slice Ai xs.length ci)∧W.cell? ⟨b,o+k*3+2,none⟩=some (.slice Ei ps.length ei)∧W.cell? ⟨b',o'+k*3,none⟩=some (.bool t)∧W.cell? ⟨b',o'+k*3+1,none⟩=some (.slice Bi ys.length di)∧W.cell? ⟨b',o'+k*3+2,none⟩=some (.slice Fi ps.length fi))
         (first | go_keep | exact keep.o _ bC.drew | exact keep.o _ fu | exact keep.o _ lC)
         (first
           | (go_at_call 65;refine (Cc.o _ bC.drew).mono ?_;rintro e w1 ⟨rfl,kk,Sy⟩;have fu:Below w.heap.size w w1:=(by rw [Sy];exact below_drewN bC.drew kk);clear Sy)
           | (go_at_call 69;refine (Cs.o _ fu).mono ?_;rintro e w2 ⟨rfl,uw⟩;have lC:Below w.heap.size w w2:=fu.tm uw))
        (go_wp2);go_roundw
        case rel=>exact ⟨k+1,by omega,by go_num,(fun j hj=>if e:j=k then by rw [e,Hxe.o,Hye.o,hq.o.1,hq.o.2] else eR.o j (by omega)),lC⟩
        case measure=>simp [intOf];omega
      . rw [uJ hq'] at Cs
        have hq:Hid (false=r):=HR.o.2 fun e=>hq' (by
         have h:=Hxe.o;rw [e,Hye.o] at h;injection h with h
         injection h with h1 _
         injection h1 with h2 h3
         exact ⟨h2.symm,h3.symm⟩)
        clear hq';(go_wp2);go_region_held3 (fun W=>W.cell? ⟨b,o+k*3,none⟩=some (.bool s)∧W.cell? ⟨b,o+k*3+1,none⟩=some (.slice Ai xs.length ci)∧W.cell? ⟨b,o+k*3+2,none⟩=some (.slice Ei ps.length ei)∧W.cell? ⟨b',o'+k*3,none⟩=some (.bool t)∧W.cell? ⟨b',o'+k*3+1,none⟩=some (.slice Bi ys.length di)∧W.cell? ⟨b',o'+k*3+2,none⟩=some (.slice Fi ps.length fi))
         (first | go_keep | exact keep.o _ bC.drew | exact keep.o _ fu | exact keep.o _ lC)
         (first
           | (go_at_call 65;refine (Cc.o _ bC.drew).mono ?_;rintro e w1 ⟨rfl,kk,Sy⟩;have fu:Below w.heap.size w w1:=(by rw [Sy];exact below_drewN bC.drew kk);clear Sy)
           | (go_at_call 69;refine (Cs.o _ fu).mono ?_;rintro e w2 ⟨rfl,uw⟩;have lC:Below w.heap.size w w2:=fu.tm uw))
        (go_wp2);go_ret;exact ⟨qQ hq.o,lC⟩
    . have hcc:Hid (pK ps qs=1∨pK ps qs= -1):=by
       show _∨_;rcases (ir.tri elq.symm).imp_right (fun h=>h.resolve_left Yr) with h | h
       . exact .inr (C9 h)
       . exact .inl (Gh h)
      have hq:Hid (false=r):=HR.o.2 fun e=>Yr (by
       have h:=Hxe.o;rw [e,Hye.o] at h;injection h with h
       injection h with _ h1
       exact h1.symm)
      have Cc:Hid (∀z,pK ps qs=z->∀j,aB 65 #[.slice Ei ps.length ei,.slice Fi ps.length fi] (wo.drewN j) fun e w'=>e=.returned (.int .i64 z)∧∃k,w'=(wo.drewN j).drewN k):=fun z hz9 j=>by
       rw [<- hz9];exact yh Ei Fi ps.length ei fi ps qs (wo.drewN j) (e9.aC (below_drewN bC j)) (g9.aC (below_drewN bC j)) (by omega)
      clear Yr;clear e8 e9 g8 g9 hx hy;have keep:Hid (∀W,Below w.heap.size w W->W.cell? ⟨b,o+k*3,none⟩=some (.bool s)∧W.cell? ⟨b,o+k*3+1,none⟩=some (.slice Ai xs.length ci)∧W.cell? ⟨b,o+k*3+2,none⟩=some (.slice Ei ps.length ei)∧W.cell? ⟨b',o'+k*3,none⟩=some (.bool t)∧W.cell? ⟨b',o'+k*3+1,none⟩=some (.slice Bi ys.length di)∧W.cell? ⟨b',o'+k*3+2,none⟩=some (.slice Fi ps.length fi)):=fun W hW=>
       ⟨(hW.cell (p:=⟨b,o+k*3,none⟩) hb).trans e1,(hW.cell (p:=⟨b,o+k*3+1,none⟩) hb).trans e2,(hW.cell (p:=⟨b,o+k*3+2,none⟩) hb).trans e3,(hW.cell (p:=⟨b',o'+k*3,none⟩) nI).trans g1,(hW.cell (p:=⟨b',o'+k*3+1,none⟩) nI).trans g2,(hW.cell (p:=⟨b',o'+k*3+2,none⟩) nI).trans g3⟩
      obtain ⟨k1,k2,k3,k4,k5,k6⟩:=keep.o wo bC;clear e1 e2 e3 g1 g2 g3;clear keep;rcases hcc.o with Vw | Vw<;>have Cz:=aA (Cc.o _ Vw)<;>clear Vw hcc Cc
      all_goals
       (go_wp2);go_quiet ((go_at_call 65;first | exact oP (Cz.o _) | exact xK (Cz.o _)))
       (go_wp2);go_ret;exact ⟨qQ hq.o,below_drewN bC _⟩
  . have F:Hid (true=r):=HR.o.1 (List.ext_getElem? fun j=>by
     rcases pT j k with h | h
     . exact eR.o j h
     . rw [JV (by rw [hL.o];omega),JV (by rw [hM.o];omega)])
    clear hx hy eR;(go_wp2);go_ret;exact ⟨qQ F.o,bC⟩
