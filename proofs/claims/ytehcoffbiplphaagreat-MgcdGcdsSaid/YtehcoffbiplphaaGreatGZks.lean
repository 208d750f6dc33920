import Derived.Test.YtehcoffbiplphaaGreatGNatA
import Derived.Test.YtehcoffbiplphaaGreatGTrms
set_option linter.all false
set_option maxHeartbeats 4000000
set_option maxRecDepth 100000
namespace Go.Proofs.YtehcoffbiplphaaGreat
open Go.Proofs.Tryz
variable {xs ys zs:List Int} {n:Int} {w:World} {P:Program} {ty:TypeId}
def Dw (h:aQ xs) {n:Nat}(hn:xs.length=n) (neg:Bool):bW (neg && decide (0<bu xs n)) (xs.take (bu xs n)) (aF neg xs):=by
 obtain ⟨p1,p2⟩:=bF h hn;have hl:=bS xs n;have hlen:(xs.take (bu xs n)).length=bu xs n:=by rw [cS];omega
 have h0:=p1.iY;refine ⟨p1,?_,fun e=> ?_⟩
 . unfold aF
   cases neg with
   | false=>simp only [Bool.false_and,vr,ET];rw [p2]
   | true=>
     by_cases e:0<bu xs n
     . simp only [Bool.true_and,Ir e,rJ];rw [p2]
     . simp only [Bool.true_and,zC e,rJ,ET,vr]
       have:=h0.2 (by omega);omega
 . rw [hlen]
   cases neg with
   | false=>simp at e
   | true=>simpa using e
def Z3 (s:Bool) (xs:List Int):aF (!s) xs= -aF s xs:=by unfold aF;cases s<;>simp
def PD {s t:Bool} (h:limbs zs=limbs xs*limbs ys):aF (s !=t) zs=aF s xs*aF t ys:=by
 unfold aF;cases s<;>cases t<;>simp [h,ES,TM]
open Go.RowKit
def tV (w:World) (z:Int) (K:Nat) (e:Ending) (w':World):Prop:=
 ∃s A k c ls,e=.returned (.agg #[.bool s,.slice A k c])∧k<=c∧c<=9223372036854775807∧k<=K∧aD w' A k ls∧bW s ls z∧Below w.heap.size w w'
def gj (w:World) (z:Int) (K:Nat) (e:Ending) (w':World):Prop:=
 ∃s A k c ls,e=.returned (.agg #[.bool s,.slice A k c])∧k<=c∧c<=9223372036854775807∧k<=K∧aD w' A k ls∧bW s ls z∧(0<k->∀y,A=some y->w.heap.size<=y.block)∧Below w.heap.size w w'
def gj.z {z:Int} {K:Nat} {e:Ending} {w':World}(h:gj w z K e w'):tV w z K e w':=by
 obtain ⟨s,A,k,c,ls,h1,h2,h3,h4,h5,h6,_,h8⟩:=h;exact ⟨s,A,k,c,ls,h1,h2,h3,h4,h5,h6,h8⟩
def l7 (neg:Bool) (A:Option Addr) (n c:Nat) (xs:List Int) (w:World) (hx:aD w A n xs) (hn:n<=c) (hc:c<=9223372036854775807) (Fz:n<=8500000000000):
 aC 80 #[.bool neg,.slice A n c] w fun e w'=>∃s A k c ls,e=.returned (.agg #[.bool s,.slice A k c])∧k<=c∧c<=9223372036854775807∧k<=n∧aD w' A k ls∧bW s ls (aF neg xs)∧(0<k->∀y,A=some y->w.heap.size<=y.block)∧Below w.heap.size w w':=by
 have hz:=Dw hx.ok hx.len neg;have hl:=bS xs n;refine (UF neg A n c xs w hx hn hc (by omega)).mono ?_;rintro e w' ⟨A1,c1,rfl,h1,h2,h3,h4,h5⟩;exact ⟨_,A1,_,c1,_,rfl,h1,h2,by rw [cS];omega,h3,hz,h5,h4⟩
def DA (neg:Bool) (A:Option Addr) (n c:Nat) (xs:List Int) (w:World) (hx:aD w A n xs) (hn:n<=c) (hc:c<=9223372036854775807) (Fz:n<=8500000000000):
 aC 80 #[.bool neg,.slice A n c] w (tV w (aF neg xs) n):=(l7 neg A n c xs w hx hn hc Fz).mono fun _ _ h=>gj.z h
def YI (s:Bool) (A:Option Addr) (n c:Nat) (xs:List Int) (w:World) (hx:aD w A n xs) (hn:n<=c) (hc:c<=9223372036854775807) (Fz:n<=8500000000000):
 aC 45 #[.agg #[.bool s,.slice A n c]] w (gj w (-aF s xs) n):=by
 have Cn:=aA (fun W (h:Below w.heap.size w W)=>l7 (!s) A n c xs W (hx.aB h) hn hc Fz);rw [Z3] at Cn;have uw:=(Duo.new w (.bool s) (.slice A n c)).aB (aW.alloc aK (.cells #[.bool false,.slice none 0 0] 41));have hd:=Duo.new (w.alloc (.cells #[.bool s,.slice A n c] 41)) (.bool false) (.slice none 0 0);rw [aJ] at hd;have c0:=uw.cell0;have c1:=uw.cell1;have Hd:=aA hd;clear hd uw hx;go_enter func45,ntmps45
 go_wp2_with fail
 refine (Cn.o _ (by exact (aW.alloc aK _).alloc (by simp) _)).mono ?_;rintro e w1 ⟨s1,A1,k1,u9,ls,rfl,h1,h2,h3,h4,h5,h7,h6⟩;have jU:=Hd.o.aB h6;have k0:=jU.cell0;have k1':=jU.cell1;have f0:=jU.frozen 0;have f1:=jU.frozen 1;have hb:Below w.heap.size w w1:=(((Below.refl _ w).alloc aK _).alloc (by simp) _).trans (h6.mono (by simp;omega));have JP:=aA jU;have H7:Hid (0<k1->∀y,A1=some y->w.heap.size<=y.block):=fun h0 y hy=>aH (by simp;omega) (h7 h0 y hy);have H5:=aA h5;clear jU h6 h5 h7;go_wp2
 exact ax (cI (fn:=f45) rfl _ _ _ _ _ _ _ rfl (JP.o.set _ _) underlying41 rfl aT) rfl
  ⟨s1,A1,k1,u9,ls,rfl,h1,h2,h3,JP.o.limbs _ _ rfl rfl h4,H5.o,H7.o,(hb.setCell (p:=⟨w.heap.size+1,0,none⟩) (by simp) _).setCell (p:=⟨w.heap.size+1,1,none⟩) (by simp) _⟩
def agt (s t:Bool) (A B:Option Addr) (n m c d:Nat) (xs ys:List Int) (w:World) (hx:aD w A n xs) (hy:aD w B m ys) (ig:n<=c) (hc:c<=9223372036854775807) (kX:m<=d) (hd:d<=9223372036854775807) (hn:n<=4000000000000) (hm:m<=4000000000000):
 aC 76 #[.agg #[.bool s,.slice A n c],.agg #[.bool t,.slice B m d]] w (gj w (aF s xs*aF t ys) (n+m+1)):=by
 have Cm:=aA (fun W (h:Below w.heap.size w W)=>Ol _ A B n m c d xs ys W (xm _) (hx.aB h) (hy.aB h) ig hc kX hd hn hm);have Cz:=aA (fun (neg:Bool) A' n' c' zs W h h1 h2 h3=>l7 neg A' n' c' zs W h h1 h2 h3);obtain ⟨b1,b2,b3,da,db,dr,hsz⟩:=stZ w s A n c t B m d;go_enter func76,ntmps76
 go_wp2_with fail
 have Da:=aA da;have Db:=aA db;have Dr:=aA dr
 clear da db dr b1 b2 hx hy;generalize ((w.alloc (.cells #[.bool s,.slice A n c] 41)).alloc (.cells #[.bool t,.slice B m d] 41)).alloc (.cells #[.bool false,.slice none 0 0] 41)=wt at*
 have a0:=Da.o.cell0;have a1:=Da.o.cell1;have e0:=Db.o.cell0;have e1:=Db.o.cell1;have r0:=Dr.o.cell0;have r1:=Dr.o.cell1;have f0:=Dr.o.frozen 0;have f1:=Dr.o.frozen 1;have la:w.heap.size<wt.heap.size:=by omega
 have lb:w.heap.size+1<wt.heap.size:=by omega
 have lr:w.heap.size+1+1<wt.heap.size:=by omega
 have keep:=BS la lb a0 a1 e0 e1
 have res:=OG lr r0 r1 Dr
 clear r0 r1 f0 f1;have nJ:w.heap.size+1+1≠w.heap.size:=by omega
 have nI:w.heap.size+1+1≠w.heap.size+1:=by omega
 have jy:w.heap.size<=w.heap.size+1+1:=by omega
 have U2:w.heap.size<=wt.heap.size:=by omega
 clear hsz;generalize w.heap.size+1+1=gr at*
 generalize w.heap.size+1=gb at*
 have xS:∀(W:World) (u v:Value),(W.cell? ⟨w.heap.size,0,none⟩=some (.bool s)∧W.cell? ⟨w.heap.size,1,none⟩=some (.slice A n c)∧W.cell? ⟨gb,0,none⟩=some (.bool t)∧W.cell? ⟨gb,1,none⟩=some (.slice B m d))->(((W.setCell ⟨gr,0,none⟩ u).setCell ⟨gr,1,none⟩ v).cell? ⟨w.heap.size,0,none⟩=some (.bool s)∧((W.setCell ⟨gr,0,none⟩ u).setCell ⟨gr,1,none⟩ v).cell? ⟨w.heap.size,1,none⟩=some (.slice A n c)∧((W.setCell ⟨gr,0,none⟩ u).setCell ⟨gr,1,none⟩ v).cell? ⟨gb,0,none⟩=some (.bool t)∧((W.setCell ⟨gr,0,none⟩ u).setCell ⟨gr,1,none⟩ v).cell? ⟨gb,1,none⟩=some (.slice B m d)):=by
  rintro W u v ⟨k1,k2,k3,k4⟩;refine ⟨?_,?_,?_,?_⟩;all_goals
   rw [iF _ _ _ _ (fun e=>by injection e with e1;first | exact nJ e1.symm | exact nI e1.symm | exact nJ e1 | exact nI e1),iF _ _ _ _ (fun e=>by injection e with e1;first | exact nJ e1.symm | exact nI e1.symm | exact nJ e1 | exact nI e1)];assumption
 go_region_held3 (fun W=>W.cell? ⟨w.heap.size,0,none⟩=some (.bool s)∧W.cell? ⟨w.heap.size,1,none⟩=some (.slice A n c)∧W.cell? ⟨gb,0,none⟩=some (.bool t)∧W.cell? ⟨gb,1,none⟩=some (.slice B m d))
  (first | go_keep | exact keep.o _ aW.drew | exact keep.o _ ah | exact keep.o _ iU | exact xS _ _ _ (keep.o _ iU))
  (first
    | (go_at_call 106;refine (Cm.o _ (by first | exact b3.drew | exact b3 | exact below_drewN b3 _)).mono ?_;rintro e w1 ⟨zs,g1,g2,g3,A1,k1,c1,rfl,g4,g5,g6,g7,uF⟩;have ah:Below wt.heap.size wt w1:=aW.drew.trans uF)
    | (go_at_call 80;refine (Cz.o (s !=t) A1 k1 c1 zs w1 g6 g4 g5 (by have:=g6.len;omega)).mono ?_;rintro e w2 ⟨s2,A2,k2,c2,ls,rfl,q1,q2,q3,q4,q5,qf,qq⟩;have iU:Below wt.heap.size wt w2:=ah.tm qq;obtain ⟨r0,r1,f0,f1⟩:=res.o w2 iU))
 have AG:=Dr.o.aB iU;have cU:Below w.heap.size w w2:=b3.trans (iU.mono (by omega));have hz:bW s2 ls (aF s xs*aF t ys):=by rw [<- PD g2];exact q5
 have HF:Hid (0<k2->∀y,A2=some y->w.heap.size<=y.block):=fun h0 y hy=>aH (aH U2 ah.size) (qf h0 y hy);have uX:k2<=n+m+1:=by have:=g6.len;omega
 have Hz:=aA hz;have HD:=aA AG;have QM:=aA q4;clear hz AG q4 q5 g6 keep qf;go_wp2
 exact ax (cI (fn:=f76) rfl _ _ _ _ _ _ _ rfl (HD.o.set _ _) underlying41 rfl aT) rfl
  ⟨s2,A2,k2,c2,ls,rfl,q1,q2,uX,HD.o.limbs _ _ rfl rfl QM.o,Hz.o,HF.o,(cU.setCell (p:=⟨gr,0,none⟩) jy _).setCell (p:=⟨gr,1,none⟩) jy _⟩
def aub (s t:Bool) (A B:Option Addr) (n m c d:Nat) (xs ys:List Int) (w:World) (hx:aD w A n xs) (hy:aD w B m ys) (ig:n<=c) (hc:c<=9223372036854775807) (kX:m<=d) (hd:d<=9223372036854775807) (hn:n<=4000000000000) (hm:m<=4000000000000):
 aC 76 #[.agg #[.bool s,.slice A n c],.agg #[.bool t,.slice B m d]] w (tV w (aF s xs*aF t ys) (n+m+1)):=(agt s t A B n m c d xs ys w hx hy ig hc kX hd hn hm).mono fun _ _ h=>h.z
def y8 {s t:Bool} (hst:(s==t)=true) (h:limbs zs=limbs xs+limbs ys):aF s zs=aF s xs+aF t ys:=by
 have:s=t:=by simpa using hst
 subst this;unfold aF;cases s<;>simp [h]<;>omega
def Qk (s t:Bool) (hst:(s==t)=true) (A B:Option Addr) (n m c d:Nat) (xs ys:List Int) (w:World) (hx:aD w A n xs) (hy:aD w B m ys) (_hnc:n<=c) (_hc:c<=9223372036854775807) (_hmd:m<=d) (_hd:d<=9223372036854775807) (hn:n<=4000000000000) (hm:m<=4000000000000):
 aC 56 #[.agg #[.bool s,.slice A n c],.agg #[.bool t,.slice B m d]] w (gj w (aF s xs+aF t ys) (max n m+1)):=by
 have Cm:=aA (fun W (h:Below w.heap.size w W)=>vQ A B n m c d xs ys W (hx.aB h) (hy.aB h) (by omega) (by omega));have IM:=aA (oJ hx.ok hy.ok);have jq:=hx.len;have uJ:=hy.len;have Cz:=aA (fun (neg:Bool) A' n' c' zs W h h1 h2 h3=>l7 neg A' n' c' zs W h h1 h2 h3);obtain ⟨b1,b2,b3,da,db,dr,hsz⟩:=stZ w s A n c t B m d;go_enter func56,ntmps56
 go_wp2_with fail
 have Da:=aA da;have Db:=aA db;have Dr:=aA dr
 clear da db dr b1 b2 hx hy;generalize ((w.alloc (.cells #[.bool s,.slice A n c] 41)).alloc (.cells #[.bool t,.slice B m d] 41)).alloc (.cells #[.bool false,.slice none 0 0] 41)=wt at*
 have a0:=Da.o.cell0;have a1:=Da.o.cell1;have e0:=Db.o.cell0;have e1:=Db.o.cell1;have r0:=Dr.o.cell0;have r1:=Dr.o.cell1;have f0:=Dr.o.frozen 0;have f1:=Dr.o.frozen 1;have la:w.heap.size<wt.heap.size:=by omega
 have lb:w.heap.size+1<wt.heap.size:=by omega
 have lr:w.heap.size+1+1<wt.heap.size:=by omega
 have keep:=BS la lb a0 a1 e0 e1
 have res:=OG lr r0 r1 Dr
 clear r0 r1 f0 f1;have nJ:w.heap.size+1+1≠w.heap.size:=by omega
 have nI:w.heap.size+1+1≠w.heap.size+1:=by omega
 have jy:w.heap.size<=w.heap.size+1+1:=by omega
 have U2:w.heap.size<=wt.heap.size:=by omega
 clear hsz;generalize w.heap.size+1+1=gr at*
 generalize w.heap.size+1=gb at*
 have xS:∀(W:World) (u v:Value),(W.cell? ⟨w.heap.size,0,none⟩=some (.bool s)∧W.cell? ⟨w.heap.size,1,none⟩=some (.slice A n c)∧W.cell? ⟨gb,0,none⟩=some (.bool t)∧W.cell? ⟨gb,1,none⟩=some (.slice B m d))->(((W.setCell ⟨gr,0,none⟩ u).setCell ⟨gr,1,none⟩ v).cell? ⟨w.heap.size,0,none⟩=some (.bool s)∧((W.setCell ⟨gr,0,none⟩ u).setCell ⟨gr,1,none⟩ v).cell? ⟨w.heap.size,1,none⟩=some (.slice A n c)∧((W.setCell ⟨gr,0,none⟩ u).setCell ⟨gr,1,none⟩ v).cell? ⟨gb,0,none⟩=some (.bool t)∧((W.setCell ⟨gr,0,none⟩ u).setCell ⟨gr,1,none⟩ v).cell? ⟨gb,1,none⟩=some (.slice B m d)):=by
  rintro W u v ⟨k1,k2,k3,k4⟩;refine ⟨?_,?_,?_,?_⟩;all_goals
   rw [iF _ _ _ _ (fun e=>by injection e with e1;first | exact nJ e1.symm | exact nI e1.symm | exact nJ e1 | exact nI e1),iF _ _ _ _ (fun e=>by injection e with e1;first | exact nJ e1.symm | exact nI e1.symm | exact nJ e1 | exact nI e1)];assumption
 go_region_held3 (fun W=>W.cell? ⟨w.heap.size,0,none⟩=some (.bool s)∧W.cell? ⟨w.heap.size,1,none⟩=some (.slice A n c)∧W.cell? ⟨gb,0,none⟩=some (.bool t)∧W.cell? ⟨gb,1,none⟩=some (.slice B m d))
  (first | go_keep | exact keep.o _ aW.drew | exact keep.o _ ah | exact keep.o _ iU | exact xS _ _ _ (keep.o _ iU))
  (first
    | (go_at_call 87;refine (Cm.o _ (by first | exact b3.drew | exact b3 | exact below_drewN b3 _)).mono ?_;rintro e w1 ⟨A1,k1,c1,rfl,g4,g5,g6,g7,uF⟩;have ah:Below wt.heap.size wt w1:=aW.drew.trans uF)
    | (go_at_call 80;refine (Cz.o s A1 k1 c1 (uQ xs ys) w1 g6 g4 g5 (by have:=g6.len;have:=IM.o.2.2;omega)).mono ?_;rintro e w2 ⟨s2,A2,k2,c2,ls,rfl,q1,q2,q3,q4,q5,qf,qq⟩;have iU:Below wt.heap.size wt w2:=ah.tm qq;obtain ⟨r0,r1,f0,f1⟩:=res.o w2 iU))
 have AG:=Dr.o.aB iU;have cU:Below w.heap.size w w2:=b3.trans (iU.mono (by omega));have hz:bW s2 ls (aF s xs+aF t ys):=by rw [<- y8 hst IM.o.2.1];exact q5
 have HF:Hid (0<k2->∀y,A2=some y->w.heap.size<=y.block):=fun h0 y hy=>aH (aH U2 ah.size) (qf h0 y hy);have uX:k2<=max n m+1:=by have:=g6.len;have:=IM.o.2.2;omega
 have Hz:=aA hz;have HD:=aA AG;have QM:=aA q4;clear hz AG q4 q5 g6 keep qf;go_wp2
 exact ax (cI (fn:=f56) rfl _ _ _ _ _ _ _ rfl (HD.o.set _ _) underlying41 rfl aT) rfl
  ⟨s2,A2,k2,c2,ls,rfl,q1,q2,uX,HD.o.limbs _ _ rfl rfl QM.o,Hz.o,HF.o,(cU.setCell (p:=⟨gr,0,none⟩) jy _).setCell (p:=⟨gr,1,none⟩) jy _⟩
def pz {s t:Bool} (hst:(s==t)=false) (h:limbs zs=limbs xs-limbs ys) (mS:limbs ys<=limbs xs):aF s zs=aF s xs+aF t ys:=by
 unfold aF;cases s<;>cases t<;>simp_all<;>omega
def afJ {a b:Nat}(h:b<=a):¬jc a b<0:=by unfold jc;rw [af (by omega)];split<;>omega
def Ql (s t:Bool) (hst:(s==t)=false) (A B:Option Addr) (n m c d:Nat) (xs ys:List Int) (w:World) (hx:aD w A n xs) (hy:aD w B m ys) (ig:n<=c) (hc:c<=9223372036854775807) (kX:m<=d) (hd:d<=9223372036854775807) (hn:n<=4000000000000) (hm:m<=4000000000000) (mS:limbs ys<=limbs xs):
 aC 56 #[.agg #[.bool s,.slice A n c],.agg #[.bool t,.slice B m d]] w (gj w (aF s xs+aF t ys) (max n m+1)):=by
 have Cc:=aA (fun W (h:Below w.heap.size w W)=>yK A B n m c d xs ys W (hx.aB h) (hy.aB h) ig hc kX hd hn hm);have Cs:=aA (fun W (h:aD W A n xs) (h':aD W B m ys)=>BD A B n m c d xs ys W h h' (by omega) (by omega) mS);have kG:=aA (mG hx.ok hy.ok mS);have XP:¬jc (limbs xs) (limbs ys)<0:=afJ mS;have jq:=hx.len;have uJ:=hy.len;have Cz:=aA (fun (neg:Bool) A' n' c' zs W h h1 h2 h3=>l7 neg A' n' c' zs W h h1 h2 h3);obtain ⟨b1,b2,b3,da,db,dr,hsz⟩:=stZ w s A n c t B m d;go_enter func56,ntmps56
 go_wp2_with fail
 have Da:=aA da;have Db:=aA db;have Dr:=aA dr
 have Hx:=aA hx;have Hy:=aA hy;clear da db dr b1 b2 hx hy;generalize ((w.alloc (.cells #[.bool s,.slice A n c] 41)).alloc (.cells #[.bool t,.slice B m d] 41)).alloc (.cells #[.bool false,.slice none 0 0] 41)=wt at*
 have a0:=Da.o.cell0;have a1:=Da.o.cell1;have e0:=Db.o.cell0;have e1:=Db.o.cell1;have r0:=Dr.o.cell0;have r1:=Dr.o.cell1;have f0:=Dr.o.frozen 0;have f1:=Dr.o.frozen 1;have la:w.heap.size<wt.heap.size:=by omega
 have lb:w.heap.size+1<wt.heap.size:=by omega
 have lr:w.heap.size+1+1<wt.heap.size:=by omega
 have keep:=BS la lb a0 a1 e0 e1
 have nJ:w.heap.size+1+1≠w.heap.size:=by omega
 have nI:w.heap.size+1+1≠w.heap.size+1:=by omega
 have jy:w.heap.size<=w.heap.size+1+1:=by omega
 have res:=OG lr r0 r1 Dr
 clear r0 r1 f0 f1 hsz;go_wp2_with fail
 refine (Cc.o _ (by exact b3)).mono ?_;rintro e w1 ⟨rfl,j1,F7⟩;have ah:Below wt.heap.size wt w1:=by subst F7;exact below_drewN aW _
 clear F7;obtain ⟨q1,q2,q3,q4⟩:=keep.o w1 ah;clear a0 a1 e0 e1;go_wp2_with fail
 refine (Cs.o _ (by exact Hx.o.aB (b3.trans (ah.mono (by omega)))) (by exact Hy.o.aB (b3.trans (ah.mono (by omega))))).mono ?_;rintro e w2 ⟨A1,k1,c1,rfl,g4,g5,g6,g7,qq⟩;have iU:Below wt.heap.size wt w2:=ah.tm qq;obtain ⟨v1,v2,v3,v4⟩:=keep.o w2 iU;clear q1 q2 q3 q4;have Rv:=g6.len;go_wp2_with fail
 refine (Cz.o s A1 k1 c1 (nZ xs ys) w2 g6 g4 g5 (by have:=kG.o.2.2.2;omega)).mono ?_;rintro e w3 ⟨s2,A2,k2,c2,ls,rfl,m1,m2,m3,m4,m5,qf,aaM⟩;have ym:Below wt.heap.size wt w3:=iU.tm aaM;obtain ⟨r0,r1,f0,f1⟩:=res.o w3 ym;have AG:=Dr.o.aB ym;have cU:Below w.heap.size w w3:=b3.trans (ym.mono (by omega));have hz:bW s2 ls (aF s xs+aF t ys):=by rw [<- pz hst (kG.o.2.2.1) mS];exact m5
 have HF:Hid (0<k2->∀y,A2=some y->w.heap.size<=y.block):=fun h0 y hy=>aH (aH (nK la) iU.size) (qf h0 y hy);have uX:k2<=max n m+1:=by have:=kG.o.2.2.2;omega
 have Hz:=aA hz;have HD:=aA AG;have QM:=aA m4;clear hz AG m4 m5 g6 keep qf;go_wp2
 exact ax (cI (fn:=f56) rfl _ _ _ _ _ _ _ rfl (HD.o.set _ _) underlying41 rfl aT) rfl
  ⟨s2,A2,k2,c2,ls,rfl,m1,m2,uX,HD.o.limbs _ _ rfl rfl QM.o,Hz.o,HF.o,(cU.setCell (p:=⟨w.heap.size+1+1,0,none⟩) jy _).setCell (p:=⟨w.heap.size+1+1,1,none⟩) jy _⟩
def Duo.other {g:Nat} {u v:Value}(h:Duo w g u v) (p:Addr) (hp:p.block≠g) (a:Value):Duo (w.setCell p a) g u v:=by
 unfold Duo at h ⊢;simp [World.setCell,wI,h,hp]
def Qj (s t:Bool) (hst:(s==t)=false) (A B:Option Addr) (n m c d:Nat) (xs ys:List Int) (w:World) (hx:aD w A n xs) (hy:aD w B m ys) (ig:n<=c) (hc:c<=9223372036854775807) (kX:m<=d) (hd:d<=9223372036854775807) (hn:n<=4000000000000) (hm:m<=4000000000000) (hlt:limbs xs<limbs ys):
 aC 56 #[.agg #[.bool s,.slice A n c],.agg #[.bool t,.slice B m d]] w (gj w (aF s xs+aF t ys) (max n m+1)):=by
 have Cc:=aA (fun W (h:Below w.heap.size w W)=>yK A B n m c d xs ys W (hx.aB h) (hy.aB h) ig hc kX hd hn hm);have Cs:=aA (fun W (h:aD W B m ys) (h':aD W A n xs)=>BD B A m n d c ys xs W h h' (by omega) (by omega) (by omega));have kG:=aA (mG hy.ok hx.ok (by omega));have XP:jc (limbs xs) (limbs ys)= -1:=M4 hlt;have jq:=hx.len;have uJ:=hy.len;have Cz:=aA (fun (neg:Bool) A' n' c' zs W h h1 h2 h3=>l7 neg A' n' c' zs W h h1 h2 h3);obtain ⟨b1,b2,b3,da,db,dr,hsz⟩:=stZ w s A n c t B m d;go_enter func56,ntmps56
 go_wp2_with fail
 have Da:=aA da;have Db:=aA db;have Dr:=aA dr
 have Hx:=aA hx;have Hy:=aA hy;clear da db dr b1 b2 hx hy;generalize ((w.alloc (.cells #[.bool s,.slice A n c] 41)).alloc (.cells #[.bool t,.slice B m d] 41)).alloc (.cells #[.bool false,.slice none 0 0] 41)=wt at*
 have a0:=Da.o.cell0;have a1:=Da.o.cell1;have e0:=Db.o.cell0;have e1:=Db.o.cell1;have r0:=Dr.o.cell0;have r1:=Dr.o.cell1;have f0:=Dr.o.frozen 0;have f1:=Dr.o.frozen 1;have la:w.heap.size<wt.heap.size:=by omega
 have lb:w.heap.size+1<wt.heap.size:=by omega
 have lr:w.heap.size+1+1<wt.heap.size:=by omega
 have keep:=BS la lb a0 a1 e0 e1
 have nJ:w.heap.size+1+1≠w.heap.size:=by omega
 have nI:w.heap.size+1+1≠w.heap.size+1:=by omega
 have jy:w.heap.size<=w.heap.size+1+1:=by omega
 clear r0 r1 f0 f1 hsz;go_wp2_with fail
 refine (Cc.o _ (by exact b3)).mono ?_;rintro e w1 ⟨rfl,j1,F7⟩;have ah:Below wt.heap.size wt w1:=by subst F7;exact below_drewN aW _
 clear F7;obtain ⟨q1,q2,q3,q4⟩:=keep.o w1 ah;have qu:Below w.heap.size w w1:=b3.trans (ah.mono (by omega));have Hx1:=aA (Hx.o.aB qu);have NV:=aA (Hy.o.aB qu);have A1d:=Da.o.aB ah;have B1d:=Db.o.aB ah;have R1d:=Dr.o.aB ah;have fa0:=A1d.frozen 0;have fa1:=A1d.frozen 1;have fb0:=B1d.frozen 0;have fb1:=B1d.frozen 1;obtain ⟨ws,hws,was,wbs,wrs,wx,wy,wb,wsz⟩:∃ws:World,ws=(((w1.setCell ⟨w.heap.size,0,none⟩ (.bool t)).setCell ⟨w.heap.size,1,none⟩ (.slice B m d)).setCell ⟨w.heap.size+1,0,none⟩ (.bool s)).setCell ⟨w.heap.size+1,1,none⟩ (.slice A n c)∧Duo ws w.heap.size (.bool t) (.slice B m d)∧Duo ws (w.heap.size+1) (.bool s) (.slice A n c)∧Duo ws (w.heap.size+1+1) (.bool false) (.slice none 0 0)∧aD ws A n xs∧aD ws B m ys∧Below w.heap.size w ws∧w.heap.size+1+1<ws.heap.size:=by
  have X1:=A1d.limbs (.bool t) (.slice B m d) rfl rfl Hx1.o;have Y1:=A1d.limbs (.bool t) (.slice B m d) rfl rfl NV.o;have A2:=A1d.set (.bool t) (.slice B m d);have B2:=(B1d.other ⟨w.heap.size,0,none⟩ (by show w.heap.size≠w.heap.size+1;omega) (.bool t)).other ⟨w.heap.size,1,none⟩ (by show w.heap.size≠w.heap.size+1;omega) (.slice B m d);have R2:=(R1d.other ⟨w.heap.size,0,none⟩ (by show w.heap.size≠w.heap.size+1+1;omega) (.bool t)).other ⟨w.heap.size,1,none⟩ (by show w.heap.size≠w.heap.size+1+1;omega) (.slice B m d);refine ⟨_,rfl,?_,B2.set _ _,?_,B2.limbs _ _ rfl rfl X1,B2.limbs _ _ rfl rfl Y1,?_,?_⟩
  . exact (A2.other _ (by show w.heap.size+1≠w.heap.size;omega) _).other _ (by show w.heap.size+1≠w.heap.size;omega) _
  . exact (R2.other _ (by show w.heap.size+1≠w.heap.size+1+1;omega) _).other _ (by show w.heap.size+1≠w.heap.size+1+1;omega) _
  . exact (((qu.setCell (p:=⟨w.heap.size,0,none⟩) aK _).setCell (p:=⟨w.heap.size,1,none⟩) aK _).setCell (p:=⟨w.heap.size+1,0,none⟩) (by show w.heap.size<=w.heap.size+1;omega) _).setCell (p:=⟨w.heap.size+1,1,none⟩) (by show w.heap.size<=w.heap.size+1;omega) _
  . have:=ah.size
    simp;omega
 have Wa:=aA was;have Wb:=aA wbs;have Wr:=aA wrs;have p0:=was.cell0;have p1:=was.cell1;have p2:=wbs.cell0;have p3:=wbs.cell1;have Hws:=aA hws;rw [hws] at p0 p1 p2 p3;clear hws was wbs wrs a0 a1 e0 e1 A1d B1d R1d qu;go_wp2_with fail
 rw [<- Hws.o] at*
 refine (Cs.o _ (by exact wy) (by exact wx)).mono ?_;rintro e w2 ⟨A1,k1,c1,rfl,g4,g5,g6,g7,iU⟩;have v0:=(Wa.o.aB iU).cell0;have v1:=(Wa.o.aB iU).cell1;clear p0 p1 p2 p3;have Rv:=g6.len;go_wp2_with fail
 refine (Cz.o t A1 k1 c1 (nZ ys xs) w2 g6 g4 g5 (by have:=kG.o.2.2.2;omega)).mono ?_;rintro e w3 ⟨s2,A2,k2,c2,ls,rfl,m1,m2,m3,m4,m5,qf,aaM⟩;have ym:Below ws.heap.size ws w3:=iU.tm aaM;have AG:=Wr.o.aB ym;have r0:=AG.cell0;have r1:=AG.cell1;have f0:=AG.frozen 0;have f1:=AG.frozen 1;have cU:Below w.heap.size w w3:=wb.trans (ym.mono (by omega));have hz:bW s2 ls (aF s xs+aF t ys):=by rw [NJ,<- pz (s:=t) (t:=s) (by cases s<;>cases t<;>simp_all) (kG.o.2.2.1) (by omega)];exact m5
 have HF:Hid (0<k2->∀y,A2=some y->w.heap.size<=y.block):=fun h0 y hy=>aH (aH wb.size iU.size) (qf h0 y hy);have uX:k2<=max n m+1:=by have:=kG.o.2.2.2;omega
 have Hz:=aA hz;have HD:=aA AG;have QM:=aA m4;clear hz AG m4 m5 g6 keep qf;go_wp2
 exact ax (cI (fn:=f56) rfl _ _ _ _ _ _ _ rfl (HD.o.set _ _) underlying41 rfl aT) rfl
  ⟨s2,A2,k2,c2,ls,rfl,m1,m2,uX,HD.o.limbs _ _ rfl rfl QM.o,Hz.o,HF.o,(cU.setCell (p:=⟨w.heap.size+1+1,0,none⟩) jy _).setCell (p:=⟨w.heap.size+1+1,1,none⟩) jy _⟩
def results_cell_tmp {fn:Func} {p u:Tmp} (h:fn.results=#[.cell p ty,.tmp u]) (tmps:Array Value) (w:World) (g:Nat) (t:TypeId) (cs:Array Value) (fr:Nat×Nat) (d:TypeDesc)
 (hp:tmps.getD p undef=.pointer (some ⟨g,0,none⟩)) (hg:w.heap[g]? =some (.cells cs t fr))
 (hu:P.underlying ty=some d) (hd:(match d with | .struct _ | .array _ _=>true | _=>false)=true) (hi:(P.info? ty).map (·.size)=some cs.size):
 (results fn tmps).run P w=.ok (.tuple #[.agg cs,tmps.getD u undef]) w:=by
 have Jm:tmps[p]?.getD undef=.pointer (some ⟨g,0,none⟩):=by simpa using hp
 simp [results,h,Jm,asAddr,Iw w g t ty cs fr d hg hu hd hi]
def cQ {fn:Func} {p q u:Tmp} {ty':TypeId}(h:fn.results=#[.cell p ty,.cell q ty',.tmp u]) (tmps:Array Value) (w:World) (g g':Nat) (t t':TypeId) (cs cs':Array Value) (fr fr':Nat×Nat) (d d':TypeDesc)
 (hp:tmps.getD p undef=.pointer (some ⟨g,0,none⟩)) (hg:w.heap[g]? =some (.cells cs t fr))
 (hq:tmps.getD q undef=.pointer (some ⟨g',0,none⟩)) (FE:w.heap[g']? =some (.cells cs' t' fr'))
 (hu:P.underlying ty=some d) (hd:(match d with | .struct _ | .array _ _=>true | _=>false)=true) (hi:(P.info? ty).map (·.size)=some cs.size)
 (hu':P.underlying ty'=some d') (Qe:(match d' with | .struct _ | .array _ _=>true | _=>false)=true) (yh:(P.info? ty').map (·.size)=some cs'.size):
 (results fn tmps).run P w=.ok (.tuple #[.agg cs,.agg cs',tmps.getD u undef]) w:=by
 have Jm:tmps[p]?.getD undef=.pointer (some ⟨g,0,none⟩):=by simpa using hp
 have hq':tmps[q]?.getD undef=.pointer (some ⟨g',0,none⟩):=by simpa using hq
 simp [results,h,Jm,hq',asAddr,Iw w g t ty cs fr d hg hu hd hi,Iw w g' t' ty' cs' fr' d' FE hu' Qe yh]
def YJ (s t:Bool) (A B:Option Addr) (n m c d:Nat) (xs ys:List Int) (w:World) (hx:aD w A n xs) (hy:aD w B m ys) (ig:n<=c) (hc:c<=9223372036854775807) (kX:m<=d) (hd:d<=9223372036854775807) (hn:n<=4000000000000) (hm:m<=4000000000000):
 aC 56 #[.agg #[.bool s,.slice A n c],.agg #[.bool t,.slice B m d]] w (gj w (aF s xs+aF t ys) (max n m+1)):=by
 cases hst:(s==t) with
 | true=>exact Qk s t hst A B n m c d xs ys w hx hy ig hc kX hd hn hm
 | false=>
   rcases qz (limbs xs) (limbs ys) with h | h
   . exact Qj s t hst A B n m c d xs ys w hx hy ig hc kX hd hn hm h
   . exact Ql s t hst A B n m c d xs ys w hx hy ig hc kX hd hn hm h
def auc (s t:Bool) (A B:Option Addr) (n m c d:Nat) (xs ys:List Int) (w:World) (hx:aD w A n xs) (hy:aD w B m ys) (ig:n<=c) (hc:c<=9223372036854775807) (kX:m<=d) (hd:d<=9223372036854775807) (hn:n<=4000000000000) (hm:m<=4000000000000):
 aC 56 #[.agg #[.bool s,.slice A n c],.agg #[.bool t,.slice B m d]] w (tV w (aF s xs+aF t ys) (max n m+1)):=(YJ s t A B n m c d xs ys w hx hy ig hc kX hd hn hm).mono fun _ _ h=>h.z
def Nn (x:Int) (w:World) (h0:0<=x) (h1:x<=9223372036854775807):aC 46 #[.int .i64 x] w (tV w x 1):=by
 have hz:=Dw (xs:=[x]) (fun i=>by
  cases i with
  | zero=>exact ⟨h0,by show x<_;omega⟩
  | succ i=>rw [cW (by simp)];omega) (n:=1) rfl false
 refine (adn x w h0 h1).mono ?_;rintro e w' ⟨A,c,rfl,q1,q2,q3,q4⟩;have hl:=bS [x] 1;have e1:aF false [x]=x:=by unfold aF;simp [limbs];omega
 rw [e1,Bool.false_and] at hz;exact ⟨false,A,_,c,_,rfl,q1,q2,by rw [cS];omega,by rw [cS] at*;exact q3,hz,q4⟩
def Pm (w:World) (u0 v0 u1 v1 u2 v2 u3 v3:Value):
 Duo ((((w.alloc (.cells #[u0,v0] 41)).alloc (.cells #[u1,v1] 41)).alloc (.cells #[u2,v2] 41)).alloc (.cells #[u3,v3] 41)) w.heap.size u0 v0∧
 Duo ((((w.alloc (.cells #[u0,v0] 41)).alloc (.cells #[u1,v1] 41)).alloc (.cells #[u2,v2] 41)).alloc (.cells #[u3,v3] 41)) (w.heap.size+1) u1 v1∧
 Duo ((((w.alloc (.cells #[u0,v0] 41)).alloc (.cells #[u1,v1] 41)).alloc (.cells #[u2,v2] 41)).alloc (.cells #[u3,v3] 41)) (w.heap.size+1+1) u2 v2∧
 Duo ((((w.alloc (.cells #[u0,v0] 41)).alloc (.cells #[u1,v1] 41)).alloc (.cells #[u2,v2] 41)).alloc (.cells #[u3,v3] 41)) (w.heap.size+1+1+1) u3 v3∧
 Below w.heap.size w ((((w.alloc (.cells #[u0,v0] 41)).alloc (.cells #[u1,v1] 41)).alloc (.cells #[u2,v2] 41)).alloc (.cells #[u3,v3] 41)):=by
 have al:∀(W:World) (o:Obj),Below W.heap.size W (W.alloc o):=fun W o=>aW.alloc aK o;refine ⟨((((Duo.new w u0 v0).aB (al _ _)).aB (al _ _)).aB (al _ _)),?_,?_,?_,?_⟩
 . have:=((Duo.new (w.alloc (.cells #[u0,v0] 41)) u1 v1).aB (al _ (.cells #[u2,v2] 41))).aB (al _ (.cells #[u3,v3] 41))
   rw [aJ] at this;exact this
 . have:=(Duo.new ((w.alloc (.cells #[u0,v0] 41)).alloc (.cells #[u1,v1] 41)) u2 v2).aB (al _ (.cells #[u3,v3] 41))
   rw [aJ,aJ] at this;exact this
 . have:=Duo.new (((w.alloc (.cells #[u0,v0] 41)).alloc (.cells #[u1,v1] 41)).alloc (.cells #[u2,v2] 41)) u3 v3
   rw [aJ,aJ,aJ] at this;exact this
 . exact (((al w _).alloc (by simp) _).alloc (by simp;omega) _).alloc (by simp;omega) _
def Qx (A B:Option Addr) (n m c d:Nat) (xs ys:List Int) (w:World) (hx:aD w A n xs) (hy:aD w B m ys) (hn:n<=9223372036854775807) (hm:m<=9223372036854775807) (r:Bool) (hr:(xs=ys)↔r=true):
 aC 102 #[.slice A n c,.slice B m d] w fun e w'=>e=.returned (.bool r)∧∃k,w'=w.drewN k:=by
 have Hl:=aA hx.len;have Hm:=aA hy.len;have Hr:=aA hr;clear hr;by_cases hnm:n=m
 . subst hnm
   have hne:((n:Int) !=(n:Int))=false:=by simp
   go_enter func102,ntmps102
   go_wp2
   go_loopw [5] (fun i wr=>∃k q:Nat,k<=n∧i=.int .i64 k∧Hid (∀j,j<k->nth xs j=nth ys j)∧wr=w.drewN q) (fun i _=>n-(intOf i).toNat)
   case atStart=>exact ⟨0,0,by omega,rfl,(fun j hj=>absurd hj (by omega)),rfl⟩
   case round=>
    obtain ⟨k,q,hk,rfl,fP,rfl⟩:=hrel;by_cases hlt:k<n
    . obtain ⟨b,o,rfl,hb,hc⟩:=hx.at_ (by omega)
      obtain ⟨b',o',rfl,pL,hc'⟩:=hy.at_ (by omega);have JZ:=hc k hlt;have apx:=hc' k hlt;(have dI:(k:Int)<(n:Int):=by omega);by_cases hz:nth xs k=nth ys k
      . have Ko:(nth xs k !=nth ys k)=false:=by simp [hz]
        have Hz:=aA hz;clear hz;(go_wp2);go_quiet (fail)
        (go_wp2);go_roundw
        case rel=>exact ⟨k+1,_,by omega,by go_num,(fun j hj=>if e:j=k then e ▸ Hz.o else fP.o j (by omega)),rfl⟩
        case measure=>simp [intOf];omega
      . have Ko:(nth xs k !=nth ys k)=true:=by simp [hz]
        have Hz:Hid (r=false):=by
         show r=false;cases hrr:r with
         | false=>rfl
         | true=>exact absurd (Hr.o.2 hrr) (fun e=>hz (by rw [e]))
        clear hz;(go_wp2);go_quiet (fail)
        (go_wp2);go_ret;exact ⟨AX Hz.o.symm,_,fJ _ _ _⟩
    . have Hz:=aA (Hr.o.1 (oT (xs:=xs) (ys:=ys) (by rw [Hl.o,Hm.o]) (fun i hi=>fP.o i (by have:=Hl.o;omega))))
      (go_wp2);go_ret;exact ⟨AX Hz.o.symm,_,rfl⟩
 . have hne:((n:Int) !=(m:Int))=true:=by simp;omega
   have Hz:Hid (r=false):=by
    show r=false;cases hrr:r with
    | false=>rfl
    | true=>exact absurd (Hr.o.2 hrr) (fun e=>hnm (by rw [<- Hl.o,<- Hm.o,e]))
   go_enter func102,ntmps102
   go_wp2
   go_ret;exact ⟨AX Hz.o.symm,0,rfl⟩
def ayL (w:World) (u0 v0 u1 v1:Value):
 Duo ((w.alloc (.cells #[u0,v0] 41)).alloc (.cells #[u1,v1] 41)) w.heap.size u0 v0∧
 Duo ((w.alloc (.cells #[u0,v0] 41)).alloc (.cells #[u1,v1] 41)) (w.heap.size+1) u1 v1∧
 Below w.heap.size w ((w.alloc (.cells #[u0,v0] 41)).alloc (.cells #[u1,v1] 41)):=by
 have al:∀(W:World) (o:Obj),Below W.heap.size W (W.alloc o):=fun W o=>aW.alloc aK o;refine ⟨(Duo.new w u0 v0).aB (al _ _),?_,(al w _).alloc (by simp) _⟩;have:=Duo.new (w.alloc (.cells #[u0,v0] 41)) u1 v1;rw [aJ] at this;exact this
def Qw (s t:Bool) (A B:Option Addr) (n m c d:Nat) (xs ys:List Int) (w:World) (hx:aD w A n xs) (hy:aD w B m ys) (hn:n<=9223372036854775807) (hm:m<=9223372036854775807) (r:Bool) (hr:(s=t∧xs=ys)↔r=true):
 aC 69 #[.agg #[.bool s,.slice A n c],.agg #[.bool t,.slice B m d]] w fun e w'=>e=.returned (.bool r)∧Below w.heap.size w w':=by
 obtain ⟨da,db,b2⟩:=ayL w (.bool s) (.slice A n c) (.bool t) (.slice B m d);have a0:=da.cell0;have a1:=da.cell1;have e0:=db.cell0;have e1:=db.cell1;by_cases hst:s=t
 . have aeH:(s==t)=true:=by simp [hst]
   have Cs:=aA (fun W (h:Below w.heap.size w W)=>Qx A B n m c d xs ys W (hx.aB h) (hy.aB h) hn hm r ⟨fun e=>hr.1 ⟨hst,e⟩,fun e=>(hr.2 e).2⟩);clear hr hx hy hst da db;go_enter func69,ntmps69
   go_wp2_with fail
   refine (Cs.o _ (by exact b2)).mono ?_;rintro e w1 ⟨rfl,k,hk⟩;have hb:=below_drewN b2 k;rw [<- hk] at hb;clear hk;go_wp2_with fail
   go_ret;exact ⟨rfl,hb⟩
 . have aeH:(s==t)=false:=by simp [hst]
   have Hz:Hid (r=false):=by
    show r=false;cases hrr:r with
    | false=>rfl
    | true=>exact absurd (hr.2 hrr).1 hst
   clear hr hx hy hst da db;go_enter func69,ntmps69
   go_wp2_with fail
   go_ret;exact ⟨AX Hz.o.symm,b2⟩
def ED (A B:Option Addr) (n c d:Nat) (xs ys:List Int) (w:World) (hx:Ints w A n xs) (hy:Ints w B n ys) (hn:n<=9223372036854775807):
 aC 65 #[.slice A n c,.slice B n d] w fun e w'=>e=.returned (.int .i64 (rV xs ys))∧∃k,w'=w.drewN k:=by
 have Hl:=aA hx.len;have Hm:=aA hy.len;go_enter func65,ntmps65
 go_wp2
 go_loopw [5] (fun i wr=>∃k q:Nat,k<=n∧i=.int .i64 k∧Hid (∀j,j<k->nth xs j=nth ys j)∧wr=w.drewN q) (fun i _=>n-(intOf i).toNat)
 case atStart=>exact ⟨0,0,by omega,rfl,(fun j hj=>absurd hj (by omega)),rfl⟩
 case round=>
  obtain ⟨k,q,hk,rfl,fP,rfl⟩:=hrel;by_cases hlt:k<n
  . obtain ⟨b,o,rfl,hb,hc⟩:=hx.at_ (by omega)
    obtain ⟨b',o',rfl,pL,hc'⟩:=hy.at_ (by omega);have JZ:=hc k hlt;have apx:=hc' k hlt;(have dI:(k:Int)<(n:Int):=by omega);rcases Vd (nth xs k) (nth ys k) with h | h | h
    . have Hz:Hid (rV xs ys= -1):=GF (Gv (i:=k) (by rw [Hl.o,Hm.o]) fP.o (by rw [Hl.o];exact hlt) h)
      (go_wp2);go_quiet (fail)
      (go_wp2);go_ret;exact ⟨oN Hz.o.symm,_,fJ _ _ _⟩
    . have iC:¬nth xs k<nth ys k:=by omega
      (have iP:¬nth ys k<nth xs k:=by omega);have Hz:=aA h;clear h;(go_wp2);go_quiet (fail)
      (go_wp2);go_quiet (fail)
      (go_wp2);go_roundw
      case rel=>exact ⟨k+1,_,by omega,by go_num,(fun j hj=>if e:j=k then e ▸ Hz.o else fP.o j (by omega)),by first | rfl | exact fJ _ _ _ | (rw [fJ,fJ])⟩
      case measure=>simp [intOf];omega
    . have iC:¬nth xs k<nth ys k:=by omega
      have Hz:Hid (rV xs ys=1):=M3 (Gv (i:=k) (by rw [Hl.o,Hm.o]) (fun j hj=>(fP.o j hj).symm) (by rw [Hm.o];exact hlt) h);(go_wp2);go_quiet (fail)
      (go_wp2);go_quiet (fail)
      (go_wp2);go_ret;exact ⟨oN Hz.o.symm,_,by first | rfl | exact fJ _ _ _ | (rw [fJ,fJ])⟩
  . have Hz:Hid (rV xs ys=0):=by
     have:xs=ys:=oT (xs:=xs) (ys:=ys) (by rw [Hl.o,Hm.o]) (fun i hi=>fP.o i (by have:=Hl.o;omega));rw [this];exact yS ys
    (go_wp2);go_ret;exact ⟨oN Hz.o.symm,_,rfl⟩
def N9 (A B:Option Addr) (n c d:Nat) (L:List TV) (w:World) (hx:jM w A n L) (hy:jM w B n L) (hn:n<=100000000):
 aC 31 #[.slice A n c,.slice B n d] w fun e w'=>e=.returned (.bool true)∧Below w.heap.size w w':=by
 have hne:((n:Int) !=(n:Int))=false:=by simp
 have hL:=aA hx.len;go_enter func31,ntmps31
 go_wp2
 go_loopw [5] (fun i wr=>∃k:Nat,k<=n∧i=.int .i64 k∧Below w.heap.size w wr) (fun i _=>n-(intOf i).toNat)
 case atStart=>exact ⟨0,by omega,rfl,aW⟩
 case round=>
  obtain ⟨k,hk,rfl,bD⟩:=hrel;obtain ⟨wo,rfl⟩:∃wo:World,wo=wr:=⟨_,rfl⟩;by_cases hlt:k<n
  . obtain ⟨b,o,rfl,hb,hc⟩:=hx.at_ (by omega)
    obtain ⟨b',o',rfl,pL,hc'⟩:=hy.at_ (by omega);(have D7:k<L.length:=by rw [hL.o];exact hlt);obtain ⟨Ai,ci,Ei,ei,e1,e2,e3,e4,e5,e6,e7,e8,e9⟩:=hc k D7;obtain ⟨Bi,di,Fi,fi,g1,g2,g3,g4,g5,g6,g7,g8,g9⟩:=hc' k D7;clear hc hc';generalize L[k]=x at*
    obtain ⟨⟨s,xs⟩,ps⟩:=x;simp only at e1 e2 e3 e4 e6 e8 e9 g1 g2 g3 g4 g6 g8 g9;(have dI:(k:Int)<(n:Int):=by omega);(have wP:(0:Int)<=(k:Int):=by omega);(have hz:((ps.length:Int) !=(ps.length:Int))=false:=by simp);rw [aq 3 k] at e1 e2 e3 g1 g2 g3;rw [<- j9] at e2 e3 g2 g3;have Cc:=aA (fun W (h:Below w.heap.size w W)=>ED Ei Fi ps.length ei fi ps ps W (e9.aB h) (g9.aB h) (by omega));have Cs:=aA (fun W (h:Below w.heap.size w W)=>Qw s s Ai Bi xs.length xs.length ci di xs xs W (e8.aB h) (g8.aB h) (by omega) (by omega) true ⟨fun _=>rfl,fun _=>⟨rfl,rfl⟩⟩);rw [yS] at Cc;clear e8 e9 g8 g9 hx hy;have keep:Hid (∀W,Below w.heap.size w W->W.cell? ⟨b,o+k*3,none⟩=some (.bool s)∧W.cell? ⟨b,o+k*3+1,none⟩=some (.slice Ai xs.length ci)∧W.cell? ⟨b,o+k*3+2,none⟩=some (.slice Ei ps.length ei)∧W.cell? ⟨b',o'+k*3,none⟩=some (.bool s)∧W.cell? ⟨b',o'+k*3+1,none⟩=some (.slice Bi xs.length di)∧W.cell? ⟨b',o'+k*3+2,none⟩=some (.slice Fi ps.length fi)):=fun W hW=>
     ⟨(hW.cell (p:=⟨b,o+k*3,none⟩) hb).trans e1,(hW.cell (p:=⟨b,o+k*3+1,none⟩) hb).trans e2,(hW.cell (p:=⟨b,o+k*3+2,none⟩) hb).trans e3,(hW.cell (p:=⟨b',o'+k*3,none⟩) pL).trans g1,(hW.cell (p:=⟨b',o'+k*3+1,none⟩) pL).trans g2,(hW.cell (p:=⟨b',o'+k*3+2,none⟩) pL).trans g3⟩
    obtain ⟨k1,k2,k3,k4,k5,k6⟩:=keep.o wo bD;clear e1 e2 e3 g1 g2 g3;(go_wp2);go_region_held3 (fun W=>W.cell? ⟨b,o+k*3,none⟩=some (.bool s)∧W.cell? ⟨b,o+k*3+1,none⟩=some (.slice Ai xs.length ci)∧W.cell? ⟨b,o+k*3+2,none⟩=some (.slice Ei ps.length ei)∧W.cell? ⟨b',o'+k*3,none⟩=some (.bool s)∧W.cell? ⟨b',o'+k*3+1,none⟩=some (.slice Bi xs.length di)∧W.cell? ⟨b',o'+k*3+2,none⟩=some (.slice Fi ps.length fi))
     (first | go_keep | exact keep.o _ bD.drew | exact keep.o _ ah | exact keep.o _ iU)
     (first
       | (go_at_call 65;refine (Cc.o _ bD.drew).mono ?_;rintro e w1 ⟨rfl,kk,X9⟩;have ah:Below w.heap.size w w1:=(by rw [X9];exact below_drewN bD.drew kk);clear X9)
       | (go_at_call 69;refine (Cs.o _ ah).mono ?_;rintro e w2 ⟨rfl,qq⟩;have iU:Below w.heap.size w w2:=ah.tm qq))
    (go_wp2);go_roundw
    case rel=>exact ⟨k+1,by omega,by go_num,iU⟩
    case measure=>simp [intOf];omega
  . go_wp2
    go_ret;exact ⟨rfl,bD⟩
def Tx (x:Int):Prop:=0<=x∧x<=1000
def Gu (x:Int) (w:World) (h:Tx x):aC 49 #[.int .i64 x] w fun e w'=>e=.returned (.bool false)∧w=w':=by
 have h1:¬x<0:=by have:=h.1;omega
 have h2:¬1000<x:=by have:=h.2;omega
 clear h;go_enter func49,ntmps49
 go_wp2
 go_ret;exact ⟨rfl,rfl⟩
def RV (x:Int) (w:World) (h:¬Tx x):aC 49 #[.int .i64 x] w fun e w'=>e=.returned (.bool true)∧w=w':=by
 by_cases h1:x<0
 . clear h
   go_enter func49,ntmps49
   go_wp2
   go_ret;exact ⟨rfl,rfl⟩
 . have h2:1000<x:=by unfold Tx at h;omega
   clear h;go_enter func49,ntmps49
   go_wp2
   go_ret;exact ⟨rfl,rfl⟩
def Wt (A:Option Addr) (n c:Nat) (xs:List Int) (w:World) (hx:Ints w A n xs) (hn:n<=9223372036854775807) (h:∀i,i<n->Tx (nth xs i)):
 aC 83 #[.slice A n c,.func (.func 49) #[] #[]] w fun e w'=>e=.returned (.int .i64 (-1))∧w=w':=by
 have H:=aA h;clear h;go_enter func83,ntmps83
 go_wp2
 go_loopw [8] (fun i wr=>∃k:Nat,k<=n∧i=.int .i64 k∧w=wr) (fun i _=>n-(intOf i).toNat)
 case atStart=>exact ⟨0,by omega,rfl,rfl⟩
 case round=>
  obtain ⟨k,hk,rfl,rfl⟩:=hrel;by_cases hlt:k<n
  . obtain ⟨b,o,rfl,hb,hc⟩:=hx.at_ (by omega)
    have JZ:=hc k hlt;(have dI:(k:Int)<(n:Int):=by omega);(go_wp2_with fail);refine (Gu (nth xs k) w (H.o k hlt)).mono ?_;rintro e w' ⟨rfl,rfl⟩;(go_wp2);go_roundw
    case rel=>exact ⟨k+1,by omega,by go_num,trivial⟩
    case measure=>simp [intOf];omega
  . have dI:¬(k:Int)<(n:Int):=by omega
    (go_wp2);go_ret;exact ⟨rfl,rfl⟩
def Wu (A:Option Addr) (n c:Nat) (xs:List Int) (w:World) (hx:Ints w A n xs) (hn:n<=9223372036854775807) (h:¬∀i,i<n->Tx (nth xs i)):
 aC 83 #[.slice A n c,.func (.func 49) #[] #[]] w fun e w'=>(∃j:Nat,e=.returned (.int .i64 (j:Int)))∧w=w':=by
 have H:=aA h;clear h;go_enter func83,ntmps83
 go_wp2
 go_loopw [8] (fun i wr=>∃k:Nat,k<=n∧i=.int .i64 k∧Hid (∀j,j<k->Tx (nth xs j))∧w=wr) (fun i _=>n-(intOf i).toNat)
 case atStart=>exact ⟨0,by omega,rfl,(fun j hj=>absurd hj (by omega)),rfl⟩
 case round=>
  obtain ⟨k,hk,rfl,fP,rfl⟩:=hrel;by_cases hlt:k<n
  . obtain ⟨b,o,rfl,hb,hc⟩:=hx.at_ (by omega)
    have JZ:=hc k hlt;(have dI:(k:Int)<(n:Int):=by omega);by_cases hz:Tx (nth xs k)
    . have Hz:=aA hz
      clear hz;(go_wp2_with fail);refine (Gu (nth xs k) w Hz.o).mono ?_;rintro e w' ⟨rfl,rfl⟩;(go_wp2);go_roundw
      case rel=>exact ⟨k+1,by omega,by go_num,(fun j hj=>if e:j=k then e ▸ Hz.o else fP.o j (by omega)),trivial⟩
      case measure=>simp [intOf];omega
    . have Hz:=aA hz
      clear hz;(go_wp2_with fail);refine (RV (nth xs k) w Hz.o).mono ?_;rintro e w' ⟨rfl,rfl⟩;(go_wp2);go_ret;exact ⟨⟨k,rfl⟩,rfl⟩
  . exact absurd (fun i hi=>fP.o i (by omega)) H.o
def BN (A:Option Addr) (n c:Nat) (xs:List Int) (w:World) (hx:Ints w A n xs) (hn:n<=9223372036854775807) (h:∀i,i<n->Tx (nth xs i)):
 aC 48 #[.slice A n c,.func (.func 49) #[] #[]] w fun e w'=>e=.returned (.bool false)∧w=w':=by
 have C:=aA (Wt A n c xs w hx hn h);clear hx h;go_enter func48,ntmps48
 go_wp2_with fail
 refine C.o.mono ?_;rintro e w' ⟨rfl,rfl⟩;go_wp2
 go_ret;exact ⟨rfl,rfl⟩
def MO (A:Option Addr) (n c:Nat) (xs:List Int) (w:World) (hx:Ints w A n xs) (hn:n<=9223372036854775807) (h:¬∀i,i<n->Tx (nth xs i)):
 aC 48 #[.slice A n c,.func (.func 49) #[] #[]] w fun e w'=>e=.returned (.bool true)∧w=w':=by
 have C:=aA (Wu A n c xs w hx hn h);clear hx h;go_enter func48,ntmps48
 go_wp2_with fail
 refine C.o.mono ?_;rintro e w' ⟨⟨j,rfl⟩,rfl⟩;have hj:(0:Int)<=(j:Int):=by omega
 go_wp2
 go_ret;exact ⟨rfl,rfl⟩
def OkT (n:Int) (t:TV):Prop:=(t.2.length:Int)=n∧∀i,i<t.2.length->Tx (nth t.2 i)
def Ja (n:Int) (L:List TV):Prop:=0<=n∧n<=6∧L.length<=4096∧∀i (h:i<L.length),OkT n L[i]
def ru (n:Int) (A:Option Addr) (m c:Nat) (L:List TV) (w:World) (hx:jM w A m L) (hL:Ja n L):
 aC 25 #[.int .i64 n,.slice A m c] w fun e w'=>e=.returned (.int .i64 0)∧Below w.heap.size w w':=by
 have hl:=hx.len;obtain ⟨h1,h2,h3,h4⟩:=hL;have h1':¬n<0:=by omega
 have h2':¬6<n:=by omega
 have h3':¬(4096:Int)<(m:Int):=by omega
 have H4:=aA h4;have Hl:=aA hl;clear h4 hl h1 h2;go_enter func25,ntmps25
 go_wp2
 go_loopw [20] (fun i wr=>∃k:Nat,k<=m∧i=.int .i64 k∧Below w.heap.size w wr) (fun i _=>m-(intOf i).toNat)
 case atStart=>exact ⟨0,by omega,rfl,aW⟩
 case round=>
  obtain ⟨k,hk,rfl,bD⟩:=hrel;obtain ⟨wo,rfl⟩:∃wo:World,wo=wr:=⟨_,rfl⟩;by_cases hlt:k<m
  . obtain ⟨b,o,rfl,hb,hc⟩:=hx.at_ (by omega)
    (have D7:k<L.length:=by rw [Hl.o];exact hlt);obtain ⟨Ai,ci,Ei,ei,e1,e2,e3,e4,e5,e6,e7,e8,e9⟩:=hc k D7;have lH:=H4.o k D7;clear hc;generalize L[k]=x at*
    obtain ⟨⟨s,xs⟩,ps⟩:=x;obtain ⟨o1,o2⟩:=lH;simp only at e1 e2 e3 e4 e6 e8 e9 o1 o2;(have dI:(k:Int)<(m:Int):=by omega);(have wP:(0:Int)<=(k:Int):=by omega);(have hz:((ps.length:Int) !=n)=false:=by simp [o1]);have k1:=(bD.cell (p:=⟨b,o+3*k,none⟩) hb).trans e1;have k2:=(bD.cell (p:=⟨b,o+(3*k+1),none⟩) hb).trans e2;have k3:=(bD.cell (p:=⟨b,o+(3*k+2),none⟩) hb).trans e3;rw [aq 3 k] at k1 k2 k3;rw [<- j9] at k2 k3;have Cc:=aA (fun W (h:Below w.heap.size w W)=>BN Ei ps.length ei ps W (e9.aB h) (by omega) o2);clear e8 e9 e1 e2 e3 o1 o2;(go_wp2_with fail);refine (Cc.o _ (by exact bD.alloc bD.size _)).mono ?_;rintro e w' ⟨rfl,rfl⟩;(go_wp2);go_roundw
    case rel=>exact ⟨k+1,by omega,by go_num,bD.alloc bD.size _⟩
    case measure=>simp [intOf];omega
  . have dI:¬(k:Int)<(m:Int):=by omega
    (go_wp2);go_ret;exact ⟨rfl,bD⟩
def Oz (n:Int) (A:Option Addr) (m c:Nat) (w:World) (h:n<0):
 aC 25 #[.int .i64 n,.slice A m c] w fun e w'=>e=.returned (.int .i64 1)∧Below w.heap.size w w':=by
 have hb:=Below.refl w.heap.size w;go_enter func25,ntmps25
 go_wp2
 go_ret;exact ⟨rfl,hb⟩
def Oy (n:Int) (A:Option Addr) (m c:Nat) (w:World) (h:6<n):
 aC 25 #[.int .i64 n,.slice A m c] w fun e w'=>e=.returned (.int .i64 1)∧Below w.heap.size w w':=by
 have h1:¬n<0:=by omega
 have hb:=Below.refl w.heap.size w;go_enter func25,ntmps25
 go_wp2
 go_ret;exact ⟨rfl,hb⟩
def Ox (n:Int) (A:Option Addr) (m c:Nat) (w:World) (h1:¬n<0) (h2:¬6<n) (h:(4096:Int)<(m:Int)):
 aC 25 #[.int .i64 n,.slice A m c] w fun e w'=>e=.returned (.int .i64 1)∧Below w.heap.size w w':=by
 have hb:=Below.refl w.heap.size w;go_enter func25,ntmps25
 go_wp2
 go_ret;exact ⟨rfl,hb⟩
def Ow (n:Int) (A:Option Addr) (m c:Nat) (L:List TV) (w:World) (hx:jM w A m L) (h1:0<=n) (h2:n<=6) (h3:m<=4096) (hL:¬∀i (h:i<L.length),OkT n L[i]):
 aC 25 #[.int .i64 n,.slice A m c] w fun e w'=>e=.returned (.int .i64 1)∧Below w.heap.size w w':=by
 have hl:=hx.len;have h1':¬n<0:=by omega
 have h2':¬6<n:=by omega
 have h3':¬(4096:Int)<(m:Int):=by omega
 have H4:=aA hL;have Hl:=aA hl;clear hL hl h1 h2;go_enter func25,ntmps25
 go_wp2
 go_loopw [20] (fun i wr=>∃k:Nat,k<=m∧i=.int .i64 k∧Hid (∀i (h:i<L.length),i<k->OkT n L[i])∧Below w.heap.size w wr) (fun i _=>m-(intOf i).toNat)
 case atStart=>exact ⟨0,by omega,rfl,(fun i h hj=>absurd hj (by omega)),aW⟩
 case round=>
  obtain ⟨k,hk,rfl,fP,bD⟩:=hrel;obtain ⟨wo,rfl⟩:∃wo:World,wo=wr:=⟨_,rfl⟩;by_cases hlt:k<m
  . obtain ⟨b,o,rfl,hb,hc⟩:=hx.at_ (by omega)
    (have D7:k<L.length:=by rw [Hl.o];exact hlt);obtain ⟨Ai,ci,Ei,ei,e1,e2,e3,e4,e5,e6,e7,e8,e9⟩:=hc k D7;clear hc;have Vu:Hid (OkT n L[k]->∀i (h:i<L.length),i<k+1->OkT n L[i]):=fun ht i h hi=>by
     rcases qz i k with hik | hik
     . exact fP.o i h hik
     . obtain rfl:i=k:=by omega
       exact ht
    clear fP;generalize L[k]=x at*
    obtain ⟨⟨s,xs⟩,ps⟩:=x;simp only at e1 e2 e3 e4 e6 e8 e9;(have dI:(k:Int)<(m:Int):=by omega);(have wP:(0:Int)<=(k:Int):=by omega);have k1:=(bD.cell (p:=⟨b,o+3*k,none⟩) hb).trans e1;have k2:=(bD.cell (p:=⟨b,o+(3*k+1),none⟩) hb).trans e2;have k3:=(bD.cell (p:=⟨b,o+(3*k+2),none⟩) hb).trans e3;rw [aq 3 k] at k1 k2 k3;rw [<- j9] at k2 k3;have E9:=aA e9;clear e8 e9 e1 e2 e3;by_cases o1:(ps.length:Int)=n
    . have hz:((ps.length:Int) !=n)=false:=by simp [o1]
      by_cases o2:∀i,i<ps.length->Tx (nth ps i)
      . have Cc:=aA (fun W (h:Below w.heap.size w W)=>BN Ei ps.length ei ps W (E9.o.aB h) (by omega) o2)
        have JN:=aA (Vu.o ⟨o1,o2⟩);clear o1 o2 Vu;(go_wp2_with fail);refine (Cc.o _ (by exact bD.alloc bD.size _)).mono ?_;rintro e w' ⟨rfl,rfl⟩;(go_wp2);go_roundw
        case rel=>exact ⟨k+1,by omega,by go_num,JN,bD.alloc bD.size _⟩
        case measure=>simp [intOf];omega
      . have Cc:=aA (fun W (h:Below w.heap.size w W)=>MO Ei ps.length ei ps W (E9.o.aB h) (by omega) o2)
        clear o1 o2 Vu;(go_wp2_with fail);refine (Cc.o _ (by exact bD.alloc bD.size _)).mono ?_;rintro e w' ⟨rfl,rfl⟩;(go_wp2);go_ret;exact ⟨rfl,bD.alloc bD.size _⟩
    . have hz:((ps.length:Int) !=n)=true:=by simp [o1]
      clear o1 Vu;(go_wp2);go_ret;exact ⟨rfl,bD.alloc bD.size _⟩
  . exact absurd (fun i h=>fP.o i h (by rw [Hl.o] at h;omega)) H4.o
open Classical in
noncomputable def Xl (n:Int) (L:List TV):Int:=if Ja n L then 0 else 1
def qF {L:List TV}(h:Ja n L):Xl n L=0:=aM h
def vZ {L:List TV}(h:¬Ja n L):Xl n L=1:=af h
def RX (n:Int) (A:Option Addr) (m c:Nat) (L:List TV) (w:World) (hx:jM w A m L):
 aC 25 #[.int .i64 n,.slice A m c] w fun e w'=>e=.returned (.int .i64 (Xl n L))∧Below w.heap.size w w':=by
 by_cases h:Ja n L
 . rw [qF h];exact ru n A m c L w hx h
 . rw [vZ h]
   by_cases h1:n<0
   . exact Oz n A m c w h1
   . by_cases h2:6<n
     . exact Oy n A m c w h2
     . by_cases h3:(4096:Int)<(m:Int)
       . exact Ox n A m c w h1 h2 h3
       . exact Ow n A m c L w hx (by omega) (by omega) (by omega) (fun h4=>h ⟨by omega,by omega,by rw [hx.len];omega,h4⟩)
def Tw (n:Int) (L:List TV) (w:World) (e:Ending) (w':World):Prop:=e=.returned (.int .i64 (Xl n L))∧w=w'
def Fo {L:List TV}(w:World) (h:¬Ja n L):Tw n L w (.returned (.int .i64 1)) w:=⟨by rw [vZ h],rfl⟩
def Ye {L:List TV}(w:World) (h:Ja n L):Tw n L w (.returned (.int .i64 0)) w:=⟨by rw [qF h],rfl⟩
def sO (n:Int) (A:Option Addr) (m c:Nat) (L:List TV) (w:World) (hx:jM w A m L):
 aC 9 #[.int .i64 n,.slice A m c] w (Tw n L w):=by
 have hl:=aA hx.len;by_cases h1:n<0
 . have F:=aA (Fo (n:=n) (L:=L) w (fun h=>by have:=h.1;omega))
   clear hx;go_enter func9,ntmps9
   go_wp2
   go_ret;exact F.o
 by_cases h2:6<n
 . have F:=aA (Fo (n:=n) (L:=L) w (fun h=>by have:=h.2.1;omega))
   clear hx;go_enter func9,ntmps9
   go_wp2
   go_ret;exact F.o
 by_cases h3:(4096:Int)<(m:Int)
 . have F:=aA (Fo (n:=n) (L:=L) w (fun h=>by have:=h.2.2.1;have:=hl.o;omega))
   clear hx;go_enter func9,ntmps9
   go_wp2
   go_ret;exact F.o
 have Fn:Hid (∀k (h:k<L.length),¬OkT n L[k]->Tw n L w (.returned (.int .i64 1)) w):=fun k h hk=>Fo w (fun ho=>hk (ho.2.2.2 k h));have Fy:Hid ((∀k (h:k<L.length),OkT n L[k])->Tw n L w (.returned (.int .i64 0)) w):=fun h=>Ye w ⟨by omega,by omega,by have:=hl.o;omega,h⟩;obtain ⟨nn,rfl⟩:∃nn:Nat,n=(nn:Int):=⟨n.toNat,by omega⟩;have hn6:nn<=6:=by omega
 clear h1 h2;have h1:¬(nn:Int)<0:=by omega
 have h2:¬(6:Int)<(nn:Int):=by omega
 go_enter func9,ntmps9
 go_wp2_with fail
 go_loopw [5] (fun i wr=>∃k:Nat,k<=m∧i=.int .i64 k∧w=wr∧Hid (∀j (h:j<L.length),j<k->OkT (nn:Int) L[j])) (fun i _=>m-(intOf i).toNat)
 case atStart=>exact ⟨0,by omega,rfl,rfl,fun j _ h=>absurd h (by omega)⟩
 case round=>
  obtain ⟨k,hk,rfl,rfl,hdone⟩:=hrel;by_cases hlt:k<m
  . obtain ⟨b,o,rfl,hb,hc⟩:=hx.at_ (by omega)
    (have D7:k<L.length:=by rw [hl.o];exact hlt);obtain ⟨Ai,ci,Ei,ei,e1,e2,e3,e4,e5,e6,e7,e8,e9⟩:=hc k D7;(have dI:(k:Int)<(m:Int):=by omega);(have wP:(0:Int)<=(k:Int):=by omega);rw [aq 3 k] at e3;rw [<- j9] at e3;have Fnk:=aA (Fn.o k D7);have hstep:Hid (OkT (nn:Int) L[k]->∀j (h:j<L.length),j<k+1->OkT (nn:Int) L[j]):=fun h1 j hj hjk=>by
     by_cases e:j=k
     . subst e;exact h1
     . exact hdone.o j hj (by omega)
    clear hc e1 e2 e8;generalize L[k]=x at*
    obtain ⟨⟨s,xs⟩,ps⟩:=x;simp only at e3 e6 e9;have E9:=aA e9;clear e9;by_cases o1:ps.length=nn
    . have hz:((ps.length:Int) !=(nn:Int))=false:=by simp [o1]
      have O1:=aA o1;clear o1;(go_wp2_with fail);go_loopw [6] (fun i wr=>∃j:Nat,j<=nn∧i=.int .i64 j∧w=wr∧Hid (∀j',j'<j->Tx (nth ps j'))) (fun i _=>nn-(intOf i).toNat)
      case atStart=>exact ⟨0,by omega,rfl,rfl,fun j h=>absurd h (by omega)⟩
      case round=>
       obtain ⟨j,hj,rfl,rfl,tj⟩:=hrel;by_cases hjl:j<nn
       . obtain ⟨be,oe,rfl,qw,hce⟩:=E9.o.at_ (by have:=O1.o;omega)
         have Ks:=hce j (by have:=O1.o;omega);(have aax:(j:Int)<(nn:Int):=by omega);(have hjp:(j:Int)<(ps.length:Int):=by have:=O1.o;omega);(have Qd:(0:Int)<=(j:Int):=by omega);have hst:Hid (Tx (nth ps j)->∀j',j'<j+1->Tx (nth ps j')):=fun h1 j' hj'=>by
          by_cases e:j'=j
          . subst e;exact h1
          . exact tj.o j' (by omega)
         have apG:Hid (¬Tx (nth ps j)->Tw (nn:Int) L w (.returned (.int .i64 1)) w):=fun h=>Fnk.o (fun ho=>h (ho.2 j (by have:=O1.o;show j<ps.length;omega)));clear hce;generalize nth ps j=y at*
         by_cases y1:y<0
         . have F:=aA (apG.o (fun h=>by have:=h.1;omega))
           (go_wp2_with fail);go_ret;exact F.o
         . by_cases y2:1000<y
           . have F:=aA (apG.o (fun h=>by have:=h.2;omega))
             (go_wp2_with fail);go_ret;exact F.o
           . have hn2:=aA (hst.o ⟨by omega,by omega⟩)
             (go_wp2_with fail);go_roundw
             case rel=>exact ⟨j+1,by omega,by go_num,(by first | trivial | rfl),hn2⟩
             case measure=>simp [intOf];omega
       . have hjn:nn=j:=by omega
         have hn3:Hid (∀j' (h:j'<L.length),j'<k+1->OkT (nn:Int) L[j']):=hstep.o ⟨by show ((ps.length:Nat):Int)=_;rw [O1.o],fun i hi=>tj.o i (by have:=O1.o;have hi:i<ps.length:=hi;omega)⟩;(have aax:¬(j:Int)<(nn:Int):=by omega);clear hjn;(go_wp2_with fail);go_roundw
         case rel=>exact ⟨k+1,by omega,by go_num,(by first | trivial | rfl),hn3⟩
         case measure=>simp [intOf];omega
    . have hz:((ps.length:Int) !=(nn:Int))=true:=by simp;omega
      have F:Hid (Tw (nn:Int) L w (.returned (.int .i64 1)) w):=Fnk.o (fun ho=>o1 (by have:((ps.length:Nat):Int)=(nn:Int):=ho.1;omega));clear o1;(go_wp2_with fail);go_ret;exact F.o
  . have F:=aA (Fy.o (fun j hj=>hdone.o j hj (by have:=hl.o;omega)))
    (have dI:¬(k:Int)<(m:Int):=by omega);(go_wp2_with fail);go_ret;exact F.o
