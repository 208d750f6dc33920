import Derived.Test.YtehcoffbiplphaaGreatHDvB
import Derived.Test.YtehcoffbiplphaaGreatHZks
set_option linter.all false
set_option maxHeartbeats 16000000
set_option maxRecDepth 100000
namespace Go.Proofs.YtehcoffbiplphaaGreat
open Go.Proofs.Tryz
open Go.RowKit
variable {ys xs qs rs:List Int} {n:Nat}
def EI (xs:List Int) (k i:Nat):nth (xs.drop k) i=nth xs (k+i):=by unfold nth;simp [List.getD]
def IK {w w':World} {gu gq:Nat}(h:Only (fun k=>w.heap.size<=k) w w'):Only (fun j=>j=gu∨j=gq) w w':=⟨h.os,h.tape,h.output,h.size,fun k hk _=>h.block k hk (by omega)⟩
def Af (w:World) (n X Y:Nat) (e:Ending) (w':World):Prop:=
 ∃qs rs A1 k1 c1 A2 k2 c2,e=.returned (.tuple #[.slice A1 k1 c1,.slice A2 k2 c2,.int .i64 0])∧bY qs∧bY rs∧limbs qs=X / Y∧limbs rs=X % Y∧k1<=n∧k2<=n∧k1<=c1∧c1<=9223372036854775807∧k2<=c2∧c2<=9223372036854775807∧aD w' A1 k1 qs∧aD w' A2 k2 rs∧Below w.heap.size w w'
def ZP (h:bY ys) (h2:2<=ys.length) {k:Nat}(hk:Lib.bitLen (nth ys (ys.length-1)).toNat=k):0<k∧k<=64∧limbs ys<2^(64*(ys.length-1)+k):=by
 have ht:=h.2 (by omega);have hb:=h.1 (ys.length-1);have h1:=EM (x:=(nth ys (ys.length-1)).toNat) (by omega);rw [hk] at h1;have ayq:k<=64:=by rw [<- hk];exact Lib.bitLen_le _ 64 (by omega) (by omega)
 refine ⟨?_,ayq,?_⟩
 . rcases jM k with h0 | h0
   . rw [h0] at h1;omega
   . exact h0
 . have e1:=nV (xs:=ys) (k:=ys.length-1) (by omega)
   rw [show ys.length-1+1=ys.length by omega,L4] at e1;have h3:=dc (h.1.take (ys.length-1));rw [cQ,oz (by omega)] at h3;have h4:2^(64*(ys.length-1))*((nth ys (ys.length-1)).toNat+1)<=2^(64*(ys.length-1))*2^k:=bn _ h1;rw [<- iD,ak,bl] at h4;omega
def Ko {xs:List Int}(h:bY xs) (h1:limbs xs<2^(64*n)):xs.length<=n:=by
 rcases jM xs.length with h0 | h0
 . omega
 . have h2:=h.low h0
   by_cases hl:xs.length<=n
   . exact hl
   . exfalso
     have:2^(64*n)<=2^(64*(xs.length-1)):=fP (by omega) (by omega);omega
def usize:(prog.info? 38).map (·.size)=some 1:=by kernel_rfl
def aas (A B:Option Addr) (n m c d:Nat) (xs ys:List Int) (w:World) (hx:aD w A n xs) (hy:aD w B m ys) (jV:n<=c) (hc:c<=9223372036854775807) (nk:m<=d) (hd:d<=9223372036854775807) (hn:n<=3900000000000) (hm:m<=3900000000000) (h2:2<=cU ys m) (mj:limbs ys<=limbs xs):
 aB 82 #[.slice A n c,.slice B m d] w (Af w (n+1) (limbs xs) (limbs ys)):=by
 obtain ⟨i0,hi,jE,jD,jJ⟩:=eG fN;have kR:=hx.len;have wM:=hy.len;have l1:=cS xs n;have l2:=cS ys m;obtain ⟨p1,p2⟩:=bF hx.ok kR;obtain ⟨p3,p4⟩:=bF hy.ok wM;have C1:=aA (cH A n c xs w hx jV hc);have C2:=aA (cH B m d ys w hy nk hd);have Hx:=aA (hx.take l1);have Hy:=aA (hy.take l2);have Cc:=aA (yZ A B (cU xs n) (cU ys m) c d _ _ w Hx.o Hy.o (by omega) hc (by omega) hd (by omega) (by omega));have YE:¬ji (limbs (xs.take (cU xs n))) (limbs (ys.take (cU ys m)))<0:=by
  rw [p2,p4];unfold ji;rw [aY (by omega)];split<;>omega
 have HXv:=aA p2;have HYv:=aA p4;have HXp:=aA p1;have HYp:=aA p3;have Hx0:=aA Hx.o.len;have Hy0:=aA Hy.o.len;clear hx hy kR wM p1 p2 p3 p4;rw [<- HXv.o,<- HYv.o];have agf:Hid (limbs (ys.take (cU ys m))<=limbs (xs.take (cU xs n))):=by rw [HXv.o,HYv.o];exact mj
 clear HXv HYv mj;generalize cU xs n=u at*
 generalize cU ys m=v at*
 generalize xs.take u=us at*
 generalize ys.take v=vs at*
 clear xs ys
 obtain ⟨kb,hkb⟩:∃k,Lib.bitLen (nth vs (vs.length-1)).toNat=k:=⟨_,rfl⟩;obtain ⟨t1,t2,t3⟩:=ZP HYp.o (by rw [Hy0.o];exact h2) hkb;rw [Hy0.o] at hkb t3;have abf:=HYp.o.1 (v-1);have EW:=HYp.o.low (by rw [Hy0.o];omega);rw [Hy0.o] at EW;obtain ⟨b,o,rfl,hb,hcB⟩:=Hy.o.at_ (by omega);have hct:=hcB (v-1) (by omega);have Cz:=aA (fun W=>Lj (nth vs (v-1)) W abf.1 (by omega) kb hkb t2);obtain ⟨s,hs⟩:∃s,64-kb=s:=⟨_,rfl⟩;rw [hs] at Cz;have X9:s<64:=by omega
 have Cv:=aA (fun W (h:Below w.heap.size w W)=>PO (some ⟨b,o,none⟩) v d vs s W (Hy.o.aC h) (by omega) X9);have Cu:=aA (fun W (h:Below w.heap.size w W)=>PO A u c us s W (Hx.o.aC h) (by omega) X9);have HV:Hid (limbs vs*2^s<2^(64*v)):=by
  have h5:limbs vs*2^s<2^(64*(v-1)+kb)*2^s:=aja t3 (lJ s);rw [<- iD,show 64*(v-1)+kb+s=64*v by omega] at h5;exact h5
 have HL:Hid (2^(64*(v-1))<=limbs vs):=EW;have wN:IntKind.i64.wrap ((v:Int)-1)=((v-1:Nat):Int):=by rw [bP _ (by omega)];omega
 have RU:(0:Int)<=((v-1:Nat):Int):=by omega
 have Mz:((v-1:Nat):Int)<(v:Int):=by omega
 have Vy:((v:Int)==0)=false:=by simp;omega
 have akQ:((v:Int)==1)=false:=by simp;omega
 clear hcB abf EW t1 t2 t3 hkb hs jV nk;generalize nth vs (v-1)=tl at*
 obtain ⟨v1,hvv⟩:∃v1,v-1=v1:=⟨_,rfl⟩;rw [hvv] at wN RU Mz hct;have Hvv:=aA hvv;clear hvv;go_enter func82,ntmps82
 go_wp2_with fail
 refine C1.o.mono ?_;rintro e w' ⟨rfl,rfl⟩;go_wp2_with fail
 refine C2.o.mono ?_;rintro e w' ⟨rfl,rfl⟩;go_wp2_with fail
 refine Cc.o.mono ?_;rintro e w1 ⟨rfl,j1,Gd⟩;have cZ:Below w'.heap.size w' w1:=by subst Gd;exact below_drewN aU _
 have azj:=(cZ.cell (p:=⟨b,o+v1,none⟩) hb).trans hct;have Jo:=aA cZ;clear Gd hct cZ C1 C2 Cc;go_wp2_with fail
 refine (Cz.o _).mono ?_;rintro e w2 ⟨rfl,rfl⟩;clear Cz azj;go_wp2_with fail
 refine (Cv.o _ Jo.o).mono ?_;rintro e w2 ⟨ws,Av,kv,cv,rfl,f1,f2,f3,f4,f5,f6,f7,f8,f9⟩;have wI:Hid (Below w'.heap.size w' w2):=Jo.o.tm f9;go_wp2_with fail
 refine (Cu.o _ wI.o).mono ?_;rintro e w3 ⟨zs,Au,ku,cu,rfl,g1,g2,g3,g4,g5,g6,g7,g8,g9⟩;have RH:Hid (Below w'.heap.size w' w3):=wI.o.tm g9;clear Cv Cu
 have hkv:kv=v:=by
  have q1:=f6.len;have q2:=Ko f1 (n:=v) (by rw [f2];exact HV.o);by_cases q3:v<=kv
  . omega
  . exfalso
    have q4:=dc f1.1;have q5:2^(64*ws.length)<=2^(64*(v-1)):=fP (by omega) (by omega);have q6:limbs vs*1<=limbs vs*2^s:=bn _ (lJ s);have q7:=HL.o;omega
 subst hkv;obtain ⟨gv,hAv,ayD,aqM,ayC,ayB,_⟩:=xO f7 (by omega);subst hAv;have HWs:=aA (f6.aC g9);have Hwl:=aA f6.len;have HWv:=aA f2;have HWo:=aA f1.1;have hku:=g6.len;obtain ⟨kz,hkz⟩:∃kz,u+1-ku=kz:=⟨_,rfl⟩;have ez:IntKind.i64.wrap (IntKind.i64.wrap ((u:Int)+1)-(ku:Int))=(kz:Int):=by rw [bP ((u:Int)+1) (by omega),bP _ (by omega)];omega
 have ez1:IntKind.i64.wrap ((u:Int)+1)=((u+1:Nat):Int):=by rw [bP _ (by omega)];omega
 have ez2:IntKind.i64.wrap (((u+1:Nat):Int)-(ku:Int))=(kz:Int):=by rw [bP _ (by omega)];omega
 have ez3:IntKind.i64.wrap ((u:Int)+1-(ku:Int))=(kz:Int):=by rw [bP _ (by omega)];omega
 have Iq:(Value.int .u64 0).cells=#[Value.int .u64 0]:=rfl;have ayA:gv<w3.heap.size:=iE aqM g9.size;obtain ⟨va,wa,hra,aga,als,aya⟩:=qO (P:=prog) w3 w2.heap.size 39 3 39 38 i0 (.int .u64 0) .i64 .i64 underlying39 underlying3 hi jE jD jJ Iq rfl (.slice Au ku cu) ku (bI zs) g7 kz (by omega) g9.size;have Vw:bI zs++List.replicate kz (.int .u64 0)=bI (zs++List.replicate kz 0):=by rw [fH];congr 1;simp [bI]
 rw [Vw,show ku+kz=u+1 by omega] at aga;obtain ⟨Aw,cw,rfl⟩:=fD aga;obtain ⟨gu,hAw,aqO,aKQ,aqN,ayE,ex,hUx,aLd⟩:=xO aga (by omega);subst hAw;have Iu:∀k,(Value.slice Au ku cu).ownBlock=some k->w2.heap.size<=k:=fun k hk=>(g7.lt k hk).1;have HU:Hid (wZ wa gu (zs++List.replicate kz 0) ex):=hUx;have Hb4:Hid (Below w'.heap.size w' wa):=RH.o.grown als RH.o.size (fun k hk=>by have:=Iu k hk;have:=wI.o.size;omega);have atA:Hid (aD wa (some ⟨gv,0,none⟩) kv ws):=HWs.o.only (Only.fK als) (fun y hy hg=>by injection hy with hy;subst hy;have h5:w2.heap.size<=gv:=Iu _ hg;omega);have hne:gv≠gu:=by
  have:=aqO;omega
 have hUo:Hid (aQ (zs++List.replicate kz 0)):=yS g1.1 (by
  intro i;by_cases hi:i<(List.replicate kz (0:Int)).length
  . rw [fV hi,zQ];omega
  . rw [bw (by omega)];omega)
 have TJ:Hid ((zs++List.replicate kz (0:Int)).length=u+1):=by show _=_;rw [eC,fQ];omega
 have hUv:Hid (limbs (zs++List.replicate kz 0)=limbs us*2^s):=by show _=_;rw [iP,nW,jZ,ja,g2]
 have axp:=aA hra;clear hra Vw hUx aga als aya Iu HWs f1 f2 f3 f6 f7 f8 f9 g1 g2 g6 g7 g8 g9 hkz;generalize zs++List.replicate kz (0:Int)=U0 at*
 obtain ⟨L,hL⟩:∃L,u+1-kv=L:=⟨_,rfl⟩;have ayk:kv<=u:=by
  have q1:=dc HXp.o.1;have q2:=HL.o;have q3:=agf.o;rw [Hx0.o] at q1;by_cases q4:kv<=u
  . exact q4
  . exfalso
    have q5:2^(64*u)<=2^(64*(kv-1)):=fP (by omega) (by omega);omega
 have eL2:(u:Int)+1-(kv:Int)=(L:Int):=by omega
 have eL3:IntKind.i64.wrap (L:Int)=(L:Int):=bP _ (by omega);have eL4:IntKind.i64.wrap ((L:Int)-1)=(L:Int)-1:=bP _ (by omega);have KI:=iQ underlying39 hi jE jD jJ L (by omega) wa;have Aj:Hid (iJ (wa.alloc (.cells (bI (List.replicate L 0)).toArray 38)) wa.heap.size 38 (List.replicate L 0)):=iJ.new wa _ _;have hql:Hid ((List.replicate L (0:Int)).length=L):=fQ;have hqo:Hid (aQ (List.replicate L (0:Int))):=by
  intro i;by_cases hi:i<(List.replicate L (0:Int)).length
  . rw [fV hi,zQ];omega
  . rw [bw (by omega)];omega
 have hD0:Hid (uM (limbs us*2^s) (limbs vs*2^s) L U0 (List.replicate L 0)):=by
  have q1:=dc HXp.o.1;rw [Hx0.o] at q1;have q2:=uM.start (X:=limbs us) (Y:=limbs vs) (s:=s) (la:=u) (n:=kv) hUo.o hqo.o hUv.o q1 HL.o (by omega) (by omega) (by rw [hql.o,hL]);rw [hL] at q2;exact q2
 have uY:Below wa.heap.size wa (wa.alloc (.cells (bI (List.replicate L 0)).toArray 38)):=aU.alloc aL _;have HU1:=aA (HU.o.aC uY);have HW1:=aA (atA.o.aC uY);have wu:Hid (Below w'.heap.size w' (wa.alloc (.cells (bI (List.replicate L 0)).toArray 38))):=Hb4.o.tm uY;have rO:w'.heap.size<=gu:=by have:=wI.o.size;omega
 have azr:w'.heap.size<=wa.heap.size:=Hb4.o.size;have aqL:gv≠wa.heap.size:=by omega
 have aiu:gu≠wa.heap.size:=by omega
 go_wp2_with (at_builtin;go_must (refine Lib.wpList_append_run _ rfl _ _ _ _ rfl (.slice Au ku cu) (.int .i64 (kz:Int)) (by rfl) (by rfl) _ _ axp.o ?_))
 clear KI HU atA uY hqo hUo hUv;generalize List.replicate L (0:Int)=Q0 at*
 obtain ⟨wL,hwL⟩:∃W,wa.alloc (.cells (bI Q0).toArray 38)=W:=⟨_,rfl⟩;rw [hwL] at Aj HU1 HW1 wu ⊢;have HwL:=aA hwL;clear hwL;generalize wa.heap.size=gq at*
 have HLL:Hid (u+1-kv=L):=hL;have HK:Hid (kv<=u∧2<=kv∧u<=3900000000000):=⟨ayk,h2,by omega⟩;try clear hL
 try clear Hx
 try clear Hy
 try clear HXp
 try clear HYp
 try clear Jo
 try clear wI
 try clear RH
 try clear Hb4
 try clear hqo
 try clear HU
 try clear ayD
 try clear aqM
 try clear ayC
 try clear ayB
 try clear ayA
 try clear aqO
 try clear hku
 try clear ez
 try clear ez1
 try clear ez2
 try clear ez3
 try clear Iq
 go_loopw [16,17,18] (fun v16 _ _ wr=>∃(k:Nat) (Us Qs:List Int),k<=L∧v16=.int .i64 ((k:Int)-1)∧Hid (wZ wr gu Us ex)∧Hid (Us.length=u+1)∧Hid (iJ wr gq 38 Qs)∧Hid (Qs.length=L)∧Hid (uM (limbs us*2^s) (limbs vs*2^s) k Us Qs)∧Hid (Only (fun j=>j=gu∨j=gq) wL wr)) (fun v16 _ _ _=>(intOf v16+1).toNat)
 case atStart=>exact ⟨L,U0,Q0,aL,rfl,HU1,TJ,Aj,hql,hD0,Only.refl _ _⟩
 case round=>
  clear HU1 TJ Aj hql hD0;obtain ⟨k,Us,Qs,hk,rfl,hU,TJ,hQ,hQl,hD,hO⟩:=hrel;have hW:Hid (aD wr (some ⟨gv,0,none⟩) kv ws):=HW1.o.only hO.o (fun y hy hg=>by injection hy with hy;subst hy;exact hg.elim (fun e=>hne e) (fun e=>aqL e));cases k with
  | zero=>
    have e0:(((0:Nat):Int)-1)= -1:=rfl;rw [e0];have hQL:=hQ.o.limbs hD.o.qok;rw [hQl.o] at hQL;have HQL:=aA hQL;have hUL:=hU.o.limbs hD.o.ZN (k:=0) (m:=u+1) (by rw [TJ.o];omega);rw [Qw,iC (by rw [TJ.o];exact aL)] at hUL;have HUL:=aA hUL;have hdn:=aA (uM.done hD.o);have Yr:=aA (bF hD.o.qok hQl.o);have uG:=cS Qs L;have CS:=aA (afo (some ⟨gu,0,none⟩) (u+1) cw Us s wr hUL (by omega) X9 (by omega) aqN (by unfold maxLen at ayE;omega));have qp:Hid (Below w'.heap.size w' wr):=wu.o.trans (hO.o.below wu.o.size (fun j hj=>by rcases hj with hj | hj<;>omega));clear hQL hUL hQ hU hD hO hW;(go_wp2_with fail);refine (cH (some ⟨gq,0,none⟩) L L Qs wr HQL.o aL (by omega)).mono ?_;rintro e wx ⟨rfl,rfl⟩;(go_wp2_with fail);refine CS.o.mono ?_;rintro e wy ⟨rs,z1,z2,z3,A2,k2,c2,rfl,z4,z5,z6,_,z8⟩;have F:Hid (Af w' (n+1) (limbs us) (limbs vs) (.returned (.tuple #[.slice (some ⟨gq,0,none⟩) (cU Qs L) L,.slice A2 k2 c2,.int .i64 0])) wy):=
     ⟨_,rs,_,_,_,A2,k2,c2,rfl,Yr.o.1,z1,by rw [Yr.o.2];exact hdn.o.1,by rw [z2];exact hdn.o.2,by omega,by have:=z6.len;omega,uG,by omega,z4,z5,(HQL.o.take uG).aC z8,z6,qp.o.tm z8⟩
    clear z1 z2 z6 z8;go_wp2_with fail
    (try simp only [Exit.inBlock,Exit.then]);refine bK (Ni rfl _ _ _) rfl ?_
    exact F.o
  | succ k=>
    (have e0:(((k+1:Nat):Int)-1)=(k:Int):=by omega);rw [e0];(have hik:k+kv<=u:=by have:=HLL.o;omega);obtain ⟨i2,V6⟩:∃i,k+kv=i:=⟨_,rfl⟩;obtain ⟨i1,hi1⟩:∃i,k+kv-1=i:=⟨_,rfl⟩;obtain ⟨Ss,rT⟩:∃i,k+kv-2=i:=⟨_,rfl⟩;obtain ⟨i3,hi3⟩:∃i,k+kv+1=i:=⟨_,rfl⟩;obtain ⟨Sq,Gd⟩:∃i,kv-1=i:=⟨_,rfl⟩;obtain ⟨j0,RY⟩:∃i,kv-2=i:=⟨_,rfl⟩;(have b1:(k:Int)+(kv:Int)=(i2:Int):=by omega);(have b2:(i2:Int)-1=(i1:Int):=by omega);(have b3:(i2:Int)-2=(Ss:Int):=by omega);(have b4:(kv:Int)-1=(Sq:Int):=by omega);(have b5:(kv:Int)-2=(j0:Int):=by omega);(have b6:(i2:Int)+1=(i3:Int):=by omega);(have c1:(i2:Int)<(u:Int)+1:=by omega);(have c2:(i1:Int)<(u:Int)+1:=by omega);(have c3:(Ss:Int)<(u:Int)+1:=by omega);(have c4:(Sq:Int)<(kv:Int):=by omega);(have c5:(j0:Int)<(kv:Int):=by omega);(have c6:(0:Int)<=(i2:Int):=by omega);(have c7:(0:Int)<=(i1:Int):=by omega);(have c8:(0:Int)<=(Ss:Int):=by omega);(have c9:(0:Int)<=(Sq:Int):=by omega);(have c10:(0:Int)<=(j0:Int):=by omega);have d1:IntKind.i64.wrap (i2:Int)=(i2:Int):=bP _ (by omega);have d2:IntKind.i64.wrap (i1:Int)=(i1:Int):=bP _ (by omega);have d3:IntKind.i64.wrap (Ss:Int)=(Ss:Int):=bP _ (by omega);have d4:IntKind.i64.wrap (Sq:Int)=(Sq:Int):=bP _ (by omega);have d5:IntKind.i64.wrap (j0:Int)=(j0:Int):=bP _ (by omega);have d6:IntKind.i64.wrap (i3:Int)=(i3:Int):=bP _ (by omega);have q2:=hU.o.cell (i:=i2) (by rw [TJ.o];omega);have q1:=hU.o.cell (i:=i1) (by rw [TJ.o];omega);have q0:=hU.o.cell (i:=Ss) (by rw [TJ.o];omega);have azw:=hW.o.at_ (by omega);obtain ⟨gv',ov',alq,alp,alr⟩:=azw
    injection alq with alq
    injection alq with ayP alw
    subst ayP;subst alw;have q4:=alr Sq (by omega);have q5:=alr j0 (by omega);rw [bh] at q4 q5;obtain ⟨x2,GG⟩:∃x:Nat,nth Us i2=(x:Int):=⟨(nth Us i2).toNat,by have:=hD.o.ZN i2;omega⟩;obtain ⟨x1,CB⟩:∃x:Nat,nth Us i1=(x:Int):=⟨(nth Us i1).toNat,by have:=hD.o.ZN i1;omega⟩;obtain ⟨x0,LM⟩:∃x:Nat,nth Us Ss=(x:Int):=⟨(nth Us Ss).toNat,by have:=hD.o.ZN Ss;omega⟩;obtain ⟨y1,xZ⟩:∃x:Nat,nth ws Sq=(x:Int):=⟨(nth ws Sq).toNat,by have:=HWo.o Sq;omega⟩;obtain ⟨y0,rz⟩:∃x:Nat,nth ws j0=(x:Int):=⟨(nth ws j0).toNat,by have:=HWo.o j0;omega⟩;have hxb:Hid (x1<18446744073709551616∧x0<18446744073709551616∧y1<18446744073709551616∧y0<18446744073709551616):=⟨by have:=hD.o.ZN i1;omega,by have:=hD.o.ZN Ss;omega,by have:=HWo.o Sq;omega,by have:=HWo.o j0;omega⟩;rw [GG] at q2;rw [CB] at q1;rw [LM] at q0;rw [xZ] at q4;rw [rz] at q5;have HI:Hid (k+kv=i2∧k+kv-1=i1∧k+kv-2=Ss∧k+kv+1=i3∧kv-1=Sq∧kv-2=j0∧nth Us i2=(x2:Int)∧nth Us i1=(x1:Int)∧nth Us Ss=(x0:Int)∧nth ws Sq=(y1:Int)∧nth ws j0=(y0:Int)):=⟨V6,hi1,rT,hi3,Gd,RY,GG,CB,LM,xZ,rz⟩;have ow:Hid (∀W,Below wr.heap.size wr W->W.cell? ⟨gu,i2,none⟩=some (.int .u64 (x2:Int))∧W.cell? ⟨gu,i1,none⟩=some (.int .u64 (x1:Int))∧W.cell? ⟨gu,Ss,none⟩=some (.int .u64 (x0:Int))∧W.cell? ⟨gv,Sq,none⟩=some (.int .u64 (y1:Int))∧W.cell? ⟨gv,j0,none⟩=some (.int .u64 (y0:Int))):=fun W hW'=>
     ⟨(hW'.cell (p:=⟨gu,i2,none⟩) hU.o.lt).trans q2,(hW'.cell (p:=⟨gu,i1,none⟩) hU.o.lt).trans q1,(hW'.cell (p:=⟨gu,Ss,none⟩) hU.o.lt).trans q0,(hW'.cell (p:=⟨gv,Sq,none⟩) alp).trans q4,(hW'.cell (p:=⟨gv,j0,none⟩) alp).trans q5⟩
    have CG:=aA (fun W=>Xg x2 x1 x0 y1 y0 W hxb.o.1 hxb.o.2.1 hxb.o.2.2.1 hxb.o.2.2.2);clear V6 hi1 rT hi3 Gd RY GG CB LM xZ rz alr alp;(go_wp2_with fail);go_region_held3 (fun W=>W.cell? ⟨gu,i2,none⟩=some (.int .u64 (x2:Int))∧W.cell? ⟨gu,i1,none⟩=some (.int .u64 (x1:Int))∧W.cell? ⟨gu,Ss,none⟩=some (.int .u64 (x0:Int))∧W.cell? ⟨gv,Sq,none⟩=some (.int .u64 (y1:Int))∧W.cell? ⟨gv,j0,none⟩=some (.int .u64 (y0:Int)))
     (first | go_keep | exact ow.o _ aU.drew | exact ow.o _ hbg)
     (first | (go_at_call 116;refine (CG.o _).mono ?_;rintro e wg ⟨g,rfl,hgu,jg,hwg⟩;have hbg:Below wr.heap.size wr wg:=(by rw [hwg];exact below_drewN aU.drew jg)))
    have hbG:Below wr.heap.size wr (wr.drewN (1+jg)):=below_drewN aU _;have hU2:=aA (hU.o.aC hbG);have hQ2:=aA (hQ.o.aC hbG);have hW2:=aA (hW.o.aC hbG);have oK:=aA (hO.o.drewN (1+jg));clear hbG hbg hwg ow CG hU hQ hW hO q0 q1 q2 q4 q5;generalize wr.drewN (1+jg)=wg at*
    obtain ⟨n1,hn1⟩:∃i,kv+1=i:=⟨_,rfl⟩;(have b7:(kv:Int)+1=(n1:Int):=by omega);have d7:IntKind.i64.wrap (n1:Int)=(n1:Int):=bP _ (by omega);have HN:Hid (kv+1=n1):=hn1;have hcw:u+1<=cw:=aqN;(have s1:(k:Int)<=(i3:Int):=by omega);(have s2:(i3:Int)<=(u:Int)+1:=by omega);(have s3:(i3:Int)<=(cw:Int):=by omega);(have s4:(0:Int)<=(k:Int):=by omega);(have s5:(k:Int)<=(u:Int)+1:=by omega);(have s6:(k:Int)<=(cw:Int):=by omega);(have s7:i3-k=n1:=by have:=HI.o;omega);have mN:Below wg.heap.size wg (wg.alloc (.cells #[] 38)):=aU.alloc aL _;have qm:=hU2.o.limbs hD.o.ZN (k:=k) (m:=n1) (by rw [TJ.o];omega);have hRd:=aA ((qm.aC mN).reads);have ox:Hid ((wg.alloc (.cells #[] 38)).ownsRow wg.heap.size 38 1 (.slice (some ⟨wg.heap.size,0,none⟩) 0 0) 0 []):=World.ownsRow_made wg #[] 0 aL (by unfold maxLen;omega) rfl;clear hn1;(go_wp2_with (at_builtin;go_must (refine bU (w:=wg.alloc (.cells #[] 38)) rfl _ _ 39 rfl wg.heap.size 38 i0 (.int .u64 0) 1 8 underlying39 hi jE jD jJ rfl (by decide) (.slice (some ⟨wg.heap.size,0,none⟩) 0 0) 0 [] (by rfl) ox.o _ (some ⟨gu,k,none⟩) n1 (cw-k) (bI ((Us.drop k).take n1)) (by rfl) hRd.o (jU _) (by unfold maxLen;omega) (by omega) (by simp) ?_);intro vp wp QC abE azu));obtain ⟨Ap,cp,rfl⟩:=fD QC;rw [og,bh] at QC;rw [bh];(have aqj:0<n1:=by have:=HN.o;omega);obtain ⟨gp,hAp,ayJ,_,ayI,ayH,_⟩:=xO QC aqj;subst hAp;(have ayG:gp≠gq:=by have:=hQ2.o.lt;omega);(have aKR:gp≠gu:=by have:=hU2.o.lt;omega);have zk:aQ ((Us.drop k).take n1):=qm.ok;have hPl:=aA (aD.ia QC zk);have hbP:Below wg.heap.size wg wp:=mN.grown abE (by simp) (fun j hj=>by have h5:wg.heap.size=j:=(by injection hj);exact ig h5);have hU3:=aA (hU2.o.aC hbP);have hQ3:=aA (hQ2.o.aC hbP);have hW3:=aA (hW2.o.aC hbP);have Rb:Hid (Only (fun j=>j=gu∨j=gq) wL wp):=oK.o.trans (IK (Only.bZ hbP));have hPn:Hid (((Us.drop k).take n1).length=n1):=qm.len
    have hsp:=hD.o.split (n:=kv) (by exact HV.o) (by rw [TJ.o];omega);rw [HN.o] at hsp;obtain ⟨V,hV⟩:∃V,limbs ws=V:=⟨_,rfl⟩;(have hVV:limbs vs*2^s=V:=by rw [<- hV];exact HWv.o.symm);rw [hVV] at hsp;have hV0:0<V:=by
     rw [<- hVV];have:=HL.o;have:=lJ (64*(kv-1));exact iR (by omega) (lJ s)
    obtain ⟨P,hP⟩:∃P,limbs ((Us.drop k).take n1)=P:=⟨_,rfl⟩;rw [hP] at hsp;obtain ⟨xt,hxt⟩:∃x,P / V=x:=⟨_,rfl⟩;(have CB:xt*V<=P:=by rw [<- hxt];exact Nat.div_mul_le_self P V);have GG:P<(xt+1)*V:=by
     rw [<- hxt];have:=Nat.lt_div_mul_add (a:=P) hV0;rw [bO,bN];omega
    have hx3:xt<18446744073709551616:=by
     rw [<- hxt,L9 hV0,aq];exact hsp.2
    have hx4:xt<=g:=by
     obtain ⟨z1,z2,z3,z4,z5,z6,z7,z8,z9,z10,z11⟩:=HI.o;obtain ⟨nn,hnn⟩:∃nn,kv=nn+2:=⟨kv-2,by omega⟩;(have w1:nth ((Us.drop k).take n1) (nn+2)=(x2:Int):=by rw [nK (by omega),EI,<- z7];congr 1;omega);(have w2:nth ((Us.drop k).take n1) (nn+1)=(x1:Int):=by rw [nK (by omega),EI,<- z8];congr 1;omega);(have w3:nth ((Us.drop k).take n1) nn=(x0:Int):=by rw [nK (by omega),EI,<- z9];congr 1;omega);(have w4:nth ws (nn+1)=(y1:Int):=by rw [<- z10];congr 1;omega);(have w5:nth ws nn=(y0:Int):=by rw [<- z11];congr 1;omega);refine aci (vs:=ws) (ps:=(Us.drop k).take n1) (n:=nn) (by rw [Hwl.o];exact hnn) (by rw [hPn.o,<- HN.o];omega) zk hx3 (by rw [hV,hP];exact CB) ?_;rw [w1,w2,w3,w4,w5];exact hgu
    have HG:Hid (xt<=g∧g<18446744073709551616):=⟨hx4,hgu.1⟩;have HX:Hid (xt*V<=P∧P<(xt+1)*V∧xt<18446744073709551616):=⟨CB,GG,hx3⟩;have HPV:Hid (limbs ((Us.drop k).take n1)=P∧limbs ws=V∧limbs vs*2^s=V∧aQ ((Us.drop k).take n1)):=⟨hP,hV,hVV,zk⟩;have hwr:=aA (fun x (hx:x<18446744073709551616)=>yM HWo.o hx);have axv:=hQ3.o.cell (i:=k) (by rw [hQl.o];omega);(have th:k<L:=by omega);clear qm zk mN hRd ox QC abE azu ayJ hbP hU2 hQ2 hW2 oK hgu CB GG hx3 hx4 hxt hsp hP hV hVV hV0 HI;(try clear hxb);generalize hps:(Us.drop k).take n1=ps at*
    have HPS:=aA hps;clear hps;go_loopw [17] (fun v17 wr2=>∃x:Nat,v17=.int .u64 (x:Int)∧Hid (xt<=x∧x<18446744073709551616)∧Hid (Below wp.heap.size wp wr2)) (fun v17 _=>(intOf v17).toNat)
    case atStart=>exact ⟨g,rfl,HG,aU⟩
    case round=>
     obtain ⟨x,rfl,hx,hbR⟩:=hrel;obtain ⟨r1,r2,r3⟩:=hwr.o x hx.o.2;have hWr:=hW3.o.aC hbR.o;have hPr:=hPl.o.aC hbR.o;have CR:=aA (IU (some ⟨gv,0,none⟩) kv cv ws x wr hWr (by omega) hx.o.2);have CC:=aA (fun gg cap W (h:aD W (some ⟨gg,0,none⟩) (kv+1) (rA ws x)) (h1:kv+1<=cap) (h2:cap<=9223372036854775807) (hb:Below wr.heap.size wr W)=>yZ (some ⟨gg,0,none⟩) (some ⟨gp,0,none⟩) (kv+1) n1 cap cp (rA ws x) ps W h (hPr.aC hb) h1 h2 ayI (by unfold maxLen at ayH;omega) (by omega) (by have:=HN.o;omega));(have hcv:Hid (limbs (rA ws x)=V*x):=by show _=_;rw [r3,HPV.o.2.1]);clear r1 r2 r3 hWr hPr;by_cases yg:P<V*x
     . have zA:(0:Int)<ji (limbs (rA ws x)) (limbs ps):=by
        rw [hcv.o,HPV.o.1];unfold ji;rw [aY (by omega),aM yg];omega
       have hx5:xt<=x-1∧0<x:=by
        have q6:=HX.o.1;(have q7:xt*V<x*V:=by rw [aq x V];omega);have:=Jh q7;omega
       have HX5:Hid (xt<=x-1∧x-1<18446744073709551616):=⟨hx5.1,by have:=hx.o.2;omega⟩;(have ew:IntKind.u64.wrap ((x:Int)-1)=((x-1:Nat):Int):=by rw [ag];have:=hx.o.2;omega);(have hlt:Hid (x-1<x):=by show _<_;omega);clear hx5 yg hcv;generalize x-1=x' at*
       generalize ji (limbs (rA ws x)) (limbs ps)=cc at*
       (go_wp2_with fail);refine CR.o.mono ?_;rintro e wa1 ⟨gg,cap,rfl,r4,r5,r6,r7,r8⟩;have CC2:=aA (CC.o gg cap wa1 r7 r5 r6 r8);have abQ:=aA (hbR.o.tm r8);clear CC CR r7 r8;(go_wp2_with fail);refine CC2.o.mono ?_;rintro e wa2 ⟨rfl,j2,hj2⟩;(have QN:Hid (Below wp.heap.size wp wa2):=by show Below _ _ _;rw [hj2];exact below_drewN abQ.o _);clear CC2 hj2 abQ hbR;(go_wp2_with fail);go_roundw
       case rel=>exact ⟨x',rfl,HX5,QN⟩
       case measure=>simpa [intOf] using hlt.o
     . have zA:¬(0:Int)<ji (limbs (rA ws x)) (limbs ps):=by
        rw [hcv.o,HPV.o.1];unfold ji;by_cases h1:V*x<P
        . rw [aM h1];omega
        . rw [aY h1,aY yg];omega
       have Bz:x=xt:=by
        have q6:=HX.o.2.1;(have q7:x*V<(xt+1)*V:=by rw [aq x V];omega);have q8:=Jh q7;have q9:=hx.o.1;omega
       subst Bz;clear yg hcv;have CE:Hid (limbs (rA ws x)<=limbs ps):=by
        obtain ⟨r1,r2,r3⟩:=hwr.o x hx.o.2;show _<=_;rw [r3,HPV.o.1,HPV.o.2.1,aq];exact HX.o.1
       generalize ji (limbs (rA ws x)) (limbs ps)=cc at*
       (go_wp2_with fail);refine CR.o.mono ?_;rintro e wa1 ⟨gg,cap,rfl,r4,r5,r6,r7,r8⟩;have CC2:=aA (CC.o gg cap wa1 r7 r5 r6 r8);have abQ:=aA (hbR.o.tm r8);clear CC CR r7 r8;(go_wp2_with fail);refine CC2.o.mono ?_;rintro e wa2 ⟨rfl,j2,hj2⟩;(have QN:Below wp.heap.size wp wa2:=by rw [hj2];exact below_drewN abQ.o _);have hU4:=aA (hU3.o.aC QN);have hQ4:=hQ3.o.aC QN;have hW4:=aA (hW3.o.aC QN);have hP4:=aA (hPl.o.aC QN);have hO4:Hid (Only (fun j=>j=gu∨j=gq) wL wa2):=Rb.o.trans (IK (Only.bZ QN));have hqf:=hQ4.frozen k;have hqc:=hQ4.cell (i:=k) (by rw [hQl.o];omega);have hQ5:=aA (hQ4.set k (x:Int));clear CC2 hj2 abQ hbR QN hQ4 hQ3 hU3 hW3 hPl Rb axv;have hU5:=aA (hU4.o.far (p:=⟨gq,k,none⟩) aiu (.int .u64 (x:Int)));have hO5:Hid (Only (fun j=>j=gu∨j=gq) wL (wa2.setCell ⟨gq,k,none⟩ (.int .u64 (x:Int)))):=hO4.o.setCell (p:=⟨gq,k,none⟩) (.inr rfl) _;have hOs:Only (fun j=>j=gq) wa2 (wa2.setCell ⟨gq,k,none⟩ (.int .u64 (x:Int))):=Only.setCell (S:=fun j=>j=gq) (Only.refl _ _) (p:=⟨gq,k,none⟩) rfl _;have hW5:Hid (aD (wa2.setCell ⟨gq,k,none⟩ (.int .u64 (x:Int))) (some ⟨gv,0,none⟩) kv ws):=hW4.o.only hOs (fun y hy hg=>by injection hy with hy;subst hy;exact aqL hg);have hP5:Hid (aD (wa2.setCell ⟨gq,k,none⟩ (.int .u64 (x:Int))) (some ⟨gp,0,none⟩) n1 ps):=hP4.o.only hOs (fun y hy hg=>by injection hy with hy;subst hy;exact ayG hg);clear hU4 hO4 hW4 hP4 hOs;have kR:x<18446744073709551616:=hx.o.2;have EW:=hwr.o x kR;have nj:=pF HPV.o.2.2.2 EW.1 CE.o;rw [hPn.o,EW.2.1,Hwl.o,HN.o,Nat.max_self] at nj;have KH:=XU nj.2.1.1 nj.2.2.2;have YB:Hid ((vS (sH ps (rA ws x)) n1).length=n1):=KH.1;have ary:Hid (uM (limbs us*2^s) (limbs vs*2^s) k (Go.splice Us k (vS (sH ps (rA ws x)) n1)) (Qs.set k (x:Int))):=by
        have hV2:=HPV.o;refine hD.o.next (n:=kv) HV.o (by rw [TJ.o];omega) (by rw [hQl.o];exact th) kR ?_ ?_ (by rw [HN.o];exact KH.1) KH.2.1 ?_
        . rw [HN.o,HPS.o,hV2.1,hV2.2.2.1];exact HX.o.1
        . rw [HN.o,HPS.o,hV2.1,hV2.2.2.1];exact HX.o.2.1
        . rw [HN.o,HPS.o,KH.2.2,nj.2.2.1,EW.2.2,hV2.1,hV2.2.1,hV2.2.2.1,aq V x]
       have hkd:Hid ((sH ps (rA ws x)).length<=n1):=nj.2.2.2;have X8:Hid ((Go.splice Us k (vS (sH ps (rA ws x)) n1)).length=u+1):=by
        show _=_;rw [Go.length_splice _ _ _ (by rw [YB.o,TJ.o];have:=HN.o;omega)];exact TJ.o
       have CL:=aA (fun gg cap W (h1:aD W (some ⟨gp,0,none⟩) n1 ps) (h2:aD W (some ⟨gg,0,none⟩) (kv+1) (rA ws x))=>Xf (some ⟨gp,0,none⟩) (some ⟨gg,0,none⟩) n1 (kv+1) cp cap ps (rA ws x) W h1 h2 (by omega) (by omega) CE.o);clear EW nj KH CE hwr HX hx HPV hPn;generalize sH ps (rA ws x)=ds at*
       (have axt:Hid ((Qs.set k (x:Int)).length=L):=by show _=_;rw [fW];exact hQl.o);(have s8:(0:Int)<=(n1:Int):=by omega);have axL:Hid ((bI (vS ds n1)).length=Nat.min n1 (u+1-k)):=by
        show _=_;rw [gO,YB.o];have:=HN.o;(have:n1<=u+1-k:=by omega);exact (oz this).symm
       have QH:Hid (k+(bI (vS ds n1)).length<=(bI Us++ex).length):=by
        show _<=_;rw [gO,YB.o,eC,gO,TJ.o];have:=HN.o;omega
       (go_wp2_with fail);generalize wa2.setCell ⟨gq,k,none⟩ (.int .u64 (x:Int))=wq at*
       have CR2:=aA (fun W (h:Below wq.heap.size wq W)=>IU (some ⟨gv,0,none⟩) kv cv ws x W (hW5.o.aC h) (by omega) kR);go_region_held3 (fun _=>True)
        (first | go_keep | trivial)
        (first
          | (go_at_call 117;refine (CR2.o _ (by first | exact aU.drew | exact aU)).mono ?_;rintro e wr1 ⟨gg2,aAL,rfl,r4,r5,r6,r7,r8'⟩;have r8:Below wq.heap.size wq wr1:=(by first | exact aU.drew.trans r8' | exact r8'))
          | (go_at_call 118;refine (CL.o gg2 aAL _ (hP5.o.aC r8) r7).mono ?_;rintro e wl ⟨Ad,kd,cd,rfl,e1,e2,e3,e4,e5,e6⟩;obtain ⟨gz,cz,wz,z1,z2,z3,z4,z5⟩:=SJ wl wr1.heap.size Ad kd cd ds n1 aqj (by have:=e3.len;have:=hkd.o;omega) e4 e6.size;have z6:(n1:Int)<=(cz:Int):=(by omega);have z7:Below wq.heap.size wq wz:=r8.trans ((e6.trans z5).mono r8.size))
          | (refine GA _ rfl _ _ _ _ rfl (.slice Ad kd cd) (.int .i64 (n1:Int)) (by rfl) (by rfl) _ _ z1 ?_)
          | (refine Jz rfl _ _ 39 39 rfl 38 underlying39 usize gu k (u+1-k) (cw-k) ⟨gz,0,none⟩ n1 cz (by rfl) (by rfl) (bI Us++ex) 38 (hU5.o.aC z7) (bI (vS ds n1)) axL.o z2 QH.o (jU _) ?_))
       have hUf:=aA ((hU5.o.aC z7).splice (k:=k) (rs:=vS ds n1) (by rw [YB.o,TJ.o];have:=HN.o;omega));have hQf:=aA (iJ.Rt (hQ5.o.aC z7) (g':=gu) (fun e=>aiu e.symm) (Go.splice (bI Us++ex) k (bI (vS ds n1))).toArray);have hOf:Hid (Only (fun j=>j=gu∨j=gq) wL (wz.setRow gu (Go.splice (bI Us++ex) k (bI (vS ds n1))).toArray)):=PE (hO5.o.trans (IK (Only.bZ z7))) (.inl rfl) _;clear CR2 CL z1 z2 z3 z4 z5 z6 z7 e1 e2 e3 e4 e5 e6 r4 r5 r6 r7 r8 hU5 hQ5 hO5 hW5 hP5;(try clear r8');generalize wz.setRow gu (Go.splice (bI Us++ex) k (bI (vS ds n1))).toArray=wf at*
       (have Sy:k<=L:=by omega);have ewk:IntKind.i64.wrap ((k:Int)-1)=(k:Int)-1:=bP _ (by omega);(go_wp2_with fail);go_roundw
       case rel=>exact ⟨k,_,_,Sy,rfl,hUf,X8,hQf,axt,ary,hOf⟩
       case measure=>simp [intOf]
def aaq (A B:Option Addr) (n m c d:Nat) (xs ys:List Int) (w:World) (hx:aD w A n xs) (hy:aD w B m ys) (jV:n<=c) (hc:c<=9223372036854775807) (nk:m<=d) (hd:d<=9223372036854775807) (hn:n<=3900000000000) (hm:m<=3900000000000) (hlt:limbs xs<limbs ys):
 aB 82 #[.slice A n c,.slice B m d] w (Af w (n+1) (limbs xs) (limbs ys)):=by
 have kR:=hx.len;have wM:=hy.len;have l1:=cS xs n;have l2:=cS ys m;obtain ⟨p1,p2⟩:=bF hx.ok kR;obtain ⟨p3,p4⟩:=bF hy.ok wM;have C1:=aA (cH A n c xs w hx jV hc);have C2:=aA (cH B m d ys w hy nk hd);have Hx:=aA (hx.take l1);have Hy:=aA (hy.take l2);have Cc:=aA (yZ A B (cU xs n) (cU ys m) c d _ _ w Hx.o Hy.o (by omega) hc (by omega) hd (by omega) (by omega));have YE:ji (limbs (xs.take (cU xs n))) (limbs (ys.take (cU ys m)))<0:=by
  rw [p2,p4];unfold ji;rw [aM hlt];omega
 have Vy:((cU ys m:Int)==0)=false:=by
  have:cU ys m≠0:=fun h=>by have:=Po wM h;omega
  simp;omega
 have Cn:=aA (fun W (h:Below w.heap.size w W)=>Va A (cU xs n) c _ W (Hx.o.aC h) (by omega) hc (by omega));have HN:Hid ((xs.take (cU xs n)).take (cU (xs.take (cU xs n)) (cU xs n))=xs.take (cU xs n)):=by
  obtain ⟨q1,q2⟩:=bF Hx.o.ok Hx.o.len;exact q1.inj p1 q2
 have HP:Hid (bY (xs.take (cU xs n))∧limbs (xs.take (cU xs n))=limbs xs∧(xs.take (cU xs n)).length=cU xs n):=⟨p1,p2,Hx.o.len⟩;rw [HN.o] at Cn;have Aj:Hid (limbs xs / limbs ys=0∧limbs xs % limbs ys=limbs xs):=⟨Fx hlt,Fz hlt⟩;clear hx hy kR wM p1 p2 p3 p4 HN hlt;generalize cU xs n=u at*
 generalize xs.take u=us at*
 go_enter func82,ntmps82
 go_wp2_with fail
 refine C1.o.mono ?_;rintro e w' ⟨rfl,rfl⟩;go_wp2_with fail
 refine C2.o.mono ?_;rintro e w' ⟨rfl,rfl⟩;go_wp2_with fail
 refine Cc.o.mono ?_;rintro e w1 ⟨rfl,j1,Gd⟩;have cZ:Below w'.heap.size w' w1:=by subst Gd;exact below_drewN aU _
 have Jo:=aA cZ;clear Gd cZ;go_wp2_with fail
 refine (Cn.o _ Jo.o).mono ?_;rintro e w2 ⟨A2,c2,rfl,f1,f2,f3,f4,_⟩;have F:Hid (Af w' (n+1) (limbs xs) (limbs ys) (.returned (.tuple #[.slice none 0 0,.slice A2 us.length c2,.int .i64 0])) w2):=
  ⟨[],us,none,0,0,A2,us.length,c2,rfl,⟨fun i=>by rw [bw (by simp)];omega,fun h=>by simp at h⟩,HP.o.1,by rw [Aj.o.1];rfl,by rw [Aj.o.2];exact HP.o.2.1,by omega,by have:=HP.o.2.2;omega,by omega,by omega,f1,f2,aD.nil _ _,f3,Jo.o.tm f4⟩
 clear f3 f4;go_wp2_with fail
 (try simp only [Exit.inBlock,Exit.then]);refine bK (Ni rfl _ _ _) rfl ?_
 exact F.o
def J6 {ys:List Int}(h:bY ys) (h1:ys.length=1):∃y,ys=[y]∧0<y∧y<18446744073709551616∧limbs ys=y.toNat:=by
 match ys,h1 with
 | [y],_=>
   have q1:=h.1 0;have q2:=h.2 (by simp);rw [nL] at q1;have q3:nth [y] ([y].length-1)=y:=rfl;rw [q3] at q2;refine ⟨y,rfl,by omega,q1.2,?_⟩;show y.toNat+2^64*0=_;omega
def aar (A B:Option Addr) (n m c d:Nat) (xs ys:List Int) (w:World) (hx:aD w A n xs) (hy:aD w B m ys) (jV:n<=c) (hc:c<=9223372036854775807) (nk:m<=d) (hd:d<=9223372036854775807) (hn:n<=3900000000000) (hm:m<=3900000000000) (h1:cU ys m=1) (mj:limbs ys<=limbs xs):
 aB 82 #[.slice A n c,.slice B m d] w (Af w (n+1) (limbs xs) (limbs ys)):=by
 have kR:=hx.len;have wM:=hy.len;have l1:=cS xs n;have l2:=cS ys m;obtain ⟨p1,p2⟩:=bF hx.ok kR;obtain ⟨p3,p4⟩:=bF hy.ok wM;have C1:=aA (cH A n c xs w hx jV hc);have C2:=aA (cH B m d ys w hy nk hd);have Hx:=aA (hx.take l1);have Fk:=hy.take l2;rw [h1] at C2 Fk p3 p4;obtain ⟨y,hye,rz,akF,hyv⟩:=J6 p3 (by rw [cQ];omega);have hyY:limbs ys=y.toNat:=by rw [<- p4,hyv]
 rw [hye] at Fk;have Cc:=aA (yZ A B (cU xs n) 1 c d _ _ w Hx.o Fk (by omega) hc (by omega) hd (by omega) (by omega));have YE:¬ji (limbs (xs.take (cU xs n))) (limbs [y])<0:=by
  rw [p2,show limbs [y]=limbs ys by rw [<- hye,p4]];unfold ji;rw [aY (by omega)];split<;>omega
 have Cs:=aA (fun W (h:Below w.heap.size w W)=>Xe A (cU xs n) c _ y W (Hx.o.aC h) (by omega) rz akF);obtain ⟨b,o,rfl,hb,hcB⟩:=Fk.at_ (by omega);have WB:=hcB 0 (by omega);rw [ja] at WB;have hq:nth [y] 0=y:=rfl;rw [hq] at WB;have HX:Hid (limbs (xs.take (cU xs n))=limbs xs∧limbs ys=y.toNat∧0<y∧y<18446744073709551616):=⟨p2,hyY,rz,akF⟩;clear hcB hx hy Fk p1 p2 p3 p4 hye hyv hyY kR wM h1 mj rz akF Hx;generalize cU xs n=u at*
 generalize xs.take u=us at*
 go_enter func82,ntmps82
 go_wp2_with fail
 refine C1.o.mono ?_;rintro e w' ⟨rfl,rfl⟩;go_wp2_with fail
 refine C2.o.mono ?_;rintro e w' ⟨rfl,rfl⟩;go_wp2_with fail
 refine Cc.o.mono ?_;rintro e w1 ⟨rfl,j1,Gd⟩;have fu:Below w'.heap.size w' w1:=by subst Gd;exact below_drewN aU _
 have NH:=(fu.cell (p:=⟨b,o,none⟩) hb).trans WB;clear Gd WB;go_wp2_with fail
 refine (Cs.o _ fu).mono ?_;rintro e w2 ⟨qs,r,A1,k1,c1,rfl,g1,g2,g3,g4,g5,⟨g6,g7,g8⟩,g9⟩;have cN:Below w'.heap.size w' w2:=fu.tm g9;have CE:r<18446744073709551616:=by have:=HX.o;omega
 have HL:=aA (aD.one w2 38 (x:=r) g6 CE);have hdm:=Qa (X:=limbs us) (q:=limbs qs) (Y:=y.toNat) (by omega) (by rw [bO];have:=HX.o;omega);have uG:=cS [r] 1;have Sw:=bF (xs:=[r]) HL.o.ok (n:=1) rfl;have Js:limbs [r]=r.toNat:=by show r.toNat+2^64*0=_;omega
 have F:Hid (Af w' (n+1) (limbs xs) (limbs ys) (.returned (.tuple #[.slice A1 k1 c1,.slice (some ⟨w2.heap.size,0,none⟩) (cU [r] 1) 1,.int .i64 0])) (w2.alloc (.cells #[.int .u64 r] 38))):=
  ⟨qs,_,A1,k1,c1,_,_,1,rfl,g5,Sw.1,by rw [<- HX.o.1,HX.o.2.1];exact hdm.1.symm,by rw [Sw.2,Js,<- HX.o.1,HX.o.2.1,<- hdm.2];omega,by omega,by omega,g2,g3,uG,by omega,g4.alloc _,HL.o.take uG,cN.alloc cN.size _⟩
 clear g4 g5 g6 g7 g8 g9 hdm Sw Js;generalize aqv:cU [r] 1=lr at*
 have HR:=aA aqv;clear aqv;go_wp2_with fail
 refine (cH (some ⟨w2.heap.size,0,none⟩) 1 1 [r] _ HL.o (by omega) (by omega)).mono ?_;rintro e w3 ⟨rfl,rfl⟩;rw [HR.o];go_wp2_with fail
 (try simp only [Exit.inBlock,Exit.then]);refine bK (Ni rfl _ _ _) rfl ?_
 exact F.o
def Vf (A B:Option Addr) (n m c d:Nat) (xs ys:List Int) (w:World) (hx:aD w A n xs) (hy:aD w B m ys) (jV:n<=c) (hc:c<=9223372036854775807) (nk:m<=d) (hd:d<=9223372036854775807) (hn:n<=3900000000000) (hm:m<=3900000000000) (h0:0<limbs ys):
 aB 82 #[.slice A n c,.slice B m d] w (Af w (n+1) (limbs xs) (limbs ys)):=by
 rcases pT (limbs xs) (limbs ys) with h | h
 . exact aaq A B n m c d xs ys w hx hy jV hc nk hd hn hm h
 . by_cases h1:cU ys m=1
   . exact aar A B n m c d xs ys w hx hy jV hc nk hd hn hm h1 h
   . have h2:cU ys m≠0:=fun e=>by have:=Po hy.len e;omega
     exact aas A B n m c d xs ys w hx hy jV hc nk hd hn hm (by omega) h
def jv {a b q r:Int}(h:q*b+r=a) (h0:0<=r) (h1:r<b∨r< -b):q=a / b∧r=a % b:=by
 rcases Ui 0 b with hb | hb
 . have h2:r<b:=by omega
   obtain ⟨e1,e2⟩:=(Ug hb (a:=a) (q:=q) (r:=r)).2 ⟨by rw [nE b q];omega,h0,h2⟩;exact ⟨e1.symm,e2.symm⟩
 . have h2:r< -b:=by omega
   obtain ⟨e1,e2⟩:=(Ug (b:= -b) (by omega) (a:=a) (q:= -q) (r:=r)).2 ⟨by rw [UI,nE b q];omega,h0,h2⟩;rw [Int.ediv_neg] at e1;rw [Int.emod_neg] at e2;exact ⟨by omega,e2.symm⟩
def SS (X Y:Nat) (h0:0<Y):((X / Y:Nat):Int)*(Y:Int)+((X % Y:Nat):Int)=(X:Int)∧X % Y<Y:=by
 have h1:=su X Y;have h2:((Y*(X / Y)+X % Y:Nat):Int)=(X:Int):=by rw [h1]
 rw [lI,sr,nE] at h2;exact ⟨h2,jy X h0⟩
def ZI (t:Bool) (hq:limbs qs=limbs xs / limbs ys) (hr:limbs rs=limbs xs % limbs ys) (h0:0<limbs ys):aI (false !=t) qs=aI false xs / aI t ys∧aI false rs=aI false xs % aI t ys:=by
 obtain ⟨h1,h2⟩:=SS (limbs xs) (limbs ys) h0;unfold aI;rw [hq,hr];generalize limbs xs / limbs ys=Q at*
 generalize limbs xs % limbs ys=R at*
 cases t<;>simp only [E3,AO,tH,UH,Bool.false_bne]
 . exact jv h1 (by omega) (.inl (by omega))
 . exact jv (by rw [UI];exact h1) (by omega) (.inr (by omega))
def Wx (t:Bool) (hq:limbs qs=limbs xs / limbs ys) (hr:limbs rs=limbs xs % limbs ys) (hz:limbs rs=0) (h0:0<limbs ys):aI (true !=t) qs=aI true xs / aI t ys∧aI false rs=aI true xs % aI t ys:=by
 obtain ⟨h1,h2⟩:=SS (limbs xs) (limbs ys) h0;unfold aI;rw [hq,hz];rw [hz] at hr;rw [<- hr] at h1;generalize limbs xs / limbs ys=Q at*
 cases t<;>simp only [E3,AO,tH,Bool.bne_false,UH]
 . exact jv (by rw [E0];omega) (by omega) (.inl (by omega))
 . exact jv (by rw [Nq];omega) (by omega) (.inr (by omega))
def ZJ (t:Bool) (hq:limbs qs=limbs xs / limbs ys+1) (hr:limbs rs=limbs ys-limbs xs % limbs ys) (hz:0<limbs xs % limbs ys) (h0:0<limbs ys):aI (true !=t) qs=aI true xs / aI t ys∧aI false rs=aI true xs % aI t ys:=by
 obtain ⟨h1,h2⟩:=SS (limbs xs) (limbs ys) h0;unfold aI;rw [hq,hr];generalize limbs xs / limbs ys=Q at*
 generalize limbs xs % limbs ys=R at*
 have h3:((limbs ys-R:Nat):Int)=(limbs ys:Int)-(R:Int):=by omega
 cases t<;>simp only [E3,AO,tH,Bool.bne_false,UH]
 . exact jv (by rw [h3,E0,lI,rJ];omega) (by omega) (.inl (by omega))
 . exact jv (by rw [h3,Nq,lI,rJ];omega) (by omega) (.inr (by omega))
def U7 (s t:Bool) (h:s=true->limbs rs=0) (hq:limbs qs=limbs xs / limbs ys) (hr:limbs rs=limbs xs % limbs ys) (h0:0<limbs ys):aI (s !=t) qs=aI s xs / aI t ys∧aI false rs=aI s xs % aI t ys:=by
 cases s
 . exact ZI t hq hr h0
 . exact Wx t hq hr (h rfl) h0
def aew (s t:Bool) (h:s=true) (hq:limbs qs=limbs xs / limbs ys+1) (hr:limbs rs=limbs ys-limbs xs % limbs ys) (hz:0<limbs xs % limbs ys) (h0:0<limbs ys):aI (s !=t) qs=aI s xs / aI t ys∧aI false rs=aI s xs % aI t ys:=by
 subst h;exact ZJ t hq hr hz h0
def anp (w:World) (K:Nat) (a b:Int) (e:Ending) (w':World):Prop:=
 ∃s1 A1 k1 c1 l1 s2 A2 k2 c2 l2,e=.returned (.tuple #[.agg #[.bool s1,.slice A1 k1 c1],.agg #[.bool s2,.slice A2 k2 c2],.int .i64 0])∧k1<=K∧k2<=K∧k1<=c1∧c1<=9223372036854775807∧k2<=c2∧c2<=9223372036854775807∧aD w' A1 k1 l1∧aD w' A2 k2 l2∧dN s1 l1 (a / b)∧dN s2 l2 (a % b)∧(0<k1->∀y,A1=some y->w.heap.size<=y.block)∧Below w.heap.size w w'
section
variable (s t : Bool) (A B : Option Addr) (n m c d : Nat) (xs ys : List Int) (w : World) (hx : aD w A n xs) (hy : aD w B m ys) (jV : n <= c) (hc : c <= 9223372036854775807) (nk : m <= d) (hd : d <= 9223372036854775807) (hn : n <= 3900000000000) (hm : m <= 3900000000000) (h0 : 0 < limbs ys)
include hx hy jV hc nk hd hn hm h0
theorem divN:∀W,Below w.heap.size w W->aB 82 #[.slice A n c,.slice B m d] W (Gj W (n+1) (max n m+1) (limbs xs) (limbs ys)):=fun W h=>(Vf A B n m c d xs ys W (hx.aC h) (hy.aC h) jV hc nk hd hn hm h0).mono fun e w' ⟨qs,rs,A1,k1,c1,A2,k2,c2,g0,g1,g2,g3,g4,g5,g6,g7,g8,g9,jq,iG,Rc,g13⟩=>⟨A1,k1,c1,qs,A2,k2,c2,rs,g0,g7,g8,g5,iG,g1,g3,g9,jq,by omega,Rc,g2,g4,g13⟩
theorem aAD:∀W,Below w.heap.size w W->aB 128 #[.slice A n c,.slice B m d] W (Gj W (n+1) (max n m+1) (limbs xs) (limbs ys)):=fun W h=>(aoR A B n m c d xs ys W (hx.aC h) (hy.aC h) (by omega) (by omega) h0).mono fun e w' ⟨A1,k1,c1,qs,A2,k2,c2,rs,g0,g1,g2,g3,g4,g5,g6,g7,g8,g9,jq⟩=>⟨A1,k1,c1,qs,A2,k2,c2,rs,g0,g1,g2,by omega,g4,g5,g6,g7,g8,by omega,jq⟩
theorem arV (F:FuncId) (hF:F=79∨F=93):aB F #[.agg #[.bool s,.slice A n c],.agg #[.bool t,.slice B m d]] w (anp w (n+m+10) (aI s xs) (aI t ys)):=by
 have C1:=divN A B n m c d xs ys w hx hy jV hc nk hd hn hm h0;have C2:=aAD A B n m c d xs ys w hx hy jV hc nk hd hn hm h0;obtain ⟨da,db,dq,dr,b4⟩:=aAz w (.bool s) (.slice A n c) (.bool t) (.slice B m d) (.bool false) (.slice none 0 0) (.bool false) (.slice none 0 0);obtain ⟨wt,je⟩:∃wt:World,wt=(((w.alloc (.cells #[.bool s,.slice A n c] 41)).alloc (.cells #[.bool t,.slice B m d] 41)).alloc (.cells #[.bool false,.slice none 0 0] 41)).alloc (.cells #[.bool false,.slice none 0 0] 41):=⟨_,rfl⟩;rw [<- je] at da db dq dr b4;have Hwt:=aA je;obtain ⟨s0,Ah⟩:∃s0,s0=s:=⟨_,rfl⟩;obtain ⟨t0,ht0⟩:∃t0,t0=t:=⟨_,rfl⟩;have Hs0:=aA Ah;have Ht0:=aA ht0;have Da:=aA da;have Db:=aA db;have Dq:=aA dq;have Dr:=aA dr;have B4:=aA b4;have Hy:=aA (hy.aC b4);have Hc1:=aA C1;have Hc2:=aA C2;clear je Ah ht0 dq dr hx hy C1 C2 da db b4;rcases hF with rfl | rfl<;>cases s<;>cases t
 all_goals
  first
  | with_reducible show Calls _ 79 _ _ _
    (go_enter func79,ntmps79);have Cd:=Hc1;have Ca:=aA Qq
    have Cs:=aA ZV
    have Cn:=aA Mi
  | go_enter func93,ntmps93
    have Cd:=Hc2;have Ca:=aA Qp;have Cs:=aA ZU;have Cn:=aA Mj
  clear Hc1 Hc2;go_wp2_with fail
  rw [<- Hwt.o];have a1:=Da.o.cell1;have e1:=Db.o.cell1;go_wp2_with fail
  refine (Cd.o _ B4.o).mono ?_;rintro e w5 ⟨A4,k4,c4,qa,A5,k5,c5,bs,rfl,g5,g6,g7,iG,g1,g3,g8,g9,jq,Rc,g2,g4,YG⟩;have q0:=(Da.o.aC YG).cell0;have q1:=(Db.o.aC YG).cell0;have q2:=(Db.o.aC YG).cell1;have H4:=aA iG;have H5:=aA Rc;have hb:=aA YG;have hk5:=Rc.len;have hv:=aA (show k5=0->limbs bs=0 from fun e=>g2.kN.2 (by omega));have hp:=aA (show k5≠0->0<limbs bs from fun e=>uS fun e'=>e (by have:=g2.kN.1 e';omega));have G3:=aA g3;have G4:=aA g4;clear iG Rc g1 g2 g3 g4 a1 e1 YG hk5;by_cases hz:k5=0;case' pos=>
   have Vx:¬(0:Int)<(k5:Int):=by omega
   have HV:=aA (U7 s0 t0 (fun _=>hv.o hz) G3.o G4.o h0);clear hz hv hp G3 G4
  case' neg=>
   first
   | have HV:=aA (U7 s0 t0 (fun e=>absurd (Hs0.o.symm.trans e) Bool.false_ne_true) G3.o G4.o h0)
     clear hz hv hp G3 G4
   | have uF:Hid (s0=true):=Hs0
     (have Vx:(0:Int)<(k5:Int):=by omega);(have CE:Hid (limbs bs<=limbs ys):=by show _<=_;rw [G4.o];exact oy (jy _ h0));(have hrm:Hid (0<limbs xs % limbs ys):=by show _<_;rw [<- G4.o];exact hp.o hz);have abr:=aD.one w5 38 (x:=1) (by omega) (by omega);have hbo:Below w5.heap.size w5 (w5.alloc (.cells #[.int .u64 1] 38)):=aU.alloc aL _;have Hbo:=aA hbo;have Yg:=aA abr;clear hz abr hbo;(go_wp2_with fail);refine (Ca.o A4 (some ⟨w5.heap.size,0,none⟩) k4 1 c4 1 qa [1] _ (H4.o.aC Hbo.o) Yg.o (by omega) (by omega)).mono ?_;rintro e w6 ⟨A4,k4,c4,qa,rfl,f1,f2,f3,f4,f5,f6⟩;have hc6:=aA (Hbo.o.tm f6);have gW:=aA (hb.o.tm hc6.o);replace q0:=(Da.o.aC gW.o).cell0
     replace q1:=(Db.o.aC gW.o).cell0
     replace q2:=(Db.o.aC gW.o).cell1
     replace H4:=aA f4
     have F5:=aA (f5.trans (dh (· +1) G3.o));clear f4 f5 f6 G3;(go_wp2_with fail);refine (Cs.o B A5 m k5 d c5 ys bs _ (Hy.o.aC gW.o) (H5.o.aC hc6.o) (by omega) (by omega) CE.o).mono ?_;rintro e w5 ⟨A5,k5,c5,bs,rfl,f1',f2',f3',f4',f5',f6'⟩;replace hb:=aA (gW.o.tm f6')
     replace q0:=(Da.o.aC hb.o).cell0
     replace q1:=(Db.o.aC hb.o).cell0
     replace q2:=(Db.o.aC hb.o).cell1
     have HV:=aA (aew s0 t0 uF.o F5.o (f5'.trans (dh (limbs ys - ·) G4.o)) hrm.o h0);replace H4:=aA (H4.o.aC f6')
     replace H5:=aA f4'
     clear Vx hv hp G4 F5 gW hc6 Hbo Yg f4' f5' f6' CE hrm uF
 all_goals
  go_wp2_with fail
  refine (Cn.o _ A4 k4 c4 qa w5 H4.o (by omega) (by omega) (by omega)).mono ?_;rintro e w7 ⟨s7,A7,k7,c7,ls,rfl,m1,m2,m3,m4,m5,m6,rE⟩;have fe:=aA (hb.o.tm rE);have M4:=aA m4;have M5:=aA m5;have hf7:Hid (0<k7->∀y,A7=some y->w.heap.size<=y.block):=fun h0 y hy=>aG (aG B4.o.size hb.o.size) (m6 h0 y hy);replace H5:=aA (H5.o.aC rE)
  clear q0 q1 q2 m4 m5 m6 rE hb;go_wp2_with fail
  refine (Cn.o _ A5 k5 c5 bs w7 H5.o (by omega) (by omega) (by omega)).mono ?_;rintro e w8 ⟨s8,A8,k8,c8,l8,rfl,p1,p2,p3,p4,p5,_,CW⟩;have Ak:Below wt.heap.size wt w8:=fe.o.tm CW;have Dq3:=Dq.o.aC Ak;have Rg:=Dr.o.aC Ak;have r0:=Dq3.cell0;have r1:=Dq3.cell1;have t0:=Rg.cell0;have t1:=Rg.cell1;have f0:=Dq3.frozen 0;have f1:=Dq3.frozen 1;have f2:=Rg.frozen 0;have f3:=Rg.frozen 1;have HL7:=aA (M4.o.aC CW);have HL8:=aA p4;have P5:=aA p5;have RS:w.heap.size+1+1≠w.heap.size+1+1+1:=by omega
  have RQ:w.heap.size+1+1+1≠w.heap.size+1+1:=by omega
  have xW:w.heap.size<=w.heap.size+1+1:=by omega
  have le2:w.heap.size<=w.heap.size+1+1+1:=by omega
  have Hb:Hid (Below w.heap.size w w8):=B4.o.tm Ak;have HQ:=aA Dq3;have HR:=aA Rg;have hk7:k7<=n+m+10:=by omega
  have hk8:k8<=n+m+10:=by omega
  clear Dq3 Rg M4 p4 p5 Ak fe CW B4 Cd;generalize w.heap.size+1+1+1=gr at*
  generalize w.heap.size+1+1=gq at*
  go_wp2_with fail
  have X1:=(HR.o.other ⟨gq,0,none⟩ RS (.bool s7)).other ⟨gq,1,none⟩ RS (.slice A7 k7 c7);have X2:=((HQ.o.set (.bool s7) (.slice A7 k7 c7)).other ⟨gr,0,none⟩ RQ (.bool s8)).other ⟨gr,1,none⟩ RQ (.slice A8 k8 c8);refine bK (BN (by rfl) _ _ _ _ _ _ _ _ _ _ _ _ (by rfl) X2 (by rfl) (X1.set _ _) underlying41 rfl bQ underlying41 rfl bQ) rfl ?_;cases Hs0.o
  cases Ht0.o
  exact ⟨s7,A7,k7,c7,ls,s8,A8,k8,c8,l8,rfl,hk7,hk8,m1,m2,p1,p2,X1.limbs _ _ rfl rfl (HQ.o.limbs _ _ rfl rfl HL7.o),X1.limbs _ _ rfl rfl (HQ.o.limbs _ _ rfl rfl HL8.o),M5.o.as HV.o.1,P5.o.as HV.o.2,hf7.o,(((Hb.o.setCell (p:=⟨gq,0,none⟩) xW _).setCell (p:=⟨gq,1,none⟩) xW _).setCell (p:=⟨gr,0,none⟩) le2 _).setCell (p:=⟨gr,1,none⟩) le2 _⟩
theorem aoB:aB 79 #[.agg #[.bool s,.slice A n c],.agg #[.bool t,.slice B m d]] w (anp w (n+m+10) (aI s xs) (aI t ys)):=arV s t A B n m c d xs ys w hx hy jV hc nk hd hn hm h0 _ (.inl rfl)
theorem Zj:aB 93 #[.agg #[.bool s,.slice A n c],.agg #[.bool t,.slice B m d]] w (anp w (n+m+10) (aI s xs) (aI t ys)):=arV s t A B n m c d xs ys w hx hy jV hc nk hd hn hm h0 _ (.inr rfl)
end
def Xu (h:bY xs) (hn:xs.length=n):cU xs n=n:=by
 have h1:=bF h.1 hn;have h2:=h1.1.inj h h1.2;have h3:=dh List.length h2;rw [cQ,hn] at h3;have:=cS xs n;omega
def AZ (w:World) (K:Nat) (a b:Int) (e:Ending) (w':World):Prop:=
 ∃s1 A1 k1 c1 l1,e=.returned (.tuple #[.agg #[.bool s1,.slice A1 k1 c1],.int .i64 (if a % b=0 then 0 else 4)])∧k1<=K∧k1<=c1∧c1<=9223372036854775807∧aD w' A1 k1 l1∧(a % b=0->dN s1 l1 (a / b))∧(0<k1->∀y,A1=some y->w.heap.size<=y.block)∧Below w.heap.size w w'
def zW {s:Bool} {z:Int}(h:dN s xs z) {n:Nat}(hn:xs.length=n):zI s (cU xs n)=0↔z=0:=by
 rw [Xu h.pl hn,h.OP,hn];cases n with
 | zero=>exact ⟨fun _=>rfl,fun _=>by cases s<;>rfl⟩
 | succ n=>exact ⟨fun e=>absurd e (by cases s<;>simp [zI]),fun e=>by omega⟩
def XI (z:Int):Oi z=0↔z=0:=by unfold Oi;split<;>(try split)<;>omega
def asD (F:FuncId):Prop:=
 ∀(s:Bool) (A:Option Addr) (n c:Nat) (xs:List Int) (z:Int) (w:World),aD w A n xs->dN s xs z->n<=c->c<=9223372036854775807->n<=8500000000000->aB F #[.agg #[.bool s,.slice A n c]] w fun e w'=>∃v:Int,e=.returned (.int .i64 v)∧(v=0↔z=0)∧Below w.heap.size w w'
def ajV:asD 72:=fun s A n c xs z w hx hz h1 h2 h3=>(yI s A n c xs w hx h1 h2 (by omega)).mono fun _ _ ⟨e,h⟩=>⟨_,e,zW hz hx.len,h⟩
def ajW:asD 68:=fun s A n c xs z w hx hz h1 h2 h3=>(R9 s A n c xs w hx h1 h2 (by omega)).mono fun _ _ ⟨e,h⟩=>⟨_,e,by rw [hz.eq];exact XI _,h⟩
section
variable (s t : Bool) (A B : Option Addr) (n m c d : Nat) (xs ys : List Int) (w : World) (hx : aD w A n xs) (hy : aD w B m ys) (jV : n <= c) (hc : c <= 9223372036854775807) (nk : m <= d) (hd : d <= 9223372036854775807) (hn : n <= 3900000000000) (hm : m <= 3900000000000) (h0 : 0 < limbs ys)
include hx hy jV hc nk hd hn hm h0
theorem aco (F:FuncId) (hF:F=42∨F=75):aB F #[.agg #[.bool s,.slice A n c],.agg #[.bool t,.slice B m d]] w (AZ w (n+m+10) (aI s xs) (aI t ys)):=by
 have C1:=aA (fun W (h:Below w.heap.size w W)=>aoB s t A B n m c d xs ys W (hx.aC h) (hy.aC h) jV hc nk hd hn hm h0);have C2:=aA (fun W (h:Below w.heap.size w W)=>Zj s t A B n m c d xs ys W (hx.aC h) (hy.aC h) jV hc nk hd hn hm h0);have al:∀(W:World) (o:Obj),Below W.heap.size W (W.alloc o):=fun W o=>aU.alloc aL o;have da:=((Duo.new w (.bool s) (.slice A n c)).aC (al _ (.cells #[.bool t,.slice B m d] 41))).aC (al _ (.cells #[.bool false,.slice none 0 0] 41));have db:=(Duo.new (w.alloc (.cells #[.bool s,.slice A n c] 41)) (.bool t) (.slice B m d)).aC (al _ (.cells #[.bool false,.slice none 0 0] 41));have dr:=Duo.new ((w.alloc (.cells #[.bool s,.slice A n c] 41)).alloc (.cells #[.bool t,.slice B m d] 41)) (.bool false) (.slice none 0 0);rw [aJ] at db;rw [aJ,aJ] at dr;have b3:Below w.heap.size w (((w.alloc (.cells #[.bool s,.slice A n c] 41)).alloc (.cells #[.bool t,.slice B m d] 41)).alloc (.cells #[.bool false,.slice none 0 0] 41)):=((al w _).alloc (by simp) _).alloc (by simp;omega) _;generalize aI s xs=za at*
 generalize aI t ys=zb at*
 rcases hF with rfl | rfl;all_goals
  first
  | with_reducible show Calls _ 42 _ _ _
    (go_enter func42,ntmps42);have Cd:=C1;have Cs:=aA ajV
  | go_enter func75,ntmps75
    have Cd:=C2;have Cs:=aA ajW
  clear C1 C2;go_wp2_with fail
  have a0:=da.cell0;have a1:=da.cell1;have e0:=db.cell0;have e1:=db.cell1;have Dr:=aA dr;clear da db dr hx hy al h0;generalize ((w.alloc (.cells #[.bool s,.slice A n c] 41)).alloc (.cells #[.bool t,.slice B m d] 41)).alloc (.cells #[.bool false,.slice none 0 0] 41)=wt at*
  go_wp2_with fail
  refine (Cd.o _ (by exact b3)).mono ?_;rintro e w1 ⟨s1,A1,k1,c1,l1,s2,A2,k2,c2,l2,rfl,g1,g2,g3,g4,g5,g6,g7,g8,g9,jq,iG,fu⟩;have al:∀(W:World) (o:Obj),Below W.heap.size W (W.alloc o):=fun W o=>aU.alloc aL o;have dq:=(Duo.new w1 (.bool s1) (.slice A1 k1 c1)).aC (al _ (.cells #[.bool s2,.slice A2 k2 c2] 41));have de:=Duo.new (w1.alloc (.cells #[.bool s1,.slice A1 k1 c1] 41)) (.bool s2) (.slice A2 k2 c2);rw [aJ] at de;have cN:Below wt.heap.size wt ((w1.alloc (.cells #[.bool s1,.slice A1 k1 c1] 41)).alloc (.cells #[.bool s2,.slice A2 k2 c2] 41)):=(fu.alloc fu.size _).alloc (by have:=fu.size;simp;omega) _;have hL:=(g7.alloc (.cells #[.bool s1,.slice A1 k1 c1] 41)).alloc (.cells #[.bool s2,.slice A2 k2 c2] 41);have hL2:=(g8.alloc (.cells #[.bool s1,.slice A1 k1 c1] 41)).alloc (.cells #[.bool s2,.slice A2 k2 c2] 41);have Hz:=aA g9;have HF:Hid (0<k1->∀y,A1=some y->w.heap.size<=y.block):=fun h y hy=>aG b3.size (iG h y hy);have HL:=aA hL;have HL2:=aA hL2;have HB:=aA cN;have HDq:=aA dq;have HDe:=aA de;have G10:=aA jq;have e2:=de.cell0;have e3:=de.cell1;clear a0 a1 e0 e1 dq de hL hL2 cN g7 g8 g9 jq iG al;go_wp2_with fail
  have hlt:=fu.size;clear fu;generalize (w1.alloc (.cells #[.bool s1,.slice A1 k1 c1] 41)).alloc (.cells #[.bool s2,.slice A2 k2 c2] 41)=w2 at*
  refine (Cs.o s2 A2 k2 c2 l2 _ w2 HL2.o G10.o g5 g6 (by omega)).mono ?_;rintro e w3 ⟨sg,rfl,KF,Iz⟩;have nZ:Below wt.heap.size wt w3:=HB.o.tm Iz;have Dq3:=HDq.o.aC Iz;have Rg:=Dr.o.aC nZ;have q0:=Dq3.cell0;have q1:=Dq3.cell1;have r0:=Rg.cell0;have r1:=Rg.cell1;have f0:=Rg.frozen 0;have f1:=Rg.frozen 1;have hL3:=aA (HL.o.aC Iz);have xW:w.heap.size<=w.heap.size+1+1:=by omega
  have Hb:Hid (Below w.heap.size w w3):=b3.tm nZ;have HD3:=aA Rg;have Hsg:=aA KF;clear nZ Iz Dq3 Rg b3 Cd HL HB HDq HDe KF e2 e3 G10 Cs;by_cases hz:za % zb=0
  . have uF:(sg==0)=true:=by simp;exact Hsg.o.2 hz
    (have vH:(sg !=0)=false:=by simp;exact Hsg.o.2 hz);have HZ:=aA hz;clear hz;(go_wp2_with fail);refine bK (results_cell_tmp (by rfl) _ _ _ _ _ _ _ (by rfl) (HD3.o.set _ _) underlying41 rfl bQ) rfl ?_;unfold AZ;rw [aM HZ.o];exact ⟨s1,A1,k1,c1,l1,rfl,g1,g3,g4,HD3.o.limbs _ _ rfl rfl hL3.o,fun _=>Hz.o,HF.o,(Hb.o.setCell (p:=⟨w.heap.size+1+1,0,none⟩) xW _).setCell (p:=⟨w.heap.size+1+1,1,none⟩) xW _⟩
  . have uF:(sg==0)=false:=by simp;exact fun e=>hz (Hsg.o.1 e)
    (have vH:(sg !=0)=true:=by simp;exact fun e=>hz (Hsg.o.1 e));have HZ:=aA hz;clear hz;(go_wp2_with fail);refine bK (results_cell_tmp (by rfl) _ _ _ _ _ _ _ (by rfl) (HD3.o.set _ _) underlying41 rfl bQ) rfl ?_;unfold AZ;rw [aY HZ.o];exact ⟨false,none,0,0,[],rfl,by omega,by omega,by omega,aD.nil _ _,fun h=>absurd h HZ.o,fun h=>absurd h (by omega),(Hb.o.setCell (p:=⟨w.heap.size+1+1,0,none⟩) xW _).setCell (p:=⟨w.heap.size+1+1,1,none⟩) xW _⟩
theorem MB:aB 42 #[.agg #[.bool s,.slice A n c],.agg #[.bool t,.slice B m d]] w (AZ w (n+m+10) (aI s xs) (aI t ys)):=aco s t A B n m c d xs ys w hx hy jV hc nk hd hn hm h0 _ (.inl rfl)
theorem Oz:aB 75 #[.agg #[.bool s,.slice A n c],.agg #[.bool t,.slice B m d]] w (AZ w (n+m+10) (aI s xs) (aI t ys)):=aco s t A B n m c d xs ys w hx hy jV hc nk hd hn hm h0 _ (.inr rfl)
end
def aoA (s t:Bool) (A B:Option Addr) (n m c d:Nat) (xs ys:List Int) (w:World) (hx:aD w A n xs) (hy:aD w B m ys) (jV:n<=c) (hc:c<=9223372036854775807) (nk:m<=d) (hd:d<=9223372036854775807) (hn:n<=3900000000000) (hm:m<=3900000000000):
 aB 47 #[.agg #[.bool s,.slice A n c],.agg #[.bool t,.slice B m d]] w (iA w ((Nat.gcd (limbs xs) (limbs ys):Nat):Int) (max n m)):=by
 have al:∀(W:World) (o:Obj),Below W.heap.size W (W.alloc o):=fun W o=>aU.alloc aL o;have da:=((Duo.new w (.bool s) (.slice A n c)).aC (al _ (.cells #[.bool t,.slice B m d] 41))).aC (al _ (.cells #[.bool false,.slice none 0 0] 41));have db:=(Duo.new (w.alloc (.cells #[.bool s,.slice A n c] 41)) (.bool t) (.slice B m d)).aC (al _ (.cells #[.bool false,.slice none 0 0] 41));have dr:=Duo.new ((w.alloc (.cells #[.bool s,.slice A n c] 41)).alloc (.cells #[.bool t,.slice B m d] 41)) (.bool false) (.slice none 0 0);rw [aJ] at db;rw [aJ,aJ] at dr;have b3:Below w.heap.size w (((w.alloc (.cells #[.bool s,.slice A n c] 41)).alloc (.cells #[.bool t,.slice B m d] 41)).alloc (.cells #[.bool false,.slice none 0 0] 41)):=((al w _).alloc (by simp) _).alloc (by simp;omega) _;have kR:=hx.len;have wM:=hy.len;have HxP:=aA (bF hx.ok kR);have HyP:=aA (bF hy.ok wM);have l1:=cS xs n;have l2:=cS ys m;have Cx:=aA (fun W (h:Below w.heap.size w W)=>EJ A n c xs W (hx.aC h) jV hc (by omega));have Cy:=aA (fun W (h:Below w.heap.size w W)=>EJ B m d ys W (hy.aC h) nk hd (by omega));have GK:Hid ((xs.take (cU xs n)).length<=max n m):=by show _<=_;rw [cQ];omega
 have OD:Hid ((ys.take (cU ys m)).length<=max n m):=by show _<=_;rw [cQ];omega
 go_enter func47,ntmps47
 go_wp2_with fail
 have a0:=da.cell0;have a1:=da.cell1;have e0:=db.cell0;have e1:=db.cell1;have La:=da.lt;have Lb:=db.lt;have Dr:=aA dr;clear da db dr hx hy al;generalize ((w.alloc (.cells #[.bool s,.slice A n c] 41)).alloc (.cells #[.bool t,.slice B m d] 41)).alloc (.cells #[.bool false,.slice none 0 0] 41)=wt at*
 have HGG:Hid ((limbs xs).gcd (limbs ys)=(limbs (xs.take (cU xs n))).gcd (limbs (ys.take (cU ys m)))):=by show _=_;rw [HxP.o.2,HyP.o.2]
 generalize xs.take (cU xs n)=us at*
 generalize ys.take (cU ys m)=vs at*
 have ow:Hid (∀W,Below wt.heap.size wt W->W.cell? ⟨w.heap.size,0,none⟩=some (.bool s)∧W.cell? ⟨w.heap.size,1,none⟩=some (.slice A n c)∧W.cell? ⟨w.heap.size+1,0,none⟩=some (.bool t)∧W.cell? ⟨w.heap.size+1,1,none⟩=some (.slice B m d)):=fun W hW=>
  ⟨(hW.cell (p:=⟨w.heap.size,0,none⟩) La).trans a0,(hW.cell (p:=⟨w.heap.size,1,none⟩) La).trans a1,(hW.cell (p:=⟨w.heap.size+1,0,none⟩) Lb).trans e0,(hW.cell (p:=⟨w.heap.size+1,1,none⟩) Lb).trans e1⟩
 go_wp2_with fail
 go_region_held3 (fun W=>W.cell? ⟨w.heap.size,0,none⟩=some (.bool s)∧W.cell? ⟨w.heap.size,1,none⟩=some (.slice A n c)∧W.cell? ⟨w.heap.size+1,0,none⟩=some (.bool t)∧W.cell? ⟨w.heap.size+1,1,none⟩=some (.slice B m d))
  (first | go_keep | exact ow.o _ aU.drew | exact ow.o _ aU | exact ow.o _ NI | exact ow.o _ Ge)
  (first
    | (go_at_call 81;(with_reducible show Calls _ _ #[.slice A n c] _ _);refine (Cx.o _ (by first | exact b3.tm aU.drew | exact b3)).mono ?_;rintro e wx ⟨A1,c1,rfl,x1,x2,x3,alN⟩;have NI:Below wt.heap.size wt wx:=(by first | exact aU.drew.trans alN | exact alN))
    | (go_at_call 81;refine (Cy.o _ (b3.tm NI)).mono ?_;rintro e wy ⟨A2,c2,rfl,y1,y2,y3,alL⟩;have Ge:Below wt.heap.size wt wy:=NI.tm alL))
 have X3:=aA (x3.aC alL);have Y3:=aA y3;have HBy:=aA Ge;clear NI alN Ge alL x3 y3 ow Cx Cy a0 a1 e0 e1 La Lb l1 l2 kR wM;obtain ⟨K,hK⟩:∃K,max n m=K:=⟨_,rfl⟩;rw [hK] at GK OD;have hK1:K<=3900000000000:=by omega
 have HKm:=aA hK;clear hK;have hP1:Hid (bY us):=HxP.o.1;have hP2:Hid (bY vs):=HyP.o.1;obtain ⟨G,hG⟩:∃G,(limbs us).gcd (limbs vs)=G:=⟨_,rfl⟩;have HG:=aA hG;have aCd:Hid ((limbs xs).gcd (limbs ys)=G):=HGG.o.trans hG;clear HxP HyP hG HGG;obtain ⟨n5,hn5⟩:∃k,us.length=k:=⟨_,rfl⟩;obtain ⟨n6,hn6⟩:∃k,vs.length=k:=⟨_,rfl⟩;rw [hn5] at x1 X3 GK ⊢;rw [hn6] at y1 Y3 OD ⊢;clear hn5 hn6;go_wp2_with fail
 go_loopg [5,6,7,8,9] (limbs vs+1) (fun gk v5 v6 _ _ _ wr=>∃A5 n5 c5 Jw A6 n6 c6 zS,v5=.slice A5 n5 c5∧v6=.slice A6 n6 c6∧n5<=c5∧c5<=9223372036854775807∧n6<=c6∧c6<=9223372036854775807∧Hid (n5<=K∧n6<=K)∧Hid (aD wr A5 n5 Jw)∧Hid (aD wr A6 n6 zS)∧Hid (bY Jw∧bY zS)∧Hid ((limbs Jw).gcd (limbs zS)=G)∧Hid (limbs zS<gk)∧Hid (Below wt.heap.size wt wr))
 case atStart=>exact ⟨A1,n5,c1,us,A2,n6,c2,vs,rfl,rfl,x1,x2,y1,y2,⟨GK.o,OD.o⟩,X3,Y3,⟨hP1.o,hP2.o⟩,HG,xy _,HBy⟩
 case round=>
  clear x1 x2 y1 y2 X3 Y3 hP1 hP2 HG HBy GK OD;obtain ⟨A5,n5,c5,Jw,A6,n6,c6,zS,rfl,rfl,u1,u2,u3,u4,bu,L5,L6,hPP,hG,OE,hB⟩:=hrel;by_cases h0:n6=0
  . have h0':¬(0:Int)<(n6:Int):=by omega
    have hz:limbs zS=0:=hPP.o.2.kN.2 (by rw [L6.o.len];exact h0);have NB:Hid (limbs Jw=G):=by
     have:=hG.o;rw [hz,UG] at this;exact this
    have Cm:=aA (Al false A5 n5 c5 Jw wr L5.o u1 u2 (by have:=bu.o;omega));have Rg:=Dr.o.aC hB.o;clear h0 hz L5 L6 hPP hG OE;(go_wp2_with fail);refine Cm.o.mono ?_;rintro e w7 ⟨s7,A7,k7,c7,ls,rfl,m1,m2,m3,m4,m5,m6,rE⟩;have Yn:=Rg.aC rE;have r0:=Yn.cell0;have r1:=Yn.cell1;have f0:=Yn.frozen 0;have f1:=Yn.frozen 1;(have xW:w.heap.size<=w.heap.size+1+1:=by omega);have fe:Below wt.heap.size wt w7:=hB.o.tm rE;have Hb:Hid (Below w.heap.size w w7):=b3.tm fe;have HL:=aA m4;have HD:=aA Yn;have hz7:dN s7 ls (G:Int):=by
     have h:=m5;rw [show aI false Jw=(G:Int) by unfold aI;rw [aY (by decide),NB.o]] at h;exact h
    have HZ:=aA hz7;have hf7:Hid (0<k7->∀y,A7=some y->w.heap.size<=y.block):=fun h0 y hy=>aG (aG b3.size hB.o.size) (m6 h0 y hy);(have Sy:k7<=K:=by have:=bu.o;omega);clear m4 m5 m6 hz7 fe rE Rg Yn Cm;(go_wp2);exact bK (dO (fn:=Tryz.f47) rfl _ _ _ _ _ _ _ rfl (HD.o.set _ _) underlying41 rfl bQ) rfl
     ⟨s7,A7,k7,c7,ls,rfl,m1,m2,by rw [HKm.o];exact Sy,HD.o.limbs _ _ rfl rfl HL.o,by rw [aCd.o];exact HZ.o,hf7.o,(Hb.o.setCell (p:=⟨w.heap.size+1+1,0,none⟩) xW _).setCell (p:=⟨w.heap.size+1+1,1,none⟩) xW _⟩
  . have h0':(0:Int)<(n6:Int):=by omega
    have sX:0<limbs zS:=uS (fun e=>h0 (by have:=hPP.o.2.kN.1 e;rw [L6.o.len] at this;exact this));have Cd:=aA (Vf A5 A6 n5 n6 c5 c6 Jw zS wr L5.o L6.o u1 u2 u3 u4 (by have:=bu.o;omega) (by have:=bu.o;omega) sX);have Hpos:=aA sX;clear h0 sX;(go_wp2_with fail);refine Cd.o.mono ?_;rintro e w3 ⟨qs,rs,A7,k7,c7,A8,k8,c8,rfl,z1,z2,z3,z4,z5,z6,z7,z8,z9,z10,z11,z12,nZ⟩;(have CE:limbs rs<limbs zS:=by rw [z4];exact jy _ Hpos.o);have hk8:k8<=n6:=by
     have q1:=Ko z2 (n:=n6) (by have:=dc L6.o.ok;rw [L6.o.len] at this;omega);rw [z12.len] at q1;exact q1
    have azW:Hid (n6<=K∧k8<=K):=⟨bu.o.2,by have:=bu.o;omega⟩;have L6':=aA (L6.o.aC nZ);have L8:=aA z12;have azQ:Hid (bY zS∧bY rs):=⟨hPP.o.2,z2⟩;have hG2:Hid ((limbs zS).gcd (limbs rs)=G):=by
     show _=_;rw [z4,<- hG.o,Nn,<- Nat.gcd_rec,Nn]
    (have ayM:Hid (limbs rs<gk-1):=by have:=OE.o;show _<_;omega);(have ayL:Hid (gk-1<gk):=by have:=OE.o;show _<_;omega);have hB3:Hid (Below wt.heap.size wt w3):=hB.o.tm nZ;clear z1 z2 z3 z4 z5 z6 z11 z12 CE hk8 nZ hB L5 L6 hPP hG OE bu Cd Hpos;(go_wp2_with fail);go_roundg (gk-1)
    case measure=>exact ayL.o
    case rel=>exact ⟨A6,n6,c6,zS,A8,k8,c8,rs,rfl,rfl,u3,u4,z9,z10,azW,L6',L8,azQ,hG2,ayM,hB3⟩
open aF
def cW:(prog.info? 51).map (·.size)=some 3:=by kernel_rfl
def aX (w:World) (g:Nat) (a b c:Value):Prop:=w.heap[g]? =some (.cells #[a,b,c] 51 (0,0))
section
variable {w w' : World} {g : Nat} {a b c : Value}
section
variable (h:aX w g a b c)
include h
theorem aX.lt:g<w.heap.size:=(jm.1 h).1
theorem aX.cell0:w.cell? ⟨g,0,none⟩=some a:=by rw [dQ w g 0 _ _ (0,0) h];rfl
theorem aX.cell1:w.cell? ⟨g,1,none⟩=some b:=by rw [dQ w g 1 _ _ (0,0) h];rfl
theorem aX.aN:w.cell? ⟨g,2,none⟩=some c:=by rw [dQ w g 2 _ _ (0,0) h];rfl
end
def aX.frozen (h:aX w g a b c) (i:Nat):w.frozen? ⟨g,i,none⟩=false:=by unfold aX at h;simp [World.frozen?,h]
section
variable (h:aX w g a b c)
include h
theorem aX.keep (hk:w'.heap[g]? =w.heap[g]?):aX w' g a b c:=hk.trans h
theorem aX.aC (hb:Below w.heap.size w w'):aX w' g a b c:=h.keep (hb.block g h.lt)
theorem aX.set (x y z:Value):aX (((w.setCell ⟨g,0,none⟩ x).setCell ⟨g,1,none⟩ y).setCell ⟨g,2,none⟩ z) g x y z:=by
 unfold aX at h ⊢;simp [World.setCell,wR,h]
theorem aX.ZY (z:Value):aX (w.setCell ⟨g,2,none⟩ z) g a b z:=by
 unfold aX at h ⊢;simp [World.setCell,wR,h]
theorem aX.far {p:Addr}(hp:g≠p.block) (u:Value):aX (w.setCell p u) g a b c:=(Ep w p u g hp).trans h
end
def aX.new (w:World) (a b c:Value):aX (w.alloc (.cells #[a,b,c] 51)) w.heap.size a b c:=bM w _
end
def Says (w:World) (P:Prop) (e:Ending) (w':World):Prop:=∃b:Bool,e=.returned (.bool b)∧(b=true↔P)∧Below w.heap.size w w'
section
variable (S:Nat->Prop)
include S
theorem sU (n:Nat) (w:World) (v:Value) (f:Pn (n+1)) (h:aO S (n+1) w v f):
 aB 51 #[v,.int .i64 ((n:Int)+1)] w (Says w (f=0)):=by
 obtain ⟨B,c,rfl,h1,h2,h3⟩:=h;have hz:(((n:Int)+1)==0)=false:=mD.2 (by omega);have hf:Hid (((((kids f).len:Nat):Int)==0)=true↔f=0):=by
  show _↔_;rw [Qy];constructor
  . intro h
    (have h2:(kids f).len=0:=by omega);exact jC.1 h2
  . intro h
    have h2:=jC.2 h;omega
 clear h3;generalize (kids f).len=m at*
 unfold bE;go_enter func51,ntmps51
 go_wp2_with fail
 go_ret;exact ⟨_,rfl,hf.o,aU.alloc aL _⟩
theorem apk (P:Nat->Value->Prop) (w:World) (A:Option Addr) (m c:Nat) (h:RowK S P w A m) (hm:0<m) (hm2:m<=9223372036854775807):
 aB 90 #[.slice A m c] w (fun e w'=>∃s A1 k1 c1 B1 m1 d1,e=.returned (bE s A1 k1 c1 B1 m1 d1)∧P (m-1) (bE s A1 k1 c1 B1 m1 d1)∧Below w.heap.size w w'):=by
 obtain ⟨b,o,rfl,hb,hl,hk⟩:=h hm;obtain ⟨s,A1,k1,c1,B1,m1,d1,h1,h2,h3,h4⟩:=hk (m-1) (by omega);have ew:IntKind.i64.wrap ((m:Int)-1)=((m-1:Nat):Int):=by rw [bP _ (by omega)];omega
 have rT:(0:Int)<=((m-1:Nat):Int):=by omega
 have hi1:((m-1:Nat):Int)<(m:Int):=by omega
 have al:Below w.heap.size w (w.alloc (.cells #[.bool false,.slice none 0 0,.slice none 0 0] 51)):=aU.alloc aL _;have g1:=(al.cell (p:=⟨b,o+(m-1)*3,none⟩) hl).trans h1;have g2:=(al.cell (p:=⟨b,o+(m-1)*3+1,none⟩) hl).trans h2;have g3:=(al.cell (p:=⟨b,o+(m-1)*3+2,none⟩) hl).trans h3;have H4:=aA h4;clear h1 h2 h3 h4 hk al hm h;generalize m-1=i at*
 go_enter func90,ntmps90
 go_wp2_with fail
 exact bK (v:=.agg #[.bool s,.slice A1 k1 c1,.slice B1 m1 d1]) (dO (fn:=f90) rfl _ _ _ _ _ _ _ rfl (aX.new w (.bool s) (.slice A1 k1 c1) (.slice B1 m1 d1)) underlying51 rfl cW) rfl
  ⟨s,A1,k1,c1,B1,m1,d1,rfl,H4.o,aU.alloc aL _⟩
theorem aaD (w:World) (v:Value) (f:Pn 0) (h:aO S 0 w v f) (K:Nat) (hK:K<=4000000000000) (hk:aH.nm f<2^(64*K)):
 aB 51 #[v,.int .i64 0] w (Says w (f=0)):=by
 obtain ⟨s,A,k,c,ls,rfl,h1,h2,h3,h4,_⟩:=h;have Ds:k<=K:=by
  have h5:=h4.cap (K:=K) hk;have h6:=h3.len;omega
 have Cs:=aA (fun W (hW:Below w.heap.size w W)=>yI s A k c ls W (h3.aC hW) h1 h2 (by omega));have hz:Hid ((zI s (cU ls k)==0)=true↔f=0):=by
  show _↔_;rw [Qy];exact (zW h4 h3.len).trans ⟨fun e=>e,fun e=>e⟩
 have HB:Hid (Below w.heap.size w (w.alloc (.cells #[.bool s,.slice A k c,.slice none 0 0] 51))):=aU.alloc aL _;clear h3 h4 hk;unfold bE;go_enter func51,ntmps51
 go_wp2_with fail
 refine (Cs.o _ (by exact HB.o)).mono ?_;rintro e w1 ⟨rfl,cZ⟩;have wu:=aA (HB.o.tm cZ);clear cZ Cs;go_wp2_with fail
 go_ret;exact ⟨_,rfl,hz.o,wu.o⟩
theorem afB (n:Nat) (w:World) (v:Value) (f:Pn n) (h:aO S n w v f) (K:Nat) (hK:K<=4000000000000) (hk:aH.nm f<2^(64*K)):
 aB 51 #[v,.int .i64 (n:Int)] w (Says w (f=0)):=by
 cases n with
 | zero=>exact aaD S w v f h K hK hk
 | succ n=>exact sU S n w v f h
theorem Vi (n:Nat) (w:World) (B:Option Addr) (m c:Nat) (f:Poly (Pn n)) (h:RowK S (fun i u=>aO S n w u (f.co i)) w B m) (hs:f.Sh m) (hmc:m<=c) (hc:c<=9223372036854775807) (hn:n<=100) (K:Nat) (hK:K<=4000000000000) (hk:∀i,aH.nm (f.co i)<2^(64*K)):
 aB 57 #[bE false none 0 0 B m c,.int .i64 ((n:Int)+1)] w (bW S w (n+1) (mkK f)):=by
 have H:=aA h;have Hs:=aA hs;have Hk:=aA hk;have ew:IntKind.i64.wrap ((n:Int)+1-1)=(n:Int):=by rw [bP _ (by omega)];omega
 have t1:=(aX.new w (.bool false) (.slice none 0 0) (.slice B m c)).aC (aU.alloc aL (.cells #[.bool false,.slice none 0 0,.slice none 0 0] 51));have t2:=aX.new (w.alloc (.cells #[.bool false,.slice none 0 0,.slice B m c] 51)) (.bool false) (.slice none 0 0) (.slice none 0 0);rw [aJ] at t2;have T1:=aA t1;have T2:=aA t2;have HB:Hid (Below w.heap.size w ((w.alloc (.cells #[.bool false,.slice none 0 0,.slice B m c] 51)).alloc (.cells #[.bool false,.slice none 0 0,.slice none 0 0] 51))):=(aU.alloc aL _).alloc (by simp) _;clear h hs hk t1 t2;unfold bE;go_enter func57,ntmps57
 go_wp2_with fail
 go_loopg [] (m+1) (fun gk wr=>∃m':Nat,m'<gk∧m'<=m∧Hid (f.Sh m')∧Hid (aX wr w.heap.size (.bool false) (.slice none 0 0) (.slice B m' c))∧Hid (aX wr (w.heap.size+1) (.bool false) (.slice none 0 0) (.slice none 0 0))∧Hid (Below w.heap.size w wr))
 case atStart=>exact ⟨m,by omega,aL,Hs,T1,T2,HB⟩
 case round=>
  clear T1 T2 HB Hs;obtain ⟨m',hg,hm,hs,h1,h2,hb⟩:=hrel;obtain ⟨wp,rfl⟩:∃wp:World,wp=wr:=⟨_,rfl⟩;have k0:=h1.o.cell0;have k1:=h1.o.cell1;have k2:=h1.o.aN;have k3:=h1.o.frozen 2;have r0:=h2.o.cell0;have r1:=h2.o.cell1;have r2:=h2.o.aN;have r3:=h2.o.frozen 0;have r4:=h2.o.frozen 1;have r5:=h2.o.frozen 2;have Fin:Hid (f.len=m'->∀W,Below w.heap.size w W->bW S w (n+1) (mkK f) (.returned (.agg #[.bool false,.slice none 0 0,.slice B m' c])) (((W.setCell ⟨w.heap.size+1,0,none⟩ (.bool false)).setCell ⟨w.heap.size+1,1,none⟩ (.slice none 0 0)).setCell ⟨w.heap.size+1,2,none⟩ (.slice B m' c))):=fun hl W hW=>by
   subst hl;have nI:Below w.heap.size w (((W.setCell ⟨w.heap.size+1,0,none⟩ (.bool false)).setCell ⟨w.heap.size+1,1,none⟩ (.slice none 0 0)).setCell ⟨w.heap.size+1,2,none⟩ (.slice B f.len c)):=((hW.setCell (p:=⟨w.heap.size+1,0,none⟩) (rI _) _).setCell (p:=⟨w.heap.size+1,1,none⟩) (rI _) _).setCell (p:=⟨w.heap.size+1,2,none⟩) (rI _) _;refine ⟨false,none,0,0,B,f.len,c,rfl,?_,nI⟩;have h3:=((H.o.le hm).aC nI).imp (T:=fun b=>S b∨w.heap.size<=b) (fun b h=> .inl h) aL (fun _ _ _ _=>rfl) (Q:=fun i u=>aO (fun b=>S b∨w.heap.size<=b) n (((W.setCell ⟨w.heap.size+1,0,none⟩ (.bool false)).setCell ⟨w.heap.size+1,1,none⟩ (.slice none 0 0)).setCell ⟨w.heap.size+1,2,none⟩ (.slice B f.len c)) u (f.co i)) fun i v _ hv=>hv.mono fun b h=> .inl h;exact ⟨B,c,rfl,aG hm hmc,hc,h3⟩
  by_cases h0:0<m'
  . have hp:(0:Int)<(m':Int):=by omega
    have hr:=(H.o.le hm).aC hb.o;have Ce:=aA (apk S _ wp B m' c hr h0 (by omega));(have ew2:IntKind.i64.wrap ((m':Int)-1)=((m'-1:Nat):Int):=by rw [bP _ (by omega)];omega);(have z1:(0:Int)<=((m'-1:Nat):Int):=by omega);(have z2:((m'-1:Nat):Int)<=(c:Int):=by omega);clear hr;(go_wp2_with fail);refine Ce.o.mono ?_;rintro e w1 ⟨s,A1,q1,c1,B1,m1,d1,rfl,hv,cZ⟩;have wN:=hv.aC cZ;have Cn:=aA (afB S n w1 _ _ wN K hK (Hk.o _));have H1:=aA (h1.o.aC cZ);have H2:=aA (h2.o.aC cZ);have wu:=aA (hb.o.tm cZ);clear hv wN cZ Ce k0 k1 k2 k3 r0 r1 r2 r3 r4 r5 h1 h2 hb;unfold bE at Cn ⊢;(go_wp2_with fail);refine Cn.o.mono ?_;rintro e w2 ⟨b,rfl,NJ,cN⟩;have H1':=aA (H1.o.aC cN);have H2':=aA (H2.o.aC cN);have FK:=aA (wu.o.tm cN);have k0:=H1'.o.cell0;have k1:=H1'.o.cell1;have k2:=H1'.o.aN;have k3:=H1'.o.frozen 2;have r0:=H2'.o.cell0;have r1:=H2'.o.cell1;have r2:=H2'.o.aN;have r3:=H2'.o.frozen 0;have r4:=H2'.o.frozen 1;have r5:=H2'.o.frozen 2;have Yi:=aA NJ;clear cN Cn H1 H2 wu NJ;cases b with
    | true=>
      have uu:Hid (f.Sh (m'-1)):=fun i hi=>by
       by_cases e:i=m'-1
       . rw [e];exact Yi.o.1 rfl
       . exact hs.o i (by omega)
      have T1:Hid (aX (w2.setCell ⟨w.heap.size,2,none⟩ (.slice B (m'-1) c)) w.heap.size (.bool false) (.slice none 0 0) (.slice B (m'-1) c)):=H1'.o.ZY _;have T2:Hid (aX (w2.setCell ⟨w.heap.size,2,none⟩ (.slice B (m'-1) c)) (w.heap.size+1) (.bool false) (.slice none 0 0) (.slice none 0 0)):=H2'.o.far (by show _≠w.heap.size;omega) _;have HB3:Hid (Below w.heap.size w (w2.setCell ⟨w.heap.size,2,none⟩ (.slice B (m'-1) c))):=FK.o.setCell (p:=⟨w.heap.size,2,none⟩) aL _;clear hs H1' H2' FK Yi r0 r1 r2 r3 r4 r5;(go_wp2_with fail);go_roundg (gk-1)
      case measure=>omega
      case rel=>exact ⟨m'-1,by omega,by omega,uu,T1,T2,HB3⟩
    | false=>
      have hl:f.len=m':=by
       (have hne:¬f.co (m'-1)=0:=fun e=>by have:=Yi.o.2 e;cases this);have h3:=Poly.EO (n:=m'-1) (a:=f) (by rw [show m'-1+1=m' by omega];exact hs.o) hne;omega
      have Fn:=aA (Fin.o hl w2 FK.o);clear hl hs Yi Fin FK;(go_wp2_with fail);exact bK (dO (fn:=Tryz.f57) rfl _ _ _ _ _ _ _ rfl (H2'.o.set (.bool false) (.slice none 0 0) (.slice B m' c)) underlying51 rfl cW) rfl Fn.o
  . have hl:f.len=m':=by
     have:=Poly.bV hs.o;omega
    have Fn:=aA (Fin.o hl wp hb.o);(have hp:¬(0:Int)<(m':Int):=by omega);have H2':=aA h2.o;clear hl hs Fin hb h1 h2;(go_wp2_with fail);exact bK (dO (fn:=Tryz.f57) rfl _ _ _ _ _ _ _ rfl (H2'.o.set (.bool false) (.slice none 0 0) (.slice B m' c)) underlying51 rfl cW) rfl Fn.o
end
def aoz (s t:Bool) (A B:Option Addr) (n m c d:Nat) (xs ys:List Int) (w:World) (hx:aD w A n xs) (hy:aD w B m ys) (jV:n<=c) (hc:c<=9223372036854775807) (nk:m<=d) (hd:d<=9223372036854775807) (hn:n<=4000000000000) (hm:m<=4000000000000):
 aB 120 #[.agg #[.bool s,.slice A n c],.agg #[.bool t,.slice B m d]] w (iA w (aI s xs-aI t ys) (max n m+1)):=by
 have Cm:=aA (fun W (h:Below w.heap.size w W)=>ZH t B m d ys W (hy.aC h) nk hd (by omega));have Cz:=aA (fun W (h:Below w.heap.size w W) (s1:Bool) (A1:Option Addr) (k1 c1:Nat) (Xr:List Int) (h1:aD W A1 k1 Xr) (h2:k1<=c1) (h3:c1<=9223372036854775807) (h4:k1<=4000000000000)=>ZK s s1 A A1 n k1 c c1 xs Xr W (hx.aC h) h1 jV hc h2 h3 hn h4);obtain ⟨b1,b2,b3,da,db,dr,hsz⟩:=stZ w s A n c t B m d;go_enter func120,ntmps120
 go_wp2_with fail
 have Da:=aA da;have Db:=aA db;have Dr:=aA dr
 clear da db dr b1 b2 hx hy;generalize ((w.alloc (.cells #[.bool s,.slice A n c] 41)).alloc (.cells #[.bool t,.slice B m d] 41)).alloc (.cells #[.bool false,.slice none 0 0] 41)=wt at*
 have a0:=Da.o.cell0;have a1:=Da.o.cell1;have e0:=Db.o.cell0;have e1:=Db.o.cell1;have r0:=Dr.o.cell0;have r1:=Dr.o.cell1;have f0:=Dr.o.frozen 0;have f1:=Dr.o.frozen 1;have la:w.heap.size<wt.heap.size:=by omega
 have lb:w.heap.size+1<wt.heap.size:=by omega
 have lr:w.heap.size+1+1<wt.heap.size:=by omega
 have keep:=LF la lb a0 a1 e0 e1
 have res:=Zg lr r0 r1 Dr
 clear r0 r1 f0 f1;have RS:w.heap.size+1+1≠w.heap.size:=by omega
 have RQ:w.heap.size+1+1≠w.heap.size+1:=by omega
 have xW:w.heap.size<=w.heap.size+1+1:=by omega
 have lr':w.heap.size<=wt.heap.size:=by omega
 clear hsz;generalize w.heap.size+1+1=gr at*
 generalize w.heap.size+1=gb at*
 have Pv:=aaX w gr gb s A n c t B m d RS RQ
 go_region_held3 (fun W=>W.cell? ⟨w.heap.size,0,none⟩=some (.bool s)∧W.cell? ⟨w.heap.size,1,none⟩=some (.slice A n c)∧W.cell? ⟨gb,0,none⟩=some (.bool t)∧W.cell? ⟨gb,1,none⟩=some (.slice B m d))
  (first | go_keep | exact keep.o _ aU.drew | exact keep.o _ fu | exact keep.o _ lC | exact Pv _ _ _ (keep.o _ lC))
  (first
    | (go_at_call 45;refine (Cm.o _ (by first | exact b3.drew | exact b3 | exact below_drewN b3 _)).mono ?_;rintro e w1 ⟨s1,A1,k1,c1,Xr,rfl,g4,g5,g6,g7,g8,g9,Fo⟩;have fu:Below wt.heap.size wt w1:=(by first | exact aU.drew.trans Fo | exact Fo))
    | (go_at_call 56;refine (Cz.o w1 (b3.trans (fu.mono lr')) s1 A1 k1 c1 Xr g7 g4 g5 (by omega)).mono ?_;rintro e w2 ⟨s2,A2,k2,c2,ls,rfl,q1,q2,q3,q4,q5,qf,uw⟩;have lC:Below wt.heap.size wt w2:=fu.tm uw;obtain ⟨r0,r1,f0,f1⟩:=res.o w2 lC))
 have KW:=Dr.o.aC lC;have cN:Below w.heap.size w w2:=b3.trans (lC.mono (by omega));have hz:dN s2 ls (aI s xs-aI t ys):=by rw [adl,<- g8.eq];exact q5
 have HF:Hid (0<k2->∀y,A2=some y->w.heap.size<=y.block):=fun h0 y hy=>aG (aG lr' fu.size) (qf h0 y hy);have zP:k2<=max n m+1:=by omega
 have Hz:=aA hz;have HD:=aA KW;have Hq4:=aA q4;clear hz KW q4 q5 g6 g7 g8 g9 keep qf;go_wp2
 exact bK (dO (fn:=f120) rfl _ _ _ _ _ _ _ rfl (HD.o.set _ _) underlying41 rfl bQ) rfl
  ⟨s2,A2,k2,c2,ls,rfl,q1,q2,zP,HD.o.limbs _ _ rfl rfl Hq4.o,Hz.o,HF.o,(cN.setCell (p:=⟨gr,0,none⟩) xW _).setCell (p:=⟨gr,1,none⟩) xW _⟩
def aZ (w:World) (g:Nat) (a b c:Value):Only (fun k=>k=g) w (((w.setCell ⟨g,0,none⟩ a).setCell ⟨g,1,none⟩ b).setCell ⟨g,2,none⟩ c):=
 (((Only.refl (fun k=>k=g) w).setCell (p:=⟨g,0,none⟩) rfl _).setCell (p:=⟨g,1,none⟩) rfl _).setCell (p:=⟨g,2,none⟩) rfl _
def Vl (S:Nat->Prop) (n:Nat) (w:World) (v:Value) (f:Pn (n+1)) (h:aO S (n+1) w v f) (h0:0<(kids f).len):
 aB 84 #[v] w (bW S w n ((kids f).co ((kids f).len-1))):=by
 obtain ⟨B,c,rfl,h1,h2,h3⟩:=h.here;have t1:=(aX.new w (.bool false) (.slice none 0 0) (.slice B (kids f).len c)).aC (aU.alloc aL (.cells #[.bool false,.slice none 0 0,.slice none 0 0] 51));have t2:=aX.new (w.alloc (.cells #[.bool false,.slice none 0 0,.slice B (kids f).len c] 51)) (.bool false) (.slice none 0 0) (.slice none 0 0);rw [aJ] at t2;have hb:Below w.heap.size w ((w.alloc (.cells #[.bool false,.slice none 0 0,.slice B (kids f).len c] 51)).alloc (.cells #[.bool false,.slice none 0 0,.slice none 0 0] 51)):=(aU.alloc aL _).alloc (by simp) _;have Ce:=aA (apk _ _ _ B (kids f).len c (h3.aC hb) h0 (by omega));have k2:=t1.aN;have T2:=aA t2;have HB:=aA hb;clear h3 t1 t2 hb;unfold bE;go_enter func84,ntmps84
 go_wp2_with fail
 refine Ce.o.mono ?_;rintro e w1 ⟨s,A1,q1,c1,B1,m1,d1,rfl,hv,cZ⟩;have T3:=aA (T2.o.aC cZ);have r0:=T3.o.cell0;have r1:=T3.o.cell1;have r2:=T3.o.aN;have r3:=T3.o.frozen 0;have r4:=T3.o.frozen 1;have r5:=T3.o.frozen 2;have wu:=aA (HB.o.tm cZ);have HV:=aA (hv.aC cZ);clear hv cZ Ce;unfold bE;go_wp2_with fail
 have nI:Below w.heap.size w (((w1.setCell ⟨w.heap.size+1,0,none⟩ (.bool s)).setCell ⟨w.heap.size+1,1,none⟩ (.slice A1 q1 c1)).setCell ⟨w.heap.size+1,2,none⟩ (.slice B1 m1 d1)):=((wu.o.setCell (p:=⟨w.heap.size+1,0,none⟩) (rI _) _).setCell (p:=⟨w.heap.size+1,1,none⟩) (rI _) _).setCell (p:=⟨w.heap.size+1,2,none⟩) (rI _) _;exact bK (v:=.agg #[.bool s,.slice A1 q1 c1,.slice B1 m1 d1]) (dO (fn:=f84) rfl _ _ _ _ _ _ _ rfl (T3.o.set (.bool s) (.slice A1 q1 c1) (.slice B1 m1 d1)) underlying51 rfl cW) rfl
  ⟨s,A1,q1,c1,B1,m1,d1,rfl,HV.o.only (aZ w1 (w.heap.size+1) _ _ _) (fun b hb e=>by have:=hb.2;omega) (fun b hb=> .inl hb.1),nI⟩
def akz (S:Nat->Prop) (w:World) (u v:Value) (f g:Pn 0) (hf:aO S 0 w u f) (hg:aO S 0 w v g) (K:Nat) (hK:K<=3900000000000) (nf:aH.nm f<2^(64*K)) (ng:aH.nm g<2^(64*K)):
 aB 85 #[u,.int .i64 0,v] w (bW S w 0 (f-g)):=by
 obtain ⟨s,A,k,c,xs,rfl,h1,h2,h3,h4,_⟩:=hf;obtain ⟨t,B,m,d,ys,rfl,i1,i2,i3,i4,_⟩:=hg;have hk:k<=K:=by have h5:=h4.cap (K:=K) nf;have h6:=h3.len;omega
 have hm:m<=K:=by have h5:=i4.cap (K:=K) ng;have h6:=i3.len;omega
 have Cs:=aA (fun W (hW:Below w.heap.size w W)=>aoz s t A B k m c d xs ys W (h3.aC hW) (i3.aC hW) h1 h2 i1 i2 (by omega) (by omega));rw [h4.eq,i4.eq] at Cs;have hb:Below w.heap.size w (((w.alloc (.cells #[.bool s,.slice A k c,.slice none 0 0] 51)).alloc (.cells #[.bool t,.slice B m d,.slice none 0 0] 51)).alloc (.cells #[.bool false,.slice none 0 0,.slice none 0 0] 51)):=((aU.alloc aL _).alloc (by simp) _).alloc (by simp;omega) _;have t2:=aX.new ((w.alloc (.cells #[.bool s,.slice A k c,.slice none 0 0] 51)).alloc (.cells #[.bool t,.slice B m d,.slice none 0 0] 51)) (.bool false) (.slice none 0 0) (.slice none 0 0);rw [aJ,aJ] at t2;have T2:=aA t2;have HB:=aA hb;clear h3 h4 i3 i4 nf ng hb t2;unfold bE;go_enter func85,ntmps85
 go_wp2_with fail
 refine (Cs.o _ (by exact HB.o)).mono ?_;rintro e w1 ⟨s1,A1,k1,c1,ls,rfl,q1,q2,q3,q4,q5,q6,cZ⟩;have T3:=aA (T2.o.aC cZ);have r0:=T3.o.cell0;have r1:=T3.o.cell1;have r2:=T3.o.aN;have r3:=T3.o.frozen 0;have r4:=T3.o.frozen 1;have r5:=T3.o.frozen 2;have hs3:(((w.alloc (.cells #[.bool s,.slice A k c,.slice none 0 0] 51)).alloc (.cells #[.bool t,.slice B m d,.slice none 0 0] 51)).alloc (.cells #[.bool false,.slice none 0 0,.slice none 0 0] 51)).heap.size=w.heap.size+1+1+1:=by simp
 have F:Hid (aO (fun b=>S b∨w.heap.size<=b) 0 (((w1.setCell ⟨w.heap.size+1+1,0,none⟩ (.bool s1)).setCell ⟨w.heap.size+1+1,1,none⟩ (.slice A1 k1 c1)).setCell ⟨w.heap.size+1+1,2,none⟩ (.slice none 0 0)) (bE s1 A1 k1 c1 none 0 0) (f-g)):=
  aO.num q1 q2 (lZ q4 (aZ w1 (w.heap.size+1+1) _ _ _) fun h0 y hy e=>by have:=q6 h0 y hy;omega) q5 fun h0 y hy=> .inr (by have:=q6 h0 y hy;omega)
 have cN:Below w.heap.size w w1:=HB.o.tm cZ;have nI:Hid (Below w.heap.size w (((w1.setCell ⟨w.heap.size+1+1,0,none⟩ (.bool s1)).setCell ⟨w.heap.size+1+1,1,none⟩ (.slice A1 k1 c1)).setCell ⟨w.heap.size+1+1,2,none⟩ (.slice none 0 0))):=((cN.setCell (p:=⟨w.heap.size+1+1,0,none⟩) (by show _<=w.heap.size+1+1;omega) _).setCell (p:=⟨w.heap.size+1+1,1,none⟩) (by show _<=w.heap.size+1+1;omega) _).setCell (p:=⟨w.heap.size+1+1,2,none⟩) (by show _<=w.heap.size+1+1;omega) _;clear q3 q4 q5 q6 cZ Cs hs3 HB cN;go_wp2_with fail
 exact bK (v:=.agg #[.bool s1,.slice A1 k1 c1,.slice none 0 0]) (dO (fn:=f85) rfl _ _ _ _ _ _ _ rfl (T3.o.set (.bool s1) (.slice A1 k1 c1) (.slice none 0 0)) underlying51 rfl cW) rfl
  ⟨s1,A1,k1,c1,none,0,0,rfl,F.o,nI.o⟩
def Nz:(n:Nat)->Pn n->Prop
 | 0,_=>True
 | n+1,f=>(kids f).len<=1000000000000∧∀i,Nz n ((kids f).co i)
def ajv (n K:Nat):Prop:=∀(S:Nat->Prop) (w:World) (u v:Value) (f g:Pn n),aO S n w u f->aO S n w v g->aH.nm f<2^(64*K)->aH.nm g<2^(64*K)->Nz n f->Nz n g->aB 85 #[u,.int .i64 (n:Int),v] w (bW S w n (f-g))
def afH {a b K:Nat}(h:a<2^(64*K)) (k:b<2^(64*K)):a+b<2^(64*(K+1)):=by
 have h1:(2:Nat)^(64*(K+1))=2^(64*K)*18446744073709551616:=by rw [ak,iD]
 rw [h1];omega
def gD (f:Pn (n+1)) (i:Nat):aH.nm ((kids f).co i)<=aH.nm f:=Poly.rC (kids f) i
def sP:(prog.info? 51).map (fun i=>(i.zero,i.size,i.bytes))=some (some (.agg #[.bool false,.slice none 0 0,.slice none 0 0]),3,56):=by kernel_rfl
attribute [-go_sem] Builtin.append_
def aky (n K:Nat) (hK:K<=3900000000000) (hn:n<=100) (ih:ajv n K) (S:Nat->Prop) (w:World) (u v:Value) (f g:Pn (n+1)) (hf:aO S (n+1) w u f) (hg:aO S (n+1) w v g) (nf:aH.nm f<2^(64*K)) (ng:aH.nm g<2^(64*K)) (kf:Nz (n+1) f) (kg:Nz (n+1) g):
 aB 85 #[u,.int .i64 ((n:Int)+1),v] w (bW S w (n+1) (f-g)):=by
 obtain ⟨i0,rT,jE,jD,jJ⟩:=eG sP;have lf:=kf.1;have lg:=kg.1;have Lf:=aA kf.2;have Lg:=aA kg.2;clear kf kg;obtain ⟨B,c,rfl,h1,h2,h3⟩:=hf.here;obtain ⟨D,d,rfl,i1,i2,i3⟩:=hg.here;obtain ⟨M,hM⟩:∃M:Nat,max (kids f).len (kids g).len=M:=⟨_,rfl⟩;have hz:(((n:Int)+1)==0)=false:=mD.2 (by omega);have hmx:max ((kids f).len:Int) ((kids g).len:Int)=(M:Int):=by omega
 have ew:IntKind.i64.wrap ((n:Int)+1-1)=(n:Int):=by rw [bP _ (by omega)];omega
 have ew2:IntKind.i64.wrap (n:Int)=(n:Int):=bP _ (by omega);have t0:=(((aX.new w (.bool false) (.slice none 0 0) (.slice B (kids f).len c)).aC (aU.alloc aL (.cells #[.bool false,.slice none 0 0,.slice D (kids g).len d] 51))).aC (aU.alloc aL (.cells #[.bool false,.slice none 0 0,.slice none 0 0] 51))).aC (aU.alloc aL (.cells #[.bool false,.slice none 0 0,.slice none 0 0] 51));have t1:=((aX.new (w.alloc (.cells #[.bool false,.slice none 0 0,.slice B (kids f).len c] 51)) (.bool false) (.slice none 0 0) (.slice D (kids g).len d)).aC (aU.alloc aL (.cells #[.bool false,.slice none 0 0,.slice none 0 0] 51))).aC (aU.alloc aL (.cells #[.bool false,.slice none 0 0,.slice none 0 0] 51));have t2:=(aX.new ((w.alloc (.cells #[.bool false,.slice none 0 0,.slice B (kids f).len c] 51)).alloc (.cells #[.bool false,.slice none 0 0,.slice D (kids g).len d] 51)) (.bool false) (.slice none 0 0) (.slice none 0 0)).aC (aU.alloc aL (.cells #[.bool false,.slice none 0 0,.slice none 0 0] 51));have t3:=aX.new (((w.alloc (.cells #[.bool false,.slice none 0 0,.slice B (kids f).len c] 51)).alloc (.cells #[.bool false,.slice none 0 0,.slice D (kids g).len d] 51)).alloc (.cells #[.bool false,.slice none 0 0,.slice none 0 0] 51)) (.bool false) (.slice none 0 0) (.slice none 0 0);rw [aJ] at t1;rw [aJ,aJ] at t2;rw [aJ,aJ,aJ] at t3;have hb:Below w.heap.size w ((((w.alloc (.cells #[.bool false,.slice none 0 0,.slice B (kids f).len c] 51)).alloc (.cells #[.bool false,.slice none 0 0,.slice D (kids g).len d] 51)).alloc (.cells #[.bool false,.slice none 0 0,.slice none 0 0] 51)).alloc (.cells #[.bool false,.slice none 0 0,.slice none 0 0] 51)):=(((aU.alloc aL _).alloc (by simp) _).alloc (by simp;omega) _).alloc (by simp;omega) _;have hsz:((((w.alloc (.cells #[.bool false,.slice none 0 0,.slice B (kids f).len c] 51)).alloc (.cells #[.bool false,.slice none 0 0,.slice D (kids g).len d] 51)).alloc (.cells #[.bool false,.slice none 0 0,.slice none 0 0] 51)).alloc (.cells #[.bool false,.slice none 0 0,.slice none 0 0] 51)).heap.size=w.heap.size+1+1+1+1:=by simp
 have k0:=t0.aN;have k1:=t1.aN;have H3:=aA h3;have I3:=aA i3;clear h3 i3 hf hg;unfold bE;go_enter func85,ntmps85
 go_wp2_with fail
 generalize je:(((w.alloc (.cells #[.bool false,.slice none 0 0,.slice B (kids f).len c] 51)).alloc (.cells #[.bool false,.slice none 0 0,.slice D (kids g).len d] 51)).alloc (.cells #[.bool false,.slice none 0 0,.slice none 0 0] 51)).alloc (.cells #[.bool false,.slice none 0 0,.slice none 0 0] 51)=wt at*
 clear je;have T0:=aA t0;have T1:=aA t1;have T2:=aA t2;have T3:=aA t3;have HB:=aA hb;have hM1:Hid (∀i,M<=i->(kids f).co i-(kids g).co i=0):=fun i hi=>by rw [Poly.ay _ i (by omega),Poly.ay _ i (by omega),aF.sub_self]
 clear t0 t1 t2 t3 hb k0 k1;go_loopw [26] (fun i wr=>∃(k:Nat) (E:List KE) (ov:Value),k<=M∧i=.int .i64 (k:Int)∧Hid (E.length=k)∧Hid (j6 51 (fun b=>S b∧b<w.heap.size) (fun b=>b=w.heap.size+1+1+1∨b=w.heap.size+1+1) w wt.heap.size wr n ov E (fun i=>(kids f).co i-(kids g).co i))∧Hid (aX wr (w.heap.size+1+1+1) (.bool false) (.slice none 0 0) ov)∧Hid (Only (fun b=>b=w.heap.size+1+1+1∨wt.heap.size<=b) wt wr)) (fun i _=>M-(intOf i).toNat)
 case atStart=>exact ⟨0,[],.slice none 0 0,bL _,rfl,rfl,j6.start _ _ _ _ HB.o HB.o.size,T3.o,Only.refl _ _⟩
 case round=>
  obtain ⟨k,E,ov,hk,rfl,hE,hO,hT,j7⟩:=hrel;obtain ⟨wp,rfl⟩:∃wp:World,wp=wr:=⟨_,rfl⟩;have hX:Hid (∀b,(b=w.heap.size+1+1+1∨b=w.heap.size+1+1)->w.heap.size<=b∧b<wt.heap.size):=fun b hb=>by omega
  have P0:Hid (aX wp w.heap.size (.bool false) (.slice none 0 0) (.slice B (kids f).len c)):=T0.o.keep (j7.o.block _ T0.o.lt (by omega));have P1:Hid (aX wp (w.heap.size+1) (.bool false) (.slice none 0 0) (.slice D (kids g).len d)):=T1.o.keep (j7.o.block _ T1.o.lt (by omega));have P2:Hid (aX wp (w.heap.size+1+1) (.bool false) (.slice none 0 0) (.slice none 0 0)):=T2.o.keep (j7.o.block _ T2.o.lt (by omega));have pW:Hid (Below w.heap.size w wp):=hO.o.aC;by_cases hlt:k<M
  . have dH:(k:Int)<(M:Int):=by omega
    have p0:=P0.o.aN;have p1:=P1.o.aN;have Ah:=P0.o.lt;have uF:=P1.o.lt;have hsw:=pW.o.size;by_cases hf:k<(kids f).len
    . obtain ⟨b,o,rfl,hb,hl,Ix⟩:=H3.o (by omega)
      obtain ⟨s1,A1,k1,c1,B1,m1,d1,e1,e2,e3,e4⟩:=Ix k hf;(have EY:(k:Int)<((kids f).len:Int):=by omega);(have wT:(0:Int)<=(k:Int):=by omega);have g1:=(pW.o.cell (p:=⟨b,o+k*3,none⟩) hl).trans e1;have g2:=(pW.o.cell (p:=⟨b,o+k*3+1,none⟩) hl).trans e2;have g3:=(pW.o.cell (p:=⟨b,o+k*3+2,none⟩) hl).trans e3;(have uv:b<wp.heap.size:=by omega);have E4:=aA (e4.aC pW.o);clear Ix e1 e2 e3 e4;by_cases hg:k<(kids g).len
      . obtain ⟨b',o',rfl,nI,hl',Fm⟩:=I3.o (by omega)
        obtain ⟨s2,A2,k2,c2,B2,m2,d2,e1,e2,e3,e5⟩:=Fm k hg;(have CO:(k:Int)<((kids g).len:Int):=by omega);have j1:=(pW.o.cell (p:=⟨b',o'+k*3,none⟩) hl').trans e1;have j2:=(pW.o.cell (p:=⟨b',o'+k*3+1,none⟩) hl').trans e2;have j3:=(pW.o.cell (p:=⟨b',o'+k*3+2,none⟩) hl').trans e3;(have alj:b'<wp.heap.size:=by omega);have E5:=aA (e5.aC pW.o);clear Fm e1 e2 e3 e5;have tX:=(aX.new wp (.bool s1) (.slice A1 k1 c1) (.slice B1 m1 d1)).aC (aU.alloc aL (.cells #[.bool s2,.slice A2 k2 c2,.slice B2 m2 d2] 51));have tY:=aX.new (wp.alloc (.cells #[.bool s1,.slice A1 k1 c1,.slice B1 m1 d1] 51)) (.bool s2) (.slice A2 k2 c2) (.slice B2 m2 d2);rw [aJ] at tY;have uY:Below wp.heap.size wp ((wp.alloc (.cells #[.bool s1,.slice A1 k1 c1,.slice B1 m1 d1] 51)).alloc (.cells #[.bool s2,.slice A2 k2 c2,.slice B2 m2 d2] 51)):=(aU.alloc aL _).alloc (by simp) _;have hTX:Hid (aO (fun b=>S b∧b<w.heap.size) n wp (.agg #[.bool s1,.slice A1 k1 c1,.slice B1 m1 d1]) ((kids f).co k)):=E4.o;have hTY:Hid (aO (fun b=>S b∧b<w.heap.size) n wp (.agg #[.bool s2,.slice A2 k2 c2,.slice B2 m2 d2]) ((kids g).co k)):=E5.o;have hoX:Only (fun b=>wp.heap.size<=b) wp ((wp.alloc (.cells #[.bool s1,.slice A1 k1 c1,.slice B1 m1 d1] 51)).alloc (.cells #[.bool s2,.slice A2 k2 c2,.slice B2 m2 d2] 51)):=Only.bZ uY;(go_wp2_with fail);generalize hwq:(wp.alloc (.cells #[.bool s1,.slice A1 k1 c1,.slice B1 m1 d1] 51)).alloc (.cells #[.bool s2,.slice A2 k2 c2,.slice B2 m2 d2] 51)=wq at*
        clear hwq;have tO:=hT.o.aC uY;have HO:=aA (hO.o.jX uY);have cx0:=tX.cell0;have cx1:=tX.cell1;have cx2:=tX.aN;have cy0:=tY.cell0;have cy1:=tY.cell1;have cy2:=tY.aN;have co2:=tO.aN;have hsq:=uY.size;have Cl:=aA (fun W (hW:Below wq.heap.size wq W)=>ih (fun b=>S b∧b<w.heap.size) W _ _ _ _ ((hTX.o.aC uY).aC hW) ((hTY.o.aC uY).aC hW) (aR (gD f k) nf) (aR (gD g k) ng) (Lf.o k) (Lg.o k));have HT:=aA tO;(have q1:E.length+1<=maxLen:=by have:=hE.o;unfold maxLen;omega);(have q2:(E.length+1)*56<=140737488355328:=by have:=hE.o;omega);have HOW:=aA (fun W (hW:Below wq.heap.size wq W)=>(HO.o.jX hW).own);(have uq:Hid (∀(W:World) (ob:Obj),Below wq.heap.size wq W->wt.heap.size<=(W.alloc ob).heap.size):=fun W ob hW=>by have:=hW.size;have:=j7.o.size;simp;omega);have Fl:Hid (∀j,ov.ownBlock=some j->wt.heap.size<=j):=fun j hj=>(hO.o.own.lt j hj).1;have F:Hid (∀(w7 w8:World) (x:KE) (gg cap:Nat),Below wq.heap.size wq w7->aO (fun b=>(S b∧b<w.heap.size)∨wq.heap.size<=b) n w7 x.v ((kids f).co k-(kids g).co k)->w8.ownsRow wt.heap.size 51 3 (.slice (some ⟨gg,0,none⟩) (E.length+1) cap) (E.length+1) (iL E++xX x)->(w7.alloc (.cells #[.bool x.s,.slice x.A x.k x.c,.slice x.B x.m x.d] 51)).grownBy w8 ov.ownBlock->(ov.ownBlock=some gg∨gg=w7.heap.size+1)->
         aX w8 (w.heap.size+1+1+1) (.bool false) (.slice none 0 0) ov∧j6 51 (fun b=>S b∧b<w.heap.size) (fun b=>b=w.heap.size+1+1+1∨b=w.heap.size+1+1) w wt.heap.size (w8.setCell ⟨w.heap.size+1+1+1,2,none⟩ (.slice (some ⟨gg,0,none⟩) (E.length+1) cap)) n (.slice (some ⟨gg,0,none⟩) (E.length+1) cap) (E++[x]) (fun i=>(kids f).co i-(kids g).co i)∧Only (fun b=>b=w.heap.size+1+1+1∨wt.heap.size<=b) wt (w8.setCell ⟨w.heap.size+1+1+1,2,none⟩ (.slice (some ⟨gg,0,none⟩) (E.length+1) cap))):=fun w7 w8 x gg cap fe hx aa rD gZ=>by
         have a7:Below w7.heap.size w7 (w7.alloc (.cells #[.bool x.s,.slice x.A x.k x.c,.slice x.B x.m x.d] 51)):=aU.alloc aL _;have o8:Only (fun b=>ov.ownBlock=some b) (w7.alloc (.cells #[.bool x.s,.slice x.A x.k x.c,.slice x.B x.m x.d] 51)) w8:=(Only.fK rD).mono (fun i hi=>by first | exact hi | exact hi.symm);have t8:aX w8 (w.heap.size+1+1+1) (.bool false) (.slice none 0 0) ov:=by
          have t7:=((HT.o.aC fe).aC a7);exact t7.keep (o8.block _ t7.lt fun e=>by have:=Fl.o _ e;omega)
         have GJ:=HO.o.next (x:=x) (o:=(.cells #[.bool x.s,.slice x.A x.k x.c,.slice x.B x.m x.d] 51)) (fun b hb=>hb.2) (fun b hb=>by have:=hX.o b hb;have:=j7.o.size;omega) fe (by rw [hE.o];exact hx) aa rD gZ rfl;refine ⟨t8,GJ.box ((Only.refl (fun b=>b=w.heap.size+1+1+1∨b=w.heap.size+1+1) w8).setCell (p:=⟨w.heap.size+1+1+1,2,none⟩) (.inl rfl) _) (fun b hb=>hX.o b hb),?_⟩;have r0:=j7.o.size;have r1:Only (fun b=>b=w.heap.size+1+1+1∨wt.heap.size<=b) wp wq:=(Only.bZ uY).mono fun b hb=> .inr (by omega);have r2:Only (fun b=>b=w.heap.size+1+1+1∨wt.heap.size<=b) wq w7:=(Only.bZ fe).mono fun b hb=> .inr (by omega);have r4:Only (fun b=>b=w.heap.size+1+1+1∨wt.heap.size<=b) (w7.alloc (.cells #[.bool x.s,.slice x.A x.k x.c,.slice x.B x.m x.d] 51)) w8:=o8.mono fun b hb=> .inr (Fl.o b hb);exact ((((j7.o.trans r1).trans r2).alloc _).trans r4).setCell (p:=⟨w.heap.size+1+1+1,2,none⟩) (.inl rfl) _
        clear tX tY hTX hTY hT hO j7 tO uY HO hoX;unfold bE at Cl;go_region_with (go_at_call 85;refine (Cl.o _ (by first | exact aU.drew | exact aU)).mono ?_;rintro e w7 ⟨s7,A7,k7,c7,B7,m7,d7,rfl,RT,kO⟩;unfold bE;have fe:Below wq.heap.size wq w7:=(by first | exact aU.drew.trans kO | exact kO);have cO:=(HT.o.aC fe).aN;have fO:=(HT.o.aC fe).frozen 2;have lO:=(HT.o.aC fe).lt;obtain ⟨gg,cap,w8,Ir,fL,aW,gZ,ou⟩:=Nh (w7.alloc (.cells #[.bool s7,.slice A7 k7 c7,.slice B7 m7 d7] 51)) 49 49 wt.heap.size 51 i0 _ 3 56 underlying49 rT jE jD jJ rfl (by omega) ov E.length (iL E) ((HOW.o _ fe).alloc _) ⟨w7.heap.size,0,none⟩ 1 1 [.bool s7,.slice A7 k7 c7,.slice B7 m7 d7] (by rfl) (gw (cs:=#[.bool s7,.slice A7 k7 c7,.slice B7 m7 d7]) (t:=51) (fr:=(0,0)) (bM w7 _)) (by simp [Value.oneCell']) (Nat.one_pos) q1 q2 (uq.o _ _ fe) (w7.heap.size+1) (by simp);obtain ⟨t8,QO,Iw⟩:=F.o w7 w8 ⟨s7,A7,k7,c7,B7,m7,d7⟩ gg cap fe RT fL aW gZ;have f8:=t8.frozen 2;have c8:=t8.aN)
        all_goals
         have T8:=aA (t8.ZY (.slice (some ⟨gg,0,none⟩) (E.length+1) cap));have Uz:=aA QO;have Ux:=aA Iw;(have HE8:Hid ((E++[(⟨s7,A7,k7,c7,B7,m7,d7⟩:KE)]).length=k+1):=by show _=_;rw [eC,hE.o];rfl);clear t8 QO Iw fL aW gZ ou Ir RT fe kO F HOW uq HT Cl cO fO lO f8 c8 cx0 cx1 cx2 cy0 cy1 cy2 co2 hE;(go_wp2_with fail);go_roundw
         case rel=>exact ⟨k+1,_,_,by omega,by go_num,HE8,Uz,T8,Ux⟩
         case measure=>simp [intOf];omega
      . have CO:¬(k:Int)<((kids g).len:Int):=by omega
        have hgz:Hid ((kids g).co k=0):=Poly.ay _ k (by omega);have tX:=(aX.new wp (.bool s1) (.slice A1 k1 c1) (.slice B1 m1 d1)).aC (aU.alloc aL (.cells #[.bool false,.slice none 0 0,.slice none 0 0] 51));have tY:=aX.new (wp.alloc (.cells #[.bool s1,.slice A1 k1 c1,.slice B1 m1 d1] 51)) (.bool false) (.slice none 0 0) (.slice none 0 0);rw [aJ] at tY;have uY:Below wp.heap.size wp ((wp.alloc (.cells #[.bool s1,.slice A1 k1 c1,.slice B1 m1 d1] 51)).alloc (.cells #[.bool false,.slice none 0 0,.slice none 0 0] 51)):=(aU.alloc aL _).alloc (by simp) _;have hTX:Hid (aO (fun b=>S b∧b<w.heap.size) n wp (.agg #[.bool s1,.slice A1 k1 c1,.slice B1 m1 d1]) ((kids f).co k)):=E4.o;(have hTY:Hid (aO (fun b=>S b∧b<w.heap.size) n wp (.agg #[.bool false,.slice none 0 0,.slice none 0 0]) ((kids g).co k)):=by rw [hgz.o];exact aO.nought _ _ n);have hoX:Only (fun b=>wp.heap.size<=b) wp ((wp.alloc (.cells #[.bool s1,.slice A1 k1 c1,.slice B1 m1 d1] 51)).alloc (.cells #[.bool false,.slice none 0 0,.slice none 0 0] 51)):=Only.bZ uY;(go_wp2_with fail);generalize hwq:(wp.alloc (.cells #[.bool s1,.slice A1 k1 c1,.slice B1 m1 d1] 51)).alloc (.cells #[.bool false,.slice none 0 0,.slice none 0 0] 51)=wq at*
        clear hwq;have tO:=hT.o.aC uY;have HO:=aA (hO.o.jX uY);have cx0:=tX.cell0;have cx1:=tX.cell1;have cx2:=tX.aN;have cy0:=tY.cell0;have cy1:=tY.cell1;have cy2:=tY.aN;have co2:=tO.aN;have hsq:=uY.size;have Cl:=aA (fun W (hW:Below wq.heap.size wq W)=>ih (fun b=>S b∧b<w.heap.size) W _ _ _ _ ((hTX.o.aC uY).aC hW) ((hTY.o.aC uY).aC hW) (aR (gD f k) nf) (aR (gD g k) ng) (Lf.o k) (Lg.o k));have HT:=aA tO;(have q1:E.length+1<=maxLen:=by have:=hE.o;unfold maxLen;omega);(have q2:(E.length+1)*56<=140737488355328:=by have:=hE.o;omega);have HOW:=aA (fun W (hW:Below wq.heap.size wq W)=>(HO.o.jX hW).own);(have uq:Hid (∀(W:World) (ob:Obj),Below wq.heap.size wq W->wt.heap.size<=(W.alloc ob).heap.size):=fun W ob hW=>by have:=hW.size;have:=j7.o.size;simp;omega);have Fl:Hid (∀j,ov.ownBlock=some j->wt.heap.size<=j):=fun j hj=>(hO.o.own.lt j hj).1;have F:Hid (∀(w7 w8:World) (x:KE) (gg cap:Nat),Below wq.heap.size wq w7->aO (fun b=>(S b∧b<w.heap.size)∨wq.heap.size<=b) n w7 x.v ((kids f).co k-(kids g).co k)->w8.ownsRow wt.heap.size 51 3 (.slice (some ⟨gg,0,none⟩) (E.length+1) cap) (E.length+1) (iL E++xX x)->(w7.alloc (.cells #[.bool x.s,.slice x.A x.k x.c,.slice x.B x.m x.d] 51)).grownBy w8 ov.ownBlock->(ov.ownBlock=some gg∨gg=w7.heap.size+1)->
         aX w8 (w.heap.size+1+1+1) (.bool false) (.slice none 0 0) ov∧j6 51 (fun b=>S b∧b<w.heap.size) (fun b=>b=w.heap.size+1+1+1∨b=w.heap.size+1+1) w wt.heap.size (w8.setCell ⟨w.heap.size+1+1+1,2,none⟩ (.slice (some ⟨gg,0,none⟩) (E.length+1) cap)) n (.slice (some ⟨gg,0,none⟩) (E.length+1) cap) (E++[x]) (fun i=>(kids f).co i-(kids g).co i)∧Only (fun b=>b=w.heap.size+1+1+1∨wt.heap.size<=b) wt (w8.setCell ⟨w.heap.size+1+1+1,2,none⟩ (.slice (some ⟨gg,0,none⟩) (E.length+1) cap))):=fun w7 w8 x gg cap fe hx aa rD gZ=>by
         have a7:Below w7.heap.size w7 (w7.alloc (.cells #[.bool x.s,.slice x.A x.k x.c,.slice x.B x.m x.d] 51)):=aU.alloc aL _;have o8:Only (fun b=>ov.ownBlock=some b) (w7.alloc (.cells #[.bool x.s,.slice x.A x.k x.c,.slice x.B x.m x.d] 51)) w8:=(Only.fK rD).mono (fun i hi=>by first | exact hi | exact hi.symm);have t8:aX w8 (w.heap.size+1+1+1) (.bool false) (.slice none 0 0) ov:=by
          have t7:=((HT.o.aC fe).aC a7);exact t7.keep (o8.block _ t7.lt fun e=>by have:=Fl.o _ e;omega)
         have GJ:=HO.o.next (x:=x) (o:=(.cells #[.bool x.s,.slice x.A x.k x.c,.slice x.B x.m x.d] 51)) (fun b hb=>hb.2) (fun b hb=>by have:=hX.o b hb;have:=j7.o.size;omega) fe (by rw [hE.o];exact hx) aa rD gZ rfl;refine ⟨t8,GJ.box ((Only.refl (fun b=>b=w.heap.size+1+1+1∨b=w.heap.size+1+1) w8).setCell (p:=⟨w.heap.size+1+1+1,2,none⟩) (.inl rfl) _) (fun b hb=>hX.o b hb),?_⟩;have r0:=j7.o.size;have r1:Only (fun b=>b=w.heap.size+1+1+1∨wt.heap.size<=b) wp wq:=(Only.bZ uY).mono fun b hb=> .inr (by omega);have r2:Only (fun b=>b=w.heap.size+1+1+1∨wt.heap.size<=b) wq w7:=(Only.bZ fe).mono fun b hb=> .inr (by omega);have r4:Only (fun b=>b=w.heap.size+1+1+1∨wt.heap.size<=b) (w7.alloc (.cells #[.bool x.s,.slice x.A x.k x.c,.slice x.B x.m x.d] 51)) w8:=o8.mono fun b hb=> .inr (Fl.o b hb);exact ((((j7.o.trans r1).trans r2).alloc _).trans r4).setCell (p:=⟨w.heap.size+1+1+1,2,none⟩) (.inl rfl) _
        clear tX tY hTX hTY hT hO j7 tO uY HO hoX;unfold bE at Cl;go_region_with (go_at_call 85;refine (Cl.o _ (by first | exact aU.drew | exact aU)).mono ?_;rintro e w7 ⟨s7,A7,k7,c7,B7,m7,d7,rfl,RT,kO⟩;unfold bE;have fe:Below wq.heap.size wq w7:=(by first | exact aU.drew.trans kO | exact kO);have cO:=(HT.o.aC fe).aN;have fO:=(HT.o.aC fe).frozen 2;have lO:=(HT.o.aC fe).lt;obtain ⟨gg,cap,w8,Ir,fL,aW,gZ,ou⟩:=Nh (w7.alloc (.cells #[.bool s7,.slice A7 k7 c7,.slice B7 m7 d7] 51)) 49 49 wt.heap.size 51 i0 _ 3 56 underlying49 rT jE jD jJ rfl (by omega) ov E.length (iL E) ((HOW.o _ fe).alloc _) ⟨w7.heap.size,0,none⟩ 1 1 [.bool s7,.slice A7 k7 c7,.slice B7 m7 d7] (by rfl) (gw (cs:=#[.bool s7,.slice A7 k7 c7,.slice B7 m7 d7]) (t:=51) (fr:=(0,0)) (bM w7 _)) (by simp [Value.oneCell']) (Nat.one_pos) q1 q2 (uq.o _ _ fe) (w7.heap.size+1) (by simp);obtain ⟨t8,QO,Iw⟩:=F.o w7 w8 ⟨s7,A7,k7,c7,B7,m7,d7⟩ gg cap fe RT fL aW gZ;have f8:=t8.frozen 2;have c8:=t8.aN)
        all_goals
         have T8:=aA (t8.ZY (.slice (some ⟨gg,0,none⟩) (E.length+1) cap));have Uz:=aA QO;have Ux:=aA Iw;(have HE8:Hid ((E++[(⟨s7,A7,k7,c7,B7,m7,d7⟩:KE)]).length=k+1):=by show _=_;rw [eC,hE.o];rfl);clear t8 QO Iw fL aW gZ ou Ir RT fe kO F HOW uq HT Cl cO fO lO f8 c8 cx0 cx1 cx2 cy0 cy1 cy2 co2 hE;(go_wp2_with fail);go_roundw
         case rel=>exact ⟨k+1,_,_,by omega,by go_num,HE8,Uz,T8,Ux⟩
         case measure=>simp [intOf];omega
    . have EY:¬(k:Int)<((kids f).len:Int):=by omega
      have EX:Hid ((kids f).co k=0):=Poly.ay _ k (by omega);obtain ⟨b',o',rfl,nI,hl',Fm⟩:=I3.o (by omega);obtain ⟨s2,A2,k2,c2,B2,m2,d2,e1,e2,e3,e5⟩:=Fm k (by omega);(have CO:(k:Int)<((kids g).len:Int):=by omega);(have wT:(0:Int)<=(k:Int):=by omega);have j1:=(pW.o.cell (p:=⟨b',o'+k*3,none⟩) hl').trans e1;have j2:=(pW.o.cell (p:=⟨b',o'+k*3+1,none⟩) hl').trans e2;have j3:=(pW.o.cell (p:=⟨b',o'+k*3+2,none⟩) hl').trans e3;(have alj:b'<wp.heap.size:=by omega);have E5:=aA (e5.aC pW.o);clear Fm e1 e2 e3 e5;have tX:=(aX.new wp (.bool false) (.slice none 0 0) (.slice none 0 0)).aC (aU.alloc aL (.cells #[.bool s2,.slice A2 k2 c2,.slice B2 m2 d2] 51));have tY:=aX.new (wp.alloc (.cells #[.bool false,.slice none 0 0,.slice none 0 0] 51)) (.bool s2) (.slice A2 k2 c2) (.slice B2 m2 d2);rw [aJ] at tY;have uY:Below wp.heap.size wp ((wp.alloc (.cells #[.bool false,.slice none 0 0,.slice none 0 0] 51)).alloc (.cells #[.bool s2,.slice A2 k2 c2,.slice B2 m2 d2] 51)):=(aU.alloc aL _).alloc (by simp) _;(have hTX:Hid (aO (fun b=>S b∧b<w.heap.size) n wp (.agg #[.bool false,.slice none 0 0,.slice none 0 0]) ((kids f).co k)):=by rw [EX.o];exact aO.nought _ _ n);have hTY:Hid (aO (fun b=>S b∧b<w.heap.size) n wp (.agg #[.bool s2,.slice A2 k2 c2,.slice B2 m2 d2]) ((kids g).co k)):=E5.o;have hoX:Only (fun b=>wp.heap.size<=b) wp ((wp.alloc (.cells #[.bool false,.slice none 0 0,.slice none 0 0] 51)).alloc (.cells #[.bool s2,.slice A2 k2 c2,.slice B2 m2 d2] 51)):=Only.bZ uY;(go_wp2_with fail);generalize hwq:(wp.alloc (.cells #[.bool false,.slice none 0 0,.slice none 0 0] 51)).alloc (.cells #[.bool s2,.slice A2 k2 c2,.slice B2 m2 d2] 51)=wq at*
      clear hwq;have tO:=hT.o.aC uY;have HO:=aA (hO.o.jX uY);have cx0:=tX.cell0;have cx1:=tX.cell1;have cx2:=tX.aN;have cy0:=tY.cell0;have cy1:=tY.cell1;have cy2:=tY.aN;have co2:=tO.aN;have hsq:=uY.size;have Cl:=aA (fun W (hW:Below wq.heap.size wq W)=>ih (fun b=>S b∧b<w.heap.size) W _ _ _ _ ((hTX.o.aC uY).aC hW) ((hTY.o.aC uY).aC hW) (aR (gD f k) nf) (aR (gD g k) ng) (Lf.o k) (Lg.o k));have HT:=aA tO;(have q1:E.length+1<=maxLen:=by have:=hE.o;unfold maxLen;omega);(have q2:(E.length+1)*56<=140737488355328:=by have:=hE.o;omega);have HOW:=aA (fun W (hW:Below wq.heap.size wq W)=>(HO.o.jX hW).own);(have uq:Hid (∀(W:World) (ob:Obj),Below wq.heap.size wq W->wt.heap.size<=(W.alloc ob).heap.size):=fun W ob hW=>by have:=hW.size;have:=j7.o.size;simp;omega);have Fl:Hid (∀j,ov.ownBlock=some j->wt.heap.size<=j):=fun j hj=>(hO.o.own.lt j hj).1;have F:Hid (∀(w7 w8:World) (x:KE) (gg cap:Nat),Below wq.heap.size wq w7->aO (fun b=>(S b∧b<w.heap.size)∨wq.heap.size<=b) n w7 x.v ((kids f).co k-(kids g).co k)->w8.ownsRow wt.heap.size 51 3 (.slice (some ⟨gg,0,none⟩) (E.length+1) cap) (E.length+1) (iL E++xX x)->(w7.alloc (.cells #[.bool x.s,.slice x.A x.k x.c,.slice x.B x.m x.d] 51)).grownBy w8 ov.ownBlock->(ov.ownBlock=some gg∨gg=w7.heap.size+1)->
       aX w8 (w.heap.size+1+1+1) (.bool false) (.slice none 0 0) ov∧j6 51 (fun b=>S b∧b<w.heap.size) (fun b=>b=w.heap.size+1+1+1∨b=w.heap.size+1+1) w wt.heap.size (w8.setCell ⟨w.heap.size+1+1+1,2,none⟩ (.slice (some ⟨gg,0,none⟩) (E.length+1) cap)) n (.slice (some ⟨gg,0,none⟩) (E.length+1) cap) (E++[x]) (fun i=>(kids f).co i-(kids g).co i)∧Only (fun b=>b=w.heap.size+1+1+1∨wt.heap.size<=b) wt (w8.setCell ⟨w.heap.size+1+1+1,2,none⟩ (.slice (some ⟨gg,0,none⟩) (E.length+1) cap))):=fun w7 w8 x gg cap fe hx aa rD gZ=>by
       have a7:Below w7.heap.size w7 (w7.alloc (.cells #[.bool x.s,.slice x.A x.k x.c,.slice x.B x.m x.d] 51)):=aU.alloc aL _;have o8:Only (fun b=>ov.ownBlock=some b) (w7.alloc (.cells #[.bool x.s,.slice x.A x.k x.c,.slice x.B x.m x.d] 51)) w8:=(Only.fK rD).mono (fun i hi=>by first | exact hi | exact hi.symm);have t8:aX w8 (w.heap.size+1+1+1) (.bool false) (.slice none 0 0) ov:=by
        have t7:=((HT.o.aC fe).aC a7);exact t7.keep (o8.block _ t7.lt fun e=>by have:=Fl.o _ e;omega)
       have GJ:=HO.o.next (x:=x) (o:=(.cells #[.bool x.s,.slice x.A x.k x.c,.slice x.B x.m x.d] 51)) (fun b hb=>hb.2) (fun b hb=>by have:=hX.o b hb;have:=j7.o.size;omega) fe (by rw [hE.o];exact hx) aa rD gZ rfl;refine ⟨t8,GJ.box ((Only.refl (fun b=>b=w.heap.size+1+1+1∨b=w.heap.size+1+1) w8).setCell (p:=⟨w.heap.size+1+1+1,2,none⟩) (.inl rfl) _) (fun b hb=>hX.o b hb),?_⟩;have r0:=j7.o.size;have r1:Only (fun b=>b=w.heap.size+1+1+1∨wt.heap.size<=b) wp wq:=(Only.bZ uY).mono fun b hb=> .inr (by omega);have r2:Only (fun b=>b=w.heap.size+1+1+1∨wt.heap.size<=b) wq w7:=(Only.bZ fe).mono fun b hb=> .inr (by omega);have r4:Only (fun b=>b=w.heap.size+1+1+1∨wt.heap.size<=b) (w7.alloc (.cells #[.bool x.s,.slice x.A x.k x.c,.slice x.B x.m x.d] 51)) w8:=o8.mono fun b hb=> .inr (Fl.o b hb);exact ((((j7.o.trans r1).trans r2).alloc _).trans r4).setCell (p:=⟨w.heap.size+1+1+1,2,none⟩) (.inl rfl) _
      clear tX tY hTX hTY hT hO j7 tO uY HO hoX;unfold bE at Cl;go_region_with (go_at_call 85;refine (Cl.o _ (by first | exact aU.drew | exact aU)).mono ?_;rintro e w7 ⟨s7,A7,k7,c7,B7,m7,d7,rfl,RT,kO⟩;unfold bE;have fe:Below wq.heap.size wq w7:=(by first | exact aU.drew.trans kO | exact kO);have cO:=(HT.o.aC fe).aN;have fO:=(HT.o.aC fe).frozen 2;have lO:=(HT.o.aC fe).lt;obtain ⟨gg,cap,w8,Ir,fL,aW,gZ,ou⟩:=Nh (w7.alloc (.cells #[.bool s7,.slice A7 k7 c7,.slice B7 m7 d7] 51)) 49 49 wt.heap.size 51 i0 _ 3 56 underlying49 rT jE jD jJ rfl (by omega) ov E.length (iL E) ((HOW.o _ fe).alloc _) ⟨w7.heap.size,0,none⟩ 1 1 [.bool s7,.slice A7 k7 c7,.slice B7 m7 d7] (by rfl) (gw (cs:=#[.bool s7,.slice A7 k7 c7,.slice B7 m7 d7]) (t:=51) (fr:=(0,0)) (bM w7 _)) (by simp [Value.oneCell']) (Nat.one_pos) q1 q2 (uq.o _ _ fe) (w7.heap.size+1) (by simp);obtain ⟨t8,QO,Iw⟩:=F.o w7 w8 ⟨s7,A7,k7,c7,B7,m7,d7⟩ gg cap fe RT fL aW gZ;have f8:=t8.frozen 2;have c8:=t8.aN)
      all_goals
       have T8:=aA (t8.ZY (.slice (some ⟨gg,0,none⟩) (E.length+1) cap));have Uz:=aA QO;have Ux:=aA Iw;(have HE8:Hid ((E++[(⟨s7,A7,k7,c7,B7,m7,d7⟩:KE)]).length=k+1):=by show _=_;rw [eC,hE.o];rfl);clear t8 QO Iw fL aW gZ ou Ir RT fe kO F HOW uq HT Cl cO fO lO f8 c8 cx0 cx1 cx2 cy0 cy1 cy2 co2 hE;(go_wp2_with fail);go_roundw
       case rel=>exact ⟨k+1,_,_,by omega,by go_num,HE8,Uz,T8,Ux⟩
       case measure=>simp [intOf];omega
  . have dH:¬(k:Int)<(M:Int):=by omega
    obtain ⟨B9,d9,hov,q1,q2,q3⟩:=hO.o.row (fun b hb=>(hX.o b hb).2);subst hov;(have GH:(kids f-kids g).Sh E.length:=fun i hi=>by rw [Poly.oW];exact hM1.o i (by have:=hE.o;omega));(have q4:RowK (fun b=>((S b∧b<w.heap.size)∨w.heap.size<=b)∧¬(b=w.heap.size+1+1+1∨b=w.heap.size+1+1)) (fun i u=>aO (fun b=>((S b∧b<w.heap.size)∨w.heap.size<=b)∧¬(b=w.heap.size+1+1+1∨b=w.heap.size+1+1)) n wp u ((kids f-kids g).co i)) wp B9 E.length:=by simp only [Poly.oW];exact q3);have Q4:=aA q4;have Ct:=aA (fun W (hW:Below wp.heap.size wp W)=>Vi (fun b=>((S b∧b<w.heap.size)∨w.heap.size<=b)∧¬(b=w.heap.size+1+1+1∨b=w.heap.size+1+1)) n W B9 E.length d9 (kids f-kids g) (Q4.o.aC hW) GH q1 q2 hn (K+1) (by omega) (fun i=>by rw [Poly.oW];exact aR (IP _ _) (afH (aR (gD f i) nf) (aR (gD g i) ng))));have t70:=hT.o.cell0;have t71:=hT.o.cell1;have t72:=hT.o.aN;clear q3 q4 GH hE hO j7;unfold bE at Ct;(go_wp2_with fail);refine (Ct.o _ aU).mono ?_;rintro e w1 ⟨s1,A1,k1,c1,B1,m1,d1,rfl,wN,cZ⟩;have AU:=aA (P2.o.aC cZ);have r0:=AU.o.cell0;have r1:=AU.o.cell1;have r2:=AU.o.aN;have r3:=AU.o.frozen 0;have r4:=AU.o.frozen 1;have r5:=AU.o.frozen 2;have F:Hid (aO (fun b=>S b∨w.heap.size<=b) (n+1) (((w1.setCell ⟨w.heap.size+1+1,0,none⟩ (.bool s1)).setCell ⟨w.heap.size+1+1,1,none⟩ (.slice A1 k1 c1)).setCell ⟨w.heap.size+1+1,2,none⟩ (.slice B1 m1 d1)) (bE s1 A1 k1 c1 B1 m1 d1) (f-g)):=
     aO.only (aZ w1 (w.heap.size+1+1) _ _ _) (fun b hb e=>by
      have h9:=P2.o.lt;rcases hb with hb | hb
      . exact hb.2 (.inr e)
      . omega) (fun b hb=>by
      have h9:=pW.o.size;rcases hb with hb | hb
      . rcases hb.1 with h | h
        . exact .inl h.1
        . exact .inr h
      . exact .inr (by omega)) wN
    have cN:Below w.heap.size w w1:=pW.o.tm cZ;have nI:Hid (Below w.heap.size w (((w1.setCell ⟨w.heap.size+1+1,0,none⟩ (.bool s1)).setCell ⟨w.heap.size+1+1,1,none⟩ (.slice A1 k1 c1)).setCell ⟨w.heap.size+1+1,2,none⟩ (.slice B1 m1 d1))):=((cN.setCell (p:=⟨w.heap.size+1+1,0,none⟩) (by show _<=w.heap.size+1+1;omega) _).setCell (p:=⟨w.heap.size+1+1,1,none⟩) (by show _<=w.heap.size+1+1;omega) _).setCell (p:=⟨w.heap.size+1+1,2,none⟩) (by show _<=w.heap.size+1+1;omega) _;clear wN cZ cN Ct;unfold bE;(go_wp2_with fail);exact bK (v:=.agg #[.bool s1,.slice A1 k1 c1,.slice B1 m1 d1]) (dO (fn:=f85) rfl _ _ _ _ _ _ _ rfl (AU.o.set (.bool s1) (.slice A1 k1 c1) (.slice B1 m1 d1)) underlying51 rfl cW) rfl
     ⟨s1,A1,k1,c1,B1,m1,d1,rfl,F.o,nI.o⟩
def PX (K:Nat) (hK:K<=3900000000000):∀n,n<=100->ajv n K
 | 0,_=>fun S w u v f g hf hg nf ng _ _=>akz S w u v f g hf hg K hK nf ng
 | n+1,hn=>fun S w u v f g hf hg nf ng kf kg=>by
   have h:=aky n K hK (by omega) (PX K hK n (by omega)) S w u v f g hf hg nf ng kf kg;rw [lI];exact h
def afx (S:Nat->Prop) (w:World) (u v:Value) (f g:Pn 0) (hf:aO S 0 w u f) (hg:aO S 0 w v g) (K:Nat) (hK:K<=3900000000000) (nf:aH.nm f<2^(64*K)) (ng:aH.nm g<2^(64*K)):
 aB 86 #[u,.int .i64 0,v] w (bW S w 0 (f*g)):=by
 obtain ⟨s,A,k,c,xs,rfl,h1,h2,h3,h4,_⟩:=hf;obtain ⟨t,B,m,d,ys,rfl,i1,i2,i3,i4,_⟩:=hg;have hk:k<=K:=by have h5:=h4.cap (K:=K) nf;have h6:=h3.len;omega
 have hm:m<=K:=by have h5:=i4.cap (K:=K) ng;have h6:=i3.len;omega
 have Cs:=aA (fun W (hW:Below w.heap.size w W)=>ahI s t A B k m c d xs ys W (h3.aC hW) (i3.aC hW) h1 h2 i1 i2 (by omega) (by omega));rw [h4.eq,i4.eq] at Cs;have hb:Below w.heap.size w (((w.alloc (.cells #[.bool s,.slice A k c,.slice none 0 0] 51)).alloc (.cells #[.bool t,.slice B m d,.slice none 0 0] 51)).alloc (.cells #[.bool false,.slice none 0 0,.slice none 0 0] 51)):=((aU.alloc aL _).alloc (by simp) _).alloc (by simp;omega) _;have t2:=aX.new ((w.alloc (.cells #[.bool s,.slice A k c,.slice none 0 0] 51)).alloc (.cells #[.bool t,.slice B m d,.slice none 0 0] 51)) (.bool false) (.slice none 0 0) (.slice none 0 0);rw [aJ,aJ] at t2;have T2:=aA t2;have HB:=aA hb;clear h3 h4 i3 i4 nf ng hb t2;unfold bE;go_enter func86,ntmps86
 go_wp2_with fail
 refine (Cs.o _ (by exact HB.o)).mono ?_;rintro e w1 ⟨s1,A1,k1,c1,ls,rfl,q1,q2,q3,q4,q5,q6,cZ⟩;have T3:=aA (T2.o.aC cZ);have r0:=T3.o.cell0;have r1:=T3.o.cell1;have r2:=T3.o.aN;have r3:=T3.o.frozen 0;have r4:=T3.o.frozen 1;have r5:=T3.o.frozen 2;have hs3:(((w.alloc (.cells #[.bool s,.slice A k c,.slice none 0 0] 51)).alloc (.cells #[.bool t,.slice B m d,.slice none 0 0] 51)).alloc (.cells #[.bool false,.slice none 0 0,.slice none 0 0] 51)).heap.size=w.heap.size+1+1+1:=by simp
 have F:Hid (aO (fun b=>S b∨w.heap.size<=b) 0 (((w1.setCell ⟨w.heap.size+1+1,0,none⟩ (.bool s1)).setCell ⟨w.heap.size+1+1,1,none⟩ (.slice A1 k1 c1)).setCell ⟨w.heap.size+1+1,2,none⟩ (.slice none 0 0)) (bE s1 A1 k1 c1 none 0 0) (f*g)):=
  aO.num q1 q2 (lZ q4 (aZ w1 (w.heap.size+1+1) _ _ _) fun h0 y hy e=>by have:=q6 h0 y hy;omega) q5 fun h0 y hy=> .inr (by have:=q6 h0 y hy;omega)
 have cN:Below w.heap.size w w1:=HB.o.tm cZ;have nI:Hid (Below w.heap.size w (((w1.setCell ⟨w.heap.size+1+1,0,none⟩ (.bool s1)).setCell ⟨w.heap.size+1+1,1,none⟩ (.slice A1 k1 c1)).setCell ⟨w.heap.size+1+1,2,none⟩ (.slice none 0 0))):=((cN.setCell (p:=⟨w.heap.size+1+1,0,none⟩) (by show _<=w.heap.size+1+1;omega) _).setCell (p:=⟨w.heap.size+1+1,1,none⟩) (by show _<=w.heap.size+1+1;omega) _).setCell (p:=⟨w.heap.size+1+1,2,none⟩) (by show _<=w.heap.size+1+1;omega) _;clear q3 q4 q5 q6 cZ Cs hs3 HB cN;go_wp2_with fail
 exact bK (v:=.agg #[.bool s1,.slice A1 k1 c1,.slice none 0 0]) (dO (fn:=f86) rfl _ _ _ _ _ _ _ rfl (T3.o.set (.bool s1) (.slice A1 k1 c1) (.slice none 0 0)) underlying51 rfl cW) rfl
  ⟨s1,A1,k1,c1,none,0,0,rfl,F.o,nI.o⟩
def afv (n:Nat) (hn:n<=100) (S:Nat->Prop) (w:World) (u v:Value) (f g:Pn (n+1)) (hf:aO S (n+1) w u f) (hg:aO S (n+1) w v g) (h0:f=0∨g=0):
 aB 86 #[u,.int .i64 ((n:Int)+1),v] w (bW S w (n+1) (f*g)):=by
 obtain ⟨B,c,rfl,h1,h2,h3⟩:=hf.here;obtain ⟨D,d,rfl,i1,i2,i3⟩:=hg.here;have hz:(((n:Int)+1)==0)=false:=mD.2 (by omega);have e0:f*g=0:=by
  rcases h0 with rfl | rfl
  . exact aF.zero_mul _
  . exact aF.mul_zero _
 rw [e0];obtain ⟨a,ha⟩:∃a:Bool,(((kids f).len:Int)==0)=a:=⟨_,rfl⟩;obtain ⟨b,hb⟩:∃b:Bool,(((kids g).len:Int)==0)=b:=⟨_,rfl⟩;have EZ:a=true∨b=true:=by
  rcases h0 with rfl | rfl
  . left;rw [<- ha];have:(kids (0:Pn (n+1))).len=0:=jC.2 rfl;rw [this];rfl
  . right;rw [<- hb];have:(kids (0:Pn (n+1))).len=0:=jC.2 rfl;rw [this];rfl
 have uN:Below w.heap.size w (((w.alloc (.cells #[.bool false,.slice none 0 0,.slice B (kids f).len c] 51)).alloc (.cells #[.bool false,.slice none 0 0,.slice D (kids g).len d] 51)).alloc (.cells #[.bool false,.slice none 0 0,.slice none 0 0] 51)):=((aU.alloc aL _).alloc (by simp) _).alloc (by simp;omega) _;have t2:=aX.new ((w.alloc (.cells #[.bool false,.slice none 0 0,.slice B (kids f).len c] 51)).alloc (.cells #[.bool false,.slice none 0 0,.slice D (kids g).len d] 51)) (.bool false) (.slice none 0 0) (.slice none 0 0);rw [aJ,aJ] at t2;have T2:=aA t2;have HB:=aA uN;clear h3 i3 hf hg uN t2 h0 e0;unfold bE;go_enter func86,ntmps86
 cases a
 . cases b
   . simp at EZ
   . go_wp2_with fail
     exact bK (v:=.agg #[.bool false,.slice none 0 0,.slice none 0 0]) (dO (fn:=f86) rfl _ _ _ _ _ _ _ rfl T2.o underlying51 rfl cW) rfl ⟨false,none,0,0,none,0,0,rfl,aO.nought _ _ (n+1),HB.o⟩
 . cases b
   . go_wp2_with fail
     exact bK (v:=.agg #[.bool false,.slice none 0 0,.slice none 0 0]) (dO (fn:=f86) rfl _ _ _ _ _ _ _ rfl T2.o underlying51 rfl cW) rfl ⟨false,none,0,0,none,0,0,rfl,aO.nought _ _ (n+1),HB.o⟩
   . go_wp2_with fail
     exact bK (v:=.agg #[.bool false,.slice none 0 0,.slice none 0 0]) (dO (fn:=f86) rfl _ _ _ _ _ _ _ rfl T2.o underlying51 rfl cW) rfl ⟨false,none,0,0,none,0,0,rfl,aO.nought _ _ (n+1),HB.o⟩
def My (s:Bool) (xs:List Int):(aI s xs).natAbs=limbs xs:=by unfold aI;cases s<;>simp
def SA (s t:Bool) (A B:Option Addr) (n m c d:Nat) (xs ys:List Int) (w:World) (hx:aD w A n xs) (hy:aD w B m ys) (jV:n<=c) (hc:c<=9223372036854775807) (nk:m<=d) (hd:d<=9223372036854775807) (hn:n<=4000000000000) (hm:m<=4000000000000):
 aB 98 #[.agg #[.bool s,.slice A n c],.agg #[.bool t,.slice B m d]] w (iA w (aI s xs*aI t ys) (n+m)):=(akd s t A B n m c d xs ys w hx hy jV hc nk hd hn hm).mono fun _ _ ⟨s1,A1,k,c1,ls,h1,h2,h3,_,h5,h6,h7,h8⟩=>⟨s1,A1,k,c1,ls,h1,h2,h3,by
  have a:=dc hx.ok;have b:=dc hy.ok;rw [hx.len] at a;rw [hy.len] at b;have e:=dh Int.natAbs h6.eq;rw [sw,My,My,My] at e;rw [<- h5.len];apply vQ h6.pl;rw [ak,iD];have:=Lu a b;omega,h5,h6,h7,h8⟩
def XO (s t:Bool) (hst:(s==t)=false) (A B:Option Addr) (n m c d:Nat) (xs ys:List Int) (w:World) (hx:aD w A n xs) (hy:aD w B m ys) (jV:n<=c) (hc:c<=9223372036854775807) (nk:m<=d) (hd:d<=9223372036854775807) (hn:n<=4000000000000) (hm:m<=4000000000000) (mj:limbs ys<=limbs xs):
 aB 66 #[.agg #[.bool s,.slice A n c],.agg #[.bool t,.slice B m d]] w (iA w (aI s xs+aI t ys) (max n m+1)):=by
 have Cs:=aA (fun W (h:Below w.heap.size w W)=>O0 A B n m c d xs ys W (hx.aC h) (hy.aC h) (by omega) (by omega));have Cs2:=aA (fun W (h:Below w.heap.size w W)=>O0 B A m n d c ys xs W (hy.aC h) (hx.aC h) (by omega) (by omega));have Cz:=aA (fun (neg:Bool) A' n' c' zs W h h1 h2 h3=>BP neg A' n' c' zs W h h1 h2 h3);obtain ⟨b1,b2,b3,da,db,dr,hsz⟩:=stZ w s A n c t B m d;go_enter func66,ntmps66
 go_wp2_with fail
 have Da:=aA da;have Db:=aA db;have Dr:=aA dr
 clear da db dr b1 b2 hx hy;generalize ((w.alloc (.cells #[.bool s,.slice A n c] 41)).alloc (.cells #[.bool t,.slice B m d] 41)).alloc (.cells #[.bool false,.slice none 0 0] 41)=wt at*
 have a0:=Da.o.cell0;have a1:=Da.o.cell1;have e0:=Db.o.cell0;have e1:=Db.o.cell1;have r0:=Dr.o.cell0;have r1:=Dr.o.cell1;have f0:=Dr.o.frozen 0;have f1:=Dr.o.frozen 1;have la:w.heap.size<wt.heap.size:=by omega
 have lb:w.heap.size+1<wt.heap.size:=by omega
 have lr:w.heap.size+1+1<wt.heap.size:=by omega
 have keep:=LF la lb a0 a1 e0 e1
 have res:=Zg lr r0 r1 Dr
 clear r0 r1 f0 f1;have RS:w.heap.size+1+1≠w.heap.size:=by omega
 have RQ:w.heap.size+1+1≠w.heap.size+1:=by omega
 have xW:w.heap.size<=w.heap.size+1+1:=by omega
 have lr':w.heap.size<=wt.heap.size:=by omega
 clear hsz;generalize w.heap.size+1+1=gr at*
 generalize w.heap.size+1=gb at*
 go_wp2_with fail
 refine (Cs.o _ (by exact b3)).mono ?_;intro e w1 nj;obtain ⟨A1,k1,c1,zs,rfl,g4,g5,g3,g6,g1,g2,fu⟩:=nj.yes mj;obtain ⟨v1,v2,v3,v4⟩:=keep.o w1 fu;clear a0 a1 e0 e1 nj;go_wp2_with fail
 refine (Cz.o s A1 k1 c1 zs w1 g6 g4 g5 (by have:=g6.len;omega)).mono ?_;rintro e w2 ⟨s2,A2,k2,c2,ls,rfl,q1,q2,q3,q4,q5,qf,uw⟩;have lC:Below wt.heap.size wt w2:=fu.tm uw;clear v1 v2 v3 v4;have KW:=Dr.o.aC lC;have cN:Below w.heap.size w w2:=b3.trans (lC.mono (by omega));have hz:dN s2 ls (aI s xs+aI t ys):=by rw [<- qD hst g2 mj];exact q5
 have HF:Hid (0<k2->∀y,A2=some y->w.heap.size<=y.block):=fun h0 y hy=>aG (aG lr' fu.size) (qf h0 y hy);have zP:k2<=max n m+1:=by have:=g6.len;omega
 have Hz:=aA hz;have HD:=aA KW;have Hq4:=aA q4;obtain ⟨r0,r1,f0,f1⟩:=res.o w2 lC;clear hz KW q4 q5 g6 keep qf;go_wp2
 exact bK (dO (fn:=f66) rfl _ _ _ _ _ _ _ rfl (HD.o.set _ _) underlying41 rfl bQ) rfl
  ⟨s2,A2,k2,c2,ls,rfl,q1,q2,zP,HD.o.limbs _ _ rfl rfl Hq4.o,Hz.o,HF.o,(cN.setCell (p:=⟨gr,0,none⟩) xW _).setCell (p:=⟨gr,1,none⟩) xW _⟩
def XN (s t:Bool) (hst:(s==t)=false) (A B:Option Addr) (n m c d:Nat) (xs ys:List Int) (w:World) (hx:aD w A n xs) (hy:aD w B m ys) (jV:n<=c) (hc:c<=9223372036854775807) (nk:m<=d) (hd:d<=9223372036854775807) (hn:n<=4000000000000) (hm:m<=4000000000000) (mj:¬limbs ys<=limbs xs):
 aB 66 #[.agg #[.bool s,.slice A n c],.agg #[.bool t,.slice B m d]] w (iA w (aI s xs+aI t ys) (max n m+1)):=by
 have Cs:=aA (fun W (h:Below w.heap.size w W)=>O0 A B n m c d xs ys W (hx.aC h) (hy.aC h) (by omega) (by omega));have Cs2:=aA (fun W (h:Below w.heap.size w W)=>O0 B A m n d c ys xs W (hy.aC h) (hx.aC h) (by omega) (by omega));have Cz:=aA (fun (neg:Bool) A' n' c' zs W h h1 h2 h3=>BP neg A' n' c' zs W h h1 h2 h3);obtain ⟨b1,b2,b3,da,db,dr,hsz⟩:=stZ w s A n c t B m d;go_enter func66,ntmps66
 go_wp2_with fail
 have Da:=aA da;have Db:=aA db;have Dr:=aA dr
 clear da db dr b1 b2 hx hy;generalize ((w.alloc (.cells #[.bool s,.slice A n c] 41)).alloc (.cells #[.bool t,.slice B m d] 41)).alloc (.cells #[.bool false,.slice none 0 0] 41)=wt at*
 have a0:=Da.o.cell0;have a1:=Da.o.cell1;have e0:=Db.o.cell0;have e1:=Db.o.cell1;have r0:=Dr.o.cell0;have r1:=Dr.o.cell1;have f0:=Dr.o.frozen 0;have f1:=Dr.o.frozen 1;have la:w.heap.size<wt.heap.size:=by omega
 have lb:w.heap.size+1<wt.heap.size:=by omega
 have lr:w.heap.size+1+1<wt.heap.size:=by omega
 have keep:=LF la lb a0 a1 e0 e1
 have res:=Zg lr r0 r1 Dr
 clear r0 r1 f0 f1;have RS:w.heap.size+1+1≠w.heap.size:=by omega
 have RQ:w.heap.size+1+1≠w.heap.size+1:=by omega
 have xW:w.heap.size<=w.heap.size+1+1:=by omega
 have lr':w.heap.size<=wt.heap.size:=by omega
 clear hsz;generalize w.heap.size+1+1=gr at*
 generalize w.heap.size+1=gb at*
 go_wp2_with fail
 refine (Cs.o _ (by exact b3)).mono ?_;intro e w0 nj;obtain ⟨rfl,alO⟩:=nj.no mj;obtain ⟨u1,u2,u3,u4⟩:=keep.o w0 alO;clear a0 a1 e0 e1 nj;go_wp2_with fail
 refine (Cs2.o _ (b3.trans (alO.mono (by omega)))).mono ?_;intro e w1 nj;obtain ⟨A1,k1,c1,zs,rfl,g4,g5,g3,g6,g1,g2,Fo⟩:=nj.yes (by omega);have fu:Below wt.heap.size wt w1:=alO.tm Fo;obtain ⟨v1,v2,v3,v4⟩:=keep.o w1 fu;clear u1 u2 u3 u4 nj;go_wp2_with fail
 refine (Cz.o t A1 k1 c1 zs w1 g6 g4 g5 (by have:=g6.len;omega)).mono ?_;rintro e w2 ⟨s2,A2,k2,c2,ls,rfl,q1,q2,q3,q4,q5,qf,uw⟩;have lC:Below wt.heap.size wt w2:=fu.tm uw;clear v1 v2 v3 v4;have KW:=Dr.o.aC lC;have cN:Below w.heap.size w w2:=b3.trans (lC.mono (by omega));have hz:dN s2 ls (aI s xs+aI t ys):=by rw [Nl,<- qD (s:=t) (t:=s) (by cases s<;>cases t<;>simp_all) g2 (by omega)];exact q5
 have HF:Hid (0<k2->∀y,A2=some y->w.heap.size<=y.block):=fun h0 y hy=>aG (aG lr' fu.size) (qf h0 y hy);have zP:k2<=max n m+1:=by have:=g6.len;omega
 have Hz:=aA hz;have HD:=aA KW;have Hq4:=aA q4;obtain ⟨r0,r1,f0,f1⟩:=res.o w2 lC;clear hz KW q4 q5 g6 keep qf;go_wp2
 exact bK (dO (fn:=f66) rfl _ _ _ _ _ _ _ rfl (HD.o.set _ _) underlying41 rfl bQ) rfl
  ⟨s2,A2,k2,c2,ls,rfl,q1,q2,zP,HD.o.limbs _ _ rfl rfl Hq4.o,Hz.o,HF.o,(cN.setCell (p:=⟨gr,0,none⟩) xW _).setCell (p:=⟨gr,1,none⟩) xW _⟩
def ake (s t:Bool) (A B:Option Addr) (n m c d:Nat) (xs ys:List Int) (w:World) (hx:aD w A n xs) (hy:aD w B m ys) (jV:n<=c) (hc:c<=9223372036854775807) (nk:m<=d) (hd:d<=9223372036854775807) (hn:n<=4000000000000) (hm:m<=4000000000000):
 aB 66 #[.agg #[.bool s,.slice A n c],.agg #[.bool t,.slice B m d]] w (iA w (aI s xs+aI t ys) (max n m+1)):=by
 by_cases hst:(s==t)=true
 . exact ahf s t A B n m c d xs ys w hx hy jV hc nk hd hn hm _ _ _ (.inr ⟨.inr rfl,hst,rfl,rfl⟩)
 . have afV:(s==t)=false:=by simpa using hst
   by_cases mj:limbs ys<=limbs xs
   . exact XO s t afV A B n m c d xs ys w hx hy jV hc nk hd hn hm mj
   . exact XN s t afV A B n m c d xs ys w hx hy jV hc nk hd hn hm mj
def vI {s:Bool} {X:Nat}(h:dN s xs (X:Int)):s=false∧limbs xs=X:=by
 have h1:=h.eq;have h2:=h.nz;have h3:=h.pl.kN;unfold aI at h1;cases s
 . simp at h1;exact ⟨rfl,by omega⟩
 . simp at h1
   have:=h2 rfl;omega
def ahO (s t:Bool) (A B:Option Addr) (n m c d:Nat) (xs ys:List Int) (w:World) (hx:aD w A n xs) (hy:aD w B m ys) (jV:n<=c) (hc:c<=9223372036854775807) (nk:m<=d) (hd:d<=9223372036854775807) (hn:n<=3900000000000) (hm:m<=3900000000000):
 aB 60 #[.agg #[.bool s,.slice A n c],.agg #[.bool t,.slice B m d]] w (pX w ((Nat.gcd (limbs xs) (limbs ys):Nat):Int) (max n m)):=by
 have al:∀(W:World) (o:Obj),Below W.heap.size W (W.alloc o):=fun W o=>aU.alloc aL o;have da:=((Duo.new w (.bool s) (.slice A n c)).aC (al _ (.cells #[.bool t,.slice B m d] 41))).aC (al _ (.cells #[.bool false,.slice none 0 0] 41));have db:=(Duo.new (w.alloc (.cells #[.bool s,.slice A n c] 41)) (.bool t) (.slice B m d)).aC (al _ (.cells #[.bool false,.slice none 0 0] 41));have dr:=Duo.new ((w.alloc (.cells #[.bool s,.slice A n c] 41)).alloc (.cells #[.bool t,.slice B m d] 41)) (.bool false) (.slice none 0 0);rw [aJ] at db;rw [aJ,aJ] at dr;have b3:Below w.heap.size w (((w.alloc (.cells #[.bool s,.slice A n c] 41)).alloc (.cells #[.bool t,.slice B m d] 41)).alloc (.cells #[.bool false,.slice none 0 0] 41)):=((al w _).alloc (by simp) _).alloc (by simp;omega) _;have Cx:=aA (fun W (h:Below w.heap.size w W)=>ahP s A n c xs W (hx.aC h) jV hc (by omega));have Cy:=aA (fun W (h:Below w.heap.size w W)=>ahP t B m d ys W (hy.aC h) nk hd (by omega));go_enter func60,ntmps60
 go_wp2_with fail
 have a0:=da.cell0;have a1:=da.cell1;have Db:=aA db;have Dr:=aA dr;clear da db dr hx hy al;generalize ((w.alloc (.cells #[.bool s,.slice A n c] 41)).alloc (.cells #[.bool t,.slice B m d] 41)).alloc (.cells #[.bool false,.slice none 0 0] 41)=wt at*
 go_wp2_with fail
 refine (Cx.o _ (by exact b3)).mono ?_;rintro e w1 ⟨s1,A1,n5,c1,us,rfl,x1,x2,x3,x4,x5,NI⟩;have alM:Below wt.heap.size wt (w1.alloc (.cells #[.bool s1,.slice A1 n5 c1] 41)):=NI.alloc NI.size _;have dx1:=Duo.new w1 (.bool s1) (.slice A1 n5 c1);have X4:=aA (x4.alloc (.cells #[.bool s1,.slice A1 n5 c1] 41));have Db1:=Db.o.aC alM;have e0:=Db1.cell0;have e1:=Db1.cell1;have anm:=aA alM;have Dx1:=aA dx1;have X5:=aA x5;have wU:wt.heap.size<=w1.heap.size:=NI.size;clear a0 a1 Db1 NI alM dx1 x4 x5;go_wp2_with fail
 generalize hgx:w1.heap.size=gx at*
 clear hgx;generalize w1.alloc (.cells #[.bool s1,.slice A1 n5 c1] 41)=w2 at*
 refine (Cy.o _ (b3.tm anm.o)).mono ?_;rintro e w3 ⟨s2,A2,n6,c2,vs,rfl,y1,y2,y3,y4,y5,Ge⟩;have agt:Below w2.heap.size w2 (w3.alloc (.cells #[.bool s2,.slice A2 n6 c2] 41)):=Ge.alloc Ge.size _;have Dy1:=aA (Duo.new w3 (.bool s2) (.slice A2 n6 c2));have Dx2:=aA (Dx1.o.aC agt);have X4':=aA (X4.o.aC agt);have Y4:=aA (y4.alloc (.cells #[.bool s2,.slice A2 n6 c2] 41));have Y5:=aA y5;have HB:=aA (anm.o.tm agt);have aqK:=Dx1.o.lt;have S6:gx<w3.heap.size:=iE aqK Ge.size;clear e0 e1 Ge agt y4 y5 aqK Dx1 X4 anm;go_wp2_with fail
 generalize hgy:w3.heap.size=gy at*
 clear hgy;generalize w3.alloc (.cells #[.bool s2,.slice A2 n6 c2] 41)=w4 at*
 have hZx:=vI X5.o;have hZy:=vI Y5.o;have atK:=aA (Dr.o.aC HB.o);have Hw4:Hid (Below w.heap.size w w4):=b3.tm HB.o;have bu:Hid (n5<=max n m∧n6<=max n m):=⟨by omega,by omega⟩;obtain ⟨K,hK⟩:∃K,max n m=K:=⟨_,rfl⟩;have HKm:=aA hK;have hK1:K<=3900000000000:=by omega
 rw [hK] at bu;have hP1:Hid (bY us):=X5.o.pl;have hP2:Hid (bY vs):=Y5.o.pl;obtain ⟨rfl,ex⟩:=hZx;obtain ⟨rfl,ey⟩:=hZy;obtain ⟨G,hG⟩:∃G,(limbs us).gcd (limbs vs)=G:=⟨_,rfl⟩;have HG:=aA hG;have HGG:Hid ((limbs xs).gcd (limbs ys)=G):=by show _=_;rw [<- ex,<- ey];exact hG
 have gxw:w.heap.size+1+1<gx:=by have:=Dr.o.lt;omega
 have gyx:gx<gy:=S6;have gyw:gy<w4.heap.size:=Dy1.o.lt;clear ex ey hG hK b3 HB X5 Y5 Cx Cy Db Dr wU S6;go_loopg [7,8,9] (limbs vs+1) (fun gk _ _ _ wr=>∃A5 n5 c5 Jw A6 n6 c6 zS,Hid (Duo wr gx (.bool false) (.slice A5 n5 c5))∧Hid (Duo wr gy (.bool false) (.slice A6 n6 c6))∧n5<=c5∧c5<=9223372036854775807∧n6<=c6∧c6<=9223372036854775807∧Hid (n5<=K∧n6<=K)∧Hid (aD wr A5 n5 Jw)∧Hid (aD wr A6 n6 zS)∧Hid (bY Jw∧bY zS)∧Hid ((limbs Jw).gcd (limbs zS)=G)∧Hid (limbs zS<gk)∧Hid (Duo wr (w.heap.size+1+1) (.bool false) (.slice none 0 0))∧Hid (Below w.heap.size w wr))
 case atStart=>exact ⟨A1,n5,c1,us,A2,n6,c2,vs,Dx2,Dy1,x1,x2,y1,y2,bu,X4',Y4,⟨hP1.o,hP2.o⟩,HG,xy _,atK,Hw4⟩
 case round=>
  clear x1 x2 x3 y1 y2 y3 X4' Y4 hP1 hP2 HG bu Dx2 Dy1 atK Hw4 gyw;obtain ⟨A5,n5,c5,Jw,A6,n6,c6,zS,D5,D6,u1,u2,u3,u4,bu,L5,L6,hPP,hG,OE,D4,hB⟩:=hrel;have y0:=D6.o.cell0;have y1:=D6.o.cell1;have Cs:=aA (R9 false A6 n6 c6 zS wr L6.o u3 u4 (by have:=bu.o;omega));have YA:aI false zS=((limbs zS:Nat):Int):=rfl;by_cases h0:limbs zS=0
  . have NB:Hid (limbs Jw=G):=by
     have:=hG.o;rw [h0,UG] at this;exact this
    (have KF:Oi (aI false zS)=0:=by rw [YA,h0];rfl);rw [KF] at Cs;clear h0 KF YA L6 hG OE;(go_wp2_with fail);refine Cs.o.mono ?_;rintro e w7 ⟨rfl,rE⟩;have Yn:=D4.o.aC rE;have r0:=Yn.cell0;have r1:=Yn.cell1;have f0:=Yn.frozen 0;have f1:=Yn.frozen 1;have k0:=(D5.o.aC rE).cell0;have k1:=(D5.o.aC rE).cell1;(have xW:w.heap.size<=w.heap.size+1+1:=by omega);have Hb:Hid (Below w.heap.size w w7):=hB.o.tm rE;have HL:=aA (L5.o.aC rE);have HD:=aA Yn;have HZ:Hid (dN false Jw (G:Int)):=⟨hPP.o.1,by unfold aI;rw [aY (by decide),NB.o],fun h=>by cases h⟩;have Sy:n5<=K:=bu.o.1;clear rE Yn Cs y0 y1;(go_wp2);exact bK (dO (fn:=f60) rfl _ _ _ _ _ _ _ rfl (HD.o.set _ _) underlying41 rfl bQ) rfl
     ⟨false,A5,n5,c5,Jw,rfl,u1,u2,by rw [HKm.o];exact Sy,HD.o.limbs _ _ rfl rfl HL.o,by rw [HGG.o];exact HZ.o,(Hb.o.setCell (p:=⟨w.heap.size+1+1,0,none⟩) xW _).setCell (p:=⟨w.heap.size+1+1,1,none⟩) xW _⟩
  . have sX:0<limbs zS:=uS h0
    (have KF:Oi (aI false zS)=1:=by rw [YA];unfold Oi;rw [aY (by omega),aM (by omega)]);rw [KF] at Cs;have Cd:=aA (fun W (h:Below wr.heap.size wr W)=>Zj false false A5 A6 n5 n6 c5 c6 Jw zS W (L5.o.aC h) (L6.o.aC h) u1 u2 u3 u4 (by have:=bu.o;omega) (by have:=bu.o;omega) sX);have Hpos:=aA sX;have Hs6:=aA YA;have hs5:Hid (aI false Jw=((limbs Jw:Nat):Int)):=rfl;clear h0 sX KF YA;(go_wp2_with fail);refine Cs.o.mono ?_;rintro e w7 ⟨rfl,rE⟩;have k0:=(D5.o.aC rE).cell0;have k1:=(D5.o.aC rE).cell1;have m0:=(D6.o.aC rE).cell0;have m1:=(D6.o.aC rE).cell1;clear y0 y1;(go_wp2_with fail);refine (Cd.o _ rE).mono ?_;rintro e w8 ⟨s7,A7,k7,c7,qs,s8,A8,k8,c8,rs,rfl,z1,z2,z3,z4,z5,z6,z7,z8,z9,z10,_,Ak⟩;have hZr:=vI (X:=limbs Jw % limbs zS) (by rw [Hs6.o,hs5.o,<- ada] at z10;exact z10);obtain ⟨rfl,CE⟩:=hZr;have hPr:bY rs:=z10.pl;have hk8:k8<=n6:=by
     have q1:=vQ hPr (j:=n6) (by have h5:=dc L6.o.ok;rw [L6.o.len] at h5;have h6:=jy (limbs Jw) Hpos.o;omega);rw [z8.len] at q1;exact q1
    have al:∀(W:World) (o:Obj),Below W.heap.size W (W.alloc o):=fun W o=>aU.alloc aL o;have de:=Duo.new (w8.alloc (.cells #[.bool s7,.slice A7 k7 c7] 41)) (.bool false) (.slice A8 k8 c8);rw [aJ] at de;have CX:Below wr.heap.size wr ((w8.alloc (.cells #[.bool s7,.slice A7 k7 c7] 41)).alloc (.cells #[.bool false,.slice A8 k8 c8] 41)):=((rE.tm Ak).alloc (by have:=rE.size;have:=Ak.size;omega) _).alloc (by have:=rE.size;have:=Ak.size;simp;omega) _;have WH:=D5.o.aC CX;have hD6:=D6.o.aC CX;have hD4:=D4.o.aC CX;have m0':=hD6.cell0;have m1':=hD6.cell1;have d0':=de.cell0;have d1':=de.cell1;have f0:=WH.frozen 0;have f1:=WH.frozen 1;have f2:=hD6.frozen 0;have f3:=hD6.frozen 1;have x0:=WH.cell0;have x1:=WH.cell1;have hL8:=(z8.aC (al w8 (.cells #[.bool s7,.slice A7 k7 c7] 41))).aC (al _ (.cells #[.bool false,.slice A8 k8 c8] 41));have hL6:=L6.o.aC CX;have hg8:gy<w8.heap.size:=iE D6.o.lt (aG rE.size Ak.size);have HL8:=aA hL8;have HL6:=aA hL6;have HD5:=aA WH;have HD6:=aA hD6;have HD4:=aA hD4;have HDe:=aA de;have Yk:=aA CX;have Hrl:=aA CE;have HPr:=aA hPr;have HP6:Hid (bY zS):=hPP.o.2;clear k0 k1 m0 m1 z1 z2 z7 z8 z9 z10 Ak rE hL8 hL6 WH hD6 hD4 de CX CE hPr al Cs Cd;(go_wp2_with fail);generalize ((w8.alloc (.cells #[.bool s7,.slice A7 k7 c7] 41)).alloc (.cells #[.bool false,.slice A8 k8 c8] 41))=w9 at*
    have q5:=HD5.o.set (.bool false) (.slice A6 n6 c6);have q6:=(HD6.o.other ⟨gx,0,none⟩ (by show gx≠gy;omega) (.bool false)).other ⟨gx,1,none⟩ (by show gx≠gy;omega) (.slice A6 n6 c6);have q4:=(HD4.o.other ⟨gx,0,none⟩ (by show gx≠_;omega) (.bool false)).other ⟨gx,1,none⟩ (by show gx≠_;omega) (.slice A6 n6 c6);have p6:=HD5.o.limbs (.bool false) (.slice A6 n6 c6) rfl rfl HL6.o;have p8:=HD5.o.limbs (.bool false) (.slice A6 n6 c6) rfl rfl HL8.o;have r6:=q6.limbs (.bool false) (.slice A8 k8 c8) rfl rfl p6;have r8:=q6.limbs (.bool false) (.slice A8 k8 c8) rfl rfl p8;have r5:=(q5.other ⟨gy,0,none⟩ (by show gy≠gx;omega) (.bool false)).other ⟨gy,1,none⟩ (by show gy≠gx;omega) (.slice A8 k8 c8);have t6:=q6.set (.bool false) (.slice A8 k8 c8);have t4:=(q4.other ⟨gy,0,none⟩ (by show gy≠_;omega) (.bool false)).other ⟨gy,1,none⟩ (by show gy≠_;omega) (.slice A8 k8 c8);(have hgx:w.heap.size<=gx:=by omega);(have hgy:w.heap.size<=gy:=by omega);have hB2:=hB.o.tm Yk.o;have hB3:=(((hB2.setCell (p:=⟨gx,0,none⟩) hgx (.bool false)).setCell (p:=⟨gx,1,none⟩) hgx (.slice A6 n6 c6)).setCell (p:=⟨gy,0,none⟩) hgy (.bool false)).setCell (p:=⟨gy,1,none⟩) hgy (.slice A8 k8 c8);have hG2:(limbs zS).gcd (limbs rs)=G:=by
     rw [Hrl.o,<- hG.o,Nn,<- Nat.gcd_rec,Nn]
    (have hlt:limbs rs<limbs zS:=by rw [Hrl.o];exact jy _ Hpos.o);go_roundg (gk-1)
    case measure=>have:=OE.o;omega
    case rel=>exact ⟨A6,n6,c6,zS,A8,k8,c8,rs,r5,t6,u3,u4,z5,z6,⟨bu.o.2,by have:=bu.o;omega⟩,r6,r8,⟨HP6.o,HPr.o⟩,hG2,by have:=OE.o;show _<_;omega,t4,hB3⟩
