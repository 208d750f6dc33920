import Derived.Test.YtehcoffbiplphaaGreatGDvB
import Derived.Test.YtehcoffbiplphaaGreatGRzin
set_option linter.all false
set_option maxHeartbeats 16000000
set_option maxRecDepth 100000
namespace Go.Proofs.YtehcoffbiplphaaGreat
open Go.Proofs.Tryz
open Go.RowKit
variable {ys xs qs rs:List Int} {n:Nat}
def DX (xs:List Int) (k i:Nat):nth (xs.drop k) i=nth xs (k+i):=by unfold nth;simp [List.getD]
def Gl {w w':World} {gu gq:Nat}(h:Only (fun k=>w.heap.size<=k) w w'):Only (fun j=>j=gu∨j=gq) w w':=⟨h.os,h.tape,h.output,h.size,fun k hk _=>h.block k hk (by omega)⟩
def zv (w:World) (n X Y:Nat) (e:Ending) (w':World):Prop:=
 ∃qs rs A1 k1 c1 A2 k2 c2,e=.returned (.tuple #[.slice A1 k1 c1,.slice A2 k2 c2,.int .i64 0])∧bX qs∧bX rs∧limbs qs=X / Y∧limbs rs=X % Y∧k1<=n∧k2<=n∧k1<=c1∧c1<=9223372036854775807∧k2<=c2∧c2<=9223372036854775807∧aD w' A1 k1 qs∧aD w' A2 k2 rs∧Below w.heap.size w w'
def YO (h:bX ys) (h2:2<=ys.length) {k:Nat}(hk:Lib.bitLen (nth ys (ys.length-1)).toNat=k):0<k∧k<=64∧limbs ys<2^(64*(ys.length-1)+k):=by
 have ht:=h.2 (by omega);have hb:=h.1 (ys.length-1);have h1:=Dd (x:=(nth ys (ys.length-1)).toNat) (by omega);rw [hk] at h1;have awr:k<=64:=by rw [<- hk];exact Lib.bitLen_le _ 64 (by omega) (by omega)
 refine ⟨?_,awr,?_⟩
 . rcases jJ k with h0 | h0
   . rw [h0] at h1;omega
   . exact h0
 . have e1:=nO (xs:=ys) (k:=ys.length-1) (by omega)
   rw [show ys.length-1+1=ys.length by omega,LK] at e1;have h3:=eH (h.1.take (ys.length-1));rw [cS,pF (by omega)] at h3;have h4:2^(64*(ys.length-1))*((nth ys (ys.length-1)).toNat+1)<=2^(64*(ys.length-1))*2^k:=bl _ h1;rw [<- iH,ak,bg] at h4;omega
def KH {xs:List Int}(h:bX xs) (h1:limbs xs<2^(64*n)):xs.length<=n:=by
 rcases jJ xs.length with h0 | h0
 . omega
 . have h2:=h.low h0
   by_cases hl:xs.length<=n
   . exact hl
   . exfalso
     have:2^(64*n)<=2^(64*(xs.length-1)):=fM (by omega) (by omega);omega
def usize:(prog.info? 38).map (·.size)=some 1:=by kernel_rfl
def ZY (A B:Option Addr) (n m c d:Nat) (xs ys:List Int) (w:World) (hx:aD w A n xs) (hy:aD w B m ys) (ig:n<=c) (hc:c<=9223372036854775807) (kX:m<=d) (hd:d<=9223372036854775807) (hn:n<=3900000000000) (hm:m<=3900000000000) (h2:2<=bu ys m) (mS:limbs ys<=limbs xs):
 aC 82 #[.slice A n c,.slice B m d] w (zv w (n+1) (limbs xs) (limbs ys)):=by
 obtain ⟨i0,hi,iQ,iC,iP⟩:=dJ cN;have jq:=hx.len;have uJ:=hy.len;have l1:=bS xs n;have l2:=bS ys m;obtain ⟨p1,p2⟩:=bF hx.ok jq;obtain ⟨p3,p4⟩:=bF hy.ok uJ;have C1:=aA (bK A n c xs w hx ig hc);have C2:=aA (bK B m d ys w hy kX hd);have Hx:=aA (hx.take l1);have Hy:=aA (hy.take l2);have Cc:=aA (yK A B (bu xs n) (bu ys m) c d _ _ w Hx.o Hy.o (by omega) hc (by omega) hd (by omega) (by omega));have XP:¬jc (limbs (xs.take (bu xs n))) (limbs (ys.take (bu ys m)))<0:=by
  rw [p2,p4];unfold jc;rw [af (by omega)];split<;>omega
 have HXv:=aA p2;have HYv:=aA p4;have HXp:=aA p1;have HYp:=aA p3;have Hx0:=aA Hx.o.len;have Hy0:=aA Hy.o.len;clear hx hy jq uJ p1 p2 p3 p4;rw [<- HXv.o,<- HYv.o];have aeR:Hid (limbs (ys.take (bu ys m))<=limbs (xs.take (bu xs n))):=by rw [HXv.o,HYv.o];exact mS
 clear HXv HYv mS;generalize bu xs n=u at*
 generalize bu ys m=v at*
 generalize xs.take u=us at*
 generalize ys.take v=vs at*
 clear xs ys
 obtain ⟨kb,hkb⟩:∃k,Lib.bitLen (nth vs (vs.length-1)).toNat=k:=⟨_,rfl⟩;obtain ⟨t1,t2,t3⟩:=YO HYp.o (by rw [Hy0.o];exact h2) hkb;rw [Hy0.o] at hkb t3;have Z9:=HYp.o.1 (v-1);have Dy:=HYp.o.low (by rw [Hy0.o];omega);rw [Hy0.o] at Dy;obtain ⟨b,o,rfl,hb,hcB⟩:=Hy.o.at_ (by omega);have hct:=hcB (v-1) (by omega);have Cz:=aA (fun W=>K8 (nth vs (v-1)) W Z9.1 (by omega) kb hkb t2);obtain ⟨s,hs⟩:∃s,64-kb=s:=⟨_,rfl⟩;rw [hs] at Cz;have XG:s<64:=by omega
 have Cv:=aA (fun W (h:Below w.heap.size w W)=>Oh (some ⟨b,o,none⟩) v d vs s W (Hy.o.aB h) (by omega) XG);have Cu:=aA (fun W (h:Below w.heap.size w W)=>Oh A u c us s W (Hx.o.aB h) (by omega) XG);have HV:Hid (limbs vs*2^s<2^(64*v)):=by
  have h5:limbs vs*2^s<2^(64*(v-1)+kb)*2^s:=ahD t3 (lC s);rw [<- iH,show 64*(v-1)+kb+s=64*v by omega] at h5;exact h5
 have HL:Hid (2^(64*(v-1))<=limbs vs):=Dy;have wN:IntKind.i64.wrap ((v:Int)-1)=((v-1:Nat):Int):=by rw [bR _ (by omega)];omega
 have Rs:(0:Int)<=((v-1:Nat):Int):=by omega
 have VA:((v-1:Nat):Int)<(v:Int):=by omega
 have VB:((v:Int)==0)=false:=by simp;omega
 have ajo:((v:Int)==1)=false:=by simp;omega
 clear hcB Z9 Dy t1 t2 t3 hkb hs ig kX;generalize nth vs (v-1)=tl at*
 obtain ⟨v1,hvv⟩:∃v1,v-1=v1:=⟨_,rfl⟩;rw [hvv] at wN Rs VA hct;have Hvv:=aA hvv;clear hvv;go_enter func82,ntmps82
 go_wp2_with fail
 refine C1.o.mono ?_;rintro e w' ⟨rfl,rfl⟩;go_wp2_with fail
 refine C2.o.mono ?_;rintro e w' ⟨rfl,rfl⟩;go_wp2_with fail
 refine Cc.o.mono ?_;rintro e w1 ⟨rfl,j1,F7⟩;have dH:Below w'.heap.size w' w1:=by subst F7;exact below_drewN aW _
 have axj:=(dH.cell (p:=⟨b,o+v1,none⟩) hb).trans hct;have JQ:=aA dH;clear F7 hct dH C1 C2 Cc;go_wp2_with fail
 refine (Cz.o _).mono ?_;rintro e w2 ⟨rfl,rfl⟩;clear Cz axj;go_wp2_with fail
 refine (Cv.o _ JQ.o).mono ?_;rintro e w2 ⟨ws,Av,kv,cv,rfl,f1,f2,f3,f4,f5,f6,f7,f8,f9⟩;have vz:Hid (Below w'.heap.size w' w2):=JQ.o.tm f9;go_wp2_with fail
 refine (Cu.o _ vz.o).mono ?_;rintro e w3 ⟨zs,Au,ku,cu,rfl,g1,g2,g3,g4,g5,g6,g7,g8,g9⟩;have QO:Hid (Below w'.heap.size w' w3):=vz.o.tm g9;clear Cv Cu
 have hkv:kv=v:=by
  have q1:=f6.len;have q2:=KH f1 (n:=v) (by rw [f2];exact HV.o);by_cases q3:v<=kv
  . omega
  . exfalso
    have q4:=eH f1.1;have q5:2^(64*ws.length)<=2^(64*(v-1)):=fM (by omega) (by omega);have q6:limbs vs*1<=limbs vs*2^s:=bl _ (lC s);have q7:=HL.o;omega
 subst hkv;obtain ⟨gv,hAv,awC,apl,awB,awA,_⟩:=xI f7 (by omega);subst hAv;have HWs:=aA (f6.aB g9);have Hwl:=aA f6.len;have HWv:=aA f2;have HWo:=aA f1.1;have hku:=g6.len;obtain ⟨kz,hkz⟩:∃kz,u+1-ku=kz:=⟨_,rfl⟩;have ez:IntKind.i64.wrap (IntKind.i64.wrap ((u:Int)+1)-(ku:Int))=(kz:Int):=by rw [bR ((u:Int)+1) (by omega),bR _ (by omega)];omega
 have ez1:IntKind.i64.wrap ((u:Int)+1)=((u+1:Nat):Int):=by rw [bR _ (by omega)];omega
 have ez2:IntKind.i64.wrap (((u+1:Nat):Int)-(ku:Int))=(kz:Int):=by rw [bR _ (by omega)];omega
 have ez3:IntKind.i64.wrap ((u:Int)+1-(ku:Int))=(kz:Int):=by rw [bR _ (by omega)];omega
 have Mb:(Value.int .u64 0).cells=#[Value.int .u64 0]:=rfl;have awz:gv<w3.heap.size:=gh apl g9.size;obtain ⟨va,wa,hra,aeM,ajT,awb⟩:=qQ (P:=prog) w3 w2.heap.size 39 3 39 38 i0 (.int .u64 0) .i64 .i64 underlying39 underlying3 hi iQ iC iP Mb rfl (.slice Au ku cu) ku (au zs) g7 kz (by omega) g9.size;have Ma:au zs++List.replicate kz (.int .u64 0)=au (zs++List.replicate kz 0):=by rw [dU];congr 1;simp [au]
 rw [Ma,show ku+kz=u+1 by omega] at aeM;obtain ⟨Aw,cw,rfl⟩:=eM aeM;obtain ⟨gu,hAw,apn,aIK,apm,awE,ex,hUx,aIW⟩:=xI aeM (by omega);subst hAw;have ID:∀k,(Value.slice Au ku cu).ownBlock=some k->w2.heap.size<=k:=fun k hk=>(g7.lt k hk).1;have HU:Hid (wW wa gu (zs++List.replicate kz 0) ex):=hUx;have Hb4:Hid (Below w'.heap.size w' wa):=QO.o.grown ajT QO.o.size (fun k hk=>by have:=ID k hk;have:=vz.o.size;omega);have arP:Hid (aD wa (some ⟨gv,0,none⟩) kv ws):=HWs.o.only (Only.fH ajT) (fun y hy hg=>by injection hy with hy;subst hy;have h5:w2.heap.size<=gv:=ID _ hg;omega);have hne:gv≠gu:=by
  have:=apn;omega
 have hUo:Hid (aQ (zs++List.replicate kz 0)):=yD g1.1 (by
  intro i;by_cases hi:i<(List.replicate kz (0:Int)).length
  . rw [gJ hi,LJ];omega
  . rw [cW (by omega)];omega)
 have SF:Hid ((zs++List.replicate kz (0:Int)).length=u+1):=by show _=_;rw [eF,gI];omega
 have hUv:Hid (limbs (zs++List.replicate kz 0)=limbs us*2^s):=by show _=_;rw [iM,nQ,jv,je,g2]
 have avv:=aA hra;clear hra Ma hUx aeM ajT awb ID HWs f1 f2 f3 f6 f7 f8 f9 g1 g2 g6 g7 g8 g9 hkz;generalize zs++List.replicate kz (0:Int)=U0 at*
 obtain ⟨L,hL⟩:∃L,u+1-kv=L:=⟨_,rfl⟩;have awm:kv<=u:=by
  have q1:=eH HXp.o.1;have q2:=HL.o;have q3:=aeR.o;rw [Hx0.o] at q1;by_cases q4:kv<=u
  . exact q4
  . exfalso
    have q5:2^(64*u)<=2^(64*(kv-1)):=fM (by omega) (by omega);omega
 have eL2:(u:Int)+1-(kv:Int)=(L:Int):=by omega
 have eL3:IntKind.i64.wrap (L:Int)=(L:Int):=bR _ (by omega);have eL4:IntKind.i64.wrap ((L:Int)-1)=(L:Int)-1:=bR _ (by omega);have Ck:=ej underlying39 hi iQ iC iP L (by omega) wa;have zw:Hid (eR (wa.alloc (.cells (au (List.replicate L 0)).toArray 38)) wa.heap.size 38 (List.replicate L 0)):=eR.new wa _ _;have hql:Hid ((List.replicate L (0:Int)).length=L):=gI;have hqo:Hid (aQ (List.replicate L (0:Int))):=by
  intro i;by_cases hi:i<(List.replicate L (0:Int)).length
  . rw [gJ hi,LJ];omega
  . rw [cW (by omega)];omega
 have hD0:Hid (uI (limbs us*2^s) (limbs vs*2^s) L U0 (List.replicate L 0)):=by
  have q1:=eH HXp.o.1;rw [Hx0.o] at q1;have q2:=uI.start (X:=limbs us) (Y:=limbs vs) (s:=s) (la:=u) (n:=kv) hUo.o hqo.o hUv.o q1 HL.o (by omega) (by omega) (by rw [hql.o,hL]);rw [hL] at q2;exact q2
 have uY:Below wa.heap.size wa (wa.alloc (.cells (au (List.replicate L 0)).toArray 38)):=aW.alloc aK _;have HU1:=aA (HU.o.aB uY);have HW1:=aA (arP.o.aB uY);have zz:Hid (Below w'.heap.size w' (wa.alloc (.cells (au (List.replicate L 0)).toArray 38))):=Hb4.o.tm uY;have rN:w'.heap.size<=gu:=by have:=vz.o.size;omega
 have axt:w'.heap.size<=wa.heap.size:=Hb4.o.size;have apk:gv≠wa.heap.size:=by omega
 have agZ:gu≠wa.heap.size:=by omega
 go_wp2_with (at_builtin;go_must (refine Lib.wpList_append_run _ rfl _ _ _ _ rfl (.slice Au ku cu) (.int .i64 (kz:Int)) (by rfl) (by rfl) _ _ avv.o ?_))
 clear Ck HU arP uY hqo hUo hUv;generalize List.replicate L (0:Int)=Q0 at*
 obtain ⟨wL,hwL⟩:∃W,wa.alloc (.cells (au Q0).toArray 38)=W:=⟨_,rfl⟩;rw [hwL] at zw HU1 HW1 zz ⊢;have HwL:=aA hwL;clear hwL;generalize wa.heap.size=gq at*
 have HLL:Hid (u+1-kv=L):=hL;have HK:Hid (kv<=u∧2<=kv∧u<=3900000000000):=⟨awm,h2,by omega⟩;try clear hL
 try clear Hx
 try clear Hy
 try clear HXp
 try clear HYp
 try clear JQ
 try clear vz
 try clear QO
 try clear Hb4
 try clear hqo
 try clear HU
 try clear awC
 try clear apl
 try clear awB
 try clear awA
 try clear awz
 try clear apn
 try clear hku
 try clear ez
 try clear ez1
 try clear ez2
 try clear ez3
 try clear Mb
 go_loopw [16,17,18] (fun v16 _ _ wr=>∃(k:Nat) (Us Qs:List Int),k<=L∧v16=.int .i64 ((k:Int)-1)∧Hid (wW wr gu Us ex)∧Hid (Us.length=u+1)∧Hid (eR wr gq 38 Qs)∧Hid (Qs.length=L)∧Hid (uI (limbs us*2^s) (limbs vs*2^s) k Us Qs)∧Hid (Only (fun j=>j=gu∨j=gq) wL wr)) (fun v16 _ _ _=>(intOf v16+1).toNat)
 case atStart=>exact ⟨L,U0,Q0,aK,rfl,HU1,SF,zw,hql,hD0,Only.refl _ _⟩
 case round=>
  clear HU1 SF zw hql hD0;obtain ⟨k,Us,Qs,hk,rfl,hU,SF,hQ,hQl,hD,hO⟩:=hrel;have hW:Hid (aD wr (some ⟨gv,0,none⟩) kv ws):=HW1.o.only hO.o (fun y hy hg=>by injection hy with hy;subst hy;exact hg.elim (fun e=>hne e) (fun e=>apk e));cases k with
  | zero=>
    have e0:(((0:Nat):Int)-1)= -1:=rfl;rw [e0];have hQL:=hQ.o.limbs hD.o.qok;rw [hQl.o] at hQL;have HQL:=aA hQL;have hUL:=hU.o.limbs hD.o.YM (k:=0) (m:=u+1) (by rw [SF.o];omega);rw [QE,gZ (by rw [SF.o];exact aK)] at hUL;have HUL:=aA hUL;have hdn:=aA (uI.done hD.o);have hpq:=aA (bF hD.o.qok hQl.o);have oL:=bS Qs L;have CS:=aA (aea (some ⟨gu,0,none⟩) (u+1) cw Us s wr hUL (by omega) XG (by omega) apm (by unfold maxLen at awE;omega));have qu:Hid (Below w'.heap.size w' wr):=zz.o.trans (hO.o.below zz.o.size (fun j hj=>by rcases hj with hj | hj<;>omega));clear hQL hUL hQ hU hD hO hW;(go_wp2_with fail);refine (bK (some ⟨gq,0,none⟩) L L Qs wr HQL.o aK (by omega)).mono ?_;rintro e wx ⟨rfl,rfl⟩;(go_wp2_with fail);refine CS.o.mono ?_;rintro e wy ⟨rs,z1,z2,z3,A2,k2,c2,rfl,z4,z5,z6,_,z8⟩;have F:Hid (zv w' (n+1) (limbs us) (limbs vs) (.returned (.tuple #[.slice (some ⟨gq,0,none⟩) (bu Qs L) L,.slice A2 k2 c2,.int .i64 0])) wy):=
     ⟨_,rs,_,_,_,A2,k2,c2,rfl,hpq.o.1,z1,by rw [hpq.o.2];exact hdn.o.1,by rw [z2];exact hdn.o.2,by omega,by have:=z6.len;omega,oL,by omega,z4,z5,(HQL.o.take oL).aB z8,z6,qu.o.tm z8⟩
    clear z1 z2 z6 z8;go_wp2_with fail
    (try simp only [Exit.inBlock,Exit.then]);refine ax (NA rfl _ _ _) rfl ?_
    exact F.o
  | succ k=>
    (have e0:(((k+1:Nat):Int)-1)=(k:Int):=by omega);rw [e0];(have hik:k+kv<=u:=by have:=HLL.o;omega);obtain ⟨i2,XL⟩:∃i,k+kv=i:=⟨_,rfl⟩;obtain ⟨i1,hi1⟩:∃i,k+kv-1=i:=⟨_,rfl⟩;obtain ⟨Rp,uA⟩:∃i,k+kv-2=i:=⟨_,rfl⟩;obtain ⟨i3,hi3⟩:∃i,k+kv+1=i:=⟨_,rfl⟩;obtain ⟨Rn,F7⟩:∃i,kv-1=i:=⟨_,rfl⟩;obtain ⟨j0,Qd⟩:∃i,kv-2=i:=⟨_,rfl⟩;(have b1:(k:Int)+(kv:Int)=(i2:Int):=by omega);(have b2:(i2:Int)-1=(i1:Int):=by omega);(have b3:(i2:Int)-2=(Rp:Int):=by omega);(have b4:(kv:Int)-1=(Rn:Int):=by omega);(have b5:(kv:Int)-2=(j0:Int):=by omega);(have b6:(i2:Int)+1=(i3:Int):=by omega);(have c1:(i2:Int)<(u:Int)+1:=by omega);(have c2:(i1:Int)<(u:Int)+1:=by omega);(have c3:(Rp:Int)<(u:Int)+1:=by omega);(have c4:(Rn:Int)<(kv:Int):=by omega);(have c5:(j0:Int)<(kv:Int):=by omega);(have c6:(0:Int)<=(i2:Int):=by omega);(have c7:(0:Int)<=(i1:Int):=by omega);(have c8:(0:Int)<=(Rp:Int):=by omega);(have c9:(0:Int)<=(Rn:Int):=by omega);(have c10:(0:Int)<=(j0:Int):=by omega);have d1:IntKind.i64.wrap (i2:Int)=(i2:Int):=bR _ (by omega);have d2:IntKind.i64.wrap (i1:Int)=(i1:Int):=bR _ (by omega);have d3:IntKind.i64.wrap (Rp:Int)=(Rp:Int):=bR _ (by omega);have d4:IntKind.i64.wrap (Rn:Int)=(Rn:Int):=bR _ (by omega);have d5:IntKind.i64.wrap (j0:Int)=(j0:Int):=bR _ (by omega);have d6:IntKind.i64.wrap (i3:Int)=(i3:Int):=bR _ (by omega);have q2:=hU.o.cell (i:=i2) (by rw [SF.o];omega);have q1:=hU.o.cell (i:=i1) (by rw [SF.o];omega);have q0:=hU.o.cell (i:=Rp) (by rw [SF.o];omega);have axx:=hW.o.at_ (by omega);obtain ⟨gv',ov',ajR,ajQ,ajS⟩:=axx
    injection ajR with ajR
    injection ajR with awN ajW
    subst awN;subst ajW;have q4:=ajS Rn (by omega);have q5:=ajS j0 (by omega);rw [ct] at q4 q5;obtain ⟨x2,FZ⟩:∃x:Nat,nth Us i2=(x:Int):=⟨(nth Us i2).toNat,by have:=hD.o.YM i2;omega⟩;obtain ⟨x1,Bg⟩:∃x:Nat,nth Us i1=(x:Int):=⟨(nth Us i1).toNat,by have:=hD.o.YM i1;omega⟩;obtain ⟨x0,Mc⟩:∃x:Nat,nth Us Rp=(x:Int):=⟨(nth Us Rp).toNat,by have:=hD.o.YM Rp;omega⟩;obtain ⟨y1,yg⟩:∃x:Nat,nth ws Rn=(x:Int):=⟨(nth ws Rn).toNat,by have:=HWo.o Rn;omega⟩;obtain ⟨y0,uK⟩:∃x:Nat,nth ws j0=(x:Int):=⟨(nth ws j0).toNat,by have:=HWo.o j0;omega⟩;have hxb:Hid (x1<18446744073709551616∧x0<18446744073709551616∧y1<18446744073709551616∧y0<18446744073709551616):=⟨by have:=hD.o.YM i1;omega,by have:=hD.o.YM Rp;omega,by have:=HWo.o Rn;omega,by have:=HWo.o j0;omega⟩;rw [FZ] at q2;rw [Bg] at q1;rw [Mc] at q0;rw [yg] at q4;rw [uK] at q5;have HI:Hid (k+kv=i2∧k+kv-1=i1∧k+kv-2=Rp∧k+kv+1=i3∧kv-1=Rn∧kv-2=j0∧nth Us i2=(x2:Int)∧nth Us i1=(x1:Int)∧nth Us Rp=(x0:Int)∧nth ws Rn=(y1:Int)∧nth ws j0=(y0:Int)):=⟨XL,hi1,uA,hi3,F7,Qd,FZ,Bg,Mc,yg,uK⟩;have sY:Hid (∀W,Below wr.heap.size wr W->W.cell? ⟨gu,i2,none⟩=some (.int .u64 (x2:Int))∧W.cell? ⟨gu,i1,none⟩=some (.int .u64 (x1:Int))∧W.cell? ⟨gu,Rp,none⟩=some (.int .u64 (x0:Int))∧W.cell? ⟨gv,Rn,none⟩=some (.int .u64 (y1:Int))∧W.cell? ⟨gv,j0,none⟩=some (.int .u64 (y0:Int))):=fun W hW'=>
     ⟨(hW'.cell (p:=⟨gu,i2,none⟩) hU.o.lt).trans q2,(hW'.cell (p:=⟨gu,i1,none⟩) hU.o.lt).trans q1,(hW'.cell (p:=⟨gu,Rp,none⟩) hU.o.lt).trans q0,(hW'.cell (p:=⟨gv,Rn,none⟩) ajQ).trans q4,(hW'.cell (p:=⟨gv,j0,none⟩) ajQ).trans q5⟩
    have CG:=aA (fun W=>Wn x2 x1 x0 y1 y0 W hxb.o.1 hxb.o.2.1 hxb.o.2.2.1 hxb.o.2.2.2);clear XL hi1 uA hi3 F7 Qd FZ Bg Mc yg uK ajS ajQ;(go_wp2_with fail);go_region_held3 (fun W=>W.cell? ⟨gu,i2,none⟩=some (.int .u64 (x2:Int))∧W.cell? ⟨gu,i1,none⟩=some (.int .u64 (x1:Int))∧W.cell? ⟨gu,Rp,none⟩=some (.int .u64 (x0:Int))∧W.cell? ⟨gv,Rn,none⟩=some (.int .u64 (y1:Int))∧W.cell? ⟨gv,j0,none⟩=some (.int .u64 (y0:Int)))
     (first | go_keep | exact sY.o _ aW.drew | exact sY.o _ hbg)
     (first | (go_at_call 116;refine (CG.o _).mono ?_;rintro e wg ⟨g,rfl,hgu,jg,hwg⟩;have hbg:Below wr.heap.size wr wg:=(by rw [hwg];exact below_drewN aW.drew jg)))
    have hbG:Below wr.heap.size wr (wr.drewN (1+jg)):=below_drewN aW _;have hU2:=aA (hU.o.aB hbG);have hQ2:=aA (hQ.o.aB hbG);have hW2:=aA (hW.o.aB hbG);have sF:=aA (hO.o.drewN (1+jg));clear hbG hbg hwg sY CG hU hQ hW hO q0 q1 q2 q4 q5;generalize wr.drewN (1+jg)=wg at*
    obtain ⟨n1,hn1⟩:∃i,kv+1=i:=⟨_,rfl⟩;(have b7:(kv:Int)+1=(n1:Int):=by omega);have d7:IntKind.i64.wrap (n1:Int)=(n1:Int):=bR _ (by omega);have HN:Hid (kv+1=n1):=hn1;have hcw:u+1<=cw:=apm;(have s1:(k:Int)<=(i3:Int):=by omega);(have s2:(i3:Int)<=(u:Int)+1:=by omega);(have s3:(i3:Int)<=(cw:Int):=by omega);(have s4:(0:Int)<=(k:Int):=by omega);(have s5:(k:Int)<=(u:Int)+1:=by omega);(have s6:(k:Int)<=(cw:Int):=by omega);(have s7:i3-k=n1:=by have:=HI.o;omega);have qw:Below wg.heap.size wg (wg.alloc (.cells #[] 38)):=aW.alloc aK _;have th:=hU2.o.limbs hD.o.YM (k:=k) (m:=n1) (by rw [SF.o];omega);have hRd:=aA ((th.aB qw).reads);have jr:Hid ((wg.alloc (.cells #[] 38)).ownsRow wg.heap.size 38 1 (.slice (some ⟨wg.heap.size,0,none⟩) 0 0) 0 []):=World.ownsRow_made wg #[] 0 aK (by unfold maxLen;omega) rfl;clear hn1;(go_wp2_with (at_builtin;go_must (refine bN (w:=wg.alloc (.cells #[] 38)) rfl _ _ 39 rfl wg.heap.size 38 i0 (.int .u64 0) 1 8 underlying39 hi iQ iC iP rfl (by decide) (.slice (some ⟨wg.heap.size,0,none⟩) 0 0) 0 [] (by rfl) jr.o _ (some ⟨gu,k,none⟩) n1 (cw-k) (au ((Us.drop k).take n1)) (by rfl) hRd.o (iL _) (by unfold maxLen;omega) (by omega) (by simp) ?_);intro vp wp PM aaB axv));obtain ⟨Ap,cp,rfl⟩:=eM PM;rw [kY,ct] at PM;rw [ct];(have aoI:0<n1:=by have:=HN.o;omega);obtain ⟨gp,hAp,awJ,_,awI,awH,_⟩:=xI PM aoI;subst hAp;(have awG:gp≠gq:=by have:=hQ2.o.lt;omega);(have aIL:gp≠gu:=by have:=hU2.o.lt;omega);have Fc:aQ ((Us.drop k).take n1):=th.ok;have hPl:=aA (aD.gi PM Fc);have hbP:Below wg.heap.size wg wp:=qw.grown aaB (by simp) (fun j hj=>by have h5:wg.heap.size=j:=(by injection hj);exact kQ h5);have hU3:=aA (hU2.o.aB hbP);have hQ3:=aA (hQ2.o.aB hbP);have hW3:=aA (hW2.o.aB hbP);have hO3:Hid (Only (fun j=>j=gu∨j=gq) wL wp):=sF.o.trans (Gl (Only.bY hbP));have hPn:Hid (((Us.drop k).take n1).length=n1):=th.len
    have hsp:=hD.o.split (n:=kv) (by exact HV.o) (by rw [SF.o];omega);rw [HN.o] at hsp;obtain ⟨V,hV⟩:∃V,limbs ws=V:=⟨_,rfl⟩;(have hVV:limbs vs*2^s=V:=by rw [<- hV];exact HWv.o.symm);rw [hVV] at hsp;have hV0:0<V:=by
     rw [<- hVV];have:=HL.o;have:=lC (64*(kv-1));exact iR (by omega) (lC s)
    obtain ⟨P,hP⟩:∃P,limbs ((Us.drop k).take n1)=P:=⟨_,rfl⟩;rw [hP] at hsp;obtain ⟨xt,hxt⟩:∃x,P / V=x:=⟨_,rfl⟩;(have Bg:xt*V<=P:=by rw [<- hxt];exact Nat.div_mul_le_self P V);have FZ:P<(xt+1)*V:=by
     rw [<- hxt];have:=Nat.lt_div_mul_add (a:=P) hV0;rw [bQ,bP];omega
    have hx3:xt<18446744073709551616:=by
     rw [<- hxt,LL hV0,aq];exact hsp.2
    have hx4:xt<=g:=by
     obtain ⟨z1,z2,z3,z4,z5,z6,z7,z8,z9,z10,z11⟩:=HI.o;obtain ⟨nn,hnn⟩:∃nn,kv=nn+2:=⟨kv-2,by omega⟩;(have w1:nth ((Us.drop k).take n1) (nn+2)=(x2:Int):=by rw [mq (by omega),DX,<- z7];congr 1;omega);(have w2:nth ((Us.drop k).take n1) (nn+1)=(x1:Int):=by rw [mq (by omega),DX,<- z8];congr 1;omega);(have w3:nth ((Us.drop k).take n1) nn=(x0:Int):=by rw [mq (by omega),DX,<- z9];congr 1;omega);(have w4:nth ws (nn+1)=(y1:Int):=by rw [<- z10];congr 1;omega);(have w5:nth ws nn=(y0:Int):=by rw [<- z11];congr 1;omega);refine abd (vs:=ws) (ps:=(Us.drop k).take n1) (n:=nn) (by rw [Hwl.o];exact hnn) (by rw [hPn.o,<- HN.o];omega) Fc hx3 (by rw [hV,hP];exact Bg) ?_;rw [w1,w2,w3,w4,w5];exact hgu
    have HG:Hid (xt<=g∧g<18446744073709551616):=⟨hx4,hgu.1⟩;have HX:Hid (xt*V<=P∧P<(xt+1)*V∧xt<18446744073709551616):=⟨Bg,FZ,hx3⟩;have HPV:Hid (limbs ((Us.drop k).take n1)=P∧limbs ws=V∧limbs vs*2^s=V∧aQ ((Us.drop k).take n1)):=⟨hP,hV,hVV,Fc⟩;have hwr:=aA (fun x (hx:x<18446744073709551616)=>ud HWo.o hx);have avA:=hQ3.o.cell (i:=k) (by rw [hQl.o];omega);(have vD:k<L:=by omega);clear th Fc qw hRd jr PM aaB axv awJ hbP hU2 hQ2 hW2 sF hgu Bg FZ hx3 hx4 hxt hsp hP hV hVV hV0 HI;(try clear hxb);generalize hps:(Us.drop k).take n1=ps at*
    have HPS:=aA hps;clear hps;go_loopw [17] (fun v17 wr2=>∃x:Nat,v17=.int .u64 (x:Int)∧Hid (xt<=x∧x<18446744073709551616)∧Hid (Below wp.heap.size wp wr2)) (fun v17 _=>(intOf v17).toNat)
    case atStart=>exact ⟨g,rfl,HG,aW⟩
    case round=>
     obtain ⟨x,rfl,hx,hbR⟩:=hrel;obtain ⟨r1,r2,r3⟩:=hwr.o x hx.o.2;have hWr:=hW3.o.aB hbR.o;have hPr:=hPl.o.aB hbR.o;have CR:=aA (Oi (some ⟨gv,0,none⟩) kv cv ws x wr hWr (by omega) hx.o.2);have CC:=aA (fun gg cap W (h:aD W (some ⟨gg,0,none⟩) (kv+1) (qW ws x)) (h1:kv+1<=cap) (h2:cap<=9223372036854775807) (hb:Below wr.heap.size wr W)=>yK (some ⟨gg,0,none⟩) (some ⟨gp,0,none⟩) (kv+1) n1 cap cp (qW ws x) ps W h (hPr.aB hb) h1 h2 awI (by unfold maxLen at awH;omega) (by omega) (by have:=HN.o;omega));(have hcv:Hid (limbs (qW ws x)=V*x):=by show _=_;rw [r3,HPV.o.2.1]);clear r1 r2 r3 hWr hPr;by_cases yP:P<V*x
     . have wS:(0:Int)<jc (limbs (qW ws x)) (limbs ps):=by
        rw [hcv.o,HPV.o.1];unfold jc;rw [af (by omega),aM yP];omega
       have hx5:xt<=x-1∧0<x:=by
        have q6:=HX.o.1;(have q7:xt*V<x*V:=by rw [aq x V];omega);have:=JA q7;omega
       have HX5:Hid (xt<=x-1∧x-1<18446744073709551616):=⟨hx5.1,by have:=hx.o.2;omega⟩;(have ew:IntKind.u64.wrap ((x:Int)-1)=((x-1:Nat):Int):=by rw [ag];have:=hx.o.2;omega);(have hlt:Hid (x-1<x):=by show _<_;omega);clear hx5 yP hcv;generalize x-1=x' at*
       generalize jc (limbs (qW ws x)) (limbs ps)=cc at*
       (go_wp2_with fail);refine CR.o.mono ?_;rintro e wa1 ⟨gg,cap,rfl,r4,r5,r6,r7,r8⟩;have CC2:=aA (CC.o gg cap wa1 r7 r5 r6 r8);have aaP:=aA (hbR.o.tm r8);clear CC CR r7 r8;(go_wp2_with fail);refine CC2.o.mono ?_;rintro e wa2 ⟨rfl,j2,hj2⟩;(have PZ:Hid (Below wp.heap.size wp wa2):=by show Below _ _ _;rw [hj2];exact below_drewN aaP.o _);clear CC2 hj2 aaP hbR;(go_wp2_with fail);go_roundw
       case rel=>exact ⟨x',rfl,HX5,PZ⟩
       case measure=>simpa [intOf] using hlt.o
     . have wS:¬(0:Int)<jc (limbs (qW ws x)) (limbs ps):=by
        rw [hcv.o,HPV.o.1];unfold jc;by_cases h1:V*x<P
        . rw [aM h1];omega
        . rw [af h1,af yP];omega
       have FB:x=xt:=by
        have q6:=HX.o.2.1;(have q7:x*V<(xt+1)*V:=by rw [aq x V];omega);have q8:=JA q7;have q9:=hx.o.1;omega
       subst FB;clear yP hcv;have Cj:Hid (limbs (qW ws x)<=limbs ps):=by
        obtain ⟨r1,r2,r3⟩:=hwr.o x hx.o.2;show _<=_;rw [r3,HPV.o.1,HPV.o.2.1,aq];exact HX.o.1
       generalize jc (limbs (qW ws x)) (limbs ps)=cc at*
       (go_wp2_with fail);refine CR.o.mono ?_;rintro e wa1 ⟨gg,cap,rfl,r4,r5,r6,r7,r8⟩;have CC2:=aA (CC.o gg cap wa1 r7 r5 r6 r8);have aaP:=aA (hbR.o.tm r8);clear CC CR r7 r8;(go_wp2_with fail);refine CC2.o.mono ?_;rintro e wa2 ⟨rfl,j2,hj2⟩;(have PZ:Below wp.heap.size wp wa2:=by rw [hj2];exact below_drewN aaP.o _);have hU4:=aA (hU3.o.aB PZ);have hQ4:=hQ3.o.aB PZ;have hW4:=aA (hW3.o.aB PZ);have hP4:=aA (hPl.o.aB PZ);have hO4:Hid (Only (fun j=>j=gu∨j=gq) wL wa2):=hO3.o.trans (Gl (Only.bY PZ));have hqf:=hQ4.frozen k;have hqc:=hQ4.cell (i:=k) (by rw [hQl.o];omega);have hQ5:=aA (hQ4.set k (x:Int));clear CC2 hj2 aaP hbR PZ hQ4 hQ3 hU3 hW3 hPl hO3 avA;have hU5:=aA (hU4.o.far (p:=⟨gq,k,none⟩) agZ (.int .u64 (x:Int)));have hO5:Hid (Only (fun j=>j=gu∨j=gq) wL (wa2.setCell ⟨gq,k,none⟩ (.int .u64 (x:Int)))):=hO4.o.setCell (p:=⟨gq,k,none⟩) (.inr rfl) _;have hOs:Only (fun j=>j=gq) wa2 (wa2.setCell ⟨gq,k,none⟩ (.int .u64 (x:Int))):=Only.setCell (S:=fun j=>j=gq) (Only.refl _ _) (p:=⟨gq,k,none⟩) rfl _;have hW5:Hid (aD (wa2.setCell ⟨gq,k,none⟩ (.int .u64 (x:Int))) (some ⟨gv,0,none⟩) kv ws):=hW4.o.only hOs (fun y hy hg=>by injection hy with hy;subst hy;exact apk hg);have hP5:Hid (aD (wa2.setCell ⟨gq,k,none⟩ (.int .u64 (x:Int))) (some ⟨gp,0,none⟩) n1 ps):=hP4.o.only hOs (fun y hy hg=>by injection hy with hy;subst hy;exact awG hg);clear hU4 hO4 hW4 hP4 hOs;have jq:x<18446744073709551616:=hx.o.2;have Dy:=hwr.o x jq;have kG:=mG HPV.o.2.2.2 Dy.1 Cj.o;rw [hPn.o,Dy.2.1,Hwl.o,HN.o,Nat.max_self] at kG;have Jl:=WY kG.2.1.1 kG.2.2.2;have XI:Hid ((vM (nZ ps (qW ws x)) n1).length=n1):=Jl.1;have apT:Hid (uI (limbs us*2^s) (limbs vs*2^s) k (Go.splice Us k (vM (nZ ps (qW ws x)) n1)) (Qs.set k (x:Int))):=by
        have hV2:=HPV.o;refine hD.o.next (n:=kv) HV.o (by rw [SF.o];omega) (by rw [hQl.o];exact vD) jq ?_ ?_ (by rw [HN.o];exact Jl.1) Jl.2.1 ?_
        . rw [HN.o,HPS.o,hV2.1,hV2.2.2.1];exact HX.o.1
        . rw [HN.o,HPS.o,hV2.1,hV2.2.2.1];exact HX.o.2.1
        . rw [HN.o,HPS.o,Jl.2.2,kG.2.2.1,Dy.2.2,hV2.1,hV2.2.1,hV2.2.2.1,aq V x]
       have hkd:Hid ((nZ ps (qW ws x)).length<=n1):=kG.2.2.2;have XE:Hid ((Go.splice Us k (vM (nZ ps (qW ws x)) n1)).length=u+1):=by
        show _=_;rw [Go.length_splice _ _ _ (by rw [XI.o,SF.o];have:=HN.o;omega)];exact SF.o
       have CL:=aA (fun gg cap W (h1:aD W (some ⟨gp,0,none⟩) n1 ps) (h2:aD W (some ⟨gg,0,none⟩) (kv+1) (qW ws x))=>Wm (some ⟨gp,0,none⟩) (some ⟨gg,0,none⟩) n1 (kv+1) cp cap ps (qW ws x) W h1 h2 (by omega) (by omega) Cj.o);clear Dy kG Jl Cj hwr HX hx HPV hPn;generalize nZ ps (qW ws x)=ds at*
       (have avy:Hid ((Qs.set k (x:Int)).length=L):=by show _=_;rw [gH];exact hQl.o);(have s8:(0:Int)<=(n1:Int):=by omega);have avO:Hid ((au (vM ds n1)).length=Nat.min n1 (u+1-k)):=by
        show _=_;rw [gF,XI.o];have:=HN.o;(have:n1<=u+1-k:=by omega);exact (pF this).symm
       have Mi:Hid (k+(au (vM ds n1)).length<=(au Us++ex).length):=by
        show _<=_;rw [gF,XI.o,eF,gF,SF.o];have:=HN.o;omega
       (go_wp2_with fail);generalize wa2.setCell ⟨gq,k,none⟩ (.int .u64 (x:Int))=wq at*
       have CR2:=aA (fun W (h:Below wq.heap.size wq W)=>Oi (some ⟨gv,0,none⟩) kv cv ws x W (hW5.o.aB h) (by omega) jq);go_region_held3 (fun _=>True)
        (first | go_keep | trivial)
        (first
          | (go_at_call 117;refine (CR2.o _ (by first | exact aW.drew | exact aW)).mono ?_;rintro e wr1 ⟨gg2,ayV,rfl,r4,r5,r6,r7,r8'⟩;have r8:Below wq.heap.size wq wr1:=(by first | exact aW.drew.trans r8' | exact r8'))
          | (go_at_call 118;refine (CL.o gg2 ayV _ (hP5.o.aB r8) r7).mono ?_;rintro e wl ⟨Ad,kd,cd,rfl,e1,e2,e3,e4,e5,e6⟩;obtain ⟨gz,cz,wz,z1,z2,z3,z4,z5⟩:=RL wl wr1.heap.size Ad kd cd ds n1 aoI (by have:=e3.len;have:=hkd.o;omega) e4 e6.size;have z6:(n1:Int)<=(cz:Int):=(by omega);have z7:Below wq.heap.size wq wz:=r8.trans ((e6.trans z5).mono r8.size))
          | (refine FW _ rfl _ _ _ _ rfl (.slice Ad kd cd) (.int .i64 (n1:Int)) (by rfl) (by rfl) _ _ z1 ?_)
          | (refine Jd rfl _ _ 39 39 rfl 38 underlying39 usize gu k (u+1-k) (cw-k) ⟨gz,0,none⟩ n1 cz (by rfl) (by rfl) (au Us++ex) 38 (hU5.o.aB z7) (au (vM ds n1)) avO.o z2 Mi.o (iL _) ?_))
       have hUf:=aA ((hU5.o.aB z7).splice (k:=k) (rs:=vM ds n1) (by rw [XI.o,SF.o];have:=HN.o;omega));have hQf:=aA (eR.Qt (hQ5.o.aB z7) (g':=gu) (fun e=>agZ e.symm) (Go.splice (au Us++ex) k (au (vM ds n1))).toArray);have hOf:Hid (Only (fun j=>j=gu∨j=gq) wL (wz.setRow gu (Go.splice (au Us++ex) k (au (vM ds n1))).toArray)):=Oa (hO5.o.trans (Gl (Only.bY z7))) (.inl rfl) _;clear CR2 CL z1 z2 z3 z4 z5 z6 z7 e1 e2 e3 e4 e5 e6 r4 r5 r6 r7 r8 hU5 hQ5 hO5 hW5 hP5;(try clear r8');generalize wz.setRow gu (Go.splice (au Us++ex) k (au (vM ds n1))).toArray=wf at*
       (have X9:k<=L:=by omega);have ewk:IntKind.i64.wrap ((k:Int)-1)=(k:Int)-1:=bR _ (by omega);(go_wp2_with fail);go_roundw
       case rel=>exact ⟨k,_,_,X9,rfl,hUf,XE,hQf,avy,apT,hOf⟩
       case measure=>simp [intOf]
def ZW (A B:Option Addr) (n m c d:Nat) (xs ys:List Int) (w:World) (hx:aD w A n xs) (hy:aD w B m ys) (ig:n<=c) (hc:c<=9223372036854775807) (kX:m<=d) (hd:d<=9223372036854775807) (hn:n<=3900000000000) (hm:m<=3900000000000) (hlt:limbs xs<limbs ys):
 aC 82 #[.slice A n c,.slice B m d] w (zv w (n+1) (limbs xs) (limbs ys)):=by
 have jq:=hx.len;have uJ:=hy.len;have l1:=bS xs n;have l2:=bS ys m;obtain ⟨p1,p2⟩:=bF hx.ok jq;obtain ⟨p3,p4⟩:=bF hy.ok uJ;have C1:=aA (bK A n c xs w hx ig hc);have C2:=aA (bK B m d ys w hy kX hd);have Hx:=aA (hx.take l1);have Hy:=aA (hy.take l2);have Cc:=aA (yK A B (bu xs n) (bu ys m) c d _ _ w Hx.o Hy.o (by omega) hc (by omega) hd (by omega) (by omega));have XP:jc (limbs (xs.take (bu xs n))) (limbs (ys.take (bu ys m)))<0:=by
  rw [p2,p4];unfold jc;rw [aM hlt];omega
 have VB:((bu ys m:Int)==0)=false:=by
  have:bu ys m≠0:=fun h=>by have:=O4 uJ h;omega
  simp;omega
 have Cn:=aA (fun W (h:Below w.heap.size w W)=>Uk A (bu xs n) c _ W (Hx.o.aB h) (by omega) hc (by omega));have HN:Hid ((xs.take (bu xs n)).take (bu (xs.take (bu xs n)) (bu xs n))=xs.take (bu xs n)):=by
  obtain ⟨q1,q2⟩:=bF Hx.o.ok Hx.o.len;exact q1.inj p1 q2
 have HP:Hid (bX (xs.take (bu xs n))∧limbs (xs.take (bu xs n))=limbs xs∧(xs.take (bu xs n)).length=bu xs n):=⟨p1,p2,Hx.o.len⟩;rw [HN.o] at Cn;have zw:Hid (limbs xs / limbs ys=0∧limbs xs % limbs ys=limbs xs):=⟨FR hlt,FT hlt⟩;clear hx hy jq uJ p1 p2 p3 p4 HN hlt;generalize bu xs n=u at*
 generalize xs.take u=us at*
 go_enter func82,ntmps82
 go_wp2_with fail
 refine C1.o.mono ?_;rintro e w' ⟨rfl,rfl⟩;go_wp2_with fail
 refine C2.o.mono ?_;rintro e w' ⟨rfl,rfl⟩;go_wp2_with fail
 refine Cc.o.mono ?_;rintro e w1 ⟨rfl,j1,F7⟩;have dH:Below w'.heap.size w' w1:=by subst F7;exact below_drewN aW _
 have JQ:=aA dH;clear F7 dH;go_wp2_with fail
 refine (Cn.o _ JQ.o).mono ?_;rintro e w2 ⟨A2,c2,rfl,f1,f2,f3,f4,_⟩;have F:Hid (zv w' (n+1) (limbs xs) (limbs ys) (.returned (.tuple #[.slice none 0 0,.slice A2 us.length c2,.int .i64 0])) w2):=
  ⟨[],us,none,0,0,A2,us.length,c2,rfl,⟨fun i=>by rw [cW (by simp)];omega,fun h=>by simp at h⟩,HP.o.1,by rw [zw.o.1];rfl,by rw [zw.o.2];exact HP.o.2.1,by omega,by have:=HP.o.2.2;omega,by omega,by omega,f1,f2,aD.nil _ _,f3,JQ.o.tm f4⟩
 clear f3 f4;go_wp2_with fail
 (try simp only [Exit.inBlock,Exit.then]);refine ax (NA rfl _ _ _) rfl ?_
 exact F.o
def Jg {ys:List Int}(h:bX ys) (h1:ys.length=1):∃y,ys=[y]∧0<y∧y<18446744073709551616∧limbs ys=y.toNat:=by
 match ys,h1 with
 | [y],_=>
   have q1:=h.1 0;have q2:=h.2 (by simp);rw [mz] at q1;have q3:nth [y] ([y].length-1)=y:=rfl;rw [q3] at q2;refine ⟨y,rfl,by omega,q1.2,?_⟩;show y.toNat+2^64*0=_;omega
def ZX (A B:Option Addr) (n m c d:Nat) (xs ys:List Int) (w:World) (hx:aD w A n xs) (hy:aD w B m ys) (ig:n<=c) (hc:c<=9223372036854775807) (kX:m<=d) (hd:d<=9223372036854775807) (hn:n<=3900000000000) (hm:m<=3900000000000) (h1:bu ys m=1) (mS:limbs ys<=limbs xs):
 aC 82 #[.slice A n c,.slice B m d] w (zv w (n+1) (limbs xs) (limbs ys)):=by
 have jq:=hx.len;have uJ:=hy.len;have l1:=bS xs n;have l2:=bS ys m;obtain ⟨p1,p2⟩:=bF hx.ok jq;obtain ⟨p3,p4⟩:=bF hy.ok uJ;have C1:=aA (bK A n c xs w hx ig hc);have C2:=aA (bK B m d ys w hy kX hd);have Hx:=aA (hx.take l1);have Fw:=hy.take l2;rw [h1] at C2 Fw p3 p4;obtain ⟨y,hye,uK,ajf,hyv⟩:=Jg p3 (by rw [cS];omega);have hyY:limbs ys=y.toNat:=by rw [<- p4,hyv]
 rw [hye] at Fw;have Cc:=aA (yK A B (bu xs n) 1 c d _ _ w Hx.o Fw (by omega) hc (by omega) hd (by omega) (by omega));have XP:¬jc (limbs (xs.take (bu xs n))) (limbs [y])<0:=by
  rw [p2,show limbs [y]=limbs ys by rw [<- hye,p4]];unfold jc;rw [af (by omega)];split<;>omega
 have Cs:=aA (fun W (h:Below w.heap.size w W)=>Wl A (bu xs n) c _ y W (Hx.o.aB h) (by omega) uK ajf);obtain ⟨b,o,rfl,hb,hcB⟩:=Fw.at_ (by omega);have Qf:=hcB 0 (by omega);rw [je] at Qf;have hq:nth [y] 0=y:=rfl;rw [hq] at Qf;have HX:Hid (limbs (xs.take (bu xs n))=limbs xs∧limbs ys=y.toNat∧0<y∧y<18446744073709551616):=⟨p2,hyY,uK,ajf⟩;clear hcB hx hy Fw p1 p2 p3 p4 hye hyv hyY jq uJ h1 mS uK ajf Hx;generalize bu xs n=u at*
 generalize xs.take u=us at*
 go_enter func82,ntmps82
 go_wp2_with fail
 refine C1.o.mono ?_;rintro e w' ⟨rfl,rfl⟩;go_wp2_with fail
 refine C2.o.mono ?_;rintro e w' ⟨rfl,rfl⟩;go_wp2_with fail
 refine Cc.o.mono ?_;rintro e w1 ⟨rfl,j1,F7⟩;have ah:Below w'.heap.size w' w1:=by subst F7;exact below_drewN aW _
 have Ml:=(ah.cell (p:=⟨b,o,none⟩) hb).trans Qf;clear F7 Qf;go_wp2_with fail
 refine (Cs.o _ ah).mono ?_;rintro e w2 ⟨qs,r,A1,k1,c1,rfl,g1,g2,g3,g4,g5,⟨g6,g7,g8⟩,g9⟩;have cU:Below w'.heap.size w' w2:=ah.tm g9;have Cj:r<18446744073709551616:=by have:=HX.o;omega
 have HL:=aA (aD.one w2 38 (x:=r) g6 Cj);have hdm:=Po (X:=limbs us) (q:=limbs qs) (Y:=y.toNat) (by omega) (by rw [bQ];have:=HX.o;omega);have oL:=bS [r] 1;have hpr:=bF (xs:=[r]) HL.o.ok (n:=1) rfl;have JX:limbs [r]=r.toNat:=by show r.toNat+2^64*0=_;omega
 have F:Hid (zv w' (n+1) (limbs xs) (limbs ys) (.returned (.tuple #[.slice A1 k1 c1,.slice (some ⟨w2.heap.size,0,none⟩) (bu [r] 1) 1,.int .i64 0])) (w2.alloc (.cells #[.int .u64 r] 38))):=
  ⟨qs,_,A1,k1,c1,_,_,1,rfl,g5,hpr.1,by rw [<- HX.o.1,HX.o.2.1];exact hdm.1.symm,by rw [hpr.2,JX,<- HX.o.1,HX.o.2.1,<- hdm.2];omega,by omega,by omega,g2,g3,oL,by omega,g4.alloc _,HL.o.take oL,cU.alloc cU.size _⟩
 clear g4 g5 g6 g7 g8 g9 hdm hpr JX;generalize aoV:bu [r] 1=lr at*
 have HR:=aA aoV;clear aoV;go_wp2_with fail
 refine (bK (some ⟨w2.heap.size,0,none⟩) 1 1 [r] _ HL.o (by omega) (by omega)).mono ?_;rintro e w3 ⟨rfl,rfl⟩;rw [HR.o];go_wp2_with fail
 (try simp only [Exit.inBlock,Exit.then]);refine ax (NA rfl _ _ _) rfl ?_
 exact F.o
def BF (A B:Option Addr) (n m c d:Nat) (xs ys:List Int) (w:World) (hx:aD w A n xs) (hy:aD w B m ys) (ig:n<=c) (hc:c<=9223372036854775807) (kX:m<=d) (hd:d<=9223372036854775807) (hn:n<=3900000000000) (hm:m<=3900000000000) (h0:0<limbs ys):
 aC 82 #[.slice A n c,.slice B m d] w (zv w (n+1) (limbs xs) (limbs ys)):=by
 rcases qz (limbs xs) (limbs ys) with h | h
 . exact ZW A B n m c d xs ys w hx hy ig hc kX hd hn hm h
 . by_cases h1:bu ys m=1
   . exact ZX A B n m c d xs ys w hx hy ig hc kX hd hn hm h1 h
   . have h2:bu ys m≠0:=fun e=>by have:=O4 hy.len e;omega
     exact ZY A B n m c d xs ys w hx hy ig hc kX hd hn hm (by omega) h
def jo {a b q r:Int}(h:q*b+r=a) (h0:0<=r) (h1:r<b∨r< -b):q=a / b∧r=a % b:=by
 rcases TU 0 b with hb | hb
 . have h2:r<b:=by omega
   obtain ⟨e1,e2⟩:=(TS hb (a:=a) (q:=q) (r:=r)).2 ⟨by rw [mg b q];omega,h0,h2⟩;exact ⟨e1.symm,e2.symm⟩
 . have h2:r< -b:=by omega
   obtain ⟨e1,e2⟩:=(TS (b:= -b) (by omega) (a:=a) (q:= -q) (r:=r)).2 ⟨by rw [Int.neg_mul_neg,mg b q];omega,h0,h2⟩;rw [Int.ediv_neg] at e1;rw [Int.emod_neg] at e2;exact ⟨by omega,e2.symm⟩
def RS (X Y:Nat) (h0:0<Y):((X / Y:Nat):Int)*(Y:Int)+((X % Y:Nat):Int)=(X:Int)∧X % Y<Y:=by
 have h1:=sr X Y;have h2:((Y*(X / Y)+X % Y:Nat):Int)=(X:Int):=by rw [h1]
 rw [k9,sq,mg] at h2;exact ⟨h2,jO X h0⟩
def qH (t:Bool) (hq:limbs qs=limbs xs / limbs ys) (hr:limbs rs=limbs xs % limbs ys) (h0:0<limbs ys):aF (false !=t) qs=aF false xs / aF t ys∧aF false rs=aF false xs % aF t ys:=by
 obtain ⟨h1,h2⟩:=RS (limbs xs) (limbs ys) h0;unfold aF;rw [hq,hr];generalize limbs xs / limbs ys=Q at*
 generalize limbs xs % limbs ys=R at*
 cases t<;>simp only [ET,vr,rJ,S7,Bool.false_bne]
 . exact jo h1 (by omega) (.inl (by omega))
 . exact jo (by rw [Int.neg_mul_neg];exact h1) (by omega) (.inr (by omega))
def oC (t:Bool) (hq:limbs qs=limbs xs / limbs ys) (hr:limbs rs=limbs xs % limbs ys) (hz:limbs rs=0) (h0:0<limbs ys):aF (true !=t) qs=aF true xs / aF t ys∧aF false rs=aF true xs % aF t ys:=by
 obtain ⟨h1,h2⟩:=RS (limbs xs) (limbs ys) h0;unfold aF;rw [hq,hz];rw [hz] at hr;rw [<- hr] at h1;generalize limbs xs / limbs ys=Q at*
 cases t<;>simp only [ET,vr,rJ,Bool.bne_false,S7]
 . exact jo (by rw [ES];omega) (by omega) (.inl (by omega))
 . exact jo (by rw [TM];omega) (by omega) (.inr (by omega))
def qI (t:Bool) (hq:limbs qs=limbs xs / limbs ys+1) (hr:limbs rs=limbs ys-limbs xs % limbs ys) (hz:0<limbs xs % limbs ys) (h0:0<limbs ys):aF (true !=t) qs=aF true xs / aF t ys∧aF false rs=aF true xs % aF t ys:=by
 obtain ⟨h1,h2⟩:=RS (limbs xs) (limbs ys) h0;unfold aF;rw [hq,hr];generalize limbs xs / limbs ys=Q at*
 generalize limbs xs % limbs ys=R at*
 have h3:((limbs ys-R:Nat):Int)=(limbs ys:Int)-(R:Int):=by omega
 cases t<;>simp only [ET,vr,rJ,Bool.bne_false,S7]
 . exact jo (by rw [h3,ES,k9,sw];omega) (by omega) (.inl (by omega))
 . exact jo (by rw [h3,TM,k9,sw];omega) (by omega) (.inr (by omega))
def acN (w:World) (K:Nat) (a b:Int) (e:Ending) (w':World):Prop:=
 ∃s1 A1 k1 c1 l1 s2 A2 k2 c2 l2,e=.returned (.tuple #[.agg #[.bool s1,.slice A1 k1 c1],.agg #[.bool s2,.slice A2 k2 c2],.int .i64 0])∧k1<=K∧k2<=K∧k1<=c1∧c1<=9223372036854775807∧k2<=c2∧c2<=9223372036854775807∧aD w' A1 k1 l1∧aD w' A2 k2 l2∧bW s1 l1 (a / b)∧bW s2 l2 (a % b)∧(0<k1->∀y,A1=some y->w.heap.size<=y.block)∧Below w.heap.size w w'
def aiu (A B:Option Addr) (n m c d:Nat) (xs ys:List Int) (w:World) (hx:aD w A n xs) (hy:aD w B m ys) (ig:n<=c) (hc:c<=9223372036854775807) (kX:m<=d) (hd:d<=9223372036854775807) (hn:n<=3900000000000) (hm:m<=3900000000000) (h0:0<limbs ys):
 aC 79 #[.agg #[.bool false,.slice A n c],.agg #[.bool false,.slice B m d]] w (acN w (n+m+10) (aF false xs) (aF false ys)):=by
 have Cd:=aA (fun W (h:Below w.heap.size w W)=>BF A B n m c d xs ys W (hx.aB h) (hy.aB h) ig hc kX hd hn hm h0);obtain ⟨da,db,dq,dr,b4⟩:=Pm w (.bool false) (.slice A n c) (.bool false) (.slice B m d) (.bool false) (.slice none 0 0) (.bool false) (.slice none 0 0);go_enter func79,ntmps79
 go_wp2_with fail
 have Da:=aA da;have Db:=aA db;have Dq:=aA dq;have Dr:=aA dr;have a1:=da.cell1;have e1:=db.cell1;have Hy:=aA (hy.aB b4);clear da db dq dr hx hy;generalize (((w.alloc (.cells #[.bool false,.slice A n c] 41)).alloc (.cells #[.bool false,.slice B m d] 41)).alloc (.cells #[.bool false,.slice none 0 0] 41)).alloc (.cells #[.bool false,.slice none 0 0] 41)=wt at*
 go_wp2_with fail
 refine (Cd.o _ (by exact b4)).mono ?_;rintro e w1 ⟨qs,rs,A1,k1,c1,A2,k2,c2,rfl,g1,g2,g3,g4,g5,g6,g7,g8,g9,jV,fW,yQ,ah⟩;have q0:=(Da.o.aB ah).cell0;have q1:=(Db.o.aB ah).cell0;have q2:=(Db.o.aB ah).cell1;have H5:=aA fW;have H6:=aA yQ;have NV:=aA (Hy.o.aB ah);clear fW yQ a1 e1;go_wp2_with fail
 refine (l7 false A1 k1 c1 qs w1 H5.o (by omega) (by omega) (by omega)).mono ?_;rintro e w7 ⟨s7,A7,k7,c7,ls,rfl,m1,m2,m3,m4,m5,m6,eG⟩;clear q0 q1 q2;go_wp2_with fail
 refine (DA false A2 k2 c2 rs w7 (H6.o.aB eG) (by omega) (by omega) (by omega)).mono ?_;rintro e w8 ⟨s8,A8,k8,c8,l8,rfl,p1,p2,p3,p4,p5,iD⟩;have jh:Below wt.heap.size wt w8:=(ah.tm eG).trans (iD.mono ((ah.tm eG).size));have jS:=Dq.o.aB jh;have iu:=Dr.o.aB jh;have r0:=jS.cell0;have r1:=jS.cell1;have t0:=iu.cell0;have t1:=iu.cell1;have f0:=jS.frozen 0;have f1:=jS.frozen 1;have f2:=iu.frozen 0;have f3:=iu.frozen 1;have JR:=aA (m4.aB iD);have Fk:=aA p4;have nJ:w.heap.size+1+1≠w.heap.size+1+1+1:=by omega
 have nI:w.heap.size+1+1+1≠w.heap.size+1+1:=by omega
 have jy:w.heap.size<=w.heap.size+1+1:=by omega
 have xR:w.heap.size<=w.heap.size+1+1+1:=by omega
 have Hb:Hid (Below w.heap.size w w8):=b4.tm jh;have Hz:Hid (bW s7 ls (aF false xs / aF false ys)):=by
  have h:=m5;have e:aF false qs=aF false xs / aF false ys:=((qH false g3 g4 h0).1);rw [e] at h;exact h
 have JM:Hid (bW s8 l8 (aF false xs % aF false ys)):=by
  have h:=p5;have e:aF false rs=aF false xs % aF false ys:=((qH false g3 g4 h0).2);rw [e] at h;exact h
 have HQ:=aA jS;have HR:=aA iu;have SA:Hid (0<k7->∀y,A7=some y->w.heap.size<=y.block):=fun h0 y hy=>aH (aH b4.size ah.size) (m6 h0 y hy);have II:k7<=n+m+10:=by omega
 have Bj:k8<=n+m+10:=by omega
 clear jS iu m4 m5 m6 p4 p5 jh ah eG iD b4 Cd g1 g2 g3 g4;generalize w.heap.size+1+1+1=gr at*
 generalize w.heap.size+1+1=gq at*
 go_wp2_with fail
 have X1:=(HR.o.other ⟨gq,0,none⟩ nJ (.bool s7)).other ⟨gq,1,none⟩ nJ (.slice A7 k7 c7);have X2:=((HQ.o.set (.bool s7) (.slice A7 k7 c7)).other ⟨gr,0,none⟩ nI (.bool s8)).other ⟨gr,1,none⟩ nI (.slice A8 k8 c8);refine ax (cQ (fn:=f79) rfl _ _ _ _ _ _ _ _ _ _ _ _ rfl X2 rfl (X1.set _ _) underlying41 rfl aT underlying41 rfl aT) rfl ?_;exact ⟨s7,A7,k7,c7,ls,s8,A8,k8,c8,l8,rfl,II,Bj,m1,m2,p1,p2,X1.limbs _ _ rfl rfl (HQ.o.limbs _ _ rfl rfl JR.o),X1.limbs _ _ rfl rfl (HQ.o.limbs _ _ rfl rfl Fk.o),Hz.o,JM.o,SA.o,(((Hb.o.setCell (p:=⟨gq,0,none⟩) jy _).setCell (p:=⟨gq,1,none⟩) jy _).setCell (p:=⟨gr,0,none⟩) xR _).setCell (p:=⟨gr,1,none⟩) xR _⟩
def ait (A B:Option Addr) (n m c d:Nat) (xs ys:List Int) (w:World) (hx:aD w A n xs) (hy:aD w B m ys) (ig:n<=c) (hc:c<=9223372036854775807) (kX:m<=d) (hd:d<=9223372036854775807) (hn:n<=3900000000000) (hm:m<=3900000000000) (h0:0<limbs ys):
 aC 79 #[.agg #[.bool false,.slice A n c],.agg #[.bool true,.slice B m d]] w (acN w (n+m+10) (aF false xs) (aF true ys)):=by
 have Cd:=aA (fun W (h:Below w.heap.size w W)=>BF A B n m c d xs ys W (hx.aB h) (hy.aB h) ig hc kX hd hn hm h0);obtain ⟨da,db,dq,dr,b4⟩:=Pm w (.bool false) (.slice A n c) (.bool true) (.slice B m d) (.bool false) (.slice none 0 0) (.bool false) (.slice none 0 0);go_enter func79,ntmps79
 go_wp2_with fail
 have Da:=aA da;have Db:=aA db;have Dq:=aA dq;have Dr:=aA dr;have a1:=da.cell1;have e1:=db.cell1;have Hy:=aA (hy.aB b4);clear da db dq dr hx hy;generalize (((w.alloc (.cells #[.bool false,.slice A n c] 41)).alloc (.cells #[.bool true,.slice B m d] 41)).alloc (.cells #[.bool false,.slice none 0 0] 41)).alloc (.cells #[.bool false,.slice none 0 0] 41)=wt at*
 go_wp2_with fail
 refine (Cd.o _ (by exact b4)).mono ?_;rintro e w1 ⟨qs,rs,A1,k1,c1,A2,k2,c2,rfl,g1,g2,g3,g4,g5,g6,g7,g8,g9,jV,fW,yQ,ah⟩;have q0:=(Da.o.aB ah).cell0;have q1:=(Db.o.aB ah).cell0;have q2:=(Db.o.aB ah).cell1;have H5:=aA fW;have H6:=aA yQ;have NV:=aA (Hy.o.aB ah);clear fW yQ a1 e1;go_wp2_with fail
 refine (l7 true A1 k1 c1 qs w1 H5.o (by omega) (by omega) (by omega)).mono ?_;rintro e w7 ⟨s7,A7,k7,c7,ls,rfl,m1,m2,m3,m4,m5,m6,eG⟩;clear q0 q1 q2;go_wp2_with fail
 refine (DA false A2 k2 c2 rs w7 (H6.o.aB eG) (by omega) (by omega) (by omega)).mono ?_;rintro e w8 ⟨s8,A8,k8,c8,l8,rfl,p1,p2,p3,p4,p5,iD⟩;have jh:Below wt.heap.size wt w8:=(ah.tm eG).trans (iD.mono ((ah.tm eG).size));have jS:=Dq.o.aB jh;have iu:=Dr.o.aB jh;have r0:=jS.cell0;have r1:=jS.cell1;have t0:=iu.cell0;have t1:=iu.cell1;have f0:=jS.frozen 0;have f1:=jS.frozen 1;have f2:=iu.frozen 0;have f3:=iu.frozen 1;have JR:=aA (m4.aB iD);have Fk:=aA p4;have nJ:w.heap.size+1+1≠w.heap.size+1+1+1:=by omega
 have nI:w.heap.size+1+1+1≠w.heap.size+1+1:=by omega
 have jy:w.heap.size<=w.heap.size+1+1:=by omega
 have xR:w.heap.size<=w.heap.size+1+1+1:=by omega
 have Hb:Hid (Below w.heap.size w w8):=b4.tm jh;have Hz:Hid (bW s7 ls (aF false xs / aF true ys)):=by
  have h:=m5;have e:aF true qs=aF false xs / aF true ys:=((qH true g3 g4 h0).1);rw [e] at h;exact h
 have JM:Hid (bW s8 l8 (aF false xs % aF true ys)):=by
  have h:=p5;have e:aF false rs=aF false xs % aF true ys:=((qH true g3 g4 h0).2);rw [e] at h;exact h
 have HQ:=aA jS;have HR:=aA iu;have SA:Hid (0<k7->∀y,A7=some y->w.heap.size<=y.block):=fun h0 y hy=>aH (aH b4.size ah.size) (m6 h0 y hy);have II:k7<=n+m+10:=by omega
 have Bj:k8<=n+m+10:=by omega
 clear jS iu m4 m5 m6 p4 p5 jh ah eG iD b4 Cd g1 g2 g3 g4;generalize w.heap.size+1+1+1=gr at*
 generalize w.heap.size+1+1=gq at*
 go_wp2_with fail
 have X1:=(HR.o.other ⟨gq,0,none⟩ nJ (.bool s7)).other ⟨gq,1,none⟩ nJ (.slice A7 k7 c7);have X2:=((HQ.o.set (.bool s7) (.slice A7 k7 c7)).other ⟨gr,0,none⟩ nI (.bool s8)).other ⟨gr,1,none⟩ nI (.slice A8 k8 c8);refine ax (cQ (fn:=f79) rfl _ _ _ _ _ _ _ _ _ _ _ _ rfl X2 rfl (X1.set _ _) underlying41 rfl aT underlying41 rfl aT) rfl ?_;exact ⟨s7,A7,k7,c7,ls,s8,A8,k8,c8,l8,rfl,II,Bj,m1,m2,p1,p2,X1.limbs _ _ rfl rfl (HQ.o.limbs _ _ rfl rfl JR.o),X1.limbs _ _ rfl rfl (HQ.o.limbs _ _ rfl rfl Fk.o),Hz.o,JM.o,SA.o,(((Hb.o.setCell (p:=⟨gq,0,none⟩) jy _).setCell (p:=⟨gq,1,none⟩) jy _).setCell (p:=⟨gr,0,none⟩) xR _).setCell (p:=⟨gr,1,none⟩) xR _⟩
def ais (A B:Option Addr) (n m c d:Nat) (xs ys:List Int) (w:World) (hx:aD w A n xs) (hy:aD w B m ys) (ig:n<=c) (hc:c<=9223372036854775807) (kX:m<=d) (hd:d<=9223372036854775807) (hn:n<=3900000000000) (hm:m<=3900000000000) (h0:0<limbs ys):
 aC 79 #[.agg #[.bool true,.slice A n c],.agg #[.bool false,.slice B m d]] w (acN w (n+m+10) (aF true xs) (aF false ys)):=by
 have Cd:=aA (fun W (h:Below w.heap.size w W)=>BF A B n m c d xs ys W (hx.aB h) (hy.aB h) ig hc kX hd hn hm h0);obtain ⟨da,db,dq,dr,b4⟩:=Pm w (.bool true) (.slice A n c) (.bool false) (.slice B m d) (.bool false) (.slice none 0 0) (.bool false) (.slice none 0 0);go_enter func79,ntmps79
 go_wp2_with fail
 have Da:=aA da;have Db:=aA db;have Dq:=aA dq;have Dr:=aA dr;have a1:=da.cell1;have e1:=db.cell1;have Hy:=aA (hy.aB b4);clear da db dq dr hx hy;generalize (((w.alloc (.cells #[.bool true,.slice A n c] 41)).alloc (.cells #[.bool false,.slice B m d] 41)).alloc (.cells #[.bool false,.slice none 0 0] 41)).alloc (.cells #[.bool false,.slice none 0 0] 41)=wt at*
 go_wp2_with fail
 refine (Cd.o _ (by exact b4)).mono ?_;rintro e w1 ⟨qs,rs,A1,k1,c1,A2,k2,c2,rfl,g1,g2,g3,g4,g5,g6,g7,g8,g9,jV,fW,yQ,ah⟩;have q0:=(Da.o.aB ah).cell0;have q1:=(Db.o.aB ah).cell0;have q2:=(Db.o.aB ah).cell1;have H5:=aA fW;have H6:=aA yQ;have NV:=aA (Hy.o.aB ah);clear fW yQ a1 e1;have uX:=H6.o.len;by_cases hz:k2=0
 . have Ko:¬(0:Int)<(k2:Int):=by omega
   have oK:limbs rs=0:=g2.iY.2 (by omega);clear hz;go_wp2_with fail
   refine (l7 true A1 k1 c1 qs w1 H5.o (by omega) (by omega) (by omega)).mono ?_;rintro e w7 ⟨s7,A7,k7,c7,ls,rfl,m1,m2,m3,m4,m5,m6,eG⟩;clear q0 q1 q2;go_wp2_with fail
   refine (DA false A2 k2 c2 rs w7 (H6.o.aB eG) (by omega) (by omega) (by omega)).mono ?_;rintro e w8 ⟨s8,A8,k8,c8,l8,rfl,p1,p2,p3,p4,p5,iD⟩;have jh:Below wt.heap.size wt w8:=(ah.tm eG).trans (iD.mono ((ah.tm eG).size));have jS:=Dq.o.aB jh;have iu:=Dr.o.aB jh;have r0:=jS.cell0;have r1:=jS.cell1;have t0:=iu.cell0;have t1:=iu.cell1;have f0:=jS.frozen 0;have f1:=jS.frozen 1;have f2:=iu.frozen 0;have f3:=iu.frozen 1;have JR:=aA (m4.aB iD);have Fk:=aA p4;have nJ:w.heap.size+1+1≠w.heap.size+1+1+1:=by omega
   have nI:w.heap.size+1+1+1≠w.heap.size+1+1:=by omega
   have jy:w.heap.size<=w.heap.size+1+1:=by omega
   have xR:w.heap.size<=w.heap.size+1+1+1:=by omega
   have Hb:Hid (Below w.heap.size w w8):=b4.tm jh;have Hz:Hid (bW s7 ls (aF true xs / aF false ys)):=by
    have h:=m5;have e:aF true qs=aF true xs / aF false ys:=((oC false g3 g4 oK h0).1);rw [e] at h;exact h
   have JM:Hid (bW s8 l8 (aF true xs % aF false ys)):=by
    have h:=p5;have e:aF false rs=aF true xs % aF false ys:=((oC false g3 g4 oK h0).2);rw [e] at h;exact h
   have HQ:=aA jS;have HR:=aA iu;have SA:Hid (0<k7->∀y,A7=some y->w.heap.size<=y.block):=fun h0 y hy=>aH (aH b4.size ah.size) (m6 h0 y hy);have II:k7<=n+m+10:=by omega
   have Bj:k8<=n+m+10:=by omega
   clear jS iu m4 m5 m6 p4 p5 jh ah eG iD b4 Cd g1 g2 g3 g4;generalize w.heap.size+1+1+1=gr at*
   generalize w.heap.size+1+1=gq at*
   go_wp2_with fail
   have X1:=(HR.o.other ⟨gq,0,none⟩ nJ (.bool s7)).other ⟨gq,1,none⟩ nJ (.slice A7 k7 c7);have X2:=((HQ.o.set (.bool s7) (.slice A7 k7 c7)).other ⟨gr,0,none⟩ nI (.bool s8)).other ⟨gr,1,none⟩ nI (.slice A8 k8 c8);refine ax (cQ (fn:=f79) rfl _ _ _ _ _ _ _ _ _ _ _ _ rfl X2 rfl (X1.set _ _) underlying41 rfl aT underlying41 rfl aT) rfl ?_;exact ⟨s7,A7,k7,c7,ls,s8,A8,k8,c8,l8,rfl,II,Bj,m1,m2,p1,p2,X1.limbs _ _ rfl rfl (HQ.o.limbs _ _ rfl rfl JR.o),X1.limbs _ _ rfl rfl (HQ.o.limbs _ _ rfl rfl Fk.o),Hz.o,JM.o,SA.o,(((Hb.o.setCell (p:=⟨gq,0,none⟩) jy _).setCell (p:=⟨gq,1,none⟩) jy _).setCell (p:=⟨gr,0,none⟩) xR _).setCell (p:=⟨gr,1,none⟩) xR _⟩
 . have Ko:(0:Int)<(k2:Int):=by omega
   have oK:0<limbs rs:=pV (fun e=>hz (by have:=g2.iY.1 e;omega));have Dx:limbs rs<=limbs ys:=by rw [g4];exact nK (jO _ h0)
   have uu:=aD.one w1 38 (x:=1) (by omega) (by omega);have Mo:Below w1.heap.size w1 (w1.alloc (.cells #[.int .u64 1] 38)):=aW.alloc aK _;have Ca:=aA (vQ A1 (some ⟨w1.heap.size,0,none⟩) k1 1 c1 1 qs [1] _ (H5.o.aB Mo) uu (by omega) (by omega));have Cs:=aA (fun W (h:Below w1.heap.size w1 W)=>BD B A2 m k2 d c2 ys rs W (NV.o.aB h) (H6.o.aB h) (by omega) (by omega) Dx);have IM:=oJ H5.o.ok uu.ok;have kG:=mG NV.o.ok H6.o.ok Dx;have zA:=H5.o.len;have Cw:=NV.o.len;clear hz uu;go_wp2_with fail
   refine Ca.o.mono ?_;rintro e w4 ⟨A4,k4,c4,rfl,f4a,f4b,Xd,f4d,SP⟩;have vW:Below wt.heap.size wt w4:=ah.trans ((Mo.tm SP).mono ah.size);have IL:Below w1.heap.size w1 w4:=Mo.tm SP;replace q0:=(Da.o.aB vW).cell0
   replace q1:=(Db.o.aB vW).cell0
   replace q2:=(Db.o.aB vW).cell1
   clear Ca;go_wp2_with fail
   refine (Cs.o _ IL).mono ?_;rintro e w5 ⟨A5,k5,c5,rfl,f5a,f5b,Xc,f5d,SN⟩;have xW:Below wt.heap.size wt w5:=vW.tm SN;replace q0:=(Da.o.aB xW).cell0
   replace q1:=(Db.o.aB xW).cell0
   replace q2:=(Db.o.aB xW).cell1
   have f4L:=aA (Xd.aB SN);have f5L:=aA Xc;have hk4:k4<=n+3:=by have:=Xd.len;rw [<- this];have:=IM.2.2;rw [zA] at this;simp at this;omega
   have hk5:k5<=n+m+3:=by have:=Xc.len;rw [<- this];have:=kG.2.2.2;rw [Cw,uX] at this;omega
   have hq4:limbs (uQ qs [1])=limbs xs / limbs ys+1:=by rw [IM.2.1,g3];rfl
   have hr5:limbs (nZ ys rs)=limbs ys-limbs xs % limbs ys:=by rw [kG.2.2.1,g4]
   have hrm:0<limbs xs % limbs ys:=by rw [<- g4];exact oK
   clear Cs Xd f4d SP Xc f5d SN IM kG zA Cw vW IL Mo Dx;go_wp2_with fail
   refine (l7 true A4 k4 c4 (uQ qs [1]) w5 f4L.o (by omega) (by omega) (by omega)).mono ?_;rintro e w7 ⟨s7,A7,k7,c7,ls,rfl,m1,m2,m3,m4,m5,m6,eG⟩;clear q0 q1 q2;go_wp2_with fail
   refine (DA false A5 k5 c5 (nZ ys rs) w7 (f5L.o.aB eG) (by omega) (by omega) (by omega)).mono ?_;rintro e w8 ⟨s8,A8,k8,c8,l8,rfl,p1,p2,p3,p4,p5,iD⟩;have jh:Below wt.heap.size wt w8:=(xW.tm eG).trans (iD.mono ((xW.tm eG).size));have jS:=Dq.o.aB jh;have iu:=Dr.o.aB jh;have r0:=jS.cell0;have r1:=jS.cell1;have t0:=iu.cell0;have t1:=iu.cell1;have f0:=jS.frozen 0;have f1:=jS.frozen 1;have f2:=iu.frozen 0;have f3:=iu.frozen 1;have JR:=aA (m4.aB iD);have Fk:=aA p4;have nJ:w.heap.size+1+1≠w.heap.size+1+1+1:=by omega
   have nI:w.heap.size+1+1+1≠w.heap.size+1+1:=by omega
   have jy:w.heap.size<=w.heap.size+1+1:=by omega
   have xR:w.heap.size<=w.heap.size+1+1+1:=by omega
   have Hb:Hid (Below w.heap.size w w8):=b4.tm jh;have Hz:Hid (bW s7 ls (aF true xs / aF false ys)):=by
    have h:=m5;have e:aF true (uQ qs [1])=aF true xs / aF false ys:=((qI false hq4 hr5 hrm h0).1);rw [e] at h;exact h
   have JM:Hid (bW s8 l8 (aF true xs % aF false ys)):=by
    have h:=p5;have e:aF false (nZ ys rs)=aF true xs % aF false ys:=((qI false hq4 hr5 hrm h0).2);rw [e] at h;exact h
   have HQ:=aA jS;have HR:=aA iu;have SA:Hid (0<k7->∀y,A7=some y->w.heap.size<=y.block):=fun h0 y hy=>aH (aH b4.size xW.size) (m6 h0 y hy);have II:k7<=n+m+10:=by omega
   have Bj:k8<=n+m+10:=by omega
   clear jS iu m4 m5 m6 p4 p5 jh ah eG iD b4 Cd g1 g2 g3 g4;generalize w.heap.size+1+1+1=gr at*
   generalize w.heap.size+1+1=gq at*
   go_wp2_with fail
   have X1:=(HR.o.other ⟨gq,0,none⟩ nJ (.bool s7)).other ⟨gq,1,none⟩ nJ (.slice A7 k7 c7);have X2:=((HQ.o.set (.bool s7) (.slice A7 k7 c7)).other ⟨gr,0,none⟩ nI (.bool s8)).other ⟨gr,1,none⟩ nI (.slice A8 k8 c8);refine ax (cQ (fn:=f79) rfl _ _ _ _ _ _ _ _ _ _ _ _ rfl X2 rfl (X1.set _ _) underlying41 rfl aT underlying41 rfl aT) rfl ?_;exact ⟨s7,A7,k7,c7,ls,s8,A8,k8,c8,l8,rfl,II,Bj,m1,m2,p1,p2,X1.limbs _ _ rfl rfl (HQ.o.limbs _ _ rfl rfl JR.o),X1.limbs _ _ rfl rfl (HQ.o.limbs _ _ rfl rfl Fk.o),Hz.o,JM.o,SA.o,(((Hb.o.setCell (p:=⟨gq,0,none⟩) jy _).setCell (p:=⟨gq,1,none⟩) jy _).setCell (p:=⟨gr,0,none⟩) xR _).setCell (p:=⟨gr,1,none⟩) xR _⟩
def air (A B:Option Addr) (n m c d:Nat) (xs ys:List Int) (w:World) (hx:aD w A n xs) (hy:aD w B m ys) (ig:n<=c) (hc:c<=9223372036854775807) (kX:m<=d) (hd:d<=9223372036854775807) (hn:n<=3900000000000) (hm:m<=3900000000000) (h0:0<limbs ys):
 aC 79 #[.agg #[.bool true,.slice A n c],.agg #[.bool true,.slice B m d]] w (acN w (n+m+10) (aF true xs) (aF true ys)):=by
 have Cd:=aA (fun W (h:Below w.heap.size w W)=>BF A B n m c d xs ys W (hx.aB h) (hy.aB h) ig hc kX hd hn hm h0);obtain ⟨da,db,dq,dr,b4⟩:=Pm w (.bool true) (.slice A n c) (.bool true) (.slice B m d) (.bool false) (.slice none 0 0) (.bool false) (.slice none 0 0);go_enter func79,ntmps79
 go_wp2_with fail
 have Da:=aA da;have Db:=aA db;have Dq:=aA dq;have Dr:=aA dr;have a1:=da.cell1;have e1:=db.cell1;have Hy:=aA (hy.aB b4);clear da db dq dr hx hy;generalize (((w.alloc (.cells #[.bool true,.slice A n c] 41)).alloc (.cells #[.bool true,.slice B m d] 41)).alloc (.cells #[.bool false,.slice none 0 0] 41)).alloc (.cells #[.bool false,.slice none 0 0] 41)=wt at*
 go_wp2_with fail
 refine (Cd.o _ (by exact b4)).mono ?_;rintro e w1 ⟨qs,rs,A1,k1,c1,A2,k2,c2,rfl,g1,g2,g3,g4,g5,g6,g7,g8,g9,jV,fW,yQ,ah⟩;have q0:=(Da.o.aB ah).cell0;have q1:=(Db.o.aB ah).cell0;have q2:=(Db.o.aB ah).cell1;have H5:=aA fW;have H6:=aA yQ;have NV:=aA (Hy.o.aB ah);clear fW yQ a1 e1;have uX:=H6.o.len;by_cases hz:k2=0
 . have Ko:¬(0:Int)<(k2:Int):=by omega
   have oK:limbs rs=0:=g2.iY.2 (by omega);clear hz;go_wp2_with fail
   refine (l7 false A1 k1 c1 qs w1 H5.o (by omega) (by omega) (by omega)).mono ?_;rintro e w7 ⟨s7,A7,k7,c7,ls,rfl,m1,m2,m3,m4,m5,m6,eG⟩;clear q0 q1 q2;go_wp2_with fail
   refine (DA false A2 k2 c2 rs w7 (H6.o.aB eG) (by omega) (by omega) (by omega)).mono ?_;rintro e w8 ⟨s8,A8,k8,c8,l8,rfl,p1,p2,p3,p4,p5,iD⟩;have jh:Below wt.heap.size wt w8:=(ah.tm eG).trans (iD.mono ((ah.tm eG).size));have jS:=Dq.o.aB jh;have iu:=Dr.o.aB jh;have r0:=jS.cell0;have r1:=jS.cell1;have t0:=iu.cell0;have t1:=iu.cell1;have f0:=jS.frozen 0;have f1:=jS.frozen 1;have f2:=iu.frozen 0;have f3:=iu.frozen 1;have JR:=aA (m4.aB iD);have Fk:=aA p4;have nJ:w.heap.size+1+1≠w.heap.size+1+1+1:=by omega
   have nI:w.heap.size+1+1+1≠w.heap.size+1+1:=by omega
   have jy:w.heap.size<=w.heap.size+1+1:=by omega
   have xR:w.heap.size<=w.heap.size+1+1+1:=by omega
   have Hb:Hid (Below w.heap.size w w8):=b4.tm jh;have Hz:Hid (bW s7 ls (aF true xs / aF true ys)):=by
    have h:=m5;have e:aF false qs=aF true xs / aF true ys:=((oC true g3 g4 oK h0).1);rw [e] at h;exact h
   have JM:Hid (bW s8 l8 (aF true xs % aF true ys)):=by
    have h:=p5;have e:aF false rs=aF true xs % aF true ys:=((oC true g3 g4 oK h0).2);rw [e] at h;exact h
   have HQ:=aA jS;have HR:=aA iu;have SA:Hid (0<k7->∀y,A7=some y->w.heap.size<=y.block):=fun h0 y hy=>aH (aH b4.size ah.size) (m6 h0 y hy);have II:k7<=n+m+10:=by omega
   have Bj:k8<=n+m+10:=by omega
   clear jS iu m4 m5 m6 p4 p5 jh ah eG iD b4 Cd g1 g2 g3 g4;generalize w.heap.size+1+1+1=gr at*
   generalize w.heap.size+1+1=gq at*
   go_wp2_with fail
   have X1:=(HR.o.other ⟨gq,0,none⟩ nJ (.bool s7)).other ⟨gq,1,none⟩ nJ (.slice A7 k7 c7);have X2:=((HQ.o.set (.bool s7) (.slice A7 k7 c7)).other ⟨gr,0,none⟩ nI (.bool s8)).other ⟨gr,1,none⟩ nI (.slice A8 k8 c8);refine ax (cQ (fn:=f79) rfl _ _ _ _ _ _ _ _ _ _ _ _ rfl X2 rfl (X1.set _ _) underlying41 rfl aT underlying41 rfl aT) rfl ?_;exact ⟨s7,A7,k7,c7,ls,s8,A8,k8,c8,l8,rfl,II,Bj,m1,m2,p1,p2,X1.limbs _ _ rfl rfl (HQ.o.limbs _ _ rfl rfl JR.o),X1.limbs _ _ rfl rfl (HQ.o.limbs _ _ rfl rfl Fk.o),Hz.o,JM.o,SA.o,(((Hb.o.setCell (p:=⟨gq,0,none⟩) jy _).setCell (p:=⟨gq,1,none⟩) jy _).setCell (p:=⟨gr,0,none⟩) xR _).setCell (p:=⟨gr,1,none⟩) xR _⟩
 . have Ko:(0:Int)<(k2:Int):=by omega
   have oK:0<limbs rs:=pV (fun e=>hz (by have:=g2.iY.1 e;omega));have Dx:limbs rs<=limbs ys:=by rw [g4];exact nK (jO _ h0)
   have uu:=aD.one w1 38 (x:=1) (by omega) (by omega);have Mo:Below w1.heap.size w1 (w1.alloc (.cells #[.int .u64 1] 38)):=aW.alloc aK _;have Ca:=aA (vQ A1 (some ⟨w1.heap.size,0,none⟩) k1 1 c1 1 qs [1] _ (H5.o.aB Mo) uu (by omega) (by omega));have Cs:=aA (fun W (h:Below w1.heap.size w1 W)=>BD B A2 m k2 d c2 ys rs W (NV.o.aB h) (H6.o.aB h) (by omega) (by omega) Dx);have IM:=oJ H5.o.ok uu.ok;have kG:=mG NV.o.ok H6.o.ok Dx;have zA:=H5.o.len;have Cw:=NV.o.len;clear hz uu;go_wp2_with fail
   refine Ca.o.mono ?_;rintro e w4 ⟨A4,k4,c4,rfl,f4a,f4b,Xd,f4d,SP⟩;have vW:Below wt.heap.size wt w4:=ah.trans ((Mo.tm SP).mono ah.size);have IL:Below w1.heap.size w1 w4:=Mo.tm SP;replace q0:=(Da.o.aB vW).cell0
   replace q1:=(Db.o.aB vW).cell0
   replace q2:=(Db.o.aB vW).cell1
   clear Ca;go_wp2_with fail
   refine (Cs.o _ IL).mono ?_;rintro e w5 ⟨A5,k5,c5,rfl,f5a,f5b,Xc,f5d,SN⟩;have xW:Below wt.heap.size wt w5:=vW.tm SN;replace q0:=(Da.o.aB xW).cell0
   replace q1:=(Db.o.aB xW).cell0
   replace q2:=(Db.o.aB xW).cell1
   have f4L:=aA (Xd.aB SN);have f5L:=aA Xc;have hk4:k4<=n+3:=by have:=Xd.len;rw [<- this];have:=IM.2.2;rw [zA] at this;simp at this;omega
   have hk5:k5<=n+m+3:=by have:=Xc.len;rw [<- this];have:=kG.2.2.2;rw [Cw,uX] at this;omega
   have hq4:limbs (uQ qs [1])=limbs xs / limbs ys+1:=by rw [IM.2.1,g3];rfl
   have hr5:limbs (nZ ys rs)=limbs ys-limbs xs % limbs ys:=by rw [kG.2.2.1,g4]
   have hrm:0<limbs xs % limbs ys:=by rw [<- g4];exact oK
   clear Cs Xd f4d SP Xc f5d SN IM kG zA Cw vW IL Mo Dx;go_wp2_with fail
   refine (l7 false A4 k4 c4 (uQ qs [1]) w5 f4L.o (by omega) (by omega) (by omega)).mono ?_;rintro e w7 ⟨s7,A7,k7,c7,ls,rfl,m1,m2,m3,m4,m5,m6,eG⟩;clear q0 q1 q2;go_wp2_with fail
   refine (DA false A5 k5 c5 (nZ ys rs) w7 (f5L.o.aB eG) (by omega) (by omega) (by omega)).mono ?_;rintro e w8 ⟨s8,A8,k8,c8,l8,rfl,p1,p2,p3,p4,p5,iD⟩;have jh:Below wt.heap.size wt w8:=(xW.tm eG).trans (iD.mono ((xW.tm eG).size));have jS:=Dq.o.aB jh;have iu:=Dr.o.aB jh;have r0:=jS.cell0;have r1:=jS.cell1;have t0:=iu.cell0;have t1:=iu.cell1;have f0:=jS.frozen 0;have f1:=jS.frozen 1;have f2:=iu.frozen 0;have f3:=iu.frozen 1;have JR:=aA (m4.aB iD);have Fk:=aA p4;have nJ:w.heap.size+1+1≠w.heap.size+1+1+1:=by omega
   have nI:w.heap.size+1+1+1≠w.heap.size+1+1:=by omega
   have jy:w.heap.size<=w.heap.size+1+1:=by omega
   have xR:w.heap.size<=w.heap.size+1+1+1:=by omega
   have Hb:Hid (Below w.heap.size w w8):=b4.tm jh;have Hz:Hid (bW s7 ls (aF true xs / aF true ys)):=by
    have h:=m5;have e:aF false (uQ qs [1])=aF true xs / aF true ys:=((qI true hq4 hr5 hrm h0).1);rw [e] at h;exact h
   have JM:Hid (bW s8 l8 (aF true xs % aF true ys)):=by
    have h:=p5;have e:aF false (nZ ys rs)=aF true xs % aF true ys:=((qI true hq4 hr5 hrm h0).2);rw [e] at h;exact h
   have HQ:=aA jS;have HR:=aA iu;have SA:Hid (0<k7->∀y,A7=some y->w.heap.size<=y.block):=fun h0 y hy=>aH (aH b4.size xW.size) (m6 h0 y hy);have II:k7<=n+m+10:=by omega
   have Bj:k8<=n+m+10:=by omega
   clear jS iu m4 m5 m6 p4 p5 jh ah eG iD b4 Cd g1 g2 g3 g4;generalize w.heap.size+1+1+1=gr at*
   generalize w.heap.size+1+1=gq at*
   go_wp2_with fail
   have X1:=(HR.o.other ⟨gq,0,none⟩ nJ (.bool s7)).other ⟨gq,1,none⟩ nJ (.slice A7 k7 c7);have X2:=((HQ.o.set (.bool s7) (.slice A7 k7 c7)).other ⟨gr,0,none⟩ nI (.bool s8)).other ⟨gr,1,none⟩ nI (.slice A8 k8 c8);refine ax (cQ (fn:=f79) rfl _ _ _ _ _ _ _ _ _ _ _ _ rfl X2 rfl (X1.set _ _) underlying41 rfl aT underlying41 rfl aT) rfl ?_;exact ⟨s7,A7,k7,c7,ls,s8,A8,k8,c8,l8,rfl,II,Bj,m1,m2,p1,p2,X1.limbs _ _ rfl rfl (HQ.o.limbs _ _ rfl rfl JR.o),X1.limbs _ _ rfl rfl (HQ.o.limbs _ _ rfl rfl Fk.o),Hz.o,JM.o,SA.o,(((Hb.o.setCell (p:=⟨gq,0,none⟩) jy _).setCell (p:=⟨gq,1,none⟩) jy _).setCell (p:=⟨gr,0,none⟩) xR _).setCell (p:=⟨gr,1,none⟩) xR _⟩
def anb (s t:Bool) (A B:Option Addr) (n m c d:Nat) (xs ys:List Int) (w:World) (hx:aD w A n xs) (hy:aD w B m ys) (ig:n<=c) (hc:c<=9223372036854775807) (kX:m<=d) (hd:d<=9223372036854775807) (hn:n<=3900000000000) (hm:m<=3900000000000) (h0:0<limbs ys):
 aC 79 #[.agg #[.bool s,.slice A n c],.agg #[.bool t,.slice B m d]] w (acN w (n+m+10) (aF s xs) (aF t ys)):=by
 cases s<;>cases t
 . exact aiu A B n m c d xs ys w hx hy ig hc kX hd hn hm h0
 . exact ait A B n m c d xs ys w hx hy ig hc kX hd hn hm h0
 . exact ais A B n m c d xs ys w hx hy ig hc kX hd hn hm h0
 . exact air A B n m c d xs ys w hx hy ig hc kX hd hn hm h0
def W4 (h:bX xs) (hn:xs.length=n):bu xs n=n:=by
 have h1:=bF h.1 hn;have h2:=h1.1.inj h h1.2;have h3:=fN List.length h2;rw [cS,hn] at h3;have:=bS xs n;omega
def Na (w:World) (K:Nat) (a b:Int) (e:Ending) (w':World):Prop:=
 ∃s1 A1 k1 c1 l1,e=.returned (.tuple #[.agg #[.bool s1,.slice A1 k1 c1],.int .i64 (if a % b=0 then 0 else 4)])∧k1<=K∧k1<=c1∧c1<=9223372036854775807∧aD w' A1 k1 l1∧(a % b=0->bW s1 l1 (a / b))∧(0<k1->∀y,A1=some y->w.heap.size<=y.block)∧Below w.heap.size w w'
def zJ {s:Bool} {z:Int}(h:bW s xs z) {n:Nat}(hn:xs.length=n):xC s (bu xs n)=0↔z=0:=by
 rw [W4 h.pl hn,h.Np,hn];cases n with
 | zero=>exact ⟨fun _=>rfl,fun _=>by cases s<;>rfl⟩
 | succ n=>exact ⟨fun e=>absurd e (by cases s<;>simp [xC]),fun e=>by omega⟩
section
variable (s t : Bool) (A B : Option Addr) (n m c d : Nat) (xs ys : List Int) (w : World) (hx : aD w A n xs) (hy : aD w B m ys) (ig : n <= c) (hc : c <= 9223372036854775807) (kX : m <= d) (hd : d <= 9223372036854775807) (hn : n <= 3900000000000) (hm : m <= 3900000000000) (h0 : 0 < limbs ys)
include hx hy ig hc kX hd hn hm h0
theorem LO:aC 42 #[.agg #[.bool s,.slice A n c],.agg #[.bool t,.slice B m d]] w (Na w (n+m+10) (aF s xs) (aF t ys)):=by
 have Cd:=aA (fun W (h:Below w.heap.size w W)=>anb s t A B n m c d xs ys W (hx.aB h) (hy.aB h) ig hc kX hd hn hm h0);have al:∀(W:World) (o:Obj),Below W.heap.size W (W.alloc o):=fun W o=>aW.alloc aK o;have da:=((Duo.new w (.bool s) (.slice A n c)).aB (al _ (.cells #[.bool t,.slice B m d] 41))).aB (al _ (.cells #[.bool false,.slice none 0 0] 41));have db:=(Duo.new (w.alloc (.cells #[.bool s,.slice A n c] 41)) (.bool t) (.slice B m d)).aB (al _ (.cells #[.bool false,.slice none 0 0] 41));have dr:=Duo.new ((w.alloc (.cells #[.bool s,.slice A n c] 41)).alloc (.cells #[.bool t,.slice B m d] 41)) (.bool false) (.slice none 0 0);rw [aJ] at db;rw [aJ,aJ] at dr;have b3:Below w.heap.size w (((w.alloc (.cells #[.bool s,.slice A n c] 41)).alloc (.cells #[.bool t,.slice B m d] 41)).alloc (.cells #[.bool false,.slice none 0 0] 41)):=((al w _).alloc (by simp) _).alloc (by simp;omega) _;generalize aF s xs=za at*
 generalize aF t ys=zb at*
 go_enter func42,ntmps42
 go_wp2_with fail
 have a0:=da.cell0;have a1:=da.cell1;have e0:=db.cell0;have e1:=db.cell1;have Dr:=aA dr;clear da db dr hx hy al h0;generalize ((w.alloc (.cells #[.bool s,.slice A n c] 41)).alloc (.cells #[.bool t,.slice B m d] 41)).alloc (.cells #[.bool false,.slice none 0 0] 41)=wt at*
 go_wp2_with fail
 refine (Cd.o _ (by exact b3)).mono ?_;rintro e w1 ⟨s1,A1,k1,c1,l1,s2,A2,k2,c2,l2,rfl,g1,g2,g3,g4,g5,g6,g7,g8,g9,jV,fW,ah⟩;have al:∀(W:World) (o:Obj),Below W.heap.size W (W.alloc o):=fun W o=>aW.alloc aK o;have dq:=(Duo.new w1 (.bool s1) (.slice A1 k1 c1)).aB (al _ (.cells #[.bool s2,.slice A2 k2 c2] 41));have de:=Duo.new (w1.alloc (.cells #[.bool s1,.slice A1 k1 c1] 41)) (.bool s2) (.slice A2 k2 c2);rw [aJ] at de;have cU:Below wt.heap.size wt ((w1.alloc (.cells #[.bool s1,.slice A1 k1 c1] 41)).alloc (.cells #[.bool s2,.slice A2 k2 c2] 41)):=(ah.alloc ah.size _).alloc (by have:=ah.size;simp;omega) _;have hL:=(g7.alloc (.cells #[.bool s1,.slice A1 k1 c1] 41)).alloc (.cells #[.bool s2,.slice A2 k2 c2] 41);have GC:=(g8.alloc (.cells #[.bool s1,.slice A1 k1 c1] 41)).alloc (.cells #[.bool s2,.slice A2 k2 c2] 41);have Hz:=aA g9;have HF:Hid (0<k1->∀y,A1=some y->w.heap.size<=y.block):=fun h y hy=>aH b3.size (fW h y hy);have HL:=aA hL;have Qh:=aA GC;have HB:=aA cU;have HDq:=aA dq;have HDe:=aA de;have Fx:=zJ jV g8.len;have e2:=de.cell0;have e3:=de.cell1;clear a0 a1 e0 e1 dq de hL GC cU g7 g8 g9 jV fW al;go_wp2_with fail
 have hlt:=ah.size;clear ah;generalize (w1.alloc (.cells #[.bool s1,.slice A1 k1 c1] 41)).alloc (.cells #[.bool s2,.slice A2 k2 c2] 41)=w2 at*
 refine (xx s2 A2 k2 c2 l2 w2 Qh.o g5 g6 (by omega)).mono ?_;rintro e w3 ⟨rfl,ym⟩;have nV:Below wt.heap.size wt w3:=HB.o.tm ym;have jS:=HDq.o.aB ym;have iu:=Dr.o.aB nV;have q0:=jS.cell0;have q1:=jS.cell1;have r0:=iu.cell0;have r1:=iu.cell1;have f0:=iu.frozen 0;have f1:=iu.frozen 1;have hL3:=aA (HL.o.aB ym);have jy:w.heap.size<=w.heap.size+1+1:=by omega
 have Hb:Hid (Below w.heap.size w w3):=b3.tm nV;have HD3:=aA iu;have Hsg:=aA Fx;clear nV ym jS iu b3 Cd HL HB HDq HDe Fx e2 e3;generalize xC s2 (bu l2 k2)=sg at*
 by_cases hz:za % zb=0
 . have tZ:(sg==0)=true:=by simp;exact Hsg.o.2 hz
   have uW:(sg !=0)=false:=by simp;exact Hsg.o.2 hz
   have HZ:=aA hz;clear hz;go_wp2_with fail
   refine ax (results_cell_tmp (fn:=f42) rfl _ _ _ _ _ _ _ rfl (HD3.o.set _ _) underlying41 rfl aT) rfl ?_;unfold Na;rw [aM HZ.o];exact ⟨s1,A1,k1,c1,l1,rfl,g1,g3,g4,HD3.o.limbs _ _ rfl rfl hL3.o,fun _=>Hz.o,HF.o,(Hb.o.setCell (p:=⟨w.heap.size+1+1,0,none⟩) jy _).setCell (p:=⟨w.heap.size+1+1,1,none⟩) jy _⟩
 . have tZ:(sg==0)=false:=by simp;exact fun e=>hz (Hsg.o.1 e)
   have uW:(sg !=0)=true:=by simp;exact fun e=>hz (Hsg.o.1 e)
   have HZ:=aA hz;clear hz;go_wp2_with fail
   refine ax (results_cell_tmp (fn:=f42) rfl _ _ _ _ _ _ _ rfl (HD3.o.set _ _) underlying41 rfl aT) rfl ?_;unfold Na;rw [af HZ.o];exact ⟨false,none,0,0,[],rfl,by omega,by omega,by omega,aD.nil _ _,fun h=>absurd h HZ.o,fun h=>absurd h (by omega),(Hb.o.setCell (p:=⟨w.heap.size+1+1,0,none⟩) jy _).setCell (p:=⟨w.heap.size+1+1,1,none⟩) jy _⟩
end
def ana (s t:Bool) (A B:Option Addr) (n m c d:Nat) (xs ys:List Int) (w:World) (hx:aD w A n xs) (hy:aD w B m ys) (ig:n<=c) (hc:c<=9223372036854775807) (kX:m<=d) (hd:d<=9223372036854775807) (hn:n<=3900000000000) (hm:m<=3900000000000):
 aC 47 #[.agg #[.bool s,.slice A n c],.agg #[.bool t,.slice B m d]] w (gj w ((Nat.gcd (limbs xs) (limbs ys):Nat):Int) (max n m)):=by
 have al:∀(W:World) (o:Obj),Below W.heap.size W (W.alloc o):=fun W o=>aW.alloc aK o;have da:=((Duo.new w (.bool s) (.slice A n c)).aB (al _ (.cells #[.bool t,.slice B m d] 41))).aB (al _ (.cells #[.bool false,.slice none 0 0] 41));have db:=(Duo.new (w.alloc (.cells #[.bool s,.slice A n c] 41)) (.bool t) (.slice B m d)).aB (al _ (.cells #[.bool false,.slice none 0 0] 41));have dr:=Duo.new ((w.alloc (.cells #[.bool s,.slice A n c] 41)).alloc (.cells #[.bool t,.slice B m d] 41)) (.bool false) (.slice none 0 0);rw [aJ] at db;rw [aJ,aJ] at dr;have b3:Below w.heap.size w (((w.alloc (.cells #[.bool s,.slice A n c] 41)).alloc (.cells #[.bool t,.slice B m d] 41)).alloc (.cells #[.bool false,.slice none 0 0] 41)):=((al w _).alloc (by simp) _).alloc (by simp;omega) _;have jq:=hx.len;have uJ:=hy.len;have HxP:=aA (bF hx.ok jq);have HyP:=aA (bF hy.ok uJ);have l1:=bS xs n;have l2:=bS ys m;have Cx:=aA (fun W (h:Below w.heap.size w W)=>DY A n c xs W (hx.aB h) ig hc (by omega));have Cy:=aA (fun W (h:Below w.heap.size w W)=>DY B m d ys W (hy.aB h) kX hd (by omega));have zA:Hid ((xs.take (bu xs n)).length<=max n m):=by show _<=_;rw [cS];omega
 have Cw:Hid ((ys.take (bu ys m)).length<=max n m):=by show _<=_;rw [cS];omega
 go_enter func47,ntmps47
 go_wp2_with fail
 have a0:=da.cell0;have a1:=da.cell1;have e0:=db.cell0;have e1:=db.cell1;have La:=da.lt;have Lb:=db.lt;have Dr:=aA dr;clear da db dr hx hy al;generalize ((w.alloc (.cells #[.bool s,.slice A n c] 41)).alloc (.cells #[.bool t,.slice B m d] 41)).alloc (.cells #[.bool false,.slice none 0 0] 41)=wt at*
 have HGG:Hid ((limbs xs).gcd (limbs ys)=(limbs (xs.take (bu xs n))).gcd (limbs (ys.take (bu ys m)))):=by show _=_;rw [HxP.o.2,HyP.o.2]
 generalize xs.take (bu xs n)=us at*
 generalize ys.take (bu ys m)=vs at*
 have sY:Hid (∀W,Below wt.heap.size wt W->W.cell? ⟨w.heap.size,0,none⟩=some (.bool s)∧W.cell? ⟨w.heap.size,1,none⟩=some (.slice A n c)∧W.cell? ⟨w.heap.size+1,0,none⟩=some (.bool t)∧W.cell? ⟨w.heap.size+1,1,none⟩=some (.slice B m d)):=fun W hW=>
  ⟨(hW.cell (p:=⟨w.heap.size,0,none⟩) La).trans a0,(hW.cell (p:=⟨w.heap.size,1,none⟩) La).trans a1,(hW.cell (p:=⟨w.heap.size+1,0,none⟩) Lb).trans e0,(hW.cell (p:=⟨w.heap.size+1,1,none⟩) Lb).trans e1⟩
 go_wp2_with fail
 go_region_held3 (fun W=>W.cell? ⟨w.heap.size,0,none⟩=some (.bool s)∧W.cell? ⟨w.heap.size,1,none⟩=some (.slice A n c)∧W.cell? ⟨w.heap.size+1,0,none⟩=some (.bool t)∧W.cell? ⟨w.heap.size+1,1,none⟩=some (.slice B m d))
  (first | go_keep | exact sY.o _ aW.drew | exact sY.o _ aW | exact sY.o _ Mm | exact sY.o _ GA)
  (first
    | (go_at_call 81;(with_reducible show Calls _ _ #[.slice A n c] _ _);refine (Cx.o _ (by first | exact b3.tm aW.drew | exact b3)).mono ?_;rintro e wx ⟨A1,c1,rfl,x1,x2,x3,akm⟩;have Mm:Below wt.heap.size wt wx:=(by first | exact aW.drew.trans akm | exact akm))
    | (go_at_call 81;refine (Cy.o _ (b3.tm Mm)).mono ?_;rintro e wy ⟨A2,c2,rfl,y1,y2,y3,akk⟩;have GA:Below wt.heap.size wt wy:=Mm.tm akk))
 have X3:=aA (x3.aB akk);have Y3:=aA y3;have HBy:=aA GA;clear Mm akm GA akk x3 y3 sY Cx Cy a0 a1 e0 e1 La Lb l1 l2 jq uJ;obtain ⟨K,hK⟩:∃K,max n m=K:=⟨_,rfl⟩;rw [hK] at zA Cw;have hK1:K<=3900000000000:=by omega
 have HKm:=aA hK;clear hK;have hP1:Hid (bX us):=HxP.o.1;have hP2:Hid (bX vs):=HyP.o.1;obtain ⟨G,hG⟩:∃G,(limbs us).gcd (limbs vs)=G:=⟨_,rfl⟩;have HG:=aA hG;have aAk:Hid ((limbs xs).gcd (limbs ys)=G):=HGG.o.trans hG;clear HxP HyP hG HGG;obtain ⟨n5,hn5⟩:∃k,us.length=k:=⟨_,rfl⟩;obtain ⟨n6,hn6⟩:∃k,vs.length=k:=⟨_,rfl⟩;rw [hn5] at x1 X3 zA ⊢;rw [hn6] at y1 Y3 Cw ⊢;clear hn5 hn6;go_wp2_with fail
 go_loopg [5,6,7,8,9] (limbs vs+1) (fun gk v5 v6 _ _ _ wr=>∃A5 n5 c5 Jb A6 n6 c6 zG,v5=.slice A5 n5 c5∧v6=.slice A6 n6 c6∧n5<=c5∧c5<=9223372036854775807∧n6<=c6∧c6<=9223372036854775807∧Hid (n5<=K∧n6<=K)∧Hid (aD wr A5 n5 Jb)∧Hid (aD wr A6 n6 zG)∧Hid (bX Jb∧bX zG)∧Hid ((limbs Jb).gcd (limbs zG)=G)∧Hid (limbs zG<gk)∧Hid (Below wt.heap.size wt wr))
 case atStart=>exact ⟨A1,n5,c1,us,A2,n6,c2,vs,rfl,rfl,x1,x2,y1,y2,⟨zA.o,Cw.o⟩,X3,Y3,⟨hP1.o,hP2.o⟩,HG,xm _,HBy⟩
 case round=>
  clear x1 x2 y1 y2 X3 Y3 hP1 hP2 HG HBy zA Cw;obtain ⟨A5,n5,c5,Jb,A6,n6,c6,zG,rfl,rfl,u1,u2,u3,u4,cZ,L5,L6,hPP,hG,Mh,hB⟩:=hrel;by_cases h0:n6=0
  . have h0':¬(0:Int)<(n6:Int):=by omega
    have hz:limbs zG=0:=hPP.o.2.iY.2 (by rw [L6.o.len];exact h0);have Mj:Hid (limbs Jb=G):=by
     have:=hG.o;rw [hz,S6] at this;exact this
    have Cm:=aA (l7 false A5 n5 c5 Jb wr L5.o u1 u2 (by have:=cZ.o;omega));have iu:=Dr.o.aB hB.o;clear h0 hz L5 L6 hPP hG Mh;(go_wp2_with fail);refine Cm.o.mono ?_;rintro e w7 ⟨s7,A7,k7,c7,ls,rfl,m1,m2,m3,m4,m5,m6,eG⟩;have Xy:=iu.aB eG;have r0:=Xy.cell0;have r1:=Xy.cell1;have f0:=Xy.frozen 0;have f1:=Xy.frozen 1;(have jy:w.heap.size<=w.heap.size+1+1:=by omega);have gN:Below wt.heap.size wt w7:=hB.o.tm eG;have Hb:Hid (Below w.heap.size w w7):=b3.tm gN;have HL:=aA m4;have HD:=aA Xy;have hz7:bW s7 ls (G:Int):=by
     have h:=m5;rw [show aF false Jb=(G:Int) by unfold aF;rw [af (by decide),Mj.o]] at h;exact h
    have HZ:=aA hz7;have SA:Hid (0<k7->∀y,A7=some y->w.heap.size<=y.block):=fun h0 y hy=>aH (aH b3.size hB.o.size) (m6 h0 y hy);(have X9:k7<=K:=by have:=cZ.o;omega);clear m4 m5 m6 hz7 gN eG iu Xy Cm;(go_wp2);exact ax (cI (fn:=Tryz.f47) rfl _ _ _ _ _ _ _ rfl (HD.o.set _ _) underlying41 rfl aT) rfl
     ⟨s7,A7,k7,c7,ls,rfl,m1,m2,by rw [HKm.o];exact X9,HD.o.limbs _ _ rfl rfl HL.o,by rw [aAk.o];exact HZ.o,SA.o,(Hb.o.setCell (p:=⟨w.heap.size+1+1,0,none⟩) jy _).setCell (p:=⟨w.heap.size+1+1,1,none⟩) jy _⟩
  . have h0':(0:Int)<(n6:Int):=by omega
    have tq:0<limbs zG:=pV (fun e=>h0 (by have:=hPP.o.2.iY.1 e;rw [L6.o.len] at this;exact this));have Cd:=aA (BF A5 A6 n5 n6 c5 c6 Jb zG wr L5.o L6.o u1 u2 u3 u4 (by have:=cZ.o;omega) (by have:=cZ.o;omega) tq);have Hpos:=aA tq;clear h0 tq;(go_wp2_with fail);refine Cd.o.mono ?_;rintro e w3 ⟨qs,rs,A7,k7,c7,A8,k8,c8,rfl,z1,z2,z3,z4,z5,z6,z7,z8,z9,z10,z11,z12,nV⟩;(have Cj:limbs rs<limbs zG:=by rw [z4];exact jO _ Hpos.o);have Bj:k8<=n6:=by
     have q1:=KH z2 (n:=n6) (by have:=eH L6.o.ok;rw [L6.o.len] at this;omega);rw [z12.len] at q1;exact q1
    have aya:Hid (n6<=K∧k8<=K):=⟨cZ.o.2,by have:=cZ.o;omega⟩;have L6':=aA (L6.o.aB nV);have L8:=aA z12;have axR:Hid (bX zG∧bX rs):=⟨hPP.o.2,z2⟩;have hG2:Hid ((limbs zG).gcd (limbs rs)=G):=by
     show _=_;rw [z4,<- hG.o,NH,<- Nat.gcd_rec,NH]
    (have awL:Hid (limbs rs<gk-1):=by have:=Mh.o;show _<_;omega);(have awK:Hid (gk-1<gk):=by have:=Mh.o;show _<_;omega);have hB3:Hid (Below wt.heap.size wt w3):=hB.o.tm nV;clear z1 z2 z3 z4 z5 z6 z11 z12 Cj Bj nV hB L5 L6 hPP hG Mh cZ Cd Hpos;(go_wp2_with fail);go_roundg (gk-1)
    case measure=>exact awK.o
    case rel=>exact ⟨A6,n6,c6,zG,A8,k8,c8,rs,rfl,rfl,u3,u4,z9,z10,aya,L6',L8,axR,hG2,awL,hB3⟩
open aG
def cm:(prog.info? 51).map (·.size)=some 3:=by kernel_rfl
def aa (w:World) (g:Nat) (a b c:Value):Prop:=w.heap[g]? =some (.cells #[a,b,c] 51 (0,0))
section
variable {w w' : World} {g : Nat} {a b c : Value}
section
variable (h:aa w g a b c)
include h
theorem aa.lt:g<w.heap.size:=(jf.1 h).1
theorem aa.cell0:w.cell? ⟨g,0,none⟩=some a:=by rw [dA w g 0 _ _ (0,0) h];rfl
theorem aa.cell1:w.cell? ⟨g,1,none⟩=some b:=by rw [dA w g 1 _ _ (0,0) h];rfl
theorem aa.aP:w.cell? ⟨g,2,none⟩=some c:=by rw [dA w g 2 _ _ (0,0) h];rfl
end
def aa.frozen (h:aa w g a b c) (i:Nat):w.frozen? ⟨g,i,none⟩=false:=by unfold aa at h;simp [World.frozen?,h]
section
variable (h:aa w g a b c)
include h
theorem aa.keep (hk:w'.heap[g]? =w.heap[g]?):aa w' g a b c:=hk.trans h
theorem aa.aB (hb:Below w.heap.size w w'):aa w' g a b c:=h.keep (hb.block g h.lt)
theorem aa.set (x y z:Value):aa (((w.setCell ⟨g,0,none⟩ x).setCell ⟨g,1,none⟩ y).setCell ⟨g,2,none⟩ z) g x y z:=by
 unfold aa at h ⊢;simp [World.setCell,wI,h]
theorem aa.YV (z:Value):aa (w.setCell ⟨g,2,none⟩ z) g a b z:=by
 unfold aa at h ⊢;simp [World.setCell,wI,h]
theorem aa.far {p:Addr}(hp:g≠p.block) (u:Value):aa (w.setCell p u) g a b c:=(EJ w p u g hp).trans h
end
def aa.new (w:World) (a b c:Value):aa (w.alloc (.cells #[a,b,c] 51)) w.heap.size a b c:=bO w _
end
def Says (w:World) (P:Prop) (e:Ending) (w':World):Prop:=∃b:Bool,e=.returned (.bool b)∧(b=true↔P)∧Below w.heap.size w w'
section
variable (S:Nat->Prop)
include S
theorem sW (n:Nat) (w:World) (v:Value) (f:Pn (n+1)) (h:aO S (n+1) w v f):
 aC 51 #[v,.int .i64 ((n:Int)+1)] w (Says w (f=0)):=by
 obtain ⟨B,c,rfl,h1,h2,h3⟩:=h;have hz:(((n:Int)+1)==0)=false:=jD.2 (by omega);have hf:Hid (((((kids f).len:Nat):Int)==0)=true↔f=0):=by
  show _↔_;rw [QG];constructor
  . intro h
    (have h2:(kids f).len=0:=by omega);exact jB.1 h2
  . intro h
    have h2:=jB.2 h;omega
 clear h3;generalize (kids f).len=m at*
 unfold bG;go_enter func51,ntmps51
 go_wp2_with fail
 go_ret;exact ⟨_,rfl,hf.o,aW.alloc aK _⟩
theorem anI (P:Nat->Value->Prop) (w:World) (A:Option Addr) (m c:Nat) (h:RowK S P w A m) (hm:0<m) (hm2:m<=9223372036854775807):
 aC 90 #[.slice A m c] w (fun e w'=>∃s A1 k1 c1 B1 m1 d1,e=.returned (bG s A1 k1 c1 B1 m1 d1)∧P (m-1) (bG s A1 k1 c1 B1 m1 d1)∧Below w.heap.size w w'):=by
 obtain ⟨b,o,rfl,hb,hl,hk⟩:=h hm;obtain ⟨s,A1,k1,c1,B1,m1,d1,h1,h2,h3,h4⟩:=hk (m-1) (by omega);have ew:IntKind.i64.wrap ((m:Int)-1)=((m-1:Nat):Int):=by rw [bR _ (by omega)];omega
 have uA:(0:Int)<=((m-1:Nat):Int):=by omega
 have hi1:((m-1:Nat):Int)<(m:Int):=by omega
 have al:Below w.heap.size w (w.alloc (.cells #[.bool false,.slice none 0 0,.slice none 0 0] 51)):=aW.alloc aK _;have g1:=(al.cell (p:=⟨b,o+(m-1)*3,none⟩) hl).trans h1;have g2:=(al.cell (p:=⟨b,o+(m-1)*3+1,none⟩) hl).trans h2;have g3:=(al.cell (p:=⟨b,o+(m-1)*3+2,none⟩) hl).trans h3;have H4:=aA h4;clear h1 h2 h3 h4 hk al hm h;generalize m-1=i at*
 go_enter func90,ntmps90
 go_wp2_with fail
 exact ax (v:=.agg #[.bool s,.slice A1 k1 c1,.slice B1 m1 d1]) (cI (fn:=f90) rfl _ _ _ _ _ _ _ rfl (aa.new w (.bool s) (.slice A1 k1 c1) (.slice B1 m1 d1)) underlying51 rfl cm) rfl
  ⟨s,A1,k1,c1,B1,m1,d1,rfl,H4.o,aW.alloc aK _⟩
theorem Zg (w:World) (v:Value) (f:Pn 0) (h:aO S 0 w v f) (K:Nat) (hK:K<=4000000000000) (hk:aI.nm f<2^(64*K)):
 aC 51 #[v,.int .i64 0] w (Says w (f=0)):=by
 obtain ⟨s,A,k,c,ls,rfl,h1,h2,h3,h4,_⟩:=h;have D7:k<=K:=by
  have h5:=h4.cap (K:=K) hk;have h6:=h3.len;omega
 have Cs:=aA (fun W (hW:Below w.heap.size w W)=>xx s A k c ls W (h3.aB hW) h1 h2 (by omega));have hz:Hid ((xC s (bu ls k)==0)=true↔f=0):=by
  show _↔_;rw [QG];exact (zJ h4 h3.len).trans ⟨fun e=>e,fun e=>e⟩
 have HB:Hid (Below w.heap.size w (w.alloc (.cells #[.bool s,.slice A k c,.slice none 0 0] 51))):=aW.alloc aK _;clear h3 h4 hk;unfold bG;go_enter func51,ntmps51
 go_wp2_with fail
 refine (Cs.o _ (by exact HB.o)).mono ?_;rintro e w1 ⟨rfl,dH⟩;have zz:=aA (HB.o.tm dH);clear dH Cs;go_wp2_with fail
 go_ret;exact ⟨_,rfl,hz.o,zz.o⟩
theorem aen (n:Nat) (w:World) (v:Value) (f:Pn n) (h:aO S n w v f) (K:Nat) (hK:K<=4000000000000) (hk:aI.nm f<2^(64*K)):
 aC 51 #[v,.int .i64 (n:Int)] w (Says w (f=0)):=by
 cases n with
 | zero=>exact Zg S w v f h K hK hk
 | succ n=>exact sW S n w v f h
theorem Ur (n:Nat) (w:World) (B:Option Addr) (m c:Nat) (f:Poly (Pn n)) (h:RowK S (fun i u=>aO S n w u (f.co i)) w B m) (hs:f.Sh m) (hmc:m<=c) (hc:c<=9223372036854775807) (hn:n<=100) (K:Nat) (hK:K<=4000000000000) (hk:∀i,aI.nm (f.co i)<2^(64*K)):
 aC 57 #[bG false none 0 0 B m c,.int .i64 ((n:Int)+1)] w (bV S w (n+1) (mkK f)):=by
 have H:=aA h;have Hs:=aA hs;have Hk:=aA hk;have ew:IntKind.i64.wrap ((n:Int)+1-1)=(n:Int):=by rw [bR _ (by omega)];omega
 have t1:=(aa.new w (.bool false) (.slice none 0 0) (.slice B m c)).aB (aW.alloc aK (.cells #[.bool false,.slice none 0 0,.slice none 0 0] 51));have t2:=aa.new (w.alloc (.cells #[.bool false,.slice none 0 0,.slice B m c] 51)) (.bool false) (.slice none 0 0) (.slice none 0 0);rw [aJ] at t2;have T1:=aA t1;have T2:=aA t2;have HB:Hid (Below w.heap.size w ((w.alloc (.cells #[.bool false,.slice none 0 0,.slice B m c] 51)).alloc (.cells #[.bool false,.slice none 0 0,.slice none 0 0] 51))):=(aW.alloc aK _).alloc (by simp) _;clear h hs hk t1 t2;unfold bG;go_enter func57,ntmps57
 go_wp2_with fail
 go_loopg [] (m+1) (fun gk wr=>∃m':Nat,m'<gk∧m'<=m∧Hid (f.Sh m')∧Hid (aa wr w.heap.size (.bool false) (.slice none 0 0) (.slice B m' c))∧Hid (aa wr (w.heap.size+1) (.bool false) (.slice none 0 0) (.slice none 0 0))∧Hid (Below w.heap.size w wr))
 case atStart=>exact ⟨m,by omega,aK,Hs,T1,T2,HB⟩
 case round=>
  clear T1 T2 HB Hs;obtain ⟨m',hg,hm,hs,h1,h2,hb⟩:=hrel;obtain ⟨wp,rfl⟩:∃wp:World,wp=wr:=⟨_,rfl⟩;have k0:=h1.o.cell0;have k1:=h1.o.cell1;have k2:=h1.o.aP;have k3:=h1.o.frozen 2;have r0:=h2.o.cell0;have r1:=h2.o.cell1;have r2:=h2.o.aP;have r3:=h2.o.frozen 0;have r4:=h2.o.frozen 1;have r5:=h2.o.frozen 2;have Fin:Hid (f.len=m'->∀W,Below w.heap.size w W->bV S w (n+1) (mkK f) (.returned (.agg #[.bool false,.slice none 0 0,.slice B m' c])) (((W.setCell ⟨w.heap.size+1,0,none⟩ (.bool false)).setCell ⟨w.heap.size+1,1,none⟩ (.slice none 0 0)).setCell ⟨w.heap.size+1,2,none⟩ (.slice B m' c))):=fun hl W hW=>by
   subst hl;have pL:Below w.heap.size w (((W.setCell ⟨w.heap.size+1,0,none⟩ (.bool false)).setCell ⟨w.heap.size+1,1,none⟩ (.slice none 0 0)).setCell ⟨w.heap.size+1,2,none⟩ (.slice B f.len c)):=((hW.setCell (p:=⟨w.heap.size+1,0,none⟩) (rG _) _).setCell (p:=⟨w.heap.size+1,1,none⟩) (rG _) _).setCell (p:=⟨w.heap.size+1,2,none⟩) (rG _) _;refine ⟨false,none,0,0,B,f.len,c,rfl,?_,pL⟩;have h3:=((H.o.le hm).aB pL).imp (T:=fun b=>S b∨w.heap.size<=b) (fun b h=> .inl h) aK (fun _ _ _ _=>rfl) (Q:=fun i u=>aO (fun b=>S b∨w.heap.size<=b) n (((W.setCell ⟨w.heap.size+1,0,none⟩ (.bool false)).setCell ⟨w.heap.size+1,1,none⟩ (.slice none 0 0)).setCell ⟨w.heap.size+1,2,none⟩ (.slice B f.len c)) u (f.co i)) fun i v _ hv=>hv.mono fun b h=> .inl h;exact ⟨B,c,rfl,aH hm hmc,hc,h3⟩
  by_cases h0:0<m'
  . have hp:(0:Int)<(m':Int):=by omega
    have hr:=(H.o.le hm).aB hb.o;have Ce:=aA (anI S _ wp B m' c hr h0 (by omega));(have ew2:IntKind.i64.wrap ((m':Int)-1)=((m'-1:Nat):Int):=by rw [bR _ (by omega)];omega);(have z1:(0:Int)<=((m'-1:Nat):Int):=by omega);(have z2:((m'-1:Nat):Int)<=(c:Int):=by omega);clear hr;(go_wp2_with fail);refine Ce.o.mono ?_;rintro e w1 ⟨s,A1,q1,c1,B1,m1,d1,rfl,hv,dH⟩;have wN:=hv.aB dH;have Cn:=aA (aen S n w1 _ _ wN K hK (Hk.o _));have H1:=aA (h1.o.aB dH);have H2:=aA (h2.o.aB dH);have zz:=aA (hb.o.tm dH);clear hv wN dH Ce k0 k1 k2 k3 r0 r1 r2 r3 r4 r5 h1 h2 hb;unfold bG at Cn ⊢;(go_wp2_with fail);refine Cn.o.mono ?_;rintro e w2 ⟨b,rfl,Mn,cU⟩;have H1':=aA (H1.o.aB cU);have H2':=aA (H2.o.aB cU);have GI:=aA (zz.o.tm cU);have k0:=H1'.o.cell0;have k1:=H1'.o.cell1;have k2:=H1'.o.aP;have k3:=H1'.o.frozen 2;have r0:=H2'.o.cell0;have r1:=H2'.o.cell1;have r2:=H2'.o.aP;have r3:=H2'.o.frozen 0;have r4:=H2'.o.frozen 1;have r5:=H2'.o.frozen 2;have Xu:=aA Mn;clear cU Cn H1 H2 zz Mn;cases b with
    | true=>
      have wO:Hid (f.Sh (m'-1)):=fun i hi=>by
       by_cases e:i=m'-1
       . rw [e];exact Xu.o.1 rfl
       . exact hs.o i (by omega)
      have T1:Hid (aa (w2.setCell ⟨w.heap.size,2,none⟩ (.slice B (m'-1) c)) w.heap.size (.bool false) (.slice none 0 0) (.slice B (m'-1) c)):=H1'.o.YV _;have T2:Hid (aa (w2.setCell ⟨w.heap.size,2,none⟩ (.slice B (m'-1) c)) (w.heap.size+1) (.bool false) (.slice none 0 0) (.slice none 0 0)):=H2'.o.far (by show _≠w.heap.size;omega) _;have HB3:Hid (Below w.heap.size w (w2.setCell ⟨w.heap.size,2,none⟩ (.slice B (m'-1) c))):=GI.o.setCell (p:=⟨w.heap.size,2,none⟩) aK _;clear hs H1' H2' GI Xu r0 r1 r2 r3 r4 r5;(go_wp2_with fail);go_roundg (gk-1)
      case measure=>omega
      case rel=>exact ⟨m'-1,by omega,by omega,wO,T1,T2,HB3⟩
    | false=>
      have hl:f.len=m':=by
       (have hne:¬f.co (m'-1)=0:=fun e=>by have:=Xu.o.2 e;cases this);have h3:=Poly.Dl (n:=m'-1) (a:=f) (by rw [show m'-1+1=m' by omega];exact hs.o) hne;omega
      have Fn:=aA (Fin.o hl w2 GI.o);clear hl hs Xu Fin GI;(go_wp2_with fail);exact ax (cI (fn:=Tryz.f57) rfl _ _ _ _ _ _ _ rfl (H2'.o.set (.bool false) (.slice none 0 0) (.slice B m' c)) underlying51 rfl cm) rfl Fn.o
  . have hl:f.len=m':=by
     have:=Poly.bU hs.o;omega
    have Fn:=aA (Fin.o hl wp hb.o);(have hp:¬(0:Int)<(m':Int):=by omega);have H2':=aA h2.o;clear hl hs Fin hb h1 h2;(go_wp2_with fail);exact ax (cI (fn:=Tryz.f57) rfl _ _ _ _ _ _ _ rfl (H2'.o.set (.bool false) (.slice none 0 0) (.slice B m' c)) underlying51 rfl cm) rfl Fn.o
end
def amZ (s t:Bool) (A B:Option Addr) (n m c d:Nat) (xs ys:List Int) (w:World) (hx:aD w A n xs) (hy:aD w B m ys) (ig:n<=c) (hc:c<=9223372036854775807) (kX:m<=d) (hd:d<=9223372036854775807) (hn:n<=4000000000000) (hm:m<=4000000000000):
 aC 120 #[.agg #[.bool s,.slice A n c],.agg #[.bool t,.slice B m d]] w (gj w (aF s xs-aF t ys) (max n m+1)):=by
 have Cm:=aA (fun W (h:Below w.heap.size w W)=>YI t B m d ys W (hy.aB h) kX hd (by omega));have Cz:=aA (fun W (h:Below w.heap.size w W) (s1:Bool) (A1:Option Addr) (k1 c1:Nat) (Wx:List Int) (h1:aD W A1 k1 Wx) (h2:k1<=c1) (h3:c1<=9223372036854775807) (h4:k1<=4000000000000)=>YJ s s1 A A1 n k1 c c1 xs Wx W (hx.aB h) h1 ig hc h2 h3 hn h4);obtain ⟨b1,b2,b3,da,db,dr,hsz⟩:=stZ w s A n c t B m d;go_enter func120,ntmps120
 go_wp2_with fail
 have Da:=aA da;have Db:=aA db;have Dr:=aA dr
 clear da db dr b1 b2 hx hy;generalize ((w.alloc (.cells #[.bool s,.slice A n c] 41)).alloc (.cells #[.bool t,.slice B m d] 41)).alloc (.cells #[.bool false,.slice none 0 0] 41)=wt at*
 have a0:=Da.o.cell0;have a1:=Da.o.cell1;have e0:=Db.o.cell0;have e1:=Db.o.cell1;have r0:=Dr.o.cell0;have r1:=Dr.o.cell1;have f0:=Dr.o.frozen 0;have f1:=Dr.o.frozen 1;have la:w.heap.size<wt.heap.size:=by omega
 have lb:w.heap.size+1<wt.heap.size:=by omega
 have lr:w.heap.size+1+1<wt.heap.size:=by omega
 have keep:=BS la lb a0 a1 e0 e1
 have res:=OG lr r0 r1 Dr
 clear r0 r1 f0 f1;have nJ:w.heap.size+1+1≠w.heap.size:=by omega
 have nI:w.heap.size+1+1≠w.heap.size+1:=by omega
 have jy:w.heap.size<=w.heap.size+1+1:=by omega
 have U2:w.heap.size<=wt.heap.size:=by omega
 clear hsz;generalize w.heap.size+1+1=gr at*
 generalize w.heap.size+1=gb at*
 have xS:∀(W:World) (u v:Value),(W.cell? ⟨w.heap.size,0,none⟩=some (.bool s)∧W.cell? ⟨w.heap.size,1,none⟩=some (.slice A n c)∧W.cell? ⟨gb,0,none⟩=some (.bool t)∧W.cell? ⟨gb,1,none⟩=some (.slice B m d))->(((W.setCell ⟨gr,0,none⟩ u).setCell ⟨gr,1,none⟩ v).cell? ⟨w.heap.size,0,none⟩=some (.bool s)∧((W.setCell ⟨gr,0,none⟩ u).setCell ⟨gr,1,none⟩ v).cell? ⟨w.heap.size,1,none⟩=some (.slice A n c)∧((W.setCell ⟨gr,0,none⟩ u).setCell ⟨gr,1,none⟩ v).cell? ⟨gb,0,none⟩=some (.bool t)∧((W.setCell ⟨gr,0,none⟩ u).setCell ⟨gr,1,none⟩ v).cell? ⟨gb,1,none⟩=some (.slice B m d)):=by
  rintro W u v ⟨k1,k2,k3,k4⟩;refine ⟨?_,?_,?_,?_⟩;all_goals
   rw [iF _ _ _ _ (fun e=>by injection e with e1;first | exact nJ e1.symm | exact nI e1.symm | exact nJ e1 | exact nI e1),iF _ _ _ _ (fun e=>by injection e with e1;first | exact nJ e1.symm | exact nI e1.symm | exact nJ e1 | exact nI e1)];assumption
 go_region_held3 (fun W=>W.cell? ⟨w.heap.size,0,none⟩=some (.bool s)∧W.cell? ⟨w.heap.size,1,none⟩=some (.slice A n c)∧W.cell? ⟨gb,0,none⟩=some (.bool t)∧W.cell? ⟨gb,1,none⟩=some (.slice B m d))
  (first | go_keep | exact keep.o _ aW.drew | exact keep.o _ ah | exact keep.o _ iU | exact xS _ _ _ (keep.o _ iU))
  (first
    | (go_at_call 45;refine (Cm.o _ (by first | exact b3.drew | exact b3 | exact below_drewN b3 _)).mono ?_;rintro e w1 ⟨s1,A1,k1,c1,Wx,rfl,g4,g5,g6,g7,g8,g9,uF⟩;have ah:Below wt.heap.size wt w1:=(by first | exact aW.drew.trans uF | exact uF))
    | (go_at_call 56;refine (Cz.o w1 (b3.trans (ah.mono U2)) s1 A1 k1 c1 Wx g7 g4 g5 (by omega)).mono ?_;rintro e w2 ⟨s2,A2,k2,c2,ls,rfl,q1,q2,q3,q4,q5,qf,qq⟩;have iU:Below wt.heap.size wt w2:=ah.tm qq;obtain ⟨r0,r1,f0,f1⟩:=res.o w2 iU))
 have AG:=Dr.o.aB iU;have cU:Below w.heap.size w w2:=b3.trans (iU.mono (by omega));have hz:bW s2 ls (aF s xs-aF t ys):=by rw [ace,<- g8.eq];exact q5
 have HF:Hid (0<k2->∀y,A2=some y->w.heap.size<=y.block):=fun h0 y hy=>aH (aH U2 ah.size) (qf h0 y hy);have uX:k2<=max n m+1:=by omega
 have Hz:=aA hz;have HD:=aA AG;have QM:=aA q4;clear hz AG q4 q5 g6 g7 g8 g9 keep qf;go_wp2
 exact ax (cI (fn:=f120) rfl _ _ _ _ _ _ _ rfl (HD.o.set _ _) underlying41 rfl aT) rfl
  ⟨s2,A2,k2,c2,ls,rfl,q1,q2,uX,HD.o.limbs _ _ rfl rfl QM.o,Hz.o,HF.o,(cU.setCell (p:=⟨gr,0,none⟩) jy _).setCell (p:=⟨gr,1,none⟩) jy _⟩
def aZ (w:World) (g:Nat) (a b c:Value):Only (fun k=>k=g) w (((w.setCell ⟨g,0,none⟩ a).setCell ⟨g,1,none⟩ b).setCell ⟨g,2,none⟩ c):=
 (((Only.refl (fun k=>k=g) w).setCell (p:=⟨g,0,none⟩) rfl _).setCell (p:=⟨g,1,none⟩) rfl _).setCell (p:=⟨g,2,none⟩) rfl _
def Uw (S:Nat->Prop) (n:Nat) (w:World) (v:Value) (f:Pn (n+1)) (h:aO S (n+1) w v f) (h0:0<(kids f).len):
 aC 84 #[v] w (bV S w n ((kids f).co ((kids f).len-1))):=by
 obtain ⟨B,c,rfl,h1,h2,h3⟩:=h.here;have t1:=(aa.new w (.bool false) (.slice none 0 0) (.slice B (kids f).len c)).aB (aW.alloc aK (.cells #[.bool false,.slice none 0 0,.slice none 0 0] 51));have t2:=aa.new (w.alloc (.cells #[.bool false,.slice none 0 0,.slice B (kids f).len c] 51)) (.bool false) (.slice none 0 0) (.slice none 0 0);rw [aJ] at t2;have hb:Below w.heap.size w ((w.alloc (.cells #[.bool false,.slice none 0 0,.slice B (kids f).len c] 51)).alloc (.cells #[.bool false,.slice none 0 0,.slice none 0 0] 51)):=(aW.alloc aK _).alloc (by simp) _;have Ce:=aA (anI _ _ _ B (kids f).len c (h3.aB hb) h0 (by omega));have k2:=t1.aP;have T2:=aA t2;have HB:=aA hb;clear h3 t1 t2 hb;unfold bG;go_enter func84,ntmps84
 go_wp2_with fail
 refine Ce.o.mono ?_;rintro e w1 ⟨s,A1,q1,c1,B1,m1,d1,rfl,hv,dH⟩;have T3:=aA (T2.o.aB dH);have r0:=T3.o.cell0;have r1:=T3.o.cell1;have r2:=T3.o.aP;have r3:=T3.o.frozen 0;have r4:=T3.o.frozen 1;have r5:=T3.o.frozen 2;have zz:=aA (HB.o.tm dH);have HV:=aA (hv.aB dH);clear hv dH Ce;unfold bG;go_wp2_with fail
 have pL:Below w.heap.size w (((w1.setCell ⟨w.heap.size+1,0,none⟩ (.bool s)).setCell ⟨w.heap.size+1,1,none⟩ (.slice A1 q1 c1)).setCell ⟨w.heap.size+1,2,none⟩ (.slice B1 m1 d1)):=((zz.o.setCell (p:=⟨w.heap.size+1,0,none⟩) (rG _) _).setCell (p:=⟨w.heap.size+1,1,none⟩) (rG _) _).setCell (p:=⟨w.heap.size+1,2,none⟩) (rG _) _;exact ax (v:=.agg #[.bool s,.slice A1 q1 c1,.slice B1 m1 d1]) (cI (fn:=f84) rfl _ _ _ _ _ _ _ rfl (T3.o.set (.bool s) (.slice A1 q1 c1) (.slice B1 m1 d1)) underlying51 rfl cm) rfl
  ⟨s,A1,q1,c1,B1,m1,d1,rfl,HV.o.only (aZ w1 (w.heap.size+1) _ _ _) (fun b hb e=>by have:=hb.2;omega) (fun b hb=> .inl hb.1),pL⟩
def aja (S:Nat->Prop) (w:World) (u v:Value) (f g:Pn 0) (hf:aO S 0 w u f) (hg:aO S 0 w v g) (K:Nat) (hK:K<=3900000000000) (nf:aI.nm f<2^(64*K)) (ng:aI.nm g<2^(64*K)):
 aC 85 #[u,.int .i64 0,v] w (bV S w 0 (f-g)):=by
 obtain ⟨s,A,k,c,xs,rfl,h1,h2,h3,h4,_⟩:=hf;obtain ⟨t,B,m,d,ys,rfl,i1,i2,i3,i4,_⟩:=hg;have hk:k<=K:=by have h5:=h4.cap (K:=K) nf;have h6:=h3.len;omega
 have hm:m<=K:=by have h5:=i4.cap (K:=K) ng;have h6:=i3.len;omega
 have Cs:=aA (fun W (hW:Below w.heap.size w W)=>amZ s t A B k m c d xs ys W (h3.aB hW) (i3.aB hW) h1 h2 i1 i2 (by omega) (by omega));rw [h4.eq,i4.eq] at Cs;have hb:Below w.heap.size w (((w.alloc (.cells #[.bool s,.slice A k c,.slice none 0 0] 51)).alloc (.cells #[.bool t,.slice B m d,.slice none 0 0] 51)).alloc (.cells #[.bool false,.slice none 0 0,.slice none 0 0] 51)):=((aW.alloc aK _).alloc (by simp) _).alloc (by simp;omega) _;have t2:=aa.new ((w.alloc (.cells #[.bool s,.slice A k c,.slice none 0 0] 51)).alloc (.cells #[.bool t,.slice B m d,.slice none 0 0] 51)) (.bool false) (.slice none 0 0) (.slice none 0 0);rw [aJ,aJ] at t2;have T2:=aA t2;have HB:=aA hb;clear h3 h4 i3 i4 nf ng hb t2;unfold bG;go_enter func85,ntmps85
 go_wp2_with fail
 refine (Cs.o _ (by exact HB.o)).mono ?_;rintro e w1 ⟨s1,A1,k1,c1,ls,rfl,q1,q2,q3,q4,q5,q6,dH⟩;have T3:=aA (T2.o.aB dH);have r0:=T3.o.cell0;have r1:=T3.o.cell1;have r2:=T3.o.aP;have r3:=T3.o.frozen 0;have r4:=T3.o.frozen 1;have r5:=T3.o.frozen 2;have hs3:(((w.alloc (.cells #[.bool s,.slice A k c,.slice none 0 0] 51)).alloc (.cells #[.bool t,.slice B m d,.slice none 0 0] 51)).alloc (.cells #[.bool false,.slice none 0 0,.slice none 0 0] 51)).heap.size=w.heap.size+1+1+1:=by simp
 have F:Hid (aO (fun b=>S b∨w.heap.size<=b) 0 (((w1.setCell ⟨w.heap.size+1+1,0,none⟩ (.bool s1)).setCell ⟨w.heap.size+1+1,1,none⟩ (.slice A1 k1 c1)).setCell ⟨w.heap.size+1+1,2,none⟩ (.slice none 0 0)) (bG s1 A1 k1 c1 none 0 0) (f-g)):=
  aO.num q1 q2 (lV q4 (aZ w1 (w.heap.size+1+1) _ _ _) fun h0 y hy e=>by have:=q6 h0 y hy;omega) q5 fun h0 y hy=> .inr (by have:=q6 h0 y hy;omega)
 have cU:Below w.heap.size w w1:=HB.o.tm dH;have pL:Hid (Below w.heap.size w (((w1.setCell ⟨w.heap.size+1+1,0,none⟩ (.bool s1)).setCell ⟨w.heap.size+1+1,1,none⟩ (.slice A1 k1 c1)).setCell ⟨w.heap.size+1+1,2,none⟩ (.slice none 0 0))):=((cU.setCell (p:=⟨w.heap.size+1+1,0,none⟩) (by show _<=w.heap.size+1+1;omega) _).setCell (p:=⟨w.heap.size+1+1,1,none⟩) (by show _<=w.heap.size+1+1;omega) _).setCell (p:=⟨w.heap.size+1+1,2,none⟩) (by show _<=w.heap.size+1+1;omega) _;clear q3 q4 q5 q6 dH Cs hs3 HB cU;go_wp2_with fail
 exact ax (v:=.agg #[.bool s1,.slice A1 k1 c1,.slice none 0 0]) (cI (fn:=f85) rfl _ _ _ _ _ _ _ rfl (T3.o.set (.bool s1) (.slice A1 k1 c1) (.slice none 0 0)) underlying51 rfl cm) rfl
  ⟨s1,A1,k1,c1,none,0,0,rfl,F.o,pL.o⟩
def QL:(n:Nat)->Pn n->Prop
 | 0,_=>True
 | n+1,f=>(kids f).len<=1000000000000∧∀i,QL n ((kids f).co i)
def ahX (n K:Nat):Prop:=∀(S:Nat->Prop) (w:World) (u v:Value) (f g:Pn n),aO S n w u f->aO S n w v g->aI.nm f<2^(64*K)->aI.nm g<2^(64*K)->QL n f->QL n g->aC 85 #[u,.int .i64 (n:Int),v] w (bV S w n (f-g))
def aet {a b K:Nat}(h:a<2^(64*K)) (k:b<2^(64*K)):a+b<2^(64*(K+1)):=by
 have h1:(2:Nat)^(64*(K+1))=2^(64*K)*18446744073709551616:=by rw [ak,iH]
 rw [h1];omega
def fZ (f:Pn (n+1)) (i:Nat):aI.nm ((kids f).co i)<=aI.nm f:=Poly.rD (kids f) i
def sQ:(prog.info? 51).map (fun i=>(i.zero,i.size,i.bytes))=some (some (.agg #[.bool false,.slice none 0 0,.slice none 0 0]),3,56):=by kernel_rfl
attribute [-go_sem] Builtin.append_
def aiZ (n K:Nat) (hK:K<=3900000000000) (hn:n<=100) (ih:ahX n K) (S:Nat->Prop) (w:World) (u v:Value) (f g:Pn (n+1)) (hf:aO S (n+1) w u f) (hg:aO S (n+1) w v g) (nf:aI.nm f<2^(64*K)) (ng:aI.nm g<2^(64*K)) (kf:QL (n+1) f) (kg:QL (n+1) g):
 aC 85 #[u,.int .i64 ((n:Int)+1),v] w (bV S w (n+1) (f-g)):=by
 obtain ⟨i0,uA,iQ,iC,iP⟩:=dJ sQ;have lf:=kf.1;have lg:=kg.1;have Lf:=aA kf.2;have Lg:=aA kg.2;clear kf kg;obtain ⟨B,c,rfl,h1,h2,h3⟩:=hf.here;obtain ⟨D,d,rfl,i1,i2,i3⟩:=hg.here;obtain ⟨M,hM⟩:∃M:Nat,max (kids f).len (kids g).len=M:=⟨_,rfl⟩;have hz:(((n:Int)+1)==0)=false:=jD.2 (by omega);have hmx:max ((kids f).len:Int) ((kids g).len:Int)=(M:Int):=by omega
 have ew:IntKind.i64.wrap ((n:Int)+1-1)=(n:Int):=by rw [bR _ (by omega)];omega
 have ew2:IntKind.i64.wrap (n:Int)=(n:Int):=bR _ (by omega);have t0:=(((aa.new w (.bool false) (.slice none 0 0) (.slice B (kids f).len c)).aB (aW.alloc aK (.cells #[.bool false,.slice none 0 0,.slice D (kids g).len d] 51))).aB (aW.alloc aK (.cells #[.bool false,.slice none 0 0,.slice none 0 0] 51))).aB (aW.alloc aK (.cells #[.bool false,.slice none 0 0,.slice none 0 0] 51));have t1:=((aa.new (w.alloc (.cells #[.bool false,.slice none 0 0,.slice B (kids f).len c] 51)) (.bool false) (.slice none 0 0) (.slice D (kids g).len d)).aB (aW.alloc aK (.cells #[.bool false,.slice none 0 0,.slice none 0 0] 51))).aB (aW.alloc aK (.cells #[.bool false,.slice none 0 0,.slice none 0 0] 51));have t2:=(aa.new ((w.alloc (.cells #[.bool false,.slice none 0 0,.slice B (kids f).len c] 51)).alloc (.cells #[.bool false,.slice none 0 0,.slice D (kids g).len d] 51)) (.bool false) (.slice none 0 0) (.slice none 0 0)).aB (aW.alloc aK (.cells #[.bool false,.slice none 0 0,.slice none 0 0] 51));have t3:=aa.new (((w.alloc (.cells #[.bool false,.slice none 0 0,.slice B (kids f).len c] 51)).alloc (.cells #[.bool false,.slice none 0 0,.slice D (kids g).len d] 51)).alloc (.cells #[.bool false,.slice none 0 0,.slice none 0 0] 51)) (.bool false) (.slice none 0 0) (.slice none 0 0);rw [aJ] at t1;rw [aJ,aJ] at t2;rw [aJ,aJ,aJ] at t3;have hb:Below w.heap.size w ((((w.alloc (.cells #[.bool false,.slice none 0 0,.slice B (kids f).len c] 51)).alloc (.cells #[.bool false,.slice none 0 0,.slice D (kids g).len d] 51)).alloc (.cells #[.bool false,.slice none 0 0,.slice none 0 0] 51)).alloc (.cells #[.bool false,.slice none 0 0,.slice none 0 0] 51)):=(((aW.alloc aK _).alloc (by simp) _).alloc (by simp;omega) _).alloc (by simp;omega) _;have hsz:((((w.alloc (.cells #[.bool false,.slice none 0 0,.slice B (kids f).len c] 51)).alloc (.cells #[.bool false,.slice none 0 0,.slice D (kids g).len d] 51)).alloc (.cells #[.bool false,.slice none 0 0,.slice none 0 0] 51)).alloc (.cells #[.bool false,.slice none 0 0,.slice none 0 0] 51)).heap.size=w.heap.size+1+1+1+1:=by simp
 have k0:=t0.aP;have k1:=t1.aP;have H3:=aA h3;have I3:=aA i3;clear h3 i3 hf hg;unfold bG;go_enter func85,ntmps85
 go_wp2_with fail
 generalize kj:(((w.alloc (.cells #[.bool false,.slice none 0 0,.slice B (kids f).len c] 51)).alloc (.cells #[.bool false,.slice none 0 0,.slice D (kids g).len d] 51)).alloc (.cells #[.bool false,.slice none 0 0,.slice none 0 0] 51)).alloc (.cells #[.bool false,.slice none 0 0,.slice none 0 0] 51)=wt at*
 clear kj;have T0:=aA t0;have T1:=aA t1;have T2:=aA t2;have T3:=aA t3;have HB:=aA hb;have hM1:Hid (∀i,M<=i->(kids f).co i-(kids g).co i=0):=fun i hi=>by rw [Poly.az _ i (by omega),Poly.az _ i (by omega),aG.sub_self]
 clear t0 t1 t2 t3 hb k0 k1;go_loopw [26] (fun i wr=>∃(k:Nat) (E:List KE) (ov:Value),k<=M∧i=.int .i64 (k:Int)∧Hid (E.length=k)∧Hid (jx 51 (fun b=>S b∧b<w.heap.size) (fun b=>b=w.heap.size+1+1+1∨b=w.heap.size+1+1) w wt.heap.size wr n ov E (fun i=>(kids f).co i-(kids g).co i))∧Hid (aa wr (w.heap.size+1+1+1) (.bool false) (.slice none 0 0) ov)∧Hid (Only (fun b=>b=w.heap.size+1+1+1∨wt.heap.size<=b) wt wr)) (fun i _=>M-(intOf i).toNat)
 case atStart=>exact ⟨0,[],.slice none 0 0,dc _,rfl,rfl,jx.start _ _ _ _ HB.o HB.o.size,T3.o,Only.refl _ _⟩
 case round=>
  obtain ⟨k,E,ov,hk,rfl,hE,hO,hT,j5⟩:=hrel;obtain ⟨wp,rfl⟩:∃wp:World,wp=wr:=⟨_,rfl⟩;have hX:Hid (∀b,(b=w.heap.size+1+1+1∨b=w.heap.size+1+1)->w.heap.size<=b∧b<wt.heap.size):=fun b hb=>by omega
  have P0:Hid (aa wp w.heap.size (.bool false) (.slice none 0 0) (.slice B (kids f).len c)):=T0.o.keep (j5.o.block _ T0.o.lt (by omega));have P1:Hid (aa wp (w.heap.size+1) (.bool false) (.slice none 0 0) (.slice D (kids g).len d)):=T1.o.keep (j5.o.block _ T1.o.lt (by omega));have P2:Hid (aa wp (w.heap.size+1+1) (.bool false) (.slice none 0 0) (.slice none 0 0)):=T2.o.keep (j5.o.block _ T2.o.lt (by omega));have pY:Hid (Below w.heap.size w wp):=hO.o.aB;by_cases hlt:k<M
  . have dI:(k:Int)<(M:Int):=by omega
    have p0:=P0.o.aP;have p1:=P1.o.aP;have IB:=P0.o.lt;have tZ:=P1.o.lt;have hsw:=pY.o.size;by_cases hf:k<(kids f).len
    . obtain ⟨b,o,rfl,hb,hl,IG⟩:=H3.o (by omega)
      obtain ⟨s1,A1,k1,c1,B1,m1,d1,e1,e2,e3,e4⟩:=IG k hf;(have D8:(k:Int)<((kids f).len:Int):=by omega);(have wP:(0:Int)<=(k:Int):=by omega);have g1:=(pY.o.cell (p:=⟨b,o+k*3,none⟩) hl).trans e1;have g2:=(pY.o.cell (p:=⟨b,o+k*3+1,none⟩) hl).trans e2;have g3:=(pY.o.cell (p:=⟨b,o+k*3+2,none⟩) hl).trans e3;(have wF:b<wp.heap.size:=by omega);have E4:=aA (e4.aB pY.o);clear IG e1 e2 e3 e4;by_cases hg:k<(kids g).len
      . obtain ⟨b',o',rfl,pL,hl',FD⟩:=I3.o (by omega)
        obtain ⟨s2,A2,k2,c2,B2,m2,d2,e1,e2,e3,e5⟩:=FD k hg;(have FE:(k:Int)<((kids g).len:Int):=by omega);have j1:=(pY.o.cell (p:=⟨b',o'+k*3,none⟩) hl').trans e1;have j2:=(pY.o.cell (p:=⟨b',o'+k*3+1,none⟩) hl').trans e2;have j3:=(pY.o.cell (p:=⟨b',o'+k*3+2,none⟩) hl').trans e3;(have ajJ:b'<wp.heap.size:=by omega);have E5:=aA (e5.aB pY.o);clear FD e1 e2 e3 e5;have tX:=(aa.new wp (.bool s1) (.slice A1 k1 c1) (.slice B1 m1 d1)).aB (aW.alloc aK (.cells #[.bool s2,.slice A2 k2 c2,.slice B2 m2 d2] 51));have tY:=aa.new (wp.alloc (.cells #[.bool s1,.slice A1 k1 c1,.slice B1 m1 d1] 51)) (.bool s2) (.slice A2 k2 c2) (.slice B2 m2 d2);rw [aJ] at tY;have uY:Below wp.heap.size wp ((wp.alloc (.cells #[.bool s1,.slice A1 k1 c1,.slice B1 m1 d1] 51)).alloc (.cells #[.bool s2,.slice A2 k2 c2,.slice B2 m2 d2] 51)):=(aW.alloc aK _).alloc (by simp) _;have hTX:Hid (aO (fun b=>S b∧b<w.heap.size) n wp (.agg #[.bool s1,.slice A1 k1 c1,.slice B1 m1 d1]) ((kids f).co k)):=E4.o;have hTY:Hid (aO (fun b=>S b∧b<w.heap.size) n wp (.agg #[.bool s2,.slice A2 k2 c2,.slice B2 m2 d2]) ((kids g).co k)):=E5.o;have hoX:Only (fun b=>wp.heap.size<=b) wp ((wp.alloc (.cells #[.bool s1,.slice A1 k1 c1,.slice B1 m1 d1] 51)).alloc (.cells #[.bool s2,.slice A2 k2 c2,.slice B2 m2 d2] 51)):=Only.bY uY;(go_wp2_with fail);generalize Z6:(wp.alloc (.cells #[.bool s1,.slice A1 k1 c1,.slice B1 m1 d1] 51)).alloc (.cells #[.bool s2,.slice A2 k2 c2,.slice B2 m2 d2] 51)=wq at*
        clear Z6;have tO:=hT.o.aB uY;have HO:=aA (hO.o.ji uY);have cx0:=tX.cell0;have cx1:=tX.cell1;have cx2:=tX.aP;have cy0:=tY.cell0;have cy1:=tY.cell1;have cy2:=tY.aP;have co2:=tO.aP;have hsq:=uY.size;have Cl:=aA (fun W (hW:Below wq.heap.size wq W)=>ih (fun b=>S b∧b<w.heap.size) W _ _ _ _ ((hTX.o.aB uY).aB hW) ((hTY.o.aB uY).aB hW) (aR (fZ f k) nf) (aR (fZ g k) ng) (Lf.o k) (Lg.o k));have HT:=aA tO;(have q1:E.length+1<=maxLen:=by have:=hE.o;unfold maxLen;omega);(have q2:(E.length+1)*56<=140737488355328:=by have:=hE.o;omega);have HOW:=aA (fun W (hW:Below wq.heap.size wq W)=>(HO.o.ji hW).own);(have xU:Hid (∀(W:World) (ob:Obj),Below wq.heap.size wq W->wt.heap.size<=(W.alloc ob).heap.size):=fun W ob hW=>by have:=hW.size;have:=j5.o.size;simp;omega);have FC:Hid (∀j,ov.ownBlock=some j->wt.heap.size<=j):=fun j hj=>(hO.o.own.lt j hj).1;have F:Hid (∀(w7 w8:World) (x:KE) (gg cap:Nat),Below wq.heap.size wq w7->aO (fun b=>(S b∧b<w.heap.size)∨wq.heap.size<=b) n w7 x.v ((kids f).co k-(kids g).co k)->w8.ownsRow wt.heap.size 51 3 (.slice (some ⟨gg,0,none⟩) (E.length+1) cap) (E.length+1) (iB E++xT x)->(w7.alloc (.cells #[.bool x.s,.slice x.A x.k x.c,.slice x.B x.m x.d] 51)).grownBy w8 ov.ownBlock->(ov.ownBlock=some gg∨gg=w7.heap.size+1)->
         aa w8 (w.heap.size+1+1+1) (.bool false) (.slice none 0 0) ov∧jx 51 (fun b=>S b∧b<w.heap.size) (fun b=>b=w.heap.size+1+1+1∨b=w.heap.size+1+1) w wt.heap.size (w8.setCell ⟨w.heap.size+1+1+1,2,none⟩ (.slice (some ⟨gg,0,none⟩) (E.length+1) cap)) n (.slice (some ⟨gg,0,none⟩) (E.length+1) cap) (E++[x]) (fun i=>(kids f).co i-(kids g).co i)∧Only (fun b=>b=w.heap.size+1+1+1∨wt.heap.size<=b) wt (w8.setCell ⟨w.heap.size+1+1+1,2,none⟩ (.slice (some ⟨gg,0,none⟩) (E.length+1) cap))):=fun w7 w8 x gg cap gN hx aY rE gO=>by
         have a7:Below w7.heap.size w7 (w7.alloc (.cells #[.bool x.s,.slice x.A x.k x.c,.slice x.B x.m x.d] 51)):=aW.alloc aK _;have o8:Only (fun b=>ov.ownBlock=some b) (w7.alloc (.cells #[.bool x.s,.slice x.A x.k x.c,.slice x.B x.m x.d] 51)) w8:=(Only.fH rE).mono (fun i hi=>by first | exact hi | exact hi.symm);have t8:aa w8 (w.heap.size+1+1+1) (.bool false) (.slice none 0 0) ov:=by
          have t7:=((HT.o.aB gN).aB a7);exact t7.keep (o8.block _ t7.lt fun e=>by have:=FC.o _ e;omega)
         have Jn:=HO.o.next (x:=x) (o:=(.cells #[.bool x.s,.slice x.A x.k x.c,.slice x.B x.m x.d] 51)) (fun b hb=>hb.2) (fun b hb=>by have:=hX.o b hb;have:=j5.o.size;omega) gN (by rw [hE.o];exact hx) aY rE gO rfl;refine ⟨t8,Jn.box ((Only.refl (fun b=>b=w.heap.size+1+1+1∨b=w.heap.size+1+1) w8).setCell (p:=⟨w.heap.size+1+1+1,2,none⟩) (.inl rfl) _) (fun b hb=>hX.o b hb),?_⟩;have r0:=j5.o.size;have r1:Only (fun b=>b=w.heap.size+1+1+1∨wt.heap.size<=b) wp wq:=(Only.bY uY).mono fun b hb=> .inr (by omega);have r2:Only (fun b=>b=w.heap.size+1+1+1∨wt.heap.size<=b) wq w7:=(Only.bY gN).mono fun b hb=> .inr (by omega);have r4:Only (fun b=>b=w.heap.size+1+1+1∨wt.heap.size<=b) (w7.alloc (.cells #[.bool x.s,.slice x.A x.k x.c,.slice x.B x.m x.d] 51)) w8:=o8.mono fun b hb=> .inr (FC.o b hb);exact ((((j5.o.trans r1).trans r2).alloc _).trans r4).setCell (p:=⟨w.heap.size+1+1+1,2,none⟩) (.inl rfl) _
        clear tX tY hTX hTY hT hO j5 tO uY HO hoX;unfold bG at Cl;go_region_with (go_at_call 85;refine (Cl.o _ (by first | exact aW.drew | exact aW)).mono ?_;rintro e w7 ⟨s7,A7,k7,c7,B7,m7,d7,rfl,Qa,lI⟩;unfold bG;have gN:Below wq.heap.size wq w7:=(by first | exact aW.drew.trans lI | exact lI);have cO:=(HT.o.aB gN).aP;have fO:=(HT.o.aB gN).frozen 2;have lO:=(HT.o.aB gN).lt;obtain ⟨gg,cap,w8,IC,fu,aX,gO,rT⟩:=NB (w7.alloc (.cells #[.bool s7,.slice A7 k7 c7,.slice B7 m7 d7] 51)) 49 49 wt.heap.size 51 i0 _ 3 56 underlying49 uA iQ iC iP rfl (by omega) ov E.length (iB E) ((HOW.o _ gN).alloc _) ⟨w7.heap.size,0,none⟩ 1 1 [.bool s7,.slice A7 k7 c7,.slice B7 m7 d7] (by rfl) (gK (cs:=#[.bool s7,.slice A7 k7 c7,.slice B7 m7 d7]) (t:=51) (fr:=(0,0)) (bO w7 _)) (by simp [Value.oneCell']) (Nat.one_pos) q1 q2 (xU.o _ _ gN) (w7.heap.size+1) (by simp);obtain ⟨t8,Pa,IE⟩:=F.o w7 w8 ⟨s7,A7,k7,c7,B7,m7,d7⟩ gg cap gN Qa fu aX gO;have f8:=t8.frozen 2;have c8:=t8.aP)
        all_goals
         have T8:=aA (t8.YV (.slice (some ⟨gg,0,none⟩) (E.length+1) cap));have UC:=aA Pa;have UB:=aA IE;(have HE8:Hid ((E++[(⟨s7,A7,k7,c7,B7,m7,d7⟩:KE)]).length=k+1):=by show _=_;rw [eF,hE.o];rfl);clear t8 Pa IE fu aX gO rT IC Qa gN lI F HOW xU HT Cl cO fO lO f8 c8 cx0 cx1 cx2 cy0 cy1 cy2 co2 hE;(go_wp2_with fail);go_roundw
         case rel=>exact ⟨k+1,_,_,by omega,by go_num,HE8,UC,T8,UB⟩
         case measure=>simp [intOf];omega
      . have FE:¬(k:Int)<((kids g).len:Int):=by omega
        have hgz:Hid ((kids g).co k=0):=Poly.az _ k (by omega);have tX:=(aa.new wp (.bool s1) (.slice A1 k1 c1) (.slice B1 m1 d1)).aB (aW.alloc aK (.cells #[.bool false,.slice none 0 0,.slice none 0 0] 51));have tY:=aa.new (wp.alloc (.cells #[.bool s1,.slice A1 k1 c1,.slice B1 m1 d1] 51)) (.bool false) (.slice none 0 0) (.slice none 0 0);rw [aJ] at tY;have uY:Below wp.heap.size wp ((wp.alloc (.cells #[.bool s1,.slice A1 k1 c1,.slice B1 m1 d1] 51)).alloc (.cells #[.bool false,.slice none 0 0,.slice none 0 0] 51)):=(aW.alloc aK _).alloc (by simp) _;have hTX:Hid (aO (fun b=>S b∧b<w.heap.size) n wp (.agg #[.bool s1,.slice A1 k1 c1,.slice B1 m1 d1]) ((kids f).co k)):=E4.o;(have hTY:Hid (aO (fun b=>S b∧b<w.heap.size) n wp (.agg #[.bool false,.slice none 0 0,.slice none 0 0]) ((kids g).co k)):=by rw [hgz.o];exact aO.nought _ _ n);have hoX:Only (fun b=>wp.heap.size<=b) wp ((wp.alloc (.cells #[.bool s1,.slice A1 k1 c1,.slice B1 m1 d1] 51)).alloc (.cells #[.bool false,.slice none 0 0,.slice none 0 0] 51)):=Only.bY uY;(go_wp2_with fail);generalize Z6:(wp.alloc (.cells #[.bool s1,.slice A1 k1 c1,.slice B1 m1 d1] 51)).alloc (.cells #[.bool false,.slice none 0 0,.slice none 0 0] 51)=wq at*
        clear Z6;have tO:=hT.o.aB uY;have HO:=aA (hO.o.ji uY);have cx0:=tX.cell0;have cx1:=tX.cell1;have cx2:=tX.aP;have cy0:=tY.cell0;have cy1:=tY.cell1;have cy2:=tY.aP;have co2:=tO.aP;have hsq:=uY.size;have Cl:=aA (fun W (hW:Below wq.heap.size wq W)=>ih (fun b=>S b∧b<w.heap.size) W _ _ _ _ ((hTX.o.aB uY).aB hW) ((hTY.o.aB uY).aB hW) (aR (fZ f k) nf) (aR (fZ g k) ng) (Lf.o k) (Lg.o k));have HT:=aA tO;(have q1:E.length+1<=maxLen:=by have:=hE.o;unfold maxLen;omega);(have q2:(E.length+1)*56<=140737488355328:=by have:=hE.o;omega);have HOW:=aA (fun W (hW:Below wq.heap.size wq W)=>(HO.o.ji hW).own);(have xU:Hid (∀(W:World) (ob:Obj),Below wq.heap.size wq W->wt.heap.size<=(W.alloc ob).heap.size):=fun W ob hW=>by have:=hW.size;have:=j5.o.size;simp;omega);have FC:Hid (∀j,ov.ownBlock=some j->wt.heap.size<=j):=fun j hj=>(hO.o.own.lt j hj).1;have F:Hid (∀(w7 w8:World) (x:KE) (gg cap:Nat),Below wq.heap.size wq w7->aO (fun b=>(S b∧b<w.heap.size)∨wq.heap.size<=b) n w7 x.v ((kids f).co k-(kids g).co k)->w8.ownsRow wt.heap.size 51 3 (.slice (some ⟨gg,0,none⟩) (E.length+1) cap) (E.length+1) (iB E++xT x)->(w7.alloc (.cells #[.bool x.s,.slice x.A x.k x.c,.slice x.B x.m x.d] 51)).grownBy w8 ov.ownBlock->(ov.ownBlock=some gg∨gg=w7.heap.size+1)->
         aa w8 (w.heap.size+1+1+1) (.bool false) (.slice none 0 0) ov∧jx 51 (fun b=>S b∧b<w.heap.size) (fun b=>b=w.heap.size+1+1+1∨b=w.heap.size+1+1) w wt.heap.size (w8.setCell ⟨w.heap.size+1+1+1,2,none⟩ (.slice (some ⟨gg,0,none⟩) (E.length+1) cap)) n (.slice (some ⟨gg,0,none⟩) (E.length+1) cap) (E++[x]) (fun i=>(kids f).co i-(kids g).co i)∧Only (fun b=>b=w.heap.size+1+1+1∨wt.heap.size<=b) wt (w8.setCell ⟨w.heap.size+1+1+1,2,none⟩ (.slice (some ⟨gg,0,none⟩) (E.length+1) cap))):=fun w7 w8 x gg cap gN hx aY rE gO=>by
         have a7:Below w7.heap.size w7 (w7.alloc (.cells #[.bool x.s,.slice x.A x.k x.c,.slice x.B x.m x.d] 51)):=aW.alloc aK _;have o8:Only (fun b=>ov.ownBlock=some b) (w7.alloc (.cells #[.bool x.s,.slice x.A x.k x.c,.slice x.B x.m x.d] 51)) w8:=(Only.fH rE).mono (fun i hi=>by first | exact hi | exact hi.symm);have t8:aa w8 (w.heap.size+1+1+1) (.bool false) (.slice none 0 0) ov:=by
          have t7:=((HT.o.aB gN).aB a7);exact t7.keep (o8.block _ t7.lt fun e=>by have:=FC.o _ e;omega)
         have Jn:=HO.o.next (x:=x) (o:=(.cells #[.bool x.s,.slice x.A x.k x.c,.slice x.B x.m x.d] 51)) (fun b hb=>hb.2) (fun b hb=>by have:=hX.o b hb;have:=j5.o.size;omega) gN (by rw [hE.o];exact hx) aY rE gO rfl;refine ⟨t8,Jn.box ((Only.refl (fun b=>b=w.heap.size+1+1+1∨b=w.heap.size+1+1) w8).setCell (p:=⟨w.heap.size+1+1+1,2,none⟩) (.inl rfl) _) (fun b hb=>hX.o b hb),?_⟩;have r0:=j5.o.size;have r1:Only (fun b=>b=w.heap.size+1+1+1∨wt.heap.size<=b) wp wq:=(Only.bY uY).mono fun b hb=> .inr (by omega);have r2:Only (fun b=>b=w.heap.size+1+1+1∨wt.heap.size<=b) wq w7:=(Only.bY gN).mono fun b hb=> .inr (by omega);have r4:Only (fun b=>b=w.heap.size+1+1+1∨wt.heap.size<=b) (w7.alloc (.cells #[.bool x.s,.slice x.A x.k x.c,.slice x.B x.m x.d] 51)) w8:=o8.mono fun b hb=> .inr (FC.o b hb);exact ((((j5.o.trans r1).trans r2).alloc _).trans r4).setCell (p:=⟨w.heap.size+1+1+1,2,none⟩) (.inl rfl) _
        clear tX tY hTX hTY hT hO j5 tO uY HO hoX;unfold bG at Cl;go_region_with (go_at_call 85;refine (Cl.o _ (by first | exact aW.drew | exact aW)).mono ?_;rintro e w7 ⟨s7,A7,k7,c7,B7,m7,d7,rfl,Qa,lI⟩;unfold bG;have gN:Below wq.heap.size wq w7:=(by first | exact aW.drew.trans lI | exact lI);have cO:=(HT.o.aB gN).aP;have fO:=(HT.o.aB gN).frozen 2;have lO:=(HT.o.aB gN).lt;obtain ⟨gg,cap,w8,IC,fu,aX,gO,rT⟩:=NB (w7.alloc (.cells #[.bool s7,.slice A7 k7 c7,.slice B7 m7 d7] 51)) 49 49 wt.heap.size 51 i0 _ 3 56 underlying49 uA iQ iC iP rfl (by omega) ov E.length (iB E) ((HOW.o _ gN).alloc _) ⟨w7.heap.size,0,none⟩ 1 1 [.bool s7,.slice A7 k7 c7,.slice B7 m7 d7] (by rfl) (gK (cs:=#[.bool s7,.slice A7 k7 c7,.slice B7 m7 d7]) (t:=51) (fr:=(0,0)) (bO w7 _)) (by simp [Value.oneCell']) (Nat.one_pos) q1 q2 (xU.o _ _ gN) (w7.heap.size+1) (by simp);obtain ⟨t8,Pa,IE⟩:=F.o w7 w8 ⟨s7,A7,k7,c7,B7,m7,d7⟩ gg cap gN Qa fu aX gO;have f8:=t8.frozen 2;have c8:=t8.aP)
        all_goals
         have T8:=aA (t8.YV (.slice (some ⟨gg,0,none⟩) (E.length+1) cap));have UC:=aA Pa;have UB:=aA IE;(have HE8:Hid ((E++[(⟨s7,A7,k7,c7,B7,m7,d7⟩:KE)]).length=k+1):=by show _=_;rw [eF,hE.o];rfl);clear t8 Pa IE fu aX gO rT IC Qa gN lI F HOW xU HT Cl cO fO lO f8 c8 cx0 cx1 cx2 cy0 cy1 cy2 co2 hE;(go_wp2_with fail);go_roundw
         case rel=>exact ⟨k+1,_,_,by omega,by go_num,HE8,UC,T8,UB⟩
         case measure=>simp [intOf];omega
    . have D8:¬(k:Int)<((kids f).len:Int):=by omega
      have Bk:Hid ((kids f).co k=0):=Poly.az _ k (by omega);obtain ⟨b',o',rfl,pL,hl',FD⟩:=I3.o (by omega);obtain ⟨s2,A2,k2,c2,B2,m2,d2,e1,e2,e3,e5⟩:=FD k (by omega);(have FE:(k:Int)<((kids g).len:Int):=by omega);(have wP:(0:Int)<=(k:Int):=by omega);have j1:=(pY.o.cell (p:=⟨b',o'+k*3,none⟩) hl').trans e1;have j2:=(pY.o.cell (p:=⟨b',o'+k*3+1,none⟩) hl').trans e2;have j3:=(pY.o.cell (p:=⟨b',o'+k*3+2,none⟩) hl').trans e3;(have ajJ:b'<wp.heap.size:=by omega);have E5:=aA (e5.aB pY.o);clear FD e1 e2 e3 e5;have tX:=(aa.new wp (.bool false) (.slice none 0 0) (.slice none 0 0)).aB (aW.alloc aK (.cells #[.bool s2,.slice A2 k2 c2,.slice B2 m2 d2] 51));have tY:=aa.new (wp.alloc (.cells #[.bool false,.slice none 0 0,.slice none 0 0] 51)) (.bool s2) (.slice A2 k2 c2) (.slice B2 m2 d2);rw [aJ] at tY;have uY:Below wp.heap.size wp ((wp.alloc (.cells #[.bool false,.slice none 0 0,.slice none 0 0] 51)).alloc (.cells #[.bool s2,.slice A2 k2 c2,.slice B2 m2 d2] 51)):=(aW.alloc aK _).alloc (by simp) _;(have hTX:Hid (aO (fun b=>S b∧b<w.heap.size) n wp (.agg #[.bool false,.slice none 0 0,.slice none 0 0]) ((kids f).co k)):=by rw [Bk.o];exact aO.nought _ _ n);have hTY:Hid (aO (fun b=>S b∧b<w.heap.size) n wp (.agg #[.bool s2,.slice A2 k2 c2,.slice B2 m2 d2]) ((kids g).co k)):=E5.o;have hoX:Only (fun b=>wp.heap.size<=b) wp ((wp.alloc (.cells #[.bool false,.slice none 0 0,.slice none 0 0] 51)).alloc (.cells #[.bool s2,.slice A2 k2 c2,.slice B2 m2 d2] 51)):=Only.bY uY;(go_wp2_with fail);generalize Z6:(wp.alloc (.cells #[.bool false,.slice none 0 0,.slice none 0 0] 51)).alloc (.cells #[.bool s2,.slice A2 k2 c2,.slice B2 m2 d2] 51)=wq at*
      clear Z6;have tO:=hT.o.aB uY;have HO:=aA (hO.o.ji uY);have cx0:=tX.cell0;have cx1:=tX.cell1;have cx2:=tX.aP;have cy0:=tY.cell0;have cy1:=tY.cell1;have cy2:=tY.aP;have co2:=tO.aP;have hsq:=uY.size;have Cl:=aA (fun W (hW:Below wq.heap.size wq W)=>ih (fun b=>S b∧b<w.heap.size) W _ _ _ _ ((hTX.o.aB uY).aB hW) ((hTY.o.aB uY).aB hW) (aR (fZ f k) nf) (aR (fZ g k) ng) (Lf.o k) (Lg.o k));have HT:=aA tO;(have q1:E.length+1<=maxLen:=by have:=hE.o;unfold maxLen;omega);(have q2:(E.length+1)*56<=140737488355328:=by have:=hE.o;omega);have HOW:=aA (fun W (hW:Below wq.heap.size wq W)=>(HO.o.ji hW).own);(have xU:Hid (∀(W:World) (ob:Obj),Below wq.heap.size wq W->wt.heap.size<=(W.alloc ob).heap.size):=fun W ob hW=>by have:=hW.size;have:=j5.o.size;simp;omega);have FC:Hid (∀j,ov.ownBlock=some j->wt.heap.size<=j):=fun j hj=>(hO.o.own.lt j hj).1;have F:Hid (∀(w7 w8:World) (x:KE) (gg cap:Nat),Below wq.heap.size wq w7->aO (fun b=>(S b∧b<w.heap.size)∨wq.heap.size<=b) n w7 x.v ((kids f).co k-(kids g).co k)->w8.ownsRow wt.heap.size 51 3 (.slice (some ⟨gg,0,none⟩) (E.length+1) cap) (E.length+1) (iB E++xT x)->(w7.alloc (.cells #[.bool x.s,.slice x.A x.k x.c,.slice x.B x.m x.d] 51)).grownBy w8 ov.ownBlock->(ov.ownBlock=some gg∨gg=w7.heap.size+1)->
       aa w8 (w.heap.size+1+1+1) (.bool false) (.slice none 0 0) ov∧jx 51 (fun b=>S b∧b<w.heap.size) (fun b=>b=w.heap.size+1+1+1∨b=w.heap.size+1+1) w wt.heap.size (w8.setCell ⟨w.heap.size+1+1+1,2,none⟩ (.slice (some ⟨gg,0,none⟩) (E.length+1) cap)) n (.slice (some ⟨gg,0,none⟩) (E.length+1) cap) (E++[x]) (fun i=>(kids f).co i-(kids g).co i)∧Only (fun b=>b=w.heap.size+1+1+1∨wt.heap.size<=b) wt (w8.setCell ⟨w.heap.size+1+1+1,2,none⟩ (.slice (some ⟨gg,0,none⟩) (E.length+1) cap))):=fun w7 w8 x gg cap gN hx aY rE gO=>by
       have a7:Below w7.heap.size w7 (w7.alloc (.cells #[.bool x.s,.slice x.A x.k x.c,.slice x.B x.m x.d] 51)):=aW.alloc aK _;have o8:Only (fun b=>ov.ownBlock=some b) (w7.alloc (.cells #[.bool x.s,.slice x.A x.k x.c,.slice x.B x.m x.d] 51)) w8:=(Only.fH rE).mono (fun i hi=>by first | exact hi | exact hi.symm);have t8:aa w8 (w.heap.size+1+1+1) (.bool false) (.slice none 0 0) ov:=by
        have t7:=((HT.o.aB gN).aB a7);exact t7.keep (o8.block _ t7.lt fun e=>by have:=FC.o _ e;omega)
       have Jn:=HO.o.next (x:=x) (o:=(.cells #[.bool x.s,.slice x.A x.k x.c,.slice x.B x.m x.d] 51)) (fun b hb=>hb.2) (fun b hb=>by have:=hX.o b hb;have:=j5.o.size;omega) gN (by rw [hE.o];exact hx) aY rE gO rfl;refine ⟨t8,Jn.box ((Only.refl (fun b=>b=w.heap.size+1+1+1∨b=w.heap.size+1+1) w8).setCell (p:=⟨w.heap.size+1+1+1,2,none⟩) (.inl rfl) _) (fun b hb=>hX.o b hb),?_⟩;have r0:=j5.o.size;have r1:Only (fun b=>b=w.heap.size+1+1+1∨wt.heap.size<=b) wp wq:=(Only.bY uY).mono fun b hb=> .inr (by omega);have r2:Only (fun b=>b=w.heap.size+1+1+1∨wt.heap.size<=b) wq w7:=(Only.bY gN).mono fun b hb=> .inr (by omega);have r4:Only (fun b=>b=w.heap.size+1+1+1∨wt.heap.size<=b) (w7.alloc (.cells #[.bool x.s,.slice x.A x.k x.c,.slice x.B x.m x.d] 51)) w8:=o8.mono fun b hb=> .inr (FC.o b hb);exact ((((j5.o.trans r1).trans r2).alloc _).trans r4).setCell (p:=⟨w.heap.size+1+1+1,2,none⟩) (.inl rfl) _
      clear tX tY hTX hTY hT hO j5 tO uY HO hoX;unfold bG at Cl;go_region_with (go_at_call 85;refine (Cl.o _ (by first | exact aW.drew | exact aW)).mono ?_;rintro e w7 ⟨s7,A7,k7,c7,B7,m7,d7,rfl,Qa,lI⟩;unfold bG;have gN:Below wq.heap.size wq w7:=(by first | exact aW.drew.trans lI | exact lI);have cO:=(HT.o.aB gN).aP;have fO:=(HT.o.aB gN).frozen 2;have lO:=(HT.o.aB gN).lt;obtain ⟨gg,cap,w8,IC,fu,aX,gO,rT⟩:=NB (w7.alloc (.cells #[.bool s7,.slice A7 k7 c7,.slice B7 m7 d7] 51)) 49 49 wt.heap.size 51 i0 _ 3 56 underlying49 uA iQ iC iP rfl (by omega) ov E.length (iB E) ((HOW.o _ gN).alloc _) ⟨w7.heap.size,0,none⟩ 1 1 [.bool s7,.slice A7 k7 c7,.slice B7 m7 d7] (by rfl) (gK (cs:=#[.bool s7,.slice A7 k7 c7,.slice B7 m7 d7]) (t:=51) (fr:=(0,0)) (bO w7 _)) (by simp [Value.oneCell']) (Nat.one_pos) q1 q2 (xU.o _ _ gN) (w7.heap.size+1) (by simp);obtain ⟨t8,Pa,IE⟩:=F.o w7 w8 ⟨s7,A7,k7,c7,B7,m7,d7⟩ gg cap gN Qa fu aX gO;have f8:=t8.frozen 2;have c8:=t8.aP)
      all_goals
       have T8:=aA (t8.YV (.slice (some ⟨gg,0,none⟩) (E.length+1) cap));have UC:=aA Pa;have UB:=aA IE;(have HE8:Hid ((E++[(⟨s7,A7,k7,c7,B7,m7,d7⟩:KE)]).length=k+1):=by show _=_;rw [eF,hE.o];rfl);clear t8 Pa IE fu aX gO rT IC Qa gN lI F HOW xU HT Cl cO fO lO f8 c8 cx0 cx1 cx2 cy0 cy1 cy2 co2 hE;(go_wp2_with fail);go_roundw
       case rel=>exact ⟨k+1,_,_,by omega,by go_num,HE8,UC,T8,UB⟩
       case measure=>simp [intOf];omega
  . have dI:¬(k:Int)<(M:Int):=by omega
    obtain ⟨B9,d9,hov,q1,q2,q3⟩:=hO.o.row (fun b hb=>(hX.o b hb).2);subst hov;(have Fa:(kids f-kids g).Sh E.length:=fun i hi=>by rw [Poly.oW];exact hM1.o i (by have:=hE.o;omega));(have q4:RowK (fun b=>((S b∧b<w.heap.size)∨w.heap.size<=b)∧¬(b=w.heap.size+1+1+1∨b=w.heap.size+1+1)) (fun i u=>aO (fun b=>((S b∧b<w.heap.size)∨w.heap.size<=b)∧¬(b=w.heap.size+1+1+1∨b=w.heap.size+1+1)) n wp u ((kids f-kids g).co i)) wp B9 E.length:=by simp only [Poly.oW];exact q3);have Q4:=aA q4;have Ct:=aA (fun W (hW:Below wp.heap.size wp W)=>Ur (fun b=>((S b∧b<w.heap.size)∨w.heap.size<=b)∧¬(b=w.heap.size+1+1+1∨b=w.heap.size+1+1)) n W B9 E.length d9 (kids f-kids g) (Q4.o.aB hW) Fa q1 q2 hn (K+1) (by omega) (fun i=>by rw [Poly.oW];exact aR (Gp _ _) (aet (aR (fZ f i) nf) (aR (fZ g i) ng))));have t70:=hT.o.cell0;have t71:=hT.o.cell1;have t72:=hT.o.aP;clear q3 q4 Fa hE hO j5;unfold bG at Ct;(go_wp2_with fail);refine (Ct.o _ aW).mono ?_;rintro e w1 ⟨s1,A1,k1,c1,B1,m1,d1,rfl,wN,dH⟩;have zo:=aA (P2.o.aB dH);have r0:=zo.o.cell0;have r1:=zo.o.cell1;have r2:=zo.o.aP;have r3:=zo.o.frozen 0;have r4:=zo.o.frozen 1;have r5:=zo.o.frozen 2;have F:Hid (aO (fun b=>S b∨w.heap.size<=b) (n+1) (((w1.setCell ⟨w.heap.size+1+1,0,none⟩ (.bool s1)).setCell ⟨w.heap.size+1+1,1,none⟩ (.slice A1 k1 c1)).setCell ⟨w.heap.size+1+1,2,none⟩ (.slice B1 m1 d1)) (bG s1 A1 k1 c1 B1 m1 d1) (f-g)):=
     aO.only (aZ w1 (w.heap.size+1+1) _ _ _) (fun b hb e=>by
      have h9:=P2.o.lt;rcases hb with hb | hb
      . exact hb.2 (.inr e)
      . omega) (fun b hb=>by
      have h9:=pY.o.size;rcases hb with hb | hb
      . rcases hb.1 with h | h
        . exact .inl h.1
        . exact .inr h
      . exact .inr (by omega)) wN
    have cU:Below w.heap.size w w1:=pY.o.tm dH;have pL:Hid (Below w.heap.size w (((w1.setCell ⟨w.heap.size+1+1,0,none⟩ (.bool s1)).setCell ⟨w.heap.size+1+1,1,none⟩ (.slice A1 k1 c1)).setCell ⟨w.heap.size+1+1,2,none⟩ (.slice B1 m1 d1))):=((cU.setCell (p:=⟨w.heap.size+1+1,0,none⟩) (by show _<=w.heap.size+1+1;omega) _).setCell (p:=⟨w.heap.size+1+1,1,none⟩) (by show _<=w.heap.size+1+1;omega) _).setCell (p:=⟨w.heap.size+1+1,2,none⟩) (by show _<=w.heap.size+1+1;omega) _;clear wN dH cU Ct;unfold bG;(go_wp2_with fail);exact ax (v:=.agg #[.bool s1,.slice A1 k1 c1,.slice B1 m1 d1]) (cI (fn:=f85) rfl _ _ _ _ _ _ _ rfl (zo.o.set (.bool s1) (.slice A1 k1 c1) (.slice B1 m1 d1)) underlying51 rfl cm) rfl
     ⟨s1,A1,k1,c1,B1,m1,d1,rfl,F.o,pL.o⟩
def Ou (K:Nat) (hK:K<=3900000000000):∀n,n<=100->ahX n K
 | 0,_=>fun S w u v f g hf hg nf ng _ _=>aja S w u v f g hf hg K hK nf ng
 | n+1,hn=>fun S w u v f g hf hg nf ng kf kg=>by
   have h:=aiZ n K hK (by omega) (Ou K hK n (by omega)) S w u v f g hf hg nf ng kf kg;rw [k9];exact h
def aej (S:Nat->Prop) (w:World) (u v:Value) (f g:Pn 0) (hf:aO S 0 w u f) (hg:aO S 0 w v g) (K:Nat) (hK:K<=3900000000000) (nf:aI.nm f<2^(64*K)) (ng:aI.nm g<2^(64*K)):
 aC 86 #[u,.int .i64 0,v] w (bV S w 0 (f*g)):=by
 obtain ⟨s,A,k,c,xs,rfl,h1,h2,h3,h4,_⟩:=hf;obtain ⟨t,B,m,d,ys,rfl,i1,i2,i3,i4,_⟩:=hg;have hk:k<=K:=by have h5:=h4.cap (K:=K) nf;have h6:=h3.len;omega
 have hm:m<=K:=by have h5:=i4.cap (K:=K) ng;have h6:=i3.len;omega
 have Cs:=aA (fun W (hW:Below w.heap.size w W)=>agt s t A B k m c d xs ys W (h3.aB hW) (i3.aB hW) h1 h2 i1 i2 (by omega) (by omega));rw [h4.eq,i4.eq] at Cs;have hb:Below w.heap.size w (((w.alloc (.cells #[.bool s,.slice A k c,.slice none 0 0] 51)).alloc (.cells #[.bool t,.slice B m d,.slice none 0 0] 51)).alloc (.cells #[.bool false,.slice none 0 0,.slice none 0 0] 51)):=((aW.alloc aK _).alloc (by simp) _).alloc (by simp;omega) _;have t2:=aa.new ((w.alloc (.cells #[.bool s,.slice A k c,.slice none 0 0] 51)).alloc (.cells #[.bool t,.slice B m d,.slice none 0 0] 51)) (.bool false) (.slice none 0 0) (.slice none 0 0);rw [aJ,aJ] at t2;have T2:=aA t2;have HB:=aA hb;clear h3 h4 i3 i4 nf ng hb t2;unfold bG;go_enter func86,ntmps86
 go_wp2_with fail
 refine (Cs.o _ (by exact HB.o)).mono ?_;rintro e w1 ⟨s1,A1,k1,c1,ls,rfl,q1,q2,q3,q4,q5,q6,dH⟩;have T3:=aA (T2.o.aB dH);have r0:=T3.o.cell0;have r1:=T3.o.cell1;have r2:=T3.o.aP;have r3:=T3.o.frozen 0;have r4:=T3.o.frozen 1;have r5:=T3.o.frozen 2;have hs3:(((w.alloc (.cells #[.bool s,.slice A k c,.slice none 0 0] 51)).alloc (.cells #[.bool t,.slice B m d,.slice none 0 0] 51)).alloc (.cells #[.bool false,.slice none 0 0,.slice none 0 0] 51)).heap.size=w.heap.size+1+1+1:=by simp
 have F:Hid (aO (fun b=>S b∨w.heap.size<=b) 0 (((w1.setCell ⟨w.heap.size+1+1,0,none⟩ (.bool s1)).setCell ⟨w.heap.size+1+1,1,none⟩ (.slice A1 k1 c1)).setCell ⟨w.heap.size+1+1,2,none⟩ (.slice none 0 0)) (bG s1 A1 k1 c1 none 0 0) (f*g)):=
  aO.num q1 q2 (lV q4 (aZ w1 (w.heap.size+1+1) _ _ _) fun h0 y hy e=>by have:=q6 h0 y hy;omega) q5 fun h0 y hy=> .inr (by have:=q6 h0 y hy;omega)
 have cU:Below w.heap.size w w1:=HB.o.tm dH;have pL:Hid (Below w.heap.size w (((w1.setCell ⟨w.heap.size+1+1,0,none⟩ (.bool s1)).setCell ⟨w.heap.size+1+1,1,none⟩ (.slice A1 k1 c1)).setCell ⟨w.heap.size+1+1,2,none⟩ (.slice none 0 0))):=((cU.setCell (p:=⟨w.heap.size+1+1,0,none⟩) (by show _<=w.heap.size+1+1;omega) _).setCell (p:=⟨w.heap.size+1+1,1,none⟩) (by show _<=w.heap.size+1+1;omega) _).setCell (p:=⟨w.heap.size+1+1,2,none⟩) (by show _<=w.heap.size+1+1;omega) _;clear q3 q4 q5 q6 dH Cs hs3 HB cU;go_wp2_with fail
 exact ax (v:=.agg #[.bool s1,.slice A1 k1 c1,.slice none 0 0]) (cI (fn:=f86) rfl _ _ _ _ _ _ _ rfl (T3.o.set (.bool s1) (.slice A1 k1 c1) (.slice none 0 0)) underlying51 rfl cm) rfl
  ⟨s1,A1,k1,c1,none,0,0,rfl,F.o,pL.o⟩
def aeh (n:Nat) (hn:n<=100) (S:Nat->Prop) (w:World) (u v:Value) (f g:Pn (n+1)) (hf:aO S (n+1) w u f) (hg:aO S (n+1) w v g) (h0:f=0∨g=0):
 aC 86 #[u,.int .i64 ((n:Int)+1),v] w (bV S w (n+1) (f*g)):=by
 obtain ⟨B,c,rfl,h1,h2,h3⟩:=hf.here;obtain ⟨D,d,rfl,i1,i2,i3⟩:=hg.here;have hz:(((n:Int)+1)==0)=false:=jD.2 (by omega);have e0:f*g=0:=by
  rcases h0 with rfl | rfl
  . exact aG.zero_mul _
  . exact aG.mul_zero _
 rw [e0];obtain ⟨a,ha⟩:∃a:Bool,(((kids f).len:Int)==0)=a:=⟨_,rfl⟩;obtain ⟨b,hb⟩:∃b:Bool,(((kids g).len:Int)==0)=b:=⟨_,rfl⟩;have IP:a=true∨b=true:=by
  rcases h0 with rfl | rfl
  . left;rw [<- ha];have:(kids (0:Pn (n+1))).len=0:=jB.2 rfl;rw [this];rfl
  . right;rw [<- hb];have:(kids (0:Pn (n+1))).len=0:=jB.2 rfl;rw [this];rfl
 have wG:Below w.heap.size w (((w.alloc (.cells #[.bool false,.slice none 0 0,.slice B (kids f).len c] 51)).alloc (.cells #[.bool false,.slice none 0 0,.slice D (kids g).len d] 51)).alloc (.cells #[.bool false,.slice none 0 0,.slice none 0 0] 51)):=((aW.alloc aK _).alloc (by simp) _).alloc (by simp;omega) _;have t2:=aa.new ((w.alloc (.cells #[.bool false,.slice none 0 0,.slice B (kids f).len c] 51)).alloc (.cells #[.bool false,.slice none 0 0,.slice D (kids g).len d] 51)) (.bool false) (.slice none 0 0) (.slice none 0 0);rw [aJ,aJ] at t2;have T2:=aA t2;have HB:=aA wG;clear h3 i3 hf hg wG t2 h0 e0;unfold bG;go_enter func86,ntmps86
 cases a
 . cases b
   . simp at IP
   . go_wp2_with fail
     exact ax (v:=.agg #[.bool false,.slice none 0 0,.slice none 0 0]) (cI (fn:=f86) rfl _ _ _ _ _ _ _ rfl T2.o underlying51 rfl cm) rfl ⟨false,none,0,0,none,0,0,rfl,aO.nought _ _ (n+1),HB.o⟩
 . cases b
   . go_wp2_with fail
     exact ax (v:=.agg #[.bool false,.slice none 0 0,.slice none 0 0]) (cI (fn:=f86) rfl _ _ _ _ _ _ _ rfl T2.o underlying51 rfl cm) rfl ⟨false,none,0,0,none,0,0,rfl,aO.nought _ _ (n+1),HB.o⟩
   . go_wp2_with fail
     exact ax (v:=.agg #[.bool false,.slice none 0 0,.slice none 0 0]) (cI (fn:=f86) rfl _ _ _ _ _ _ _ rfl T2.o underlying51 rfl cm) rfl ⟨false,none,0,0,none,0,0,rfl,aO.nought _ _ (n+1),HB.o⟩
def Vx (w:World) (v K:Nat) (e:Ending) (w':World):Prop:=
 ∃A k c ls,e=.returned (.slice A k c)∧k<=c∧c<=9223372036854775807∧k<=K∧aD w' A k ls∧bX ls∧limbs ls=v∧(0<k->∀y,A=some y->w.heap.size<=y.block)∧Below w.heap.size w w'
def adJ (A:Option Addr) (n c:Nat) (xs:List Int) (w:World) (hx:aD w A n xs) (hn:n<=c) (hc:c<=9223372036854775807) (Fz:n<=17000000000000):
 aC 101 #[.slice A n c] w (Vx w (limbs xs) n):=by
 obtain ⟨i0,hi,iQ,iC,iP⟩:=dJ cN;have Hpl:=aA (bF hx.ok hx.len);have Hr:=aA (fun m (h:m<=n)=>(hx.take h).reads);have Hk:=aA (fun m (h:m<=n)=>(hx.take h).len);have JN:=aA (fun m (h:m<=n)=>(hx.take h).ok);go_enter func101,ntmps101
 obtain ⟨wo,rfl⟩:∃wo:World,wo=w:=⟨_,rfl⟩;go_wp2
 go_loopg [3] (n+1) (fun gk s wr=>∃m:Nat,m<=n∧m<gk∧s=.int .i64 m∧Hid (bu xs n=bu xs m)∧wr=wo)
 case atStart=>exact ⟨n,by omega,by omega,rfl,rfl,rfl⟩
 case round=>
  obtain ⟨m,hm,Mh,rfl,th,rfl⟩:=hrel;have fin:∀(q:Nat) (v':Value) (w1:World),q<=n->bu xs n=q->w1.ownsRow wr.heap.size 38 1 v' (0+q) ([]++au (xs.take q))->(wr.alloc (.cells #[] 38)).grownBy w1 (some wr.heap.size)->Vx wr (limbs xs) n (.returned v') w1:=fun q v' w1 hq he aY hg=>by
   subst he;rw [ct,kY] at aY;obtain ⟨A',c',rfl⟩:=eM aY;obtain ⟨k1,k2⟩:=jl aY;have hb:Below wr.heap.size wr w1:=((Below.refl _ wr).alloc aK _).grown hg (by simp) (fun k hk=>by injection hk;omega);exact ⟨A',_,c',_,rfl,k1,k2,hq,aD.gi aY (JN.o _ hq),Hpl.o.1,Hpl.o.2,fun _ y hy=>(aY.lt y.block (by subst hy;rfl)).1,hb⟩
  have Fin:=aA fin;clear fin;cases m with
  | zero=>
    have tR:Hid (bu xs n=0):=th.o;have oK:=aA (Hr.o 0 (by omega));clear hx;(go_wp2_with (at_builtin;refine bN (w:=wr.alloc (.cells #[] 38)) rfl _ _ 39 rfl wr.heap.size 38 i0 (.int .u64 0) 1 8 underlying39 hi iQ iC iP rfl (by decide) _ 0 [] rfl (bB wr 38 aK) wr.heap.size A 0 c (au (xs.take 0)) rfl (oK.o.alloc aK _) (iL _) (by unfold maxLen;omega) (by omega) (by simp) ?_;intro v' w1 aY aX gO));(go_wp2);go_ret;exact Fin.o 0 _ _ (by omega) tR.o aY aX
  | succ m=>
    obtain ⟨b,o,rfl,hb,hc'⟩:=hx.at_ (by omega);have hcy:=hc' m (by omega);clear hc';(have hmc:m<=c:=by omega);(have ajC:(m:Int)+1<=(c:Int):=by omega);(have hmp:(0:Int)<(m:Int)+1:=by omega);by_cases hz:nth xs m=0
    . rw [hz] at hcy
      have Hz:=aA hz;clear hz;(go_wp2);go_roundg (gk-1)
      case measure=>omega
      case rel=>exact ⟨m,by omega,by omega,by go_num,by show _=_;rw [th.o];exact rj Hz.o,rfl⟩
    . have Ko:(nth xs m==0)=false:=jD.2 hz
      have tR:Hid (bu xs n=m+1):=th.o.trans (ri hz);have oK:=aA (Hr.o (m+1) (by omega));clear hz;(go_wp2_with (at_builtin;refine bN (w:=wr.alloc (.cells #[] 38)) rfl _ _ 39 rfl wr.heap.size 38 i0 (.int .u64 0) 1 8 underlying39 hi iQ iC iP rfl (by decide) _ 0 [] rfl (bB wr 38 aK) wr.heap.size (some ⟨b,o,none⟩) (m+1) c (au (xs.take (m+1))) rfl (oK.o.alloc aK _) (iL _) (by unfold maxLen;omega) (by omega) (by simp) ?_;intro v' w1 aY aX gO));(go_wp2);go_ret;exact Fin.o (m+1) _ _ (by omega) tR.o aY aX
def oP (s:Bool) (A:Option Addr) (n c:Nat) (xs:List Int) (w:World) (hx:aD w A n xs) (hn:n<=c) (hc:c<=9223372036854775807) (Fz:n<=9000000000000):
 aC 67 #[.agg #[.bool s,.slice A n c]] w (gj w (aF s xs) n):=by
 have Cn:=aA (fun W (h:Below w.heap.size w W)=>adJ A n c xs W (hx.aB h) hn hc (by omega));have uw:=(Duo.new w (.bool s) (.slice A n c)).aB (aW.alloc aK (.cells #[.bool false,.slice none 0 0] 41));have hd:=Duo.new (w.alloc (.cells #[.bool s,.slice A n c] 41)) (.bool false) (.slice none 0 0);rw [aJ] at hd;have c0:=uw.cell0;have c1:=uw.cell1;have Hd:=aA hd;have Hd0:=aA uw;clear hd uw hx;go_enter func67,ntmps67
 go_wp2_with fail
 refine (Cn.o _ (by exact (aW.alloc aK _).alloc (by simp) _)).mono ?_;rintro e w1 ⟨A1,k1,u9,l1,rfl,h1,h2,h3,h4,h5,h6,hf,h7⟩;have jU:=Hd.o.aB h7;have XO:=Hd0.o.aB h7;have k0:=jU.cell0;have k1':=jU.cell1;have f0:=jU.frozen 0;have f1:=jU.frozen 1;have c0':=XO.cell0;have ayX:=XO.cell1;have hb:Below w.heap.size w w1:=(((Below.refl _ w).alloc aK _).alloc (by simp) _).trans (h7.mono (by simp;omega));have JP:=aA jU;have hz:=UE (neg:=s) h5 h6 h4.len;have hfr:0<k1->∀y,A1=some y->w.heap.size<=y.block:=fun h0 y hy=>by have:=hf h0 y hy;simp at this;omega
 have Fin:Hid (∀b:Bool,b=(s && decide (0<(k1:Int)))->gj w (aF s xs) n (.returned (.agg #[.bool b,.slice A1 k1 u9])) ((w1.setCell ⟨w.heap.size+1,0,none⟩ (.bool b)).setCell ⟨w.heap.size+1,1,none⟩ (.slice A1 k1 u9))):=fun b qw=>by
  subst qw;exact ⟨_,A1,k1,u9,l1,rfl,h1,h2,h3,jU.limbs _ _ rfl rfl h4,hz,hfr,(hb.setCell (p:=⟨w.heap.size+1,0,none⟩) (by simp) _).setCell (p:=⟨w.heap.size+1,1,none⟩) (by simp) _⟩
 clear jU XO h4 h5 h6 h7 hz hb hf hfr;cases s with
 | false=>
   go_wp2
   exact ax (cI (fn:=f67) rfl _ _ _ _ _ _ _ rfl (JP.o.set _ _) underlying41 rfl aT) rfl (Fin.o _ rfl)
 | true=>
   go_wp2
   exact ax (cI (fn:=f67) rfl _ _ _ _ _ _ _ rfl (JP.o.set _ _) underlying41 rfl aT) rfl (Fin.o _ (by simp))
def Yg (s t:Bool) (A B:Option Addr) (n m c d:Nat) (xs ys:List Int) (w:World) (hx:aD w A n xs) (hy:aD w B m ys) (ig:n<=c) (hc:c<=9223372036854775807) (kX:m<=d) (hd:d<=9223372036854775807) (hn:n<=4000000000000) (hm:m<=4000000000000):
 aC 98 #[.agg #[.bool s,.slice A n c],.agg #[.bool t,.slice B m d]] w (gj w (aF s xs*aF t ys) (n+m)):=by
 have Cm:=aA (fun W (h:Below w.heap.size w W)=>anq A B n m c d xs ys W (hx.aB h) (hy.aB h) (by omega) (by omega));have Cz:=aA (fun (neg:Bool) A' n' c' zs W h h1 h2 h3=>oP neg A' n' c' zs W h h1 h2 h3);obtain ⟨b1,b2,b3,da,db,dr,hsz⟩:=stZ w s A n c t B m d;go_enter func98,ntmps98
 go_wp2_with fail
 have Da:=aA da;have Db:=aA db;have Dr:=aA dr
 clear da db dr b1 b2 hx hy;generalize ((w.alloc (.cells #[.bool s,.slice A n c] 41)).alloc (.cells #[.bool t,.slice B m d] 41)).alloc (.cells #[.bool false,.slice none 0 0] 41)=wt at*
 have a0:=Da.o.cell0;have a1:=Da.o.cell1;have e0:=Db.o.cell0;have e1:=Db.o.cell1;have r0:=Dr.o.cell0;have r1:=Dr.o.cell1;have f0:=Dr.o.frozen 0;have f1:=Dr.o.frozen 1;have la:w.heap.size<wt.heap.size:=by omega
 have lb:w.heap.size+1<wt.heap.size:=by omega
 have lr:w.heap.size+1+1<wt.heap.size:=by omega
 have keep:=BS la lb a0 a1 e0 e1
 have res:=OG lr r0 r1 Dr
 clear r0 r1 f0 f1;have nJ:w.heap.size+1+1≠w.heap.size:=by omega
 have nI:w.heap.size+1+1≠w.heap.size+1:=by omega
 have jy:w.heap.size<=w.heap.size+1+1:=by omega
 have U2:w.heap.size<=wt.heap.size:=by omega
 clear hsz;generalize w.heap.size+1+1=gr at*
 generalize w.heap.size+1=gb at*
 have xS:∀(W:World) (u v:Value),(W.cell? ⟨w.heap.size,0,none⟩=some (.bool s)∧W.cell? ⟨w.heap.size,1,none⟩=some (.slice A n c)∧W.cell? ⟨gb,0,none⟩=some (.bool t)∧W.cell? ⟨gb,1,none⟩=some (.slice B m d))->(((W.setCell ⟨gr,0,none⟩ u).setCell ⟨gr,1,none⟩ v).cell? ⟨w.heap.size,0,none⟩=some (.bool s)∧((W.setCell ⟨gr,0,none⟩ u).setCell ⟨gr,1,none⟩ v).cell? ⟨w.heap.size,1,none⟩=some (.slice A n c)∧((W.setCell ⟨gr,0,none⟩ u).setCell ⟨gr,1,none⟩ v).cell? ⟨gb,0,none⟩=some (.bool t)∧((W.setCell ⟨gr,0,none⟩ u).setCell ⟨gr,1,none⟩ v).cell? ⟨gb,1,none⟩=some (.slice B m d)):=by
  rintro W u v ⟨k1,k2,k3,k4⟩;refine ⟨?_,?_,?_,?_⟩;all_goals
   rw [iF _ _ _ _ (fun e=>by injection e with e1;first | exact nJ e1.symm | exact nI e1.symm | exact nJ e1 | exact nI e1),iF _ _ _ _ (fun e=>by injection e with e1;first | exact nJ e1.symm | exact nI e1.symm | exact nJ e1 | exact nI e1)];assumption
 go_region_held3 (fun W=>W.cell? ⟨w.heap.size,0,none⟩=some (.bool s)∧W.cell? ⟨w.heap.size,1,none⟩=some (.slice A n c)∧W.cell? ⟨gb,0,none⟩=some (.bool t)∧W.cell? ⟨gb,1,none⟩=some (.slice B m d))
  (first | go_keep | exact keep.o _ aW.drew | exact keep.o _ ah | exact keep.o _ iU | exact xS _ _ _ (keep.o _ iU))
  (first
    | (go_at_call 129;refine (Cm.o _ (by first | exact b3.drew | exact b3 | exact below_drewN b3 _)).mono ?_;rintro e w1 ⟨A1,k1,c1,zs,rfl,g4,g5,g3,g6,g1,g2,uF⟩;have ah:Below wt.heap.size wt w1:=aW.drew.trans uF)
    | (go_at_call 67;refine (Cz.o (s !=t) A1 k1 c1 zs w1 g6 g4 g5 (by have:=g6.len;omega)).mono ?_;rintro e w2 ⟨s2,A2,k2,c2,ls,rfl,q1,q2,q3,q4,q5,qf,qq⟩;have iU:Below wt.heap.size wt w2:=ah.tm qq;obtain ⟨r0,r1,f0,f1⟩:=res.o w2 iU))
 have AG:=Dr.o.aB iU;have cU:Below w.heap.size w w2:=b3.trans (iU.mono (by omega));have hz:bW s2 ls (aF s xs*aF t ys):=by rw [<- PD g2];exact q5
 have HF:Hid (0<k2->∀y,A2=some y->w.heap.size<=y.block):=fun h0 y hy=>aH (aH U2 ah.size) (qf h0 y hy);have uX:k2<=n+m:=by have:=g6.len;omega
 have Hz:=aA hz;have HD:=aA AG;have QM:=aA q4;clear hz AG q4 q5 g6 keep qf;go_wp2
 exact ax (cI (fn:=f98) rfl _ _ _ _ _ _ _ rfl (HD.o.set _ _) underlying41 rfl aT) rfl
  ⟨s2,A2,k2,c2,ls,rfl,q1,q2,uX,HD.o.limbs _ _ rfl rfl QM.o,Hz.o,HF.o,(cU.setCell (p:=⟨gr,0,none⟩) jy _).setCell (p:=⟨gr,1,none⟩) jy _⟩
def OL (s t:Bool) (hst:(s==t)=true) (A B:Option Addr) (n m c d:Nat) (xs ys:List Int) (w:World) (hx:aD w A n xs) (hy:aD w B m ys) (ig:n<=c) (hc:c<=9223372036854775807) (kX:m<=d) (hd:d<=9223372036854775807) (hn:n<=4000000000000) (hm:m<=4000000000000):
 aC 66 #[.agg #[.bool s,.slice A n c],.agg #[.bool t,.slice B m d]] w (gj w (aF s xs+aF t ys) (max n m+1)):=by
 have Cm:=aA (fun W (h:Below w.heap.size w W)=>Yp A B n m c d xs ys W (hx.aB h) (hy.aB h) (by omega) (by omega));have Cz:=aA (fun (neg:Bool) A' n' c' zs W h h1 h2 h3=>oP neg A' n' c' zs W h h1 h2 h3);obtain ⟨b1,b2,b3,da,db,dr,hsz⟩:=stZ w s A n c t B m d;go_enter func66,ntmps66
 go_wp2_with fail
 have Da:=aA da;have Db:=aA db;have Dr:=aA dr
 clear da db dr b1 b2 hx hy;generalize ((w.alloc (.cells #[.bool s,.slice A n c] 41)).alloc (.cells #[.bool t,.slice B m d] 41)).alloc (.cells #[.bool false,.slice none 0 0] 41)=wt at*
 have a0:=Da.o.cell0;have a1:=Da.o.cell1;have e0:=Db.o.cell0;have e1:=Db.o.cell1;have r0:=Dr.o.cell0;have r1:=Dr.o.cell1;have f0:=Dr.o.frozen 0;have f1:=Dr.o.frozen 1;have la:w.heap.size<wt.heap.size:=by omega
 have lb:w.heap.size+1<wt.heap.size:=by omega
 have lr:w.heap.size+1+1<wt.heap.size:=by omega
 have keep:=BS la lb a0 a1 e0 e1
 have res:=OG lr r0 r1 Dr
 clear r0 r1 f0 f1;go_wp2_with fail
 have nJ:w.heap.size+1+1≠w.heap.size:=by omega
 have nI:w.heap.size+1+1≠w.heap.size+1:=by omega
 have jy:w.heap.size<=w.heap.size+1+1:=by omega
 have U2:w.heap.size<=wt.heap.size:=by omega
 clear hsz;generalize w.heap.size+1+1=gr at*
 generalize w.heap.size+1=gb at*
 have xS:∀(W:World) (u v:Value),(W.cell? ⟨w.heap.size,0,none⟩=some (.bool s)∧W.cell? ⟨w.heap.size,1,none⟩=some (.slice A n c)∧W.cell? ⟨gb,0,none⟩=some (.bool t)∧W.cell? ⟨gb,1,none⟩=some (.slice B m d))->(((W.setCell ⟨gr,0,none⟩ u).setCell ⟨gr,1,none⟩ v).cell? ⟨w.heap.size,0,none⟩=some (.bool s)∧((W.setCell ⟨gr,0,none⟩ u).setCell ⟨gr,1,none⟩ v).cell? ⟨w.heap.size,1,none⟩=some (.slice A n c)∧((W.setCell ⟨gr,0,none⟩ u).setCell ⟨gr,1,none⟩ v).cell? ⟨gb,0,none⟩=some (.bool t)∧((W.setCell ⟨gr,0,none⟩ u).setCell ⟨gr,1,none⟩ v).cell? ⟨gb,1,none⟩=some (.slice B m d)):=by
  rintro W u v ⟨k1,k2,k3,k4⟩;refine ⟨?_,?_,?_,?_⟩;all_goals
   rw [iF _ _ _ _ (fun e=>by injection e with e1;first | exact nJ e1.symm | exact nI e1.symm | exact nJ e1 | exact nI e1),iF _ _ _ _ (fun e=>by injection e with e1;first | exact nJ e1.symm | exact nI e1.symm | exact nJ e1 | exact nI e1)];assumption
 go_region_held3 (fun W=>W.cell? ⟨w.heap.size,0,none⟩=some (.bool s)∧W.cell? ⟨w.heap.size,1,none⟩=some (.slice A n c)∧W.cell? ⟨gb,0,none⟩=some (.bool t)∧W.cell? ⟨gb,1,none⟩=some (.slice B m d))
  (first | go_keep | exact keep.o _ aW.drew | exact keep.o _ ah | exact keep.o _ iU | exact xS _ _ _ (keep.o _ iU))
  (first
    | (go_at_call 99;refine (Cm.o _ (by first | exact b3.drew | exact b3 | exact below_drewN b3 _)).mono ?_;rintro e w1 ⟨A1,k1,c1,zs,rfl,g4,g5,g3,g6,g1,g2,uF⟩;have ah:Below wt.heap.size wt w1:=aW.drew.trans uF)
    | (go_at_call 67;refine (Cz.o s A1 k1 c1 zs w1 g6 g4 g5 (by have:=g6.len;omega)).mono ?_;rintro e w2 ⟨s2,A2,k2,c2,ls,rfl,q1,q2,q3,q4,q5,qf,qq⟩;have iU:Below wt.heap.size wt w2:=ah.tm qq;obtain ⟨r0,r1,f0,f1⟩:=res.o w2 iU))
 have AG:=Dr.o.aB iU;have cU:Below w.heap.size w w2:=b3.trans (iU.mono (by omega));have hz:bW s2 ls (aF s xs+aF t ys):=by rw [<- y8 hst g2];exact q5
 have HF:Hid (0<k2->∀y,A2=some y->w.heap.size<=y.block):=fun h0 y hy=>aH (aH U2 ah.size) (qf h0 y hy);have uX:k2<=max n m+1:=by have:=g6.len;omega
 have Hz:=aA hz;have HD:=aA AG;have QM:=aA q4;clear hz AG q4 q5 g6 keep qf;go_wp2
 exact ax (cI (fn:=f66) rfl _ _ _ _ _ _ _ rfl (HD.o.set _ _) underlying41 rfl aT) rfl
  ⟨s2,A2,k2,c2,ls,rfl,q1,q2,uX,HD.o.limbs _ _ rfl rfl QM.o,Hz.o,HF.o,(cU.setCell (p:=⟨gr,0,none⟩) jy _).setCell (p:=⟨gr,1,none⟩) jy _⟩
def WS (s t:Bool) (hst:(s==t)=false) (A B:Option Addr) (n m c d:Nat) (xs ys:List Int) (w:World) (hx:aD w A n xs) (hy:aD w B m ys) (ig:n<=c) (hc:c<=9223372036854775807) (kX:m<=d) (hd:d<=9223372036854775807) (hn:n<=4000000000000) (hm:m<=4000000000000) (mS:limbs ys<=limbs xs):
 aC 66 #[.agg #[.bool s,.slice A n c],.agg #[.bool t,.slice B m d]] w (gj w (aF s xs+aF t ys) (max n m+1)):=by
 have Cs:=aA (fun W (h:Below w.heap.size w W)=>KC A B n m c d xs ys W (hx.aB h) (hy.aB h) (by omega) (by omega));have Cs2:=aA (fun W (h:Below w.heap.size w W)=>KC B A m n d c ys xs W (hy.aB h) (hx.aB h) (by omega) (by omega));have Cz:=aA (fun (neg:Bool) A' n' c' zs W h h1 h2 h3=>oP neg A' n' c' zs W h h1 h2 h3);obtain ⟨b1,b2,b3,da,db,dr,hsz⟩:=stZ w s A n c t B m d;go_enter func66,ntmps66
 go_wp2_with fail
 have Da:=aA da;have Db:=aA db;have Dr:=aA dr
 clear da db dr b1 b2 hx hy;generalize ((w.alloc (.cells #[.bool s,.slice A n c] 41)).alloc (.cells #[.bool t,.slice B m d] 41)).alloc (.cells #[.bool false,.slice none 0 0] 41)=wt at*
 have a0:=Da.o.cell0;have a1:=Da.o.cell1;have e0:=Db.o.cell0;have e1:=Db.o.cell1;have r0:=Dr.o.cell0;have r1:=Dr.o.cell1;have f0:=Dr.o.frozen 0;have f1:=Dr.o.frozen 1;have la:w.heap.size<wt.heap.size:=by omega
 have lb:w.heap.size+1<wt.heap.size:=by omega
 have lr:w.heap.size+1+1<wt.heap.size:=by omega
 have keep:=BS la lb a0 a1 e0 e1
 have res:=OG lr r0 r1 Dr
 clear r0 r1 f0 f1;have nJ:w.heap.size+1+1≠w.heap.size:=by omega
 have nI:w.heap.size+1+1≠w.heap.size+1:=by omega
 have jy:w.heap.size<=w.heap.size+1+1:=by omega
 have U2:w.heap.size<=wt.heap.size:=by omega
 clear hsz;generalize w.heap.size+1+1=gr at*
 generalize w.heap.size+1=gb at*
 go_wp2_with fail
 refine (Cs.o _ (by exact b3)).mono ?_;intro e w1 kG;obtain ⟨A1,k1,c1,zs,rfl,g4,g5,g3,g6,g1,g2,ah⟩:=kG.yes mS;obtain ⟨v1,v2,v3,v4⟩:=keep.o w1 ah;clear a0 a1 e0 e1 kG;go_wp2_with fail
 refine (Cz.o s A1 k1 c1 zs w1 g6 g4 g5 (by have:=g6.len;omega)).mono ?_;rintro e w2 ⟨s2,A2,k2,c2,ls,rfl,q1,q2,q3,q4,q5,qf,qq⟩;have iU:Below wt.heap.size wt w2:=ah.tm qq;clear v1 v2 v3 v4;have AG:=Dr.o.aB iU;have cU:Below w.heap.size w w2:=b3.trans (iU.mono (by omega));have hz:bW s2 ls (aF s xs+aF t ys):=by rw [<- pz hst g2 mS];exact q5
 have HF:Hid (0<k2->∀y,A2=some y->w.heap.size<=y.block):=fun h0 y hy=>aH (aH U2 ah.size) (qf h0 y hy);have uX:k2<=max n m+1:=by have:=g6.len;omega
 have Hz:=aA hz;have HD:=aA AG;have QM:=aA q4;obtain ⟨r0,r1,f0,f1⟩:=res.o w2 iU;clear hz AG q4 q5 g6 keep qf;go_wp2
 exact ax (cI (fn:=f66) rfl _ _ _ _ _ _ _ rfl (HD.o.set _ _) underlying41 rfl aT) rfl
  ⟨s2,A2,k2,c2,ls,rfl,q1,q2,uX,HD.o.limbs _ _ rfl rfl QM.o,Hz.o,HF.o,(cU.setCell (p:=⟨gr,0,none⟩) jy _).setCell (p:=⟨gr,1,none⟩) jy _⟩
def WR (s t:Bool) (hst:(s==t)=false) (A B:Option Addr) (n m c d:Nat) (xs ys:List Int) (w:World) (hx:aD w A n xs) (hy:aD w B m ys) (ig:n<=c) (hc:c<=9223372036854775807) (kX:m<=d) (hd:d<=9223372036854775807) (hn:n<=4000000000000) (hm:m<=4000000000000) (mS:¬limbs ys<=limbs xs):
 aC 66 #[.agg #[.bool s,.slice A n c],.agg #[.bool t,.slice B m d]] w (gj w (aF s xs+aF t ys) (max n m+1)):=by
 have Cs:=aA (fun W (h:Below w.heap.size w W)=>KC A B n m c d xs ys W (hx.aB h) (hy.aB h) (by omega) (by omega));have Cs2:=aA (fun W (h:Below w.heap.size w W)=>KC B A m n d c ys xs W (hy.aB h) (hx.aB h) (by omega) (by omega));have Cz:=aA (fun (neg:Bool) A' n' c' zs W h h1 h2 h3=>oP neg A' n' c' zs W h h1 h2 h3);obtain ⟨b1,b2,b3,da,db,dr,hsz⟩:=stZ w s A n c t B m d;go_enter func66,ntmps66
 go_wp2_with fail
 have Da:=aA da;have Db:=aA db;have Dr:=aA dr
 clear da db dr b1 b2 hx hy;generalize ((w.alloc (.cells #[.bool s,.slice A n c] 41)).alloc (.cells #[.bool t,.slice B m d] 41)).alloc (.cells #[.bool false,.slice none 0 0] 41)=wt at*
 have a0:=Da.o.cell0;have a1:=Da.o.cell1;have e0:=Db.o.cell0;have e1:=Db.o.cell1;have r0:=Dr.o.cell0;have r1:=Dr.o.cell1;have f0:=Dr.o.frozen 0;have f1:=Dr.o.frozen 1;have la:w.heap.size<wt.heap.size:=by omega
 have lb:w.heap.size+1<wt.heap.size:=by omega
 have lr:w.heap.size+1+1<wt.heap.size:=by omega
 have keep:=BS la lb a0 a1 e0 e1
 have res:=OG lr r0 r1 Dr
 clear r0 r1 f0 f1;have nJ:w.heap.size+1+1≠w.heap.size:=by omega
 have nI:w.heap.size+1+1≠w.heap.size+1:=by omega
 have jy:w.heap.size<=w.heap.size+1+1:=by omega
 have U2:w.heap.size<=wt.heap.size:=by omega
 clear hsz;generalize w.heap.size+1+1=gr at*
 generalize w.heap.size+1=gb at*
 go_wp2_with fail
 refine (Cs.o _ (by exact b3)).mono ?_;intro e w0 kG;obtain ⟨rfl,akn⟩:=kG.no mS;obtain ⟨u1,u2,u3,u4⟩:=keep.o w0 akn;clear a0 a1 e0 e1 kG;go_wp2_with fail
 refine (Cs2.o _ (b3.trans (akn.mono (by omega)))).mono ?_;intro e w1 kG;obtain ⟨A1,k1,c1,zs,rfl,g4,g5,g3,g6,g1,g2,uF⟩:=kG.yes (by omega);have ah:Below wt.heap.size wt w1:=akn.tm uF;obtain ⟨v1,v2,v3,v4⟩:=keep.o w1 ah;clear u1 u2 u3 u4 kG;go_wp2_with fail
 refine (Cz.o t A1 k1 c1 zs w1 g6 g4 g5 (by have:=g6.len;omega)).mono ?_;rintro e w2 ⟨s2,A2,k2,c2,ls,rfl,q1,q2,q3,q4,q5,qf,qq⟩;have iU:Below wt.heap.size wt w2:=ah.tm qq;clear v1 v2 v3 v4;have AG:=Dr.o.aB iU;have cU:Below w.heap.size w w2:=b3.trans (iU.mono (by omega));have hz:bW s2 ls (aF s xs+aF t ys):=by rw [NJ,<- pz (s:=t) (t:=s) (by cases s<;>cases t<;>simp_all) g2 (by omega)];exact q5
 have HF:Hid (0<k2->∀y,A2=some y->w.heap.size<=y.block):=fun h0 y hy=>aH (aH U2 ah.size) (qf h0 y hy);have uX:k2<=max n m+1:=by have:=g6.len;omega
 have Hz:=aA hz;have HD:=aA AG;have QM:=aA q4;obtain ⟨r0,r1,f0,f1⟩:=res.o w2 iU;clear hz AG q4 q5 g6 keep qf;go_wp2
 exact ax (cI (fn:=f66) rfl _ _ _ _ _ _ _ rfl (HD.o.set _ _) underlying41 rfl aT) rfl
  ⟨s2,A2,k2,c2,ls,rfl,q1,q2,uX,HD.o.limbs _ _ rfl rfl QM.o,Hz.o,HF.o,(cU.setCell (p:=⟨gr,0,none⟩) jy _).setCell (p:=⟨gr,1,none⟩) jy _⟩
def aiG (s t:Bool) (A B:Option Addr) (n m c d:Nat) (xs ys:List Int) (w:World) (hx:aD w A n xs) (hy:aD w B m ys) (ig:n<=c) (hc:c<=9223372036854775807) (kX:m<=d) (hd:d<=9223372036854775807) (hn:n<=4000000000000) (hm:m<=4000000000000):
 aC 66 #[.agg #[.bool s,.slice A n c],.agg #[.bool t,.slice B m d]] w (gj w (aF s xs+aF t ys) (max n m+1)):=by
 by_cases hst:(s==t)=true
 . exact OL s t hst A B n m c d xs ys w hx hy ig hc kX hd hn hm
 . have aeH:(s==t)=false:=by simpa using hst
   by_cases mS:limbs ys<=limbs xs
   . exact WS s t aeH A B n m c d xs ys w hx hy ig hc kX hd hn hm mS
   . exact WR s t aeH A B n m c d xs ys w hx hy ig hc kX hd hn hm mS
def WM (z:Int):Lq z=0↔z=0:=by unfold Lq;split<;>(try split)<;>omega
def JK (w:World) (K:Nat) (a b:Int) (e:Ending) (w':World):Prop:=
 ∃s1 A1 k1 c1 l1 s2 A2 k2 c2 l2,e=.returned (.tuple #[.agg #[.bool s1,.slice A1 k1 c1],.agg #[.bool s2,.slice A2 k2 c2],.int .i64 0])∧k1<=K∧k2<=K∧k1<=c1∧c1<=9223372036854775807∧k2<=c2∧c2<=9223372036854775807∧aD w' A1 k1 l1∧aD w' A2 k2 l2∧bW s1 l1 (a / b)∧bW s2 l2 (a % b)∧(0<k1->∀y,A1=some y->w.heap.size<=y.block)∧Below w.heap.size w w'
def Ym (A B:Option Addr) (n m c d:Nat) (xs ys:List Int) (w:World) (hx:aD w A n xs) (hy:aD w B m ys) (ig:n<=c) (hc:c<=9223372036854775807) (kX:m<=d) (hd:d<=9223372036854775807) (hn:n<=3900000000000) (hm:m<=3900000000000) (h0:0<limbs ys):
 aC 93 #[.agg #[.bool false,.slice A n c],.agg #[.bool false,.slice B m d]] w (JK w (n+m+10) (aF false xs) (aF false ys)):=by
 have Cd:=aA (fun W (h:Below w.heap.size w W)=>UW A B n m c d xs ys W (hx.aB h) (hy.aB h) (by omega) (by omega) h0);obtain ⟨da,db,dq,dr,b4⟩:=Pm w (.bool false) (.slice A n c) (.bool false) (.slice B m d) (.bool false) (.slice none 0 0) (.bool false) (.slice none 0 0);go_enter func93,ntmps93
 go_wp2_with fail
 have Da:=aA da;have Db:=aA db;have Dq:=aA dq;have Dr:=aA dr;have a1:=da.cell1;have e1:=db.cell1;have Hy:=aA (hy.aB b4);clear da db dq dr hx hy;generalize (((w.alloc (.cells #[.bool false,.slice A n c] 41)).alloc (.cells #[.bool false,.slice B m d] 41)).alloc (.cells #[.bool false,.slice none 0 0] 41)).alloc (.cells #[.bool false,.slice none 0 0] 41)=wt at*
 go_wp2_with fail
 refine (Cd.o _ (by exact b4)).mono ?_;rintro e w1 ⟨A1,k1,c1,qs,A2,k2,c2,rs,rfl,g5,g6,g7,fW,g1,g3,g8,g9,jV,yQ,g2,g4,ah⟩;have q0:=(Da.o.aB ah).cell0;have q1:=(Db.o.aB ah).cell0;have q2:=(Db.o.aB ah).cell1;have H5:=aA fW;have H6:=aA yQ;have NV:=aA (Hy.o.aB ah);clear fW yQ a1 e1;go_wp2_with fail
 refine (oP false A1 k1 c1 qs w1 H5.o (by omega) (by omega) (by omega)).mono ?_;rintro e w7 ⟨s7,A7,k7,c7,ls,rfl,m1,m2,m3,m4,m5,mf,eG⟩;have HF:Hid (0<k7->∀y,A7=some y->w.heap.size<=y.block):=fun h0 y hy=>aH (aH b4.size ah.size) (mf h0 y hy);clear mf;clear q0 q1 q2;go_wp2_with fail
 refine (vK false A2 k2 c2 rs w7 (H6.o.aB eG) (by omega) (by omega) (by omega)).mono ?_;rintro e w8 ⟨s8,A8,k8,c8,l8,rfl,p1,p2,p3,p4,p5,iD⟩;have jh:Below wt.heap.size wt w8:=(ah.tm eG).trans (iD.mono ((ah.tm eG).size));have jS:=Dq.o.aB jh;have iu:=Dr.o.aB jh;have r0:=jS.cell0;have r1:=jS.cell1;have t0:=iu.cell0;have t1:=iu.cell1;have f0:=jS.frozen 0;have f1:=jS.frozen 1;have f2:=iu.frozen 0;have f3:=iu.frozen 1;have JR:=aA (m4.aB iD);have Fk:=aA p4;have nJ:w.heap.size+1+1≠w.heap.size+1+1+1:=by omega
 have nI:w.heap.size+1+1+1≠w.heap.size+1+1:=by omega
 have jy:w.heap.size<=w.heap.size+1+1:=by omega
 have xR:w.heap.size<=w.heap.size+1+1+1:=by omega
 have Hb:Hid (Below w.heap.size w w8):=b4.tm jh;have Hz:Hid (bW s7 ls (aF false xs / aF false ys)):=by
  have h:=m5;have e:aF false qs=aF false xs / aF false ys:=((qH false g3 g4 h0).1);rw [e] at h;exact h
 have JM:Hid (bW s8 l8 (aF false xs % aF false ys)):=by
  have h:=p5;have e:aF false rs=aF false xs % aF false ys:=((qH false g3 g4 h0).2);rw [e] at h;exact h
 have HQ:=aA jS;have HR:=aA iu;have II:k7<=n+m+10:=by omega
 have Bj:k8<=n+m+10:=by omega
 clear jS iu m4 m5 p4 p5 jh ah eG iD b4 Cd g1 g2 g3 g4;generalize w.heap.size+1+1+1=gr at*
 generalize w.heap.size+1+1=gq at*
 go_wp2_with fail
 have X1:=(HR.o.other ⟨gq,0,none⟩ nJ (.bool s7)).other ⟨gq,1,none⟩ nJ (.slice A7 k7 c7);have X2:=((HQ.o.set (.bool s7) (.slice A7 k7 c7)).other ⟨gr,0,none⟩ nI (.bool s8)).other ⟨gr,1,none⟩ nI (.slice A8 k8 c8);refine ax (cQ (fn:=f93) rfl _ _ _ _ _ _ _ _ _ _ _ _ rfl X2 rfl (X1.set _ _) underlying41 rfl aT underlying41 rfl aT) rfl ?_;exact ⟨s7,A7,k7,c7,ls,s8,A8,k8,c8,l8,rfl,II,Bj,m1,m2,p1,p2,X1.limbs _ _ rfl rfl (HQ.o.limbs _ _ rfl rfl JR.o),X1.limbs _ _ rfl rfl (HQ.o.limbs _ _ rfl rfl Fk.o),Hz.o,JM.o,HF.o,(((Hb.o.setCell (p:=⟨gq,0,none⟩) jy _).setCell (p:=⟨gq,1,none⟩) jy _).setCell (p:=⟨gr,0,none⟩) xR _).setCell (p:=⟨gr,1,none⟩) xR _⟩
def Yl (A B:Option Addr) (n m c d:Nat) (xs ys:List Int) (w:World) (hx:aD w A n xs) (hy:aD w B m ys) (ig:n<=c) (hc:c<=9223372036854775807) (kX:m<=d) (hd:d<=9223372036854775807) (hn:n<=3900000000000) (hm:m<=3900000000000) (h0:0<limbs ys):
 aC 93 #[.agg #[.bool false,.slice A n c],.agg #[.bool true,.slice B m d]] w (JK w (n+m+10) (aF false xs) (aF true ys)):=by
 have Cd:=aA (fun W (h:Below w.heap.size w W)=>UW A B n m c d xs ys W (hx.aB h) (hy.aB h) (by omega) (by omega) h0);obtain ⟨da,db,dq,dr,b4⟩:=Pm w (.bool false) (.slice A n c) (.bool true) (.slice B m d) (.bool false) (.slice none 0 0) (.bool false) (.slice none 0 0);go_enter func93,ntmps93
 go_wp2_with fail
 have Da:=aA da;have Db:=aA db;have Dq:=aA dq;have Dr:=aA dr;have a1:=da.cell1;have e1:=db.cell1;have Hy:=aA (hy.aB b4);clear da db dq dr hx hy;generalize (((w.alloc (.cells #[.bool false,.slice A n c] 41)).alloc (.cells #[.bool true,.slice B m d] 41)).alloc (.cells #[.bool false,.slice none 0 0] 41)).alloc (.cells #[.bool false,.slice none 0 0] 41)=wt at*
 go_wp2_with fail
 refine (Cd.o _ (by exact b4)).mono ?_;rintro e w1 ⟨A1,k1,c1,qs,A2,k2,c2,rs,rfl,g5,g6,g7,fW,g1,g3,g8,g9,jV,yQ,g2,g4,ah⟩;have q0:=(Da.o.aB ah).cell0;have q1:=(Db.o.aB ah).cell0;have q2:=(Db.o.aB ah).cell1;have H5:=aA fW;have H6:=aA yQ;have NV:=aA (Hy.o.aB ah);clear fW yQ a1 e1;go_wp2_with fail
 refine (oP true A1 k1 c1 qs w1 H5.o (by omega) (by omega) (by omega)).mono ?_;rintro e w7 ⟨s7,A7,k7,c7,ls,rfl,m1,m2,m3,m4,m5,mf,eG⟩;have HF:Hid (0<k7->∀y,A7=some y->w.heap.size<=y.block):=fun h0 y hy=>aH (aH b4.size ah.size) (mf h0 y hy);clear mf;clear q0 q1 q2;go_wp2_with fail
 refine (vK false A2 k2 c2 rs w7 (H6.o.aB eG) (by omega) (by omega) (by omega)).mono ?_;rintro e w8 ⟨s8,A8,k8,c8,l8,rfl,p1,p2,p3,p4,p5,iD⟩;have jh:Below wt.heap.size wt w8:=(ah.tm eG).trans (iD.mono ((ah.tm eG).size));have jS:=Dq.o.aB jh;have iu:=Dr.o.aB jh;have r0:=jS.cell0;have r1:=jS.cell1;have t0:=iu.cell0;have t1:=iu.cell1;have f0:=jS.frozen 0;have f1:=jS.frozen 1;have f2:=iu.frozen 0;have f3:=iu.frozen 1;have JR:=aA (m4.aB iD);have Fk:=aA p4;have nJ:w.heap.size+1+1≠w.heap.size+1+1+1:=by omega
 have nI:w.heap.size+1+1+1≠w.heap.size+1+1:=by omega
 have jy:w.heap.size<=w.heap.size+1+1:=by omega
 have xR:w.heap.size<=w.heap.size+1+1+1:=by omega
 have Hb:Hid (Below w.heap.size w w8):=b4.tm jh;have Hz:Hid (bW s7 ls (aF false xs / aF true ys)):=by
  have h:=m5;have e:aF true qs=aF false xs / aF true ys:=((qH true g3 g4 h0).1);rw [e] at h;exact h
 have JM:Hid (bW s8 l8 (aF false xs % aF true ys)):=by
  have h:=p5;have e:aF false rs=aF false xs % aF true ys:=((qH true g3 g4 h0).2);rw [e] at h;exact h
 have HQ:=aA jS;have HR:=aA iu;have II:k7<=n+m+10:=by omega
 have Bj:k8<=n+m+10:=by omega
 clear jS iu m4 m5 p4 p5 jh ah eG iD b4 Cd g1 g2 g3 g4;generalize w.heap.size+1+1+1=gr at*
 generalize w.heap.size+1+1=gq at*
 go_wp2_with fail
 have X1:=(HR.o.other ⟨gq,0,none⟩ nJ (.bool s7)).other ⟨gq,1,none⟩ nJ (.slice A7 k7 c7);have X2:=((HQ.o.set (.bool s7) (.slice A7 k7 c7)).other ⟨gr,0,none⟩ nI (.bool s8)).other ⟨gr,1,none⟩ nI (.slice A8 k8 c8);refine ax (cQ (fn:=f93) rfl _ _ _ _ _ _ _ _ _ _ _ _ rfl X2 rfl (X1.set _ _) underlying41 rfl aT underlying41 rfl aT) rfl ?_;exact ⟨s7,A7,k7,c7,ls,s8,A8,k8,c8,l8,rfl,II,Bj,m1,m2,p1,p2,X1.limbs _ _ rfl rfl (HQ.o.limbs _ _ rfl rfl JR.o),X1.limbs _ _ rfl rfl (HQ.o.limbs _ _ rfl rfl Fk.o),Hz.o,JM.o,HF.o,(((Hb.o.setCell (p:=⟨gq,0,none⟩) jy _).setCell (p:=⟨gq,1,none⟩) jy _).setCell (p:=⟨gr,0,none⟩) xR _).setCell (p:=⟨gr,1,none⟩) xR _⟩
def Yk (A B:Option Addr) (n m c d:Nat) (xs ys:List Int) (w:World) (hx:aD w A n xs) (hy:aD w B m ys) (ig:n<=c) (hc:c<=9223372036854775807) (kX:m<=d) (hd:d<=9223372036854775807) (hn:n<=3900000000000) (hm:m<=3900000000000) (h0:0<limbs ys):
 aC 93 #[.agg #[.bool true,.slice A n c],.agg #[.bool false,.slice B m d]] w (JK w (n+m+10) (aF true xs) (aF false ys)):=by
 have Cd:=aA (fun W (h:Below w.heap.size w W)=>UW A B n m c d xs ys W (hx.aB h) (hy.aB h) (by omega) (by omega) h0);obtain ⟨da,db,dq,dr,b4⟩:=Pm w (.bool true) (.slice A n c) (.bool false) (.slice B m d) (.bool false) (.slice none 0 0) (.bool false) (.slice none 0 0);go_enter func93,ntmps93
 go_wp2_with fail
 have Da:=aA da;have Db:=aA db;have Dq:=aA dq;have Dr:=aA dr;have a1:=da.cell1;have e1:=db.cell1;have Hy:=aA (hy.aB b4);clear da db dq dr hx hy;generalize (((w.alloc (.cells #[.bool true,.slice A n c] 41)).alloc (.cells #[.bool false,.slice B m d] 41)).alloc (.cells #[.bool false,.slice none 0 0] 41)).alloc (.cells #[.bool false,.slice none 0 0] 41)=wt at*
 go_wp2_with fail
 refine (Cd.o _ (by exact b4)).mono ?_;rintro e w1 ⟨A1,k1,c1,qs,A2,k2,c2,rs,rfl,g5,g6,g7,fW,g1,g3,g8,g9,jV,yQ,g2,g4,ah⟩;have q0:=(Da.o.aB ah).cell0;have q1:=(Db.o.aB ah).cell0;have q2:=(Db.o.aB ah).cell1;have H5:=aA fW;have H6:=aA yQ;have NV:=aA (Hy.o.aB ah);clear fW yQ a1 e1;have uX:=H6.o.len;by_cases hz:k2=0
 . have Ko:¬(0:Int)<(k2:Int):=by omega
   have oK:limbs rs=0:=g2.iY.2 (by omega);clear hz;go_wp2_with fail
   refine (oP true A1 k1 c1 qs w1 H5.o (by omega) (by omega) (by omega)).mono ?_;rintro e w7 ⟨s7,A7,k7,c7,ls,rfl,m1,m2,m3,m4,m5,mf,eG⟩;have HF:Hid (0<k7->∀y,A7=some y->w.heap.size<=y.block):=fun h0 y hy=>aH (aH b4.size ah.size) (mf h0 y hy);clear mf;clear q0 q1 q2;go_wp2_with fail
   refine (vK false A2 k2 c2 rs w7 (H6.o.aB eG) (by omega) (by omega) (by omega)).mono ?_;rintro e w8 ⟨s8,A8,k8,c8,l8,rfl,p1,p2,p3,p4,p5,iD⟩;have jh:Below wt.heap.size wt w8:=(ah.tm eG).trans (iD.mono ((ah.tm eG).size));have jS:=Dq.o.aB jh;have iu:=Dr.o.aB jh;have r0:=jS.cell0;have r1:=jS.cell1;have t0:=iu.cell0;have t1:=iu.cell1;have f0:=jS.frozen 0;have f1:=jS.frozen 1;have f2:=iu.frozen 0;have f3:=iu.frozen 1;have JR:=aA (m4.aB iD);have Fk:=aA p4;have nJ:w.heap.size+1+1≠w.heap.size+1+1+1:=by omega
   have nI:w.heap.size+1+1+1≠w.heap.size+1+1:=by omega
   have jy:w.heap.size<=w.heap.size+1+1:=by omega
   have xR:w.heap.size<=w.heap.size+1+1+1:=by omega
   have Hb:Hid (Below w.heap.size w w8):=b4.tm jh;have Hz:Hid (bW s7 ls (aF true xs / aF false ys)):=by
    have h:=m5;have e:aF true qs=aF true xs / aF false ys:=((oC false g3 g4 oK h0).1);rw [e] at h;exact h
   have JM:Hid (bW s8 l8 (aF true xs % aF false ys)):=by
    have h:=p5;have e:aF false rs=aF true xs % aF false ys:=((oC false g3 g4 oK h0).2);rw [e] at h;exact h
   have HQ:=aA jS;have HR:=aA iu;have II:k7<=n+m+10:=by omega
   have Bj:k8<=n+m+10:=by omega
   clear jS iu m4 m5 p4 p5 jh ah eG iD b4 Cd g1 g2 g3 g4;generalize w.heap.size+1+1+1=gr at*
   generalize w.heap.size+1+1=gq at*
   go_wp2_with fail
   have X1:=(HR.o.other ⟨gq,0,none⟩ nJ (.bool s7)).other ⟨gq,1,none⟩ nJ (.slice A7 k7 c7);have X2:=((HQ.o.set (.bool s7) (.slice A7 k7 c7)).other ⟨gr,0,none⟩ nI (.bool s8)).other ⟨gr,1,none⟩ nI (.slice A8 k8 c8);refine ax (cQ (fn:=f93) rfl _ _ _ _ _ _ _ _ _ _ _ _ rfl X2 rfl (X1.set _ _) underlying41 rfl aT underlying41 rfl aT) rfl ?_;exact ⟨s7,A7,k7,c7,ls,s8,A8,k8,c8,l8,rfl,II,Bj,m1,m2,p1,p2,X1.limbs _ _ rfl rfl (HQ.o.limbs _ _ rfl rfl JR.o),X1.limbs _ _ rfl rfl (HQ.o.limbs _ _ rfl rfl Fk.o),Hz.o,JM.o,HF.o,(((Hb.o.setCell (p:=⟨gq,0,none⟩) jy _).setCell (p:=⟨gq,1,none⟩) jy _).setCell (p:=⟨gr,0,none⟩) xR _).setCell (p:=⟨gr,1,none⟩) xR _⟩
 . have Ko:(0:Int)<(k2:Int):=by omega
   have oK:0<limbs rs:=pV (fun e=>hz (by have:=g2.iY.1 e;omega));have Dx:limbs rs<=limbs ys:=by rw [g4];exact nK (jO _ h0)
   have uu:=aD.one w1 38 (x:=1) (by omega) (by omega);have Mo:Below w1.heap.size w1 (w1.alloc (.cells #[.int .u64 1] 38)):=aW.alloc aK _;have Ca:=aA (Yp A1 (some ⟨w1.heap.size,0,none⟩) k1 1 c1 1 qs [1] _ (H5.o.aB Mo) uu (by omega) (by omega));have Cs:=aA (fun W (h:Below w1.heap.size w1 W)=>KC B A2 m k2 d c2 ys rs W (NV.o.aB h) (H6.o.aB h) (by omega) (by omega));have zA:=H5.o.len;have Cw:=NV.o.len;clear hz uu;go_wp2_with fail
   refine Ca.o.mono ?_;rintro e w4 ⟨A4,k4,c4,qa,rfl,f4a,f4b,f4k,Xd,f4p,f4v,SP⟩;have vW:Below wt.heap.size wt w4:=ah.trans ((Mo.tm SP).mono ah.size);have IL:Below w1.heap.size w1 w4:=Mo.tm SP;replace q0:=(Da.o.aB vW).cell0
   replace q1:=(Db.o.aB vW).cell0
   replace q2:=(Db.o.aB vW).cell1
   clear Ca;go_wp2_with fail
   refine (Cs.o _ IL).mono ?_;intro e w5 hsb;obtain ⟨A5,k5,c5,bs,rfl,f5a,f5b,f5k,Xc,f5p,f5v,SN⟩:=hsb.yes Dx;have xW:Below wt.heap.size wt w5:=vW.tm SN;replace q0:=(Da.o.aB xW).cell0
   replace q1:=(Db.o.aB xW).cell0
   replace q2:=(Db.o.aB xW).cell1
   have f4L:=aA (Xd.aB SN);have f5L:=aA Xc;have hk4:k4<=n+3:=by omega
   have hk5:k5<=n+m+3:=by omega
   have hq4:limbs qa=limbs xs / limbs ys+1:=by rw [f4v,g3];rfl
   have hr5:limbs bs=limbs ys-limbs xs % limbs ys:=by rw [f5v,g4]
   have hrm:0<limbs xs % limbs ys:=by rw [<- g4];exact oK
   clear Cs Xd SP Xc SN hsb zA Cw vW IL Mo Dx;go_wp2_with fail
   refine (oP true A4 k4 c4 qa w5 f4L.o (by omega) (by omega) (by omega)).mono ?_;rintro e w7 ⟨s7,A7,k7,c7,ls,rfl,m1,m2,m3,m4,m5,mf,eG⟩;have HF:Hid (0<k7->∀y,A7=some y->w.heap.size<=y.block):=fun h0 y hy=>aH (aH b4.size xW.size) (mf h0 y hy);clear mf;clear q0 q1 q2;go_wp2_with fail
   refine (vK false A5 k5 c5 bs w7 (f5L.o.aB eG) (by omega) (by omega) (by omega)).mono ?_;rintro e w8 ⟨s8,A8,k8,c8,l8,rfl,p1,p2,p3,p4,p5,iD⟩;have jh:Below wt.heap.size wt w8:=(xW.tm eG).trans (iD.mono ((xW.tm eG).size));have jS:=Dq.o.aB jh;have iu:=Dr.o.aB jh;have r0:=jS.cell0;have r1:=jS.cell1;have t0:=iu.cell0;have t1:=iu.cell1;have f0:=jS.frozen 0;have f1:=jS.frozen 1;have f2:=iu.frozen 0;have f3:=iu.frozen 1;have JR:=aA (m4.aB iD);have Fk:=aA p4;have nJ:w.heap.size+1+1≠w.heap.size+1+1+1:=by omega
   have nI:w.heap.size+1+1+1≠w.heap.size+1+1:=by omega
   have jy:w.heap.size<=w.heap.size+1+1:=by omega
   have xR:w.heap.size<=w.heap.size+1+1+1:=by omega
   have Hb:Hid (Below w.heap.size w w8):=b4.tm jh;have Hz:Hid (bW s7 ls (aF true xs / aF false ys)):=by
    have h:=m5;have e:aF true qa=aF true xs / aF false ys:=((qI false hq4 hr5 hrm h0).1);rw [e] at h;exact h
   have JM:Hid (bW s8 l8 (aF true xs % aF false ys)):=by
    have h:=p5;have e:aF false bs=aF true xs % aF false ys:=((qI false hq4 hr5 hrm h0).2);rw [e] at h;exact h
   have HQ:=aA jS;have HR:=aA iu;have II:k7<=n+m+10:=by omega
   have Bj:k8<=n+m+10:=by omega
   clear jS iu m4 m5 p4 p5 jh ah eG iD b4 Cd g1 g2 g3 g4;generalize w.heap.size+1+1+1=gr at*
   generalize w.heap.size+1+1=gq at*
   go_wp2_with fail
   have X1:=(HR.o.other ⟨gq,0,none⟩ nJ (.bool s7)).other ⟨gq,1,none⟩ nJ (.slice A7 k7 c7);have X2:=((HQ.o.set (.bool s7) (.slice A7 k7 c7)).other ⟨gr,0,none⟩ nI (.bool s8)).other ⟨gr,1,none⟩ nI (.slice A8 k8 c8);refine ax (cQ (fn:=f93) rfl _ _ _ _ _ _ _ _ _ _ _ _ rfl X2 rfl (X1.set _ _) underlying41 rfl aT underlying41 rfl aT) rfl ?_;exact ⟨s7,A7,k7,c7,ls,s8,A8,k8,c8,l8,rfl,II,Bj,m1,m2,p1,p2,X1.limbs _ _ rfl rfl (HQ.o.limbs _ _ rfl rfl JR.o),X1.limbs _ _ rfl rfl (HQ.o.limbs _ _ rfl rfl Fk.o),Hz.o,JM.o,HF.o,(((Hb.o.setCell (p:=⟨gq,0,none⟩) jy _).setCell (p:=⟨gq,1,none⟩) jy _).setCell (p:=⟨gr,0,none⟩) xR _).setCell (p:=⟨gr,1,none⟩) xR _⟩
def Yj (A B:Option Addr) (n m c d:Nat) (xs ys:List Int) (w:World) (hx:aD w A n xs) (hy:aD w B m ys) (ig:n<=c) (hc:c<=9223372036854775807) (kX:m<=d) (hd:d<=9223372036854775807) (hn:n<=3900000000000) (hm:m<=3900000000000) (h0:0<limbs ys):
 aC 93 #[.agg #[.bool true,.slice A n c],.agg #[.bool true,.slice B m d]] w (JK w (n+m+10) (aF true xs) (aF true ys)):=by
 have Cd:=aA (fun W (h:Below w.heap.size w W)=>UW A B n m c d xs ys W (hx.aB h) (hy.aB h) (by omega) (by omega) h0);obtain ⟨da,db,dq,dr,b4⟩:=Pm w (.bool true) (.slice A n c) (.bool true) (.slice B m d) (.bool false) (.slice none 0 0) (.bool false) (.slice none 0 0);go_enter func93,ntmps93
 go_wp2_with fail
 have Da:=aA da;have Db:=aA db;have Dq:=aA dq;have Dr:=aA dr;have a1:=da.cell1;have e1:=db.cell1;have Hy:=aA (hy.aB b4);clear da db dq dr hx hy;generalize (((w.alloc (.cells #[.bool true,.slice A n c] 41)).alloc (.cells #[.bool true,.slice B m d] 41)).alloc (.cells #[.bool false,.slice none 0 0] 41)).alloc (.cells #[.bool false,.slice none 0 0] 41)=wt at*
 go_wp2_with fail
 refine (Cd.o _ (by exact b4)).mono ?_;rintro e w1 ⟨A1,k1,c1,qs,A2,k2,c2,rs,rfl,g5,g6,g7,fW,g1,g3,g8,g9,jV,yQ,g2,g4,ah⟩;have q0:=(Da.o.aB ah).cell0;have q1:=(Db.o.aB ah).cell0;have q2:=(Db.o.aB ah).cell1;have H5:=aA fW;have H6:=aA yQ;have NV:=aA (Hy.o.aB ah);clear fW yQ a1 e1;have uX:=H6.o.len;by_cases hz:k2=0
 . have Ko:¬(0:Int)<(k2:Int):=by omega
   have oK:limbs rs=0:=g2.iY.2 (by omega);clear hz;go_wp2_with fail
   refine (oP false A1 k1 c1 qs w1 H5.o (by omega) (by omega) (by omega)).mono ?_;rintro e w7 ⟨s7,A7,k7,c7,ls,rfl,m1,m2,m3,m4,m5,mf,eG⟩;have HF:Hid (0<k7->∀y,A7=some y->w.heap.size<=y.block):=fun h0 y hy=>aH (aH b4.size ah.size) (mf h0 y hy);clear mf;clear q0 q1 q2;go_wp2_with fail
   refine (vK false A2 k2 c2 rs w7 (H6.o.aB eG) (by omega) (by omega) (by omega)).mono ?_;rintro e w8 ⟨s8,A8,k8,c8,l8,rfl,p1,p2,p3,p4,p5,iD⟩;have jh:Below wt.heap.size wt w8:=(ah.tm eG).trans (iD.mono ((ah.tm eG).size));have jS:=Dq.o.aB jh;have iu:=Dr.o.aB jh;have r0:=jS.cell0;have r1:=jS.cell1;have t0:=iu.cell0;have t1:=iu.cell1;have f0:=jS.frozen 0;have f1:=jS.frozen 1;have f2:=iu.frozen 0;have f3:=iu.frozen 1;have JR:=aA (m4.aB iD);have Fk:=aA p4;have nJ:w.heap.size+1+1≠w.heap.size+1+1+1:=by omega
   have nI:w.heap.size+1+1+1≠w.heap.size+1+1:=by omega
   have jy:w.heap.size<=w.heap.size+1+1:=by omega
   have xR:w.heap.size<=w.heap.size+1+1+1:=by omega
   have Hb:Hid (Below w.heap.size w w8):=b4.tm jh;have Hz:Hid (bW s7 ls (aF true xs / aF true ys)):=by
    have h:=m5;have e:aF false qs=aF true xs / aF true ys:=((oC true g3 g4 oK h0).1);rw [e] at h;exact h
   have JM:Hid (bW s8 l8 (aF true xs % aF true ys)):=by
    have h:=p5;have e:aF false rs=aF true xs % aF true ys:=((oC true g3 g4 oK h0).2);rw [e] at h;exact h
   have HQ:=aA jS;have HR:=aA iu;have II:k7<=n+m+10:=by omega
   have Bj:k8<=n+m+10:=by omega
   clear jS iu m4 m5 p4 p5 jh ah eG iD b4 Cd g1 g2 g3 g4;generalize w.heap.size+1+1+1=gr at*
   generalize w.heap.size+1+1=gq at*
   go_wp2_with fail
   have X1:=(HR.o.other ⟨gq,0,none⟩ nJ (.bool s7)).other ⟨gq,1,none⟩ nJ (.slice A7 k7 c7);have X2:=((HQ.o.set (.bool s7) (.slice A7 k7 c7)).other ⟨gr,0,none⟩ nI (.bool s8)).other ⟨gr,1,none⟩ nI (.slice A8 k8 c8);refine ax (cQ (fn:=f93) rfl _ _ _ _ _ _ _ _ _ _ _ _ rfl X2 rfl (X1.set _ _) underlying41 rfl aT underlying41 rfl aT) rfl ?_;exact ⟨s7,A7,k7,c7,ls,s8,A8,k8,c8,l8,rfl,II,Bj,m1,m2,p1,p2,X1.limbs _ _ rfl rfl (HQ.o.limbs _ _ rfl rfl JR.o),X1.limbs _ _ rfl rfl (HQ.o.limbs _ _ rfl rfl Fk.o),Hz.o,JM.o,HF.o,(((Hb.o.setCell (p:=⟨gq,0,none⟩) jy _).setCell (p:=⟨gq,1,none⟩) jy _).setCell (p:=⟨gr,0,none⟩) xR _).setCell (p:=⟨gr,1,none⟩) xR _⟩
 . have Ko:(0:Int)<(k2:Int):=by omega
   have oK:0<limbs rs:=pV (fun e=>hz (by have:=g2.iY.1 e;omega));have Dx:limbs rs<=limbs ys:=by rw [g4];exact nK (jO _ h0)
   have uu:=aD.one w1 38 (x:=1) (by omega) (by omega);have Mo:Below w1.heap.size w1 (w1.alloc (.cells #[.int .u64 1] 38)):=aW.alloc aK _;have Ca:=aA (Yp A1 (some ⟨w1.heap.size,0,none⟩) k1 1 c1 1 qs [1] _ (H5.o.aB Mo) uu (by omega) (by omega));have Cs:=aA (fun W (h:Below w1.heap.size w1 W)=>KC B A2 m k2 d c2 ys rs W (NV.o.aB h) (H6.o.aB h) (by omega) (by omega));have zA:=H5.o.len;have Cw:=NV.o.len;clear hz uu;go_wp2_with fail
   refine Ca.o.mono ?_;rintro e w4 ⟨A4,k4,c4,qa,rfl,f4a,f4b,f4k,Xd,f4p,f4v,SP⟩;have vW:Below wt.heap.size wt w4:=ah.trans ((Mo.tm SP).mono ah.size);have IL:Below w1.heap.size w1 w4:=Mo.tm SP;replace q0:=(Da.o.aB vW).cell0
   replace q1:=(Db.o.aB vW).cell0
   replace q2:=(Db.o.aB vW).cell1
   clear Ca;go_wp2_with fail
   refine (Cs.o _ IL).mono ?_;intro e w5 hsb;obtain ⟨A5,k5,c5,bs,rfl,f5a,f5b,f5k,Xc,f5p,f5v,SN⟩:=hsb.yes Dx;have xW:Below wt.heap.size wt w5:=vW.tm SN;replace q0:=(Da.o.aB xW).cell0
   replace q1:=(Db.o.aB xW).cell0
   replace q2:=(Db.o.aB xW).cell1
   have f4L:=aA (Xd.aB SN);have f5L:=aA Xc;have hk4:k4<=n+3:=by omega
   have hk5:k5<=n+m+3:=by omega
   have hq4:limbs qa=limbs xs / limbs ys+1:=by rw [f4v,g3];rfl
   have hr5:limbs bs=limbs ys-limbs xs % limbs ys:=by rw [f5v,g4]
   have hrm:0<limbs xs % limbs ys:=by rw [<- g4];exact oK
   clear Cs Xd SP Xc SN hsb zA Cw vW IL Mo Dx;go_wp2_with fail
   refine (oP false A4 k4 c4 qa w5 f4L.o (by omega) (by omega) (by omega)).mono ?_;rintro e w7 ⟨s7,A7,k7,c7,ls,rfl,m1,m2,m3,m4,m5,mf,eG⟩;have HF:Hid (0<k7->∀y,A7=some y->w.heap.size<=y.block):=fun h0 y hy=>aH (aH b4.size xW.size) (mf h0 y hy);clear mf;clear q0 q1 q2;go_wp2_with fail
   refine (vK false A5 k5 c5 bs w7 (f5L.o.aB eG) (by omega) (by omega) (by omega)).mono ?_;rintro e w8 ⟨s8,A8,k8,c8,l8,rfl,p1,p2,p3,p4,p5,iD⟩;have jh:Below wt.heap.size wt w8:=(xW.tm eG).trans (iD.mono ((xW.tm eG).size));have jS:=Dq.o.aB jh;have iu:=Dr.o.aB jh;have r0:=jS.cell0;have r1:=jS.cell1;have t0:=iu.cell0;have t1:=iu.cell1;have f0:=jS.frozen 0;have f1:=jS.frozen 1;have f2:=iu.frozen 0;have f3:=iu.frozen 1;have JR:=aA (m4.aB iD);have Fk:=aA p4;have nJ:w.heap.size+1+1≠w.heap.size+1+1+1:=by omega
   have nI:w.heap.size+1+1+1≠w.heap.size+1+1:=by omega
   have jy:w.heap.size<=w.heap.size+1+1:=by omega
   have xR:w.heap.size<=w.heap.size+1+1+1:=by omega
   have Hb:Hid (Below w.heap.size w w8):=b4.tm jh;have Hz:Hid (bW s7 ls (aF true xs / aF true ys)):=by
    have h:=m5;have e:aF false qa=aF true xs / aF true ys:=((qI true hq4 hr5 hrm h0).1);rw [e] at h;exact h
   have JM:Hid (bW s8 l8 (aF true xs % aF true ys)):=by
    have h:=p5;have e:aF false bs=aF true xs % aF true ys:=((qI true hq4 hr5 hrm h0).2);rw [e] at h;exact h
   have HQ:=aA jS;have HR:=aA iu;have II:k7<=n+m+10:=by omega
   have Bj:k8<=n+m+10:=by omega
   clear jS iu m4 m5 p4 p5 jh ah eG iD b4 Cd g1 g2 g3 g4;generalize w.heap.size+1+1+1=gr at*
   generalize w.heap.size+1+1=gq at*
   go_wp2_with fail
   have X1:=(HR.o.other ⟨gq,0,none⟩ nJ (.bool s7)).other ⟨gq,1,none⟩ nJ (.slice A7 k7 c7);have X2:=((HQ.o.set (.bool s7) (.slice A7 k7 c7)).other ⟨gr,0,none⟩ nI (.bool s8)).other ⟨gr,1,none⟩ nI (.slice A8 k8 c8);refine ax (cQ (fn:=f93) rfl _ _ _ _ _ _ _ _ _ _ _ _ rfl X2 rfl (X1.set _ _) underlying41 rfl aT underlying41 rfl aT) rfl ?_;exact ⟨s7,A7,k7,c7,ls,s8,A8,k8,c8,l8,rfl,II,Bj,m1,m2,p1,p2,X1.limbs _ _ rfl rfl (HQ.o.limbs _ _ rfl rfl JR.o),X1.limbs _ _ rfl rfl (HQ.o.limbs _ _ rfl rfl Fk.o),Hz.o,JM.o,HF.o,(((Hb.o.setCell (p:=⟨gq,0,none⟩) jy _).setCell (p:=⟨gq,1,none⟩) jy _).setCell (p:=⟨gr,0,none⟩) xR _).setCell (p:=⟨gr,1,none⟩) xR _⟩
def Yi (s t:Bool) (A B:Option Addr) (n m c d:Nat) (xs ys:List Int) (w:World) (hx:aD w A n xs) (hy:aD w B m ys) (ig:n<=c) (hc:c<=9223372036854775807) (kX:m<=d) (hd:d<=9223372036854775807) (hn:n<=3900000000000) (hm:m<=3900000000000) (h0:0<limbs ys):
 aC 93 #[.agg #[.bool s,.slice A n c],.agg #[.bool t,.slice B m d]] w (JK w (n+m+10) (aF s xs) (aF t ys)):=by
 cases s<;>cases t
 . exact Ym A B n m c d xs ys w hx hy ig hc kX hd hn hm h0
 . exact Yl A B n m c d xs ys w hx hy ig hc kX hd hn hm h0
 . exact Yk A B n m c d xs ys w hx hy ig hc kX hd hn hm h0
 . exact Yj A B n m c d xs ys w hx hy ig hc kX hd hn hm h0
def JJ (w:World) (K:Nat) (a b:Int) (e:Ending) (w':World):Prop:=
 ∃s1 A1 k1 c1 l1,e=.returned (.tuple #[.agg #[.bool s1,.slice A1 k1 c1],.int .i64 (if a % b=0 then 0 else 4)])∧k1<=K∧k1<=c1∧c1<=9223372036854775807∧aD w' A1 k1 l1∧(a % b=0->bW s1 l1 (a / b))∧(0<k1->∀y,A1=some y->w.heap.size<=y.block)∧Below w.heap.size w w'
section
variable (s t : Bool) (A B : Option Addr) (n m c d : Nat) (xs ys : List Int) (w : World) (hx : aD w A n xs) (hy : aD w B m ys) (ig : n <= c) (hc : c <= 9223372036854775807) (kX : m <= d) (hd : d <= 9223372036854775807) (hn : n <= 3900000000000) (hm : m <= 3900000000000) (h0 : 0 < limbs ys)
include hx hy ig hc kX hd hn hm h0
theorem Yh:aC 75 #[.agg #[.bool s,.slice A n c],.agg #[.bool t,.slice B m d]] w (JJ w (n+m+10) (aF s xs) (aF t ys)):=by
 have Cd:=aA (fun W (h:Below w.heap.size w W)=>Yi s t A B n m c d xs ys W (hx.aB h) (hy.aB h) ig hc kX hd hn hm h0);have al:∀(W:World) (o:Obj),Below W.heap.size W (W.alloc o):=fun W o=>aW.alloc aK o;have da:=((Duo.new w (.bool s) (.slice A n c)).aB (al _ (.cells #[.bool t,.slice B m d] 41))).aB (al _ (.cells #[.bool false,.slice none 0 0] 41));have db:=(Duo.new (w.alloc (.cells #[.bool s,.slice A n c] 41)) (.bool t) (.slice B m d)).aB (al _ (.cells #[.bool false,.slice none 0 0] 41));have dr:=Duo.new ((w.alloc (.cells #[.bool s,.slice A n c] 41)).alloc (.cells #[.bool t,.slice B m d] 41)) (.bool false) (.slice none 0 0);rw [aJ] at db;rw [aJ,aJ] at dr;have b3:Below w.heap.size w (((w.alloc (.cells #[.bool s,.slice A n c] 41)).alloc (.cells #[.bool t,.slice B m d] 41)).alloc (.cells #[.bool false,.slice none 0 0] 41)):=((al w _).alloc (by simp) _).alloc (by simp;omega) _;generalize aF s xs=za at*
 generalize aF t ys=zb at*
 go_enter func75,ntmps75
 go_wp2_with fail
 have a0:=da.cell0;have a1:=da.cell1;have e0:=db.cell0;have e1:=db.cell1;have Dr:=aA dr;clear da db dr hx hy al h0;generalize ((w.alloc (.cells #[.bool s,.slice A n c] 41)).alloc (.cells #[.bool t,.slice B m d] 41)).alloc (.cells #[.bool false,.slice none 0 0] 41)=wt at*
 go_wp2_with fail
 refine (Cd.o _ (by exact b3)).mono ?_;rintro e w1 ⟨s1,A1,k1,c1,l1,s2,A2,k2,c2,l2,rfl,g1,g2,g3,g4,g5,g6,g7,g8,g9,jV,gf,ah⟩;have HF:Hid (0<k1->∀y,A1=some y->w.heap.size<=y.block):=fun h0 y hy=>aH b3.size (gf h0 y hy);clear gf;have al:∀(W:World) (o:Obj),Below W.heap.size W (W.alloc o):=fun W o=>aW.alloc aK o;have dq:=(Duo.new w1 (.bool s1) (.slice A1 k1 c1)).aB (al _ (.cells #[.bool s2,.slice A2 k2 c2] 41));have de:=Duo.new (w1.alloc (.cells #[.bool s1,.slice A1 k1 c1] 41)) (.bool s2) (.slice A2 k2 c2);rw [aJ] at de;have cU:Below wt.heap.size wt ((w1.alloc (.cells #[.bool s1,.slice A1 k1 c1] 41)).alloc (.cells #[.bool s2,.slice A2 k2 c2] 41)):=(ah.alloc ah.size _).alloc (by have:=ah.size;simp;omega) _;have hL:=(g7.alloc (.cells #[.bool s1,.slice A1 k1 c1] 41)).alloc (.cells #[.bool s2,.slice A2 k2 c2] 41);have GC:=(g8.alloc (.cells #[.bool s1,.slice A1 k1 c1] 41)).alloc (.cells #[.bool s2,.slice A2 k2 c2] 41);have Hz:=aA g9;have HL:=aA hL;have Qh:=aA GC;have HB:=aA cU;have HDq:=aA dq;have HDe:=aA de;have Fx:Lq (aF s2 l2)=0↔za % zb=0:=by rw [jV.eq];exact WM _
 have e2:=de.cell0;have e3:=de.cell1;clear a0 a1 e0 e1 dq de hL GC cU g7 g8 g9 jV al;go_wp2_with fail
 have hlt:=ah.size;clear ah;generalize (w1.alloc (.cells #[.bool s1,.slice A1 k1 c1] 41)).alloc (.cells #[.bool s2,.slice A2 k2 c2] 41)=w2 at*
 refine (Qz s2 A2 k2 c2 l2 w2 Qh.o g5 g6 (by omega)).mono ?_;rintro e w3 ⟨rfl,ym⟩;have nV:Below wt.heap.size wt w3:=HB.o.tm ym;have jS:=HDq.o.aB ym;have iu:=Dr.o.aB nV;have q0:=jS.cell0;have q1:=jS.cell1;have r0:=iu.cell0;have r1:=iu.cell1;have f0:=iu.frozen 0;have f1:=iu.frozen 1;have hL3:=aA (HL.o.aB ym);have jy:w.heap.size<=w.heap.size+1+1:=by omega
 have Hb:Hid (Below w.heap.size w w3):=b3.tm nV;have HD3:=aA iu;have Hsg:=aA Fx;clear nV ym jS iu b3 Cd HL HB HDq HDe Fx e2 e3;generalize Lq (aF s2 l2)=sg at*
 by_cases hz:za % zb=0
 . have tZ:(sg==0)=true:=by simp;exact Hsg.o.2 hz
   have uW:(sg !=0)=false:=by simp;exact Hsg.o.2 hz
   have HZ:=aA hz;clear hz;go_wp2_with fail
   refine ax (results_cell_tmp (fn:=f75) rfl _ _ _ _ _ _ _ rfl (HD3.o.set _ _) underlying41 rfl aT) rfl ?_;unfold JJ;rw [aM HZ.o];exact ⟨s1,A1,k1,c1,l1,rfl,g1,g3,g4,HD3.o.limbs _ _ rfl rfl hL3.o,fun _=>Hz.o,HF.o,(Hb.o.setCell (p:=⟨w.heap.size+1+1,0,none⟩) jy _).setCell (p:=⟨w.heap.size+1+1,1,none⟩) jy _⟩
 . have tZ:(sg==0)=false:=by simp;exact fun e=>hz (Hsg.o.1 e)
   have uW:(sg !=0)=true:=by simp;exact fun e=>hz (Hsg.o.1 e)
   have HZ:=aA hz;clear hz;go_wp2_with fail
   refine ax (results_cell_tmp (fn:=f75) rfl _ _ _ _ _ _ _ rfl (HD3.o.set _ _) underlying41 rfl aT) rfl ?_;unfold JJ;rw [af HZ.o];exact ⟨false,none,0,0,[],rfl,by omega,by omega,by omega,aD.nil _ _,fun h=>absurd h HZ.o,fun h=>absurd h (by omega),(Hb.o.setCell (p:=⟨w.heap.size+1+1,0,none⟩) jy _).setCell (p:=⟨w.heap.size+1+1,1,none⟩) jy _⟩
end
def zF {s:Bool} {X:Nat}(h:bW s xs (X:Int)):s=false∧limbs xs=X:=by
 have h1:=h.eq;have h2:=h.nz;have h3:=h.pl.iY;unfold aF at h1;cases s
 . simp at h1;exact ⟨rfl,by omega⟩
 . simp at h1
   have:=h2 rfl;omega
def anp (s t:Bool) (A B:Option Addr) (n m c d:Nat) (xs ys:List Int) (w:World) (hx:aD w A n xs) (hy:aD w B m ys) (ig:n<=c) (hc:c<=9223372036854775807) (kX:m<=d) (hd:d<=9223372036854775807) (hn:n<=3900000000000) (hm:m<=3900000000000):
 aC 60 #[.agg #[.bool s,.slice A n c],.agg #[.bool t,.slice B m d]] w (tV w ((Nat.gcd (limbs xs) (limbs ys):Nat):Int) (max n m)):=by
 have al:∀(W:World) (o:Obj),Below W.heap.size W (W.alloc o):=fun W o=>aW.alloc aK o;have da:=((Duo.new w (.bool s) (.slice A n c)).aB (al _ (.cells #[.bool t,.slice B m d] 41))).aB (al _ (.cells #[.bool false,.slice none 0 0] 41));have db:=(Duo.new (w.alloc (.cells #[.bool s,.slice A n c] 41)) (.bool t) (.slice B m d)).aB (al _ (.cells #[.bool false,.slice none 0 0] 41));have dr:=Duo.new ((w.alloc (.cells #[.bool s,.slice A n c] 41)).alloc (.cells #[.bool t,.slice B m d] 41)) (.bool false) (.slice none 0 0);rw [aJ] at db;rw [aJ,aJ] at dr;have b3:Below w.heap.size w (((w.alloc (.cells #[.bool s,.slice A n c] 41)).alloc (.cells #[.bool t,.slice B m d] 41)).alloc (.cells #[.bool false,.slice none 0 0] 41)):=((al w _).alloc (by simp) _).alloc (by simp;omega) _;have Cx:=aA (fun W (h:Below w.heap.size w W)=>agx s A n c xs W (hx.aB h) ig hc (by omega));have Cy:=aA (fun W (h:Below w.heap.size w W)=>agx t B m d ys W (hy.aB h) kX hd (by omega));go_enter func60,ntmps60
 go_wp2_with fail
 have a0:=da.cell0;have a1:=da.cell1;have Db:=aA db;have Dr:=aA dr;clear da db dr hx hy al;generalize ((w.alloc (.cells #[.bool s,.slice A n c] 41)).alloc (.cells #[.bool t,.slice B m d] 41)).alloc (.cells #[.bool false,.slice none 0 0] 41)=wt at*
 go_wp2_with fail
 refine (Cx.o _ (by exact b3)).mono ?_;rintro e w1 ⟨s1,A1,n5,c1,us,rfl,x1,x2,x3,x4,x5,Mm⟩;have akl:Below wt.heap.size wt (w1.alloc (.cells #[.bool s1,.slice A1 n5 c1] 41)):=Mm.alloc Mm.size _;have dx1:=Duo.new w1 (.bool s1) (.slice A1 n5 c1);have X4:=aA (x4.alloc (.cells #[.bool s1,.slice A1 n5 c1] 41));have Db1:=Db.o.aB akl;have e0:=Db1.cell0;have e1:=Db1.cell1;have alS:=aA akl;have Dx1:=aA dx1;have X5:=aA x5;have wQ:wt.heap.size<=w1.heap.size:=Mm.size;clear a0 a1 Db1 Mm akl dx1 x4 x5;go_wp2_with fail
 generalize hgx:w1.heap.size=gx at*
 clear hgx;generalize w1.alloc (.cells #[.bool s1,.slice A1 n5 c1] 41)=w2 at*
 refine (Cy.o _ (b3.tm alS.o)).mono ?_;rintro e w3 ⟨s2,A2,n6,c2,vs,rfl,y1,y2,y3,y4,y5,GA⟩;have aff:Below w2.heap.size w2 (w3.alloc (.cells #[.bool s2,.slice A2 n6 c2] 41)):=GA.alloc GA.size _;have Dy1:=aA (Duo.new w3 (.bool s2) (.slice A2 n6 c2));have Dx2:=aA (Dx1.o.aB aff);have X4':=aA (X4.o.aB aff);have Y4:=aA (y4.alloc (.cells #[.bool s2,.slice A2 n6 c2] 41));have Y5:=aA y5;have HB:=aA (alS.o.tm aff);have apj:=Dx1.o.lt;have R9:gx<w3.heap.size:=gh apj GA.size;clear e0 e1 GA aff y4 y5 apj Dx1 X4 alS;go_wp2_with fail
 generalize hgy:w3.heap.size=gy at*
 clear hgy;generalize w3.alloc (.cells #[.bool s2,.slice A2 n6 c2] 41)=w4 at*
 have hZx:=zF X5.o;have hZy:=zF Y5.o;have asa:=aA (Dr.o.aB HB.o);have Hw4:Hid (Below w.heap.size w w4):=b3.tm HB.o;have cZ:Hid (n5<=max n m∧n6<=max n m):=⟨by omega,by omega⟩;obtain ⟨K,hK⟩:∃K,max n m=K:=⟨_,rfl⟩;have HKm:=aA hK;have hK1:K<=3900000000000:=by omega
 rw [hK] at cZ;have hP1:Hid (bX us):=X5.o.pl;have hP2:Hid (bX vs):=Y5.o.pl;obtain ⟨rfl,ex⟩:=hZx;obtain ⟨rfl,ey⟩:=hZy;obtain ⟨G,hG⟩:∃G,(limbs us).gcd (limbs vs)=G:=⟨_,rfl⟩;have HG:=aA hG;have HGG:Hid ((limbs xs).gcd (limbs ys)=G):=by show _=_;rw [<- ex,<- ey];exact hG
 have gxw:w.heap.size+1+1<gx:=by have:=Dr.o.lt;omega
 have gyx:gx<gy:=R9;have gyw:gy<w4.heap.size:=Dy1.o.lt;clear ex ey hG hK b3 HB X5 Y5 Cx Cy Db Dr wQ R9;go_loopg [7,8,9] (limbs vs+1) (fun gk _ _ _ wr=>∃A5 n5 c5 Jb A6 n6 c6 zG,Hid (Duo wr gx (.bool false) (.slice A5 n5 c5))∧Hid (Duo wr gy (.bool false) (.slice A6 n6 c6))∧n5<=c5∧c5<=9223372036854775807∧n6<=c6∧c6<=9223372036854775807∧Hid (n5<=K∧n6<=K)∧Hid (aD wr A5 n5 Jb)∧Hid (aD wr A6 n6 zG)∧Hid (bX Jb∧bX zG)∧Hid ((limbs Jb).gcd (limbs zG)=G)∧Hid (limbs zG<gk)∧Hid (Duo wr (w.heap.size+1+1) (.bool false) (.slice none 0 0))∧Hid (Below w.heap.size w wr))
 case atStart=>exact ⟨A1,n5,c1,us,A2,n6,c2,vs,Dx2,Dy1,x1,x2,y1,y2,cZ,X4',Y4,⟨hP1.o,hP2.o⟩,HG,xm _,asa,Hw4⟩
 case round=>
  clear x1 x2 x3 y1 y2 y3 X4' Y4 hP1 hP2 HG cZ Dx2 Dy1 asa Hw4 gyw;obtain ⟨A5,n5,c5,Jb,A6,n6,c6,zG,D5,D6,u1,u2,u3,u4,cZ,L5,L6,hPP,hG,Mh,D4,hB⟩:=hrel;have y0:=D6.o.cell0;have y1:=D6.o.cell1;have Cs:=aA (Qz false A6 n6 c6 zG wr L6.o u3 u4 (by have:=cZ.o;omega));have XH:aF false zG=((limbs zG:Nat):Int):=rfl;by_cases h0:limbs zG=0
  . have Mj:Hid (limbs Jb=G):=by
     have:=hG.o;rw [h0,S6] at this;exact this
    (have Fx:Lq (aF false zG)=0:=by rw [XH,h0];rfl);rw [Fx] at Cs;clear h0 Fx XH L6 hG Mh;(go_wp2_with fail);refine Cs.o.mono ?_;rintro e w7 ⟨rfl,eG⟩;have Xy:=D4.o.aB eG;have r0:=Xy.cell0;have r1:=Xy.cell1;have f0:=Xy.frozen 0;have f1:=Xy.frozen 1;have k0:=(D5.o.aB eG).cell0;have k1:=(D5.o.aB eG).cell1;(have jy:w.heap.size<=w.heap.size+1+1:=by omega);have Hb:Hid (Below w.heap.size w w7):=hB.o.tm eG;have HL:=aA (L5.o.aB eG);have HD:=aA Xy;have HZ:Hid (bW false Jb (G:Int)):=⟨hPP.o.1,by unfold aF;rw [af (by decide),Mj.o],fun h=>by cases h⟩;have X9:n5<=K:=cZ.o.1;clear eG Xy Cs y0 y1;(go_wp2);exact ax (cI (fn:=f60) rfl _ _ _ _ _ _ _ rfl (HD.o.set _ _) underlying41 rfl aT) rfl
     ⟨false,A5,n5,c5,Jb,rfl,u1,u2,by rw [HKm.o];exact X9,HD.o.limbs _ _ rfl rfl HL.o,by rw [HGG.o];exact HZ.o,(Hb.o.setCell (p:=⟨w.heap.size+1+1,0,none⟩) jy _).setCell (p:=⟨w.heap.size+1+1,1,none⟩) jy _⟩
  . have tq:0<limbs zG:=pV h0
    (have Fx:Lq (aF false zG)=1:=by rw [XH];unfold Lq;rw [af (by omega),aM (by omega)]);rw [Fx] at Cs;have Cd:=aA (fun W (h:Below wr.heap.size wr W)=>Yi false false A5 A6 n5 n6 c5 c6 Jb zG W (L5.o.aB h) (L6.o.aB h) u1 u2 u3 u4 (by have:=cZ.o;omega) (by have:=cZ.o;omega) tq);have Hpos:=aA tq;have Hs6:=aA XH;have hs5:Hid (aF false Jb=((limbs Jb:Nat):Int)):=rfl;clear h0 tq Fx XH;(go_wp2_with fail);refine Cs.o.mono ?_;rintro e w7 ⟨rfl,eG⟩;have k0:=(D5.o.aB eG).cell0;have k1:=(D5.o.aB eG).cell1;have m0:=(D6.o.aB eG).cell0;have m1:=(D6.o.aB eG).cell1;clear y0 y1;(go_wp2_with fail);refine (Cd.o _ eG).mono ?_;rintro e w8 ⟨s7,A7,k7,c7,qs,s8,A8,k8,c8,rs,rfl,z1,z2,z3,z4,z5,z6,z7,z8,z9,z10,_,jh⟩;have hZr:=zF (X:=limbs Jb % limbs zG) (by rw [Hs6.o,hs5.o,<- abT] at z10;exact z10);obtain ⟨rfl,Cj⟩:=hZr;have hPr:bX rs:=z10.pl;have Bj:k8<=n6:=by
     have q1:=zL hPr (j:=n6) (by have h5:=eH L6.o.ok;rw [L6.o.len] at h5;have h6:=jO (limbs Jb) Hpos.o;omega);rw [z8.len] at q1;exact q1
    have al:∀(W:World) (o:Obj),Below W.heap.size W (W.alloc o):=fun W o=>aW.alloc aK o;have de:=Duo.new (w8.alloc (.cells #[.bool s7,.slice A7 k7 c7] 41)) (.bool false) (.slice A8 k8 c8);rw [aJ] at de;have Fh:Below wr.heap.size wr ((w8.alloc (.cells #[.bool s7,.slice A7 k7 c7] 41)).alloc (.cells #[.bool false,.slice A8 k8 c8] 41)):=((eG.tm jh).alloc (by have:=eG.size;have:=jh.size;omega) _).alloc (by have:=eG.size;have:=jh.size;simp;omega) _;have VO:=D5.o.aB Fh;have hD6:=D6.o.aB Fh;have hD4:=D4.o.aB Fh;have m0':=hD6.cell0;have m1':=hD6.cell1;have d0':=de.cell0;have d1':=de.cell1;have f0:=VO.frozen 0;have f1:=VO.frozen 1;have f2:=hD6.frozen 0;have f3:=hD6.frozen 1;have x0:=VO.cell0;have x1:=VO.cell1;have hL8:=(z8.aB (al w8 (.cells #[.bool s7,.slice A7 k7 c7] 41))).aB (al _ (.cells #[.bool false,.slice A8 k8 c8] 41));have hL6:=L6.o.aB Fh;have hg8:gy<w8.heap.size:=gh D6.o.lt (aH eG.size jh.size);have Fk:=aA hL8;have HL6:=aA hL6;have HD5:=aA VO;have HD6:=aA hD6;have HD4:=aA hD4;have HDe:=aA de;have Xv:=aA Fh;have Hrl:=aA Cj;have HPr:=aA hPr;have HP6:Hid (bX zG):=hPP.o.2;clear k0 k1 m0 m1 z1 z2 z7 z8 z9 z10 jh eG hL8 hL6 VO hD6 hD4 de Fh Cj hPr al Cs Cd;(go_wp2_with fail);generalize ((w8.alloc (.cells #[.bool s7,.slice A7 k7 c7] 41)).alloc (.cells #[.bool false,.slice A8 k8 c8] 41))=w9 at*
    have q5:=HD5.o.set (.bool false) (.slice A6 n6 c6);have q6:=(HD6.o.other ⟨gx,0,none⟩ (by show gx≠gy;omega) (.bool false)).other ⟨gx,1,none⟩ (by show gx≠gy;omega) (.slice A6 n6 c6);have q4:=(HD4.o.other ⟨gx,0,none⟩ (by show gx≠_;omega) (.bool false)).other ⟨gx,1,none⟩ (by show gx≠_;omega) (.slice A6 n6 c6);have p6:=HD5.o.limbs (.bool false) (.slice A6 n6 c6) rfl rfl HL6.o;have p8:=HD5.o.limbs (.bool false) (.slice A6 n6 c6) rfl rfl Fk.o;have r6:=q6.limbs (.bool false) (.slice A8 k8 c8) rfl rfl p6;have r8:=q6.limbs (.bool false) (.slice A8 k8 c8) rfl rfl p8;have r5:=(q5.other ⟨gy,0,none⟩ (by show gy≠gx;omega) (.bool false)).other ⟨gy,1,none⟩ (by show gy≠gx;omega) (.slice A8 k8 c8);have t6:=q6.set (.bool false) (.slice A8 k8 c8);have t4:=(q4.other ⟨gy,0,none⟩ (by show gy≠_;omega) (.bool false)).other ⟨gy,1,none⟩ (by show gy≠_;omega) (.slice A8 k8 c8);(have hgx:w.heap.size<=gx:=by omega);(have hgy:w.heap.size<=gy:=by omega);have hB2:=hB.o.tm Xv.o;have hB3:=(((hB2.setCell (p:=⟨gx,0,none⟩) hgx (.bool false)).setCell (p:=⟨gx,1,none⟩) hgx (.slice A6 n6 c6)).setCell (p:=⟨gy,0,none⟩) hgy (.bool false)).setCell (p:=⟨gy,1,none⟩) hgy (.slice A8 k8 c8);have hG2:(limbs zG).gcd (limbs rs)=G:=by
     rw [Hrl.o,<- hG.o,NH,<- Nat.gcd_rec,NH]
    (have hlt:limbs rs<limbs zG:=by rw [Hrl.o];exact jO _ Hpos.o);go_roundg (gk-1)
    case measure=>have:=Mh.o;omega
    case rel=>exact ⟨A6,n6,c6,zG,A8,k8,c8,rs,r5,t6,u3,u4,z5,z6,⟨cZ.o.2,by have:=cZ.o;omega⟩,r6,r8,⟨HP6.o,HPr.o⟩,hG2,by have:=Mh.o;show _<_;omega,t4,hB3⟩
