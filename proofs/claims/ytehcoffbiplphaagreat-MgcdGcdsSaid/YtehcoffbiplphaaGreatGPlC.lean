import Derived.Test.YtehcoffbiplphaaGreatGPlB
import Derived.Test.YtehcoffbiplphaaGreatGTk
import Derived.Test.YtehcoffbiplphaaGreatGTrI
set_option linter.all false
set_option maxHeartbeats 16000000
set_option maxRecDepth 100000
namespace Go.Proofs.YtehcoffbiplphaaGreat
open Go.Proofs.Tryz
open Go.RowKit aG
variable {w:World} {base sz n bq k i:Nat} {v:Value} {Q R:Nat->Prop} {es:List Int}
def lS {e:TypeId} {xs:List Value}(h:w.ownsRow base e sz v n xs):∃A c,v=.slice A n c:=by
 rcases h.2 with ⟨hv,h0⟩ | ⟨g,cap,cur,hv,_⟩
 . exact ⟨none,0,by rw [hv,h0]⟩
 . exact ⟨_,cap,hv⟩
structure Tz (bq:Nat) (v:Value) (Vs:List Value):Prop where
 v:v.ownBlock≠some bq
 Vs:∀(j:Nat) (V:Value),Vs[j]? =some V->V.ownBlock≠some bq
def NT.adV {TT TE:TypeId} {w0 wr:World} {Vs:List Value} {Es:List (List bA)}(h:NT TT TE w0 wr v Vs Es) (hb:wr.heap.size<=bq):Tz bq v Vs:=
 ⟨fun e=>by have:=(h.own.lt bq e).2;omega,fun j V hj e=>by
   obtain ⟨V',E',q1,q2,q3⟩:=h.at_ (FU.1 hj).1;rw [hj] at q1;injection q1 with q1
   subst q1;have:=(q3.lt bq e).2;omega⟩
def Tz.push {gg cap:Nat} {Vs:List Value}(h:Tz bq v Vs) (gO:v.ownBlock=some gg∨bq<gg):Tz bq (.slice (some ⟨gg,0,none⟩) n cap) (Vs++[.slice none 0 0]):=
 ⟨fun e=>by
   have e2:gg=bq:=by injection e
   rcases gO with h1 | h1
   . exact h.v (by rw [h1,e2])
   . omega,fun j V hj=>by
   rcases qz j Vs.length with hl | hl
   . rw [Sr hl] at hj;exact h.Vs j V hj
   . rw [CK hl] at hj
     have hj2:=JH hj;rw [en.1 hj2];exact fun e=>by cases e⟩
def Wo {L:List TV} (hk:k<L.length):aU (L.take (k+1))=aU (L.take k)++[bp L[k]]:=by
 rw [lu hk,fT];rfl
def MJ {L:List TV} {t:mj}(ht:t∈aU (L.take k)):t∈aU L:=by
 obtain ⟨s,hs,rfl⟩:=aj.1 ht;exact aj.2 ⟨s,uU hs,rfl⟩
def oH {P:Program} {t:TypeId} {z:Value} {s b:Nat}(h:(P.info? t).map (fun i=>(i.zero,i.size,i.bytes))=some (some z,s,b)):∃i,P.info? t=some i∧i.zero=some z∧i.size=s∧i.bytes=b:=by
 cases hi:P.info? t with
 | none=>rw [hi] at h;cases h
 | some i=>
   rw [hi] at h;simp only [Option.map_some,Option.some.injEq,Prod.mk.injEq] at h;exact ⟨i,rfl,h.1,h.2.1,h.2.2⟩
def N0:(prog.info? 22).map (fun i=>(i.zero,i.size,i.bytes))=some (some (.slice none 0 0),1,24):=by kernel_rfl
def GP:(prog.info? 44).map (fun i=>(i.zero,i.size,i.bytes))=some (some (.agg #[.bool false,.slice none 0 0,.slice none 0 0]),3,56):=by kernel_rfl
attribute [-go_sem] Builtin.append_
def ael (C:Nat) (hC:C<=1000000) (m:Nat) (ih:NS m C):NS (m+1) C:=by
 intro n i A mm c L w hni hn hx hL hmc hc;obtain ⟨i0,uA,iQ,iC,iP⟩:=oH sQ;obtain ⟨j0,Qd,uK,yg,Fw⟩:=oH N0;obtain ⟨l0,zx,Mc,Bg,FZ⟩:=oH GP;have wR:=hL.cnt;have hml:=hx.len;have hm:mm<=4096:=by omega
 have hne:((i:Int)==(n:Int))=false:=jD.2 (by omega);have Hx:=aA hx;have HL:=aA hL;have IP:=aA (QA hL.co (pH hx) wR);have tq:=aA (show∀t∈aU L,0<=nth t.1 i from fun t ht=>(hL.YE t ht _ (iK (by rw [hL.O7 t ht];omega))).1);have t0:=aa.new w (.bool false) (.slice none 0 0) (.slice none 0 0);have hb:Below w.heap.size w (w.alloc (.cells #[.bool false,.slice none 0 0,.slice none 0 0] 51)):=aW.alloc aK _;have hsz:Hid ((w.alloc (.cells #[.bool false,.slice none 0 0,.slice none 0 0] 51)).heap.size=w.heap.size+1):=aJ _ _;have YH:=aA hni;clear hx hL hni hml;go_enter func28,ntmps28
 go_wp2_with fail
 generalize kj:w.alloc (.cells #[.bool false,.slice none 0 0,.slice none 0 0] 51)=wo at*
 clear kj;have T0:=aA t0;have HB:=aA hb;have Hx1:=aA (Hx.o.aB hb);clear t0 hb;go_loopw [10,35] (fun v kk wr=>∃(k:Nat) (Vs:List Value) (Es:List (List bA)),k<=mm∧kk=.int .i64 (k:Int)∧Hid (NT 22 44 wo wr v Vs Es)∧Hid (wJ i L (aU (L.take k)) Es)∧Hid (Es.length=mQ i (aU (L.take k)))) (fun _ kk _=>mm-(intOf kk).toNat)
 case atStart=>exact ⟨0,[],[],dc _,rfl,NT.start _ _ aW,wJ.start i L,rfl⟩
 case round=>
  obtain ⟨k,Vs,Es,hk,rfl,hP,hO,hN⟩:=hrel;obtain ⟨wp,rfl⟩:∃wp:World,wp=wr:=⟨_,rfl⟩;by_cases hlt:k<mm
  . obtain ⟨b,o,rfl,IK,hcc⟩:=Hx1.o.at_ (by omega)
    (have vD:k<L.length:=by have:=Hx.o.len;omega);obtain ⟨Ai,ci,Ei,ei,e1,e2,e3,e4,e5,e6,e7,e8,e9⟩:=hcc k vD;have wY:=HL.o.len _ (bw vD);have uG:=HL.o.bd _ (bw vD) _ (iK (xs:=(L[k]).2) (i:=i) (by have:=YH.o;omega));(have dI:(k:Int)<(mm:Int):=by omega);(have wP:(0:Int)<=(k:Int):=by omega);have aog:=hP.o.aB.size;rw [aq 3 k] at e1 e2 e3;rw [<- j9] at e2 e3;have g1:=(hP.o.aB.cell (p:=⟨b,o+k*3,none⟩) IK).trans e1;have g2:=(hP.o.aB.cell (p:=⟨b,o+k*3+1,none⟩) IK).trans e2;have g3:=(hP.o.aB.cell (p:=⟨b,o+k*3+2,none⟩) IK).trans e3;have XD:Hid (aU (L.take (k+1))=aU (L.take k)++[bp L[k]]):=Wo vD;have Md:Hid (L[k]∈L):=bw vD;have hpk:Hid (∀t∈aU (L.take k),0<=nth t.1 i):=fun t ht=>tq.o t (MJ ht);have E8:=aA e8;have E9:=aA e9;obtain ⟨be,oe,hE9,qw,hce⟩:=e9.at_ (by have:=YH.o;omega);subst hE9;have Ks:=hce i (by have:=YH.o;omega);clear e1 e2 e3 e8 e9 hcc hce;generalize L[k]=x at*
    obtain ⟨⟨sx,xs⟩,ps⟩:=x;simp only at g1 g2 g3 e4 e5 e6 e7 E8 E9 wY uG Ks;have hNx:Hid (nth (bp ((sx,xs),ps)).1 i=nth ps i):=rfl;obtain ⟨j,hj⟩:∃j:Nat,nth ps i=(j:Int):=⟨(nth ps i).toNat,by omega⟩;rw [hj] at uG Ks hNx;(have hip:(i:Int)<(ps.length:Int):=by have:=YH.o;omega);(have apg:(0:Int)<=(i:Int):=by omega);have JO:=aA wY;clear wY;have tb:=JI.new 44 wp (.bool sx) (.slice Ai xs.length ci) (.slice (some ⟨be,oe,none⟩) ps.length ei);have bT:Below wp.heap.size wp (wp.alloc (.cells #[.bool sx,.slice Ai xs.length ci,.slice (some ⟨be,oe,none⟩) ps.length ei] 44)):=aW.alloc aK _;have hP1:=aA (hP.o.ji bT);have aox:Hid (Tz wp.heap.size u10 Vs):=hP.o.adV aK;(have avn:wp.heap.size<(wp.alloc (.cells #[.bool sx,.slice Ai xs.length ci,.slice (some ⟨be,oe,none⟩) ps.length ei] 44)).heap.size:=by simp);(go_wp2_with fail);generalize Z6:wp.alloc (.cells #[.bool sx,.slice Ai xs.length ci,.slice (some ⟨be,oe,none⟩) ps.length ei] 44)=wq at*
    clear Z6;have TB:=aA tb;clear tb bT hP;go_loopg [10] (j+2) (fun gk v wr=>∃(Vs:List Value) (Es:List (List bA)),j+1-Vs.length<gk∧Hid (NT 22 44 wo wr v Vs Es)∧Hid (wJ i L (aU (L.take k)) Es)∧Hid (Es.length<=max (mQ i (aU (L.take k))) (j+1))∧Hid (JI 44 wr wp.heap.size (.bool sx) (.slice Ai xs.length ci) (.slice (some ⟨be,oe,none⟩) ps.length ei))∧Hid (Tz wp.heap.size v Vs)∧wp.heap.size<wr.heap.size)
    case atStart=>exact ⟨Vs,Es,by omega,hP1,hO,aH (kQ hN.o) (LI _ _),TB,aox,by omega⟩
    case round=>
     clear hP1 hO hN TB aox;obtain ⟨Nl,Es',Mh,hP,hO,hN,hT,hof,aHt⟩:=hrel;obtain ⟨xy,rfl⟩:∃xy:World,xy=wr:=⟨_,rfl⟩;have c2:=hT.o.aP;have VI:=hP.o.aB.size;have hcE:=(hP.o.aB.cell (p:=⟨be,oe+i,none⟩) qw).trans Ks;(have zU:be<xy.heap.size:=by omega);have Ru:=hT.o.lt;obtain ⟨Av,cv,hv⟩:=lS hP.o.own;subst hv;by_cases mS:Nl.length<=j
     . have awc:(Nl.length:Int)<=(j:Int):=by omega
       have HOW:=aA hP.o.own;(go_wp2_with (at_builtin;refine nv _ (by rfl) _ _ _ (by rfl) wo.heap.size 22 j0 _ 1 24 underlying54 Qd uK yg Fw rfl (by omega) (.slice Av Nl.length cv) Nl.length Nl (by rfl) (HOW.o.alloc _) ⟨xy.heap.size,0,none⟩ 1 1 [.slice none 0 0] (by rfl) (by rfl) (gK (cs:=#[.slice none 0 0]) (t:=22) (fr:=(0,0)) (bO xy _)) (by simp [Value.oneCell']) (by omega) (by unfold maxLen;omega) (by omega) (by simp;omega) (xy.heap.size+1) (by simp) ?_;intro gg cap w8 fu aX gO rT));have hP8:=aA (hP.o.push fu aX gO);have Pa:=aA (hO.o.push hpk.o);have avI:Hid (Tz wp.heap.size (.slice (some ⟨gg,0,none⟩) (Nl.length+1) cap) (Nl++[.slice none 0 0])):=hof.o.push (gO.imp id fun h=>by omega);have o8:Only (fun b=>(Value.slice Av Nl.length cv).ownBlock=some b) _ w8:=(Only.fH aX).mono (fun i hi=>by first | exact hi | exact hi.symm);have hT8:Hid (JI 44 w8 wp.heap.size (.bool sx) (.slice Ai xs.length ci) (.slice (some ⟨be,oe,none⟩) ps.length ei)):=by
        have t7:=hT.o.aB ((Below.refl xy.heap.size xy).alloc aK (.cells #[.slice none 0 0] 22));exact t7.keep (o8.block _ t7.lt fun e=>hof.o.v e)
       have hN8:Hid ((Es'++[[]]).length<=max (mQ i (aU (L.take k))) (j+1)):=by
        show _<=_;have h1:=hP.o.len;rw [eF];show Es'.length+1<=_;exact aH (by omega) (LH _ _)
       (have hz8:wp.heap.size<w8.heap.size:=by have:=hT8.o.lt;omega);(have hl8:(Nl++[Value.slice none 0 0]).length=Nl.length+1:=by rw [eF];rfl);clear fu aX gO rT o8 hP hO hN hT hof HOW c2 hcE;(go_wp2_with fail);go_roundg (gk-1)
       case measure=>omega
       case rel=>exact ⟨_,_,by rw [hl8];omega,hP8,Pa,hN8,hT8,avI,hz8⟩
     . have awc:¬(Nl.length:Int)<=(j:Int):=by omega
       obtain ⟨vb,cv',hv,ave,Rq⟩:=hP.o.own.form (by omega);injection hv with wN Rs VA
       subst wN;subst VA;obtain ⟨V,E,hV,hE,bH⟩:=hP.o.at_ (j:=j) (by omega);obtain ⟨AV,cV,hVs⟩:=lS bH;subst hVs;have hcV:=hP.o.own.cellAt j (by omega);rw [hV] at hcV;have Bk:=hP.o.own.frozenAt j;have aDP:E.length<=4096:=by
        have h1:=fN List.length (hO.o.at_ j E hE);rw [bE,dW] at h1;have h2:(oD i j (aU (L.take k))).length<=(aU (L.take k)).length:=NQ _ _;rw [bE,cS] at h2;omega
       have c0:=hT.o.cell0;have c1:=hT.o.cell1;(have aIE:(0:Int)<=(j:Int):=by omega);(have ajO:(j:Int)<(Nl.length:Int):=by omega);(have q1:E.length+1<=maxLen:=by unfold maxLen;omega);(have q2:(E.length+1)*56<=140737488355328:=by omega);have hVb:Hid (∀b,(Value.slice AV E.length cV).ownBlock=some b->wo.heap.size<=b∧b≠wp.heap.size∧b≠vb):=fun b hb=>⟨(bH.lt b hb).1,fun e=>hof.o.Vs j _ hV (by rw [hb,e]),fun e=>hP.o.off j _ hV vb rfl (by rw [hb,e])⟩;have ek:Hid (∀W,Below xy.heap.size xy W->W.cell? ⟨wp.heap.size,0,none⟩=some (.bool sx)∧W.cell? ⟨wp.heap.size,1,none⟩=some (.slice Ai xs.length ci)∧W.cell? ⟨wp.heap.size,2,none⟩=some (.slice (some ⟨be,oe,none⟩) ps.length ei)∧W.cell? ⟨be,oe+i,none⟩=some (.int .i64 (j:Int))∧W.cell? ⟨vb,j,none⟩=some (.slice AV E.length cV)):=fun W hW=>
        ⟨(hW.cell (p:=⟨wp.heap.size,0,none⟩) Ru).trans c0,(hW.cell (p:=⟨wp.heap.size,1,none⟩) Ru).trans c1,(hW.cell (p:=⟨wp.heap.size,2,none⟩) Ru).trans c2,(hW.cell (p:=⟨be,oe+i,none⟩) zU).trans hcE,(hW.cell (p:=⟨vb,j,none⟩) Rq).trans hcV⟩
       have hR:Hid (∀W,Below xy.heap.size xy W->W.ownsRow wo.heap.size 44 3 (.slice AV E.length cV) E.length (aS E)):=fun W hW=>sS bH hW;have G:Hid (∀w8,(World.drew (xy.alloc (.cells #[.bool sx,.slice Ai xs.length ci,.slice (some ⟨be,oe,none⟩) ps.length ei] 44))).grownBy w8 (Value.slice AV E.length cV).ownBlock->(fun W=>W.cell? ⟨wp.heap.size,0,none⟩=some (.bool sx)∧W.cell? ⟨wp.heap.size,1,none⟩=some (.slice Ai xs.length ci)∧W.cell? ⟨wp.heap.size,2,none⟩=some (.slice (some ⟨be,oe,none⟩) ps.length ei)∧W.cell? ⟨be,oe+i,none⟩=some (.int .i64 (j:Int))∧W.cell? ⟨vb,j,none⟩=some (.slice AV E.length cV)) w8):=fun w8 rE=>by
        obtain ⟨k1,k2,k3,k4,k5⟩:=ek.o _ ((Below.refl xy.heap.size xy).alloc aK (.cells #[.bool sx,.slice Ai xs.length ci,.slice (some ⟨be,oe,none⟩) ps.length ei] 44)).drew;(have hs8:xy.heap.size<(World.drew (xy.alloc (.cells #[.bool sx,.slice Ai xs.length ci,.slice (some ⟨be,oe,none⟩) ps.length ei] 44))).heap.size:=by show _<(xy.alloc _).heap.size;simp);have far:∀b,wp.heap.size=b∨be=b∨vb=b->some b≠(Value.slice AV E.length cV).ownBlock:=fun b hb e=>by
         have h1:=hVb.o b e.symm;omega
        exact ⟨(rE.cell_far ⟨wp.heap.size,0,none⟩ (by show wp.heap.size<_;omega) (far _ (.inl rfl))).trans k1,(rE.cell_far ⟨wp.heap.size,1,none⟩ (by show wp.heap.size<_;omega) (far _ (.inl rfl))).trans k2,(rE.cell_far ⟨wp.heap.size,2,none⟩ (by show wp.heap.size<_;omega) (far _ (.inl rfl))).trans k3,(rE.cell_far ⟨be,oe+i,none⟩ (by show be<_;omega) (far _ (.inr (.inl rfl)))).trans k4,(rE.cell_far ⟨vb,j,none⟩ (by show vb<_;omega) (far _ (.inr (.inr rfl)))).trans k5⟩
       have F:Hid (∀w8 gg cap,w8.ownsRow wo.heap.size 44 3 (.slice (some ⟨gg,0,none⟩) (E.length+1) cap) (E.length+1) (aS E++[.bool sx,.slice Ai xs.length ci,.slice (some ⟨be,oe,none⟩) ps.length ei])->(World.drew (xy.alloc (.cells #[.bool sx,.slice Ai xs.length ci,.slice (some ⟨be,oe,none⟩) ps.length ei] 44))).grownBy w8 (Value.slice AV E.length cV).ownBlock->((Value.slice AV E.length cV).ownBlock=some gg∨gg=xy.heap.size+1)->w8.cell? ⟨vb,j,none⟩=some (.slice AV E.length cV)∧w8.frozen? ⟨vb,j,none⟩=false∧vb<w8.heap.size∧∃(Vs2:List Value) (Es2:List (List bA)) (cv2:Nat),Hid (NT 22 44 wo (w8.setCell ⟨vb,j,none⟩ (.slice (some ⟨gg,0,none⟩) (E.length+1) cap)) (.slice (some ⟨vb,0,none⟩) Nl.length cv) Vs2 Es2)∧Hid (wJ i L (aU (L.take (k+1))) Es2)∧Hid (Es2.length=mQ i (aU (L.take (k+1))))∧cv2=cv):=fun w8 gg cap fu rE gO=>by
        (have hs8:xy.heap.size<(World.drew (xy.alloc (.cells #[.bool sx,.slice Ai xs.length ci,.slice (some ⟨be,oe,none⟩) ps.length ei] 44))).heap.size:=by show _<(xy.alloc _).heap.size;simp);have far:some vb≠(Value.slice AV E.length cV).ownBlock:=fun e=>(hVb.o vb e.symm).2.2 rfl;have awV:(World.drew (xy.alloc (.cells #[.bool sx,.slice Ai xs.length ci,.slice (some ⟨be,oe,none⟩) ps.length ei] 44))).frozen? ⟨vb,j,none⟩=false:=(((Below.refl xy.heap.size xy).alloc aK (.cells #[.bool sx,.slice Ai xs.length ci,.slice (some ⟨be,oe,none⟩) ps.length ei] 44)).drew.frozen (p:=⟨vb,j,none⟩) Rq).trans Bk;have hx9:gL wo ((((Ai,ci),(some ⟨be,oe,none⟩,ei)),((sx,xs),ps)):bA):=⟨e4,e5,e6,e7,E8.o,E9.o⟩;have hP9:=(hP.o.ji (Below.refl xy.heap.size xy).drew).add (o:=(.cells #[.bool sx,.slice Ai xs.length ci,.slice (some ⟨be,oe,none⟩) ps.length ei] 44)) (x:=(((Ai,ci),(some ⟨be,oe,none⟩,ei)),((sx,xs),ps))) hV hE hx9 fu rE gO
        have hO9:=hO.o.add (x:=(((Ai,ci),(some ⟨be,oe,none⟩,ei)),((sx,xs),ps))) hE Md.o hNx.o;have Nj:(⟨vb,j,none⟩:Addr).block<(World.drew (xy.alloc (.cells #[.bool sx,.slice Ai xs.length ci,.slice (some ⟨be,oe,none⟩) ps.length ei] 44))).heap.size:=Nat.lt_trans Rq hs8;have hgz:=rE.size;refine ⟨(G.o w8 rE).2.2.2.2,(rE.frozen_far _ Nj far).trans awV,by omega,Nl.set j (.slice (some ⟨gg,0,none⟩) (E.length+1) cap),Es'.set j (E++[(((Ai,ci),(some ⟨be,oe,none⟩,ei)),((sx,xs),ps))]),cv,?_,?_,?_,rfl⟩
        . have e:(Nl.set j (.slice (some ⟨gg,0,none⟩) (E.length+1) cap)).length=Nl.length:=gH
          exact hP9
        . rw [XD.o];exact hO9
        . show _=_
          rw [XD.o,gH,vL];have h1:=hO.o.len;have h2:=hP.o.len;have h3:=hN.o;have h4:mQ i [bp ((sx,xs),ps)]=j+1:=by
           show max ((nth (bp ((sx,xs),ps)).1 i).toNat+1) 0=_;rw [hNx.o];simp
          rw [h4];omega
       clear hV hE hP hO hN hT hof bH c0 c1 hcV Bk hVb;(go_wp2_with fail);refine gC (S:=fun W=>W.cell? ⟨wp.heap.size,0,none⟩=some (.bool sx)∧W.cell? ⟨wp.heap.size,1,none⟩=some (.slice Ai xs.length ci)∧W.cell? ⟨wp.heap.size,2,none⟩=some (.slice (some ⟨be,oe,none⟩) ps.length ei)∧W.cell? ⟨be,oe+i,none⟩=some (.int .i64 (j:Int))∧W.cell? ⟨vb,j,none⟩=some (.slice AV E.length cV)) (z:=18) (by kernel_rfl) ?_;have hHeld:=ek.o _ (Below.refl xy.heap.size xy).drew;(try dsimp only at hHeld);refine tk 18 0 (.slice (some ⟨vb,0,none⟩) Nl.length cv) rfl hHeld ?_;(try simp only [fx,Act.put]);refine tk 18 1 (.pointer (some ⟨wp.heap.size,2,none⟩)) rfl hHeld ?_;(try simp only [fx,Act.put]);refine tk 18 2 (.slice (some ⟨be,oe,none⟩) ps.length ei) rfl hHeld ?_;(try simp only [fx,Act.put]);refine tk 18 3 (.int .i64 (i:Int)) rfl hHeld ?_;(try simp only [fx,Act.put]);refine tk 18 4 (.pointer (some ⟨be,oe+i,none⟩)) rfl hHeld ?_;(try simp only [fx,Act.put]);refine tk 18 5 (.int .i64 (j:Int)) rfl hHeld ?_;(try simp only [fx,Act.put]);refine tk 18 6 (.slice (some ⟨vb,0,none⟩) Nl.length cv) rfl hHeld ?_;(try simp only [fx,Act.put]);refine tk 18 7 (.pointer (some ⟨wp.heap.size,2,none⟩)) rfl hHeld ?_;(try simp only [fx,Act.put]);refine tk 18 8 (.slice (some ⟨be,oe,none⟩) ps.length ei) rfl hHeld ?_;(try simp only [fx,Act.put]);refine tk 18 9 (.int .i64 (i:Int)) rfl hHeld ?_;(try simp only [fx,Act.put]);refine tk 18 10 (.pointer (some ⟨be,oe+i,none⟩)) rfl hHeld ?_;(try simp only [fx,Act.put]);refine tk 18 11 (.int .i64 (j:Int)) rfl hHeld ?_;(try simp only [fx,Act.put]);refine tk 18 12 (.pointer (some ⟨vb,0+j,none⟩)) rfl hHeld ?_;(try simp only [fx,Act.put]);refine tk 18 13 (.slice AV E.length cV) rfl hHeld ?_;(try simp only [fx,Act.put]);refine tk 18 14 (.agg #[.bool sx,.slice Ai xs.length ci,.slice (some ⟨be,oe,none⟩) ps.length ei]) rfl hHeld ?_;(try simp only [fx,Act.put]);refine aV (rs:=[15]) (by kernel_rfl) (by simp) ?_;refine aL.cons rfl (by decide) (fun KK cZ=> ?_) ?_
       . skip
         go_simp;refine cZ.o _ _ (ek.o _ (aW.alloc aK (.cells #[.bool sx,.slice Ai xs.length ci,.slice (some ⟨be,oe,none⟩) ps.length ei] 44)).drew) (fun hHeld=> ?_);clear cZ KK;(try dsimp only at hHeld);(try simp only [fx,Act.put]);refine aV (rs:=[16]) (by kernel_rfl) (by simp) ?_;refine aL.cons rfl (by decide) (fun KK cZ=> ?_) ?_
         . skip
           refine su _ (by rfl) _ _ _ (by rfl) wo.heap.size 44 l0 _ 3 56 underlying22 zx Mc Bg FZ rfl (by omega) (.slice AV E.length cV) E.length (aS E) (by rfl) (hR.o _ (aW.alloc aK (.cells #[.bool sx,.slice Ai xs.length ci,.slice (some ⟨be,oe,none⟩) ps.length ei] 44)).drew) ⟨xy.heap.size,0,none⟩ 1 1 [.bool sx,.slice Ai xs.length ci,.slice (some ⟨be,oe,none⟩) ps.length ei] (by rfl) (by rfl) (gK (cs:=#[.bool sx,.slice Ai xs.length ci,.slice (some ⟨be,oe,none⟩) ps.length ei]) (t:=44) (fr:=(0,0)) (bO xy _)) (by simp [Value.oneCell']) (by omega) q1 q2 (by simp;omega) (xy.heap.size+1) (by simp) ?_;intro gg cap w8 fu aX gO rT;refine cZ.o _ _ (G.o w8 aX) (fun hHeld=> ?_);clear cZ KK;(try dsimp only at hHeld);(try simp only [fx,Act.put]);refine aV (rs:=[17]) (by kernel_rfl) (by simp) ?_;refine aL.cons rfl (by decide) (fun KK cZ=> ?_) ?_
           . skip
             go_simp;refine cZ.o _ _ hHeld (fun hHeld=> ?_);clear cZ KK;(try dsimp only at hHeld);(try simp only [fx,Act.put]);refine aV (rs:=[18]) (by kernel_rfl) (by simp) ?_;refine aL.last rfl (fun KK cZ=> ?_);obtain ⟨axo,axa,awi,ayk⟩:=F.o w8 gg cap fu aX gO
             go_simp;refine cZ.o _ _ ?_;clear cZ KK;refine fK (by kernel_rfl) ?_ _;obtain ⟨Vs2,Es2,cv2,g1,g2,g3,g4⟩:=ayk;subst g4;clear fu aX gO rT axo axa awi hHeld F hR ek;(go_wp2_with fail);go_roundw
             case rel=>exact ⟨k+1,Vs2,Es2,by omega,by go_num,g1,g2,g3⟩
             case measure=>simp [intOf];omega
           exact aL.nil
         exact aL.nil
       exact aL.nil
  . have dI:¬(k:Int)<(mm:Int):=by omega
    have fP:L.take k=L:=gZ (by have:=Hx.o.len;omega);rw [fP] at hO hN;have hEN:Hid (Vs.length=mQ i (aU L)):=hP.o.len.symm.trans hN.o;have hV4:Vs.length<=1001:=by
     rw [hEN.o];refine Gh fun t ht=> ?_;have h1:=HL.o.YE t ht _ (iK (xs:=t.1) (i:=i) (by rw [HL.o.O7 t ht];have:=YH.o;omega));omega
    obtain ⟨Av,cv,hv⟩:=lS hP.o.own;subst hv;have t2:=aa.new wp (.bool false) (.slice none 0 0) (.slice none 0 0);have hbn:Below wp.heap.size wp (wp.alloc (.cells #[.bool false,.slice none 0 0,.slice none 0 0] 51)):=aW.alloc aK _;(have hsn:wp.heap.size<(wp.alloc (.cells #[.bool false,.slice none 0 0,.slice none 0 0] 51)).heap.size:=by simp);(have hsw:w.heap.size<wp.heap.size:=by have:=hP.o.aB.size;have:=hsz.o;omega);(go_wp2_with fail);generalize Z6:wp.alloc (.cells #[.bool false,.slice none 0 0,.slice none 0 0] 51)=wt at*
    clear Z6;have T2:=aA t2;have HBn:=aA hbn;have HBo:Hid (Below w.heap.size w wp):=HB.o.tm hP.o.aB;have HBt:Hid (Below w.heap.size w wt):=HBo.o.tm hbn;have T0t:Hid (aa wt w.heap.size (.bool false) (.slice none 0 0) (.slice none 0 0)):=(T0.o.aB hP.o.aB).aB hbn;clear t2 hbn;go_loopw [71] (fun ii wr=>∃(q:Nat) (E:List KE) (ov:Value),q<=Vs.length∧ii=.int .i64 (q:Int)∧Hid (E.length=q)∧Hid (jx 51 (fun _=>False) (fun b=>b=wp.heap.size∨b=w.heap.size) w wt.heap.size wr m ov E (fun j=>(kids (iy (m+1) i (aU L))).co j))∧Hid (aa wr wp.heap.size (.bool false) (.slice none 0 0) ov)∧Hid (Only (fun b=>b=wp.heap.size∨wt.heap.size<=b) wt wr)) (fun ii _=>Vs.length-(intOf ii).toNat)
    case atStart=>exact ⟨0,[],.slice none 0 0,dc _,rfl,rfl,jx.start _ _ _ _ HBt.o HBt.o.size,T2.o,Only.refl _ _⟩
    case round=>
     obtain ⟨q,E,ov,hq,rfl,hE,sF,hT,j5⟩:=hrel;obtain ⟨wq,rfl⟩:∃wq:World,wq=wr:=⟨_,rfl⟩;(have hX:Hid (∀b,(b=wp.heap.size∨b=w.heap.size)->w.heap.size<=b∧b<wt.heap.size):=fun b hb=>by omega);have P0:Hid (aa wq w.heap.size (.bool false) (.slice none 0 0) (.slice none 0 0)):=T0t.o.keep (j5.o.block _ T0t.o.lt (by omega));have pY:Hid (Below w.heap.size w wq):=sF.o.aB;have HBq:Hid (Below wp.heap.size wp wq):=HBn.o.trans (j5.o.below (by have:=HBn.o.size;exact this) fun b hb=>by omega);by_cases Ru:q<Vs.length
     . obtain ⟨V,E',hV,hE',bH⟩:=hP.o.at_ Ru
       obtain ⟨B,d,hVs,jU,XO,htr⟩:=kD bH rfl fun x hx=>(hP.o.ok q E' hE' x hx).aB hP.o.aB;subst hVs;obtain ⟨vb,cv',hv,ave,Rq⟩:=hP.o.own.form (by omega);injection hv with wN Rs VA
       subst wN;subst VA;have hcV:=hP.o.own.cellAt q (by omega);rw [hV] at hcV;have hcq:=(HBq.o.cell (p:=⟨vb,q,none⟩) Rq).trans hcV;(have wF:vb<wq.heap.size:=by have:=HBq.o.size;omega);(have avX:(q:Int)<(Vs.length:Int):=by omega);(have zw:(0:Int)<=(q:Int):=by omega);have hmv:Hid (iy m (i+1) (aU (E'.map (·.2)))=(kids (iy (m+1) i (aU L))).co q):=by
        show _=_;rw [hO.o.at_ q E' hE',xG,aM (by rw [<- hEN.o];exact Ru)]
       have kG:∀t∈E'.map (·.2),t∈L:=fun t ht=>by
        obtain ⟨x,hx,rfl⟩:=aj.1 ht;exact hO.o.sub q E' hE' x hx
       have ayl:E'.length<=4096:=by
        have h1:=fN List.length (hO.o.at_ q E' hE');rw [bE,dW] at h1;have h2:(oD i q (aU L)).length<=(aU L).length:=NQ _ _;rw [bE] at h2;omega
       have aqe:Hid (Arg n C (E'.map (·.2))):=⟨fun t ht=>HL.o.len t (kG t ht),fun t ht=>HL.o.bd t (kG t ht),fun t ht=>HL.o.co t (kG t ht),by rw [dW];exact ayl⟩;have Htr:=aA htr;(have hmx:maxLen<=9223372036854775807:=by unfold maxLen;omega);have Cl:Hid (∀W,Below wq.heap.size wq W->aC 28 #[.int .i64 (n:Int),.int .i64 ((i:Int)+1),.slice B E'.length d] W (bV (fun _=>False) W m ((kids (iy (m+1) i (aU L))).co q))):=fun W hW=>by
        have h:=ih n (i+1) B E'.length d (E'.map (·.2)) W (by have:=YH.o;omega) hn (Htr.o.aB (HBq.o.tm hW)) aqe.o jU (by omega);rw [hmv.o,k9] at h;exact h
       have ewi:IntKind.i64.wrap ((i:Int)+1)=(i:Int)+1:=bR _ (by have:=YH.o;omega);have HT:=aA hT.o;have HO:=aA sF.o;(have q1:E.length+1<=maxLen:=by have:=hE.o;unfold maxLen;omega);(have q2:(E.length+1)*56<=140737488355328:=by have:=hE.o;omega);have HOW:=aA (fun W (hW:Below wq.heap.size wq W)=>(HO.o.ji hW).own);(have xU:Hid (∀(W:World) (ob:Obj),Below wq.heap.size wq W->wt.heap.size<=(W.alloc ob).heap.size):=fun W ob hW=>by have:=hW.size;have:=j5.o.size;simp;omega);have FC:Hid (∀j,ov.ownBlock=some j->wt.heap.size<=j):=fun j hj=>(sF.o.own.lt j hj).1;have F:Hid (∀(w7 w8:World) (x:KE) (gg cap:Nat),Below wq.heap.size wq w7->aO (fun b=>False∨wq.heap.size<=b) m w7 x.v ((kids (iy (m+1) i (aU L))).co q)->w8.ownsRow wt.heap.size 51 3 (.slice (some ⟨gg,0,none⟩) (E.length+1) cap) (E.length+1) (iB E++xT x)->(w7.alloc (.cells #[.bool x.s,.slice x.A x.k x.c,.slice x.B x.m x.d] 51)).grownBy w8 ov.ownBlock->(ov.ownBlock=some gg∨gg=w7.heap.size+1)->
        aa w8 wp.heap.size (.bool false) (.slice none 0 0) ov∧jx 51 (fun _=>False) (fun b=>b=wp.heap.size∨b=w.heap.size) w wt.heap.size (w8.setCell ⟨wp.heap.size,2,none⟩ (.slice (some ⟨gg,0,none⟩) (E.length+1) cap)) m (.slice (some ⟨gg,0,none⟩) (E.length+1) cap) (E++[x]) (fun j=>(kids (iy (m+1) i (aU L))).co j)∧Only (fun b=>b=wp.heap.size∨wt.heap.size<=b) wt (w8.setCell ⟨wp.heap.size,2,none⟩ (.slice (some ⟨gg,0,none⟩) (E.length+1) cap))):=fun w7 w8 x gg cap gN hx aY rE gO=>by
        have a7:Below w7.heap.size w7 (w7.alloc (.cells #[.bool x.s,.slice x.A x.k x.c,.slice x.B x.m x.d] 51)):=aW.alloc aK _;have o8:Only (fun b=>ov.ownBlock=some b) (w7.alloc (.cells #[.bool x.s,.slice x.A x.k x.c,.slice x.B x.m x.d] 51)) w8:=(Only.fH rE).mono (fun i hi=>by first | exact hi | exact hi.symm);have t8:aa w8 wp.heap.size (.bool false) (.slice none 0 0) ov:=by
         have t7:=((HT.o.aB gN).aB a7);exact t7.keep (o8.block _ t7.lt fun e=>by have:=FC.o _ e;omega)
        have Jn:=HO.o.next (x:=x) (o:=(.cells #[.bool x.s,.slice x.A x.k x.c,.slice x.B x.m x.d] 51)) (fun b hb=>hb.elim) (fun b hb=>by have:=hX.o b hb;have:=j5.o.size;omega) gN (by rw [hE.o];exact hx) aY rE gO rfl;refine ⟨t8,Jn.box ((Only.refl (fun b=>b=wp.heap.size∨b=w.heap.size) w8).setCell (p:=⟨wp.heap.size,2,none⟩) (.inl rfl) _) (fun b hb=>hX.o b hb),?_⟩;have r0:=j5.o.size;have r2:Only (fun b=>b=wp.heap.size∨wt.heap.size<=b) wq w7:=(Only.bY gN).mono fun b hb=> .inr (by omega);have r4:Only (fun b=>b=wp.heap.size∨wt.heap.size<=b) (w7.alloc (.cells #[.bool x.s,.slice x.A x.k x.c,.slice x.B x.m x.d] 51)) w8:=o8.mono fun b hb=> .inr (FC.o b hb);exact (((j5.o.trans r2).alloc _).trans r4).setCell (p:=⟨wp.heap.size,2,none⟩) (.inl rfl) _
       have co2:=hT.o.aP;clear hT sF j5 hV hE' bH hcV htr kG hP hO hN hEN aqe Htr hmv fP;unfold bG at Cl;(go_wp2_with fail);go_region_with (go_at_call 28;refine (Cl.o _ (by first | exact aW.drew | exact aW)).mono ?_;rintro e w7 ⟨s7,A7,k7,c7,B7,m7,d7,rfl,Qa,lI⟩;unfold bG;have gN:Below wq.heap.size wq w7:=(by first | exact aW.drew.trans lI | exact lI);have cO:=(HT.o.aB gN).aP;have fO:=(HT.o.aB gN).frozen 2;have lO:=(HT.o.aB gN).lt;obtain ⟨gg,cap,w8,IC,fu,aX,gO,rT⟩:=NB (w7.alloc (.cells #[.bool s7,.slice A7 k7 c7,.slice B7 m7 d7] 51)) 49 49 wt.heap.size 51 i0 _ 3 56 underlying49 uA iQ iC iP rfl (by omega) ov E.length (iB E) ((HOW.o _ gN).alloc _) ⟨w7.heap.size,0,none⟩ 1 1 [.bool s7,.slice A7 k7 c7,.slice B7 m7 d7] (by rfl) (gK (cs:=#[.bool s7,.slice A7 k7 c7,.slice B7 m7 d7]) (t:=51) (fr:=(0,0)) (bO w7 _)) (by simp [Value.oneCell']) (Nat.one_pos) q1 q2 (xU.o _ _ gN) (w7.heap.size+1) (by simp);obtain ⟨t8,Pa,IE⟩:=F.o w7 w8 ⟨s7,A7,k7,c7,B7,m7,d7⟩ gg cap gN Qa fu aX gO;have f8:=t8.frozen 2;have c8:=t8.aP)
       all_goals
        have T8:=aA (t8.YV (.slice (some ⟨gg,0,none⟩) (E.length+1) cap));have UC:=aA Pa;have UB:=aA IE;(have HE8:Hid ((E++[(⟨s7,A7,k7,c7,B7,m7,d7⟩:KE)]).length=q+1):=by show _=_;rw [eF,hE.o];rfl);clear t8 Pa IE fu aX gO rT IC Qa gN lI F HOW xU HT Cl cO fO lO f8 c8 co2 hE;(go_wp2_with fail);go_roundw
        case rel=>exact ⟨q+1,_,_,by omega,by go_num,HE8,UC,T8,UB⟩
        case measure=>simp [intOf];omega
     . have avX:¬(q:Int)<(Vs.length:Int):=by omega
       obtain ⟨B9,d9,hov,p1,p2,p3⟩:=sF.o.row (fun b hb=>(hX.o b hb).2);subst hov;have Fa:Hid ((kids (iy (m+1) i (aU L))).Sh E.length):=by
        have h:=Gf m i (aU L);rw [<- hEN.o] at h;exact h.mono (by have:=hE.o;omega)
       have Q3:=aA p3;have hKs:Hid (∀j,aI.nm ((kids (iy (m+1) i (aU L))).co j)<2^(64*(C+1))):=fun j=>aR (aH (Poly.rD _ j) (Gg (m+1) i (aU L))) IP.o;have Ct:=aA (fun W (hW:Below wq.heap.size wq W)=>Ur (fun b=>(False∨w.heap.size<=b)∧¬(b=wp.heap.size∨b=w.heap.size)) m W B9 E.length d9 (kids (iy (m+1) i (aU L))) (Q3.o.aB hW) Fa.o p1 p2 (by have:=YH.o;omega) (C+1) (by omega) hKs.o);have t70:=hT.o.cell0;have t71:=hT.o.cell1;have t72:=hT.o.aP;(have ewm:IntKind.i64.wrap ((n:Int)-(i:Int))=(m:Int)+1:=by rw [bR _ (by have:=YH.o;omega)];have:=YH.o;omega);clear p3 hE sF j5 hP hO hN hEN;unfold bG at Ct;(go_wp2_with fail);refine (Ct.o _ aW).mono ?_;rintro e w1 ⟨s1,A1,k1,c1,B1,m1,d1,rfl,wN,dH⟩;have zo:=aA (P0.o.aB dH);have r0:=zo.o.cell0;have r1:=zo.o.cell1;have r2:=zo.o.aP;have r3:=zo.o.frozen 0;have r4:=zo.o.frozen 1;have r5:=zo.o.frozen 2;have F:Hid (aO (fun b=>False∨w.heap.size<=b) (m+1) (((w1.setCell ⟨w.heap.size,0,none⟩ (.bool s1)).setCell ⟨w.heap.size,1,none⟩ (.slice A1 k1 c1)).setCell ⟨w.heap.size,2,none⟩ (.slice B1 m1 d1)) (bG s1 A1 k1 c1 B1 m1 d1) (iy (m+1) i (aU L))):=
        aO.only (aZ w1 w.heap.size _ _ _) (fun b hb e=>by
         have h9:=P0.o.lt;rcases hb with hb | hb
         . exact hb.2 (.inr e)
         . omega) (fun b hb=>by
         have h9:=pY.o.size;rcases hb with hb | hb
         . exact hb.1
         . exact .inr (by omega)) wN
       have cU:Below w.heap.size w w1:=pY.o.tm dH;have pL:Hid (Below w.heap.size w (((w1.setCell ⟨w.heap.size,0,none⟩ (.bool s1)).setCell ⟨w.heap.size,1,none⟩ (.slice A1 k1 c1)).setCell ⟨w.heap.size,2,none⟩ (.slice B1 m1 d1))):=((cU.setCell (p:=⟨w.heap.size,0,none⟩) aK _).setCell (p:=⟨w.heap.size,1,none⟩) aK _).setCell (p:=⟨w.heap.size,2,none⟩) aK _;clear wN dH cU Ct;unfold bG;(go_wp2_with fail);exact ax (v:=.agg #[.bool s1,.slice A1 k1 c1,.slice B1 m1 d1]) (cI (fn:=Tryz.f28) rfl _ _ _ _ _ _ _ rfl (zo.o.set (.bool s1) (.slice A1 k1 c1) (.slice B1 m1 d1)) underlying51 rfl cm) rfl
        ⟨s1,A1,k1,c1,B1,m1,d1,rfl,F.o,pL.o⟩
def xM (C:Nat) (hC:C<=1000000):∀m,NS m C
 | 0=>aem C hC
 | m+1=>ael C hC m (xM C hC m)
def rP (Q:Nat->Prop) (x:bA):Prop:=(0<x.2.1.2.length->∀y,x.1.1.1=some y->Q y.block)∧(0<x.2.2.length->∀y,x.1.2.1=some y->Q y.block)
def rP.mono {x:bA}(h:rP Q x) (hq:∀b,Q b->R b):rP R x:=⟨fun h0 y hy=>hq _ (h.1 h0 y hy),fun h0 y hy=>hq _ (h.2 h0 y hy)⟩
def rP.and {x:bA}(h:rP Q x) (k:rP R x):rP (fun b=>Q b∧R b) x:=⟨fun h0 y hy=>⟨h.1 h0 y hy,k.1 h0 y hy⟩,fun h0 y hy=>⟨h.2 h0 y hy,k.2 h0 y hy⟩⟩
def gL.here {x:bA}(h:gL w x):rP (fun b=>b<w.heap.size) x:=⟨fun h0 y hy=>yO h.2.2.2.2.1 h0 hy,fun h0 y hy=>Bc h.2.2.2.2.2 h0 hy⟩
structure GH (T:TypeId) (w0 wr:World) (ge n C:Nat) (v:Value) (E:List bA) (M:Mv):Prop where
 own:wr.ownsRow w0.heap.size T 3 v E.length (aS E)
 ok:∀x∈E,gL wr x
 far:∀x∈E,rP (fun b=>v.ownBlock≠some b∧b≠ge) x
 off:v.ownBlock≠some ge
 len:∀x∈E,x.2.2.length=n
 co:∀x∈E,x.2.1.2.length<=C
 eq:aU (E.map (·.2))=M
 aB:Below w0.heap.size w0 wr
section
variable {T : TypeId} {w0 wr wt : World} {ge n C : Nat} {v : Value} {E : List bA} {M : Mv}
def GH.start (T:TypeId) (ge n C:Nat) (h:Below w0.heap.size w0 wr):GH T w0 wr ge n C (.slice none 0 0) [] []:=
 ⟨nu _ _ _ _,fun x hx=>absurd hx pE,fun x hx=>absurd hx pE,(fun e=>by cases e),fun x hx=>absurd hx pE,fun x hx=>absurd hx pE,rfl,h⟩
def GH.ji (h:GH T w0 wr ge n C v E M) (hb:Below wr.heap.size wr wt):GH T w0 wt ge n C v E M:=
 ⟨sS h.own hb,fun x hx=>(h.ok x hx).aB hb,h.far,h.off,h.len,h.co,h.eq,h.aB.tm hb⟩
def GH.row (h:GH T w0 wr ge n C v E M) (wZ:w0.heap.size<=ge) (ho:Only (fun b=>b=ge) wr wt):GH T w0 wt ge n C v E M:=
 ⟨kU h.own ho fun k hk hq=>h.off (by rw [hk,hq]),fun x hx=>iE (h.ok x hx) ho (fun h0 y hy=>((h.far x hx).1 h0 y hy).2) (fun h0 y hy=>((h.far x hx).2 h0 y hy).2),h.far,h.off,h.len,h.co,h.eq,h.aB.trans (ho.below h.aB.size fun b hb=>by omega)⟩
def GH.next {w2 w3:World} {g cap H:Nat} {x:bA} {o:Obj}(h:GH T w0 wr ge n C v E M) (hg:ge<wr.heap.size) (cU:Below wr.heap.size wr w2) (hx:gL w2 x) (jq:x.2.2.length=n) (hxC:x.2.1.2.length<=C) (hf:rP (fun b=>v.ownBlock≠some b∧b≠ge) x)
 (aY:w3.ownsRow w0.heap.size T 3 (.slice (some ⟨g,0,none⟩) (E.length+1) cap) (E.length+1) (aS E++kN x)) (rE:(w2.alloc o).grownBy w3 v.ownBlock) (gO:v.ownBlock=some g∨g=H) (hH:H=w2.heap.size+1):
 GH T w0 w3 ge n C (.slice (some ⟨g,0,none⟩) (E.length+1) cap) (E++[x]) (M++[bp x.2]):=by
 subst hH;have wX:∀k,v.ownBlock=some k->w0.heap.size<=k∧k<wr.heap.size:=fun k hk=>h.own.lt k hk;have uW:=cU.size;have b3:Below w2.heap.size w2 (w2.alloc o):=aW.alloc aK _;have o3:Only (fun k=>v.ownBlock=some k) (w2.alloc o) w3:=(Only.fH rE).mono (fun i hi=>by first | exact hi | exact hi.symm);have yj:∀z∈E++[x],rP (fun b=>v.ownBlock≠some b∧b≠ge) z:=fun z hz=>by
  rcases gV.1 hz with hz | hz
  . exact h.far z hz
  . rw [en.1 hz];exact hf
 have fP:∀z∈E++[x],gL w2 z:=fun z hz=>by
  rcases gV.1 hz with hz | hz
  . exact (h.ok z hz).aB cU
  . rw [en.1 hz];exact hx
 refine ⟨by rw [eF,qN];exact aY,fun z hz=>iE ((fP z hz).aB b3) o3 (fun h0 y hy e=>((yj z hz).1 h0 y hy).1 e) (fun h0 y hy e=>((yj z hz).2 h0 y hy).1 e),fun z hz=> ?_,fun e=> ?_,fun z hz=> ?_,fun z hz=> ?_,?_,?_⟩
 . refine ((yj z hz).and (fP z hz).here).mono fun b hb=>⟨fun e=> ?_,hb.1.2⟩
   have e2:g=b:=by injection e
   rcases gO with h1 | h1
   . exact hb.1.1 (by rw [h1,e2])
   . have:=hb.2;omega
 . have e2:g=ge:=by injection e
   rcases gO with h1 | h1
   . exact h.off (by rw [h1,e2])
   . omega
 . rcases gV.1 hz with hz | hz
   . exact h.len z hz
   . rw [en.1 hz];exact jq
 . rcases gV.1 hz with hz | hz
   . exact h.co z hz
   . rw [en.1 hz];exact hxC
 . rw [jK,fT,h.eq]
   rfl
 . have ux:Below w0.heap.size w0 w2:=h.aB.tm cU
   exact (ux.alloc ux.size o).grown rE (by have:=ux.size;simp;omega) (fun k hk=>(wX k hk).1)
end
structure Nb (T:TypeId) (w0 w:World) (ge n:Nat) (es:List Int):Prop where
 own:w.ownsRow w0.heap.size T 1 (.slice (some ⟨ge,0,none⟩) n n) n (ints es)
 ok:∀i,C7 (nth es i)
section
variable {T : TypeId} {w0 w w' : World} {ge n : Nat} {es : List Int}
def Nb.lo (h:Nb T w0 w ge n es):w0.heap.size<=ge∧ge<w.heap.size:=h.own.lt ge rfl
def Nb.len (h:Nb T w0 w ge n es):es.length=n:=by
 have:=h.own.1;rw [qp,bg] at this;exact this
def Nb.only {S:Nat->Prop}(h:Nb T w0 w ge n es) (ho:Only S w w') (hS:¬S ge):Nb T w0 w' ge n es:=
 ⟨kU h.own ho fun k hk hq=>by
   have e:ge=k:=by injection hk
   exact hS (by rw [e];exact hq),h.ok⟩
def Nb.aB (h:Nb T w0 w ge n es) (hb:Below w.heap.size w w'):Nb T w0 w' ge n es:=h.only (Only.bY hb) (by have:=h.lo.2;omega)
def Nb.put (h:Nb T w0 w ge n es) {i:Nat}(k:Nat) (hk:k<=1000000000000) (hi:i<n):Nb T w0 (w.setCell ⟨ge,i,none⟩ (.int .i64 (k:Int))) ge n (es.set i (k:Int)):=by
 refine ⟨by rw [<- ints_set];exact vN h.own i _,fun j=> ?_⟩;rw [iX (by rw [h.len];exact hi)];split
 . constructor<;>omega
 . exact h.ok j
def Nb.ints (h:Nb T w0 w ge n es):Ints w (some ⟨ge,0,none⟩) n es:=Ints.gi h.own h.ok
end
def Bo {α:Type} {F:Nat->List α}:∀{q l:Nat},q<=l->((List.range q).flatMap F).length<=((List.range l).flatMap F).length
 | q,0,h=>by
   obtain rfl:q=0:=by omega
   exact aK
 | q,l+1,h=>by
   by_cases e:q=l+1
   . rw [e];exact aK
   . rw [zn (n:=l),Ed,eF]
     exact aH (Bo (q:=q) (l:=l) (by omega)) (Ec _ _)
def K0 {α:Type}(F:Nat->List α) (q:Nat):(List.range (q+1)).flatMap F=(List.range q).flatMap F++F q:=by
 rw [zn,Ed];simp
def Jc (h:i<es.length) (k:Int):(es.set i k).take (i+1)=es.take i++[k]:=by
 rw [lu (by rw [gH];exact h),acy];congr 1
 rw [acw aK]
def Wc {w:Go.World} {t:Go.TypeId} {A:Option Go.Addr} {c:Nat} {xs:List Go.Value}(h:w.ownsRow base t sz (.slice A n c) n xs):n<=c∧c<=9223372036854775807:=by
 have hm:Go.maxLen<=9223372036854775807:=by unfold Go.maxLen;omega
 rcases h.2 with ⟨hv,h0⟩ | ⟨g,cap,cur,hv,_,_,h1,h2,_⟩
 . injection hv with _ e1 e2
   omega
 . injection hv with _ e1 e2
   omega
def WD {es':List Int} (h:es'.take (i+1)=es.take (i+1)):es'.take i=es.take i:=by
 have h1:=fN (List.take i) h;rw [abS,abS,pF (by omega)] at h1;exact h1
def yX (w0:World) (ge n i C:Nat) (es:List Int) (M:Mv) (e:Ending) (w':World):Prop:=
 ∃v' E' es',e=.returned v'∧Nb 3 w0 w' ge n es'∧es'.take i=es.take i∧GH 44 w0 w' ge n C v' E' M
def NR (m C:Nat):Prop:=∀(n i:Nat) (w0 w:World) (u:Value) (f:Pn m) (ge:Nat) (es:List Int) (v:Value) (E:List bA) (M:Mv),n=i+m->n<=6->aO (fun _=>True) m w0 u f->Nb 3 w0 w ge n es->GH 44 w0 w ge n C v E M->aI.nm f<2^(64*C)->QL m f->M.length+(dn m (es.take i) f).length<=1000000->
 aC 34 #[u,.int .i64 (n:Int),.int .i64 (i:Int),.slice (some ⟨ge,0,none⟩) n n,v] w (yX w0 ge n i C es (M++dn m (es.take i) f))
def Kj:(prog.info? 3).map (fun i=>(i.zero,i.size,i.bytes))=some (some (.int .i64 0),1,8):=by kernel_rfl
def Zf (C:Nat) (hC:C<=1000000):NR 0 C:=by
 intro n i w0 w u f ge es v E M hni hn hf hes hT nf kf wR;obtain ⟨s,A,k,c,ls,rfl,h1,h2,h3,h4,_⟩:=hf;obtain ⟨i0,uA,hu0,hu1,hu2⟩:=oH Kj;obtain ⟨l0,zx,Mc,Bg,FZ⟩:=oH GP;have D7:k<=C:=by
  have h5:=h4.cap (K:=C) nf;have h6:=h3.len;omega
 obtain rfl:n=i:=by omega
 clear hni;obtain ⟨Av,cv,hv⟩:=lS hT.own;subst hv;have qu:=hT.aB;have tk:es.take n=es:=gZ (kQ hes.len);rw [tk] at wR ⊢;have t0:=aa.new w (.bool s) (.slice A k c) (.slice none 0 0);have hb:Below w.heap.size w (w.alloc (.cells #[.bool s,.slice A k c,.slice none 0 0] 51)):=aW.alloc aK _;have k0:=t0.cell0;have k1:=t0.cell1;have HB:=aA hb;have Cs:=aA (fun W (hW:Below w0.heap.size w0 W)=>xx s A k c ls W (h3.aB hW) h1 h2 (by omega));have hz:Hid ((xC s (bu ls k)==0)=true↔f=0):=by
  show _↔_;rw [QG];exact (zJ h4 h3.len).trans ⟨fun e=>e,fun e=>e⟩
 have H3:=aA h3;have H4:=aA h4;have Hes:=aA (hes.aB hb);have HTw:=aA hT;have HT:=aA (hT.ji hb);have Hge:=aA (show ge<w.heap.size from hes.lo.2);have T0:=aA t0;have Hw:=aA qu;have yo:Hid (E.length+1<=1000000∨f=0):=by
  by_cases e:f=0
  . exact .inr e
  . left
    have h9:=fN List.length hT.eq;rw [bE,dW] at h9;rw [gW,af (show¬vG f=0 from e)] at wR;simp at wR;omega
 have hsw:=aA (show w0.heap.size<=w.heap.size from qu.size);clear h3 h4 hes hT t0 hb qu nf kf wR tk;unfold bG;go_enter func34,ntmps34
 go_wp2_with fail
 generalize kj:w.alloc (.cells #[.bool s,.slice A k c,.slice none 0 0] 51)=wt at*
 clear kj;refine (Cs.o _ (Hw.o.tm HB.o)).mono ?_;rintro e w1 ⟨rfl,dH⟩;have T1:=aA (T0.o.aB dH);have QN:=aA (Hes.o.aB dH);have HT1:=aA (HT.o.ji dH);have Hw1:=aA (HT.o.ji dH).aB;have tZ:=dH.size;have IB:=HB.o.size;clear dH Cs k0 k1 Hes HT;by_cases h0:f=0
 . have iC:=hz.o.2 h0
   have F:Hid (yX w0 ge n n C es (M++dn 0 es f) (.returned (.slice Av E.length cv)) w1):=by
    refine ⟨_,E,es,rfl,QN.o,rfl,?_⟩;rw [gW,aM (show vG f=0 from h0),tH];exact HT1.o
   clear QN HT1 Hw1 hz;go_wp2_with fail
   go_ret;exact F.o
 . have iC:(xC s (bu ls k)==0)=false:=by
    cases hq:(xC s (bu ls k)==0) with
    | false=>rfl
    | true=>exact absurd (hz.o.1 hq) h0
   have q0:E.length+1<=1000000:=yo.o.resolve_right h0;have aHv:=hsw.o;have c0:=T1.o.cell0;have c1:=T1.o.cell1;have hR:Hid (∀W,Below w1.heap.size w1 W->Reads W w1.heap.size 1 (some ⟨ge,0,none⟩) n (ints es)):=fun W hW=>QN.o.ints.reads.below hW;have hn6:n<=6:=hn;have ek:Hid (∀W,Below w1.heap.size w1 W->(fun W=>W.cell? ⟨w.heap.size,0,none⟩=some (.bool s)∧W.cell? ⟨w.heap.size,1,none⟩=some (.slice A k c)) W):=fun W hW=>⟨((T1.o.aB hW)).cell0,((T1.o.aB hW)).cell1⟩;have HOW:Hid (∀W,Below w1.heap.size w1 W->W.ownsRow w0.heap.size 44 3 (.slice Av E.length cv) E.length (aS E)):=fun W hW=>(HT1.o.ji hW).own;have F:Hid (∀w2 w8 Ae ce gg cap,Below w1.heap.size w1 w2->w2.ownsRow w1.heap.size 3 1 (.slice Ae n ce) n (ints es)->w8.ownsRow w0.heap.size 44 3 (.slice (some ⟨gg,0,none⟩) (E.length+1) cap) (E.length+1) (aS E++[.bool s,.slice A k c,.slice Ae n ce])->(w2.alloc (.cells #[.bool s,.slice A k c,.slice Ae n ce] 44)).grownBy w8 (Value.slice Av E.length cv).ownBlock->((Value.slice Av E.length cv).ownBlock=some gg∨gg=w2.heap.size+1)->yX w0 ge n n C es (M++dn 0 es f) (.returned (.slice (some ⟨gg,0,none⟩) (E.length+1) cap)) w8):=fun w2 w8 Ae ce gg cap cU bL fu rE gO=>by
    obtain rfl:=H3.o.len;have FI:=Wc bL;have hse:es.length=n:=QN.o.len;(have hI2:Ints w2 Ae es.length es:=by rw [hse];exact Ints.gi bL QN.o.ok);have aIf:=Hw.o.size;have hx:gL w2 ((((A,c),(Ae,ce)),((s,ls),es)):bA):=⟨h1,h2,by show es.length<=ce;rw [hse];exact FI.1,FI.2,(H3.o.aB Hw1.o).aB cU,hI2⟩;have tj:rP (fun b=>(Value.slice Av E.length cv).ownBlock≠some b∧b≠ge) ((((A,c),(Ae,ce)),((s,ls),es)):bA):=by
     have Nj:=QN.o.lo;have hvl:∀b,(Value.slice Av E.length cv).ownBlock=some b->w0.heap.size<=b∧b<w1.heap.size:=fun b hb=>HT1.o.own.lt b hb;refine ⟨fun q0 y hy=> ?_,fun q0 y hy=> ?_⟩
     . have h9:=yO H3.o q0 hy
       exact ⟨fun e=>by have:=hvl _ e;omega,fun e=>by omega⟩
     . have q0':0<n:=by rw [<- hse];exact q0
       obtain ⟨g2,c2,Rs,g3,g4⟩:=bL.form q0';injection Rs with VA
       have Fw:Ae=some y:=hy;rw [Fw] at VA;injection VA with VA
       (have e2:y.block=g2:=by rw [VA]);exact ⟨fun e=>by have:=hvl _ e;omega,fun e=>by omega⟩
    have ajw:w8.ownsRow w0.heap.size 44 3 (.slice (some ⟨gg,0,none⟩) (E.length+1) cap) (E.length+1) (aS E++kN ((((A,c),(Ae,ce)),((s,ls),es)):bA)):=by
     show w8.ownsRow _ _ _ _ _ (aS E++[.bool s,.slice A ls.length c,.slice Ae es.length ce]);rw [hse];exact fu
    have Jn:=HT1.o.next (x:=(((A,c),(Ae,ce)),((s,ls),es))) QN.o.lo.2 cU hx hse D7 tj ajw rE gO rfl;have jh:=cU.alloc cU.size (.cells #[.bool s,.slice A ls.length c,.slice Ae n ce] 44);refine ⟨_,E++[(((A,c),(Ae,ce)),((s,ls),es))],es,rfl,?_,rfl,?_⟩
    . refine (QN.o.aB jh).only ((Only.fH rE).mono fun b hb=>hb) fun e=>HT1.o.off ?_
      first | exact e | exact e.symm
    . rw [gW,af (show¬vG f=0 from h0)]
      have e:bp ((s,ls),es)=(es,vG f):=by
       show (es,aF s ls)=_;rw [H4.o.eq]
      rw [<- e];exact Jn
   clear c0 c1;go_wp2_with fail
   refine gC (S:=fun W=>W.cell? ⟨w.heap.size,0,none⟩=some (.bool s)∧W.cell? ⟨w.heap.size,1,none⟩=some (.slice A k c)) (z:=99) (by kernel_rfl) ?_;have hHeld:=ek.o _ (Below.refl w1.heap.size w1).drew;try dsimp only at hHeld
   refine tk 99 0 (.slice Av E.length cv) rfl hHeld ?_;try simp only [fx,Act.put]
   refine tk 99 1 (.pointer (some ⟨w.heap.size,0,none⟩)) rfl hHeld ?_;try simp only [fx,Act.put]
   refine tk 99 2 (.agg #[.bool s,.slice A k c]) rfl hHeld ?_;try simp only [fx,Act.put]
   refine tk 99 4 (.slice (some ⟨ge,0,none⟩) n n) rfl hHeld ?_;try simp only [fx,Act.put]
   refine aV (rs:=[3]) (by kernel_rfl) (by simp) ?_;refine aL.cons rfl (by decide) (fun KK cZ=> ?_) aL.nil;go_simp;refine cZ.o _ _ (ek.o _ (aW.alloc aK (.cells #[] 3)).drew) (fun hHeld=> ?_);clear cZ KK;try dsimp only at hHeld
   try simp only [fx,Act.put]
   refine aV (rs:=[5]) (by kernel_rfl) (by simp) ?_;refine aL.cons rfl (by decide) (fun KK cZ=> ?_) aL.nil;refine dO _ (by rfl) _ _ 42 (by rfl) w1.heap.size 3 i0 (.int .i64 0) 1 8 underlying42 uA hu0 hu1 hu2 rfl (by decide) (.slice (some ⟨w1.heap.size,0,none⟩) 0 0) 0 [] (by rfl) (bB w1 3 aK) w1.heap.size (some ⟨ge,0,none⟩) n n (ints es) (by rfl) (hR.o _ (aW.alloc aK (.cells #[] 3)).drew) (ints_oneCell es) (by unfold maxLen;omega) (by omega) (by simp) ?_;intro v2 w2 bL aaC XR;rw [kY,ct] at bL;obtain ⟨Ae,ce,Rs⟩:=lS bL;subst Rs;have cU:Below w1.heap.size w1 w2:=((Below.refl w1.heap.size w1).alloc aK (.cells #[] 3)).drew.grown aaC (by simp) (fun k hk=>(bB w1 3 aK).lt k hk |>.1);have uW:=cU.size;refine cZ.o _ _ (ek.o _ cU) (fun hHeld=> ?_);clear cZ KK;try dsimp only at hHeld
   try simp only [fx,Act.put]
   refine tk 99 6 (.agg #[.bool s,.slice A k c,.slice Ae n ce]) rfl hHeld ?_;try simp only [fx,Act.put]
   refine aV (rs:=[7]) (by kernel_rfl) (by simp) ?_;refine aL.cons rfl (by decide) (fun KK cZ=> ?_) aL.nil;go_simp;refine cZ.o _ _ (ek.o _ (cU.alloc cU.size (.cells #[.bool s,.slice A k c,.slice Ae n ce] 44))) (fun hHeld=> ?_);clear cZ KK;try dsimp only at hHeld
   try simp only [fx,Act.put]
   refine aV (rs:=[8]) (by kernel_rfl) (by simp) ?_;refine aL.cons rfl (by decide) (fun KK cZ=> ?_) aL.nil;refine su _ (by rfl) _ _ _ (by rfl) w0.heap.size 44 l0 _ 3 56 underlying22 zx Mc Bg FZ rfl (by omega) (.slice Av E.length cv) E.length (aS E) (by rfl) (HOW.o _ (cU.alloc cU.size (.cells #[.bool s,.slice A k c,.slice Ae n ce] 44))) ⟨w2.heap.size,0,none⟩ 1 1 [.bool s,.slice A k c,.slice Ae n ce] (by rfl) (by rfl) (gK (cs:=#[.bool s,.slice A k c,.slice Ae n ce]) (t:=44) (fr:=(0,0)) (bO w2 _)) (by simp [Value.oneCell']) (by omega) (by unfold maxLen;omega) (by omega) (by simp;omega) (w2.heap.size+1) (by simp) ?_;intro gg cap w8 fu aX gO rT;have FF:=aA (F.o w2 w8 Ae ce gg cap cU bL fu aX gO);have hK8:(fun W=>W.cell? ⟨w.heap.size,0,none⟩=some (.bool s)∧W.cell? ⟨w.heap.size,1,none⟩=some (.slice A k c)) w8:=by
    obtain ⟨k1,k2⟩:=ek.o _ (cU.alloc cU.size (.cells #[.bool s,.slice A k c,.slice Ae n ce] 44));(have far:some w.heap.size≠(Value.slice Av E.length cv).ownBlock:=fun e=>by have:=(HTw.o.own.lt _ e.symm).2;omega);exact ⟨(aX.cell_far ⟨w.heap.size,0,none⟩ (by show w.heap.size<_;simp;omega) far).trans k1,(aX.cell_far ⟨w.heap.size,1,none⟩ (by show w.heap.size<_;simp;omega) far).trans k2⟩
   clear fu aX gO rT;refine cZ.o _ _ hK8 (fun hHeld=> ?_);clear cZ KK;try dsimp only at hHeld
   try simp only [fx,Act.put]
   refine aV (rs:=[9]) (by kernel_rfl) (by simp) ?_;refine aL.cons rfl (by decide) (fun KK cZ=> ?_) aL.nil;go_simp;refine cZ.o _ _ hK8 (fun hHeld=> ?_);clear cZ KK;try dsimp only at hHeld
   try simp only [fx,Act.put]
   refine fK (by kernel_rfl) ?_ _;clear hK8 hHeld F HOW ek hR bL aaC XR;go_wp2_with fail
   go_ret;exact FF.o
def Ze (C:Nat) (m:Nat) (ih:NR m C):NR (m+1) C:=by
 intro n i w0 w u f ge es v E M hni hn hf hes hT nf kf wR;obtain ⟨B,c,rfl,h1,h2,h3⟩:=hf.here;have lf:=kf.1;have Lf:=aA kf.2;have H3:=aA h3;have hne:((i:Int)==(n:Int))=false:=jD.2 (by omega);have YH:=aA hni;have Hes:=aA hes;have HT:=aA hT;have Hc:=aA wR;have tj:Hid (i<n):=by show _<_;omega
 have uA:(0:Int)<=(i:Int):=by omega
 have hi1:(i:Int)<(n:Int):=by omega
 have ewi:IntKind.i64.wrap ((i:Int)+1)=(i:Int)+1:=bR _ (by omega);obtain ⟨Av,cv,hv⟩:=lS hT.own;subst hv;have t0:=aa.new w (.bool false) (.slice none 0 0) (.slice B (kids f).len c);have hb:Below w.heap.size w (w.alloc (.cells #[.bool false,.slice none 0 0,.slice B (kids f).len c] 51)):=aW.alloc aK _;have k0:=t0.aP;have HB:=aA hb;clear hf h3 hes hT wR kf hni t0 hb;unfold bG;go_enter func34,ntmps34
 go_wp2_with fail
 generalize kj:w.alloc (.cells #[.bool false,.slice none 0 0,.slice B (kids f).len c] 51)=wt at*
 clear kj k0;go_loopw [4,33] (fun v kk wr=>∃(q:Nat) (E:List bA) (es':List Int),q<=(kids f).len∧kk=.int .i64 (q:Int)∧Hid (Nb 3 w0 wr ge n es')∧Hid (es'.take i=es.take i)∧Hid (GH 44 w0 wr ge n C v E (M++(List.range q).flatMap fun k:Nat=>dn m (es.take i++[(k:Int)]) ((kids f).co k)))) (fun _ kk _=>(kids f).len-(intOf kk).toNat)
 case atStart=>exact ⟨0,E,es,dc _,rfl,Hes.o.aB HB.o,rfl,by
  have h:=HT.o.ji HB.o;rw [<- tH M] at h;exact h⟩
 case round=>
  clear Hes HT;obtain ⟨q,E',es',hq,rfl,hes,XD,hT⟩:=hrel;obtain ⟨wq,rfl⟩:∃wq:World,wq=wr:=⟨_,rfl⟩;obtain ⟨Aw,cw,hv⟩:=lS hT.o.own;subst hv;by_cases hlt:q<(kids f).len
  . obtain ⟨b,o,hB,_,hl,IG⟩:=H3.o (by omega)
    subst hB;obtain ⟨s1,A1,k1,c1,B1,m1,d1,e1,e2,e3,e4⟩:=IG q hlt;(have dI:(q:Int)<((kids f).len:Int):=by omega);(have zw:(0:Int)<=(q:Int):=by omega);have qu:=hT.o.aB;have g1:=(qu.cell (p:=⟨b,o+q*3,none⟩) hl).trans e1;have g2:=(qu.cell (p:=⟨b,o+q*3+1,none⟩) hl).trans e2;have g3:=(qu.cell (p:=⟨b,o+q*3+2,none⟩) hl).trans e3;have avk:=qu.size;(have wF:b<wq.heap.size:=by omega);have E4:Hid (aO (fun _=>True) m w0 (.agg #[.bool s1,.slice A1 k1 c1,.slice B1 m1 d1]) ((kids f).co q)):=e4.mono fun _ _=>trivial;clear IG e1 e2 e3 e4;have wZ:=hes.o.lo;have tX:=aa.new wq (.bool s1) (.slice A1 k1 c1) (.slice B1 m1 d1);have pK:Below wq.heap.size wq (wq.alloc (.cells #[.bool s1,.slice A1 k1 c1,.slice B1 m1 d1] 51)):=aW.alloc aK _;have aaE:=hes.o.aB pK;have Nj:=aaE.lo.2;have Bk:=aaE.own.frozenAt i;have FH:=aaE.own.cellAt i (by have:=tj.o;omega);rw [sZ (by rw [aaE.len];exact tj.o)] at FH;have tY:=tX.far (p:=⟨ge,i,none⟩) (by show wq.heap.size≠ge;omega) (.int .i64 (q:Int));have y0:=tY.cell0;have y1:=tY.cell1;have y2:=tY.aP;have yl:=tY.lt;have IK:Below (wq.setCell ⟨ge,i,none⟩ (.int .i64 (q:Int))).heap.size (wq.setCell ⟨ge,i,none⟩ (.int .i64 (q:Int))) ((wq.setCell ⟨ge,i,none⟩ (.int .i64 (q:Int))).alloc (.cells #[.bool s1,.slice A1 k1 c1,.slice B1 m1 d1] 51)):=aW.alloc aK _;have aps:=aA ((hes.o.put q (by omega) tj.o).aB IK);have ajq:Hid ((es'.set i (q:Int)).take (i+1)=es.take i++[(q:Int)]):=by
     show _=_;rw [Jc (by rw [hes.o.len];exact tj.o),XD.o]
    have oge:Only (fun b=>b=ge) wq (wq.setCell ⟨ge,i,none⟩ (.int .i64 (q:Int))):=(Only.refl (fun b=>b=ge) _).setCell (p:=⟨ge,i,none⟩) rfl _;have hTB:=aA ((hT.o.row wZ.1 oge).ji IK);have aaJ:Hid ((M++(List.range q).flatMap fun k:Nat=>dn m (es.take i++[(k:Int)]) ((kids f).co k)).length+(dn m ((es'.set i (q:Int)).take (i+1)) ((kids f).co q)).length<=1000000):=by
     show _<=_;have h9:=Hc.o;rw [ajq.o,eF,j9,<- eF,<- K0 (fun k:Nat=>dn m (es.take i++[(k:Int)]) ((kids f).co k)) q];exact aH (JG (Bo (by omega)) _) h9
    have Ci:Hid (aC 34 #[.agg #[.bool s1,.slice A1 k1 c1,.slice B1 m1 d1],.int .i64 (n:Int),.int .i64 ((i:Int)+1),.slice (some ⟨ge,0,none⟩) n n,.slice Aw E'.length cw] ((wq.setCell ⟨ge,i,none⟩ (.int .i64 (q:Int))).alloc (.cells #[.bool s1,.slice A1 k1 c1,.slice B1 m1 d1] 51)) (yX w0 ge n (i+1) C (es'.set i (q:Int)) (M++(List.range (q+1)).flatMap fun k:Nat=>dn m (es.take i++[(k:Int)]) ((kids f).co k)))):=by
     have h:=ih n (i+1) w0 _ _ ((kids f).co q) ge (es'.set i (q:Int)) _ E' _ (by have:=YH.o;omega) hn E4.o aps.o hTB.o (aR (fZ f q) nf) (Lf.o q) aaJ.o;rw [ajq.o,vA,<- K0 (fun k:Nat=>dn m (es.take i++[(k:Int)]) ((kids f).co k)) q,k9] at h;exact h
    clear tX pK IK aaE oge hTB aaJ aps hT qu E4 tY;(go_wp2_with fail);refine Ci.o.mono ?_;rintro e w7 ⟨v7,E7,es7,rfl,g7,g8,g9⟩;have G7:=aA g7;have G8:Hid (es7.take i=es.take i):=by
     show _=_;rw [WD g8,acw aK];exact XD.o
    have G9:=aA g9;clear g7 g8 g9 XD ajq hes Ci y0 y1 y2 FH Bk;(go_wp2_with fail);go_roundw
    case rel=>exact ⟨q+1,E7,es7,by omega,by go_num,G7,G8,G9⟩
    case measure=>simp [intOf];omega
  . have dI:¬(q:Int)<((kids f).len:Int):=by omega
    (have JY:q=(kids f).len:=by omega);have F:Hid (yX w0 ge n i C es (M++dn (m+1) (es.take i) f) (.returned (.slice Aw E'.length cw)) wq):=by
     refine ⟨_,E',es',rfl,hes.o,XD.o,?_⟩;have h:=hT.o;rw [JY] at h;exact h
    clear hes XD hT JY;(go_wp2_with fail);go_ret;exact F.o
def Ut (C:Nat) (hC:C<=1000000):∀m,NR m C
 | 0=>Zf C hC
 | m+1=>Ze C m (Ut C hC m)
