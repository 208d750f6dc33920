import Derived.Test.YtehcoffbiplphaaGreatHPlB
import Derived.Test.YtehcoffbiplphaaGreatHTk
import Derived.Test.YtehcoffbiplphaaGreatHTrI
set_option linter.all false
set_option maxHeartbeats 16000000
set_option maxRecDepth 100000
namespace Go.Proofs.YtehcoffbiplphaaGreat
open Go.Proofs.Tryz
open Go.RowKit aF
variable {w:World} {base sz n bq k i:Nat} {v:Value} {Q R:Nat->Prop} {es:List Int}
def kI {e:TypeId} {xs:List Value}(h:w.ownsRow base e sz v n xs):∃A c,v=.slice A n c:=by
 rcases h.2 with ⟨hv,h0⟩ | ⟨g,cap,cur,hv,_⟩
 . exact ⟨none,0,by rw [hv,h0]⟩
 . exact ⟨_,cap,hv⟩
structure Uu (bq:Nat) (v:Value) (Vs:List Value):Prop where
 v:v.ownBlock≠some bq
 Vs:∀(j:Nat) (V:Value),Vs[j]? =some V->V.ownBlock≠some bq
def Nx.afj {TT TE:TypeId} {w0 wr:World} {Vs:List Value} {Es:List (List ax)}(h:Nx TT TE w0 wr v Vs Es) (hb:wr.heap.size<=bq):Uu bq v Vs:=
 ⟨fun e=>by have:=(h.own.lt bq e).2;omega,fun j V hj e=>by
   obtain ⟨V',E',q1,q2,q3⟩:=h.at_ (F3.1 hj).1;rw [hj] at q1;injection q1 with q1
   subst q1;have:=(q3.lt bq e).2;omega⟩
def Uu.push {gg cap:Nat} {Vs:List Value}(h:Uu bq v Vs) (gZ:v.ownBlock=some gg∨bq<gg):Uu bq (.slice (some ⟨gg,0,none⟩) n cap) (Vs++[.slice none 0 0]):=
 ⟨fun e=>by
   have e2:gg=bq:=by injection e
   rcases gZ with h1 | h1
   . exact h.v (by rw [h1,e2])
   . omega,fun j V hj=>by
   rcases pT j Vs.length with hl | hl
   . rw [Tw hl] at hj;exact h.Vs j V hj
   . rw [DL hl] at hj
     have hj2:=Ja hj;rw [dS.1 hj2];exact fun e=>by cases e⟩
def Xh {L:List TV} (hk:k<L.length):aP (L.take (k+1))=aP (L.take k)++[bS L[k]]:=by
 rw [kG hk,eN];rfl
def Ml {L:List TV} {t:mH}(ht:t∈aP (L.take k)):t∈aP L:=by
 obtain ⟨s,hs,rfl⟩:=af.1 ht;exact af.2 ⟨s,uU hs,rfl⟩
def oG {P:Program} {t:TypeId} {z:Value} {s b:Nat}(h:(P.info? t).map (fun i=>(i.zero,i.size,i.bytes))=some (some z,s,b)):∃i,P.info? t=some i∧i.zero=some z∧i.size=s∧i.bytes=b:=by
 cases hi:P.info? t with
 | none=>rw [hi] at h;cases h
 | some i=>
   rw [hi] at h;simp only [Option.map_some,Option.some.injEq,Prod.mk.injEq] at h;exact ⟨i,rfl,h.1,h.2.1,h.2.2⟩
def Oa:(prog.info? 22).map (fun i=>(i.zero,i.size,i.bytes))=some (some (.slice none 0 0),1,24):=by kernel_rfl
def Gs:(prog.info? 44).map (fun i=>(i.zero,i.size,i.bytes))=some (some (.agg #[.bool false,.slice none 0 0,.slice none 0 0]),3,56):=by kernel_rfl
attribute [-go_sem] Builtin.append_
def afz (C:Nat) (hC:C<=1000000) (m:Nat) (ih:Nw m C):Nw (m+1) C:=by
 intro n i A mm c L w hni hn hx hL hmc hc;obtain ⟨i0,rT,jE,jD,jJ⟩:=oG sP;obtain ⟨j0,RY,rz,xZ,Fk⟩:=oG Oa;obtain ⟨l0,xB,LM,CB,GG⟩:=oG Gs;have tj:=hL.cnt;have Ys:=hx.len;have hm:mm<=4096:=by omega
 have hne:((i:Int)==(n:Int))=false:=mD.2 (by omega);have Hx:=aA hx;have HL:=aA hL;have EZ:=aA (Qt hL.co (vK hx) tj);have sX:=aA (show∀t∈aP L,0<=nth t.1 i from fun t ht=>(hL.Tp t ht _ (gL (by rw [hL.KD t ht];omega))).1);have t0:=aX.new w (.bool false) (.slice none 0 0) (.slice none 0 0);have hb:Below w.heap.size w (w.alloc (.cells #[.bool false,.slice none 0 0,.slice none 0 0] 51)):=aU.alloc aL _;have hsz:Hid ((w.alloc (.cells #[.bool false,.slice none 0 0,.slice none 0 0] 51)).heap.size=w.heap.size+1):=aJ _ _;have ZA:=aA hni;clear hx hL hni Ys;go_enter func28,ntmps28
 go_wp2_with fail
 generalize je:w.alloc (.cells #[.bool false,.slice none 0 0,.slice none 0 0] 51)=wo at*
 clear je;have T0:=aA t0;have HB:=aA hb;have Hx1:=aA (Hx.o.aC hb);clear t0 hb;go_loopw [10,35] (fun v kk wr=>∃(k:Nat) (Vs:List Value) (Es:List (List ax)),k<=mm∧kk=.int .i64 (k:Int)∧Hid (Nx 22 44 wo wr v Vs Es)∧Hid (wS i L (aP (L.take k)) Es)∧Hid (Es.length=mY i (aP (L.take k)))) (fun _ kk _=>mm-(intOf kk).toNat)
 case atStart=>exact ⟨0,[],[],bL _,rfl,Nx.start _ _ aU,wS.start i L,rfl⟩
 case round=>
  obtain ⟨k,Vs,Es,hk,rfl,hP,hO,hN⟩:=hrel;obtain ⟨wp,rfl⟩:∃wp:World,wp=wr:=⟨_,rfl⟩;by_cases hlt:k<mm
  . obtain ⟨b,o,rfl,I4,hcc⟩:=Hx1.o.at_ (by omega)
    (have th:k<L.length:=by have:=Hx.o.len;omega);obtain ⟨Ai,ci,Ei,ei,e1,e2,e3,e4,e5,e6,e7,e8,e9⟩:=hcc k th;have tZ:=HL.o.len _ (bR th);have qx:=HL.o.bd _ (bR th) _ (gL (xs:=(L[k]).2) (i:=i) (by have:=ZA.o;omega));(have dH:(k:Int)<(mm:Int):=by omega);(have wT:(0:Int)<=(k:Int):=by omega);have apI:=hP.o.aC.size;rw [aq 3 k] at e1 e2 e3;rw [<- jb] at e2 e3;have g1:=(hP.o.aC.cell (p:=⟨b,o+k*3,none⟩) I4).trans e1;have g2:=(hP.o.aC.cell (p:=⟨b,o+k*3+1,none⟩) I4).trans e2;have g3:=(hP.o.aC.cell (p:=⟨b,o+k*3+2,none⟩) I4).trans e3;have RV:Hid (aP (L.take (k+1))=aP (L.take k)++[bS L[k]]):=Xh th;have M6:Hid (L[k]∈L):=bR th;have hpk:Hid (∀t∈aP (L.take k),0<=nth t.1 i):=fun t ht=>sX.o t (Ml ht);have E8:=aA e8;have E9:=aA e9;obtain ⟨be,oe,hE9,mN,hce⟩:=e9.at_ (by have:=ZA.o;omega);subst hE9;have LQ:=hce i (by have:=ZA.o;omega);clear e1 e2 e3 e8 e9 hcc hce;generalize L[k]=x at*
    obtain ⟨⟨sx,xs⟩,ps⟩:=x;simp only at g1 g2 g3 e4 e5 e6 e7 E8 E9 tZ qx LQ;have hNx:Hid (nth (bS ((sx,xs),ps)).1 i=nth ps i):=rfl;obtain ⟨j,hj⟩:∃j:Nat,nth ps i=(j:Int):=⟨(nth ps i).toNat,by omega⟩;rw [hj] at qx LQ hNx;(have hip:(i:Int)<(ps.length:Int):=by have:=ZA.o;omega);(have aqH:(0:Int)<=(i:Int):=by omega);have FJ:=aA tZ;clear tZ;have tb:=Jk.new 44 wp (.bool sx) (.slice Ai xs.length ci) (.slice (some ⟨be,oe,none⟩) ps.length ei);have bT:Below wp.heap.size wp (wp.alloc (.cells #[.bool sx,.slice Ai xs.length ci,.slice (some ⟨be,oe,none⟩) ps.length ei] 44)):=aU.alloc aL _;have hP1:=aA (hP.o.jX bT);have apZ:Hid (Uu wp.heap.size u10 Vs):=hP.o.afj aL;(have axh:wp.heap.size<(wp.alloc (.cells #[.bool sx,.slice Ai xs.length ci,.slice (some ⟨be,oe,none⟩) ps.length ei] 44)).heap.size:=by simp);(go_wp2_with fail);generalize hwq:wp.alloc (.cells #[.bool sx,.slice Ai xs.length ci,.slice (some ⟨be,oe,none⟩) ps.length ei] 44)=wq at*
    clear hwq;have TB:=aA tb;clear tb bT hP;go_loopg [10] (j+2) (fun gk v wr=>∃(Vs:List Value) (Es:List (List ax)),j+1-Vs.length<gk∧Hid (Nx 22 44 wo wr v Vs Es)∧Hid (wS i L (aP (L.take k)) Es)∧Hid (Es.length<=max (mY i (aP (L.take k))) (j+1))∧Hid (Jk 44 wr wp.heap.size (.bool sx) (.slice Ai xs.length ci) (.slice (some ⟨be,oe,none⟩) ps.length ei))∧Hid (Uu wp.heap.size v Vs)∧wp.heap.size<wr.heap.size)
    case atStart=>exact ⟨Vs,Es,by omega,hP1,hO,aG (ig hN.o) (Lz _ _),TB,apZ,by omega⟩
    case round=>
     clear hP1 hO hN TB apZ;obtain ⟨OM,Es',OE,hP,hO,hN,hT,hof,aJy⟩:=hrel;obtain ⟨yJ,rfl⟩:∃yJ:World,yJ=wr:=⟨_,rfl⟩;have c2:=hT.o.aN;have WC:=hP.o.aC.size;have hcE:=(hP.o.aC.cell (p:=⟨be,oe+i,none⟩) mN).trans LQ;(have se:be<yJ.heap.size:=by omega);have Sx:=hT.o.lt;obtain ⟨Av,cv,hv⟩:=kI hP.o.own;subst hv;by_cases mj:OM.length<=j
     . have ayb:(OM.length:Int)<=(j:Int):=by omega
       have HOW:=aA hP.o.own;(go_wp2_with (at_builtin;refine rG _ (by rfl) _ _ _ (by rfl) wo.heap.size 22 j0 _ 1 24 underlying54 RY rz xZ Fk rfl (by omega) (.slice Av OM.length cv) OM.length OM (by rfl) (HOW.o.alloc _) ⟨yJ.heap.size,0,none⟩ 1 1 [.slice none 0 0] (by rfl) (by rfl) (gw (cs:=#[.slice none 0 0]) (t:=22) (fr:=(0,0)) (bM yJ _)) (by simp [Value.oneCell']) (by omega) (by unfold maxLen;omega) (by omega) (by simp;omega) (yJ.heap.size+1) (by simp) ?_;intro gg cap w8 fL aW gZ ou));have hP8:=aA (hP.o.push fL aW gZ);have QO:=aA (hO.o.push hpk.o);have axD:Hid (Uu wp.heap.size (.slice (some ⟨gg,0,none⟩) (OM.length+1) cap) (OM++[.slice none 0 0])):=hof.o.push (gZ.imp id fun h=>by omega);have o8:Only (fun b=>(Value.slice Av OM.length cv).ownBlock=some b) _ w8:=(Only.fK aW).mono (fun i hi=>by first | exact hi | exact hi.symm);have hT8:Hid (Jk 44 w8 wp.heap.size (.bool sx) (.slice Ai xs.length ci) (.slice (some ⟨be,oe,none⟩) ps.length ei)):=by
        have t7:=hT.o.aC ((Below.refl yJ.heap.size yJ).alloc aL (.cells #[.slice none 0 0] 22));exact t7.keep (o8.block _ t7.lt fun e=>hof.o.v e)
       have hN8:Hid ((Es'++[[]]).length<=max (mY i (aP (L.take k))) (j+1)):=by
        show _<=_;have h1:=hP.o.len;rw [eC];show Es'.length+1<=_;exact aG (by omega) (Lv _ _)
       (have hz8:wp.heap.size<w8.heap.size:=by have:=hT8.o.lt;omega);(have hl8:(OM++[Value.slice none 0 0]).length=OM.length+1:=by rw [eC];rfl);clear fL aW gZ ou o8 hP hO hN hT hof HOW c2 hcE;(go_wp2_with fail);go_roundg (gk-1)
       case measure=>omega
       case rel=>exact ⟨_,_,by rw [hl8];omega,hP8,QO,hN8,hT8,axD,hz8⟩
     . have ayb:¬(OM.length:Int)<=(j:Int):=by omega
       obtain ⟨vb,cv',hv,awZ,Su⟩:=hP.o.own.form (by omega);injection hv with wN RU Mz
       subst wN;subst Mz;obtain ⟨V,E,hV,hE,fM⟩:=hP.o.at_ (j:=j) (by omega);obtain ⟨AV,cV,hVs⟩:=kI fM;subst hVs;have hcV:=hP.o.own.cellAt j (by omega);rw [hV] at hcV;have EX:=hP.o.own.frozenAt j;have aFJ:E.length<=4096:=by
        have h1:=dh List.length (hO.o.at_ j E hE);rw [au,dJ] at h1;have h2:(oC i j (aP (L.take k))).length<=(aP (L.take k)).length:=Nr _ _;rw [au,cQ] at h2;omega
       have c0:=hT.o.cell0;have c1:=hT.o.cell1;(have aKL:(0:Int)<=(j:Int):=by omega);(have aln:(j:Int)<(OM.length:Int):=by omega);(have q1:E.length+1<=maxLen:=by unfold maxLen;omega);(have q2:(E.length+1)*56<=140737488355328:=by omega);have hVb:Hid (∀b,(Value.slice AV E.length cV).ownBlock=some b->wo.heap.size<=b∧b≠wp.heap.size∧b≠vb):=fun b hb=>⟨(fM.lt b hb).1,fun e=>hof.o.Vs j _ hV (by rw [hb,e]),fun e=>hP.o.off j _ hV vb rfl (by rw [hb,e])⟩;have eF:Hid (∀W,Below yJ.heap.size yJ W->W.cell? ⟨wp.heap.size,0,none⟩=some (.bool sx)∧W.cell? ⟨wp.heap.size,1,none⟩=some (.slice Ai xs.length ci)∧W.cell? ⟨wp.heap.size,2,none⟩=some (.slice (some ⟨be,oe,none⟩) ps.length ei)∧W.cell? ⟨be,oe+i,none⟩=some (.int .i64 (j:Int))∧W.cell? ⟨vb,j,none⟩=some (.slice AV E.length cV)):=fun W hW=>
        ⟨(hW.cell (p:=⟨wp.heap.size,0,none⟩) Sx).trans c0,(hW.cell (p:=⟨wp.heap.size,1,none⟩) Sx).trans c1,(hW.cell (p:=⟨wp.heap.size,2,none⟩) Sx).trans c2,(hW.cell (p:=⟨be,oe+i,none⟩) se).trans hcE,(hW.cell (p:=⟨vb,j,none⟩) Su).trans hcV⟩
       have hR:Hid (∀W,Below yJ.heap.size yJ W->W.ownsRow wo.heap.size 44 3 (.slice AV E.length cV) E.length (aS E)):=fun W hW=>sQ fM hW;have G:Hid (∀w8,(World.drew (yJ.alloc (.cells #[.bool sx,.slice Ai xs.length ci,.slice (some ⟨be,oe,none⟩) ps.length ei] 44))).grownBy w8 (Value.slice AV E.length cV).ownBlock->(fun W=>W.cell? ⟨wp.heap.size,0,none⟩=some (.bool sx)∧W.cell? ⟨wp.heap.size,1,none⟩=some (.slice Ai xs.length ci)∧W.cell? ⟨wp.heap.size,2,none⟩=some (.slice (some ⟨be,oe,none⟩) ps.length ei)∧W.cell? ⟨be,oe+i,none⟩=some (.int .i64 (j:Int))∧W.cell? ⟨vb,j,none⟩=some (.slice AV E.length cV)) w8):=fun w8 rD=>by
        obtain ⟨k1,k2,k3,k4,k5⟩:=eF.o _ ((Below.refl yJ.heap.size yJ).alloc aL (.cells #[.bool sx,.slice Ai xs.length ci,.slice (some ⟨be,oe,none⟩) ps.length ei] 44)).drew;(have hs8:yJ.heap.size<(World.drew (yJ.alloc (.cells #[.bool sx,.slice Ai xs.length ci,.slice (some ⟨be,oe,none⟩) ps.length ei] 44))).heap.size:=by show _<(yJ.alloc _).heap.size;simp);have far:∀b,wp.heap.size=b∨be=b∨vb=b->some b≠(Value.slice AV E.length cV).ownBlock:=fun b hb e=>by
         have h1:=hVb.o b e.symm;omega
        exact ⟨(rD.cell_far ⟨wp.heap.size,0,none⟩ (by show wp.heap.size<_;omega) (far _ (.inl rfl))).trans k1,(rD.cell_far ⟨wp.heap.size,1,none⟩ (by show wp.heap.size<_;omega) (far _ (.inl rfl))).trans k2,(rD.cell_far ⟨wp.heap.size,2,none⟩ (by show wp.heap.size<_;omega) (far _ (.inl rfl))).trans k3,(rD.cell_far ⟨be,oe+i,none⟩ (by show be<_;omega) (far _ (.inr (.inl rfl)))).trans k4,(rD.cell_far ⟨vb,j,none⟩ (by show vb<_;omega) (far _ (.inr (.inr rfl)))).trans k5⟩
       have F:Hid (∀w8 gg cap,w8.ownsRow wo.heap.size 44 3 (.slice (some ⟨gg,0,none⟩) (E.length+1) cap) (E.length+1) (aS E++[.bool sx,.slice Ai xs.length ci,.slice (some ⟨be,oe,none⟩) ps.length ei])->(World.drew (yJ.alloc (.cells #[.bool sx,.slice Ai xs.length ci,.slice (some ⟨be,oe,none⟩) ps.length ei] 44))).grownBy w8 (Value.slice AV E.length cV).ownBlock->((Value.slice AV E.length cV).ownBlock=some gg∨gg=yJ.heap.size+1)->w8.cell? ⟨vb,j,none⟩=some (.slice AV E.length cV)∧w8.frozen? ⟨vb,j,none⟩=false∧vb<w8.heap.size∧∃(Vs2:List Value) (Es2:List (List ax)) (cv2:Nat),Hid (Nx 22 44 wo (w8.setCell ⟨vb,j,none⟩ (.slice (some ⟨gg,0,none⟩) (E.length+1) cap)) (.slice (some ⟨vb,0,none⟩) OM.length cv) Vs2 Es2)∧Hid (wS i L (aP (L.take (k+1))) Es2)∧Hid (Es2.length=mY i (aP (L.take (k+1))))∧cv2=cv):=fun w8 gg cap fL rD gZ=>by
        (have hs8:yJ.heap.size<(World.drew (yJ.alloc (.cells #[.bool sx,.slice Ai xs.length ci,.slice (some ⟨be,oe,none⟩) ps.length ei] 44))).heap.size:=by show _<(yJ.alloc _).heap.size;simp);have far:some vb≠(Value.slice AV E.length cV).ownBlock:=fun e=>(hVb.o vb e.symm).2.2 rfl;have ayU:(World.drew (yJ.alloc (.cells #[.bool sx,.slice Ai xs.length ci,.slice (some ⟨be,oe,none⟩) ps.length ei] 44))).frozen? ⟨vb,j,none⟩=false:=(((Below.refl yJ.heap.size yJ).alloc aL (.cells #[.bool sx,.slice Ai xs.length ci,.slice (some ⟨be,oe,none⟩) ps.length ei] 44)).drew.frozen (p:=⟨vb,j,none⟩) Su).trans EX;have hx9:gV wo ((((Ai,ci),(some ⟨be,oe,none⟩,ei)),((sx,xs),ps)):ax):=⟨e4,e5,e6,e7,E8.o,E9.o⟩;have hP9:=(hP.o.jX (Below.refl yJ.heap.size yJ).drew).add (o:=(.cells #[.bool sx,.slice Ai xs.length ci,.slice (some ⟨be,oe,none⟩) ps.length ei] 44)) (x:=(((Ai,ci),(some ⟨be,oe,none⟩,ei)),((sx,xs),ps))) hV hE hx9 fL rD gZ
        have hO9:=hO.o.add (x:=(((Ai,ci),(some ⟨be,oe,none⟩,ei)),((sx,xs),ps))) hE M6.o hNx.o;have LP:(⟨vb,j,none⟩:Addr).block<(World.drew (yJ.alloc (.cells #[.bool sx,.slice Ai xs.length ci,.slice (some ⟨be,oe,none⟩) ps.length ei] 44))).heap.size:=Nat.lt_trans Su hs8;have hgz:=rD.size;refine ⟨(G.o w8 rD).2.2.2.2,(rD.frozen_far _ LP far).trans ayU,by omega,OM.set j (.slice (some ⟨gg,0,none⟩) (E.length+1) cap),Es'.set j (E++[(((Ai,ci),(some ⟨be,oe,none⟩,ei)),((sx,xs),ps))]),cv,?_,?_,?_,rfl⟩
        . have e:(OM.set j (.slice (some ⟨gg,0,none⟩) (E.length+1) cap)).length=OM.length:=fW
          exact hP9
        . rw [RV.o];exact hO9
        . show _=_
          rw [RV.o,fW,vR];have h1:=hO.o.len;have h2:=hP.o.len;have h3:=hN.o;have h4:mY i [bS ((sx,xs),ps)]=j+1:=by
           show max ((nth (bS ((sx,xs),ps)).1 i).toNat+1) 0=_;rw [hNx.o];simp
          rw [h4];omega
       clear hV hE hP hO hN hT hof fM c0 c1 hcV EX hVb;(go_wp2_with fail);refine fh (S:=fun W=>W.cell? ⟨wp.heap.size,0,none⟩=some (.bool sx)∧W.cell? ⟨wp.heap.size,1,none⟩=some (.slice Ai xs.length ci)∧W.cell? ⟨wp.heap.size,2,none⟩=some (.slice (some ⟨be,oe,none⟩) ps.length ei)∧W.cell? ⟨be,oe+i,none⟩=some (.int .i64 (j:Int))∧W.cell? ⟨vb,j,none⟩=some (.slice AV E.length cV)) (z:=18) (by kernel_rfl) ?_;have hHeld:=eF.o _ (Below.refl yJ.heap.size yJ).drew;(try dsimp only at hHeld);refine tk 18 0 (.slice (some ⟨vb,0,none⟩) OM.length cv) rfl hHeld ?_;(try simp only [fx,Act.put]);refine tk 18 1 (.pointer (some ⟨wp.heap.size,2,none⟩)) rfl hHeld ?_;(try simp only [fx,Act.put]);refine tk 18 2 (.slice (some ⟨be,oe,none⟩) ps.length ei) rfl hHeld ?_;(try simp only [fx,Act.put]);refine tk 18 3 (.int .i64 (i:Int)) rfl hHeld ?_;(try simp only [fx,Act.put]);refine tk 18 4 (.pointer (some ⟨be,oe+i,none⟩)) rfl hHeld ?_;(try simp only [fx,Act.put]);refine tk 18 5 (.int .i64 (j:Int)) rfl hHeld ?_;(try simp only [fx,Act.put]);refine tk 18 6 (.slice (some ⟨vb,0,none⟩) OM.length cv) rfl hHeld ?_;(try simp only [fx,Act.put]);refine tk 18 7 (.pointer (some ⟨wp.heap.size,2,none⟩)) rfl hHeld ?_;(try simp only [fx,Act.put]);refine tk 18 8 (.slice (some ⟨be,oe,none⟩) ps.length ei) rfl hHeld ?_;(try simp only [fx,Act.put]);refine tk 18 9 (.int .i64 (i:Int)) rfl hHeld ?_;(try simp only [fx,Act.put]);refine tk 18 10 (.pointer (some ⟨be,oe+i,none⟩)) rfl hHeld ?_;(try simp only [fx,Act.put]);refine tk 18 11 (.int .i64 (j:Int)) rfl hHeld ?_;(try simp only [fx,Act.put]);refine tk 18 12 (.pointer (some ⟨vb,0+j,none⟩)) rfl hHeld ?_;(try simp only [fx,Act.put]);refine tk 18 13 (.slice AV E.length cV) rfl hHeld ?_;(try simp only [fx,Act.put]);refine tk 18 14 (.agg #[.bool sx,.slice Ai xs.length ci,.slice (some ⟨be,oe,none⟩) ps.length ei]) rfl hHeld ?_;(try simp only [fx,Act.put]);refine aT (rs:=[15]) (by kernel_rfl) (by simp) ?_;refine aK.cons rfl (by decide) (fun KK bu=> ?_) ?_
       . skip
         go_simp;refine bu.o _ _ (eF.o _ (aU.alloc aL (.cells #[.bool sx,.slice Ai xs.length ci,.slice (some ⟨be,oe,none⟩) ps.length ei] 44)).drew) (fun hHeld=> ?_);clear bu KK;(try dsimp only at hHeld);(try simp only [fx,Act.put]);refine aT (rs:=[16]) (by kernel_rfl) (by simp) ?_;refine aK.cons rfl (by decide) (fun KK bu=> ?_) ?_
         . skip
           refine pN _ (by rfl) _ _ _ (by rfl) wo.heap.size 44 l0 _ 3 56 underlying22 xB LM CB GG rfl (by omega) (.slice AV E.length cV) E.length (aS E) (by rfl) (hR.o _ (aU.alloc aL (.cells #[.bool sx,.slice Ai xs.length ci,.slice (some ⟨be,oe,none⟩) ps.length ei] 44)).drew) ⟨yJ.heap.size,0,none⟩ 1 1 [.bool sx,.slice Ai xs.length ci,.slice (some ⟨be,oe,none⟩) ps.length ei] (by rfl) (by rfl) (gw (cs:=#[.bool sx,.slice Ai xs.length ci,.slice (some ⟨be,oe,none⟩) ps.length ei]) (t:=44) (fr:=(0,0)) (bM yJ _)) (by simp [Value.oneCell']) (by omega) q1 q2 (by simp;omega) (yJ.heap.size+1) (by simp) ?_;intro gg cap w8 fL aW gZ ou;refine bu.o _ _ (G.o w8 aW) (fun hHeld=> ?_);clear bu KK;(try dsimp only at hHeld);(try simp only [fx,Act.put]);refine aT (rs:=[17]) (by kernel_rfl) (by simp) ?_;refine aK.cons rfl (by decide) (fun KK bu=> ?_) ?_
           . skip
             go_simp;refine bu.o _ _ hHeld (fun hHeld=> ?_);clear bu KK;(try dsimp only at hHeld);(try simp only [fx,Act.put]);refine aT (rs:=[18]) (by kernel_rfl) (by simp) ?_;refine aK.last rfl (fun KK bu=> ?_);obtain ⟨azn,ayZ,ayg,aAh⟩:=F.o w8 gg cap fL aW gZ
             go_simp;refine bu.o _ _ ?_;clear bu KK;refine fE (by kernel_rfl) ?_ _;obtain ⟨Vs2,Es2,cv2,g1,g2,g3,g4⟩:=aAh;subst g4;clear fL aW gZ ou azn ayZ ayg hHeld F hR eF;(go_wp2_with fail);go_roundw
             case rel=>exact ⟨k+1,Vs2,Es2,by omega,by go_num,g1,g2,g3⟩
             case measure=>simp [intOf];omega
           exact aK.nil
         exact aK.nil
       exact aK.nil
  . have dH:¬(k:Int)<(mm:Int):=by omega
    have eR:L.take k=L:=iC (by have:=Hx.o.len;omega);rw [eR] at hO hN;have hEN:Hid (Vs.length=mY i (aP L)):=hP.o.len.symm.trans hN.o;have hV4:Vs.length<=1001:=by
     rw [hEN.o];refine IG fun t ht=> ?_;have h1:=HL.o.Tp t ht _ (gL (xs:=t.1) (i:=i) (by rw [HL.o.KD t ht];have:=ZA.o;omega));omega
    obtain ⟨Av,cv,hv⟩:=kI hP.o.own;subst hv;have t2:=aX.new wp (.bool false) (.slice none 0 0) (.slice none 0 0);have hbn:Below wp.heap.size wp (wp.alloc (.cells #[.bool false,.slice none 0 0,.slice none 0 0] 51)):=aU.alloc aL _;(have hsn:wp.heap.size<(wp.alloc (.cells #[.bool false,.slice none 0 0,.slice none 0 0] 51)).heap.size:=by simp);(have hsw:w.heap.size<wp.heap.size:=by have:=hP.o.aC.size;have:=hsz.o;omega);(go_wp2_with fail);generalize hwq:wp.alloc (.cells #[.bool false,.slice none 0 0,.slice none 0 0] 51)=wt at*
    clear hwq;have T2:=aA t2;have HBn:=aA hbn;have HBo:Hid (Below w.heap.size w wp):=HB.o.tm hP.o.aC;have ZF:Hid (Below w.heap.size w wt):=HBo.o.tm hbn;have T0t:Hid (aX wt w.heap.size (.bool false) (.slice none 0 0) (.slice none 0 0)):=(T0.o.aC hP.o.aC).aC hbn;clear t2 hbn;go_loopw [71] (fun ii wr=>∃(q:Nat) (E:List KE) (ov:Value),q<=Vs.length∧ii=.int .i64 (q:Int)∧Hid (E.length=q)∧Hid (j6 51 (fun _=>False) (fun b=>b=wp.heap.size∨b=w.heap.size) w wt.heap.size wr m ov E (fun j=>(kids (jB (m+1) i (aP L))).co j))∧Hid (aX wr wp.heap.size (.bool false) (.slice none 0 0) ov)∧Hid (Only (fun b=>b=wp.heap.size∨wt.heap.size<=b) wt wr)) (fun ii _=>Vs.length-(intOf ii).toNat)
    case atStart=>exact ⟨0,[],.slice none 0 0,bL _,rfl,rfl,j6.start _ _ _ _ ZF.o ZF.o.size,T2.o,Only.refl _ _⟩
    case round=>
     obtain ⟨q,E,ov,hq,rfl,hE,oK,hT,j7⟩:=hrel;obtain ⟨wq,rfl⟩:∃wq:World,wq=wr:=⟨_,rfl⟩;(have hX:Hid (∀b,(b=wp.heap.size∨b=w.heap.size)->w.heap.size<=b∧b<wt.heap.size):=fun b hb=>by omega);have P0:Hid (aX wq w.heap.size (.bool false) (.slice none 0 0) (.slice none 0 0)):=T0t.o.keep (j7.o.block _ T0t.o.lt (by omega));have pW:Hid (Below w.heap.size w wq):=oK.o.aC;have HBq:Hid (Below wp.heap.size wp wq):=HBn.o.trans (j7.o.below (by have:=HBn.o.size;exact this) fun b hb=>by omega);by_cases Sx:q<Vs.length
     . obtain ⟨V,E',hV,hE',fM⟩:=hP.o.at_ Sx
       obtain ⟨B,d,hVs,jQ,Yt,htr⟩:=jK fM rfl fun x hx=>(hP.o.ok q E' hE' x hx).aC hP.o.aC;subst hVs;obtain ⟨vb,cv',hv,awZ,Su⟩:=hP.o.own.form (by omega);injection hv with wN RU Mz
       subst wN;subst Mz;have hcV:=hP.o.own.cellAt q (by omega);rw [hV] at hcV;have hcq:=(HBq.o.cell (p:=⟨vb,q,none⟩) Su).trans hcV;(have uv:vb<wq.heap.size:=by have:=HBq.o.size;omega);(have axV:(q:Int)<(Vs.length:Int):=by omega);(have Aj:(0:Int)<=(q:Int):=by omega);have hmv:Hid (jB m (i+1) (aP (E'.map (·.2)))=(kids (jB (m+1) i (aP L))).co q):=by
        show _=_;rw [hO.o.at_ q E' hE',xM,aM (by rw [<- hEN.o];exact Sx)]
       have nj:∀t∈E'.map (·.2),t∈L:=fun t ht=>by
        obtain ⟨x,hx,rfl⟩:=af.1 ht;exact hO.o.sub q E' hE' x hx
       have aAi:E'.length<=4096:=by
        have h1:=dh List.length (hO.o.at_ q E' hE');rw [au,dJ] at h1;have h2:(oC i q (aP L)).length<=(aP L).length:=Nr _ _;rw [au] at h2;omega
       have arK:Hid (Arg n C (E'.map (·.2))):=⟨fun t ht=>HL.o.len t (nj t ht),fun t ht=>HL.o.bd t (nj t ht),fun t ht=>HL.o.co t (nj t ht),by rw [dJ];exact aAi⟩;have Htr:=aA htr;(have hmx:maxLen<=9223372036854775807:=by unfold maxLen;omega);have Cl:Hid (∀W,Below wq.heap.size wq W->aB 28 #[.int .i64 (n:Int),.int .i64 ((i:Int)+1),.slice B E'.length d] W (bW (fun _=>False) W m ((kids (jB (m+1) i (aP L))).co q))):=fun W hW=>by
        have h:=ih n (i+1) B E'.length d (E'.map (·.2)) W (by have:=ZA.o;omega) hn (Htr.o.aC (HBq.o.tm hW)) arK.o jQ (by omega);rw [hmv.o,lI] at h;exact h
       have ewi:IntKind.i64.wrap ((i:Int)+1)=(i:Int)+1:=bP _ (by have:=ZA.o;omega);have HT:=aA hT.o;have HO:=aA oK.o;(have q1:E.length+1<=maxLen:=by have:=hE.o;unfold maxLen;omega);(have q2:(E.length+1)*56<=140737488355328:=by have:=hE.o;omega);have HOW:=aA (fun W (hW:Below wq.heap.size wq W)=>(HO.o.jX hW).own);(have uq:Hid (∀(W:World) (ob:Obj),Below wq.heap.size wq W->wt.heap.size<=(W.alloc ob).heap.size):=fun W ob hW=>by have:=hW.size;have:=j7.o.size;simp;omega);have Fl:Hid (∀j,ov.ownBlock=some j->wt.heap.size<=j):=fun j hj=>(oK.o.own.lt j hj).1;have F:Hid (∀(w7 w8:World) (x:KE) (gg cap:Nat),Below wq.heap.size wq w7->aO (fun b=>False∨wq.heap.size<=b) m w7 x.v ((kids (jB (m+1) i (aP L))).co q)->w8.ownsRow wt.heap.size 51 3 (.slice (some ⟨gg,0,none⟩) (E.length+1) cap) (E.length+1) (iL E++xX x)->(w7.alloc (.cells #[.bool x.s,.slice x.A x.k x.c,.slice x.B x.m x.d] 51)).grownBy w8 ov.ownBlock->(ov.ownBlock=some gg∨gg=w7.heap.size+1)->
        aX w8 wp.heap.size (.bool false) (.slice none 0 0) ov∧j6 51 (fun _=>False) (fun b=>b=wp.heap.size∨b=w.heap.size) w wt.heap.size (w8.setCell ⟨wp.heap.size,2,none⟩ (.slice (some ⟨gg,0,none⟩) (E.length+1) cap)) m (.slice (some ⟨gg,0,none⟩) (E.length+1) cap) (E++[x]) (fun j=>(kids (jB (m+1) i (aP L))).co j)∧Only (fun b=>b=wp.heap.size∨wt.heap.size<=b) wt (w8.setCell ⟨wp.heap.size,2,none⟩ (.slice (some ⟨gg,0,none⟩) (E.length+1) cap))):=fun w7 w8 x gg cap fe hx aa rD gZ=>by
        have a7:Below w7.heap.size w7 (w7.alloc (.cells #[.bool x.s,.slice x.A x.k x.c,.slice x.B x.m x.d] 51)):=aU.alloc aL _;have o8:Only (fun b=>ov.ownBlock=some b) (w7.alloc (.cells #[.bool x.s,.slice x.A x.k x.c,.slice x.B x.m x.d] 51)) w8:=(Only.fK rD).mono (fun i hi=>by first | exact hi | exact hi.symm);have t8:aX w8 wp.heap.size (.bool false) (.slice none 0 0) ov:=by
         have t7:=((HT.o.aC fe).aC a7);exact t7.keep (o8.block _ t7.lt fun e=>by have:=Fl.o _ e;omega)
        have GJ:=HO.o.next (x:=x) (o:=(.cells #[.bool x.s,.slice x.A x.k x.c,.slice x.B x.m x.d] 51)) (fun b hb=>hb.elim) (fun b hb=>by have:=hX.o b hb;have:=j7.o.size;omega) fe (by rw [hE.o];exact hx) aa rD gZ rfl;refine ⟨t8,GJ.box ((Only.refl (fun b=>b=wp.heap.size∨b=w.heap.size) w8).setCell (p:=⟨wp.heap.size,2,none⟩) (.inl rfl) _) (fun b hb=>hX.o b hb),?_⟩;have r0:=j7.o.size;have r2:Only (fun b=>b=wp.heap.size∨wt.heap.size<=b) wq w7:=(Only.bZ fe).mono fun b hb=> .inr (by omega);have r4:Only (fun b=>b=wp.heap.size∨wt.heap.size<=b) (w7.alloc (.cells #[.bool x.s,.slice x.A x.k x.c,.slice x.B x.m x.d] 51)) w8:=o8.mono fun b hb=> .inr (Fl.o b hb);exact (((j7.o.trans r2).alloc _).trans r4).setCell (p:=⟨wp.heap.size,2,none⟩) (.inl rfl) _
       have co2:=hT.o.aN;clear hT oK j7 hV hE' fM hcV htr nj hP hO hN hEN arK Htr hmv eR;unfold bE at Cl;(go_wp2_with fail);go_region_with (go_at_call 28;refine (Cl.o _ (by first | exact aU.drew | exact aU)).mono ?_;rintro e w7 ⟨s7,A7,k7,c7,B7,m7,d7,rfl,RT,kO⟩;unfold bE;have fe:Below wq.heap.size wq w7:=(by first | exact aU.drew.trans kO | exact kO);have cO:=(HT.o.aC fe).aN;have fO:=(HT.o.aC fe).frozen 2;have lO:=(HT.o.aC fe).lt;obtain ⟨gg,cap,w8,Ir,fL,aW,gZ,ou⟩:=Nh (w7.alloc (.cells #[.bool s7,.slice A7 k7 c7,.slice B7 m7 d7] 51)) 49 49 wt.heap.size 51 i0 _ 3 56 underlying49 rT jE jD jJ rfl (by omega) ov E.length (iL E) ((HOW.o _ fe).alloc _) ⟨w7.heap.size,0,none⟩ 1 1 [.bool s7,.slice A7 k7 c7,.slice B7 m7 d7] (by rfl) (gw (cs:=#[.bool s7,.slice A7 k7 c7,.slice B7 m7 d7]) (t:=51) (fr:=(0,0)) (bM w7 _)) (by simp [Value.oneCell']) (Nat.one_pos) q1 q2 (uq.o _ _ fe) (w7.heap.size+1) (by simp);obtain ⟨t8,QO,Iw⟩:=F.o w7 w8 ⟨s7,A7,k7,c7,B7,m7,d7⟩ gg cap fe RT fL aW gZ;have f8:=t8.frozen 2;have c8:=t8.aN)
       all_goals
        have T8:=aA (t8.ZY (.slice (some ⟨gg,0,none⟩) (E.length+1) cap));have Uz:=aA QO;have Ux:=aA Iw;(have HE8:Hid ((E++[(⟨s7,A7,k7,c7,B7,m7,d7⟩:KE)]).length=q+1):=by show _=_;rw [eC,hE.o];rfl);clear t8 QO Iw fL aW gZ ou Ir RT fe kO F HOW uq HT Cl cO fO lO f8 c8 co2 hE;(go_wp2_with fail);go_roundw
        case rel=>exact ⟨q+1,_,_,by omega,by go_num,HE8,Uz,T8,Ux⟩
        case measure=>simp [intOf];omega
     . have axV:¬(q:Int)<(Vs.length:Int):=by omega
       obtain ⟨B9,d9,hov,p1,p2,p3⟩:=oK.o.row (fun b hb=>(hX.o b hb).2);subst hov;have GH:Hid ((kids (jB (m+1) i (aP L))).Sh E.length):=by
        have h:=ID m i (aP L);rw [<- hEN.o] at h;exact h.mono (by have:=hE.o;omega)
       have Q3:=aA p3;have hKs:Hid (∀j,aH.nm ((kids (jB (m+1) i (aP L))).co j)<2^(64*(C+1))):=fun j=>aR (aG (Poly.rC _ j) (IE (m+1) i (aP L))) EZ.o;have Ct:=aA (fun W (hW:Below wq.heap.size wq W)=>Vi (fun b=>(False∨w.heap.size<=b)∧¬(b=wp.heap.size∨b=w.heap.size)) m W B9 E.length d9 (kids (jB (m+1) i (aP L))) (Q3.o.aC hW) GH.o p1 p2 (by have:=ZA.o;omega) (C+1) (by omega) hKs.o);have t70:=hT.o.cell0;have t71:=hT.o.cell1;have t72:=hT.o.aN;(have ewm:IntKind.i64.wrap ((n:Int)-(i:Int))=(m:Int)+1:=by rw [bP _ (by have:=ZA.o;omega)];have:=ZA.o;omega);clear p3 hE oK j7 hP hO hN hEN;unfold bE at Ct;(go_wp2_with fail);refine (Ct.o _ aU).mono ?_;rintro e w1 ⟨s1,A1,k1,c1,B1,m1,d1,rfl,wN,cZ⟩;have AU:=aA (P0.o.aC cZ);have r0:=AU.o.cell0;have r1:=AU.o.cell1;have r2:=AU.o.aN;have r3:=AU.o.frozen 0;have r4:=AU.o.frozen 1;have r5:=AU.o.frozen 2;have F:Hid (aO (fun b=>False∨w.heap.size<=b) (m+1) (((w1.setCell ⟨w.heap.size,0,none⟩ (.bool s1)).setCell ⟨w.heap.size,1,none⟩ (.slice A1 k1 c1)).setCell ⟨w.heap.size,2,none⟩ (.slice B1 m1 d1)) (bE s1 A1 k1 c1 B1 m1 d1) (jB (m+1) i (aP L))):=
        aO.only (aZ w1 w.heap.size _ _ _) (fun b hb e=>by
         have h9:=P0.o.lt;rcases hb with hb | hb
         . exact hb.2 (.inr e)
         . omega) (fun b hb=>by
         have h9:=pW.o.size;rcases hb with hb | hb
         . exact hb.1
         . exact .inr (by omega)) wN
       have cN:Below w.heap.size w w1:=pW.o.tm cZ;have nI:Hid (Below w.heap.size w (((w1.setCell ⟨w.heap.size,0,none⟩ (.bool s1)).setCell ⟨w.heap.size,1,none⟩ (.slice A1 k1 c1)).setCell ⟨w.heap.size,2,none⟩ (.slice B1 m1 d1))):=((cN.setCell (p:=⟨w.heap.size,0,none⟩) aL _).setCell (p:=⟨w.heap.size,1,none⟩) aL _).setCell (p:=⟨w.heap.size,2,none⟩) aL _;clear wN cZ cN Ct;unfold bE;(go_wp2_with fail);exact bK (v:=.agg #[.bool s1,.slice A1 k1 c1,.slice B1 m1 d1]) (dO (fn:=Tryz.f28) rfl _ _ _ _ _ _ _ rfl (AU.o.set (.bool s1) (.slice A1 k1 c1) (.slice B1 m1 d1)) underlying51 rfl cW) rfl
        ⟨s1,A1,k1,c1,B1,m1,d1,rfl,F.o,nI.o⟩
def xS (C:Nat) (hC:C<=1000000):∀m,Nw m C
 | 0=>afA C hC
 | m+1=>afz C hC m (xS C hC m)
def rR (Q:Nat->Prop) (x:ax):Prop:=(0<x.2.1.2.length->∀y,x.1.1.1=some y->Q y.block)∧(0<x.2.2.length->∀y,x.1.2.1=some y->Q y.block)
def rR.mono {x:ax}(h:rR Q x) (hq:∀b,Q b->R b):rR R x:=⟨fun h0 y hy=>hq _ (h.1 h0 y hy),fun h0 y hy=>hq _ (h.2 h0 y hy)⟩
def rR.and {x:ax}(h:rR Q x) (k:rR R x):rR (fun b=>Q b∧R b) x:=⟨fun h0 y hy=>⟨h.1 h0 y hy,k.1 h0 y hy⟩,fun h0 y hy=>⟨h.2 h0 y hy,k.2 h0 y hy⟩⟩
def gV.here {x:ax}(h:gV w x):rR (fun b=>b<w.heap.size) x:=⟨fun h0 y hy=>yf h.2.2.2.2.1 h0 hy,fun h0 y hy=>xY h.2.2.2.2.2 h0 hy⟩
structure GP (T:TypeId) (w0 wr:World) (ge n C:Nat) (v:Value) (E:List ax) (M:Mv):Prop where
 own:wr.ownsRow w0.heap.size T 3 v E.length (aS E)
 ok:∀x∈E,gV wr x
 far:∀x∈E,rR (fun b=>v.ownBlock≠some b∧b≠ge) x
 off:v.ownBlock≠some ge
 len:∀x∈E,x.2.2.length=n
 co:∀x∈E,x.2.1.2.length<=C
 eq:aP (E.map (·.2))=M
 aC:Below w0.heap.size w0 wr
section
variable {T : TypeId} {w0 wr wt : World} {ge n C : Nat} {v : Value} {E : List ax} {M : Mv}
def GP.start (T:TypeId) (ge n C:Nat) (h:Below w0.heap.size w0 wr):GP T w0 wr ge n C (.slice none 0 0) [] []:=
 ⟨nv _ _ _ _,fun x hx=>absurd hx lD,fun x hx=>absurd hx lD,(fun e=>by cases e),fun x hx=>absurd hx lD,fun x hx=>absurd hx lD,rfl,h⟩
def GP.jX (h:GP T w0 wr ge n C v E M) (hb:Below wr.heap.size wr wt):GP T w0 wt ge n C v E M:=
 ⟨sQ h.own hb,fun x hx=>(h.ok x hx).aC hb,h.far,h.off,h.len,h.co,h.eq,h.aC.tm hb⟩
def GP.row (h:GP T w0 wr ge n C v E M) (xC:w0.heap.size<=ge) (ho:Only (fun b=>b=ge) wr wt):GP T w0 wt ge n C v E M:=
 ⟨ki h.own ho fun k hk hq=>h.off (by rw [hk,hq]),fun x hx=>iM (h.ok x hx) ho (fun h0 y hy=>((h.far x hx).1 h0 y hy).2) (fun h0 y hy=>((h.far x hx).2 h0 y hy).2),h.far,h.off,h.len,h.co,h.eq,h.aC.trans (ho.below h.aC.size fun b hb=>by omega)⟩
def GP.next {w2 w3:World} {g cap H:Nat} {x:ax} {o:Obj}(h:GP T w0 wr ge n C v E M) (hg:ge<wr.heap.size) (cN:Below wr.heap.size wr w2) (hx:gV w2 x) (kR:x.2.2.length=n) (hxC:x.2.1.2.length<=C) (hf:rR (fun b=>v.ownBlock≠some b∧b≠ge) x)
 (aa:w3.ownsRow w0.heap.size T 3 (.slice (some ⟨g,0,none⟩) (E.length+1) cap) (E.length+1) (aS E++kU x)) (rD:(w2.alloc o).grownBy w3 v.ownBlock) (gZ:v.ownBlock=some g∨g=H) (hH:H=w2.heap.size+1):
 GP T w0 w3 ge n C (.slice (some ⟨g,0,none⟩) (E.length+1) cap) (E++[x]) (M++[bS x.2]):=by
 subst hH;have tV:∀k,v.ownBlock=some k->w0.heap.size<=k∧k<wr.heap.size:=fun k hk=>h.own.lt k hk;have vH:=cN.size;have b3:Below w2.heap.size w2 (w2.alloc o):=aU.alloc aL _;have o3:Only (fun k=>v.ownBlock=some k) (w2.alloc o) w3:=(Only.fK rD).mono (fun i hi=>by first | exact hi | exact hi.symm);have wV:∀z∈E++[x],rR (fun b=>v.ownBlock≠some b∧b≠ge) z:=fun z hz=>by
  rcases gT.1 hz with hz | hz
  . exact h.far z hz
  . rw [dS.1 hz];exact hf
 have eR:∀z∈E++[x],gV w2 z:=fun z hz=>by
  rcases gT.1 hz with hz | hz
  . exact (h.ok z hz).aC cN
  . rw [dS.1 hz];exact hx
 refine ⟨by rw [eC,qI];exact aa,fun z hz=>iM ((eR z hz).aC b3) o3 (fun h0 y hy e=>((wV z hz).1 h0 y hy).1 e) (fun h0 y hy e=>((wV z hz).2 h0 y hy).1 e),fun z hz=> ?_,fun e=> ?_,fun z hz=> ?_,fun z hz=> ?_,?_,?_⟩
 . refine ((wV z hz).and (eR z hz).here).mono fun b hb=>⟨fun e=> ?_,hb.1.2⟩
   have e2:g=b:=by injection e
   rcases gZ with h1 | h1
   . exact hb.1.1 (by rw [h1,e2])
   . have:=hb.2;omega
 . have e2:g=ge:=by injection e
   rcases gZ with h1 | h1
   . exact h.off (by rw [h1,e2])
   . omega
 . rcases gT.1 hz with hz | hz
   . exact h.len z hz
   . rw [dS.1 hz];exact kR
 . rcases gT.1 hz with hz | hz
   . exact h.co z hz
   . rw [dS.1 hz];exact hxC
 . rw [ij,eN,h.eq]
   rfl
 . have ux:Below w0.heap.size w0 w2:=h.aC.tm cN
   exact (ux.alloc ux.size o).grown rD (by have:=ux.size;simp;omega) (fun k hk=>(tV k hk).1)
end
structure N7 (T:TypeId) (w0 w:World) (ge n:Nat) (es:List Int):Prop where
 own:w.ownsRow w0.heap.size T 1 (.slice (some ⟨ge,0,none⟩) n n) n (ints es)
 ok:∀i,DX (nth es i)
section
variable {T : TypeId} {w0 w w' : World} {ge n : Nat} {es : List Int}
def N7.lo (h:N7 T w0 w ge n es):w0.heap.size<=ge∧ge<w.heap.size:=h.own.lt ge rfl
def N7.len (h:N7 T w0 w ge n es):es.length=n:=by
 have:=h.own.1;rw [qg,bl] at this;exact this
def N7.only {S:Nat->Prop}(h:N7 T w0 w ge n es) (ho:Only S w w') (hS:¬S ge):N7 T w0 w' ge n es:=
 ⟨ki h.own ho fun k hk hq=>by
   have e:ge=k:=by injection hk
   exact hS (by rw [e];exact hq),h.ok⟩
def N7.aC (h:N7 T w0 w ge n es) (hb:Below w.heap.size w w'):N7 T w0 w' ge n es:=h.only (Only.bZ hb) (by have:=h.lo.2;omega)
def N7.put (h:N7 T w0 w ge n es) {i:Nat}(k:Nat) (hk:k<=1000000000000) (hi:i<n):N7 T w0 (w.setCell ⟨ge,i,none⟩ (.int .i64 (k:Int))) ge n (es.set i (k:Int)):=by
 refine ⟨by rw [<- ints_set];exact vT h.own i _,fun j=> ?_⟩;rw [gK (by rw [h.len];exact hi)];split
 . constructor<;>omega
 . exact h.ok j
def N7.ints (h:N7 T w0 w ge n es):Ints w (some ⟨ge,0,none⟩) n es:=Ints.ia h.own h.ok
end
def CZ {α:Type} {F:Nat->List α}:∀{q l:Nat},q<=l->((List.range q).flatMap F).length<=((List.range l).flatMap F).length
 | q,0,h=>by
   obtain rfl:q=0:=by omega
   exact aL
 | q,l+1,h=>by
   by_cases e:q=l+1
   . rw [e];exact aL
   . rw [AR (n:=l),Lt,eC]
     exact aG (CZ (q:=q) (l:=l) (by omega)) (FB _ _)
def LZ {α:Type}(F:Nat->List α) (q:Nat):(List.range (q+1)).flatMap F=(List.range q).flatMap F++F q:=by
 rw [AR,Lt];simp
def Jy (h:i<es.length) (k:Int):(es.set i k).take (i+1)=es.take i++[k]:=by
 rw [kG (by rw [fW];exact h),adG];congr 1
 rw [ady aL]
def XW {w:Go.World} {t:Go.TypeId} {A:Option Go.Addr} {c:Nat} {xs:List Go.Value}(h:w.ownsRow base t sz (.slice A n c) n xs):n<=c∧c<=9223372036854775807:=by
 have hm:Go.maxLen<=9223372036854775807:=by unfold Go.maxLen;omega
 rcases h.2 with ⟨hv,h0⟩ | ⟨g,cap,cur,hv,_,_,h1,h2,_⟩
 . injection hv with _ e1 e2
   omega
 . injection hv with _ e1 e2
   omega
def XA {es':List Int} (h:es'.take (i+1)=es.take (i+1)):es'.take i=es.take i:=by
 have h1:=dh (List.take i) h;rw [acZ,acZ,oz (by omega)] at h1;exact h1
def wJ (w0:World) (ge n i C:Nat) (es:List Int) (M:Mv) (e:Ending) (w':World):Prop:=
 ∃v' E' es',e=.returned v'∧N7 3 w0 w' ge n es'∧es'.take i=es.take i∧GP 44 w0 w' ge n C v' E' M
def Nv (m C:Nat):Prop:=∀(n i:Nat) (w0 w:World) (u:Value) (f:Pn m) (ge:Nat) (es:List Int) (v:Value) (E:List ax) (M:Mv),n=i+m->n<=6->aO (fun _=>True) m w0 u f->N7 3 w0 w ge n es->GP 44 w0 w ge n C v E M->aH.nm f<2^(64*C)->Nz m f->M.length+(dW m (es.take i) f).length<=1000000->
 aB 34 #[u,.int .i64 (n:Int),.int .i64 (i:Int),.slice (some ⟨ge,0,none⟩) n n,v] w (wJ w0 ge n i C es (M++dW m (es.take i) f))
def LI:(prog.info? 3).map (fun i=>(i.zero,i.size,i.bytes))=some (some (.int .i64 0),1,8):=by kernel_rfl
def aaB (C:Nat) (hC:C<=1000000):Nv 0 C:=by
 intro n i w0 w u f ge es v E M hni hn hf hes hT nf kf tj;obtain ⟨s,A,k,c,ls,rfl,h1,h2,h3,h4,_⟩:=hf;obtain ⟨i0,rT,hu0,hu1,hu2⟩:=oG LI;obtain ⟨l0,xB,LM,CB,GG⟩:=oG Gs;have Ds:k<=C:=by
  have h5:=h4.cap (K:=C) nf;have h6:=h3.len;omega
 obtain rfl:n=i:=by omega
 clear hni;obtain ⟨Av,cv,hv⟩:=kI hT.own;subst hv;have qp:=hT.aC;have tk:es.take n=es:=iC (ig hes.len);rw [tk] at tj ⊢;have t0:=aX.new w (.bool s) (.slice A k c) (.slice none 0 0);have hb:Below w.heap.size w (w.alloc (.cells #[.bool s,.slice A k c,.slice none 0 0] 51)):=aU.alloc aL _;have k0:=t0.cell0;have k1:=t0.cell1;have HB:=aA hb;have Cs:=aA (fun W (hW:Below w0.heap.size w0 W)=>yI s A k c ls W (h3.aC hW) h1 h2 (by omega));have hz:Hid ((zI s (cU ls k)==0)=true↔f=0):=by
  show _↔_;rw [Qy];exact (zW h4 h3.len).trans ⟨fun e=>e,fun e=>e⟩
 have H3:=aA h3;have H4:=aA h4;have Hes:=aA (hes.aC hb);have HTw:=aA hT;have HT:=aA (hT.jX hb);have Hge:=aA (show ge<w.heap.size from hes.lo.2);have T0:=aA t0;have Hw:=aA qp;have zC:Hid (E.length+1<=1000000∨f=0):=by
  by_cases e:f=0
  . exact .inr e
  . left
    have h9:=dh List.length hT.eq;rw [au,dJ] at h9;rw [iB,aY (show¬vM f=0 from e)] at tj;simp at tj;omega
 have hsw:=aA (show w0.heap.size<=w.heap.size from qp.size);clear h3 h4 hes hT t0 hb qp nf kf tj tk;unfold bE;go_enter func34,ntmps34
 go_wp2_with fail
 generalize je:w.alloc (.cells #[.bool s,.slice A k c,.slice none 0 0] 51)=wt at*
 clear je;refine (Cs.o _ (Hw.o.tm HB.o)).mono ?_;rintro e w1 ⟨rfl,cZ⟩;have T1:=aA (T0.o.aC cZ);have RG:=aA (Hes.o.aC cZ);have ZC:=aA (HT.o.jX cZ);have Hw1:=aA (HT.o.jX cZ).aC;have uF:=cZ.size;have Ah:=HB.o.size;clear cZ Cs k0 k1 Hes HT;by_cases h0:f=0
 . have jD:=hz.o.2 h0
   have F:Hid (wJ w0 ge n n C es (M++dW 0 es f) (.returned (.slice Av E.length cv)) w1):=by
    refine ⟨_,E,es,rfl,RG.o,rfl,?_⟩;rw [iB,aM (show vM f=0 from h0),tI];exact ZC.o
   clear RG ZC Hw1 hz;go_wp2_with fail
   go_ret;exact F.o
 . have jD:(zI s (cU ls k)==0)=false:=by
    cases hq:(zI s (cU ls k)==0) with
    | false=>rfl
    | true=>exact absurd (hz.o.1 hq) h0
   have q0:E.length+1<=1000000:=zC.o.resolve_right h0;have aJA:=hsw.o;have c0:=T1.o.cell0;have c1:=T1.o.cell1;have hR:Hid (∀W,Below w1.heap.size w1 W->Reads W w1.heap.size 1 (some ⟨ge,0,none⟩) n (ints es)):=fun W hW=>RG.o.ints.reads.below hW;have hn6:n<=6:=hn;have eF:Hid (∀W,Below w1.heap.size w1 W->(fun W=>W.cell? ⟨w.heap.size,0,none⟩=some (.bool s)∧W.cell? ⟨w.heap.size,1,none⟩=some (.slice A k c)) W):=fun W hW=>⟨((T1.o.aC hW)).cell0,((T1.o.aC hW)).cell1⟩;have HOW:Hid (∀W,Below w1.heap.size w1 W->W.ownsRow w0.heap.size 44 3 (.slice Av E.length cv) E.length (aS E)):=fun W hW=>(ZC.o.jX hW).own;have F:Hid (∀w2 w8 Ae ce gg cap,Below w1.heap.size w1 w2->w2.ownsRow w1.heap.size 3 1 (.slice Ae n ce) n (ints es)->w8.ownsRow w0.heap.size 44 3 (.slice (some ⟨gg,0,none⟩) (E.length+1) cap) (E.length+1) (aS E++[.bool s,.slice A k c,.slice Ae n ce])->(w2.alloc (.cells #[.bool s,.slice A k c,.slice Ae n ce] 44)).grownBy w8 (Value.slice Av E.length cv).ownBlock->((Value.slice Av E.length cv).ownBlock=some gg∨gg=w2.heap.size+1)->wJ w0 ge n n C es (M++dW 0 es f) (.returned (.slice (some ⟨gg,0,none⟩) (E.length+1) cap)) w8):=fun w2 w8 Ae ce gg cap cN bp fL rD gZ=>by
    obtain rfl:=H3.o.len;have wO:=XW bp;have hse:es.length=n:=RG.o.len;(have hI2:Ints w2 Ae es.length es:=by rw [hse];exact Ints.ia bp RG.o.ok);have aKl:=Hw.o.size;have hx:gV w2 ((((A,c),(Ae,ce)),((s,ls),es)):ax):=⟨h1,h2,by show es.length<=ce;rw [hse];exact wO.1,wO.2,(H3.o.aC Hw1.o).aC cN,hI2⟩;have sZ:rR (fun b=>(Value.slice Av E.length cv).ownBlock≠some b∧b≠ge) ((((A,c),(Ae,ce)),((s,ls),es)):ax):=by
     have LP:=RG.o.lo;have hvl:∀b,(Value.slice Av E.length cv).ownBlock=some b->w0.heap.size<=b∧b<w1.heap.size:=fun b hb=>ZC.o.own.lt b hb;refine ⟨fun q0 y hy=> ?_,fun q0 y hy=> ?_⟩
     . have h9:=yf H3.o q0 hy
       exact ⟨fun e=>by have:=hvl _ e;omega,fun e=>by omega⟩
     . have q0':0<n:=by rw [<- hse];exact q0
       obtain ⟨g2,c2,RU,g3,g4⟩:=bp.form q0';injection RU with Mz
       have Fk:Ae=some y:=hy;rw [Fk] at Mz;injection Mz with Mz
       (have e2:y.block=g2:=by rw [Mz]);exact ⟨fun e=>by have:=hvl _ e;omega,fun e=>by omega⟩
    have akY:w8.ownsRow w0.heap.size 44 3 (.slice (some ⟨gg,0,none⟩) (E.length+1) cap) (E.length+1) (aS E++kU ((((A,c),(Ae,ce)),((s,ls),es)):ax)):=by
     show w8.ownsRow _ _ _ _ _ (aS E++[.bool s,.slice A ls.length c,.slice Ae es.length ce]);rw [hse];exact fL
    have GJ:=ZC.o.next (x:=(((A,c),(Ae,ce)),((s,ls),es))) RG.o.lo.2 cN hx hse Ds sZ akY rD gZ rfl;have Ak:=cN.alloc cN.size (.cells #[.bool s,.slice A ls.length c,.slice Ae n ce] 44);refine ⟨_,E++[(((A,c),(Ae,ce)),((s,ls),es))],es,rfl,?_,rfl,?_⟩
    . refine (RG.o.aC Ak).only ((Only.fK rD).mono fun b hb=>hb) fun e=>ZC.o.off ?_
      first | exact e | exact e.symm
    . rw [iB,aY (show¬vM f=0 from h0)]
      have e:bS ((s,ls),es)=(es,vM f):=by
       show (es,aI s ls)=_;rw [H4.o.eq]
      rw [<- e];exact GJ
   clear c0 c1;go_wp2_with fail
   refine fh (S:=fun W=>W.cell? ⟨w.heap.size,0,none⟩=some (.bool s)∧W.cell? ⟨w.heap.size,1,none⟩=some (.slice A k c)) (z:=99) (by kernel_rfl) ?_;have hHeld:=eF.o _ (Below.refl w1.heap.size w1).drew;try dsimp only at hHeld
   refine tk 99 0 (.slice Av E.length cv) rfl hHeld ?_;try simp only [fx,Act.put]
   refine tk 99 1 (.pointer (some ⟨w.heap.size,0,none⟩)) rfl hHeld ?_;try simp only [fx,Act.put]
   refine tk 99 2 (.agg #[.bool s,.slice A k c]) rfl hHeld ?_;try simp only [fx,Act.put]
   refine tk 99 4 (.slice (some ⟨ge,0,none⟩) n n) rfl hHeld ?_;try simp only [fx,Act.put]
   refine aT (rs:=[3]) (by kernel_rfl) (by simp) ?_;refine aK.cons rfl (by decide) (fun KK bu=> ?_) aK.nil;go_simp;refine bu.o _ _ (eF.o _ (aU.alloc aL (.cells #[] 3)).drew) (fun hHeld=> ?_);clear bu KK;try dsimp only at hHeld
   try simp only [fx,Act.put]
   refine aT (rs:=[5]) (by kernel_rfl) (by simp) ?_;refine aK.cons rfl (by decide) (fun KK bu=> ?_) aK.nil;refine dU _ (by rfl) _ _ 42 (by rfl) w1.heap.size 3 i0 (.int .i64 0) 1 8 underlying42 rT hu0 hu1 hu2 rfl (by decide) (.slice (some ⟨w1.heap.size,0,none⟩) 0 0) 0 [] (by rfl) (bA w1 3 aL) w1.heap.size (some ⟨ge,0,none⟩) n n (ints es) (by rfl) (hR.o _ (aU.alloc aL (.cells #[] 3)).drew) (ints_oneCell es) (by unfold maxLen;omega) (by omega) (by simp) ?_;intro v2 w2 bp abF YH;rw [og,bh] at bp;obtain ⟨Ae,ce,RU⟩:=kI bp;subst RU;have cN:Below w1.heap.size w1 w2:=((Below.refl w1.heap.size w1).alloc aL (.cells #[] 3)).drew.grown abF (by simp) (fun k hk=>(bA w1 3 aL).lt k hk |>.1);have vH:=cN.size;refine bu.o _ _ (eF.o _ cN) (fun hHeld=> ?_);clear bu KK;try dsimp only at hHeld
   try simp only [fx,Act.put]
   refine tk 99 6 (.agg #[.bool s,.slice A k c,.slice Ae n ce]) rfl hHeld ?_;try simp only [fx,Act.put]
   refine aT (rs:=[7]) (by kernel_rfl) (by simp) ?_;refine aK.cons rfl (by decide) (fun KK bu=> ?_) aK.nil;go_simp;refine bu.o _ _ (eF.o _ (cN.alloc cN.size (.cells #[.bool s,.slice A k c,.slice Ae n ce] 44))) (fun hHeld=> ?_);clear bu KK;try dsimp only at hHeld
   try simp only [fx,Act.put]
   refine aT (rs:=[8]) (by kernel_rfl) (by simp) ?_;refine aK.cons rfl (by decide) (fun KK bu=> ?_) aK.nil;refine pN _ (by rfl) _ _ _ (by rfl) w0.heap.size 44 l0 _ 3 56 underlying22 xB LM CB GG rfl (by omega) (.slice Av E.length cv) E.length (aS E) (by rfl) (HOW.o _ (cN.alloc cN.size (.cells #[.bool s,.slice A k c,.slice Ae n ce] 44))) ⟨w2.heap.size,0,none⟩ 1 1 [.bool s,.slice A k c,.slice Ae n ce] (by rfl) (by rfl) (gw (cs:=#[.bool s,.slice A k c,.slice Ae n ce]) (t:=44) (fr:=(0,0)) (bM w2 _)) (by simp [Value.oneCell']) (by omega) (by unfold maxLen;omega) (by omega) (by simp;omega) (w2.heap.size+1) (by simp) ?_;intro gg cap w8 fL aW gZ ou;have FF:=aA (F.o w2 w8 Ae ce gg cap cN bp fL aW gZ);have hK8:(fun W=>W.cell? ⟨w.heap.size,0,none⟩=some (.bool s)∧W.cell? ⟨w.heap.size,1,none⟩=some (.slice A k c)) w8:=by
    obtain ⟨k1,k2⟩:=eF.o _ (cN.alloc cN.size (.cells #[.bool s,.slice A k c,.slice Ae n ce] 44));(have far:some w.heap.size≠(Value.slice Av E.length cv).ownBlock:=fun e=>by have:=(HTw.o.own.lt _ e.symm).2;omega);exact ⟨(aW.cell_far ⟨w.heap.size,0,none⟩ (by show w.heap.size<_;simp;omega) far).trans k1,(aW.cell_far ⟨w.heap.size,1,none⟩ (by show w.heap.size<_;simp;omega) far).trans k2⟩
   clear fL aW gZ ou;refine bu.o _ _ hK8 (fun hHeld=> ?_);clear bu KK;try dsimp only at hHeld
   try simp only [fx,Act.put]
   refine aT (rs:=[9]) (by kernel_rfl) (by simp) ?_;refine aK.cons rfl (by decide) (fun KK bu=> ?_) aK.nil;go_simp;refine bu.o _ _ hK8 (fun hHeld=> ?_);clear bu KK;try dsimp only at hHeld
   try simp only [fx,Act.put]
   refine fE (by kernel_rfl) ?_ _;clear hK8 hHeld F HOW eF hR bp abF YH;go_wp2_with fail
   go_ret;exact FF.o
def aaA (C:Nat) (m:Nat) (ih:Nv m C):Nv (m+1) C:=by
 intro n i w0 w u f ge es v E M hni hn hf hes hT nf kf tj;obtain ⟨B,c,rfl,h1,h2,h3⟩:=hf.here;have lf:=kf.1;have Lf:=aA kf.2;have H3:=aA h3;have hne:((i:Int)==(n:Int))=false:=mD.2 (by omega);have ZA:=aA hni;have Hes:=aA hes;have HT:=aA hT;have Hc:=aA tj;have sZ:Hid (i<n):=by show _<_;omega
 have rT:(0:Int)<=(i:Int):=by omega
 have hi1:(i:Int)<(n:Int):=by omega
 have ewi:IntKind.i64.wrap ((i:Int)+1)=(i:Int)+1:=bP _ (by omega);obtain ⟨Av,cv,hv⟩:=kI hT.own;subst hv;have t0:=aX.new w (.bool false) (.slice none 0 0) (.slice B (kids f).len c);have hb:Below w.heap.size w (w.alloc (.cells #[.bool false,.slice none 0 0,.slice B (kids f).len c] 51)):=aU.alloc aL _;have k0:=t0.aN;have HB:=aA hb;clear hf h3 hes hT tj kf hni t0 hb;unfold bE;go_enter func34,ntmps34
 go_wp2_with fail
 generalize je:w.alloc (.cells #[.bool false,.slice none 0 0,.slice B (kids f).len c] 51)=wt at*
 clear je k0;go_loopw [4,33] (fun v kk wr=>∃(q:Nat) (E:List ax) (es':List Int),q<=(kids f).len∧kk=.int .i64 (q:Int)∧Hid (N7 3 w0 wr ge n es')∧Hid (es'.take i=es.take i)∧Hid (GP 44 w0 wr ge n C v E (M++(List.range q).flatMap fun k:Nat=>dW m (es.take i++[(k:Int)]) ((kids f).co k)))) (fun _ kk _=>(kids f).len-(intOf kk).toNat)
 case atStart=>exact ⟨0,E,es,bL _,rfl,Hes.o.aC HB.o,rfl,by
  have h:=HT.o.jX HB.o;rw [<- tI M] at h;exact h⟩
 case round=>
  clear Hes HT;obtain ⟨q,E',es',hq,rfl,hes,RV,hT⟩:=hrel;obtain ⟨wq,rfl⟩:∃wq:World,wq=wr:=⟨_,rfl⟩;obtain ⟨Aw,cw,hv⟩:=kI hT.o.own;subst hv;by_cases hlt:q<(kids f).len
  . obtain ⟨b,o,hB,_,hl,Ix⟩:=H3.o (by omega)
    subst hB;obtain ⟨s1,A1,k1,c1,B1,m1,d1,e1,e2,e3,e4⟩:=Ix q hlt;(have dH:(q:Int)<((kids f).len:Int):=by omega);(have Aj:(0:Int)<=(q:Int):=by omega);have qp:=hT.o.aC;have g1:=(qp.cell (p:=⟨b,o+q*3,none⟩) hl).trans e1;have g2:=(qp.cell (p:=⟨b,o+q*3+1,none⟩) hl).trans e2;have g3:=(qp.cell (p:=⟨b,o+q*3+2,none⟩) hl).trans e3;have axe:=qp.size;(have uv:b<wq.heap.size:=by omega);have E4:Hid (aO (fun _=>True) m w0 (.agg #[.bool s1,.slice A1 k1 c1,.slice B1 m1 d1]) ((kids f).co q)):=e4.mono fun _ _=>trivial;clear Ix e1 e2 e3 e4;have xC:=hes.o.lo;have tX:=aX.new wq (.bool s1) (.slice A1 k1 c1) (.slice B1 m1 d1);have nH:Below wq.heap.size wq (wq.alloc (.cells #[.bool s1,.slice A1 k1 c1,.slice B1 m1 d1] 51)):=aU.alloc aL _;have abH:=hes.o.aC nH;have LP:=abH.lo.2;have EX:=abH.own.frozenAt i;have OI:=abH.own.cellAt i (by have:=sZ.o;omega);rw [qh (by rw [abH.len];exact sZ.o)] at OI;have tY:=tX.far (p:=⟨ge,i,none⟩) (by show wq.heap.size≠ge;omega) (.int .i64 (q:Int));have y0:=tY.cell0;have y1:=tY.cell1;have y2:=tY.aN;have yl:=tY.lt;have I4:Below (wq.setCell ⟨ge,i,none⟩ (.int .i64 (q:Int))).heap.size (wq.setCell ⟨ge,i,none⟩ (.int .i64 (q:Int))) ((wq.setCell ⟨ge,i,none⟩ (.int .i64 (q:Int))).alloc (.cells #[.bool s1,.slice A1 k1 c1,.slice B1 m1 d1] 51)):=aU.alloc aL _;have aqU:=aA ((hes.o.put q (by omega) sZ.o).aC I4);have akT:Hid ((es'.set i (q:Int)).take (i+1)=es.take i++[(q:Int)]):=by
     show _=_;rw [Jy (by rw [hes.o.len];exact sZ.o),RV.o]
    have oge:Only (fun b=>b=ge) wq (wq.setCell ⟨ge,i,none⟩ (.int .i64 (q:Int))):=(Only.refl (fun b=>b=ge) _).setCell (p:=⟨ge,i,none⟩) rfl _;have hTB:=aA ((hT.o.row xC.1 oge).jX I4);have abJ:Hid ((M++(List.range q).flatMap fun k:Nat=>dW m (es.take i++[(k:Int)]) ((kids f).co k)).length+(dW m ((es'.set i (q:Int)).take (i+1)) ((kids f).co q)).length<=1000000):=by
     show _<=_;have h9:=Hc.o;rw [akT.o,eC,jb,<- eC,<- LZ (fun k:Nat=>dW m (es.take i++[(k:Int)]) ((kids f).co k)) q];exact aG (JZ (CZ (by omega)) _) h9
    have Ci:Hid (aB 34 #[.agg #[.bool s1,.slice A1 k1 c1,.slice B1 m1 d1],.int .i64 (n:Int),.int .i64 ((i:Int)+1),.slice (some ⟨ge,0,none⟩) n n,.slice Aw E'.length cw] ((wq.setCell ⟨ge,i,none⟩ (.int .i64 (q:Int))).alloc (.cells #[.bool s1,.slice A1 k1 c1,.slice B1 m1 d1] 51)) (wJ w0 ge n (i+1) C (es'.set i (q:Int)) (M++(List.range (q+1)).flatMap fun k:Nat=>dW m (es.take i++[(k:Int)]) ((kids f).co k)))):=by
     have h:=ih n (i+1) w0 _ _ ((kids f).co q) ge (es'.set i (q:Int)) _ E' _ (by have:=ZA.o;omega) hn E4.o aqU.o hTB.o (aR (gD f q) nf) (Lf.o q) abJ.o;rw [akT.o,vD,<- LZ (fun k:Nat=>dW m (es.take i++[(k:Int)]) ((kids f).co k)) q,lI] at h;exact h
    clear tX nH I4 abH oge hTB abJ aqU hT qp E4 tY;(go_wp2_with fail);refine Ci.o.mono ?_;rintro e w7 ⟨v7,E7,es7,rfl,g7,g8,g9⟩;have G7:=aA g7;have G8:Hid (es7.take i=es.take i):=by
     show _=_;rw [XA g8,ady aL];exact RV.o
    have G9:=aA g9;clear g7 g8 g9 RV akT hes Ci y0 y1 y2 OI EX;(go_wp2_with fail);go_roundw
    case rel=>exact ⟨q+1,E7,es7,by omega,by go_num,G7,G8,G9⟩
    case measure=>simp [intOf];omega
  . have dH:¬(q:Int)<((kids f).len:Int):=by omega
    (have Jt:q=(kids f).len:=by omega);have F:Hid (wJ w0 ge n i C es (M++dW (m+1) (es.take i) f) (.returned (.slice Aw E'.length cw)) wq):=by
     refine ⟨_,E',es',rfl,hes.o,RV.o,?_⟩;have h:=hT.o;rw [Jt] at h;exact h
    clear hes RV hT Jt;(go_wp2_with fail);go_ret;exact F.o
def Mn (C:Nat) (hC:C<=1000000):∀m,Nv m C
 | 0=>aaB C hC
 | m+1=>aaA C m (Mn C hC m)
