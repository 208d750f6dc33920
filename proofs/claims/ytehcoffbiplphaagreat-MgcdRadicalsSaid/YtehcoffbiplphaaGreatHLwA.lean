import Derived.Test.YtehcoffbiplphaaGreatHTj
import Derived.Test.YtehcoffbiplphaaGreatHTk
set_option linter.all false
set_option maxHeartbeats 16000000
set_option maxRecDepth 100000
namespace Go.Proofs.YtehcoffbiplphaaGreat
open Go.Proofs.Tryz
def Cov (ds:List Int) (L:List TV):Prop:=∀t∈L,∀j,nth t.2 j<=nth ds j
def mX (ds:List Int):Nat->Int
 | 0=>1
 | j+1=>mX ds j*(nth ds j+1)
def D9 {ds:List Int}(h:∀j,0<=nth ds j∧nth ds j<=1000):∀j,1<=mX ds j
 | 0=>nw 1
 | j+1=>by
   have h1:=D9 h j;have h2:=(h j).1;have h3:mX ds j*1<=mX ds j*(nth ds j+1):=Uj (by omega) (by omega);show 1<=mX ds j*(nth ds j+1);omega
open Go.RowKit
def GX (A B:Option Addr) (n c d:Nat) (L:List TV) (w:World) (hx:iI w A n L) (hy:iI w B n L) (hn:n<=100000000):
 aB 13 #[.slice A n c,.slice B n d] w fun e w'=>e=.returned (.bool true)∧Below w.heap.size w w':=by
 have C:=aA (Gz A B n n c d L L w hx hy hn hn (fun _ _ _=>rfl) true (by simp));clear hx hy;go_enter func13,ntmps13
 go_wp2_with fail
 refine C.o.mono ?_;rintro e w1 ⟨rfl,hb⟩;have Hb:=aA hb;clear hb;go_wp2_with fail
 go_ret;exact ⟨rfl,Hb.o⟩
def Sml (n most places:Int) (m:Nat) (Ls:Nat->List TV):Prop:=n<=3∧(∀k,k<m->((Ls k).length:Int)<=most∧Q8 n (Ls k)∧∀t∈Ls k,t.1.2.length<=1)∧∃ds:List Int,(∀j,0<=nth ds j∧nth ds j<=1000)∧(∀k,k<m->Cov ds (Ls k))∧mX ds 4<=places
def jd (w:World) (n most places:Int) (m:Nat) (Ls:Nat->List TV) (e:Ending) (w':World):Prop:=
 ∃b:Bool,e=.returned (.bool b)∧Below w.heap.size w w'∧(b=true->Sml n most places m Ls)
def sI {w w':World} {n most places:Int} {m:Nat} {Ls:Nat->List TV}(h:Below w.heap.size w w'):jd w n most places m Ls (.returned (.bool false)) w':=⟨false,rfl,h,fun h=>by cases h⟩
def LH:(prog.info? 3).map (fun i=>(i.zero,i.size,i.bytes))=some (some (.int .i64 0),1,8):=by kernel_rfl
def Xq (w:World):
 (Instr.makeSlice 42 (.int .i64 4) (.int .i64 4)).run prog w=.ok (.slice (some ⟨w.heap.size,0,none⟩) 4 4) (w.alloc (.cells (ints [0,0,0,0]).toArray 3)):=by
 cases hi:(prog).info? 3 with
 | none=>have h:=LH;rw [hi] at h;cases h
 | some i=>
   have h:=LH;rw [hi] at h;simp only [Option.map_some,Option.some.injEq,Prod.mk.injEq] at h;exact zJ (P:=prog) underlying42 hi h.1 h.2.1 h.2.2 4 (by omega) w
def aax {a b c:Int}(h:a*b=c) (h1:0<=c) (h2:c<=1000000000):IntKind.i64.wrap (a*b)=c:=by rw [h,bP _ (by omega)]
def aaM (n most places:Int) (g m c:Nat) (f:Nat->Option Addr) (ms cs:Nat->Nat) (Ls:Nat->List TV) (w:World) (hm:m<=100) (qm:places<=1000) (hg:g<w.heap.size)
 (h:∀k,k<m->w.cell? ⟨g,k,none⟩=some (.slice (f k) (ms k) (cs k))∧iI w (f k) (ms k) (Ls k)∧ms k<=9223372036854775807):
 aB 11 #[.int .i64 n,.int .i64 most,.int .i64 places,.slice (some ⟨g,0,none⟩) m c] w (jd w n most places m Ls):=by
 have H:=aA h;have KI:=Xq;clear h;go_enter func11,ntmps11
 by_cases hn3:3<n
 . have hno:Hid (jd w n most places m Ls (.returned (.bool false)) w):=sI aU
   go_wp2_with fail
   go_ret;exact hno.o
 . have rF:Below w.heap.size w (w.alloc (.cells (ints [0,0,0,0]).toArray 3)):=aU.alloc aL _
   have r0:=Row.new w 3 [0,0,0,0];have U2:=aA rF;have R0:=aA r0;clear rF r0;go_wp2_with fail
   generalize je:w.alloc (.cells (ints [0,0,0,0]).toArray 3)=wt at*
   clear je;have rp:∀j,nth [0,0,0,0] j=0:=fun j=>by
    match j with
    | 0=>rfl
    | 1=>rfl
    | 2=>rfl
    | 3=>rfl
    | j+4=>rfl
   go_loopw [10] (fun v wr=>∃(i:Nat) (ds:List Int),i<=m∧v=.int .i64 i∧Hid (ds.length=4)∧Hid (∀j,0<=nth ds j∧nth ds j<=1000)∧Hid (Row wr w.heap.size 3 ds)∧Hid (Below w.heap.size w wr)∧Hid (∀k,k<i->((Ls k).length:Int)<=most∧Q8 n (Ls k)∧(∀t∈Ls k,t.1.2.length<=1)∧Cov ds (Ls k))) (fun v _=>m-(intOf v).toNat)
   case atStart=>exact ⟨0,[0,0,0,0],bL _,rfl,rfl,(fun j=>by rw [rp j];omega),R0.o,U2.o,fun k hk=>absurd hk (rK k)⟩
   case round=>
    clear R0 U2;obtain ⟨i,ds,hi,rfl,hdl,hdb,hR,uN,hdone⟩:=hrel;obtain ⟨wp,rfl⟩:∃wp:World,wp=wr:=⟨_,rfl⟩;by_cases hlt:i<m
    . obtain ⟨q1,q2,q3⟩:=H.o i hlt
      (have dH:(i:Int)<(m:Int):=by omega);(have rT:(0:Int)<=(i:Int):=by omega);have HT:=aA (q2.aC uN.o);have aaV:Hid (∀W,Below w.heap.size w W->W.cell? ⟨g,i,none⟩=some (.slice (f i) (ms i) (cs i))):=fun W hW=>(hW.cell (p:=⟨g,i,none⟩) hg).trans q1;have HTw:=aA q2;have cL:=aaV.o _ uN.o;(have RZ:g<wp.heap.size:=by have:=uN.o.size;omega);generalize hLe:Ls i=L at*
      generalize f i=A at*
      generalize hme:ms i=nn at*
      generalize cs i=cc at*
      have HLe:=aA hLe;have HLl:=aA q2.len;have Cc:=aA (aaL n A nn cc L wp HT.o);clear q1 q2 hLe hme;have hno:Hid (jd w n most places m Ls (.returned (.bool false)) wp):=sI uN.o;by_cases hmo:most<(nn:Int)
      . go_wp2_with fail
        go_ret;exact hno.o
      . go_wp2_with fail
        refine Cc.o.mono ?_;rintro e w1 ⟨rfl,cZ⟩;have alP:=aA (uN.o.tm cZ);have hR1:=aA (hR.o.aC cZ);clear cZ Cc hR uN cL hno HT;by_cases oH:Q8 n L
        . have CP:=rU oH
          have KV:=aA oH;rw [CP];clear CP oH;(go_wp2_with fail);go_loopw [11] (fun v wr=>∃(k:Nat) (ds':List Int),k<=nn∧v=.int .i64 k∧Hid (ds'.length=4)∧Hid (∀j,0<=nth ds' j∧nth ds' j<=1000)∧Hid (∀j,nth ds j<=nth ds' j)∧Hid (Row wr w.heap.size 3 ds')∧Hid (Below w.heap.size w wr)∧Hid (∀k' (h:k'<L.length),k'<k->(L[k']).1.2.length<=1∧∀j,nth (L[k']).2 j<=nth ds' j)) (fun v _=>nn-(intOf v).toNat)
          case atStart=>exact ⟨0,ds,bL _,rfl,hdl,hdb,fun j=>nw _,hR1.o,alP.o,fun k h hk=>absurd hk (rK k)⟩
          case round=>
           clear hR1 alP;obtain ⟨k,ds',hk,rfl,alD,alE,hds,hR,uN,sZ⟩:=hrel;obtain ⟨wp,rfl⟩:∃wp:World,wp=wr:=⟨_,rfl⟩;have cL:=aaV.o _ uN.o;(have RZ:g<wp.heap.size:=by have:=uN.o.size;omega);have hno:Hid (jd w n most places m Ls (.returned (.bool false)) wp):=sI uN.o;by_cases hkn:k<nn
           . have Ds:k<L.length:=by rw [HLl.o];exact hkn
             obtain ⟨b,o,hA,hb,hc⟩:=HTw.o.at_ (by omega);subst hA;obtain ⟨Ai,ci,Ei,ei,e1,e2,e3,e4,e5,e6,e7,e8,e9⟩:=hc k Ds;(have aym:(k:Int)<(nn:Int):=by omega);(have wT:(0:Int)<=(k:Int):=by omega);rw [aq 3 k] at e2 e3;rw [<- jb] at e2 e3;have agc:=KV.o.2.2.2 k Ds;have hstep:Hid (∀xd:List Int,(L[k]).1.2.length<=1->(∀j,nth ds' j<=nth xd j)->(∀j,nth (L[k]).2 j<=nth xd j)->∀k' (h:k'<L.length),k'<k+1->(L[k']).1.2.length<=1∧∀j,nth (L[k']).2 j<=nth xd j):=fun xd h1 h2 h3 k' h Gc=>by
              by_cases e:k'=k
              . subst e;exact ⟨h1,h3⟩
              . have h4:=sZ.o k' h (by omega)
                exact ⟨h4.1,fun j=>UD (h4.2 j) (h2 j)⟩
             clear hc e1 e8;generalize L[k]=x at*
             obtain ⟨⟨s,xs⟩,ps⟩:=x;simp only at e2 e3 e4 e6 e7 e9 hstep agc;have E9:=aA e9;have aBv:=aA agc;(have aJN:ps.length<=3:=by have:=agc.1;simp only at this;omega);have ahY:Hid (∀W,Below w.heap.size w W->W.cell? ⟨b,o+k*3+1,none⟩=some (.slice Ai xs.length ci)∧W.cell? ⟨b,o+k*3+2,none⟩=some (.slice Ei ps.length ei)):=fun W hW=>⟨(hW.cell (p:=⟨b,o+k*3+1,none⟩) hb).trans e2,(hW.cell (p:=⟨b,o+k*3+2,none⟩) hb).trans e3⟩;obtain ⟨k1,k2⟩:=ahY.o _ uN.o;(have qp:b<wp.heap.size:=by have:=uN.o.size;omega);clear e9 e2 e3 agc;by_cases hli:(1:Int)<(xs.length:Int)
             . go_wp2_with fail
               go_ret;exact hno.o
             . go_wp2_with fail
               go_loopw [12] (fun v wr=>∃(j:Nat) (xd:List Int),j<=ps.length∧v=.int .i64 j∧Hid (xd.length=4)∧Hid (∀j,0<=nth xd j∧nth xd j<=1000)∧Hid (∀j,nth ds' j<=nth xd j)∧Hid (Row wr w.heap.size 3 xd)∧Hid (Below w.heap.size w wr)∧Hid (∀j',j'<j->nth ps j'<=nth xd j')) (fun v _=>ps.length-(intOf v).toNat)
               case atStart=>exact ⟨0,ds',bL _,rfl,alD,alE,fun j=>nw _,hR.o,uN.o,fun j hj=>absurd hj (rK j)⟩
               case round=>
                clear hR uN hno cL k1 k2 alD alE;obtain ⟨j,xd,hj,rfl,agp,abI,ago,hR,uN,S4⟩:=hrel;obtain ⟨wp,rfl⟩:∃wp:World,wp=wr:=⟨_,rfl⟩;have cL:=aaV.o _ uN.o;obtain ⟨k1,k2⟩:=ahY.o _ uN.o;have axe:=uN.o.size;(have RZ:g<wp.heap.size:=by omega);(have qp:b<wp.heap.size:=by omega);by_cases hjl:j<ps.length
                . obtain ⟨be,oe,hE,mN,hce⟩:=E9.o.at_ (by omega)
                  subst hE;have LQ:=(uN.o.cell (p:=⟨be,oe+j,none⟩) mN).trans (hce j hjl);(have aLr:be<wp.heap.size:=by omega);(have abA:(j:Int)<(ps.length:Int):=by omega);(have RY:(0:Int)<=(j:Int):=by omega);(have hj4:(j:Int)<4:=by omega);(have hjd:j<xd.length:=by rw [agp.o];omega);have cR:=hR.o.cell hjd;have fR:=hR.o.frozen j;have lR:=hR.o.lt;have hyb:=aBv.o.2 j hjl;have hub:=abI.o j;have yD:Hid (∀i,nth (xd.set j (max (nth xd j) (nth ps j))) i=if i=j then max (nth xd j) (nth ps j) else nth xd i):=fun i=>gK hjd _ i;have hR2:=aA (hR.o.set j (max (nth xd j) (nth ps j))).drew;have azp:=aA (uN.o.setCell (p:=⟨w.heap.size,j,none⟩) aL (.int .i64 (max (nth xd j) (nth ps j)))).drew;(have azf:Hid ((xd.set j (max (nth xd j) (nth ps j))).length=4):=by show _=_;rw [fW];exact agp.o);have azh:Hid (∀i,0<=nth (xd.set j (max (nth xd j) (nth ps j))) i∧nth (xd.set j (max (nth xd j) (nth ps j))) i<=1000):=fun i=>by
                   rw [yD.o i];have h1:0<=nth ps j∧nth ps j<=1000:=hyb;split
                   . omega
                   . exact abI.o i
                  have azc:Hid (∀i,nth ds' i<=nth (xd.set j (max (nth xd j) (nth ps j))) i):=fun i=>by
                   rw [yD.o i];have h1:=ago.o i;split
                   . rename_i e
                     rw [e] at h1 ⊢;omega
                   . exact h1
                  have ayv:Hid (∀j',j'<j+1->nth ps j'<=nth (xd.set j (max (nth xd j) (nth ps j))) j'):=fun j' hj'=>by
                   rw [yD.o j'];split
                   . rename_i e
                     rw [e];omega
                   . exact S4.o j' (by omega)
                  clear hce hR uN agp abI ago S4 yD;generalize xd.set j (max (nth xd j) (nth ps j))=ds3 at*
                  generalize nth ps j=y at*
                  generalize nth xd j=u at*
                  have hS:Hid ((fun W=>W.cell? ⟨g,i,none⟩=some (.slice (some ⟨b,o,none⟩) nn cc)∧W.cell? ⟨b,o+k*3+2,none⟩=some (.slice (some ⟨be,oe,none⟩) ps.length ei)∧W.cell? ⟨be,oe+j,none⟩=some (.int .i64 y)∧W.cell? ⟨w.heap.size,j,none⟩=some (.int .i64 u)) wp):=⟨cL,k2,LQ,cR⟩;(have axN:max u y<=1000:=by have h1:0<=y∧y<=1000:=hyb;omega);(go_wp2_with fail);refine fh (S:=fun W=>W.cell? ⟨g,i,none⟩=some (.slice (some ⟨b,o,none⟩) nn cc)∧W.cell? ⟨b,o+k*3+2,none⟩=some (.slice (some ⟨be,oe,none⟩) ps.length ei)∧W.cell? ⟨be,oe+j,none⟩=some (.int .i64 y)∧W.cell? ⟨w.heap.size,j,none⟩=some (.int .i64 u)) (z:=19) (by kernel_rfl) ?_;have hHeld:(fun W=>W.cell? ⟨g,i,none⟩=some (.slice (some ⟨b,o,none⟩) nn cc)∧W.cell? ⟨b,o+k*3+2,none⟩=some (.slice (some ⟨be,oe,none⟩) ps.length ei)∧W.cell? ⟨be,oe+j,none⟩=some (.int .i64 y)∧W.cell? ⟨w.heap.size,j,none⟩=some (.int .i64 u)) wp.drew:=hS.o;(try dsimp only at hHeld);refine tk 19 0 (.slice (some ⟨w.heap.size,0,none⟩) 4 4) rfl hHeld ?_;(try simp only [fx,Act.put]);refine tk 19 1 (.int .i64 (j:Int)) rfl hHeld ?_;(try simp only [fx,Act.put]);refine tk 19 2 (.slice (some ⟨w.heap.size,0,none⟩) 4 4) rfl hHeld ?_;(try simp only [fx,Act.put]);refine tk 19 3 (.int .i64 (j:Int)) rfl hHeld ?_;(try simp only [fx,Act.put]);refine tk 19 4 (.pointer (some ⟨w.heap.size,0+j,none⟩)) rfl hHeld ?_;(try simp only [fx,Act.put]);refine tk 19 5 (.int .i64 u) rfl hHeld ?_;(try simp only [fx,Act.put]);refine tk 19 6 (.slice (some ⟨g,0,none⟩) m c) rfl hHeld ?_;(try simp only [fx,Act.put]);refine tk 19 7 (.int .i64 (i:Int)) rfl hHeld ?_;(try simp only [fx,Act.put]);refine tk 19 8 (.pointer (some ⟨g,0+i,none⟩)) rfl hHeld ?_;(try simp only [fx,Act.put]);refine tk 19 9 (.slice (some ⟨b,o,none⟩) nn cc) rfl hHeld ?_;(try simp only [fx,Act.put]);refine tk 19 10 (.int .i64 (k:Int)) rfl hHeld ?_;(try simp only [fx,Act.put]);refine tk 19 11 (.pointer (some ⟨b,o+k*3,none⟩)) rfl hHeld ?_;(try simp only [fx,Act.put]);refine tk 19 12 (.pointer (some ⟨b,o+k*3+2,none⟩)) rfl hHeld ?_;(try simp only [fx,Act.put]);refine tk 19 13 (.slice (some ⟨be,oe,none⟩) ps.length ei) rfl hHeld ?_;(try simp only [fx,Act.put]);refine tk 19 14 (.int .i64 (j:Int)) rfl hHeld ?_;(try simp only [fx,Act.put]);refine tk 19 15 (.pointer (some ⟨be,oe+j,none⟩)) rfl hHeld ?_;(try simp only [fx,Act.put]);refine tk 19 16 (.int .i64 y) rfl hHeld ?_;(try simp only [fx,Act.put]);refine tk 19 17 (.int .i64 (max u y)) rfl hHeld ?_;(try simp only [fx,Act.put]);refine aT (rs:=[18]) (by kernel_rfl) (by simp) ?_;refine aK.cons rfl (by decide) (fun KK bu=> ?_) aK.nil;go_simp;refine bu.o _ _ hHeld (fun hHeld=> ?_);clear bu KK;(try dsimp only at hHeld);(try simp only [fx,Act.put]);refine aT (rs:=[19]) (by kernel_rfl) (by simp) ?_;refine aK.last rfl (fun KK bu=> ?_);go_simp;refine bu.o _ _ ?_;clear bu KK;refine fE (by kernel_rfl) ?_ _;clear hHeld hS cL k1 k2 LQ cR fR lR;(go_wp2_with fail);go_roundw
                  case rel=>exact ⟨j+1,ds3,by omega,by go_num,azf,azh,azc,hR2,azp,ayv⟩
                  case measure=>simp [intOf];omega
                . obtain rfl:j=ps.length:=by omega
                  (have abA:¬(ps.length:Int)<(ps.length:Int):=by omega);have hn3:=aA (hstep.o xd (by omega) ago.o (fun j'=>by
                   by_cases hj':j'<ps.length
                   . exact S4.o j' hj'
                   . rw [bw (by omega)]
                     exact (abI.o j').1))
                  have azb:Hid (∀j,nth ds j<=nth xd j):=fun j=>UD (hds.o j) (ago.o j);(go_wp2_with fail);go_roundw
                  case rel=>exact ⟨k+1,xd,by omega,by go_num,agp,abI,azb,hR,uN,hn3⟩
                  case measure=>simp [intOf];omega
           . have aym:¬(k:Int)<(nn:Int):=by omega
             have hn4:Hid (∀k',k'<i+1->((Ls k').length:Int)<=most∧Q8 n (Ls k')∧(∀t∈Ls k',t.1.2.length<=1)∧Cov ds' (Ls k')):=fun k' Gc=>by
              by_cases e:k'=i
              . subst e
                rw [HLe.o];refine ⟨by rw [HLl.o];omega,KV.o,fun t ht=> ?_,fun t ht j=> ?_⟩
                . obtain ⟨a,ha,rfl⟩:=uR.1 ht
                  exact (sZ.o a ha (by have:=HLl.o;omega)).1
                . obtain ⟨a,ha,rfl⟩:=uR.1 ht
                  exact (sZ.o a ha (by have:=HLl.o;omega)).2 j
              . obtain ⟨d1,d2,d3,d4⟩:=hdone.o k' (by omega)
                exact ⟨d1,d2,d3,fun t ht j=>UD (d4 t ht j) (hds.o j)⟩
             (go_wp2_with fail);go_roundw
             case rel=>exact ⟨i+1,ds',by omega,by go_num,alD,alE,hR,uN,hn4⟩
             case measure=>simp [intOf];omega
        . have CP:=DA oH
          have hno:Hid (jd w n most places m Ls (.returned (.bool false)) w1):=sI alP.o;rw [CP];clear CP;(go_wp2_with fail);go_ret;exact hno.o
    . obtain rfl:i=m:=by omega
      (have dH:¬(i:Int)<(i:Int):=by omega);(go_wp2_with fail);go_loopw [13,14] (fun a v wr=>∃j:Nat,j<=4∧a=.int .i64 (mX ds j)∧v=.int .i64 j∧wr=wp∧Hid (j=0∨mX ds j<=places)) (fun _ v _=>4-(intOf v).toNat)
      case atStart=>exact ⟨0,bL _,rfl,rfl,rfl,.inl rfl⟩
      case round=>
       obtain ⟨j,hj,rfl,rfl,rfl,Sw⟩:=hrel;by_cases hj4:j<4
       . have aKK:(j:Int)<4:=by omega
         (have RY:(0:Int)<=(j:Int):=by omega);have cR:=hR.o.cell (i:=j) (by rw [hdl.o];exact hj4);have hub:=hdb.o j;have hpp:=D9 hdb.o j;have hp1:mX ds j<=1000:=by
          rcases Sw.o with e | e
          . rw [e];show (1:Int)<=1000;omega
          . omega
         have ew1:IntKind.i64.wrap (nth ds j+1)=nth ds j+1:=bP _ (by omega);have Fl:0<=mX ds j*(nth ds j+1):=yC (by omega) (by omega);have hhi:mX ds j*(nth ds j+1)<=1000*1001:=Nu hp1 (by omega) (by omega) (by omega);have ew2:IntKind.i64.wrap (mX ds j*(nth ds j+1))=mX ds (j+1):=aax rfl Fl (by show mX ds j*(nth ds j+1)<=_;omega);have hno:Hid (jd w n most places i Ls (.returned (.bool false)) wr):=sI uN.o;by_cases yg:places<mX ds (j+1)
         . go_wp2_with fail
           go_ret;exact hno.o
         . have axx:Hid (j+1=0∨mX ds (j+1)<=places):=.inr (by omega)
           (go_wp2_with fail);go_roundw
           case rel=>exact ⟨j+1,by omega,rfl,by go_num,(by first | trivial | rfl),axx⟩
           case measure=>simp [intOf];omega
       . obtain rfl:j=4:=by omega
         have F:Hid (jd w n most places i Ls (.returned (.bool true)) wr):=⟨true,rfl,uN.o,fun _=>⟨by omega,fun k hk=>⟨(hdone.o k hk).1,(hdone.o k hk).2.1,(hdone.o k hk).2.2.1⟩,ds,hdb.o,fun k hk=>(hdone.o k hk).2.2.2,Sw.o.resolve_left (by omega)⟩⟩;(go_wp2_with fail);go_ret;exact F.o
