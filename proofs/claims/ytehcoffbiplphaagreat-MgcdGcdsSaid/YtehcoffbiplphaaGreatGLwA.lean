import Derived.Test.YtehcoffbiplphaaGreatGTj
import Derived.Test.YtehcoffbiplphaaGreatGTk
set_option linter.all false
set_option maxHeartbeats 16000000
set_option maxRecDepth 100000
namespace Go.Proofs.YtehcoffbiplphaaGreat
open Go.Proofs.Tryz
def Cov (ds:List Int) (L:List TV):Prop:=∀t∈L,∀j,nth t.2 j<=nth ds j
def mP (ds:List Int):Nat->Int
 | 0=>1
 | j+1=>mP ds j*(nth ds j+1)
def DK {ds:List Int}(h:∀j,0<=nth ds j∧nth ds j<=1000):∀j,1<=mP ds j
 | 0=>Ix 1
 | j+1=>by
   have h1:=DK h j;have h2:=(h j).1;have h3:mP ds j*1<=mP ds j*(nth ds j+1):=TW (by omega) (by omega);show 1<=mP ds j*(nth ds j+1);omega
open Go.RowKit
def MQ (A B:Option Addr) (n c d:Nat) (L:List TV) (w:World) (hx:jM w A n L) (hy:jM w B n L) (hn:n<=100000000):
 aC 13 #[.slice A n c,.slice B n d] w fun e w'=>e=.returned (.bool true)∧Below w.heap.size w w':=by
 have C:=aA (N9 A B n c d L w hx hy hn);clear hx hy;go_enter func13,ntmps13
 go_wp2_with fail
 refine C.o.mono ?_;rintro e w1 ⟨rfl,hb⟩;have Hb:=aA hb;clear hb;go_wp2_with fail
 go_ret;exact ⟨rfl,Hb.o⟩
def Sml (n most places:Int) (m:Nat) (Ls:Nat->List TV):Prop:=n<=3∧(∀k,k<m->((Ls k).length:Int)<=most∧Ja n (Ls k)∧∀t∈Ls k,t.1.2.length<=1)∧∃ds:List Int,(∀j,0<=nth ds j∧nth ds j<=1000)∧(∀k,k<m->Cov ds (Ls k))∧mP ds 4<=places
def jZ (w:World) (n most places:Int) (m:Nat) (Ls:Nat->List TV) (e:Ending) (w':World):Prop:=
 ∃b:Bool,e=.returned (.bool b)∧Below w.heap.size w w'∧(b=true->Sml n most places m Ls)
def sI {w w':World} {n most places:Int} {m:Nat} {Ls:Nat->List TV}(h:Below w.heap.size w w'):jZ w n most places m Ls (.returned (.bool false)) w':=⟨false,rfl,h,fun h=>by cases h⟩
def Ki:(prog.info? 3).map (fun i=>(i.zero,i.size,i.bytes))=some (some (.int .i64 0),1,8):=by kernel_rfl
def Ww (w:World):
 (Instr.makeSlice 42 (.int .i64 4) (.int .i64 4)).run prog w=.ok (.slice (some ⟨w.heap.size,0,none⟩) 4 4) (w.alloc (.cells (ints [0,0,0,0]).toArray 3)):=by
 cases hi:(prog).info? 3 with
 | none=>have h:=Ki;rw [hi] at h;cases h
 | some i=>
   have h:=Ki;rw [hi] at h;simp only [Option.map_some,Option.some.injEq,Prod.mk.injEq] at h;exact yx (P:=prog) underlying42 hi h.1 h.2.1 h.2.2 4 (by omega) w
def Zd {a b c:Int}(h:a*b=c) (h1:0<=c) (h2:c<=1000000000):IntKind.i64.wrap (a*b)=c:=by rw [h,bR _ (by omega)]
def Zn (n most places:Int) (g m c:Nat) (f:Nat->Option Addr) (ms cs:Nat->Nat) (Ls:Nat->List TV) (w:World) (hm:m<=100) (th:places<=1000) (hg:g<w.heap.size)
 (h:∀k,k<m->w.cell? ⟨g,k,none⟩=some (.slice (f k) (ms k) (cs k))∧jM w (f k) (ms k) (Ls k)∧ms k<=9223372036854775807):
 aC 11 #[.int .i64 n,.int .i64 most,.int .i64 places,.slice (some ⟨g,0,none⟩) m c] w (jZ w n most places m Ls):=by
 have H:=aA h;have Ck:=Ww;clear h;go_enter func11,ntmps11
 by_cases hn3:3<n
 . have hno:Hid (jZ w n most places m Ls (.returned (.bool false)) w):=sI aW
   go_wp2_with fail
   go_ret;exact hno.o
 . have ox:Below w.heap.size w (w.alloc (.cells (ints [0,0,0,0]).toArray 3)):=aW.alloc aK _
   have r0:=Row.new w 3 [0,0,0,0];have HB0:=aA ox;have R0:=aA r0;clear ox r0;go_wp2_with fail
   generalize kj:w.alloc (.cells (ints [0,0,0,0]).toArray 3)=wt at*
   clear kj;have rp:∀j,nth [0,0,0,0] j=0:=fun j=>by
    match j with
    | 0=>rfl
    | 1=>rfl
    | 2=>rfl
    | 3=>rfl
    | j+4=>rfl
   go_loopw [10] (fun v wr=>∃(i:Nat) (ds:List Int),i<=m∧v=.int .i64 i∧Hid (ds.length=4)∧Hid (∀j,0<=nth ds j∧nth ds j<=1000)∧Hid (Row wr w.heap.size 3 ds)∧Hid (Below w.heap.size w wr)∧Hid (∀k,k<i->((Ls k).length:Int)<=most∧Ja n (Ls k)∧(∀t∈Ls k,t.1.2.length<=1)∧Cov ds (Ls k))) (fun v _=>m-(intOf v).toNat)
   case atStart=>exact ⟨0,[0,0,0,0],dc _,rfl,rfl,(fun j=>by rw [rp j];omega),R0.o,HB0.o,fun k hk=>absurd hk (tG k)⟩
   case round=>
    clear R0 HB0;obtain ⟨i,ds,hi,rfl,hdl,hdb,hR,wG,hdone⟩:=hrel;obtain ⟨wp,rfl⟩:∃wp:World,wp=wr:=⟨_,rfl⟩;by_cases hlt:i<m
    . obtain ⟨q1,q2,q3⟩:=H.o i hlt
      (have dI:(i:Int)<(m:Int):=by omega);(have uA:(0:Int)<=(i:Int):=by omega);have HT:=aA (q2.aB wG.o);have Zw:Hid (∀W,Below w.heap.size w W->W.cell? ⟨g,i,none⟩=some (.slice (f i) (ms i) (cs i))):=fun W hW=>(hW.cell (p:=⟨g,i,none⟩) hg).trans q1;have HTw:=aA q2;have cL:=Zw.o _ wG.o;(have Ry:g<wp.heap.size:=by have:=wG.o.size;omega);generalize hLe:Ls i=L at*
      generalize f i=A at*
      generalize hme:ms i=nn at*
      generalize cs i=cc at*
      have HLe:=aA hLe;have HLl:=aA q2.len;have Cc:=aA (RX n A nn cc L wp HT.o);clear q1 q2 hLe hme;have hno:Hid (jZ w n most places m Ls (.returned (.bool false)) wp):=sI wG.o;by_cases hmo:most<(nn:Int)
      . go_wp2_with fail
        go_ret;exact hno.o
      . go_wp2_with fail
        refine Cc.o.mono ?_;rintro e w1 ⟨rfl,dH⟩;have ako:=aA (wG.o.tm dH);have hR1:=aA (hR.o.aB dH);clear dH Cc hR wG cL hno HT;by_cases lH:Ja n L
        . have JZ:=qF lH
          have JN:=aA lH;rw [JZ];clear JZ lH;(go_wp2_with fail);go_loopw [11] (fun v wr=>∃(k:Nat) (ds':List Int),k<=nn∧v=.int .i64 k∧Hid (ds'.length=4)∧Hid (∀j,0<=nth ds' j∧nth ds' j<=1000)∧Hid (∀j,nth ds j<=nth ds' j)∧Hid (Row wr w.heap.size 3 ds')∧Hid (Below w.heap.size w wr)∧Hid (∀k' (h:k'<L.length),k'<k->(L[k']).1.2.length<=1∧∀j,nth (L[k']).2 j<=nth ds' j)) (fun v _=>nn-(intOf v).toNat)
          case atStart=>exact ⟨0,ds,dc _,rfl,hdl,hdb,fun j=>Ix _,hR1.o,ako.o,fun k h hk=>absurd hk (tG k)⟩
          case round=>
           clear hR1 ako;obtain ⟨k,ds',hk,rfl,akc,akd,hds,hR,wG,tj⟩:=hrel;obtain ⟨wp,rfl⟩:∃wp:World,wp=wr:=⟨_,rfl⟩;have cL:=Zw.o _ wG.o;(have Ry:g<wp.heap.size:=by have:=wG.o.size;omega);have hno:Hid (jZ w n most places m Ls (.returned (.bool false)) wp):=sI wG.o;by_cases hkn:k<nn
           . have D7:k<L.length:=by rw [HLl.o];exact hkn
             obtain ⟨b,o,hA,hb,hc⟩:=HTw.o.at_ (by omega);subst hA;obtain ⟨Ai,ci,Ei,ei,e1,e2,e3,e4,e5,e6,e7,e8,e9⟩:=hc k D7;(have awo:(k:Int)<(nn:Int):=by omega);(have wP:(0:Int)<=(k:Int):=by omega);rw [aq 3 k] at e2 e3;rw [<- j9] at e2 e3;have aeO:=JN.o.2.2.2 k D7;have hstep:Hid (∀wh:List Int,(L[k]).1.2.length<=1->(∀j,nth ds' j<=nth wh j)->(∀j,nth (L[k]).2 j<=nth wh j)->∀k' (h:k'<L.length),k'<k+1->(L[k']).1.2.length<=1∧∀j,nth (L[k']).2 j<=nth wh j):=fun wh h1 h2 h3 k' h F3=>by
              by_cases e:k'=k
              . subst e;exact ⟨h1,h3⟩
              . have h4:=tj.o k' h (by omega)
                exact ⟨h4.1,fun j=>S1 (h4.2 j) (h2 j)⟩
             clear hc e1 e8;generalize L[k]=x at*
             obtain ⟨⟨s,xs⟩,ps⟩:=x;simp only at e2 e3 e4 e6 e7 e9 hstep aeO;have E9:=aA e9;have azD:=aA aeO;(have aHH:ps.length<=3:=by have:=aeO.1;simp only at this;omega);have agF:Hid (∀W,Below w.heap.size w W->W.cell? ⟨b,o+k*3+1,none⟩=some (.slice Ai xs.length ci)∧W.cell? ⟨b,o+k*3+2,none⟩=some (.slice Ei ps.length ei)):=fun W hW=>⟨(hW.cell (p:=⟨b,o+k*3+1,none⟩) hb).trans e2,(hW.cell (p:=⟨b,o+k*3+2,none⟩) hb).trans e3⟩;obtain ⟨k1,k2⟩:=agF.o _ wG.o;(have qu:b<wp.heap.size:=by have:=wG.o.size;omega);clear e9 e2 e3 aeO;by_cases hli:(1:Int)<(xs.length:Int)
             . go_wp2_with fail
               go_ret;exact hno.o
             . go_wp2_with fail
               go_loopw [12] (fun v wr=>∃(j:Nat) (wh:List Int),j<=ps.length∧v=.int .i64 j∧Hid (wh.length=4)∧Hid (∀j,0<=nth wh j∧nth wh j<=1000)∧Hid (∀j,nth ds' j<=nth wh j)∧Hid (Row wr w.heap.size 3 wh)∧Hid (Below w.heap.size w wr)∧Hid (∀j',j'<j->nth ps j'<=nth wh j')) (fun v _=>ps.length-(intOf v).toNat)
               case atStart=>exact ⟨0,ds',dc _,rfl,akc,akd,fun j=>Ix _,hR.o,wG.o,fun j hj=>absurd hj (tG j)⟩
               case round=>
                clear hR wG hno cL k1 k2 akc akd;obtain ⟨j,wh,hj,rfl,afc,aaG,afb,hR,wG,Rx⟩:=hrel;obtain ⟨wp,rfl⟩:∃wp:World,wp=wr:=⟨_,rfl⟩;have cL:=Zw.o _ wG.o;obtain ⟨k1,k2⟩:=agF.o _ wG.o;have avk:=wG.o.size;(have Ry:g<wp.heap.size:=by omega);(have qu:b<wp.heap.size:=by omega);by_cases hjl:j<ps.length
                . obtain ⟨be,oe,hE,qw,hce⟩:=E9.o.at_ (by omega)
                  subst hE;have Ks:=(wG.o.cell (p:=⟨be,oe+j,none⟩) qw).trans (hce j hjl);(have aJj:be<wp.heap.size:=by omega);(have aax:(j:Int)<(ps.length:Int):=by omega);(have Qd:(0:Int)<=(j:Int):=by omega);(have hj4:(j:Int)<4:=by omega);(have hjd:j<wh.length:=by rw [afc.o];omega);have cR:=hR.o.cell hjd;have fR:=hR.o.frozen j;have lR:=hR.o.lt;have hyb:=azD.o.2 j hjl;have hub:=aaG.o j;have oq:Hid (∀i,nth (wh.set j (max (nth wh j) (nth ps j))) i=if i=j then max (nth wh j) (nth ps j) else nth wh i):=fun i=>iX hjd _ i;have hR2:=aA (hR.o.set j (max (nth wh j) (nth ps j))).drew;have axq:=aA (wG.o.setCell (p:=⟨w.heap.size,j,none⟩) aK (.int .i64 (max (nth wh j) (nth ps j)))).drew;(have axg:Hid ((wh.set j (max (nth wh j) (nth ps j))).length=4):=by show _=_;rw [gH];exact afc.o);have axi:Hid (∀i,0<=nth (wh.set j (max (nth wh j) (nth ps j))) i∧nth (wh.set j (max (nth wh j) (nth ps j))) i<=1000):=fun i=>by
                   rw [oq.o i];have h1:0<=nth ps j∧nth ps j<=1000:=hyb;split
                   . omega
                   . exact aaG.o i
                  have axd:Hid (∀i,nth ds' i<=nth (wh.set j (max (nth wh j) (nth ps j))) i):=fun i=>by
                   rw [oq.o i];have h1:=afb.o i;split
                   . rename_i e
                     rw [e] at h1 ⊢;omega
                   . exact h1
                  have awv:Hid (∀j',j'<j+1->nth ps j'<=nth (wh.set j (max (nth wh j) (nth ps j))) j'):=fun j' hj'=>by
                   rw [oq.o j'];split
                   . rename_i e
                     rw [e];omega
                   . exact Rx.o j' (by omega)
                  clear hce hR wG afc aaG afb Rx oq;generalize wh.set j (max (nth wh j) (nth ps j))=ds3 at*
                  generalize nth ps j=y at*
                  generalize nth wh j=u at*
                  have hS:Hid ((fun W=>W.cell? ⟨g,i,none⟩=some (.slice (some ⟨b,o,none⟩) nn cc)∧W.cell? ⟨b,o+k*3+2,none⟩=some (.slice (some ⟨be,oe,none⟩) ps.length ei)∧W.cell? ⟨be,oe+j,none⟩=some (.int .i64 y)∧W.cell? ⟨w.heap.size,j,none⟩=some (.int .i64 u)) wp):=⟨cL,k2,Ks,cR⟩;(have ajE:max u y<=1000:=by have h1:0<=y∧y<=1000:=hyb;omega);(go_wp2_with fail);refine gC (S:=fun W=>W.cell? ⟨g,i,none⟩=some (.slice (some ⟨b,o,none⟩) nn cc)∧W.cell? ⟨b,o+k*3+2,none⟩=some (.slice (some ⟨be,oe,none⟩) ps.length ei)∧W.cell? ⟨be,oe+j,none⟩=some (.int .i64 y)∧W.cell? ⟨w.heap.size,j,none⟩=some (.int .i64 u)) (z:=19) (by kernel_rfl) ?_;have hHeld:(fun W=>W.cell? ⟨g,i,none⟩=some (.slice (some ⟨b,o,none⟩) nn cc)∧W.cell? ⟨b,o+k*3+2,none⟩=some (.slice (some ⟨be,oe,none⟩) ps.length ei)∧W.cell? ⟨be,oe+j,none⟩=some (.int .i64 y)∧W.cell? ⟨w.heap.size,j,none⟩=some (.int .i64 u)) wp.drew:=hS.o;(try dsimp only at hHeld);refine tk 19 0 (.slice (some ⟨w.heap.size,0,none⟩) 4 4) rfl hHeld ?_;(try simp only [fx,Act.put]);refine tk 19 1 (.int .i64 (j:Int)) rfl hHeld ?_;(try simp only [fx,Act.put]);refine tk 19 2 (.slice (some ⟨w.heap.size,0,none⟩) 4 4) rfl hHeld ?_;(try simp only [fx,Act.put]);refine tk 19 3 (.int .i64 (j:Int)) rfl hHeld ?_;(try simp only [fx,Act.put]);refine tk 19 4 (.pointer (some ⟨w.heap.size,0+j,none⟩)) rfl hHeld ?_;(try simp only [fx,Act.put]);refine tk 19 5 (.int .i64 u) rfl hHeld ?_;(try simp only [fx,Act.put]);refine tk 19 6 (.slice (some ⟨g,0,none⟩) m c) rfl hHeld ?_;(try simp only [fx,Act.put]);refine tk 19 7 (.int .i64 (i:Int)) rfl hHeld ?_;(try simp only [fx,Act.put]);refine tk 19 8 (.pointer (some ⟨g,0+i,none⟩)) rfl hHeld ?_;(try simp only [fx,Act.put]);refine tk 19 9 (.slice (some ⟨b,o,none⟩) nn cc) rfl hHeld ?_;(try simp only [fx,Act.put]);refine tk 19 10 (.int .i64 (k:Int)) rfl hHeld ?_;(try simp only [fx,Act.put]);refine tk 19 11 (.pointer (some ⟨b,o+k*3,none⟩)) rfl hHeld ?_;(try simp only [fx,Act.put]);refine tk 19 12 (.pointer (some ⟨b,o+k*3+2,none⟩)) rfl hHeld ?_;(try simp only [fx,Act.put]);refine tk 19 13 (.slice (some ⟨be,oe,none⟩) ps.length ei) rfl hHeld ?_;(try simp only [fx,Act.put]);refine tk 19 14 (.int .i64 (j:Int)) rfl hHeld ?_;(try simp only [fx,Act.put]);refine tk 19 15 (.pointer (some ⟨be,oe+j,none⟩)) rfl hHeld ?_;(try simp only [fx,Act.put]);refine tk 19 16 (.int .i64 y) rfl hHeld ?_;(try simp only [fx,Act.put]);refine tk 19 17 (.int .i64 (max u y)) rfl hHeld ?_;(try simp only [fx,Act.put]);refine aV (rs:=[18]) (by kernel_rfl) (by simp) ?_;refine aL.cons rfl (by decide) (fun KK cZ=> ?_) aL.nil;go_simp;refine cZ.o _ _ hHeld (fun hHeld=> ?_);clear cZ KK;(try dsimp only at hHeld);(try simp only [fx,Act.put]);refine aV (rs:=[19]) (by kernel_rfl) (by simp) ?_;refine aL.last rfl (fun KK cZ=> ?_);go_simp;refine cZ.o _ _ ?_;clear cZ KK;refine fK (by kernel_rfl) ?_ _;clear hHeld hS cL k1 k2 Ks cR fR lR;(go_wp2_with fail);go_roundw
                  case rel=>exact ⟨j+1,ds3,by omega,by go_num,axg,axi,axd,hR2,axq,awv⟩
                  case measure=>simp [intOf];omega
                . obtain rfl:j=ps.length:=by omega
                  (have aax:¬(ps.length:Int)<(ps.length:Int):=by omega);have hn3:=aA (hstep.o wh (by omega) afb.o (fun j'=>by
                   by_cases hj':j'<ps.length
                   . exact Rx.o j' hj'
                   . rw [cW (by omega)]
                     exact (aaG.o j').1))
                  have axc:Hid (∀j,nth ds j<=nth wh j):=fun j=>S1 (hds.o j) (afb.o j);(go_wp2_with fail);go_roundw
                  case rel=>exact ⟨k+1,wh,by omega,by go_num,afc,aaG,axc,hR,wG,hn3⟩
                  case measure=>simp [intOf];omega
           . have awo:¬(k:Int)<(nn:Int):=by omega
             have hn4:Hid (∀k',k'<i+1->((Ls k').length:Int)<=most∧Ja n (Ls k')∧(∀t∈Ls k',t.1.2.length<=1)∧Cov ds' (Ls k')):=fun k' F3=>by
              by_cases e:k'=i
              . subst e
                rw [HLe.o];refine ⟨by rw [HLl.o];omega,JN.o,fun t ht=> ?_,fun t ht j=> ?_⟩
                . obtain ⟨a,ha,rfl⟩:=vq.1 ht
                  exact (tj.o a ha (by have:=HLl.o;omega)).1
                . obtain ⟨a,ha,rfl⟩:=vq.1 ht
                  exact (tj.o a ha (by have:=HLl.o;omega)).2 j
              . obtain ⟨d1,d2,d3,d4⟩:=hdone.o k' (by omega)
                exact ⟨d1,d2,d3,fun t ht j=>S1 (d4 t ht j) (hds.o j)⟩
             (go_wp2_with fail);go_roundw
             case rel=>exact ⟨i+1,ds',by omega,by go_num,akc,akd,hR,wG,hn4⟩
             case measure=>simp [intOf];omega
        . have JZ:=vZ lH
          have hno:Hid (jZ w n most places m Ls (.returned (.bool false)) w1):=sI ako.o;rw [JZ];clear JZ;(go_wp2_with fail);go_ret;exact hno.o
    . obtain rfl:i=m:=by omega
      (have dI:¬(i:Int)<(i:Int):=by omega);(go_wp2_with fail);go_loopw [13,14] (fun a v wr=>∃j:Nat,j<=4∧a=.int .i64 (mP ds j)∧v=.int .i64 j∧wr=wp∧Hid (j=0∨mP ds j<=places)) (fun _ v _=>4-(intOf v).toNat)
      case atStart=>exact ⟨0,dc _,rfl,rfl,rfl,.inl rfl⟩
      case round=>
       obtain ⟨j,hj,rfl,rfl,rfl,hpr⟩:=hrel;by_cases hj4:j<4
       . have aID:(j:Int)<4:=by omega
         (have Qd:(0:Int)<=(j:Int):=by omega);have cR:=hR.o.cell (i:=j) (by rw [hdl.o];exact hj4);have hub:=hdb.o j;have hpp:=DK hdb.o j;have hp1:mP ds j<=1000:=by
          rcases hpr.o with e | e
          . rw [e];show (1:Int)<=1000;omega
          . omega
         have ew1:IntKind.i64.wrap (nth ds j+1)=nth ds j+1:=bR _ (by omega);have FC:0<=mP ds j*(nth ds j+1):=EX (by omega) (by omega);have hhi:mP ds j*(nth ds j+1)<=1000*1001:=NL hp1 (by omega) (by omega) (by omega);have ew2:IntKind.i64.wrap (mP ds j*(nth ds j+1))=mP ds (j+1):=Zd rfl FC (by show mP ds j*(nth ds j+1)<=_;omega);have hno:Hid (jZ w n most places i Ls (.returned (.bool false)) wr):=sI wG.o;by_cases yP:places<mP ds (j+1)
         . go_wp2_with fail
           go_ret;exact hno.o
         . have avC:Hid (j+1=0∨mP ds (j+1)<=places):=.inr (by omega)
           (go_wp2_with fail);go_roundw
           case rel=>exact ⟨j+1,by omega,rfl,by go_num,(by first | trivial | rfl),avC⟩
           case measure=>simp [intOf];omega
       . obtain rfl:j=4:=by omega
         have F:Hid (jZ w n most places i Ls (.returned (.bool true)) wr):=⟨true,rfl,wG.o,fun _=>⟨by omega,fun k hk=>⟨(hdone.o k hk).1,(hdone.o k hk).2.1,(hdone.o k hk).2.2.1⟩,ds,hdb.o,fun k hk=>(hdone.o k hk).2.2.2,hpr.o.resolve_left (by omega)⟩⟩;(go_wp2_with fail);go_ret;exact F.o
