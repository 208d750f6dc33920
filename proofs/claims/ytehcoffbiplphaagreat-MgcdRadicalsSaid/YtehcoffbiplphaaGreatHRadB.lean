import Derived.Test.YtehcoffbiplphaaGreatHRpln
set_option linter.all false
set_option maxHeartbeats 16000000
set_option maxRecDepth 100000
namespace Go.Proofs.YtehcoffbiplphaaGreat
open Go.Proofs.Tryz
open Go.RowKit
variable {k g:Nat} {w:World}
def acA {i:Nat} {L:List TV} (hk:k<L.length):NU i (aP (L.take (k+1)))=NU i (aP (L.take k))++[((L[k]).2.set i (max (nth (L[k]).2 i-1) 0),aI (L[k]).1.1 (L[k]).1.2*nth (L[k]).2 i)]:=by
 rw [kG hk,eN];exact mapM_append _ _ _ _
def Zn (n C:Nat) (A:Option Addr) (ma ca:Nat) (L:List TV) (i:Nat) (w:World) (hx:iI w A ma L) (ho:Q8 (n:Int) L) (hi:i<n) (hC:∀t∈L,t.1.2.length<=C) (hC1:C<=800000):
 aB 71 #[.int .i64 (n:Int),.slice A ma ca,.int .i64 (i:Int)] w (mJ w n (NU i (aP L))):=by
 obtain ⟨i0,rT,jE,jD,jJ⟩:=eG kH;obtain ⟨j0,hj,rz,xZ,Fk⟩:=eG pI;have tj:=ho.2.2.1;have hn6:=ho.2.1;have Ys:=hx.len;have hm:ma<=4096:=by omega
 have Cc:=aA (oO (n:Int) A ma ca L w hx);have CP:=rU ho;unfold Jl at Cc;rw [CP] at Cc;have Hx:=aA hx;have HL:=aA Ys;have Hl:=aA (aab ho);have HC:=aA hC;have HO:=aA ho;have ayx:¬(i:Int)<0:=by omega
 have hi1:(i:Int)<(n:Int):=by omega
 have aqG:¬(n:Int)<=(i:Int):=by omega
 have V6:(0:Int)<=(i:Int):=by omega
 have jQ:decide ((i:Int)<0)=false:=uJ ayx;have Yt:decide ((n:Int)<=(i:Int))=false:=uJ aqG;have OH:decide (n<=i)=false:=uJ (by omega);clear hx ho Ys hC CP tj;go_enter func71,ntmps71
 obtain ⟨wo,rfl⟩:∃wo:World,wo=w:=⟨_,rfl⟩;go_wp2_with fail
 refine Cc.o.mono ?_;rintro e w1 ⟨rfl,rfl⟩;clear Cc;go_wp2_with fail
 go_loopw [8,9] (fun v kk wr=>∃(k:Nat) (E:List ax),k<=ma∧kk=.int .i64 (k:Int)∧Hid (jN wo wr n (C+1) v E (NU i (aP (L.take k))))∧E.length<=k) (fun _ kk _=>ma-(intOf kk).toNat)
 case atStart=>exact ⟨0,[],by omega,rfl,jN.start _ _ _,aL⟩
 case round=>
  obtain ⟨k,E,hk,rfl,hO,Jv⟩:=hrel;obtain ⟨wt,rfl⟩:∃wt:World,wt=wr:=⟨_,rfl⟩;have hO1:=aA (fun j (h:u8.ownBlock=some j)=>hO.o.own.lt j h);by_cases hlt:k<ma
  . obtain ⟨b,o,rfl,hb,hc⟩:=Hx.o.at_ (by omega)
    (have th:k<L.length:=by rw [HL.o];exact hlt);obtain ⟨Ai,ci,Ei,ei,e1,e2,e3,e4,e5,e6,e7,e8,e9⟩:=hc k th;have tZ:=Hl.o _ (bR th);have Ju:=HC.o _ (bR th);have qx:0<=nth (L[k]).2 i∧nth (L[k]).2 i<=1000:=(HO.o.2.2.2 k th).2 i (by have:=tZ;omega);have Rf:=aA (acA (i:=i) th);clear hc;generalize L[k]=x at*
    obtain ⟨⟨s,xs⟩,ps⟩:=x;simp only at e1 e2 e3 e4 e6 e8 e9 tZ Ju qx;have FJ:=aA tZ;rw [aq 3 k] at e1 e2 e3;rw [<- jb] at e2 e3;(have dH:(k:Int)<(ma:Int):=by omega);(have wT:(0:Int)<=(k:Int):=by omega);(have sZ:(i:Int)<(ps.length:Int):=by omega);obtain ⟨be,oe,rfl,mN,hce⟩:=e9.at_ (by omega);have QK:=hce i (by omega);have je:=aA hO.o.aC;have gJ:Hid (∀W,Below wo.heap.size wo W->W.cell? ⟨b,o+k*3,none⟩=some (.bool s)∧W.cell? ⟨b,o+k*3+1,none⟩=some (.slice Ai xs.length ci)∧W.cell? ⟨b,o+k*3+2,none⟩=some (.slice (some ⟨be,oe,none⟩) ps.length ei)∧W.cell? ⟨be,oe+i,none⟩=some (.int .i64 (nth ps i))):=fun W hW=>
     ⟨(hW.cell (p:=⟨b,o+k*3,none⟩) hb).trans e1,(hW.cell (p:=⟨b,o+k*3+1,none⟩) hb).trans e2,(hW.cell (p:=⟨b,o+k*3+2,none⟩) hb).trans e3,(hW.cell (p:=⟨be,oe+i,none⟩) mN).trans QK⟩
    have E8:=aA e8;have E9:=aA e9;obtain ⟨a1,a2,a3,a4⟩:=gJ.o _ je.o;clear e8 e9 e1 e2 e3 tZ hce QK;generalize hy:nth ps i=y at*
    have Hy:=aA hy;clear hy;by_cases sX:0<y
    . have hR:Hid (Reads wt wt.heap.size 1 (some ⟨be,oe,none⟩) ps.length (ints ps)):=(E9.o.aC je.o).reads
      have zk:=aA E9.o.ok;(have qm:ps.length<=1000000:=by have:=FJ.o;omega);(have q1:0+ps.length<=maxLen:=by unfold maxLen;omega);(have q2:(0+ps.length)*8<=140737488355328:=by omega);have hsi:Hid (nth ps i=y):=Hy.o;obtain ⟨b1,b2,b3,b4⟩:=gJ.o _ (je.o.alloc je.o.size (.cells #[] 3));(go_wp2_with (at_builtin;refine bU (w:=wt.alloc (.cells #[] 3)) rfl _ _ 42 rfl wt.heap.size 3 j0 (.int .i64 0) 1 8 underlying42 hj rz xZ Fk rfl (by decide) _ 0 [] rfl (bA wt 3 aL) wt.heap.size (some ⟨be,oe,none⟩) ps.length ei (ints ps) rfl (hR.o.alloc aL _) (gi ps) q1 q2 (by simp) ?_;intro v' w1 aa aW gZ;rw [og,bh] at aa;have cZ:Below wt.heap.size wt w1:=((Below.refl _ wt).alloc aL _).grown aW (by simp) (fun k hk=>((bA wt 3 aL).lt k hk).1);obtain ⟨ge,ce,rfl,hgB,LP⟩:=aa.form (by omega);have hcell:w1.cell? ⟨ge,i,none⟩=some (.int .i64 y):=(by have h:=aa.cells (g:=ge) rfl i _ (qh (by omega));rw [j5,bh,hsi.o] at h;exact h);have EX:w1.frozen? ⟨ge,i,none⟩=false:=aa.frozenAt _));have hst:=(aa.stored i (.int .i64 (y-1))).1;rw [ints_set] at hst;have cN:=cZ.setCell (p:=⟨ge,i,none⟩) hgB (.int .i64 (y-1));have wO:=js hst;have M0:∀j,DX (nth (ps.set i (y-1)) j):=fun j=>by
       rw [gK (by omega)];split
       . constructor<;>omega
       . exact zk.o j
      have Yv:=Ints.ia hst M0;have Hst:=aA hst;have HIe:=aA Yv;have oK:=aA (hO.o.jX cN);have ayK:=(hst.lt ge rfl).2;clear hO aa aW gZ hcell EX hst Yv M0 LP b1 b2 b3 b4 a1 a2 a3 a4 hR zk q1 q2 cZ;generalize w1.setCell ⟨ge,i,none⟩ (.int .i64 (y-1))=w5 at*
      have X7:=aA oK.o.aC;obtain ⟨b1,b2,b3,b4⟩:=gJ.o _ X7.o;have l6:Hid (∀W,Below w5.heap.size w5 W->W.cell? ⟨b,o+k*3,none⟩=some (.bool s)∧W.cell? ⟨b,o+k*3+1,none⟩=some (.slice Ai xs.length ci)∧W.cell? ⟨b,o+k*3+2,none⟩=some (.slice (some ⟨be,oe,none⟩) ps.length ei)∧W.cell? ⟨be,oe+i,none⟩=some (.int .i64 y)):=fun W hW=>gJ.o _ (X7.o.tm hW);have Co:=aA (fun W=>aoN y W (by omega) (by omega));have Cm:Hid (∀W t B d m zs,Below w5.heap.size w5 W->aD W B m zs->m<=d->d<=9223372036854775807->m<=1->aB 98 #[.agg #[.bool s,.slice Ai xs.length ci],.agg #[.bool t,.slice B m d]] W (iA W (aI s xs*aI t zs) (xs.length+m))):=fun W t B d m zs hW hL h1 h2 h3=>
       SA s t Ai B xs.length m ci d xs zs W (E8.o.aC (X7.o.tm hW)) hL e4 e5 h1 h2 (by omega) (by omega)
      (have NL:E.length<=4096:=by omega);have xB:(ps.set i (y-1)).length=ps.length:=fW;(have q1:E.length+1<=maxLen:=by unfold maxLen;omega);(have q2:(E.length+1)*56<=140737488355328:=by omega);have tV:Hid (∀j,u8.ownBlock=some j->wo.heap.size<=j∧j<wt.heap.size):=hO1.o;have F:Hid (∀(w7 w8:World) (s2:Bool) (A2:Option Addr) (k2 c2:Nat) (ls:List Int) (gg cap:Nat),Below w5.heap.size w5 w7->k2<=c2->c2<=9223372036854775807->k2<=xs.length+1->aD w7 A2 k2 ls->dN s2 ls (aI s xs*y)->(0<k2->∀z,A2=some z->w5.heap.size<=z.block)->w8.ownsRow wo.heap.size 44 3 (.slice (some ⟨gg,0,none⟩) (E.length+1) cap) (E.length+1) (aS E++[.bool s2,.slice A2 k2 c2,.slice (some ⟨ge,0,none⟩) ps.length ce])->(w7.alloc (.cells #[.bool s2,.slice A2 k2 c2,.slice (some ⟨ge,0,none⟩) ps.length ce] 44)).grownBy w8 u8.ownBlock->(u8.ownBlock=some gg∨gg=w7.heap.size+1)->∃E2:List ax,E2.length=E.length+1∧jN wo w8 n (C+1) (.slice (some ⟨gg,0,none⟩) (E.length+1) cap) E2 (NU i (aP (L.take (k+1))))):=fun w7 w8 s2 A2 k2 c2 ls gg cap hb h1 h2 h3 h4 h5 h6 h7 h8 h9=>by
       obtain rfl:=h4.len;have GJ:=oK.o.next (x:=(((A2,c2),(some ⟨ge,0,none⟩,ce)),((s2,ls),ps.set i (y-1)))) (o:=(.cells #[.bool s2,.slice A2 ls.length c2,.slice (some ⟨ge,0,none⟩) ps.length ce] 44)) hb ⟨h1,h2,by show (ps.set i (y-1)).length<=ce;rw [xB];exact wO.1,wO.2,h4,by show Ints w7 _ (ps.set i (y-1)).length _;rw [xB];exact HIe.o.aC hb⟩ (by show (ps.set i (y-1)).length=n;rw [xB];exact FJ.o) (by show ls.length<=C+1;omega)
        (fun h0 z hz e=>by have h10:=h6 h0 z hz;have Yx:=tV.o _ e;have:=cN.size;omega) (fun h0 z hz e=>by injection hz with hz;subst hz;have Yx:=tV.o ge e;omega)
        (by show w8.ownsRow _ _ _ _ _ (aS E++[.bool s2,.slice A2 ls.length c2,.slice (some ⟨ge,0,none⟩) (ps.set i (y-1)).length ce]);rw [xB];exact h7) h8 h9 rfl
       refine ⟨E++[(((A2,c2),(some ⟨ge,0,none⟩,ce)),((s2,ls),ps.set i (y-1)))],by rw [eC];rfl,?_⟩;have e:bS ((s2,ls),ps.set i (y-1))=(ps.set i (max (y-1) 0),aI s xs*y):=by
        show (ps.set i (y-1),aI s2 ls)=_;rw [h5.eq,show max (y-1) 0=y-1 by omega]
       rw [Rf.o,<- e];exact GJ
      have HOW:=aA (fun W (hW:Below w5.heap.size w5 W)=>cm oK.o.own hW);(have uq:Hid (∀(W:World) (ob:Obj),Below w5.heap.size w5 W->wo.heap.size<=(W.alloc ob).heap.size):=fun W ob hW=>by have:=hW.size;have:=X7.o.size;simp;omega);have QS:=aA (fun W (hW:Below w5.heap.size w5 W)=>X7.o.tm hW);clear oK X7 wO ayK Hst HIe E8 E9 je xB;(go_wp2_with fail);go_region_held3 (fun W=>W.cell? ⟨b,o+k*3,none⟩=some (.bool s)∧W.cell? ⟨b,o+k*3+1,none⟩=some (.slice Ai xs.length ci)∧W.cell? ⟨b,o+k*3+2,none⟩=some (.slice (some ⟨be,oe,none⟩) ps.length ei)∧W.cell? ⟨be,oe+i,none⟩=some (.int .i64 y))
       (first | go_keep | exact l6.o _ aU.drew | exact l6.o _ gW | exact l6.o _ fe | exact l6.o _ (fe.alloc fe.size _) | exact gJ.o _ CW)
       (first
         | (go_at_call 73;refine (Co.o _).mono ?_;rintro e w6 ⟨s1,A1,k1,c1,l1,rfl,g1,g2,g3,g4,g5,oI⟩;have gW:Below w5.heap.size w5 w6:=(by first | exact aU.drew.trans oI | exact oI))
         | (go_at_call 98;refine (Cm.o _ s1 A1 c1 k1 l1 gW g4 g1 g2 g3).mono ?_;rintro e w7 ⟨s2,A2,k2,c2,ls,rfl,p1,p2,p3,p4,p5,pf,kO⟩;have fe:Below w5.heap.size w5 w7:=gW.tm kO)
         | ((refine pN _ (by rfl) _ _ _ (by rfl) wo.heap.size 44 i0 _ 3 56 underlying22 rT jE jD jJ rfl (by omega) u8 E.length (aS E) (by rfl) ((HOW.o _ fe).alloc _) ⟨w7.heap.size,0,none⟩ 1 1 [.bool s2,.slice A2 k2 c2,.slice (some ⟨ge,0,none⟩) ps.length ce] (by rfl) (by rfl) (gw (cs:=#[.bool s2,.slice A2 k2 c2,.slice (some ⟨ge,0,none⟩) ps.length ce]) (t:=44) (fr:=(0,0)) (bM w7 _)) (by simp [Value.oneCell']) (Nat.one_pos) q1 q2 (uq.o _ _ fe) (w7.heap.size+1) (by simp) ?_);intro gg cap w8 fL aW gZ ou;have CW:Below wo.heap.size wo w8:=((QS.o _ fe).alloc (QS.o _ fe).size _).grown aW ((QS.o _ fe).alloc (QS.o _ fe).size _).size (fun j hj=>(tV.o j hj).1)))
      obtain ⟨E2,hE2,Rb⟩:=F.o w7 w8 s2 A2 k2 c2 ls gg cap fe p1 p2 (by omega) p4 (by rw [g5.eq] at p5;exact p5) (fun h0 z hz=>aG gW.size (pf h0 z hz)) fL aW gZ
      have Yj:=aA Rb;(have hE3:E2.length<=k+1:=by omega);clear Rb hE2 fL aW gZ ou CW g4 g5 gW oI fe kO p4 p5 pf F Cm Co l6 HOW uq QS b1 b2 b3 b4;(go_wp2_with fail);go_roundw
      case rel=>exact ⟨k+1,E2,by omega,by go_num,Yj,hE3⟩
      case measure=>simp [intOf];omega
    . have rz:y=0:=by omega
      have oK:Hid (jN wo wt n (C+1) u8 E (NU i (aP (L.take (k+1))))):=by
       refine hO.o.eq2 ?_;rw [Rf.o,rz,xu];exact hO.o.eq.zero _
      clear rz;(go_wp2_with fail);go_roundw
      case rel=>exact ⟨k+1,E,by omega,by go_num,oK,by omega⟩
      case measure=>simp [intOf];omega
  . have eR:L.take k=L:=iC (by rw [HL.o];omega)
    have oK:=hO.o;rw [eR] at oK;obtain ⟨B,d,rfl,Cp⟩:=oK.o (by omega) (by omega) (by omega);have ZE:=aA Cp;have Hb:=aA oK.aC;(have dH:¬(k:Int)<(ma:Int):=by omega);clear eR oK Cp hO;(go_wp2_with fail);refine ZE.o.mono ?_;intro e w9 h9;obtain ⟨A9,c9,T,rfl,t1,t2,t3,t4,t5,t6⟩:=h9.from_ Hb.o;have F:Hid (mJ wo n (NU i (aP L)) (.returned (.tuple #[.slice A9 T.length c9,.int .i64 0])) w9):=⟨A9,c9,T,rfl,t1,t2,t3,t4,t5,t6⟩;clear h9 t3 t4 t5 t6;(go_wp2_with fail);go_ret2;exact F.o
def acK {T:List TV} (hk:k<T.length):j8 (aP (T.take (k+1)))=Nat.gcd (j8 (aP (T.take k))) (limbs (T[k]).1.2):=by
 rw [kG hk,eN,show aP [T[k]]=[bS T[k]] from rfl,Ld];congr 1
 show (aI _ _).natAbs=_;unfold aI;split<;>simp
def aeY {T:List TV} (hk:k<T.length):(BR (aP T)).take (k+1)=(BR (aP T)).take k++[((T[k]).2,aI (T[k]).1.1 (T[k]).1.2 / sA (aP T))]:=by
 have h:BR (aP T)=T.map (fun t=>(t.2,aI t.1.1 t.1.2 / sA (aP T))):=by
  unfold BR;show (T.map bS).map _=_;rw [jl];rfl
 rw [h,<- JQ,<- JQ,kG hk,ij];rfl
def aeF {A:Option Addr} {m:Nat} {L:List TV}(h:iI w A m L) (hd:Duo w g (.bool false) (.slice none 0 0)) (wV:∀b,A=some b->b.block≠g) (u v:Value):iI ((w.setCell ⟨g,0,none⟩ u).setCell ⟨g,1,none⟩ v) A m L:=
 ⟨h.len,fun hm=>by
   obtain ⟨b,o,e,hlt,hc⟩:=h.at_ hm;have hne:=wV _ e;refine ⟨b,o,e,by simpa using hlt,fun i hi=> ?_⟩;obtain ⟨Ai,ci,Ei,ei,h1,h2,h3,h4,h5,h8,h9,h6,h7⟩:=hc i hi;have far:∀{a:Nat} {x:Value},w.cell? ⟨b,a,none⟩=some x->((w.setCell ⟨g,0,none⟩ u).setCell ⟨g,1,none⟩ v).cell? ⟨b,a,none⟩=some x:=fun hx=>by
    rw [jk _ _ _ _ (fun e=>hne (by first | exact dh Addr.block e | exact (dh Addr.block e).symm)),jk _ _ _ _ (fun e=>hne (by first | exact dh Addr.block e | exact (dh Addr.block e).symm))];exact hx
   exact ⟨Ai,ci,Ei,ei,far h1,far h2,far h3,h4,h5,h8,h9,hd.limbs u v rfl rfl h6,hd.ints u v rfl rfl h7⟩⟩
def Rh {s:Bool} {ls:List Int} {X:Nat}(h:dN s ls (X:Int)):limbs ls=X:=(vI h).2
def yo {B:Nat} {w0:World}(h:Below B w0 w) (hg:B<=g) (u v:Value):Below B w0 ((w.setCell ⟨g,0,none⟩ u).setCell ⟨g,1,none⟩ v):=(h.setCell (p:=⟨g,0,none⟩) hg _).setCell (p:=⟨g,1,none⟩) hg _
def aeW (n C K:Nat) (A:Option Addr) (ma ca:Nat) (L:List TV) (w:World) (hx:iI w A ma L) (ho:Q8 (n:Int) L) (hC:∀t∈L,t.1.2.length<=C) (hC1:C<=100000) (hK:K<=100000) (EZ:bJ (aP L)<2^(64*K)):
 aB 35 #[.int .i64 (n:Int),.slice A ma ca] w (pY w n (aP L)):=by
 obtain ⟨i0,rT,jE,jD,jJ⟩:=eG kH;have tj:=ho.2.2.1;have hn6:=ho.2.1;have Ys:=hx.len;have hm:ma<=4096:=by omega
 have b0:Below w.heap.size w (w.alloc (.cells #[.bool false,.slice none 0 0] 41)):=aU.alloc aL _;have Cc:=aA (oO (n:Int) A ma ca L (w.alloc (.cells #[.bool false,.slice none 0 0] 41)) (hx.aC b0));have Cp:=aA (IA n C K A ma ca L (w.alloc (.cells #[.bool false,.slice none 0 0] 41)) (hx.aC b0) (aab ho) hC (by omega) (by omega) EZ (by omega) (by omega));have CP:=rU ho;unfold Jl at Cc;rw [CP] at Cc;have HD0:=aA (Duo.new w (.bool false) (.slice none 0 0));have U2:=aA b0;have Hab:=aA EZ;have Hcl:Hid (L.length<=4096):=by show _<=_;omega
 clear hx ho Ys hC CP tj b0 EZ;go_enter func35,ntmps35
 go_wp2_with fail
 generalize w.alloc (.cells #[.bool false,.slice none 0 0] 41)=w0 at*
 refine Cc.o.mono ?_;rintro e w1 ⟨rfl,rfl⟩;clear Cc;go_wp2_with fail
 refine Cp.o.mono ?_;rintro e w1 ⟨B,cB,T,rfl,t1,t2,t3,t4,t5,t6⟩;have ZC:=aA t3;have HP:=aA t4;have HE:=aA t5;have HD1:=aA (HD0.o.aC t6);have wu:=aA (U2.o.tm t6);have htl:T.length<=4096:=by
  have:=t4.mv.count t5;rw [au,au] at this;have:=Hcl.o;omega
 have Hco:Hid (∀t∈T,t.1.2.length<=K):=fun t ht=>by
  have h1:=t4.mv.small t5 (af.2 ⟨t,ht,rfl⟩:bS t∈aP T);exact Gn (t4.co t ht) (aR h1 Hab.o)
 clear t3 t4 t5 t6 Cp HD0 U2 Hab Hcl;go_wp2_with fail
 refine (aoN 0 w1 (by omega) (by omega)).mono ?_;rintro e w2 ⟨s0,A0,k0,c0,l0,rfl,g1,g2,g3,g4,g5,cN⟩;have HT2:=aA (ZC.o.aC cN);have HD2:=aA (HD1.o.aC cN);have FK:=aA (wu.o.tm cN);have OH:=aA (Duo.new w2 (.bool s0) (.slice A0 k0 c0));have hL3:=aA (g4.alloc (.cells #[.bool s0,.slice A0 k0 c0] 41));have nZ:=aA ((Below.refl w2.heap.size w2).alloc aL (.cells #[.bool s0,.slice A0 k0 c0] 41));have G5:=aA g5;clear g4 g5 cN ZC HD1 wu;obtain ⟨gc,hgc⟩:∃g,w2.heap.size=g:=⟨_,rfl⟩;have Hgc:=aA hgc;have hwg:w.heap.size<gc:=by have:=HD2.o.lt;omega
 go_wp2_with fail
 rw [hgc] at OH nZ;generalize w2.alloc (.cells #[.bool s0,.slice A0 k0 c0] 41)=w3 at*
 clear hgc;obtain ⟨m,hTm⟩:∃m,T.length=m:=⟨_,rfl⟩;rw [hTm] at htl t1 ⊢;have HTm:=aA hTm;have HT:Hid (iI w2 B m T):=by have h:=HT2.o;rw [hTm] at h;exact h
 clear hTm HT2;go_loopw [9] (fun v wr=>∃(k:Nat) (s:Bool) (Ac:Option Addr) (kc cc:Nat) (ls:List Int),k<=m∧v=.int .i64 (k:Int)∧Hid (Duo wr gc (.bool s) (.slice Ac kc cc))∧Hid (aD wr Ac kc ls)∧kc<=cc∧cc<=9223372036854775807∧kc<=K+1∧Hid (dN s ls (j8 (aP (T.take k)):Int))∧Hid (Below gc w2 wr)) (fun v _=>m-(intOf v).toNat)
 case atStart=>exact ⟨0,s0,A0,k0,c0,l0,by omega,rfl,OH,hL3,g1,g2,by omega,G5,nZ⟩
 case round=>
  clear OH hL3 G5 nZ g1 g2 g3;obtain ⟨k,s,Ac,kc,cc,ls,hk,rfl,hD,OJ,c1,c2,c3,hZ,hB⟩:=hrel;have hDb:Hid (∀W,Below gc w2 W->Duo W w.heap.size (.bool false) (.slice none 0 0)):=fun W hW=>HD2.o.keep (hW.block _ (by omega));have y0:=hD.o.cell0;have y1:=hD.o.cell1;have Wq:Hid (∀W,Below gc w2 W->Below w.heap.size w W):=fun W hW=>FK.o.trans (hW.mono (by omega));by_cases hlt:k<m
  . obtain ⟨b,o,rfl,hb,hc⟩:=HT.o.at_ (by omega)
    (have Sz:k<T.length:=by rw [HTm.o];exact hlt);obtain ⟨Ai,ci,Ei,ei,e1,e2,e3,e4,e5,e6,e7,e8,e9⟩:=hc k Sz;have hct:=aA (acK Sz);have Ju:=Hco.o _ (bR Sz);clear hc;generalize T[k]=x at*
    obtain ⟨⟨sx,xs⟩,ps⟩:=x;simp only at e1 e2 e3 e4 e6 e8 e9 Ju;rw [aq 3 k] at e1 e2 e3;rw [<- jb] at e2 e3;(have dH:(k:Int)<(m:Int):=by omega);(have wT:(0:Int)<=(k:Int):=by omega);(have uN:b<gc:=by rw [<- Hgc.o];exact hb);have uv:∀W,Below gc w2 W->aD W Ai xs.length xs:=fun W hW=>e8.aC (by rw [Hgc.o];exact hW);have k1:=(hB.o.cell (p:=⟨b,o+k*3,none⟩) uN).trans e1;have k2:=(hB.o.cell (p:=⟨b,o+k*3+1,none⟩) uN).trans e2;have Cg:Hid (∀W,Below wr.heap.size wr W->aB 60 #[.agg #[.bool s,.slice Ac kc cc],.agg #[.bool sx,.slice Ai xs.length ci]] W (pX W ((Nat.gcd (limbs ls) (limbs xs):Nat):Int) (max kc xs.length))):=fun W hW=>
     ahO s sx Ac Ai kc xs.length cc ci ls xs W (OJ.o.aC hW) (uv W (hB.o.trans (hW.mono (by have:=hD.o.lt;omega)))) c1 c2 e4 e5 (by omega) (by omega)
    have hls:=Rh hZ.o;rw [hls,<- hct.o] at Cg;obtain ⟨G,hG⟩:∃G,j8 (aP (T.take (k+1)))=G:=⟨_,rfl⟩;rw [hG] at Cg;have HG:=aA hG;clear hG;have RZ:=hD.o.lt;have ZF:=aA (fun W (hW:Below wr.heap.size wr W)=>hB.o.trans (hW.mono (by omega)));have EX:Hid (∀W,Below wr.heap.size wr W->Duo W gc (.bool s) (.slice Ac kc cc)):=fun W hW=>hD.o.aC hW;clear e1 e2 e3 e8 e9 uv hls hct hD OJ hZ hB hDb Wq;(go_wp2_with fail);go_region_with
     (first | (go_at_call 60;refine (Cg.o _ (by first | exact aU.drew | exact aU)).mono ?_;rintro e we ⟨s1,A1,GZ,rP,l1,rfl,z1,z2,z3,z4,z5,se⟩;have mN:Below wr.heap.size wr we:=(by first | exact aU.drew.trans se | exact se);have QJ:=EX.o _ mN;have fe0:=QJ.frozen 0;have fe1:=QJ.frozen 1;have ce0:=QJ.cell0;have ce1:=QJ.cell1))
    all_goals
     have hd9:=aA (QJ.set (.bool s1) (.slice A1 GZ rP));have hl9:=aA (QJ.limbs (.bool s1) (.slice A1 GZ rP) rfl rfl z4);have CX:=aA (yo (ZF.o _ mN) (Nat.le_refl gc) (.bool s1) (.slice A1 GZ rP));(have Z5:Hid (dN s1 l1 (j8 (aP (T.take (k+1))):Int)):=by show dN _ _ _;rw [HG.o];exact z5);(have hk9:GZ<=K+1:=by omega);clear QJ fe0 fe1 ce0 ce1 z4 z5 mN se k1 k2 y0 y1;(go_wp2_with fail);go_roundw
     case rel=>exact ⟨k+1,s1,A1,GZ,rP,l1,by omega,by go_num,hd9,hl9,z1,z2,hk9,Z5,CX⟩
     case measure=>simp [intOf];omega
  . have hkm:k=m:=by omega
    (have dH:¬(k:Int)<(m:Int):=by omega);have hZm:Hid (dN s ls (j8 (aP T):Int)):=by
     have h:=hZ.o;rw [iC (by rw [HTm.o];omega)] at h;exact h
    clear hkm hZ;by_cases M7:m=0
    . have TL:T=[]:=lK (by rw [HTm.o];exact M7)
      (have hmz:((m:Int)==0)=true:=by simp [M7]);have I6:=hDb.o _ hB.o;have r0:=I6.cell0;have r1:=I6.cell1;have f0:=I6.frozen 0;have f1:=I6.frozen 1;have Wp:=aA I6;have F:Hid (∀W,aD W Ac kc ls->Below w.heap.size w W->pY w n (aP L) (.returned (.tuple #[.agg #[.bool s,.slice Ac kc cc],.slice none 0 0,.int .i64 0])) W):=fun W h1 h2=>by
       have hz:=hZm.o;have hp:=HP.o;have he:=HE.o;rw [TL] at hz hp he;exact ⟨s,Ac,kc,cc,ls,none,0,[],[],rfl,c1,c2,h1,hp,he,hz,aL,by omega,iI.nil _ _,hp,rfl,h2⟩
      have ZB:=aA (Wq.o _ hB.o);clear M7 TL I6 hZm hB hD Wq hDb;(go_wp2_with fail);refine bK (iX (fn:=f35) rfl _ _ _ _ _ _ _ rfl (Wp.o.set (.bool s) (.slice Ac kc cc)) underlying41 rfl bQ) rfl ?_;exact F.o _ (Wp.o.limbs _ _ rfl rfl OJ.o) (yo ZB.o aL _ _)
    . have TL:0<T.length:=by rw [HTm.o];omega
      obtain ⟨b,o,rfl,hb,hc⟩:=HT.o.at_ (by omega);obtain ⟨Ai,ci,Ei,ei,e1,e2,e3,e4,e5,e6,e7,e8,e9⟩:=hc 0 TL;have zj:=HP.o.co _ (bR TL);have S8:sA (aP T)=if aI (T[0]).1.1 (T[0]).1.2<0 then -(j8 (aP T):Int) else (j8 (aP T):Int):=by
       obtain ⟨t,T',hTT⟩:∃t T',T=t::T':=by
        cases hTc:T with
        | nil=>rw [hTc] at TL;exact absurd TL (by simp)
        | cons t T'=>exact ⟨t,T',rfl⟩
       (have:(T[0])=t:=by simp [hTT]);rw [this,hTT];rfl
      have aiA:0<j8 (aP T):=C8 HP.o.mv (fun e=>by have:=dh List.length e;rw [au] at this;simp at this;rw [this] at TL;exact absurd TL (by simp));have CJ:aI (T[0]).1.1 (T[0]).1.2<0↔(T[0]).1.1=true:=by
       constructor
       . intro h
         unfold aI at h;split at h
         . assumption
         . omega
       . intro h
         have h1:=zj.nz h;have h2:=zj.pl.kN;unfold aI;rw [aM h];omega
      (have hmz:((m:Int)==0)=false:=by simp [M7]);rw [jZ,ja] at e1;(have uN:b<gc:=by rw [<- Hgc.o];exact hb);have k1:=(hB.o.cell (p:=⟨b,o,none⟩) uN).trans e1;(have ale:0<(m:Int):=by omega);have Hcz:=aA S8;have atu:=aA aiA;have ani:=aA CJ;clear hc e1 e2 e3 e8 e9 zj S8 aiA CJ M7;generalize (T[0]).1.1=sg at*
      go_upto_if 43 with fail
      go_cut [] (fun wx=>∃(s:Bool) (Ac:Option Addr) (kc cc:Nat) (ls:List Int),Hid (Duo wx gc (.bool s) (.slice Ac kc cc))∧Hid (aD wx Ac kc ls)∧kc<=cc∧cc<=9223372036854775807∧kc<=K+1∧Hid (dN s ls (sA (aP T)))∧Hid (Below gc w2 wx))
      case first=>
       cases sg with
       | true=>
         have Cn:=aA (aoO s Ac kc cc ls wr OJ.o c1 c2 (by omega));have Iq:Hid (-aI s ls=sA (aP T)):=by
          show _=_;rw [Hcz.o,aM (ani.o.2 rfl),hZm.o.eq]
         rw [Iq.o] at Cn;have EX:=aA (fun W (hW:Below wr.heap.size wr W)=>hD.o.aC hW);have ZF:=aA (fun W (hW:Below wr.heap.size wr W)=>hB.o.trans (hW.mono (by have:=hD.o.lt;omega)));clear hD OJ hB hZm;(go_wp2_with fail);refine Cn.o.mono ?_;rintro e we ⟨s1,A1,GZ,rP,l1,rfl,z1,z2,z3,z4,z5,mN⟩;have QJ:=EX.o _ mN;have fe0:=QJ.frozen 0;have fe1:=QJ.frozen 1;have ce0:=QJ.cell0;have ce1:=QJ.cell1;have hd9:=aA (QJ.set (.bool s1) (.slice A1 GZ rP));have hl9:=aA (QJ.limbs (.bool s1) (.slice A1 GZ rP) rfl rfl z4);have CX:=aA (yo (ZF.o _ mN) (Nat.le_refl gc) (.bool s1) (.slice A1 GZ rP));have Z5:=aA z5;(have hk9:GZ<=K+1:=by omega);clear QJ z4 z5 mN k1 y0 y1;(go_wp2_with fail);go_meet
         exact ⟨s1,A1,GZ,rP,l1,hd9,hl9,z1,z2,hk9,Z5,CX⟩
       | false=>
         have Iq:Hid (dN s ls (sA (aP T))):=by
          show dN _ _ _;rw [Hcz.o,aY (fun h=>by have:=ani.o.1 h;cases this)];exact hZm.o
         (go_wp2_with fail);go_meet
         exact ⟨s,Ac,kc,cc,ls,hD,OJ,c1,c2,c3,Iq,hB⟩
      case rest=>
       clear hD OJ c1 c2 c3 hZm hB y0 y1 k1 hDb Wq ani;obtain ⟨s5,A5,k5,c5,l5,hD,OJ,c1,c2,c3,hZ,hB⟩:=hcut;obtain ⟨w6,rfl⟩:∃W:World,W=wc:=⟨_,rfl⟩;have QF:Hid (0<limbs l5):=by
        have h1:=hZ.o.eq;have h2:=atu.o;have h3:=Gg (aP T);show _<_;(have h4:(aI s5 l5).natAbs=limbs l5:=by unfold aI;split<;>omega);rw [h1] at h4;omega
       have hT6:Hid (iI w6 (some ⟨b,o,none⟩) m T):=HT.o.aC (by rw [Hgc.o];exact hB.o);(have gW:b<w6.heap.size:=by have:=hD.o.lt;omega);(have Hpl:Hid ((BR (aP T)).length=m):=by show _=_;unfold BR;rw [dJ,au,HTm.o]);(go_wp2_with fail);go_loopw [10,11] (fun v j wr=>∃(k:Nat) (E:List ax),k<=m∧j=.int .i64 (k:Int)∧Hid (jN w6 wr n (2*K+20) v E (aP (E.map (·.2))))∧E.length<=k∧Hid (aP (E.map (·.2))=(BR (aP T)).take k)∧Hid (∀x∈E,dN x.2.1.1 x.2.1.2 (aI x.2.1.1 x.2.1.2))) (fun _ j _=>m-(intOf j).toNat)
       case atStart=>exact ⟨0,[],by omega,rfl,jN.start _ _ _,aL,rfl,fun x hx=>by cases hx⟩
       case round=>
        obtain ⟨k,E,hk,rfl,hO,Jv,hEv,hEz⟩:=hrel;obtain ⟨wv,rfl⟩:∃wv:World,wv=wr:=⟨_,rfl⟩;have tV:=aA (fun j (h:u10.ownBlock=some j)=>hO.o.own.lt j h);have TD:=aA hO.o.aC;by_cases hlt:k<m
        . obtain ⟨b',o',e',_,hc⟩:=hT6.o.at_ (by omega)
          injection e' with e'
          injection e' with eb eo
          subst eb eo;(have Sz:k<T.length:=by rw [HTm.o];exact hlt);obtain ⟨Ai,ci,Ei,ei,e1,e2,e3,e4,e5,e6,e7,e8,e9⟩:=hc k Sz;have Ju:=Hco.o _ (bR Sz);have tZ:(T[k]).2.length=n:=HP.o.mv.len (bS T[k]) (af.2 ⟨_,bR Sz,rfl⟩);have WA:aI (T[k]).1.1 (T[k]).1.2 % sA (aP T)=0:=uI (af.2 ⟨_,bR Sz,rfl⟩:bS T[k]∈aP T);have RV:=aeY Sz;have Rf:=aA RV;have Hdv:=aA WA;clear hc RV WA;generalize T[k]=x at*
          obtain ⟨⟨sx,xs⟩,ps⟩:=x;simp only at e1 e2 e3 e4 e6 e8 e9 Ju tZ;have FJ:=aA tZ;rw [aq 3 k] at e1 e2 e3;rw [<- jb] at e2 e3;(have dH:(k:Int)<(m:Int):=by omega);(have wT:(0:Int)<=(k:Int):=by omega);have hg6:=hD.o.lt;have Ff:Hid (∀W,Below w6.heap.size w6 W->W.cell? ⟨b,o+k*3,none⟩=some (.bool sx)∧W.cell? ⟨b,o+k*3+1,none⟩=some (.slice Ai xs.length ci)∧W.cell? ⟨b,o+k*3+2,none⟩=some (.slice Ei ps.length ei)∧W.cell? ⟨gc,0,none⟩=some (.bool s5)∧W.cell? ⟨gc,1,none⟩=some (.slice A5 k5 c5)):=fun W hW=>
           ⟨(hW.cell (p:=⟨b,o+k*3,none⟩) gW).trans e1,(hW.cell (p:=⟨b,o+k*3+1,none⟩) gW).trans e2,(hW.cell (p:=⟨b,o+k*3+2,none⟩) gW).trans e3,(hD.o.aC hW).cell0,(hD.o.aC hW).cell1⟩
          have LG:Hid (∀W,Below wv.heap.size wv W->W.cell? ⟨b,o+k*3,none⟩=some (.bool sx)∧W.cell? ⟨b,o+k*3+1,none⟩=some (.slice Ai xs.length ci)∧W.cell? ⟨b,o+k*3+2,none⟩=some (.slice Ei ps.length ei)∧W.cell? ⟨gc,0,none⟩=some (.bool s5)∧W.cell? ⟨gc,1,none⟩=some (.slice A5 k5 c5)):=fun W hW=>Ff.o _ (TD.o.tm hW);obtain ⟨a1,a2,a3,a4,a5⟩:=Ff.o _ TD.o;have Ce:Hid (∀W,Below wv.heap.size wv W->aB 75 #[.agg #[.bool sx,.slice Ai xs.length ci],.agg #[.bool s5,.slice A5 k5 c5]] W (AZ W (xs.length+k5+10) (aI sx xs) (aI s5 l5))):=fun W hW=>
           Oz sx s5 Ai A5 xs.length k5 ci c5 xs l5 W (e8.aC (TD.o.tm hW)) (OJ.o.aC (TD.o.tm hW)) e4 e5 c1 c2 (by omega) (by omega) QF.o
          rw [hZ.o.eq] at Ce;have E9:=aA e9;have azs:=aA (fun (h0:0<ps.length) {y:Addr}(hy:Ei=some y)=>xY e9 h0 hy);have axZ:=aA tZ;clear e1 e2 e3 e8 e9 tZ;(go_wp2_with fail);go_cut [12] (fun s12 wx=>∃(gd:Nat) (s1:Bool) (A1:Option Addr) (k1 c1:Nat) (l1:List Int),s12=.pointer (some ⟨gd,0,none⟩)∧wv.heap.size<=gd∧Hid (Duo wx gd (.bool s1) (.slice A1 k1 c1))∧k1<=xs.length+k5+10∧k1<=c1∧c1<=9223372036854775807∧Hid (aD wx A1 k1 l1)∧Hid (dN s1 l1 (aI sx xs / sA (aP T)))∧Hid (0<k1->∀y,A1=some y->wv.heap.size<=y.block)∧Hid (Below wv.heap.size wv wx))
          case first=>
           go_region_held3 (fun W=>W.cell? ⟨b,o+k*3,none⟩=some (.bool sx)∧W.cell? ⟨b,o+k*3+1,none⟩=some (.slice Ai xs.length ci)∧W.cell? ⟨b,o+k*3+2,none⟩=some (.slice Ei ps.length ei)∧W.cell? ⟨gc,0,none⟩=some (.bool s5)∧W.cell? ⟨gc,1,none⟩=some (.slice A5 k5 c5))
            (first | go_keep | exact LG.o _ aU.drew | exact LG.o _ (aU.alloc aL _).drew | exact LG.o _ mN | exact LG.o _ (mN.alloc mN.size _) | exact LG.o _ (yo mN aL _ _))
            (first | (go_at_call 75;refine (Ce.o _ (by first | exact aU.drew | exact (aU.alloc aL _).drew)).mono ?_;rintro e we ⟨s1,A1,GZ,rP,l1,rfl,z1,z2,z3,z4,z5,z6,se⟩;have mN:Below wv.heap.size wv we:=(by first | exact aU.drew.trans se | exact (aU.alloc aL _).drew.trans (se.mono (by simp)));(first | (have tD:=(Duo.new wv (.bool false) (.slice none 0 0));have tE:=Duo.aC (w:=(World.alloc wv _).drew) tD se;have u0:=tE.cell0;have u1:=tE.cell1;have v0:=tE.frozen 0;have v1:=tE.frozen 1) | skip)))
           all_goals
            (go_wp2_with fail);go_meet
            first
             | exact ⟨wv.heap.size,s1,A1,GZ,rP,l1,rfl,aL,tE.set _ _,z1,z2,z3,tE.limbs _ _ rfl rfl z4,z5 Hdv.o,(fun h0 y hy=>by first | exact z6 h0 y hy | (have h:=z6 h0 y hy;simp at h;omega)),yo mN aL _ _⟩
             | exact ⟨we.heap.size,s1,A1,GZ,rP,l1,rfl,mN.size,Duo.new we _ _,z1,z2,z3,z4.alloc _,z5 Hdv.o,(fun h0 y hy=>by first | exact z6 h0 y hy | (have h:=z6 h0 y hy;simp at h;omega)),mN.alloc mN.size _⟩
          case rest=>
           obtain ⟨gd,s1,A1,k1,d1,l1,rfl,hgd,hDd,p1,p2,p3,hLd,hZd,hFd,YO⟩:=hcut;obtain ⟨w7,rfl⟩:∃W:World,W=wc:=⟨_,rfl⟩;have sW:Hid (∀W,Below w7.heap.size w7 W->W.cell? ⟨b,o+k*3+2,none⟩=some (.slice Ei ps.length ei)∧W.cell? ⟨gd,0,none⟩=some (.bool s1)∧W.cell? ⟨gd,1,none⟩=some (.slice A1 k1 d1)):=fun W hW=>
            ⟨(LG.o _ (YO.o.tm hW)).2.2.1,(hDd.o.aC hW).cell0,(hDd.o.aC hW).cell1⟩
           obtain ⟨m1,m2,m3⟩:=sW.o _ aU;have hO7:=aA (hO.o.jX YO.o);(have NL:E.length<=4096:=by omega);(have q1:E.length+1<=maxLen:=by unfold maxLen;omega);(have q2:(E.length+1)*56<=140737488355328:=by omega);(have q3:Hid (∀(W:World) (ob:Obj),Below w7.heap.size w7 W->w6.heap.size<=(W.alloc ob).heap.size):=fun W ob hW=>by have h1:=hW.size;have h2:=hO7.o.aC.size;simp;omega);have HOW:=aA (fun W (hW:Below w7.heap.size w7 W)=>cm hO7.o.own hW);have F:Hid (∀(w8:World) (gg cap:Nat),w8.ownsRow w6.heap.size 44 3 (.slice (some ⟨gg,0,none⟩) (E.length+1) cap) (E.length+1) (aS E++[.bool s1,.slice A1 k1 d1,.slice Ei ps.length ei])->(w7.drew.alloc (.cells #[.bool s1,.slice A1 k1 d1,.slice Ei ps.length ei] 44)).grownBy w8 u10.ownBlock->(u10.ownBlock=some gg∨gg=w7.heap.size+1)->∃E2:List ax,E2.length=E.length+1∧jN w6 w8 n (2*K+20) (.slice (some ⟨gg,0,none⟩) (E.length+1) cap) E2 (aP (E2.map (·.2)))∧aP (E2.map (·.2))=(BR (aP T)).take (k+1)∧(∀x∈E2,dN x.2.1.1 x.2.1.2 (aI x.2.1.1 x.2.1.2))):=fun w8 gg cap h7 h8 h9=>by
            have arA:=hLd.o;obtain rfl:=arA.len;have GJ:=hO7.o.next (w2:=w7.drew) (x:=(((A1,d1),(Ei,ei)),((s1,l1),ps))) (o:=(.cells #[.bool s1,.slice A1 l1.length d1,.slice Ei ps.length ei] 44)) aU.drew ⟨p2,p3,e6,e7,arA.aC aU.drew,(E9.o.aC (TD.o.tm YO.o)).aC aU.drew⟩ axZ.o (by show l1.length<=_;omega)
             (fun h0 z hz e=>by have h10:=hFd.o h0 z hz;have Yx:=(tV.o _ e).2;omega) (fun h0 z hz e=>by have h10:=azs.o h0 hz;have Yx:=(tV.o _ e).1;omega)
             h7 h8 h9 rfl
            have e:bS ((s1,l1),ps)=(ps,aI sx xs / sA (aP T)):=by
             show (ps,aI s1 l1)=_;rw [hZd.o.eq]
            (have hv:aP ((E++[((((A1,d1),(Ei,ei)),((s1,l1),ps)):ax)]).map (·.2))=aP (E.map (·.2))++[bS ((s1,l1),ps)]:=by rw [ij,eN];rfl);refine ⟨E++[(((A1,d1),(Ei,ei)),((s1,l1),ps))],by rw [eC];rfl,by rw [hv];exact GJ,by rw [hv,Rf.o,e,hEv.o],fun x hx=> ?_⟩;rcases gT.1 hx with hx | hx
            . exact hEz.o x hx
            . rw [dS.1 hx]
              show dN s1 l1 (aI s1 l1);rw [hZd.o.eq];exact hZd.o
           have ow:Hid (∀w8,(w7.drew.alloc (.cells #[.bool s1,.slice A1 k1 d1,.slice Ei ps.length ei] 44)).grownBy w8 u10.ownBlock->w8.cell? ⟨b,o+k*3+2,none⟩=some (.slice Ei ps.length ei)∧w8.cell? ⟨gd,0,none⟩=some (.bool s1)∧w8.cell? ⟨gd,1,none⟩=some (.slice A1 k1 d1)):=fun w8 hg=>by
            obtain ⟨r1,r2,r3⟩:=sW.o _ ((Below.refl w7.heap.size w7).drew.alloc (by simp) (.cells #[.bool s1,.slice A1 k1 d1,.slice Ei ps.length ei] 44));(have n1:some b≠u10.ownBlock:=fun e=>by have:=(tV.o _ e.symm).1;omega);(have n2:some gd≠u10.ownBlock:=fun e=>by have:=(tV.o _ e.symm).2;omega);exact ⟨hg.cell r1 n1,hg.cell r2 n2,hg.cell r3 n2⟩
           (go_wp2_with fail);go_region_held3 (fun W=>W.cell? ⟨b,o+k*3+2,none⟩=some (.slice Ei ps.length ei)∧W.cell? ⟨gd,0,none⟩=some (.bool s1)∧W.cell? ⟨gd,1,none⟩=some (.slice A1 k1 d1))
            (first | go_keep | exact sW.o _ aU.drew | exact sW.o _ (aU.alloc aL _).drew | exact ow.o _ aW)
            (first
              | ((refine pN _ (by rfl) _ _ _ (by rfl) w6.heap.size 44 i0 _ 3 56 underlying22 rT jE jD jJ rfl (by omega) u10 E.length (aS E) (by rfl) (gN ((HOW.o _ aU).alloc _)) ⟨w7.heap.size,0,none⟩ 1 1 [.bool s1,.slice A1 k1 d1,.slice Ei ps.length ei] (by rfl) (by rfl) (gw (cs:=#[.bool s1,.slice A1 k1 d1,.slice Ei ps.length ei]) (t:=44) (fr:=(0,0)) (bM w7 _)) (by simp [Value.oneCell']) (Nat.one_pos) q1 q2 (q3.o _ _ aU) (w7.heap.size+1) (by simp) ?_);intro gg cap w8 fL aW gZ ou))
           obtain ⟨E2,hE2,Rb,Mz,hz3⟩:=F.o w8 gg cap fL aW gZ
           have Yj:=aA Rb;have HV3:=aA Mz;have HZ3:=aA hz3;(have hE3:E2.length<=k+1:=by omega);clear Rb hE2 Mz hz3 fL aW gZ ou F ow sW m1 m2 m3 a1 a2 a3 a4 a5;(go_wp2_with fail);go_roundw
           case rel=>exact ⟨k+1,E2,by omega,by go_num,Yj,hE3,HV3,HZ3⟩
           case measure=>simp [intOf];omega
        . have dH:¬(k:Int)<(m:Int):=by omega
          obtain ⟨B9,d9,rfl,r1,r2,r3⟩:=jK hO.o.own rfl hO.o.ok;have I6:=(HD2.o.keep (hB.o.block _ (by omega))).aC TD.o;have v0:=I6.cell0;have v1:=I6.cell1;have f0:=I6.frozen 0;have f1:=I6.frozen 1;have Wp:=aA I6;have hDg:=hD.o.aC TD.o;have d0:=hDg.cell0;have d1:=hDg.cell1;have Hlg:=aA (OJ.o.aC TD.o);have ZB:Hid (Below w.heap.size w wv):=(FK.o.trans (hB.o.mono (by omega))).trans (TD.o.mono (by have:=hD.o.lt;omega));have Sw:aP (E.map (·.2))=BR (aP T):=by
           rw [hEv.o,iC (by rw [Hpl.o];omega)]
          have hlE:(E.map (·.2)).length=E.length:=dJ _;have hPE:eH n (E.map (·.2)):=⟨by rw [Sw];exact EA HP.o.mv (fun e=>by have h1:=QF.o;have h2:=hZ.o.eq;rw [e] at h2;unfold aI at h2;split at h2<;>omega),fun t ht=>by
           obtain ⟨x,hx,rfl⟩:=af.1 ht;exact hEz.o x hx⟩
          have HR3:=aA r3;(have hBf:Hid (∀y,B9=some y->y.block≠w.heap.size):=fun y hy e=>by have:=(tV.o y.block (by subst hy;rfl)).1;have:=hD.o.lt;omega);have F:Hid (∀W,aD W A5 k5 l5->iI W B9 E.length (E.map (·.2))->Below w.heap.size w W->pY w n (aP L) (.returned (.tuple #[.agg #[.bool s5,.slice A5 k5 c5],.slice B9 E.length d9,.int .i64 0])) W):=fun W h1 h2 h3=>by
           rw [<- hlE] at h2 ⊢;exact ⟨s5,A5,k5,c5,l5,B9,d9,E.map (·.2),T,rfl,c1,c2,h1,HP.o,HE.o,hZ.o,by rw [hlE];exact r1,by unfold maxLen at r2;omega,h2,hPE,Sw,h3⟩
          have HTr:Hid (∀W u v,Duo wv w.heap.size (.bool false) (.slice none 0 0)->W=((wv.setCell ⟨w.heap.size,0,none⟩ u).setCell ⟨w.heap.size,1,none⟩ v)->iI W B9 E.length (E.map (·.2))):=fun W u v hd hW=>by
           subst hW;exact aeF HR3.o hd (fun y hy e=>hBf.o y hy e) u v
          clear r3 I6 hDg Sw hPE hlE hO hEz hEv;(go_wp2_with fail);refine bK (iX (fn:=f35) rfl _ _ _ _ _ _ _ rfl (Wp.o.set (.bool s5) (.slice A5 k5 c5)) underlying41 rfl bQ) rfl ?_;exact F.o _ (Wp.o.limbs _ _ rfl rfl Hlg.o) (HTr.o _ _ _ Wp.o rfl) (yo ZB.o aL _ _)
