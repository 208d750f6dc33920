import Derived.Test.YtehcoffbiplphaaGreatGDvC
import Derived.Test.YtehcoffbiplphaaGreatGTj
set_option linter.all false
set_option maxHeartbeats 8000000
set_option maxRecDepth 100000
namespace Go.Proofs.YtehcoffbiplphaaGreat
open Go.Proofs.Tryz
open Go.RowKit aG
variable {w:World} {A:Option Addr} {m C k n base g c:Nat} {xs:List Int} {s:Bool} {u v:Value}
def pH {L:List TV}(h:jM w A m L):∀t∈L,aQ t.1.2:=fun t ht=>by
 obtain ⟨i,hi,rfl⟩:=vq.1 ht;obtain ⟨b,o,_,_,hc⟩:=h.at_ (by have:=h.len;omega);obtain ⟨Ai,ci,Ei,ei,_,_,_,_,_,_,_,h8,_⟩:=hc i hi;exact h8.ok
def Kk (s:Bool) (h:aQ xs) (hC:xs.length<=C):(aF s xs).natAbs<2^(64*C):=by
 have h1:=eH h;have h2:2^(64*xs.length)<=2^(64*C):=fM (by omega) (by omega);have h3:(aF s xs).natAbs=limbs xs:=by
  unfold aF;cases s<;>simp
 omega
def QA {L:List TV}(hl:∀t∈L,t.1.2.length<=C) (hi:∀t∈L,aQ t.1.2) (hk:L.length<=4096):bM (aU L)<2^(64*(C+1)):=by
 have h1:bM (aU L)<=(aU L).length*2^(64*C):=CJ fun t ht=>by
  obtain ⟨s,hs,rfl⟩:=aj.1 ht;exact nK (Kk s.1.1 (hi s hs) (hl s hs))
 rw [bE] at h1;have h2:L.length*2^(64*C)<=18446744073709551615*2^(64*C):=bI _ (by omega);have h3:=lC (64*C);rw [ak,iH,bg];have h4:(2:Nat)^64=18446744073709551616:=by decide
 rw [h4,aq (2^(64*C))];omega
def Lk (L:Mv) (k:Nat):(fD (fun t:mj=>t.2) (L.take k)).natAbs<=bM L:=by
 refine aH (GV _ _) ?_;have h:bM (L.take k)<=bM L:=by
  have e:=qy (L.take k) (L.drop k);rw [CO] at e;omega
 exact h
def WE {L:List TV} (hk:k<L.length):fD (fun t:mj=>t.2) ((aU L).take (k+1))=fD (fun t:mj=>t.2) ((aU L).take k)+aF (L[k]).1.1 (L[k]).1.2:=by
 have e:(aU L).take (k+1)=(aU L).take k++[bp L[k]]:=by
  unfold aU;rw [<- QD,<- QD,lu hk,jK];rfl
 rw [e,qP];congr 1
 show aF _ _+0=_;exact zl _
def JI (T:TypeId) (w:World) (g:Nat) (a b c:Value):Prop:=w.heap[g]? =some (.cells #[a,b,c] T (0,0))
section
variable {T : TypeId} {w w' : World} {g : Nat} {a b c : Value}
section
variable (h:JI T w g a b c)
include h
theorem JI.lt:g<w.heap.size:=(jf.1 h).1
theorem JI.cell0:w.cell? ⟨g,0,none⟩=some a:=by rw [dA w g 0 _ _ (0,0) h];rfl
theorem JI.cell1:w.cell? ⟨g,1,none⟩=some b:=by rw [dA w g 1 _ _ (0,0) h];rfl
theorem JI.aP:w.cell? ⟨g,2,none⟩=some c:=by rw [dA w g 2 _ _ (0,0) h];rfl
theorem JI.keep (hk:w'.heap[g]? =w.heap[g]?):JI T w' g a b c:=hk.trans h
theorem JI.aB (hb:Below w.heap.size w w'):JI T w' g a b c:=h.keep (hb.block g h.lt)
end
def JI.new (T:TypeId) (w:World) (a b c:Value):JI T (w.alloc (.cells #[a,b,c] T)) w.heap.size a b c:=bO w _
def JI.ank (h:JI T w g a b c) (x y:Value):JI T ((w.setCell ⟨g,0,none⟩ x).setCell ⟨g,1,none⟩ y) g x y c:=by
 unfold JI at h ⊢;simp [World.setCell,wI,h]
end
def NS (m C:Nat):Prop:=∀(n i:Nat) (A:Option Addr) (k c:Nat) (L:List TV) (w:World),n=i+m->n<=6->jM w A k L->Arg n C L->k<=c->c<=9223372036854775807->aC 28 #[.int .i64 (n:Int),.int .i64 (i:Int),.slice A k c] w (bV (fun _=>False) w m (iy m i (aU L)))
def aem (C:Nat) (hC:C<=1000000):NS 0 C:=by
 intro n i A m c L w hni hn hx hL hmc hc;obtain rfl:n=i:=by omega
 clear hni;have wR:=hL.cnt;have hml:=hx.len;have hm:m<=4096:=by omega
 have Hx:=aA hx;have HL:=aA hL;have IP:=aA (QA hL.co (pH hx) wR);have t0:=(aa.new w (.bool false) (.slice none 0 0) (.slice none 0 0)).aB (aW.alloc aK (.cells #[.bool false,.slice none 0 0,.slice none 0 0] 51));have t1:=aa.new (w.alloc (.cells #[.bool false,.slice none 0 0,.slice none 0 0] 51)) (.bool false) (.slice none 0 0) (.slice none 0 0);rw [aJ] at t1;have hb:Below w.heap.size w ((w.alloc (.cells #[.bool false,.slice none 0 0,.slice none 0 0] 51)).alloc (.cells #[.bool false,.slice none 0 0,.slice none 0 0] 51)):=(aW.alloc aK _).alloc (by simp) _;clear hx hL;go_enter func28,ntmps28
 go_wp2_with fail
 generalize kj:(w.alloc (.cells #[.bool false,.slice none 0 0,.slice none 0 0] 51)).alloc (.cells #[.bool false,.slice none 0 0,.slice none 0 0] 51)=wt at*
 clear kj;have T0:=aA t0;have T1:=aA t1;have HB:=aA hb;clear t0 t1 hb;go_loopw [21] (fun kk wr=>∃(k:Nat) (s:Bool) (B:Option Addr) (q d:Nat) (ls:List Int),k<=m∧kk=.int .i64 (k:Int)∧q<=d∧d<=9223372036854775807∧q<=C+1∧Hid (aa wr w.heap.size (.bool false) (.slice none 0 0) (.slice none 0 0))∧Hid (aa wr (w.heap.size+1) (.bool s) (.slice B q d) (.slice none 0 0))∧Hid (aD wr B q ls)∧Hid (bW s ls (fD (fun t=>t.2) ((aU L).take k)))∧Hid (0<q->∀y,B=some y->w.heap.size+1<y.block)∧Hid (Below w.heap.size w wr)) (fun kk _=>m-(intOf kk).toNat)
 case atStart=>
  obtain ⟨s,A',k',c',ls,h1,h2,h3,h4,h5,h6⟩:=aO.nought (fun _=>False) wt 0;injection h1 with h1
  exact ⟨0,false,none,0,0,[],dc _,rfl,aK,by omega,by omega,T0,T1,⟨rfl,fun h=>absurd h (by omega),fun i=>by show 0<=nth [] i∧nth [] i<18446744073709551616;rw [cW (by simp)];omega⟩,⟨⟨fun i=>by show 0<=nth [] i∧nth [] i<18446744073709551616;rw [cW (by simp)];omega,fun h=>absurd h (by simp)⟩,rfl,fun h=>by cases h⟩,fun h=>absurd h (by omega),HB⟩
 case round=>
  clear T0 T1 HB;obtain ⟨k,s,B,q,d,ls,hk,rfl,hqd,hd,hqC,h0,h1,hl,hz,hne,wG⟩:=hrel;obtain ⟨wp,rfl⟩:∃wp:World,wp=wr:=⟨_,rfl⟩;have p0:=h1.o.cell0;have p1:=h1.o.cell1;have p2:=h1.o.aP;have f0:=h1.o.frozen 0;have f1:=h1.o.frozen 1;have Jo:=h1.o.lt;by_cases hlt:k<m
  . obtain ⟨b,o,rfl,IK,hcc⟩:=Hx.o.at_ (by omega)
    (have vD:k<L.length:=by omega);obtain ⟨Ai,ci,Ei,ei,e1,e2,e3,e4,e5,e6,e7,e8,e9⟩:=hcc k vD;have Qc:=HL.o.co _ (bw vD);(have dI:(k:Int)<(m:Int):=by omega);(have wP:(0:Int)<=(k:Int):=by omega);have hsz:=wG.o.size;rw [aq 3 k] at e1 e2 e3;rw [<- j9] at e2 e3;have g1:=(wG.o.cell (p:=⟨b,o+k*3,none⟩) IK).trans e1;have g2:=(wG.o.cell (p:=⟨b,o+k*3+1,none⟩) IK).trans e2;have g3:=(wG.o.cell (p:=⟨b,o+k*3+2,none⟩) IK).trans e3;have Bh:Hid (fD (fun t:mj=>t.2) ((aU L).take (k+1))=fD (fun t:mj=>t.2) ((aU L).take k)+aF (L[k]).1.1 (L[k]).1.2):=WE vD;have E8:=aA (e8.aB wG.o);clear e1 e2 e3 e8 e9 hcc;generalize L[k]=x at*
    obtain ⟨⟨sx,xs⟩,ps⟩:=x;simp only at g1 g2 g3 e4 e5 e6 e7 E8 Qc Bh;have bT:Below wp.heap.size wp (wp.alloc (.cells #[.bool sx,.slice Ai xs.length ci,.slice Ei ps.length ei] 44)):=aW.alloc aK _;have p0':=(h1.o.aB bT).cell0;have p1':=(h1.o.aB bT).cell1;have tb:=JI.new 44 wp (.bool sx) (.slice Ai xs.length ci) (.slice Ei ps.length ei);have b0:=tb.cell0;have b1:=tb.cell1;have BT:=aA bT;have Ca:=aA (YJ s sx B Ai q xs.length d ci ls xs _ (hl.o.aB bT) (E8.o.aB bT) hqd hd e4 e5 (by omega) (by omega));have Hl0:=aA hl.o.len;clear tb bT;(go_wp2_with fail);refine Ca.o.mono ?_;rintro e w1 ⟨s1,A1,k1,c1,l1,rfl,z1,z2,z3,z4,z5,z6,z7⟩;have dH:Below wp.heap.size wp w1:=BT.o.tm z7;have T1:=h1.o.aB dH;have T0:=h0.o.aB dH;have q0:=T1.cell0;have q1:=T1.cell1;have q3:=T1.frozen 0;have q4:=T1.frozen 1;have q5:=T1.lt;have XC:Hid (bW s1 l1 (fD (fun t=>t.2) ((aU L).take (k+1)))):=by
     show bW _ _ _;rw [Bh.o];rw [<- hz.o.eq];exact z5
    have Rv:k1<=C+1:=by
     have h5:=XC.o.cap (K:=C+1) (aR (Lk _ _) IP.o);have h6:=z4.len;omega
    have qu:Hid (Below w.heap.size w w1):=wG.o.tm dH;have T1':=aA ((show JI 51 w1 (w.heap.size+1) _ _ _ from T1).ank (.bool s1) (.slice A1 k1 c1));have T0':=aA ((T0.far (p:=⟨w.heap.size+1,0,none⟩) (by show w.heap.size≠w.heap.size+1;omega) (.bool s1)).far (p:=⟨w.heap.size+1,1,none⟩) (by show w.heap.size≠w.heap.size+1;omega) (.slice A1 k1 c1));have axp:Hid (Below w.heap.size w ((w1.setCell ⟨w.heap.size+1,0,none⟩ (.bool s1)).setCell ⟨w.heap.size+1,1,none⟩ (.slice A1 k1 c1))):=(qu.o.setCell (p:=⟨w.heap.size+1,0,none⟩) (by show _<=w.heap.size+1;omega) _).setCell (p:=⟨w.heap.size+1,1,none⟩) (by show _<=w.heap.size+1;omega) _;have on1:Only (fun b=>b=w.heap.size+1) w1 ((w1.setCell ⟨w.heap.size+1,0,none⟩ (.bool s1)).setCell ⟨w.heap.size+1,1,none⟩ (.slice A1 k1 c1)):=((Only.refl (fun b=>b=w.heap.size+1) w1).setCell (p:=⟨w.heap.size+1,0,none⟩) rfl _).setCell (p:=⟨w.heap.size+1,1,none⟩) rfl _;have aoE:Hid (0<k1->∀y,A1=some y->w.heap.size+1<y.block):=fun h0 y hy=>by
     have h9:=z6 h0 y hy;have h8:=BT.o.size;omega
    have zA:Hid (aD ((w1.setCell ⟨w.heap.size+1,0,none⟩ (.bool s1)).setCell ⟨w.heap.size+1,1,none⟩ (.slice A1 k1 c1)) A1 k1 l1):=lV z4 on1 fun h0 y hy e=>by
     have:=aoE.o h0 y hy;omega
    clear z4 z5 z6 z7 dH T1 T0 on1 qu BT Ca E8 Bh p0 p1 p2 p0' p1' b0 b1 h0 h1 hl hz hne wG f0 f1 g1 g2 g3 Hl0;(go_wp2_with fail);go_roundw
    case rel=>exact ⟨k+1,s1,A1,k1,c1,l1,by omega,by go_num,z1,z2,Rv,T0',T1',zA,XC,aoE,axp⟩
    case measure=>simp [intOf];omega
  . have dI:¬(k:Int)<(m:Int):=by omega
    have fP:(aU L).take k=aU L:=gZ (by rw [bE];omega);have XC:Hid (bW s ls (fD (fun t=>t.2) (aU L))):=by
     have h9:=hz.o;rw [fP] at h9;exact h9
    have H0:=aA h0.o;have r3:=h0.o.frozen 0;have r4:=h0.o.frozen 1;have r5:=h0.o.frozen 2;have r0:=h0.o.cell0;have r1:=h0.o.cell1;have r2:=h0.o.aP;have on1:=aZ wp w.heap.size (.bool s) (.slice B q d) (.slice none 0 0);have F:Hid (aO (fun b=>False∨w.heap.size<=b) 0 (((wp.setCell ⟨w.heap.size,0,none⟩ (.bool s)).setCell ⟨w.heap.size,1,none⟩ (.slice B q d)).setCell ⟨w.heap.size,2,none⟩ (.slice none 0 0)) (bG s B q d none 0 0) (iy 0 n (aU L))):=
     aO.num hqd hd (lV hl.o on1 fun h0 y hy e=>by
      have:=hne.o h0 y hy;omega) XC.o fun h0 y hy=> .inr (by
      have:=hne.o h0 y hy;omega)
    have pL:Hid (Below w.heap.size w (((wp.setCell ⟨w.heap.size,0,none⟩ (.bool s)).setCell ⟨w.heap.size,1,none⟩ (.slice B q d)).setCell ⟨w.heap.size,2,none⟩ (.slice none 0 0))):=((wG.o.setCell (p:=⟨w.heap.size,0,none⟩) aK _).setCell (p:=⟨w.heap.size,1,none⟩) aK _).setCell (p:=⟨w.heap.size,2,none⟩) aK _;clear fP XC h0 h1 hl hz hne wG on1;(go_wp2_with fail);exact ax (v:=.agg #[.bool s,.slice B q d,.slice none 0 0]) (cI (fn:=Tryz.f28) rfl _ _ _ _ _ _ _ rfl (H0.o.set (.bool s) (.slice B q d) (.slice none 0 0)) underlying51 rfl cm) rfl
     ⟨s,B,q,d,none,0,0,rfl,F.o,pL.o⟩
def abA {Ca:Nat} {L T:List TV}(hx:jM w A m L) (hL:Arg n Ca L) (hp:eP n T) (e:jR n (aU T) (aU L)):∀t∈T,t.1.2.length<=Ca+1:=fun t ht=>by
 have h1:bM (aU L)<=L.length*2^(64*Ca):=by
  have h4:=CJ (L:=aU L) (B:=2^(64*Ca)) fun t ht=>by
   obtain ⟨u,hu,rfl⟩:=aj.1 ht;exact nK (PE u.1.1 (Jz hx u hu) (C:=Ca) (hL.co u hu))
  rwa [bE] at h4
 have h2:bM (aU L)<2^(64*(Ca+1)):=by
  have h3:L.length*2^(64*Ca)<=2^12*2^(64*Ca):=bI _ hL.cnt;rw [<- iH] at h3;have h4:2^(12+64*Ca)<2^(64*(Ca+1)):=rH (by omega) (by omega);omega
 exact Qi (hp.co t ht) (aR (hp.mv.small e (t:=bp t) (aj.2 ⟨t,ht,rfl⟩)) h2)
def oO {P:Program} {fn:Func} {p u v:Tmp} {ty:TypeId}(h:fn.results=#[.cell p ty,.tmp u,.tmp v]) (tmps:Array Value) (w:World) (g:Nat) (t:TypeId) (cs:Array Value) (fr:Nat×Nat) (d:TypeDesc)
 (hp:tmps.getD p undef=.pointer (some ⟨g,0,none⟩)) (hg:w.heap[g]? =some (.cells cs t fr))
 (hu:P.underlying ty=some d) (hd:(match d with | .struct _ | .array _ _=>true | _=>false)=true) (hi:(P.info? ty).map (·.size)=some cs.size):
 (results fn tmps).run P w=.ok (.tuple #[.agg cs,tmps.getD u undef,tmps.getD v undef]) w:=by
 have Jm:tmps[p]?.getD undef=.pointer (some ⟨g,0,none⟩):=by simpa using hp
 simp [results,h,Jm,asAddr,Iw w g t ty cs fr d hg hu hd hi]
def xP {w':World} {S:Nat->Prop} (h:aD w A n xs) (ho:Only S w w') (hA:0<n->∀y,A=some y->¬S y.block):aD w' A n xs:=
 ⟨h.len,fun hn=>by
   obtain ⟨b,o,e,hb,hc⟩:=h.at_ hn;refine ⟨b,o,e,gh hb ho.size,fun i hi=> ?_⟩;rw [ho.cell (p:=⟨b,o+i,none⟩) hb (hA hn ⟨b,o,none⟩ e)];exact hc i hi,h.ok⟩
def zK (x:bA) (s:Bool) (A:Option Addr) (c:Nat) (ls:List Int):bA:=(((A,c),x.1.2),((s,ls),x.2.2))
def uV.put {E:List bA}(h:uV w base g E) (hk:k<E.length) {ls:List Int}(hl:aD w A ls.length ls) (h1:ls.length<=c) (h2:c<=9223372036854775807) (hf:0<ls.length->∀y,A=some y->y.block≠g):
 uV ((w.setCell ⟨g,3*k,none⟩ (.bool s)).setCell ⟨g,3*k+1,none⟩ (.slice A ls.length c)) base g (E.set k (zK (E[k]) s A c ls)):=by
 have ho:Only (fun j=>j=g) w ((w.setCell ⟨g,3*k,none⟩ (.bool s)).setCell ⟨g,3*k+1,none⟩ (.slice A ls.length c)):=(Only.setCell (S:=fun j=>j=g) (Only.refl _ _) (p:=⟨g,3*k,none⟩) rfl _).setCell (p:=⟨g,3*k+1,none⟩) rfl _;have hx:=h.ok _ (bw hk);have hfx:=h.far _ (bw hk);have hne:∀{a b:Nat},a≠b->(⟨g,b,none⟩:Addr)≠⟨g,a,none⟩:=fun IP e=>by injection e with _ e2;exact IP e2.symm
 have afs:∀{o:Nat} {u v v':Value},o≠3*k->o≠3*k+1->w.cell? ⟨g,o,none⟩=some u->((w.setCell ⟨g,3*k,none⟩ v).setCell ⟨g,3*k+1,none⟩ v').cell? ⟨g,o,none⟩=some u:=fun h1 h2 h3=>by
  rw [iF _ _ _ _ (hne h2),iF _ _ _ _ (hne h1)];exact h3
 obtain ⟨c0,c1,c2,f0,f1,f2⟩:=h.cells k hk;refine ⟨fun i hi=> ?_,fun x Cf=> ?_,fun x Cf=> ?_,h.lo,gh h.lt ho.size⟩
 . rw [gH] at hi
   obtain ⟨b0,b1,b2,e0,e1,e2⟩:=h.cells i hi;have fz:∀o,w.frozen? ⟨g,o,none⟩=false->((w.setCell ⟨g,3*k,none⟩ (.bool s)).setCell ⟨g,3*k+1,none⟩ (.slice A ls.length c)).frozen? ⟨g,o,none⟩=false:=fun o e=>by rw [M9,M9];exact e
   rw [List.getElem_set];by_cases hik:k=i
   . subst hik
     rw [aM rfl];refine ⟨?_,?_,?_,fz _ e0,fz _ e1,fz _ e2⟩
     . rw [iF _ _ _ _ (hne (by omega))]
       exact abV _ _ _ c0
     . exact abV _ _ _ ((iF _ _ _ _ (hne (by omega))).trans c1)
     . exact afs (by omega) (by omega) b2
   . rw [af hik]
     exact ⟨afs (by omega) (by omega) b0,afs (by omega) (by omega) b1,afs (by omega) (by omega) b2,fz _ e0,fz _ e1,fz _ e2⟩
 . rcases rK Cf with FZ | FZ
   . have hf2:=h.far x FZ
     exact iE (h.ok x FZ) ho (fun h0 y hy hg=>hf2.1 h0 y hy hg) (fun h0 y hy hg=>hf2.2 h0 y hy hg)
   . subst FZ
     have e1:=iE hx ho (fun h0 y hy hg=>hfx.1 h0 y hy hg) (fun h0 y hy hg=>hfx.2 h0 y hy hg);refine ⟨h1,h2,e1.2.2.1,e1.2.2.2.1,?_,e1.2.2.2.2.2⟩;exact xP hl ho (fun h0 y hy hg=>hf h0 y hy hg)
 . rcases rK Cf with FZ | FZ
   . exact h.far x FZ
   . subst FZ
     exact ⟨hf,hfx.2⟩
def J7 {α:Type}(f:α->α) (L:List α) (hk:k<L.length):((L.take k).map f++L.drop k).set k (f L[k])=(L.take (k+1)).map f++L.drop (k+1):=by
 rw [NM _ _ (by rw [dW,cS];omega),dW,cS,pF (by omega),pT,xb hk,Te,lu hk,jK];simp
def Duo.abE (h:Duo w g u v) (a b:Value) {p:Addr} {x:Value}(hx:w.cell? p=some x) (hu:x≠u) (hv:x≠v):((w.setCell ⟨g,0,none⟩ a).setCell ⟨g,1,none⟩ b).cell? p=some x:=by
 rw [iF _ _ _ _ (fun e=> ?_),iF _ _ _ _ (fun e=> ?_)]
 . exact hx
 . rw [<- e,h.cell0] at hx;injection hx with hx;exact hu hx.symm
 . rw [<- e,h.cell1] at hx;injection hx with hx;exact hv hx.symm
def Duo.ints (h:Duo w g u v) (a b:Value) (hu:u=.bool s) (hv:v=.slice A n c) {B:Option Addr} {ys:List Int}(hi:Ints w B m ys):Ints ((w.setCell ⟨g,0,none⟩ a).setCell ⟨g,1,none⟩ b) B m ys:=by
 refine ⟨hi.len,fun hm=> ?_,hi.ok⟩;obtain ⟨bb,o,e,hb,hc⟩:=hi.at_ hm;exact ⟨bb,o,e,by simpa using hb,fun i hlt=>h.abE a b (hc i hlt) (by rw [hu];exact fun e=>by cases e) (by rw [hv];exact fun e=>by cases e)⟩
def uV.Qg {gd:Nat} {E:List bA}(h:uV w base g E) (hd:Duo w gd (.bool s) (.slice A n c)) (hne:g≠gd) (a b:Value):uV ((w.setCell ⟨gd,0,none⟩ a).setCell ⟨gd,1,none⟩ b) base g E:=
 ⟨fun i hi=>by
   obtain ⟨b0,b1,b2,e0,e1,e2⟩:=h.cells i hi;have far:∀{o:Nat} {x:Value},w.cell? ⟨g,o,none⟩=some x->((w.setCell ⟨gd,0,none⟩ a).setCell ⟨gd,1,none⟩ b).cell? ⟨g,o,none⟩=some x:=fun hx=>by
    rw [iF _ _ _ _ (fun e=>by injection e with e _;exact hne e.symm),iF _ _ _ _ (fun e=>by injection e with e _;exact hne e.symm)];exact hx
   have fz:∀o,w.frozen? ⟨g,o,none⟩=false->((w.setCell ⟨gd,0,none⟩ a).setCell ⟨gd,1,none⟩ b).frozen? ⟨g,o,none⟩=false:=fun o e=>by rw [M9,M9];exact e
   exact ⟨far b0,far b1,far b2,fz _ e0,fz _ e1,fz _ e2⟩,
  fun x hx=>by
   obtain ⟨k1,k2,k3,k4,k5,k6⟩:=h.ok x hx;exact ⟨k1,k2,k3,k4,hd.limbs a b rfl rfl k5,hd.ints a b rfl rfl k6⟩,
  h.far,h.lo,by simpa using h.lt⟩
def KG {M:Mv}(h:bC n M) (_hz:zB M≠0):bC n (QY M):=
 ⟨fun t ht=>by
   obtain ⟨s,hs,rfl⟩:=aj.1 ht;exact h.len s hs,by
   unfold QY;rw [mZ];exact h.ord,fun t ht=>by
   obtain ⟨s,hs,rfl⟩:=aj.1 ht;intro e;have e2:s.2 / zB M=0:=e;have e1:=uS s.2 (zB M);rw [e2,yR hs] at e1;exact h.ne s hs (by omega)⟩
def yZ (w:World) (n:Nat) (M:Mv) (e:Ending) (w':World):Prop:=
 ∃s A k c ls B cB T P,e=.returned (.tuple #[.agg #[.bool s,.slice A k c],.slice B T.length cB,.int .i64 0])∧k<=c∧c<=9223372036854775807∧aD w' A k ls∧eP n P∧jR n (aU P) M∧bW s ls (zB (aU P))∧T.length<=cB∧cB<=9223372036854775807∧jM w' B T.length T∧eP n T∧aU T=QY (aU P)∧Below w.heap.size w w'
def anF (n Ca:Nat) (A:Option Addr) (m c:Nat) (L:List TV) (w:World) (hx:jM w A m L) (hL:Arg n Ca L) (hn:n<=6) (hCa:Ca<=10000):
 aC 23 #[.int .i64 (n:Int),.slice A m c] w (yZ w n (aU L)):=by
 have uw:=Duo.new w (.bool false) (.slice none 0 0);have ox:Below w.heap.size w (w.alloc (.cells #[.bool false,.slice none 0 0] 41)):=aW.alloc aK _;have Cn:=aA (Zh n Ca A m c L _ (hx.aB ox) hL hn hCa);have HD0:=aA uw;have HB0:=aA ox;have HL:=aA hL;have wR:=hL.cnt;have HCo:Hid (∀(T:List TV),eP n T->jR n (aU T) (aU L)->∀t∈T,t.1.2.length<=Ca+1):=fun T hp e=>abA hx hL hp e;clear hx hL uw ox;go_enter func23,ntmps23
 go_wp2_with fail
 generalize w.alloc (.cells #[.bool false,.slice none 0 0] 41)=w0 at*
 have hw0:=aA HD0.o.lt;refine Cn.o.mono ?_;rintro e w1 ⟨A1,c1,E,rfl,h1,h2,hO,hP,hE,dH⟩;have HD1:=aA (HD0.o.aB dH);have zz:Hid (Below w.heap.size w w1):=HB0.o.tm dH;have HO:=aA hO;have HP:=aA hP;have HE:=aA hE;have Kv:E.length<=4096:=by
  have:=hP.mv.count hE;rw [bE,bE,dW] at this;omega
 clear Cn hO hP hE dH HD0 HB0;go_wp2_with fail
 refine (Nn 0 w1 (by omega) (by omega)).mono ?_;rintro e w2 ⟨s0,A0,k0,c0,l0,rfl,g1,g2,g3,g4,g5,cU⟩;go_wp2_with fail
 have XN:=aA (Duo.new w2 (.bool s0) (.slice A0 k0 c0));have nV:Below w2.heap.size w2 (w2.alloc (.cells #[.bool s0,.slice A0 k0 c0] 41)):=aW.alloc aK _;have g4':=aA (g4.aB nV);have g5':=aA g5;have HB3:=aA nV;have HO2:=aA (Nx HO.o cU);have HD2:=aA (HD1.o.aB cU);have GI:Hid (Below w.heap.size w w2):=zz.o.tm cU;clear g4 g5 cU nV HO HD1 zz;have Kt:=aA (HCo.o _ HP.o HE.o);clear HCo;generalize w2.alloc (.cells #[.bool s0,.slice A0 k0 c0] 41)=w3 at*
 obtain ⟨gc,hgc⟩:∃g,w2.heap.size=g:=⟨_,rfl⟩;have Hgc:=aA hgc;rw [hgc] at XN HB3 ⊢;clear hgc;obtain ⟨me,hme⟩:∃k,E.length=k:=⟨_,rfl⟩;have Hme:=aA hme;rw [hme] at h1 Kv ⊢;clear hme;go_loopw [11,26] (fun _ v26 wr=>∃(k:Nat) (s:Bool) (Ac:Option Addr) (kc cc:Nat) (ls:List Int),k<=me∧v26=.int .i64 k∧Hid (Duo wr gc (.bool s) (.slice Ac kc cc))∧Hid (aD wr Ac kc ls)∧kc<=cc∧cc<=9223372036854775807∧kc<=Ca+1∧Hid (0<k->0<kc->∀y,Ac=some y->gc<=y.block)∧Hid (bW s ls (uO (aU ((E.map (·.2)).take k)):Nat))∧Hid (Below gc w2 wr)) (fun _ v26 _=>me-(intOf v26).toNat)
 case atStart=>exact ⟨0,s0,A0,k0,c0,l0,by omega,rfl,XN,g4',g1,g2,by omega,fun h=>absurd h (by omega),g5',HB3⟩
 case round=>
  clear XN g4' g5' HB3 g1 g2 g3;obtain ⟨k,s,Ac,kc,cc,ls,hk,rfl,hD,hLc,q1,q2,q3,hF,hZ,hB⟩:=hrel;have Ky:Below w2.heap.size w2 wr:=by rw [Hgc.o];exact hB.o
  by_cases hlt:k<me
  . have dI:(k:Int)<(me:Int):=by omega
    (have wP:(0:Int)<=(k:Int):=by omega);(have rL:k<E.length:=by rw [Hme.o];exact hlt);obtain ⟨g,hAg,hOg⟩:=HO2.o (by omega);subst hAg;have hOr:=hOg.aB Ky;obtain ⟨e0,e1,e2,_⟩:=hOr.cells k rL;obtain ⟨k1,k2,k3,k4,k5,k6⟩:=hOr.ok _ (bw rL);have Md:(E[k]).2∈E.map (·.2):=aj.2 ⟨_,bw rL,rfl⟩;have FH:=Kt.o _ Md;have hstep:Hid (uO (aU ((E.map (·.2)).take (k+1)))=Nat.gcd (uO (aU ((E.map (·.2)).take k))) (limbs (E[k]).2.1.2)):=by
     show _=_;have h3:(E.map (·.2)).take (k+1)=(E.map (·.2)).take k++[(E[k]).2]:=by
      rw [lu (by rw [dW];exact rL),List.getElem_map]
     rw [h3,fT,show aU [(E[k]).2]=[bp (E[k]).2] from rfl,Xj];congr 1
     show (aF _ _).natAbs=_;unfold aF;split<;>simp
    have hcn:Hid (limbs ls=uO (aU ((E.map (·.2)).take k))):=by
     have h3:=hZ.o.eq;show _=_;unfold aF at h3;split at h3<;>omega
    rw [aq 3 k] at e0 e1 e2;clear hOr hOg Md;generalize E[k]=x at*
    obtain ⟨⟨⟨Ax,cx⟩,⟨Ex,dx⟩⟩,⟨⟨sx,xs⟩,ps⟩⟩:=x;simp only at e0 e1 e2 k1 k2 k3 k4 k5 k6 FH hstep;have Mm:Below wr.heap.size wr (wr.alloc (.cells #[.bool sx,.slice Ax xs.length cx,.slice Ex ps.length dx] 44)):=aW.alloc aK _;have hD2:=hD.o.aB Mm;have d0:=hD2.cell0;have d1:=hD2.cell1;have Cg:=aA (ana s sx Ac Ax kc xs.length cc cx ls xs _ (hLc.o.aB Mm) (k5.aB Mm) q1 q2 k1 k2 (by omega) (by omega));rw [hcn.o,<- hstep.o] at Cg;have HD4:=aA hD2;have XX:Hid (Below gc w2 (wr.alloc (.cells #[.bool sx,.slice Ax xs.length cx,.slice Ex ps.length dx] 44))):=hB.o.trans (Mm.mono (by have:=Ky.size;have:=Hgc.o;omega));clear hD2 Mm k5 k6 hcn hstep hB Ky hD hLc hZ;(go_wp2_with fail);generalize wr.alloc (.cells #[.bool sx,.slice Ax xs.length cx,.slice Ex ps.length dx] 44)=wx at*
    refine Cg.o.mono ?_;rintro e wy ⟨s2,A2,k2',c2',l2,rfl,z1,z2,z3,z4,z5,z6,hbg⟩;have VO:=HD4.o.aB hbg;have f0:=VO.frozen 0;have f1:=VO.frozen 1;have d2:=VO.cell0;have d3:=VO.cell1;have HD5:=aA (VO.set (.bool s2) (.slice A2 k2' c2'));have HL5:=aA (VO.limbs (.bool s2) (.slice A2 k2' c2') rfl rfl z4);have HZ5:=aA z5;have hBg:Below gc w2 wy:=XX.o.trans (hbg.mono (by have:=HD4.o.lt;omega));have HB5:=aA ((hBg.setCell (p:=⟨gc,0,none⟩) aK (.bool s2)).setCell (p:=⟨gc,1,none⟩) aK (.slice A2 k2' c2'));have HF5:Hid (0<k+1->0<k2'->∀y,A2=some y->gc<=y.block):=fun _ h0 y hy=>aH (by have:=HD4.o.lt;omega) (z6 h0 y hy);(have uX:k2'<=Ca+1:=by omega);clear z4 z5 z6 VO hBg hbg Cg d0 d1 HD4 XX hF;(go_wp2_with fail);go_roundw
    case rel=>exact ⟨k+1,s2,A2,k2',c2',l2,by omega,by go_num,HD5,HL5,z1,z2,uX,HF5,HZ5,HB5⟩
    case measure=>simp [intOf];omega
  . obtain rfl:me=k:=by omega
    (have dI:¬(me:Int)<(me:Int):=by omega);(have Ky:Hid (Below w2.heap.size w2 wr):=by show Below _ _ _;rw [Hgc.o];exact hB.o);have fP:(E.map (·.2)).take me=E.map (·.2):=gZ (by rw [dW,Hme.o];exact aK);rw [fP] at hZ;clear fP;by_cases XK:me=0
    . skip
      have hE0:E=[]:=lz (by rw [Hme.o];exact XK);(have aoP:¬(0:Int)<(me:Int):=by omega);have hZ0:Hid (bW s ls (zB (aU (E.map (·.2))))):=by
       have h:=hZ.o;rw [hE0] at h ⊢;exact h
      have HM0:=aA XK;have aCw:¬((0:Int)<(me:Int)):=aoP;clear XK;(go_wp2_with fail);go_loopw [12,49] (fun _ v49 wt=>v49=.int .i64 0∧wt=wr) (fun _ _ _=>0)
      case atStart=>exact ⟨rfl,(by first | trivial | rfl)⟩
      case round=>
       obtain ⟨rfl,rfl⟩:=hrel;have aKf:=aA Ky.o;have Kw:=HD2.o.aB Ky.o;have y0:=Kw.cell0;have y1:=Kw.cell1;have yf0:=Kw.frozen 0;have yf1:=Kw.frozen 1;have d0:=hD.o.cell0;have d1:=hD.o.cell1;have HDw:=aA Kw;have Hbw:Hid (Below w.heap.size w wr):=GI.o.tm Ky.o;have F:Hid (∀W (hW:Duo W w.heap.size (.bool s) (.slice Ac kc cc)) (hl:aD W Ac kc ls) (hb:Below w.heap.size w W),yZ w n (aU L) (.returned (.tuple #[.agg #[.bool s,.slice Ac kc cc],.slice A1 me c1,.int .i64 0])) W):=fun W _ hl hb=>by
        have hm3:me=([]:List TV).length:=HM0.o;rw [hm3];exact ⟨s,Ac,kc,cc,ls,A1,c1,[],E.map (·.2),rfl,q1,q2,hl,HP.o,HE.o,hZ0.o,dc _,h2,jM.nil _ _,eP.nil n,by rw [hE0];rfl,hb⟩
       clear Kw;(go_wp2_with fail);refine ax (oO (fn:=Tryz.f23) rfl _ _ _ _ _ _ _ rfl (HDw.o.set (.bool s) (.slice Ac kc cc)) underlying41 rfl aT) rfl ?_;exact F.o _ (HDw.o.set _ _) (HDw.o.limbs _ _ rfl rfl hLc.o) ((Hbw.o.setCell (p:=⟨w.heap.size,0,none⟩) aK _).setCell (p:=⟨w.heap.size,1,none⟩) aK _)
    . have aoP:(0:Int)<(me:Int):=by omega
      (have aoM:0<me:=by omega);(have hE0:0<E.length:=by rw [Hme.o];exact aoM);obtain ⟨g,hAg,hOg⟩:=HO2.o hE0;subst hAg;have hOr:=hOg.aB Ky.o;obtain ⟨e0,_⟩:=hOr.cells 0 hE0;(have aIN:g<gc:=by rw [<- Hgc.o];exact hOg.lt);(have aIM:(0:Int)<=(c1:Int):=by omega);rw [jv] at e0;obtain ⟨tx,LX,hLX⟩:∃t l,aU (E.map (·.2))=t::l:=by
       match E,hE0 with
       | x::E',_=>exact ⟨_,_,rfl⟩
      have htx:tx=bp (E[0]).2:=by
       have h:=fN (fun l=>l[0]?) hLX;simp [aU,hE0] at h;exact h.symm
      (have Mb:bW (E[0]).2.1.1 (E[0]).2.1.2 tx.2:=by rw [htx];exact HP.o.co _ (aj.2 ⟨_,bw hE0,rfl⟩));have aoF:tx.2≠0:=by
       have h:=HP.o.mv.ne tx (by rw [hLX];exact ay);exact h
      have hcp:0<uO (aU (E.map (·.2))):=abC (by rw [hLX];exact ay) aoF;have aol:(E[0]).2.1.1=decide (tx.2<0):=by
       have h1:=Mb.eq;have h2:=Mb.nz;unfold aF at h1;cases hs:(E[0]).2.1.1 with
       | true=>rw [hs] at h1 h2;simp at h1;simp;omega
       | false=>rw [hs] at h1;simp at h1;simp;omega
      have HOr:=aA hOr;have hF':Hid (0<kc->∀y,Ac=some y->gc<=y.block):=fun h0 y hy=>hF.o aoM h0 y hy;(have YA:Hid (zB (aU (E.map (·.2)))=if tx.2<0 then -(uO (aU (E.map (·.2))):Int) else (uO (aU (E.map (·.2))):Int)):=by show _=_;rw [hLX];rfl);(have PW:Hid (zB (aU (E.map (·.2)))≠0):=fun e=>by have:=VR (aU (E.map (·.2)));rw [e] at this;omega);rw [aol] at e0;clear Mb aol htx hLX hOr hcp hF aoF;by_cases PO:tx.2<0
      . have e0':Hid (wr.cell? ⟨g,0,none⟩=some (.bool true)):=by show _=_;rw [e0,Ir PO]
        have e1:=e0'.o;have Cng:=aA (YI s Ac kc cc ls wr hLc.o q1 q2 (by omega));have hzn:Hid (-aF s ls=zB (aU (E.map (·.2)))):=by
         show _=_;rw [YA.o,aM PO,hZ.o.eq]
        have d0:=hD.o.cell0;have d1:=hD.o.cell1;clear PO e0;(go_wp2_with fail);refine Cng.o.mono ?_;rintro e wn ⟨s,Ac,kc,cc,ls,rfl,q1,q2,z3,z4,z5,z6,hbn⟩;(have q3:kc<=Ca+1:=by omega);have hDn:=hD.o.aB hbn;have n0:=hDn.cell0;have n1:=hDn.cell1;have nf0:=hDn.frozen 0;have nf1:=hDn.frozen 1;have hZt:Hid (bW s ls (zB (aU (E.map (·.2))))):=by
         have h:=z5;rw [hzn.o] at h;exact h
        have hDt:=aA (hDn.set (.bool s) (.slice Ac kc cc));have hLt:=aA (hDn.limbs (.bool s) (.slice Ac kc cc) rfl rfl z4);have hFt:Hid (0<kc->∀y,Ac=some y->gc<=y.block):=fun h0 y hy=>aH (nK hD.o.lt) (z6 h0 y hy);(have ajY:w2.heap.size<=gc:=by rw [Hgc.o];exact aK);have hBt:=aA (((Ky.o.tm hbn).setCell (p:=⟨gc,0,none⟩) ajY (.bool s)).setCell (p:=⟨gc,1,none⟩) ajY (.slice Ac kc cc));clear z4 z5 z6 hDn hbn d0 d1 hD hLc hZ hF' Ky hB hzn ajY Cng;(go_wp2_with fail);clear n0 n1 nf0 nf1;generalize (wn.setCell ⟨gc,0,none⟩ (.bool s)).setCell ⟨gc,1,none⟩ (.slice Ac kc cc)=wp at*
        obtain ⟨wt,rfl⟩:∃wt:World,wt=wp:=⟨_,rfl⟩;have hOt:=aA (hOg.aB hBt.o);have SI:Hid (E.length=me):=Hme.o;have aaK:Hid (∀x∈E,bW x.2.1.1 x.2.1.2 (aF x.2.1.1 x.2.1.2)):=fun x hx=>by
         have h1:=HP.o.co x.2 (aj.2 ⟨x,hx,rfl⟩);rw [h1.eq];exact h1
        have aaO:Hid (∀i (h:i<E.length),0<=i->(E[i]).2.1.2.length<=Ca+1):=fun i h _=>Kt.o (E[i]).2 (aj.2 ⟨_,bw h,rfl⟩);(have hlP:Hid ((aU (E.map (·.2))).length=me):=by show _=_;rw [bE,dW];exact Hme.o);obtain ⟨M,hM⟩:∃M,aU (E.map (·.2))=M:=⟨_,rfl⟩;have HM:=aA hM;rw [hM] at hZt PW hlP;obtain ⟨cz,SB⟩:∃z,zB M=z:=⟨_,rfl⟩;have HCZ:=aA SB;rw [SB] at hZt PW;have hval:Hid (E.map (fun x=>bp x.2)=(M.take 0).map (fun t=>(t.1,t.2 / cz))++M.drop 0):=by
         show _=_;rw [Ea,QE,<- hM];show _=aU (E.map (·.2));unfold aU;rw [jw];rfl
        have aas:0<limbs ls:=by
         have h3:=hZt.o.eq;have h4:=PW.o;unfold aF at h3;split at h3<;>omega
        have Hls:=aA aas;(have ajX:gc≠g:=by omega);(have Ry:w.heap.size<g:=by have:=hOt.o.lo;have:=hw0.o;omega);clear hM SB aas YA;go_loopw [12,49] (fun _ v49 wz=>∃(k:Nat) (Ek:List bA),k<=me∧v49=.int .i64 k∧Hid (uV wz w0.heap.size g Ek)∧Hid (Ek.length=me)∧Hid (∀x∈Ek,bW x.2.1.1 x.2.1.2 (aF x.2.1.1 x.2.1.2))∧Hid (∀i (h:i<Ek.length),k<=i->(Ek[i]).2.1.2.length<=Ca+1)∧Hid (Ek.map (fun x=>bp x.2)=(M.take k).map (fun t=>(t.1,t.2 / cz))++M.drop k)∧Hid (Only (fun j=>j=g) wt wz)) (fun _ v49 _=>me-(intOf v49).toNat)
        case atStart=>exact ⟨0,E,by omega,rfl,hOt,SI,aaK,aaO,hval,Only.refl _ _⟩
        case round=>
         clear hOt SI aaK aaO hval;obtain ⟨k,Ek,hk,rfl,IQ,XW,Mk,hbk,Z7,SH⟩:=hrel;have hDr:=hDt.o.keep (SH.o.block gc hDt.o.lt ajX);have hLr:=aA (xP hLt.o SH.o (fun h0 y hy hg=>by have h5:=hFt.o h0 y hy;have h6:y.block=g:=hg;omega));have HDr:=aA hDr;have d0:=hDr.cell0;have d1:=hDr.cell1;by_cases hlt:k<me
         . have dI:(k:Int)<(me:Int):=by omega
           (have wP:(0:Int)<=(k:Int):=by omega);(have rL:k<Ek.length:=by rw [XW.o];exact hlt);(have hkM:k<M.length:=by rw [hlP.o];exact hlt);obtain ⟨e2,e3,e4,f0,f1,f2⟩:=IQ.o.cells k rL;obtain ⟨k1,k2,k3,k4,k5,k6⟩:=IQ.o.ok _ (bw rL);have Ks:=hbk.o k rL aK;have hxv:bp (Ek[k]).2=M[k]:=by
            (have h3:(Ek.map (fun x=>bp x.2))[k]? =some (bp (Ek[k]).2):=by simp [rL]);rw [Z7.o,CK (by rw [dW,cS];omega),dW,cS,pF (by omega),pT,acf,je,xo hkM] at h3;injection h3 with h3
            exact h3.symm
           have PR:M[k]∈M:=bw hkM;(have PV:(M[k]).2 % cz=0:=by rw [<- HCZ.o];exact yR PR);have aaj:Hid (∀(s1:Bool) (A1:Option Addr) (c1:Nat) (l1:List Int),bW s1 l1 ((M[k]).2 / cz)->(∀x∈Ek.set k (zK (Ek[k]) s1 A1 c1 l1),bW x.2.1.1 x.2.1.2 (aF x.2.1.1 x.2.1.2))∧(∀i (h:i<(Ek.set k (zK (Ek[k]) s1 A1 c1 l1)).length),k+1<=i->((Ek.set k (zK (Ek[k]) s1 A1 c1 l1))[i]).2.1.2.length<=Ca+1)∧(Ek.set k (zK (Ek[k]) s1 A1 c1 l1)).map (fun x=>bp x.2)=(M.take (k+1)).map (fun t=>(t.1,t.2 / cz))++M.drop (k+1)∧(Ek.set k (zK (Ek[k]) s1 A1 c1 l1)).length=me):=fun s1 A1 c1 l1 hz=>by
            refine ⟨fun x hx=> ?_,fun i hi hki=> ?_,?_,by rw [gH];exact XW.o⟩
            . rcases rK hx with h4 | h4
              . exact Mk.o x h4
              . subst h4
                show bW s1 l1 (aF s1 l1);rw [hz.eq];exact hz
            . rw [gH] at hi
              rw [Td (by omega)];exact hbk.o i hi (by omega)
            . rw [JE,Z7.o,<- J7 _ M hkM]
              congr 1
              show (bp ((s1,l1),(Ek[k]).2.2))=((M[k]).1,(M[k]).2 / cz);rw [<- hxv];show ((Ek[k]).2.2,aF s1 l1)=((Ek[k]).2.2,(bp (Ek[k]).2).2 / cz);rw [hxv,hz.eq]
           have hpt:Hid (∀(W:World) (s1:Bool) (A1:Option Addr) (c1:Nat) (l1:List Int),uV W w0.heap.size g Ek->aD W A1 l1.length l1->l1.length<=c1->c1<=9223372036854775807->(0<l1.length->∀y,A1=some y->y.block≠g)->uV ((W.setCell ⟨g,3*k,none⟩ (.bool s1)).setCell ⟨g,3*k+1,none⟩ (.slice A1 l1.length c1)) w0.heap.size g (Ek.set k (zK (Ek[k]) s1 A1 c1 l1))):=fun W s1 A1 c1 l1 h1 h2 h3 h4 h5=>h1.put rL h2 h3 h4 h5;have hzx:aF (Ek[k]).2.1.1 (Ek[k]).2.1.2=(M[k]).2:=fN Prod.snd hxv;rw [aq 3 k] at e2 e3 e4 f0 f1 f2;have ajh:=Ks;clear Ks PR hxv;generalize akG:Ek[k]=x at*
           obtain ⟨⟨⟨Ax,cx⟩,⟨Ex,dx⟩⟩,⟨⟨sx,xs⟩,ps⟩⟩:=x;simp only at e2 e3 e4 k1 k2 k3 k4 k5 k6 ajh hzx;have hls:ls.length=kc:=hLt.o.len;have Ce:=aA (fun W (h:Below wr.heap.size wr W)=>LO sx s Ax Ac xs.length kc cx cc xs ls W (k5.aB h) (hLr.o.aB h) k1 k2 q1 q2 (by omega) (by omega) Hls.o);rw [hzx,hZt.o.eq] at Ce;have alR:=aA PV;have sY:Hid (∀W,Below wr.heap.size wr W->W.cell? ⟨g,k*3,none⟩=some (.bool sx)∧W.cell? ⟨g,k*3+1,none⟩=some (.slice Ax xs.length cx)∧W.cell? ⟨gc,0,none⟩=some (.bool s)∧W.cell? ⟨gc,1,none⟩=some (.slice Ac kc cc)):=fun W hW=>
            ⟨(hW.cell (p:=⟨g,k*3,none⟩) IQ.o.lt).trans e2,(hW.cell (p:=⟨g,k*3+1,none⟩) IQ.o.lt).trans e3,(hW.cell (p:=⟨gc,0,none⟩) HDr.o.lt).trans d0,(hW.cell (p:=⟨gc,1,none⟩) HDr.o.lt).trans d1⟩
           clear k5 k6 PV hzx akG hDr;(go_wp2_with fail);go_region_with
            (first | (go_at_call 42;refine (Ce.o _ (by first | exact aW.drew | exact aW)).mono ?_;rintro e we ⟨s1,Xz,k1',u9,l1,rfl,z1,z2,z3,z4,z5,z6,zU⟩;have qw:Below wr.heap.size wr we:=(by first | exact aW.drew.trans zU | exact zU);have fe0:=(qw.frozen (p:=⟨g,k*3,none⟩) IQ.o.lt).trans f0;have fe1:=(qw.frozen (p:=⟨g,k*3+1,none⟩) IQ.o.lt).trans f1;obtain ⟨ce0,ce1,_,_⟩:=sY.o _ qw))
           all_goals
            obtain rfl:=z4.len;have hfr:0<l1.length->∀y,Xz=some y->y.block≠g:=fun h0 y hy=>by
             have h5:wr.heap.size<=y.block:=z6 h0 y hy;have:=IQ.o.lt;omega
            have hO9:=hpt.o we s1 Xz u9 l1 (IQ.o.aB qw) z4 z2 z3 hfr;rw [aq 3 k] at hO9;have HO9:=aA hO9;obtain ⟨p1,p4,p2,p3⟩:=aaj.o s1 Xz u9 l1 (z5 alR.o);have P4:=aA p4;have P1:=aA p1;have P2:=aA p2;have P3:=aA p3;have UC:Hid (Only (fun j=>j=g) wt ((we.setCell ⟨g,k*3,none⟩ (.bool s1)).setCell ⟨g,k*3+1,none⟩ (.slice Xz l1.length u9))):=((SH.o.trans (jF qw)).setCell (p:=⟨g,k*3,none⟩) rfl _).setCell (p:=⟨g,k*3+1,none⟩) rfl _;clear hO9 p1 p2 p3 p4 hfr hpt aaj z4 z5 z6 qw zU sY Ce ce0 ce1 fe0 fe1 d0 d1 hLr HDr IQ SH Mk hbk Z7 XW;generalize Ek.set k (zK (((Ax,cx),Ex,dx),(sx,xs),ps) s1 Xz u9 l1)=Eq at*
            generalize (we.setCell ⟨g,k*3,none⟩ (.bool s1)).setCell ⟨g,k*3+1,none⟩ (.slice Xz l1.length u9)=wq at*
            (go_wp2_with fail);go_roundw
            case rel=>exact ⟨k+1,Eq,by omega,by go_num,HO9,P3,P1,P4,P2,UC⟩
            case measure=>simp [intOf];omega
         . obtain rfl:me=k:=by omega
           (have dI:¬(me:Int)<(me:Int):=by omega);have Kw:=(HD2.o.aB hBt.o).keep (SH.o.block w.heap.size (HD2.o.aB hBt.o).lt (fun e=>by have e':w.heap.size=g:=e;omega));have y0:=Kw.cell0;have y1:=Kw.cell1;have yf0:=Kw.frozen 0;have yf1:=Kw.frozen 1;have HDw:=aA Kw;have Hbw:Hid (Below w.heap.size w wr):=(GI.o.tm hBt.o).trans (SH.o.below (by have:=GI.o.size;have:=hBt.o.size;omega) (fun j hj=>by have e':j=g:=hj;omega));have hTv:Hid (aU (Ek.map (·.2))=QY M):=by
            show _=_;have h3:=Z7.o;rw [gZ (by rw [hlP.o];exact aK),CP (by rw [hlP.o];exact aK),tH] at h3;unfold QY aU;rw [jw,HCZ.o];exact h3
           have hPE:Hid (eP n (Ek.map (·.2))):=⟨by rw [hTv.o];refine KG ?_ (by rw [HCZ.o];exact PW.o);rw [<- HM.o];exact HP.o.mv,fun t ht=>by
            obtain ⟨x,hx,rfl⟩:=aj.1 ht;exact Mk.o x hx⟩
           have F:Hid (∀W (hl:aD W Ac kc ls) (hO:uV W w0.heap.size g Ek) (hb:Below w.heap.size w W),yZ w n (aU L) (.returned (.tuple #[.agg #[.bool s,.slice Ac kc cc],.slice (some ⟨g,0,none⟩) me c1,.int .i64 0])) W):=fun W hl hO hb=>by
            have h3:=hO.trs;(have h4:me=(Ek.map (·.2)).length:=by rw [dW];exact XW.o.symm);rw [XW.o] at h3;have h5:me<=c1:=h1;rw [h4] at h3 h5 ⊢;exact ⟨s,Ac,kc,cc,ls,some ⟨g,0,none⟩,c1,Ek.map (·.2),E.map (·.2),rfl,q1,q2,hl,HP.o,HE.o,by rw [HM.o,HCZ.o];exact hZt.o,h5,h2,h3,hPE.o,by rw [HM.o];exact hTv.o,hb⟩
           have HOk:=aA (IQ.o.Qg HDw.o (fun e=>by omega) (.bool s) (.slice Ac kc cc));clear Kw Z7 Mk SH IQ;(go_wp2_with fail);refine ax (oO (fn:=Tryz.f23) rfl _ _ _ _ _ _ _ rfl (HDw.o.set (.bool s) (.slice Ac kc cc)) underlying41 rfl aT) rfl ?_;exact F.o _ (HDw.o.limbs _ _ rfl rfl hLr.o) HOk.o ((Hbw.o.setCell (p:=⟨w.heap.size,0,none⟩) aK _).setCell (p:=⟨w.heap.size,1,none⟩) aK _)
      . have e0':Hid (wr.cell? ⟨g,0,none⟩=some (.bool false)):=by show _=_;rw [e0,zC PO]
        have e1:=e0'.o;(have hZt:Hid (bW s ls (zB (aU (E.map (·.2))))):=by show bW _ _ _;rw [YA.o,af PO];exact hZ.o);have hDt:=aA hD.o;have hLt:=aA hLc.o;have hFt:=aA hF'.o;have hBt:=aA Ky.o;clear PO e0 hZ hD hLc hF' Ky hB;(go_wp2_with fail);obtain ⟨wt,rfl⟩:∃wt:World,wt=wr:=⟨_,rfl⟩;have hOt:=aA (hOg.aB hBt.o);have SI:Hid (E.length=me):=Hme.o;have aaK:Hid (∀x∈E,bW x.2.1.1 x.2.1.2 (aF x.2.1.1 x.2.1.2)):=fun x hx=>by
         have h1:=HP.o.co x.2 (aj.2 ⟨x,hx,rfl⟩);rw [h1.eq];exact h1
        have aaO:Hid (∀i (h:i<E.length),0<=i->(E[i]).2.1.2.length<=Ca+1):=fun i h _=>Kt.o (E[i]).2 (aj.2 ⟨_,bw h,rfl⟩);(have hlP:Hid ((aU (E.map (·.2))).length=me):=by show _=_;rw [bE,dW];exact Hme.o);obtain ⟨M,hM⟩:∃M,aU (E.map (·.2))=M:=⟨_,rfl⟩;have HM:=aA hM;rw [hM] at hZt PW hlP;obtain ⟨cz,SB⟩:∃z,zB M=z:=⟨_,rfl⟩;have HCZ:=aA SB;rw [SB] at hZt PW;have hval:Hid (E.map (fun x=>bp x.2)=(M.take 0).map (fun t=>(t.1,t.2 / cz))++M.drop 0):=by
         show _=_;rw [Ea,QE,<- hM];show _=aU (E.map (·.2));unfold aU;rw [jw];rfl
        have aas:0<limbs ls:=by
         have h3:=hZt.o.eq;have h4:=PW.o;unfold aF at h3;split at h3<;>omega
        have Hls:=aA aas;(have ajX:gc≠g:=by omega);(have Ry:w.heap.size<g:=by have:=hOt.o.lo;have:=hw0.o;omega);clear hM SB aas YA;go_loopw [12,49] (fun _ v49 wz=>∃(k:Nat) (Ek:List bA),k<=me∧v49=.int .i64 k∧Hid (uV wz w0.heap.size g Ek)∧Hid (Ek.length=me)∧Hid (∀x∈Ek,bW x.2.1.1 x.2.1.2 (aF x.2.1.1 x.2.1.2))∧Hid (∀i (h:i<Ek.length),k<=i->(Ek[i]).2.1.2.length<=Ca+1)∧Hid (Ek.map (fun x=>bp x.2)=(M.take k).map (fun t=>(t.1,t.2 / cz))++M.drop k)∧Hid (Only (fun j=>j=g) wt wz)) (fun _ v49 _=>me-(intOf v49).toNat)
        case atStart=>exact ⟨0,E,by omega,rfl,hOt,SI,aaK,aaO,hval,Only.refl _ _⟩
        case round=>
         clear hOt SI aaK aaO hval;obtain ⟨k,Ek,hk,rfl,IQ,XW,Mk,hbk,Z7,SH⟩:=hrel;have hDr:=hDt.o.keep (SH.o.block gc hDt.o.lt ajX);have hLr:=aA (xP hLt.o SH.o (fun h0 y hy hg=>by have h5:=hFt.o h0 y hy;have h6:y.block=g:=hg;omega));have HDr:=aA hDr;have d0:=hDr.cell0;have d1:=hDr.cell1;by_cases hlt:k<me
         . have dI:(k:Int)<(me:Int):=by omega
           (have wP:(0:Int)<=(k:Int):=by omega);(have rL:k<Ek.length:=by rw [XW.o];exact hlt);(have hkM:k<M.length:=by rw [hlP.o];exact hlt);obtain ⟨e2,e3,e4,f0,f1,f2⟩:=IQ.o.cells k rL;obtain ⟨k1,k2,k3,k4,k5,k6⟩:=IQ.o.ok _ (bw rL);have Ks:=hbk.o k rL aK;have hxv:bp (Ek[k]).2=M[k]:=by
            (have h3:(Ek.map (fun x=>bp x.2))[k]? =some (bp (Ek[k]).2):=by simp [rL]);rw [Z7.o,CK (by rw [dW,cS];omega),dW,cS,pF (by omega),pT,acf,je,xo hkM] at h3;injection h3 with h3
            exact h3.symm
           have PR:M[k]∈M:=bw hkM;(have PV:(M[k]).2 % cz=0:=by rw [<- HCZ.o];exact yR PR);have aaj:Hid (∀(s1:Bool) (A1:Option Addr) (c1:Nat) (l1:List Int),bW s1 l1 ((M[k]).2 / cz)->(∀x∈Ek.set k (zK (Ek[k]) s1 A1 c1 l1),bW x.2.1.1 x.2.1.2 (aF x.2.1.1 x.2.1.2))∧(∀i (h:i<(Ek.set k (zK (Ek[k]) s1 A1 c1 l1)).length),k+1<=i->((Ek.set k (zK (Ek[k]) s1 A1 c1 l1))[i]).2.1.2.length<=Ca+1)∧(Ek.set k (zK (Ek[k]) s1 A1 c1 l1)).map (fun x=>bp x.2)=(M.take (k+1)).map (fun t=>(t.1,t.2 / cz))++M.drop (k+1)∧(Ek.set k (zK (Ek[k]) s1 A1 c1 l1)).length=me):=fun s1 A1 c1 l1 hz=>by
            refine ⟨fun x hx=> ?_,fun i hi hki=> ?_,?_,by rw [gH];exact XW.o⟩
            . rcases rK hx with h4 | h4
              . exact Mk.o x h4
              . subst h4
                show bW s1 l1 (aF s1 l1);rw [hz.eq];exact hz
            . rw [gH] at hi
              rw [Td (by omega)];exact hbk.o i hi (by omega)
            . rw [JE,Z7.o,<- J7 _ M hkM]
              congr 1
              show (bp ((s1,l1),(Ek[k]).2.2))=((M[k]).1,(M[k]).2 / cz);rw [<- hxv];show ((Ek[k]).2.2,aF s1 l1)=((Ek[k]).2.2,(bp (Ek[k]).2).2 / cz);rw [hxv,hz.eq]
           have hpt:Hid (∀(W:World) (s1:Bool) (A1:Option Addr) (c1:Nat) (l1:List Int),uV W w0.heap.size g Ek->aD W A1 l1.length l1->l1.length<=c1->c1<=9223372036854775807->(0<l1.length->∀y,A1=some y->y.block≠g)->uV ((W.setCell ⟨g,3*k,none⟩ (.bool s1)).setCell ⟨g,3*k+1,none⟩ (.slice A1 l1.length c1)) w0.heap.size g (Ek.set k (zK (Ek[k]) s1 A1 c1 l1))):=fun W s1 A1 c1 l1 h1 h2 h3 h4 h5=>h1.put rL h2 h3 h4 h5;have hzx:aF (Ek[k]).2.1.1 (Ek[k]).2.1.2=(M[k]).2:=fN Prod.snd hxv;rw [aq 3 k] at e2 e3 e4 f0 f1 f2;have ajh:=Ks;clear Ks PR hxv;generalize akG:Ek[k]=x at*
           obtain ⟨⟨⟨Ax,cx⟩,⟨Ex,dx⟩⟩,⟨⟨sx,xs⟩,ps⟩⟩:=x;simp only at e2 e3 e4 k1 k2 k3 k4 k5 k6 ajh hzx;have hls:ls.length=kc:=hLt.o.len;have Ce:=aA (fun W (h:Below wr.heap.size wr W)=>LO sx s Ax Ac xs.length kc cx cc xs ls W (k5.aB h) (hLr.o.aB h) k1 k2 q1 q2 (by omega) (by omega) Hls.o);rw [hzx,hZt.o.eq] at Ce;have alR:=aA PV;have sY:Hid (∀W,Below wr.heap.size wr W->W.cell? ⟨g,k*3,none⟩=some (.bool sx)∧W.cell? ⟨g,k*3+1,none⟩=some (.slice Ax xs.length cx)∧W.cell? ⟨gc,0,none⟩=some (.bool s)∧W.cell? ⟨gc,1,none⟩=some (.slice Ac kc cc)):=fun W hW=>
            ⟨(hW.cell (p:=⟨g,k*3,none⟩) IQ.o.lt).trans e2,(hW.cell (p:=⟨g,k*3+1,none⟩) IQ.o.lt).trans e3,(hW.cell (p:=⟨gc,0,none⟩) HDr.o.lt).trans d0,(hW.cell (p:=⟨gc,1,none⟩) HDr.o.lt).trans d1⟩
           clear k5 k6 PV hzx akG hDr;(go_wp2_with fail);go_region_with
            (first | (go_at_call 42;refine (Ce.o _ (by first | exact aW.drew | exact aW)).mono ?_;rintro e we ⟨s1,Xz,k1',u9,l1,rfl,z1,z2,z3,z4,z5,z6,zU⟩;have qw:Below wr.heap.size wr we:=(by first | exact aW.drew.trans zU | exact zU);have fe0:=(qw.frozen (p:=⟨g,k*3,none⟩) IQ.o.lt).trans f0;have fe1:=(qw.frozen (p:=⟨g,k*3+1,none⟩) IQ.o.lt).trans f1;obtain ⟨ce0,ce1,_,_⟩:=sY.o _ qw))
           all_goals
            obtain rfl:=z4.len;have hfr:0<l1.length->∀y,Xz=some y->y.block≠g:=fun h0 y hy=>by
             have h5:wr.heap.size<=y.block:=z6 h0 y hy;have:=IQ.o.lt;omega
            have hO9:=hpt.o we s1 Xz u9 l1 (IQ.o.aB qw) z4 z2 z3 hfr;rw [aq 3 k] at hO9;have HO9:=aA hO9;obtain ⟨p1,p4,p2,p3⟩:=aaj.o s1 Xz u9 l1 (z5 alR.o);have P4:=aA p4;have P1:=aA p1;have P2:=aA p2;have P3:=aA p3;have UC:Hid (Only (fun j=>j=g) wt ((we.setCell ⟨g,k*3,none⟩ (.bool s1)).setCell ⟨g,k*3+1,none⟩ (.slice Xz l1.length u9))):=((SH.o.trans (jF qw)).setCell (p:=⟨g,k*3,none⟩) rfl _).setCell (p:=⟨g,k*3+1,none⟩) rfl _;clear hO9 p1 p2 p3 p4 hfr hpt aaj z4 z5 z6 qw zU sY Ce ce0 ce1 fe0 fe1 d0 d1 hLr HDr IQ SH Mk hbk Z7 XW;generalize Ek.set k (zK (((Ax,cx),Ex,dx),(sx,xs),ps) s1 Xz u9 l1)=Eq at*
            generalize (we.setCell ⟨g,k*3,none⟩ (.bool s1)).setCell ⟨g,k*3+1,none⟩ (.slice Xz l1.length u9)=wq at*
            (go_wp2_with fail);go_roundw
            case rel=>exact ⟨k+1,Eq,by omega,by go_num,HO9,P3,P1,P4,P2,UC⟩
            case measure=>simp [intOf];omega
         . obtain rfl:me=k:=by omega
           (have dI:¬(me:Int)<(me:Int):=by omega);have Kw:=(HD2.o.aB hBt.o).keep (SH.o.block w.heap.size (HD2.o.aB hBt.o).lt (fun e=>by have e':w.heap.size=g:=e;omega));have y0:=Kw.cell0;have y1:=Kw.cell1;have yf0:=Kw.frozen 0;have yf1:=Kw.frozen 1;have HDw:=aA Kw;have Hbw:Hid (Below w.heap.size w wr):=(GI.o.tm hBt.o).trans (SH.o.below (by have:=GI.o.size;have:=hBt.o.size;omega) (fun j hj=>by have e':j=g:=hj;omega));have hTv:Hid (aU (Ek.map (·.2))=QY M):=by
            show _=_;have h3:=Z7.o;rw [gZ (by rw [hlP.o];exact aK),CP (by rw [hlP.o];exact aK),tH] at h3;unfold QY aU;rw [jw,HCZ.o];exact h3
           have hPE:Hid (eP n (Ek.map (·.2))):=⟨by rw [hTv.o];refine KG ?_ (by rw [HCZ.o];exact PW.o);rw [<- HM.o];exact HP.o.mv,fun t ht=>by
            obtain ⟨x,hx,rfl⟩:=aj.1 ht;exact Mk.o x hx⟩
           have F:Hid (∀W (hl:aD W Ac kc ls) (hO:uV W w0.heap.size g Ek) (hb:Below w.heap.size w W),yZ w n (aU L) (.returned (.tuple #[.agg #[.bool s,.slice Ac kc cc],.slice (some ⟨g,0,none⟩) me c1,.int .i64 0])) W):=fun W hl hO hb=>by
            have h3:=hO.trs;(have h4:me=(Ek.map (·.2)).length:=by rw [dW];exact XW.o.symm);rw [XW.o] at h3;have h5:me<=c1:=h1;rw [h4] at h3 h5 ⊢;exact ⟨s,Ac,kc,cc,ls,some ⟨g,0,none⟩,c1,Ek.map (·.2),E.map (·.2),rfl,q1,q2,hl,HP.o,HE.o,by rw [HM.o,HCZ.o];exact hZt.o,h5,h2,h3,hPE.o,by rw [HM.o];exact hTv.o,hb⟩
           have HOk:=aA (IQ.o.Qg HDw.o (fun e=>by omega) (.bool s) (.slice Ac kc cc));clear Kw Z7 Mk SH IQ;(go_wp2_with fail);refine ax (oO (fn:=Tryz.f23) rfl _ _ _ _ _ _ _ rfl (HDw.o.set (.bool s) (.slice Ac kc cc)) underlying41 rfl aT) rfl ?_;exact F.o _ (HDw.o.limbs _ _ rfl rfl hLr.o) HOk.o ((Hbw.o.setCell (p:=⟨w.heap.size,0,none⟩) aK _).setCell (p:=⟨w.heap.size,1,none⟩) aK _)
