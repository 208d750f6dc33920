import Derived.Test.YtehcoffbiplphaaGreatHDvC
import Derived.Test.YtehcoffbiplphaaGreatHTj
set_option linter.all false
set_option maxHeartbeats 8000000
set_option maxRecDepth 100000
namespace Go.Proofs.YtehcoffbiplphaaGreat
open Go.Proofs.Tryz
open Go.RowKit aF
variable {w:World} {A:Option Addr} {m C k n base g c:Nat} {xs:List Int} {s:Bool} {u v:Value}
def vK {L:List TV}(h:iI w A m L):∀t∈L,aQ t.1.2:=fun t ht=>by
 obtain ⟨i,hi,rfl⟩:=uR.1 ht;obtain ⟨b,o,_,_,hc⟩:=h.at_ (by have:=h.len;omega);obtain ⟨Ai,ci,Ei,ei,_,_,_,_,_,_,_,h8,_⟩:=hc i hi;exact h8.ok
def LJ (s:Bool) (h:aQ xs) (hC:xs.length<=C):(aI s xs).natAbs<2^(64*C):=by
 have h1:=dc h;have h2:2^(64*xs.length)<=2^(64*C):=fP (by omega) (by omega);have h3:(aI s xs).natAbs=limbs xs:=by
  unfold aI;cases s<;>simp
 omega
def Qt {L:List TV}(hl:∀t∈L,t.1.2.length<=C) (hi:∀t∈L,aQ t.1.2) (hk:L.length<=4096):bJ (aP L)<2^(64*(C+1)):=by
 have h1:bJ (aP L)<=(aP L).length*2^(64*C):=DJ fun t ht=>by
  obtain ⟨s,hs,rfl⟩:=af.1 ht;exact oy (LJ s.1.1 (hi s hs) (hl s hs))
 rw [au] at h1;have h2:L.length*2^(64*C)<=18446744073709551615*2^(64*C):=bG _ (by omega);have h3:=lJ (64*C);rw [ak,iD,bl];have h4:(2:Nat)^64=18446744073709551616:=by decide
 rw [h4,aq (2^(64*C))];omega
def MO (L:Mv) (k:Nat):(eM (fun t:mH=>t.2) (L.take k)).natAbs<=bJ L:=by
 refine aG (Gx _ _) ?_;have h:bJ (L.take k)<=bJ L:=by
  have e:=qu (L.take k) (L.drop k);rw [DR] at e;omega
 exact h
def XB {L:List TV} (hk:k<L.length):eM (fun t:mH=>t.2) ((aP L).take (k+1))=eM (fun t:mH=>t.2) ((aP L).take k)+aI (L[k]).1.1 (L[k]).1.2:=by
 have e:(aP L).take (k+1)=(aP L).take k++[bS L[k]]:=by
  unfold aP;rw [<- JQ,<- JQ,kG hk,ij];rfl
 rw [e,qN];congr 1
 show aI _ _+0=_;exact AP _
def Jk (T:TypeId) (w:World) (g:Nat) (a b c:Value):Prop:=w.heap[g]? =some (.cells #[a,b,c] T (0,0))
section
variable {T : TypeId} {w w' : World} {g : Nat} {a b c : Value}
section
variable (h:Jk T w g a b c)
include h
theorem Jk.lt:g<w.heap.size:=(jm.1 h).1
theorem Jk.cell0:w.cell? ⟨g,0,none⟩=some a:=by rw [dQ w g 0 _ _ (0,0) h];rfl
theorem Jk.cell1:w.cell? ⟨g,1,none⟩=some b:=by rw [dQ w g 1 _ _ (0,0) h];rfl
theorem Jk.aN:w.cell? ⟨g,2,none⟩=some c:=by rw [dQ w g 2 _ _ (0,0) h];rfl
theorem Jk.keep (hk:w'.heap[g]? =w.heap[g]?):Jk T w' g a b c:=hk.trans h
theorem Jk.aC (hb:Below w.heap.size w w'):Jk T w' g a b c:=h.keep (hb.block g h.lt)
end
def Jk.new (T:TypeId) (w:World) (a b c:Value):Jk T (w.alloc (.cells #[a,b,c] T)) w.heap.size a b c:=bM w _
def Jk.aoJ (h:Jk T w g a b c) (x y:Value):Jk T ((w.setCell ⟨g,0,none⟩ x).setCell ⟨g,1,none⟩ y) g x y c:=by
 unfold Jk at h ⊢;simp [World.setCell,wR,h]
end
def Nw (m C:Nat):Prop:=∀(n i:Nat) (A:Option Addr) (k c:Nat) (L:List TV) (w:World),n=i+m->n<=6->iI w A k L->Arg n C L->k<=c->c<=9223372036854775807->aB 28 #[.int .i64 (n:Int),.int .i64 (i:Int),.slice A k c] w (bW (fun _=>False) w m (jB m i (aP L)))
def afA (C:Nat) (hC:C<=1000000):Nw 0 C:=by
 intro n i A m c L w hni hn hx hL hmc hc;obtain rfl:n=i:=by omega
 clear hni;have tj:=hL.cnt;have Ys:=hx.len;have hm:m<=4096:=by omega
 have Hx:=aA hx;have HL:=aA hL;have EZ:=aA (Qt hL.co (vK hx) tj);have t0:=(aX.new w (.bool false) (.slice none 0 0) (.slice none 0 0)).aC (aU.alloc aL (.cells #[.bool false,.slice none 0 0,.slice none 0 0] 51));have t1:=aX.new (w.alloc (.cells #[.bool false,.slice none 0 0,.slice none 0 0] 51)) (.bool false) (.slice none 0 0) (.slice none 0 0);rw [aJ] at t1;have hb:Below w.heap.size w ((w.alloc (.cells #[.bool false,.slice none 0 0,.slice none 0 0] 51)).alloc (.cells #[.bool false,.slice none 0 0,.slice none 0 0] 51)):=(aU.alloc aL _).alloc (by simp) _;clear hx hL;go_enter func28,ntmps28
 go_wp2_with fail
 generalize je:(w.alloc (.cells #[.bool false,.slice none 0 0,.slice none 0 0] 51)).alloc (.cells #[.bool false,.slice none 0 0,.slice none 0 0] 51)=wt at*
 clear je;have T0:=aA t0;have T1:=aA t1;have HB:=aA hb;clear t0 t1 hb;go_loopw [21] (fun kk wr=>∃(k:Nat) (s:Bool) (B:Option Addr) (q d:Nat) (ls:List Int),k<=m∧kk=.int .i64 (k:Int)∧q<=d∧d<=9223372036854775807∧q<=C+1∧Hid (aX wr w.heap.size (.bool false) (.slice none 0 0) (.slice none 0 0))∧Hid (aX wr (w.heap.size+1) (.bool s) (.slice B q d) (.slice none 0 0))∧Hid (aD wr B q ls)∧Hid (dN s ls (eM (fun t=>t.2) ((aP L).take k)))∧Hid (0<q->∀y,B=some y->w.heap.size+1<y.block)∧Hid (Below w.heap.size w wr)) (fun kk _=>m-(intOf kk).toNat)
 case atStart=>
  obtain ⟨s,A',k',c',ls,h1,h2,h3,h4,h5,h6⟩:=aO.nought (fun _=>False) wt 0;injection h1 with h1
  exact ⟨0,false,none,0,0,[],bL _,rfl,aL,by omega,by omega,T0,T1,⟨rfl,fun h=>absurd h (by omega),fun i=>by show 0<=nth [] i∧nth [] i<18446744073709551616;rw [bw (by simp)];omega⟩,⟨⟨fun i=>by show 0<=nth [] i∧nth [] i<18446744073709551616;rw [bw (by simp)];omega,fun h=>absurd h (by simp)⟩,rfl,fun h=>by cases h⟩,fun h=>absurd h (by omega),HB⟩
 case round=>
  clear T0 T1 HB;obtain ⟨k,s,B,q,d,ls,hk,rfl,hqd,hd,hqC,h0,h1,hl,hz,hne,uN⟩:=hrel;obtain ⟨wp,rfl⟩:∃wp:World,wp=wr:=⟨_,rfl⟩;have p0:=h1.o.cell0;have p1:=h1.o.cell1;have p2:=h1.o.aN;have f0:=h1.o.frozen 0;have f1:=h1.o.frozen 1;have KJ:=h1.o.lt;by_cases hlt:k<m
  . obtain ⟨b,o,rfl,I4,hcc⟩:=Hx.o.at_ (by omega)
    (have th:k<L.length:=by omega);obtain ⟨Ai,ci,Ei,ei,e1,e2,e3,e4,e5,e6,e7,e8,e9⟩:=hcc k th;have Ju:=HL.o.co _ (bR th);(have dH:(k:Int)<(m:Int):=by omega);(have wT:(0:Int)<=(k:Int):=by omega);have hsz:=uN.o.size;rw [aq 3 k] at e1 e2 e3;rw [<- jb] at e2 e3;have g1:=(uN.o.cell (p:=⟨b,o+k*3,none⟩) I4).trans e1;have g2:=(uN.o.cell (p:=⟨b,o+k*3+1,none⟩) I4).trans e2;have g3:=(uN.o.cell (p:=⟨b,o+k*3+2,none⟩) I4).trans e3;have CD:Hid (eM (fun t:mH=>t.2) ((aP L).take (k+1))=eM (fun t:mH=>t.2) ((aP L).take k)+aI (L[k]).1.1 (L[k]).1.2):=XB th;have E8:=aA (e8.aC uN.o);clear e1 e2 e3 e8 e9 hcc;generalize L[k]=x at*
    obtain ⟨⟨sx,xs⟩,ps⟩:=x;simp only at g1 g2 g3 e4 e5 e6 e7 E8 Ju CD;have bT:Below wp.heap.size wp (wp.alloc (.cells #[.bool sx,.slice Ai xs.length ci,.slice Ei ps.length ei] 44)):=aU.alloc aL _;have p0':=(h1.o.aC bT).cell0;have p1':=(h1.o.aC bT).cell1;have tb:=Jk.new 44 wp (.bool sx) (.slice Ai xs.length ci) (.slice Ei ps.length ei);have b0:=tb.cell0;have b1:=tb.cell1;have BT:=aA bT;have Ca:=aA (ZK s sx B Ai q xs.length d ci ls xs _ (hl.o.aC bT) (E8.o.aC bT) hqd hd e4 e5 (by omega) (by omega));have Hl0:=aA hl.o.len;clear tb bT;(go_wp2_with fail);refine Ca.o.mono ?_;rintro e w1 ⟨s1,A1,k1,c1,l1,rfl,z1,z2,z3,z4,z5,z6,z7⟩;have cZ:Below wp.heap.size wp w1:=BT.o.tm z7;have T1:=h1.o.aC cZ;have T0:=h0.o.aC cZ;have q0:=T1.cell0;have q1:=T1.cell1;have q3:=T1.frozen 0;have q4:=T1.frozen 1;have q5:=T1.lt;have X6:Hid (dN s1 l1 (eM (fun t=>t.2) ((aP L).take (k+1)))):=by
     show dN _ _ _;rw [CD.o];rw [<- hz.o.eq];exact z5
    have S1:k1<=C+1:=by
     have h5:=X6.o.cap (K:=C+1) (aR (MO _ _) EZ.o);have h6:=z4.len;omega
    have qp:Hid (Below w.heap.size w w1):=uN.o.tm cZ;have T1':=aA ((show Jk 51 w1 (w.heap.size+1) _ _ _ from T1).aoJ (.bool s1) (.slice A1 k1 c1));have T0':=aA ((T0.far (p:=⟨w.heap.size+1,0,none⟩) (by show w.heap.size≠w.heap.size+1;omega) (.bool s1)).far (p:=⟨w.heap.size+1,1,none⟩) (by show w.heap.size≠w.heap.size+1;omega) (.slice A1 k1 c1));have azo:Hid (Below w.heap.size w ((w1.setCell ⟨w.heap.size+1,0,none⟩ (.bool s1)).setCell ⟨w.heap.size+1,1,none⟩ (.slice A1 k1 c1))):=(qp.o.setCell (p:=⟨w.heap.size+1,0,none⟩) (by show _<=w.heap.size+1;omega) _).setCell (p:=⟨w.heap.size+1,1,none⟩) (by show _<=w.heap.size+1;omega) _;have on1:Only (fun b=>b=w.heap.size+1) w1 ((w1.setCell ⟨w.heap.size+1,0,none⟩ (.bool s1)).setCell ⟨w.heap.size+1,1,none⟩ (.slice A1 k1 c1)):=((Only.refl (fun b=>b=w.heap.size+1) w1).setCell (p:=⟨w.heap.size+1,0,none⟩) rfl _).setCell (p:=⟨w.heap.size+1,1,none⟩) rfl _;have aqg:Hid (0<k1->∀y,A1=some y->w.heap.size+1<y.block):=fun h0 y hy=>by
     have h9:=z6 h0 y hy;have h8:=BT.o.size;omega
    have GK:Hid (aD ((w1.setCell ⟨w.heap.size+1,0,none⟩ (.bool s1)).setCell ⟨w.heap.size+1,1,none⟩ (.slice A1 k1 c1)) A1 k1 l1):=lZ z4 on1 fun h0 y hy e=>by
     have:=aqg.o h0 y hy;omega
    clear z4 z5 z6 z7 cZ T1 T0 on1 qp BT Ca E8 CD p0 p1 p2 p0' p1' b0 b1 h0 h1 hl hz hne uN f0 f1 g1 g2 g3 Hl0;(go_wp2_with fail);go_roundw
    case rel=>exact ⟨k+1,s1,A1,k1,c1,l1,by omega,by go_num,z1,z2,S1,T0',T1',GK,X6,aqg,azo⟩
    case measure=>simp [intOf];omega
  . have dH:¬(k:Int)<(m:Int):=by omega
    have eR:(aP L).take k=aP L:=iC (by rw [au];omega);have X6:Hid (dN s ls (eM (fun t=>t.2) (aP L))):=by
     have h9:=hz.o;rw [eR] at h9;exact h9
    have H0:=aA h0.o;have r3:=h0.o.frozen 0;have r4:=h0.o.frozen 1;have r5:=h0.o.frozen 2;have r0:=h0.o.cell0;have r1:=h0.o.cell1;have r2:=h0.o.aN;have on1:=aZ wp w.heap.size (.bool s) (.slice B q d) (.slice none 0 0);have F:Hid (aO (fun b=>False∨w.heap.size<=b) 0 (((wp.setCell ⟨w.heap.size,0,none⟩ (.bool s)).setCell ⟨w.heap.size,1,none⟩ (.slice B q d)).setCell ⟨w.heap.size,2,none⟩ (.slice none 0 0)) (bE s B q d none 0 0) (jB 0 n (aP L))):=
     aO.num hqd hd (lZ hl.o on1 fun h0 y hy e=>by
      have:=hne.o h0 y hy;omega) X6.o fun h0 y hy=> .inr (by
      have:=hne.o h0 y hy;omega)
    have nI:Hid (Below w.heap.size w (((wp.setCell ⟨w.heap.size,0,none⟩ (.bool s)).setCell ⟨w.heap.size,1,none⟩ (.slice B q d)).setCell ⟨w.heap.size,2,none⟩ (.slice none 0 0))):=((uN.o.setCell (p:=⟨w.heap.size,0,none⟩) aL _).setCell (p:=⟨w.heap.size,1,none⟩) aL _).setCell (p:=⟨w.heap.size,2,none⟩) aL _;clear eR X6 h0 h1 hl hz hne uN on1;(go_wp2_with fail);exact bK (v:=.agg #[.bool s,.slice B q d,.slice none 0 0]) (dO (fn:=Tryz.f28) rfl _ _ _ _ _ _ _ rfl (H0.o.set (.bool s) (.slice B q d) (.slice none 0 0)) underlying51 rfl cW) rfl
     ⟨s,B,q,d,none,0,0,rfl,F.o,nI.o⟩
def acJ {Ca:Nat} {L T:List TV}(hx:iI w A m L) (hL:Arg n Ca L) (hp:eH n T) (e:jI n (aP T) (aP L)):∀t∈T,t.1.2.length<=Ca+1:=fun t ht=>by
 have h1:bJ (aP L)<=L.length*2^(64*Ca):=by
  have h4:=DJ (L:=aP L) (B:=2^(64*Ca)) fun t ht=>by
   obtain ⟨u,hu,rfl⟩:=af.1 ht;exact oy (Py u.1.1 (KZ hx u hu) (C:=Ca) (hL.co u hu))
  rwa [au] at h4
 have h2:bJ (aP L)<2^(64*(Ca+1)):=by
  have h3:L.length*2^(64*Ca)<=2^12*2^(64*Ca):=bG _ hL.cnt;rw [<- iD] at h3;have h4:2^(12+64*Ca)<2^(64*(Ca+1)):=oA (by omega) (by omega);omega
 exact Gn (hp.co t ht) (aR (hp.mv.small e (t:=bS t) (af.2 ⟨t,ht,rfl⟩)) h2)
def iX {P:Program} {fn:Func} {p u v:Tmp} {ty:TypeId}(h:fn.results=#[.cell p ty,.tmp u,.tmp v]) (tmps:Array Value) (w:World) (g:Nat) (t:TypeId) (cs:Array Value) (fr:Nat×Nat) (d:TypeDesc)
 (hp:tmps.getD p undef=.pointer (some ⟨g,0,none⟩)) (hg:w.heap[g]? =some (.cells cs t fr))
 (hu:P.underlying ty=some d) (hd:(match d with | .struct _ | .array _ _=>true | _=>false)=true) (hi:(P.info? ty).map (·.size)=some cs.size):
 (results fn tmps).run P w=.ok (.tuple #[.agg cs,tmps.getD u undef,tmps.getD v undef]) w:=by
 have Gb:tmps[p]?.getD undef=.pointer (some ⟨g,0,none⟩):=by simpa using hp
 simp [results,h,Gb,asAddr,JS w g t ty cs fr d hg hu hd hi]
def xU {w':World} {S:Nat->Prop} (h:aD w A n xs) (ho:Only S w w') (hA:0<n->∀y,A=some y->¬S y.block):aD w' A n xs:=
 ⟨h.len,fun hn=>by
   obtain ⟨b,o,e,hb,hc⟩:=h.at_ hn;refine ⟨b,o,e,iE hb ho.size,fun i hi=> ?_⟩;rw [ho.cell (p:=⟨b,o+i,none⟩) hb (hA hn ⟨b,o,none⟩ e)];exact hc i hi,h.ok⟩
def zX (x:ax) (s:Bool) (A:Option Addr) (c:Nat) (ls:List Int):ax:=(((A,c),x.1.2),((s,ls),x.2.2))
def uX.put {E:List ax}(h:uX w base g E) (hk:k<E.length) {ls:List Int}(hl:aD w A ls.length ls) (h1:ls.length<=c) (h2:c<=9223372036854775807) (hf:0<ls.length->∀y,A=some y->y.block≠g):
 uX ((w.setCell ⟨g,3*k,none⟩ (.bool s)).setCell ⟨g,3*k+1,none⟩ (.slice A ls.length c)) base g (E.set k (zX (E[k]) s A c ls)):=by
 have ho:Only (fun j=>j=g) w ((w.setCell ⟨g,3*k,none⟩ (.bool s)).setCell ⟨g,3*k+1,none⟩ (.slice A ls.length c)):=(Only.setCell (S:=fun j=>j=g) (Only.refl _ _) (p:=⟨g,3*k,none⟩) rfl _).setCell (p:=⟨g,3*k+1,none⟩) rfl _;have hx:=h.ok _ (bR hk);have hfx:=h.far _ (bR hk);have hne:∀{a b:Nat},a≠b->(⟨g,b,none⟩:Addr)≠⟨g,a,none⟩:=fun EZ e=>by injection e with _ e2;exact EZ e2.symm
 have agH:∀{o:Nat} {u v v':Value},o≠3*k->o≠3*k+1->w.cell? ⟨g,o,none⟩=some u->((w.setCell ⟨g,3*k,none⟩ v).setCell ⟨g,3*k+1,none⟩ v').cell? ⟨g,o,none⟩=some u:=fun h1 h2 h3=>by
  rw [jk _ _ _ _ (hne h2),jk _ _ _ _ (hne h1)];exact h3
 obtain ⟨c0,c1,c2,f0,f1,f2⟩:=h.cells k hk;refine ⟨fun i hi=> ?_,fun x Dl=> ?_,fun x Dl=> ?_,h.lo,iE h.lt ho.size⟩
 . rw [fW] at hi
   obtain ⟨b0,b1,b2,e0,e1,e2⟩:=h.cells i hi;have fz:∀o,w.frozen? ⟨g,o,none⟩=false->((w.setCell ⟨g,3*k,none⟩ (.bool s)).setCell ⟨g,3*k+1,none⟩ (.slice A ls.length c)).frozen? ⟨g,o,none⟩=false:=fun o e=>by rw [Ng,Ng];exact e
   rw [List.getElem_set];by_cases hik:k=i
   . subst hik
     rw [aM rfl];refine ⟨?_,?_,?_,fz _ e0,fz _ e1,fz _ e2⟩
     . rw [jk _ _ _ _ (hne (by omega))]
       exact ade _ _ _ c0
     . exact ade _ _ _ ((jk _ _ _ _ (hne (by omega))).trans c1)
     . exact agH (by omega) (by omega) b2
   . rw [aY hik]
     exact ⟨agH (by omega) (by omega) b0,agH (by omega) (by omega) b1,agH (by omega) (by omega) b2,fz _ e0,fz _ e1,fz _ e2⟩
 . rcases pR Dl with GG | GG
   . have hf2:=h.far x GG
     exact iM (h.ok x GG) ho (fun h0 y hy hg=>hf2.1 h0 y hy hg) (fun h0 y hy hg=>hf2.2 h0 y hy hg)
   . subst GG
     have e1:=iM hx ho (fun h0 y hy hg=>hfx.1 h0 y hy hg) (fun h0 y hy hg=>hfx.2 h0 y hy hg);refine ⟨h1,h2,e1.2.2.1,e1.2.2.2.1,?_,e1.2.2.2.2.2⟩;exact xU hl ho (fun h0 y hy hg=>hf h0 y hy hg)
 . rcases pR Dl with GG | GG
   . exact h.far x GG
   . subst GG
     exact ⟨hf,hfx.2⟩
def Ki {α:Type}(f:α->α) (L:List α) (hk:k<L.length):((L.take k).map f++L.drop k).set k (f L[k])=(L.take (k+1)).map f++L.drop (k+1):=by
 rw [WU _ _ (by rw [dJ,cQ];omega),dJ,cQ,oz (by omega),vC,xm hk,acY,kG hk,ij];simp
def Duo.acM (h:Duo w g u v) (a b:Value) {p:Addr} {x:Value}(hx:w.cell? p=some x) (hu:x≠u) (hv:x≠v):((w.setCell ⟨g,0,none⟩ a).setCell ⟨g,1,none⟩ b).cell? p=some x:=by
 rw [jk _ _ _ _ (fun e=> ?_),jk _ _ _ _ (fun e=> ?_)]
 . exact hx
 . rw [<- e,h.cell0] at hx;injection hx with hx;exact hu hx.symm
 . rw [<- e,h.cell1] at hx;injection hx with hx;exact hv hx.symm
def Duo.ints (h:Duo w g u v) (a b:Value) (hu:u=.bool s) (hv:v=.slice A n c) {B:Option Addr} {ys:List Int}(hi:Ints w B m ys):Ints ((w.setCell ⟨g,0,none⟩ a).setCell ⟨g,1,none⟩ b) B m ys:=by
 refine ⟨hi.len,fun hm=> ?_,hi.ok⟩;obtain ⟨bb,o,e,hb,hc⟩:=hi.at_ hm;exact ⟨bb,o,e,by simpa using hb,fun i hlt=>h.acM a b (hc i hlt) (by rw [hu];exact fun e=>by cases e) (by rw [hv];exact fun e=>by cases e)⟩
def uX.Re {gd:Nat} {E:List ax}(h:uX w base g E) (hd:Duo w gd (.bool s) (.slice A n c)) (hne:g≠gd) (a b:Value):uX ((w.setCell ⟨gd,0,none⟩ a).setCell ⟨gd,1,none⟩ b) base g E:=
 ⟨fun i hi=>by
   obtain ⟨b0,b1,b2,e0,e1,e2⟩:=h.cells i hi;have far:∀{o:Nat} {x:Value},w.cell? ⟨g,o,none⟩=some x->((w.setCell ⟨gd,0,none⟩ a).setCell ⟨gd,1,none⟩ b).cell? ⟨g,o,none⟩=some x:=fun hx=>by
    rw [jk _ _ _ _ (fun e=>by injection e with e _;exact hne e.symm),jk _ _ _ _ (fun e=>by injection e with e _;exact hne e.symm)];exact hx
   have fz:∀o,w.frozen? ⟨g,o,none⟩=false->((w.setCell ⟨gd,0,none⟩ a).setCell ⟨gd,1,none⟩ b).frozen? ⟨g,o,none⟩=false:=fun o e=>by rw [Ng,Ng];exact e
   exact ⟨far b0,far b1,far b2,fz _ e0,fz _ e1,fz _ e2⟩,
  fun x hx=>by
   obtain ⟨k1,k2,k3,k4,k5,k6⟩:=h.ok x hx;exact ⟨k1,k2,k3,k4,hd.limbs a b rfl rfl k5,hd.ints a b rfl rfl k6⟩,
  h.far,h.lo,by simpa using h.lt⟩
def EA {M:Mv}(h:av n M) (_hz:sA M≠0):av n (BR M):=
 ⟨fun t ht=>by
   obtain ⟨s,hs,rfl⟩:=af.1 ht;exact h.len s hs,by
   unfold BR;rw [mG];exact h.ord,fun t ht=>by
   obtain ⟨s,hs,rfl⟩:=af.1 ht;intro e;have e2:s.2 / sA M=0:=e;have e1:=tJ s.2 (sA M);rw [e2,uI hs] at e1;exact h.ne s hs (by omega)⟩
def pY (w:World) (n:Nat) (M:Mv) (e:Ending) (w':World):Prop:=
 ∃s A k c ls B cB T P,e=.returned (.tuple #[.agg #[.bool s,.slice A k c],.slice B T.length cB,.int .i64 0])∧k<=c∧c<=9223372036854775807∧aD w' A k ls∧eH n P∧jI n (aP P) M∧dN s ls (sA (aP P))∧T.length<=cB∧cB<=9223372036854775807∧iI w' B T.length T∧eH n T∧aP T=BR (aP P)∧Below w.heap.size w w'
def aph (n Ca:Nat) (A:Option Addr) (m c:Nat) (L:List TV) (w:World) (hx:iI w A m L) (hL:Arg n Ca L) (hn:n<=6) (hCa:Ca<=10000):
 aB 23 #[.int .i64 (n:Int),.slice A m c] w (pY w n (aP L)):=by
 have vh:=Duo.new w (.bool false) (.slice none 0 0);have rF:Below w.heap.size w (w.alloc (.cells #[.bool false,.slice none 0 0] 41)):=aU.alloc aL _;have Cn:=aA (aaF n Ca A m c L _ (hx.aC rF) hL hn hCa);have HD0:=aA vh;have U2:=aA rF;have HL:=aA hL;have tj:=hL.cnt;have HCo:Hid (∀(T:List TV),eH n T->jI n (aP T) (aP L)->∀t∈T,t.1.2.length<=Ca+1):=fun T hp e=>acJ hx hL hp e;clear hx hL vh rF;go_enter func23,ntmps23
 go_wp2_with fail
 generalize w.alloc (.cells #[.bool false,.slice none 0 0] 41)=w0 at*
 have hw0:=aA HD0.o.lt;refine Cn.o.mono ?_;rintro e w1 ⟨A1,c1,E,rfl,h1,h2,hO,hP,hE,cZ⟩;have HD1:=aA (HD0.o.aC cZ);have wu:Hid (Below w.heap.size w w1):=U2.o.tm cZ;have HO:=aA hO;have HP:=aA hP;have HE:=aA hE;have Jv:E.length<=4096:=by
  have:=hP.mv.count hE;rw [au,au,dJ] at this;omega
 clear Cn hO hP hE cZ HD0 U2;go_wp2_with fail
 refine (OO 0 w1 (by omega) (by omega)).mono ?_;rintro e w2 ⟨s0,A0,k0,c0,l0,rfl,g1,g2,g3,g4,g5,cN⟩;go_wp2_with fail
 have OH:=aA (Duo.new w2 (.bool s0) (.slice A0 k0 c0));have nZ:Below w2.heap.size w2 (w2.alloc (.cells #[.bool s0,.slice A0 k0 c0] 41)):=aU.alloc aL _;have g4':=aA (g4.aC nZ);have g5':=aA g5;have HB3:=aA nZ;have HO2:=aA (OX HO.o cN);have HD2:=aA (HD1.o.aC cN);have FK:Hid (Below w.heap.size w w2):=wu.o.tm cN;clear g4 g5 cN nZ HO HD1 wu;have LR:=aA (HCo.o _ HP.o HE.o);clear HCo;generalize w2.alloc (.cells #[.bool s0,.slice A0 k0 c0] 41)=w3 at*
 obtain ⟨gc,hgc⟩:∃g,w2.heap.size=g:=⟨_,rfl⟩;have Hgc:=aA hgc;rw [hgc] at OH HB3 ⊢;clear hgc;obtain ⟨me,hme⟩:∃k,E.length=k:=⟨_,rfl⟩;have Hme:=aA hme;rw [hme] at h1 Jv ⊢;clear hme;go_loopw [11,26] (fun _ v26 wr=>∃(k:Nat) (s:Bool) (Ac:Option Addr) (kc cc:Nat) (ls:List Int),k<=me∧v26=.int .i64 k∧Hid (Duo wr gc (.bool s) (.slice Ac kc cc))∧Hid (aD wr Ac kc ls)∧kc<=cc∧cc<=9223372036854775807∧kc<=Ca+1∧Hid (0<k->0<kc->∀y,Ac=some y->gc<=y.block)∧Hid (dN s ls (j8 (aP ((E.map (·.2)).take k)):Nat))∧Hid (Below gc w2 wr)) (fun _ v26 _=>me-(intOf v26).toNat)
 case atStart=>exact ⟨0,s0,A0,k0,c0,l0,by omega,rfl,OH,g4',g1,g2,by omega,fun h=>absurd h (by omega),g5',HB3⟩
 case round=>
  clear OH g4' g5' HB3 g1 g2 g3;obtain ⟨k,s,Ac,kc,cc,ls,hk,rfl,hD,OJ,q1,q2,q3,hF,hZ,hB⟩:=hrel;have LW:Below w2.heap.size w2 wr:=by rw [Hgc.o];exact hB.o
  by_cases hlt:k<me
  . have dH:(k:Int)<(me:Int):=by omega
    (have wT:(0:Int)<=(k:Int):=by omega);(have rM:k<E.length:=by rw [Hme.o];exact hlt);obtain ⟨g,hAg,hOg⟩:=HO2.o (by omega);subst hAg;have hOr:=hOg.aC LW;obtain ⟨e0,e1,e2,_⟩:=hOr.cells k rM;obtain ⟨k1,k2,k3,k4,k5,k6⟩:=hOr.ok _ (bR rM);have M6:(E[k]).2∈E.map (·.2):=af.2 ⟨_,bR rM,rfl⟩;have OI:=LR.o _ M6;have hstep:Hid (j8 (aP ((E.map (·.2)).take (k+1)))=Nat.gcd (j8 (aP ((E.map (·.2)).take k))) (limbs (E[k]).2.1.2)):=by
     show _=_;have h3:(E.map (·.2)).take (k+1)=(E.map (·.2)).take k++[(E[k]).2]:=by
      rw [kG (by rw [dJ];exact rM),List.getElem_map]
     rw [h3,eN,show aP [(E[k]).2]=[bS (E[k]).2] from rfl,Ld];congr 1
     show (aI _ _).natAbs=_;unfold aI;split<;>simp
    have hcn:Hid (limbs ls=j8 (aP ((E.map (·.2)).take k))):=by
     have h3:=hZ.o.eq;show _=_;unfold aI at h3;split at h3<;>omega
    rw [aq 3 k] at e0 e1 e2;clear hOr hOg M6;generalize E[k]=x at*
    obtain ⟨⟨⟨Ax,cx⟩,⟨Ex,dx⟩⟩,⟨⟨sx,xs⟩,ps⟩⟩:=x;simp only at e0 e1 e2 k1 k2 k3 k4 k5 k6 OI hstep;have NI:Below wr.heap.size wr (wr.alloc (.cells #[.bool sx,.slice Ax xs.length cx,.slice Ex ps.length dx] 44)):=aU.alloc aL _;have hD2:=hD.o.aC NI;have d0:=hD2.cell0;have d1:=hD2.cell1;have Cg:=aA (aoA s sx Ac Ax kc xs.length cc cx ls xs _ (OJ.o.aC NI) (k5.aC NI) q1 q2 k1 k2 (by omega) (by omega));rw [hcn.o,<- hstep.o] at Cg;have HD4:=aA hD2;have YN:Hid (Below gc w2 (wr.alloc (.cells #[.bool sx,.slice Ax xs.length cx,.slice Ex ps.length dx] 44))):=hB.o.trans (NI.mono (by have:=LW.size;have:=Hgc.o;omega));clear hD2 NI k5 k6 hcn hstep hB LW hD OJ hZ;(go_wp2_with fail);generalize wr.alloc (.cells #[.bool sx,.slice Ax xs.length cx,.slice Ex ps.length dx] 44)=wx at*
    refine Cg.o.mono ?_;rintro e wy ⟨s2,A2,k2',c2',l2,rfl,z1,z2,z3,z4,z5,z6,hbg⟩;have WH:=HD4.o.aC hbg;have f0:=WH.frozen 0;have f1:=WH.frozen 1;have d2:=WH.cell0;have d3:=WH.cell1;have HD5:=aA (WH.set (.bool s2) (.slice A2 k2' c2'));have HL5:=aA (WH.limbs (.bool s2) (.slice A2 k2' c2') rfl rfl z4);have HZ5:=aA z5;have hBg:Below gc w2 wy:=YN.o.trans (hbg.mono (by have:=HD4.o.lt;omega));have HB5:=aA ((hBg.setCell (p:=⟨gc,0,none⟩) aL (.bool s2)).setCell (p:=⟨gc,1,none⟩) aL (.slice A2 k2' c2'));have HF5:Hid (0<k+1->0<k2'->∀y,A2=some y->gc<=y.block):=fun _ h0 y hy=>aG (by have:=HD4.o.lt;omega) (z6 h0 y hy);(have zP:k2'<=Ca+1:=by omega);clear z4 z5 z6 WH hBg hbg Cg d0 d1 HD4 YN hF;(go_wp2_with fail);go_roundw
    case rel=>exact ⟨k+1,s2,A2,k2',c2',l2,by omega,by go_num,HD5,HL5,z1,z2,zP,HF5,HZ5,HB5⟩
    case measure=>simp [intOf];omega
  . obtain rfl:me=k:=by omega
    (have dH:¬(me:Int)<(me:Int):=by omega);(have LW:Hid (Below w2.heap.size w2 wr):=by show Below _ _ _;rw [Hgc.o];exact hB.o);have eR:(E.map (·.2)).take me=E.map (·.2):=iC (by rw [dJ,Hme.o];exact aL);rw [eR] at hZ;clear eR;by_cases M7:me=0
    . skip
      have hE0:E=[]:=lK (by rw [Hme.o];exact M7);(have ale:¬(0:Int)<(me:Int):=by omega);have hZ0:Hid (dN s ls (sA (aP (E.map (·.2))))):=by
       have h:=hZ.o;rw [hE0] at h ⊢;exact h
      have HM0:=aA M7;have aEs:¬((0:Int)<(me:Int)):=ale;clear M7;(go_wp2_with fail);go_loopw [12,49] (fun _ v49 wt=>v49=.int .i64 0∧wt=wr) (fun _ _ _=>0)
      case atStart=>exact ⟨rfl,(by first | trivial | rfl)⟩
      case round=>
       obtain ⟨rfl,rfl⟩:=hrel;have aMr:=aA LW.o;have LV:=HD2.o.aC LW.o;have y0:=LV.cell0;have y1:=LV.cell1;have yf0:=LV.frozen 0;have yf1:=LV.frozen 1;have d0:=hD.o.cell0;have d1:=hD.o.cell1;have HDw:=aA LV;have ZB:Hid (Below w.heap.size w wr):=FK.o.tm LW.o;have F:Hid (∀W (hW:Duo W w.heap.size (.bool s) (.slice Ac kc cc)) (hl:aD W Ac kc ls) (hb:Below w.heap.size w W),pY w n (aP L) (.returned (.tuple #[.agg #[.bool s,.slice Ac kc cc],.slice A1 me c1,.int .i64 0])) W):=fun W _ hl hb=>by
        have hm3:me=([]:List TV).length:=HM0.o;rw [hm3];exact ⟨s,Ac,kc,cc,ls,A1,c1,[],E.map (·.2),rfl,q1,q2,hl,HP.o,HE.o,hZ0.o,bL _,h2,iI.nil _ _,eH.nil n,by rw [hE0];rfl,hb⟩
       clear LV;(go_wp2_with fail);refine bK (iX (fn:=Tryz.f23) rfl _ _ _ _ _ _ _ rfl (HDw.o.set (.bool s) (.slice Ac kc cc)) underlying41 rfl bQ) rfl ?_;exact F.o _ (HDw.o.set _ _) (HDw.o.limbs _ _ rfl rfl OJ.o) ((ZB.o.setCell (p:=⟨w.heap.size,0,none⟩) aL _).setCell (p:=⟨w.heap.size,1,none⟩) aL _)
    . have ale:(0:Int)<(me:Int):=by omega
      (have aql:0<me:=by omega);(have hE0:0<E.length:=by rw [Hme.o];exact aql);obtain ⟨g,hAg,hOg⟩:=HO2.o hE0;subst hAg;have hOr:=hOg.aC LW.o;obtain ⟨e0,_⟩:=hOr.cells 0 hE0;(have aKT:g<gc:=by rw [<- Hgc.o];exact hOg.lt);(have aKS:(0:Int)<=(c1:Int):=by omega);rw [jZ] at e0;obtain ⟨tx,LX,hLX⟩:∃t l,aP (E.map (·.2))=t::l:=by
       match E,hE0 with
       | x::E',_=>exact ⟨_,_,rfl⟩
      have htx:tx=bS (E[0]).2:=by
       have h:=dh (fun l=>l[0]?) hLX;simp [aP,hE0] at h;exact h.symm
      (have Iq:dN (E[0]).2.1.1 (E[0]).2.1.2 tx.2:=by rw [htx];exact HP.o.co _ (af.2 ⟨_,bR hE0,rfl⟩));have aqh:tx.2≠0:=by
       have h:=HP.o.mv.ne tx (by rw [hLX];exact aV);exact h
      have hcp:0<j8 (aP (E.map (·.2))):=Qi (by rw [hLX];exact aV) aqh;have apN:(E[0]).2.1.1=decide (tx.2<0):=by
       have h1:=Iq.eq;have h2:=Iq.nz;unfold aI at h1;cases hs:(E[0]).2.1.1 with
       | true=>rw [hs] at h1 h2;simp at h1;simp;omega
       | false=>rw [hs] at h1;simp at h1;simp;omega
      have HOr:=aA hOr;have hF':Hid (0<kc->∀y,Ac=some y->gc<=y.block):=fun h0 y hy=>hF.o aql h0 y hy;(have S8:Hid (sA (aP (E.map (·.2)))=if tx.2<0 then -(j8 (aP (E.map (·.2))):Int) else (j8 (aP (E.map (·.2))):Int)):=by show _=_;rw [hLX];rfl);(have QL:Hid (sA (aP (E.map (·.2)))≠0):=fun e=>by have:=Gg (aP (E.map (·.2)));rw [e] at this;omega);rw [apN] at e0;clear Iq apN htx hLX hOr hcp hF aqh;by_cases CJ:tx.2<0
      . have e0':Hid (wr.cell? ⟨g,0,none⟩=some (.bool true)):=by show _=_;rw [e0,DM CJ]
        have e1:=e0'.o;have Cng:=aA (ZH s Ac kc cc ls wr OJ.o q1 q2 (by omega));have hzn:Hid (-aI s ls=sA (aP (E.map (·.2)))):=by
         show _=_;rw [S8.o,aM CJ,hZ.o.eq]
        have d0:=hD.o.cell0;have d1:=hD.o.cell1;clear CJ e0;(go_wp2_with fail);refine Cng.o.mono ?_;rintro e wn ⟨s,Ac,kc,cc,ls,rfl,q1,q2,z3,z4,z5,z6,hbn⟩;(have q3:kc<=Ca+1:=by omega);have hDn:=hD.o.aC hbn;have n0:=hDn.cell0;have n1:=hDn.cell1;have nf0:=hDn.frozen 0;have nf1:=hDn.frozen 1;have hZt:Hid (dN s ls (sA (aP (E.map (·.2))))):=by
         have h:=z5;rw [hzn.o] at h;exact h
        have hDt:=aA (hDn.set (.bool s) (.slice Ac kc cc));have hLt:=aA (hDn.limbs (.bool s) (.slice Ac kc cc) rfl rfl z4);have hFt:Hid (0<kc->∀y,Ac=some y->gc<=y.block):=fun h0 y hy=>aG (oy hD.o.lt) (z6 h0 y hy);(have aly:w2.heap.size<=gc:=by rw [Hgc.o];exact aL);have hBt:=aA (((LW.o.tm hbn).setCell (p:=⟨gc,0,none⟩) aly (.bool s)).setCell (p:=⟨gc,1,none⟩) aly (.slice Ac kc cc));clear z4 z5 z6 hDn hbn d0 d1 hD OJ hZ hF' LW hB hzn aly Cng;(go_wp2_with fail);clear n0 n1 nf0 nf1;generalize (wn.setCell ⟨gc,0,none⟩ (.bool s)).setCell ⟨gc,1,none⟩ (.slice Ac kc cc)=wp at*
        obtain ⟨wt,rfl⟩:∃wt:World,wt=wp:=⟨_,rfl⟩;have hOt:=aA (hOg.aC hBt.o);have NL:Hid (E.length=me):=Hme.o;have abK:Hid (∀x∈E,dN x.2.1.1 x.2.1.2 (aI x.2.1.1 x.2.1.2)):=fun x hx=>by
         have h1:=HP.o.co x.2 (af.2 ⟨x,hx,rfl⟩);rw [h1.eq];exact h1
        have abP:Hid (∀i (h:i<E.length),0<=i->(E[i]).2.1.2.length<=Ca+1):=fun i h _=>LR.o (E[i]).2 (af.2 ⟨_,bR h,rfl⟩);(have hlP:Hid ((aP (E.map (·.2))).length=me):=by show _=_;rw [au,dJ];exact Hme.o);obtain ⟨M,hM⟩:∃M,aP (E.map (·.2))=M:=⟨_,rfl⟩;have HM:=aA hM;rw [hM] at hZt QL hlP;obtain ⟨cz,S7⟩:∃z,sA M=z:=⟨_,rfl⟩;have HCZ:=aA S7;rw [S7] at hZt QL;have hval:Hid (E.map (fun x=>bS x.2)=(M.take 0).map (fun t=>(t.1,t.2 / cz))++M.drop 0):=by
         show _=_;rw [x9,Qw,<- hM];show _=aP (E.map (·.2));unfold aP;rw [jl];rfl
        have QF:0<limbs ls:=by
         have h3:=hZt.o.eq;have h4:=QL.o;unfold aI at h3;split at h3<;>omega
        have Hls:=aA QF;(have alx:gc≠g:=by omega);(have RZ:w.heap.size<g:=by have:=hOt.o.lo;have:=hw0.o;omega);clear hM S7 QF S8;go_loopw [12,49] (fun _ v49 wz=>∃(k:Nat) (Ek:List ax),k<=me∧v49=.int .i64 k∧Hid (uX wz w0.heap.size g Ek)∧Hid (Ek.length=me)∧Hid (∀x∈Ek,dN x.2.1.1 x.2.1.2 (aI x.2.1.1 x.2.1.2))∧Hid (∀i (h:i<Ek.length),k<=i->(Ek[i]).2.1.2.length<=Ca+1)∧Hid (Ek.map (fun x=>bS x.2)=(M.take k).map (fun t=>(t.1,t.2 / cz))++M.drop k)∧Hid (Only (fun j=>j=g) wt wz)) (fun _ v49 _=>me-(intOf v49).toNat)
        case atStart=>exact ⟨0,E,by omega,rfl,hOt,NL,abK,abP,hval,Only.refl _ _⟩
        case round=>
         clear hOt NL abK abP hval;obtain ⟨k,Ek,hk,rfl,I5,YM,NC,hbk,hvk,TM⟩:=hrel;have I6:=hDt.o.keep (TM.o.block gc hDt.o.lt alx);have hLr:=aA (xU hLt.o TM.o (fun h0 y hy hg=>by have h5:=hFt.o h0 y hy;have h6:y.block=g:=hg;omega));have Wp:=aA I6;have d0:=I6.cell0;have d1:=I6.cell1;by_cases hlt:k<me
         . have dH:(k:Int)<(me:Int):=by omega
           (have wT:(0:Int)<=(k:Int):=by omega);(have rM:k<Ek.length:=by rw [YM.o];exact hlt);(have hkM:k<M.length:=by rw [hlP.o];exact hlt);obtain ⟨e2,e3,e4,f0,f1,f2⟩:=I5.o.cells k rM;obtain ⟨k1,k2,k3,k4,k5,k6⟩:=I5.o.ok _ (bR rM);have LQ:=hbk.o k rM aL;have hxv:bS (Ek[k]).2=M[k]:=by
            (have h3:(Ek.map (fun x=>bS x.2))[k]? =some (bS (Ek[k]).2):=by simp [rM]);rw [hvk.o,DL (by rw [dJ,cQ];omega),dJ,cQ,oz (by omega),vC,adm,ja,uT hkM] at h3;injection h3 with h3
            exact h3.symm
           have QD:M[k]∈M:=bR hkM;(have QI:(M[k]).2 % cz=0:=by rw [<- HCZ.o];exact uI QD);have abm:Hid (∀(s1:Bool) (A1:Option Addr) (c1:Nat) (l1:List Int),dN s1 l1 ((M[k]).2 / cz)->(∀x∈Ek.set k (zX (Ek[k]) s1 A1 c1 l1),dN x.2.1.1 x.2.1.2 (aI x.2.1.1 x.2.1.2))∧(∀i (h:i<(Ek.set k (zX (Ek[k]) s1 A1 c1 l1)).length),k+1<=i->((Ek.set k (zX (Ek[k]) s1 A1 c1 l1))[i]).2.1.2.length<=Ca+1)∧(Ek.set k (zX (Ek[k]) s1 A1 c1 l1)).map (fun x=>bS x.2)=(M.take (k+1)).map (fun t=>(t.1,t.2 / cz))++M.drop (k+1)∧(Ek.set k (zX (Ek[k]) s1 A1 c1 l1)).length=me):=fun s1 A1 c1 l1 hz=>by
            refine ⟨fun x hx=> ?_,fun i hi hki=> ?_,?_,by rw [fW];exact YM.o⟩
            . rcases pR hx with h4 | h4
              . exact NC.o x h4
              . subst h4
                show dN s1 l1 (aI s1 l1);rw [hz.eq];exact hz
            . rw [fW] at hi
              rw [Uo (by omega)];exact hbk.o i hi (by omega)
            . rw [Jf,hvk.o,<- Ki _ M hkM]
              congr 1
              show (bS ((s1,l1),(Ek[k]).2.2))=((M[k]).1,(M[k]).2 / cz);rw [<- hxv];show ((Ek[k]).2.2,aI s1 l1)=((Ek[k]).2.2,(bS (Ek[k]).2).2 / cz);rw [hxv,hz.eq]
           have hpt:Hid (∀(W:World) (s1:Bool) (A1:Option Addr) (c1:Nat) (l1:List Int),uX W w0.heap.size g Ek->aD W A1 l1.length l1->l1.length<=c1->c1<=9223372036854775807->(0<l1.length->∀y,A1=some y->y.block≠g)->uX ((W.setCell ⟨g,3*k,none⟩ (.bool s1)).setCell ⟨g,3*k+1,none⟩ (.slice A1 l1.length c1)) w0.heap.size g (Ek.set k (zX (Ek[k]) s1 A1 c1 l1))):=fun W s1 A1 c1 l1 h1 h2 h3 h4 h5=>h1.put rM h2 h3 h4 h5;have hzx:aI (Ek[k]).2.1.1 (Ek[k]).2.1.2=(M[k]).2:=dh Prod.snd hxv;rw [aq 3 k] at e2 e3 e4 f0 f1 f2;have akH:=LQ;clear LQ QD hxv;generalize amg:Ek[k]=x at*
           obtain ⟨⟨⟨Ax,cx⟩,⟨Ex,dx⟩⟩,⟨⟨sx,xs⟩,ps⟩⟩:=x;simp only at e2 e3 e4 k1 k2 k3 k4 k5 k6 akH hzx;have hls:ls.length=kc:=hLt.o.len;have Ce:=aA (fun W (h:Below wr.heap.size wr W)=>MB sx s Ax Ac xs.length kc cx cc xs ls W (k5.aC h) (hLr.o.aC h) k1 k2 q1 q2 (by omega) (by omega) Hls.o);rw [hzx,hZt.o.eq] at Ce;have anl:=aA QI;have ow:Hid (∀W,Below wr.heap.size wr W->W.cell? ⟨g,k*3,none⟩=some (.bool sx)∧W.cell? ⟨g,k*3+1,none⟩=some (.slice Ax xs.length cx)∧W.cell? ⟨gc,0,none⟩=some (.bool s)∧W.cell? ⟨gc,1,none⟩=some (.slice Ac kc cc)):=fun W hW=>
            ⟨(hW.cell (p:=⟨g,k*3,none⟩) I5.o.lt).trans e2,(hW.cell (p:=⟨g,k*3+1,none⟩) I5.o.lt).trans e3,(hW.cell (p:=⟨gc,0,none⟩) Wp.o.lt).trans d0,(hW.cell (p:=⟨gc,1,none⟩) Wp.o.lt).trans d1⟩
           clear k5 k6 QI hzx amg I6;(go_wp2_with fail);go_region_with
            (first | (go_at_call 42;refine (Ce.o _ (by first | exact aU.drew | exact aU)).mono ?_;rintro e we ⟨s1,Yo,GZ,rP,l1,rfl,z1,z2,z3,z4,z5,z6,se⟩;have mN:Below wr.heap.size wr we:=(by first | exact aU.drew.trans se | exact se);have fe0:=(mN.frozen (p:=⟨g,k*3,none⟩) I5.o.lt).trans f0;have fe1:=(mN.frozen (p:=⟨g,k*3+1,none⟩) I5.o.lt).trans f1;obtain ⟨ce0,ce1,_,_⟩:=ow.o _ mN))
           all_goals
            obtain rfl:=z4.len;have hfr:0<l1.length->∀y,Yo=some y->y.block≠g:=fun h0 y hy=>by
             have h5:wr.heap.size<=y.block:=z6 h0 y hy;have:=I5.o.lt;omega
            have hO9:=hpt.o we s1 Yo rP l1 (I5.o.aC mN) z4 z2 z3 hfr;rw [aq 3 k] at hO9;have HO9:=aA hO9;obtain ⟨p1,p4,p2,p3⟩:=abm.o s1 Yo rP l1 (z5 anl.o);have P4:=aA p4;have P1:=aA p1;have P2:=aA p2;have P3:=aA p3;have Uz:Hid (Only (fun j=>j=g) wt ((we.setCell ⟨g,k*3,none⟩ (.bool s1)).setCell ⟨g,k*3+1,none⟩ (.slice Yo l1.length rP))):=((TM.o.trans (jG mN)).setCell (p:=⟨g,k*3,none⟩) rfl _).setCell (p:=⟨g,k*3+1,none⟩) rfl _;clear hO9 p1 p2 p3 p4 hfr hpt abm z4 z5 z6 mN se ow Ce ce0 ce1 fe0 fe1 d0 d1 hLr Wp I5 TM NC hbk hvk YM;generalize Ek.set k (zX (((Ax,cx),Ex,dx),(sx,xs),ps) s1 Yo rP l1)=Eq at*
            generalize (we.setCell ⟨g,k*3,none⟩ (.bool s1)).setCell ⟨g,k*3+1,none⟩ (.slice Yo l1.length rP)=wq at*
            (go_wp2_with fail);go_roundw
            case rel=>exact ⟨k+1,Eq,by omega,by go_num,HO9,P3,P1,P4,P2,Uz⟩
            case measure=>simp [intOf];omega
         . obtain rfl:me=k:=by omega
           (have dH:¬(me:Int)<(me:Int):=by omega);have LV:=(HD2.o.aC hBt.o).keep (TM.o.block w.heap.size (HD2.o.aC hBt.o).lt (fun e=>by have e':w.heap.size=g:=e;omega));have y0:=LV.cell0;have y1:=LV.cell1;have yf0:=LV.frozen 0;have yf1:=LV.frozen 1;have HDw:=aA LV;have ZB:Hid (Below w.heap.size w wr):=(FK.o.tm hBt.o).trans (TM.o.below (by have:=FK.o.size;have:=hBt.o.size;omega) (fun j hj=>by have e':j=g:=hj;omega));have hTv:Hid (aP (Ek.map (·.2))=BR M):=by
            show _=_;have h3:=hvk.o;rw [iC (by rw [hlP.o];exact aL),DT (by rw [hlP.o];exact aL),tI] at h3;unfold BR aP;rw [jl,HCZ.o];exact h3
           have hPE:Hid (eH n (Ek.map (·.2))):=⟨by rw [hTv.o];refine EA ?_ (by rw [HCZ.o];exact QL.o);rw [<- HM.o];exact HP.o.mv,fun t ht=>by
            obtain ⟨x,hx,rfl⟩:=af.1 ht;exact NC.o x hx⟩
           have F:Hid (∀W (hl:aD W Ac kc ls) (hO:uX W w0.heap.size g Ek) (hb:Below w.heap.size w W),pY w n (aP L) (.returned (.tuple #[.agg #[.bool s,.slice Ac kc cc],.slice (some ⟨g,0,none⟩) me c1,.int .i64 0])) W):=fun W hl hO hb=>by
            have h3:=hO.trs;(have h4:me=(Ek.map (·.2)).length:=by rw [dJ];exact YM.o.symm);rw [YM.o] at h3;have h5:me<=c1:=h1;rw [h4] at h3 h5 ⊢;exact ⟨s,Ac,kc,cc,ls,some ⟨g,0,none⟩,c1,Ek.map (·.2),E.map (·.2),rfl,q1,q2,hl,HP.o,HE.o,by rw [HM.o,HCZ.o];exact hZt.o,h5,h2,h3,hPE.o,by rw [HM.o];exact hTv.o,hb⟩
           have HOk:=aA (I5.o.Re HDw.o (fun e=>by omega) (.bool s) (.slice Ac kc cc));clear LV hvk NC TM I5;(go_wp2_with fail);refine bK (iX (fn:=Tryz.f23) rfl _ _ _ _ _ _ _ rfl (HDw.o.set (.bool s) (.slice Ac kc cc)) underlying41 rfl bQ) rfl ?_;exact F.o _ (HDw.o.limbs _ _ rfl rfl hLr.o) HOk.o ((ZB.o.setCell (p:=⟨w.heap.size,0,none⟩) aL _).setCell (p:=⟨w.heap.size,1,none⟩) aL _)
      . have e0':Hid (wr.cell? ⟨g,0,none⟩=some (.bool false)):=by show _=_;rw [e0,uJ CJ]
        have e1:=e0'.o;(have hZt:Hid (dN s ls (sA (aP (E.map (·.2))))):=by show dN _ _ _;rw [S8.o,aY CJ];exact hZ.o);have hDt:=aA hD.o;have hLt:=aA OJ.o;have hFt:=aA hF'.o;have hBt:=aA LW.o;clear CJ e0 hZ hD OJ hF' LW hB;(go_wp2_with fail);obtain ⟨wt,rfl⟩:∃wt:World,wt=wr:=⟨_,rfl⟩;have hOt:=aA (hOg.aC hBt.o);have NL:Hid (E.length=me):=Hme.o;have abK:Hid (∀x∈E,dN x.2.1.1 x.2.1.2 (aI x.2.1.1 x.2.1.2)):=fun x hx=>by
         have h1:=HP.o.co x.2 (af.2 ⟨x,hx,rfl⟩);rw [h1.eq];exact h1
        have abP:Hid (∀i (h:i<E.length),0<=i->(E[i]).2.1.2.length<=Ca+1):=fun i h _=>LR.o (E[i]).2 (af.2 ⟨_,bR h,rfl⟩);(have hlP:Hid ((aP (E.map (·.2))).length=me):=by show _=_;rw [au,dJ];exact Hme.o);obtain ⟨M,hM⟩:∃M,aP (E.map (·.2))=M:=⟨_,rfl⟩;have HM:=aA hM;rw [hM] at hZt QL hlP;obtain ⟨cz,S7⟩:∃z,sA M=z:=⟨_,rfl⟩;have HCZ:=aA S7;rw [S7] at hZt QL;have hval:Hid (E.map (fun x=>bS x.2)=(M.take 0).map (fun t=>(t.1,t.2 / cz))++M.drop 0):=by
         show _=_;rw [x9,Qw,<- hM];show _=aP (E.map (·.2));unfold aP;rw [jl];rfl
        have QF:0<limbs ls:=by
         have h3:=hZt.o.eq;have h4:=QL.o;unfold aI at h3;split at h3<;>omega
        have Hls:=aA QF;(have alx:gc≠g:=by omega);(have RZ:w.heap.size<g:=by have:=hOt.o.lo;have:=hw0.o;omega);clear hM S7 QF S8;go_loopw [12,49] (fun _ v49 wz=>∃(k:Nat) (Ek:List ax),k<=me∧v49=.int .i64 k∧Hid (uX wz w0.heap.size g Ek)∧Hid (Ek.length=me)∧Hid (∀x∈Ek,dN x.2.1.1 x.2.1.2 (aI x.2.1.1 x.2.1.2))∧Hid (∀i (h:i<Ek.length),k<=i->(Ek[i]).2.1.2.length<=Ca+1)∧Hid (Ek.map (fun x=>bS x.2)=(M.take k).map (fun t=>(t.1,t.2 / cz))++M.drop k)∧Hid (Only (fun j=>j=g) wt wz)) (fun _ v49 _=>me-(intOf v49).toNat)
        case atStart=>exact ⟨0,E,by omega,rfl,hOt,NL,abK,abP,hval,Only.refl _ _⟩
        case round=>
         clear hOt NL abK abP hval;obtain ⟨k,Ek,hk,rfl,I5,YM,NC,hbk,hvk,TM⟩:=hrel;have I6:=hDt.o.keep (TM.o.block gc hDt.o.lt alx);have hLr:=aA (xU hLt.o TM.o (fun h0 y hy hg=>by have h5:=hFt.o h0 y hy;have h6:y.block=g:=hg;omega));have Wp:=aA I6;have d0:=I6.cell0;have d1:=I6.cell1;by_cases hlt:k<me
         . have dH:(k:Int)<(me:Int):=by omega
           (have wT:(0:Int)<=(k:Int):=by omega);(have rM:k<Ek.length:=by rw [YM.o];exact hlt);(have hkM:k<M.length:=by rw [hlP.o];exact hlt);obtain ⟨e2,e3,e4,f0,f1,f2⟩:=I5.o.cells k rM;obtain ⟨k1,k2,k3,k4,k5,k6⟩:=I5.o.ok _ (bR rM);have LQ:=hbk.o k rM aL;have hxv:bS (Ek[k]).2=M[k]:=by
            (have h3:(Ek.map (fun x=>bS x.2))[k]? =some (bS (Ek[k]).2):=by simp [rM]);rw [hvk.o,DL (by rw [dJ,cQ];omega),dJ,cQ,oz (by omega),vC,adm,ja,uT hkM] at h3;injection h3 with h3
            exact h3.symm
           have QD:M[k]∈M:=bR hkM;(have QI:(M[k]).2 % cz=0:=by rw [<- HCZ.o];exact uI QD);have abm:Hid (∀(s1:Bool) (A1:Option Addr) (c1:Nat) (l1:List Int),dN s1 l1 ((M[k]).2 / cz)->(∀x∈Ek.set k (zX (Ek[k]) s1 A1 c1 l1),dN x.2.1.1 x.2.1.2 (aI x.2.1.1 x.2.1.2))∧(∀i (h:i<(Ek.set k (zX (Ek[k]) s1 A1 c1 l1)).length),k+1<=i->((Ek.set k (zX (Ek[k]) s1 A1 c1 l1))[i]).2.1.2.length<=Ca+1)∧(Ek.set k (zX (Ek[k]) s1 A1 c1 l1)).map (fun x=>bS x.2)=(M.take (k+1)).map (fun t=>(t.1,t.2 / cz))++M.drop (k+1)∧(Ek.set k (zX (Ek[k]) s1 A1 c1 l1)).length=me):=fun s1 A1 c1 l1 hz=>by
            refine ⟨fun x hx=> ?_,fun i hi hki=> ?_,?_,by rw [fW];exact YM.o⟩
            . rcases pR hx with h4 | h4
              . exact NC.o x h4
              . subst h4
                show dN s1 l1 (aI s1 l1);rw [hz.eq];exact hz
            . rw [fW] at hi
              rw [Uo (by omega)];exact hbk.o i hi (by omega)
            . rw [Jf,hvk.o,<- Ki _ M hkM]
              congr 1
              show (bS ((s1,l1),(Ek[k]).2.2))=((M[k]).1,(M[k]).2 / cz);rw [<- hxv];show ((Ek[k]).2.2,aI s1 l1)=((Ek[k]).2.2,(bS (Ek[k]).2).2 / cz);rw [hxv,hz.eq]
           have hpt:Hid (∀(W:World) (s1:Bool) (A1:Option Addr) (c1:Nat) (l1:List Int),uX W w0.heap.size g Ek->aD W A1 l1.length l1->l1.length<=c1->c1<=9223372036854775807->(0<l1.length->∀y,A1=some y->y.block≠g)->uX ((W.setCell ⟨g,3*k,none⟩ (.bool s1)).setCell ⟨g,3*k+1,none⟩ (.slice A1 l1.length c1)) w0.heap.size g (Ek.set k (zX (Ek[k]) s1 A1 c1 l1))):=fun W s1 A1 c1 l1 h1 h2 h3 h4 h5=>h1.put rM h2 h3 h4 h5;have hzx:aI (Ek[k]).2.1.1 (Ek[k]).2.1.2=(M[k]).2:=dh Prod.snd hxv;rw [aq 3 k] at e2 e3 e4 f0 f1 f2;have akH:=LQ;clear LQ QD hxv;generalize amg:Ek[k]=x at*
           obtain ⟨⟨⟨Ax,cx⟩,⟨Ex,dx⟩⟩,⟨⟨sx,xs⟩,ps⟩⟩:=x;simp only at e2 e3 e4 k1 k2 k3 k4 k5 k6 akH hzx;have hls:ls.length=kc:=hLt.o.len;have Ce:=aA (fun W (h:Below wr.heap.size wr W)=>MB sx s Ax Ac xs.length kc cx cc xs ls W (k5.aC h) (hLr.o.aC h) k1 k2 q1 q2 (by omega) (by omega) Hls.o);rw [hzx,hZt.o.eq] at Ce;have anl:=aA QI;have ow:Hid (∀W,Below wr.heap.size wr W->W.cell? ⟨g,k*3,none⟩=some (.bool sx)∧W.cell? ⟨g,k*3+1,none⟩=some (.slice Ax xs.length cx)∧W.cell? ⟨gc,0,none⟩=some (.bool s)∧W.cell? ⟨gc,1,none⟩=some (.slice Ac kc cc)):=fun W hW=>
            ⟨(hW.cell (p:=⟨g,k*3,none⟩) I5.o.lt).trans e2,(hW.cell (p:=⟨g,k*3+1,none⟩) I5.o.lt).trans e3,(hW.cell (p:=⟨gc,0,none⟩) Wp.o.lt).trans d0,(hW.cell (p:=⟨gc,1,none⟩) Wp.o.lt).trans d1⟩
           clear k5 k6 QI hzx amg I6;(go_wp2_with fail);go_region_with
            (first | (go_at_call 42;refine (Ce.o _ (by first | exact aU.drew | exact aU)).mono ?_;rintro e we ⟨s1,Yo,GZ,rP,l1,rfl,z1,z2,z3,z4,z5,z6,se⟩;have mN:Below wr.heap.size wr we:=(by first | exact aU.drew.trans se | exact se);have fe0:=(mN.frozen (p:=⟨g,k*3,none⟩) I5.o.lt).trans f0;have fe1:=(mN.frozen (p:=⟨g,k*3+1,none⟩) I5.o.lt).trans f1;obtain ⟨ce0,ce1,_,_⟩:=ow.o _ mN))
           all_goals
            obtain rfl:=z4.len;have hfr:0<l1.length->∀y,Yo=some y->y.block≠g:=fun h0 y hy=>by
             have h5:wr.heap.size<=y.block:=z6 h0 y hy;have:=I5.o.lt;omega
            have hO9:=hpt.o we s1 Yo rP l1 (I5.o.aC mN) z4 z2 z3 hfr;rw [aq 3 k] at hO9;have HO9:=aA hO9;obtain ⟨p1,p4,p2,p3⟩:=abm.o s1 Yo rP l1 (z5 anl.o);have P4:=aA p4;have P1:=aA p1;have P2:=aA p2;have P3:=aA p3;have Uz:Hid (Only (fun j=>j=g) wt ((we.setCell ⟨g,k*3,none⟩ (.bool s1)).setCell ⟨g,k*3+1,none⟩ (.slice Yo l1.length rP))):=((TM.o.trans (jG mN)).setCell (p:=⟨g,k*3,none⟩) rfl _).setCell (p:=⟨g,k*3+1,none⟩) rfl _;clear hO9 p1 p2 p3 p4 hfr hpt abm z4 z5 z6 mN se ow Ce ce0 ce1 fe0 fe1 d0 d1 hLr Wp I5 TM NC hbk hvk YM;generalize Ek.set k (zX (((Ax,cx),Ex,dx),(sx,xs),ps) s1 Yo rP l1)=Eq at*
            generalize (we.setCell ⟨g,k*3,none⟩ (.bool s1)).setCell ⟨g,k*3+1,none⟩ (.slice Yo l1.length rP)=wq at*
            (go_wp2_with fail);go_roundw
            case rel=>exact ⟨k+1,Eq,by omega,by go_num,HO9,P3,P1,P4,P2,Uz⟩
            case measure=>simp [intOf];omega
         . obtain rfl:me=k:=by omega
           (have dH:¬(me:Int)<(me:Int):=by omega);have LV:=(HD2.o.aC hBt.o).keep (TM.o.block w.heap.size (HD2.o.aC hBt.o).lt (fun e=>by have e':w.heap.size=g:=e;omega));have y0:=LV.cell0;have y1:=LV.cell1;have yf0:=LV.frozen 0;have yf1:=LV.frozen 1;have HDw:=aA LV;have ZB:Hid (Below w.heap.size w wr):=(FK.o.tm hBt.o).trans (TM.o.below (by have:=FK.o.size;have:=hBt.o.size;omega) (fun j hj=>by have e':j=g:=hj;omega));have hTv:Hid (aP (Ek.map (·.2))=BR M):=by
            show _=_;have h3:=hvk.o;rw [iC (by rw [hlP.o];exact aL),DT (by rw [hlP.o];exact aL),tI] at h3;unfold BR aP;rw [jl,HCZ.o];exact h3
           have hPE:Hid (eH n (Ek.map (·.2))):=⟨by rw [hTv.o];refine EA ?_ (by rw [HCZ.o];exact QL.o);rw [<- HM.o];exact HP.o.mv,fun t ht=>by
            obtain ⟨x,hx,rfl⟩:=af.1 ht;exact NC.o x hx⟩
           have F:Hid (∀W (hl:aD W Ac kc ls) (hO:uX W w0.heap.size g Ek) (hb:Below w.heap.size w W),pY w n (aP L) (.returned (.tuple #[.agg #[.bool s,.slice Ac kc cc],.slice (some ⟨g,0,none⟩) me c1,.int .i64 0])) W):=fun W hl hO hb=>by
            have h3:=hO.trs;(have h4:me=(Ek.map (·.2)).length:=by rw [dJ];exact YM.o.symm);rw [YM.o] at h3;have h5:me<=c1:=h1;rw [h4] at h3 h5 ⊢;exact ⟨s,Ac,kc,cc,ls,some ⟨g,0,none⟩,c1,Ek.map (·.2),E.map (·.2),rfl,q1,q2,hl,HP.o,HE.o,by rw [HM.o,HCZ.o];exact hZt.o,h5,h2,h3,hPE.o,by rw [HM.o];exact hTv.o,hb⟩
           have HOk:=aA (I5.o.Re HDw.o (fun e=>by omega) (.bool s) (.slice Ac kc cc));clear LV hvk NC TM I5;(go_wp2_with fail);refine bK (iX (fn:=Tryz.f23) rfl _ _ _ _ _ _ _ rfl (HDw.o.set (.bool s) (.slice Ac kc cc)) underlying41 rfl bQ) rfl ?_;exact F.o _ (HDw.o.limbs _ _ rfl rfl hLr.o) HOk.o ((ZB.o.setCell (p:=⟨w.heap.size,0,none⟩) aL _).setCell (p:=⟨w.heap.size,1,none⟩) aL _)
