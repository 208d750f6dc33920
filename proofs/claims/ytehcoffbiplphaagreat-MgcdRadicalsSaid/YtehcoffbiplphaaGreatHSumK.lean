import Derived.Test.YtehcoffbiplphaaGreatHKeyK
set_option linter.all false
set_option maxHeartbeats 4000000
set_option maxRecDepth 100000
namespace Go.Proofs.YtehcoffbiplphaaGreat
open Go.Proofs.Tryz
open Go.RowKit
variable {w w':World} {n B b m g nc:Nat} {v:Value} {k:TypeId}
def pU.look {D:DataW Value} {L:Mv}(h:pU w D n B L) {p:fI}(hp:iY n p) {ps:List MemPlace}(hv:mZ v=some (D.atKey (bH p) (.held (.agg #[.bool false,.slice Option.none 0 0])),ps)):Yz w v B (gh L p):=by
 obtain ⟨s,A,k,c,rfl,e⟩:=LK hv;injection e with e1 e2
 cases hh:Maps.has D (bH p) with
 | true=>
   obtain ⟨v',h1,h2⟩:=h.at_ p hp hh;rw [h1] at e1;injection e1 with e1
   rw [<- e1];exact h2
 | false=>
   rw [Maps.atKey_of_not_has hh] at e1;injection e1 with e1
   rw [<- e1,h.none p hp hh];exact ⟨false,Option.none,0,0,[],rfl,aL,by omega,bL _,aD.nil _ _,rfl⟩
def aev (w:World):(zeroValue 41).run prog w=.ok (.agg #[.bool false,.slice none 0 0]) w:=by kernel_rfl
def YY {R:Value->Option (DataW Value×List MemPlace)} {D:DataW Value}(hm:w.ownsMap prog k R b m D) (hg:Only (fun x=>x=b) w w') {p:Addr} (hp:p.block<w.heap.size) (h:w.cell? p=some v):w'.cell? p=some v:=by
 by_cases e:p.block=b
 . obtain ⟨es,clock,hb,_⟩:=hm
   rw [<- e] at hb;simp [World.cell?,hb] at h
 . rw [hg.cell hp e];exact h
def LA {A:Option Addr} {xs:List Int} {R:Value->Option (DataW Value×List MemPlace)} {D:DataW Value}(h:aD w A n xs) (hm:w.ownsMap prog k R b m D) (hg:Only (fun x=>x=b) w w'):aD w' A n xs:=
 ⟨h.len,fun hn=>by
   obtain ⟨bb,o,e,hb,hc⟩:=h.at_ hn;exact ⟨bb,o,e,iE hb hg.size,fun i hi=>YY hm hg (p:=⟨bb,o+i,none⟩) hb (hc i hi)⟩,h.ok⟩
def aex {z:Int} {R:Value->Option (DataW Value×List MemPlace)} {D:DataW Value}(h:Yz w v B z) (hm:w.ownsMap prog k R b m D) (hg:Only (fun x=>x=b) w w'):Yz w' v B z:=by
 obtain ⟨s,A,kk,c,ls,e,h1,h2,h3,h4,h5⟩:=h.ex;exact ⟨s,A,kk,c,ls,e,h1,h2,h3,LA h4 hm hg,h5⟩
def Oc {D':DataW Value} {L:Mv} {R:Value->Option (DataW Value×List MemPlace)} {D:DataW Value}(h:pU w D' n B L) (hm:w.ownsMap prog k R b m D) (hg:Only (fun x=>x=b) w w'):pU w' D' n B L:=
 ⟨h.key,fun p hp hh=>by obtain ⟨v,h1,h2⟩:=h.at_ p hp hh;exact ⟨v,h1,aex h2 hm hg⟩,h.none,h.isMap⟩
def tP (w:World) (b nc n B:Nat) (L:Mv):Prop:=∃D:DataW Value,w.ownsMap prog 68 mZ b nc D∧pU w D n B L
def yb {R:Value->Option (DataW Value×List MemPlace)} {D:DataW Value}(hm:w.ownsMap prog k R b m D) (hb:Below w.heap.size w w'):w'.ownsMap prog k R b m D:=
 hm.kept (row:=none) ⟨hb.os,hb.tape,hb.output,hb.size,fun i hi _=>hb.block i hi⟩ (by simp)
def apm (b nc n B C:Nat) (L:Mv) (p:fI) (s:Bool) (A:Option Addr) (k c:Nat) (ls:List Int) (w:World) (hs:tP w b nc n B L) (hp:iY n p) (jV:nc<maxLen) (hx:aD w A k ls) (hkc:k<=c) (hc:c<=9223372036854775807) (hk:k<=C) (hB:B<=1000000) (hC:C<=1000000):
 aB 43 #[.map (some b),GC p,.agg #[.bool s,.slice A k c]] w fun e w'=>e=.returned (.tuple #[])∧tP w' b (nc+1) n (max B C+1) (L++[(p,aI s ls)])∧Only (fun x=>x=b) w w':=by
 obtain ⟨D,hm,hd⟩:=hs;have GL:=Xz hp.len hp.i64;have hlt:=hm.lt;have Hp:=aA hp;have Hk:=aA GL;unfold GC at GL ⊢;obtain ⟨x0,x1,x2,x3,x4,x5,rfl⟩:∃x0 x1 x2 x3 x4 x5,p=[x0,x1,x2,x3,x4,x5]:=by
  match p,hp.len with
  | [x0,x1,x2,x3,x4,x5],_=>exact ⟨_,_,_,_,_,_,rfl⟩
 show Calls _ _ #[.map (some b),.agg #[.int .i64 x0,.int .i64 x1,.int .i64 x2,.int .i64 x3,.int .i64 x4,.int .i64 x5],.agg #[.bool s,.slice A k c]] _ _;have air:keyOf prog 68 (.agg #[.int .i64 x0,.int .i64 x1,.int .i64 x2,.int .i64 x3,.int .i64 x4,.int .i64 x5])=some (bH [x0,x1,x2,x3,x4,x5]):=GL;clear GL hp;go_enter func43,ntmps43
 go_wp2_with fail
 have b2:Below w.heap.size w ((w.alloc (.cells #[.int .i64 x0,.int .i64 x1,.int .i64 x2,.int .i64 x3,.int .i64 x4,.int .i64 x5] 68)).alloc (.cells #[.bool s,.slice A k c] 41)):=(aU.alloc aL _).alloc (by simp) _;have fM:((w.alloc (.cells #[.int .i64 x0,.int .i64 x1,.int .i64 x2,.int .i64 x3,.int .i64 x4,.int .i64 x5] 68)).alloc (.cells #[.bool s,.slice A k c] 41)).heap[w.heap.size]? =some (.cells #[.int .i64 x0,.int .i64 x1,.int .i64 x2,.int .i64 x3,.int .i64 x4,.int .i64 x5] 68 (0,0)):=
  (xo _ _ (by simp)).trans (bM _ _)
 have KL:=Duo.new (w.alloc (.cells #[.int .i64 x0,.int .i64 x1,.int .i64 x2,.int .i64 x3,.int .i64 x4,.int .i64 x5] 68)) (.bool s) (.slice A k c);rw [aJ] at KL;have hsz:w.heap.size+1<((w.alloc (.cells #[.int .i64 x0,.int .i64 x1,.int .i64 x2,.int .i64 x3,.int .i64 x4,.int .i64 x5] 68)).alloc (.cells #[.bool s,.slice A k c] 41)).heap.size:=by simp
 generalize ((w.alloc (.cells #[.int .i64 x0,.int .i64 x1,.int .i64 x2,.int .i64 x3,.int .i64 x4,.int .i64 x5] 68)).alloc (.cells #[.bool s,.slice A k c] 41))=wt at*
 have pc:Hid (∀W,Below wt.heap.size wt W->W.cell? ⟨w.heap.size,0,none⟩=some (.int .i64 x0)∧W.cell? ⟨w.heap.size,1,none⟩=some (.int .i64 x1)∧W.cell? ⟨w.heap.size,2,none⟩=some (.int .i64 x2)∧W.cell? ⟨w.heap.size,3,none⟩=some (.int .i64 x3)∧W.cell? ⟨w.heap.size,4,none⟩=some (.int .i64 x4)∧W.cell? ⟨w.heap.size,5,none⟩=some (.int .i64 x5)∧W.cell? ⟨w.heap.size+1,0,none⟩=some (.bool s)∧W.cell? ⟨w.heap.size+1,1,none⟩=some (.slice A k c)):=fun W hW=>by
  have hr:=(hW.block w.heap.size (by omega)).trans fM;have Ra:=KL.aC hW;exact ⟨(dQ W w.heap.size 0 _ _ (0,0) hr).trans rfl,(dQ W w.heap.size 1 _ _ (0,0) hr).trans rfl,(dQ W w.heap.size 2 _ _ (0,0) hr).trans rfl,(dQ W w.heap.size 3 _ _ (0,0) hr).trans rfl,(dQ W w.heap.size 4 _ _ (0,0) hr).trans rfl,(dQ W w.heap.size 5 _ _ (0,0) hr).trans rfl,Ra.cell0,Ra.cell1⟩
 obtain ⟨y0,y1,y2,y3,y4,y5,z0,z1⟩:=pc.o wt aU;have hmt:=yb hm b2;have hdt:=hd.aC b2;have hxt:=hx.aC b2;have Hm:=aA hmt;have Hd:=aA hdt;have Hx:=aA hxt;clear fM KL hmt hdt hxt hm hd hx hsz;obtain ⟨v0,ps0,aDY,Vy⟩:=Hm.o.drew.lookup yQ underlying63 (aev _) (R:=mZ) rfl air;obtain ⟨s0,A0,k0,c0,ls0,rfl,h1,h2,h3,h4,h5⟩:=(Hd.o.look Hp.o Vy).ex;have H4:=aA h4;have H5:=aA h5;clear Vy h4 h5;go_region_with (go_at_call 56;refine (avW s0 s A0 A k0 k c0 c ls0 ls _ H4.o.drew Hx.o.drew h1 h2 hkc hc (by omega) (by omega)).mono ?_;rintro e w1 ⟨s1,A1,k1,c1,Xr,rfl,g1,g2,g3,g4,g5,Fo⟩;have fu:Below wt.heap.size wt w1:=aU.drew.trans Fo;obtain ⟨y0',y1',y2',y3',y4',y5',z0',z1'⟩:=pc.o w1 fu;obtain ⟨w7,aDX,hm7,zl⟩:=(yb Hm.o fu).update yQ underlying63 jV air (Pz s1 A1 k1 c1))
 all_goals
  have o1:Only (fun x=>x=b) w w1:=⟨fu.os.trans b2.os,fu.tape.trans b2.tape,fu.output.trans b2.output,aG b2.size fu.size,fun i hi _=>(fu.block i (iE hi b2.size)).trans (b2.block i hi)⟩;have o2:Only (fun x=>x=b) w1 w7:=(Only.fK zl).mono (fun i hi=>by injection hi with hi;exact hi.symm);have d1:=(Oc (Hd.o.aC fu) (yb Hm.o fu) o2).mono (C:=max B C+1) (by omega);have z1':Yz w7 (.agg #[.bool s1,.slice A1 k1 c1]) (max B C+1) (gh L [x0,x1,x2,x3,x4,x5]+aI s ls):=
   ⟨s1,A1,k1,c1,Xr,rfl,g1,g2,by omega,LA g4 (yb Hm.o fu) o2,by rw [<- H5.o];exact g5.eq⟩
  have d2:=d1.put Hp.o z1';have Fin:Hid (tP w7 b (nc+1) n (max B C+1) (L++[([x0,x1,x2,x3,x4,x5],aI s ls)])∧Only (fun x=>x=b) w w7):=⟨⟨_,hm7,d2⟩,o1.trans o2⟩;clear d1 z1' d2 o1 o2 hm7 zl;go_end0
  exact ⟨rfl,Fin.o⟩
def ints_oneCell (xs:List Int):∀v∈ints xs,v.oneCell'=true:=by
 intro v hv;obtain ⟨x,_,rfl⟩:=af.1 hv;rfl
def acG (W:World) (g:Nat) (E:Option Addr) (n e:Nat) (ps:fI) (ty:TypeId) (hE:Ints W E n ps) (hn:n<=6) (hg:W.heap[g]? =some (.cells #[.int .i64 0,.int .i64 0,.int .i64 0,.int .i64 0,.int .i64 0,.int .i64 0] 68 (0,0))):
 (Builtin.copy_ #[42,42] ty #[.slice (some ⟨g,0,none⟩) 6 6,.slice E n e]).run prog W=.ok (.int .i64 (n:Int)) (W.setRow g (ints (iZ n ps)).toArray):=by
 have hl:=hE.len;rcases jM n with h0 | h0
 . subst h0
   obtain rfl:=lK hl;have:=run_copy_none (P:=prog) W 42 42 ty 3 (some ⟨g,0,none⟩) E 6 6 0 e underlying42 (by kernel_rfl) rfl;rw [this];have hs:=setRow_self W g _ 68 (0,0) hg;show Result.ok _ W=Result.ok _ (W.setRow g #[.int .i64 0,.int .i64 0,.int .i64 0,.int .i64 0,.int .i64 0,.int .i64 0]);rw [hs];rfl
 . obtain ⟨b,o,rfl,hb,hc⟩:=hE.at_ h0
   have hli:(ints ps).length=n:=by simp [ints,hl]
   have:=run_copy_row (P:=prog) W 42 42 ty 3 g 0 6 6 ⟨b,o,none⟩ n e _ 68 (ints ps) underlying42 (by kernel_rfl) hg (by rw [hli];show n=min n 6;omega) (fun j v hj=>by
    have hjl:j<ps.length:=by
     have:=(F3.1 hj).1;rwa [qg] at this
    rw [qh hjl] at hj;injection hj with hj
    rw [<- hj];have e:(⟨b,o,none⟩:Addr).add j=⟨b,o+j,none⟩:=by
     unfold Addr.add;split
     . rename_i e;subst e;rfl
     . rfl
    rw [e];exact hc j (by omega)) (by rw [hli];show 0+n<=6;omega) (ints_oneCell ps)
   rw [this,hli];have e1:(#[Value.int .i64 0,.int .i64 0,.int .i64 0,.int .i64 0,.int .i64 0,.int .i64 0].toList.take 0++ints ps++ #[Value.int .i64 0,.int .i64 0,.int .i64 0,.int .i64 0,.int .i64 0,.int .i64 0].toList.drop (0+n))=ints (iZ n ps):=by
    unfold iZ;have h6:[Value.int .i64 0,.int .i64 0,.int .i64 0,.int .i64 0,.int .i64 0,.int .i64 0]=List.replicate 6 (Value.int .i64 0):=rfl;show []++ints ps++List.drop (0+n) [Value.int .i64 0,.int .i64 0,.int .i64 0,.int .i64 0,.int .i64 0,.int .i64 0]=_;rw [h6,bh,List.drop_replicate];simp [ints]
   rw [e1];rfl
def below_setRow {w0:World}(h:Below B w0 w) (hg:B<=g) (cs:Array Value):Below B w0 (w.setRow g cs):=
 ⟨h.os,h.tape,h.output,by have:=h.size;simpa [World.setRow] using this,fun k hk=>by
   have hne:¬g=k:=by omega
   rw [<- h.block k hk];simp [World.setRow,wR,hne]⟩
def setRow_other {k:Nat}(h:k≠g) (cs:Array Value):(w.setRow g cs).heap[k]? =w.heap[k]? :=by
 have hne:¬g=k:=fun e=>h e.symm;simp [World.setRow,wR,hne]
structure Wh (n C:Nat) (L:List TV):Prop where
 len:∀t∈L,t.2.length=n
 bd:∀t∈L,∀x∈t.2,0<=x∧x<=4611686018427387904
 co:∀t∈L,t.1.2.length<=C
def K4 (n C:Nat) (A:Option Addr) (m c:Nat) (L:List TV) (w:World) (hx:iI w A m L) (hm:m<=100000) (hn:n<=6) (hC:C<=800000) (hL:Wh n C L):
 aB 38 #[.slice A m c] w fun e w'=>∃b,e=.returned (.map (some b))∧w.heap.size<=b∧tP w' b m n (C+m) (liftM n (aP L))∧Below w.heap.size w w':=by
 have Hl:=aA hx.len;have HL:=aA hL;have Hx:=aA hx;have hmm:=@run_makeMap prog;clear hL hx;go_enter func38,ntmps38
 go_wp2_with fail
 clear hmm;go_loopw [10] (fun i wr=>∃k:Nat,k<=m∧i=.int .i64 k∧Hid (tP wr w.heap.size k n (C+k) (liftM n (aP (L.take k))))∧Below w.heap.size w wr) (fun i _=>m-(intOf i).toNat)
 case atStart=>
  exact ⟨0,by omega,rfl,⟨.map [],World.ownsMap_made _ _ _ _,pU.start _ _ _⟩,aU.alloc aL _⟩
 case round=>
  obtain ⟨k,hk,rfl,CD,bC⟩:=hrel;obtain ⟨wo,rfl⟩:∃wo:World,wo=wr:=⟨_,rfl⟩;by_cases hlt:k<m
  . obtain ⟨b,o,rfl,hb,hc⟩:=Hx.o.at_ (by omega)
    (have Ds:k<L.length:=by rw [Hl.o];exact hlt);obtain ⟨Ai,ci,Ei,ei,e1,e2,e3,e4,e5,e6,e7,e8,e9⟩:=hc k Ds;have M6:L[k]∈L:=bR Ds;have t1:=HL.o.len _ M6;have t2:=HL.o.bd _ M6;have t3:=HL.o.co _ M6;(have RV:Hid (L.take (k+1)=L.take k++[L[k]]):=by show _=_;rw [kG Ds]);clear hc M6;generalize L[k]=x at*
    obtain ⟨⟨s,xs⟩,ps⟩:=x;simp only at e1 e2 e3 e4 e6 e8 e9 t1 t2 t3;(have dH:(k:Int)<(m:Int):=by omega);(have wT:(0:Int)<=(k:Int):=by omega);have k1:=(bC.cell (p:=⟨b,o+3*k,none⟩) hb).trans e1;have k2:=(bC.cell (p:=⟨b,o+(3*k+1),none⟩) hb).trans e2;have k3:=(bC.cell (p:=⟨b,o+(3*k+2),none⟩) hb).trans e3;rw [aq 3 k] at k1 k2 k3;rw [<- jb] at k2 k3;have E8:=aA (e8.aC bC);rw [t1] at k3 e9 e6;have E9:=aA (e9.aC bC);have T2:=aA t2;have T1:=aA t1;clear e8 e9 e1 e2 e3 t2 t1;(go_wp2_with fail);have NJ:Below wo.heap.size wo ((wo.alloc (.cells #[.bool s,.slice Ai xs.length ci,.slice Ei n ei] 44)).alloc (.cells #[.int .i64 0,.int .i64 0,.int .i64 0,.int .i64 0,.int .i64 0,.int .i64 0] 68)):=(aU.alloc aL _).alloc (by simp) _;have qm:=bM (wo.alloc (.cells #[.bool s,.slice Ai xs.length ci,.slice Ei n ei] 44)) (.cells #[.int .i64 0,.int .i64 0,.int .i64 0,.int .i64 0,.int .i64 0,.int .i64 0] 68);rw [aJ] at qm;have htm:=(xo (wo.alloc (.cells #[.bool s,.slice Ai xs.length ci,.slice Ei n ei] 44)) (.cells #[.int .i64 0,.int .i64 0,.int .i64 0,.int .i64 0,.int .i64 0,.int .i64 0] 68) (r:=wo.heap.size) (by simp)).trans (bM wo _);generalize ((wo.alloc (.cells #[.bool s,.slice Ai xs.length ci,.slice Ei n ei] 44)).alloc (.cells #[.int .i64 0,.int .i64 0,.int .i64 0,.int .i64 0,.int .i64 0,.int .i64 0] 68))=wt at*
    have hcp:=fun ty=>acG wt.drew (wo.heap.size+1) Ei n ei ps ty ((E9.o.aC NJ).drewN 1) hn qm;have c0:=(dQ wt wo.heap.size 0 _ _ (0,0) htm).trans rfl;have c1:=(dQ wt wo.heap.size 1 _ _ (0,0) htm).trans rfl;have c2:=(dQ wt wo.heap.size 2 _ _ (0,0) htm).trans rfl;go_region
    have fM:=UA wt.drew (wo.heap.size+1) _ (ints (iZ n ps)).toArray 68 (0,0) qm;have akR:(wt.drew.setRow (wo.heap.size+1) (ints (iZ n ps)).toArray).heap[wo.heap.size]? =_:=(setRow_other (by omega) _).trans htm;have nZ:Below wo.heap.size wo (wt.drew.setRow (wo.heap.size+1) (ints (iZ n ps)).toArray):=below_setRow NJ.drew (by omega) _;generalize wt.drew.setRow (wo.heap.size+1) (ints (iZ n ps)).toArray=w3 at*
    obtain ⟨x0,x1,x2,x3,x4,x5,KH⟩:∃x0 x1 x2 x3 x4 x5,iZ n ps=[x0,x1,x2,x3,x4,x5]:=by
     match iZ n ps,qW hn T1.o with
     | [x0,x1,x2,x3,x4,x5],_=>exact ⟨_,_,_,_,_,_,rfl⟩
    rw [KH] at fM;have d0:=(dQ w3 (wo.heap.size+1) 0 _ _ (0,0) fM).trans rfl;have d1:=(dQ w3 (wo.heap.size+1) 1 _ _ (0,0) fM).trans rfl;have d2:=(dQ w3 (wo.heap.size+1) 2 _ _ (0,0) fM).trans rfl;have d3:=(dQ w3 (wo.heap.size+1) 3 _ _ (0,0) fM).trans rfl;have d4:=(dQ w3 (wo.heap.size+1) 4 _ _ (0,0) fM).trans rfl;have d5:=(dQ w3 (wo.heap.size+1) 5 _ _ (0,0) fM).trans rfl;have q0:=(dQ w3 wo.heap.size 0 _ _ (0,0) akR).trans rfl;have q1:=(dQ w3 wo.heap.size 1 _ _ (0,0) akR).trans rfl;change _=some (Value.int .i64 x0) at d0
    change _=some (Value.int .i64 x1) at d1
    change _=some (Value.int .i64 x2) at d2
    change _=some (Value.int .i64 x3) at d3
    change _=some (Value.int .i64 x4) at d4
    change _=some (Value.int .i64 x5) at d5
    change _=some (Value.bool s) at q0
    change _=some (Value.slice Ai xs.length ci) at q1
    (have rN:iY n [x0,x1,x2,x3,x4,x5]:=by rw [<- KH];exact EG hn T1.o T2.o);have aij:tP w3 w.heap.size k n (C+k) (liftM n (aP (L.take k))):=by
     obtain ⟨D,m1,m2⟩:=CD.o;exact ⟨D,yb m1 nZ,m2.aC nZ⟩
    have Ca:Hid (aB 43 #[.map (some w.heap.size),.agg #[.int .i64 x0,.int .i64 x1,.int .i64 x2,.int .i64 x3,.int .i64 x4,.int .i64 x5],.agg #[.bool s,.slice Ai xs.length ci]] w3 _):=
     apm w.heap.size k n (C+k) C _ [x0,x1,x2,x3,x4,x5] s Ai xs.length ci xs w3 aij rN (by unfold maxLen;omega) (E8.o.aC nZ) e4 e5 t3 (by omega) (by omega)
    have RH:=aA (bC.tm nZ);have aBu:=aA KH;clear hcp c0 c1 c2 qm htm akR fM nZ NJ rN aij CD E8 E9 KH;(go_wp2_with fail);refine Ca.o.mono ?_;rintro e w4 ⟨rfl,hs4,ho4⟩;have TF:Below w.heap.size w w4:=RH.o.trans (ho4.below RH.o.size (fun x hx=>by omega));have hs5:Hid (tP w4 w.heap.size (k+1) n (C+(k+1)) (liftM n (aP (L.take (k+1))))):=by
     (have e1:max (C+k) C+1=C+(k+1):=by omega);rw [e1] at hs4;have e2:liftM n (aP (L.take (k+1)))=liftM n (aP (L.take k))++[([x0,x1,x2,x3,x4,x5],aI s xs)]:=by
      rw [RV.o,eN,Mu,<- aBu.o];rfl
     show tP _ _ _ _ _ _;rw [e2];exact hs4
    clear hs4 ho4;(go_wp2);go_roundw
    case rel=>exact ⟨k+1,by omega,by go_num,hs5,TF⟩
    case measure=>simp [intOf];omega
  . obtain rfl:k=m:=by omega
    (have dH:¬(k:Int)<(k:Int):=by omega);have eR:Hid (L.take k=L):=iC (by rw [Hl.o];exact aL);(go_wp2_with fail);go_ret;have hs:=CD.o;rw [eR.o] at hs;exact ⟨w.heap.size,rfl,aL,hs,bC⟩
def BD {L:Mv}(h:tP w b nc n B L) (hb:Below w.heap.size w w'):tP w' b nc n B L:=by
 obtain ⟨D,m1,m2⟩:=h;exact ⟨D,yb m1 hb,m2.aC hb⟩
def XD {C:Nat} {L:Mv}(h:tP w b nc n B L) (hb:B<=C):tP w b nc n C L:=by
 obtain ⟨D,m1,m2⟩:=h;exact ⟨D,m1,m2.mono hb⟩
