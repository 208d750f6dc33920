import Derived.Test.YtehcoffbiplphaaGreatHSrtK
set_option linter.all false
set_option maxHeartbeats 8000000
set_option maxRecDepth 1000000
namespace Go.Proofs.YtehcoffbiplphaaGreat
open Go.Proofs.Tryz
open Go.RowKit
variable {w w' w0 wr mO w2 wd:World} {S:Nat->Prop} {A:Option Addr} {n k b B r g cap base C c gl i:Nat} {xs ls:List Int} {y:Addr} {e:Ending} {d:Int} {s:Bool}
def W9:(prog.info? 44).map (fun i=>(i.zero,i.size,i.bytes))=some (some (.agg #[.bool false,.slice none 0 0,.slice none 0 0]),3,56):=by kernel_rfl
def oU (h:Below w.heap.size w w'):w.grownBy w' none:=⟨h.os,h.tape,h.output,h.size,fun i hi _=>h.block i hi⟩
structure Q7 (w0 wr:World) (D:DataW Value) (n base:Nat) (v:Value) (Lx:Mv) (left:Lit->Bool) (E:List ax):Prop where
 own:wr.ownsRow base 44 3 v E.length (aS E)
 took:DU D n Lx left (aP (E.map (·.2)))
 ok:∀x∈E,gV wr x∧dN x.2.1.1 x.2.1.2 (aI x.2.1.1 x.2.1.2)
 far:∀x∈E,(0<x.2.1.2.length->∀y,x.1.1.1=some y->v.ownBlock≠some y.block)∧(0<x.2.2.length->∀y,x.1.2.1=some y->v.ownBlock≠some y.block)
 up:∀x∈E,(0<x.2.1.2.length->∀y,x.1.1.1=some y->base<=y.block)∧(0<x.2.2.length->∀y,x.1.2.1=some y->base<=y.block)
 aC:Below w0.heap.size w0 wr
 low:base<=wr.heap.size
def afE {E:List ax} {x:ax}(hx:x∈E):bS x.2∈aP (E.map (·.2)):=af.2 ⟨x.2,af.2 ⟨x,hx,rfl⟩,rfl⟩
section
variable {w0 wr : World} {D : DataW Value} {n base : Nat} {v : Value} {Lx : Mv} {left : Lit -> Bool} {E : List ax}
def Q7.len (h:Q7 w0 wr D n base v Lx left E):∀x∈E,x.2.2.length=n:=fun _x hx=>h.took.len _ (afE hx)
def Q7.tls (h:Q7 w0 wr D n base v Lx left E):Tls wr base v n E:=⟨h.own,fun x hx=>(h.ok x hx).1,h.len,h.far⟩
end
def iM {x:ax} (h:gV w x) (ho:Only S w w') (h1:0<x.2.1.2.length->∀y,x.1.1.1=some y->¬S y.block) (h2:0<x.2.2.length->∀y,x.1.2.1=some y->¬S y.block):gV w' x:=by
 obtain ⟨k1,k2,k3,k4,k5,k6⟩:=h;refine ⟨k1,k2,k3,k4,⟨k5.len,fun hn=> ?_,k5.ok⟩,zh k6 ho h2⟩;obtain ⟨b,o,e,hb,hc⟩:=k5.at_ hn;refine ⟨b,o,e,iE hb ho.size,fun i hi=> ?_⟩;rw [ho.cell (p:=⟨b,o+i,none⟩) hb (h1 hn ⟨b,o,none⟩ e)];exact hc i hi
def yf (h:aD w A n xs) (hn:0<n) (hy:A=some y):y.block<w.heap.size:=by
 obtain ⟨b,o,e,hb,_⟩:=h.at_ hn;rw [e] at hy;injection hy with hy
 rw [<- hy];exact hb
def xY (h:Ints w A n xs) (hn:0<n) (hy:A=some y):y.block<w.heap.size:=by
 obtain ⟨b,o,e,hb,_⟩:=h.at_ hn;rw [e] at hy;injection hy with hy
 rw [<- hy];exact hb
def Pg {P:Program} {k:TypeId} {R:Value->Option (DataW Value×List MemPlace)} {D:DataW Value}(h:w.ownsMap P k R b n D):Maps.size D<=n:=by
 obtain ⟨es,clock,_,_,hs,rfl⟩:=h;rw [Maps.size_eq,Go.length_sorted,dJ,WZ];exact hs
def Eh (h:Below B w0 w) (hg:w.grownBy w' (some b)) (hB:B<=w.heap.size) (hb:B<=b):Below B w0 w':=h.grown hg hB (fun k hk=>by injection hk;omega)
def jG (h:Below w.heap.size w w'):Only S w w':=⟨h.os,h.tape,h.output,h.size,fun i hi _=>h.block i hi⟩
def Q7.next {w3:World} {D:DataW Value} {v:Value} {Lx:Mv} {left left':Lit->Bool} {E:List ax} {x:ax} {o:Obj}(h:Q7 w0 wr D n (r+1) v Lx left E)
 (hr:w0.heap.size<=r) (wU:wr.grownBy mO (some r)) (cN:Below mO.heap.size mO w2) (hx:gV w2 x) (hz:dN x.2.1.1 x.2.1.2 (aI x.2.1.1 x.2.1.2))
 (hf1:0<x.2.1.2.length->∀y,x.1.1.1=some y->mO.heap.size<=y.block) (hf2:0<x.2.2.length->∀y,x.1.2.1=some y->mO.heap.size<=y.block)
 (aa:w3.ownsRow (r+1) 44 3 (.slice (some ⟨g,0,none⟩) (E.length+1) cap) (E.length+1) (aS E++kU x)) (rD:(w2.alloc o).grownBy w3 v.ownBlock) (gZ:v.ownBlock=some g∨g=w2.heap.size+1)
 (P9:DU D n Lx left' (aP ((E++[x]).map (·.2)))):Q7 w0 w3 D n (r+1) (.slice (some ⟨g,0,none⟩) (E.length+1) cap) Lx left' (E++[x]):=by
 have tV:∀k,v.ownBlock=some k->r+1<=k∧k<wr.heap.size:=fun k hk=>h.own.lt k hk;have uF:=wU.size;have vH:=cN.size;have EW:=h.low;have o1:Only (fun k=>k=r) wr w2:=((Only.fK wU).mono (fun i hi=>by injection hi with hi;exact hi.symm)).trans (jG cN);have b3:Below w2.heap.size w2 (w2.alloc o):=aU.alloc aL _;have o3:Only (fun k=>v.ownBlock=some k) (w2.alloc o) w3:=(Only.fK rD).mono (fun i hi=>by first | exact hi | exact hi.symm);have hold:∀z∈E,gV w2 z:=fun z hz=>iM (h.ok z hz).1 o1 (fun h0 y hy e=>by have:=(h.up z hz).1 h0 y hy;omega) (fun h0 y hy e=>by have:=(h.up z hz).2 h0 y hy;omega);have aqS:(0<x.2.1.2.length->∀y,x.1.1.1=some y->v.ownBlock≠some y.block)∧(0<x.2.2.length->∀y,x.1.2.1=some y->v.ownBlock≠some y.block):=
  ⟨fun h0 y hy e=>by have:=hf1 h0 y hy;have:=(tV _ e).2;omega,fun h0 y hy e=>by have:=hf2 h0 y hy;have:=(tV _ e).2;omega⟩
 have wV:∀z∈E++[x],(0<z.2.1.2.length->∀y,z.1.1.1=some y->v.ownBlock≠some y.block)∧(0<z.2.2.length->∀y,z.1.2.1=some y->v.ownBlock≠some y.block):=fun z hz=>by
  rcases gT.1 hz with hz | hz
  . exact h.far z hz
  . rw [dS.1 hz];exact aqS
 have eR:∀z∈E++[x],gV w2 z:=fun z hz=>by
  rcases gT.1 hz with hz | hz
  . exact hold z hz
  . rw [dS.1 hz];exact hx
 refine ⟨by rw [eC,qI];exact aa,P9,fun z hz=>⟨iM ((eR z hz).aC b3) o3 (fun h0 y hy e=>(wV z hz).1 h0 y hy e) (fun h0 y hy e=>(wV z hz).2 h0 y hy e),?_⟩,fun z hz=> ?_,fun z hz=> ?_,?_,?_⟩
 . rcases gT.1 hz with hz | hz
   . exact (h.ok z hz).2
   . rw [dS.1 hz];assumption
 . have h5:=(eR z hz).2.2.2.2.1
   have h6:=(eR z hz).2.2.2.2.2;refine ⟨fun h0 y hy e=> ?_,fun h0 y hy e=> ?_⟩
   . have e:g=y.block:=by injection e
     rcases gZ with h1 | h1
     . exact (wV z hz).1 h0 y hy (by rw [h1,e])
     . have:=yf h5 h0 hy;omega
   . have e:g=y.block:=by injection e
     rcases gZ with h1 | h1
     . exact (wV z hz).2 h0 y hy (by rw [h1,e])
     . have:=xY h6 h0 hy;omega
 . rcases gT.1 hz with hz | hz
   . exact h.up z hz
   . rw [dS.1 hz]
     exact ⟨fun h0 y hy=>by have:=hf1 h0 y hy;omega,fun h0 y hy=>by have:=hf2 h0 y hy;omega⟩
 . have ux:Below w0.heap.size w0 w2:=(Eh h.aC wU h.aC.size hr).trans (cN.mono (by have:=h.aC.size;omega))
   exact (ux.alloc ux.size o).grown rD (by have:=ux.size;simp;omega) (fun k hk=>by have:=(tV k hk).1;omega)
 . have:=rD.size;simp at this;omega
def Q7.skip {D:DataW Value} {v:Value} {Lx:Mv} {left left':Lit->Bool} {E:List ax}(h:Q7 w0 wr D n (r+1) v Lx left E)
 (hr:w0.heap.size<=r) (wU:wr.grownBy mO (some r)) (cN:Below mO.heap.size mO w2) (P9:DU D n Lx left' (aP (E.map (·.2)))):Q7 w0 w2 D n (r+1) v Lx left' E:=by
 have tV:∀k,v.ownBlock=some k->r+1<=k∧k<wr.heap.size:=fun k hk=>h.own.lt k hk;have uF:=wU.size;have vH:=cN.size;have EW:=h.low;have o1:Only (fun k=>k=r) wr w2:=((Only.fK wU).mono (fun i hi=>by injection hi with hi;exact hi.symm)).trans (jG cN);refine ⟨VU (h.own.kept wU ?_) cN,P9,fun z hz=>⟨iM (h.ok z hz).1 o1 (fun h0 y hy e=>by have:=(h.up z hz).1 h0 y hy;omega) (fun h0 y hy e=>by have:=(h.up z hz).2 h0 y hy;omega),(h.ok z hz).2⟩,h.far,h.up,(Eh h.aC wU h.aC.size hr).trans (cN.mono (by have:=h.aC.size;omega)),by omega⟩;cases hob:v.ownBlock with
 | none=>exact Or.inl rfl
 | some g=>exact Or.inr (fun e=>by have:=(tV g hob).1;injection e;omega)
def Q7.done {D:DataW Value} {Lx M:Mv} {left:Lit->Bool} {E E':List ax}(h:Q7 w0 wr D n base (.slice (some ⟨g,0,none⟩) E.length cap) Lx left E) (hn:n<=6) (hl:∀k,left k=false) (hs:pU wd D n B Lx) (hM:eW n M) (hb:Dj 4611686018427387904 M) (LU:∀p,p.length=n->gh Lx (iZ n p)=gh M p)
 (hp:E'.Perm E) (ho:E'.Pairwise (fun x y=>¬ir x.2.2 y.2.2)) (hc:∀i (h:i<E'.length),w'.cell? ⟨g,3*i,none⟩=some (.bool (E'[i]).2.1.1)∧w'.cell? ⟨g,3*i+1,none⟩=some (.slice (E'[i]).1.1.1 (E'[i]).2.1.2.length (E'[i]).1.1.2)∧w'.cell? ⟨g,3*i+2,none⟩=some (.slice (E'[i]).1.2.1 (E'[i]).2.2.length (E'[i]).1.2.2)) (j7:Only (fun j=>j=g) wr w'):
 iI w' (some ⟨g,0,none⟩) E.length (E'.map (·.2))∧eH n (E'.map (·.2))∧jI n (aP (E'.map (·.2))) M:=by
 have V4:(aP (E'.map (·.2))).Perm (aP (E.map (·.2))):=(hp.map _).map _;have RZ:g<wr.heap.size:=(h.own.lt g rfl).2;have LO:∀x∈E',x∈E:=fun x hx=>hp.mem_iff.1 hx;have hEq:jI n (aP (E'.map (·.2))) M:=(jI.perm V4).trans (h.took.done hn hl hs hM hb LU);refine ⟨⟨by rw [dJ,hp.length_eq],fun h0=>⟨g,0,rfl,iE RZ j7.size,fun i hi=> ?_⟩⟩,⟨GD (fun t ht=>h.took.len t (V4.mem_iff.1 ht)) ?_ (fun t ht=>h.took.ne t (V4.mem_iff.1 ht)) ?_,fun t ht=> ?_⟩,hEq⟩
 . have yz:i<E'.length:=by simpa using hi
   have e:(E'.map (·.2))[i]=(E'[i]).2:=by simp
   have hx:=LO _ (bR yz);have hf:=h.far _ hx;obtain ⟨k1,k2,k3,k4,k5,k6⟩:=iM (h.ok _ hx).1 j7 (fun h0 y hy hg=>hf.1 h0 y hy (by show some g=some y.block;rw [hg])) (fun h0 y hy hg=>hf.2 h0 y hy (by show some g=some y.block;rw [hg]));obtain ⟨c0,c1,c2⟩:=hc i yz;rw [e];refine ⟨_,_,_,_,?_,?_,?_,k1,k2,k3,k4,k5,k6⟩
   . rw [bh];exact c0
   . rw [bh];exact c1
   . rw [bh];exact c2
 . exact (V4.map (·.1)).symm.pairwise h.took.nodup (fun {x y} hxy e=>hxy e.symm)
 . have h2:(aP (E'.map (·.2)))=E'.map (fun x=>bS x.2):=by unfold aP;rw [jl];rfl
   rw [h2,mG];exact ho
 . obtain ⟨x,hx,rfl⟩:=af.1 ht
   exact (h.ok x (LO x hx)).2
def QZ {D:DataW Value} {L:Mv}(hd:pU w D n B L) {p:fI} {c:ZIn} {kl:Lit} {y1:DataW Value} {y2:List MemPlace}(GL:keyOf prog 68 (GC p)=some kl) (hR:mZ (mkZ c)=some (y1,y2)) (gZ:∀zd,D.atKey kl zd=y1):
 kl=bH p∧iY n p∧(∃t∈L,t.1=p)∧Maps.has D (bH p)=true∧c.k<=c.c∧c.c<=9223372036854775807∧c.k<=B∧∃ls,aD w c.A c.k ls∧aI c.s ls=gh L p:=by
 obtain ⟨hl,hi,rfl⟩:=Zz GL;have hh:Maps.has D (bH p)=true:=by
  cases h:Maps.has D (bH p) with
  | true=>rfl
  | false=>
    have h1:=gZ (.held (.int .i64 0));have h2:=gZ (.held (.int .i64 1));rw [Maps.atKey_of_not_has h] at h1 h2;rw [<- h1] at h2;injection h2 with h2
    injection h2 with _ h2
    omega
 obtain ⟨p',e,hg,sZ⟩:=hd.key _ hh;have hpp:p=p':=by
  unfold bH at e;injection e with e
  exact keyBytes_inj (hl.trans hg.len.symm) hi hg.i64 e
 subst hpp;obtain ⟨v,h1,h2⟩:=hd.at_ p hg hh;obtain ⟨s,A,k,cc,ls,ev,g1,g2,g3,g4,g5⟩:=h2.ex;obtain ⟨cs,cA,ck,ccp⟩:=c;have e1:mkZ ⟨cs,cA,ck,ccp⟩=v:=by
  have h3:=gZ (.held (.int .i64 0));rw [h1] at h3;have h4:(y1,y2)=(.held (mkZ ⟨cs,cA,ck,ccp⟩),[]):=by
   have:=Pz cs cA ck ccp;unfold mkZ at hR;rw [this] at hR;injection hR with hR
   exact hR.symm
  injection h4 with h4
  rw [h4] at h3;injection h3 with h3
  exact h3.symm
 rw [<- e1] at ev;unfold mkZ at ev;simp only [Value.agg.injEq,Array.mk.injEq,UU,Value.bool.injEq,UC,and_true] at ev;obtain ⟨rfl,rfl,rfl,rfl⟩:=ev;exact ⟨rfl,hg,sZ,hh,g1,g2,g3,ls,g4,g5⟩
open Go.Sort
def ajO (w:World) (base g cap n:Nat) (L:List ax) (hp:Tls w base (.slice (some ⟨g,0,none⟩) L.length cap) n L) (h0:0<L.length) (hL:L.length<1000000000) (hn:n<=1000000):
 aB 108 #[.slice (some ⟨g,0,none⟩) L.length cap,.func (.func 109) #[] #[]] w fun e w'=>e=.returned (.tuple #[])∧∃L':List ax,L'.Perm L∧L'.Pairwise (fun x y=>¬ir x.2.2 y.2.2)∧
  (∀i (h:i<L'.length),w'.cell? ⟨g,3*i,none⟩=some (.bool (L'[i]).2.1.1)∧w'.cell? ⟨g,3*i+1,none⟩=some (.slice (L'[i]).1.1.1 (L'[i]).2.1.2.length (L'[i]).1.1.2)∧w'.cell? ⟨g,3*i+2,none⟩=some (.slice (L'[i]).1.2.1 (L'[i]).2.2.length (L'[i]).1.2.2)∧w'.frozen? ⟨g,3*i,none⟩=false∧w'.frozen? ⟨g,3*i+1,none⟩=false∧w'.frozen? ⟨g,3*i+2,none⟩=false)∧Only (fun j=>j=g) w w':=by
 have aKM:Inhabited (Ic L):=⟨⟨L[0],bR h0⟩⟩;have CO:g<w.heap.size:=(hp.own.lt g rfl).2;have hH:Sort.HoldsK (fun x:Ic L=>kU x.1) 3 w g 0 (oc L):=by
  intro j hj;rw [Sort.size_flatK,jY] at hj;refine ⟨?_,hp.frozen _⟩;rw [Sort.get_flatK _ _ _ _ (by rw [jY];exact hj),bh];show _=some (id ((kU ((oc L)[j / 3]!).1)[j % 3]!));rw [Qn L (by omega)];obtain ⟨c0,c1,c2⟩:=hp.cells (i:=j / 3) (by omega);have h3:j % 3=0∨j % 3=1∨j % 3=2:=by omega
  rcases h3 with h2 | h2 | h2
  . rw [show 3*(j / 3)=j by omega] at c0
    rw [c0,h2];rfl
  . rw [show 3*(j / 3)+1=j by omega] at c1
    rw [c1,h2];rfl
  . rw [show 3*(j / 3)+2=j by omega] at c2
    rw [c2,h2];rfl
 have eg:∀args w,(callFunc 109 args).run prog w=.ok (.enter 109 args) w:=enters_of func109 (by kernel_rfl) rfl;have YE:CmpLays prog 109 #[] (fun x:Ic L=>kU x.1) 3 Tj g 0 (oc L).size w:=fun m os dk hs x y=>by
  have ho:=FT (fun x:Ic L=>kU x.1) 3 w g 0 m dk os;have hx:=(hp.ok x.1 x.2).2.2.2.2.2;have hy:=(hp.ok y.1 y.2).2.2.2.2.2;have hxo:=zh hx ho (fun h0 a ha e=>(hp.far x.1 x.2).2 h0 a ha (by show some g=some a.block;rw [e]));have hyo:=zh hy ho (fun h0 a ha e=>(hp.far y.1 y.2).2 h0 a ha (by show some g=some a.block;rw [e]));exact awj x.1 y.1 _ hxo hyo (by rw [hp.len _ x.2,hp.len _ y.2]) (by rw [hp.len _ x.2];exact hn)
 have aqW:=AnyQ.slices_SortFunc VJ 3 isAgg44 sizeOf44 (fun x:Ic L=>kU x.1) (fun _=>rfl) (fun x v hv=>lQ [x.1] v (by simpa [aS] using hv)) Tj (awm hp.len) 109 #[] g 0 cap (oc L) w eg YE hH CO (by rw [jY];omega);rw [jY] at aqW;refine aqW.mono ?_;rintro e w' ⟨rfl,d',n,os,hpm,hs,rfl⟩;have hsz:d'.size=L.length:=by rw [hpm.1,jY]
 have hH':=holdsK_sortWorldK_c (fun x:Ic L=>kU x.1) 3 w g 0 (oc L) d' n os hH CO (by rw [hsz,jY]);refine ⟨rfl,d'.toList.map (·.1),?_,?_,fun i hi=> ?_,FT _ _ _ _ _ _ _ _⟩
 . have h1:=hpm.2.2
   rw [adu (by rw [hsz];omega),adu (by rw [jY];omega)] at h1;have h2:=h1.map (fun x:Ic L=>x.1);have h3:(oc L).toList.map (fun x:Ic L=>x.1)=L:=by
    unfold oc;rw [List.toList_toArray];exact List.attach_map_subtype_val L
   rwa [h3] at h2
 . rw [mG,adt]
   intro i j hi hj hij;have h1:=hs i j (bL _) hij (by rw [<- hsz];simpa using hj);rw [Ns _ i (by simpa using hi),Ns _ j (by simpa using hj)] at h1;unfold ltOf Tj at h1;have h2:=Ud h1;exact fun h=>h2 (sj.2 h)
 . have yz:i<d'.size:=by simpa using hi
   have b0:=Sort.HoldsK.cell hH' (i:=i) (c:=0) yz (by omega);have c0:=b0.1;have f0:=b0.2;have b1:=Sort.HoldsK.cell hH' (i:=i) (c:=1) yz (by omega);have c1:=b1.1;have f1:=b1.2;have b2:=Sort.HoldsK.cell hH' (i:=i) (c:=2) yz (by omega);have c2:=b2.1;have f2:=b2.2;rw [Ns d' i yz] at c0 c1 c2;have e1:(d'.toList.map (·.1))[i]=(d'[i]).1:=by simp
   rw [e1];rw [show 0+i*3+0=3*i by omega] at c0 f0;rw [show 0+i*3+1=3*i+1 by omega] at c1 f1;rw [show 0+i*3+2=3*i+2 by omega] at c2 f2;exact ⟨c0,c1,c2,f0,f1,f2⟩
structure uX (w:World) (base g:Nat) (E:List ax):Prop where
 cells:∀i (h:i<E.length),w.cell? ⟨g,3*i,none⟩=some (.bool (E[i]).2.1.1)∧w.cell? ⟨g,3*i+1,none⟩=some (.slice (E[i]).1.1.1 (E[i]).2.1.2.length (E[i]).1.1.2)∧w.cell? ⟨g,3*i+2,none⟩=some (.slice (E[i]).1.2.1 (E[i]).2.2.length (E[i]).1.2.2)∧w.frozen? ⟨g,3*i,none⟩=false∧w.frozen? ⟨g,3*i+1,none⟩=false∧w.frozen? ⟨g,3*i+2,none⟩=false
 ok:∀x∈E,gV w x
 far:∀x∈E,(0<x.2.1.2.length->∀y,x.1.1.1=some y->y.block≠g)∧(0<x.2.2.length->∀y,x.1.2.1=some y->y.block≠g)
 lo:base<=g
 lt:g<w.heap.size
section
variable {w w' : World} {base g : Nat} {E : List ax}
def uX.trs (h:uX w base g E):iI w (some ⟨g,0,none⟩) E.length (E.map (·.2)):=
 ⟨by rw [dJ],fun _=>⟨g,0,rfl,h.lt,fun i hi=>by
   have yz:i<E.length:=by simpa using hi
   have e:(E.map (·.2))[i]=(E[i]).2:=by simp
   obtain ⟨k1,k2,k3,k4,k5,k6⟩:=h.ok _ (bR yz);obtain ⟨c0,c1,c2,_⟩:=h.cells i yz;rw [e];refine ⟨_,_,_,_,?_,?_,?_,k1,k2,k3,k4,k5,k6⟩
   . rw [bh];exact c0
   . rw [bh];exact c1
   . rw [bh];exact c2⟩⟩
def uX.aC (h:uX w base g E) (hb:Below w.heap.size w w'):uX w' base g E:=
 ⟨fun i hi=>by
   obtain ⟨c0,c1,c2,f0,f1,f2⟩:=h.cells i hi;exact ⟨(hb.cell (p:=⟨g,3*i,none⟩) h.lt).trans c0,(hb.cell (p:=⟨g,3*i+1,none⟩) h.lt).trans c1,(hb.cell (p:=⟨g,3*i+2,none⟩) h.lt).trans c2,(hb.frozen (p:=⟨g,3*i,none⟩) h.lt).trans f0,(hb.frozen (p:=⟨g,3*i+1,none⟩) h.lt).trans f1,(hb.frozen (p:=⟨g,3*i+2,none⟩) h.lt).trans f2⟩,
  fun x hx=>(h.ok x hx).aC hb,h.far,h.lo,iE h.lt hb.size⟩
def Q6 (w:World) (base:Nat) (A:Option Addr) (E:List ax):Prop:=0<E.length->∃g,A=some ⟨g,0,none⟩∧uX w base g E
def VD {A:Option Addr}(h:Q6 w base A E):iI w A E.length (E.map (·.2)):=by
 rcases jM E.length with h0 | h0
 . have:E=[]:=lK h0
   subst this;exact iI.nil _ _
 . obtain ⟨g,rfl,hg⟩:=h h0
   exact hg.trs
def OX {A:Option Addr}(h:Q6 w base A E) (hb:Below w.heap.size w w'):Q6 w' base A E:=fun h0=>by
 obtain ⟨g,e,hg⟩:=h h0;exact ⟨g,e,hg.aC hb⟩
end
def Gk (w:World) (n:Nat) (M:Mv) (e:Ending) (w':World):Prop:=
 ∃A c E,e=.returned (.slice A E.length c)∧E.length<=c∧c<=9223372036854775807∧Q6 w' w.heap.size A E∧eH n (E.map (·.2))∧jI n (aP (E.map (·.2))) M∧Below w.heap.size w w'
def uL (w:World) (n:Nat) (M:Mv) (e:Ending) (w':World):Prop:=
 ∃A c E,e=.returned (.tuple #[.slice A E.length c,.int .i64 0])∧E.length<=c∧c<=9223372036854775807∧Q6 w' w.heap.size A E∧eH n (E.map (·.2))∧jI n (aP (E.map (·.2))) M∧Below w.heap.size w w'
def uL.from_ {M:Mv} (h:uL w n M e w') (hb:Below w0.heap.size w0 w):uL w0 n M e w':=by
 obtain ⟨A,c,L,h1,h2,h3,h4,h5,h6,h7⟩:=h;refine ⟨A,c,L,h1,h2,h3,fun h0=> ?_,h5,h6,hb.tm h7⟩;obtain ⟨g,e,hg⟩:=h4 h0;exact ⟨g,e,hg.cells,hg.ok,hg.far,aG hb.size hg.lo,hg.lt⟩
def Q7.arU {D:DataW Value} {Lx M:Mv} {left:Lit->Bool} {E E':List ax}(h:Q7 w0 wr D n base (.slice (some ⟨g,0,none⟩) E.length cap) Lx left E) (rO:w0.heap.size<=base) (hn:n<=6) (hl:∀k,left k=false) (hs:pU wd D n B Lx) (hM:eW n M) (hb:Dj 4611686018427387904 M) (LU:∀p,p.length=n->gh Lx (iZ n p)=gh M p)
 (hp:E'.Perm E) (ho:E'.Pairwise (fun x y=>¬ir x.2.2 y.2.2)) (hc:∀i (h:i<E'.length),w'.cell? ⟨g,3*i,none⟩=some (.bool (E'[i]).2.1.1)∧w'.cell? ⟨g,3*i+1,none⟩=some (.slice (E'[i]).1.1.1 (E'[i]).2.1.2.length (E'[i]).1.1.2)∧w'.cell? ⟨g,3*i+2,none⟩=some (.slice (E'[i]).1.2.1 (E'[i]).2.2.length (E'[i]).1.2.2)∧w'.frozen? ⟨g,3*i,none⟩=false∧w'.frozen? ⟨g,3*i+1,none⟩=false∧w'.frozen? ⟨g,3*i+2,none⟩=false) (j7:Only (fun j=>j=g) wr w'):
 uX w' w0.heap.size g E'∧eH n (E'.map (·.2))∧jI n (aP (E'.map (·.2))) M:=by
 obtain ⟨_,h2,h3⟩:=h.done hn hl hs hM hb LU hp ho (fun i hi=>⟨(hc i hi).1,(hc i hi).2.1,(hc i hi).2.2.1⟩) j7;have RZ:g<wr.heap.size:=(h.own.lt g rfl).2;have OG:base<=g:=(h.own.lt g rfl).1;have LO:∀x∈E',x∈E:=fun x hx=>hp.mem_iff.1 hx;refine ⟨⟨hc,fun x hx=> ?_,fun x hx=> ?_,?_,iE RZ j7.size⟩,h2,h3⟩
 . have hf:=h.far x (LO x hx)
   exact iM (h.ok x (LO x hx)).1 j7 (fun h0 y hy hg=>hf.1 h0 y hy (by show some g=some y.block;rw [hg])) (fun h0 y hy hg=>hf.2 h0 y hy (by show some g=some y.block;rw [hg]))
 . have hf:=h.far x (LO x hx)
   exact ⟨fun h0 y hy hg=>hf.1 h0 y hy (by show some g=some y.block;rw [hg]),fun h0 y hy hg=>hf.2 h0 y hy (by show some g=some y.block;rw [hg])⟩
 . exact aG rO OG
def afy (bb nc n B:Nat) (Lx M:Mv) (w:World) (hs:tP w bb nc n B Lx) (hn:n<=6) (jV:nc<=1000000) (hB:B<=1000000) (hM:eW n M) (hb:Dj 4611686018427387904 M) (LU:∀p,p.length=n->gh Lx (iZ n p)=gh M p):
 aB 77 #[.map (some bb),.int .i64 (n:Int)] w (Gk w n M):=by
 obtain ⟨D,hm,hd⟩:=hs;have I4:=hm.lt;have Hd:=aA hd;have HM:=aA hM;have Hb:=aA hb;have HLM:=aA LU;have hsz:=Pg hm;obtain ⟨i0,hi,jE,jD,jJ⟩:=eG W9;clear hd hM hb LU;go_enter func77,ntmps77
 obtain ⟨wo,rfl⟩:∃wo:World,wo=w:=⟨_,rfl⟩;go_wp2_with (at_range;go_must (refine wpList_range_own _ rfl _ 63 rfl 68 41 yQ underlying63 mZ bb nc D rfl hm ?_);intro w0 Sv OG Ah)
 go_frame
 go_loopw [5] (fun v wr=>∃(left:Lit->Bool) (cnt:Nat) (E:List ax),wr.ranges prog 68 mZ bb wo.heap.size nc D left cnt∧Hid (Q7 wo wr D n (wo.heap.size+1) v Lx left E)∧E.length+cnt<=nc) (fun _ wr=>wr.rangeLeft bb wo.heap.size)
 case atStart=>
  refine ⟨_,_,[],Sv,⟨nv _ _ _ _,DU.start _ _ _,fun x hx=>(by cases hx),fun x hx=>(by cases hx),fun x hx=>(by cases hx),aU.grown OG aL (by simp),by rw [Ah];exact aL⟩,by simpa using hsz⟩
 case round=>
  obtain ⟨left,cnt,E,hrg,hT,hlen⟩:=hrel;go_wp2_with (at_next;go_must (refine wpList_next_ranges _ rfl _ rfl 68 yQ mZ GC mkZ O7 Vm bb wo.heap.size nc D left cnt rfl hrg ?_ ?_))
  . intro hc0 xB
    have Hl0:=aA xB;by_cases hE:0<E.length
    . rcases hT.o.own.2 with ⟨hv,hn0⟩ | ⟨g,cap,cur,hv,hgb,hh,_⟩
      . omega
      . subst hv
        have C:=aA (ajO wr (wo.heap.size+1) g cap n E hT.o.tls hE (by omega) (by omega));clear hrg hm Sv hh xB;(go_wp2_with fail);refine C.o.mono ?_;rintro e w' ⟨rfl,E',Gb,ho',OI,abq⟩;have NB:=hT.o.arU (by omega) hn Hl0.o Hd.o HM.o Hb.o HLM.o Gb ho' OI abq;have bC:Below wo.heap.size wo w':=hT.o.aC.trans (abq.below hT.o.aC.size (fun k hk=>by omega));(have hlE:E.length=(E'.map (·.2)).length:=by rw [dJ,Gb.length_eq]);have CV:E.length<=cap∧cap<=9223372036854775807:=by
         rcases hT.o.own.2 with ⟨hv,_⟩ | ⟨_,_,_,hv,_,_,h1,h2,_⟩
         . cases hv
         . injection hv with _ _ e
           subst e;exact ⟨h1,by unfold maxLen at h2;omega⟩
        have Fin:Hid (Gk wo n M (.returned (.slice (some ⟨g,0,none⟩) E.length cap)) w'):=by
         obtain ⟨f1,f2,f3⟩:=NB;have ayd:E.length=E'.length:=Gb.length_eq.symm;show Gk _ _ _ _ _;rw [ayd] at CV ⊢;exact ⟨_,_,E',rfl,CV.1,CV.2,fun _=>⟨g,rfl,f1⟩,f2,f3,bC⟩
        clear Gb ho' OI abq NB bC hlE CV C;(go_wp2_with fail);go_ret;exact Fin.o
    . obtain rfl:E=[]:=lK (by omega)
      obtain ⟨A,cap,rfl⟩:∃A cap,u5=.slice A 0 cap:=by
       rcases hT.o.own.2 with ⟨hv,_⟩ | ⟨_,_,_,hv,_⟩
       . exact ⟨_,_,hv⟩
       . exact ⟨_,_,hv⟩
      have C:=aA (Rn A cap wr);have hEq:=hT.o.took.done hn Hl0.o Hd.o HM.o Hb.o HLM.o;have CV:cap<=9223372036854775807:=by
       rcases hT.o.own.2 with ⟨hv,_⟩ | ⟨_,_,_,hv,_,_,h1,h2,_⟩
       . injection hv with _ _ e;omega
       . injection hv with _ _ e
         subst e;unfold maxLen at h2;omega
      have Fin:Hid (Gk wo n M (.returned (.slice A 0 cap)) wr):=⟨A,cap,[],rfl,bL _,CV,fun h=>absurd h (by simp),eH.nil n,hEq,hT.o.aC⟩;clear hrg hm Sv xB hEq;(go_wp2_with fail);refine C.o.mono ?_;rintro e w' ⟨rfl,rfl⟩;(go_wp2_with fail);go_ret;exact Fin.o
  . intro p c kl y1 y2 mO cnt' GL M9 hR gZ abj hlt wU uF hen
    have ux:Below wo.heap.size wo mO:=Eh hT.o.aC wU hT.o.aC.size aL;obtain ⟨rfl,rN,_,abD,h1,h2,h3,ls,hL,hz⟩:=QZ (Hd.o.aC ux) GL hR gZ
    obtain ⟨cs,cA,ck,cc⟩:=c;simp only at h1 h2 h3 hL hz;have M7:wr.rangeLeft bb wo.heap.size=cnt:=hrg.left_eq;have MA:=aA rN;have aBG:=aA abD;have Hlk:=aA M9;have HL:=aA hL;have Hz:=aA hz;(have EW:wo.heap.size+1<=mO.heap.size:=by have:=hT.o.low;omega);have Hg1:=aA wU;have Hr1:=aA abj;obtain ⟨x0,x1,x2,x3,x4,x5,hpe⟩:∃x0 x1 x2 x3 x4 x5,p=[x0,x1,x2,x3,x4,x5]:=by
     match p,rN.len with
     | [x0,x1,x2,x3,x4,x5],_=>exact ⟨_,_,_,_,_,_,rfl⟩
    (have hpv:GC p=.agg #[.int .i64 x0,.int .i64 x1,.int .i64 x2,.int .i64 x3,.int .i64 x4,.int .i64 x5]:=by rw [hpe];rfl);have Iq:mkZ ⟨cs,cA,ck,cc⟩=.agg #[.bool cs,.slice cA ck cc]:=rfl;rw [hpv,Iq] at hen ⊢;have Hpe:=aA hpe;clear hpv Iq hpe rN abD M9 hL hz GL hR gZ abj wU uF hrg Sv hm;(go_wp2_with fail);have b2:Below mO.heap.size mO ((mO.alloc (.cells #[.int .i64 x0,.int .i64 x1,.int .i64 x2,.int .i64 x3,.int .i64 x4,.int .i64 x5] 68)).alloc (.cells #[.bool cs,.slice cA ck cc] 41)):=(aU.alloc aL _).alloc (by simp) _;have fM:Row ((mO.alloc (.cells #[.int .i64 x0,.int .i64 x1,.int .i64 x2,.int .i64 x3,.int .i64 x4,.int .i64 x5] 68)).alloc (.cells #[.bool cs,.slice cA ck cc] 41)) mO.heap.size 68 [x0,x1,x2,x3,x4,x5]:=(xo _ _ (by simp)).trans (bM _ _);have KL:=Duo.new (mO.alloc (.cells #[.int .i64 x0,.int .i64 x1,.int .i64 x2,.int .i64 x3,.int .i64 x4,.int .i64 x5] 68)) (.bool cs) (.slice cA ck cc);rw [aJ] at KL;(have apH:mO.heap.size+1<((mO.alloc (.cells #[.int .i64 x0,.int .i64 x1,.int .i64 x2,.int .i64 x3,.int .i64 x4,.int .i64 x5] 68)).alloc (.cells #[.bool cs,.slice cA ck cc] 41)).heap.size:=by simp);generalize ((mO.alloc (.cells #[.int .i64 x0,.int .i64 x1,.int .i64 x2,.int .i64 x3,.int .i64 x4,.int .i64 x5] 68)).alloc (.cells #[.bool cs,.slice cA ck cc] 41))=wt at*
    have ahr:=aA fM;have atr:=aA KL;have HLt:=aA (HL.o.aC b2);have keep:Hid (∀W,Below wt.heap.size wt W->W.cell? ⟨mO.heap.size+1,0,none⟩=some (.bool cs)∧W.cell? ⟨mO.heap.size+1,1,none⟩=some (.slice cA ck cc)):=fun W hW=>
     ⟨(atr.o.aC hW).cell0,(atr.o.aC hW).cell1⟩
    obtain ⟨c0,c1⟩:=keep.o wt aU;clear fM KL;refine (yI cs cA ck cc ls wt HLt.o h1 h2 (by omega)).mono ?_;rintro e F7 ⟨rfl,zm⟩;have wI:=aA b2;have GQ:=aA zm;(have Iq:dN (cs && decide (0<cU ls ck)) (ls.take (cU ls ck)) (gh Lx p):=by rw [<- Hz.o];exact EU HL.o.ok HL.o.len cs);(have hzl:(ls.take (cU ls ck)).length=cU ls ck:=by rw [cQ,HL.o.len];have:=cS ls ck;omega);have zj:=Iq.OP;rw [hzl] at zj;clear b2 zm c0 c1;by_cases h0:cU ls ck=0
    . have KF:zI cs (cU ls ck)=0:=by rw [h0];rfl
      rw [KF];have hT2:Hid (Q7 wo F7 D n (wo.heap.size+1) u5 Lx (fun z=>left z && !z.sameKey (bH p)) E):=
       hT.o.skip aL Hg1.o (wI.o.tm GQ.o) (hT.o.took.skip MA.o (zj.2 h0))
      have QB:Hid (F7.ranges prog 68 mZ bb wo.heap.size nc D (fun z=>left z && !z.sameKey (bH p)) cnt'):=Hr1.o.kept (oU (wI.o.tm GQ.o)) (by simp) (by simp);clear KF h0 zj hzl Iq hen;(go_wp2_with fail);go_roundw
      case rel=>exact ⟨_,cnt',E,QB.o,hT2,by omega⟩
      case measure=>rw [QB.o.left_eq,M7];omega
    . have KF:zI cs (cU ls ck)≠0:=by
       obtain ⟨k,hk⟩:∃k,cU ls ck=k+1:=⟨cU ls ck-1,by omega⟩;rw [hk];cases cs
       . show (1:Int)≠0;decide
       . show (-1:Int)≠0;decide
      have LR:gh Lx p≠0:=fun e=>h0 (zj.1 e);(have aib:0<(ls.take (cU ls ck)).length:=by omega);have Cn:Hid (∀W,Below wt.heap.size wt W->aB 105 #[.agg #[.bool cs,.slice cA ck cc]] W (yw W (cs && decide (0<cU ls ck)) (ls.take (cU ls ck)))):=fun W hW=>
       aeu cs cA ck cc ls W (HLt.o.aC hW) h1 h2 (by omega)
      have hqs:(p.take n).length=n:=MA.o.take_length hn;have Cc:Hid (∀W,Below wt.heap.size wt W->aB 107 #[.slice (some ⟨mO.heap.size,0,none⟩) n 6] W (AY W (p.take n))):=fun W hW=>by
       have OI:=aba (some ⟨mO.heap.size,0,none⟩) (p.take n).length 6 (p.take n) W ⟨rfl,fun _=>⟨_,0,rfl,iE (by omega) hW.size,fun i hi=>by
        rw [bh,nK (by omega)];have h6:=MA.o.len;have hr:=(ahr.o.aC hW).cell (i:=i) (by show i<6;omega);rw [hr,Hpe.o]⟩,fun i=>by
        by_cases hi:i<n
        . rw [nK hi]
          by_cases h6:i<p.length
          . exact MA.o.i64 _ (gL h6)
          . rw [bw (by omega)];exact DX.zero
        . rw [bw (by omega)];exact DX.zero⟩ (by omega)
       rwa [hqs] at OI
      have Hzv:=aA Iq;have aGK:=aA aib;have P9:=aA (fun (E2:List ax) (he:aP (E2.map (·.2))=aP (E.map (·.2))++[(p.take n,gh Lx p)])=>by
       have:=hT.o.took.take hn MA.o aBG.o Hlk.o LR;rw [<- he] at this;exact this)
      clear Iq aib zj hzl;generalize zI cs (cU ls ck)=sg at*
      generalize (cs && decide (0<cU ls ck))=sb at*
      generalize ls.take (cU ls ck)=zs at*
      generalize Jt:p.take n=qs at*
      have Hqs:=aA hqs;have aJH:(sg==0)=false:=mD.2 KF;(have aJE:(sg !=0)=true:=by simp [KF]);(have hn0:(0:Int)<=(n:Int):=by omega);(have hn6:(n:Int)<=6:=by omega);have ox:Hid (∀W,Below mO.heap.size mO W->W.ownsRow (wo.heap.size+1) 44 3 u5 E.length (aS E)):=fun W hW=>VU (hT.o.own.kept Hg1.o (by
       cases hob:u5.ownBlock with
       | none=>exact Or.inl rfl
       | some g=>exact Or.inr (fun e=>by have:=(hT.o.own.lt g hob).1;injection e;omega))) hW
      have NA:Hid (∀W o W',Below wt.heap.size wt W->(W.alloc o).grownBy W' u5.ownBlock->W'.cell? ⟨mO.heap.size+1,0,none⟩=some (.bool cs)∧W'.cell? ⟨mO.heap.size+1,1,none⟩=some (.slice cA ck cc)):=fun W o W' hW hg=>by
       have ho:Only (fun k=>u5.ownBlock=some k) (W.alloc o) W':=(Only.fK hg).mono (fun i hi=>by first | exact hi | exact hi.symm);(have hlt:mO.heap.size+1<(W.alloc o).heap.size:=by have:=hW.size;simp;omega);(have hne:¬u5.ownBlock=some (mO.heap.size+1):=fun e=>by have:=(hT.o.own.lt _ e).2;have:=Hg1.o.size;omega);obtain ⟨k0,k1⟩:=keep.o _ (hW.alloc hW.size o);exact ⟨(ho.cell (p:=⟨mO.heap.size+1,0,none⟩) hlt hne).trans k0,(ho.cell (p:=⟨mO.heap.size+1,1,none⟩) hlt hne).trans k1⟩
      obtain ⟨c0,c1⟩:=keep.o F7 GQ.o;clear KF h0 hqs Jt LR hen;(go_wp2_with fail);(have q1:Hid (E.length+1<=maxLen):=by show _<=_;unfold maxLen;omega);(have q2:Hid ((E.length+1)*56<=140737488355328):=by show _<=_;omega);(have q3:Hid (∀(W:World) (o:Obj),Below wt.heap.size wt W->wo.heap.size+1<=(W.alloc o).heap.size):=fun W o hW=>by have h1:=hW.size;have h2:=wI.o.size;simp;omega);(have q4:Hid (∀(W:World) (o:Obj),(W.alloc o).heap.size=W.heap.size+1):=fun W o=>by simp);have q5:Hid (∀(W:World) (o:Obj),Below wt.heap.size wt W->(W.alloc o).ownsRow (wo.heap.size+1) 44 3 u5 E.length (aS E)):=fun W o hW=>(ox.o W (wI.o.tm hW)).alloc _;have q6:Hid (∀(a b c:Value),a.oneCell'=true->b.oneCell'=true->c.oneCell'=true->∀u∈ [a,b,c],u.oneCell'=true):=fun a b c h1 h2 h3 u hu=>by
       simp only [iH,lD,yB] at hu;rcases hu with rfl | rfl | rfl<;>assumption
      go_region_held3 (fun W=>W.cell? ⟨mO.heap.size+1,0,none⟩=some (.bool cs)∧W.cell? ⟨mO.heap.size+1,1,none⟩=some (.slice cA ck cc))
       (first | go_keep | exact keep.o _ GQ.o.drew | exact keep.o _ GQ.o | exact keep.o _ KN | exact keep.o _ CY | exact keep.o _ (CY.alloc CY.size _) | exact NA.o _ _ _ CY aW)
       (first
         | (go_at_call 105;refine (Cn.o _ (by first | exact GQ.o.drew | exact GQ.o | exact below_drewN GQ.o _)).mono ?_;rintro e w12 ⟨A1,rP,rfl,g1,g2,g3,aiF,g4⟩;have KN:Below wt.heap.size wt w12:=GQ.o.drew.trans (aiF.mono GQ.o.size))
         | (go_at_call 107;refine (Cc.o _ (by first | exact KN | exact GQ.o.drew)).mono ?_;rintro e w13 ⟨E1,e1,rfl,g5,g6,g7,abR,g8⟩;have CY:Below wt.heap.size wt w13:=KN.tm abR)
         | ((refine pN _ (by rfl) _ _ _ (by rfl) (wo.heap.size+1) 44 i0 _ 3 56 underlying22 hi jE jD jJ rfl (by omega) u5 E.length (aS E) (by rfl) (q5.o w13 _ CY) ⟨w13.heap.size,0,none⟩ 1 1 [.bool sb,.slice A1 zs.length rP,.slice E1 qs.length e1] (by rfl) (by rfl) (gw (cs:=#[.bool sb,.slice A1 zs.length rP,.slice E1 qs.length e1]) (t:=44) (fr:=(0,0)) (bM w13 _)) (q6.o _ _ _ rfl rfl rfl) (Nat.one_pos) q1.o q2.o (q3.o w13 _ CY) (w13.heap.size+1) (q4.o _ _) ?_);intro gg cap w14 abp aW gZ aEt))
      have TH:Below mO.heap.size mO w13:=wI.o.tm CY;have aJF:=KN.size;have hsw:mO.heap.size<=wt.heap.size:=wI.o.size;have apA:gV w13 (((A1,rP),(E1,e1)),((sb,zs),qs)):=⟨g1,g2,g5,g6,g3.aC abR,g7⟩;have hT2:Hid (Q7 wo w14 D n (wo.heap.size+1) (.slice (some ⟨gg,0,none⟩) (E.length+1) cap) Lx (fun z=>left z && !z.sameKey (bH p)) (E++[(((A1,rP),(E1,e1)),((sb,zs),qs))])):=by
       refine hT.o.next aL Hg1.o TH apA ?_ ?_ ?_ abp aW gZ (P9.o _ ?_)
       . show dN sb zs (aI sb zs)
         rw [Hzv.o.eq];exact Hzv.o
       . exact fun h0 y hy=>by have h1:F7.heap.size<=y.block:=g4 h0 y hy;have:=GQ.o.size;omega
       . exact fun h0 y hy=>by have h1:w12.heap.size<=y.block:=g8 h0 y hy;omega
       . rw [ij,eN]
         show _++[(qs,aI sb zs)]=_;rw [Hzv.o.eq]
      have tV:∀k,u5.ownBlock=some k->wo.heap.size+1<=k:=fun k hk=>(hT.o.own.lt k hk).1;have QB:Hid (w14.ranges prog 68 mZ bb wo.heap.size nc D (fun z=>left z && !z.sameKey (bH p)) cnt'):=
       ((Hr1.o.kept (oU TH) (by simp) (by simp)).alloc _).kept aW (fun e=>by have:=tV _ e.symm;omega) (fun e=>by have:=tV _ e.symm;omega)
      clear abp aW gZ TH apA tV g3 g7 KN CY aiF abR g4 g8;(go_wp2_with fail);go_roundw
      case rel=>
       (have OD:(E++[(((A1,rP),(E1,e1)),((sb,zs),qs))]).length=E.length+1:=by simp);refine ⟨_,cnt',E++[(((A1,rP),(E1,e1)),((sb,zs),qs))],QB.o,hT2,?_⟩;rw [OD];omega
      case measure=>rw [QB.o.left_eq,M7];omega
structure Arg (n C:Nat) (L:List TV):Prop where
 len:∀t∈L,t.2.length=n
 bd:∀t∈L,∀x∈t.2,0<=x∧x<=1000
 co:∀t∈L,t.1.2.length<=C
 cnt:L.length<=4096
def aft {L:List TV}(h:∀t∈L,t.2.length=n):eW n (aP L):=fun t ht=>by
 obtain ⟨s,hs,rfl⟩:=af.1 ht;exact h s hs
def akx {L:List TV}(h:∀t∈L,∀x∈t.2,0<=x∧x<=d):Dj d (aP L):=fun t ht=>by
 obtain ⟨s,hs,rfl⟩:=af.1 ht;exact h s hs
section
variable {L:List TV} (h:Arg n C L)
include L h
theorem Arg.KD:eW n (aP L):=aft h.len
theorem Arg.Tp:Dj 1000 (aP L):=akx h.bd
theorem Lm:Wh n C L:=⟨h.len,fun t ht x hx=>by have:=h.bd t ht x hx;omega,h.co⟩
theorem vr (hn:n<=6):Q8 (n:Int) L:=
 ⟨by omega,by omega,h.cnt,fun i hi=>⟨by rw [h.len _ (bR hi)],fun j hj=>h.bd _ (bR hi) _ (gL hj)⟩⟩
end
def Z2 {L:List TV} {M:Mv}(hn:n<=6) (hp:eH n L) (e:jI n (aP L) M) (hl:M.length<=4096) (hb:Dj 1000 M):Q8 (n:Int) L:=by
 have hc:=hp.mv.count e;rw [au] at hc;have qx:=hp.mv.bd e hb;refine ⟨by omega,by omega,by omega,fun i hi=>⟨?_,fun j hj=> ?_⟩⟩
 . have:=hp.mv.len (bS L[i]) (af.2 ⟨_,bR hi,rfl⟩)
   exact dh Int.ofNat this
 . exact qx (bS L[i]) (af.2 ⟨_,bR hi,rfl⟩) _ (gL hj)
def mJ (w:World) (n:Nat) (M:Mv) (e:Ending) (w':World):Prop:=
 ∃A c L,e=.returned (.tuple #[.slice A L.length c,.int .i64 0])∧L.length<=c∧c<=9223372036854775807∧iI w' A L.length L∧eH n L∧jI n (aP L) M∧Below w.heap.size w w'
def mJ.from_ {M:Mv} (h:mJ w n M e w') (hb:Below w0.heap.size w0 w):mJ w0 n M e w':=by
 obtain ⟨A,c,L,h1,h2,h3,h4,h5,h6,h7⟩:=h;exact ⟨A,c,L,h1,h2,h3,h4,h5,h6,hb.tm h7⟩
def Pj (bb nc n B:Nat) (Lx M:Mv) (w:World) (hs:tP w bb nc n B Lx) (hn:n<=6) (jV:nc<=1000000) (hB:B<=1000000) (hM:eW n M) (hb:Dj 1000 M) (hl:M.length<=4096) (LU:∀p,p.length=n->gh Lx (iZ n p)=gh M p):
 aB 39 #[.map (some bb),.int .i64 (n:Int)] w (uL w n M):=by
 have Ct:=aA (afy bb nc n B Lx M w hs hn jV hB hM (hb.mono (by omega)) LU);have Hb:=aA hb;clear hs hM LU hb;go_enter func39,ntmps39
 go_wp2_with fail
 refine Ct.o.mono ?_;rintro e w1 ⟨A,c,L,rfl,h1,h2,h3,h4,h5,h6⟩;have Cc:=aA (ri (n:Int) A L.length c _ w1 (VD h3) (Z2 hn h4 h5 hl Hb.o));have H3:=aA h3;have H4:=aA h4;have H5:=aA h5;have H6:=aA h6;clear h3 h4 h5 h6;go_wp2_with fail
 refine Cc.o.mono ?_;rintro e w2 ⟨rfl,cN⟩;have wI:=aA cN;clear cN;go_wp2_with fail
 go_ret2;exact ⟨A,c,L,rfl,h1,h2,OX H3.o wI.o,H4.o,H5.o,H6.o.tm wI.o⟩
def aaF (n C:Nat) (A:Option Addr) (m c:Nat) (L:List TV) (w:World) (hx:iI w A m L) (hL:Arg n C L) (hn:n<=6) (hC:C<=10000):
 aB 20 #[.int .i64 (n:Int),.slice A m c] w (uL w n (aP L)):=by
 have Ys:=hx.len;have tj:=hL.cnt;have hm:m<=4096:=by omega
 have Cc:=aA (ri (n:Int) A m c L w hx (vr hL hn));have Cg:=aA (fun W (h:Below w.heap.size w W)=>K4 n C A m c L W (hx.aC h) (by omega) hn (by omega) (Lm hL));have Ca:=aA (fun b W (h:tP W b m n (C+m) (liftM n (aP L)))=>Pj b m n (C+m) _ (aP L) W h hn (by omega) (by omega) hL.KD hL.Tp (by rw [au];omega) (fun p hp=>JG hL.KD hp));clear hx hL Ys;go_enter func20,ntmps20
 go_wp2_with fail
 refine Cc.o.mono ?_;rintro e w1 ⟨rfl,cZ⟩;go_wp2_with fail
 refine (Cg.o w1 cZ).mono ?_;rintro e w2 ⟨b,rfl,I4,vH,cN⟩;have C2:=aA (Ca.o b w2 vH);have wI:=aA (cZ.tm cN);clear vH cZ cN;go_wp2_with fail
 refine C2.o.mono ?_;intro e w3 h3;have h3':=h3.from_ wI.o;obtain ⟨A3,c3,L3,rfl,g1,g2,g3,g4,g5,g6⟩:=h3';have F:=aA (show uL w n (aP L) (.returned (.tuple #[.slice A3 L3.length c3,.int .i64 0])) w3 from ⟨A3,c3,L3,rfl,g1,g2,g3,g4,g5,g6⟩);clear h3 g3 g4 g5 g6;go_wp2_with fail
 go_ret2;exact F.o
def uL.p {M:Mv} (h:uL w n M e w'):mJ w n M e w':=by
 obtain ⟨A,c,E,h1,h2,h3,h4,h5,h6,h7⟩:=h;exact ⟨A,c,E.map (·.2),by rw [dJ];exact h1,by rw [dJ];exact h2,h3,by rw [dJ];exact VD h4,h5,h6,h7⟩
def afG (bb nc n B:Nat) (Lx M:Mv) (w:World) (hs:tP w bb nc n B Lx) (hn:n<=6) (jV:nc<=1000000) (hB:B<=1000000) (hM:eW n M) (hb:Dj 1000 M) (hl:M.length<=4096) (LU:∀p,p.length=n->gh Lx (iZ n p)=gh M p):
 aB 39 #[.map (some bb),.int .i64 (n:Int)] w (mJ w n M):=(Pj bb nc n B Lx M w hs hn jV hB hM hb hl LU).mono fun _ _ h=>h.p
def api (n C:Nat) (A:Option Addr) (m c:Nat) (L:List TV) (w:World) (hx:iI w A m L) (hL:Arg n C L) (hn:n<=6) (hC:C<=10000):
 aB 20 #[.int .i64 (n:Int),.slice A m c] w (mJ w n (aP L)):=(aaF n C A m c L w hx hL hn hC).mono fun _ _ h=>h.p
def XX (h:Only S w0 w) (hg:w.grownBy w' (some r)) (hr:w0.heap.size<=r):Only S w0 w':=
 ⟨hg.os.trans h.os,hg.tape.trans h.tape,hg.output.trans h.output,aG h.size hg.size,fun i hi hs=>(hg.block i (iE hi h.size) (fun e=>by injection e;omega)).trans (h.block i hi hs)⟩
def uO (h:Only (fun x=>x=b) w w'):w.grownBy w' (some b):=⟨h.os,h.tape,h.output,h.size,fun i hi hne=>h.block i hi (fun e=>hne (by rw [e]))⟩
section
variable {w w' : World} {b r nb : Nat} {D : DataW Value} {left : Lit -> Bool} {cnt : Nat}
def Tl (h:w.ranges prog 68 mZ b r nb D left cnt) (hg:w.grownBy w' (some r)) {p:Addr} {v:Value}(hp:p.block<w.heap.size) (hc:w.cell? p=some v):w'.cell? p=some v:=by
 by_cases e:p.block=r
 . obtain ⟨es,clock,since,seen,c0,hb,F,hs,hD,hr,rest⟩:=h
   rw [<- e] at hr;simp [World.cell?,hr] at hc
 . have:=hg.block p.block hp (fun e2=>e (by injection e2))
   unfold World.cell? at hc ⊢;rw [this];exact hc
def Sb {A:Option Addr} {n:Nat} {xs:List Int}(h:aD w A n xs) (hm:w.ranges prog 68 mZ b r nb D left cnt) (hg:w.grownBy w' (some r)):aD w' A n xs:=
 ⟨h.len,fun hn=>by
   obtain ⟨bb,o,e,hb,hc⟩:=h.at_ hn;exact ⟨bb,o,e,iE hb hg.size,fun i hi=>Tl hm hg (p:=⟨bb,o+i,none⟩) hb (hc i hi)⟩,h.ok⟩
def XG {D':DataW Value} {n B:Nat} {L:Mv}(h:pU w D' n B L) (hm:w.ranges prog 68 mZ b r nb D left cnt) (hg:w.grownBy w' (some r)):pU w' D' n B L:=
 ⟨h.key,fun p hp hh=>by
   obtain ⟨v,h1,s,A,kk,c,ls,e,g1,g2,g3,g4,g5⟩:=h.at_ p hp hh;exact ⟨v,h1,⟨s,A,kk,c,ls,e,g1,g2,g3,Sb g4 hm hg,g5⟩⟩,h.none,h.isMap⟩
end
def afL {L:Mv} (hd:0<=d) (h:Dj d L):Dj d (liftM n L):=fun t ht x hx=>by
 obtain ⟨s,hs,rfl⟩:=af.1 ht;have Dl:x∈s.1++List.replicate (6-n) 0:=hx;rcases gT.1 Dl with Dl | Dl
 . exact h s hs x Dl
 . rw [(ads.1 Dl).2];omega
def Wf (w w':World):Prop:=w.heap.size<=w'.heap.size∧∀(p:Addr) (x:Int),p.block<w.heap.size->w.cell? p=some (.int .u64 x)->w'.cell? p=some (.int .u64 x)
def Wf.aC (h:Below w.heap.size w w'):Wf w w':=⟨h.size,fun _ _ hp hc=>(h.cell hp).trans hc⟩
def Wf.row {t:TypeId} {ps:fI}(hr:Row w g t ps) (ho:Only (fun x=>x=g) w w'):Wf w w':=⟨ho.size,fun p x hp hc=>by
 by_cases e:p.block=g
 . exfalso
   obtain ⟨qb,qo,qs⟩:=p;have e':qb=g:=e;subst e';obtain rfl:=Tz hc;rw [dQ w _ _ _ _ (0,0) hr] at hc;simp [ints] at hc
 . exact (ho.cell hp e).trans hc⟩
def Wf.Re {A':Option Addr} (hr:Duo w g (.bool s) (.slice A' k c)) (ho:Only (fun x=>x=g) w w'):Wf w w':=⟨ho.size,fun p x hp hc=>by
 by_cases e:p.block=g
 . exfalso
   obtain ⟨qb,qo,qs⟩:=p;have e':qb=g:=e;subst e';obtain rfl:=Tz hc;unfold Duo at hr;rw [dQ w _ _ _ _ (0,0) hr] at hc;match qo with
   | 0=>simp at hc
   | 1=>simp at hc
   | j+2=>simp at hc
 . exact (ho.cell hp e).trans hc⟩
def uo (h:aD w A n xs) (hu:Wf w w'):aD w' A n xs:=
 ⟨h.len,fun hn=>by
   obtain ⟨b,o,e,hb,hc⟩:=h.at_ hn;exact ⟨b,o,e,iE hb hu.1,fun i hi=>hu.2 ⟨b,o+i,none⟩ _ hb (hc i hi)⟩,h.ok⟩
def ZT {D:DataW Value} {L:Mv}(h:pU w D n B L) (hu:Wf w w'):pU w' D n B L:=
 ⟨h.key,fun p hp hh=>by
   obtain ⟨v,h1,s,A,kk,c,ls,e,g1,g2,g3,g4,g5⟩:=h.at_ p hp hh;exact ⟨v,h1,⟨s,A,kk,c,ls,e,g1,g2,g3,uo g4 hu,g5⟩⟩,h.none,h.isMap⟩
def Kf {nc:Nat} {L:Mv} (h:tP w b nc n B L) (hu:Wf w w') (ho:Only S w w') (hb:¬S b):tP w' b nc n B L:=by
 obtain ⟨D,m1,m2⟩:=h;obtain ⟨es,clock,hh,r⟩:=m1;have hlt:b<w.heap.size:=(jm.1 hh).1;exact ⟨D,⟨es,clock,(ho.block b hlt hb).trans hh,r⟩,ZT m2 hu⟩
def Kv {S':Nat->Prop}(h:Only S w0 w) (ho:Only S' w w') (hS:∀x,x<w0.heap.size->S' x->S x):Only S w0 w':=
 ⟨ho.os.trans h.os,ho.tape.trans h.tape,ho.output.trans h.output,aG h.size ho.size,fun i hi hs=>(ho.block i (iE hi h.size) (fun h2=>hs (hS i hi h2))).trans (h.block i hi hs)⟩
def AH (h:Below B w0 w) (ho:Only S w w') (hB:B<=w.heap.size) (hS:∀x,S x->B<=x):Below B w0 w':=h.trans (ho.below hB hS)
structure Uw (w:World) (gl:Nat) (low:fI) (s:Bool) (A:Option Addr) (k c:Nat) (ls:List Int):Prop where
 row:Row w gl 68 low
 Re:Duo w (gl+1) (.bool s) (.slice A k c)
 lim:aD w A k ls
def Uw.keep {low:fI} (h:Uw w gl low s A k c ls) (hu:Wf w w') (ho:Only S w w') (h0:¬S gl) (h1:¬S (gl+1)):Uw w' gl low s A k c ls:=
 ⟨h.row.only ho h0,h.Re.keep (ho.block _ h.Re.lt h1),uo h.lim hu⟩
def Uw.aC {low:fI} (h:Uw w gl low s A k c ls) (hb:Below w.heap.size w w'):Uw w' gl low s A k c ls:=
 h.keep (S:=fun _=>False) (Wf.aC hb) (jG hb) (fun h=>h) (fun h=>h)
def aaN (w:World) (x0 x1 x2 x3 x4 x5:Int) (s:Bool) (A:Option Addr) (k c:Nat) (ls:List Int) (h:aD w A k ls):
 Uw ((w.alloc (.cells #[.int .i64 x0,.int .i64 x1,.int .i64 x2,.int .i64 x3,.int .i64 x4,.int .i64 x5] 68)).alloc (.cells #[.bool s,.slice A k c] 41)) w.heap.size [x0,x1,x2,x3,x4,x5] s A k c ls:=by
 have KL:=Duo.new (w.alloc (.cells #[.int .i64 x0,.int .i64 x1,.int .i64 x2,.int .i64 x3,.int .i64 x4,.int .i64 x5] 68)) (.bool s) (.slice A k c);rw [aJ] at KL;exact ⟨(xo _ _ (by simp)).trans (bM _ _),KL,(h.alloc _).alloc _⟩
def Lk (w:World) (o1 o2:Obj):Below w.heap.size w ((w.alloc o1).alloc o2):=(aU.alloc aL _).alloc (by simp) _
def Og (w:World) (o1 o2:Obj):((w.alloc o1).alloc o2).heap.size=w.heap.size+1+1:=by simp
def Ws (w:World) (z:Int) (i:Int) (K:Nat) (e:Ending) (w':World):Prop:=
 ∃s A k c ls,e=.returned (.tuple #[.agg #[.bool s,.slice A k c],.int .i64 i])∧k<=c∧c<=9223372036854775807∧k<=K∧aD w' A k ls∧aI s ls=z∧Below w.heap.size w w'
def EH (w:World) (g:Nat) (u v:Value):Only (fun x=>x=g) w ((w.setCell ⟨g,0,none⟩ u).setCell ⟨g,1,none⟩ v):=
 ((Only.refl (fun x=>x=g) w).setCell (p:=⟨g,0,none⟩) rfl _).setCell (p:=⟨g,1,none⟩) rfl _
def acz (s:Bool) (A:Option Addr) (k c:Nat) (ls:List Int) (y:Int) (h2:0<=y) (hy:y<=10000) (w:World) (hL:aD w A k ls) (hkc:k<=c) (hc:c<=9223372036854775807) (hk:k<=100000):
 aB 104 #[.agg #[.bool s,.slice A k c],.int .i64 y] w (Ws w (aI s ls*y) (max (y-1) 0) (k+2)):=by
 have HL:=aA hL;have Co:=aA (fun W=>OO y W (by omega) (by omega));have hew:IntKind.i64.wrap (y-1)=y-1:=bP _ (by omega);clear hL;go_enter func104,ntmps104
 go_wp2_with fail
 have b2:=Lk w (.cells #[.bool s,.slice A k c] 41) (.cells #[.bool false,.slice none 0 0] 41);have vH:=Og w (.cells #[.bool s,.slice A k c] 41) (.cells #[.bool false,.slice none 0 0] 41);have d0:Duo ((w.alloc (.cells #[.bool s,.slice A k c] 41)).alloc (.cells #[.bool false,.slice none 0 0] 41)) w.heap.size (.bool s) (.slice A k c):=(xo _ _ (by simp)).trans (bM _ _);have d1:=Duo.new (w.alloc (.cells #[.bool s,.slice A k c] 41)) (.bool false) (.slice none 0 0);rw [aJ] at d1;generalize (w.alloc (.cells #[.bool s,.slice A k c] 41)).alloc (.cells #[.bool false,.slice none 0 0] 41)=wt at*
 have D0:=aA d0;have D1:=aA d1;have B2:=aA b2;have xB:w.heap.size+1<wt.heap.size:=by omega
 have hne:w.heap.size+1≠w.heap.size:=by omega
 have axH:w.heap.size≠w.heap.size+1:=by omega
 have hw1:w.heap.size<=w.heap.size+1:=by omega
 clear d0 d1 b2 vH;generalize w.heap.size+1=gr at*
 have keep:Hid (∀W,Below wt.heap.size wt W->W.cell? ⟨w.heap.size,0,none⟩=some (.bool s)∧W.cell? ⟨w.heap.size,1,none⟩=some (.slice A k c)):=fun W hW=>⟨(D0.o.aC hW).cell0,(D0.o.aC hW).cell1⟩;have Pv:Hid (∀W u v,Below wt.heap.size wt W->((W.setCell ⟨gr,0,none⟩ u).setCell ⟨gr,1,none⟩ v).cell? ⟨w.heap.size,0,none⟩=some (.bool s)∧((W.setCell ⟨gr,0,none⟩ u).setCell ⟨gr,1,none⟩ v).cell? ⟨w.heap.size,1,none⟩=some (.slice A k c)):=fun W u v hW=>by
  have o1:=EH W gr u v;have hd:=(D0.o.aC hW).keep (o1.block _ (D0.o.aC hW).lt axH);exact ⟨hd.cell0,hd.cell1⟩
 have res:Hid (∀W,Below wt.heap.size wt W->W.cell? ⟨gr,0,none⟩=some (.bool false)∧W.cell? ⟨gr,1,none⟩=some (.slice none 0 0)∧W.frozen? ⟨gr,0,none⟩=false∧W.frozen? ⟨gr,1,none⟩=false):=fun W hW=>
  ⟨(D1.o.aC hW).cell0,(D1.o.aC hW).cell1,(D1.o.aC hW).frozen 0,(D1.o.aC hW).frozen 1⟩
 obtain ⟨v0,v1⟩:=keep.o wt aU;go_region_held3 (fun W=>W.cell? ⟨w.heap.size,0,none⟩=some (.bool s)∧W.cell? ⟨w.heap.size,1,none⟩=some (.slice A k c))
  (first | go_keep | exact keep.o _ aU.drew | exact keep.o _ nH | exact keep.o _ hbm | exact Pv.o _ _ _ hbm)
  (first
    | (go_at_call 46;refine (Co.o _).mono ?_;rintro e wa ⟨so,Ao,ko,co,lo,rfl,o1,o2,o3,o4,o5,arj⟩;have nH:Below wt.heap.size wt wa:=aU.drew.trans arj)
    | (go_at_call 76;refine (avV s so A Ao k ko c co ls lo _ (HL.o.aC (B2.o.tm nH)) o4 hkc hc o1 o2 (by omega) (by omega)).mono ?_;rintro e wm ⟨s1,A1,k1,c1,Xr,rfl,p1,p2,p3,p4,p5,arh⟩;have hbm:Below wt.heap.size wt wm:=nH.tm arh;obtain ⟨r0,r1,q0,q1⟩:=res.o wm hbm))
 all_goals
  have jQ:=D1.o.aC hbm;have o6:=EH wm gr (.bool s1) (.slice A1 k1 c1);have qp:Below w.heap.size w wm:=B2.o.tm hbm;have n1:Hid (Below w.heap.size w ((wm.setCell ⟨gr,0,none⟩ (.bool s1)).setCell ⟨gr,1,none⟩ (.slice A1 k1 c1))):=AH qp o6 qp.size (fun x hx=>by omega);have n2:=aA (jQ.set (.bool s1) (.slice A1 k1 c1));have n3:=aA (uo p4 (Wf.Re jQ o6));have n4:Hid (aI s1 Xr=aI s ls*y):=by show _=_;rw [p5.eq,o5.eq]
  have n5:k1<=k+2:=by omega
  clear jQ o6 qp p4 p5 o4 o5 nH hbm arj arh;go_wp2_with fail
  (try simp only [Exit.inBlock,Exit.then])
  exact bK (results_cell_tmp (fn:=f104) rfl _ _ _ _ _ _ _ rfl n2.o underlying41 rfl bQ) rfl ⟨s1,A1,k1,c1,Xr,rfl,p1,p2,n5,n3.o,n4.o,n1.o⟩
def amF (s:Bool) (A:Option Addr) (k c:Nat) (ls:List Int) (ex:Nat) (w:World) (hL:aD w A k ls) (hkc:k<=c) (hc:c<=9223372036854775807) (hk:k<=100000) (he:ex<=10000):
 aB 104 #[.agg #[.bool s,.slice A k c],.int .i64 (ex:Int)] w (Ws w (aI s ls*(ex:Int)) (((ex-1:Nat):Int)) (k+2)):=by
 have:=acz s A k c ls (ex:Int) (by omega) (by omega) w hL hkc hc hk;rw [show ((ex-1:Nat):Int)=max ((ex:Int)-1) 0 by omega];exact this
def lift_map (_hn:n<=6) (hi:i<n) {L:Mv}(hL:eW n L) {f g:Int->Int}:liftM n (mapM (fun p=>p.set i (f (nth p i))) (fun p=>g (nth p i)) L)=mapM (fun p=>p.set i (f (nth p i))) (fun p=>g (nth p i)) (liftM n L):=by
 unfold liftM mapM;rw [jl,jl];refine E6 fun t ht=> ?_;have hl:=hL t ht;have e1:nth (iZ n t.1) i=nth t.1 i:=by unfold iZ;rw [nN (by omega)]
 have e2:(iZ n t.1).set i (f (nth t.1 i))=iZ n (t.1.set i (f (nth t.1 i))):=by unfold iZ;rw [List.set_append_left _ _ (by omega)]
 show (iZ n (t.1.set i (f (nth t.1 i))),t.2*g (nth t.1 i))=((iZ n t.1).set i (f (nth (iZ n t.1) i)),t.2*g (nth (iZ n t.1) i));rw [e1,e2]
def acj {p:fI}(h:iY n p) {v:Int}(h0:0<=v) (h1:v<=4611686018427387904) (hi:i<n):iY n (p.set i v):=by
 refine ⟨by rw [fW];exact h.len,fun x hx=> ?_,fun j hj=> ?_⟩
 . rcases pR hx with hx | rfl
   . exact h.bd x hx
   . exact ⟨h0,h1⟩
 . by_cases hl:i<p.length
   . rw [gK hl,aY (by omega)];exact h.zero j hj
   . rw [WV (by omega)];exact h.zero j hj
def aeE (n Ca:Nat) (A:Option Addr) (ma ca:Nat) (L:List TV) (i:Nat) (w:World) (hx:iI w A ma L) (hL:Arg n Ca L) (hn:n<=6) (hi:i<n) (hCa:Ca<=10000) (qx:Dj 1000 (mapM (fun p=>p.set i (max (nth p i-1) 0)) (fun p=>nth p i) (aP L))):
 aB 103 #[.int .i64 (n:Int),.slice A ma ca,.int .i64 (i:Int),.func (.func 104) #[] #[]] w (mJ w n (mapM (fun p=>p.set i (max (nth p i-1) 0)) (fun p=>nth p i) (aP L))):=by
 have Ys:=hx.len;have QE:ma<=4096:=by have:=hL.cnt;omega
 have Cc:=aA (ri (n:Int) A ma ca L w hx (vr hL hn));have Cg1:=aA (fun W (h:Below w.heap.size w W)=>K4 n Ca A ma ca L W (hx.aC h) (by omega) hn (by omega) (Lm hL));have HL:=aA hL;have Hml:=aA Ys;have Hbd:=aA qx;have hmm:=@run_makeMap prog;have rT:¬(i:Int)<0:=by omega
 have hi1:(i:Int)<(n:Int):=by omega
 have aqG:¬(n:Int)<=(i:Int):=by omega
 have V6:(0:Int)<=(i:Int):=by omega
 have hi3:(i:Int)<6:=by omega
 clear hx hL Ys qx;go_enter func103,ntmps103
 go_wp2_with fail
 refine Cc.o.mono ?_;rintro e w1 ⟨rfl,cZ⟩;clear Cc;go_wp2_with fail
 have uF:tP (w1.alloc (.map #[] 0)) w1.heap.size 0 n 0 []:=⟨.map [],World.ownsMap_made _ _ _ _,pU.start _ _ _⟩;have cN:Below w.heap.size w (w1.alloc (.map #[] 0)):=cZ.alloc cZ.size (.map #[] 0);have aEY:w1.heap.size<(w1.alloc (.map #[] 0)).heap.size:=by simp
 have aJp:=cZ.size;clear cZ;generalize w1.alloc (.map #[] 0)=w2 at*
 generalize w1.heap.size=b1 at*
 have Hs1:=aA uF;clear uF;refine (Cg1.o w2 cN).mono ?_;rintro e wo ⟨b2,rfl,aLs,vH,agw⟩;have RH:Hid (Below w.heap.size w wo):=cN.tm agw;have asQ:=aA (BD Hs1.o agw);obtain ⟨D,hm,Ra⟩:=vH;obtain ⟨D1,hm1,_⟩:=asQ.o;have Hd:=aA Ra;have Hm1:=aA hm1;have aEX:=hm.lt;have hsz:=Pg hm;have aLu:=agw.size;have aLq:b1<b2:=by omega
 clear Hs1 Cg1 Ra hm1 agw cN hmm;go_wp2_with (at_range;go_must (refine wpList_range_own _ rfl _ 63 rfl 68 41 yQ underlying63 mZ b2 ma D rfl hm ?_);intro w0 Sv OG Ah)
 go_frame
 have agB:=aA HL.o.KD;go_loopw [30] (fun v wr=>∃(left:Lit->Bool) (cnt:Nat) (E:Mv),wr.ranges prog 68 mZ b2 wo.heap.size ma D left cnt∧Hid (Seen D n (liftM n (aP L)) left E)∧Hid (tP wr b1 E.length n (Ca+ma+3002+E.length) (mapM (fun p=>p.set i (max (nth p i-1) 0)) (fun p=>nth p i) E))∧Hid (Only (fun x=>x=b1) wo wr)∧wo.heap.size+1<=wr.heap.size∧E.length+cnt<=ma) (fun _ wr=>wr.rangeLeft b2 wo.heap.size)
 case atStart=>
  have aiE:Below wo.heap.size wo w0:=aU.grown OG aL (by simp);refine ⟨_,_,[],Sv,Seen.start _ _ _,?_,jG aiE,by omega,by simpa using hsz⟩;exact XD (BD asQ.o aiE) (by omega)
 case round=>
  obtain ⟨left,cnt,E,hrg,hS,CD,ho,EW,hlen⟩:=hrel;clear Sv OG Ah hm;go_wp2_with (at_next;go_must (refine wpList_next_ranges _ rfl _ rfl 68 yQ mZ GC mkZ O7 Vm b2 wo.heap.size ma D left cnt rfl hrg ?_ ?_))
  . intro hc0 xB
    have rN:∀t∈liftM n (aP L),iY n t.1:=Xy hn agB.o (HL.o.Tp.mono (by omega));have hdone:=hS.o.done xB Hd.o rN;have hML:eW n (mapM (fun p=>p.set i (max (nth p i-1) 0)) (fun p=>nth p i) (aP L)):=Ph agB.o (fun p hp=>by rw [fW];exact hp);have heq:jI 6 (mapM (fun p=>p.set i (max (nth p i-1) 0)) (fun p=>nth p i) E) (liftM n (mapM (fun p=>p.set i (max (nth p i-1) 0)) (fun p=>nth p i) (aP L))):=by
     rw [lift_map hn hi agB.o (f:=fun y=>max (y-1) 0) (g:=fun y=>y)];exact afF _ _ hS.o.awE (Xx hn agB.o) hdone
    have C:=aA (afG b1 E.length n (Ca+ma+3002+E.length) _ _ wr CD.o hn (by omega) (by omega) hML Hbd.o (by unfold mapM;rw [dJ,au,Hml.o];exact QE) (afK hn heq hML));have Hb4:Hid (Below w.heap.size w wr):=RH.o.trans (ho.o.below RH.o.size (fun x hx=>by omega));clear hrg xB rN hdone hML heq hS CD ho;(go_wp2_with fail);refine C.o.mono ?_;intro e w5 h5;obtain ⟨A3,c3,L3,rfl,g1,g2,g3,g4,g5,g6⟩:=h5.from_ Hb4.o;have F:=aA (show mJ w n (mapM (fun p=>p.set i (max (nth p i-1) 0)) (fun p=>nth p i) (aP L)) (.returned (.tuple #[.slice A3 L3.length c3,.int .i64 0])) w5 from ⟨A3,c3,L3,rfl,g1,g2,g3,g4,g5,g6⟩);clear h5 g3 g4 g5 g6;(go_wp2_with fail);go_ret2;exact F.o
  . intro p zc kl y1 y2 mO cnt' GL M9 hR gZ abj hlt wU uF hen
    have agd:Only (fun x=>x=b1) wo mO:=XX ho.o wU aL;obtain ⟨rfl,rN,sZ,abD,h1,h2,h3,ls,hLm,hz⟩:=QZ (Oc Hd.o Hm1.o agd) GL hR gZ
    obtain ⟨cs,cA,ck,cc⟩:=zc;simp only at h1 h2 h3 hLm hz;have M7:wr.rangeLeft b2 wo.heap.size=cnt:=hrg.left_eq;have hpb:∀x∈p,0<=x∧x<=1000:=by
     obtain ⟨t,ht,e⟩:=sZ;rw [<- e];exact afL (by omega) HL.o.Tp t ht
    have MA:=aA rN;have HLm:=aA hLm;have Hz:=aA hz;have Hr1:=aA abj;have HS2:=aA (hS.o.step rN abD M9);have aBw:=aA agd;(have aLw:b1<wr.heap.size:=by have:=EW;omega);have aJG:=wU.size;have ux:Below w.heap.size w mO:=RH.o.trans (agd.below RH.o.size (fun x hx=>by omega));have ahw:=aA ux;have abg:Hid (tP mO b1 E.length n (Ca+ma+3002+E.length) (mapM (fun p=>p.set i (max (nth p i-1) 0)) (fun p=>nth p i) E)):=by
     obtain ⟨D',m1,m2⟩:=CD.o;exact ⟨D',m1.kept wU (fun e=>by injection e;omega),XG m2 hrg wU⟩
    (have hpi:i<p.length:=by rw [rN.len];omega);obtain ⟨ex,hex⟩:∃ex:Nat,nth p i=(ex:Int):=⟨(nth p i).toNat,by have:=hpb _ (gL hpi);omega⟩;(have aLe:ex<=1000:=by have:=hpb _ (gL hpi);omega);have Hex:=aA hex;have alu:Hid (iY n (p.set i (((ex-1:Nat):Int)))):=acj rN (by omega) (by omega) hi;obtain ⟨x0,x1,x2,x3,x4,x5,hpe⟩:∃x0 x1 x2 x3 x4 x5,p=[x0,x1,x2,x3,x4,x5]:=by
     match p,rN.len with
     | [x0,x1,x2,x3,x4,x5],_=>exact ⟨_,_,_,_,_,_,rfl⟩
    (have hpv:GC p=.agg #[.int .i64 x0,.int .i64 x1,.int .i64 x2,.int .i64 x3,.int .i64 x4,.int .i64 x5]:=by rw [hpe];rfl);have Iq:mkZ ⟨cs,cA,ck,cc⟩=.agg #[.bool cs,.slice cA ck cc]:=rfl;rw [hpv,Iq] at hen ⊢;have Hpe:=aA hpe;clear hpv Iq rN sZ abD M9 hLm hz GL hR gZ abj wU uF hrg agd hS CD ho ux hpb hpi;(go_wp2_with fail);have b2':=Lk mO (.cells #[.int .i64 x0,.int .i64 x1,.int .i64 x2,.int .i64 x3,.int .i64 x4,.int .i64 x5] 68) (.cells #[.bool cs,.slice cA ck cc] 41);have apH:=Og mO (.cells #[.int .i64 x0,.int .i64 x1,.int .i64 x2,.int .i64 x3,.int .i64 x4,.int .i64 x5] 68) (.cells #[.bool cs,.slice cA ck cc] 41);have aio:=aaN mO x0 x1 x2 x3 x4 x5 cs cA ck cc ls HLm.o;generalize ((mO.alloc (.cells #[.int .i64 x0,.int .i64 x1,.int .i64 x2,.int .i64 x3,.int .i64 x4,.int .i64 x5] 68)).alloc (.cells #[.bool cs,.slice cA ck cc] 41))=wt at*
    (have ayT:mO.heap.size+1<wt.heap.size:=by omega);have adN:=aA aio;have wI:=aA b2';clear b2' apH aio;have hci:wt.cell? ⟨mO.heap.size,i,none⟩=some (.int .i64 (ex:Int)):=by
     have h:=adN.o.row.cell (i:=i) (by show i<6;omega);rw [<- hpe,hex] at h;exact h
    clear hpe hex;have hc0:=adN.o.Re.cell0;have WB:=adN.o.Re.cell1;(have aLv:b1<mO.heap.size:=by omega);go_region_with (go_at_call 104;refine (amF cs cA ck cc ls ex _ (adN.o.lim.aC aU.drew) h1 h2 (by omega) (by omega)).mono ?_;rintro e wv ⟨s1,A1,k1,c1,Xr,rfl,g1,g2,g3,g4,g5,ard⟩;have TD:Below wt.heap.size wt wv:=aU.drew.trans ard;have hlv:=adN.o.aC TD;have q0:=hlv.Re.cell0;have q1:=hlv.Re.cell1;have qi:=(TD.cell (p:=⟨mO.heap.size,i,none⟩) (by show mO.heap.size<_;omega)).trans hci;have f0:=hlv.Re.frozen 0;have f1:=hlv.Re.frozen 1;have fi:=Row.frozen hlv.row i;have Hlv:=aA hlv;have Hbv:=aA TD;have G4:=aA g4;have G5:=aA g5;have hsv:=TD.size;clear hlv TD ard g4 g5)
    all_goals
     have o1:=EH wv (mO.heap.size+1) (.bool s1) (.slice A1 k1 c1);have u1:=Wf.Re Hlv.o.Re o1;have r1:=Hlv.o.row.only o1 (by omega);have d1:=Hlv.o.Re.set (.bool s1) (.slice A1 k1 c1);have m1:=uo G4.o u1;have s1':=Kf (BD (BD abg.o wI.o) Hbv.o) u1 o1 (by have:=wI.o.size;omega);have qp:Below w.heap.size w wv:=(ahw.o.tm wI.o).trans (Hbv.o.mono (by have:=ahw.o.size;have:=wI.o.size;omega));have bb1:=AH qp o1 qp.size (fun x hx=>by have:=ahw.o.size;omega);have ho1:Only (fun x=>x=b1) wo wv:=(aBw.o.trans (jG wI.o)).trans (jG Hbv.o);have ho2:=Kv ho1 o1 (fun x hx h=>by omega);have QB:Hid ((wv.setCell ⟨mO.heap.size+1,0,none⟩ (.bool s1)).setCell ⟨mO.heap.size+1,1,none⟩ (.slice A1 k1 c1) |>.ranges prog 68 mZ b2 wo.heap.size ma D (fun z=>left z && !z.sameKey (bH p)) cnt'):=
      ((Hr1.o.kept (oU wI.o) (by simp) (by simp)).kept (oU Hbv.o) (by simp) (by simp)).kept (uO o1) (fun e=>by injection e;omega) (fun e=>by injection e;omega)
     have hsq:=o1.size;generalize (wv.setCell ⟨mO.heap.size+1,0,none⟩ (.bool s1)).setCell ⟨mO.heap.size+1,1,none⟩ (.slice A1 k1 c1)=wq at*
     have o2:Only (fun x=>x=mO.heap.size) wq (wq.setCell ⟨mO.heap.size,i,none⟩ (.int .i64 (((ex-1:Nat):Int)))):=(Only.refl (fun x=>x=mO.heap.size) wq).setCell (p:=⟨mO.heap.size,i,none⟩) rfl _;have u2:=Wf.row r1 o2;have r2:=r1.set i (((ex-1:Nat):Int));have d2:=d1.keep (o2.block _ d1.lt (by omega));have m2:=uo m1 u2;have s2':=Kf s1' u2 o2 (by omega);have bb2:=AH bb1 o2 bb1.size (fun x hx=>by have:=ahw.o.size;omega);have ho3:=Kv ho2 o2 (fun x hx h=>by omega);have aBq:Hid ((wq.setCell ⟨mO.heap.size,i,none⟩ (.int .i64 (((ex-1:Nat):Int)))).ranges prog 68 mZ b2 wo.heap.size ma D (fun z=>left z && !z.sameKey (bH p)) cnt'):=QB.o.kept (uO o2) (fun e=>by injection e;omega) (fun e=>by injection e;omega);have hsr:=o2.size;generalize wq.setCell ⟨mO.heap.size,i,none⟩ (.int .i64 (((ex-1:Nat):Int)))=wz at*
     rw [<- Hpe.o] at r2;have hgz:=alu.o;obtain ⟨z0,z1,z2,z3,z4,z5,hze⟩:∃z0 z1 z2 z3 z4 z5,p.set i (((ex-1:Nat):Int))=[z0,z1,z2,z3,z4,z5]:=by
      match p.set i (((ex-1:Nat):Int)),hgz.len with
      | [z0,z1,z2,z3,z4,z5],_=>exact ⟨_,_,_,_,_,_,rfl⟩
     rw [hze] at r2 hgz;have Hze:=aA hze;have Hgz:=aA hgz;have t0:wz.cell? ⟨mO.heap.size,0,none⟩=some (.int .i64 z0):=r2.cell (i:=0) (by show 0<6;omega);have t1:wz.cell? ⟨mO.heap.size,1,none⟩=some (.int .i64 z1):=r2.cell (i:=1) (by show 1<6;omega);have t2:wz.cell? ⟨mO.heap.size,2,none⟩=some (.int .i64 z2):=r2.cell (i:=2) (by show 2<6;omega);have t3:wz.cell? ⟨mO.heap.size,3,none⟩=some (.int .i64 z3):=r2.cell (i:=3) (by show 3<6;omega);have t4:wz.cell? ⟨mO.heap.size,4,none⟩=some (.int .i64 z4):=r2.cell (i:=4) (by show 4<6;omega);have t5:wz.cell? ⟨mO.heap.size,5,none⟩=some (.int .i64 z5):=r2.cell (i:=5) (by show 5<6;omega);have t6:=d2.cell0;have t7:=d2.cell1;have M2:=aA m2;have S2:=aA s2';have BB:=aA bb2;have HO:=aA ho3;clear o1 u1 r1 d1 m1 s1' qp bb1 ho1 ho2 QB o2 u2 r2 d2 m2 s2' bb2 ho3 hze hgz hci hc0 WB q0 q1 qi f0 f1 fi hen abg;(go_wp2_with fail);refine (apm b1 E.length n (Ca+ma+3002+E.length) (Ca+ma+3002) _ [z0,z1,z2,z3,z4,z5] s1 A1 k1 c1 Xr wz S2.o Hgz.o (by unfold maxLen;omega) M2.o g1 g2 (by omega) (by omega) (by omega)).mono ?_;rintro e w3 ⟨rfl,hs3,ho3⟩;(have OD:(E++[(p,gh (liftM n (aP L)) p)]).length=E.length+1:=by simp);have Hs3:Hid (tP w3 b1 (E.length+1) n (Ca+ma+3002+(E.length+1)) (mapM (fun p=>p.set i (max (nth p i-1) 0)) (fun p=>nth p i) (E++[(p,gh (liftM n (aP L)) p)]))):=by
      (have q1:max (Ca+ma+3002+E.length) (Ca+ma+3002)+1=Ca+ma+3002+(E.length+1):=by omega);rw [q1] at hs3;have q2:mapM (fun p=>p.set i (max (nth p i-1) 0)) (fun p=>nth p i) (E++[(p,gh (liftM n (aP L)) p)])=mapM (fun p=>p.set i (max (nth p i-1) 0)) (fun p=>nth p i) E++[([z0,z1,z2,z3,z4,z5],aI s1 Xr)]:=by
       rw [mapM_append,G5.o,Hz.o,<- Hze.o];show _++[(p.set i (max (nth p i-1) 0),gh (liftM n (aP L)) p*nth p i)]=_;rw [Hex.o];rw [show max ((ex:Int)-1) 0=(((ex-1:Nat)):Int) by omega]
      show tP _ _ _ _ _ _;rw [q2];exact hs3
     have Ho3:Hid (Only (fun x=>x=b1) wo w3):=HO.o.trans ho3;have Hr3:Hid (w3.ranges prog 68 mZ b2 wo.heap.size ma D (fun z=>left z && !z.sameKey (bH p)) cnt'):=aBq.o.kept (uO ho3) (fun e=>by injection e;omega) (fun e=>by injection e;omega);(have aqu:wo.heap.size+1<=w3.heap.size:=by have:=ho3.size;have:=wI.o.size;omega);clear hs3 ho3;(go_wp2_with fail);go_roundw
     case rel=>
      refine ⟨_,cnt',E++[(p,gh (liftM n (aP L)) p)],Hr3.o,HS2,?_,Ho3,aqu,by rw [OD];omega⟩;rw [OD];exact Hs3
     case measure=>rw [Hr3.o.left_eq,M7];omega
def akq (n Ca:Nat) (A:Option Addr) (ma ca:Nat) (L:List TV) (i:Nat) (w:World) (hx:iI w A ma L) (hL:Arg n Ca L) (hn:n<=6) (hi:i<n) (hCa:Ca<=10000) (qx:Dj 1000 (mapM (fun p=>p.set i (max (nth p i-1) 0)) (fun p=>nth p i) (aP L))):
 aB 70 #[.int .i64 (n:Int),.slice A ma ca,.int .i64 (i:Int)] w (mJ w n (mapM (fun p=>p.set i (max (nth p i-1) 0)) (fun p=>nth p i) (aP L))):=by
 have C:=aA (aeE n Ca A ma ca L i w hx hL hn hi hCa qx);clear hx hL qx;go_enter func70,ntmps70
 go_wp2_with fail
 refine C.o.mono ?_;rintro e w5 ⟨A3,c3,L3,rfl,g1,g2,g3,g4,g5,g6⟩;have F:=aA (show mJ w n (mapM (fun p=>p.set i (max (nth p i-1) 0)) (fun p=>nth p i) (aP L)) (.returned (.tuple #[.slice A3 L3.length c3,.int .i64 0])) w5 from ⟨A3,c3,L3,rfl,g1,g2,g3,g4,g5,g6⟩);clear g3 g4 g5 g6;go_wp2_with fail
 go_ret2;exact F.o
def Gn {s:Bool} {xs:List Int} {z:Int}(h:dN s xs z) (hz:z.natAbs<2^(64*C)):xs.length<=C:=by
 rcases jM xs.length with h0 | h0
 . omega
 . have h1:=h.pl.low h0
   have h2:limbs xs=z.natAbs:=by
    have:=h.eq;unfold aI at this;cases s<;>simp at this<;>omega
   rw [h2] at h1;by_cases hlt:xs.length<=C
   . exact hlt
   . exfalso
     have h3:2^(64*C)<=2^(64*(xs.length-1)):=fP (by omega) (by omega);omega
def Py (s:Bool) (h:aQ xs) (hC:xs.length<=C):(aI s xs).natAbs<2^(64*C):=by
 have h1:=dc h;have h2:2^(64*xs.length)<=2^(64*C):=fP (by omega) (by omega);have h3:(aI s xs).natAbs=limbs xs:=by
  unfold aI;cases s<;>simp
 omega
def KZ {m:Nat} {L:List TV}(h:iI w A m L):∀t∈L,aQ t.1.2:=fun t ht=>by
 obtain ⟨i,hi,rfl⟩:=adr ht;have h0:0<m:=by rw [<- h.len];omega
 obtain ⟨b,o,_,_,hc⟩:=h.at_ h0;obtain ⟨_,_,_,_,_,_,_,_,_,_,_,h8,_⟩:=hc i hi;exact h8.ok
