import Derived.Test.YtehcoffbiplphaaGreatGSrtK
set_option linter.all false
set_option maxHeartbeats 8000000
set_option maxRecDepth 1000000
namespace Go.Proofs.YtehcoffbiplphaaGreat
open Go.Proofs.Tryz
open Go.RowKit
variable {w w' w0 wr mA w2 wd:World} {S:Nat->Prop} {A:Option Addr} {n k b B r g cap base C c gl i:Nat} {xs ls:List Int} {y:Addr} {e:Ending} {d:Int} {s:Bool}
def WC:(prog.info? 44).map (fun i=>(i.zero,i.size,i.bytes))=some (some (.agg #[.bool false,.slice none 0 0,.slice none 0 0]),3,56):=by kernel_rfl
def oU (h:Below w.heap.size w w'):w.grownBy w' none:=⟨h.os,h.tape,h.output,h.size,fun i hi _=>h.block i hi⟩
structure QJ (w0 wr:World) (D:DataW Value) (n base:Nat) (v:Value) (Lx:Mv) (left:Lit->Bool) (E:List bA):Prop where
 own:wr.ownsRow base 44 3 v E.length (aS E)
 took:CU D n Lx left (aU (E.map (·.2)))
 ok:∀x∈E,gL wr x∧bW x.2.1.1 x.2.1.2 (aF x.2.1.1 x.2.1.2)
 far:∀x∈E,(0<x.2.1.2.length->∀y,x.1.1.1=some y->v.ownBlock≠some y.block)∧(0<x.2.2.length->∀y,x.1.2.1=some y->v.ownBlock≠some y.block)
 up:∀x∈E,(0<x.2.1.2.length->∀y,x.1.1.1=some y->base<=y.block)∧(0<x.2.2.length->∀y,x.1.2.1=some y->base<=y.block)
 aB:Below w0.heap.size w0 wr
 low:base<=wr.heap.size
def aeq {E:List bA} {x:bA}(hx:x∈E):bp x.2∈aU (E.map (·.2)):=aj.2 ⟨x.2,aj.2 ⟨x,hx,rfl⟩,rfl⟩
section
variable {w0 wr : World} {D : DataW Value} {n base : Nat} {v : Value} {Lx : Mv} {left : Lit -> Bool} {E : List bA}
def QJ.len (h:QJ w0 wr D n base v Lx left E):∀x∈E,x.2.2.length=n:=fun _x hx=>h.took.len _ (aeq hx)
def QJ.tls (h:QJ w0 wr D n base v Lx left E):Tls wr base v n E:=⟨h.own,fun x hx=>(h.ok x hx).1,h.len,h.far⟩
end
def iE {x:bA} (h:gL w x) (ho:Only S w w') (h1:0<x.2.1.2.length->∀y,x.1.1.1=some y->¬S y.block) (h2:0<x.2.2.length->∀y,x.1.2.1=some y->¬S y.block):gL w' x:=by
 obtain ⟨k1,k2,k3,k4,k5,k6⟩:=h;refine ⟨k1,k2,k3,k4,⟨k5.len,fun hn=> ?_,k5.ok⟩,zR k6 ho h2⟩;obtain ⟨b,o,e,hb,hc⟩:=k5.at_ hn;refine ⟨b,o,e,gh hb ho.size,fun i hi=> ?_⟩;rw [ho.cell (p:=⟨b,o+i,none⟩) hb (h1 hn ⟨b,o,none⟩ e)];exact hc i hi
def yO (h:aD w A n xs) (hn:0<n) (hy:A=some y):y.block<w.heap.size:=by
 obtain ⟨b,o,e,hb,_⟩:=h.at_ hn;rw [e] at hy;injection hy with hy
 rw [<- hy];exact hb
def Bc (h:Ints w A n xs) (hn:0<n) (hy:A=some y):y.block<w.heap.size:=by
 obtain ⟨b,o,e,hb,_⟩:=h.at_ hn;rw [e] at hy;injection hy with hy
 rw [<- hy];exact hb
def O0 {P:Program} {k:TypeId} {R:Value->Option (DataW Value×List MemPlace)} {D:DataW Value}(h:w.ownsMap P k R b n D):Maps.size D<=n:=by
 obtain ⟨es,clock,_,_,hs,rfl⟩:=h;rw [Maps.size_eq,Go.length_sorted,dW,Vg];exact hs
def EE (h:Below B w0 w) (hg:w.grownBy w' (some b)) (hB:B<=w.heap.size) (hb:B<=b):Below B w0 w':=h.grown hg hB (fun k hk=>by injection hk;omega)
def jF (h:Below w.heap.size w w'):Only S w w':=⟨h.os,h.tape,h.output,h.size,fun i hi _=>h.block i hi⟩
def QJ.next {w3:World} {D:DataW Value} {v:Value} {Lx:Mv} {left left':Lit->Bool} {E:List bA} {x:bA} {o:Obj}(h:QJ w0 wr D n (r+1) v Lx left E)
 (hr:w0.heap.size<=r) (wQ:wr.grownBy mA (some r)) (cU:Below mA.heap.size mA w2) (hx:gL w2 x) (hz:bW x.2.1.1 x.2.1.2 (aF x.2.1.1 x.2.1.2))
 (hf1:0<x.2.1.2.length->∀y,x.1.1.1=some y->mA.heap.size<=y.block) (hf2:0<x.2.2.length->∀y,x.1.2.1=some y->mA.heap.size<=y.block)
 (aY:w3.ownsRow (r+1) 44 3 (.slice (some ⟨g,0,none⟩) (E.length+1) cap) (E.length+1) (aS E++kN x)) (rE:(w2.alloc o).grownBy w3 v.ownBlock) (gO:v.ownBlock=some g∨g=w2.heap.size+1)
 (PJ:CU D n Lx left' (aU ((E++[x]).map (·.2)))):QJ w0 w3 D n (r+1) (.slice (some ⟨g,0,none⟩) (E.length+1) cap) Lx left' (E++[x]):=by
 have wX:∀k,v.ownBlock=some k->r+1<=k∧k<wr.heap.size:=fun k hk=>h.own.lt k hk;have tZ:=wQ.size;have uW:=cU.size;have Dy:=h.low;have o1:Only (fun k=>k=r) wr w2:=((Only.fH wQ).mono (fun i hi=>by injection hi with hi;exact hi.symm)).trans (jF cU);have b3:Below w2.heap.size w2 (w2.alloc o):=aW.alloc aK _;have o3:Only (fun k=>v.ownBlock=some k) (w2.alloc o) w3:=(Only.fH rE).mono (fun i hi=>by first | exact hi | exact hi.symm);have hold:∀z∈E,gL w2 z:=fun z hz=>iE (h.ok z hz).1 o1 (fun h0 y hy e=>by have:=(h.up z hz).1 h0 y hy;omega) (fun h0 y hy e=>by have:=(h.up z hz).2 h0 y hy;omega);have apr:(0<x.2.1.2.length->∀y,x.1.1.1=some y->v.ownBlock≠some y.block)∧(0<x.2.2.length->∀y,x.1.2.1=some y->v.ownBlock≠some y.block):=
  ⟨fun h0 y hy e=>by have:=hf1 h0 y hy;have:=(wX _ e).2;omega,fun h0 y hy e=>by have:=hf2 h0 y hy;have:=(wX _ e).2;omega⟩
 have yj:∀z∈E++[x],(0<z.2.1.2.length->∀y,z.1.1.1=some y->v.ownBlock≠some y.block)∧(0<z.2.2.length->∀y,z.1.2.1=some y->v.ownBlock≠some y.block):=fun z hz=>by
  rcases gV.1 hz with hz | hz
  . exact h.far z hz
  . rw [en.1 hz];exact apr
 have fP:∀z∈E++[x],gL w2 z:=fun z hz=>by
  rcases gV.1 hz with hz | hz
  . exact hold z hz
  . rw [en.1 hz];exact hx
 refine ⟨by rw [eF,qN];exact aY,PJ,fun z hz=>⟨iE ((fP z hz).aB b3) o3 (fun h0 y hy e=>(yj z hz).1 h0 y hy e) (fun h0 y hy e=>(yj z hz).2 h0 y hy e),?_⟩,fun z hz=> ?_,fun z hz=> ?_,?_,?_⟩
 . rcases gV.1 hz with hz | hz
   . exact (h.ok z hz).2
   . rw [en.1 hz];assumption
 . have h5:=(fP z hz).2.2.2.2.1
   have h6:=(fP z hz).2.2.2.2.2;refine ⟨fun h0 y hy e=> ?_,fun h0 y hy e=> ?_⟩
   . have e:g=y.block:=by injection e
     rcases gO with h1 | h1
     . exact (yj z hz).1 h0 y hy (by rw [h1,e])
     . have:=yO h5 h0 hy;omega
   . have e:g=y.block:=by injection e
     rcases gO with h1 | h1
     . exact (yj z hz).2 h0 y hy (by rw [h1,e])
     . have:=Bc h6 h0 hy;omega
 . rcases gV.1 hz with hz | hz
   . exact h.up z hz
   . rw [en.1 hz]
     exact ⟨fun h0 y hy=>by have:=hf1 h0 y hy;omega,fun h0 y hy=>by have:=hf2 h0 y hy;omega⟩
 . have ux:Below w0.heap.size w0 w2:=(EE h.aB wQ h.aB.size hr).trans (cU.mono (by have:=h.aB.size;omega))
   exact (ux.alloc ux.size o).grown rE (by have:=ux.size;simp;omega) (fun k hk=>by have:=(wX k hk).1;omega)
 . have:=rE.size;simp at this;omega
def QJ.skip {D:DataW Value} {v:Value} {Lx:Mv} {left left':Lit->Bool} {E:List bA}(h:QJ w0 wr D n (r+1) v Lx left E)
 (hr:w0.heap.size<=r) (wQ:wr.grownBy mA (some r)) (cU:Below mA.heap.size mA w2) (PJ:CU D n Lx left' (aU (E.map (·.2)))):QJ w0 w2 D n (r+1) v Lx left' E:=by
 have wX:∀k,v.ownBlock=some k->r+1<=k∧k<wr.heap.size:=fun k hk=>h.own.lt k hk;have tZ:=wQ.size;have uW:=cU.size;have Dy:=h.low;have o1:Only (fun k=>k=r) wr w2:=((Only.fH wQ).mono (fun i hi=>by injection hi with hi;exact hi.symm)).trans (jF cU);refine ⟨Ue (h.own.kept wQ ?_) cU,PJ,fun z hz=>⟨iE (h.ok z hz).1 o1 (fun h0 y hy e=>by have:=(h.up z hz).1 h0 y hy;omega) (fun h0 y hy e=>by have:=(h.up z hz).2 h0 y hy;omega),(h.ok z hz).2⟩,h.far,h.up,(EE h.aB wQ h.aB.size hr).trans (cU.mono (by have:=h.aB.size;omega)),by omega⟩;cases hob:v.ownBlock with
 | none=>exact Or.inl rfl
 | some g=>exact Or.inr (fun e=>by have:=(wX g hob).1;injection e;omega)
def QJ.done {D:DataW Value} {Lx M:Mv} {left:Lit->Bool} {E E':List bA}(h:QJ w0 wr D n base (.slice (some ⟨g,0,none⟩) E.length cap) Lx left E) (hn:n<=6) (hl:∀k,left k=false) (hs:pW wd D n B Lx) (hM:fI n M) (hb:C8 4611686018427387904 M) (Ku:∀p,p.length=n->iA Lx (ic n p)=iA M p)
 (hp:E'.Perm E) (ho:E'.Pairwise (fun x y=>¬jN x.2.2 y.2.2)) (hc:∀i (h:i<E'.length),w'.cell? ⟨g,3*i,none⟩=some (.bool (E'[i]).2.1.1)∧w'.cell? ⟨g,3*i+1,none⟩=some (.slice (E'[i]).1.1.1 (E'[i]).2.1.2.length (E'[i]).1.1.2)∧w'.cell? ⟨g,3*i+2,none⟩=some (.slice (E'[i]).1.2.1 (E'[i]).2.2.length (E'[i]).1.2.2)) (j5:Only (fun j=>j=g) wr w'):
 jM w' (some ⟨g,0,none⟩) E.length (E'.map (·.2))∧eP n (E'.map (·.2))∧jR n (aU (E'.map (·.2))) M:=by
 have VE:(aU (E'.map (·.2))).Perm (aU (E.map (·.2))):=(hp.map _).map _;have Ry:g<wr.heap.size:=(h.own.lt g rfl).2;have Kr:∀x∈E',x∈E:=fun x hx=>hp.mem_iff.1 hx;have hEq:jR n (aU (E'.map (·.2))) M:=(jR.perm VE).trans (h.took.done hn hl hs hM hb Ku);refine ⟨⟨by rw [dW,hp.length_eq],fun h0=>⟨g,0,rfl,gh Ry j5.size,fun i hi=> ?_⟩⟩,⟨FY (fun t ht=>h.took.len t (VE.mem_iff.1 ht)) ?_ (fun t ht=>h.took.ne t (VE.mem_iff.1 ht)) ?_,fun t ht=> ?_⟩,hEq⟩
 . have yh:i<E'.length:=by simpa using hi
   have e:(E'.map (·.2))[i]=(E'[i]).2:=by simp
   have hx:=Kr _ (bw yh);have hf:=h.far _ hx;obtain ⟨k1,k2,k3,k4,k5,k6⟩:=iE (h.ok _ hx).1 j5 (fun h0 y hy hg=>hf.1 h0 y hy (by show some g=some y.block;rw [hg])) (fun h0 y hy hg=>hf.2 h0 y hy (by show some g=some y.block;rw [hg]));obtain ⟨c0,c1,c2⟩:=hc i yh;rw [e];refine ⟨_,_,_,_,?_,?_,?_,k1,k2,k3,k4,k5,k6⟩
   . rw [ct];exact c0
   . rw [ct];exact c1
   . rw [ct];exact c2
 . exact (VE.map (·.1)).symm.pairwise h.took.nodup (fun {x y} hxy e=>hxy e.symm)
 . have h2:(aU (E'.map (·.2)))=E'.map (fun x=>bp x.2):=by unfold aU;rw [jw];rfl
   rw [h2,mZ];exact ho
 . obtain ⟨x,hx,rfl⟩:=aj.1 ht
   exact (h.ok x (Kr x hx)).2
def Pk {D:DataW Value} {L:Mv}(hd:pW w D n B L) {p:fE} {c:ZIn} {kl:Lit} {y1:DataW Value} {y2:List MemPlace}(Ff:keyOf prog 68 (FX p)=some kl) (hR:mR (mkZ c)=some (y1,y2)) (gO:∀zd,D.atKey kl zd=y1):
 kl=bJ p∧ia n p∧(∃t∈L,t.1=p)∧Maps.has D (bJ p)=true∧c.k<=c.c∧c.c<=9223372036854775807∧c.k<=B∧∃ls,aD w c.A c.k ls∧aF c.s ls=iA L p:=by
 obtain ⟨hl,hi,rfl⟩:=Yz Ff;have hh:Maps.has D (bJ p)=true:=by
  cases h:Maps.has D (bJ p) with
  | true=>rfl
  | false=>
    have h1:=gO (.held (.int .i64 0));have h2:=gO (.held (.int .i64 1));rw [Maps.atKey_of_not_has h] at h1 h2;rw [<- h1] at h2;injection h2 with h2
    injection h2 with _ h2
    omega
 obtain ⟨p',e,hg,tj⟩:=hd.key _ hh;have hpp:p=p':=by
  unfold bJ at e;injection e with e
  exact keyBytes_inj (hl.trans hg.len.symm) hi hg.i64 e
 subst hpp;obtain ⟨v,h1,h2⟩:=hd.at_ p hg hh;obtain ⟨s,A,k,cc,ls,ev,g1,g2,g3,g4,g5⟩:=h2.ex;obtain ⟨cs,cA,ck,ccp⟩:=c;have e1:mkZ ⟨cs,cA,ck,ccp⟩=v:=by
  have h3:=gO (.held (.int .i64 0));rw [h1] at h3;have h4:(y1,y2)=(.held (mkZ ⟨cs,cA,ck,ccp⟩),[]):=by
   have:=PF cs cA ck ccp;unfold mkZ at hR;rw [this] at hR;injection hR with hR
   exact hR.symm
  injection h4 with h4
  rw [h4] at h3;injection h3 with h3
  exact h3.symm
 rw [<- e1] at ev;unfold mkZ at ev;simp only [Value.agg.injEq,Array.mk.injEq,Tk,Value.bool.injEq,Sz,and_true] at ev;obtain ⟨rfl,rfl,rfl,rfl⟩:=ev;exact ⟨rfl,hg,tj,hh,g1,g2,g3,ls,g4,g5⟩
open Go.Sort
def aiv (w:World) (base g cap n:Nat) (L:List bA) (hp:Tls w base (.slice (some ⟨g,0,none⟩) L.length cap) n L) (h0:0<L.length) (hL:L.length<1000000000) (hn:n<=1000000):
 aC 108 #[.slice (some ⟨g,0,none⟩) L.length cap,.func (.func 109) #[] #[]] w fun e w'=>e=.returned (.tuple #[])∧∃L':List bA,L'.Perm L∧L'.Pairwise (fun x y=>¬jN x.2.2 y.2.2)∧
  (∀i (h:i<L'.length),w'.cell? ⟨g,3*i,none⟩=some (.bool (L'[i]).2.1.1)∧w'.cell? ⟨g,3*i+1,none⟩=some (.slice (L'[i]).1.1.1 (L'[i]).2.1.2.length (L'[i]).1.1.2)∧w'.cell? ⟨g,3*i+2,none⟩=some (.slice (L'[i]).1.2.1 (L'[i]).2.2.length (L'[i]).1.2.2)∧w'.frozen? ⟨g,3*i,none⟩=false∧w'.frozen? ⟨g,3*i+1,none⟩=false∧w'.frozen? ⟨g,3*i+2,none⟩=false)∧Only (fun j=>j=g) w w':=by
 have aIF:Inhabited (Gw L):=⟨⟨L[0],bw h0⟩⟩;have FE:g<w.heap.size:=(hp.own.lt g rfl).2;have hH:Sort.HoldsK (fun x:Gw L=>kN x.1) 3 w g 0 (og L):=by
  intro j hj;rw [Sort.size_flatK,jX] at hj;refine ⟨?_,hp.frozen _⟩;rw [Sort.get_flatK _ _ _ _ (by rw [jX];exact hj),ct];show _=some (id ((kN ((og L)[j / 3]!).1)[j % 3]!));rw [P8 L (by omega)];obtain ⟨c0,c1,c2⟩:=hp.cells (i:=j / 3) (by omega);have h3:j % 3=0∨j % 3=1∨j % 3=2:=by omega
  rcases h3 with h2 | h2 | h2
  . rw [show 3*(j / 3)=j by omega] at c0
    rw [c0,h2];rfl
  . rw [show 3*(j / 3)+1=j by omega] at c1
    rw [c1,h2];rfl
  . rw [show 3*(j / 3)+2=j by omega] at c2
    rw [c2,h2];rfl
 have eg:∀args w,(callFunc 109 args).run prog w=.ok (.enter 109 args) w:=enters_of func109 (by kernel_rfl) rfl;have XP:CmpLays prog 109 #[] (fun x:Gw L=>kN x.1) 3 Sb g 0 (og L).size w:=fun m os dk hs x y=>by
  have ho:=Ep (fun x:Gw L=>kN x.1) 3 w g 0 m dk os;have hx:=(hp.ok x.1 x.2).2.2.2.2.2;have hy:=(hp.ok y.1 y.2).2.2.2.2.2;have hxo:=zR hx ho (fun h0 a ha e=>(hp.far x.1 x.2).2 h0 a ha (by show some g=some a.block;rw [e]));have hyo:=zR hy ho (fun h0 a ha e=>(hp.far y.1 y.2).2 h0 a ha (by show some g=some a.block;rw [e]));exact aup x.1 y.1 _ hxo hyo (by rw [hp.len _ x.2,hp.len _ y.2]) (by rw [hp.len _ x.2];exact hn)
 have apu:=AnyQ.slices_SortFunc UT 3 isAgg44 sizeOf44 (fun x:Gw L=>kN x.1) (fun _=>rfl) (fun x v hv=>lK [x.1] v (by simpa [aS] using hv)) Sb (aus hp.len) 109 #[] g 0 cap (og L) w eg XP hH FE (by rw [jX];omega);rw [jX] at apu;refine apu.mono ?_;rintro e w' ⟨rfl,d',n,os,hpm,hs,rfl⟩;have hsz:d'.size=L.length:=by rw [hpm.1,jX]
 have hH':=holdsK_sortWorldK_c (fun x:Gw L=>kN x.1) 3 w g 0 (og L) d' n os hH FE (by rw [hsz,jX]);refine ⟨rfl,d'.toList.map (·.1),?_,?_,fun i hi=> ?_,Ep _ _ _ _ _ _ _ _⟩
 . have h1:=hpm.2.2
   rw [acn (by rw [hsz];omega),acn (by rw [jX];omega)] at h1;have h2:=h1.map (fun x:Gw L=>x.1);have h3:(og L).toList.map (fun x:Gw L=>x.1)=L:=by
    unfold og;rw [List.toList_toArray];exact List.attach_map_subtype_val L
   rwa [h3] at h2
 . rw [mZ,acm]
   intro i j hi hj hij;have h1:=hs i j (dc _) hij (by rw [<- hsz];simpa using hj);rw [Vc _ i (by simpa using hi),Vc _ j (by simpa using hj)] at h1;unfold ltOf Sb at h1;have h2:=abQ h1;exact fun h=>h2 (sk.2 h)
 . have yh:i<d'.size:=by simpa using hi
   have b0:=Sort.HoldsK.cell hH' (i:=i) (c:=0) yh (by omega);have c0:=b0.1;have f0:=b0.2;have b1:=Sort.HoldsK.cell hH' (i:=i) (c:=1) yh (by omega);have c1:=b1.1;have f1:=b1.2;have b2:=Sort.HoldsK.cell hH' (i:=i) (c:=2) yh (by omega);have c2:=b2.1;have f2:=b2.2;rw [Vc d' i yh] at c0 c1 c2;have e1:(d'.toList.map (·.1))[i]=(d'[i]).1:=by simp
   rw [e1];rw [show 0+i*3+0=3*i by omega] at c0 f0;rw [show 0+i*3+1=3*i+1 by omega] at c1 f1;rw [show 0+i*3+2=3*i+2 by omega] at c2 f2;exact ⟨c0,c1,c2,f0,f1,f2⟩
structure uV (w:World) (base g:Nat) (E:List bA):Prop where
 cells:∀i (h:i<E.length),w.cell? ⟨g,3*i,none⟩=some (.bool (E[i]).2.1.1)∧w.cell? ⟨g,3*i+1,none⟩=some (.slice (E[i]).1.1.1 (E[i]).2.1.2.length (E[i]).1.1.2)∧w.cell? ⟨g,3*i+2,none⟩=some (.slice (E[i]).1.2.1 (E[i]).2.2.length (E[i]).1.2.2)∧w.frozen? ⟨g,3*i,none⟩=false∧w.frozen? ⟨g,3*i+1,none⟩=false∧w.frozen? ⟨g,3*i+2,none⟩=false
 ok:∀x∈E,gL w x
 far:∀x∈E,(0<x.2.1.2.length->∀y,x.1.1.1=some y->y.block≠g)∧(0<x.2.2.length->∀y,x.1.2.1=some y->y.block≠g)
 lo:base<=g
 lt:g<w.heap.size
section
variable {w w' : World} {base g : Nat} {E : List bA}
def uV.trs (h:uV w base g E):jM w (some ⟨g,0,none⟩) E.length (E.map (·.2)):=
 ⟨by rw [dW],fun _=>⟨g,0,rfl,h.lt,fun i hi=>by
   have yh:i<E.length:=by simpa using hi
   have e:(E.map (·.2))[i]=(E[i]).2:=by simp
   obtain ⟨k1,k2,k3,k4,k5,k6⟩:=h.ok _ (bw yh);obtain ⟨c0,c1,c2,_⟩:=h.cells i yh;rw [e];refine ⟨_,_,_,_,?_,?_,?_,k1,k2,k3,k4,k5,k6⟩
   . rw [ct];exact c0
   . rw [ct];exact c1
   . rw [ct];exact c2⟩⟩
def uV.aB (h:uV w base g E) (hb:Below w.heap.size w w'):uV w' base g E:=
 ⟨fun i hi=>by
   obtain ⟨c0,c1,c2,f0,f1,f2⟩:=h.cells i hi;exact ⟨(hb.cell (p:=⟨g,3*i,none⟩) h.lt).trans c0,(hb.cell (p:=⟨g,3*i+1,none⟩) h.lt).trans c1,(hb.cell (p:=⟨g,3*i+2,none⟩) h.lt).trans c2,(hb.frozen (p:=⟨g,3*i,none⟩) h.lt).trans f0,(hb.frozen (p:=⟨g,3*i+1,none⟩) h.lt).trans f1,(hb.frozen (p:=⟨g,3*i+2,none⟩) h.lt).trans f2⟩,
  fun x hx=>(h.ok x hx).aB hb,h.far,h.lo,gh h.lt hb.size⟩
def QI (w:World) (base:Nat) (A:Option Addr) (E:List bA):Prop:=0<E.length->∃g,A=some ⟨g,0,none⟩∧uV w base g E
def UL {A:Option Addr}(h:QI w base A E):jM w A E.length (E.map (·.2)):=by
 rcases jJ E.length with h0 | h0
 . have:E=[]:=lz h0
   subst this;exact jM.nil _ _
 . obtain ⟨g,rfl,hg⟩:=h h0
   exact hg.trs
def Nx {A:Option Addr}(h:QI w base A E) (hb:Below w.heap.size w w'):QI w' base A E:=fun h0=>by
 obtain ⟨g,e,hg⟩:=h h0;exact ⟨g,e,hg.aB hb⟩
end
def GJ (w:World) (n:Nat) (M:Mv) (e:Ending) (w':World):Prop:=
 ∃A c E,e=.returned (.slice A E.length c)∧E.length<=c∧c<=9223372036854775807∧QI w' w.heap.size A E∧eP n (E.map (·.2))∧jR n (aU (E.map (·.2))) M∧Below w.heap.size w w'
def uH (w:World) (n:Nat) (M:Mv) (e:Ending) (w':World):Prop:=
 ∃A c E,e=.returned (.tuple #[.slice A E.length c,.int .i64 0])∧E.length<=c∧c<=9223372036854775807∧QI w' w.heap.size A E∧eP n (E.map (·.2))∧jR n (aU (E.map (·.2))) M∧Below w.heap.size w w'
def uH.from_ {M:Mv} (h:uH w n M e w') (hb:Below w0.heap.size w0 w):uH w0 n M e w':=by
 obtain ⟨A,c,L,h1,h2,h3,h4,h5,h6,h7⟩:=h;refine ⟨A,c,L,h1,h2,h3,fun h0=> ?_,h5,h6,hb.tm h7⟩;obtain ⟨g,e,hg⟩:=h4 h0;exact ⟨g,e,hg.cells,hg.ok,hg.far,aH hb.size hg.lo,hg.lt⟩
def QJ.aqp {D:DataW Value} {Lx M:Mv} {left:Lit->Bool} {E E':List bA}(h:QJ w0 wr D n base (.slice (some ⟨g,0,none⟩) E.length cap) Lx left E) (rN:w0.heap.size<=base) (hn:n<=6) (hl:∀k,left k=false) (hs:pW wd D n B Lx) (hM:fI n M) (hb:C8 4611686018427387904 M) (Ku:∀p,p.length=n->iA Lx (ic n p)=iA M p)
 (hp:E'.Perm E) (ho:E'.Pairwise (fun x y=>¬jN x.2.2 y.2.2)) (hc:∀i (h:i<E'.length),w'.cell? ⟨g,3*i,none⟩=some (.bool (E'[i]).2.1.1)∧w'.cell? ⟨g,3*i+1,none⟩=some (.slice (E'[i]).1.1.1 (E'[i]).2.1.2.length (E'[i]).1.1.2)∧w'.cell? ⟨g,3*i+2,none⟩=some (.slice (E'[i]).1.2.1 (E'[i]).2.2.length (E'[i]).1.2.2)∧w'.frozen? ⟨g,3*i,none⟩=false∧w'.frozen? ⟨g,3*i+1,none⟩=false∧w'.frozen? ⟨g,3*i+2,none⟩=false) (j5:Only (fun j=>j=g) wr w'):
 uV w' w0.heap.size g E'∧eP n (E'.map (·.2))∧jR n (aU (E'.map (·.2))) M:=by
 obtain ⟨_,h2,h3⟩:=h.done hn hl hs hM hb Ku hp ho (fun i hi=>⟨(hc i hi).1,(hc i hi).2.1,(hc i hi).2.2.1⟩) j5;have Ry:g<wr.heap.size:=(h.own.lt g rfl).2;have VG:base<=g:=(h.own.lt g rfl).1;have Kr:∀x∈E',x∈E:=fun x hx=>hp.mem_iff.1 hx;refine ⟨⟨hc,fun x hx=> ?_,fun x hx=> ?_,?_,gh Ry j5.size⟩,h2,h3⟩
 . have hf:=h.far x (Kr x hx)
   exact iE (h.ok x (Kr x hx)).1 j5 (fun h0 y hy hg=>hf.1 h0 y hy (by show some g=some y.block;rw [hg])) (fun h0 y hy hg=>hf.2 h0 y hy (by show some g=some y.block;rw [hg]))
 . have hf:=h.far x (Kr x hx)
   exact ⟨fun h0 y hy hg=>hf.1 h0 y hy (by show some g=some y.block;rw [hg]),fun h0 y hy hg=>hf.2 h0 y hy (by show some g=some y.block;rw [hg])⟩
 . exact aH rN VG
def aek (bb nc n B:Nat) (Lx M:Mv) (w:World) (hs:tI w bb nc n B Lx) (hn:n<=6) (ig:nc<=1000000) (hB:B<=1000000) (hM:fI n M) (hb:C8 4611686018427387904 M) (Ku:∀p,p.length=n->iA Lx (ic n p)=iA M p):
 aC 77 #[.map (some bb),.int .i64 (n:Int)] w (GJ w n M):=by
 obtain ⟨D,hm,hd⟩:=hs;have IK:=hm.lt;have Hd:=aA hd;have HM:=aA hM;have Hb:=aA hb;have HLM:=aA Ku;have hsz:=O0 hm;obtain ⟨i0,hi,iQ,iC,iP⟩:=dJ WC;clear hd hM hb Ku;go_enter func77,ntmps77
 obtain ⟨wo,rfl⟩:∃wo:World,wo=w:=⟨_,rfl⟩;go_wp2_with (at_range;go_must (refine wpList_range_own _ rfl _ 63 rfl 68 41 yC underlying63 mR bb nc D rfl hm ?_);intro w0 Rt VG IB)
 go_frame
 go_loopw [5] (fun v wr=>∃(left:Lit->Bool) (cnt:Nat) (E:List bA),wr.ranges prog 68 mR bb wo.heap.size nc D left cnt∧Hid (QJ wo wr D n (wo.heap.size+1) v Lx left E)∧E.length+cnt<=nc) (fun _ wr=>wr.rangeLeft bb wo.heap.size)
 case atStart=>
  refine ⟨_,_,[],Rt,⟨nu _ _ _ _,CU.start _ _ _,fun x hx=>(by cases hx),fun x hx=>(by cases hx),fun x hx=>(by cases hx),aW.grown VG aK (by simp),by rw [IB];exact aK⟩,by simpa using hsz⟩
 case round=>
  obtain ⟨left,cnt,E,hrg,hT,hlen⟩:=hrel;go_wp2_with (at_next;go_must (refine wpList_next_ranges _ rfl _ rfl 68 yC mR FX mkZ OU Ux bb wo.heap.size nc D left cnt rfl hrg ?_ ?_))
  . intro hc0 zx
    have Hl0:=aA zx;by_cases hE:0<E.length
    . rcases hT.o.own.2 with ⟨hv,hn0⟩ | ⟨g,cap,cur,hv,hgb,hh,_⟩
      . omega
      . subst hv
        have C:=aA (aiv wr (wo.heap.size+1) g cap n E hT.o.tls hE (by omega) (by omega));clear hrg hm Rt hh zx;(go_wp2_with fail);refine C.o.mono ?_;rintro e w' ⟨rfl,E',Jm,ho',FH,aao⟩;have Mj:=hT.o.aqp (by omega) hn Hl0.o Hd.o HM.o Hb.o HLM.o Jm ho' FH aao;have bD:Below wo.heap.size wo w':=hT.o.aB.trans (aao.below hT.o.aB.size (fun k hk=>by omega));(have hlE:E.length=(E'.map (·.2)).length:=by rw [dW,Jm.length_eq]);have uB:E.length<=cap∧cap<=9223372036854775807:=by
         rcases hT.o.own.2 with ⟨hv,_⟩ | ⟨_,_,_,hv,_,_,h1,h2,_⟩
         . cases hv
         . injection hv with _ _ e
           subst e;exact ⟨h1,by unfold maxLen at h2;omega⟩
        have Fin:Hid (GJ wo n M (.returned (.slice (some ⟨g,0,none⟩) E.length cap)) w'):=by
         obtain ⟨f1,f2,f3⟩:=Mj;have awe:E.length=E'.length:=Jm.length_eq.symm;show GJ _ _ _ _ _;rw [awe] at uB ⊢;exact ⟨_,_,E',rfl,uB.1,uB.2,fun _=>⟨g,rfl,f1⟩,f2,f3,bD⟩
        clear Jm ho' FH aao Mj bD hlE uB C;(go_wp2_with fail);go_ret;exact Fin.o
    . obtain rfl:E=[]:=lz (by omega)
      obtain ⟨A,cap,rfl⟩:∃A cap,u5=.slice A 0 cap:=by
       rcases hT.o.own.2 with ⟨hv,_⟩ | ⟨_,_,_,hv,_⟩
       . exact ⟨_,_,hv⟩
       . exact ⟨_,_,hv⟩
      have C:=aA (Qo A cap wr);have hEq:=hT.o.took.done hn Hl0.o Hd.o HM.o Hb.o HLM.o;have uB:cap<=9223372036854775807:=by
       rcases hT.o.own.2 with ⟨hv,_⟩ | ⟨_,_,_,hv,_,_,h1,h2,_⟩
       . injection hv with _ _ e;omega
       . injection hv with _ _ e
         subst e;unfold maxLen at h2;omega
      have Fin:Hid (GJ wo n M (.returned (.slice A 0 cap)) wr):=⟨A,cap,[],rfl,dc _,uB,fun h=>absurd h (by simp),eP.nil n,hEq,hT.o.aB⟩;clear hrg hm Rt zx hEq;(go_wp2_with fail);refine C.o.mono ?_;rintro e w' ⟨rfl,rfl⟩;(go_wp2_with fail);go_ret;exact Fin.o
  . intro p c kl y1 y2 mA cnt' Ff Mf hR gO aae hlt wQ tZ hen
    have ux:Below wo.heap.size wo mA:=EE hT.o.aB wQ hT.o.aB.size aK;obtain ⟨rfl,rM,_,aaA,h1,h2,h3,ls,hL,hz⟩:=Pk (Hd.o.aB ux) Ff hR gO
    obtain ⟨cs,cA,ck,cc⟩:=c;simp only at h1 h2 h3 hL hz;have XK:wr.rangeLeft bb wo.heap.size=cnt:=hrg.left_eq;have LM:=aA rM;have azP:=aA aaA;have Hlk:=aA Mf;have HL:=aA hL;have Hz:=aA hz;(have Dy:wo.heap.size+1<=mA.heap.size:=by have:=hT.o.low;omega);have Hg1:=aA wQ;have Hr1:=aA aae;obtain ⟨x0,x1,x2,x3,x4,x5,hpe⟩:∃x0 x1 x2 x3 x4 x5,p=[x0,x1,x2,x3,x4,x5]:=by
     match p,rM.len with
     | [x0,x1,x2,x3,x4,x5],_=>exact ⟨_,_,_,_,_,_,rfl⟩
    (have hpv:FX p=.agg #[.int .i64 x0,.int .i64 x1,.int .i64 x2,.int .i64 x3,.int .i64 x4,.int .i64 x5]:=by rw [hpe];rfl);have Mb:mkZ ⟨cs,cA,ck,cc⟩=.agg #[.bool cs,.slice cA ck cc]:=rfl;rw [hpv,Mb] at hen ⊢;have Hpe:=aA hpe;clear hpv Mb hpe rM aaA Mf hL hz Ff hR gO aae wQ tZ hrg Rt hm;(go_wp2_with fail);have b2:Below mA.heap.size mA ((mA.alloc (.cells #[.int .i64 x0,.int .i64 x1,.int .i64 x2,.int .i64 x3,.int .i64 x4,.int .i64 x5] 68)).alloc (.cells #[.bool cs,.slice cA ck cc] 41)):=(aW.alloc aK _).alloc (by simp) _;have bH:Row ((mA.alloc (.cells #[.int .i64 x0,.int .i64 x1,.int .i64 x2,.int .i64 x3,.int .i64 x4,.int .i64 x5] 68)).alloc (.cells #[.bool cs,.slice cA ck cc] 41)) mA.heap.size 68 [x0,x1,x2,x3,x4,x5]:=(xd _ _ (by simp)).trans (bO _ _);have Jp:=Duo.new (mA.alloc (.cells #[.int .i64 x0,.int .i64 x1,.int .i64 x2,.int .i64 x3,.int .i64 x4,.int .i64 x5] 68)) (.bool cs) (.slice cA ck cc);rw [aJ] at Jp;(have aof:mA.heap.size+1<((mA.alloc (.cells #[.int .i64 x0,.int .i64 x1,.int .i64 x2,.int .i64 x3,.int .i64 x4,.int .i64 x5] 68)).alloc (.cells #[.bool cs,.slice cA ck cc] 41)).heap.size:=by simp);generalize ((mA.alloc (.cells #[.int .i64 x0,.int .i64 x1,.int .i64 x2,.int .i64 x3,.int .i64 x4,.int .i64 x5] 68)).alloc (.cells #[.bool cs,.slice cA ck cc] 41))=wt at*
    have Ju:=aA bH;have arJ:=aA Jp;have HLt:=aA (HL.o.aB b2);have keep:Hid (∀W,Below wt.heap.size wt W->W.cell? ⟨mA.heap.size+1,0,none⟩=some (.bool cs)∧W.cell? ⟨mA.heap.size+1,1,none⟩=some (.slice cA ck cc)):=fun W hW=>
     ⟨(arJ.o.aB hW).cell0,(arJ.o.aB hW).cell1⟩
    obtain ⟨c0,c1⟩:=keep.o wt aW;clear bH Jp;refine (xx cs cA ck cc ls wt HLt.o h1 h2 (by omega)).mono ?_;rintro e FV ⟨rfl,zV⟩;have vz:=aA b2;have Fj:=aA zV;(have Mb:bW (cs && decide (0<bu ls ck)) (ls.take (bu ls ck)) (iA Lx p):=by rw [<- Hz.o];exact Dw HL.o.ok HL.o.len cs);(have hzl:(ls.take (bu ls ck)).length=bu ls ck:=by rw [cS,HL.o.len];have:=bS ls ck;omega);have IA:=Mb.Np;rw [hzl] at IA;clear b2 zV c0 c1;by_cases h0:bu ls ck=0
    . have Fx:xC cs (bu ls ck)=0:=by rw [h0];rfl
      rw [Fx];have hT2:Hid (QJ wo FV D n (wo.heap.size+1) u5 Lx (fun z=>left z && !z.sameKey (bJ p)) E):=
       hT.o.skip aK Hg1.o (vz.o.tm Fj.o) (hT.o.took.skip LM.o (IA.2 h0))
      have PL:Hid (FV.ranges prog 68 mR bb wo.heap.size nc D (fun z=>left z && !z.sameKey (bJ p)) cnt'):=Hr1.o.kept (oU (vz.o.tm Fj.o)) (by simp) (by simp);clear Fx h0 IA hzl Mb hen;(go_wp2_with fail);go_roundw
      case rel=>exact ⟨_,cnt',E,PL.o,hT2,by omega⟩
      case measure=>rw [PL.o.left_eq,XK];omega
    . have Fx:xC cs (bu ls ck)≠0:=by
       obtain ⟨k,hk⟩:∃k,bu ls ck=k+1:=⟨bu ls ck-1,by omega⟩;rw [hk];cases cs
       . show (1:Int)≠0;decide
       . show (-1:Int)≠0;decide
      have Kt:iA Lx p≠0:=fun e=>h0 (IA.1 e);(have agI:0<(ls.take (bu ls ck)).length:=by omega);have Cn:Hid (∀W,Below wt.heap.size wt W->aC 105 #[.agg #[.bool cs,.slice cA ck cc]] W (ya W (cs && decide (0<bu ls ck)) (ls.take (bu ls ck)))):=fun W hW=>
       ado cs cA ck cc ls W (HLt.o.aB hW) h1 h2 (by omega)
      have hqs:(p.take n).length=n:=LM.o.take_length hn;have Cc:Hid (∀W,Below wt.heap.size wt W->aC 107 #[.slice (some ⟨mA.heap.size,0,none⟩) n 6] W (zu W (p.take n))):=fun W hW=>by
       have FH:=Z4 (some ⟨mA.heap.size,0,none⟩) (p.take n).length 6 (p.take n) W ⟨rfl,fun _=>⟨_,0,rfl,gh (by omega) hW.size,fun i hi=>by
        rw [ct,mq (by omega)];have h6:=LM.o.len;have hr:=(Ju.o.aB hW).cell (i:=i) (by show i<6;omega);rw [hr,Hpe.o]⟩,fun i=>by
        by_cases hi:i<n
        . rw [mq hi]
          by_cases h6:i<p.length
          . exact LM.o.i64 _ (iK h6)
          . rw [cW (by omega)];exact C7.zero
        . rw [cW (by omega)];exact C7.zero⟩ (by omega)
       rwa [hqs] at FH
      have Hzv:=aA Mb;have aEQ:=aA agI;have PJ:=aA (fun (E2:List bA) (he:aU (E2.map (·.2))=aU (E.map (·.2))++[(p.take n,iA Lx p)])=>by
       have:=hT.o.took.take hn LM.o azP.o Hlk.o Kt;rw [<- he] at this;exact this)
      clear Mb agI IA hzl;generalize xC cs (bu ls ck)=sg at*
      generalize (cs && decide (0<bu ls ck))=sb at*
      generalize ls.take (bu ls ck)=zs at*
      generalize JY:p.take n=qs at*
      have Hqs:=aA hqs;have aHB:(sg==0)=false:=jD.2 Fx;(have aHy:(sg !=0)=true:=by simp [Fx]);(have hn0:(0:Int)<=(n:Int):=by omega);(have hn6:(n:Int)<=6:=by omega);have jr:Hid (∀W,Below mA.heap.size mA W->W.ownsRow (wo.heap.size+1) 44 3 u5 E.length (aS E)):=fun W hW=>Ue (hT.o.own.kept Hg1.o (by
       cases hob:u5.ownBlock with
       | none=>exact Or.inl rfl
       | some g=>exact Or.inr (fun e=>by have:=(hT.o.own.lt g hob).1;injection e;omega))) hW
      have Mg:Hid (∀W o W',Below wt.heap.size wt W->(W.alloc o).grownBy W' u5.ownBlock->W'.cell? ⟨mA.heap.size+1,0,none⟩=some (.bool cs)∧W'.cell? ⟨mA.heap.size+1,1,none⟩=some (.slice cA ck cc)):=fun W o W' hW hg=>by
       have ho:Only (fun k=>u5.ownBlock=some k) (W.alloc o) W':=(Only.fH hg).mono (fun i hi=>by first | exact hi | exact hi.symm);(have hlt:mA.heap.size+1<(W.alloc o).heap.size:=by have:=hW.size;simp;omega);(have hne:¬u5.ownBlock=some (mA.heap.size+1):=fun e=>by have:=(hT.o.own.lt _ e).2;have:=Hg1.o.size;omega);obtain ⟨k0,k1⟩:=keep.o _ (hW.alloc hW.size o);exact ⟨(ho.cell (p:=⟨mA.heap.size+1,0,none⟩) hlt hne).trans k0,(ho.cell (p:=⟨mA.heap.size+1,1,none⟩) hlt hne).trans k1⟩
      obtain ⟨c0,c1⟩:=keep.o FV Fj.o;clear Fx h0 hqs JY Kt hen;(go_wp2_with fail);(have q1:Hid (E.length+1<=maxLen):=by show _<=_;unfold maxLen;omega);(have q2:Hid ((E.length+1)*56<=140737488355328):=by show _<=_;omega);(have q3:Hid (∀(W:World) (o:Obj),Below wt.heap.size wt W->wo.heap.size+1<=(W.alloc o).heap.size):=fun W o hW=>by have h1:=hW.size;have h2:=vz.o.size;simp;omega);(have q4:Hid (∀(W:World) (o:Obj),(W.alloc o).heap.size=W.heap.size+1):=fun W o=>by simp);have q5:Hid (∀(W:World) (o:Obj),Below wt.heap.size wt W->(W.alloc o).ownsRow (wo.heap.size+1) 44 3 u5 E.length (aS E)):=fun W o hW=>(jr.o W (vz.o.tm hW)).alloc _;have q6:Hid (∀(a b c:Value),a.oneCell'=true->b.oneCell'=true->c.oneCell'=true->∀u∈ [a,b,c],u.oneCell'=true):=fun a b c h1 h2 h3 u hu=>by
       simp only [iV,pE,FO] at hu;rcases hu with rfl | rfl | rfl<;>assumption
      go_region_held3 (fun W=>W.cell? ⟨mA.heap.size+1,0,none⟩=some (.bool cs)∧W.cell? ⟨mA.heap.size+1,1,none⟩=some (.slice cA ck cc))
       (first | go_keep | exact keep.o _ Fj.o.drew | exact keep.o _ Fj.o | exact keep.o _ Jq | exact keep.o _ Bn | exact keep.o _ (Bn.alloc Bn.size _) | exact Mg.o _ _ _ Bn aX)
       (first
         | (go_at_call 105;refine (Cn.o _ (by first | exact Fj.o.drew | exact Fj.o | exact below_drewN Fj.o _)).mono ?_;rintro e w12 ⟨A1,u9,rfl,g1,g2,g3,ahk,g4⟩;have Jq:Below wt.heap.size wt w12:=Fj.o.drew.trans (ahk.mono Fj.o.size))
         | (go_at_call 107;refine (Cc.o _ (by first | exact Jq | exact Fj.o.drew)).mono ?_;rintro e w13 ⟨E1,e1,rfl,g5,g6,g7,aaQ,g8⟩;have Bn:Below wt.heap.size wt w13:=Jq.tm aaQ)
         | ((refine su _ (by rfl) _ _ _ (by rfl) (wo.heap.size+1) 44 i0 _ 3 56 underlying22 hi iQ iC iP rfl (by omega) u5 E.length (aS E) (by rfl) (q5.o w13 _ Bn) ⟨w13.heap.size,0,none⟩ 1 1 [.bool sb,.slice A1 zs.length u9,.slice E1 qs.length e1] (by rfl) (by rfl) (gK (cs:=#[.bool sb,.slice A1 zs.length u9,.slice E1 qs.length e1]) (t:=44) (fr:=(0,0)) (bO w13 _)) (q6.o _ _ _ rfl rfl rfl) (Nat.one_pos) q1.o q2.o (q3.o w13 _ Bn) (w13.heap.size+1) (q4.o _ _) ?_);intro gg cap w14 aan aX gO aCx))
      have SD:Below mA.heap.size mA w13:=vz.o.tm Bn;have aHz:=Jq.size;have hsw:mA.heap.size<=wt.heap.size:=vz.o.size;have anX:gL w13 (((A1,u9),(E1,e1)),((sb,zs),qs)):=⟨g1,g2,g5,g6,g3.aB aaQ,g7⟩;have hT2:Hid (QJ wo w14 D n (wo.heap.size+1) (.slice (some ⟨gg,0,none⟩) (E.length+1) cap) Lx (fun z=>left z && !z.sameKey (bJ p)) (E++[(((A1,u9),(E1,e1)),((sb,zs),qs))])):=by
       refine hT.o.next aK Hg1.o SD anX ?_ ?_ ?_ aan aX gO (PJ.o _ ?_)
       . show bW sb zs (aF sb zs)
         rw [Hzv.o.eq];exact Hzv.o
       . exact fun h0 y hy=>by have h1:FV.heap.size<=y.block:=g4 h0 y hy;have:=Fj.o.size;omega
       . exact fun h0 y hy=>by have h1:w12.heap.size<=y.block:=g8 h0 y hy;omega
       . rw [jK,fT]
         show _++[(qs,aF sb zs)]=_;rw [Hzv.o.eq]
      have wX:∀k,u5.ownBlock=some k->wo.heap.size+1<=k:=fun k hk=>(hT.o.own.lt k hk).1;have PL:Hid (w14.ranges prog 68 mR bb wo.heap.size nc D (fun z=>left z && !z.sameKey (bJ p)) cnt'):=
       ((Hr1.o.kept (oU SD) (by simp) (by simp)).alloc _).kept aX (fun e=>by have:=wX _ e.symm;omega) (fun e=>by have:=wX _ e.symm;omega)
      clear aan aX gO SD anX wX g3 g7 Jq Bn ahk aaQ g4 g8;(go_wp2_with fail);go_roundw
      case rel=>
       (have Cw:(E++[(((A1,u9),(E1,e1)),((sb,zs),qs))]).length=E.length+1:=by simp);refine ⟨_,cnt',E++[(((A1,u9),(E1,e1)),((sb,zs),qs))],PL.o,hT2,?_⟩;rw [Cw];omega
      case measure=>rw [PL.o.left_eq,XK];omega
structure Arg (n C:Nat) (L:List TV):Prop where
 len:∀t∈L,t.2.length=n
 bd:∀t∈L,∀x∈t.2,0<=x∧x<=1000
 co:∀t∈L,t.1.2.length<=C
 cnt:L.length<=4096
def aef {L:List TV}(h:∀t∈L,t.2.length=n):fI n (aU L):=fun t ht=>by
 obtain ⟨s,hs,rfl⟩:=aj.1 ht;exact h s hs
def aiY {L:List TV}(h:∀t∈L,∀x∈t.2,0<=x∧x<=d):C8 d (aU L):=fun t ht=>by
 obtain ⟨s,hs,rfl⟩:=aj.1 ht;exact h s hs
section
variable {L:List TV} (h:Arg n C L)
include L h
theorem Arg.O7:fI n (aU L):=aef h.len
theorem Arg.YE:C8 1000 (aU L):=aiY h.bd
theorem LB:Vl n C L:=⟨h.len,fun t ht x hx=>by have:=h.bd t ht x hx;omega,h.co⟩
theorem zj (hn:n<=6):Ja (n:Int) L:=
 ⟨by omega,by omega,h.cnt,fun i hi=>⟨by rw [h.len _ (bw hi)],fun j hj=>h.bd _ (bw hi) _ (iK hj)⟩⟩
end
def Y9 {L:List TV} {M:Mv}(hn:n<=6) (hp:eP n L) (e:jR n (aU L) M) (hl:M.length<=4096) (hb:C8 1000 M):Ja (n:Int) L:=by
 have hc:=hp.mv.count e;rw [bE] at hc;have uG:=hp.mv.bd e hb;refine ⟨by omega,by omega,by omega,fun i hi=>⟨?_,fun j hj=> ?_⟩⟩
 . have:=hp.mv.len (bp L[i]) (aj.2 ⟨_,bw hi,rfl⟩)
   exact fN Int.ofNat this
 . exact uG (bp L[i]) (aj.2 ⟨_,bw hi,rfl⟩) _ (iK hj)
def ou (w:World) (n:Nat) (M:Mv) (e:Ending) (w':World):Prop:=
 ∃A c L,e=.returned (.tuple #[.slice A L.length c,.int .i64 0])∧L.length<=c∧c<=9223372036854775807∧jM w' A L.length L∧eP n L∧jR n (aU L) M∧Below w.heap.size w w'
def ou.from_ {M:Mv} (h:ou w n M e w') (hb:Below w0.heap.size w0 w):ou w0 n M e w':=by
 obtain ⟨A,c,L,h1,h2,h3,h4,h5,h6,h7⟩:=h;exact ⟨A,c,L,h1,h2,h3,h4,h5,h6,hb.tm h7⟩
def O2 (bb nc n B:Nat) (Lx M:Mv) (w:World) (hs:tI w bb nc n B Lx) (hn:n<=6) (ig:nc<=1000000) (hB:B<=1000000) (hM:fI n M) (hb:C8 1000 M) (hl:M.length<=4096) (Ku:∀p,p.length=n->iA Lx (ic n p)=iA M p):
 aC 39 #[.map (some bb),.int .i64 (n:Int)] w (uH w n M):=by
 have Ct:=aA (aek bb nc n B Lx M w hs hn ig hB hM (hb.mono (by omega)) Ku);have Hb:=aA hb;clear hs hM Ku hb;go_enter func39,ntmps39
 go_wp2_with fail
 refine Ct.o.mono ?_;rintro e w1 ⟨A,c,L,rfl,h1,h2,h3,h4,h5,h6⟩;have Cc:=aA (ru (n:Int) A L.length c _ w1 (UL h3) (Y9 hn h4 h5 hl Hb.o));have H3:=aA h3;have H4:=aA h4;have H5:=aA h5;have H6:=aA h6;clear h3 h4 h5 h6;go_wp2_with fail
 refine Cc.o.mono ?_;rintro e w2 ⟨rfl,cU⟩;have vz:=aA cU;clear cU;go_wp2_with fail
 go_ret2;exact ⟨A,c,L,rfl,h1,h2,Nx H3.o vz.o,H4.o,H5.o,H6.o.tm vz.o⟩
def Zh (n C:Nat) (A:Option Addr) (m c:Nat) (L:List TV) (w:World) (hx:jM w A m L) (hL:Arg n C L) (hn:n<=6) (hC:C<=10000):
 aC 20 #[.int .i64 (n:Int),.slice A m c] w (uH w n (aU L)):=by
 have hml:=hx.len;have wR:=hL.cnt;have hm:m<=4096:=by omega
 have Cc:=aA (ru (n:Int) A m c L w hx (zj hL hn));have Cg:=aA (fun W (h:Below w.heap.size w W)=>KZ n C A m c L W (hx.aB h) (by omega) hn (by omega) (LB hL));have Ca:=aA (fun b W (h:tI W b m n (C+m) (liftM n (aU L)))=>O2 b m n (C+m) _ (aU L) W h hn (by omega) (by omega) hL.O7 hL.YE (by rw [bE];omega) (fun p hp=>Ic hL.O7 hp));clear hx hL hml;go_enter func20,ntmps20
 go_wp2_with fail
 refine Cc.o.mono ?_;rintro e w1 ⟨rfl,dH⟩;go_wp2_with fail
 refine (Cg.o w1 dH).mono ?_;rintro e w2 ⟨b,rfl,IK,uW,cU⟩;have C2:=aA (Ca.o b w2 uW);have vz:=aA (dH.tm cU);clear uW dH cU;go_wp2_with fail
 refine C2.o.mono ?_;intro e w3 h3;have h3':=h3.from_ vz.o;obtain ⟨A3,c3,L3,rfl,g1,g2,g3,g4,g5,g6⟩:=h3';have F:=aA (show uH w n (aU L) (.returned (.tuple #[.slice A3 L3.length c3,.int .i64 0])) w3 from ⟨A3,c3,L3,rfl,g1,g2,g3,g4,g5,g6⟩);clear h3 g3 g4 g5 g6;go_wp2_with fail
 go_ret2;exact F.o
def uH.p {M:Mv} (h:uH w n M e w'):ou w n M e w':=by
 obtain ⟨A,c,E,h1,h2,h3,h4,h5,h6,h7⟩:=h;exact ⟨A,c,E.map (·.2),by rw [dW];exact h1,by rw [dW];exact h2,h3,by rw [dW];exact UL h4,h5,h6,h7⟩
def aes (bb nc n B:Nat) (Lx M:Mv) (w:World) (hs:tI w bb nc n B Lx) (hn:n<=6) (ig:nc<=1000000) (hB:B<=1000000) (hM:fI n M) (hb:C8 1000 M) (hl:M.length<=4096) (Ku:∀p,p.length=n->iA Lx (ic n p)=iA M p):
 aC 39 #[.map (some bb),.int .i64 (n:Int)] w (ou w n M):=(O2 bb nc n B Lx M w hs hn ig hB hM hb hl Ku).mono fun _ _ h=>h.p
def anG (n C:Nat) (A:Option Addr) (m c:Nat) (L:List TV) (w:World) (hx:jM w A m L) (hL:Arg n C L) (hn:n<=6) (hC:C<=10000):
 aC 20 #[.int .i64 (n:Int),.slice A m c] w (ou w n (aU L)):=(Zh n C A m c L w hx hL hn hC).mono fun _ _ h=>h.p
def Wd (h:Only S w0 w) (hg:w.grownBy w' (some r)) (hr:w0.heap.size<=r):Only S w0 w':=
 ⟨hg.os.trans h.os,hg.tape.trans h.tape,hg.output.trans h.output,aH h.size hg.size,fun i hi hs=>(hg.block i (gh hi h.size) (fun e=>by injection e;omega)).trans (h.block i hi hs)⟩
def uL (h:Only (fun x=>x=b) w w'):w.grownBy w' (some b):=⟨h.os,h.tape,h.output,h.size,fun i hi hne=>h.block i hi (fun e=>hne (by rw [e]))⟩
section
variable {w w' : World} {b r nb : Nat} {D : DataW Value} {left : Lit -> Bool} {cnt : Nat}
def Sd (h:w.ranges prog 68 mR b r nb D left cnt) (hg:w.grownBy w' (some r)) {p:Addr} {v:Value}(hp:p.block<w.heap.size) (hc:w.cell? p=some v):w'.cell? p=some v:=by
 by_cases e:p.block=r
 . obtain ⟨es,clock,since,seen,c0,hb,F,hs,hD,hr,rest⟩:=h
   rw [<- e] at hr;simp [World.cell?,hr] at hc
 . have:=hg.block p.block hp (fun e2=>e (by injection e2))
   unfold World.cell? at hc ⊢;rw [this];exact hc
def Re {A:Option Addr} {n:Nat} {xs:List Int}(h:aD w A n xs) (hm:w.ranges prog 68 mR b r nb D left cnt) (hg:w.grownBy w' (some r)):aD w' A n xs:=
 ⟨h.len,fun hn=>by
   obtain ⟨bb,o,e,hb,hc⟩:=h.at_ hn;exact ⟨bb,o,e,gh hb hg.size,fun i hi=>Sd hm hg (p:=⟨bb,o+i,none⟩) hb (hc i hi)⟩,h.ok⟩
def WK {D':DataW Value} {n B:Nat} {L:Mv}(h:pW w D' n B L) (hm:w.ranges prog 68 mR b r nb D left cnt) (hg:w.grownBy w' (some r)):pW w' D' n B L:=
 ⟨h.key,fun p hp hh=>by
   obtain ⟨v,h1,s,A,kk,c,ls,e,g1,g2,g3,g4,g5⟩:=h.at_ p hp hh;exact ⟨v,h1,⟨s,A,kk,c,ls,e,g1,g2,g3,Re g4 hm hg,g5⟩⟩,h.none,h.isMap⟩
end
def aex {L:Mv} (hd:0<=d) (h:C8 d L):C8 d (liftM n L):=fun t ht x hx=>by
 obtain ⟨s,hs,rfl⟩:=aj.1 ht;have Cf:x∈s.1++List.replicate (6-n) 0:=hx;rcases gV.1 Cf with Cf | Cf
 . exact h s hs x Cf
 . rw [(ack.1 Cf).2];omega
def Vk (w w':World):Prop:=w.heap.size<=w'.heap.size∧∀(p:Addr) (x:Int),p.block<w.heap.size->w.cell? p=some (.int .u64 x)->w'.cell? p=some (.int .u64 x)
def Vk.aB (h:Below w.heap.size w w'):Vk w w':=⟨h.size,fun _ _ hp hc=>(h.cell hp).trans hc⟩
def Vk.row {t:TypeId} {ps:fE}(hr:Row w g t ps) (ho:Only (fun x=>x=g) w w'):Vk w w':=⟨ho.size,fun p x hp hc=>by
 by_cases e:p.block=g
 . exfalso
   obtain ⟨qb,qo,qs⟩:=p;have e':qb=g:=e;subst e';obtain rfl:=Sv hc;rw [dA w _ _ _ _ (0,0) hr] at hc;simp [ints] at hc
 . exact (ho.cell hp e).trans hc⟩
def Vk.Qg {A':Option Addr} (hr:Duo w g (.bool s) (.slice A' k c)) (ho:Only (fun x=>x=g) w w'):Vk w w':=⟨ho.size,fun p x hp hc=>by
 by_cases e:p.block=g
 . exfalso
   obtain ⟨qb,qo,qs⟩:=p;have e':qb=g:=e;subst e';obtain rfl:=Sv hc;unfold Duo at hr;rw [dA w _ _ _ _ (0,0) hr] at hc;match qo with
   | 0=>simp at hc
   | 1=>simp at hc
   | j+2=>simp at hc
 . exact (ho.cell hp e).trans hc⟩
def ur (h:aD w A n xs) (hu:Vk w w'):aD w' A n xs:=
 ⟨h.len,fun hn=>by
   obtain ⟨b,o,e,hb,hc⟩:=h.at_ hn;exact ⟨b,o,e,gh hb hu.1,fun i hi=>hu.2 ⟨b,o+i,none⟩ _ hb (hc i hi)⟩,h.ok⟩
def YR {D:DataW Value} {L:Mv}(h:pW w D n B L) (hu:Vk w w'):pW w' D n B L:=
 ⟨h.key,fun p hp hh=>by
   obtain ⟨v,h1,s,A,kk,c,ls,e,g1,g2,g3,g4,g5⟩:=h.at_ p hp hh;exact ⟨v,h1,⟨s,A,kk,c,ls,e,g1,g2,g3,ur g4 hu,g5⟩⟩,h.none,h.isMap⟩
def J4 {nc:Nat} {L:Mv} (h:tI w b nc n B L) (hu:Vk w w') (ho:Only S w w') (hb:¬S b):tI w' b nc n B L:=by
 obtain ⟨D,m1,m2⟩:=h;obtain ⟨es,clock,hh,r⟩:=m1;have hlt:b<w.heap.size:=(jf.1 hh).1;exact ⟨D,⟨es,clock,(ho.block b hlt hb).trans hh,r⟩,YR m2 hu⟩
def KQ {S':Nat->Prop}(h:Only S w0 w) (ho:Only S' w w') (hS:∀x,x<w0.heap.size->S' x->S x):Only S w0 w':=
 ⟨ho.os.trans h.os,ho.tape.trans h.tape,ho.output.trans h.output,aH h.size ho.size,fun i hi hs=>(ho.block i (gh hi h.size) (fun h2=>hs (hS i hi h2))).trans (h.block i hi hs)⟩
def zi (h:Below B w0 w) (ho:Only S w w') (hB:B<=w.heap.size) (hS:∀x,S x->B<=x):Below B w0 w':=h.trans (ho.below hB hS)
structure UA (w:World) (gl:Nat) (low:fE) (s:Bool) (A:Option Addr) (k c:Nat) (ls:List Int):Prop where
 row:Row w gl 68 low
 Qg:Duo w (gl+1) (.bool s) (.slice A k c)
 lim:aD w A k ls
def UA.keep {low:fE} (h:UA w gl low s A k c ls) (hu:Vk w w') (ho:Only S w w') (h0:¬S gl) (h1:¬S (gl+1)):UA w' gl low s A k c ls:=
 ⟨h.row.only ho h0,h.Qg.keep (ho.block _ h.Qg.lt h1),ur h.lim hu⟩
def UA.aB {low:fE} (h:UA w gl low s A k c ls) (hb:Below w.heap.size w w'):UA w' gl low s A k c ls:=
 h.keep (S:=fun _=>False) (Vk.aB hb) (jF hb) (fun h=>h) (fun h=>h)
def Zo (w:World) (x0 x1 x2 x3 x4 x5:Int) (s:Bool) (A:Option Addr) (k c:Nat) (ls:List Int) (h:aD w A k ls):
 UA ((w.alloc (.cells #[.int .i64 x0,.int .i64 x1,.int .i64 x2,.int .i64 x3,.int .i64 x4,.int .i64 x5] 68)).alloc (.cells #[.bool s,.slice A k c] 41)) w.heap.size [x0,x1,x2,x3,x4,x5] s A k c ls:=by
 have Jp:=Duo.new (w.alloc (.cells #[.int .i64 x0,.int .i64 x1,.int .i64 x2,.int .i64 x3,.int .i64 x4,.int .i64 x5] 68)) (.bool s) (.slice A k c);rw [aJ] at Jp;exact ⟨(xd _ _ (by simp)).trans (bO _ _),Jp,(h.alloc _).alloc _⟩
def K9 (w:World) (o1 o2:Obj):Below w.heap.size w ((w.alloc o1).alloc o2):=(aW.alloc aK _).alloc (by simp) _
def N5 (w:World) (o1 o2:Obj):((w.alloc o1).alloc o2).heap.size=w.heap.size+1+1:=by simp
def Vv (w:World) (z:Int) (i:Int) (K:Nat) (e:Ending) (w':World):Prop:=
 ∃s A k c ls,e=.returned (.tuple #[.agg #[.bool s,.slice A k c],.int .i64 i])∧k<=c∧c<=9223372036854775807∧k<=K∧aD w' A k ls∧aF s ls=z∧Below w.heap.size w w'
def DW (w:World) (g:Nat) (u v:Value):Only (fun x=>x=g) w ((w.setCell ⟨g,0,none⟩ u).setCell ⟨g,1,none⟩ v):=
 ((Only.refl (fun x=>x=g) w).setCell (p:=⟨g,0,none⟩) rfl _).setCell (p:=⟨g,1,none⟩) rfl _
def abr (s:Bool) (A:Option Addr) (k c:Nat) (ls:List Int) (y:Int) (h2:0<=y) (hy:y<=10000) (w:World) (hL:aD w A k ls) (hkc:k<=c) (hc:c<=9223372036854775807) (hk:k<=100000):
 aC 104 #[.agg #[.bool s,.slice A k c],.int .i64 y] w (Vv w (aF s ls*y) (max (y-1) 0) (k+2)):=by
 have HL:=aA hL;have Co:=aA (fun W=>Nn y W (by omega) (by omega));have hew:IntKind.i64.wrap (y-1)=y-1:=bR _ (by omega);clear hL;go_enter func104,ntmps104
 go_wp2_with fail
 have b2:=K9 w (.cells #[.bool s,.slice A k c] 41) (.cells #[.bool false,.slice none 0 0] 41);have uW:=N5 w (.cells #[.bool s,.slice A k c] 41) (.cells #[.bool false,.slice none 0 0] 41);have d0:Duo ((w.alloc (.cells #[.bool s,.slice A k c] 41)).alloc (.cells #[.bool false,.slice none 0 0] 41)) w.heap.size (.bool s) (.slice A k c):=(xd _ _ (by simp)).trans (bO _ _);have d1:=Duo.new (w.alloc (.cells #[.bool s,.slice A k c] 41)) (.bool false) (.slice none 0 0);rw [aJ] at d1;generalize (w.alloc (.cells #[.bool s,.slice A k c] 41)).alloc (.cells #[.bool false,.slice none 0 0] 41)=wt at*
 have D0:=aA d0;have D1:=aA d1;have B2:=aA b2;have zx:w.heap.size+1<wt.heap.size:=by omega
 have hne:w.heap.size+1≠w.heap.size:=by omega
 have avK:w.heap.size≠w.heap.size+1:=by omega
 have hw1:w.heap.size<=w.heap.size+1:=by omega
 clear d0 d1 b2 uW;generalize w.heap.size+1=gr at*
 have keep:Hid (∀W,Below wt.heap.size wt W->W.cell? ⟨w.heap.size,0,none⟩=some (.bool s)∧W.cell? ⟨w.heap.size,1,none⟩=some (.slice A k c)):=fun W hW=>⟨(D0.o.aB hW).cell0,(D0.o.aB hW).cell1⟩;have xS:Hid (∀W u v,Below wt.heap.size wt W->((W.setCell ⟨gr,0,none⟩ u).setCell ⟨gr,1,none⟩ v).cell? ⟨w.heap.size,0,none⟩=some (.bool s)∧((W.setCell ⟨gr,0,none⟩ u).setCell ⟨gr,1,none⟩ v).cell? ⟨w.heap.size,1,none⟩=some (.slice A k c)):=fun W u v hW=>by
  have o1:=DW W gr u v;have hd:=(D0.o.aB hW).keep (o1.block _ (D0.o.aB hW).lt avK);exact ⟨hd.cell0,hd.cell1⟩
 have res:Hid (∀W,Below wt.heap.size wt W->W.cell? ⟨gr,0,none⟩=some (.bool false)∧W.cell? ⟨gr,1,none⟩=some (.slice none 0 0)∧W.frozen? ⟨gr,0,none⟩=false∧W.frozen? ⟨gr,1,none⟩=false):=fun W hW=>
  ⟨(D1.o.aB hW).cell0,(D1.o.aB hW).cell1,(D1.o.aB hW).frozen 0,(D1.o.aB hW).frozen 1⟩
 obtain ⟨v0,v1⟩:=keep.o wt aW;go_region_held3 (fun W=>W.cell? ⟨w.heap.size,0,none⟩=some (.bool s)∧W.cell? ⟨w.heap.size,1,none⟩=some (.slice A k c))
  (first | go_keep | exact keep.o _ aW.drew | exact keep.o _ pK | exact keep.o _ hbm | exact xS.o _ _ _ hbm)
  (first
    | (go_at_call 46;refine (Co.o _).mono ?_;rintro e wa ⟨so,Ao,ko,co,lo,rfl,o1,o2,o3,o4,o5,apH⟩;have pK:Below wt.heap.size wt wa:=aW.drew.trans apH)
    | (go_at_call 76;refine (aub s so A Ao k ko c co ls lo _ (HL.o.aB (B2.o.tm pK)) o4 hkc hc o1 o2 (by omega) (by omega)).mono ?_;rintro e wm ⟨s1,A1,k1,c1,Wx,rfl,p1,p2,p3,p4,p5,apF⟩;have hbm:Below wt.heap.size wt wm:=pK.tm apF;obtain ⟨r0,r1,q0,q1⟩:=res.o wm hbm))
 all_goals
  have jU:=D1.o.aB hbm;have o6:=DW wm gr (.bool s1) (.slice A1 k1 c1);have qu:Below w.heap.size w wm:=B2.o.tm hbm;have n1:Hid (Below w.heap.size w ((wm.setCell ⟨gr,0,none⟩ (.bool s1)).setCell ⟨gr,1,none⟩ (.slice A1 k1 c1))):=zi qu o6 qu.size (fun x hx=>by omega);have n2:=aA (jU.set (.bool s1) (.slice A1 k1 c1));have n3:=aA (ur p4 (Vk.Qg jU o6));have n4:Hid (aF s1 Wx=aF s ls*y):=by show _=_;rw [p5.eq,o5.eq]
  have n5:k1<=k+2:=by omega
  clear jU o6 qu p4 p5 o4 o5 pK hbm apH apF;go_wp2_with fail
  (try simp only [Exit.inBlock,Exit.then])
  exact ax (results_cell_tmp (fn:=f104) rfl _ _ _ _ _ _ _ rfl n2.o underlying41 rfl aT) rfl ⟨s1,A1,k1,c1,Wx,rfl,p1,p2,n5,n3.o,n4.o,n1.o⟩
def alh (s:Bool) (A:Option Addr) (k c:Nat) (ls:List Int) (ex:Nat) (w:World) (hL:aD w A k ls) (hkc:k<=c) (hc:c<=9223372036854775807) (hk:k<=100000) (he:ex<=10000):
 aC 104 #[.agg #[.bool s,.slice A k c],.int .i64 (ex:Int)] w (Vv w (aF s ls*(ex:Int)) (((ex-1:Nat):Int)) (k+2)):=by
 have:=abr s A k c ls (ex:Int) (by omega) (by omega) w hL hkc hc hk;rw [show ((ex-1:Nat):Int)=max ((ex:Int)-1) 0 by omega];exact this
def lift_map (_hn:n<=6) (hi:i<n) {L:Mv}(hL:fI n L) {f g:Int->Int}:liftM n (mapM (fun p=>p.set i (f (nth p i))) (fun p=>g (nth p i)) L)=mapM (fun p=>p.set i (f (nth p i))) (fun p=>g (nth p i)) (liftM n L):=by
 unfold liftM mapM;rw [jw,jw];refine ER fun t ht=> ?_;have hl:=hL t ht;have e1:nth (ic n t.1) i=nth t.1 i:=by unfold ic;rw [nE (by omega)]
 have e2:(ic n t.1).set i (f (nth t.1 i))=ic n (t.1.set i (f (nth t.1 i))):=by unfold ic;rw [List.set_append_left _ _ (by omega)]
 show (ic n (t.1.set i (f (nth t.1 i))),t.2*g (nth t.1 i))=((ic n t.1).set i (f (nth (ic n t.1) i)),t.2*g (nth (ic n t.1) i));rw [e1,e2]
def abe {p:fE}(h:ia n p) {v:Int}(h0:0<=v) (h1:v<=4611686018427387904) (hi:i<n):ia n (p.set i v):=by
 refine ⟨by rw [gH];exact h.len,fun x hx=> ?_,fun j hj=> ?_⟩
 . rcases rK hx with hx | rfl
   . exact h.bd x hx
   . exact ⟨h0,h1⟩
 . by_cases hl:i<p.length
   . rw [iX hl,af (by omega)];exact h.zero j hj
   . rw [NN (by omega)];exact h.zero j hj
def adw (n Ca:Nat) (A:Option Addr) (ma ca:Nat) (L:List TV) (i:Nat) (w:World) (hx:jM w A ma L) (hL:Arg n Ca L) (hn:n<=6) (hi:i<n) (hCa:Ca<=10000) (uG:C8 1000 (mapM (fun p=>p.set i (max (nth p i-1) 0)) (fun p=>nth p i) (aU L))):
 aC 103 #[.int .i64 (n:Int),.slice A ma ca,.int .i64 (i:Int),.func (.func 104) #[] #[]] w (ou w n (mapM (fun p=>p.set i (max (nth p i-1) 0)) (fun p=>nth p i) (aU L))):=by
 have hml:=hx.len;have PS:ma<=4096:=by have:=hL.cnt;omega
 have Cc:=aA (ru (n:Int) A ma ca L w hx (zj hL hn));have Cg1:=aA (fun W (h:Below w.heap.size w W)=>KZ n Ca A ma ca L W (hx.aB h) (by omega) hn (by omega) (LB hL));have HL:=aA hL;have Hml:=aA hml;have Hbd:=aA uG;have hmm:=@run_makeMap prog;have uA:¬(i:Int)<0:=by omega
 have hi1:(i:Int)<(n:Int):=by omega
 have aIH:¬(n:Int)<=(i:Int):=by omega
 have XL:(0:Int)<=(i:Int):=by omega
 have hi3:(i:Int)<6:=by omega
 clear hx hL hml uG;go_enter func103,ntmps103
 go_wp2_with fail
 refine Cc.o.mono ?_;rintro e w1 ⟨rfl,dH⟩;clear Cc;go_wp2_with fail
 have tZ:tI (w1.alloc (.map #[] 0)) w1.heap.size 0 n 0 []:=⟨.map [],World.ownsMap_made _ _ _ _,pW.start _ _ _⟩;have cU:Below w.heap.size w (w1.alloc (.map #[] 0)):=dH.alloc dH.size (.map #[] 0);have aDb:w1.heap.size<(w1.alloc (.map #[] 0)).heap.size:=by simp
 have aHk:=dH.size;clear dH;generalize w1.alloc (.map #[] 0)=w2 at*
 generalize w1.heap.size=b1 at*
 have Hs1:=aA tZ;clear tZ;refine (Cg1.o w2 cU).mono ?_;rintro e wo ⟨b2,rfl,aJk,uW,afi⟩;have QO:Hid (Below w.heap.size w wo):=cU.tm afi;have arf:=aA (AP Hs1.o afi);obtain ⟨D,hm,Qe⟩:=uW;obtain ⟨D1,hm1,_⟩:=arf.o;have Hd:=aA Qe;have Hm1:=aA hm1;have aDa:=hm.lt;have hsz:=O0 hm;have aJm:=afi.size;have aJi:b1<b2:=by omega
 clear Hs1 Cg1 Qe hm1 afi cU hmm;go_wp2_with (at_range;go_must (refine wpList_range_own _ rfl _ 63 rfl 68 41 yC underlying63 mR b2 ma D rfl hm ?_);intro w0 Rt VG IB)
 go_frame
 have afm:=aA HL.o.O7;go_loopw [30] (fun v wr=>∃(left:Lit->Bool) (cnt:Nat) (E:Mv),wr.ranges prog 68 mR b2 wo.heap.size ma D left cnt∧Hid (Seen D n (liftM n (aU L)) left E)∧Hid (tI wr b1 E.length n (Ca+ma+3002+E.length) (mapM (fun p=>p.set i (max (nth p i-1) 0)) (fun p=>nth p i) E))∧Hid (Only (fun x=>x=b1) wo wr)∧wo.heap.size+1<=wr.heap.size∧E.length+cnt<=ma) (fun _ wr=>wr.rangeLeft b2 wo.heap.size)
 case atStart=>
  have ahj:Below wo.heap.size wo w0:=aW.grown VG aK (by simp);refine ⟨_,_,[],Rt,Seen.start _ _ _,?_,jF ahj,by omega,by simpa using hsz⟩;exact WH (AP arf.o ahj) (by omega)
 case round=>
  obtain ⟨left,cnt,E,hrg,hS,Bh,ho,Dy,hlen⟩:=hrel;clear Rt VG IB hm;go_wp2_with (at_next;go_must (refine wpList_next_ranges _ rfl _ rfl 68 yC mR FX mkZ OU Ux b2 wo.heap.size ma D left cnt rfl hrg ?_ ?_))
  . intro hc0 zx
    have rM:∀t∈liftM n (aU L),ia n t.1:=XA hn afm.o (HL.o.YE.mono (by omega));have hdone:=hS.o.done zx Hd.o rM;have hML:fI n (mapM (fun p=>p.set i (max (nth p i-1) 0)) (fun p=>nth p i) (aU L)):=Zm afm.o (fun p hp=>by rw [gH];exact hp);have heq:jR 6 (mapM (fun p=>p.set i (max (nth p i-1) 0)) (fun p=>nth p i) E) (liftM n (mapM (fun p=>p.set i (max (nth p i-1) 0)) (fun p=>nth p i) (aU L))):=by
     rw [lift_map hn hi afm.o (f:=fun y=>max (y-1) 0) (g:=fun y=>y)];exact aer _ _ hS.o.auK (W9 hn afm.o) hdone
    have C:=aA (aes b1 E.length n (Ca+ma+3002+E.length) _ _ wr Bh.o hn (by omega) (by omega) hML Hbd.o (by unfold mapM;rw [dW,bE,Hml.o];exact PS) (aew hn heq hML));have Hb4:Hid (Below w.heap.size w wr):=QO.o.trans (ho.o.below QO.o.size (fun x hx=>by omega));clear hrg zx rM hdone hML heq hS Bh ho;(go_wp2_with fail);refine C.o.mono ?_;intro e w5 h5;obtain ⟨A3,c3,L3,rfl,g1,g2,g3,g4,g5,g6⟩:=h5.from_ Hb4.o;have F:=aA (show ou w n (mapM (fun p=>p.set i (max (nth p i-1) 0)) (fun p=>nth p i) (aU L)) (.returned (.tuple #[.slice A3 L3.length c3,.int .i64 0])) w5 from ⟨A3,c3,L3,rfl,g1,g2,g3,g4,g5,g6⟩);clear h5 g3 g4 g5 g6;(go_wp2_with fail);go_ret2;exact F.o
  . intro p zc kl y1 y2 mA cnt' Ff Mf hR gO aae hlt wQ tZ hen
    have aeP:Only (fun x=>x=b1) wo mA:=Wd ho.o wQ aK;obtain ⟨rfl,rM,tj,aaA,h1,h2,h3,ls,hLm,hz⟩:=Pk (N2 Hd.o Hm1.o aeP) Ff hR gO
    obtain ⟨cs,cA,ck,cc⟩:=zc;simp only at h1 h2 h3 hLm hz;have XK:wr.rangeLeft b2 wo.heap.size=cnt:=hrg.left_eq;have hpb:∀x∈p,0<=x∧x<=1000:=by
     obtain ⟨t,ht,e⟩:=tj;rw [<- e];exact aex (by omega) HL.o.YE t ht
    have LM:=aA rM;have HLm:=aA hLm;have Hz:=aA hz;have Hr1:=aA aae;have HS2:=aA (hS.o.step rM aaA Mf);have azE:=aA aeP;(have aJo:b1<wr.heap.size:=by have:=Dy;omega);have aHA:=wQ.size;have ux:Below w.heap.size w mA:=QO.o.trans (aeP.below QO.o.size (fun x hx=>by omega));have agi:=aA ux;have aaa:Hid (tI mA b1 E.length n (Ca+ma+3002+E.length) (mapM (fun p=>p.set i (max (nth p i-1) 0)) (fun p=>nth p i) E)):=by
     obtain ⟨D',m1,m2⟩:=Bh.o;exact ⟨D',m1.kept wQ (fun e=>by injection e;omega),WK m2 hrg wQ⟩
    (have hpi:i<p.length:=by rw [rM.len];omega);obtain ⟨ex,hex⟩:∃ex:Nat,nth p i=(ex:Int):=⟨(nth p i).toNat,by have:=hpb _ (iK hpi);omega⟩;(have aIX:ex<=1000:=by have:=hpb _ (iK hpi);omega);have Hex:=aA hex;have ajU:Hid (ia n (p.set i (((ex-1:Nat):Int)))):=abe rM (by omega) (by omega) hi;obtain ⟨x0,x1,x2,x3,x4,x5,hpe⟩:∃x0 x1 x2 x3 x4 x5,p=[x0,x1,x2,x3,x4,x5]:=by
     match p,rM.len with
     | [x0,x1,x2,x3,x4,x5],_=>exact ⟨_,_,_,_,_,_,rfl⟩
    (have hpv:FX p=.agg #[.int .i64 x0,.int .i64 x1,.int .i64 x2,.int .i64 x3,.int .i64 x4,.int .i64 x5]:=by rw [hpe];rfl);have Mb:mkZ ⟨cs,cA,ck,cc⟩=.agg #[.bool cs,.slice cA ck cc]:=rfl;rw [hpv,Mb] at hen ⊢;have Hpe:=aA hpe;clear hpv Mb rM tj aaA Mf hLm hz Ff hR gO aae wQ tZ hrg aeP hS Bh ho ux hpb hpi;(go_wp2_with fail);have b2':=K9 mA (.cells #[.int .i64 x0,.int .i64 x1,.int .i64 x2,.int .i64 x3,.int .i64 x4,.int .i64 x5] 68) (.cells #[.bool cs,.slice cA ck cc] 41);have aof:=N5 mA (.cells #[.int .i64 x0,.int .i64 x1,.int .i64 x2,.int .i64 x3,.int .i64 x4,.int .i64 x5] 68) (.cells #[.bool cs,.slice cA ck cc] 41);have agU:=Zo mA x0 x1 x2 x3 x4 x5 cs cA ck cc ls HLm.o;generalize ((mA.alloc (.cells #[.int .i64 x0,.int .i64 x1,.int .i64 x2,.int .i64 x3,.int .i64 x4,.int .i64 x5] 68)).alloc (.cells #[.bool cs,.slice cA ck cc] 41))=wt at*
    (have awU:mA.heap.size+1<wt.heap.size:=by omega);have acH:=aA agU;have vz:=aA b2';clear b2' aof agU;have hci:wt.cell? ⟨mA.heap.size,i,none⟩=some (.int .i64 (ex:Int)):=by
     have h:=acH.o.row.cell (i:=i) (by show i<6;omega);rw [<- hpe,hex] at h;exact h
    clear hpe hex;have hc0:=acH.o.Qg.cell0;have Qf:=acH.o.Qg.cell1;(have aJn:b1<mA.heap.size:=by omega);go_region_with (go_at_call 104;refine (alh cs cA ck cc ls ex _ (acH.o.lim.aB aW.drew) h1 h2 (by omega) (by omega)).mono ?_;rintro e wv ⟨s1,A1,k1,c1,Wx,rfl,g1,g2,g3,g4,g5,apC⟩;have hbv:Below wt.heap.size wt wv:=aW.drew.trans apC;have hlv:=acH.o.aB hbv;have q0:=hlv.Qg.cell0;have q1:=hlv.Qg.cell1;have qi:=(hbv.cell (p:=⟨mA.heap.size,i,none⟩) (by show mA.heap.size<_;omega)).trans hci;have f0:=hlv.Qg.frozen 0;have f1:=hlv.Qg.frozen 1;have fi:=Row.frozen hlv.row i;have Hlv:=aA hlv;have Hbv:=aA hbv;have G4:=aA g4;have G5:=aA g5;have hsv:=hbv.size;clear hlv hbv apC g4 g5)
    all_goals
     have o1:=DW wv (mA.heap.size+1) (.bool s1) (.slice A1 k1 c1);have u1:=Vk.Qg Hlv.o.Qg o1;have r1:=Hlv.o.row.only o1 (by omega);have d1:=Hlv.o.Qg.set (.bool s1) (.slice A1 k1 c1);have m1:=ur G4.o u1;have s1':=J4 (AP (AP aaa.o vz.o) Hbv.o) u1 o1 (by have:=vz.o.size;omega);have qu:Below w.heap.size w wv:=(agi.o.tm vz.o).trans (Hbv.o.mono (by have:=agi.o.size;have:=vz.o.size;omega));have bb1:=zi qu o1 qu.size (fun x hx=>by have:=agi.o.size;omega);have ho1:Only (fun x=>x=b1) wo wv:=(azE.o.trans (jF vz.o)).trans (jF Hbv.o);have ho2:=KQ ho1 o1 (fun x hx h=>by omega);have PL:Hid ((wv.setCell ⟨mA.heap.size+1,0,none⟩ (.bool s1)).setCell ⟨mA.heap.size+1,1,none⟩ (.slice A1 k1 c1) |>.ranges prog 68 mR b2 wo.heap.size ma D (fun z=>left z && !z.sameKey (bJ p)) cnt'):=
      ((Hr1.o.kept (oU vz.o) (by simp) (by simp)).kept (oU Hbv.o) (by simp) (by simp)).kept (uL o1) (fun e=>by injection e;omega) (fun e=>by injection e;omega)
     have hsq:=o1.size;generalize (wv.setCell ⟨mA.heap.size+1,0,none⟩ (.bool s1)).setCell ⟨mA.heap.size+1,1,none⟩ (.slice A1 k1 c1)=wq at*
     have o2:Only (fun x=>x=mA.heap.size) wq (wq.setCell ⟨mA.heap.size,i,none⟩ (.int .i64 (((ex-1:Nat):Int)))):=(Only.refl (fun x=>x=mA.heap.size) wq).setCell (p:=⟨mA.heap.size,i,none⟩) rfl _;have u2:=Vk.row r1 o2;have r2:=r1.set i (((ex-1:Nat):Int));have d2:=d1.keep (o2.block _ d1.lt (by omega));have m2:=ur m1 u2;have s2':=J4 s1' u2 o2 (by omega);have bb2:=zi bb1 o2 bb1.size (fun x hx=>by have:=agi.o.size;omega);have ho3:=KQ ho2 o2 (fun x hx h=>by omega);have azy:Hid ((wq.setCell ⟨mA.heap.size,i,none⟩ (.int .i64 (((ex-1:Nat):Int)))).ranges prog 68 mR b2 wo.heap.size ma D (fun z=>left z && !z.sameKey (bJ p)) cnt'):=PL.o.kept (uL o2) (fun e=>by injection e;omega) (fun e=>by injection e;omega);have hsr:=o2.size;generalize wq.setCell ⟨mA.heap.size,i,none⟩ (.int .i64 (((ex-1:Nat):Int)))=wz at*
     rw [<- Hpe.o] at r2;have hgz:=ajU.o;obtain ⟨z0,z1,z2,z3,z4,z5,hze⟩:∃z0 z1 z2 z3 z4 z5,p.set i (((ex-1:Nat):Int))=[z0,z1,z2,z3,z4,z5]:=by
      match p.set i (((ex-1:Nat):Int)),hgz.len with
      | [z0,z1,z2,z3,z4,z5],_=>exact ⟨_,_,_,_,_,_,rfl⟩
     rw [hze] at r2 hgz;have Hze:=aA hze;have Hgz:=aA hgz;have t0:wz.cell? ⟨mA.heap.size,0,none⟩=some (.int .i64 z0):=r2.cell (i:=0) (by show 0<6;omega);have t1:wz.cell? ⟨mA.heap.size,1,none⟩=some (.int .i64 z1):=r2.cell (i:=1) (by show 1<6;omega);have t2:wz.cell? ⟨mA.heap.size,2,none⟩=some (.int .i64 z2):=r2.cell (i:=2) (by show 2<6;omega);have t3:wz.cell? ⟨mA.heap.size,3,none⟩=some (.int .i64 z3):=r2.cell (i:=3) (by show 3<6;omega);have t4:wz.cell? ⟨mA.heap.size,4,none⟩=some (.int .i64 z4):=r2.cell (i:=4) (by show 4<6;omega);have t5:wz.cell? ⟨mA.heap.size,5,none⟩=some (.int .i64 z5):=r2.cell (i:=5) (by show 5<6;omega);have t6:=d2.cell0;have t7:=d2.cell1;have M2:=aA m2;have S2:=aA s2';have BB:=aA bb2;have HO:=aA ho3;clear o1 u1 r1 d1 m1 s1' qu bb1 ho1 ho2 PL o2 u2 r2 d2 m2 s2' bb2 ho3 hze hgz hci hc0 Qf q0 q1 qi f0 f1 fi hen aaa;(go_wp2_with fail);refine (anK b1 E.length n (Ca+ma+3002+E.length) (Ca+ma+3002) _ [z0,z1,z2,z3,z4,z5] s1 A1 k1 c1 Wx wz S2.o Hgz.o (by unfold maxLen;omega) M2.o g1 g2 (by omega) (by omega) (by omega)).mono ?_;rintro e w3 ⟨rfl,hs3,ho3⟩;(have Cw:(E++[(p,iA (liftM n (aU L)) p)]).length=E.length+1:=by simp);have Hs3:Hid (tI w3 b1 (E.length+1) n (Ca+ma+3002+(E.length+1)) (mapM (fun p=>p.set i (max (nth p i-1) 0)) (fun p=>nth p i) (E++[(p,iA (liftM n (aU L)) p)]))):=by
      (have q1:max (Ca+ma+3002+E.length) (Ca+ma+3002)+1=Ca+ma+3002+(E.length+1):=by omega);rw [q1] at hs3;have q2:mapM (fun p=>p.set i (max (nth p i-1) 0)) (fun p=>nth p i) (E++[(p,iA (liftM n (aU L)) p)])=mapM (fun p=>p.set i (max (nth p i-1) 0)) (fun p=>nth p i) E++[([z0,z1,z2,z3,z4,z5],aF s1 Wx)]:=by
       rw [mapM_append,G5.o,Hz.o,<- Hze.o];show _++[(p.set i (max (nth p i-1) 0),iA (liftM n (aU L)) p*nth p i)]=_;rw [Hex.o];rw [show max ((ex:Int)-1) 0=(((ex-1:Nat)):Int) by omega]
      show tI _ _ _ _ _ _;rw [q2];exact hs3
     have Ho3:Hid (Only (fun x=>x=b1) wo w3):=HO.o.trans ho3;have Hr3:Hid (w3.ranges prog 68 mR b2 wo.heap.size ma D (fun z=>left z && !z.sameKey (bJ p)) cnt'):=azy.o.kept (uL ho3) (fun e=>by injection e;omega) (fun e=>by injection e;omega);(have aoU:wo.heap.size+1<=w3.heap.size:=by have:=ho3.size;have:=vz.o.size;omega);clear hs3 ho3;(go_wp2_with fail);go_roundw
     case rel=>
      refine ⟨_,cnt',E++[(p,iA (liftM n (aU L)) p)],Hr3.o,HS2,?_,Ho3,aoU,by rw [Cw];omega⟩;rw [Cw];exact Hs3
     case measure=>rw [Hr3.o.left_eq,XK];omega
def aiR (n Ca:Nat) (A:Option Addr) (ma ca:Nat) (L:List TV) (i:Nat) (w:World) (hx:jM w A ma L) (hL:Arg n Ca L) (hn:n<=6) (hi:i<n) (hCa:Ca<=10000) (uG:C8 1000 (mapM (fun p=>p.set i (max (nth p i-1) 0)) (fun p=>nth p i) (aU L))):
 aC 70 #[.int .i64 (n:Int),.slice A ma ca,.int .i64 (i:Int)] w (ou w n (mapM (fun p=>p.set i (max (nth p i-1) 0)) (fun p=>nth p i) (aU L))):=by
 have C:=aA (adw n Ca A ma ca L i w hx hL hn hi hCa uG);clear hx hL uG;go_enter func70,ntmps70
 go_wp2_with fail
 refine C.o.mono ?_;rintro e w5 ⟨A3,c3,L3,rfl,g1,g2,g3,g4,g5,g6⟩;have F:=aA (show ou w n (mapM (fun p=>p.set i (max (nth p i-1) 0)) (fun p=>nth p i) (aU L)) (.returned (.tuple #[.slice A3 L3.length c3,.int .i64 0])) w5 from ⟨A3,c3,L3,rfl,g1,g2,g3,g4,g5,g6⟩);clear g3 g4 g5 g6;go_wp2_with fail
 go_ret2;exact F.o
def Qi {s:Bool} {xs:List Int} {z:Int}(h:bW s xs z) (hz:z.natAbs<2^(64*C)):xs.length<=C:=by
 rcases jJ xs.length with h0 | h0
 . omega
 . have h1:=h.pl.low h0
   have h2:limbs xs=z.natAbs:=by
    have:=h.eq;unfold aF at this;cases s<;>simp at this<;>omega
   rw [h2] at h1;by_cases hlt:xs.length<=C
   . exact hlt
   . exfalso
     have h3:2^(64*C)<=2^(64*(xs.length-1)):=fM (by omega) (by omega);omega
def PE (s:Bool) (h:aQ xs) (hC:xs.length<=C):(aF s xs).natAbs<2^(64*C):=by
 have h1:=eH h;have h2:2^(64*xs.length)<=2^(64*C):=fM (by omega) (by omega);have h3:(aF s xs).natAbs=limbs xs:=by
  unfold aF;cases s<;>simp
 omega
def Jz {m:Nat} {L:List TV}(h:jM w A m L):∀t∈L,aQ t.1.2:=fun t ht=>by
 obtain ⟨i,hi,rfl⟩:=acj ht;have h0:0<m:=by rw [<- h.len];omega
 obtain ⟨b,o,_,_,hc⟩:=h.at_ h0;obtain ⟨_,_,_,_,_,_,_,_,_,_,_,h8,_⟩:=hc i hi;exact h8.ok
