/- Contract: a sum's terms, plain.
   Contract: a sum's terms, plain: the walk.
   Contracts: sum.answer, mpoly.Norm of polynomials that may be.
   Contract: mpoly.joined: a polynomial and once, or less once, another one.
   Contract: mpoly.Mul of polynomials that may be, where the product may. -/
import Derived.Test.YtehcoffbiplphaaGreatSSrtK
import Derived.Maps.RangeWalk
import Derived.WalkMore
set_option linter.unusedVariables false
set_option linter.unusedSimpArgs false
set_option maxHeartbeats 8000000
set_option maxRecDepth 1000000
namespace Go.Proofs.YtehcoffbiplphaaGreat
open Go.RowKit Cl
attribute [local go_sem ↓] Go.wp_at_zero Go.wp_at_succ
theorem term_info:(Tryz.prog.info? 44).map (fun i=>(i.zero,i.size,i.bytes))=some (some (.agg #[.bool false,.slice none 0 0,.slice none 0 0]),3,56):=by kernel_rfl
theorem grown_of_below {w w':World}(h:Below w.heap.size w w'):w.grownBy w' none:=⟨h.os,h.tape,h.output,h.size,fun i hi _=>h.block i hi⟩
def GivesT (w:World) (n:Nat) (M:Mv) (e:Ending) (w':World):Prop:=
 ∃A c L,e=.returned (.slice A L.length c)∧L.length≤c∧c≤9223372036854775807∧Trs w' A L.length L∧PlainT n L∧EqM n (mvT L) M∧Below w.heap.size w w'
structure Ter (w0 wr:World) (D:DataW Value) (n base:Nat) (v:Value) (Lx:Mv) (left:Lit→Bool) (E:List EntT):Prop where
 own:wr.ownsRow base 44 3 v E.length (tcells E)
 took:Took D n Lx left (mvT (E.map (·.2)))
 ok:∀x∈E,EntOk wr x∧ZVal x.2.1.1 x.2.1.2 (intZ x.2.1.1 x.2.1.2)
 far:∀x∈E,(0<x.2.1.2.length→∀y,x.1.1.1=some y→v.ownBlock≠some y.block)∧(0<x.2.2.length→∀y,x.1.2.1=some y→v.ownBlock≠some y.block)
 up:∀x∈E,(0<x.2.1.2.length→∀y,x.1.1.1=some y→base≤y.block)∧(0<x.2.2.length→∀y,x.1.2.1=some y→base≤y.block)
 bel:Below w0.heap.size w0 wr
 low:base≤wr.heap.size
theorem mem_mvE {E:List EntT} {x:EntT}(hx:x∈E):valT x.2∈mvT (E.map (·.2)):=List.mem_map.2 ⟨x.2,List.mem_map.2 ⟨x,hx,rfl⟩,rfl⟩
section
variable {w0 wr : World} {D : DataW Value} {n base : Nat} {v : Value} {Lx : Mv} {left : Lit → Bool} {E : List EntT}
theorem Ter.len (h:Ter w0 wr D n base v Lx left E):∀x∈E,x.2.2.length=n:=fun _x hx=>h.took.len _ (mem_mvE hx)
theorem Ter.tls (h:Ter w0 wr D n base v Lx left E):Tls wr base v n E:=⟨h.own,fun x hx=>(h.ok x hx).1,h.len,h.far⟩
end
theorem entOk_only {w w':World} {x:EntT} {S:Nat→Prop}(h:EntOk w x) (ho:Only S w w') (h1:0<x.2.1.2.length→∀y,x.1.1.1=some y→¬S y.block) (h2:0<x.2.2.length→∀y,x.1.2.1=some y→¬S y.block):EntOk w' x:=by
 obtain ⟨k1,k2,k3,k4,k5,k6⟩:=h
 refine ⟨k1,k2,k3,k4,⟨k5.len,fun hn=> ?_,k5.ok⟩,ints_onlyB k6 ho h2⟩
 obtain ⟨b,o,e,hb,hc⟩:=k5.at_ hn
 refine ⟨b,o,e,Nat.lt_of_lt_of_le hb ho.size,fun i hi=> ?_⟩
 rw [ho.cell (p:=⟨b,o+i,none⟩) hb (h1 hn ⟨b,o,none⟩ e)]
 exact hc i hi
theorem limbs_blk {w:World} {A:Option Addr} {n:Nat} {xs:List Int}(h:Limbs w A n xs) (hn:0<n) {y:Addr}(hy:A=some y):y.block<w.heap.size:=by
 obtain ⟨b,o,e,hb,_⟩:=h.at_ hn
 rw [e] at hy
 injection hy with hy
 rw [← hy];exact hb
theorem ints_blk {w:World} {A:Option Addr} {n:Nat} {xs:List Int}(h:Ints w A n xs) (hn:0<n) {y:Addr}(hy:A=some y):y.block<w.heap.size:=by
 obtain ⟨b,o,e,hb,_⟩:=h.at_ hn
 rw [e] at hy
 injection hy with hy
 rw [← hy];exact hb
theorem map_size {w:World} {P:Program} {k:TypeId} {R:Value→Option (DataW Value×List MemPlace)} {b n:Nat} {D:DataW Value}(h:w.ownsMap P k R b n D):Maps.size D≤n:=by
 obtain ⟨es,clock,_,_,hs,rfl⟩:=h
 rw [Maps.size_eq,Go.length_sorted,List.length_map,Array.length_toList]
 exact hs
theorem below_map {B:Nat} {w0 w w':World} {b:Nat}(h:Below B w0 w) (hg:w.grownBy w' (some b)) (hB:B≤w.heap.size) (hb:B≤b):Below B w0 w':=h.grown hg hB (fun k hk=>by injection hk;omega)
theorem only_of_bel {w w':World} {S:Nat→Prop}(h:Below w.heap.size w w'):Only S w w':=⟨h.os,h.tape,h.output,h.size,fun i hi _=>h.block i hi⟩
theorem Ter.next {w0 wr w10 w2 w3:World} {D:DataW Value} {n r g cap:Nat} {v:Value} {Lx:Mv} {left left':Lit→Bool} {E:List EntT} {x:EntT} {o:Obj}(h:Ter w0 wr D n (r+1) v Lx left E)
 (hr:w0.heap.size≤r) (hg1:wr.grownBy w10 (some r)) (hb2:Below w10.heap.size w10 w2) (hx:EntOk w2 x) (hz:ZVal x.2.1.1 x.2.1.2 (intZ x.2.1.1 x.2.1.2))
 (hf1:0<x.2.1.2.length→∀y,x.1.1.1=some y→w10.heap.size≤y.block) (hf2:0<x.2.2.length→∀y,x.1.2.1=some y→w10.heap.size≤y.block)
 (hown:w3.ownsRow (r+1) 44 3 (.slice (some ⟨g,0,none⟩) (E.length+1) cap) (E.length+1) (tcells E++tcell x)) (hgr:(w2.alloc o).grownBy w3 v.ownBlock) (hat:v.ownBlock=some g∨g=w2.heap.size+1)
 (htook:Took D n Lx left' (mvT ((E++[x]).map (·.2)))):Ter w0 w3 D n (r+1) (.slice (some ⟨g,0,none⟩) (E.length+1) cap) Lx left' (E++[x]):=by
 have hvb:∀k,v.ownBlock=some k→r+1≤k∧k<wr.heap.size:=fun k hk=>h.own.lt k hk
 have hs1:=hg1.size
 have hs2:=hb2.size
 have hlow:=h.low
 have o1:Only (fun k=>k=r) wr w2:=((Only.of_grown hg1).mono (fun i hi=>by injection hi with hi;exact hi.symm)).trans (only_of_bel hb2)
 have b3:Below w2.heap.size w2 (w2.alloc o):=bRr.alloc lRr _
 have o3:Only (fun k=>v.ownBlock=some k) (w2.alloc o) w3:=(Only.of_grown hgr).mono (fun i hi=>by first | exact hi | exact hi.symm)
 have hold:∀z∈E,EntOk w2 z:=fun z hz=>entOk_only (h.ok z hz).1 o1 (fun h0 y hy e=>by have:=(h.up z hz).1 h0 y hy;omega) (fun h0 y hy e=>by have:=(h.up z hz).2 h0 y hy;omega)
 have hfarx:(0<x.2.1.2.length→∀y,x.1.1.1=some y→v.ownBlock≠some y.block)∧(0<x.2.2.length→∀y,x.1.2.1=some y→v.ownBlock≠some y.block):=
  ⟨fun h0 y hy e=>by have:=hf1 h0 y hy;have:=(hvb _ e).2;omega,fun h0 y hy e=>by have:=hf2 h0 y hy;have:=(hvb _ e).2;omega⟩
 have hfar:∀z∈E++[x],(0<z.2.1.2.length→∀y,z.1.1.1=some y→v.ownBlock≠some y.block)∧(0<z.2.2.length→∀y,z.1.2.1=some y→v.ownBlock≠some y.block):=fun z hz=>by
  rcases List.mem_append.1 hz with hz | hz
  · exact h.far z hz
  · rw [List.mem_singleton.1 hz];exact hfarx
 have hall:∀z∈E++[x],EntOk w2 z:=fun z hz=>by
  rcases List.mem_append.1 hz with hz | hz
  · exact hold z hz
  · rw [List.mem_singleton.1 hz];exact hx
 refine ⟨by rw [List.length_append,tcells_snoc];exact hown,htook,fun z hz=>⟨entOk_only ((hall z hz).bel b3) o3 (fun h0 y hy e=>(hfar z hz).1 h0 y hy e) (fun h0 y hy e=>(hfar z hz).2 h0 y hy e),?_⟩,fun z hz=> ?_,fun z hz=> ?_,?_,?_⟩
 · rcases List.mem_append.1 hz with hz | hz
   · exact (h.ok z hz).2
   · rw [List.mem_singleton.1 hz];assumption
 · have h5:=(hall z hz).2.2.2.2.1
   have h6:=(hall z hz).2.2.2.2.2;refine ⟨fun h0 y hy e=> ?_,fun h0 y hy e=> ?_⟩
   · have e:g=y.block:=by injection e
     rcases hat with h1 | h1
     · exact (hfar z hz).1 h0 y hy (by rw [h1,e])
     · have:=limbs_blk h5 h0 hy;omega
   · have e:g=y.block:=by injection e
     rcases hat with h1 | h1
     · exact (hfar z hz).2 h0 y hy (by rw [h1,e])
     · have:=ints_blk h6 h0 hy;omega
 · rcases List.mem_append.1 hz with hz | hz
   · exact h.up z hz
   · rw [List.mem_singleton.1 hz]
     exact ⟨fun h0 y hy=>by have:=hf1 h0 y hy;omega,fun h0 y hy=>by have:=hf2 h0 y hy;omega⟩
 · have hb10:Below w0.heap.size w0 w2:=(below_map h.bel hg1 h.bel.size hr).trans (hb2.mono (by have:=h.bel.size;omega))
   exact (hb10.alloc hb10.size o).grown hgr (by have:=hb10.size;simp;omega) (fun k hk=>by have:=(hvb k hk).1;omega)
 · have:=hgr.size;simp at this;omega
theorem Ter.skip {w0 wr w10 w2:World} {D:DataW Value} {n r:Nat} {v:Value} {Lx:Mv} {left left':Lit→Bool} {E:List EntT}(h:Ter w0 wr D n (r+1) v Lx left E)
 (hr:w0.heap.size≤r) (hg1:wr.grownBy w10 (some r)) (hb2:Below w10.heap.size w10 w2) (htook:Took D n Lx left' (mvT (E.map (·.2)))):Ter w0 w2 D n (r+1) v Lx left' E:=by
 have hvb:∀k,v.ownBlock=some k→r+1≤k∧k<wr.heap.size:=fun k hk=>h.own.lt k hk
 have hs1:=hg1.size
 have hs2:=hb2.size
 have hlow:=h.low
 have o1:Only (fun k=>k=r) wr w2:=((Only.of_grown hg1).mono (fun i hi=>by injection hi with hi;exact hi.symm)).trans (only_of_bel hb2)
 refine ⟨own_bel (h.own.kept hg1 ?_) hb2,htook,fun z hz=>⟨entOk_only (h.ok z hz).1 o1 (fun h0 y hy e=>by have:=(h.up z hz).1 h0 y hy;omega) (fun h0 y hy e=>by have:=(h.up z hz).2 h0 y hy;omega),(h.ok z hz).2⟩,h.far,h.up,(below_map h.bel hg1 h.bel.size hr).trans (hb2.mono (by have:=h.bel.size;omega)),by omega⟩
 cases hob:v.ownBlock with
 | none=>exact Or.inl rfl
 | some g=>exact Or.inr (fun e=>by have:=(hvb g hob).1;injection e;omega)
theorem Ter.done {w0 wr w':World} {D:DataW Value} {n base B g cap:Nat} {Lx M:Mv} {left:Lit→Bool} {E E':List EntT}(h:Ter w0 wr D n base (.slice (some ⟨g,0,none⟩) E.length cap) Lx left E) (hn:n≤6) (hl:∀k,left k=false) {wd:World}(hs:SumD wd D n B Lx) (hM:LenM n M) (hb:BdM 4611686018427387904 M) (hLM:∀p,p.length=n→coM Lx (padP n p)=coM M p)
 (hp:E'.Perm E) (ho:E'.Pairwise (fun x y=>¬ltP x.2.2 y.2.2)) (hc:∀i (h:i<E'.length),w'.cell? ⟨g,3*i,none⟩=some (.bool (E'[i]).2.1.1)∧w'.cell? ⟨g,3*i+1,none⟩=some (.slice (E'[i]).1.1.1 (E'[i]).2.1.2.length (E'[i]).1.1.2)∧w'.cell? ⟨g,3*i+2,none⟩=some (.slice (E'[i]).1.2.1 (E'[i]).2.2.length (E'[i]).1.2.2)) (hon:Only (fun j=>j=g) wr w'):
 Trs w' (some ⟨g,0,none⟩) E.length (E'.map (·.2))∧PlainT n (E'.map (·.2))∧EqM n (mvT (E'.map (·.2))) M:=by
 have hperm:(mvT (E'.map (·.2))).Perm (mvT (E.map (·.2))):=(hp.map _).map _
 have hgw:g<wr.heap.size:=(h.own.lt g rfl).2
 have hmemE:∀x∈E',x∈E:=fun x hx=>hp.mem_iff.1 hx
 have hEq:EqM n (mvT (E'.map (·.2))) M:=(EqM.perm hperm).trans (h.took.done hn hl hs hM hb hLM)
 refine ⟨⟨by rw [List.length_map,hp.length_eq],fun h0=>⟨g,0,rfl,Nat.lt_of_lt_of_le hgw hon.size,fun i hi=> ?_⟩⟩,⟨plain_of_sorted (fun t ht=>h.took.len t (hperm.mem_iff.1 ht)) ?_ (fun t ht=>h.took.ne t (hperm.mem_iff.1 ht)) ?_,fun t ht=> ?_⟩,hEq⟩
 · have hi':i<E'.length:=by simpa using hi
   have e:(E'.map (·.2))[i]=(E'[i]).2:=by simp
   have hx:=hmemE _ (List.getElem_mem hi');have hf:=h.far _ hx;obtain ⟨k1,k2,k3,k4,k5,k6⟩:=entOk_only (h.ok _ hx).1 hon (fun h0 y hy hg=>hf.1 h0 y hy (by show some g=some y.block;rw [hg])) (fun h0 y hy hg=>hf.2 h0 y hy (by show some g=some y.block;rw [hg]));obtain ⟨c0,c1,c2⟩:=hc i hi';rw [e];refine ⟨_,_,_,_,?_,?_,?_,k1,k2,k3,k4,k5,k6⟩
   · rw [Nat.zero_add];exact c0
   · rw [Nat.zero_add];exact c1
   · rw [Nat.zero_add];exact c2
 · exact (hperm.map (·.1)).symm.pairwise h.took.nodup (fun {x y} hxy e=>hxy e.symm)
 · have h2:(mvT (E'.map (·.2)))=E'.map (fun x=>valT x.2):=by unfold mvT;rw [List.map_map];rfl
   rw [h2,List.pairwise_map];exact ho
 · obtain ⟨x,hx,rfl⟩:=List.mem_map.1 ht
   exact (h.ok x (hmemE x hx)).2
theorem entry_in {w:World} {D:DataW Value} {n B:Nat} {L:Mv}(hd:SumD w D n B L) {p:Plc} {c:ZIn} {kl:Lit} {y1:DataW Value} {y2:List MemPlace}(hkey:keyOf Tryz.prog 68 (plcV p)=some kl) (hR:intEl (mkZ c)=some (y1,y2)) (hat:∀zd,D.atKey kl zd=y1):
 kl=plcLit p∧GoodP n p∧(∃t∈L,t.1=p)∧Maps.has D (plcLit p)=true∧c.k≤c.c∧c.c≤9223372036854775807∧c.k≤B∧∃ls,Limbs w c.A c.k ls∧intZ c.s ls=coM L p:=by
 obtain ⟨hl,hi,rfl⟩:=plcV_key hkey
 have hh:Maps.has D (plcLit p)=true:=by
  cases h:Maps.has D (plcLit p) with
  | true=>rfl
  | false=>
    have h1:=hat (.held (.int .i64 0));have h2:=hat (.held (.int .i64 1));rw [Maps.atKey_of_not_has h] at h1 h2;rw [← h1] at h2;injection h2 with h2
    injection h2 with _ h2
    omega
 obtain ⟨p',e,hg,hin⟩:=hd.key _ hh
 have hpp:p=p':=by
  unfold plcLit at e;injection e with e
  exact Cl.keyBytes_inj (hl.trans hg.len.symm) hi hg.i64 e
 subst hpp
 obtain ⟨v,h1,h2⟩:=hd.at_ p hg hh
 obtain ⟨s,A,k,cc,ls,ev,g1,g2,g3,g4,g5⟩:=h2.ex
 obtain ⟨cs,cA,ck,ccp⟩:=c
 have e1:mkZ ⟨cs,cA,ck,ccp⟩=v:=by
  have h3:=hat (.held (.int .i64 0));rw [h1] at h3;have h4:(y1,y2)=(.held (mkZ ⟨cs,cA,ck,ccp⟩),[]):=by
   have:=intEl_mk cs cA ck ccp;unfold mkZ at hR;rw [this] at hR;injection hR with hR
   exact hR.symm
  injection h4 with h4
  rw [h4] at h3;injection h3 with h3
  exact h3.symm
 rw [← e1] at ev
 unfold mkZ at ev
 simp only [Value.agg.injEq,Array.mk.injEq,List.cons.injEq,Value.bool.injEq,Value.slice.injEq,and_true] at ev
 obtain ⟨rfl,rfl,rfl,rfl⟩:=ev
 exact ⟨rfl,hg,hin,hh,g1,g2,g3,ls,g4,g5⟩
end Go.Proofs.YtehcoffbiplphaaGreat
namespace Go.Proofs.YtehcoffbiplphaaGreat
open Go.RowKit Cl Go.Sort
attribute [local go_sem ↓] Go.wp_at_zero Go.wp_at_succ
theorem tsortO (w:World) (base g cap n:Nat) (L:List EntT) (hp:Tls w base (.slice (some ⟨g,0,none⟩) L.length cap) n L) (h0:0<L.length) (hL:L.length<1000000000) (hn:n≤1000000):
 Calls Tryz.prog 108 #[.slice (some ⟨g,0,none⟩) L.length cap,.func (.func 109) #[] #[]] w fun e w'=>e=.returned (.tuple #[])∧∃L':List EntT,L'.Perm L∧L'.Pairwise (fun x y=>¬ltP x.2.2 y.2.2)∧
  (∀i (h:i<L'.length),w'.cell? ⟨g,3*i,none⟩=some (.bool (L'[i]).2.1.1)∧w'.cell? ⟨g,3*i+1,none⟩=some (.slice (L'[i]).1.1.1 (L'[i]).2.1.2.length (L'[i]).1.1.2)∧w'.cell? ⟨g,3*i+2,none⟩=some (.slice (L'[i]).1.2.1 (L'[i]).2.2.length (L'[i]).1.2.2)∧w'.frozen? ⟨g,3*i,none⟩=false∧w'.frozen? ⟨g,3*i+1,none⟩=false∧w'.frozen? ⟨g,3*i+2,none⟩=false)∧Only (fun j=>j=g) w w':=by
 have hinh:Inhabited (lstT L):=⟨⟨L[0],List.getElem_mem h0⟩⟩
 have hg':g<w.heap.size:=(hp.own.lt g rfl).2
 have hH:Sort.HoldsK (fun x:lstT L=>tcell x.1) 3 w g 0 (attachT L):=by
  intro j hj;rw [Sort.size_flatK,attachT_size] at hj;refine ⟨?_,hp.frozen _⟩;rw [Sort.get_flatK _ _ _ _ (by rw [attachT_size];exact hj),Nat.zero_add];show _=some (id ((tcell ((attachT L)[j / 3]!).1)[j % 3]!));rw [attachT_get L (by omega)];obtain ⟨c0,c1,c2⟩:=hp.cells (i:=j / 3) (by omega);have h3:j % 3=0∨j % 3=1∨j % 3=2:=by omega
  rcases h3 with h2 | h2 | h2
  · rw [show 3*(j / 3)=j by omega] at c0
    rw [c0,h2];rfl
  · rw [show 3*(j / 3)+1=j by omega] at c1
    rw [c1,h2];rfl
  · rw [show 3*(j / 3)+2=j by omega] at c2
    rw [c2,h2];rfl
 have eg:∀args w,(callFunc 109 args).run Tryz.prog w=.ok (.enter 109 args) w:=enters_of Tryz.func109 (by kernel_rfl) rfl
 have hcmp:CmpLays Tryz.prog 109 #[] (fun x:lstT L=>tcell x.1) 3 cmpT g 0 (attachT L).size w:=fun m os dk hs x y=>by
  have ho:=only_worldK (fun x:lstT L=>tcell x.1) 3 w g 0 m dk os;have hx:=(hp.ok x.1 x.2).2.2.2.2.2;have hy:=(hp.ok y.1 y.2).2.2.2.2.2;have hxo:=ints_onlyB hx ho (fun h0 a ha e=>(hp.far x.1 x.2).2 h0 a ha (by show some g=some a.block;rw [e]));have hyo:=ints_onlyB hy ho (fun h0 a ha e=>(hp.far y.1 y.2).2 h0 a ha (by show some g=some a.block;rw [e]));exact tcmp x.1 y.1 _ hxo hyo (by rw [hp.len _ x.2,hp.len _ y.2]) (by rw [hp.len _ x.2];exact hn)
 have hcon:=AnyQ.slices_SortFunc sortTrm 3 Tryz.isAgg44 Tryz.sizeOf44 (fun x:lstT L=>tcell x.1) (fun _=>rfl) (fun x v hv=>tcells_oneCell [x.1] v (by simpa [tcells] using hv)) cmpT (swoT hp.len) 109 #[] g 0 cap (attachT L) w eg hcmp hH hg' (by rw [attachT_size];omega)
 rw [attachT_size] at hcon
 refine hcon.mono ?_
 rintro e w' ⟨rfl,d',n,os,hpm,hs,rfl⟩
 have hsz:d'.size=L.length:=by rw [hpm.1,attachT_size]
 have hH':=holdsK_sortWorldK_c (fun x:lstT L=>tcell x.1) 3 w g 0 (attachT L) d' n os hH hg' (by rw [hsz,attachT_size])
 refine ⟨rfl,d'.toList.map (·.1),?_,?_,fun i hi=> ?_,only_worldK _ _ _ _ _ _ _ _⟩
 · have h1:=hpm.2.2
   rw [Array.extract_eq_self_of_le (by rw [hsz];omega),Array.extract_eq_self_of_le (by rw [attachT_size];omega)] at h1;have h2:=h1.map (fun x:lstT L=>x.1);have h3:(attachT L).toList.map (fun x:lstT L=>x.1)=L:=by
    unfold attachT;rw [List.toList_toArray];exact List.attach_map_subtype_val L
   rwa [h3] at h2
 · rw [List.pairwise_map,List.pairwise_iff_getElem]
   intro i j hi hj hij;have h1:=hs i j (Nat.zero_le _) hij (by rw [← hsz];simpa using hj);rw [getElem!_pos _ i (by simpa using hi),getElem!_pos _ j (by simpa using hj)] at h1;unfold ltOf cmpT at h1;have h2:=of_decide_eq_false h1;exact fun h=>h2 (cmpP_neg.2 h)
 · have hi':i<d'.size:=by simpa using hi
   have b0:=Sort.HoldsK.cell hH' (i:=i) (c:=0) hi' (by omega);have c0:=b0.1;have f0:=b0.2;have b1:=Sort.HoldsK.cell hH' (i:=i) (c:=1) hi' (by omega);have c1:=b1.1;have f1:=b1.2;have b2:=Sort.HoldsK.cell hH' (i:=i) (c:=2) hi' (by omega);have c2:=b2.1;have f2:=b2.2;rw [getElem!_pos d' i hi'] at c0 c1 c2;have e1:(d'.toList.map (·.1))[i]=(d'[i]).1:=by simp
   rw [e1];rw [show 0+i*3+0=3*i by omega] at c0 f0;rw [show 0+i*3+1=3*i+1 by omega] at c1 f1;rw [show 0+i*3+2=3*i+2 by omega] at c2 f2;exact ⟨c0,c1,c2,f0,f1,f2⟩
structure TrsO (w:World) (base g:Nat) (E:List EntT):Prop where
 cells:∀i (h:i<E.length),w.cell? ⟨g,3*i,none⟩=some (.bool (E[i]).2.1.1)∧w.cell? ⟨g,3*i+1,none⟩=some (.slice (E[i]).1.1.1 (E[i]).2.1.2.length (E[i]).1.1.2)∧w.cell? ⟨g,3*i+2,none⟩=some (.slice (E[i]).1.2.1 (E[i]).2.2.length (E[i]).1.2.2)∧w.frozen? ⟨g,3*i,none⟩=false∧w.frozen? ⟨g,3*i+1,none⟩=false∧w.frozen? ⟨g,3*i+2,none⟩=false
 ok:∀x∈E,EntOk w x
 far:∀x∈E,(0<x.2.1.2.length→∀y,x.1.1.1=some y→y.block≠g)∧(0<x.2.2.length→∀y,x.1.2.1=some y→y.block≠g)
 lo:base≤g
 lt:g<w.heap.size
section
variable {w w' : World} {base g : Nat} {E : List EntT}
theorem TrsO.trs (h:TrsO w base g E):Trs w (some ⟨g,0,none⟩) E.length (E.map (·.2)):=
 ⟨by rw [List.length_map],fun _=>⟨g,0,rfl,h.lt,fun i hi=>by
   have hi':i<E.length:=by simpa using hi
   have e:(E.map (·.2))[i]=(E[i]).2:=by simp
   obtain ⟨k1,k2,k3,k4,k5,k6⟩:=h.ok _ (List.getElem_mem hi');obtain ⟨c0,c1,c2,_⟩:=h.cells i hi';rw [e];refine ⟨_,_,_,_,?_,?_,?_,k1,k2,k3,k4,k5,k6⟩
   · rw [Nat.zero_add];exact c0
   · rw [Nat.zero_add];exact c1
   · rw [Nat.zero_add];exact c2⟩⟩
theorem TrsO.bel (h:TrsO w base g E) (hb:Below w.heap.size w w'):TrsO w' base g E:=
 ⟨fun i hi=>by
   obtain ⟨c0,c1,c2,f0,f1,f2⟩:=h.cells i hi;exact ⟨(hb.cell (p:=⟨g,3*i,none⟩) h.lt).trans c0,(hb.cell (p:=⟨g,3*i+1,none⟩) h.lt).trans c1,(hb.cell (p:=⟨g,3*i+2,none⟩) h.lt).trans c2,(hb.frozen (p:=⟨g,3*i,none⟩) h.lt).trans f0,(hb.frozen (p:=⟨g,3*i+1,none⟩) h.lt).trans f1,(hb.frozen (p:=⟨g,3*i+2,none⟩) h.lt).trans f2⟩,
  fun x hx=>(h.ok x hx).bel hb,h.far,h.lo,Nat.lt_of_lt_of_le h.lt hb.size⟩
def TrsO' (w:World) (base:Nat) (A:Option Addr) (E:List EntT):Prop:=0<E.length→∃g,A=some ⟨g,0,none⟩∧TrsO w base g E
theorem trs_ofO {A:Option Addr}(h:TrsO' w base A E):Trs w A E.length (E.map (·.2)):=by
 rcases Nat.eq_zero_or_pos E.length with h0 | h0
 · have:E=[]:=List.eq_nil_of_length_eq_zero h0
   subst this;exact Trs.nil _ _
 · obtain ⟨g,rfl,hg⟩:=h h0
   exact hg.trs
theorem trsO_bel {A:Option Addr}(h:TrsO' w base A E) (hb:Below w.heap.size w w'):TrsO' w' base A E:=fun h0=>by
 obtain ⟨g,e,hg⟩:=h h0
 exact ⟨g,e,hg.bel hb⟩
end
def GivesTO (w:World) (n:Nat) (M:Mv) (e:Ending) (w':World):Prop:=
 ∃A c E,e=.returned (.slice A E.length c)∧E.length≤c∧c≤9223372036854775807∧TrsO' w' w.heap.size A E∧PlainT n (E.map (·.2))∧EqM n (mvT (E.map (·.2))) M∧Below w.heap.size w w'
def GivesPO (w:World) (n:Nat) (M:Mv) (e:Ending) (w':World):Prop:=
 ∃A c E,e=.returned (.tuple #[.slice A E.length c,.int .i64 0])∧E.length≤c∧c≤9223372036854775807∧TrsO' w' w.heap.size A E∧PlainT n (E.map (·.2))∧EqM n (mvT (E.map (·.2))) M∧Below w.heap.size w w'
theorem GivesPO.from_ {w0 w:World} {n:Nat} {M:Mv} {e:Ending} {w':World}(h:GivesPO w n M e w') (hb:Below w0.heap.size w0 w):GivesPO w0 n M e w':=by
 obtain ⟨A,c,L,h1,h2,h3,h4,h5,h6,h7⟩:=h
 refine ⟨A,c,L,h1,h2,h3,fun h0=> ?_,h5,h6,hb.tm h7⟩
 obtain ⟨g,e,hg⟩:=h4 h0
 exact ⟨g,e,hg.cells,hg.ok,hg.far,Nat.le_trans hb.size hg.lo,hg.lt⟩
theorem Ter.doneO {w0 wr w':World} {D:DataW Value} {n base B g cap:Nat} {Lx M:Mv} {left:Lit→Bool} {E E':List EntT}(h:Ter w0 wr D n base (.slice (some ⟨g,0,none⟩) E.length cap) Lx left E) (hbase:w0.heap.size≤base) (hn:n≤6) (hl:∀k,left k=false) {wd:World}(hs:SumD wd D n B Lx) (hM:LenM n M) (hb:BdM 4611686018427387904 M) (hLM:∀p,p.length=n→coM Lx (padP n p)=coM M p)
 (hp:E'.Perm E) (ho:E'.Pairwise (fun x y=>¬ltP x.2.2 y.2.2)) (hc:∀i (h:i<E'.length),w'.cell? ⟨g,3*i,none⟩=some (.bool (E'[i]).2.1.1)∧w'.cell? ⟨g,3*i+1,none⟩=some (.slice (E'[i]).1.1.1 (E'[i]).2.1.2.length (E'[i]).1.1.2)∧w'.cell? ⟨g,3*i+2,none⟩=some (.slice (E'[i]).1.2.1 (E'[i]).2.2.length (E'[i]).1.2.2)∧w'.frozen? ⟨g,3*i,none⟩=false∧w'.frozen? ⟨g,3*i+1,none⟩=false∧w'.frozen? ⟨g,3*i+2,none⟩=false) (hon:Only (fun j=>j=g) wr w'):
 TrsO w' w0.heap.size g E'∧PlainT n (E'.map (·.2))∧EqM n (mvT (E'.map (·.2))) M:=by
 obtain ⟨_,h2,h3⟩:=h.done hn hl hs hM hb hLM hp ho (fun i hi=>⟨(hc i hi).1,(hc i hi).2.1,(hc i hi).2.2.1⟩) hon
 have hgw:g<wr.heap.size:=(h.own.lt g rfl).2
 have hg0:base≤g:=(h.own.lt g rfl).1
 have hmemE:∀x∈E',x∈E:=fun x hx=>hp.mem_iff.1 hx
 refine ⟨⟨hc,fun x hx=> ?_,fun x hx=> ?_,?_,Nat.lt_of_lt_of_le hgw hon.size⟩,h2,h3⟩
 · have hf:=h.far x (hmemE x hx)
   exact entOk_only (h.ok x (hmemE x hx)).1 hon (fun h0 y hy hg=>hf.1 h0 y hy (by show some g=some y.block;rw [hg])) (fun h0 y hy hg=>hf.2 h0 y hy (by show some g=some y.block;rw [hg]))
 · have hf:=h.far x (hmemE x hx)
   exact ⟨fun h0 y hy hg=>hf.1 h0 y hy (by show some g=some y.block;rw [hg]),fun h0 y hy hg=>hf.2 h0 y hy (by show some g=some y.block;rw [hg])⟩
 · exact Nat.le_trans hbase hg0
theorem mtermsO (bb nc n B:Nat) (Lx M:Mv) (w:World) (hs:SumM w bb nc n B Lx) (hn:n≤6) (hnc:nc≤1000000) (hB:B≤1000000) (hM:LenM n M) (hb:BdM 4611686018427387904 M) (hLM:∀p,p.length=n→coM Lx (padP n p)=coM M p):
 Calls Tryz.prog 77 #[.map (some bb),.int .i64 (n:Int)] w (GivesTO w n M):=by
 obtain ⟨D,hm,hd⟩:=hs
 have hbb:=hm.lt
 have Hd:=hiD hd
 have HM:=hiD hM
 have Hb:=hiD hb
 have HLM:=hiD hLM
 have hsz:=map_size hm
 obtain ⟨i0,hi,hz0,hz1,hz2⟩:=info_parts term_info
 clear hd hM hb hLM
 go_enter Tryz.func77,Tryz.ntmps77
 obtain ⟨wo,rfl⟩:∃wo:World,wo=w:=⟨_,rfl⟩
 go_wp2_with (at_range;go_must (refine wpList_range_own _ rfl _ 63 rfl 68 41 plc_law Tryz.underlying63 intEl bb nc D rfl hm ?_);intro w0 hrg0 hg0 hs0)
 go_frame
 go_loopw [5] (fun v wr=>∃(left:Lit→Bool) (cnt:Nat) (E:List EntT),wr.ranges Tryz.prog 68 intEl bb wo.heap.size nc D left cnt∧Hid (Ter wo wr D n (wo.heap.size+1) v Lx left E)∧E.length+cnt≤nc) (fun _ wr=>wr.rangeLeft bb wo.heap.size)
 case atStart=>
  refine ⟨_,_,[],hrg0,⟨World.ownsRow_nil _ _ _ _,Took.start _ _ _,fun x hx=>(by cases hx),fun x hx=>(by cases hx),fun x hx=>(by cases hx),bRr.grown hg0 lRr (by simp),by rw [hs0];exact lRr⟩,by simpa using hsz⟩
 case round=>
  obtain ⟨left,cnt,E,hrg,hT,hlen⟩:=hrel;go_wp2_with (at_next;go_must (refine wpList_next_ranges _ rfl _ rfl 68 plc_law intEl plcV mkZ plcV_inv mkZ_inv bb wo.heap.size nc D left cnt rfl hrg ?_ ?_))
  · intro hc0 hl0
    have Hl0:=hiD hl0;by_cases hE:0<E.length
    · rcases hT.out.own.2 with ⟨hv,hn0⟩ | ⟨g,cap,cur,hv,hgb,hh,_⟩
      · omega
      · subst hv
        have C:=hiD (tsortO wr (wo.heap.size+1) g cap n E hT.out.tls hE (by omega) (by omega));clear hrg hm hrg0 hh hl0;(go_wp2_with fail);refine C.out.mono ?_;rintro e w' ⟨rfl,E',hp',ho',hcl,honly⟩;have hfin:=hT.out.doneO (by omega) hn Hl0.out Hd.out HM.out Hb.out HLM.out hp' ho' hcl honly;have hbel:Below wo.heap.size wo w':=hT.out.bel.trans (honly.below hT.out.bel.size (fun k hk=>by omega));(have hlE:E.length=(E'.map (·.2)).length:=by rw [List.length_map,hp'.length_eq]);have hcap:E.length≤cap∧cap≤9223372036854775807:=by
         rcases hT.out.own.2 with ⟨hv,_⟩ | ⟨_,_,_,hv,_,_,h1,h2,_⟩
         · cases hv
         · injection hv with _ _ e
           subst e;exact ⟨h1,by unfold maxLen at h2;omega⟩
        have Fin:Hid (GivesTO wo n M (.returned (.slice (some ⟨g,0,none⟩) E.length cap)) w'):=by
         obtain ⟨f1,f2,f3⟩:=hfin;have hlE2:E.length=E'.length:=hp'.length_eq.symm;show GivesTO _ _ _ _ _;rw [hlE2] at hcap ⊢;exact ⟨_,_,E',rfl,hcap.1,hcap.2,fun _=>⟨g,rfl,f1⟩,f2,f3,hbel⟩
        clear hp' ho' hcl honly hfin hbel hlE hcap C;(go_wp2_with fail);go_ret;exact Fin.out
    · obtain rfl:E=[]:=List.eq_nil_of_length_eq_zero (by omega)
      obtain ⟨A,cap,rfl⟩:∃A cap,u5=.slice A 0 cap:=by
       rcases hT.out.own.2 with ⟨hv,_⟩ | ⟨_,_,_,hv,_⟩
       · exact ⟨_,_,hv⟩
       · exact ⟨_,_,hv⟩
      have C:=hiD (tsort_none A cap wr);have hEq:=hT.out.took.done hn Hl0.out Hd.out HM.out Hb.out HLM.out;have hcap:cap≤9223372036854775807:=by
       rcases hT.out.own.2 with ⟨hv,_⟩ | ⟨_,_,_,hv,_,_,h1,h2,_⟩
       · injection hv with _ _ e;omega
       · injection hv with _ _ e
         subst e;unfold maxLen at h2;omega
      have Fin:Hid (GivesTO wo n M (.returned (.slice A 0 cap)) wr):=⟨A,cap,[],rfl,Nat.zero_le _,hcap,fun h=>absurd h (by simp),PlainT.nil n,hEq,hT.out.bel⟩;clear hrg hm hrg0 hl0 hEq;(go_wp2_with fail);refine C.out.mono ?_;rintro e w' ⟨rfl,rfl⟩;(go_wp2_with fail);go_ret;exact Fin.out
  · intro p c kl y1 y2 w10 cnt' hkey hlk hR hat hrg1 hlt hg1 hs1 hen
    have hb10:Below wo.heap.size wo w10:=below_map hT.out.bel hg1 hT.out.bel.size lRr;obtain ⟨rfl,hgood,_,hhas,h1,h2,h3,ls,hL,hz⟩:=entry_in (Hd.out.bel hb10) hkey hR hat
    obtain ⟨cs,cA,ck,cc⟩:=c;simp only at h1 h2 h3 hL hz;have hm0:wr.rangeLeft bb wo.heap.size=cnt:=hrg.left_eq;have Hgood:=hiD hgood;have Hhas:=hiD hhas;have Hlk:=hiD hlk;have HL:=hiD hL;have Hz:=hiD hz;(have hlow:wo.heap.size+1≤w10.heap.size:=by have:=hT.out.low;omega);have Hg1:=hiD hg1;have Hr1:=hiD hrg1;obtain ⟨x0,x1,x2,x3,x4,x5,hpe⟩:∃x0 x1 x2 x3 x4 x5,p=[x0,x1,x2,x3,x4,x5]:=by
     match p,hgood.len with
     | [x0,x1,x2,x3,x4,x5],_=>exact ⟨_,_,_,_,_,_,rfl⟩
    (have hpv:plcV p=.agg #[.int .i64 x0,.int .i64 x1,.int .i64 x2,.int .i64 x3,.int .i64 x4,.int .i64 x5]:=by rw [hpe];rfl);have hzv:mkZ ⟨cs,cA,ck,cc⟩=.agg #[.bool cs,.slice cA ck cc]:=rfl;rw [hpv,hzv] at hen ⊢;have Hpe:=hiD hpe;clear hpv hzv hpe hgood hhas hlk hL hz hkey hR hat hrg1 hg1 hs1 hrg hrg0 hm;(go_wp2_with fail);have b2:Below w10.heap.size w10 ((w10.alloc (.cells #[.int .i64 x0,.int .i64 x1,.int .i64 x2,.int .i64 x3,.int .i64 x4,.int .i64 x5] 68)).alloc (.cells #[.bool cs,.slice cA ck cc] 41)):=(bRr.alloc lRr _).alloc (by simp) _;have hrow:Row ((w10.alloc (.cells #[.int .i64 x0,.int .i64 x1,.int .i64 x2,.int .i64 x3,.int .i64 x4,.int .i64 x5] 68)).alloc (.cells #[.bool cs,.slice cA ck cc] 41)) w10.heap.size 68 [x0,x1,x2,x3,x4,x5]:=(heap_alloc_old _ _ (by simp)).trans (heap_alloc_new _ _);have hduo:=Duo.new (w10.alloc (.cells #[.int .i64 x0,.int .i64 x1,.int .i64 x2,.int .i64 x3,.int .i64 x4,.int .i64 x5] 68)) (.bool cs) (.slice cA ck cc);rw [World.size_alloc] at hduo;(have hszt:w10.heap.size+1<((w10.alloc (.cells #[.int .i64 x0,.int .i64 x1,.int .i64 x2,.int .i64 x3,.int .i64 x4,.int .i64 x5] 68)).alloc (.cells #[.bool cs,.slice cA ck cc] 41)).heap.size:=by simp);generalize ((w10.alloc (.cells #[.int .i64 x0,.int .i64 x1,.int .i64 x2,.int .i64 x3,.int .i64 x4,.int .i64 x5] 68)).alloc (.cells #[.bool cs,.slice cA ck cc] 41))=wt at*
    have Hrow:=hiD hrow;have Hduo:=hiD hduo;have HLt:=hiD (HL.out.bel b2);have keep:Hid (∀W,Below wt.heap.size wt W→W.cell? ⟨w10.heap.size+1,0,none⟩=some (.bool cs)∧W.cell? ⟨w10.heap.size+1,1,none⟩=some (.slice cA ck cc)):=fun W hW=>
     ⟨(Hduo.out.bel hW).cell0,(Hduo.out.bel hW).cell1⟩
    obtain ⟨c0,c1⟩:=keep.out wt bRr;clear hrow hduo;refine (zsign_any cs cA ck cc ls wt HLt.out h1 h2 (by omega)).mono ?_;rintro e w11 ⟨rfl,hb11⟩;have Hb2:=hiD b2;have Hb11:=hiD hb11;(have hzv:ZVal (cs && decide (0<lmN ls ck)) (ls.take (lmN ls ck)) (coM Lx p):=by rw [← Hz.out];exact intZ_made HL.out.ok HL.out.len cs);(have hzl:(ls.take (lmN ls ck)).length=lmN ls ck:=by rw [List.length_take,HL.out.len];have:=lmN_le ls ck;omega);have hz0':=hzv.zero_iff;rw [hzl] at hz0';clear b2 hb11 c0 c1;by_cases h0:lmN ls ck=0
    · have hsg:signN cs (lmN ls ck)=0:=by rw [h0];rfl
      rw [hsg];have hT2:Hid (Ter wo w11 D n (wo.heap.size+1) u5 Lx (fun z=>left z && !z.sameKey (plcLit p)) E):=
       hT.out.skip lRr Hg1.out (Hb2.out.tm Hb11.out) (hT.out.took.skip Hgood.out (hz0'.2 h0))
      have hrg2:Hid (w11.ranges Tryz.prog 68 intEl bb wo.heap.size nc D (fun z=>left z && !z.sameKey (plcLit p)) cnt'):=Hr1.out.kept (grown_of_below (Hb2.out.tm Hb11.out)) (by simp) (by simp);clear hsg h0 hz0' hzl hzv hen;(go_wp2_with fail);go_roundw
      case rel=>exact ⟨_,cnt',E,hrg2.out,hT2,by omega⟩
      case measure=>rw [hrg2.out.left_eq,hm0];omega
    · have hsg:signN cs (lmN ls ck)≠0:=by
       obtain ⟨k,hk⟩:∃k,lmN ls ck=k+1:=⟨lmN ls ck - 1,by omega⟩;rw [hk];cases cs
       · show (1:Int)≠0;decide
       · show (-1:Int)≠0;decide
      have hco:coM Lx p≠0:=fun e=>h0 (hz0'.1 e);(have hzpos:0<(ls.take (lmN ls ck)).length:=by omega);have Cn:Hid (∀W,Below wt.heap.size wt W→Calls Tryz.prog 105 #[.agg #[.bool cs,.slice cA ck cc]] W (GivesIntF W (cs && decide (0<lmN ls ck)) (ls.take (lmN ls ck)))):=fun W hW=>
       znorm_f cs cA ck cc ls W (HLt.out.bel hW) h1 h2 (by omega)
      have hqs:(p.take n).length=n:=Hgood.out.take_length hn;have Cc:Hid (∀W,Below wt.heap.size wt W→Calls Tryz.prog 107 #[.slice (some ⟨w10.heap.size,0,none⟩) n 6] W (GivesIntsF W (p.take n))):=fun W hW=>by
       have hcl:=iclone_f (some ⟨w10.heap.size,0,none⟩) (p.take n).length 6 (p.take n) W ⟨rfl,fun _=>⟨_,0,rfl,Nat.lt_of_lt_of_le (by omega) hW.size,fun i hi=>by
        rw [Nat.zero_add,nth_take (by omega)];have h6:=Hgood.out.len;have hr:=(Hrow.out.bel hW).cell (i:=i) (by show i<6;omega);rw [hr,Hpe.out]⟩,fun i=>by
        by_cases hi:i<n
        · rw [nth_take hi]
          by_cases h6:i<p.length
          · exact Hgood.out.i64 _ (nth_mem h6)
          · rw [nth_ge (by omega)];exact I64.zero
        · rw [nth_ge (by omega)];exact I64.zero⟩ (by omega)
       rwa [hqs] at hcl
      have Hzv:=hiD hzv;have Hzpos:=hiD hzpos;have htook:=hiD (fun (E2:List EntT) (he:mvT (E2.map (·.2))=mvT (E.map (·.2))++[(p.take n,coM Lx p)])=>by
       have:=hT.out.took.take hn Hgood.out Hhas.out Hlk.out hco;rw [← he] at this;exact this)
      clear hzv hzpos hz0' hzl;generalize signN cs (lmN ls ck)=sg at*
      generalize (cs && decide (0<lmN ls ck))=sb at*
      generalize ls.take (lmN ls ck)=zs at*
      generalize hqe:p.take n=qs at*
      have Hqs:=hiD hqs;have hs1':(sg==0)=false:=beq_eq_false_iff_ne.2 hsg;(have hs2':(sg !=0)=true:=by simp [hsg]);(have hn0:(0:Int)≤(n:Int):=by omega);(have hn6:(n:Int)≤6:=by omega);have hown0:Hid (∀W,Below w10.heap.size w10 W→W.ownsRow (wo.heap.size+1) 44 3 u5 E.length (tcells E)):=fun W hW=>own_bel (hT.out.own.kept Hg1.out (by
       cases hob:u5.ownBlock with
       | none=>exact Or.inl rfl
       | some g=>exact Or.inr (fun e=>by have:=(hT.out.own.lt g hob).1;injection e;omega))) hW
      have hkeep2:Hid (∀W o W',Below wt.heap.size wt W→(W.alloc o).grownBy W' u5.ownBlock→W'.cell? ⟨w10.heap.size+1,0,none⟩=some (.bool cs)∧W'.cell? ⟨w10.heap.size+1,1,none⟩=some (.slice cA ck cc)):=fun W o W' hW hg=>by
       have ho:Only (fun k=>u5.ownBlock=some k) (W.alloc o) W':=(Only.of_grown hg).mono (fun i hi=>by first | exact hi | exact hi.symm);(have hlt:w10.heap.size+1<(W.alloc o).heap.size:=by have:=hW.size;simp;omega);(have hne:¬u5.ownBlock=some (w10.heap.size+1):=fun e=>by have:=(hT.out.own.lt _ e).2;have:=Hg1.out.size;omega);obtain ⟨k0,k1⟩:=keep.out _ (hW.alloc hW.size o);exact ⟨(ho.cell (p:=⟨w10.heap.size+1,0,none⟩) hlt hne).trans k0,(ho.cell (p:=⟨w10.heap.size+1,1,none⟩) hlt hne).trans k1⟩
      obtain ⟨c0,c1⟩:=keep.out w11 Hb11.out;clear hsg h0 hqs hqe hco hen;(go_wp2_with fail);(have q1:Hid (E.length+1≤maxLen):=by show _≤_;unfold maxLen;omega);(have q2:Hid ((E.length+1)*56≤140737488355328):=by show _≤_;omega);(have q3:Hid (∀(W:World) (o:Obj),Below wt.heap.size wt W→wo.heap.size+1≤(W.alloc o).heap.size):=fun W o hW=>by have h1:=hW.size;have h2:=Hb2.out.size;simp;omega);(have q4:Hid (∀(W:World) (o:Obj),(W.alloc o).heap.size=W.heap.size+1):=fun W o=>by simp);have q5:Hid (∀(W:World) (o:Obj),Below wt.heap.size wt W→(W.alloc o).ownsRow (wo.heap.size+1) 44 3 u5 E.length (tcells E)):=fun W o hW=>(hown0.out W (Hb2.out.tm hW)).alloc _;have q6:Hid (∀(a b c:Value),a.oneCell'=true→b.oneCell'=true→c.oneCell'=true→∀u∈ [a,b,c],u.oneCell'=true):=fun a b c h1 h2 h3 u hu=>by
       simp only [List.mem_cons,List.not_mem_nil,or_false] at hu;rcases hu with rfl | rfl | rfl<;>assumption
      go_region_held3 (fun W=>W.cell? ⟨w10.heap.size+1,0,none⟩=some (.bool cs)∧W.cell? ⟨w10.heap.size+1,1,none⟩=some (.slice cA ck cc))
       (first | go_keep | exact keep.out _ Hb11.out.drew | exact keep.out _ Hb11.out | exact keep.out _ hb12 | exact keep.out _ hb13 | exact keep.out _ (hb13.alloc hb13.size _) | exact hkeep2.out _ _ _ hb13 hgrow)
       (first
         | (go_at_call 105;refine (Cn.out _ (by first | exact Hb11.out.drew | exact Hb11.out | exact below_drewN Hb11.out _)).mono ?_;rintro e w12 ⟨A1,c1',rfl,g1,g2,g3,hb12',g4⟩;have hb12:Below wt.heap.size wt w12:=Hb11.out.drew.trans (hb12'.mono Hb11.out.size))
         | (go_at_call 107;refine (Cc.out _ (by first | exact hb12 | exact Hb11.out.drew)).mono ?_;rintro e w13 ⟨E1,e1,rfl,g5,g6,g7,hb13',g8⟩;have hb13:Below wt.heap.size wt w13:=hb12.tm hb13')
         | ((refine step_append_lies _ (by rfl) _ _ _ (by rfl) (wo.heap.size+1) 44 i0 _ 3 56 Tryz.underlying22 hi hz0 hz1 hz2 rfl (by omega) u5 E.length (tcells E) (by rfl) (q5.out w13 _ hb13) ⟨w13.heap.size,0,none⟩ 1 1 [.bool sb,.slice A1 zs.length c1',.slice E1 qs.length e1] (by rfl) (by rfl) (World.news_of_block (cs:=#[.bool sb,.slice A1 zs.length c1',.slice E1 qs.length e1]) (t:=44) (fr:=(0,0)) (heap_alloc_new w13 _)) (q6.out _ _ _ rfl rfl rfl) (Nat.one_pos) q1.out q2.out (q3.out w13 _ hb13) (w13.heap.size+1) (q4.out _ _) ?_);intro gg cap w14 hown14 hgrow hat hlt14))
      have hb1013:Below w10.heap.size w10 w13:=Hb2.out.tm hb13;have hs13:=hb12.size;have hsw:w10.heap.size≤wt.heap.size:=Hb2.out.size;have hx13:EntOk w13 (((A1,c1'),(E1,e1)),((sb,zs),qs)):=⟨g1,g2,g5,g6,g3.bel hb13',g7⟩;have hT2:Hid (Ter wo w14 D n (wo.heap.size+1) (.slice (some ⟨gg,0,none⟩) (E.length+1) cap) Lx (fun z=>left z && !z.sameKey (plcLit p)) (E++[(((A1,c1'),(E1,e1)),((sb,zs),qs))])):=by
       refine hT.out.next lRr Hg1.out hb1013 hx13 ?_ ?_ ?_ hown14 hgrow hat (htook.out _ ?_)
       · show ZVal sb zs (intZ sb zs)
         rw [Hzv.out.eq];exact Hzv.out
       · exact fun h0 y hy=>by have h1:w11.heap.size≤y.block:=g4 h0 y hy;have:=Hb11.out.size;omega
       · exact fun h0 y hy=>by have h1:w12.heap.size≤y.block:=g8 h0 y hy;omega
       · rw [List.map_append,mvT_append]
         show _++[(qs,intZ sb zs)]=_;rw [Hzv.out.eq]
      have hvb:∀k,u5.ownBlock=some k→wo.heap.size+1≤k:=fun k hk=>(hT.out.own.lt k hk).1;have hrg2:Hid (w14.ranges Tryz.prog 68 intEl bb wo.heap.size nc D (fun z=>left z && !z.sameKey (plcLit p)) cnt'):=
       ((Hr1.out.kept (grown_of_below hb1013) (by simp) (by simp)).alloc _).kept hgrow (fun e=>by have:=hvb _ e.symm;omega) (fun e=>by have:=hvb _ e.symm;omega)
      clear hown14 hgrow hat hb1013 hx13 hvb g3 g7 hb12 hb13 hb12' hb13' g4 g8;(go_wp2_with fail);go_roundw
      case rel=>
       (have hl2:(E++[(((A1,c1'),(E1,e1)),((sb,zs),qs))]).length=E.length+1:=by simp);refine ⟨_,cnt',E++[(((A1,c1'),(E1,e1)),((sb,zs),qs))],hrg2.out,hT2,?_⟩;rw [hl2];omega
      case measure=>rw [hrg2.out.left_eq,hm0];omega
end Go.Proofs.YtehcoffbiplphaaGreat
namespace Cl
structure Arg (n C:Nat) (L:List TV):Prop where
 len:∀t∈L,t.2.length=n
 bd:∀t∈L,∀x∈t.2,0≤x∧x≤1000
 co:∀t∈L,t.1.2.length≤C
 cnt:L.length≤4096
theorem mvT_len {n:Nat} {L:List TV}(h:∀t∈L,t.2.length=n):LenM n (mvT L):=fun t ht=>by
 obtain ⟨s,hs,rfl⟩:=List.mem_map.1 ht
 exact h s hs
theorem mvT_bd {d:Int} {L:List TV}(h:∀t∈L,∀x∈t.2,0≤x∧x≤d):BdM d (mvT L):=fun t ht=>by
 obtain ⟨s,hs,rfl⟩:=List.mem_map.1 ht
 exact h s hs
theorem Arg.lenM {n C:Nat} {L:List TV}(h:Arg n C L):LenM n (mvT L):=mvT_len h.len
theorem Arg.bdM {n C:Nat} {L:List TV}(h:Arg n C L):BdM 1000 (mvT L):=mvT_bd h.bd
end Cl
namespace Go.Proofs.YtehcoffbiplphaaGreat
open Go.RowKit Cl
attribute [local go_sem ↓] Go.wp_at_zero Go.wp_at_succ
theorem arg_terms {n C:Nat} {L:List TV}(h:Arg n C L):TermsOk n C L:=⟨h.len,fun t ht x hx=>by have:=h.bd t ht x hx;omega,h.co⟩
theorem arg_ok {n C:Nat} {L:List TV}(h:Arg n C L) (hn:n≤6):OkL (n:Int) L:=
 ⟨by omega,by omega,h.cnt,fun i hi=>⟨by rw [h.len _ (List.getElem_mem hi)],fun j hj=>h.bd _ (List.getElem_mem hi) _ (nth_mem hj)⟩⟩
theorem plain_ok {n:Nat} {L:List TV} {M:Mv}(hn:n≤6) (hp:PlainT n L) (e:EqM n (mvT L) M) (hl:M.length≤4096) (hb:BdM 1000 M):OkL (n:Int) L:=by
 have hc:=hp.mv.count e
 rw [mvT_length] at hc
 have hbd:=hp.mv.bd e hb
 refine ⟨by omega,by omega,by omega,fun i hi=>⟨?_,fun j hj=> ?_⟩⟩
 · have:=hp.mv.len (valT L[i]) (List.mem_map.2 ⟨_,List.getElem_mem hi,rfl⟩)
   exact congrArg Int.ofNat this
 · exact hbd (valT L[i]) (List.mem_map.2 ⟨_,List.getElem_mem hi,rfl⟩) _ (nth_mem hj)
def GivesP (w:World) (n:Nat) (M:Mv) (e:Ending) (w':World):Prop:=
 ∃A c L,e=.returned (.tuple #[.slice A L.length c,.int .i64 0])∧L.length≤c∧c≤9223372036854775807∧Trs w' A L.length L∧PlainT n L∧EqM n (mvT L) M∧Below w.heap.size w w'
theorem GivesP.from_ {w0 w:World} {n:Nat} {M:Mv} {e:Ending} {w':World}(h:GivesP w n M e w') (hb:Below w0.heap.size w0 w):GivesP w0 n M e w':=by
 obtain ⟨A,c,L,h1,h2,h3,h4,h5,h6,h7⟩:=h
 exact ⟨A,c,L,h1,h2,h3,h4,h5,h6,hb.tm h7⟩
theorem manswerO (bb nc n B:Nat) (Lx M:Mv) (w:World) (hs:SumM w bb nc n B Lx) (hn:n≤6) (hnc:nc≤1000000) (hB:B≤1000000) (hM:LenM n M) (hb:BdM 1000 M) (hl:M.length≤4096) (hLM:∀p,p.length=n→coM Lx (padP n p)=coM M p):
 Calls Tryz.prog 39 #[.map (some bb),.int .i64 (n:Int)] w (GivesPO w n M):=by
 have Ct:=hiD (mtermsO bb nc n B Lx M w hs hn hnc hB hM (hb.mono (by omega)) hLM)
 have Hb:=hiD hb
 clear hs hM hLM hb
 go_enter Tryz.func39,Tryz.ntmps39
 go_wp2_with fail
 refine Ct.out.mono ?_
 rintro e w1 ⟨A,c,L,rfl,h1,h2,h3,h4,h5,h6⟩
 have Cc:=hiD (mcheck_ok (n:Int) A L.length c _ w1 (trs_ofO h3) (plain_ok hn h4 h5 hl Hb.out))
 have H3:=hiD h3
 have H4:=hiD h4
 have H5:=hiD h5
 have H6:=hiD h6
 clear h3 h4 h5 h6
 go_wp2_with fail
 refine Cc.out.mono ?_
 rintro e w2 ⟨rfl,hb2⟩
 have Hb2:=hiD hb2
 clear hb2
 go_wp2_with fail
 go_ret2
 exact ⟨A,c,L,rfl,h1,h2,trsO_bel H3.out Hb2.out,H4.out,H5.out,H6.out.tm Hb2.out⟩
theorem mnormO (n C:Nat) (A:Option Addr) (m c:Nat) (L:List TV) (w:World) (hx:Trs w A m L) (hL:Arg n C L) (hn:n≤6) (hC:C≤10000):
 Calls Tryz.prog 20 #[.int .i64 (n:Int),.slice A m c] w (GivesPO w n (mvT L)):=by
 have hml:=hx.len
 have hcnt:=hL.cnt
 have hm:m≤4096:=by omega
 have Cc:=hiD (mcheck_ok (n:Int) A m c L w hx (arg_ok hL hn))
 have Cg:=hiD (fun W (h:Below w.heap.size w W)=>mgathered n C A m c L W (hx.bel h) (by omega) hn (by omega) (arg_terms hL))
 have Ca:=hiD (fun b W (h:SumM W b m n (C+m) (liftM n (mvT L)))=>manswerO b m n (C+m) _ (mvT L) W h hn (by omega) (by omega) hL.lenM hL.bdM (by rw [mvT_length];omega) (fun p hp=>coM_lift hL.lenM hp))
 clear hx hL hml
 go_enter Tryz.func20,Tryz.ntmps20
 go_wp2_with fail
 refine Cc.out.mono ?_
 rintro e w1 ⟨rfl,hb1⟩
 go_wp2_with fail
 refine (Cg.out w1 hb1).mono ?_
 rintro e w2 ⟨b,rfl,hbb,hs2,hb2⟩
 have C2:=hiD (Ca.out b w2 hs2)
 have Hb2:=hiD (hb1.tm hb2)
 clear hs2 hb1 hb2
 go_wp2_with fail
 refine C2.out.mono ?_
 intro e w3 h3
 have h3':=h3.from_ Hb2.out
 obtain ⟨A3,c3,L3,rfl,g1,g2,g3,g4,g5,g6⟩:=h3'
 have F:=hiD (show GivesPO w n (mvT L) (.returned (.tuple #[.slice A3 L3.length c3,.int .i64 0])) w3 from ⟨A3,c3,L3,rfl,g1,g2,g3,g4,g5,g6⟩)
 clear h3 g3 g4 g5 g6
 go_wp2_with fail
 go_ret2
 exact F.out
theorem GivesPO.p {w:World} {n:Nat} {M:Mv} {e:Ending} {w':World}(h:GivesPO w n M e w'):GivesP w n M e w':=by
 obtain ⟨A,c,E,h1,h2,h3,h4,h5,h6,h7⟩:=h
 exact ⟨A,c,E.map (·.2),by rw [List.length_map];exact h1,by rw [List.length_map];exact h2,h3,by rw [List.length_map];exact trs_ofO h4,h5,h6,h7⟩
theorem manswer (bb nc n B:Nat) (Lx M:Mv) (w:World) (hs:SumM w bb nc n B Lx) (hn:n≤6) (hnc:nc≤1000000) (hB:B≤1000000) (hM:LenM n M) (hb:BdM 1000 M) (hl:M.length≤4096) (hLM:∀p,p.length=n→coM Lx (padP n p)=coM M p):
 Calls Tryz.prog 39 #[.map (some bb),.int .i64 (n:Int)] w (GivesP w n M):=(manswerO bb nc n B Lx M w hs hn hnc hB hM hb hl hLM).mono fun _ _ h=>h.p
theorem mnorm (n C:Nat) (A:Option Addr) (m c:Nat) (L:List TV) (w:World) (hx:Trs w A m L) (hL:Arg n C L) (hn:n≤6) (hC:C≤10000):
 Calls Tryz.prog 20 #[.int .i64 (n:Int),.slice A m c] w (GivesP w n (mvT L)):=(mnormO n C A m c L w hx hL hn hC).mono fun _ _ h=>h.p
end Go.Proofs.YtehcoffbiplphaaGreat
namespace Go.Proofs.YtehcoffbiplphaaGreat
open Go.RowKit Cl
attribute [local go_sem ↓] Go.wp_at_zero Go.wp_at_succ
theorem only_iter {S:Nat→Prop} {w0 w w':World} {r:Nat}(h:Only S w0 w) (hg:w.grownBy w' (some r)) (hr:w0.heap.size≤r):Only S w0 w':=
 ⟨hg.os.trans h.os,hg.tape.trans h.tape,hg.output.trans h.output,Nat.le_trans h.size hg.size,fun i hi hs=>(hg.block i (Nat.lt_of_lt_of_le hi h.size) (fun e=>by injection e;omega)).trans (h.block i hi hs)⟩
theorem grown_of_only {w w':World} {b:Nat}(h:Only (fun x=>x=b) w w'):w.grownBy w' (some b):=⟨h.os,h.tape,h.output,h.size,fun i hi hne=>h.block i hi (fun e=>hne (by rw [e]))⟩
section
variable {w w' : World} {b r nb : Nat} {D : DataW Value} {left : Lit → Bool} {cnt : Nat}
theorem cells_iter (h:w.ranges Tryz.prog 68 intEl b r nb D left cnt) (hg:w.grownBy w' (some r)) {p:Addr} {v:Value}(hp:p.block<w.heap.size) (hc:w.cell? p=some v):w'.cell? p=some v:=by
 by_cases e:p.block=r
 · obtain ⟨es,clock,since,seen,c0,hb,F,hs,hD,hr,rest⟩:=h
   rw [← e] at hr;simp [World.cell?,hr] at hc
 · have:=hg.block p.block hp (fun e2=>e (by injection e2))
   unfold World.cell? at hc ⊢;rw [this];exact hc
theorem limbs_iter {A:Option Addr} {n:Nat} {xs:List Int}(h:Limbs w A n xs) (hm:w.ranges Tryz.prog 68 intEl b r nb D left cnt) (hg:w.grownBy w' (some r)):Limbs w' A n xs:=
 ⟨h.len,fun hn=>by
   obtain ⟨bb,o,e,hb,hc⟩:=h.at_ hn;exact ⟨bb,o,e,Nat.lt_of_lt_of_le hb hg.size,fun i hi=>cells_iter hm hg (p:=⟨bb,o+i,none⟩) hb (hc i hi)⟩,h.ok⟩
theorem sumD_iter {D':DataW Value} {n B:Nat} {L:Mv}(h:SumD w D' n B L) (hm:w.ranges Tryz.prog 68 intEl b r nb D left cnt) (hg:w.grownBy w' (some r)):SumD w' D' n B L:=
 ⟨h.key,fun p hp hh=>by
   obtain ⟨v,h1,s,A,kk,c,ls,e,g1,g2,g3,g4,g5⟩:=h.at_ p hp hh;exact ⟨v,h1,⟨s,A,kk,c,ls,e,g1,g2,g3,limbs_iter g4 hm hg,g5⟩⟩,h.none,h.isMap⟩
end
end Go.Proofs.YtehcoffbiplphaaGreat
namespace Cl
theorem lift_bd {n:Nat} {L:Mv} {d:Int}(hd:0≤d) (h:BdM d L):BdM d (liftM n L):=fun t ht x hx=>by
 obtain ⟨s,hs,rfl⟩:=List.mem_map.1 ht
 have hx':x∈s.1++List.replicate (6 - n) 0:=hx
 rcases List.mem_append.1 hx' with hx' | hx'
 · exact h s hs x hx'
 · rw [(List.mem_replicate.1 hx').2];omega
theorem mulM_times (n:Nat) (E:Mv) (p:Plc) (z:Int) (T:Mv):mulM (E++[(p,z)]) (liftM n T)=mulM E (liftM n T)++timesT n p z T:=by
 rw [mulM_snoc]
 unfold liftM timesT
 rw [List.map_map]
 rfl
end Cl
namespace Go.Proofs.YtehcoffbiplphaaGreat
open Go.RowKit Cl
attribute [local go_sem ↓] Go.wp_at_zero Go.wp_at_succ
theorem mmul (n Ca Cb:Nat) (A B:Option Addr) (ma ca mb cb:Nat) (L T:List TV) (da db:Int) (w:World) (hx:Trs w A ma L) (hy:Trs w B mb T) (hL:Arg n Ca L) (hT:Arg n Cb T) (hn:n≤6) (hCa:Ca≤10000) (hCb:Cb≤10000) (hl:ma*mb≤4096) (hda:BdM da (mvT L)) (hdb:BdM db (mvT T)) (hd:da+db≤1000):
 Calls Tryz.prog 36 #[.int .i64 (n:Int),.slice A ma ca,.slice B mb cb] w (GivesP w n (mulM (mvT L) (mvT T))):=by
 have hml:=hx.len
 have hmt:=hy.len
 have hma:ma≤4096:=by have:=hL.cnt;omega
 have hmb:mb≤4096:=by have:=hT.cnt;omega
 have Call2:=hiD (fun g cc W (hg:g<W.heap.size) (q1:W.cell? ⟨g,0,none⟩=some (.slice A ma ca)) (q2:W.cell? ⟨g,1,none⟩=some (.slice B mb cb)) (hW:Below w.heap.size w W)=>mall2 (n:Int) g cc A B ma mb ca cb L T W hg q1 q2 (hx.bel hW) (hy.bel hW) (arg_ok hL hn) (arg_ok hT hn))
 have Cg1:=hiD (fun W (h:Below w.heap.size w W)=>mgathered n Ca A ma ca L W (hx.bel h) (by omega) hn (by omega) (arg_terms hL))
 have HL:=hiD hL
 have HT:=hiD hT
 have Hml:=hiD hml
 have Hmt:=hiD hmt
 have Hy:=hiD hy
 have Hda:=hiD hda
 have Hdb:=hiD hdb
 have hmm:=@run_makeMap Tryz.prog
 have Hl:=hiD hl
 clear hx hy hL hT hml hmt hda hdb hl
 go_enter Tryz.func36,Tryz.ntmps36
 go_wp2_with fail
 refine (Call2.out w.heap.size 2 _ (by simp) (by simp) (by simp) (bRr.alloc lRr _)).mono ?_
 rintro e w1 ⟨rfl,hb1'⟩
 have hb1:Below w.heap.size w w1:=((Below.refl _ w).alloc lRr _).trans (hb1'.mono (by simp))
 clear hb1' Call2
 go_wp2_with fail
 have hs1:SumM (w1.alloc (.map #[] 0)) w1.heap.size 0 n 0 []:=⟨.map [],World.ownsMap_made _ _ _ _,SumD.start _ _ _⟩
 have hb2:Below w.heap.size w (w1.alloc (.map #[] 0)):=hb1.alloc hb1.size (.map #[] 0)
 have hb1w2:w1.heap.size<(w1.alloc (.map #[] 0)).heap.size:=by simp
 have hwb1:=hb1.size
 clear hb1
 generalize w1.alloc (.map #[] 0)=w2 at*
 generalize w1.heap.size=b1 at*
 have Hs1:=hiD hs1
 clear hs1
 refine (Cg1.out w2 hb2).mono ?_
 rintro e wo ⟨b2,rfl,hbb2,hs2,hb3'⟩
 have Hb3:Hid (Below w.heap.size w wo):=hb2.tm hb3'
 have Hs1o:=hiD (sumM_bel Hs1.out hb3')
 obtain ⟨D,hm,hd'⟩:=hs2
 obtain ⟨D1,hm1,_⟩:=Hs1o.out
 have Hd:=hiD hd'
 have Hm1:=hiD hm1
 have hb2lt:=hm.lt
 have hsz:=map_size hm
 have hb3s:=hb3'.size
 have hbne:b1<b2:=by omega
 clear Hs1 Cg1 hd' hm1 hb3' hb2 hmm
 go_wp2_with (at_range;go_must (refine wpList_range_own _ rfl _ 63 rfl 68 41 plc_law Tryz.underlying63 intEl b2 ma D rfl hm ?_);intro w0 hrg0 hg0 hs0)
 go_frame
 have hLen:=hiD HL.out.lenM
 go_loopw [24] (fun v wr=>∃(left:Lit→Bool) (cnt:Nat) (E:Mv),wr.ranges Tryz.prog 68 intEl b2 wo.heap.size ma D left cnt∧Hid (Seen D n (liftM n (mvT L)) left E)∧Hid (SumM wr b1 (E.length*mb) n (Ca+ma+Cb+1+E.length*mb) (mulM E (liftM n (mvT T))))∧Hid (Only (fun x=>x=b1) wo wr)∧wo.heap.size+1≤wr.heap.size∧E.length+cnt≤ma) (fun _ wr=>wr.rangeLeft b2 wo.heap.size)
 case atStart=>
  have hbel0:Below wo.heap.size wo w0:=bRr.grown hg0 lRr (by simp);refine ⟨_,_,[],hrg0,Seen.start _ _ _,?_,only_of_bel hbel0,by omega,by simpa using hsz⟩;show SumM _ _ (0*mb) _ (_+0*mb) [];rw [Nat.zero_mul];exact sumM_mono (sumM_bel Hs1o.out hbel0) (by omega)
 case round=>
  obtain ⟨left,cnt,E,hrg,hS,hsum,ho,hlow,hlen⟩:=hrel;clear hrg0 hg0 hs0 hm;have hEm:Hid (E.length*mb≤4096):=Nat.le_trans (Nat.mul_le_mul_right mb (show E.length≤ma by omega)) Hl.out;go_wp2_with (at_next;go_must (refine wpList_next_ranges _ rfl _ rfl 68 plc_law intEl plcV mkZ plcV_inv mkZ_inv b2 wo.heap.size ma D left cnt rfl hrg ?_ ?_))
  · intro hc0 hl0
    have hgood:∀t∈liftM n (mvT L),GoodP n t.1:=lift_good hn hLen.out (HL.out.bdM.mono (by omega));have hdone:=hS.out.done hl0 Hd.out hgood;have hML:LenM n (mulM (mvT L) (mvT T)):=hLen.out.mul HT.out.lenM;have heq:EqM 6 (mulM E (liftM n (mvT T))) (liftM n (mulM (mvT L) (mvT T))):=by
     rw [lift_mul hLen.out HT.out.lenM];exact hdone.mulL hS.out.len6 (lift_len6 hn hLen.out) (lift_len6 hn HT.out.lenM)
    have hbd:BdM 1000 (mulM (mvT L) (mvT T)):=(Hda.out.mul Hdb.out).mono hd;have hEm':=hEm.out;have C:=hiD (manswer b1 (E.length*mb) n (Ca+ma+Cb+1+E.length*mb) _ _ wr hsum.out hn (by omega) (by omega) hML hbd (by rw [mulM_length,mvT_length,mvT_length,Hml.out,Hmt.out];exact Hl.out) (lift_eq hn heq hML));have Hb4:Hid (Below w.heap.size w wr):=Hb3.out.trans (ho.out.below Hb3.out.size (fun x hx=>by omega));clear hrg hl0 hgood hdone hML heq hbd hS hsum ho hEm';(go_wp2_with fail);refine C.out.mono ?_;intro e w5 h5;obtain ⟨A3,c3,L3,rfl,g1,g2,g3,g4,g5,g6⟩:=h5.from_ Hb4.out;have F:=hiD (show GivesP w n (mulM (mvT L) (mvT T)) (.returned (.tuple #[.slice A3 L3.length c3,.int .i64 0])) w5 from ⟨A3,c3,L3,rfl,g1,g2,g3,g4,g5,g6⟩);clear h5 g3 g4 g5 g6;(go_wp2_with fail);go_ret2;exact F.out
  · intro p zc kl y1 y2 w10 cnt' hkey hlk hR hat hrg1 hlt hg1 hs1 hen
    have ho10:Only (fun x=>x=b1) wo w10:=only_iter ho.out hg1 lRr;obtain ⟨rfl,hgood,hin,hhas,h1,h2,h3,ls,hLm,hz⟩:=entry_in (sumD_map Hd.out Hm1.out ho10) hkey hR hat
    obtain ⟨cs,cA,ck,cc⟩:=zc;simp only at h1 h2 h3 hLm hz;have hm0:wr.rangeLeft b2 wo.heap.size=cnt:=hrg.left_eq;have hpb:Hid (∀x∈p,0≤x∧x≤1000):=by
     obtain ⟨t,ht,e⟩:=hin;show∀x∈p,_;rw [← e];exact lift_bd (by omega) HL.out.bdM t ht
    have Hgood:=hiD hgood;have HLm:=hiD hLm;have Hz:=hiD hz;have Hr1:=hiD hrg1;have HS2:=hiD (hS.out.step hgood hhas hlk);have Ho10:=hiD ho10;(have hb1r:b1<wr.heap.size:=by have:=hlow;omega);have hs10:=hg1.size;have hb10:Below w.heap.size w w10:=Hb3.out.trans (ho10.below Hb3.out.size (fun x hx=>by omega));have Hb10:=hiD hb10;have hsum10:Hid (SumM w10 b1 (E.length*mb) n (Ca+ma+Cb+1+E.length*mb) (mulM E (liftM n (mvT T)))):=by
     obtain ⟨D',m1,m2⟩:=hsum.out;exact ⟨D',m1.kept hg1 (fun e=>by injection e;omega),sumD_iter m2 hrg hg1⟩
    obtain ⟨x0,x1,x2,x3,x4,x5,hpe⟩:∃x0 x1 x2 x3 x4 x5,p=[x0,x1,x2,x3,x4,x5]:=by
     match p,hgood.len with
     | [x0,x1,x2,x3,x4,x5],_=>exact ⟨_,_,_,_,_,_,rfl⟩
    (have hpv:plcV p=.agg #[.int .i64 x0,.int .i64 x1,.int .i64 x2,.int .i64 x3,.int .i64 x4,.int .i64 x5]:=by rw [hpe];rfl);have hzv:mkZ ⟨cs,cA,ck,cc⟩=.agg #[.bool cs,.slice cA ck cc]:=rfl;rw [hpv,hzv] at hen ⊢;have Hpe:=hiD hpe;clear hpv hzv hpe hgood hin hhas hlk hLm hz hkey hR hat hrg1 hg1 hs1 hrg ho10 hS hsum ho hb10;(go_wp2_with fail);have b2':Below w10.heap.size w10 ((w10.alloc (.cells #[.int .i64 x0,.int .i64 x1,.int .i64 x2,.int .i64 x3,.int .i64 x4,.int .i64 x5] 68)).alloc (.cells #[.bool cs,.slice cA ck cc] 41)):=(bRr.alloc lRr _).alloc (by simp) _;generalize ((w10.alloc (.cells #[.int .i64 x0,.int .i64 x1,.int .i64 x2,.int .i64 x3,.int .i64 x4,.int .i64 x5] 68)).alloc (.cells #[.bool cs,.slice cA ck cc] 41))=wt at*
    have hEm':=hEm.out;have Ct:Hid (Calls Tryz.prog 44 #[.map (some b1),.agg #[.int .i64 x0,.int .i64 x1,.int .i64 x2,.int .i64 x3,.int .i64 x4,.int .i64 x5],.agg #[.bool cs,.slice cA ck cc],.slice B mb cb] wt _):=
     mtimes b1 (E.length*mb) n (Ca+ma+Cb+1+E.length*mb) (Ca+ma) Cb _ [x0,x1,x2,x3,x4,x5] cs cA ck cc ls B mb cb T wt (sumM_bel hsum10.out b2') rfl
      (fun x hx=>by have:=hpb.out x (by rw [Hpe.out];exact hx);omega) (fun i hi=>by have:=Hgood.out.zero i hi;rwa [Hpe.out] at this) (arg_terms HT.out) (fun t ht x hx=>by have:=HT.out.bd t ht x hx;omega) (by unfold maxLen;omega) (HLm.out.bel b2') h1 h2 (by omega) (by omega) (by omega) (by omega) (Hy.out.bel (Hb10.out.tm b2')) (by omega) hn
    have Hb2:=hiD b2';clear b2' hEm' hsum10;refine Ct.out.mono ?_;rintro e w3 ⟨rfl,hs3,ho3⟩;(have hl2:(E++[(p,coM (liftM n (mvT L)) p)]).length=E.length+1:=by simp);have Hs3:Hid (SumM w3 b1 ((E.length+1)*mb) n (Ca+ma+Cb+1+(E.length+1)*mb) (mulM (E++[(p,coM (liftM n (mvT L)) p)]) (liftM n (mvT T)))):=by
     (have q0:(E.length+1)*mb=E.length*mb+mb:=by rw [Nat.add_mul,Nat.one_mul]);(have q1:max (Ca+ma+Cb+1+E.length*mb) (Ca+ma+Cb+1)+mb=Ca+ma+Cb+1+(E.length*mb+mb):=by omega);rw [q1] at hs3;show SumM _ _ _ _ _ _;rw [mulM_times,q0,← Hz.out,Hpe.out];exact hs3
    have Ho3:Hid (Only (fun x=>x=b1) wo w3):=(Ho10.out.trans (only_of_bel Hb2.out)).trans ho3;have hb10s:=Hb2.out.size;have Hr3:Hid (w3.ranges Tryz.prog 68 intEl b2 wo.heap.size ma D (fun z=>left z && !z.sameKey (plcLit p)) cnt'):=
     (Hr1.out.kept (grown_of_below Hb2.out) (by simp) (by simp)).kept (grown_of_only ho3) (fun e=>by injection e;omega) (fun e=>by injection e;omega)
    (have hlow3:wo.heap.size+1≤w3.heap.size:=by have:=ho3.size;omega);clear hs3 ho3 hen;(go_wp2_with fail);go_roundw
    case rel=>
     refine ⟨_,cnt',E++[(p,coM (liftM n (mvT L)) p)],Hr3.out,HS2,?_,Ho3,hlow3,by rw [hl2];omega⟩;rw [hl2];exact Hs3
    case measure=>rw [Hr3.out.left_eq,hm0];omega
end Go.Proofs.YtehcoffbiplphaaGreat
