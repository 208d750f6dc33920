/- Trees in memory: what they tell, and when this stays. No program in sight.
   Trees collected in a row of the call's own. No program in sight.
   Trees in a row of the call's own: one of them is put anew. No program in sight. -/
import Derived.Test.YtehcoffbiplphaaGreatSPlains
import Derived.Test.YtehcoffbiplphaaGreatSLims
set_option linter.unusedVariables false
set_option linter.unusedSimpArgs false
namespace Cl
open Go Go.RowKit CRing
theorem limbs_onlyT {w w':World} {S:Nat→Prop} {A:Option Addr} {n:Nat} {xs:List Int}(h:Limbs w A n xs) (ho:Only S w w') (hA:0<n→∀y,A=some y→¬S y.block):Limbs w' A n xs:=
 ⟨h.len,fun hn=>by
   obtain ⟨b,o,e,hb,hc⟩:=h.at_ hn;refine ⟨b,o,e,Nat.lt_of_lt_of_le hb ho.size,fun i hi=> ?_⟩;rw [ho.cell (p:=⟨b,o+i,none⟩) hb (hA hn ⟨b,o,none⟩ e)];exact hc i hi,h.ok⟩
theorem ZVal.cap {s:Bool} {xs:List Int} {z:Int} {K:Nat}(h:ZVal s xs z) (hz:z.natAbs<2^(64*K)):xs.length≤K:=by
 rcases Nat.lt_or_ge K xs.length with hlt | hge
 · exfalso
   have h1:=h.pl.low (by omega);have h2:2^(64*K)≤2^(64*(xs.length - 1)):=Nat.pow_le_pow_right (by omega) (by omega);have h3:z.natAbs=limbs xs:=by
    rw [← h.eq];unfold intZ;cases s<;>simp
   omega
 · exact hge
def treV (s:Bool) (A:Option Addr) (k c:Nat) (B:Option Addr) (m d:Nat):Value:=.agg #[.bool s,.slice A k c,.slice B m d]
def Kid (P:Value→Prop) (w:World) (b o i:Nat):Prop:=∃s A k c B m d,w.cell? ⟨b,o+i*3,none⟩=some (.bool s)∧w.cell? ⟨b,o+i*3+1,none⟩=some (.slice A k c)∧w.cell? ⟨b,o+i*3+2,none⟩=some (.slice B m d)∧P (treV s A k c B m d)
def RowK (S:Nat→Prop) (P:Nat→Value→Prop) (w:World) (A:Option Addr) (m:Nat):Prop:=0<m→∃b o,A=some ⟨b,o,none⟩∧S b∧b<w.heap.size∧∀i,i<m→Kid (P i) w b o i
def TreW (S:Nat→Prop):(n:Nat)→World→Value→Pn n→Prop
 | 0,w,v,z=>∃s A k c ls,v=treV s A k c none 0 0∧k≤c∧c≤9223372036854775807∧Limbs w A k ls∧ZVal s ls (toZ z)∧(0<k→∀y,A=some y→S y.block)
 | n+1,w,v,f=>∃B c,v=treV false none 0 0 B (kids f).len c∧(kids f).len≤c∧c≤9223372036854775807∧RowK S (fun i u=>TreW S n w u ((kids f).co i)) w B (kids f).len
theorem Kid.imp {P Q:Value→Prop} {w w':World} {b o i:Nat}(h:Kid P w b o i) (hc:∀j,w'.cell? ⟨b,j,none⟩=w.cell? ⟨b,j,none⟩) (hp:∀v,P v→Q v):Kid Q w' b o i:=by
 obtain ⟨s,A,k,c,B,m,d,h1,h2,h3,h4⟩:=h
 exact ⟨s,A,k,c,B,m,d,(hc _).trans h1,(hc _).trans h2,(hc _).trans h3,hp _ h4⟩
theorem RowK.imp {S T:Nat→Prop} {P Q:Nat→Value→Prop} {w w':World} {A:Option Addr} {m:Nat}(h:RowK S P w A m) (hs:∀b,S b→T b) (hz:w.heap.size≤w'.heap.size) (hc:∀b j,S b→b<w.heap.size→w'.cell? ⟨b,j,none⟩=w.cell? ⟨b,j,none⟩) (hp:∀i v,i<m→P i v→Q i v):RowK T Q w' A m:=fun hm=>by
 obtain ⟨b,o,e,hb,hl,hk⟩:=h hm
 exact ⟨b,o,e,hs b hb,Nat.lt_of_lt_of_le hl hz,fun i hi=>(hk i hi).imp (fun j=>hc b j hb hl) fun v=>hp i v hi⟩
theorem TreW.only {S T Q:Nat→Prop} {w w':World}(ho:Only Q w w') (hq:∀b,S b→¬Q b) (hs:∀b,S b→T b):∀{n:Nat} {v:Value} {f:Pn n},TreW S n w v f→TreW T n w' v f
 | 0,v,z,h=>by
   obtain ⟨s,A,k,c,ls,h1,h2,h3,h4,h5,h6⟩:=h;exact ⟨s,A,k,c,ls,h1,h2,h3,limbs_onlyT h4 ho fun h0 y hy=>hq _ (h6 h0 y hy),h5,fun h0 y hy=>hs _ (h6 h0 y hy)⟩
 | n+1,v,f,h=>by
   obtain ⟨B,c,h1,h2,h3,h4⟩:=h;exact ⟨B,c,h1,h2,h3,h4.imp hs ho.size (fun b j hb hl=>ho.cell (p:=⟨b,j,none⟩) hl (hq b hb)) fun i v _ hv=>TreW.only ho hq hs hv⟩
theorem TreW.mono {S T:Nat→Prop} {n:Nat} {w:World} {v:Value} {f:Pn n}(h:TreW S n w v f) (hs:∀b,S b→T b):TreW T n w v f:=h.only (Only.refl (fun _=>False) w) (fun _ _ h=>h) hs
theorem TreW.here {S:Nat→Prop} {w:World}:∀{n:Nat} {v:Value} {f:Pn n},TreW S n w v f→TreW (fun b=>S b∧b<w.heap.size) n w v f
 | 0,v,z,h=>by
   obtain ⟨s,A,k,c,ls,h1,h2,h3,h4,h5,h6⟩:=h;refine ⟨s,A,k,c,ls,h1,h2,h3,h4,h5,fun h0 y hy=>⟨h6 h0 y hy,?_⟩⟩;obtain ⟨b,o,e,hb,_⟩:=h4.at_ h0;rw [e] at hy;injection hy with hy
   rw [← hy];exact hb
 | n+1,v,f,h=>by
   obtain ⟨B,c,h1,h2,h3,h4⟩:=h;refine ⟨B,c,h1,h2,h3,fun hm=> ?_⟩;obtain ⟨b,o,e,hb,hl,hk⟩:=h4 hm;exact ⟨b,o,e,⟨hb,hl⟩,hl,fun i hi=>(hk i hi).imp (fun _=>rfl) fun v hv=>TreW.here hv⟩
theorem TreW.bel {S:Nat→Prop} {w w':World} {n:Nat} {v:Value} {f:Pn n}(h:TreW S n w v f) (hb:Below w.heap.size w w'):TreW S n w' v f:=
 h.here.only (Only.of_below hb) (fun b hb' hq=>by have:=hb'.2;omega) fun b hb'=>hb'.1
theorem TreW.num {S:Nat→Prop} {w:World} {s:Bool} {A:Option Addr} {k c:Nat} {ls:List Int} {z:Pn 0}(h1:k≤c) (h2:c≤9223372036854775807) (h3:Limbs w A k ls) (h4:ZVal s ls (toZ z)) (h5:0<k→∀y,A=some y→S y.block):TreW S 0 w (treV s A k c none 0 0) z:=⟨s,A,k,c,ls,rfl,h1,h2,h3,h4,h5⟩
theorem TreW.nought (S:Nat→Prop) (w:World):∀n:Nat,TreW S n w (treV false none 0 0 none 0 0) (0:Pn n)
 | 0=>⟨false,none,0,0,[],rfl,lRr,by omega,⟨rfl,fun h=>absurd h (by omega),fun i=>by show 0≤nth [] i∧nth [] i<18446744073709551616;rw [nth_ge (by simp)];omega⟩,⟨⟨fun i=>by show 0≤nth [] i∧nth [] i<18446744073709551616;rw [nth_ge (by simp)];omega,fun h=>absurd h (by simp)⟩,rfl,fun h=>by cases h⟩,fun h=>absurd h (by omega)⟩
 | n+1=>by
   have e:(kids (0:Pn (n+1))).len=0:=by rw [kids_zero];exact Poly.len_zero
   refine ⟨none,0,?_,by rw [e];exact lRr,by omega,fun h=>absurd h (by omega)⟩;rw [e]
def GivesTr (S:Nat→Prop) (w:World) (n:Nat) (f:Pn n) (e:Ending) (w':World):Prop:=
 ∃s A k c B m d,e=.returned (treV s A k c B m d)∧TreW (fun b=>S b∨w.heap.size≤b) n w' (treV s A k c B m d) f∧Below w.heap.size w w'
theorem TreW.shape {S:Nat→Prop} {w:World}:∀{n:Nat} {v:Value} {f:Pn n},TreW S n w v f→∃s A k c B m d,v=treV s A k c B m d
 | 0,_,_,⟨s,A,k,c,_,h,_⟩=>⟨s,A,k,c,none,0,0,h⟩
 | _+1,_,_,⟨B,c,h,_⟩=>⟨false,none,0,0,B,_,c,h⟩
theorem RowK.bel {S:Nat→Prop} {n:Nat} {w w':World} {g:Nat→Pn n} {A:Option Addr} {m:Nat}(h:RowK S (fun i u=>TreW S n w u (g i)) w A m) (hb:Below w.heap.size w w'):RowK S (fun i u=>TreW S n w' u (g i)) w' A m:=
 h.imp (fun _ h=>h) hb.size (fun b j _ hl=>hb.cell (p:=⟨b,j,none⟩) hl) fun _ _ _ hv=>hv.bel hb
theorem RowK.le {S:Nat→Prop} {P:Nat→Value→Prop} {w:World} {A:Option Addr} {m k:Nat}(h:RowK S P w A m) (hk:k≤m):RowK S P w A k:=fun h0=>by
 obtain ⟨b,o,e,hb,hl,hk'⟩:=h (by omega)
 exact ⟨b,o,e,hb,hl,fun i hi=>hk' i (by omega)⟩
end Cl
namespace Cl
open Go Go.RowKit CRing
structure KE where
 s:Bool
 A:Option Addr
 k:Nat
 c:Nat
 B:Option Addr
 m:Nat
 d:Nat
def KE.v (e:KE):Value:=treV e.s e.A e.k e.c e.B e.m e.d
def kcell (e:KE):List Value:=[.bool e.s,.slice e.A e.k e.c,.slice e.B e.m e.d]
def kcells (L:List KE):List Value:=L.flatMap kcell
theorem kcells_cons (x:KE) (L:List KE):kcells (x::L)=kcell x++kcells L:=by simp [kcells]
theorem kcells_snoc (L:List KE) (x:KE):kcells (L++[x])=kcells L++kcell x:=by simp [kcells,List.flatMap_append]
theorem kcells_length (L:List KE):(kcells L).length=L.length*3:=by
 induction L with
 | nil=>rfl
 | cons x L ih=>rw [kcells_cons,List.length_append,ih,List.length_cons];show 3+_=_;omega
theorem kcells_get:∀{L:List KE} {i:Nat}(h:i<L.length),(kcells L)[i*3]? =some (.bool (L[i]).s)∧(kcells L)[i*3+1]? =some (.slice (L[i]).A (L[i]).k (L[i]).c)∧(kcells L)[i*3+2]? =some (.slice (L[i]).B (L[i]).m (L[i]).d)
 | x::L,0,_=>by rw [kcells_cons];exact ⟨rfl,rfl,rfl⟩
 | x::L,i+1,h=>by
   have ih:=kcells_get (L:=L) (i:=i) (Nat.lt_of_succ_lt_succ h);rw [kcells_cons];have hl:(kcell x).length=3:=rfl;rw [List.getElem?_append_right (by rw [hl];omega),List.getElem?_append_right (by rw [hl];omega),List.getElem?_append_right (by rw [hl];omega),hl,show (i+1)*3 - 3=i*3 by omega,show (i+1)*3+1 - 3=i*3+1 by omega,show (i+1)*3+2 - 3=i*3+2 by omega];exact ih
theorem own_onlyT {S:Nat→Prop} {w w':World} {base:Nat} {e:TypeId} {sz n:Nat} {v:Value} {xs:List Value}(h:w.ownsRow base e sz v n xs) (ho:Only S w w') (hv:∀k,v.ownBlock=some k→¬S k):w'.ownsRow base e sz v n xs:=by
 refine ⟨h.1,?_⟩
 rcases h.2 with hn | ⟨g,cap,cur,hvv,hg,hh,hc,hmx,hrest⟩
 · exact .inl hn
 · refine .inr ⟨g,cap,cur,hvv,hg,?_,hc,hmx,hrest⟩
   have hlt:=(Array.getElem?_eq_some_iff.1 hh).1;rw [ho.block g hlt (hv g (by rw [hvv];rfl))];exact hh
structure TOut (T:TypeId) (S X:Nat→Prop) (w0:World) (H:Nat) (wr:World) (n:Nat) (v:Value) (E:List KE) (g:Nat→Pn n):Prop where
 lo:w0.heap.size≤H
 own:wr.ownsRow H T 3 v E.length (kcells E)
 ok:∀i (h:i<E.length),TreW (fun b=>(S b∨w0.heap.size≤b)∧v.ownBlock≠some b∧¬X b) n wr (E[i]).v (g i)
 bel:Below w0.heap.size w0 wr
section
variable {T : TypeId} {S X : Nat → Prop} {w0 wr wt : World} {H n : Nat} {v : Value} {E : List KE} {g : Nat → Pn n}
theorem TOut.start (T:TypeId) (S X:Nat→Prop) (g:Nat→Pn n) (h:Below w0.heap.size w0 wr) (hH:w0.heap.size≤H):TOut T S X w0 H wr n (.slice none 0 0) [] g:=
 ⟨hH,World.ownsRow_nil _ _ _ _,fun i h=>absurd h (Nat.not_lt_zero i),h⟩
theorem TOut.bel2 (h:TOut T S X w0 H wr n v E g) (hb:Below wr.heap.size wr wt):TOut T S X w0 H wt n v E g:=
 ⟨h.lo,own_onlyT h.own (Only.of_below hb) fun k hk hq=>by have:=(h.own.lt k hk).2;omega,fun i hi=>(h.ok i hi).bel hb,h.bel.tm hb⟩
theorem TOut.box (h:TOut T S X w0 H wr n v E g) (ho:Only X wr wt) (hX:∀b,X b→w0.heap.size≤b∧b<H):TOut T S X w0 H wt n v E g:=
 ⟨h.lo,own_onlyT h.own ho fun k hk hq=>by have h1:=(hX k hq).2;have h2:=(h.own.lt k hk).1;omega,fun i hi=>(h.ok i hi).only ho (fun b hb hq=>hb.2.2 hq) fun b hb=>hb,h.bel.trans (ho.below h.bel.size fun b hb=>(hX b hb).1)⟩
theorem TOut.next {w2 w3:World} {gg cap H2:Nat} {x:KE} {o:Obj}(h:TOut T S X w0 H wr n v E g) (hS:∀b,S b→b<w0.heap.size) (hX:∀b,X b→w0.heap.size≤b∧b<wr.heap.size) (hb2:Below wr.heap.size wr w2) (hx:TreW (fun b=>S b∨wr.heap.size≤b) n w2 x.v (g E.length))
 (hown:w3.ownsRow H T 3 (.slice (some ⟨gg,0,none⟩) (E.length+1) cap) (E.length+1) (kcells E++kcell x)) (hgr:(w2.alloc o).grownBy w3 v.ownBlock) (hat:v.ownBlock=some gg∨gg=H2) (hH:H2=w2.heap.size+1):TOut T S X w0 H w3 n (.slice (some ⟨gg,0,none⟩) (E.length+1) cap) (E++[x]) g:=by
 subst hH
 have hvb:∀k,v.ownBlock=some k→H≤k∧k<wr.heap.size:=fun k hk=>h.own.lt k hk
 have hlo:=h.lo
 have hs2:=hb2.size
 have b3:Below w2.heap.size w2 (w2.alloc o):=bRr.alloc lRr _
 have o3:Only (fun k=>v.ownBlock=some k) (w2.alloc o) w3:=(Only.of_grown hgr).mono (fun i hi=>by first | exact hi | exact hi.symm)
 have hgg:∀b,v.ownBlock≠some b→b<w2.heap.size→(Value.slice (some ⟨gg,0,none⟩) (E.length+1) cap).ownBlock≠some b:=fun b h1 h2 e=>by
  have e2:gg=b:=by injection e
  rcases hat with h3 | h3
  · exact h1 (by rw [h3,e2])
  · omega
 have all:∀{S':Nat→Prop} {u:Value} {f:Pn n},TreW S' n w2 u f→(∀b,S' b→b<w2.heap.size→(S b∨w0.heap.size≤b)∧v.ownBlock≠some b∧¬X b)→TreW (fun b=>(S b∨w0.heap.size≤b)∧(Value.slice (some ⟨gg,0,none⟩) (E.length+1) cap).ownBlock≠some b∧¬X b) n w3 u f:=fun {S' u f} hu hq=>by
  have h1:=hu.here;have h2:=h1.bel b3;exact h2.only o3 (fun b hb hk=>(hq b hb.1 hb.2).2.1 hk) fun b hb=>⟨(hq b hb.1 hb.2).1,hgg b (hq b hb.1 hb.2).2.1 hb.2,(hq b hb.1 hb.2).2.2⟩
 refine ⟨hlo,by rw [List.length_append,kcells_snoc];exact hown,fun i hi=> ?_,?_⟩
 · rw [List.length_append] at hi
   rcases Nat.lt_or_ge i E.length with hl | hl
   · have e:(E++[x])[i]'(by rw [List.length_append];exact hi)=E[i]:=List.getElem_append_left hl
     rw [e];exact all ((h.ok i hl).bel hb2) fun b hb _=>hb
   · have hi':i=E.length:=by
      have:[x].length=1:=rfl;omega
     subst hi';(have e:(E++[x])[E.length]'(by rw [List.length_append];exact hi)=x:=by simp);rw [e];refine all hx fun b hb hlt=> ?_;rcases hb with hb | hb
     · have:=hS b hb
       exact ⟨.inl hb,fun e2=>by have:=hvb b e2;omega,fun e2=>by have:=hX b e2;omega⟩
     · have:=h.bel.size
       exact ⟨.inr (by omega),fun e2=>by have:=hvb b e2;omega,fun e2=>by have:=hX b e2;omega⟩
 · have hb10:Below w0.heap.size w0 w2:=h.bel.tm hb2
   exact (hb10.alloc hb10.size o).grown hgr (by have:=hb10.size;simp;omega) (fun k hk=>Nat.le_trans hlo (hvb k hk).1)
theorem TOut.row (h:TOut T S X w0 H wr n v E g) (hX:∀b,X b→b<H):∃B d,v=.slice B E.length d∧E.length≤d∧d≤9223372036854775807∧RowK (fun b=>(S b∨w0.heap.size≤b)∧¬X b) (fun i u=>TreW (fun b=>(S b∨w0.heap.size≤b)∧¬X b) n wr u (g i)) wr B E.length:=by
 rcases h.own.2 with ⟨hv,h0⟩ | ⟨gg,cap,cur,hv,hg,hh,hc,hmx,hrest⟩
 · rw [h0]
   exact ⟨none,0,hv,lRr,by omega,fun hm=>absurd hm (by omega)⟩
 · refine ⟨_,cap,hv,by omega,by have:maxLen≤9223372036854775807:=by unfold maxLen;omega
                                omega,fun h0=>⟨gg,0,rfl,⟨.inr (Nat.le_trans h.lo hg),fun e=>by have:=hX _ e;omega⟩,(Array.getElem?_eq_some_iff.1 hh).1,fun i hi=> ?_⟩⟩
   have hk:=(h.ok i hi).mono (T:=fun b=>(S b∨w0.heap.size≤b)∧¬X b) fun b hb=>⟨hb.1,hb.2.2⟩;have ho:=h.own;subst hv;obtain ⟨t0,t1,t2⟩:=kcells_get hi;have c0:=ho.cells (g:=gg) rfl (i*3) _ t0;have c1:=ho.cells (g:=gg) rfl (i*3+1) _ t1;have c2:=ho.cells (g:=gg) rfl (i*3+2) _ t2;rw [Go.WideShapes.add_plain] at c0 c1 c2;exact ⟨_,_,_,_,_,_,_,c0,c1,c2,hk⟩
end
end Cl
namespace Cl
open Go Go.RowKit CRing
theorem kcells_set:∀(L:List KE) (i:Nat) (x:KE),i<L.length→kcells (L.set i x)=(((kcells L).set (i*3) (.bool x.s)).set (i*3+1) (.slice x.A x.k x.c)).set (i*3+2) (.slice x.B x.m x.d)
 | [],i,x,h=>absurd h (Nat.not_lt_zero i)
 | y::L,0,x,_=>rfl
 | y::L,i+1,x,h=>by
   have ih:=kcells_set L i x (Nat.lt_of_succ_lt_succ h);rw [List.set_cons_succ,kcells_cons,kcells_cons,ih,show (i+1)*3=i*3+1+1+1 by omega];rfl
def KE.nought:KE:=⟨false,none,0,0,none,0,0⟩
theorem kcells_noughts (m:Nat):kcells (List.replicate m KE.nought)=(List.replicate m [Value.bool false,.slice none 0 0,.slice none 0 0]).flatten:=by
 induction m with
 | zero=>rfl
 | succ m ih=>rw [List.replicate_succ,kcells_cons,ih,List.replicate_succ,List.flatten_cons];rfl
theorem own_set {w:World} {base:Nat} {e:TypeId} {size:Nat} {g n cap:Nat} {xs:List Value}(h:w.ownsRow base e size (.slice (some ⟨g,0,none⟩) n cap) n xs) (j:Nat) (u:Value):(w.setCell ⟨g,j,none⟩ u).ownsRow base e size (.slice (some ⟨g,0,none⟩) n cap) n (xs.set j u):=by
 refine ⟨by rw [List.length_set];exact h.1,?_⟩
 rcases h.2 with h2 | ⟨g',cap',cur,hv,h1,h2,h3,h4,h5,h6⟩
 · exact absurd h2.1 (by intro e;injection e with e;injection e)
 · have hv':=hv
   injection hv with e1 e2 e3
   injection e1 with e1
   injection e1 with e1
   subst e1;refine .inr ⟨g,cap',cur.setIfInBounds j u,hv',h1,?_,h3,h4,?_,?_⟩
   · simp [World.setCell,Array.getElem?_modify,h2]
   · rw [Array.size_setIfInBounds];exact h5
   · rw [Array.toList_setIfInBounds,List.take_set,h6]
theorem TOut.put {T:TypeId} {S X:Nat→Prop} {w0 wr:World} {H n gg cap:Nat} {E:List KE} {g:Nat→Pn n}(h:TOut T S X w0 H wr n (.slice (some ⟨gg,0,none⟩) E.length cap) E g) (hH:w0.heap.size≤gg) (i:Nat) (hi:i<E.length) (x:KE) (f:Pn n)
 (hx:TreW (fun b=>(S b∨w0.heap.size≤b)∧(Value.slice (some ⟨gg,0,none⟩) E.length cap).ownBlock≠some b∧¬X b) n wr x.v f):
 TOut T S X w0 H (((wr.setCell ⟨gg,i*3,none⟩ (.bool x.s)).setCell ⟨gg,i*3+1,none⟩ (.slice x.A x.k x.c)).setCell ⟨gg,i*3+2,none⟩ (.slice x.B x.m x.d)) n (.slice (some ⟨gg,0,none⟩) E.length cap) (E.set i x) (fun j=>if j=i then f else g j):=by
 have ho:Only (fun b=>b=gg) wr (((wr.setCell ⟨gg,i*3,none⟩ (.bool x.s)).setCell ⟨gg,i*3+1,none⟩ (.slice x.A x.k x.c)).setCell ⟨gg,i*3+2,none⟩ (.slice x.B x.m x.d)):=
  (((Only.refl (fun b=>b=gg) wr).setCell (p:=⟨gg,i*3,none⟩) rfl _).setCell (p:=⟨gg,i*3+1,none⟩) rfl _).setCell (p:=⟨gg,i*3+2,none⟩) rfl _
 have keep:∀{u:Value} {k:Pn n},TreW (fun b=>(S b∨w0.heap.size≤b)∧(Value.slice (some ⟨gg,0,none⟩) E.length cap).ownBlock≠some b∧¬X b) n wr u k→TreW (fun b=>(S b∨w0.heap.size≤b)∧(Value.slice (some ⟨gg,0,none⟩) E.length cap).ownBlock≠some b∧¬X b) n (((wr.setCell ⟨gg,i*3,none⟩ (.bool x.s)).setCell ⟨gg,i*3+1,none⟩ (.slice x.A x.k x.c)).setCell ⟨gg,i*3+2,none⟩ (.slice x.B x.m x.d)) u k:=fun hk=>
  hk.only ho (fun b hb e=>hb.2.1 (by rw [e];rfl)) fun b hb=>hb
 refine ⟨h.lo,?_,fun j hj=> ?_,h.bel.trans (ho.below h.bel.size fun b hb=>by omega)⟩
 · rw [List.length_set,kcells_set E i x hi]
   exact own_set (own_set (own_set h.own _ _) _ _) _ _
 · rw [List.length_set] at hj
   by_cases e:j=i
   · subst e
     rw [List.getElem_set_self,if_pos rfl];exact keep hx
   · rw [List.getElem_set_ne (fun h=>e h.symm),if_neg e]
     exact keep (h.ok j hj)
end Cl
