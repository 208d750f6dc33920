import Derived.Test.YtehcoffbiplphaaGreatHOpen
import Derived.Test.YtehcoffbiplphaaGreatHTrms
set_option linter.all false
namespace Go.Proofs.YtehcoffbiplphaaGreat
open Go.ChangeShapes Go.WideShapes Go.ChangeAt Go.RowKit Go.Deep
section
variable {H : Type} {enc : TypeId × Value -> H} {P : Program} {W : World} {base : Nat}
def KC {t te:TypeId} {fuel:Nat} {v:Value} {x:DataW H×List MemPlace}(ht:P.underlying t=some (.slice te)) (he:P.underlying te=some (.int .u64)) (hc:P.cellsOf te=1)
 (h:DataW.trod enc P W 0 (fun _=>true) true fuel t [v]=some x):∃B k c ls,v=.slice B k c∧aD W B k ls∧k<=c∧c<=9223372036854775807:=by
 rcases open_ints ht he hc h with ⟨hcs,_⟩ | ⟨a,len,cap,zs,hcs,_,mj,hm,hz,_,hcell,hwf⟩
 . simp at hcs
   subst hcs;exact ⟨none,0,0,[],rfl,aD.nil _ _,by omega,by omega⟩
 . simp at hcs
   subst hcs;simp only [tH] at hz;refine ⟨some a,len,cap,zs.take len,rfl,⟨by rw [cQ];omega,fun hn=> ?_,fun i=> ?_⟩,mj,by unfold maxLen at hm;omega⟩
   . obtain ⟨b,off,rfl,hcc⟩:=ints_at hcell (by omega)
     refine ⟨b,off,rfl,ze (hcc 0 (by omega)),fun i hi=> ?_⟩;rw [hcc i (by omega)];congr 2
     unfold nth;simp [List.getD,hi]
   . by_cases hi:i<(zs.take len).length
     . have:=bounds_u64 (hwf _ (uU (gL hi)))
       omega
     . rw [bw (by omega)];omega
def Mx {t te:TypeId} {fuel:Nat} {v:Value} {x:DataW H×List MemPlace}(ht:P.underlying t=some (.slice te)) (he:P.underlying te=some (.int .i64)) (hc:P.cellsOf te=1)
 (h:DataW.trod enc P W 0 (fun _=>true) true fuel t [v]=some x):∃B k c xs,v=.slice B k c∧Ints W B k xs∧k<=c∧c<=9223372036854775807:=by
 rcases open_ints ht he hc h with ⟨hcs,_⟩ | ⟨a,len,cap,zs,hcs,_,mj,hm,hz,_,hcell,hwf⟩
 . simp at hcs
   subst hcs;exact ⟨none,0,0,[],rfl,⟨rfl,fun h=>absurd h (by omega),fun i=>by rw [bw (by simp)];exact DX.zero⟩,by omega,by omega⟩
 . simp at hcs
   subst hcs;simp only [tH] at hz;refine ⟨some a,len,cap,zs.take len,rfl,⟨by rw [cQ];omega,fun hn=> ?_,fun i=> ?_⟩,mj,by unfold maxLen at hm;omega⟩
   . obtain ⟨b,off,rfl,hcc⟩:=ints_at hcell (by omega)
     refine ⟨b,off,rfl,ze (hcc 0 (by omega)),fun i hi=> ?_⟩;rw [hcc i (by omega)];congr 2
     unfold nth;simp [List.getD,hi]
   . by_cases hi:i<(zs.take len).length
     . exact LL (hwf _ (uU (gL hi)))
     . rw [bw (by omega)];exact DX.zero
def SL {t e:TypeId} {f0 f1 g0 g1:Field} {tu ti:TypeId} {v:Value} {d:DataW H} {p:List MemPlace}(ht:P.underlying t=some (.slice e)) (he:P.underlying e=some (.struct #[f0,f1])) (ce:P.cellsOf e=3)
 (o0:f0.offset=0) (o1:f1.offset=2) (c0:P.cellsOf f0.type=2) (c1:P.cellsOf f1.type=1)
 (hz:P.underlying f0.type=some (.struct #[g0,g1])) (p0:g0.offset=0) (p1:g1.offset=1) (d0:P.cellsOf g0.type=1) (d1:P.cellsOf g1.type=1)
 (hb:P.underlying g0.type=some .bool) (hl:P.underlying g1.type=some (.slice tu)) (hu:P.underlying tu=some (.int .u64)) (cu:P.cellsOf tu=1)
 (hE:P.underlying f1.type=some (.slice ti)) (hi:P.underlying ti=some (.int .i64)) (ci:P.cellsOf ti=1)
 (hv:Value.okWide P W .any base t v) (h:DataW.Trod enc P W 0 (fun _=>true) true t v d p):
 ∃A m c L,v=.slice A m c∧iI W A m L∧m<=c∧c<=9223372036854775807:=by
 obtain ⟨a0,len,cap,rfl⟩:=okWide_slice ht hv;obtain ⟨fuel,hf⟩:=h;rcases open_slice ht hf with ⟨hcs,_⟩ | ⟨a,len',cap',m,n,D,Pl,hcs,_,mj,hm,hmm,_,hx⟩
 . simp [Value.cells] at hcs
   obtain ⟨rfl,rfl,rfl⟩:=hcs;exact ⟨none,0,0,[],rfl,iI.nil _ _,by omega,by omega⟩
 . simp [Value.cells] at hcs
   obtain ⟨rfl,rfl,rfl⟩:=hcs;have uG:len<=m:=by rw [hmm];simp;exact mj
   have each:∀i:Fin len,∃q:Bool×(Option Addr×Nat×Nat×List Int)×(Option Addr×Nat×Nat×List Int),W.cell? ((a.add (i.val*3)))=some (.bool q.1)∧W.cell? ((a.add (i.val*3+1)))=some (.slice q.2.1.1 q.2.1.2.1 q.2.1.2.2.1)∧W.cell? ((a.add (i.val*3+2)))=some (.slice q.2.2.1 q.2.2.2.1 q.2.2.2.2.1)∧aD W q.2.1.1 q.2.1.2.1 q.2.1.2.2.2∧q.2.1.2.1<=q.2.1.2.2.1∧q.2.1.2.2.1<=9223372036854775807∧Ints W q.2.2.1 q.2.2.2.1 q.2.2.2.2.2∧q.2.2.2.1<=q.2.2.2.2.1∧q.2.2.2.2.1<=9223372036854775807:=fun i=>by
    obtain ⟨cs',h1,h2⟩:=hx i.val (by have:=i.isLt;omega);rw [ce] at h1;obtain ⟨_,hlen,hcell⟩:=World.cells?_some h1;obtain ⟨xs,k,_,_,_,kR,hfl⟩:=DataW.trod_struct he h2;match xs,kR,cs',hlen with
    | [y0,y1],_,[v0,v1,v2],_=>
      have g0':=hfl 0 f0 rfl;have g1':=hfl 1 f1 rfl;simp [o0,o1,c0,c1] at g0' g1';obtain ⟨ys,k2,_,_,_,wM,aqR⟩:=DataW.trod_struct hz g0';match ys,wM with
      | [z0,z1],_=>
        have u0:=aqR 0 g0 rfl;have u1:=aqR 1 g1 rfl;simp [p0,p1,d0,d1] at u0 u1;obtain ⟨b,eb,_⟩:=DataW.trod_bool hb u0;simp at eb;subst eb;obtain ⟨B,kk,c,ls,rfl,hL,S1,zP⟩:=KC hl hu cu u1;obtain ⟨E,j,q,xs,rfl,hI,Gd,hj2⟩:=Mx hE hi ci g1';have e0:=hcell 0 (by omega);have e1:=hcell 1 (by omega);have e2:=hcell 2 (by omega);rw [add_add] at e0 e1 e2;exact ⟨(b,(B,kk,c,ls),(E,j,q,xs)),by simpa using e0,by simpa using e1,by simpa using e2,hL,S1,zP,hI,Gd,hj2⟩
   obtain ⟨q,hq⟩:=Classical.axiomOfChoice each;refine ⟨some a,len,cap,List.ofFn fun i=>(((q i).1,(q i).2.1.2.2.2),(q i).2.2.2.2.2),rfl,⟨by rw [List.length_ofFn],fun hn=> ?_⟩,mj,by unfold maxLen at hm;omega⟩;have hspot:∃b off,a=⟨b,off,none⟩:=by
    obtain ⟨b,off,spot⟩:=a;have h0:=(hq ⟨0,hn⟩).1;(have:spot=none:=by simpa [Addr.add] using Tz h0);subst this;exact ⟨b,off,rfl⟩
   obtain ⟨b,off,rfl⟩:=hspot;refine ⟨b,off,rfl,?_,fun i V6=> ?_⟩
   . have h0:=(hq ⟨0,hn⟩).1
     rw [j5] at h0;exact ze h0
   . have yz:i<len:=by rw [List.length_ofFn] at V6;exact V6
     obtain ⟨k0,k1,k2,k3,k4,k5,k6,k7,k8⟩:=hq ⟨i,yz⟩;rw [List.getElem_ofFn];rw [j5] at k0 k1 k2;simp only [aq i 3] at k0 k1 k2;have l1:=k3.len;have l2:=k6.len;refine ⟨(q ⟨i,yz⟩).2.1.1,(q ⟨i,yz⟩).2.1.2.2.1,(q ⟨i,yz⟩).2.2.1,(q ⟨i,yz⟩).2.2.2.2.1,k0,?_,?_,?_,k5,?_,k8,?_,?_⟩
     . show W.cell? _=some (.slice _ (q ⟨i,yz⟩).2.1.2.2.2.length _)
       rw [l1];exact k1
     . show W.cell? _=some (.slice _ (q ⟨i,yz⟩).2.2.2.2.2.length _)
       rw [l2];exact k2
     . show (q ⟨i,yz⟩).2.1.2.2.2.length<=_
       rw [l1];exact k4
     . show (q ⟨i,yz⟩).2.2.2.2.2.length<=_
       rw [l2];exact k7
     . show aD W _ (q ⟨i,yz⟩).2.1.2.2.2.length (q ⟨i,yz⟩).2.1.2.2.2
       rw [l1];exact k3
     . show Ints W _ (q ⟨i,yz⟩).2.2.2.2.2.length (q ⟨i,yz⟩).2.2.2.2.2
       rw [l2];exact k6
