import Derived.Test.YtehcoffbiplphaaGreatHZks
import Derived.Test.YtehcoffbiplphaaGreatHOpen
set_option linter.all false
set_option maxRecDepth 100000
namespace Go.Proofs.YtehcoffbiplphaaGreat
open Go.Proofs.Tryz
open Go.RowKit
variable {P:Program} {t:TypeId} {m:Nat}
def iO:WideMaps.ArrKey prog 68 3 6:=⟨underlying68,by kernel_rfl,by kernel_rfl,by kernel_rfl⟩
def yQ:Maps.Keyed prog 68:=Maps.Keyed.of_law iO.law
def GC (p:fI):Value:=.agg (ints p).toArray
def yP:∃m,(prog).types.size=m+1:=⟨(prog).types.size-1,by kernel_rfl⟩
def Xz {p:fI}(hl:p.length=6) (hp:∀x∈p,DX x):keyOf prog 68 (GC p)=some (bH p):=by
 match p,hl with
 | [a,b,c,d,e,f],_=>
   have wf:∀x∈ [a,b,c,d,e,f],(Lit.int .i64 x).wf=true:=fun x hx=>WalkArith.wf_i64 (by have:=hp x hx;exact this);have hkt:=iO.keyType yP;obtain ⟨m,hm⟩:=yP;show keyOf _ _ (.agg #[.int .i64 a,.int .i64 b,.int .i64 c,.int .i64 d,.int .i64 e,.int .i64 f])=_;unfold keyOf;simp only [iO.hu];rw [aM (by simp [hkt,Value.formed,iO.hu,iO.size]),hm];unfold Program.keyLits;simp only [iO.hu,Value.cells];rw [aM (by rw [iO.size];rfl),show List.range 6=[0,1,2,3,4,5] from rfl];simp [iO.one,Program.keyLits,underlying3,wf,bH]
structure ZIn where
 s:Bool
 A:Option Addr
 k:Nat
 c:Nat
def mkZ (x:ZIn):Value:=.agg #[.bool x.s,.slice x.A x.k x.c]
def Vm (v:Value) (y:DataW Value×List MemPlace) (h:mZ v=some y):∃x,v=mkZ x:=by
 obtain ⟨s,A,k,c,rfl,_⟩:=LK h;exact ⟨⟨s,A,k,c⟩,rfl⟩
def um (hu:P.underlying t=some (.int .i64)) {v:Value} {ls:List Lit}(h:P.keyLits (m+1) t [v]=some ls):∃x:Int,v=.int .i64 x:=by
 unfold Program.keyLits at h;cases v with
 | int q x=>
   simp only [hu] at h;by_cases e:q=.i64
   . exact ⟨x,by rw [e]⟩
   . rw [aY (fun h=>e h.1)] at h
     cases h
 | _=>simp [hu] at h
def O7 (key:Value) (kl:Lit) (h:keyOf prog 68 key=some kl):∃p:fI,key=GC p:=by
 unfold keyOf at h;simp only [iO.hu] at h;split at h
 . next hf=>
   cases key with
   | agg cs=>
     obtain ⟨l⟩:=cs;have h6:l.length=6:=by
      have:=hf;simp [Value.formed,iO.hu,iO.size] at this;exact this.2
     match l,h6 with
     | [a,b,c,d,e,f],_=>
       obtain ⟨m,hm⟩:=yP;rw [hm] at h;unfold Program.keyLits at h;simp only [iO.hu,Value.cells] at h;rw [aM (by rw [iO.size];rfl),show List.range 6=[0,1,2,3,4,5] from rfl] at h;simp only [List.mapM_cons,List.mapM_nil,iO.one,bind,adB,pure,adA] at h;obtain ⟨_,⟨_,⟨l0,h0,_,⟨l1,h1,_,⟨l2,h2,_,⟨l3,h3,_,⟨l4,h4,_,⟨l5,h5,_⟩,_⟩,_⟩,_⟩,_⟩,_⟩,_⟩,_⟩:=h;obtain ⟨x0,rfl⟩:=um underlying3 h0;obtain ⟨x1,rfl⟩:=um underlying3 h1;obtain ⟨x2,rfl⟩:=um underlying3 h2;obtain ⟨x3,rfl⟩:=um underlying3 h3;obtain ⟨x4,rfl⟩:=um underlying3 h4;obtain ⟨x5,rfl⟩:=um underlying3 h5;exact ⟨[x0,x1,x2,x3,x4,x5],rfl⟩
   | _=>simp [Value.formed,iO.hu] at hf
 . cases h
def rq (hu:P.underlying t=some (.int .i64)) {x:Int} {ls:List Lit}(h:P.keyLits (m+1) t [.int .i64 x]=some ls):DX x∧ls=[.int .i64 x]:=by
 unfold Program.keyLits at h;simp only [hu] at h;split at h
 . next hc=>
   refine ⟨?_,?_⟩
   . have:=hc.2
     exact LL (by simpa using this)
   . injection h with h
     exact h.symm
 . cases h
def Zz {p:fI} {kl:Lit}(h:keyOf prog 68 (GC p)=some kl):p.length=6∧(∀x∈p,DX x)∧kl=bH p:=by
 unfold keyOf at h;simp only [iO.hu] at h;split at h
 . next hf=>
   have h6:p.length=6:=by
    have:=hf;simp [GC,ints,Value.formed,iO.hu,iO.size] at this;exact this.2
   match p,h6 with
   | [a,b,c,d,e,f],_=>
     obtain ⟨m,hm⟩:=yP;rw [hm] at h;unfold Program.keyLits at h;simp only [iO.hu,Value.cells,GC,ints] at h;rw [aM (by rw [iO.size];rfl),show List.range 6=[0,1,2,3,4,5] from rfl] at h;simp only [List.mapM_cons,List.mapM_nil,iO.one,bind,adB,pure,adA] at h;obtain ⟨_,⟨_,⟨l0,h0,_,⟨l1,h1,_,⟨l2,h2,_,⟨l3,h3,_,⟨l4,h4,_,⟨l5,h5,e5⟩,e4⟩,e3⟩,e2⟩,e1⟩,e0⟩,e6⟩,e7⟩:=h;obtain ⟨i0,rfl⟩:=rq underlying3 h0;obtain ⟨i1,rfl⟩:=rq underlying3 h1;obtain ⟨i2,rfl⟩:=rq underlying3 h2;obtain ⟨i3,rfl⟩:=rq underlying3 h3;obtain ⟨i4,rfl⟩:=rq underlying3 h4;obtain ⟨i5,rfl⟩:=rq underlying3 h5;refine ⟨rfl,fun x hx=> ?_,?_⟩
     . simp only [iH,lD,yB] at hx
       rcases hx with rfl | rfl | rfl | rfl | rfl | rfl<;>assumption
     . obtain ⟨_,e8,e5⟩:=e5
       injection e8 with e8
       subst e8;injection e5 with e5
       subst e5;injection e4 with e4
       subst e4;injection e3 with e3
       subst e3;injection e2 with e2
       subst e2;injection e1 with e1
       subst e1;injection e0 with e0
       subst e0;subst e6;rw [<- e7];rfl
 . cases h
