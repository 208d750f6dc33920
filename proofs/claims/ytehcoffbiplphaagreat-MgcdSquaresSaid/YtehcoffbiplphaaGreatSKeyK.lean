/- A map by places: the law of its keys.
   A map by places: which values are keys, which are elements; what a key reads as. -/
import Derived.Test.YtehcoffbiplphaaGreatSZks
import Derived.WideKeyPair
import Derived.Maps.Own
import Derived.Test.YtehcoffbiplphaaGreatSOpen
set_option linter.unusedVariables false
set_option linter.unusedSimpArgs false
set_option maxRecDepth 100000
namespace Go.Proofs.YtehcoffbiplphaaGreat
open Go.RowKit Cl
theorem plc_arr:WideMaps.ArrKey Tryz.prog 68 3 6:=⟨Tryz.underlying68,by kernel_rfl,by kernel_rfl,by kernel_rfl⟩
theorem plc_law:Maps.Keyed Tryz.prog 68:=Maps.Keyed.of_law plc_arr.law
def plcV (p:Plc):Value:=.agg (ints p).toArray
theorem plc_types:∃m,(Tryz.prog).types.size=m+1:=⟨(Tryz.prog).types.size - 1,by kernel_rfl⟩
theorem keyOf_plc {p:Plc}(hl:p.length=6) (hp:∀x∈p,I64 x):keyOf Tryz.prog 68 (plcV p)=some (plcLit p):=by
 match p,hl with
 | [a,b,c,d,e,f],_=>
   have wf:∀x∈ [a,b,c,d,e,f],(Lit.int .i64 x).wf=true:=fun x hx=>WalkArith.wf_i64 (by have:=hp x hx;exact this);have hkt:=plc_arr.keyType plc_types;obtain ⟨m,hm⟩:=plc_types;show keyOf _ _ (.agg #[.int .i64 a,.int .i64 b,.int .i64 c,.int .i64 d,.int .i64 e,.int .i64 f])=_;unfold keyOf;simp only [plc_arr.hu];rw [if_pos (by simp [hkt,Value.formed,plc_arr.hu,plc_arr.size]),hm];unfold Program.keyLits;simp only [plc_arr.hu,Value.cells];rw [if_pos (by rw [plc_arr.size];rfl),show List.range 6=[0,1,2,3,4,5] from rfl];simp [plc_arr.one,Program.keyLits,Tryz.underlying3,wf,plcLit]
end Go.Proofs.YtehcoffbiplphaaGreat
namespace Go.Proofs.YtehcoffbiplphaaGreat
open Go.RowKit Cl
structure ZIn where
 s:Bool
 A:Option Addr
 k:Nat
 c:Nat
def mkZ (x:ZIn):Value:=.agg #[.bool x.s,.slice x.A x.k x.c]
theorem mkZ_inv (v:Value) (y:DataW Value×List MemPlace) (h:intEl v=some y):∃x,v=mkZ x:=by
 obtain ⟨s,A,k,c,rfl,_⟩:=intEl_inv h
 exact ⟨⟨s,A,k,c⟩,rfl⟩
theorem lits_int {P:Program} {t:TypeId}(hu:P.underlying t=some (.int .i64)) {m:Nat} {v:Value} {ls:List Lit}(h:P.keyLits (m+1) t [v]=some ls):∃x:Int,v=.int .i64 x:=by
 unfold Program.keyLits at h
 cases v with
 | int q x=>
   simp only [hu] at h;by_cases e:q=.i64
   · exact ⟨x,by rw [e]⟩
   · rw [if_neg (fun h=>e h.1)] at h
     cases h
 | _=>simp [hu] at h
theorem plcV_inv (key:Value) (kl:Lit) (h:keyOf Tryz.prog 68 key=some kl):∃p:Plc,key=plcV p:=by
 unfold keyOf at h
 simp only [plc_arr.hu] at h
 split at h
 · next hf=>
   cases key with
   | agg cs=>
     obtain ⟨l⟩:=cs;have h6:l.length=6:=by
      have:=hf;simp [Value.formed,plc_arr.hu,plc_arr.size] at this;exact this.2
     match l,h6 with
     | [a,b,c,d,e,f],_=>
       obtain ⟨m,hm⟩:=plc_types;rw [hm] at h;unfold Program.keyLits at h;simp only [plc_arr.hu,Value.cells] at h;rw [if_pos (by rw [plc_arr.size];rfl),show List.range 6=[0,1,2,3,4,5] from rfl] at h;simp only [List.mapM_cons,List.mapM_nil,plc_arr.one,bind,Option.bind_eq_some_iff,pure,Option.map_eq_some_iff] at h;obtain ⟨_,⟨_,⟨l0,h0,_,⟨l1,h1,_,⟨l2,h2,_,⟨l3,h3,_,⟨l4,h4,_,⟨l5,h5,_⟩,_⟩,_⟩,_⟩,_⟩,_⟩,_⟩,_⟩:=h;obtain ⟨x0,rfl⟩:=lits_int Tryz.underlying3 h0;obtain ⟨x1,rfl⟩:=lits_int Tryz.underlying3 h1;obtain ⟨x2,rfl⟩:=lits_int Tryz.underlying3 h2;obtain ⟨x3,rfl⟩:=lits_int Tryz.underlying3 h3;obtain ⟨x4,rfl⟩:=lits_int Tryz.underlying3 h4;obtain ⟨x5,rfl⟩:=lits_int Tryz.underlying3 h5;exact ⟨[x0,x1,x2,x3,x4,x5],rfl⟩
   | _=>simp [Value.formed,plc_arr.hu] at hf
 · cases h
theorem lits_int2 {P:Program} {t:TypeId}(hu:P.underlying t=some (.int .i64)) {m:Nat} {x:Int} {ls:List Lit}(h:P.keyLits (m+1) t [.int .i64 x]=some ls):I64 x∧ls=[.int .i64 x]:=by
 unfold Program.keyLits at h
 simp only [hu] at h
 split at h
 · next hc=>
   refine ⟨?_,?_⟩
   · have:=hc.2
     exact i64_of_wf (by simpa using this)
   · injection h with h
     exact h.symm
 · cases h
theorem plcV_key {p:Plc} {kl:Lit}(h:keyOf Tryz.prog 68 (plcV p)=some kl):p.length=6∧(∀x∈p,I64 x)∧kl=plcLit p:=by
 unfold keyOf at h
 simp only [plc_arr.hu] at h
 split at h
 · next hf=>
   have h6:p.length=6:=by
    have:=hf;simp [plcV,ints,Value.formed,plc_arr.hu,plc_arr.size] at this;exact this.2
   match p,h6 with
   | [a,b,c,d,e,f],_=>
     obtain ⟨m,hm⟩:=plc_types;rw [hm] at h;unfold Program.keyLits at h;simp only [plc_arr.hu,Value.cells,plcV,ints] at h;rw [if_pos (by rw [plc_arr.size];rfl),show List.range 6=[0,1,2,3,4,5] from rfl] at h;simp only [List.mapM_cons,List.mapM_nil,plc_arr.one,bind,Option.bind_eq_some_iff,pure,Option.map_eq_some_iff] at h;obtain ⟨_,⟨_,⟨l0,h0,_,⟨l1,h1,_,⟨l2,h2,_,⟨l3,h3,_,⟨l4,h4,_,⟨l5,h5,e5⟩,e4⟩,e3⟩,e2⟩,e1⟩,e0⟩,e6⟩,e7⟩:=h;obtain ⟨i0,rfl⟩:=lits_int2 Tryz.underlying3 h0;obtain ⟨i1,rfl⟩:=lits_int2 Tryz.underlying3 h1;obtain ⟨i2,rfl⟩:=lits_int2 Tryz.underlying3 h2;obtain ⟨i3,rfl⟩:=lits_int2 Tryz.underlying3 h3;obtain ⟨i4,rfl⟩:=lits_int2 Tryz.underlying3 h4;obtain ⟨i5,rfl⟩:=lits_int2 Tryz.underlying3 h5;refine ⟨rfl,fun x hx=> ?_,?_⟩
     · simp only [List.mem_cons,List.not_mem_nil,or_false] at hx
       rcases hx with rfl | rfl | rfl | rfl | rfl | rfl<;>assumption
     · obtain ⟨_,e8,e5⟩:=e5
       injection e8 with e8
       subst e8;injection e5 with e5
       subst e5;injection e4 with e4
       subst e4;injection e3 with e3
       subst e3;injection e2 with e2
       subst e2;injection e1 with e1
       subst e1;injection e0 with e0
       subst e0;subst e6;rw [← e7];rfl
 · cases h
end Go.Proofs.YtehcoffbiplphaaGreat
