import Derived.Test.YtehcoffbiplphaaGreatHReg
set_option linter.all false
namespace Go.Proofs.YtehcoffbiplphaaGreat
def fx {α:Type}:(∀(l:List α) (i:Nat) (h:i<l.toArray.size),l.toArray[i]=l[i]'(by simpa using h))∧(∀(a:α) (l:List α) (i:Nat) (h:i+1<(a::l).length),(a::l)[i+1]=l[i]'(by simpa using h))∧(∀(a:α) (l:List α) (h:0<(a::l).length),(a::l)[0]=a)∧(∀(l:List α) (i:Nat) (a:α),l.toArray.setIfInBounds i a=(l.set i a).toArray)∧(∀(a b:α) (l:List α),(a::l).set 0 b=b::l)∧∀(a b:α) (l:List α) (n:Nat),(a::l).set (n+1) b=a::l.set n b:=
 ⟨fun _ _ _=>rfl,fun _ _ _ _=>rfl,fun _ _ _=>rfl,fun _ _ _=>List.setIfInBounds_toArray ..,fun _ _ _=>rfl,fun _ _ _ _=>rfl⟩
def aoG (md:Region.Mode) (ops:Array Oper) (listed:Array Bool) (z i:Nat):Bool:=Region.noSelect ops && Region.free md ops listed i && (Region.ready md ops listed).contains i && waits md ops z i
def tk {P:Program} {ops:Array Oper} {Q:Exit->Act->World->Prop} {md:Region.Mode} {S:World->Prop}(z i:Nat) (v:Value) {oi:Oper} {fuel:Nat} {listed:Array Bool} {a:Act} {w:World}(hi:ops[i]? =some oi) (hS:S w) (h:lN P md ops Q S z fuel (listed.setIfInBounds i true) (a.put oi.dst v) w) (hc:aoG md ops listed z i=true:=by kernel_rfl) (hw:Region.wanted oi (yielded ops a.tmps)=true:=by rfl) (hQ:∀c a w,Q (.panic c) (a.put oi.dst v) w->Q (.panic c) a w:=by exact fun _ _ _ h=>h) (hy:∀w,S w->(execOp a.eval oi).run P w=.ok (.value v) w:=by intro w hS;(try dsimp only at hS);go_simp):lN P md ops Q S z (fuel+1) listed a w:=by
 simp only [aoG,wY] at hc;exact OQ z i hi hc.1.1.1 hc.1.1.2 hc.1.2 hc.2 hQ (.inl ⟨hw,hy⟩) hS h
