/- Contract: mpoly.Var at two variables. -/
import Derived.Test.YtehcoffbiplphaaGreatPTj
set_option linter.unusedVariables false
set_option linter.unusedSimpArgs false
namespace Go.Proofs.YtehcoffbiplphaaGreat
open Go.RowKit Cl
attribute [local go_sem ↓] Go.wp_at_zero Go.wp_at_succ
set_option maxRecDepth 100000 in
theorem one_put (b n B:Nat) (p:Plc) (hp:GoodP n p) (s:Bool) (A:Option Addr) (k c:Nat) (ls:List Int) (W:World) (hm:W.ownsMap Tryz.prog 68 intEl b 0 (.map [])) (hL:Limbs W A k ls) (hk:k≤c) (hc:c≤9223372036854775807) (hB:k≤B):
 ∃w',(Instr.mapUpdate 63 (.map (some b)) (plcV p) (.agg #[.bool s,.slice A k c])).run Tryz.prog W=.ok () w'∧SumM w' b 1 n B [(p,intZ s ls)]∧Only (fun x=>x=b) W w':=by
 obtain ⟨w7,hrun7,hm7,hg7⟩:=hm.update plc_law Tryz.underlying63 (by unfold maxLen;omega) (keyOf_plc hp.len hp.i64) (intEl_mk s A k c)
 have o2:Only (fun x=>x=b) W w7:=(Only.of_grown hg7).mono (fun i hi=>by injection hi with hi;exact hi.symm)
 refine ⟨w7,hrun7,⟨_,hm7,?_⟩,o2⟩
 have h1:=(SumD.start w7 n B).put hp (v:=.agg #[.bool s,.slice A k c]) (t:=intZ s ls) ⟨s,A,k,c,ls,rfl,hk,hc,hB,limbs_map hL hm o2,by rw [coM_nil,Int.zero_add]⟩
 simpa using h1
end Go.Proofs.YtehcoffbiplphaaGreat
