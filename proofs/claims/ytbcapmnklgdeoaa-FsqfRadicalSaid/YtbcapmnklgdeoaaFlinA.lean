/- Contracts of the matrices' least functions. -/
import Derived.Test.YtbcapmnklgdeoaaFpAll
import Derived.Test.YtbcapmnklgdeoaaPolyB
namespace Go.Proofs.Ytbcapmnklgdeoaa
open Go.RowKit Cl

theorem int_info : (Try.prog.info? 3).map (fun i => (i.zero, i.size, i.bytes)) = some (some (.int .i64 0), 1, 8) := by kernel_rfl
theorem make_ints (n : Nat) (hn : n * 8 ≤ 281474976710656) (w : World) :
    (Instr.makeSlice 22 (.int .i64 (n : Int)) (.int .i64 (n : Int))).run Try.prog w = .ok (.slice (some ⟨w.heap.size, 0, none⟩) n n) (w.alloc (.cells (ints (List.replicate n 0)).toArray 3)) := by
  obtain ⟨i0, hi, hz, hs, hb⟩ := info_parts int_info
  exact run_make_ints Try.underlying22 hi hz hs hb n hn w

end Go.Proofs.Ytbcapmnklgdeoaa
