/- Contracts: a row less so many times another one. -/
import Derived.Test.YthpkpnpkkflfpaaFlinC
import Derived.Deep.RegionHeld3
import Derived.Deep.AppendLies
import Derived.Deep.DrawnRows
namespace Go.Proofs.Ythpkpnpkkflfpaa
open Go.RowKit Cl
attribute [local go_sem ↓] Go.wp_at_zero Go.wp_at_succ

theorem less_any (A B : Option Addr) (n c d : Nat) (xs ys : List Int) (k p : Int) (w : World) (hx : Ints w A n xs) (hy : Ints w B n ys) (hn : n * 8 ≤ 140737488351232)
    (hxb : ∀ i, 0 ≤ nth xs i ∧ nth xs i ≤ 65521) (hyb : ∀ i, 0 ≤ nth ys i ∧ nth ys i ≤ 65521) (hk : 0 ≤ k ∧ k ≤ 65521) (h3 : -9223372036854775808 ≤ p) (h4 : p ≤ 9223372036854775807) :
    Calls Try.prog 48 #[.slice A n c, .slice B n d, .int .i64 k, .int .i64 p] w (GivesInts 3 w n (lessRow n xs ys k p)) := by
  obtain ⟨i0, hi, hz0, hz1, hz2⟩ := info_parts int_info
  obtain ⟨hk1, hk2⟩ := hk
  have Hbd := Lib.hid (fun i => red_i64 (nth xs i - k * nth ys i) h3 h4)
  go_enter Try.func48, Try.ntmps48
  go_wp2
  go_loopw [9, 10] (fun v i wr => ∃ j : Nat, j ≤ n ∧ i = .int .i64 j ∧ wr.ownsRow w.heap.size 3 1 v j (ints (tab j (fun i => red (nth xs i - k * nth ys i) p))) ∧ Below w.heap.size w wr) (fun _ i _ => n - (intOf i).toNat)
  case atStart => exact ⟨0, by omega, rfl, World.ownsRow_nil _ _ _ _, Below.refl _ _⟩
  case round =>
    obtain ⟨j, hj, rfl, hown, hbel⟩ := hrel
    by_cases hlt : j < n
    · obtain ⟨b, o, rfl, hb, hc⟩ := hx.at_ (by omega)
      obtain ⟨b', o', rfl, hb', hc'⟩ := hy.at_ (by omega)
      have hck : wr.cell? ⟨b, o + j, none⟩ = some (.int .i64 (nth xs j)) := (hbel.cell (p := ⟨b, o + j, none⟩) hb).trans (hc j hlt)
      have hck' : wr.cell? ⟨b', o' + j, none⟩ = some (.int .i64 (nth ys j)) := (hbel.cell (p := ⟨b', o' + j, none⟩) hb').trans (hc' j hlt)
      have hlt' : (j : Int) < (n : Int) := by omega
      obtain ⟨l1, l2⟩ := hxb j
      obtain ⟨l3, l4⟩ := hyb j
      have hm1 : 0 ≤ k * nth ys j := Int.mul_nonneg hk1 l3
      have hm2 : k * nth ys j ≤ 65521 * 65521 := Int.mul_le_mul hk2 l4 l3 (by omega)
      have e1 : IntKind.i64.wrap (k * nth ys j) = k * nth ys j := IntWalk.i64_in _ (by omega)
      have e2 : IntKind.i64.wrap (nth xs j - k * nth ys j) = nth xs j - k * nth ys j := IntWalk.i64_in _ (by omega)
      have b1 : -9223372036854775808 ≤ nth xs j - k * nth ys j := by omega
      have b2 : nth xs j - k * nth ys j ≤ 9223372036854775807 := by omega
      go_wp2
      go_region_held3 (fun w' => w'.cell? ⟨b, o + j, none⟩ = some (.int .i64 (nth xs j)) ∧ w'.cell? ⟨b', o' + j, none⟩ = some (.int .i64 (nth ys j)))
        (first | go_keep | (have hb1 := below_app hbel hown hgrow hbel.size; exact ⟨(hb1.cell (p := ⟨b, o + j, none⟩) hb).trans (hc j hlt), (hb1.cell (p := ⟨b', o' + j, none⟩) hb').trans (hc' j hlt)⟩))
        (first
          | (go_at_call 29; refine (rred_any _ _ _ b1 b2 h3 h4).mono ?_; rintro e w' ⟨rfl, rfl⟩)
          | (refine step_append_lies _ (by rfl) _ _ _ (by rfl) w.heap.size 3 i0 _ 1 8 Try.underlying39 hi hz0 hz1 hz2 rfl (by omega) u9 j (ints (tab j (fun i => red (nth xs i - k * nth ys i) p))) (by rfl) ((hown.alloc _).drew) ⟨wr.heap.size, 0, none⟩ 1 1 [.int .i64 (red (nth xs j - k * nth ys j) p)] (by rfl) (by rfl) (World.news_of_block (cs := #[.int .i64 (red (nth xs j - k * nth ys j) p)]) (t := 3) (fr := (0, 0)) (heap_alloc_new wr _)) (by simp [Value.oneCell']) (by omega) (by unfold maxLen; omega) (by omega) (by have := hbel.size; simp; omega) (wr.heap.size + 1) (by simp) ?_; intro gg cap w1 hown1 hgrow hat hlt1))
      have hb1 := below_app hbel hown hgrow hbel.size
      have hown2 := hown1
      rw [ints_tab_succ j (fun i => red (nth xs i - k * nth ys i) p)] at hown2
      clear hgrow hat hown1 hown e1 e2
      go_wp2
      go_roundw
      case rel => exact ⟨j + 1, by omega, by go_num, hown2, hb1⟩
      case measure => simp [intOf]; omega
    · obtain rfl : j = n := by omega
      go_wp2
      go_ret
      exact GivesInts.of_own hown (tab_length _ _) (tab_i64 Hbd.out) hbel

end Go.Proofs.Ythpkpnpkkflfpaa
