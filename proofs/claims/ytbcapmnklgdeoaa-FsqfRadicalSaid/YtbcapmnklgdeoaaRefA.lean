/- Contracts: the document's plain polynomials. -/
import Derived.Test.YtbcapmnklgdeoaaGiv
namespace Go.Proofs.Ytbcapmnklgdeoaa
open Go.RowKit Cl
attribute [local go_sem ↓] Go.wp_at_zero Go.wp_at_succ

theorem _root_.Cl.RowA.pre {w : World} {g cap : Nat} {t : TypeId} {xs : List Int} (h : RowA w g t cap xs) {m : Nat} (hm : m ≤ xs.length) : RowA w g t cap (xs.take m) := by
  obtain ⟨cur, h1, h2, h3, h4, h5⟩ := h
  have hl : (xs.take m).length = m := by rw [List.length_take]; omega
  refine ⟨cur, h1, h2, h3, by rw [hl]; omega, ?_⟩
  rw [hl, show m = min m xs.length by omega, ← List.take_take, h5]
  simp [ints, List.map_take, show min m xs.length = m by omega]

section
variable {q : Prm}
theorem GivesP.later {w0 w w' : World} {a : Poly (Zp q)} {e : Ending} (h : GivesP w a e w') (hb : Below w0.heap.size w0 w) : GivesP w0 a e w' := by
  obtain ⟨A, c, he, hn⟩ := h
  exact ⟨A, c, he, newInts_sooner hn hb⟩
end
theorem _root_.Cl.NewInts.blk {t : TypeId} {w w' : World} {A : Option Addr} {c n : Nat} {ys : List Int} (h : NewInts t w w' A c n ys) (x : Addr) (hx : A = some x) : w.heap.size ≤ x.block := by
  rcases h.own.2 with ⟨hv, _⟩ | ⟨g, cap, cur, hv, hg, _⟩
  · injection hv with h1; rw [h1] at hx; cases hx
  · injection hv with h1; rw [h1] at hx; cases hx; exact hg
theorem _root_.Cl.Ints.other {w : World} {A : Option Addr} {n : Nat} {xs : List Int} (h : Ints w A n xs) {p : Addr} (hp : ∀ x, A = some x → x.block ≠ p.block) (u : Value) : Ints (w.setCell p u) A n xs :=
  ⟨h.len, fun hn => by
    obtain ⟨b, o, e, hb, hc⟩ := h.at_ hn
    refine ⟨b, o, e, by simpa [World.setCell] using hb, fun i hi => ?_⟩
    rw [World.cell?_setCell_other w p ⟨b, o + i, none⟩ u (fun e2 => hp _ e (by rw [e2]))]
    exact hc i hi, h.ok⟩

set_option maxRecDepth 100000 in
theorem qplain_any (A : Option Addr) (n c : Nat) (xs : List Int) (p : Int) (w : World) (hp : Pr p) (hx : Ints w A n xs) (hn : n * 8 ≤ 140737488355328) :
    Calls Try.prog 44 #[.slice A n c, .int .i64 p] w (GivesP w (toP ⟨p, hp⟩ xs)) := by
  obtain ⟨i0, hi, hz0, hz1, hz2⟩ := info_parts int_info
  have hp1 := hp.two
  have hp2 := hp.max
  have hcan : Hid (tab (plen (fun i => red (nth xs i) p) n) (fun i => red (nth xs i) p) = fromP (toP ⟨p, hp⟩ xs)) := by
    show _ = _
    rw [← canon_toP (q := ⟨p, hp⟩) xs, hx.len]; rfl
  have hi64 : Hid (∀ i, I64 (red (nth xs i) p)) := fun i => by have := red_bd (nth xs i) (p := p) (by omega); exact I64.small this.1 (by omega)
  go_enter Try.func44, Try.ntmps44
  go_wp2
  go_loopw [5, 6] (fun v i wr => ∃ k : Nat, k ≤ n ∧ i = .int .i64 k ∧ wr.ownsRow w.heap.size 3 1 v k (ints (tab k (fun i => red (nth xs i) p))) ∧ Below w.heap.size w wr) (fun _ i _ => n - (intOf i).toNat)
  case atStart => exact ⟨0, by omega, rfl, World.ownsRow_nil _ _ _ _, Below.refl _ _⟩
  case round =>
    obtain ⟨k, hk, rfl, hown, hbel⟩ := hrel
    by_cases hlt : k < n
    · obtain ⟨b, o, rfl, hb, hc⟩ := hx.at_ (by omega)
      have hcx : wr.cell? ⟨b, o + k, none⟩ = some (.int .i64 (nth xs k)) := (hbel.cell (p := ⟨b, o + k, none⟩) hb).trans (hc k hlt)
      obtain ⟨l1, l2⟩ := hx.ok k
      have hsz := hbel.size
      clear hc
      go_wp2_with (first
        | (go_at_call 66; refine (rred_any _ _ _ (by omega) (by omega) (by omega) (by omega)).mono ?_; rintro e w' ⟨rfl, rfl⟩)
        | (at_builtin; refine wpList_append_lies _ (by rfl) _ _ _ (by rfl) w.heap.size 3 i0 _ 1 8 Try.underlying22 hi hz0 hz1 hz2 rfl (by omega) u5 k (ints (tab k (fun i => red (nth xs i) p))) (by rfl) (hown.alloc _) ⟨wr.heap.size, 0, none⟩ 1 1 [.int .i64 (red (nth xs k) p)] (by rfl) (by rfl) (World.news_of_block (cs := #[.int .i64 (red (nth xs k) p)]) (t := 3) (fr := (0, 0)) (heap_alloc_new wr _)) (by simp [Value.oneCell']) (by omega) (by unfold maxLen; omega) (by omega) (by simp; omega) (wr.heap.size + 1) (by simp) ?_; intro gg cap w3 hown3 hgrow hat hlt3))
      have hb3 := below_app' hbel hown hgrow hsz
      rw [ints_tab_succ k (fun i => red (nth xs i) p)] at hown3
      clear hgrow hat hown
      go_wp2
      go_roundw
      case rel => exact ⟨k + 1, by omega, by go_num, hown3, hb3⟩
      case measure => simp [intOf]; omega
    · obtain rfl : k = n := by omega
      obtain ⟨wo, rfl⟩ : ∃ wo : World, wo = wr := ⟨_, rfl⟩
      rcases hown.2 with ⟨rfl, hk0⟩ | ⟨g, cap, cur, rfl, _⟩
      · have hk0' : k = 0 := hk0
        subst hk0'
        clear hk0
        have hfin : Hid (GivesP w (toP ⟨p, hp⟩ xs) (.returned (.slice none 0 0)) wo) := GivesP.of_own (ys := []) (World.ownsRow_nil _ _ _ _) (by rw [← hcan.out]; rfl) hbel
        go_wp2
        go_loopg [7] 1 (fun gk s wr => gk = 1 ∧ s = .int .i64 0 ∧ wr = wo)
        case atStart => exact ⟨rfl, rfl, rfl⟩
        case round =>
          obtain ⟨rfl, rfl, rfl⟩ := hrel
          go_wp2
          go_ret
          exact hfin.out
      · obtain ⟨g', e, hg, hra⟩ := RowA.of_own hown
        injection e with e
        subst e
        have Hra := Lib.hid hra
        clear hown hra
        have hcapk := Hra.out.le
        rw [tab_length] at hcapk
        have hcap2 : cap ≤ 9223372036854775807 := by have := hcapk.2; unfold maxLen at this; omega
        have hcap1 := hcapk.1
        clear hcapk
        go_wp2
        go_loopg [7] (k + 1) (fun gk s wr => ∃ m : Nat, m ≤ k ∧ m < gk ∧ s = .int .i64 m ∧ Hid (plen (fun i => red (nth xs i) p) k = plen (fun i => red (nth xs i) p) m) ∧ wr = wo)
        case atStart => exact ⟨k, by omega, by omega, rfl, rfl, rfl⟩
        case round =>
          obtain ⟨m, hm, hgk, rfl, hpl, rfl⟩ := hrel
          have hpre := Hra.out.pre (m := m) (by rw [tab_length]; omega)
          rw [tab_take hm] at hpre
          have hpi := hpre.own hg
          rw [tab_length] at hpi
          have hmc : (m : Int) ≤ (cap : Int) := by omega
          cases m with
          | zero =>
            have hfin : Hid (GivesP w (toP ⟨p, hp⟩ xs) (.returned (.slice (some ⟨g, 0, none⟩) 0 cap)) wr) := GivesP.of_own hpi (by rw [← hcan.out, hpl.out]; rfl) hbel
            clear hpi hpre
            go_wp2
            go_ret
            exact hfin.out
          | succ m =>
            have hcy := Hra.out.cell (i := m) (by rw [tab_length]; omega)
            rw [nth_tab, if_pos (by omega)] at hcy
            have hmp : (0 : Int) < (m : Int) + 1 := by omega
            by_cases hz : red (nth xs m) p = 0
            · rw [hz] at hcy
              have Hz := Lib.hid hz
              clear hz hpi hpre
              go_wp2
              go_roundg (gk - 1)
              case measure => omega
              case rel => exact ⟨m, by omega, by omega, by go_num, by show _ = _; rw [hpl.out, plen_drop Hz.out], rfl⟩
            · have hz' : (red (nth xs m) p == 0) = false := beq_eq_false_iff_ne.2 hz
              have hfin : Hid (GivesP w (toP ⟨p, hp⟩ xs) (.returned (.slice (some ⟨g, 0, none⟩) (m + 1) cap)) wr) := GivesP.of_own hpi (by rw [← hcan.out, hpl.out, plen_stop (f := fun i => red (nth xs i) p) hz]) hbel
              clear hz hpi hpre
              go_wp2
              go_ret
              exact hfin.out

/-- A coefficient; 0 beyond the end. -/
theorem qat_any (A : Option Addr) (n c : Nat) (xs : List Int) (i : Nat) (w : World) (hx : Ints w A n xs) (hn : n ≤ 9223372036854775807) (hi : i ≤ 9223372036854775807) :
    Calls Try.prog 76 #[.slice A n c, .int .i64 i] w fun e w' => e = .returned (.int .i64 (nth xs i)) ∧ w = w' := by
  have Hl := Lib.hid hx.len
  by_cases hlt : i < n
  · obtain ⟨b, o, rfl, hb, hc⟩ := hx.at_ (by omega)
    have hcx := hc i hlt
    have hlt' : (i : Int) < (n : Int) := by omega
    clear hc
    go_enter Try.func76, Try.ntmps76
    go_wp2
    go_ret
    exact ⟨rfl, rfl⟩
  · have Hz := Lib.hid (nth_ge (xs := xs) (i := i) (by rw [Hl.out]; omega))
    have hlt' : ¬ (i : Int) < (n : Int) := by omega
    go_enter Try.func76, Try.ntmps76
    go_wp2
    go_ret
    exact ⟨by rw [Hz.out]; rfl, rfl⟩
end Go.Proofs.Ytbcapmnklgdeoaa
