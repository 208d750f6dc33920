/- Contracts: plain polynomials, sums, products: the program's. -/
import Derived.Test.YtbcapmnklgdeoaaFpAll
import Derived.Test.YtbcapmnklgdeoaaFlinA
import Derived.Test.YtbcapmnklgdeoaaPolyB
import Derived.BigRegion
import Derived.BigQuiet
import Derived.Deep.RegionHeld3
import Derived.Deep.AppendLies
import Derived.Deep.DrawnRows
import Derived.Deep.LoopGhost
namespace Go.Proofs.Ytbcapmnklgdeoaa
open Go.RowKit Cl
attribute [local go_sem ↓] Go.wp_at_zero Go.wp_at_succ

theorem below_tr {w w1 w2 : World} (h : Below w.heap.size w w1) (k : Below w1.heap.size w1 w2) : Below w.heap.size w w2 := h.trans (k.mono h.size)
section
variable {q : Prm}
/-- A call that hands back a polynomial, plain, in new memory. -/
def GivesP (w : World) (a : Poly (Zp q)) (e : Ending) (w' : World) : Prop :=
  ∃ A c, e = .returned (.slice A a.len c) ∧ NewInts 3 w w' A c a.len (fromP a)
/-- The same beside an error's number. -/
def GivesPE (w : World) (a : Poly (Zp q)) (err : Int) (e : Ending) (w' : World) : Prop :=
  ∃ A c, e = .returned (.tuple #[.slice A a.len c, .int .i64 err]) ∧ NewInts 3 w w' A c a.len (fromP a)
/-- Two of them. -/
def GivesPP (w : World) (a b : Poly (Zp q)) (e : Ending) (w' : World) : Prop :=
  ∃ A c B d, e = .returned (.tuple #[.slice A a.len c, .slice B b.len d]) ∧ NewInts 3 w w' A c a.len (fromP a) ∧ NewInts 3 w w' B d b.len (fromP b)
def GivesPPE (w : World) (a b : Poly (Zp q)) (err : Int) (e : Ending) (w' : World) : Prop :=
  ∃ A c B d, e = .returned (.tuple #[.slice A a.len c, .slice B b.len d, .int .i64 err]) ∧ NewInts 3 w w' A c a.len (fromP a) ∧ NewInts 3 w w' B d b.len (fromP b)
theorem GivesP.of_own {w w' : World} {a : Poly (Zp q)} {v : Value} {n : Nat} {ys : List Int} (hown : w'.ownsRow w.heap.size 3 1 v n (ints ys)) (he : ys = fromP a) (hb : Below w.heap.size w w') : GivesP w a (.returned v) w' := by
  subst he
  obtain ⟨A, c, rfl⟩ := own_slice hown
  have hn : n = a.len := by have := hown.1; rw [ints_length, fromP_length] at this; omega
  subst hn
  exact ⟨A, c, rfl, NewInts.of hown (fromP_length a) (fromP_i64 a) hb⟩
theorem newInts_later {w w' w'' : World} {A : Option Addr} {c n : Nat} {ys : List Int} (h : NewInts 3 w w' A c n ys) (hb : Below w'.heap.size w' w'') : NewInts 3 w w'' A c n ys :=
  ⟨h.len, own_bel h.own hb, h.rd.bel hb, below_tr h.bel hb⟩
theorem newInts_sooner {w0 w w' : World} {A : Option Addr} {c n : Nat} {ys : List Int} (h : NewInts 3 w w' A c n ys) (hb : Below w0.heap.size w0 w) : NewInts 3 w0 w' A c n ys :=
  ⟨h.len, own_mono h.own hb.size, h.rd, hb.trans (h.bel.mono hb.size)⟩
theorem pl_small {p : Int} {xs : List Int} (h : Pl p xs) (hp : p ≤ 65521) (i : Nat) : 0 ≤ nth xs i ∧ nth xs i ≤ 65521 := by have := h i; omega
end


set_option maxRecDepth 100000 in
theorem pplain_any (A : Option Addr) (n c : Nat) (xs : List Int) (p : Int) (w : World) (hp : Pr p) (hx : Ints w A n xs) (hn : n * 8 ≤ 281474976710656) :
    Calls Try.prog 30 #[.slice A n c, .int .i64 p] w (GivesP w (toP ⟨p, hp⟩ xs)) := by
  have hmk := make_ints n (by omega)
  have hp1 := hp.two
  have hp2 := hp.max
  have Hx := Lib.hid hx.len
  have hcan : Hid (tab (plen (fun i => red (nth xs i) p) n) (fun i => red (nth xs i) p) = fromP (toP ⟨p, hp⟩ xs)) := by
    show _ = _
    rw [← canon_toP (q := ⟨p, hp⟩) xs, hx.len]; rfl
  go_enter Try.func30, Try.ntmps30
  go_wp2
  go_loopw [13] (fun i wr => ∃ k : Nat, k ≤ n ∧ i = .int .i64 k ∧ Row wr w.heap.size 3 (fillTo n k (fun i => red (nth xs i) p)) ∧ Below w.heap.size w wr) (fun i _ => n - (intOf i).toNat)
  case atStart => exact ⟨0, by omega, rfl, by rw [fillTo_zero]; exact Row.new w _ _, (Below.refl _ _).alloc (Nat.le_refl _) _⟩
  case round =>
    obtain ⟨k, hk, rfl, hrow, hbel⟩ := hrel
    by_cases hlt : k < n
    · obtain ⟨b, o, rfl, hb, hc⟩ := hx.at_ (by omega)
      have hcx : wr.cell? ⟨b, o + k, none⟩ = some (.int .i64 (nth xs k)) := (hbel.cell (p := ⟨b, o + k, none⟩) hb).trans (hc k hlt)
      have hcy := hrow.cell (i := k) (by rw [fillTo_length]; omega)
      have hfz := hrow.frozen k
      obtain ⟨l1, l2⟩ := hx.ok k
      have hset := hrow.set k (red (nth xs k) p)
      rw [fillTo_set (f := fun i => red (nth xs i) p) hlt] at hset
      have Hset := Lib.hid hset; clear hset
      go_wp2_with (go_at_call 42; refine (red_any _ _ _ (by omega) (by omega) (by omega) (by omega)).mono ?_; rintro e w' ⟨rfl, rfl⟩)
      go_roundw
      case rel => exact ⟨k + 1, by omega, by go_num, Hset.out, hbel.setCell (Nat.le_refl _) _⟩
      case measure => simp [intOf]; omega
    · obtain rfl : k = n := by omega
      rw [fillTo_full] at hrow
      obtain ⟨wo, rfl⟩ : ∃ wo : World, wo = wr := ⟨_, rfl⟩
      have Hrow := Lib.hid hrow
      clear hrow
      go_wp2
      go_loopg [5] (k + 1) (fun gk s wr => ∃ m : Nat, m ≤ k ∧ m < gk ∧ s = .slice (some ⟨w.heap.size, 0, none⟩) m k ∧ Hid (plen (fun i => red (nth xs i) p) k = plen (fun i => red (nth xs i) p) m) ∧ wr = wo)
      case atStart => exact ⟨k, by omega, by omega, rfl, rfl, rfl⟩
      case round =>
        obtain ⟨m, hm, hgk, rfl, hpl, rfl⟩ := hrel
        cases m with
        | zero =>
          have Hfin : Hid (GivesP w (toP ⟨p, hp⟩ xs) (.returned (.slice (some ⟨w.heap.size, 0, none⟩) 0 k)) wr) := by
            have hown := Hrow.out.own (base := w.heap.size) (n := 0) (Nat.le_refl _) (by omega) (by rw [tab_length]; unfold maxLen; omega)
            rw [tab_length, tab_take (by omega)] at hown
            refine GivesP.of_own hown ?_ hbel
            rw [← hcan.out, hpl.out]; rfl
          go_wp2
          go_ret
          exact Hfin.out
        | succ m =>
          have hcy := Hrow.out.cell (i := m) (by rw [tab_length]; omega)
          rw [nth_tab, if_pos (by omega)] at hcy
          have hmp : (0 : Int) < (m : Int) + 1 := by omega
          by_cases hz : red (nth xs m) p = 0
          · rw [hz] at hcy
            have Hz := Lib.hid hz
            clear hz
            go_wp2
            go_roundg (gk - 1)
            case measure => omega
            case rel => exact ⟨m, by omega, by omega, rfl, by show _ = _; rw [hpl.out, plen_drop Hz.out], rfl⟩
          · have hz' : (red (nth xs m) p == 0) = false := beq_eq_false_iff_ne.2 hz
            have Hfin : Hid (GivesP w (toP ⟨p, hp⟩ xs) (.returned (.slice (some ⟨w.heap.size, 0, none⟩) (m + 1) k)) wr) := by
              have hown := Hrow.out.own (base := w.heap.size) (n := m + 1) (Nat.le_refl _) (by rw [tab_length]; omega) (by rw [tab_length]; unfold maxLen; omega)
              rw [tab_length, tab_take (by omega)] at hown
              refine GivesP.of_own hown ?_ hbel
              rw [← hcan.out, hpl.out, plen_stop (f := fun i => red (nth xs i) p) hz]
            clear hz
            go_wp2
            go_ret
            exact Hfin.out
end Go.Proofs.Ytbcapmnklgdeoaa
