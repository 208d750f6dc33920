/- Contracts: a matrix's plain rows, of any rows: the program's and the document's. -/
import Derived.Test.YthpkpnpkkflfpaaFlinH
import Derived.Test.YthpkpnpkkflfpaaFlinJ
namespace Go.Proofs.Ythpkpnpkkflfpaa
open Go.RowKit Cl

/-- The plain rows of a matrix. -/
def IsEch (rows : List (List Int)) (p : Int) (out : List (List Int)) : Prop :=
  ∃ O n, RrefOf (rAt rows 0).length p rows.length (fun i => redRow (rAt rows i) p) n O ∧ out = rowsTab n O
theorem IsEch.unique {rows : List (List Int)} {p : Int} (hp : Pr p) {a b : List (List Int)} (ha : IsEch rows p a) (hb : IsEch rows p b) : a = b := by
  obtain ⟨O, n, h, rfl⟩ := ha
  obtain ⟨O', n', h', rfl⟩ := hb
  obtain ⟨rfl, e⟩ := h.unique hp h'
  exact rowsTab_congr e
theorem IsEch.empty (p : Int) : IsEch [] p [] := by
  refine ⟨fun _ => [], 0, ⟨⟨?_, ?_, ?_, ?_, ?_, ?_⟩, ?_, ?_⟩, rfl⟩ <;> intro a b
  all_goals first | exact absurd b (by simp) | omega
theorem Mat.empty (w : World) (A : Option Addr) : Mat w A 0 [] := ⟨rfl, by omega, fun h => absurd h (by omega)⟩

theorem ech_yes (A : Option Addr) (m c : Nat) (rows : List (List Int)) (p : Int) (w : World) (hx : Mat w A m rows) (hok : matOk rows p = true) :
    Calls Try.prog 32 #[.slice A m c, .int .i64 p] w (GivesRows w 0 (IsEch rows p)) := by
  obtain ⟨hp, h64, hrow⟩ := matOk_iff.1 hok
  have hpr := (isPrime_iff p).1 hp
  have hlen := hx.len
  rcases Nat.eq_zero_or_pos m with h0 | hpos
  · obtain rfl : rows = [] := List.length_eq_zero_iff.1 (by omega)
    subst h0
    have hb2 := hpr.two
    have hb3 := hpr.max
    have c1 := right_any A 0 c [] p w hx (by omega) (by omega)
    rw [matE_yes hok] at c1
    have C1 := Lib.hid c1
    clear c1 hlen
    go_enter Try.func32, Try.ntmps32
    go_wp2_with (go_at_call 42; refine C1.out.mono ?_; rintro e w' ⟨rfl, rfl⟩)
    go_loop [7, 25] (fun u i => u = .slice none 0 0 ∧ i = .int .i64 0) (fun _ _ => 0)
    case atStart => exact ⟨rfl, rfl⟩
    case round =>
      obtain ⟨rfl, rfl⟩ := hrel
      go_wp2
      go_loopw [10, 11] (fun cn cc wr => cn = .int .i64 0 ∧ cc = .pointer (some ⟨w.heap.size, 0, none⟩) ∧ Below w.heap.size w wr) (fun _ _ _ => 0)
      case atStart => exact ⟨rfl, rfl, (Below.refl _ _).alloc (Nat.le_refl _) _⟩
      case round =>
        obtain ⟨rfl, rfl, hbel⟩ := hrel
        go_wp2
        go_quiet (fail)
        go_wp2
        go_ret2
        exact ⟨_, _, _, _, rfl, Mat.empty _ _, IsEch.empty p, below_drewN hbel _⟩
  · have hr0 := hrow 0 (by omega)
    refine (grid_build A m c (rAt rows 0).length rows p w hx (fun i hi => (hrow i (by omega)).2) (by omega) hr0.1 hpr.two hpr.max hp hok hpos).mono ?_
    rintro e w' ⟨A', n, c', rows', he, hmat, ⟨R, k, hE, hR⟩, hb⟩
    refine ⟨A', n, c', rows', he, hmat, ?_, hb⟩
    have hinv := EInv.of hpr (fun i hi => by rw [redRow_length]; exact (hrow i (by omega)).2) (fun i _ => redRow_pl _ (by have := hpr.two; omega)) hE (Nat.le_refl _)
    exact ⟨R, k, by rw [hlen]; exact hinv.done, hR⟩

theorem rech_any (A : Option Addr) (m c : Nat) (rows : List (List Int)) (p : Int) (w : World) (hx : Mat w A m rows) (hok : matOk rows p = true) :
    Calls Try.prog 33 #[.slice A m c, .int .i64 p] w (GivesRows w 0 (IsEch rows p)) := by
  obtain ⟨hp, h64, hrow⟩ := matOk_iff.1 hok
  have hlen := hx.len
  have hl0 : (rAt rows 0).length ≤ 64 := by
    rcases Nat.eq_zero_or_pos m with h0 | hpos
    · rw [rAt_ge (by omega)]; simp
    · exact (hrow 0 (by omega)).1
  refine (rech_yes A m c (rAt rows 0).length rows p w hx (fun i hi => (hrow i (by omega)).2) (by omega) hl0 hp hok).mono ?_
  rintro e w' ⟨A', n, c', rows', he, hmat, ⟨O, k, hE, hR⟩, hb⟩
  exact ⟨A', n, c', rows', he, hmat, ⟨O, k, by rw [hlen]; exact hE, hR⟩, hb⟩

theorem ech_no (A : Option Addr) (m c : Nat) (rows : List (List Int)) (p : Int) (w : World) (hx : Mat w A m rows) (h3 : -9223372036854775808 ≤ p) (h4 : p ≤ 9223372036854775807) (hok : matOk rows p = false) :
    Calls Try.prog 32 #[.slice A m c, .int .i64 p] w fun e w' => e = .returned (.tuple #[.slice none 0 0, .int .i64 1]) ∧ w = w' := by
  have c1 := right_any A m c rows p w hx h3 h4
  rw [matE_no hok] at c1
  have C1 := Lib.hid c1
  clear c1
  go_enter Try.func32, Try.ntmps32
  go_wp2_with (go_at_call 42; refine C1.out.mono ?_; rintro e w' ⟨rfl, rfl⟩)
  go_ret2
  exact ⟨rfl, rfl⟩
theorem rech_no (A : Option Addr) (m c : Nat) (rows : List (List Int)) (p : Int) (w : World) (hx : Mat w A m rows) (h3 : -9223372036854775808 ≤ p) (h4 : p ≤ 9223372036854775807) (hok : matOk rows p = false) :
    Calls Try.prog 33 #[.slice A m c, .int .i64 p] w fun e w' => e = .returned (.tuple #[.slice none 0 0, .int .i64 1]) ∧ ∃ k, w' = w.drewN k := by
  have c1 := rright_any A m c rows p w hx h3 h4
  rw [hok] at c1
  have C1 := Lib.hid c1
  clear c1
  go_enter Try.func33, Try.ntmps33
  go_wp2_with (go_at_call 47; refine C1.out.mono ?_; rintro e w' ⟨rfl, kr, rfl⟩)
  go_ret2
  exact ⟨rfl, _, rfl⟩

end Go.Proofs.Ythpkpnpkkflfpaa
