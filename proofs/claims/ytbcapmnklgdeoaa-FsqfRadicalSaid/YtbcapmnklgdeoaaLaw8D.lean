/- Layer 8's laws: where nothing is handed back. -/
import Derived.Test.YtbcapmnklgdeoaaLaw8C
namespace Go.Proofs.Ytbcapmnklgdeoaa
open Go.RowKit Cl
attribute [local go_sem ↓] Go.wp_at_zero Go.wp_at_succ

theorem ints_nil8 (w : World) : Ints w none 0 [] := ⟨rfl, fun h => absurd h (by omega), fun i => by rw [nth_ge (by simp)]; exact I64.zero⟩
theorem partsL_one {q : Prm} : Poly.partsL (1 : Poly (Zp q)) = [] := by
  have h1 : (1 : Poly (Zp q)) ≠ 0 := Poly.one_mon.ne
  have : Poly.lvls (1 : Poly (Zp q)) = [] := by
    refine List.eq_nil_iff_forall_not_mem.2 fun k hk => ?_
    obtain ⟨h2, h3⟩ := (Poly.mem_lvls h1).1 hk
    exact h3 ((Poly.lvl_one_iff h1 h2).2 fun f hf e => by rw [Poly.val_one hf] at e; omega)
  unfold Poly.partsL
  rw [this]; rfl
theorem theirsN (c : Nat) (w : World) : Calls Try.prog 19 #[.slice none 0 c] w fun e w' => ∃ B d, e = .returned (.slice B 0 d) ∧ Below w.heap.size w w' := by
  refine (theirsR (q := q3) none 0 c 1 w Poly.one_mon.ne (by rw [Poly.len_one]; omega) (by rw [partsL_one]; exact Prs.nil _ _) (by omega)).mono ?_
  rintro e w' ⟨B, d, rfl, _, hb⟩
  exact ⟨B, d, rfl, hb⟩
theorem same8N (A B : Option Addr) (c d : Nat) (w : World) : Calls Try.prog 18 #[.slice A 0 c, .slice B 0 d] w fun e w' => e = .returned (.bool true) ∧ Below w.heap.size w w' := by
  refine (same8 (q := q3) A B 0 c d [] w (Prs.nil _ _) (Prs.nil _ _) (by omega) (fun i h => absurd h (by simp))).mono ?_
  rintro e w' ⟨rfl, k, rfl⟩
  exact ⟨rfl, below_drewN (Below.refl _ _) k⟩
theorem same6N (c d : Nat) (w : World) : Calls Try.prog 12 #[.slice none 0 c, .slice none 0 d] w fun e w' => e = .returned (.bool true) ∧ Below w.heap.size w w' := by
  refine (same06_true none none 0 c d [] w (ints_nil8 w) (ints_nil8 w) (by omega)).mono ?_
  rintro e w' ⟨rfl, k, rfl⟩
  exact ⟨rfl, below_drewN (Below.refl _ _) k⟩
section
variable {A B : Option Addr} {n m c d N M K : Nat} {p : Int} {w : World} {hp : Pr p} {a b : Poly (Zp ⟨p, hp⟩)}
/-- Equal polynomials are the same. -/
theorem same6R (ha : Ints w A a.len (fromP a)) (hb : Ints w B b.len (fromP b)) (hn : a.len ≤ N) (hN : N ≤ 900000000) (e : a = b) :
    Calls Try.prog 12 #[.slice A a.len c, .slice B b.len d] w fun e w' => e = .returned (.bool true) ∧ Below w.heap.size w w' := by
  subst e
  refine (same06_true A B a.len c d _ w ha hb (by omega)).mono ?_
  rintro e w' ⟨rfl, k, rfl⟩
  exact ⟨rfl, below_drewN (Below.refl _ _) k⟩
theorem same8R (ha : Prs w A n (Poly.partsL a)) (hb : Prs w B n (Poly.partsL a)) (h0 : a ≠ 0) (hn : a.len ≤ 100000000) :
    Calls Try.prog 18 #[.slice A n c, .slice B n d] w fun e w' => e = .returned (.bool true) ∧ Below w.heap.size w w' := by
  have h1 : n ≤ 100000000 := by
    have h2 := ha.len
    rw [Poly.partsL_length] at h2
    have h3 : (Poly.lvls a).length ≤ a.len := by unfold Poly.lvls; exact Nat.le_trans (List.length_filter_le _ _) (by rw [List.length_range]; omega)
    omega
  refine (same8 A B n c d _ w ha hb h1 (lens_of h0 (by omega))).mono ?_
  rintro e w' ⟨rfl, k, rfl⟩
  exact ⟨rfl, below_drewN (Below.refl _ _) k⟩
end
end Go.Proofs.Ytbcapmnklgdeoaa
