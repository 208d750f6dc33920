/- Contracts: derivatives and values: the program's.
   Contracts: the rows of Euclid's way: the program's.
   Contracts: the greatest common divisor and of how many of both it is made: the program's.
   Contracts by polynomials, whatever list tells them.
   Contracts by polynomials: the greatest common divisor: the program's. -/
import Derived.Test.YtpikakapflebkaaGreatFpolyBase
import Derived.Test.YtpikakapflebkaaGreatPolyB
import Derived.Deep.RegionWith
namespace Go.Proofs.YtpikakapflebkaaGreat
open Go.RowKit Cl
attribute [local go_sem ↓] Go.wp_at_zero Go.wp_at_succ

noncomputable def derF {q : Prm} (P : Poly (Zp q)) (i : Nat) : Int := ((i : Int) + 1) % q.p * nth (fromP P) (i + 1)
theorem toP_der {q : Prm} (P : Poly (Zp q)) : toP q (tab (P.len - 1) (derF P)) = P.D := Poly.ext fun i => by
  rw [co_toP, nth_tab, Poly.co_D, Poly.nsmul_zp]
  split
  · next h =>
    unfold derF
    rw [Zp.of_mul, nth_fromP, Zp.of_val]
    congr 1
    exact Zp.of_cg (Cg.emod_left _ _)
  · next h => rw [Poly.len_sh P (i + 1) (by omega), CRing.mul_zero]; rfl
theorem derF_bd {q : Prm} (P : Poly (Zp q)) (i : Nat) : 0 ≤ derF P i ∧ derF P i ≤ 65521 * 65521 := by
  have h1 := emod_bd ((i : Int) + 1) (p := q.p) (by have := q.pr.two; omega)
  have h2 := fromP_lt P (i + 1)
  have h3 := q.pr.max
  unfold derF
  exact ⟨Int.mul_nonneg h1.1 h2.1, Int.mul_le_mul (by omega) (by omega) h2.1 (by omega)⟩

set_option maxRecDepth 100000 in
theorem pderiv_yes (A : Option Addr) (n c : Nat) (xs : List Int) (p : Int) (w : World) (hp : Pr p) (hx : Ints w A n xs) (hn : n * 8 ≤ 140737488355320) :
    Calls Tryz.prog 55 #[.slice A n c, .int .i64 p] w (GivesPE w (toP ⟨p, hp⟩ xs).D 0) := by
  obtain ⟨i0, hi, hz0, hz1, hz2⟩ := info_parts int_info
  have hp1 := hp.two
  have hp2 := hp.max
  have hp0 : ¬ p = 0 := by omega
  have hppos : 0 < p := by omega
  have Ca := Lib.hid (pplain_any A n c xs p w hp hx (by omega))
  have hla : (toP ⟨p, hp⟩ xs).len ≤ n := len_le_toP hx.len
  generalize toP ⟨p, hp⟩ xs = P at *
  go_enter Tryz.func55, Tryz.ntmps55
  go_wp2_with fail
  refine (chk_yes _ _ (by omega) (by omega) ((isPrime_iff p).2 hp)).mono ?_
  rintro e w' ⟨rfl, rfl⟩
  go_wp2_with fail
  refine Ca.out.mono ?_
  rintro e w1 ⟨A1, c1, rfl, hn1⟩
  have hrd := hn1.rd
  have hb1 := hn1.bel
  clear hn1
  generalize hL : P.len = L at *
  have HL := Lib.hid hL
  clear hL
  go_wp2_with fail
  go_loopw [7, 19] (fun v i wr => ∃ k : Nat, k ≤ L ∧ i = .int .i64 k ∧ wr.ownsRow w1.heap.size 3 1 v (k - 1) (ints (tab (k - 1) (derF P))) ∧ Below w1.heap.size w1 wr) (fun _ i _ => L - (intOf i).toNat)
  case atStart => exact ⟨0, by omega, rfl, World.ownsRow_nil _ _ _ _, Below.refl _ _⟩
  case round =>
    obtain ⟨k, hk, rfl, hown, hbel⟩ := hrel
    by_cases hlt : k < L
    · obtain ⟨b, o, rfl, hb, hc⟩ := hrd.at_ (by omega)
      cases k with
      | zero =>
        have hcx : wr.cell? ⟨b, o, none⟩ = some (.int .i64 (nth (fromP P) 0)) := (hbel.cell (p := ⟨b, o, none⟩) hb).trans (hc 0 hlt)
        rw [show ((0 : Nat) : Int) = 0 from rfl]
        clear hc
        go_wp2
        go_roundw
        case rel => exact ⟨1, by omega, by go_num, hown, hbel⟩
        case measure => simp [intOf]; omega
      | succ j =>
        have hcx : wr.cell? ⟨b, o + (j + 1), none⟩ = some (.int .i64 (nth (fromP P) (j + 1))) := (hbel.cell (p := ⟨b, o + (j + 1), none⟩) hb).trans (hc (j + 1) hlt)
        have hd := derF_bd P j
        have Hd : Hid (((j : Int) + 1) % p * nth (fromP P) (j + 1) = derF P j) := rfl
        have h1 := emod_bd ((j : Int) + 1) (p := p) (by omega)
        obtain ⟨h2, h3⟩ := fromP_lt P (j + 1)
        have h3' : nth (fromP P) (j + 1) < p := h3
        have m1 : 0 ≤ ((j : Int) + 1) % p * nth (fromP P) (j + 1) := Int.mul_nonneg h1.1 h2
        have m2 : ((j : Int) + 1) % p * nth (fromP P) (j + 1) ≤ 65521 * 65521 := Int.mul_le_mul (by omega) (by omega) h2 (by omega)
        have hpos : (0 : Int) < (j : Int) + 1 := by omega
        rw [show j + 1 - 1 = j by omega] at hown
        have hsz := hbel.size
        clear hc h3 hd h1
        go_wp2_with (at_builtin; refine wpList_append_lies _ (by rfl) _ _ _ (by rfl) w1.heap.size 3 i0 _ 1 8 Tryz.underlying22 hi hz0 hz1 hz2 rfl (by omega) u7 j (ints (tab j (derF P))) (by rfl) (hown.alloc _) ⟨wr.heap.size, 0, none⟩ 1 1 [.int .i64 (derF P j)] (by rfl) (by rfl) (World.news_of_block (cs := #[.int .i64 (derF P j)]) (t := 3) (fr := (0, 0)) (heap_alloc_new wr _)) (by simp [Value.oneCell']) (by omega) (by unfold maxLen; omega) (by omega) (by simp; omega) (wr.heap.size + 1) (by simp) ?_; intro gg cap w3 hown3 hgrow hat hlt3)
        have hb3 := below_app' hbel hown hgrow hsz
        rw [ints_tab_succ j (derF P)] at hown3
        clear hgrow hat hown
        go_wp2
        go_roundw
        case rel => exact ⟨j + 1 + 1, by omega, by go_num, by rw [show j + 1 + 1 - 1 = j + 1 by omega]; exact hown3, hb3⟩
        case measure => simp [intOf]; omega
    · obtain rfl : k = L := by omega
      obtain ⟨A2, c2, rfl⟩ := own_slice hown
      have hin := Ints.of_own hown (tab_i64 fun i => by have := derF_bd P i; exact I64.small this.1 (by omega))
      have hcp := pplain_any A2 (k - 1) c2 _ p wr hp hin (by omega)
      have hD : toP ⟨p, hp⟩ (tab (k - 1) (derF P)) = P.D := by have := toP_der P; rw [HL.out] at this; exact this
      rw [hD] at hcp
      have Cp := Lib.hid hcp
      clear hcp hD hin hown
      go_wp2_with fail
      refine Cp.out.mono ?_
      rintro e w3 ⟨A3, c3, rfl, hn3⟩
      go_wp2_with fail
      go_ret2
      exact givesPE_of (newInts_sooner hn3 (below_tr hb1 hbel))

theorem pderiv_no (A : Option Addr) (n c : Nat) (p : Int) (w : World) (h3 : -9223372036854775808 ≤ p) (h4 : p ≤ 9223372036854775807) (hp : isPrime p = false) :
    Calls Tryz.prog 55 #[.slice A n c, .int .i64 p] w fun e w' => e = .returned (.tuple #[.slice none 0 0, .int .i64 1]) ∧ w = w' := by
  go_enter Tryz.func55, Tryz.ntmps55
  go_wp2_with fail
  refine (chk_no _ _ h3 h4 hp).mono ?_
  rintro e w' ⟨rfl, rfl⟩
  go_wp2_with fail
  go_ret2
  exact ⟨rfl, rfl⟩
end Go.Proofs.YtpikakapflebkaaGreat

namespace Go.Proofs.YtpikakapflebkaaGreat
open Go.RowKit Cl
attribute [local go_sem ↓] Go.wp_at_zero Go.wp_at_succ

theorem row_size : (Tryz.prog.info? 123).map (·.size) = some 3 := by kernel_rfl
/-- Three slices, as an array holds them. -/
def trd (A : Nat → Option Addr) (N C : Nat → Nat) : List Value := (List.range 3).map fun i => .slice (A i) (N i) (C i)
theorem trd_get {A : Nat → Option Addr} {N C : Nat → Nat} {i : Nat} (h : i < 3) : (trd A N C)[i]? = some (.slice (A i) (N i) (C i)) := by simp [trd, h]
theorem trd_set {A : Nat → Option Addr} {N C : Nat → Nat} (j : Nat) (a : Option Addr) (n c : Nat) : (trd A N C).set j (.slice a n c) = trd (fun i => if i = j then a else A i) (fun i => if i = j then n else N i) (fun i => if i = j then c else C i) := by
  apply List.ext_getElem (by simp [trd])
  intro i h1 h2
  simp only [trd, List.getElem_set, List.getElem_map, List.getElem_range]
  by_cases e : i = j
  · subst e; simp
  · rw [if_neg (fun h => e h.symm), if_neg e, if_neg e, if_neg e]
theorem trd_congr {A A' : Nat → Option Addr} {N N' C C' : Nat → Nat} (h : ∀ i, i < 3 → A i = A' i ∧ N i = N' i ∧ C i = C' i) : trd A N C = trd A' N' C' := by
  unfold trd
  refine List.map_congr_left fun i hi => ?_
  obtain ⟨h1, h2, h3⟩ := h i (List.mem_range.1 hi)
  rw [h1, h2, h3]
/-- Block g is just three slices. -/
def Tri (w : World) (g : Nat) (A : Nat → Option Addr) (N C : Nat → Nat) : Prop := w.heap[g]? = some (.cells (trd A N C).toArray 123 (0, 0))
section
variable {w w' : World} {g : Nat} {A : Nat → Option Addr} {N C : Nat → Nat}
theorem Tri.lt (h : Tri w g A N C) : g < w.heap.size := (Array.getElem?_eq_some_iff.1 h).1
theorem Tri.cell (h : Tri w g A N C) {i : Nat} (hi : i < 3) : w.cell? ⟨g, i, none⟩ = some (.slice (A i) (N i) (C i)) := by
  rw [cell_of_row w g i _ _ (0, 0) h]
  have := trd_get (A := A) (N := N) (C := C) hi
  simpa using this
theorem Tri.frozen (h : Tri w g A N C) (i : Nat) : w.frozen? ⟨g, i, none⟩ = false := by unfold Tri at h; simp [World.frozen?, h]
theorem Tri.keep (h : Tri w g A N C) (hk : w'.heap[g]? = w.heap[g]?) : Tri w' g A N C := hk.trans h
theorem Tri.bel (h : Tri w g A N C) (hb : Below w.heap.size w w') : Tri w' g A N C := h.keep (hb.block g h.lt)
theorem Tri.far (h : Tri w g A N C) {p : Addr} (hp : g ≠ p.block) (u : Value) : Tri (w.setCell p u) g A N C := h.keep (Below.heap_setCell w p u g hp)
theorem Tri.set (h : Tri w g A N C) (j : Nat) (a : Option Addr) (n c : Nat) : Tri (w.setCell ⟨g, j, none⟩ (.slice a n c)) g (fun i => if i = j then a else A i) (fun i => if i = j then n else N i) (fun i => if i = j then c else C i) := by
  unfold Tri at h ⊢
  rw [← trd_set]
  simp [World.setCell, Array.getElem?_modify, h]
theorem Tri.congr (h : Tri w g A N C) {A' : Nat → Option Addr} {N' C' : Nat → Nat} (he : ∀ i, i < 3 → A i = A' i ∧ N i = N' i ∧ C i = C' i) : Tri w g A' N' C' := by
  unfold Tri at h ⊢
  rw [← trd_congr he]; exact h
theorem Tri.new (w : World) (A : Nat → Option Addr) (N C : Nat → Nat) : Tri (w.alloc (.cells (trd A N C).toArray 123)) w.heap.size A N C := heap_alloc_new w _
end
section
variable {q : Prm}
/-- Three polynomials lie there. -/
def Ints3 (w : World) (A : Nat → Option Addr) (X : Nat → Poly (Zp q)) : Prop := ∀ i, i < 3 → Ints w (A i) (X i).len (fromP (X i))
theorem Ints3.bel {w w' : World} {A : Nat → Option Addr} {X : Nat → Poly (Zp q)} (h : Ints3 w A X) (hb : Below w.heap.size w w') : Ints3 w' A X := fun i hi => (h i hi).bel hb
theorem Ints3.drew {w : World} {A : Nat → Option Addr} {X : Nat → Poly (Zp q)} (h : Ints3 w A X) : Ints3 w.drew A X := fun i hi => (h i hi).drew
/-- A call that hands back three polynomials in an array. -/
def GivesTri (w : World) (Z : Nat → Poly (Zp q)) (e : Ending) (w' : World) : Prop :=
  ∃ (A : Nat → Option Addr) (C : Nat → Nat), e = .returned (.agg #[.slice (A 0) (Z 0).len (C 0), .slice (A 1) (Z 1).len (C 1), .slice (A 2) (Z 2).len (C 2)]) ∧ Ints3 w' A Z ∧ Below w.heap.size w w'
/-- The row that comes behind two. -/
noncomputable def nextZ (X Y : Nat → Poly (Zp q)) (i : Nat) : Poly (Zp q) := X i - Poly.quo (X 0) (Y 0) * Y i
noncomputable def mixZ (X Y : Nat → Poly (Zp q)) (k i : Nat) : Poly (Zp q) := if i < k then nextZ X Y i else X i
theorem mixZ_at (X Y : Nat → Poly (Zp q)) (k : Nat) : mixZ X Y k k = X k := if_neg (by omega)
theorem quo_len (a : Poly (Zp q)) {b : Poly (Zp q)} (hb : b ≠ 0) : (Poly.quo a b).len ≤ a.len := Cl.quo_len' a hb
theorem prod_len (a b : Poly (Zp q)) : (a * b).len ≤ a.len + b.len := Cl.prod_len' a b
end

set_option maxRecDepth 100000 in
set_option maxHeartbeats 4000000 in
theorem pnext_any {p : Int} {hp : Pr p} (A B : Nat → Option Addr) (C D : Nat → Nat) (X Y : Nat → Poly (Zp ⟨p, hp⟩)) (w : World) (hx : Ints3 w A X) (hy : Ints3 w B Y)
    (hsx : ∀ i, i < 3 → (X i).len ≤ 1000000000) (hsy : ∀ i, i < 3 → (Y i).len ≤ 1000000000) (hy0 : Y 0 ≠ 0) :
    Calls Tryz.prog 117 #[.agg #[.slice (A 0) (X 0).len (C 0), .slice (A 1) (X 1).len (C 1), .slice (A 2) (X 2).len (C 2)], .agg #[.slice (B 0) (Y 0).len (D 0), .slice (B 1) (Y 1).len (D 1), .slice (B 2) (Y 2).len (D 2)], .int .i64 p] w (GivesTri w (nextZ X Y)) := by
  have hp1 := hp.two
  have hp2 := hp.max
  have l0 := hsx 0 (by omega)
  have l1 := hsy 0 (by omega)
  have Hsx := Lib.hid hsx
  have Hsy := Lib.hid hsy
  have Hx := Lib.hid hx
  have Hy := Lib.hid hy
  have hql := quo_len (X 0) hy0
  have Cd := Lib.hid (fun W (h : Below w.heap.size w W) => pdivided_any (A 0) (B 0) _ _ (C 0) (D 0) _ _ W ((hx 0 (by omega)).bel h) ((hy 0 (by omega)).bel h) (by omega) (by omega) hy0)
  have hbA : Below w.heap.size w (((w.alloc (.cells (trd A (fun i => (X i).len) C).toArray 123)).alloc (.cells (trd B (fun i => (Y i).len) D).toArray 123)).alloc (.cells (trd (fun _ => none) (fun _ => 0) (fun _ => 0)).toArray 123)) :=
    (((Below.refl _ _).alloc (Nat.le_refl _) _).alloc (by simp) _).alloc (by simp; omega) _
  have ht1 : Tri (((w.alloc (.cells (trd A (fun i => (X i).len) C).toArray 123)).alloc (.cells (trd B (fun i => (Y i).len) D).toArray 123)).alloc (.cells (trd (fun _ => none) (fun _ => 0) (fun _ => 0)).toArray 123)) w.heap.size A (fun i => (X i).len) C :=
    ((Tri.new w A (fun i => (X i).len) C).bel ((Below.refl _ _).alloc (Nat.le_refl _) _)).bel ((Below.refl _ _).alloc (Nat.le_refl _) _)
  have ht2 : Tri (((w.alloc (.cells (trd A (fun i => (X i).len) C).toArray 123)).alloc (.cells (trd B (fun i => (Y i).len) D).toArray 123)).alloc (.cells (trd (fun _ => none) (fun _ => 0) (fun _ => 0)).toArray 123)) (w.heap.size + 1) B (fun i => (Y i).len) D := by
    have := (Tri.new (w.alloc (.cells (trd A (fun i => (X i).len) C).toArray 123)) B (fun i => (Y i).len) D).bel (w' := ((w.alloc (.cells (trd A (fun i => (X i).len) C).toArray 123)).alloc (.cells (trd B (fun i => (Y i).len) D).toArray 123)).alloc (.cells (trd (fun _ => none) (fun _ => 0) (fun _ => 0)).toArray 123)) ((Below.refl _ _).alloc (Nat.le_refl _) _)
    rw [World.size_alloc] at this
    exact this
  have ht3 : Tri (((w.alloc (.cells (trd A (fun i => (X i).len) C).toArray 123)).alloc (.cells (trd B (fun i => (Y i).len) D).toArray 123)).alloc (.cells (trd (fun _ => none) (fun _ => 0) (fun _ => 0)).toArray 123)) (w.heap.size + 1 + 1) (fun _ => none) (fun _ => 0) (fun _ => 0) := by
    have := Tri.new ((w.alloc (.cells (trd A (fun i => (X i).len) C).toArray 123)).alloc (.cells (trd B (fun i => (Y i).len) D).toArray 123)) (fun _ => none) (fun _ => 0) (fun _ => 0)
    rw [World.size_alloc, World.size_alloc] at this
    exact this
  have HbA := Lib.hid hbA
  have Ht1 := Lib.hid ht1
  have Ht2 := Lib.hid ht2
  have Ht3 := Lib.hid ht3
  clear hx hy hsx hsy hbA ht1 ht2 ht3
  go_enter Tryz.func117, Tryz.ntmps117
  go_wp2_with fail
  refine (Cd.out _ HbA.out).mono ?_
  rintro e w1 ⟨A1, c1, A2, c2, rfl, hn1, hn2⟩
  have hb1 := HbA.out.trans (hn1.bel.mono (by have := HbA.out.size; omega))
  have ht1 := Ht1.out.bel hn1.bel
  have ht2 := Ht2.out.bel hn1.bel
  have ht3 := Ht3.out.bel hn1.bel
  have hQ := Lib.hid hn1.rd
  have hX1 := Lib.hid (Hx.out.bel hb1)
  have hY1 := Lib.hid (Hy.out.bel hb1)
  clear hn1 hn2
  go_wp2_with fail
  generalize hQ' : Poly.quo (X 0) (Y 0) = Q at *
  have HQe := Lib.hid hQ'
  have HQl : Hid (Q.len ≤ 1000000000) := by show _ ≤ _; omega
  clear hQ' hql l0 l1
  have hs1 := hb1.size
  go_loopw [19] (fun i wr => ∃ (k : Nat) (A' : Nat → Option Addr) (C' : Nat → Nat), k ≤ 3 ∧ i = .int .i64 k ∧ Tri wr w.heap.size A' (fun i => (mixZ X Y k i).len) C' ∧ Hid (Ints3 wr A' (mixZ X Y k)) ∧ Hid (∀ i, k ≤ i → A' i = A i ∧ C' i = C i) ∧ Tri wr (w.heap.size + 1) B (fun i => (Y i).len) D ∧ Tri wr (w.heap.size + 1 + 1) (fun _ => none) (fun _ => 0) (fun _ => 0) ∧ Hid (Ints wr A1 Q.len (fromP Q)) ∧ Hid (Ints3 wr B Y) ∧ Below w.heap.size w wr) (fun i _ => 3 - (intOf i).toNat)
  case atStart => exact ⟨0, A, C, by omega, rfl, ht1, hX1, fun i _ => ⟨rfl, rfl⟩, ht2, ht3, hQ, hY1, hb1⟩
  case round =>
    obtain ⟨k, A', C', hk, rfl, hx, hI, hsame, hy, hz, hQ2, hY2, hbel⟩ := hrel
    obtain ⟨wo, rfl⟩ : ∃ wo : World, wo = wr := ⟨_, rfl⟩
    by_cases hlt : k < 3
    · have hcx := hx.cell hlt
      have hix := hI.out k hlt
      have hmk : mixZ X Y k k = X k := mixZ_at X Y k
      rw [hmk] at hcx hix
      have hcy := hy.cell hlt
      have hfx := hx.frozen k
      have hiy := hY2.out k hlt
      have hxl := Hsx.out k hlt
      have hyl := Hsy.out k hlt
      have hxlt := hx.lt
      have hylt := hy.lt
      have e1 : IntKind.i64.wrap (p - 1) = p - 1 := IntWalk.i64_in _ (by omega)
      have hk0 : (0 : Int) ≤ (k : Int) := by omega
      have hk3 : (k : Int) < 3 := by omega
      have hpl := prod_len Q (Y k)
      have hql := HQl.out
      have Hix := Lib.hid hix
      have Hiy := Lib.hid hiy
      clear hmk hix hiy
      go_wp2
      go_region_with (first
        | (go_at_call 62; refine (pprodP A1 (B k) c1 (D k) Q (Y k) _ hQ2.out.drew Hiy.out.drew (by omega)).mono ?_; rintro e w3 ⟨A3, c3, rfl, hn3⟩; have hcx3 : w3.cell? ⟨w.heap.size, k, none⟩ = some (.slice (A' k) (X k).len (C' k)) := (hn3.bel.cell (p := ⟨w.heap.size, k, none⟩) hxlt).trans hcx; have hcy3 : w3.cell? ⟨w.heap.size + 1, k, none⟩ = some (.slice (B k) (Y k).len (D k)) := (hn3.bel.cell (p := ⟨w.heap.size + 1, k, none⟩) hylt).trans hcy)
        | (go_at_call 74; refine (psumP (A' k) A3 (C' k) c3 (X k) (Q * Y k) (p - 1) _ (Hix.out.drew.bel hn3.bel) hn3.rd (by omega) (by omega) (by omega)).mono ?_; rintro e w4 ⟨A4, c4, rfl, hn4⟩; have hcx4 : w4.cell? ⟨w.heap.size, k, none⟩ = some (.slice (A' k) (X k).len (C' k)) := (hn4.bel.cell (p := ⟨w.heap.size, k, none⟩) (Nat.lt_of_lt_of_le hxlt hn3.bel.size)).trans hcx3; have hfx4 : w4.frozen? ⟨w.heap.size, k, none⟩ = false := (hn4.bel.frozen (p := ⟨w.heap.size, k, none⟩) (Nat.lt_of_lt_of_le hxlt hn3.bel.size)).trans ((hn3.bel.frozen (p := ⟨w.heap.size, k, none⟩) hxlt).trans hfx)))
      all_goals
        have hZ : X k + Poly.C (Zp.of ⟨p, hp⟩ (p - 1)) * (Q * Y k) = nextZ X Y k := by
          unfold nextZ
          rw [HQe.out]; exact less_times (q := ⟨p, hp⟩) _ _
        rw [hZ] at hn4 ⊢
        have hbt : Below wo.heap.size wo w4 := below_tr (below_tr ((Below.refl wo.heap.size wo).drew) hn3.bel) hn4.bel
        have hx9 : Tri (w4.setCell ⟨w.heap.size, k, none⟩ (.slice A4 (nextZ X Y k).len c4)) w.heap.size (fun i => if i = k then A4 else A' i) (fun i => (mixZ X Y (k + 1) i).len) (fun i => if i = k then c4 else C' i) :=
          ((hx.bel hbt).set k A4 _ c4).congr fun i hi => by
            refine ⟨rfl, ?_, rfl⟩
            show (if i = k then (nextZ X Y k).len else (mixZ X Y k i).len) = (mixZ X Y (k + 1) i).len
            unfold mixZ
            by_cases e : i = k
            · subst e; rw [if_pos rfl, if_pos (by omega)]
            · rw [if_neg e]
              by_cases e2 : i < k
              · rw [if_pos e2, if_pos (by omega)]
              · rw [if_neg e2, if_neg (by omega)]
        have hfar : ∀ {A : Option Addr} {n : Nat} {xs : List Int}, Ints w4 A n xs → Ints (w4.setCell ⟨w.heap.size, k, none⟩ (.slice A4 (nextZ X Y k).len c4)) A n xs := fun h => h.far hcx4 (fun _ _ => by simp)
        have hI9 : Hid (Ints3 (w4.setCell ⟨w.heap.size, k, none⟩ (.slice A4 (nextZ X Y k).len c4)) (fun i => if i = k then A4 else A' i) (mixZ X Y (k + 1))) := by
          intro i hi
          by_cases e : i = k
          · subst e
            simp only [if_true]
            have em : mixZ X Y (i + 1) i = nextZ X Y i := if_pos (by omega)
            rw [em]
            exact hfar hn4.rd
          · simp only [if_neg e]
            have em : mixZ X Y (k + 1) i = mixZ X Y k i := by
              unfold mixZ
              by_cases e2 : i < k
              · rw [if_pos e2, if_pos (by omega)]
              · rw [if_neg e2, if_neg (by omega)]
            rw [em]
            exact hfar ((hI.out i hi).bel hbt)
        have hs9 : Hid (∀ i, k + 1 ≤ i → (fun i => if i = k then A4 else A' i) i = A i ∧ (fun i => if i = k then c4 else C' i) i = C i) := fun i hi => by
          simp only [if_neg (show ¬ i = k by omega)]
          exact hsame.out i (by omega)
        have hy9 := (hy.bel hbt).far (p := ⟨w.heap.size, k, none⟩) (by show w.heap.size + 1 ≠ w.heap.size; omega) (.slice A4 (nextZ X Y k).len c4)
        have hz9 := (hz.bel hbt).far (p := ⟨w.heap.size, k, none⟩) (by show w.heap.size + 1 + 1 ≠ w.heap.size; omega) (.slice A4 (nextZ X Y k).len c4)
        have hq9 := Lib.hid (hfar (hQ2.out.bel hbt))
        have hY9 : Hid (Ints3 (w4.setCell ⟨w.heap.size, k, none⟩ (.slice A4 (nextZ X Y k).len c4)) B Y) := fun i hi => hfar ((hY2.out i hi).bel hbt)
        have hb9 := (hbel.trans (hbt.mono hbel.size)).setCell (p := ⟨w.heap.size, k, none⟩) (Nat.le_refl _) (.slice A4 (nextZ X Y k).len c4)
        clear hZ hfar hbt hcx3 hcy3 hcx4 hfx4 hn3 hn4 hx hy hz
        generalize w4.setCell ⟨w.heap.size, k, none⟩ (.slice A4 (nextZ X Y k).len c4) = w9 at *
        go_wp2
        go_roundw
        case rel => exact ⟨k + 1, _, _, by omega, by go_num, hx9, hI9, hs9, hy9, hz9, hq9, hY9, hb9⟩
        case measure => simp [intOf]; omega
    · obtain rfl : k = 3 := by omega
      have hm3 : Hid (∀ i, i < 3 → mixZ X Y 3 i = nextZ X Y i) := fun i hi => if_pos hi
      have hcz0 := hz.cell (i := 0) (by omega)
      have hcz1 := hz.cell (i := 1) (by omega)
      have hcz2 := hz.cell (i := 2) (by omega)
      have hfz0 := hz.frozen 0
      have hfz1 := hz.frozen 1
      have hfz2 := hz.frozen 2
      have hcx0 := hx.cell (i := 0) (by omega)
      have hcx1 := hx.cell (i := 1) (by omega)
      have hcx2 := hx.cell (i := 2) (by omega)
      rw [hm3.out 0 (by omega)] at hcx0
      rw [hm3.out 1 (by omega)] at hcx1
      rw [hm3.out 2 (by omega)] at hcx2
      go_wp2
      have hzf := ((hz.set 0 (A' 0) (nextZ X Y 0).len (C' 0)).set 1 (A' 1) (nextZ X Y 1).len (C' 1)).set 2 (A' 2) (nextZ X Y 2).len (C' 2)
      have hbf := ((hbel.setCell (p := ⟨w.heap.size + 1 + 1, 0, none⟩) (by simp; omega) (.slice (A' 0) (nextZ X Y 0).len (C' 0))).setCell (p := ⟨w.heap.size + 1 + 1, 1, none⟩) (by simp; omega) (.slice (A' 1) (nextZ X Y 1).len (C' 1))).setCell (p := ⟨w.heap.size + 1 + 1, 2, none⟩) (by simp; omega) (.slice (A' 2) (nextZ X Y 2).len (C' 2))
      have hif : Ints3 (((wo.setCell ⟨w.heap.size + 1 + 1, 0, none⟩ (.slice (A' 0) (nextZ X Y 0).len (C' 0))).setCell ⟨w.heap.size + 1 + 1, 1, none⟩ (.slice (A' 1) (nextZ X Y 1).len (C' 1))).setCell ⟨w.heap.size + 1 + 1, 2, none⟩ (.slice (A' 2) (nextZ X Y 2).len (C' 2))) A' (nextZ X Y) := fun i hi => by
        have h0 := hI.out i hi
        rw [hm3.out i hi] at h0
        exact ((h0.far (hz.cell (i := 0) (by omega)) (fun _ _ => by simp)).far ((hz.set 0 (A' 0) (nextZ X Y 0).len (C' 0)).cell (i := 1) (by omega)) (fun _ _ => by simp)).far (((hz.set 0 (A' 0) (nextZ X Y 0).len (C' 0)).set 1 (A' 1) (nextZ X Y 1).len (C' 1)).cell (i := 2) (by omega)) (fun _ _ => by simp)
      exact bodyPost_ret (v := .agg #[.slice (A' 0) (nextZ X Y 0).len (C' 0), .slice (A' 1) (nextZ X Y 1).len (C' 1), .slice (A' 2) (nextZ X Y 2).len (C' 2)]) (results_cell_row (fn := Tryz.f117) rfl _ _ _ _ _ _ _ rfl hzf Tryz.underlying123 rfl row_size) rfl ⟨A', C', rfl, hif, hbf⟩
end Go.Proofs.YtpikakapflebkaaGreat

namespace Go.Proofs.YtpikakapflebkaaGreat
open Go.RowKit Cl
attribute [local go_sem ↓] Go.wp_at_zero Go.wp_at_succ

section
variable {q : Prm}
/-- Three polynomials beside an error's number. -/
def GivesP3E (w : World) (a b c : Poly (Zp q)) (err : Int) (e : Ending) (w' : World) : Prop :=
  ∃ A k B l C m, e = .returned (.tuple #[.slice A a.len k, .slice B b.len l, .slice C c.len m, .int .i64 err]) ∧ Ints w' A a.len (fromP a) ∧ Ints w' B b.len (fromP b) ∧ Ints w' C c.len (fromP c) ∧ Below w.heap.size w w'
/-- The same; the first one, if it is not nought, lies in a new block. -/
def GivesP3N (w : World) (a b c : Poly (Zp q)) (err : Int) (e : Ending) (w' : World) : Prop :=
  ∃ A k B l C m, e = .returned (.tuple #[.slice A a.len k, .slice B b.len l, .slice C c.len m, .int .i64 err]) ∧ Ints w' A a.len (fromP a) ∧ Ints w' B b.len (fromP b) ∧ Ints w' C c.len (fromP c) ∧ Below w.heap.size w w' ∧ (a ≠ 0 → ∀ y, A = some y → w.heap.size ≤ y.block)
theorem _root_.Cl.NewInts.fresh {t : TypeId} {w w' : World} {A : Option Addr} {c n : Nat} {ys : List Int} (h : NewInts t w w' A c n ys) (x : Addr) (hx : A = some x) : w.heap.size ≤ x.block := by
  rcases h.own.2 with ⟨hv, _⟩ | ⟨g, cap, cur, hv, hg, _⟩
  · injection hv with h1; rw [h1] at hx; cases hx
  · injection hv with h1; rw [h1] at hx; cases hx; exact hg
def rowOf (X : Nat → Poly (Zp q)) : Poly.Row3 (Zp q) := ⟨X 0, X 1, X 2⟩
def fnOf (a b c : Poly (Zp q)) (i : Nat) : Poly (Zp q) := if i = 0 then a else if i = 1 then b else c
theorem next_row (X Y : Nat → Poly (Zp q)) : rowOf (nextZ X Y) = Poly.Row3.next (rowOf X) (rowOf Y) := rfl
end
theorem ints_one {p : Int} (hp : Pr p) {w : World} {g : Nat} (h : Row w g 3 [1]) : Ints w (some ⟨g, 0, none⟩) (1 : Poly (Zp ⟨p, hp⟩)).len (fromP (1 : Poly (Zp ⟨p, hp⟩))) := by
  rw [fromP_one hp, Poly.len_one]
  exact h.ints (fun i => by
    match i with
    | 0 => exact I64.small (by decide) (by decide)
    | i + 1 => rw [nth_ge (by simp)]; exact I64.zero)
theorem ints_nil {q : Prm} (w : World) : Ints w none (0 : Poly (Zp q)).len (fromP (0 : Poly (Zp q))) := by
  rw [fromP_zero, Poly.len_zero]
  exact ⟨rfl, fun h => absurd h (by omega), fun i => by rw [nth_ge (by simp)]; exact I64.zero⟩

theorem Tri.set3 {w : World} {g : Nat} {A : Nat → Option Addr} {N C : Nat → Nat} (h : Tri w g A N C) (A' : Nat → Option Addr) (N' C' : Nat → Nat) :
    Tri (((w.setCell ⟨g, 0, none⟩ (.slice (A' 0) (N' 0) (C' 0))).setCell ⟨g, 1, none⟩ (.slice (A' 1) (N' 1) (C' 1))).setCell ⟨g, 2, none⟩ (.slice (A' 2) (N' 2) (C' 2))) g A' N' C' :=
  (((h.set 0 (A' 0) (N' 0) (C' 0)).set 1 (A' 1) (N' 1) (C' 1)).set 2 (A' 2) (N' 2) (C' 2)).congr fun i hi => by
    match i, hi with
    | 0, _ => exact ⟨rfl, rfl, rfl⟩
    | 1, _ => exact ⟨rfl, rfl, rfl⟩
    | 2, _ => exact ⟨rfl, rfl, rfl⟩
theorem Tri.far3 {w : World} {g g' : Nat} {A : Nat → Option Addr} {N C : Nat → Nat} (h : Tri w g A N C) (hne : g ≠ g') (A' : Nat → Option Addr) (N' C' : Nat → Nat) :
    Tri (((w.setCell ⟨g', 0, none⟩ (.slice (A' 0) (N' 0) (C' 0))).setCell ⟨g', 1, none⟩ (.slice (A' 1) (N' 1) (C' 1))).setCell ⟨g', 2, none⟩ (.slice (A' 2) (N' 2) (C' 2))) g A N C :=
  ((h.far (p := ⟨g', 0, none⟩) hne _).far (p := ⟨g', 1, none⟩) hne _).far (p := ⟨g', 2, none⟩) hne _
theorem Tri.ints3 {w : World} {g : Nat} {A : Nat → Option Addr} {N C : Nat → Nat} (h : Tri w g A N C) (A' : Nat → Option Addr) (N' C' : Nat → Nat) {B : Option Addr} {n : Nat} {xs : List Int} (hi : Ints w B n xs) :
    Ints (((w.setCell ⟨g, 0, none⟩ (.slice (A' 0) (N' 0) (C' 0))).setCell ⟨g, 1, none⟩ (.slice (A' 1) (N' 1) (C' 1))).setCell ⟨g, 2, none⟩ (.slice (A' 2) (N' 2) (C' 2))) B n xs :=
  ((hi.far (h.cell (i := 0) (by omega)) (fun _ _ => by simp)).far ((h.set 0 (A' 0) (N' 0) (C' 0)).cell (i := 1) (by omega)) (fun _ _ => by simp)).far (((h.set 0 (A' 0) (N' 0) (C' 0)).set 1 (A' 1) (N' 1) (C' 1)).cell (i := 2) (by omega)) (fun _ _ => by simp)
theorem below_set3 {w0 w : World} {B g : Nat} (h : Below B w0 w) (hg : B ≤ g) (u v x : Value) : Below B w0 (((w.setCell ⟨g, 0, none⟩ u).setCell ⟨g, 1, none⟩ v).setCell ⟨g, 2, none⟩ x) :=
  ((h.setCell (p := ⟨g, 0, none⟩) hg u).setCell (p := ⟨g, 1, none⟩) hg v).setCell (p := ⟨g, 2, none⟩) hg x

theorem results_tmp4 {fn : Func} {t u v x : Tmp} (h : fn.results = #[.tmp t, .tmp u, .tmp v, .tmp x]) (tmps : Array Value) (P : Program) (w : World) :
    (results fn tmps).run P w = .ok (.tuple #[tmps.getD t undef, tmps.getD u undef, tmps.getD v undef, tmps.getD x undef]) w := by
  simp [results, h]
section
variable {q : Prm}
/-- The row by a residue, the first k of it done. -/
noncomputable def monZ (X : Nat → Poly (Zp q)) (k i : Nat) : Poly (Zp q) := if i < k then Poly.C (CField.inv (X 0).lc) * X i else X i
theorem monZ_at (X : Nat → Poly (Zp q)) (k : Nat) : monZ X k k = X k := if_neg (by omega)
theorem monZ_lt (X : Nat → Poly (Zp q)) {k i : Nat} (h : i < k) : monZ X k i = Poly.C (CField.inv (X 0).lc) * X i := if_pos h
end

set_option maxRecDepth 100000 in
set_option maxHeartbeats 8000000 in
theorem pbezout_new (A B : Option Addr) (n c m d : Nat) (xs ys : List Int) (p : Int) (w : World) (hp : Pr p) (hx : Ints w A n xs) (hy : Ints w B m ys) (hn : n ≤ 900000000) (hm : m ≤ 900000000) :
    Calls Tryz.prog 80 #[.slice A n c, .slice B m d, .int .i64 p] w (GivesP3N w (Poly.bezR (toP ⟨p, hp⟩ xs) (toP ⟨p, hp⟩ ys)).g (Poly.bezR (toP ⟨p, hp⟩ xs) (toP ⟨p, hp⟩ ys)).s (Poly.bezR (toP ⟨p, hp⟩ xs) (toP ⟨p, hp⟩ ys)).t 0) := by
  have hp1 := hp.two
  have hp2 := hp.max
  have Ca := Lib.hid (pplain_any A n c xs p w hp hx (by omega))
  have Cb := Lib.hid (fun W (h : Below w.heap.size w W) => pplain_any B m d ys p W hp (hy.bel h) (by omega))
  have hla : (toP ⟨p, hp⟩ xs).len ≤ n := len_le_toP hx.len
  have hlb : (toP ⟨p, hp⟩ ys).len ≤ m := len_le_toP hy.len
  generalize toP ⟨p, hp⟩ xs = a at *
  generalize toP ⟨p, hp⟩ ys = b at *
  go_enter Tryz.func80, Tryz.ntmps80
  go_wp2_with fail
  refine (chk_yes _ _ (by omega) (by omega) ((isPrime_iff p).2 hp)).mono ?_
  rintro e w' ⟨rfl, rfl⟩
  go_wp2_with fail
  refine Ca.out.mono ?_
  rintro e w1 ⟨A1, c1, rfl, hn1⟩
  have hb1 := hn1.bel
  have hr1 := hn1.rd
  clear hn1
  go_wp2_with fail
  refine (Cb.out _ (by exact hb1.alloc hb1.size _)).mono ?_
  rintro e w2 ⟨A2, c2, rfl, hn2⟩
  go_wp2_with fail
  have hb2 : Below w.heap.size w w2 := (hb1.alloc hb1.size _).trans (hn2.bel.mono (by have := hb1.size; simp; omega))
  have hone1 : Row w2 w1.heap.size 3 [1] := (Row.new w1 3 [1]).bel hn2.bel
  have ha2 : Ints w2 A1 a.len (fromP a) := (hr1.alloc _).bel hn2.bel
  have hbr2 := hn2.rd
  have hs2 := hb2.size
  clear hn2 hr1
  have htx0 : Hid (Tri (((w2.alloc (.cells #[.int .i64 1] 3)).alloc (.cells #[.slice A1 a.len c1, .slice (some ⟨w1.heap.size, 0, none⟩) 1 1, .slice none 0 0] 123)).alloc (.cells #[.slice A2 b.len c2, .slice none 0 0, .slice (some ⟨w2.heap.size, 0, none⟩) 1 1] 123)) (w2.heap.size + 1)
      (fun i => if i = 0 then A1 else if i = 1 then some ⟨w1.heap.size, 0, none⟩ else none) (fun i => (fnOf a 1 0 i).len) (fun i => if i = 0 then c1 else if i = 1 then 1 else 0)) := by
    have h := (Tri.new (w2.alloc (.cells #[.int .i64 1] 3)) (fun i => if i = 0 then A1 else if i = 1 then some ⟨w1.heap.size, 0, none⟩ else none) (fun i => if i = 0 then a.len else if i = 1 then 1 else 0) (fun i => if i = 0 then c1 else if i = 1 then 1 else 0)).bel ((Below.refl _ _).alloc (Nat.le_refl _) (.cells #[.slice A2 b.len c2, .slice none 0 0, .slice (some ⟨w2.heap.size, 0, none⟩) 1 1] 123))
    rw [World.size_alloc] at h
    exact h.congr fun i hi => by
      match i, hi with
      | 0, _ => exact ⟨rfl, rfl, rfl⟩
      | 1, _ => exact ⟨rfl, (Poly.len_one).symm, rfl⟩
      | 2, _ => exact ⟨rfl, (Poly.len_zero).symm, rfl⟩
  have hty0 : Hid (Tri (((w2.alloc (.cells #[.int .i64 1] 3)).alloc (.cells #[.slice A1 a.len c1, .slice (some ⟨w1.heap.size, 0, none⟩) 1 1, .slice none 0 0] 123)).alloc (.cells #[.slice A2 b.len c2, .slice none 0 0, .slice (some ⟨w2.heap.size, 0, none⟩) 1 1] 123)) (w2.heap.size + 1 + 1)
      (fun i => if i = 0 then A2 else if i = 1 then none else some ⟨w2.heap.size, 0, none⟩) (fun i => (fnOf b 0 1 i).len) (fun i => if i = 0 then c2 else if i = 1 then 0 else 1)) := by
    have h := Tri.new ((w2.alloc (.cells #[.int .i64 1] 3)).alloc (.cells #[.slice A1 a.len c1, .slice (some ⟨w1.heap.size, 0, none⟩) 1 1, .slice none 0 0] 123)) (fun i => if i = 0 then A2 else if i = 1 then none else some ⟨w2.heap.size, 0, none⟩) (fun i => if i = 0 then b.len else if i = 1 then 0 else 1) (fun i => if i = 0 then c2 else if i = 1 then 0 else 1)
    rw [World.size_alloc, World.size_alloc] at h
    exact h.congr fun i hi => by
      match i, hi with
      | 0, _ => exact ⟨rfl, rfl, rfl⟩
      | 1, _ => exact ⟨rfl, (Poly.len_zero).symm, rfl⟩
      | 2, _ => exact ⟨rfl, (Poly.len_one).symm, rfl⟩
  have hbW : Hid (Below w2.heap.size w2 (((w2.alloc (.cells #[.int .i64 1] 3)).alloc (.cells #[.slice A1 a.len c1, .slice (some ⟨w1.heap.size, 0, none⟩) 1 1, .slice none 0 0] 123)).alloc (.cells #[.slice A2 b.len c2, .slice none 0 0, .slice (some ⟨w2.heap.size, 0, none⟩) 1 1] 123))) :=
    (((Below.refl _ _).alloc (Nat.le_refl _) _).alloc (by simp) _).alloc (by simp; omega) _
  have hix0 : Hid (Ints3 (((w2.alloc (.cells #[.int .i64 1] 3)).alloc (.cells #[.slice A1 a.len c1, .slice (some ⟨w1.heap.size, 0, none⟩) 1 1, .slice none 0 0] 123)).alloc (.cells #[.slice A2 b.len c2, .slice none 0 0, .slice (some ⟨w2.heap.size, 0, none⟩) 1 1] 123)) (fun i => if i = 0 then A1 else if i = 1 then some ⟨w1.heap.size, 0, none⟩ else none) (fnOf a 1 0)) := fun i hi => by
    match i, hi with
    | 0, _ => exact ha2.bel hbW.out
    | 1, _ => exact ints_one hp (hone1.bel hbW.out)
    | 2, _ => exact ints_nil _
  have hiy0 : Hid (Ints3 (((w2.alloc (.cells #[.int .i64 1] 3)).alloc (.cells #[.slice A1 a.len c1, .slice (some ⟨w1.heap.size, 0, none⟩) 1 1, .slice none 0 0] 123)).alloc (.cells #[.slice A2 b.len c2, .slice none 0 0, .slice (some ⟨w2.heap.size, 0, none⟩) 1 1] 123)) (fun i => if i = 0 then A2 else if i = 1 then none else some ⟨w2.heap.size, 0, none⟩) (fnOf b 0 1)) := fun i hi => by
    match i, hi with
    | 0, _ => exact hbr2.bel hbW.out
    | 1, _ => exact ints_nil _
    | 2, _ =>
      have h1 := ((Row.new w2 3 [1]).alloc (.cells #[.slice A1 a.len c1, .slice (some ⟨w1.heap.size, 0, none⟩) 1 1, .slice none 0 0] 123)).alloc (.cells #[.slice A2 b.len c2, .slice none 0 0, .slice (some ⟨w2.heap.size, 0, none⟩) 1 1] 123)
      exact ints_one hp h1
  have heb0 : Hid (Poly.EB 900000000 (fnOf a 1 0) (fnOf b 0 1)) := by
    refine ⟨by show a.len ≤ _; omega, by show b.len ≤ _; omega, fun i hi => ?_, fun i hi => ?_⟩
    · match i, hi with
      | 1, _ => show (1 : Poly (Zp ⟨p, hp⟩)).len + b.len ≤ _; rw [Poly.len_one]; omega
      | i + 2, _ => show (0 : Poly (Zp ⟨p, hp⟩)).len + b.len ≤ _; rw [Poly.len_zero]; omega
    · match i, hi with
      | 1, _ => show (0 : Poly (Zp ⟨p, hp⟩)).len + a.len ≤ _; rw [Poly.len_zero]; omega
      | i + 2, _ => show (1 : Poly (Zp ⟨p, hp⟩)).len + a.len ≤ _; rw [Poly.len_one]; omega
  have hb3 := Lib.hid (hb2.trans (hbW.out.mono hs2))
  clear hone1 ha2 hbr2 hbW hb2 hb1
  have hgx : w.heap.size ≤ w2.heap.size + 1 := by omega
  have hgy : w.heap.size ≤ w2.heap.size + 1 + 1 := by omega
  generalize hGX : w2.heap.size + 1 = gx at *
  generalize hGY : gx + 1 = gy at *
  have hne : gx ≠ gy := by omega
  have Hne := Lib.hid hne
  clear hGX hGY hs2 hne
  go_loopg [31] (b.len + 1) (fun gk _ wr => ∃ (X Y : Nat → Poly (Zp ⟨p, hp⟩)) (A' B' : Nat → Option Addr) (C' D' : Nat → Nat), (Y 0).len < gk ∧ Tri wr gx A' (fun i => (X i).len) C' ∧ Tri wr gy B' (fun i => (Y i).len) D' ∧ Hid (Ints3 wr A' X) ∧ Hid (Ints3 wr B' Y) ∧ Hid (Poly.EB 900000000 X Y) ∧ Hid (Poly.eucl (rowOf X) (rowOf Y) = Poly.eucR a b) ∧ Hid (Below w.heap.size w wr))
  case atStart => exact ⟨_, _, _, _, _, _, Nat.lt_succ_self _, htx0.out, hty0.out, hix0, hiy0, heb0, rfl, hb3⟩
  case round =>
    obtain ⟨X, Y, A', B', C', D', hgk, hx, hy, hX, hY, heb, heu, hbel⟩ := hrel
    clear htx0 hty0 hix0 hiy0 heb0 hb3
    have hcy0 := hy.cell (i := 0) (by omega)
    have hcx0 := hx.cell (i := 0) (by omega)
    by_cases h0 : Y 0 = 0
    · have hyz : (Y 0).len = 0 := by rw [h0]; exact Poly.len_zero
      have Heu : Hid (Poly.eucR a b = rowOf X) := heu.out.symm.trans (Poly.eucl_zero (x := rowOf X) (y := rowOf Y) h0)
      rw [hyz] at hcy0
      have hcx1 := hx.cell (i := 1) (by omega)
      have hcx2 := hx.cell (i := 2) (by omega)
      have hxl := (heb.out.le 0).1
      have hxl1 := (heb.out.le 1).1
      have hxl2 := (heb.out.le 2).1
      by_cases hx0 : X 0 = 0
      · have hxz : (X 0).len = 0 := by rw [hx0]; exact Poly.len_zero
        have Hb : Hid (Poly.bezR a b = rowOf X) := (Poly.bezR_zero (by rw [Heu.out]; exact hx0)).trans Heu.out
        have Hfin : Hid (∀ n, GivesP3N w (Poly.bezR a b).g (Poly.bezR a b).s (Poly.bezR a b).t 0 (.returned (.tuple #[.slice (A' 0) 0 (C' 0), .slice (A' 1) (X 1).len (C' 1), .slice (A' 2) (X 2).len (C' 2), .int .i64 0])) (wr.drewN n)) := by
          intro n
          rw [Hb.out]
          refine ⟨A' 0, C' 0, A' 1, C' 1, A' 2, C' 2, ?_, (hX.out 0 (by omega)).drewN n, (hX.out 1 (by omega)).drewN n, (hX.out 2 (by omega)).drewN n, below_drewN hbel.out n, fun h => absurd hx0 h⟩
          show _ = Ending.returned (.tuple #[.slice (A' 0) (X 0).len (C' 0), .slice (A' 1) (X 1).len (C' 1), .slice (A' 2) (X 2).len (C' 2), .int .i64 0])
          rw [hxz]
        rw [hxz] at hcx0
        clear h0 hx0 hyz hxz hxl
        go_wp2
        go_quiet (fail)
        go_wp2
        (try simp only [Exit.inBlock, Exit.then]); refine bodyPost_ret (results_tmp4 rfl _ _ _) rfl ?_
        exact Hfin.out _
      · have hlp := Poly.len_pos hx0
        have Hlc : Hid (Zp.of ⟨p, hp⟩ (nth (fromP (X 0)) ((X 0).len - 1)) = (X 0).lc) := fromP_top hx0
        have hbd := fromP_lt (X 0) ((X 0).len - 1)
        have htop := (fromP_pl (X 0)).top (by rw [fromP_length]; exact hlp)
        rw [fromP_length] at htop
        have Hbd : Hid (0 < nth (fromP (X 0)) ((X 0).len - 1) ∧ nth (fromP (X 0)) ((X 0).len - 1) < p) := ⟨by have := hbd.1; omega, hbd.2⟩
        have Hb : Hid (Poly.bezR a b = ⟨(X 0).monic, Poly.C (CField.inv (X 0).lc) * X 1, Poly.C (CField.inv (X 0).lc) * X 2⟩) := by
          show _ = _
          rw [Poly.bezR_ne (by rw [Heu.out]; exact hx0), Heu.out]; rfl
        obtain ⟨b0, o0, hA0, hb0, hc0⟩ := (hX.out 0 (by omega)).at_ hlp
        obtain ⟨L, hL⟩ : ∃ L, (X 0).len = L + 1 := ⟨(X 0).len - 1, by omega⟩
        have HL := Lib.hid hL
        have HA0 := Lib.hid hA0
        have hcl := hc0 L (by omega)
        rw [hL] at hxl Hlc Hbd
        simp only [Nat.add_sub_cancel] at Hlc Hbd
        have hcx0' := hcx0
        rw [hL, hA0] at hcx0
        clear h0 hx0 hyz hL hA0 hlp hbd htop hc0
        have Hsc := Lib.hid (fun (k : Nat) (W : World) (Ak : Option Addr) (ck : Nat) (h : Ints W Ak (X k).len (fromP (X k))) (hl : (X k).len ≤ 900000001) => pscaled_any (hp := hp) Ak _ ck (X k) (nth (fromP (X 0)) L) W h (by omega) Hbd.out)
        generalize hcc : nth (fromP (X 0)) L = cc at *
        have hc1 : Hid (0 < cc ∧ cc < p) := Hbd.out
        clear hcc Hbd
        obtain ⟨wo, rfl⟩ : ∃ wo : World, wo = wr := ⟨_, rfl⟩
        have hmz : Hid (∀ i, monZ X 0 i = X i) := fun i => if_neg (by omega)
        have hx0 : Tri wo gx A' (fun i => (monZ X 0 i).len) C' := by
          refine hx.congr fun i _ => ⟨rfl, ?_, rfl⟩
          show (X i).len = _
          rw [hmz.out]
        have hI0 : Hid (Ints3 wo A' (monZ X 0)) := fun i hi => by rw [hmz.out]; exact hX.out i hi
        have hle : Hid (∀ k, k < 3 → (X k).len ≤ 900000001) := fun k _ => (heb.out.le k).1
        have hLp : (0 : Int) < (L : Int) + 1 := by omega
        clear hmz hx hcx0' hcx1 hcx2 hxl1 hxl2 hX hY heb heu hy
        go_wp2
        go_loopw [51] (fun i wr => ∃ (k : Nat) (A2 : Nat → Option Addr) (C2 : Nat → Nat), k ≤ 3 ∧ i = .int .i64 k ∧ Tri wr gx A2 (fun i => (monZ X k i).len) C2 ∧ Hid (Ints3 wr A2 (monZ X k)) ∧ Hid (Below w.heap.size w wr) ∧ Hid (∀ i, i < k → ∀ y, A2 i = some y → w.heap.size ≤ y.block)) (fun i _ => 3 - (intOf i).toNat)
        case atStart => exact ⟨0, A', C', by omega, rfl, hx0, hI0, hbel, fun i hi => absurd hi (by omega)⟩
        case round =>
          obtain ⟨k, A2, C2, hk, rfl, hx2, hI2, hbel2, hN2⟩ := hrel
          clear hx0 hI0 hcx0 hcl hcy0
          by_cases hlt : k < 3
          · have hcx := hx2.cell (i := k) hlt
            have hfx := hx2.frozen k
            have hix := hI2.out k hlt
            rw [monZ_at] at hix hcx
            have cs := Hsc.out k wr (A2 k) (C2 k) hix (hle.out k hlt)
            rw [Hlc.out] at cs
            have Cs := Lib.hid cs
            have hlt3 : (k : Int) < 3 := by omega
            have hk0 : (0 : Int) ≤ (k : Int) := by omega
            have hxlt := hx2.lt
            clear cs hix
            go_wp2_with (go_at_call 79; refine Cs.out.mono ?_; rintro e w4 ⟨A4, c4, rfl, hn4⟩; have hfx4 : w4.frozen? ⟨gx, k, none⟩ = false := (hn4.bel.frozen (p := ⟨gx, k, none⟩) hxlt).trans hfx; have hcx4 := (hn4.bel.cell (p := ⟨gx, k, none⟩) hxlt).trans hcx)
            have hx9 : Tri (w4.setCell ⟨gx, k, none⟩ (.slice A4 (Poly.C (CField.inv (X 0).lc) * X k).len c4)) gx (fun i => if i = k then A4 else A2 i) (fun i => (monZ X (k + 1) i).len) (fun i => if i = k then c4 else C2 i) :=
              ((hx2.bel hn4.bel).set k A4 _ c4).congr fun i hi => by
                refine ⟨rfl, ?_, rfl⟩
                show (if i = k then (Poly.C (CField.inv (X 0).lc) * X k).len else (monZ X k i).len) = (monZ X (k + 1) i).len
                unfold monZ
                by_cases e : i = k
                · subst e; rw [if_pos rfl, if_pos (by omega)]
                · rw [if_neg e]
                  by_cases e2 : i < k
                  · rw [if_pos e2, if_pos (by omega)]
                  · rw [if_neg e2, if_neg (by omega)]
            have hfar : ∀ {A : Option Addr} {n : Nat} {xs : List Int}, Ints w4 A n xs → Ints (w4.setCell ⟨gx, k, none⟩ (.slice A4 (Poly.C (CField.inv (X 0).lc) * X k).len c4)) A n xs := fun h => h.far hcx4 (fun _ _ => by simp)
            have hI9 : Hid (Ints3 (w4.setCell ⟨gx, k, none⟩ (.slice A4 (Poly.C (CField.inv (X 0).lc) * X k).len c4)) (fun i => if i = k then A4 else A2 i) (monZ X (k + 1))) := by
              intro i hi
              by_cases e : i = k
              · subst e
                simp only [if_true]
                rw [monZ_lt X (by omega)]
                exact hfar hn4.rd
              · simp only [if_neg e]
                have em : monZ X (k + 1) i = monZ X k i := by
                  unfold monZ
                  by_cases e2 : i < k
                  · rw [if_pos e2, if_pos (by omega)]
                  · rw [if_neg e2, if_neg (by omega)]
                rw [em]
                exact hfar ((hI2.out i hi).bel hn4.bel)
            have hb9 : Hid (Below w.heap.size w (w4.setCell ⟨gx, k, none⟩ (.slice A4 (Poly.C (CField.inv (X 0).lc) * X k).len c4))) := (below_tr hbel2.out hn4.bel).setCell (p := ⟨gx, k, none⟩) hgx _
            have hN9 : Hid (∀ i, i < k + 1 → ∀ y, (fun i => if i = k then A4 else A2 i) i = some y → w.heap.size ≤ y.block) := by
              intro i hi y hy
              by_cases e : i = k
              · subst e
                simp only [if_true] at hy
                have h1 := hn4.fresh y hy
                have h2 := hbel2.out.size
                omega
              · simp only [if_neg e] at hy
                exact hN2.out i (by omega) y hy
            clear hfx4 hcx4 hfx hcx hfar hx2 hn4
            go_roundw
            case rel => exact ⟨k + 1, _, _, by omega, by go_num, hx9, hI9, hb9, hN9⟩
            case measure => simp [intOf]; omega
          · obtain rfl : k = 3 := by omega
            have hc0 := hx2.cell (i := 0) (by omega)
            have hc1 := hx2.cell (i := 1) (by omega)
            have hc2 := hx2.cell (i := 2) (by omega)
            rw [monZ_lt X (by omega)] at hc0 hc1 hc2
            have Hfin : Hid (∀ n, GivesP3N w (Poly.bezR a b).g (Poly.bezR a b).s (Poly.bezR a b).t 0 (.returned (.tuple #[.slice (A2 0) (Poly.C (CField.inv (X 0).lc) * X 0).len (C2 0), .slice (A2 1) (Poly.C (CField.inv (X 0).lc) * X 1).len (C2 1), .slice (A2 2) (Poly.C (CField.inv (X 0).lc) * X 2).len (C2 2), .int .i64 0])) (wr.drewN n)) := by
              intro n
              rw [Hb.out]
              have g0 := hI2.out 0 (by omega)
              have g1 := hI2.out 1 (by omega)
              have g2 := hI2.out 2 (by omega)
              rw [monZ_lt X (by omega)] at g0 g1 g2
              exact ⟨A2 0, C2 0, A2 1, C2 1, A2 2, C2 2, rfl, g0.drewN n, g1.drewN n, g2.drewN n, below_drewN hbel2.out n, fun _ => hN2.out 0 (by omega)⟩
            clear hx2 hI2
            go_wp2
            go_quiet (fail)
            go_wp2
            (try simp only [Exit.inBlock, Exit.then]); refine bodyPost_ret (results_tmp4 rfl _ _ _) rfl ?_
            exact Hfin.out _
    · have hlp := Poly.len_pos h0
      have hcy1 := hy.cell (i := 1) (by omega)
      have hcx1 := hx.cell (i := 1) (by omega)
      have hcy2 := hy.cell (i := 2) (by omega)
      have hcx2 := hx.cell (i := 2) (by omega)
      have hxlt := hx.lt
      have hylt := hy.lt
      have hf := fun i => hx.frozen i
      have hg := fun i => hy.frozen i
      have Hf := Lib.hid hf
      have Hg := Lib.hid hg
      have hpos : (0 : Int) < ((Y 0).len : Int) := by omega
      clear hf hg
      have hne1 : ¬ gx = gy := Hne.out
      have hne2 : ¬ gy = gx := fun h => Hne.out h.symm
      go_wp2
      go_region_with (first
        | (go_at_call 117; refine (pnext_any A' B' C' D' X Y _ hX.out.drew hY.out.drew (fun i _ => by have := (heb.out.le i).1; omega) (fun i _ => by have := (heb.out.le i).2; omega) h0).mono ?_; rintro e w5 ⟨A5, C5, rfl, hI5, hb5⟩; have k0 := (hb5.cell (p := ⟨gx, 0, none⟩) hxlt).trans hcx0; have k1 := (hb5.cell (p := ⟨gx, 1, none⟩) hxlt).trans hcx1; have k2 := (hb5.cell (p := ⟨gx, 2, none⟩) hxlt).trans hcx2; have k3 := (hb5.cell (p := ⟨gy, 0, none⟩) hylt).trans hcy0; have k4 := (hb5.cell (p := ⟨gy, 1, none⟩) hylt).trans hcy1; have k5 := (hb5.cell (p := ⟨gy, 2, none⟩) hylt).trans hcy2; have f0 := (hb5.frozen (p := ⟨gx, 0, none⟩) hxlt).trans (Hf.out 0); have f1 := (hb5.frozen (p := ⟨gx, 1, none⟩) hxlt).trans (Hf.out 1); have f2 := (hb5.frozen (p := ⟨gx, 2, none⟩) hxlt).trans (Hf.out 2); have f3 := (hb5.frozen (p := ⟨gy, 0, none⟩) hylt).trans (Hg.out 0); have f4 := (hb5.frozen (p := ⟨gy, 1, none⟩) hylt).trans (Hg.out 1); have f5 := (hb5.frozen (p := ⟨gy, 2, none⟩) hylt).trans (Hg.out 2)))
      all_goals
        have hbw := (Below.refl wr.heap.size wr).drew
        have hx5 := (hx.bel hbw).bel hb5
        have hy5 := (hy.bel hbw).bel hb5
        have hx6 := hx5.set3 B' (fun i => (Y i).len) D'
        have hy6 := hy5.far3 (g' := gx) (fun h => Hne.out h.symm) B' (fun i => (Y i).len) D'
        have hx7 := hx6.far3 (g' := gy) Hne.out A5 (fun i => (nextZ X Y i).len) C5
        have hy7 := hy6.set3 A5 (fun i => (nextZ X Y i).len) C5
        have hY7 : Hid (Ints3 _ B' Y) := fun i hi => hy6.ints3 A5 (fun i => (nextZ X Y i).len) C5 (hx5.ints3 B' (fun i => (Y i).len) D' ((hY.out i hi).drew.bel hb5))
        have hZ7 : Hid (Ints3 _ A5 (nextZ X Y)) := fun i hi => hy6.ints3 A5 (fun i => (nextZ X Y i).len) C5 (hx5.ints3 B' (fun i => (Y i).len) D' (hI5 i hi))
        have hb7 : Hid (Below w.heap.size w _) := below_set3 (below_set3 (below_tr hbel.out.drew hb5) hgx (.slice (B' 0) (Y 0).len (D' 0)) (.slice (B' 1) (Y 1).len (D' 1)) (.slice (B' 2) (Y 2).len (D' 2))) hgy (.slice (A5 0) (nextZ X Y 0).len (C5 0)) (.slice (A5 1) (nextZ X Y 1).len (C5 1)) (.slice (A5 2) (nextZ X Y 2).len (C5 2))
        have heb7 : Hid (Poly.EB 900000000 Y (nextZ X Y)) := heb.out.next h0 (fun _ => rfl)
        have heu7 : Hid (Poly.eucl (rowOf Y) (rowOf (nextZ X Y)) = Poly.eucR a b) := (Poly.eucl_step (x := rowOf X) (y := rowOf Y) h0).symm.trans heu.out
        have hlt7 : (nextZ X Y 0).len < (Y 0).len := by
          have e : nextZ X Y 0 = Poly.rem (X 0) (Y 0) := Poly.Row3.next_g (x := rowOf X) (y := rowOf Y) h0
          rw [e]; exact Cl.rem_len' _ h0
        go_wp2
        go_roundg (Y 0).len
        case measure => omega
        case rel => exact ⟨Y, nextZ X Y, B', A5, D', C5, hlt7, hx7, hy7, hY7, hZ7, heb7, heu7, hb7⟩
theorem pbezout_yes (A B : Option Addr) (n c m d : Nat) (xs ys : List Int) (p : Int) (w : World) (hp : Pr p) (hx : Ints w A n xs) (hy : Ints w B m ys) (hn : n ≤ 900000000) (hm : m ≤ 900000000) :
    Calls Tryz.prog 80 #[.slice A n c, .slice B m d, .int .i64 p] w (GivesP3E w (Poly.bezR (toP ⟨p, hp⟩ xs) (toP ⟨p, hp⟩ ys)).g (Poly.bezR (toP ⟨p, hp⟩ xs) (toP ⟨p, hp⟩ ys)).s (Poly.bezR (toP ⟨p, hp⟩ xs) (toP ⟨p, hp⟩ ys)).t 0) :=
  (pbezout_new A B n c m d xs ys p w hp hx hy hn hm).mono fun _ _ ⟨A, k, B, l, C, m, h1, h2, h3, h4, h5, _⟩ => ⟨A, k, B, l, C, m, h1, h2, h3, h4, h5⟩
end Go.Proofs.YtpikakapflebkaaGreat

namespace Go.Proofs.YtpikakapflebkaaGreat
open Go.RowKit Cl
attribute [local go_sem ↓] Go.wp_at_zero Go.wp_at_succ

section
variable {q : Prm}
/-- Some list lies there that tells a. -/
def Rd (w : World) (A : Option Addr) (n : Nat) (a : Poly (Zp q)) : Prop := ∃ xs, Ints w A n xs ∧ toP q xs = a
theorem Rd.of {w : World} {A : Option Addr} {a : Poly (Zp q)} (h : Ints w A a.len (fromP a)) : Rd w A a.len a := ⟨_, h, toP_fromP a⟩
theorem Rd.of_list {w : World} {A : Option Addr} {n : Nat} {xs : List Int} (h : Ints w A n xs) : Rd w A n (toP q xs) := ⟨_, h, rfl⟩
/-- A call that hands back a plain polynomial of no more than K coefficients. -/
def GivesR (w : World) (K : Nat) (a : Poly (Zp q)) (e : Ending) (w' : World) : Prop :=
  ∃ A c, e = .returned (.slice A a.len c) ∧ a.len ≤ K ∧ Ints w' A a.len (fromP a) ∧ Below w.heap.size w w'
def GivesRE (w : World) (K : Nat) (a : Poly (Zp q)) (err : Int) (e : Ending) (w' : World) : Prop :=
  ∃ A c, e = .returned (.tuple #[.slice A a.len c, .int .i64 err]) ∧ a.len ≤ K ∧ Ints w' A a.len (fromP a) ∧ Below w.heap.size w w'
def GivesRRE (w : World) (K L : Nat) (a b : Poly (Zp q)) (err : Int) (e : Ending) (w' : World) : Prop :=
  ∃ A c B d, e = .returned (.tuple #[.slice A a.len c, .slice B b.len d, .int .i64 err]) ∧ a.len ≤ K ∧ b.len ≤ L ∧ Ints w' A a.len (fromP a) ∧ Ints w' B b.len (fromP b) ∧ Below w.heap.size w w'
theorem GivesR.of {w : World} {K : Nat} {a : Poly (Zp q)} {e : Ending} {w' : World} (h : GivesP w a e w') (hK : a.len ≤ K) : GivesR w K a e w' := by
  obtain ⟨A, c, he, hn⟩ := h
  exact ⟨A, c, he, hK, hn.rd, hn.bel⟩
theorem GivesRE.of {w : World} {K : Nat} {a : Poly (Zp q)} {err : Int} {e : Ending} {w' : World} (h : GivesPE w a err e w') (hK : a.len ≤ K) : GivesRE w K a err e w' := by
  obtain ⟨A, c, he, hn⟩ := h
  exact ⟨A, c, he, hK, hn.rd, hn.bel⟩
theorem GivesRRE.of {w : World} {K L : Nat} {a b : Poly (Zp q)} {err : Int} {e : Ending} {w' : World} (h : GivesPPE w a b err e w') (hK : a.len ≤ K) (hL : b.len ≤ L) : GivesRRE w K L a b err e w' := by
  obtain ⟨A, c, B, d, he, hn, hm⟩ := h
  exact ⟨A, c, B, d, he, hK, hL, hn.rd, hm.rd, hn.bel⟩
theorem add_len (a b : Poly (Zp q)) : (a + b).len ≤ max a.len b.len := Poly.len_le (((Poly.len_sh a).mono (by omega)).add ((Poly.len_sh b).mono (by omega)))
theorem sub_len (a b : Poly (Zp q)) : (a - b).len ≤ max a.len b.len := Poly.len_le (((Poly.len_sh a).mono (by omega)).sub ((Poly.len_sh b).mono (by omega)))
theorem monic_len_le (a : Poly (Zp q)) : a.monic.len ≤ a.len := by
  by_cases h : a = 0
  · rw [h, Poly.monic_zero]; omega
  · rw [Poly.monic_len h]; omega
theorem D_len_le (a : Poly (Zp q)) : a.D.len ≤ a.len := Poly.len_le fun i hi => by
  rw [Poly.co_D, Poly.len_sh a (i + 1) (by omega), CRing.nsmul_of_zero]
theorem deg_cases (a b : Poly (Zp q)) :
    (((a.len : Int) == 0) = true ∧ ((b.len : Int) == (b.len : Int)) = true ∧ (((a * b).len : Int) == 0) = true) ∨
    (((a.len : Int) == 0) = false ∧ ((b.len : Int) == 0) = true ∧ (((a * b).len : Int) == 0) = true) ∨
    ((((a * b).len : Int) == 0) = false ∧ (0 : Int) < ((a * b).len : Int) ∧ (((a * b).len : Int) == (a.len : Int) + (b.len : Int) - 1) = true) := by
  by_cases ha : a = 0
  · subst ha
    refine .inl ⟨?_, by simp, ?_⟩
    · rw [Poly.len_zero]; rfl
    · rw [CRing.zero_mul, Poly.len_zero]; rfl
  · have h1 := Poly.len_pos ha
    by_cases hb : b = 0
    · subst hb
      refine .inr (.inl ⟨beq_eq_false_iff_ne.2 (by omega), ?_, ?_⟩)
      · rw [Poly.len_zero]; rfl
      · rw [CRing.mul_zero, Poly.len_zero]; rfl
    · have h2 := Poly.len_pos hb
      have h3 := (Poly.len_mul ha hb).1
      exact .inr (.inr ⟨beq_eq_false_iff_ne.2 (by omega), by omega, beq_iff_eq.2 (by omega)⟩)
end

section
variable {A B : Option Addr} {n m c d N M K : Nat} {p : Int} {w : World} {hp : Pr p} {a b : Poly (Zp ⟨p, hp⟩)}
theorem normR (ha : Rd w A n a) (hn : n ≤ N) (hK2 : N ≤ 900000000) :
    Calls Tryz.prog 15 #[.slice A n c, .int .i64 p] w (GivesRE w N a 0) := by
  obtain ⟨xs, hx, rfl⟩ := ha
  have h2 : (toP ⟨p, hp⟩ xs).len ≤ n := len_le_toP hx.len
  exact (pnorm_yes A n c xs p w hp hx (by omega)).mono fun e w' h => GivesRE.of h (by omega)
theorem subR (ha : Rd w A n a) (hb : Rd w B m b) (hn : n ≤ N) (hm : m ≤ M) (hK : N + M ≤ K) (hK2 : K ≤ 900000000) :
    Calls Tryz.prog 43 #[.slice A n c, .slice B m d, .int .i64 p] w (GivesRE w K (a - b) 0) := by
  obtain ⟨xs, hx, rfl⟩ := ha
  obtain ⟨ys, hy, rfl⟩ := hb
  have h1 := sub_len (toP ⟨p, hp⟩ xs) (toP ⟨p, hp⟩ ys)
  have h2 : (toP ⟨p, hp⟩ xs).len ≤ n := len_le_toP hx.len
  have h3 : (toP ⟨p, hp⟩ ys).len ≤ m := len_le_toP hy.len
  exact (psub_yes A B n c m d xs ys p w hp hx hy (by omega) (by omega)).mono fun e w' h => GivesRE.of h (by omega)
theorem divR (ha : Rd w A n a) (hb : Rd w B m b) (hn : n ≤ N) (hm : m ≤ M) (hK : N ≤ 900000000) (hK2 : M ≤ 900000000) (h0 : b ≠ 0) :
    Calls Tryz.prog 65 #[.slice A n c, .slice B m d, .int .i64 p] w (GivesRRE w N M (Poly.quo a b) (Poly.rem a b) 0) := by
  obtain ⟨xs, hx, rfl⟩ := ha
  obtain ⟨ys, hy, rfl⟩ := hb
  have h1 := Cl.rem_len' (toP ⟨p, hp⟩ xs) h0
  have h4 := Cl.quo_len' (toP ⟨p, hp⟩ xs) h0
  have h2 : (toP ⟨p, hp⟩ xs).len ≤ n := len_le_toP hx.len
  have h3 : (toP ⟨p, hp⟩ ys).len ≤ m := len_le_toP hy.len
  exact (pdiv_yes A B n c m d xs ys p w hp hx hy (by omega) (by omega) h0).mono fun e w' h => GivesRRE.of h (by omega) (by omega)
theorem div0R (hb : Rd w B m b) (hm : m ≤ M) (hK2 : M ≤ 900000000) (h0 : b = 0) :
    Calls Tryz.prog 65 #[.slice A n c, .slice B m d, .int .i64 p] w fun e w' => e = .returned (.tuple #[.slice none 0 0, .slice none 0 0, .int .i64 3]) ∧ Below w.heap.size w w' := by
  obtain ⟨ys, hy, rfl⟩ := hb
  exact pdiv_zero A B n c m d ys p w hp hy (by omega) h0
theorem derivR (ha : Rd w A n a) (hn : n ≤ N) (hK2 : N ≤ 900000000) :
    Calls Tryz.prog 55 #[.slice A n c, .int .i64 p] w (GivesRE w N a.D 0) := by
  obtain ⟨xs, hx, rfl⟩ := ha
  have h1 := D_len_le (toP ⟨p, hp⟩ xs)
  have h2 : (toP ⟨p, hp⟩ xs).len ≤ n := len_le_toP hx.len
  exact (pderiv_yes A n c xs p w hp hx (by omega)).mono fun e w' h => GivesRE.of h (by omega)
/-- A polynomial's value at a whole number. -/
noncomputable def valR (a : Poly (Zp ⟨p, hp⟩)) (x : Int) : Int := (Poly.ev (fun a => a) a (Zp.of ⟨p, hp⟩ x)).val
theorem monicR (ha : Rd w A n a) (hn : n ≤ N) (hK2 : N ≤ 900000000) :
    Calls Tryz.prog 53 #[.slice A n c, .int .i64 p] w (GivesRE w N a.monic 0) := by
  obtain ⟨xs, hx, rfl⟩ := ha
  have h1 := monic_len_le (toP ⟨p, hp⟩ xs)
  have h2 : (toP ⟨p, hp⟩ xs).len ≤ n := len_le_toP hx.len
  exact (pmonic_yes A n c xs p w hp hx (by omega)).mono fun e w' h => GivesRE.of h (by omega)
end
end Go.Proofs.YtpikakapflebkaaGreat

namespace Go.Proofs.YtpikakapflebkaaGreat
open Go.RowKit Cl
attribute [local go_sem ↓] Go.wp_at_zero Go.wp_at_succ

section
variable {q : Prm}
theorem C_mul_len (c : Zp q) (a : Poly (Zp q)) : (Poly.C c * a).len ≤ a.len := Poly.len_le fun i hi => by rw [Poly.co_C_mul, Poly.len_sh a i hi, CRing.mul_zero]
theorem eucl_bd {B : Nat} : ∀ (n : Nat) (X Y : Nat → Poly (Zp q)), (Y 0).len ≤ n → Poly.EB B X Y → ∃ Z W, Poly.EB B Z W ∧ Poly.eucl (rowOf X) (rowOf Y) = rowOf Z := by
  intro n
  induction n with
  | zero =>
    intro X Y hn h
    exact ⟨X, Y, h, Poly.eucl_zero (x := rowOf X) (y := rowOf Y) (Poly.len_eq_zero.1 (by show (Y 0).len = 0; omega))⟩
  | succ n ih =>
    intro X Y hn h
    by_cases h0 : Y 0 = 0
    · exact ⟨X, Y, h, Poly.eucl_zero (x := rowOf X) (y := rowOf Y) h0⟩
    · have hlt : (nextZ X Y 0).len < (Y 0).len := by
        have e : nextZ X Y 0 = Poly.rem (X 0) (Y 0) := Poly.Row3.next_g (x := rowOf X) (y := rowOf Y) h0
        rw [e]; exact Cl.rem_len' _ h0
      obtain ⟨Z, W, h1, h2⟩ := ih Y (nextZ X Y) (by omega) (h.next h0 fun _ => rfl)
      exact ⟨Z, W, h1, (Poly.eucl_step (x := rowOf X) (y := rowOf Y) h0).trans h2⟩
theorem eucR_len {a b : Poly (Zp q)} {B : Nat} (ha : a.len ≤ B) (hb : b.len ≤ B) : (Poly.eucR a b).g.len ≤ B ∧ (Poly.eucR a b).s.len ≤ B + 1 ∧ (Poly.eucR a b).t.len ≤ B + 1 := by
  have heb : Poly.EB B (fnOf a 1 0) (fnOf b 0 1) := by
    refine ⟨ha, hb, fun i hi => ?_, fun i hi => ?_⟩
    · match i, hi with
      | 1, _ => show (1 : Poly (Zp q)).len + b.len ≤ _; rw [Poly.len_one]; omega
      | i + 2, _ => show (0 : Poly (Zp q)).len + b.len ≤ _; rw [Poly.len_zero]; omega
    · match i, hi with
      | 1, _ => show (0 : Poly (Zp q)).len + a.len ≤ _; rw [Poly.len_zero]; omega
      | i + 2, _ => show (1 : Poly (Zp q)).len + a.len ≤ _; rw [Poly.len_one]; omega
  obtain ⟨Z, W, h1, h2⟩ := eucl_bd _ _ _ (Nat.le_refl _) heb
  have h3 : Poly.eucR a b = rowOf Z := h2
  rw [h3]
  exact ⟨h1.x0, (h1.le 1).1, (h1.le 2).1⟩
theorem bezR_len {a b : Poly (Zp q)} {B : Nat} (ha : a.len ≤ B) (hb : b.len ≤ B) : (Poly.bezR a b).g.len ≤ B ∧ (Poly.bezR a b).s.len ≤ B + 1 ∧ (Poly.bezR a b).t.len ≤ B + 1 := by
  obtain ⟨h1, h2, h3⟩ := eucR_len ha hb
  by_cases h0 : (Poly.eucR a b).g = 0
  · rw [Poly.bezR_zero h0]; exact ⟨h1, h2, h3⟩
  · rw [Poly.bezR_ne h0]
    exact ⟨by have := monic_len_le (Poly.eucR a b).g; show (Poly.monic _).len ≤ _; omega, by have := C_mul_len (CField.inv (Poly.eucR a b).g.lc) (Poly.eucR a b).s; show (_ * _ : Poly (Zp q)).len ≤ _; omega, by have := C_mul_len (CField.inv (Poly.eucR a b).g.lc) (Poly.eucR a b).t; show (_ * _ : Poly (Zp q)).len ≤ _; omega⟩
theorem gcd_len {a b : Poly (Zp q)} {B : Nat} (ha : a.len ≤ B) (hb : b.len ≤ B) : (Poly.gcdP a b).len ≤ B := by
  rw [← Poly.bezR_g]; exact (bezR_len ha hb).1
/-- Three polynomials of no more than so many coefficients beside an error's number. -/
def GivesR3E (w : World) (K L : Nat) (a b c : Poly (Zp q)) (err : Int) (e : Ending) (w' : World) : Prop :=
  ∃ A k B l C m, e = .returned (.tuple #[.slice A a.len k, .slice B b.len l, .slice C c.len m, .int .i64 err]) ∧ a.len ≤ K ∧ b.len ≤ L ∧ c.len ≤ L ∧ Ints w' A a.len (fromP a) ∧ Ints w' B b.len (fromP b) ∧ Ints w' C c.len (fromP c) ∧ Below w.heap.size w w'
end

theorem pbezout_no (A B : Option Addr) (n c m d : Nat) (p : Int) (w : World) (h3 : -9223372036854775808 ≤ p) (h4 : p ≤ 9223372036854775807) (hp : isPrime p = false) :
    Calls Tryz.prog 80 #[.slice A n c, .slice B m d, .int .i64 p] w fun e w' => e = .returned (.tuple #[.slice none 0 0, .slice none 0 0, .slice none 0 0, .int .i64 1]) ∧ w = w' := by
  go_enter Tryz.func80, Tryz.ntmps80
  go_wp2_with fail
  refine (chk_no _ _ h3 h4 hp).mono ?_
  rintro e w' ⟨rfl, rfl⟩
  go_wp2_with fail
  (try simp only [Exit.inBlock, Exit.then]); refine bodyPost_ret (results_tmp4 rfl _ _ _) rfl ?_
  exact ⟨rfl, rfl⟩
theorem pgcd_no (A B : Option Addr) (n c m d : Nat) (p : Int) (w : World) (h3 : -9223372036854775808 ≤ p) (h4 : p ≤ 9223372036854775807) (hp : isPrime p = false) :
    Calls Tryz.prog 56 #[.slice A n c, .slice B m d, .int .i64 p] w fun e w' => e = .returned (.tuple #[.slice none 0 0, .int .i64 1]) ∧ w = w' := by
  go_enter Tryz.func56, Tryz.ntmps56
  go_wp2_with fail
  refine (pbezout_no _ _ _ _ _ _ _ _ h3 h4 hp).mono ?_
  rintro e w' ⟨rfl, rfl⟩
  go_wp2_with fail
  go_ret2
  exact ⟨rfl, rfl⟩

section
variable {A B : Option Addr} {n m c d N : Nat} {p : Int} {w : World} {hp : Pr p} {a b : Poly (Zp ⟨p, hp⟩)}
theorem bezoutR (ha : Rd w A n a) (hb : Rd w B m b) (hn : n ≤ N) (hm : m ≤ N) (hN : N ≤ 900000000) :
    Calls Tryz.prog 80 #[.slice A n c, .slice B m d, .int .i64 p] w (GivesR3E w N (N + 1) (Poly.bezR a b).g (Poly.bezR a b).s (Poly.bezR a b).t 0) := by
  obtain ⟨xs, hx, rfl⟩ := ha
  obtain ⟨ys, hy, rfl⟩ := hb
  have h2 : (toP ⟨p, hp⟩ xs).len ≤ n := len_le_toP hx.len
  have h3 : (toP ⟨p, hp⟩ ys).len ≤ m := len_le_toP hy.len
  obtain ⟨h4, h5, h6⟩ := bezR_len (B := N) (Nat.le_trans h2 hn) (Nat.le_trans h3 hm)
  refine (pbezout_yes A B n c m d xs ys p w hp hx hy (by omega) (by omega)).mono ?_
  rintro e w' ⟨A1, k1, B1, l1, C1, m1, rfl, i1, i2, i3, hb⟩
  exact ⟨A1, k1, B1, l1, C1, m1, rfl, h4, h5, h6, i1, i2, i3, hb⟩
theorem gcdR (ha : Rd w A n a) (hb : Rd w B m b) (hn : n ≤ N) (hm : m ≤ N) (hN : N ≤ 900000000) :
    Calls Tryz.prog 56 #[.slice A n c, .slice B m d, .int .i64 p] w (GivesRE w N (Poly.gcdP a b) 0) := by
  have Cb := Lib.hid (bezoutR (c := c) (d := d) ha hb hn hm hN)
  have Hg := Lib.hid (Poly.bezR_g a b)
  go_enter Tryz.func56, Tryz.ntmps56
  go_wp2_with fail
  refine Cb.out.mono ?_
  rintro e w1 ⟨A1, k1, B1, l1, C1, m1, rfl, h4, h5, h6, i1, i2, i3, hb1⟩
  rw [Hg.out] at h4 i1 ⊢
  go_wp2_with fail
  go_ret2
  exact ⟨_, _, rfl, h4, i1, hb1⟩
/-- A greatest common divisor that is not nought, in a new block. -/
theorem gcdAt (ha : Rd w A n a) (hb : Rd w B m b) (hn : n ≤ N) (hm : m ≤ N) (hN : N ≤ 900000000) (h0 : b ≠ 0) :
    Calls Tryz.prog 56 #[.slice A n c, .slice B m d, .int .i64 p] w fun e w' => ∃ A1 c1, e = .returned (.tuple #[.slice A1 (Poly.gcdP a b).len c1, .int .i64 0]) ∧ (Poly.gcdP a b).len ≤ N ∧ Ints w' A1 (Poly.gcdP a b).len (fromP (Poly.gcdP a b)) ∧ Below w.heap.size w w' ∧ ∀ y, A1 = some y → w.heap.size ≤ y.block := by
  have Hg := Lib.hid (Poly.bezR_g a b)
  have Hz : Hid ((Poly.bezR a b).g ≠ 0) := by show _ ≠ _; rw [Hg.out]; exact ((Poly.gcd_is a b).mon_of (.inr h0)).ne
  have Hl : Hid ((Poly.bezR a b).g.len ≤ N) := by
    obtain ⟨xs, hx, rfl⟩ := ha
    obtain ⟨ys, hy, rfl⟩ := hb
    have h2 : (toP ⟨p, hp⟩ xs).len ≤ n := len_le_toP hx.len
    have h3 : (toP ⟨p, hp⟩ ys).len ≤ m := len_le_toP hy.len
    exact (bezR_len (B := N) (Nat.le_trans h2 hn) (Nat.le_trans h3 hm)).1
  have Cb : Hid (Calls Tryz.prog 80 #[.slice A n c, .slice B m d, .int .i64 p] w (GivesP3N w (Poly.bezR a b).g (Poly.bezR a b).s (Poly.bezR a b).t 0)) := by
    obtain ⟨xs, hx, rfl⟩ := ha
    obtain ⟨ys, hy, rfl⟩ := hb
    exact pbezout_new A B n c m d xs ys p w hp hx hy (by omega) (by omega)
  clear ha hb h0
  go_enter Tryz.func56, Tryz.ntmps56
  go_wp2_with fail
  refine Cb.out.mono ?_
  rintro e w1 ⟨A1, k1, B1, l1, C1, m1, rfl, i1, i2, i3, hb1, hf⟩
  have hf1 := Lib.hid (hf Hz.out)
  have hl1 := Lib.hid Hl.out
  rw [Hg.out] at i1 hl1 ⊢
  clear hf
  go_wp2_with fail
  go_ret2
  exact ⟨_, _, rfl, hl1.out, i1, hb1, hf1.out⟩
end
end Go.Proofs.YtpikakapflebkaaGreat
