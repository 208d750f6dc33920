/- Contracts: plain polynomials, sums, products: the program's.
   Contracts: a sum of two polynomials: the program's.
   Contracts: a product of two polynomials, the program's; by a residue; a quotient and a rest.
   Contracts: a quotient and a rest: the program's.
   Contracts: the program's plain polynomials, sums, differences, products, quotients, monic ones. -/
import Derived.Test.YtpikakapflebkaaGreatFpAll
import Derived.Test.YtpikakapflebkaaGreatFlinA
import Derived.Test.YtpikakapflebkaaGreatPolyB
import Derived.BigRegion
import Derived.BigQuiet
import Derived.Deep.RegionHeld3
import Derived.Deep.AppendLies
import Derived.Deep.DrawnRows
import Derived.Deep.LoopGhost
import Derived.Laws.CopyOwn
import Derived.Test.YtpikakapflebkaaGreatBase
namespace Go.Proofs.YtpikakapflebkaaGreat
open Go.RowKit Cl
attribute [local go_sem ↓] Go.wp_at_zero Go.wp_at_succ

theorem below_tr {w w1 w2 : World} (h : Below w.heap.size w w1) (k : Below w1.heap.size w1 w2) : Below w.heap.size w w2 := h.trans (k.mono h.size)
section
variable {q : Prm}
/-- A call that hands back a polynomial, plain, in new memory. -/
def GivesP (w : World) (a : Poly (Zp q)) (e : Ending) (w' : World) : Prop :=
  ∃ A c, e = .returned (.slice A a.len c) ∧ NewInts 3 w w' A c a.len (fromP a)
/-- The same beside an error's number. -/
def GivesPE (w : World) (a : Poly (Zp q)) (err : Int) (e : Ending) (w' : World) : Prop :=
  ∃ A c, e = .returned (.tuple #[.slice A a.len c, .int .i64 err]) ∧ NewInts 3 w w' A c a.len (fromP a)
/-- Two of them. -/
def GivesPP (w : World) (a b : Poly (Zp q)) (e : Ending) (w' : World) : Prop :=
  ∃ A c B d, e = .returned (.tuple #[.slice A a.len c, .slice B b.len d]) ∧ NewInts 3 w w' A c a.len (fromP a) ∧ NewInts 3 w w' B d b.len (fromP b)
def GivesPPE (w : World) (a b : Poly (Zp q)) (err : Int) (e : Ending) (w' : World) : Prop :=
  ∃ A c B d, e = .returned (.tuple #[.slice A a.len c, .slice B b.len d, .int .i64 err]) ∧ NewInts 3 w w' A c a.len (fromP a) ∧ NewInts 3 w w' B d b.len (fromP b)
theorem GivesP.of_own {w w' : World} {a : Poly (Zp q)} {v : Value} {n : Nat} {ys : List Int} (hown : w'.ownsRow w.heap.size 3 1 v n (ints ys)) (he : ys = fromP a) (hb : Below w.heap.size w w') : GivesP w a (.returned v) w' := by
  subst he
  obtain ⟨A, c, rfl⟩ := own_slice hown
  have hn : n = a.len := by have := hown.1; rw [ints_length, fromP_length] at this; omega
  subst hn
  exact ⟨A, c, rfl, NewInts.of hown (fromP_length a) (fromP_i64 a) hb⟩
theorem newInts_later {w w' w'' : World} {A : Option Addr} {c n : Nat} {ys : List Int} (h : NewInts 3 w w' A c n ys) (hb : Below w'.heap.size w' w'') : NewInts 3 w w'' A c n ys :=
  ⟨h.len, own_bel h.own hb, h.rd.bel hb, below_tr h.bel hb⟩
theorem newInts_sooner {w0 w w' : World} {A : Option Addr} {c n : Nat} {ys : List Int} (h : NewInts 3 w w' A c n ys) (hb : Below w0.heap.size w0 w) : NewInts 3 w0 w' A c n ys :=
  ⟨h.len, own_mono h.own hb.size, h.rd, hb.trans (h.bel.mono hb.size)⟩
theorem pl_small {p : Int} {xs : List Int} (h : Pl p xs) (hp : p ≤ 65521) (i : Nat) : 0 ≤ nth xs i ∧ nth xs i ≤ 65521 := by have := h i; omega
end


set_option maxRecDepth 100000 in
theorem pplain_any (A : Option Addr) (n c : Nat) (xs : List Int) (p : Int) (w : World) (hp : Pr p) (hx : Ints w A n xs) (hn : n * 8 ≤ 281474976710656) :
    Calls Tryz.prog 35 #[.slice A n c, .int .i64 p] w (GivesP w (toP ⟨p, hp⟩ xs)) := by
  have hmk := make_ints n (by omega)
  have hp1 := hp.two
  have hp2 := hp.max
  have Hx := Lib.hid hx.len
  have hcan : Hid (tab (plen (fun i => red (nth xs i) p) n) (fun i => red (nth xs i) p) = fromP (toP ⟨p, hp⟩ xs)) := by
    show _ = _
    rw [← canon_toP (q := ⟨p, hp⟩) xs, hx.len]; rfl
  go_enter Tryz.func35, Tryz.ntmps35
  go_wp2
  go_loopw [13] (fun i wr => ∃ k : Nat, k ≤ n ∧ i = .int .i64 k ∧ Row wr w.heap.size 3 (fillTo n k (fun i => red (nth xs i) p)) ∧ Below w.heap.size w wr) (fun i _ => n - (intOf i).toNat)
  case atStart => exact ⟨0, by omega, rfl, by rw [fillTo_zero]; exact Row.new w _ _, (Below.refl _ _).alloc (Nat.le_refl _) _⟩
  case round =>
    obtain ⟨k, hk, rfl, hrow, hbel⟩ := hrel
    by_cases hlt : k < n
    · obtain ⟨b, o, rfl, hb, hc⟩ := hx.at_ (by omega)
      have hcx : wr.cell? ⟨b, o + k, none⟩ = some (.int .i64 (nth xs k)) := (hbel.cell (p := ⟨b, o + k, none⟩) hb).trans (hc k hlt)
      have hcy := hrow.cell (i := k) (by rw [fillTo_length]; omega)
      have hfz := hrow.frozen k
      obtain ⟨l1, l2⟩ := hx.ok k
      have hset := hrow.set k (red (nth xs k) p)
      rw [fillTo_set (f := fun i => red (nth xs i) p) hlt] at hset
      have Hset := Lib.hid hset; clear hset
      go_wp2_with (go_at_call 64; refine (red_any _ _ _ (by omega) (by omega) (by omega) (by omega)).mono ?_; rintro e w' ⟨rfl, rfl⟩)
      go_roundw
      case rel => exact ⟨k + 1, by omega, by go_num, Hset.out, hbel.setCell (Nat.le_refl _) _⟩
      case measure => simp [intOf]; omega
    · obtain rfl : k = n := by omega
      rw [fillTo_full] at hrow
      obtain ⟨wo, rfl⟩ : ∃ wo : World, wo = wr := ⟨_, rfl⟩
      have Hrow := Lib.hid hrow
      clear hrow
      go_wp2
      go_loopg [5] (k + 1) (fun gk s wr => ∃ m : Nat, m ≤ k ∧ m < gk ∧ s = .slice (some ⟨w.heap.size, 0, none⟩) m k ∧ Hid (plen (fun i => red (nth xs i) p) k = plen (fun i => red (nth xs i) p) m) ∧ wr = wo)
      case atStart => exact ⟨k, by omega, by omega, rfl, rfl, rfl⟩
      case round =>
        obtain ⟨m, hm, hgk, rfl, hpl, rfl⟩ := hrel
        cases m with
        | zero =>
          have Hfin : Hid (GivesP w (toP ⟨p, hp⟩ xs) (.returned (.slice (some ⟨w.heap.size, 0, none⟩) 0 k)) wr) := by
            have hown := Hrow.out.own (base := w.heap.size) (n := 0) (Nat.le_refl _) (by omega) (by rw [tab_length]; unfold maxLen; omega)
            rw [tab_length, tab_take (by omega)] at hown
            refine GivesP.of_own hown ?_ hbel
            rw [← hcan.out, hpl.out]; rfl
          go_wp2
          go_ret
          exact Hfin.out
        | succ m =>
          have hcy := Hrow.out.cell (i := m) (by rw [tab_length]; omega)
          rw [nth_tab, if_pos (by omega)] at hcy
          have hmp : (0 : Int) < (m : Int) + 1 := by omega
          by_cases hz : red (nth xs m) p = 0
          · rw [hz] at hcy
            have Hz := Lib.hid hz
            clear hz
            go_wp2
            go_roundg (gk - 1)
            case measure => omega
            case rel => exact ⟨m, by omega, by omega, rfl, by show _ = _; rw [hpl.out, plen_drop Hz.out], rfl⟩
          · have hz' : (red (nth xs m) p == 0) = false := beq_eq_false_iff_ne.2 hz
            have Hfin : Hid (GivesP w (toP ⟨p, hp⟩ xs) (.returned (.slice (some ⟨w.heap.size, 0, none⟩) (m + 1) k)) wr) := by
              have hown := Hrow.out.own (base := w.heap.size) (n := m + 1) (Nat.le_refl _) (by rw [tab_length]; omega) (by rw [tab_length]; unfold maxLen; omega)
              rw [tab_length, tab_take (by omega)] at hown
              refine GivesP.of_own hown ?_ hbel
              rw [← hcan.out, hpl.out, plen_stop (f := fun i => red (nth xs i) p) hz]
            clear hz
            go_wp2
            go_ret
            exact Hfin.out
end Go.Proofs.YtpikakapflebkaaGreat

namespace Go.Proofs.YtpikakapflebkaaGreat
open Go.RowKit Cl
attribute [local go_sem ↓] Go.wp_at_zero Go.wp_at_succ

/-- One list and so many times another one, the first k of M places done. -/
def addTo (xs ys : List Int) (kk : Int) (M k : Nat) : List Int := tab M (fun i => if i < k then nth xs i + kk * nth ys i else nth xs i)
theorem addTo_length (xs ys : List Int) (kk : Int) (M k : Nat) : (addTo xs ys kk M k).length = M := tab_length _ _
theorem nth_addTo_at (xs ys : List Int) (kk : Int) {M k : Nat} (h : k < M) : nth (addTo xs ys kk M k) k = nth xs k := by
  unfold addTo; rw [nth_tab, if_pos h, if_neg (by omega)]
theorem addTo_set (xs ys : List Int) (kk : Int) {M k : Nat} (h : k < M) : (addTo xs ys kk M k).set k (nth xs k + kk * nth ys k) = addTo xs ys kk M (k + 1) := by
  unfold addTo
  rw [tab_set h]
  refine tab_congr fun i _ => ?_
  by_cases e : i = k
  · subst e; rw [if_pos rfl, if_pos (by omega)]
  · rw [if_neg e]
    by_cases h1 : i < k
    · rw [if_pos h1, if_pos (by omega)]
    · rw [if_neg h1, if_neg (by omega)]
theorem addTo_zero (xs ys : List Int) (kk : Int) (M : Nat) : addTo xs ys kk M 0 = tab M (nth xs) := tab_congr fun i _ => if_neg (by omega)
theorem toP_addTo {q : Prm} {xs ys : List Int} {kk : Int} {M k : Nat} (hx : xs.length ≤ M) (hy : ys.length ≤ k) (hk : k ≤ M) : toP q (addTo xs ys kk M k) = toP q xs + Poly.C (Zp.of q kk) * toP q ys := Poly.ext fun i => by
  rw [Poly.co_add, Poly.co_C_mul, co_toP, co_toP, co_toP]
  unfold addTo
  rw [nth_tab]
  by_cases h : i < k
  · rw [if_pos (by omega), if_pos h, of_add_mul]
  · have e : Zp.of q kk * Zp.of q (nth ys i) = 0 := by rw [nth_ge (xs := ys) (by omega), Zp.of_zero, CRing.mul_zero]
    rw [e, CRing.add_zero]
    by_cases h2 : i < M
    · rw [if_pos h2, if_neg h]
    · rw [if_neg h2, nth_ge (xs := xs) (by omega)]
theorem splice_pad (xs : List Int) {M : Nat} (h : xs.length ≤ M) : splice (ints (List.replicate M 0)) 0 (ints xs) = ints (tab M (nth xs)) := by
  unfold splice
  rw [List.take_zero, List.nil_append, Nat.zero_add, ints_length]
  have e : (ints (List.replicate M 0)).drop xs.length = ints (List.replicate (M - xs.length) 0) := by simp [ints]
  rw [e, ← ints_append]
  congr 1
  refine list_ext (by simp; omega) fun i hi => ?_
  rw [nth_tab]
  by_cases h1 : i < xs.length
  · rw [nth_append_lt h1, if_pos (by omega)]
  · rw [nth_append_ge (by omega), nth_ge (xs := xs) (by omega)]
    have : nth (List.replicate (M - xs.length) (0 : Int)) (i - xs.length) = 0 := by
      by_cases h2 : i - xs.length < M - xs.length
      · rw [nth_lt (by simpa using h2)]; simp
      · exact nth_ge (by simp; omega)
    rw [this]; split <;> rfl

theorem int_size : (Tryz.prog.info? 3).map (·.size) = some 1 := by kernel_rfl

set_option maxRecDepth 100000 in
theorem psum_lt (A B : Option Addr) (n M c d : Nat) (xs ys : List Int) (kk p : Int) (w : World) (hp : Pr p) (hx : Ints w A n xs) (hy : Ints w B M ys) (hcase : (n : Int) < (M : Int)) (hle : n ≤ M) (hMb : M * 8 ≤ 281474976710656)
    (hpx : Pl p xs) (hpy : Pl p ys) (hk : 0 ≤ kk ∧ kk < p) :
    Calls Tryz.prog 74 #[.slice A n c, .slice B M d, .int .i64 kk, .int .i64 p] w (GivesP w (toP ⟨p, hp⟩ xs + Poly.C (Zp.of ⟨p, hp⟩ kk) * toP ⟨p, hp⟩ ys)) := by
  have hmk := make_ints M (by omega)
  have hp1 := hp.two
  have hp2 := hp.max
  obtain ⟨hk1, hk2⟩ := hk
  have Hxl := Lib.hid hx.len
  have Hyl := Lib.hid hy.len
  have Hpx := Lib.hid hpx
  have Hpy := Lib.hid hpy
  clear hpx hpy
  have hrow0 := Row.new w 3 (List.replicate M 0)
  have Hsp := Lib.hid (splice_pad xs (M := M) (by rw [hx.len]; omega))
  have Hl0 : Hid ((ints xs).length = Nat.min n M) := by show _ = _; rw [ints_length, hx.len]; exact (Nat.min_eq_left (by omega)).symm
  have Hsrc : Hid (0 < (ints xs).length → some (⟨w.heap.size, 0, none⟩ : Addr) = some ⟨w.heap.size, 0, none⟩ ∧ ∃ ad, A = some ad ∧ ∀ j v, (ints xs)[j]? = some v → (w.alloc (.cells (ints (List.replicate M 0)).toArray 3)).cell? (ad.add j) = some v) := by
    intro h0
    rw [ints_length, hx.len] at h0
    obtain ⟨b, o, rfl, hb, hc⟩ := hx.at_ h0
    refine ⟨rfl, _, rfl, fun j v hj => ?_⟩
    have hjl : j < xs.length := by
      have := (List.getElem?_eq_some_iff.1 hj).1
      rwa [ints_length] at this
    rw [ints_get hjl] at hj
    injection hj with hj
    subst hj
    rw [Go.WideShapes.add_plain, World.cell?_alloc_lt _ _ _ hb]
    exact hc j (by rw [← hx.len]; exact hjl)
  have Hfin : Hid (toP ⟨p, hp⟩ (addTo xs ys kk M M) = toP ⟨p, hp⟩ xs + Poly.C (Zp.of ⟨p, hp⟩ kk) * toP ⟨p, hp⟩ ys) := toP_addTo (by rw [hx.len]; omega) (by rw [hy.len]; omega) (by omega)
  have Hbd : Hid (∀ k i, 0 ≤ nth (addTo xs ys kk M k) i ∧ nth (addTo xs ys kk M k) i ≤ 5000000000) := fun k i => by
    unfold addTo
    rw [nth_tab]
    have h1 := Hpx.out i
    have h2 := Hpy.out i
    have h3 : 0 ≤ kk * nth ys i := Int.mul_nonneg hk1 h2.1
    have h4 : kk * nth ys i ≤ 65521 * 65521 := Int.mul_le_mul (by omega) (by omega) h2.1 (by omega)
    split
    · split <;> omega
    · omega
  go_enter Tryz.func74, Tryz.ntmps74
  go_wp2_with ((with_reducible show wpList _ _ _ (⟨some 20, _, _, _, _, _⟩ :: _) _ _); refine wpList_copy_splice rfl (.tmp 18) (.tmp 19) 22 22 rfl 3 Tryz.underlying22 int_size (some ⟨w.heap.size, 0, none⟩) A M M n c (by rfl) (by rfl) w.heap.size 0 (ints (List.replicate M 0)) 3 hrow0 (ints xs) Hl0.out Hsrc.out (by rw [ints_length, ints_length, List.length_replicate, Hxl.out]; omega) (Cl.ints_oneCell xs) w.heap.size w ((Below.refl _ _).alloc (Nat.le_refl _) _) (Nat.le_refl _) ?_; intro w1 hrow1 hb1)
  have hs1 := hb1.size
  have hrow1' : Row w1 w.heap.size 3 (addTo xs ys kk M 0) := by
    have := hrow1.out
    rw [Hsp.out] at this
    rw [addTo_zero]; exact this
  clear hrow1 Hsrc Hsp Hl0
  go_loopw [23] (fun i wr => ∃ k : Nat, k ≤ M ∧ i = .int .i64 k ∧ Row wr w.heap.size 3 (addTo xs ys kk M k) ∧ Below w.heap.size w wr) (fun i _ => M - (intOf i).toNat)
  case atStart => exact ⟨0, by omega, rfl, hrow1', hb1⟩
  case round =>
    obtain ⟨k, hk, rfl, hrow, hbel⟩ := hrel
    by_cases hlt : k < M
    · obtain ⟨b, o, rfl, hb, hc⟩ := hy.at_ (by omega)
      have hcx : wr.cell? ⟨b, o + k, none⟩ = some (.int .i64 (nth ys k)) := (hbel.cell (p := ⟨b, o + k, none⟩) hb).trans (hc k hlt)
      have hcy := hrow.cell (i := k) (by rw [addTo_length]; omega)
      rw [nth_addTo_at xs ys kk (show k < M by omega)] at hcy
      have hfz := hrow.frozen k
      obtain ⟨l1, l2⟩ := Hpx.out k
      obtain ⟨l3, l4⟩ := Hpy.out k
      have hm1 : 0 ≤ kk * nth ys k := Int.mul_nonneg hk1 l3
      have hm2 : kk * nth ys k ≤ 65521 * 65521 := Int.mul_le_mul (by omega) (by omega) l3 (by omega)
      have hset := hrow.set k (nth xs k + kk * nth ys k)
      rw [addTo_set xs ys kk (show k < M by omega)] at hset
      have Hset := Lib.hid hset; clear hset hc
      have hkM : (k : Int) < (M : Int) := by omega
      go_wp2
      go_roundw
      case rel => exact ⟨k + 1, by omega, by go_num, Hset.out, hbel.setCell (Nat.le_refl _) _⟩
      case measure => simp [intOf]; omega
    · obtain rfl : M = k := by omega
      have hin := hrow.ints (fun i => by have := Hbd.out M i; exact I64.small this.1 (by omega))
      rw [addTo_length] at hin
      have cp := pplain_any _ M M _ p wr hp hin (by omega)
      rw [Hfin.out] at cp
      have Cp := Lib.hid cp
      clear cp
      go_wp2_with (go_at_call 35; refine Cp.out.mono ?_; rintro e w2 ⟨A2, c2, rfl, hn2⟩)
      go_ret
      exact ⟨_, _, rfl, newInts_sooner hn2 hbel⟩

set_option maxRecDepth 100000 in
theorem psum_ge (A B : Option Addr) (M m c d : Nat) (xs ys : List Int) (kk p : Int) (w : World) (hp : Pr p) (hx : Ints w A M xs) (hy : Ints w B m ys) (hcase : ¬ ((M : Int) < (m : Int))) (hle : m ≤ M) (hMb : M * 8 ≤ 281474976710656)
    (hpx : Pl p xs) (hpy : Pl p ys) (hk : 0 ≤ kk ∧ kk < p) :
    Calls Tryz.prog 74 #[.slice A M c, .slice B m d, .int .i64 kk, .int .i64 p] w (GivesP w (toP ⟨p, hp⟩ xs + Poly.C (Zp.of ⟨p, hp⟩ kk) * toP ⟨p, hp⟩ ys)) := by
  have hmk := make_ints M (by omega)
  have hp1 := hp.two
  have hp2 := hp.max
  obtain ⟨hk1, hk2⟩ := hk
  have Hxl := Lib.hid hx.len
  have Hyl := Lib.hid hy.len
  have Hpx := Lib.hid hpx
  have Hpy := Lib.hid hpy
  clear hpx hpy
  have hrow0 := Row.new w 3 (List.replicate M 0)
  have Hsp := Lib.hid (splice_pad xs (M := M) (by rw [hx.len]; omega))
  have Hl0 : Hid ((ints xs).length = Nat.min M M) := by show _ = _; rw [ints_length, hx.len]; exact (Nat.min_eq_left (by omega)).symm
  have Hsrc : Hid (0 < (ints xs).length → some (⟨w.heap.size, 0, none⟩ : Addr) = some ⟨w.heap.size, 0, none⟩ ∧ ∃ ad, A = some ad ∧ ∀ j v, (ints xs)[j]? = some v → (w.alloc (.cells (ints (List.replicate M 0)).toArray 3)).cell? (ad.add j) = some v) := by
    intro h0
    rw [ints_length, hx.len] at h0
    obtain ⟨b, o, rfl, hb, hc⟩ := hx.at_ h0
    refine ⟨rfl, _, rfl, fun j v hj => ?_⟩
    have hjl : j < xs.length := by
      have := (List.getElem?_eq_some_iff.1 hj).1
      rwa [ints_length] at this
    rw [ints_get hjl] at hj
    injection hj with hj
    subst hj
    rw [Go.WideShapes.add_plain, World.cell?_alloc_lt _ _ _ hb]
    exact hc j (by rw [← hx.len]; exact hjl)
  have Hfin : Hid (toP ⟨p, hp⟩ (addTo xs ys kk M m) = toP ⟨p, hp⟩ xs + Poly.C (Zp.of ⟨p, hp⟩ kk) * toP ⟨p, hp⟩ ys) := toP_addTo (by rw [hx.len]; omega) (by rw [hy.len]; omega) (by omega)
  have Hbd : Hid (∀ k i, 0 ≤ nth (addTo xs ys kk M k) i ∧ nth (addTo xs ys kk M k) i ≤ 5000000000) := fun k i => by
    unfold addTo
    rw [nth_tab]
    have h1 := Hpx.out i
    have h2 := Hpy.out i
    have h3 : 0 ≤ kk * nth ys i := Int.mul_nonneg hk1 h2.1
    have h4 : kk * nth ys i ≤ 65521 * 65521 := Int.mul_le_mul (by omega) (by omega) h2.1 (by omega)
    split
    · split <;> omega
    · omega
  go_enter Tryz.func74, Tryz.ntmps74
  go_wp2_with ((with_reducible show wpList _ _ _ (⟨some 20, _, _, _, _, _⟩ :: _) _ _); refine wpList_copy_splice rfl (.tmp 18) (.tmp 19) 22 22 rfl 3 Tryz.underlying22 int_size (some ⟨w.heap.size, 0, none⟩) A M M M c (by rfl) (by rfl) w.heap.size 0 (ints (List.replicate M 0)) 3 hrow0 (ints xs) Hl0.out Hsrc.out (by rw [ints_length, ints_length, List.length_replicate, Hxl.out]; omega) (Cl.ints_oneCell xs) w.heap.size w ((Below.refl _ _).alloc (Nat.le_refl _) _) (Nat.le_refl _) ?_; intro w1 hrow1 hb1)
  have hs1 := hb1.size
  have hrow1' : Row w1 w.heap.size 3 (addTo xs ys kk M 0) := by
    have := hrow1.out
    rw [Hsp.out] at this
    rw [addTo_zero]; exact this
  clear hrow1 Hsrc Hsp Hl0
  go_loopw [23] (fun i wr => ∃ k : Nat, k ≤ m ∧ i = .int .i64 k ∧ Row wr w.heap.size 3 (addTo xs ys kk M k) ∧ Below w.heap.size w wr) (fun i _ => m - (intOf i).toNat)
  case atStart => exact ⟨0, by omega, rfl, hrow1', hb1⟩
  case round =>
    obtain ⟨k, hk, rfl, hrow, hbel⟩ := hrel
    by_cases hlt : k < m
    · obtain ⟨b, o, rfl, hb, hc⟩ := hy.at_ (by omega)
      have hcx : wr.cell? ⟨b, o + k, none⟩ = some (.int .i64 (nth ys k)) := (hbel.cell (p := ⟨b, o + k, none⟩) hb).trans (hc k hlt)
      have hcy := hrow.cell (i := k) (by rw [addTo_length]; omega)
      rw [nth_addTo_at xs ys kk (show k < M by omega)] at hcy
      have hfz := hrow.frozen k
      obtain ⟨l1, l2⟩ := Hpx.out k
      obtain ⟨l3, l4⟩ := Hpy.out k
      have hm1 : 0 ≤ kk * nth ys k := Int.mul_nonneg hk1 l3
      have hm2 : kk * nth ys k ≤ 65521 * 65521 := Int.mul_le_mul (by omega) (by omega) l3 (by omega)
      have hset := hrow.set k (nth xs k + kk * nth ys k)
      rw [addTo_set xs ys kk (show k < M by omega)] at hset
      have Hset := Lib.hid hset; clear hset hc
      have hkM : (k : Int) < (M : Int) := by omega
      go_wp2
      go_roundw
      case rel => exact ⟨k + 1, by omega, by go_num, Hset.out, hbel.setCell (Nat.le_refl _) _⟩
      case measure => simp [intOf]; omega
    · obtain rfl : m = k := by omega
      have hin := hrow.ints (fun i => by have := Hbd.out m i; exact I64.small this.1 (by omega))
      rw [addTo_length] at hin
      have cp := pplain_any _ M M _ p wr hp hin (by omega)
      rw [Hfin.out] at cp
      have Cp := Lib.hid cp
      clear cp
      go_wp2_with (go_at_call 35; refine Cp.out.mono ?_; rintro e w2 ⟨A2, c2, rfl, hn2⟩)
      go_ret
      exact ⟨_, _, rfl, newInts_sooner hn2 hbel⟩

theorem psum_any (A B : Option Addr) (n m c d : Nat) (xs ys : List Int) (kk p : Int) (w : World) (hp : Pr p) (hx : Ints w A n xs) (hy : Ints w B m ys) (hn : n * 8 ≤ 281474976710656) (hm : m * 8 ≤ 281474976710656)
    (hpx : Pl p xs) (hpy : Pl p ys) (hk : 0 ≤ kk ∧ kk < p) :
    Calls Tryz.prog 74 #[.slice A n c, .slice B m d, .int .i64 kk, .int .i64 p] w (GivesP w (toP ⟨p, hp⟩ xs + Poly.C (Zp.of ⟨p, hp⟩ kk) * toP ⟨p, hp⟩ ys)) := by
  by_cases h : (n : Int) < (m : Int)
  · exact psum_lt A B n m c d xs ys kk p w hp hx hy h (by omega) hm hpx hpy hk
  · exact psum_ge A B n m c d xs ys kk p w hp hx hy h (by omega) hn hpx hpy hk
end Go.Proofs.YtpikakapflebkaaGreat

namespace Go.Proofs.YtpikakapflebkaaGreat
open Go.RowKit Cl
attribute [local go_sem ↓] Go.wp_at_zero Go.wp_at_succ

set_option maxRecDepth 100000 in
theorem pprod_any (A B : Option Addr) (n m c d : Nat) (xs ys : List Int) (p : Int) (w : World) (hp : Pr p) (hx : Ints w A n xs) (hy : Ints w B m ys) (hn : (n + m) * 8 ≤ 281474976710656) (hpx : Pl p xs) (hpy : Pl p ys) :
    Calls Tryz.prog 62 #[.slice A n c, .slice B m d, .int .i64 p] w (GivesP w (toP ⟨p, hp⟩ xs * toP ⟨p, hp⟩ ys)) := by
  have hmk := make_ints (n + m) (by omega)
  rw [show ((n + m : Nat) : Int) = (n : Int) + (m : Int) by omega] at hmk
  have hp1 := hp.two
  have hp2 := hp.max
  have hp0 : ¬ p = 0 := by omega
  have Hxl := Lib.hid hx.len
  have Hyl := Lib.hid hy.len
  have Hpx := Lib.hid hpx
  have Hpy := Lib.hid hpy
  have hst0 : Hid (MulSt ⟨p, hp⟩ xs ys 0 0 (List.replicate (n + m) 0)) := by
    have := MulSt.start (q := ⟨p, hp⟩) xs ys
    rw [hx.len, hy.len] at this; exact this
  have hrow0 := Row.new w 3 (List.replicate (n + m) 0)
  clear hpx hpy
  go_enter Tryz.func62, Tryz.ntmps62
  go_wp2
  go_loopw [20] (fun i wr => ∃ (k : Nat) (out : List Int), k ≤ n ∧ i = .int .i64 k ∧ Hid (MulSt ⟨p, hp⟩ xs ys k 0 out) ∧ Row wr w.heap.size 3 out ∧ Below w.heap.size w wr) (fun i _ => n - (intOf i).toNat)
  case atStart => exact ⟨0, _, by omega, rfl, hst0, hrow0, (Below.refl _ _).alloc (Nat.le_refl _) _⟩
  case round =>
    obtain ⟨k, out, hk, rfl, hst, hrow, hbel⟩ := hrel
    obtain ⟨wo, rfl⟩ : ∃ wo : World, wo = wr := ⟨_, rfl⟩
    by_cases hlt : k < n
    · obtain ⟨b, o, rfl, hb, hc⟩ := hx.at_ (by omega)
      have hcx : wo.cell? ⟨b, o + k, none⟩ = some (.int .i64 (nth xs k)) := (hbel.cell (p := ⟨b, o + k, none⟩) hb).trans (hc k hlt)
      obtain ⟨l1, l2⟩ := Hpx.out k
      clear hc
      go_wp2
      go_loopw [27] (fun i wr => ∃ (j : Nat) (out : List Int), j ≤ m ∧ i = .int .i64 j ∧ Hid (MulSt ⟨p, hp⟩ xs ys k j out) ∧ Row wr w.heap.size 3 out ∧ Below w.heap.size w wr) (fun i _ => m - (intOf i).toNat)
      case atStart => exact ⟨0, out, by omega, rfl, hst, hrow, hbel⟩
      case round =>
        obtain ⟨j, out2, hj, rfl, hst2, hrow2, hbel2⟩ := hrel
        by_cases hjl : j < m
        · obtain ⟨b2, o2, rfl, hb2, hc2⟩ := hy.at_ (by omega)
          have hcy : wr.cell? ⟨b2, o2 + j, none⟩ = some (.int .i64 (nth ys j)) := (hbel2.cell (p := ⟨b2, o2 + j, none⟩) hb2).trans (hc2 j hjl)
          have hol : k + j < out2.length := by have := hst2.out.len; rw [Hxl.out, Hyl.out] at this; omega
          have hco := hrow2.cell (i := k + j) hol
          have hfo := hrow2.frozen (k + j)
          obtain ⟨l3, l4⟩ := Hpy.out j
          obtain ⟨l5, l6⟩ := hst2.out.pl (k + j)
          have l6' : nth out2 (k + j) < p := l6
          have hm1 : 0 ≤ nth xs k * nth ys j := Int.mul_nonneg l1 l3
          have hm2 : nth xs k * nth ys j ≤ 65521 * 65521 := Int.mul_le_mul (by omega) (by omega) l3 (by omega)
          have hset := Lib.hid (hrow2.set (k + j) ((nth out2 (k + j) + nth xs k * nth ys j) % p))
          have hstep := Lib.hid (hst2.out.step (by rw [Hxl.out]; exact hlt) (by rw [Hyl.out]; exact hjl))
          have ea : ((k : Int) + (j : Int)).toNat = k + j := by omega
          have eb : (k : Int) + (j : Int) < (n : Int) + (m : Int) := by omega
          clear hc2 hol l6
          go_wp2
          go_roundw
          case rel => exact ⟨j + 1, _, by omega, by go_num, hstep, hset.out, hbel2.setCell (Nat.le_refl _) _⟩
          case measure => simp [intOf]; omega
        · obtain rfl : m = j := by omega
          have hrw : Hid (MulSt ⟨p, hp⟩ xs ys (k + 1) 0 out2) := MulSt.row (by rw [Hyl.out]; exact hst2.out)
          go_wp2
          go_roundw
          case rel => exact ⟨k + 1, out2, by omega, by go_num, hrw, hrow2, hbel2⟩
          case measure => simp [intOf]; omega
    · obtain rfl : n = k := by omega
      have hdone : toP ⟨p, hp⟩ out = toP ⟨p, hp⟩ xs * toP ⟨p, hp⟩ ys := MulSt.done (by rw [Hxl.out]; exact hst.out)
      have hin := hrow.ints (fun i => (Pl.i64 hst.out.pl hp2 i))
      have hol : out.length = n + m := by rw [hst.out.len, Hxl.out, Hyl.out]
      rw [hol] at hin
      have cp := pplain_any _ (n + m) (n + m) _ p wo hp hin (by omega)
      rw [hdone] at cp
      have Cp := Lib.hid cp
      clear cp hdone hol
      go_wp2_with (go_at_call 35; refine Cp.out.mono ?_; rintro e w2 ⟨A2, c2, rfl, hn2⟩)
      go_ret
      exact ⟨_, _, rfl, newInts_sooner hn2 hbel⟩
end Go.Proofs.YtpikakapflebkaaGreat

namespace Go.Proofs.YtpikakapflebkaaGreat
open Go.RowKit Cl
attribute [local go_sem ↓] Go.wp_at_zero Go.wp_at_succ

theorem pprodP {p : Int} {hp : Pr p} (A B : Option Addr) (c d : Nat) (a b : Poly (Zp ⟨p, hp⟩)) (w : World) (hx : Ints w A a.len (fromP a)) (hy : Ints w B b.len (fromP b)) (hn : (a.len + b.len) * 8 ≤ 281474976710656) :
    Calls Tryz.prog 62 #[.slice A a.len c, .slice B b.len d, .int .i64 p] w (GivesP w (a * b)) := by
  have := pprod_any A B _ _ c d _ _ p w hp hx hy hn (fromP_pl a).pl (fromP_pl b).pl
  rwa [toP_fromP, toP_fromP] at this
theorem psumP {p : Int} {hp : Pr p} (A B : Option Addr) (c d : Nat) (a b : Poly (Zp ⟨p, hp⟩)) (kk : Int) (w : World) (hx : Ints w A a.len (fromP a)) (hy : Ints w B b.len (fromP b)) (hn : a.len * 8 ≤ 281474976710656) (hm : b.len * 8 ≤ 281474976710656) (hk : 0 ≤ kk ∧ kk < p) :
    Calls Tryz.prog 74 #[.slice A a.len c, .slice B b.len d, .int .i64 kk, .int .i64 p] w (GivesP w (a + Poly.C (Zp.of ⟨p, hp⟩ kk) * b)) := by
  have := psum_any A B _ _ c d _ _ kk p w hp hx hy hn hm (fromP_pl a).pl (fromP_pl b).pl hk
  rwa [toP_fromP, toP_fromP] at this

/-- A polynomial by a residue. -/
theorem pscaled_any {p : Int} {hp : Pr p} (A : Option Addr) (n : Nat) (c : Nat) (a : Poly (Zp ⟨p, hp⟩)) (k : Int) (w : World) (hx : Ints w A n (fromP a)) (hn : n * 8 ≤ 281474976710640) (hk : 0 < k ∧ k < p) :
    Calls Tryz.prog 79 #[.slice A n c, .int .i64 k, .int .i64 p] w (GivesP w (Poly.C (CField.inv (Zp.of ⟨p, hp⟩ k)) * a)) := by
  have hp1 := hp.two
  have hp2 := hp.max
  have hne : ¬ Cg p k 0 := fun h => by rw [Cg.zero_iff_emod, Int.emod_eq_of_lt (by omega) hk.2] at h; omega
  have c1 := inv_yes k p w (by omega) (by omega) (by omega) (by omega) ((isPrime_iff p).2 hp)
  rw [invE_ok hne] at c1
  have C1 := Lib.hid c1
  have hib := invm_bd k hp
  have hrow := Row.new w 3 [invm k p]
  have hin := hrow.ints (fun i => by
    match i with
    | 0 => show I64 (invm k p); exact I64.small hib.1 (by omega)
    | i + 1 => rw [nth_ge (by simp)]; exact I64.zero)
  have hxa := hx.alloc (.cells (ints [invm k p]).toArray 3)
  have cp := pprod_any A _ _ _ c 1 (fromP a) [invm k p] p _ hp hxa hin (by have := hx.len; simp; omega) (fromP_pl a).pl (fun i => by
    match i with
    | 0 => show 0 ≤ invm k p ∧ invm k p < p; exact hib
    | i + 1 => rw [nth_ge (by simp)]; omega)
  rw [toP_fromP, toP_one, ← Zp.inv_of (q := ⟨p, hp⟩), CRing.mul_comm] at cp
  have Cp := Lib.hid cp
  clear cp c1 hne hrow hin hxa
  go_enter Tryz.func79, Tryz.ntmps79
  go_wp2_with fail
  refine C1.out.mono ?_
  rintro e w' ⟨rfl, rfl⟩
  go_wp2_with fail
  refine Cp.out.mono ?_
  rintro e w2 ⟨A2, c2, rfl, hn2⟩
  go_wp2_with fail
  go_ret
  exact ⟨_, _, rfl, newInts_sooner hn2 ((Below.refl _ _).alloc (Nat.le_refl _) _)⟩

theorem givesPP_of {q : Prm} {w w' : World} {x y : Poly (Zp q)} {A B : Option Addr} {n c m d : Nat} (h1 : NewInts 3 w w' A c n (fromP x)) (h2 : NewInts 3 w w' B d m (fromP y)) :
    GivesPP w x y (.returned (.tuple #[.slice A n c, .slice B m d])) w' := by
  obtain rfl : x.len = n := by have := h1.len; rw [fromP_length] at this; exact this
  obtain rfl : y.len = m := by have := h2.len; rw [fromP_length] at this; exact this
  exact ⟨_, _, _, _, rfl, h1, h2⟩

set_option maxRecDepth 100000 in
set_option maxHeartbeats 4000000 in
theorem pdivided_any {p : Int} {hp : Pr p} (A B : Option Addr) (n m c d : Nat) (a b : Poly (Zp ⟨p, hp⟩)) (w : World) (hx : Ints w A n (fromP a)) (hy : Ints w B m (fromP b)) (hn : n * 8 ≤ 140737488355320) (hm : m * 8 ≤ 140737488355328) (hb0 : b ≠ 0) :
    Calls Tryz.prog 71 #[.slice A n c, .slice B m d, .int .i64 p] w (GivesPP w (Poly.quo a b) (Poly.rem a b)) := by
  obtain ⟨i0, hi, hz0, hz1, hz2⟩ := info_parts int_info
  have hp1 := hp.two
  have hp2 := hp.max
  have hp0 : ¬ p = 0 := by omega
  have hal : a.len = n := by have := hx.len; rw [fromP_length] at this; exact this
  have hbl : b.len = m := by have := hy.len; rw [fromP_length] at this; exact this
  have hmpos : 0 < m := by have := Poly.len_pos hb0; omega
  have Hal := Lib.hid hal
  have Hbl := Lib.hid hbl
  have hbA : Below w.heap.size w (w.alloc (.cells #[] 3)) := (Below.refl _ _).alloc (Nat.le_refl _) _
  have hown0 := own_empty w 3 (base := w.heap.size) (Nat.le_refl _)
  have hrd0 := Lib.hid ((hx.reads).alloc (Nat.le_refl _) (.cells #[] 3))
  clear hal hbl
  by_cases hlt : n < m
  · have Hr : Hid (Poly.rem a b = a ∧ Poly.quo a b = 0) := Poly.rem_of_lt (by have := Hal.out; have := Hbl.out; omega)
    have hneg : (n : Int) - (m : Int) < 0 := by omega
    go_enter Tryz.func71, Tryz.ntmps71
    go_wp2_with (at_builtin; refine wpList_append_any _ (by rfl) _ _ 22 (by rfl) w.heap.size 3 i0 _ 1 8 Tryz.underlying22 hi hz0 hz1 hz2 rfl (by omega) _ 0 [] (by rfl) hown0 w.heap.size A n c (ints (fromP a)) (by rfl) hrd0.out (Cl.ints_oneCell _) (by unfold maxLen; omega) (by omega) (by simp) ?_; intro v1 w1 hown1 hgrow1 hv1; obtain ⟨A1, c1, rfl⟩ := own_slice hown1)
    simp only [Nat.zero_add, List.nil_append] at hown1
    have hb1 := hbA.grown hgrow1 hbA.size (fun k hk => by simp [Value.ownBlock] at hk; omega)
    have hfr : ∀ i, I64 (nth (fromP a) i) := fromP_i64 a
    go_ret2
    rw [Hr.out.1, Hr.out.2]
    refine givesPP_of (NewInts.of ?_ (by rw [fromP_length, Poly.len_zero]) (fromP_i64 _) hb1) (NewInts.of hown1 (by rw [fromP_length]; exact Hal.out) (fromP_i64 _) hb1)
    rw [fromP_zero]; exact World.ownsRow_nil _ _ _ _
  · obtain ⟨N, hN⟩ : ∃ N, n = N + m := ⟨n - m, by omega⟩
    obtain ⟨M, rfl⟩ : ∃ M, m = M + 1 := ⟨m - 1, by omega⟩
    have hNeq : (n : Int) - ((M : Int) + 1) = (N : Int) := by omega
    have hNM : N + M < n := by omega
    have hnpos : 0 < n := by omega
    have HN := Lib.hid hN
    have hmk := make_ints (N + 1) (by omega)
    rw [show ((N + 1 : Nat) : Int) = (N : Int) + 1 by omega] at hmk
    have hplb := fromP_pl b
    have hbd := hplb.pl M
    have htop : nth (fromP b) M ≠ 0 := by
      have := hplb.top (by rw [fromP_length]; have := Hbl.out; omega)
      rwa [fromP_length, Hbl.out] at this
    have hne : ¬ Cg p (nth (fromP b) M) 0 := fun h => by
      rw [Cg.zero_iff_emod, Int.emod_eq_of_lt hbd.1 hbd.2] at h
      exact htop h
    have c1 := fun W => inv_yes (nth (fromP b) M) p W (by omega) (by have := hbd.2; have : nth (fromP b) M < p := hbd.2; omega) (by omega) (by omega) ((isPrime_iff p).2 hp)
    rw [invE_ok hne] at c1
    have C1 := Lib.hid c1
    have hib := invm_bd (nth (fromP b) M) hp
    obtain ⟨ob, oo, rfl, hob, hoc⟩ := hy.at_ hmpos
    have hcb0 := hoc M (by omega)
    have Hplb := Lib.hid hplb
    have Hstart := Lib.hid (DivSt.start (q := ⟨p, hp⟩) (a := fromP a) (b := fromP b) (fromP_pl a).pl (by rw [fromP_length, fromP_length, Hal.out, Hbl.out]; omega))
    have Hoc := Lib.hid hoc
    have hpos' : (0 : Int) ≤ (N : Int) := by omega
    clear hN hplb hbd htop hne c1 hoc hlt
    generalize hTop : invm (nth (fromP b) M) p = top at *
    have HTop := Lib.hid hTop
    obtain ⟨ht1, ht2⟩ := hib
    clear hTop
    go_enter Tryz.func71, Tryz.ntmps71
    go_wp2_with (first
      | (at_builtin; refine wpList_append_any _ (by rfl) _ _ 22 (by rfl) w.heap.size 3 i0 _ 1 8 Tryz.underlying22 hi hz0 hz1 hz2 rfl (by omega) _ 0 [] (by rfl) hown0 w.heap.size A n c (ints (fromP a)) (by rfl) hrd0.out (Cl.ints_oneCell _) (by unfold maxLen; omega) (by omega) (by simp) ?_; intro v1 w1 hown1 hgrow1 hv1; obtain ⟨g1, cap1, rfl, hg1, hra1⟩ := own_some (xs := fromP a) (n := n) (by simpa using hown1) hnpos; have hb1 := hbA.grown hgrow1 hbA.size (fun k hk => by simp [Value.ownBlock] at hk; omega); have hs1 := hb1.size; have hcb1 := (hb1.cell (p := ⟨ob, oo + M, none⟩) hob).trans hcb0)
      | (go_at_call 107; refine (C1.out _).mono ?_; rintro e w' ⟨rfl, rfl⟩))
    have hrq0 := Row.new w1 3 (List.replicate (N + 1) 0)
    have hra2 := hra1.alloc (.cells (ints (List.replicate (N + 1) 0)).toArray 3)
    have hb2 := hb1.alloc hs1 (.cells (ints (List.replicate (N + 1) 0)).toArray 3)
    have hgne : g1 ≠ w1.heap.size := by have := hra1.lt; omega
    have hgq : w.heap.size ≤ w1.heap.size := hs1
    have hst0 : Hid (DivSt ⟨p, hp⟩ (fromP a) (fromP b) (N + 1) (List.replicate (N + 1) 0) (fromP a)) := by
      have := Hstart.out
      rw [fromP_length, fromP_length, Hal.out, Hbl.out, show n - (M + 1) + 1 = N + 1 by have := HN.out; omega] at this
      exact this
    clear hrd0 hown0 hgrow1 hv1 hown1 hcb1 Hstart
    generalize w1.heap.size = gq at *
    go_loopg [9] (N + 2) (fun gk i wr => ∃ (t : Nat) (j : Int) (qs r : List Int), t ≤ N + 1 ∧ t < gk ∧ i = .int .i64 j ∧ j = (t : Int) - 1 ∧ Hid (DivSt ⟨p, hp⟩ (fromP a) (fromP b) t qs r) ∧ RowA wr g1 3 cap1 r ∧ Row wr gq 3 qs ∧ Below w.heap.size w wr)
    case atStart => exact ⟨N + 1, _, _, _, by omega, by omega, rfl, by omega, hst0, hra2, hrq0, hb2⟩
    case round =>
      obtain ⟨t, j, qs, r, ht, hgk, rfl, hj, hst, hra, hrq, hbel⟩ := hrel
      obtain ⟨wo, rfl⟩ : ∃ wo : World, wo = wr := ⟨_, rfl⟩
      have hrl : r.length = n := by have := hst.out.lr; rw [fromP_length, Hal.out] at this; exact this
      have Hrl := Lib.hid hrl
      have hql : qs.length = N + 1 := by have := hst.out.lq; rw [fromP_length, fromP_length, Hal.out, Hbl.out] at this; have := HN.out; omega
      have Hql := Lib.hid hql
      cases t with
      | zero =>
        obtain rfl : j = -1 := by omega
        obtain ⟨hq1, hr1⟩ := hst.out.done Hplb.out (by rw [fromP_length, Hbl.out]; omega)
        rw [toP_fromP, toP_fromP] at hq1 hr1
        have hinq := hrq.ints (fun i => Pl.i64 hst.out.pq hp2 i)
        rw [hql] at hinq
        have hinr := hra.ints (fun i => Pl.i64 hst.out.pr hp2 i)
        rw [hrl] at hinr
        have cq := pplain_any _ (N + 1) (N + 1) qs p wo hp hinq (by omega)
        rw [← hq1] at cq
        have Cq := Lib.hid cq
        have cr := fun W (hW : Below wo.heap.size wo W) => pplain_any _ n cap1 r p W hp (hinr.bel hW) (by omega)
        rw [← hr1] at cr
        have Cr := Lib.hid cr
        clear cq cr hq1 hr1 hql hrl hj hinq hinr
        go_wp2_with fail
        refine Cq.out.mono ?_
        rintro e w7 ⟨A7, c7, rfl, hn7⟩
        go_wp2_with fail
        refine (Cr.out _ hn7.bel).mono ?_
        rintro e w8 ⟨A8, c8, rfl, hn8⟩
        go_wp2_with fail
        go_ret2
        exact ⟨_, _, _, _, rfl, newInts_later (newInts_sooner hn7 hbel) hn8.bel, newInts_sooner hn8 (below_tr hbel hn7.bel)⟩
      | succ s =>
        obtain rfl : j = (s : Int) := by omega
        have hsN : s ≤ N := by omega
        have hcr := hra.cell (i := s + M) (by omega)
        obtain ⟨l1, l2⟩ := hst.out.pr (s + M)
        have l2' : nth r (s + M) < p := l2
        have hm1 : 0 ≤ nth r (s + M) * top := Int.mul_nonneg l1 ht1
        have hm2 : nth r (s + M) * top ≤ 65521 * 65521 := Int.mul_le_mul (by omega) (by omega) ht1 (by omega)
        have hfq := hrq.frozen s
        have hcq := hrq.cell (i := s) (by omega)
        have hcc := emod_bd (nth r (s + M) * top) (p := p) (by omega)
        obtain ⟨c1, c2⟩ := hcc
        have Hstep : Hid (DivSt ⟨p, hp⟩ (fromP a) (fromP b) s (qs.set s (nth r (s + M) * top % p)) (subAt r (fromP b) (nth r (s + M) * top % p) s p (M + 1))) := by
          have := hst.out.step (top := top) (c := nth r (s + M) * top % p) Hplb.out (by rw [fromP_length, Hbl.out]; omega) (by rw [fromP_length, fromP_length, Hal.out, Hbl.out]; have := HN.out; omega) (by rw [fromP_length, Hbl.out]; exact HTop.out.symm) (by rw [fromP_length, Hbl.out, show s + (M + 1) - 1 = s + M by omega])
          rw [fromP_length, Hbl.out] at this
          exact this
        clear hrl hql hj l2
        go_wp2
        clear hcr hcq hfq
        generalize hcc2 : nth r (s + M) * top % p = cc at *
        have hra5 := hra.far (p := ⟨gq, s, none⟩) hgne (.int .i64 cc)
        have hrq5 := hrq.set s cc
        have hb5 := hbel.setCell (p := ⟨gq, s, none⟩) hgq (.int .i64 cc)
        clear hcc2 hra hrq hbel
        have hra6 : RowA (wo.setCell ⟨gq, s, none⟩ (.int .i64 cc)) g1 3 cap1 (subAt r (fromP b) cc s p 0) := by rw [subAt_zero]; exact hra5
        clear hra5
        go_loopw [63] (fun i wr => ∃ k : Nat, k ≤ M + 1 ∧ i = .int .i64 k ∧ RowA wr g1 3 cap1 (subAt r (fromP b) cc s p k) ∧ Row wr gq 3 (qs.set s cc) ∧ Below w.heap.size w wr) (fun i _ => M + 1 - (intOf i).toNat)
        case atStart => exact ⟨0, by omega, rfl, hra6, hrq5, hb5⟩
        case round =>
          obtain ⟨k, hk, rfl, hra7, hrq7, hb7⟩ := hrel
          by_cases hkl : k < M + 1
          · have hcb := (hb7.cell (p := ⟨ob, oo + k, none⟩) hob).trans (Hoc.out k hkl)
            have hlen : s + k < r.length := by have := Hrl.out; have := HN.out; omega
            have hcx := hra7.cell (i := s + k) (by rw [subAt_length]; exact hlen)
            rw [nth_subAt_at _ _ _ _ _ _ hlen] at hcx
            have hfx := hra7.frozen (s + k)
            have hset := hra7.set (i := s + k) (by rw [subAt_length]; exact hlen) ((nth r (s + k) + (p - cc) * nth (fromP b) k) % p)
            rw [subAt_set _ _ _ _ _ _ hlen] at hset
            have Hset := Lib.hid hset
            obtain ⟨d1, d2⟩ := Hplb.out.pl k
            obtain ⟨d3, d4⟩ := hst.out.pr (s + k)
            have d4' : nth r (s + k) < p := d4
            have m1 : 0 ≤ (p - cc) * nth (fromP b) k := Int.mul_nonneg (by omega) d1
            have m2 : (p - cc) * nth (fromP b) k ≤ 65521 * 65521 := Int.mul_le_mul (by omega) (by omega) d1 (by omega)
            have hrq8 := hrq7.far (p := ⟨g1, s + k, none⟩) (fun e => hgne e.symm) (.int .i64 ((nth r (s + k) + (p - cc) * nth (fromP b) k) % p))
            have hb8 := hb7.setCell (p := ⟨g1, s + k, none⟩) hg1 (.int .i64 ((nth r (s + k) + (p - cc) * nth (fromP b) k) % p))
            have hsk : s + k < n := by have := Hrl.out; omega
            clear hset d4 hlen
            go_wp2
            go_roundw
            case rel => exact ⟨k + 1, by omega, by go_num, Hset.out, hrq8, hb8⟩
            case measure => simp [intOf]; omega
          · obtain rfl : M + 1 = k := by omega
            go_wp2
            go_roundg s.succ
            case measure => omega
            case rel => exact ⟨s, (s : Int) - 1, _, _, by omega, by omega, by go_num, rfl, Hstep, hra7, hrq7, hb7⟩
end Go.Proofs.YtpikakapflebkaaGreat

namespace Go.Proofs.YtpikakapflebkaaGreat
open Go.RowKit Cl
attribute [local go_sem ↓] Go.wp_at_zero Go.wp_at_succ

section
variable {q : Prm}
theorem one_times (a b : Poly (Zp q)) : a + Poly.C (Zp.of q 1) * b = a + b := by rw [Zp.of_one, Poly.C_one, CRing.one_mul]
theorem less_times (a b : Poly (Zp q)) : a + Poly.C (Zp.of q (q.p - 1)) * b = a - b := by
  have e : Zp.of q (q.p - 1) = -1 := by
    rw [← Zp.of_one, ← Zp.of_neg]
    exact Zp.of_cg ⟨1, by omega⟩
  rw [e, Poly.C_neg, Poly.C_one, CRing.neg_mul, CRing.one_mul, CRing.sub_def]
theorem neg_times (a b : Poly (Zp q)) : a + Poly.C (Zp.of q (-1)) * b = a - b := by
  rw [show Zp.of q (-1) = -1 by rw [← Zp.of_one, ← Zp.of_neg], Poly.C_neg, Poly.C_one, CRing.neg_mul, CRing.one_mul, CRing.sub_def]
theorem len_le_toP {xs : List Int} {n : Nat} (h : xs.length = n) : (toP q xs).len ≤ n := h ▸ len_toP_le xs
theorem givesPE_of {w w' : World} {x : Poly (Zp q)} {A : Option Addr} {n c : Nat} {err : Int} (h1 : NewInts 3 w w' A c n (fromP x)) : GivesPE w x err (.returned (.tuple #[.slice A n c, .int .i64 err])) w' := by
  obtain rfl : x.len = n := by have := h1.len; rw [fromP_length] at this; exact this
  exact ⟨_, _, rfl, h1⟩
theorem newInts_nil {w w' : World} (hb : Below w.heap.size w w') : NewInts 3 w w' none 0 0 (fromP (0 : Poly (Zp q))) :=
  NewInts.of (by rw [fromP_zero]; exact World.ownsRow_nil _ _ _ _) (by rw [fromP_zero]; rfl) (fromP_i64 _) hb
end

theorem fromP_one {p : Int} (hp : Pr p) : fromP (1 : Poly (Zp ⟨p, hp⟩)) = [1] := by
  have h := (IsPl.eq_fromP (q := ⟨p, hp⟩) (xs := [1]) ⟨fun i => by
    match i with
    | 0 => show 0 ≤ (1 : Int) ∧ (1 : Int) < p; have := hp.two; omega
    | i + 1 => rw [nth_ge (by simp)]; have := hp.two; show 0 ≤ (0 : Int) ∧ (0 : Int) < p; omega, fun _ => by decide⟩)
  rw [← h]
  congr 1
  rw [toP_one]; rfl

theorem pnorm_yes (A : Option Addr) (n c : Nat) (xs : List Int) (p : Int) (w : World) (hp : Pr p) (hx : Ints w A n xs) (hn : n * 8 ≤ 281474976710656) :
    Calls Tryz.prog 15 #[.slice A n c, .int .i64 p] w (GivesPE w (toP ⟨p, hp⟩ xs) 0) := by
  have hp1 := hp.two
  have hp2 := hp.max
  have Cp := Lib.hid (pplain_any A n c xs p w hp hx hn)
  go_enter Tryz.func15, Tryz.ntmps15
  go_wp2_with fail
  refine (chk_yes _ _ (by omega) (by omega) ((isPrime_iff p).2 hp)).mono ?_
  rintro e w' ⟨rfl, rfl⟩
  go_wp2_with fail
  refine Cp.out.mono ?_
  rintro e w1 ⟨A1, c1, rfl, hn1⟩
  go_wp2_with fail
  go_ret2
  exact givesPE_of hn1

theorem pnorm_no (A : Option Addr) (n c : Nat) (p : Int) (w : World) (h3 : -9223372036854775808 ≤ p) (h4 : p ≤ 9223372036854775807) (hp : isPrime p = false) :
    Calls Tryz.prog 15 #[.slice A n c, .int .i64 p] w fun e w' => e = .returned (.tuple #[.slice none 0 0, .int .i64 1]) ∧ w = w' := by
  go_enter Tryz.func15, Tryz.ntmps15
  go_wp2_with fail
  refine (chk_no _ _ h3 h4 hp).mono ?_
  rintro e w' ⟨rfl, rfl⟩
  go_wp2_with fail
  go_ret2
  exact ⟨rfl, rfl⟩

theorem padd_yes (A B : Option Addr) (n c m d : Nat) (xs ys : List Int) (p : Int) (w : World) (hp : Pr p) (hx : Ints w A n xs) (hy : Ints w B m ys) (hn : n * 8 ≤ 140737488355328) (hm : m * 8 ≤ 140737488355328) :
    Calls Tryz.prog 97 #[.slice A n c, .slice B m d, .int .i64 p] w (GivesPE w (toP ⟨p, hp⟩ xs + toP ⟨p, hp⟩ ys) 0) := by
  have hp1 := hp.two
  have hp2 := hp.max
  have Ca := Lib.hid (pplain_any A n c xs p w hp hx (by omega))
  have Cb := Lib.hid (fun W (h : Below w.heap.size w W) => pplain_any B m d ys p W hp (hy.bel h) (by omega))
  have hla : (toP ⟨p, hp⟩ xs).len ≤ n := len_le_toP hx.len
  have hlb : (toP ⟨p, hp⟩ ys).len ≤ m := len_le_toP hy.len
  have Cc := Lib.hid (fun A1 c1 A2 c2 W (h1 : Ints W A1 (toP ⟨p, hp⟩ xs).len (fromP (toP ⟨p, hp⟩ xs))) (h2 : Ints W A2 (toP ⟨p, hp⟩ ys).len (fromP (toP ⟨p, hp⟩ ys))) => psumP A1 A2 c1 c2 _ _ 1 W h1 h2 (by omega) (by omega) (by omega))
  go_enter Tryz.func97, Tryz.ntmps97
  go_wp2_with fail
  refine (chk_yes _ _ (by omega) (by omega) ((isPrime_iff p).2 hp)).mono ?_
  rintro e w' ⟨rfl, rfl⟩
  go_wp2_with fail
  refine Ca.out.mono ?_
  rintro e w1 ⟨A1, c1, rfl, hn1⟩
  go_wp2_with fail
  refine (Cb.out _ hn1.bel).mono ?_
  rintro e w2 ⟨A2, c2, rfl, hn2⟩
  go_wp2_with fail
  refine (Cc.out A1 c1 A2 c2 w2 (hn1.rd.bel hn2.bel) hn2.rd).mono ?_
  rintro e w3 ⟨A3, c3, rfl, hn3⟩
  go_wp2_with fail
  go_ret2
  have hn4 := newInts_sooner hn3 (below_tr hn1.bel hn2.bel)
  rw [one_times] at hn4 ⊢
  exact givesPE_of hn4

theorem padd_no (A B : Option Addr) (n c m d : Nat) (p : Int) (w : World) (h3 : -9223372036854775808 ≤ p) (h4 : p ≤ 9223372036854775807) (hp : isPrime p = false) :
    Calls Tryz.prog 97 #[.slice A n c, .slice B m d, .int .i64 p] w fun e w' => e = .returned (.tuple #[.slice none 0 0, .int .i64 1]) ∧ w = w' := by
  go_enter Tryz.func97, Tryz.ntmps97
  go_wp2_with fail
  refine (chk_no _ _ h3 h4 hp).mono ?_
  rintro e w' ⟨rfl, rfl⟩
  go_wp2_with fail
  go_ret2
  exact ⟨rfl, rfl⟩

theorem psub_yes (A B : Option Addr) (n c m d : Nat) (xs ys : List Int) (p : Int) (w : World) (hp : Pr p) (hx : Ints w A n xs) (hy : Ints w B m ys) (hn : n * 8 ≤ 140737488355328) (hm : m * 8 ≤ 140737488355328) :
    Calls Tryz.prog 43 #[.slice A n c, .slice B m d, .int .i64 p] w (GivesPE w (toP ⟨p, hp⟩ xs - toP ⟨p, hp⟩ ys) 0) := by
  have hp1 := hp.two
  have hp2 := hp.max
  have Ca := Lib.hid (pplain_any A n c xs p w hp hx (by omega))
  have Cb := Lib.hid (fun W (h : Below w.heap.size w W) => pplain_any B m d ys p W hp (hy.bel h) (by omega))
  have hla : (toP ⟨p, hp⟩ xs).len ≤ n := len_le_toP hx.len
  have hlb : (toP ⟨p, hp⟩ ys).len ≤ m := len_le_toP hy.len
  have Cc := Lib.hid (fun A1 c1 A2 c2 W (h1 : Ints W A1 (toP ⟨p, hp⟩ xs).len (fromP (toP ⟨p, hp⟩ xs))) (h2 : Ints W A2 (toP ⟨p, hp⟩ ys).len (fromP (toP ⟨p, hp⟩ ys))) => psumP A1 A2 c1 c2 _ _ (p - 1) W h1 h2 (by omega) (by omega) (by omega))
  go_enter Tryz.func43, Tryz.ntmps43
  go_wp2_with fail
  refine (chk_yes _ _ (by omega) (by omega) ((isPrime_iff p).2 hp)).mono ?_
  rintro e w' ⟨rfl, rfl⟩
  go_wp2_with fail
  refine Ca.out.mono ?_
  rintro e w1 ⟨A1, c1, rfl, hn1⟩
  go_wp2_with fail
  refine (Cb.out _ hn1.bel).mono ?_
  rintro e w2 ⟨A2, c2, rfl, hn2⟩
  go_wp2_with fail
  refine (Cc.out A1 c1 A2 c2 w2 (hn1.rd.bel hn2.bel) hn2.rd).mono ?_
  rintro e w3 ⟨A3, c3, rfl, hn3⟩
  go_wp2_with fail
  go_ret2
  have hn4 := newInts_sooner hn3 (below_tr hn1.bel hn2.bel)
  rw [less_times (q := ⟨p, hp⟩)] at hn4 ⊢
  exact givesPE_of hn4

theorem psub_no (A B : Option Addr) (n c m d : Nat) (p : Int) (w : World) (h3 : -9223372036854775808 ≤ p) (h4 : p ≤ 9223372036854775807) (hp : isPrime p = false) :
    Calls Tryz.prog 43 #[.slice A n c, .slice B m d, .int .i64 p] w fun e w' => e = .returned (.tuple #[.slice none 0 0, .int .i64 1]) ∧ w = w' := by
  go_enter Tryz.func43, Tryz.ntmps43
  go_wp2_with fail
  refine (chk_no _ _ h3 h4 hp).mono ?_
  rintro e w' ⟨rfl, rfl⟩
  go_wp2_with fail
  go_ret2
  exact ⟨rfl, rfl⟩

theorem pmul_yes (A B : Option Addr) (n c m d : Nat) (xs ys : List Int) (p : Int) (w : World) (hp : Pr p) (hx : Ints w A n xs) (hy : Ints w B m ys) (hn : n * 8 ≤ 140737488355328) (hm : m * 8 ≤ 140737488355328) :
    Calls Tryz.prog 32 #[.slice A n c, .slice B m d, .int .i64 p] w (GivesPE w (toP ⟨p, hp⟩ xs * toP ⟨p, hp⟩ ys) 0) := by
  have hp1 := hp.two
  have hp2 := hp.max
  have Ca := Lib.hid (pplain_any A n c xs p w hp hx (by omega))
  have Cb := Lib.hid (fun W (h : Below w.heap.size w W) => pplain_any B m d ys p W hp (hy.bel h) (by omega))
  have hla : (toP ⟨p, hp⟩ xs).len ≤ n := len_le_toP hx.len
  have hlb : (toP ⟨p, hp⟩ ys).len ≤ m := len_le_toP hy.len
  have Cc := Lib.hid (fun A1 c1 A2 c2 W (h1 : Ints W A1 (toP ⟨p, hp⟩ xs).len (fromP (toP ⟨p, hp⟩ xs))) (h2 : Ints W A2 (toP ⟨p, hp⟩ ys).len (fromP (toP ⟨p, hp⟩ ys))) => pprodP A1 A2 c1 c2 _ _ W h1 h2 (by omega))
  go_enter Tryz.func32, Tryz.ntmps32
  go_wp2_with fail
  refine (chk_yes _ _ (by omega) (by omega) ((isPrime_iff p).2 hp)).mono ?_
  rintro e w' ⟨rfl, rfl⟩
  go_wp2_with fail
  refine Ca.out.mono ?_
  rintro e w1 ⟨A1, c1, rfl, hn1⟩
  go_wp2_with fail
  refine (Cb.out _ hn1.bel).mono ?_
  rintro e w2 ⟨A2, c2, rfl, hn2⟩
  go_wp2_with fail
  refine (Cc.out A1 c1 A2 c2 w2 (hn1.rd.bel hn2.bel) hn2.rd).mono ?_
  rintro e w3 ⟨A3, c3, rfl, hn3⟩
  go_wp2_with fail
  go_ret2
  have hn4 := newInts_sooner hn3 (below_tr hn1.bel hn2.bel)
  exact givesPE_of hn4

theorem pmul_no (A B : Option Addr) (n c m d : Nat) (p : Int) (w : World) (h3 : -9223372036854775808 ≤ p) (h4 : p ≤ 9223372036854775807) (hp : isPrime p = false) :
    Calls Tryz.prog 32 #[.slice A n c, .slice B m d, .int .i64 p] w fun e w' => e = .returned (.tuple #[.slice none 0 0, .int .i64 1]) ∧ w = w' := by
  go_enter Tryz.func32, Tryz.ntmps32
  go_wp2_with fail
  refine (chk_no _ _ h3 h4 hp).mono ?_
  rintro e w' ⟨rfl, rfl⟩
  go_wp2_with fail
  go_ret2
  exact ⟨rfl, rfl⟩

theorem givesPPE_of {q : Prm} {w w' : World} {x y : Poly (Zp q)} {A B : Option Addr} {n c m d : Nat} {err : Int} (h1 : NewInts 3 w w' A c n (fromP x)) (h2 : NewInts 3 w w' B d m (fromP y)) :
    GivesPPE w x y err (.returned (.tuple #[.slice A n c, .slice B m d, .int .i64 err])) w' := by
  obtain rfl : x.len = n := by have := h1.len; rw [fromP_length] at this; exact this
  obtain rfl : y.len = m := by have := h2.len; rw [fromP_length] at this; exact this
  exact ⟨_, _, _, _, rfl, h1, h2⟩
theorem pdiv_yes (A B : Option Addr) (n c m d : Nat) (xs ys : List Int) (p : Int) (w : World) (hp : Pr p) (hx : Ints w A n xs) (hy : Ints w B m ys) (hn : n * 8 ≤ 140737488355320) (hm : m * 8 ≤ 140737488355320) (hb0 : toP ⟨p, hp⟩ ys ≠ 0) :
    Calls Tryz.prog 65 #[.slice A n c, .slice B m d, .int .i64 p] w (GivesPPE w (Poly.quo (toP ⟨p, hp⟩ xs) (toP ⟨p, hp⟩ ys)) (Poly.rem (toP ⟨p, hp⟩ xs) (toP ⟨p, hp⟩ ys)) 0) := by
  have hp1 := hp.two
  have hp2 := hp.max
  have Cb := Lib.hid (pplain_any B m d ys p w hp hy (by omega))
  have Ca := Lib.hid (fun W (h : Below w.heap.size w W) => pplain_any A n c xs p W hp (hx.bel h) (by omega))
  have hla : (toP ⟨p, hp⟩ xs).len ≤ n := len_le_toP hx.len
  have hlb : (toP ⟨p, hp⟩ ys).len ≤ m := len_le_toP hy.len
  have hlp := Poly.len_pos hb0
  have hne : (((toP ⟨p, hp⟩ ys).len : Int) == 0) = false := beq_eq_false_iff_ne.2 (by omega)
  have Cc := Lib.hid (fun A1 c1 A2 c2 W (h1 : Ints W A1 (toP ⟨p, hp⟩ xs).len (fromP (toP ⟨p, hp⟩ xs))) (h2 : Ints W A2 (toP ⟨p, hp⟩ ys).len (fromP (toP ⟨p, hp⟩ ys))) => pdivided_any A1 A2 _ _ c1 c2 _ _ W h1 h2 (by omega) (by omega) hb0)
  go_enter Tryz.func65, Tryz.ntmps65
  go_wp2_with fail
  refine (chk_yes _ _ (by omega) (by omega) ((isPrime_iff p).2 hp)).mono ?_
  rintro e w' ⟨rfl, rfl⟩
  go_wp2_with fail
  refine Cb.out.mono ?_
  rintro e w1 ⟨A1, c1, rfl, hn1⟩
  go_wp2_with fail
  refine (Ca.out _ hn1.bel).mono ?_
  rintro e w2 ⟨A2, c2, rfl, hn2⟩
  go_wp2_with fail
  refine (Cc.out A2 c2 A1 c1 w2 hn2.rd (hn1.rd.bel hn2.bel)).mono ?_
  rintro e w3 ⟨A3, c3, A4, c4, rfl, hn3, hn4⟩
  go_wp2_with fail
  go_ret3
  exact givesPPE_of (newInts_sooner hn3 (below_tr hn1.bel hn2.bel)) (newInts_sooner hn4 (below_tr hn1.bel hn2.bel))
theorem pdiv_zero (A B : Option Addr) (n c m d : Nat) (ys : List Int) (p : Int) (w : World) (hp : Pr p) (hy : Ints w B m ys) (hm : m * 8 ≤ 140737488355320) (hb0 : toP ⟨p, hp⟩ ys = 0) :
    Calls Tryz.prog 65 #[.slice A n c, .slice B m d, .int .i64 p] w fun e w' => e = .returned (.tuple #[.slice none 0 0, .slice none 0 0, .int .i64 3]) ∧ Below w.heap.size w w' := by
  have hp1 := hp.two
  have hp2 := hp.max
  have cb := pplain_any B m d ys p w hp hy (by omega)
  rw [hb0] at cb
  have Cb := Lib.hid cb
  have hz : (0 : Poly (Zp ⟨p, hp⟩)).len = 0 := Poly.len_zero
  have Hz := Lib.hid hz
  clear cb hb0 hz
  go_enter Tryz.func65, Tryz.ntmps65
  go_wp2_with fail
  refine (chk_yes _ _ (by omega) (by omega) ((isPrime_iff p).2 hp)).mono ?_
  rintro e w' ⟨rfl, rfl⟩
  go_wp2_with fail
  refine Cb.out.mono ?_
  rintro e w1 ⟨A1, c1, rfl, hn1⟩
  rw [Hz.out]
  go_wp2_with fail
  go_ret3
  exact ⟨rfl, hn1.bel⟩

theorem pdiv_no (A B : Option Addr) (n c m d : Nat) (p : Int) (w : World) (h3 : -9223372036854775808 ≤ p) (h4 : p ≤ 9223372036854775807) (hp : isPrime p = false) :
    Calls Tryz.prog 65 #[.slice A n c, .slice B m d, .int .i64 p] w fun e w' => e = .returned (.tuple #[.slice none 0 0, .slice none 0 0, .int .i64 1]) ∧ w = w' := by
  go_enter Tryz.func65, Tryz.ntmps65
  go_wp2_with fail
  refine (chk_no _ _ h3 h4 hp).mono ?_
  rintro e w' ⟨rfl, rfl⟩
  go_wp2_with fail
  go_ret3
  exact ⟨rfl, rfl⟩

theorem pmonic_yes (A : Option Addr) (n c : Nat) (xs : List Int) (p : Int) (w : World) (hp : Pr p) (hx : Ints w A n xs) (hn : n * 8 ≤ 281474976710640) :
    Calls Tryz.prog 53 #[.slice A n c, .int .i64 p] w (GivesPE w (Poly.monic (toP ⟨p, hp⟩ xs)) 0) := by
  have hp1 := hp.two
  have hp2 := hp.max
  have ca := pplain_any A n c xs p w hp hx (by omega)
  have hla : (toP ⟨p, hp⟩ xs).len ≤ n := len_le_toP hx.len
  by_cases h0 : toP ⟨p, hp⟩ xs = 0
  · rw [h0] at ca ⊢
    have Ca := Lib.hid ca
    have Hz := Lib.hid (Poly.len_zero (F := Zp ⟨p, hp⟩))
    clear ca h0 hla
    go_enter Tryz.func53, Tryz.ntmps53
    go_wp2_with fail
    refine (chk_yes _ _ (by omega) (by omega) ((isPrime_iff p).2 hp)).mono ?_
    rintro e w' ⟨rfl, rfl⟩
    go_wp2_with fail
    refine Ca.out.mono ?_
    rintro e w1 ⟨A1, c1, rfl, hn1⟩
    rw [Hz.out]
    go_wp2_with fail
    go_ret2
    rw [Poly.monic_zero]
    exact givesPE_of (newInts_nil hn1.bel)
  · have Ca := Lib.hid ca
    have hlp := Poly.len_pos h0
    have Hlc : Hid (Zp.of ⟨p, hp⟩ (nth (fromP (toP ⟨p, hp⟩ xs)) ((toP ⟨p, hp⟩ xs).len - 1)) = (toP ⟨p, hp⟩ xs).lc) := fromP_top h0
    have hbd := fromP_lt (toP ⟨p, hp⟩ xs) ((toP ⟨p, hp⟩ xs).len - 1)
    have htop := (fromP_pl (toP ⟨p, hp⟩ xs)).top (by rw [fromP_length]; exact hlp)
    rw [fromP_length] at htop
    have Hbd : Hid (0 < nth (fromP (toP ⟨p, hp⟩ xs)) ((toP ⟨p, hp⟩ xs).len - 1) ∧ nth (fromP (toP ⟨p, hp⟩ xs)) ((toP ⟨p, hp⟩ xs).len - 1) < p) := ⟨by have := hbd.1; omega, hbd.2⟩
    clear ca htop hbd
    generalize hP : toP ⟨p, hp⟩ xs = P at *
    clear hP
    obtain ⟨L, hL⟩ : ∃ L, P.len = L + 1 := ⟨P.len - 1, by omega⟩
    have HL := Lib.hid hL
    rw [hL] at hla Hlc Hbd
    simp only [Nat.add_sub_cancel] at Hlc Hbd
    clear hL hlp
    go_enter Tryz.func53, Tryz.ntmps53
    go_wp2_with fail
    refine (chk_yes _ _ (by omega) (by omega) ((isPrime_iff p).2 hp)).mono ?_
    rintro e w' ⟨rfl, rfl⟩
    go_wp2_with fail
    refine Ca.out.mono ?_
    rintro e w1 ⟨A1, c1, rfl, hn1⟩
    have hrd := hn1.rd
    have hb1 := hn1.bel
    rw [HL.out] at hrd ⊢
    obtain ⟨b, o, rfl, hb, hc⟩ := hrd.at_ (by omega)
    have hcl := hc L (by omega)
    clear hc hn1
    go_wp2_with fail
    refine (pscaled_any _ (L + 1) _ P _ w1 hrd (by omega) Hbd.out).mono ?_
    rintro e w2 ⟨A2, c2, rfl, hn2⟩
    rw [Hlc.out] at hn2 ⊢
    go_wp2_with fail
    go_ret2
    exact givesPE_of (newInts_sooner hn2 hb1)

theorem pmonic_no (A : Option Addr) (n c : Nat) (p : Int) (w : World) (h3 : -9223372036854775808 ≤ p) (h4 : p ≤ 9223372036854775807) (hp : isPrime p = false) :
    Calls Tryz.prog 53 #[.slice A n c, .int .i64 p] w fun e w' => e = .returned (.tuple #[.slice none 0 0, .int .i64 1]) ∧ w = w' := by
  go_enter Tryz.func53, Tryz.ntmps53
  go_wp2_with fail
  refine (chk_no _ _ h3 h4 hp).mono ?_
  rintro e w' ⟨rfl, rfl⟩
  go_wp2_with fail
  go_ret2
  exact ⟨rfl, rfl⟩

end Go.Proofs.YtpikakapflebkaaGreat
