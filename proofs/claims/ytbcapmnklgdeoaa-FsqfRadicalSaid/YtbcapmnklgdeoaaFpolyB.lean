/- Contracts: a sum of two polynomials: the program's. -/
import Derived.Test.YtbcapmnklgdeoaaFpolyA
import Derived.Laws.CopyOwn
namespace Go.Proofs.Ytbcapmnklgdeoaa
open Go.RowKit Cl
attribute [local go_sem ↓] Go.wp_at_zero Go.wp_at_succ

/-- One list and so many times another one, the first k of M places done. -/
def addTo (xs ys : List Int) (kk : Int) (M k : Nat) : List Int := tab M (fun i => if i < k then nth xs i + kk * nth ys i else nth xs i)
theorem addTo_length (xs ys : List Int) (kk : Int) (M k : Nat) : (addTo xs ys kk M k).length = M := tab_length _ _
theorem nth_addTo_at (xs ys : List Int) (kk : Int) {M k : Nat} (h : k < M) : nth (addTo xs ys kk M k) k = nth xs k := by
  unfold addTo; rw [nth_tab, if_pos h, if_neg (by omega)]
theorem addTo_set (xs ys : List Int) (kk : Int) {M k : Nat} (h : k < M) : (addTo xs ys kk M k).set k (nth xs k + kk * nth ys k) = addTo xs ys kk M (k + 1) := by
  unfold addTo
  rw [tab_set h]
  refine tab_congr fun i _ => ?_
  by_cases e : i = k
  · subst e; rw [if_pos rfl, if_pos (by omega)]
  · rw [if_neg e]
    by_cases h1 : i < k
    · rw [if_pos h1, if_pos (by omega)]
    · rw [if_neg h1, if_neg (by omega)]
theorem addTo_zero (xs ys : List Int) (kk : Int) (M : Nat) : addTo xs ys kk M 0 = tab M (nth xs) := tab_congr fun i _ => if_neg (by omega)
theorem toP_addTo {q : Prm} {xs ys : List Int} {kk : Int} {M k : Nat} (hx : xs.length ≤ M) (hy : ys.length ≤ k) (hk : k ≤ M) : toP q (addTo xs ys kk M k) = toP q xs + Poly.C (Zp.of q kk) * toP q ys := Poly.ext fun i => by
  rw [Poly.co_add, Poly.co_C_mul, co_toP, co_toP, co_toP]
  unfold addTo
  rw [nth_tab]
  by_cases h : i < k
  · rw [if_pos (by omega), if_pos h, of_add_mul]
  · have e : Zp.of q kk * Zp.of q (nth ys i) = 0 := by rw [nth_ge (xs := ys) (by omega), Zp.of_zero, CRing.mul_zero]
    rw [e, CRing.add_zero]
    by_cases h2 : i < M
    · rw [if_pos h2, if_neg h]
    · rw [if_neg h2, nth_ge (xs := xs) (by omega)]
theorem splice_pad (xs : List Int) {M : Nat} (h : xs.length ≤ M) : splice (ints (List.replicate M 0)) 0 (ints xs) = ints (tab M (nth xs)) := by
  unfold splice
  rw [List.take_zero, List.nil_append, Nat.zero_add, ints_length]
  have e : (ints (List.replicate M 0)).drop xs.length = ints (List.replicate (M - xs.length) 0) := by simp [ints]
  rw [e, ← ints_append]
  congr 1
  refine list_ext (by simp; omega) fun i hi => ?_
  rw [nth_tab]
  by_cases h1 : i < xs.length
  · rw [nth_append_lt h1, if_pos (by omega)]
  · rw [nth_append_ge (by omega), nth_ge (xs := xs) (by omega)]
    have : nth (List.replicate (M - xs.length) (0 : Int)) (i - xs.length) = 0 := by
      by_cases h2 : i - xs.length < M - xs.length
      · rw [nth_lt (by simpa using h2)]; simp
      · exact nth_ge (by simp; omega)
    rw [this]; split <;> rfl

theorem int_size : (Try.prog.info? 3).map (·.size) = some 1 := by kernel_rfl

set_option maxRecDepth 100000 in
theorem psum_lt (A B : Option Addr) (n M c d : Nat) (xs ys : List Int) (kk p : Int) (w : World) (hp : Pr p) (hx : Ints w A n xs) (hy : Ints w B M ys) (hcase : (n : Int) < (M : Int)) (hle : n ≤ M) (hMb : M * 8 ≤ 281474976710656)
    (hpx : Pl p xs) (hpy : Pl p ys) (hk : 0 ≤ kk ∧ kk < p) :
    Calls Try.prog 70 #[.slice A n c, .slice B M d, .int .i64 kk, .int .i64 p] w (GivesP w (toP ⟨p, hp⟩ xs + Poly.C (Zp.of ⟨p, hp⟩ kk) * toP ⟨p, hp⟩ ys)) := by
  have hmk := make_ints M (by omega)
  have hp1 := hp.two
  have hp2 := hp.max
  obtain ⟨hk1, hk2⟩ := hk
  have Hxl := Lib.hid hx.len
  have Hyl := Lib.hid hy.len
  have Hpx := Lib.hid hpx
  have Hpy := Lib.hid hpy
  clear hpx hpy
  have hrow0 := Row.new w 3 (List.replicate M 0)
  have Hsp := Lib.hid (splice_pad xs (M := M) (by rw [hx.len]; omega))
  have Hl0 : Hid ((ints xs).length = Nat.min n M) := by show _ = _; rw [ints_length, hx.len]; exact (Nat.min_eq_left (by omega)).symm
  have Hsrc : Hid (0 < (ints xs).length → some (⟨w.heap.size, 0, none⟩ : Addr) = some ⟨w.heap.size, 0, none⟩ ∧ ∃ ad, A = some ad ∧ ∀ j v, (ints xs)[j]? = some v → (w.alloc (.cells (ints (List.replicate M 0)).toArray 3)).cell? (ad.add j) = some v) := by
    intro h0
    rw [ints_length, hx.len] at h0
    obtain ⟨b, o, rfl, hb, hc⟩ := hx.at_ h0
    refine ⟨rfl, _, rfl, fun j v hj => ?_⟩
    have hjl : j < xs.length := by
      have := (List.getElem?_eq_some_iff.1 hj).1
      rwa [ints_length] at this
    rw [ints_get hjl] at hj
    injection hj with hj
    subst hj
    rw [Go.WideShapes.add_plain, World.cell?_alloc_lt _ _ _ hb]
    exact hc j (by rw [← hx.len]; exact hjl)
  have Hfin : Hid (toP ⟨p, hp⟩ (addTo xs ys kk M M) = toP ⟨p, hp⟩ xs + Poly.C (Zp.of ⟨p, hp⟩ kk) * toP ⟨p, hp⟩ ys) := toP_addTo (by rw [hx.len]; omega) (by rw [hy.len]; omega) (by omega)
  have Hbd : Hid (∀ k i, 0 ≤ nth (addTo xs ys kk M k) i ∧ nth (addTo xs ys kk M k) i ≤ 5000000000) := fun k i => by
    unfold addTo
    rw [nth_tab]
    have h1 := Hpx.out i
    have h2 := Hpy.out i
    have h3 : 0 ≤ kk * nth ys i := Int.mul_nonneg hk1 h2.1
    have h4 : kk * nth ys i ≤ 65521 * 65521 := Int.mul_le_mul (by omega) (by omega) h2.1 (by omega)
    split
    · split <;> omega
    · omega
  go_enter Try.func70, Try.ntmps70
  go_wp2_with ((with_reducible show wpList _ _ _ (⟨some 20, _, _, _, _, _⟩ :: _) _ _); refine wpList_copy_splice rfl (.tmp 18) (.tmp 19) 22 22 rfl 3 Try.underlying22 int_size (some ⟨w.heap.size, 0, none⟩) A M M n c (by rfl) (by rfl) w.heap.size 0 (ints (List.replicate M 0)) 3 hrow0 (ints xs) Hl0.out Hsrc.out (by rw [ints_length, ints_length, List.length_replicate, Hxl.out]; omega) (Cl.ints_oneCell xs) w.heap.size w ((Below.refl _ _).alloc (Nat.le_refl _) _) (Nat.le_refl _) ?_; intro w1 hrow1 hb1)
  have hs1 := hb1.size
  have hrow1' : Row w1 w.heap.size 3 (addTo xs ys kk M 0) := by
    have := hrow1.out
    rw [Hsp.out] at this
    rw [addTo_zero]; exact this
  clear hrow1 Hsrc Hsp Hl0
  go_loopw [23] (fun i wr => ∃ k : Nat, k ≤ M ∧ i = .int .i64 k ∧ Row wr w.heap.size 3 (addTo xs ys kk M k) ∧ Below w.heap.size w wr) (fun i _ => M - (intOf i).toNat)
  case atStart => exact ⟨0, by omega, rfl, hrow1', hb1⟩
  case round =>
    obtain ⟨k, hk, rfl, hrow, hbel⟩ := hrel
    by_cases hlt : k < M
    · obtain ⟨b, o, rfl, hb, hc⟩ := hy.at_ (by omega)
      have hcx : wr.cell? ⟨b, o + k, none⟩ = some (.int .i64 (nth ys k)) := (hbel.cell (p := ⟨b, o + k, none⟩) hb).trans (hc k hlt)
      have hcy := hrow.cell (i := k) (by rw [addTo_length]; omega)
      rw [nth_addTo_at xs ys kk (show k < M by omega)] at hcy
      have hfz := hrow.frozen k
      obtain ⟨l1, l2⟩ := Hpx.out k
      obtain ⟨l3, l4⟩ := Hpy.out k
      have hm1 : 0 ≤ kk * nth ys k := Int.mul_nonneg hk1 l3
      have hm2 : kk * nth ys k ≤ 65521 * 65521 := Int.mul_le_mul (by omega) (by omega) l3 (by omega)
      have hset := hrow.set k (nth xs k + kk * nth ys k)
      rw [addTo_set xs ys kk (show k < M by omega)] at hset
      have Hset := Lib.hid hset; clear hset hc
      have hkM : (k : Int) < (M : Int) := by omega
      go_wp2
      go_roundw
      case rel => exact ⟨k + 1, by omega, by go_num, Hset.out, hbel.setCell (Nat.le_refl _) _⟩
      case measure => simp [intOf]; omega
    · obtain rfl : M = k := by omega
      have hin := hrow.ints (fun i => by have := Hbd.out M i; exact I64.small this.1 (by omega))
      rw [addTo_length] at hin
      have cp := pplain_any _ M M _ p wr hp hin (by omega)
      rw [Hfin.out] at cp
      have Cp := Lib.hid cp
      clear cp
      go_wp2_with (go_at_call 30; refine Cp.out.mono ?_; rintro e w2 ⟨A2, c2, rfl, hn2⟩)
      go_ret
      exact ⟨_, _, rfl, newInts_sooner hn2 hbel⟩

set_option maxRecDepth 100000 in
theorem psum_ge (A B : Option Addr) (M m c d : Nat) (xs ys : List Int) (kk p : Int) (w : World) (hp : Pr p) (hx : Ints w A M xs) (hy : Ints w B m ys) (hcase : ¬ ((M : Int) < (m : Int))) (hle : m ≤ M) (hMb : M * 8 ≤ 281474976710656)
    (hpx : Pl p xs) (hpy : Pl p ys) (hk : 0 ≤ kk ∧ kk < p) :
    Calls Try.prog 70 #[.slice A M c, .slice B m d, .int .i64 kk, .int .i64 p] w (GivesP w (toP ⟨p, hp⟩ xs + Poly.C (Zp.of ⟨p, hp⟩ kk) * toP ⟨p, hp⟩ ys)) := by
  have hmk := make_ints M (by omega)
  have hp1 := hp.two
  have hp2 := hp.max
  obtain ⟨hk1, hk2⟩ := hk
  have Hxl := Lib.hid hx.len
  have Hyl := Lib.hid hy.len
  have Hpx := Lib.hid hpx
  have Hpy := Lib.hid hpy
  clear hpx hpy
  have hrow0 := Row.new w 3 (List.replicate M 0)
  have Hsp := Lib.hid (splice_pad xs (M := M) (by rw [hx.len]; omega))
  have Hl0 : Hid ((ints xs).length = Nat.min M M) := by show _ = _; rw [ints_length, hx.len]; exact (Nat.min_eq_left (by omega)).symm
  have Hsrc : Hid (0 < (ints xs).length → some (⟨w.heap.size, 0, none⟩ : Addr) = some ⟨w.heap.size, 0, none⟩ ∧ ∃ ad, A = some ad ∧ ∀ j v, (ints xs)[j]? = some v → (w.alloc (.cells (ints (List.replicate M 0)).toArray 3)).cell? (ad.add j) = some v) := by
    intro h0
    rw [ints_length, hx.len] at h0
    obtain ⟨b, o, rfl, hb, hc⟩ := hx.at_ h0
    refine ⟨rfl, _, rfl, fun j v hj => ?_⟩
    have hjl : j < xs.length := by
      have := (List.getElem?_eq_some_iff.1 hj).1
      rwa [ints_length] at this
    rw [ints_get hjl] at hj
    injection hj with hj
    subst hj
    rw [Go.WideShapes.add_plain, World.cell?_alloc_lt _ _ _ hb]
    exact hc j (by rw [← hx.len]; exact hjl)
  have Hfin : Hid (toP ⟨p, hp⟩ (addTo xs ys kk M m) = toP ⟨p, hp⟩ xs + Poly.C (Zp.of ⟨p, hp⟩ kk) * toP ⟨p, hp⟩ ys) := toP_addTo (by rw [hx.len]; omega) (by rw [hy.len]; omega) (by omega)
  have Hbd : Hid (∀ k i, 0 ≤ nth (addTo xs ys kk M k) i ∧ nth (addTo xs ys kk M k) i ≤ 5000000000) := fun k i => by
    unfold addTo
    rw [nth_tab]
    have h1 := Hpx.out i
    have h2 := Hpy.out i
    have h3 : 0 ≤ kk * nth ys i := Int.mul_nonneg hk1 h2.1
    have h4 : kk * nth ys i ≤ 65521 * 65521 := Int.mul_le_mul (by omega) (by omega) h2.1 (by omega)
    split
    · split <;> omega
    · omega
  go_enter Try.func70, Try.ntmps70
  go_wp2_with ((with_reducible show wpList _ _ _ (⟨some 20, _, _, _, _, _⟩ :: _) _ _); refine wpList_copy_splice rfl (.tmp 18) (.tmp 19) 22 22 rfl 3 Try.underlying22 int_size (some ⟨w.heap.size, 0, none⟩) A M M M c (by rfl) (by rfl) w.heap.size 0 (ints (List.replicate M 0)) 3 hrow0 (ints xs) Hl0.out Hsrc.out (by rw [ints_length, ints_length, List.length_replicate, Hxl.out]; omega) (Cl.ints_oneCell xs) w.heap.size w ((Below.refl _ _).alloc (Nat.le_refl _) _) (Nat.le_refl _) ?_; intro w1 hrow1 hb1)
  have hs1 := hb1.size
  have hrow1' : Row w1 w.heap.size 3 (addTo xs ys kk M 0) := by
    have := hrow1.out
    rw [Hsp.out] at this
    rw [addTo_zero]; exact this
  clear hrow1 Hsrc Hsp Hl0
  go_loopw [23] (fun i wr => ∃ k : Nat, k ≤ m ∧ i = .int .i64 k ∧ Row wr w.heap.size 3 (addTo xs ys kk M k) ∧ Below w.heap.size w wr) (fun i _ => m - (intOf i).toNat)
  case atStart => exact ⟨0, by omega, rfl, hrow1', hb1⟩
  case round =>
    obtain ⟨k, hk, rfl, hrow, hbel⟩ := hrel
    by_cases hlt : k < m
    · obtain ⟨b, o, rfl, hb, hc⟩ := hy.at_ (by omega)
      have hcx : wr.cell? ⟨b, o + k, none⟩ = some (.int .i64 (nth ys k)) := (hbel.cell (p := ⟨b, o + k, none⟩) hb).trans (hc k hlt)
      have hcy := hrow.cell (i := k) (by rw [addTo_length]; omega)
      rw [nth_addTo_at xs ys kk (show k < M by omega)] at hcy
      have hfz := hrow.frozen k
      obtain ⟨l1, l2⟩ := Hpx.out k
      obtain ⟨l3, l4⟩ := Hpy.out k
      have hm1 : 0 ≤ kk * nth ys k := Int.mul_nonneg hk1 l3
      have hm2 : kk * nth ys k ≤ 65521 * 65521 := Int.mul_le_mul (by omega) (by omega) l3 (by omega)
      have hset := hrow.set k (nth xs k + kk * nth ys k)
      rw [addTo_set xs ys kk (show k < M by omega)] at hset
      have Hset := Lib.hid hset; clear hset hc
      have hkM : (k : Int) < (M : Int) := by omega
      go_wp2
      go_roundw
      case rel => exact ⟨k + 1, by omega, by go_num, Hset.out, hbel.setCell (Nat.le_refl _) _⟩
      case measure => simp [intOf]; omega
    · obtain rfl : m = k := by omega
      have hin := hrow.ints (fun i => by have := Hbd.out m i; exact I64.small this.1 (by omega))
      rw [addTo_length] at hin
      have cp := pplain_any _ M M _ p wr hp hin (by omega)
      rw [Hfin.out] at cp
      have Cp := Lib.hid cp
      clear cp
      go_wp2_with (go_at_call 30; refine Cp.out.mono ?_; rintro e w2 ⟨A2, c2, rfl, hn2⟩)
      go_ret
      exact ⟨_, _, rfl, newInts_sooner hn2 hbel⟩

theorem psum_any (A B : Option Addr) (n m c d : Nat) (xs ys : List Int) (kk p : Int) (w : World) (hp : Pr p) (hx : Ints w A n xs) (hy : Ints w B m ys) (hn : n * 8 ≤ 281474976710656) (hm : m * 8 ≤ 281474976710656)
    (hpx : Pl p xs) (hpy : Pl p ys) (hk : 0 ≤ kk ∧ kk < p) :
    Calls Try.prog 70 #[.slice A n c, .slice B m d, .int .i64 kk, .int .i64 p] w (GivesP w (toP ⟨p, hp⟩ xs + Poly.C (Zp.of ⟨p, hp⟩ kk) * toP ⟨p, hp⟩ ys)) := by
  by_cases h : (n : Int) < (m : Int)
  · exact psum_lt A B n m c d xs ys kk p w hp hx hy h (by omega) hm hpx hpy hk
  · exact psum_ge A B n m c d xs ys kk p w hp hx hy h (by omega) hn hpx hpy hk
end Go.Proofs.Ytbcapmnklgdeoaa
