/- Order and counting up: a list of digits in Order is a number; the next one. No program in sight. -/
import Derived.Test.YtpikakapflebkaaGreatFacQ
namespace Cl
/-- The number that the first k digits write. -/
def numI (p : Int) (xs : List Int) : Nat → Int
  | 0 => 0
  | k + 1 => numI p xs k + nth xs k * p ^ k
def Dig (p : Int) (xs : List Int) (k : Nat) : Prop := ∀ i, i < k → 0 ≤ nth xs i ∧ nth xs i < p
theorem Dig.mono {p : Int} {xs : List Int} {k j : Nat} (h : Dig p xs k) (hj : j ≤ k) : Dig p xs j := fun i hi => h i (by omega)
theorem powI_pos {p : Int} (hp : 1 ≤ p) (k : Nat) : 1 ≤ p ^ k := by
  induction k with
  | zero => rw [Int.pow_zero]; omega
  | succ k ih =>
    rw [Int.pow_succ]
    have := Int.mul_le_mul ih hp (by omega) (by omega)
    omega
theorem numI_bd {p : Int} (hp : 1 ≤ p) {xs : List Int} : ∀ {k : Nat}, Dig p xs k → 0 ≤ numI p xs k ∧ numI p xs k < p ^ k
  | 0, _ => ⟨Int.le_refl _, by rw [Int.pow_zero]; show (0 : Int) < 1; omega⟩
  | k + 1, h => by
    have ih := numI_bd hp (h.mono (Nat.le_succ k))
    have hd := h k (Nat.lt_succ_self k)
    have hP := powI_pos hp k
    have h1 : nth xs k * p ^ k ≤ (p - 1) * p ^ k := Int.mul_le_mul_of_nonneg_right (by omega) (by omega)
    have h2 : 0 ≤ nth xs k * p ^ k := Int.mul_nonneg hd.1 (by omega)
    rw [Int.sub_mul, Int.one_mul] at h1
    show 0 ≤ numI p xs k + nth xs k * p ^ k ∧ numI p xs k + nth xs k * p ^ k < p ^ (k + 1)
    rw [Int.pow_succ, Int.mul_comm (p ^ k) p]
    omega
theorem cmpTo_num {p : Int} (hp : 1 ≤ p) {xs ys : List Int} : ∀ {k : Nat}, Dig p xs k → Dig p ys k → (cmpTo xs ys k < 0 ↔ numI p xs k < numI p ys k)
  | 0, _, _ => ⟨fun h => absurd h (by show ¬ (0 : Int) < 0; omega), fun h => absurd h (by show ¬ (0 : Int) < 0; omega)⟩
  | k + 1, hx, hy => by
    have ih := cmpTo_num hp (hx.mono (Nat.le_succ k)) (hy.mono (Nat.le_succ k))
    have bx := numI_bd hp (hx.mono (Nat.le_succ k))
    have by' := numI_bd hp (hy.mono (Nat.le_succ k))
    have hP := powI_pos hp k
    show (if nth xs k < nth ys k then (-1 : Int) else if nth ys k < nth xs k then 1 else cmpTo xs ys k) < 0 ↔ numI p xs k + nth xs k * p ^ k < numI p ys k + nth ys k * p ^ k
    by_cases h1 : nth xs k < nth ys k
    · rw [if_pos h1]
      have h2 : (nth xs k + 1) * p ^ k ≤ nth ys k * p ^ k := Int.mul_le_mul_of_nonneg_right (by omega) (by omega)
      rw [Int.add_mul, Int.one_mul] at h2
      omega
    · rw [if_neg h1]
      by_cases h2 : nth ys k < nth xs k
      · rw [if_pos h2]
        have h3 : (nth ys k + 1) * p ^ k ≤ nth xs k * p ^ k := Int.mul_le_mul_of_nonneg_right (by omega) (by omega)
        rw [Int.add_mul, Int.one_mul] at h3
        omega
      · have e : nth xs k = nth ys k := by omega
        rw [if_neg h2, e]
        omega
/-- Digits that are all the last one. -/
theorem numI_max {p : Int} {xs : List Int} : ∀ {k : Nat}, (∀ i, i < k → nth xs i = p - 1) → numI p xs k = p ^ k - 1
  | 0, _ => by rw [Int.pow_zero]; rfl
  | k + 1, h => by
    have ih := numI_max (k := k) fun i hi => h i (by omega)
    show numI p xs k + nth xs k * p ^ k = p ^ (k + 1) - 1
    rw [ih, h k (by omega), Int.pow_succ, Int.mul_comm (p ^ k) p, Int.sub_mul, Int.one_mul]
    omega
theorem numI_zero {p : Int} {xs : List Int} : ∀ {k : Nat}, (∀ i, i < k → nth xs i = 0) → numI p xs k = 0
  | 0, _ => rfl
  | k + 1, h => by
    show numI p xs k + nth xs k * p ^ k = 0
    rw [numI_zero (k := k) fun i hi => h i (by omega), h k (by omega), Int.zero_mul]; rfl
theorem numI_congr {p : Int} {xs ys : List Int} : ∀ {k : Nat}, (∀ i, i < k → nth xs i = nth ys i) → numI p xs k = numI p ys k
  | 0, _ => rfl
  | k + 1, h => by
    show numI p xs k + nth xs k * p ^ k = numI p ys k + nth ys k * p ^ k
    rw [numI_congr (k := k) fun i hi => h i (by omega), h k (by omega)]
/-- Counting up by one: the digits below i were the last ones and are nought now, digit i is one more, the rest is as it was. -/
structure Next (p : Int) (xs ys : List Int) (d i : Nat) : Prop where
  lt : i < d
  low : ∀ j, j < i → nth xs j = p - 1 ∧ nth ys j = 0
  at_ : nth ys i = nth xs i + 1
  high : ∀ j, i < j → nth ys j = nth xs j
theorem Next.num {p : Int} {xs ys : List Int} {d i : Nat} (h : Next p xs ys d i) : ∀ {k : Nat}, i < k → numI p ys k = numI p xs k + 1
  | 0, hk => absurd hk (by omega)
  | k + 1, hk => by
    show numI p ys k + nth ys k * p ^ k = numI p xs k + nth xs k * p ^ k + 1
    by_cases e : i = k
    · subst e
      rw [numI_zero fun j hj => (h.low j hj).2, numI_max fun j hj => (h.low j hj).1, h.at_, Int.add_mul, Int.one_mul]
      omega
    · rw [h.num (by omega : i < k), h.high k (by omega)]
      omega
namespace Poly
variable {q : Prm}
theorem bef_len {a b : Poly (Zp q)} (h : Bef a b) : a.len ≤ b.len := by
  rcases Nat.lt_or_ge b.len a.len with h1 | h1
  · exact absurd (Bef.trans h (Bef.of_len h1)) (Bef.irrefl a)
  · exact h1
theorem fromP_dig (a : Poly (Zp q)) (k : Nat) : Dig q.p (fromP a) k := fun i _ => fromP_lt a i
theorem bef_num {a b : Poly (Zp q)} (h : a.len = b.len) : Bef a b ↔ numI q.p (fromP a) a.len < numI q.p (fromP b) a.len := by
  have h2 := q.pr.two
  unfold Bef
  rw [cmpI_to (by rw [fromP_length, fromP_length, h]), fromP_length]
  exact cmpTo_num (by omega) (fromP_dig a _) (fromP_dig b _)
/-- Monic ones of a length: by all digits but the last one. -/
theorem bef_mon {a b : Poly (Zp q)} {d : Nat} (ha : a.Mon) (hb : b.Mon) (la : a.len = d + 1) (lb : b.len = d + 1) : Bef a b ↔ numI q.p (fromP a) d < numI q.p (fromP b) d := by
  rw [bef_num (by omega), la]
  have h1 := fromP_mon9 ha
  have h2 := fromP_mon9 hb
  rw [la, Nat.add_sub_cancel] at h1
  rw [lb, Nat.add_sub_cancel] at h2
  show numI q.p (fromP a) d + nth (fromP a) d * q.p ^ d < numI q.p (fromP b) d + nth (fromP b) d * q.p ^ d ↔ _
  rw [h1, h2]
  omega
/-- The first monic one of its length. -/
theorem first_le {a f : Poly (Zp q)} {d : Nat} (ha : a.Mon) (la : a.len = d + 1) (h0 : ∀ i, i < d → nth (fromP a) i = 0) (hf : f.Mon) (lf : d + 1 ≤ f.len) : ¬ Bef f a := fun h => by
  have h2 := q.pr.two
  have h3 := bef_len h
  have h4 : f.len = d + 1 := by omega
  have h5 := (bef_mon hf ha h4 la).1 h
  rw [numI_zero h0] at h5
  have := numI_bd (p := q.p) (by omega) (fromP_dig f d)
  omega
/-- None stands between one and the next one. -/
theorem next_le {a b f : Poly (Zp q)} {d i : Nat} (ha : a.Mon) (hb : b.Mon) (la : a.len = d + 1) (lb : b.len = d + 1) (h : Next q.p (fromP a) (fromP b) d i) (hf : f.Mon) (hn : ¬ Bef f a) (hne : f ≠ a) : ¬ Bef f b := fun hb' => by
  have h1 : Bef a f := by
    rcases Bef.tri f a with h | h | h
    · exact absurd h hn
    · exact absurd h hne
    · exact h
  have h2 := bef_len h1
  have h3 := bef_len hb'
  have h4 : f.len = d + 1 := by omega
  have h5 := (bef_mon ha hf la h4).1 h1
  have h6 := (bef_mon hf hb h4 lb).1 hb'
  rw [h.num h.lt] at h6
  omega
/-- Behind the last one of a length stand longer ones alone. -/
theorem last_le {a f : Poly (Zp q)} {d : Nat} (ha : a.Mon) (la : a.len = d + 1) (h : ∀ i, i < d → nth (fromP a) i = q.p - 1) (hf : f.Mon) (hn : ¬ Bef f a) (hne : f ≠ a) : d + 2 ≤ f.len := by
  have h2 := q.pr.two
  have h1 : Bef a f := by
    rcases Bef.tri f a with h | h | h
    · exact absurd h hn
    · exact absurd h hne
    · exact h
  have h3 := bef_len h1
  rcases Nat.lt_or_ge f.len (d + 2) with h4 | h4
  · have h5 : f.len = d + 1 := by omega
    have h6 := (bef_mon ha hf la h5).1 h1
    rw [numI_max h] at h6
    have := numI_bd (p := q.p) (by omega) (fromP_dig f d)
    omega
  · exact h4
/-- Trial division under way: what is found, what is left, who is next. -/
structure Trial (m : Poly (Zp q)) (L : List (Poly (Zp q) × Nat)) (r g : Poly (Zp q)) : Prop where
  mon : r.Mon
  eq : powF L * r = m
  ord : L.Pairwise (fun x y => Bef x.1 y.1)
  irr : ∀ x ∈ L, x.1.Irr ∧ 1 ≤ x.2
  bef : ∀ x ∈ L, Bef x.1 g
  no : ∀ f : Poly (Zp q), f.Irr → f ∣ r → ¬ Bef f g
/-- Who divides what is left is irreducible. -/
theorem Trial.is_irr {m r g : Poly (Zp q)} {L : List (Poly (Zp q) × Nat)} (h : Trial m L r g) (hg : g.Mon) (hl : 1 < g.len) (hd : g ∣ r) : g.Irr := by
  obtain ⟨f, hf, hfg⟩ := exists_irr hl
  have h1 := h.no f hf (dvd_trans hfg hd)
  have h2 := len_le_of_dvd hfg hg.ne
  have h3 : ¬ f.len < g.len := fun hlt => h1 (Bef.of_len hlt)
  obtain ⟨x, hx⟩ := hfg
  have hxm : x.Mon := hf.mon.of_mul (hx ▸ hg)
  have h4 := (len_mul hf.ne hxm.ne).1
  rw [← hx] at h4
  have := len_pos hxm.ne
  have h5 := hxm.one_of_len (by omega)
  rw [h5, CRing.mul_one] at hx
  rw [hx]
  exact hf
/-- g was pulled out n times, n is not nought, and g divides no more; all that come behind g are not ahead of g'. -/
theorem Trial.pull {m r r' g g' : Poly (Zp q)} {L : List (Poly (Zp q) × Nat)} {n : Nat} (h : Trial m L r g) (hg : g.Irr) (hn : 1 ≤ n) (hr : r = g ^ n * r') (hnd : ¬ g ∣ r') (hgg : Bef g g')
    (hnext : ∀ f : Poly (Zp q), f.Irr → ¬ Bef f g → f ≠ g → ¬ Bef f g') : Trial m (L ++ [(g, n)]) r' g' where
  mon := (hg.mon.pow n).of_mul (hr ▸ h.mon)
  eq := by rw [powF_snoc, CRing.mul_assoc, ← h.eq, hr]
  ord := by
    rw [List.pairwise_append]
    exact ⟨h.ord, List.pairwise_singleton _ _, fun x hx y hy => by rw [List.mem_singleton.1 hy]; exact h.bef x hx⟩
  irr x hx := by
    rcases List.mem_append.1 hx with hx | hx
    · exact h.irr x hx
    · rw [List.mem_singleton.1 hx]; exact ⟨hg, hn⟩
  bef x hx := by
    rcases List.mem_append.1 hx with hx | hx
    · exact Bef.trans (h.bef x hx) hgg
    · rw [List.mem_singleton.1 hx]; exact hgg
  no f hf hd := hnext f hf (h.no f hf (hr ▸ dvd_trans hd ⟨g ^ n, CRing.mul_comm _ _⟩)) fun e => hnd (e ▸ hd)
/-- g divides not. -/
theorem Trial.pass {m r g g' : Poly (Zp q)} {L : List (Poly (Zp q) × Nat)} (h : Trial m L r g) (hnd : ¬ g ∣ r) (hgg : Bef g g') (hnext : ∀ f : Poly (Zp q), f.Irr → ¬ Bef f g → f ≠ g → ¬ Bef f g') : Trial m L r g' :=
  ⟨h.mon, h.eq, h.ord, h.irr, fun x hx => Bef.trans (h.bef x hx) hgg, fun f hf hd => hnext f hf (h.no f hf hd) fun e => hnd (e ▸ hd)⟩
/-- What is left at the end is one or irreducible. -/
theorem rest_irr {r : Poly (Zp q)} {d : Nat} (hr : r.Mon) (hl : 1 < r.len) (hd : r.len ≤ 2 * d) (h : ∀ f : Poly (Zp q), f.Irr → f ∣ r → d + 1 ≤ f.len) : r.Irr := by
  obtain ⟨f, hf, x, hx⟩ := exists_irr hl
  have hxm : x.Mon := hf.mon.of_mul (hx ▸ hr)
  have h1 := h f hf ⟨x, hx⟩
  have h2 := (len_mul hf.ne hxm.ne).1
  rw [← hx] at h2
  have h3 := len_pos hxm.ne
  by_cases h4 : 1 < x.len
  · obtain ⟨g, hg, hgx⟩ := exists_irr h4
    have h5 := h g hg (dvd_trans hgx ⟨f, by rw [hx, CRing.mul_comm]⟩)
    have h6 := len_le_of_dvd hgx hxm.ne
    omega
  · rw [hxm.one_of_len (by omega), CRing.mul_one] at hx
    rw [hx]
    exact hf
end Poly
end Cl
