/- Layer 8: what the program keeps in its map. -/
import Derived.Test.YtbcapmnklgdeoaaSqfA
import Derived.Test.YtbcapmnklgdeoaaPrs
import Derived.Test.YtbcapmnklgdeoaaRefH
import Derived.Maps.RangeWalk
namespace Go.Proofs.Ytbcapmnklgdeoaa
open Go.RowKit Cl
attribute [local go_sem ↓] Go.wp_at_zero Go.wp_at_succ

/-- How a slice in a map reads: as itself. -/
def slEl : Value → Option (DataW Value × List MemPlace)
  | .slice A n c => some (.held (.slice A n c), [])
  | _ => none
theorem slEl_mk (A : Option Addr) (n c : Nat) : slEl (.slice A n c) = some (.held (.slice A n c), []) := rfl
def mkSl (x : Option Addr × Nat × Nat) : Value := .slice x.1 x.2.1 x.2.2
theorem slEl_inv (v : Value) (y : DataW Value × List MemPlace) (h : slEl v = some y) : ∃ x, v = mkSl x := by
  cases v <;> simp [slEl] at h
  exact ⟨(_, _, _), rfl⟩
theorem mkI_inv (key : Value) (kl : Lit) (h : keyOf Try.prog 3 key = some kl) : ∃ x : Int, key = .int .i64 x := by
  obtain ⟨x, rfl, _⟩ := Maps.keyOf_int_inv Try.underlying3 h
  exact ⟨x, rfl⟩
theorem int_law : Maps.Keyed Try.prog 3 := Maps.int_keyed Try.underlying3
theorem key_int (k : Nat) (hk : k ≤ 9223372036854775807) : keyOf Try.prog 3 (.int .i64 (k : Int)) = some (.int .i64 (k : Int)) := Maps.keyOf_int_mk Try.underlying3 (WalkArith.wf_i64 (by omega))

/-- A write into a map turns no list of numbers. -/
theorem ints_map {w w' : World} {A : Option Addr} {n : Nat} {xs : List Int} {k : TypeId} {R : Value → Option (DataW Value × List MemPlace)} {b m : Nat} {D : DataW Value} (h : Ints w A n xs) (hm : w.ownsMap Try.prog k R b m D) (hg : w.grownBy w' (some b)) : Ints w' A n xs := by
  obtain ⟨es, clock, hb, _⟩ := hm
  refine h.grown hg fun hn x hx e => ?_
  obtain ⟨bb, o, e2, _, hc⟩ := h.at_ hn
  rw [e2] at hx
  cases hx
  injection e with e
  have := hc 0 hn
  simp only at e
  rw [← e] at this
  simp [World.cell?, hb] at this

section
variable {q : Prm}
/-- The map holds the levels of which S speaks. -/
structure Found (w : World) (D : DataW Value) (a : Poly (Zp q)) (S : Nat → Prop) : Prop where
  key : ∀ kl, Maps.has D kl = true → ∃ k : Nat, kl = .int .i64 (k : Int) ∧ 1 ≤ k ∧ Poly.lvl a k ≠ 1 ∧ S k
  at_ : ∀ k : Nat, 1 ≤ k → Poly.lvl a k ≠ 1 → S k → ∃ A c, Maps.has D (.int .i64 (k : Int)) = true ∧ (∀ zd, D.atKey (.int .i64 (k : Int)) zd = .held (.slice A (Poly.lvl a k).len c)) ∧ Ints w A (Poly.lvl a k).len (fromP (Poly.lvl a k))
section
variable {w w' : World} {D : DataW Value} {a : Poly (Zp q)} {S T : Nat → Prop}
theorem Found.bel (h : Found w D a S) (hb : Below w.heap.size w w') : Found w' D a S :=
  ⟨h.key, fun k h1 h2 h3 => by obtain ⟨A, c, g1, g2, g3⟩ := h.at_ k h1 h2 h3; exact ⟨A, c, g1, g2, g3.bel hb⟩⟩
theorem Found.map {k : TypeId} {R : Value → Option (DataW Value × List MemPlace)} {b m : Nat} {D' : DataW Value} (h : Found w D a S) (hm : w.ownsMap Try.prog k R b m D') (hg : w.grownBy w' (some b)) : Found w' D a S :=
  ⟨h.key, fun k h1 h2 h3 => by obtain ⟨A, c, g1, g2, g3⟩ := h.at_ k h1 h2 h3; exact ⟨A, c, g1, g2, ints_map g3 hm hg⟩⟩
theorem Found.iff (h : Found w D a S) (hi : ∀ k, 1 ≤ k → Poly.lvl a k ≠ 1 → (S k ↔ T k)) : Found w D a T :=
  ⟨fun kl hk => by obtain ⟨k, e, h1, h2, h3⟩ := h.key kl hk; exact ⟨k, e, h1, h2, (hi k h1 h2).1 h3⟩, fun k h1 h2 h3 => h.at_ k h1 h2 ((hi k h1 h2).2 h3)⟩
theorem Found.start (w : World) (a : Poly (Zp q)) (hS : ∀ k, 1 ≤ k → ¬ S k) : Found w (.map []) a S :=
  ⟨fun kl hk => by simp [Maps.has] at hk, fun k h1 _ h3 => absurd h3 (hS k h1)⟩
theorem Found.put (h : Found w D a S) (hD : Maps.IsMap D) {m : Nat} (hm : 1 ≤ m) (hl : Poly.lvl a m ≠ 1) {A : Option Addr} {c : Nat} (hi : Ints w A (Poly.lvl a m).len (fromP (Poly.lvl a m))) :
    Found w (D.put (.int .i64 (m : Int)) (.held (.slice A (Poly.lvl a m).len c))) a (fun k => S k ∨ k = m) := by
  have hk : WideAt.IsKeyLit (.int .i64 (m : Int)) := trivial
  constructor
  · intro kl hkl
    by_cases e : kl = .int .i64 (m : Int)
    · exact ⟨m, e, hm, hl, .inr rfl⟩
    · rw [Maps.has_put_other e] at hkl
      obtain ⟨k, e, h1, h2, h3⟩ := h.key kl hkl
      exact ⟨k, e, h1, h2, .inl h3⟩
  · intro k h1 h2 h3
    by_cases e : k = m
    · subst e
      exact ⟨A, c, Maps.has_put_same hD hk _, fun zd => Maps.atKey_put_same hD hk _ zd, hi⟩
    · have hne : (Lit.int .i64 (k : Int)) ≠ .int .i64 (m : Int) := fun e2 => by injection e2; omega
      obtain ⟨A', c', g1, g2, g3⟩ := h.at_ k h1 h2 (h3.resolve_right e)
      exact ⟨A', c', by rw [Maps.has_put_other hne]; exact g1, fun zd => by rw [Maps.atKey_put_other hne]; exact g2 zd, g3⟩
theorem Found.skip (h : Found w D a S) {m : Nat} (hl : Poly.lvl a m = 1) : Found w D a (fun k => S k ∨ k = m) :=
  h.iff fun k _ h2 => ⟨.inl, fun h3 => h3.resolve_right fun e => h2 (by rw [e]; exact hl)⟩
end
/-- Which levels are found: those of numbers that s does not divide, and those less than n times s, p not dividing. -/
def Done (p s n k : Nat) : Prop := ¬ s ∣ k ∨ (s ∣ k ∧ ¬ p ∣ k / s ∧ k / s < n)
theorem Done.start {p k : Nat} (hk : 1 ≤ k) : ¬ Done p 1 1 k := fun h => by
  rcases h with h | ⟨_, _, h⟩
  · exact h ⟨k, by omega⟩
  · rw [Nat.div_one] at h; omega
theorem done_step {p s n k : Nat} (hs : 0 < s) (hp : ¬ p ∣ n) : (Done p s n k ∨ k = n * s) ↔ Done p s (n + 1) k := by
  unfold Done
  constructor
  · rintro ((h | ⟨h1, h2, h3⟩) | h)
    · exact .inl h
    · exact .inr ⟨h1, h2, by omega⟩
    · subst h
      exact .inr ⟨⟨n, Nat.mul_comm _ _⟩, by rw [Nat.mul_div_cancel _ hs]; exact hp, by rw [Nat.mul_div_cancel _ hs]; omega⟩
  · rintro (h | ⟨h1, h2, h3⟩)
    · exact .inl (.inl h)
    · by_cases e : k / s = n
      · exact .inr (by rw [← e]; exact (Nat.div_mul_cancel h1).symm)
      · exact .inl (.inr ⟨h1, h2, by omega⟩)
theorem done_skip {p s n k : Nat} (hp : p ∣ n) : Done p s n k ↔ Done p s (n + 1) k := by
  unfold Done
  constructor
  · rintro (h | ⟨h1, h2, h3⟩)
    · exact .inl h
    · exact .inr ⟨h1, h2, by omega⟩
  · rintro (h | ⟨h1, h2, h3⟩)
    · exact .inl h
    · refine .inr ⟨h1, h2, ?_⟩
      have : k / s ≠ n := fun e => h2 (by rw [e]; exact hp)
      omega
/-- Behind the inner loop: just those levels are left whose number s p divides. -/
theorem done_end {a f c : Poly (Zp q)} {s n k : Nat} (ha : a ≠ 0) (hO : Poly.SqOut a s f) (hi : Poly.SqIn f n 1 c) (hk : 1 ≤ k) (hl : Poly.lvl a k ≠ 1) : Done q.p.toNat s n k ↔ Done q.p.toNat (s * q.p.toNat) 1 k := by
  have hp : 0 < q.p.toNat := by have := q.pr.two; omega
  have hR : Done q.p.toNat (s * q.p.toNat) 1 k ↔ ¬ s * q.p.toNat ∣ k := by
    unfold Done
    refine ⟨fun h => ?_, .inl⟩
    rcases h with h | ⟨h1, _, h3⟩
    · exact h
    · have := Nat.div_pos (Nat.le_of_dvd hk h1) (Nat.mul_pos hO.sp hp)
      omega
  rw [hR]
  unfold Done
  constructor
  · rintro (h | ⟨h1, h2, _⟩) hd
    · exact h (Nat.dvd_trans (Nat.dvd_mul_right _ _) hd)
    · obtain ⟨m, hm⟩ := hd
      exact h2 ⟨m, by rw [hm, Nat.mul_assoc, Nat.mul_div_cancel_left _ hO.sp]⟩
  · intro h
    by_cases hd : s ∣ k
    · have h2 : ¬ q.p.toNat ∣ k / s := fun ⟨m, hm⟩ => h ⟨m, by rw [Nat.mul_assoc, ← hm, Nat.mul_div_cancel' hd]⟩
      obtain ⟨g, hg, hv⟩ := (Poly.lvl_mon ha k).exists_irr_of_ne hl
      rw [Poly.val_lvl ha hk hg] at hv
      split at hv
      · next e =>
        have hvf : Poly.val g f = k / s := by rw [hO.val g hg, e, if_pos hd]
        exact .inr ⟨hd, h2, by rw [← hvf]; exact hi.w_one hg (by rw [hvf]; exact h2)⟩
      · omega
    · exact .inl hd
/-- Behind the last round all levels are found. -/
theorem done_last {a f : Poly (Zp q)} {s n k : Nat} (ha : a ≠ 0) (hO : Poly.SqOut a s f) (hi : Poly.SqIn f n 1 1) (hk : 1 ≤ k) (hl : Poly.lvl a k ≠ 1) : Done q.p.toNat s n k ↔ True := by
  rw [done_end ha hO hi hk hl]
  refine iff_true_intro (.inl fun hd => ?_)
  obtain ⟨g, hg, hv⟩ := (Poly.lvl_mon ha k).exists_irr_of_ne hl
  rw [Poly.val_lvl ha hk hg] at hv
  split at hv
  · next e =>
    have := hO.last hi hg (by rw [e]; exact hd)
    omega
  · omega
/-- A round of the inner loop: its number is small. -/
theorem sq_small {a f w c : Poly (Zp q)} {s n : Nat} (ha : a ≠ 0) (hO : Poly.SqOut a s f) (hi : Poly.SqIn f n w c) (hn : 1 ≤ n) (hw : 1 < w.len) : n < f.len ∧ n * s < a.len := by
  obtain ⟨g, hg, hv⟩ := hi.wm.exists_irr_of_ne (hi.wm.len_gt.1 hw)
  rw [hi.w g hg] at hv
  split at hv
  · next h =>
    have h1 := Poly.val_lt hO.fm.ne hg
    have h2 := Poly.val_lt ha hg
    have h3 := hO.val g hg
    refine ⟨by omega, ?_⟩
    split at h3
    · next hd =>
      have h4 : n * s ≤ Poly.val g f * s := Nat.mul_le_mul_right _ h.2
      rw [h3, Nat.div_mul_cancel hd] at h4
      omega
    · omega
  · omega
theorem sq_scale {a f c : Poly (Zp q)} {s n : Nat} (ha : a ≠ 0) (hO : Poly.SqOut a s f) (hi : Poly.SqIn f n 1 c) (hc : 1 < c.len) : s * q.p.toNat < a.len := by
  obtain ⟨_, hv⟩ := hi.c_D
  obtain ⟨g, hg, h1⟩ := hi.cm.exists_irr_of_ne (hi.cm.len_gt.1 hc)
  rw [hv g hg] at h1
  split at h1
  · next hd =>
    obtain ⟨m, hm⟩ := hd
    have h2 := Poly.val_lt ha hg
    have h3 := hO.val g hg
    split at h3
    · next hd2 =>
      obtain ⟨j, hj⟩ := hd2
      rw [hj, Nat.mul_div_cancel_left _ hO.sp, hm] at h3
      have hm1 : 1 ≤ m := by
        rcases Nat.eq_zero_or_pos m with e | e
        · rw [hm, e] at h1; omega
        · exact e
      have h5 : s * q.p.toNat ≤ s * (q.p.toNat * m) := Nat.mul_le_mul_left _ (Nat.le_mul_of_pos_right _ hm1)
      rw [h3, ← hj] at h5
      omega
    · omega
  · omega
end
end Go.Proofs.Ytbcapmnklgdeoaa
