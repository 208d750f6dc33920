/- Contract: a row is taken away from others, in their own memory. -/
import Derived.Test.YthpkpnpkkflfpaaFlinC
import Derived.BigRegion
namespace Go.Proofs.Ythpkpnpkkflfpaa
open Go.RowKit Cl

/-- What strike is told of the others: they lie at o in block b; each in a block of its own. -/
structure Others (w : World) (B : Option Addr) (m : Nat) (H : Nat → Nat) (R : Nat → List Int) (L : Nat) (p : Int) : Prop where
  at_ : 0 < m → ∃ b o, B = some ⟨b, o, none⟩ ∧ b < w.heap.size ∧ ∀ i, i < m → w.cell? ⟨b, o + i, none⟩ = some (.slice (some ⟨H i, 0, none⟩) L L) ∧ H i ≠ b
  row : ∀ i, i < m → Row w (H i) 3 (R i)
  len : ∀ i, i < m → (R i).length = L
  pl : ∀ i, i < m → Pl p (R i)
  inj : ∀ i j, i < m → j < m → H i = H j → i = j
theorem Others.none (w : World) (B : Option Addr) (H : Nat → Nat) (R : Nat → List Int) (L : Nat) (p : Int) : Others w B 0 H R L p :=
  ⟨fun h => absurd h (by omega), fun i hi => absurd hi (by omega), fun i hi => absurd hi (by omega), fun i hi => absurd hi (by omega), fun i j hi => absurd hi (by omega)⟩
theorem Others.none' {w : World} {B : Option Addr} {m : Nat} {H : Nat → Nat} {R : Nat → List Int} {L : Nat} {p : Int} (h : m = 0) : Others w B m H R L p := by subst h; exact Others.none _ _ _ _ _ _
theorem Others.any {w : World} {B B' : Option Addr} {m : Nat} {H : Nat → Nat} {R : Nat → List Int} {L : Nat} {p : Int} (h : Others w B m H R L p) (h0 : m = 0) : Others w B' m H R L p :=
  ⟨fun hm => absurd hm (by omega), h.row, h.len, h.pl, h.inj⟩
/-- What strike leaves. -/
structure Struck (w w' : World) (m : Nat) (H : Nat → Nat) (R : Nat → List Int) (own : List Int) (c : Nat) (p : Int) (k : Nat) : Prop where
  only : Only (fun g => ∃ i, i < m ∧ g = H i) w w'
  size : w'.heap.size = w.heap.size
  done : ∀ i, i < k → Row w' (H i) 3 (strikeRow own c p (R i))
  rest : ∀ i, k ≤ i → i < m → Row w' (H i) 3 (R i)

theorem strike_any (A B : Option Addr) (g0 L m d : Nat) (own : List Int) (c : Nat) (p : Int) (H : Nat → Nat) (R : Nat → List Int) (w : World) (hA : A = some ⟨g0, 0, none⟩) (hown : Row w g0 3 own) (hL : own.length = L)
    (hopl : Pl p own) (hoth : Others w B m H R L p) (hg0 : ∀ i, i < m → H i ≠ g0) (hc : c < L) (hL64 : L ≤ 64) (hm : m ≤ 64) (hp1 : 2 ≤ p) (hp2 : p ≤ 65521) :
    Calls Try.prog 46 #[.slice A L L, .int .i64 c, .int .i64 p, .slice B m d] w fun e w' => e = .returned (.tuple #[]) ∧ Struck w w' m H R own c p m := by
  subst hA
  subst hL
  have Hinj := Lib.hid hoth.inj
  have Hrow := Lib.hid hoth.row
  have Hpl := Lib.hid hoth.pl
  have Hlen := Lib.hid hoth.len
  have Hg0 := Lib.hid hg0
  have Hopl := Lib.hid hopl
  have hat := hoth.at_
  clear hoth hg0 hopl
  go_enter Try.func46, Try.ntmps46
  go_wp2
  go_loopw [15] (fun i wr => ∃ k : Nat, k ≤ m ∧ i = .int .i64 k ∧ Struck w wr m H R own c p k) (fun i _ => m - (intOf i).toNat)
  case atStart => exact ⟨0, by omega, rfl, Only.refl _ _, rfl, (fun i hi => absurd hi (by omega)), (fun i _ hi => Hrow.out i hi)⟩
  case round =>
    obtain ⟨k, hk, rfl, hst⟩ := hrel
    obtain ⟨wo, rfl⟩ : ∃ wo : World, wo = wr := ⟨_, rfl⟩
    by_cases hlt : k < m
    · obtain ⟨b, o, rfl, hb, hcs⟩ := hat (by omega)
      obtain ⟨hck, hkb⟩ := hcs k hlt
      have hnb : ¬ ∃ i, i < m ∧ b = H i := fun ⟨i, hi, e⟩ => (hcs i hi).2 e.symm
      have hng : ¬ ∃ i, i < m ∧ g0 = H i := fun ⟨i, hi, e⟩ => Hg0.out i hi e.symm
      have hck' : wo.cell? ⟨b, o + k, none⟩ = some (.slice (some ⟨H k, 0, none⟩) own.length own.length) := (hst.only.cell (p := ⟨b, o + k, none⟩) hb hnb).trans hck
      have hrk := hst.rest k (Nat.le_refl _) hlt
      have hlk := Hlen.out k hlt
      have hcc := hrk.cell (i := c) (by omega)
      have hpk := Hpl.out k hlt
      obtain ⟨c1, c2⟩ := hpk c
      have Hpk := Lib.hid hpk
      have Hlk := Lib.hid hlk
      have Hst := Lib.hid hst
      have hown' := hown.only hst.only hng
      have hsz := hst.size
      clear hcs hck hnb hlk hpk hst
      go_wp2
      go_loopw [25] (fun i wx => ∃ j : Nat, j ≤ own.length ∧ i = .int .i64 j ∧ Row wx (H k) 3 (strikeTo own c p (R k) j) ∧ Only (fun g => g = H k) wo wx ∧ wx.heap.size = wo.heap.size) (fun i _ => own.length - (intOf i).toNat)
      case atStart => exact ⟨0, by omega, rfl, by rw [strikeTo_zero]; exact hrk, Only.refl _ _, rfl⟩
      case round =>
        obtain ⟨j, hj, rfl, hrow, hon, hsx⟩ := hrel
        by_cases hjl : j < own.length
        · have ho := (hown'.only hon (fun e => Hg0.out k hlt e.symm)).cell (i := j) hjl
          have hjr : j < (strikeTo own c p (R k) j).length := by rw [strikeTo_length, Hlk.out]; exact hjl
          have hr := hrow.cell hjr
          rw [nth_strikeTo] at hr
          have hf := hrow.frozen j
          obtain ⟨d1, d2⟩ := Hpk.out j
          obtain ⟨d3, d4⟩ := Hopl.out j
          have hm1 : 0 ≤ (p - nth (R k) c) * nth own j := Int.mul_nonneg (by omega) d3
          have hm2 : (p - nth (R k) c) * nth own j ≤ 65521 * 65521 := Int.mul_le_mul (by omega) (by omega) d3 (by omega)
          have hset := hrow.set j ((nth (R k) j + (p - nth (R k) c) * nth own j) % p)
          rw [strikeTo_set own c p (R k) (by rw [Hlk.out]; exact hjl)] at hset
          have Hset := Lib.hid hset
          clear hset hjr
          go_wp2
          go_roundw
          case rel => exact ⟨j + 1, by omega, by go_num, Hset.out, hon.setCell rfl _, by simpa [World.setCell] using hsx⟩
          case measure => simp [intOf]; omega
        · obtain rfl : j = own.length := by omega
          have hnew : Struck w wr m H R own c p (k + 1) := by
            have hst := Hst.out
            refine ⟨hst.only.trans (hon.mono (fun g hg => ⟨k, hlt, hg⟩)), by rw [hsx, hst.size], fun i hi => ?_, fun i hi hm => ?_⟩
            · by_cases e : i = k
              · subst e; rw [← strikeTo_full, Hlk.out]; exact hrow
              · exact (hst.done i (by omega)).only hon (fun h => e (Hinj.out i k (by omega) hlt h))
            · exact (hst.rest i (by omega) hm).only hon (fun h => by have := Hinj.out i k hm hlt h; omega)
          clear hrow hon hsx hck' hcc
          go_wp2
          go_roundw
          case rel => exact ⟨k + 1, by omega, by go_num, hnew⟩
          case measure => simp [intOf]; omega
    · obtain rfl : k = m := by omega
      go_wp2
      go_end0
      exact ⟨rfl, hst⟩

/-- The first of some rows whose residue in a column is not 0. -/
theorem idx_hit (B : Option Addr) (m d : Nat) (c L gc : Nat) (p : Int) (H : Nat → Nat) (R : Nat → List Int) (w : World) (hoth : Others w B m H R L p) (hgc : w.cell? ⟨gc, 0, none⟩ = some (.int .i64 c)) (hc : c < L) (hL64 : L ≤ 64) (hm : m ≤ 64) (hp2 : p ≤ 65521)
    (k : Nat) (hk : k < m) (hz : ∀ i, i < k → nth (R i) c = 0) (hnz : nth (R k) c ≠ 0) :
    Calls Try.prog 44 #[.slice B m d, .func (.func 45) #[] #[.pointer (some ⟨gc, 0, none⟩)]] w fun e w' => e = .returned (.int .i64 ((k : Int))) ∧ w = w' := by
  have Hrow := Lib.hid hoth.row
  have Hlen := Lib.hid hoth.len
  have Hpl := Lib.hid hoth.pl
  have hat := hoth.at_
  have Hz := Lib.hid hz
  clear hoth hz
  go_enter Try.func44, Try.ntmps44
  go_wp2
  go_loop [8] (fun i => ∃ j : Nat, j ≤ k ∧ i = .int .i64 j) (fun i => m - (intOf i).toNat)
  case atStart => exact ⟨0, by omega, rfl⟩
  case round =>
    obtain ⟨j, hj, rfl⟩ := hrel
    by_cases hlt : j < k
    · obtain ⟨b, o, rfl, hb, hcs⟩ := hat (by omega)
      obtain ⟨hck, _⟩ := hcs j (by omega)
      have hcell := (Hrow.out j (by omega)).cell (i := c) (by rw [Hlen.out j (by omega)]; exact hc)
      have hne : (nth (R j) c != 0) = false := by rw [Hz.out j (by omega)]; rfl
      obtain ⟨l1, l2⟩ := (Hpl.out j (by omega)) c
      clear hcs
      go_wp2_with go_in
      go_round
      case rel => exact ⟨j + 1, by omega, by go_num⟩
      case measure => simp [intOf]; omega
    · obtain rfl : j = k := by omega
      obtain ⟨b, o, rfl, hb, hcs⟩ := hat (by omega)
      obtain ⟨hck, _⟩ := hcs j (by omega)
      have hcell := (Hrow.out j (by omega)).cell (i := c) (by rw [Hlen.out j (by omega)]; exact hc)
      have hne : (nth (R j) c != 0) = true := by simpa using hnz
      clear hcs hnz
      go_wp2_with go_in
      go_ret
      exact ⟨rfl, rfl⟩

/-- The first of some rows whose residue in a column is not 0. -/
theorem idx_none (B : Option Addr) (m d : Nat) (c L gc : Nat) (p : Int) (H : Nat → Nat) (R : Nat → List Int) (w : World) (hoth : Others w B m H R L p) (hgc : w.cell? ⟨gc, 0, none⟩ = some (.int .i64 c)) (hc : c < L) (hL64 : L ≤ 64) (hm : m ≤ 64) (hp2 : p ≤ 65521)
    (hz : ∀ i, i < m → nth (R i) c = 0) :
    Calls Try.prog 44 #[.slice B m d, .func (.func 45) #[] #[.pointer (some ⟨gc, 0, none⟩)]] w fun e w' => e = .returned (.int .i64 ((-1 : Int))) ∧ w = w' := by
  have Hrow := Lib.hid hoth.row
  have Hlen := Lib.hid hoth.len
  have Hpl := Lib.hid hoth.pl
  have hat := hoth.at_
  have Hz := Lib.hid hz
  clear hoth hz
  go_enter Try.func44, Try.ntmps44
  go_wp2
  go_loop [8] (fun i => ∃ j : Nat, j ≤ m ∧ i = .int .i64 j) (fun i => m - (intOf i).toNat)
  case atStart => exact ⟨0, by omega, rfl⟩
  case round =>
    obtain ⟨j, hj, rfl⟩ := hrel
    by_cases hlt : j < m
    · obtain ⟨b, o, rfl, hb, hcs⟩ := hat (by omega)
      obtain ⟨hck, _⟩ := hcs j (by omega)
      have hcell := (Hrow.out j (by omega)).cell (i := c) (by rw [Hlen.out j (by omega)]; exact hc)
      have hne : (nth (R j) c != 0) = false := by rw [Hz.out j (by omega)]; rfl
      obtain ⟨l1, l2⟩ := (Hpl.out j (by omega)) c
      clear hcs
      go_wp2_with go_in
      go_round
      case rel => exact ⟨j + 1, by omega, by go_num⟩
      case measure => simp [intOf]; omega
    · obtain rfl : j = m := by omega
      go_wp2
      go_ret
      exact ⟨rfl, rfl⟩

end Go.Proofs.Ythpkpnpkkflfpaa
