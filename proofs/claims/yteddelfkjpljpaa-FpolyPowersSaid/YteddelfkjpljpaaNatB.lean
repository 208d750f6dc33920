/- Contracts: integers made, their sign, how many bits: the program's. -/
import Derived.Test.YteddelfkjpljpaaNatA
namespace Go.Proofs.Yteddelfkjpljpaa
open Go.RowKit Cl
attribute [local go_sem ↓] Go.wp_at_zero Go.wp_at_succ

/-- A call that hands back an integer, and turns nothing that was there. -/
def GivesInt (w : World) (neg : Bool) (xs : List Int) (e : Ending) (w' : World) : Prop :=
  ∃ A c, e = .returned (.agg #[.bool neg, .slice A xs.length c]) ∧ xs.length ≤ c ∧ c ≤ 9223372036854775807 ∧ Limbs w' A xs.length xs ∧ Below w.heap.size w w'
theorem aint_size : (Try.prog.info? 25).map (·.size) = some 2 := by kernel_rfl

/-- Block g is just an integer: its sign, its limbs. -/
def Duo (w : World) (g : Nat) (u v : Value) : Prop := w.heap[g]? = some (.cells #[u, v] 25 (0, 0))
section
variable {w w' : World} {g : Nat} {u v : Value}
theorem Duo.lt (h : Duo w g u v) : g < w.heap.size := (Array.getElem?_eq_some_iff.1 h).1
theorem Duo.cell0 (h : Duo w g u v) : w.cell? ⟨g, 0, none⟩ = some u := by rw [cell_of_row w g 0 _ _ (0, 0) h]; rfl
theorem Duo.cell1 (h : Duo w g u v) : w.cell? ⟨g, 1, none⟩ = some v := by rw [cell_of_row w g 1 _ _ (0, 0) h]; rfl
theorem Duo.frozen (h : Duo w g u v) (i : Nat) : w.frozen? ⟨g, i, none⟩ = false := by unfold Duo at h; simp [World.frozen?, h]
theorem Duo.keep (h : Duo w g u v) (hk : w'.heap[g]? = w.heap[g]?) : Duo w' g u v := hk.trans h
theorem Duo.bel (h : Duo w g u v) (hb : Below w.heap.size w w') : Duo w' g u v := h.keep (hb.block g h.lt)
theorem Duo.set (h : Duo w g u v) (a b : Value) : Duo ((w.setCell ⟨g, 0, none⟩ a).setCell ⟨g, 1, none⟩ b) g a b := by
  unfold Duo at h ⊢
  simp [World.setCell, Array.getElem?_modify, h]
theorem Duo.new (w : World) (u v : Value) : Duo (w.alloc (.cells #[u, v] 25)) w.heap.size u v := heap_alloc_new w _
theorem Duo.limbs (h : Duo w g u v) (a b : Value) {A : Option Addr} {n c : Nat} {s : Bool} (hu : u = .bool s) (hv : v = .slice A n c) {B : Option Addr} {m : Nat} {ys : List Int} (hi : Limbs w B m ys) : Limbs ((w.setCell ⟨g, 0, none⟩ a).setCell ⟨g, 1, none⟩ b) B m ys := by
  refine ⟨hi.len, fun hm => ?_, hi.ok⟩
  obtain ⟨bb, o, e, hb, hc⟩ := hi.at_ hm
  refine ⟨bb, o, e, by simpa using hb, fun i hlt => ?_⟩
  have hne : bb ≠ g ∨ (o + i ≠ 0 ∧ o + i ≠ 1) := by
    by_cases e1 : bb = g
    · subst e1
      refine .inr ⟨fun e2 => ?_, fun e2 => ?_⟩
      · have := hc i hlt
        rw [e2, h.cell0, hu] at this; cases this
      · have := hc i hlt
        rw [e2, h.cell1, hv] at this; cases this
    · exact .inl e1
  rw [World.cell?_setCell_other _ _ _ _ (fun e => by injection e; omega), World.cell?_setCell_other _ _ _ _ (fun e => by injection e; omega)]
  exact hc i hlt
end

set_option maxRecDepth 100000 in
theorem zmade_any (neg : Bool) (A : Option Addr) (n c : Nat) (xs : List Int) (w : World) (hx : Limbs w A n xs) (hn : n ≤ c) (hc : c ≤ 9223372036854775807) (hn8 : n * 8 ≤ 140737488355328) :
    Calls Try.prog 53 #[.bool neg, .slice A n c] w (GivesInt w (neg && decide (0 < lmN xs n)) (xs.take (lmN xs n))) := by
  have hl := lmN_le xs n
  have hlen : (xs.take (lmN xs n)).length = lmN xs n := by rw [List.length_take, hx.len]; omega
  have Hlen := Lib.hid hlen
  have Cn := Lib.hid (fun W (h : Below w.heap.size w W) => nnorm_any A n c xs W (hx.bel h) hn hc hn8)
  have hd := Duo.new w (.bool false) (.slice none 0 0)
  clear hlen hx
  go_enter Try.func53, Try.ntmps53
  go_wp2_with fail
  refine (Cn.out _ (by exact (Below.refl _ _).alloc (Nat.le_refl _) _)).mono ?_
  rintro e w1 ⟨A1, c1, rfl, h1, h2, h3, h4⟩
  rw [Hlen.out] at h1 h3 ⊢
  have hd1 := hd.bel h4
  have c0 := hd1.cell0
  have c1' := hd1.cell1
  have f0 := hd1.frozen 0
  have f1 := hd1.frozen 1
  have hb : Below w.heap.size w w1 := ((Below.refl _ w).alloc (Nat.le_refl _) _).trans (h4.mono (by simp))
  have Hd := Lib.hid hd1
  clear hd hd1 h4
  have fin : ∀ b : Bool, GivesInt w b (xs.take (lmN xs n)) (.returned (.agg #[.bool b, .slice A1 (lmN xs n) c1])) ((w1.setCell ⟨w.heap.size, 0, none⟩ (.bool b)).setCell ⟨w.heap.size, 1, none⟩ (.slice A1 (lmN xs n) c1)) := fun b => by
    refine ⟨A1, c1, ?_, ?_, h2, ?_, (hb.setCell (p := ⟨w.heap.size, 0, none⟩) (Nat.le_refl _) _).setCell (p := ⟨w.heap.size, 1, none⟩) (Nat.le_refl _) _⟩
    · rw [Hlen.out]
    · rw [Hlen.out]; exact h1
    · rw [Hlen.out]; exact Hd.out.limbs _ _ rfl rfl h3
  have Fin := Lib.hid fin
  clear fin
  cases neg with
  | false =>
    go_wp2
    exact bodyPost_ret (v := .agg #[.bool false, .slice A1 (lmN xs n) c1]) (results_cell_row (fn := Try.f53) rfl _ _ _ _ _ _ _ rfl (Hd.out.set (.bool false) (.slice A1 (lmN xs n) c1)) Try.underlying25 rfl aint_size) rfl (Fin.out _)
  | true =>
    go_wp2
    exact bodyPost_ret (v := .agg #[.bool (decide (0 < lmN xs n)), .slice A1 (lmN xs n) c1]) (results_cell_row (fn := Try.f53) rfl _ _ _ _ _ _ _ rfl (Hd.out.set (.bool (decide (0 < lmN xs n))) (.slice A1 (lmN xs n) c1)) Try.underlying25 rfl aint_size) rfl (Fin.out _)

set_option maxRecDepth 100000 in
theorem znorm_any (neg : Bool) (A : Option Addr) (n c : Nat) (xs : List Int) (w : World) (hx : Limbs w A n xs) (hn : n ≤ c) (hc : c ≤ 9223372036854775807) (hn8 : n * 8 ≤ 140737488355328) :
    Calls Try.prog 62 #[.agg #[.bool neg, .slice A n c]] w (GivesInt w (neg && decide (0 < lmN xs n)) (xs.take (lmN xs n))) := by
  have Cn := Lib.hid (fun W (h : Below w.heap.size w W) => zmade_any neg A n c xs W (hx.bel h) hn hc hn8)
  have hd0 := (Duo.new w (.bool neg) (.slice A n c)).bel ((Below.refl _ _).alloc (Nat.le_refl _) (.cells #[.bool false, .slice none 0 0] 25))
  have hd := Duo.new (w.alloc (.cells #[.bool neg, .slice A n c] 25)) (.bool false) (.slice none 0 0)
  rw [World.size_alloc] at hd
  have c0 := hd0.cell0
  have c1 := hd0.cell1
  have Hd := Lib.hid hd
  clear hd hd0 hx
  go_enter Try.func62, Try.ntmps62
  go_wp2_with fail
  refine (Cn.out _ (by exact ((Below.refl _ _).alloc (Nat.le_refl _) _).alloc (by simp) _)).mono ?_
  rintro e w1 ⟨A1, c1', rfl, h1, h2, h3, h4⟩
  have hd1 := Hd.out.bel h4
  have k0 := hd1.cell0
  have k1 := hd1.cell1
  have f0 := hd1.frozen 0
  have f1 := hd1.frozen 1
  have hb : Below w.heap.size w w1 := (((Below.refl _ w).alloc (Nat.le_refl _) _).alloc (by simp) _).trans (h4.mono (by simp; omega))
  have Hd1 := Lib.hid hd1
  clear hd1 h4
  go_wp2
  exact bodyPost_ret (results_cell_row (fn := Try.f62) rfl _ _ _ _ _ _ _ rfl (Hd1.out.set _ _) Try.underlying25 rfl aint_size) rfl
    ⟨A1, c1', by rw [List.length_take], h1, h2, Hd1.out.limbs _ _ rfl rfl h3, (hb.setCell (p := ⟨w.heap.size + 1, 0, none⟩) (by simp) _).setCell (p := ⟨w.heap.size + 1, 1, none⟩) (by simp) _⟩

/-- An integer's sign: of how many limbs it is. -/
def signN (neg : Bool) : Nat → Int
  | 0 => 0
  | _ + 1 => if neg then -1 else 1
set_option maxRecDepth 100000 in
/-- zint.Sign, as far as it is asked for: whether it is less than nought. -/
theorem zsign_any (neg : Bool) (A : Option Addr) (n c : Nat) (xs : List Int) (w : World) (hx : Limbs w A n xs) (hn : n ≤ c) (hc : c ≤ 9223372036854775807) (hn8 : n * 8 ≤ 140737488355328) :
    Calls Try.prog 42 #[.agg #[.bool neg, .slice A n c]] w (fun e w' => e = .returned (.int .i64 (signN neg (lmN xs n))) ∧ Below w.heap.size w w') := by
  have hl := lmN_le xs n
  have hlen : (xs.take (lmN xs n)).length = lmN xs n := by rw [List.length_take, hx.len]; omega
  have Hlen := Lib.hid hlen
  have Cn := Lib.hid (fun W (h : Below w.heap.size w W) => znorm_any neg A n c xs W (hx.bel h) hn hc hn8)
  have hd := Duo.new w (.bool neg) (.slice A n c)
  have k0 := hd.cell0
  have k1 := hd.cell1
  have Hd := Lib.hid hd
  clear hd hlen hx
  go_enter Try.func42, Try.ntmps42
  go_wp2_with fail
  refine (Cn.out _ (by exact (Below.refl _ _).alloc (Nat.le_refl _) _)).mono ?_
  rintro e w1 ⟨A1, c1, rfl, h1, h2, h3, h4⟩
  rw [Hlen.out] at h1 h3 ⊢
  have hd1 := Hd.out.bel h4
  have c0 := hd1.cell0
  have c1' := hd1.cell1
  have f0 := hd1.frozen 0
  have f1 := hd1.frozen 1
  have hb : Below w.heap.size w w1 := ((Below.refl _ w).alloc (Nat.le_refl _) _).trans (h4.mono (by simp))
  have hbf : ∀ u v, Below w.heap.size w ((w1.setCell ⟨w.heap.size, 0, none⟩ u).setCell ⟨w.heap.size, 1, none⟩ v) := fun u v => (hb.setCell (p := ⟨w.heap.size, 0, none⟩) (Nat.le_refl _) _).setCell (p := ⟨w.heap.size, 1, none⟩) (Nat.le_refl _) _
  have Hb := Lib.hid hbf
  clear hd1 h4 hb hbf
  clear Hd k0 k1 h3 Hlen
  obtain ⟨L, hL⟩ : ∃ L, lmN xs n = L := ⟨_, rfl⟩
  have HL := Lib.hid hL
  rw [hL] at h1 ⊢
  clear hL Cn hl
  rcases L with _ | L
  · cases neg <;> (go_wp2; go_ret; exact ⟨by rw [HL.out]; rfl, Hb.out _ _⟩)
  · have hp' : (0 : Int) < (L : Int) + 1 := by omega
    cases neg <;> (go_wp2; go_ret; exact ⟨by rw [HL.out]; rfl, Hb.out _ _⟩)

set_option maxRecDepth 100000 in
/-- zint.Of a number that is not less than nought. -/
theorem zof_pos (x : Int) (w : World) (h0 : 0 ≤ x) (h1 : x ≤ 9223372036854775807) :
    Calls Try.prog 22 #[.int .i64 x] w (GivesInt w false ([x].take (lmN [x] 1))) := by
  have Cn := Lib.hid (fun W (h : Limbs W (some ⟨w.heap.size + 1, 0, none⟩) 1 [x]) => zmade_any false (some ⟨w.heap.size + 1, 0, none⟩) 1 1 [x] W h (by omega) (by omega) (by omega))
  have hd := (Duo.new w (.bool false) (.slice none 0 0)).bel ((Below.refl _ _).alloc (Nat.le_refl _) (.cells #[.int .u64 x] 55))
  have hlm := Limbs.one (w.alloc (.cells #[.bool false, .slice none 0 0] 25)) 55 h0 (x := x) (by omega)
  rw [World.size_alloc] at hlm
  have Hlm := Lib.hid hlm
  have Hd := Lib.hid hd
  clear hd hlm
  go_enter Try.func22, Try.ntmps22
  go_wp2_with fail
  refine (Cn.out _ (by exact Hlm.out)).mono ?_
  rintro e w1 ⟨A1, c1, rfl, h2, h3, h4, h5⟩
  have hd1 := Hd.out.bel h5
  have k0 := hd1.cell0
  have k1 := hd1.cell1
  have f0 := hd1.frozen 0
  have f1 := hd1.frozen 1
  have hb : Below w.heap.size w w1 := (((Below.refl _ w).alloc (Nat.le_refl _) _).alloc (by simp) _).trans (h5.mono (by simp; omega))
  have Hd1 := Lib.hid hd1
  clear hd1 h5
  go_wp2
  exact bodyPost_ret (results_cell_row (fn := Try.f22) rfl _ _ _ _ _ _ _ rfl (Hd1.out.set _ _) Try.underlying25 rfl aint_size) rfl
    ⟨A1, c1, by rw [List.length_take]; rfl, h2, h3, Hd1.out.limbs _ _ rfl rfl h4, (hb.setCell (p := ⟨w.heap.size, 0, none⟩) (Nat.le_refl _) _).setCell (p := ⟨w.heap.size, 1, none⟩) (Nat.le_refl _) _⟩
theorem limbs_of {x : Int} (_h0 : 0 ≤ x) : limbs ([x].take (lmN [x] 1)) = x.toNat := by
  rw [limbs_lmN (by simp)]
  show x.toNat + 2 ^ 64 * 0 = _
  omega

set_option maxRecDepth 100000 in
theorem nbits_any (A : Option Addr) (n c : Nat) (xs : List Int) (w : World) (hx : Limbs w A n xs) (hn : n ≤ c) (hc : c ≤ 9223372036854775807) (hn8 : n ≤ 1000000000) :
    Calls Try.prog 45 #[.slice A n c] w (fun e w' => e = .returned (.int .i64 (bitsN xs n : Nat)) ∧ w' = w) := by
  have hl := lmN_le xs n
  go_enter Try.func45, Try.ntmps45
  go_wp2_with fail
  refine (nplain_any A n c xs _ hx hn hc).mono ?_
  rintro e w' ⟨rfl, rfl⟩
  by_cases h0 : lmN xs n = 0
  · have hb : bitsN xs n = 0 := if_pos h0
    rw [h0]
    have Hb := Lib.hid hb
    clear hb h0
    go_wp2
    go_ret
    exact ⟨by rw [Hb.out]; rfl, rfl⟩
  · obtain ⟨k, hk⟩ : ∃ k, lmN xs n = k + 1 := ⟨lmN xs n - 1, by omega⟩
    have hb : bitsN xs n = 64 * k + Lib.bitLen (nth xs k).toNat := by
      unfold bitsN; rw [if_neg h0, hk]; rfl
    rw [hk]
    have Hb := Lib.hid hb
    obtain ⟨b, o, rfl, hb', hcl⟩ := hx.at_ (by omega)
    have hcy := hcl k (by omega)
    have hok := hx.ok k
    have hbl := Lib.bitLen_le (nth xs k).toNat 64 (by omega) (by omega)
    have hkn : (k : Int) ≤ 1000000000 := by omega
    clear hcl hb h0 hk
    generalize hbv : Lib.bitLen (nth xs k).toNat = bv at *
    have Cb : Hid (∀ W : World, Calls Try.prog 65 #[.int .u64 (nth xs k)] W fun e w' => e = .returned (.int .i64 (bv : Nat)) ∧ w' = W) := fun W => by
      rw [← hbv]; exact bits_len64 _ _ (by omega) (by omega)
    have hbk : (bv : Int) ≤ 64 := by omega
    clear hbv hok
    generalize nth xs k = x at *
    clear hbl hl
    have hk0 : (0 : Int) ≤ (k : Int) := by omega
    have e1 : IntKind.i64.wrap (k : Int) = (k : Int) := IntWalk.i64_in _ (by omega)
    have e2 : IntKind.i64.wrap (64 * (k : Int)) = 64 * (k : Int) := IntWalk.i64_in _ (by omega)
    have e3 : IntKind.i64.wrap (64 * (k : Int) + (bv : Int)) = 64 * (k : Int) + (bv : Int) := IntWalk.i64_in _ (by omega)
    go_wp2_with fail
    refine (Cb.out _).mono ?_
    rintro e w' ⟨rfl, rfl⟩
    go_wp2
    go_ret
    refine ⟨?_, rfl⟩
    rw [Hb.out]
    show Ending.returned (.int .i64 (64 * (k : Int) + (bv : Int))) = _
    rw [show ((64 * k + bv : Nat) : Int) = 64 * (k : Int) + (bv : Int) by omega]
end Go.Proofs.Yteddelfkjpljpaa
