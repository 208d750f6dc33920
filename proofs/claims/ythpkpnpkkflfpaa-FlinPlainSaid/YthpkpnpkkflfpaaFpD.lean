/- Contracts of the field's quotients and powers, and of the document's inverse. -/
import Derived.Test.YthpkpnpkkflfpaaFpC
namespace Go.Proofs.Ythpkpnpkkflfpaa
open Go.RowKit Cl

theorem rinv_no (a p : Int) (w : World) (h5 : -9223372036854775808 ≤ p) (h6 : p ≤ 9223372036854775807) (hp : isPrime p = false) :
    Calls Try.prog 20 #[.int .i64 a, .int .i64 p] w fun e w' => e = .returned (.tuple #[.int .i64 0, .int .i64 1]) ∧ w = w' := by
  go_enter Try.func20, Try.ntmps20
  go_wp2_with (go_at_call 30; refine (rchk_no _ _ (by omega) (by omega) hp).mono ?_; rintro e w' ⟨rfl, rfl⟩)
  go_ret2
  exact ⟨rfl, rfl⟩

theorem rinv_yes (a p : Int) (w : World) (h1 : -9223372036854775808 ≤ a) (h2 : a ≤ 9223372036854775807)
    (h5 : -9223372036854775808 ≤ p) (h6 : p ≤ 9223372036854775807) (hp : isPrime p = true) :
    Calls Try.prog 20 #[.int .i64 a, .int .i64 p] w fun e w' => e = .returned (.tuple #[.int .i64 (invm a p), .int .i64 (invE a p)]) ∧ w = w' := by
  have Hp := Lib.hid ((isPrime_iff p).1 hp)
  have hp1 : 2 ≤ p := Hp.out.two
  have hp2 : p ≤ 65521 := Hp.out.max
  have ha := red_bd a (p := p) (by omega)
  obtain ⟨ha1, ha2⟩ := ha
  go_enter Try.func20, Try.ntmps20
  go_wp2_with (go_at_call 30; refine (rchk_yes _ _ (by omega) (by omega) hp).mono ?_; rintro e w' ⟨rfl, rfl⟩)
  go_loop [6] (fun c6 => ∃ x : Int, 1 ≤ x ∧ x ≤ p ∧ Hid (∀ j : Int, 1 ≤ j → j < x → red a p * j % p ≠ 1) ∧ c6 = .int .i64 x) (fun c6 => (p - intOf c6).toNat)
  case atStart => exact ⟨1, by omega, by omega, (fun j h1 h2 => by omega), rfl⟩
  case round =>
    obtain ⟨x, hx1, hxp, hno, rfl⟩ := hrel
    have hm1 : 0 ≤ red a p * x := Int.mul_nonneg ha1 (by omega)
    have hm2 : red a p * x ≤ 65521 * 65521 := Int.mul_le_mul (by omega) (by omega) (by omega) (by omega)
    by_cases hlt : x < p
    · by_cases h1 : red a p * x % p = 1
      · have hc : Cg p (a * x) 1 := by
          have h3 : Cg p (red a p * x) 1 := Cg.iff_emod.2 (by rw [h1, Int.emod_eq_of_lt (by omega) (by omega)])
          exact ((red_cg (by omega)).symm.mul (Cg.refl p x)).trans h3
        have hv := invm_unique Hp.out (by omega) hlt hc
        have hz : ¬ Cg p a 0 := fun h0 => by
          have := h0.mul (Cg.refl p x)
          rw [Int.zero_mul] at this
          exact Hp.out.one_not (hc.symm.trans this)
        have he := invE_ok hz
        have Hv := Lib.hid hv; clear hv
        have He := Lib.hid he; clear he
        have h1' : (red a p * x % p == 1) = true := by simpa using h1
        clear h1
        go_wp2_with (go_at_call 29; refine (rred_any _ _ _ (by omega) (by omega) (by omega) (by omega)).mono ?_; rintro e w' ⟨rfl, rfl⟩)
        go_ret2
        exact ⟨by rw [He.out, ← Hv.out]; rfl, rfl⟩
      · have h1' : (red a p * x % p == 1) = false := by simpa using h1
        have H1 := Lib.hid h1; clear h1
        go_wp2_with (go_at_call 29; refine (rred_any _ _ _ (by omega) (by omega) (by omega) (by omega)).mono ?_; rintro e w' ⟨rfl, rfl⟩)
        go_round
        case rel => exact ⟨x + 1, by omega, by omega, (fun j h1 h2 => if e : j = x then e ▸ H1.out else hno.out j h1 (by omega)), rfl⟩
        case measure => simp [intOf]; omega
    · have hz : Cg p a 0 := Classical.byContradiction fun h0 => by
        obtain ⟨h2, h3, h4⟩ := invm_spec Hp.out h0
        have h5 := ((red_cg (p := p) (a := a) (by omega)).mul (Cg.refl p (invm a p))).trans h4
        refine hno.out (invm a p) (by omega) (by omega) ?_
        have := emod_eq_of_cg h5
        rwa [Int.emod_eq_of_lt (a := 1) (by omega) (by omega)] at this
      have hv := invm_zero Hp.out hz
      have he := invE_zero hz
      have Hv := Lib.hid hv; clear hv
      have He := Lib.hid he; clear he
      go_wp2
      go_ret2
      exact ⟨by rw [Hv.out, He.out]; rfl, rfl⟩

theorem pow_yes (a n p : Int) (w : World) (h1 : -9223372036854775808 ≤ a) (h2 : a ≤ 9223372036854775807) (hn : 0 ≤ n) (hn2 : n ≤ 9223372036854775807)
    (h5 : -9223372036854775808 ≤ p) (h6 : p ≤ 9223372036854775807) (hp : isPrime p = true) :
    Calls Try.prog 16 #[.int .i64 a, .int .i64 n, .int .i64 p] w fun e w' => e = .returned (.tuple #[.int .i64 (powm a n.toNat p), .int .i64 0]) ∧ w = w' := by
  have Hp := Lib.hid ((isPrime_iff p).1 hp)
  have hp1 : 2 ≤ p := Hp.out.two
  have hp2 : p ≤ 65521 := Hp.out.max
  have ha := red_bd a (p := p) (by omega)
  obtain ⟨ha1, ha2⟩ := ha
  go_enter Try.func16, Try.ntmps16
  go_wp2_with (first
    | (go_at_call 18; refine (chk_yes _ _ (by omega) (by omega) hp).mono ?_; rintro e w' ⟨rfl, rfl⟩)
    | (go_at_call 15; refine (red_any _ _ _ (by omega) (by omega) (by omega) (by omega)).mono ?_; rintro e w' ⟨rfl, rfl⟩))
  go_loop [1, 8, 9] (fun c1 c8 c9 => ∃ out base k : Int, 0 ≤ k ∧ k ≤ n ∧ 0 ≤ out ∧ out < p ∧ 0 ≤ base ∧ base < p ∧ Hid (Pw p a n.toNat out base k) ∧ c1 = .int .i64 k ∧ c8 = .int .i64 out ∧ c9 = .int .i64 base) (fun c1 _ _ => (intOf c1).toNat)
  case atStart => exact ⟨1, red a p, n, by omega, by omega, by omega, by omega, by omega, by omega, Pw.start Hp.out hn, rfl, rfl, rfl⟩
  case round =>
    obtain ⟨out, base, k, hk0, hkn, ho0, hop, hb0, hbp, hP, rfl, rfl, rfl⟩ := hrel
    have hm1 : 0 ≤ out * base := Int.mul_nonneg ho0 hb0
    have hm2 : out * base ≤ 65521 * 65521 := Int.mul_le_mul (by omega) (by omega) (by omega) (by omega)
    have hm3 : 0 ≤ base * base := Int.mul_nonneg hb0 hb0
    have hm4 : base * base ≤ 65521 * 65521 := Int.mul_le_mul (by omega) (by omega) (by omega) (by omega)
    by_cases hz : k = 0
    · subst hz
      have hd := hP.out.done
      have Hd := Lib.hid hd; clear hd
      go_wp2
      go_ret2
      exact ⟨ret_int2 Hd.out, rfl⟩
    · have hk1 : 1 ≤ k := by omega
      by_cases hodd : k % 2 = 1
      · have hn2' := hP.out.odd hodd
        have Hn := Lib.hid hn2'; clear hn2'
        have ho := emod_bd (out * base) (p := p) (by omega)
        have hb := emod_bd (base * base) (p := p) (by omega)
        obtain ⟨ho1, ho2⟩ := ho
        obtain ⟨hb1, hb2⟩ := hb
        have hbit : (bits BinOp.and IntKind.i64 k 1 == 1) = true := by rw [i64_and_one (by omega) (by omega), hodd]; rfl
        clear hodd
        go_wp2
        go_round
        case rel => exact ⟨out * base % p, base * base % p, k / 2, by omega, by omega, by omega, by omega, by omega, by omega, Hn.out, rfl, rfl, rfl⟩
        case measure => simp [intOf]; omega
      · have hn2' := hP.out.even (by omega)
        have Hn := Lib.hid hn2'; clear hn2'
        have hb := emod_bd (base * base) (p := p) (by omega)
        obtain ⟨hb1, hb2⟩ := hb
        have hbit : (bits BinOp.and IntKind.i64 k 1 == 1) = false := by rw [i64_and_one (by omega) (by omega)]; simp; omega
        clear hodd
        go_wp2
        go_round
        case rel => exact ⟨out, base * base % p, k / 2, by omega, by omega, by omega, by omega, by omega, by omega, Hn.out, rfl, rfl, rfl⟩
        case measure => simp [intOf]; omega

theorem rpow_yes (a n p : Int) (w : World) (h1 : -9223372036854775808 ≤ a) (h2 : a ≤ 9223372036854775807) (hn : 0 ≤ n) (hn2 : n ≤ 9223372036854775807)
    (h5 : -9223372036854775808 ≤ p) (h6 : p ≤ 9223372036854775807) (hp : isPrime p = true) :
    Calls Try.prog 23 #[.int .i64 a, .int .i64 n, .int .i64 p] w fun e w' => e = .returned (.tuple #[.int .i64 (powm a n.toNat p), .int .i64 0]) ∧ w = w' := by
  have Hp := Lib.hid ((isPrime_iff p).1 hp)
  have hp1 : 2 ≤ p := Hp.out.two
  have hp2 : p ≤ 65521 := Hp.out.max
  have ha := red_bd a (p := p) (by omega)
  obtain ⟨ha1, ha2⟩ := ha
  have e1p : (1 : Int) % p = 1 := Int.emod_eq_of_lt (by omega) (by omega)
  go_enter Try.func23, Try.ntmps23
  go_wp2_with (first
    | (go_at_call 30; refine (rchk_yes _ _ (by omega) (by omega) hp).mono ?_; rintro e w' ⟨rfl, rfl⟩)
    | (go_at_call 29; refine (rred_any _ _ _ (by omega) (by omega) (by omega) (by omega)).mono ?_; rintro e w' ⟨rfl, rfl⟩))
  go_loop [8, 9, 10] (fun c8 c9 c1 => ∃ out base k : Int, 0 ≤ k ∧ k ≤ n ∧ 0 ≤ out ∧ out < p ∧ 0 ≤ base ∧ base < p ∧ Hid (Pw p a n.toNat out base k) ∧ c1 = .int .i64 k ∧ c8 = .int .i64 out ∧ c9 = .int .i64 base) (fun _ _ c1 => (intOf c1).toNat)
  case atStart => exact ⟨1, red a p, n, by omega, by omega, by omega, by omega, by omega, by omega, Pw.start Hp.out hn, rfl, rfl, rfl⟩
  case round =>
    obtain ⟨out, base, k, hk0, hkn, ho0, hop, hb0, hbp, hP, rfl, rfl, rfl⟩ := hrel
    have hm1 : 0 ≤ out * base := Int.mul_nonneg ho0 hb0
    have hm2 : out * base ≤ 65521 * 65521 := Int.mul_le_mul (by omega) (by omega) (by omega) (by omega)
    have hm3 : 0 ≤ base * base := Int.mul_nonneg hb0 hb0
    have hm4 : base * base ≤ 65521 * 65521 := Int.mul_le_mul (by omega) (by omega) (by omega) (by omega)
    by_cases hz : k = 0
    · subst hz
      have hd := hP.out.done
      have Hd := Lib.hid hd; clear hd
      go_wp2
      go_ret2
      exact ⟨ret_int2 Hd.out, rfl⟩
    · have hk1 : 1 ≤ k := by omega
      by_cases hodd : k % 2 = 1
      · have hn2' := hP.out.odd hodd
        have Hn := Lib.hid hn2'; clear hn2'
        have ho := emod_bd (out * base) (p := p) (by omega)
        have hb := emod_bd (base * base) (p := p) (by omega)
        obtain ⟨ho1, ho2⟩ := ho
        obtain ⟨hb1, hb2⟩ := hb
        have hbit : (k % 2 == 1) = true := by simpa using hodd
        clear hodd
        go_wp2
        go_round
        case rel => exact ⟨out * base % p, base * base % p, k / 2, by omega, by omega, by omega, by omega, by omega, by omega, Hn.out, rfl, rfl, rfl⟩
        case measure => simp [intOf]; omega
      · have hn2' := hP.out.even (by omega)
        have Hn := Lib.hid hn2'; clear hn2'
        have hb := emod_bd (base * base) (p := p) (by omega)
        obtain ⟨hb1, hb2⟩ := hb
        have hbit : (k % 2 == 1) = false := by simpa using hodd
        clear hodd
        go_wp2
        go_round
        case rel => exact ⟨out, base * base % p, k / 2, by omega, by omega, by omega, by omega, by omega, by omega, Hn.out, rfl, rfl, rfl⟩
        case measure => simp [intOf]; omega

theorem pow_no (a n p : Int) (w : World) (h5 : -9223372036854775808 ≤ p) (h6 : p ≤ 9223372036854775807) (hp : isPrime p = false) :
    Calls Try.prog 16 #[.int .i64 a, .int .i64 n, .int .i64 p] w fun e w' => e = .returned (.tuple #[.int .i64 0, .int .i64 1]) ∧ w = w' := by
  go_enter Try.func16, Try.ntmps16
  go_wp2_with (go_at_call 18; refine (chk_no _ _ (by omega) (by omega) hp).mono ?_; rintro e w' ⟨rfl, rfl⟩)
  go_ret2
  exact ⟨rfl, rfl⟩
theorem pow_neg (a n p : Int) (w : World) (hn : n < 0) (h5 : -9223372036854775808 ≤ p) (h6 : p ≤ 9223372036854775807) (hp : isPrime p = true) :
    Calls Try.prog 16 #[.int .i64 a, .int .i64 n, .int .i64 p] w fun e w' => e = .returned (.tuple #[.int .i64 0, .int .i64 1]) ∧ w = w' := by
  go_enter Try.func16, Try.ntmps16
  go_wp2_with (go_at_call 18; refine (chk_yes _ _ (by omega) (by omega) hp).mono ?_; rintro e w' ⟨rfl, rfl⟩)
  go_ret2
  exact ⟨rfl, rfl⟩

theorem rpow_no (a n p : Int) (w : World) (h5 : -9223372036854775808 ≤ p) (h6 : p ≤ 9223372036854775807) (hp : isPrime p = false) :
    Calls Try.prog 23 #[.int .i64 a, .int .i64 n, .int .i64 p] w fun e w' => e = .returned (.tuple #[.int .i64 0, .int .i64 1]) ∧ w = w' := by
  go_enter Try.func23, Try.ntmps23
  go_wp2_with (go_at_call 30; refine (rchk_no _ _ (by omega) (by omega) hp).mono ?_; rintro e w' ⟨rfl, rfl⟩)
  go_ret2
  exact ⟨rfl, rfl⟩
theorem rpow_neg (a n p : Int) (w : World) (hn : n < 0) (h5 : -9223372036854775808 ≤ p) (h6 : p ≤ 9223372036854775807) (hp : isPrime p = true) :
    Calls Try.prog 23 #[.int .i64 a, .int .i64 n, .int .i64 p] w fun e w' => e = .returned (.tuple #[.int .i64 0, .int .i64 1]) ∧ w = w' := by
  go_enter Try.func23, Try.ntmps23
  go_wp2_with (go_at_call 30; refine (rchk_yes _ _ (by omega) (by omega) hp).mono ?_; rintro e w' ⟨rfl, rfl⟩)
  go_ret2
  exact ⟨rfl, rfl⟩

theorem div_no (a b p : Int) (w : World) (h5 : -9223372036854775808 ≤ p) (h6 : p ≤ 9223372036854775807) (hp : isPrime p = false) :
    Calls Try.prog 21 #[.int .i64 a, .int .i64 b, .int .i64 p] w fun e w' => e = .returned (.tuple #[.int .i64 0, .int .i64 1]) ∧ w = w' := by
  go_enter Try.func21, Try.ntmps21
  go_wp2_with (go_at_call 19; refine (inv_no _ _ _ (by omega) (by omega) hp).mono ?_; rintro e w' ⟨rfl, rfl⟩)
  go_ret2
  exact ⟨rfl, rfl⟩
theorem div_yes (a b p : Int) (w : World) (h1 : -9223372036854775808 ≤ a) (h2 : a ≤ 9223372036854775807) (h3 : -9223372036854775808 ≤ b) (h4 : b ≤ 9223372036854775807)
    (h5 : -9223372036854775808 ≤ p) (h6 : p ≤ 9223372036854775807) (hp : isPrime p = true) (hb : ¬ Cg p b 0) :
    Calls Try.prog 21 #[.int .i64 a, .int .i64 b, .int .i64 p] w fun e w' => e = .returned (.tuple #[.int .i64 (mulm a (invm b p) p), .int .i64 0]) ∧ w = w' := by
  have Hp := Lib.hid ((isPrime_iff p).1 hp)
  have hp1 : 2 ≤ p := Hp.out.two
  have hp2 : p ≤ 65521 := Hp.out.max
  obtain ⟨hv1, hv2⟩ := invm_bd b Hp.out
  have c := inv_yes b p w h3 h4 h5 h6 hp
  rw [invE_ok hb] at c
  have C := Lib.hid c; clear c
  go_enter Try.func21, Try.ntmps21
  go_wp2_with (first
    | (go_at_call 19; refine C.out.mono ?_; rintro e w' ⟨rfl, rfl⟩)
    | (go_at_call 17; refine (mul_yes _ _ _ _ (by omega) (by omega) (by omega) (by omega) (by omega) (by omega) hp).mono ?_; rintro e w' ⟨rfl, rfl⟩))
  go_ret2
  exact ⟨rfl, rfl⟩
theorem div_zero (a b p : Int) (w : World) (h3 : -9223372036854775808 ≤ b) (h4 : b ≤ 9223372036854775807)
    (h5 : -9223372036854775808 ≤ p) (h6 : p ≤ 9223372036854775807) (hp : isPrime p = true) (hb : Cg p b 0) :
    Calls Try.prog 21 #[.int .i64 a, .int .i64 b, .int .i64 p] w fun e w' => e = .returned (.tuple #[.int .i64 0, .int .i64 3]) ∧ w = w' := by
  have c := inv_yes b p w h3 h4 h5 h6 hp
  rw [invE_zero hb] at c
  have C := Lib.hid c; clear c
  go_enter Try.func21, Try.ntmps21
  go_wp2_with (go_at_call 19; refine C.out.mono ?_; rintro e w' ⟨rfl, rfl⟩)
  go_ret2
  exact ⟨rfl, rfl⟩

theorem rdiv_no (a b p : Int) (w : World) (h5 : -9223372036854775808 ≤ p) (h6 : p ≤ 9223372036854775807) (hp : isPrime p = false) :
    Calls Try.prog 22 #[.int .i64 a, .int .i64 b, .int .i64 p] w fun e w' => e = .returned (.tuple #[.int .i64 0, .int .i64 1]) ∧ w = w' := by
  go_enter Try.func22, Try.ntmps22
  go_wp2_with (go_at_call 20; refine (rinv_no _ _ _ (by omega) (by omega) hp).mono ?_; rintro e w' ⟨rfl, rfl⟩)
  go_ret2
  exact ⟨rfl, rfl⟩
theorem rdiv_yes (a b p : Int) (w : World) (h1 : -9223372036854775808 ≤ a) (h2 : a ≤ 9223372036854775807) (h3 : -9223372036854775808 ≤ b) (h4 : b ≤ 9223372036854775807)
    (h5 : -9223372036854775808 ≤ p) (h6 : p ≤ 9223372036854775807) (hp : isPrime p = true) (hb : ¬ Cg p b 0) :
    Calls Try.prog 22 #[.int .i64 a, .int .i64 b, .int .i64 p] w fun e w' => e = .returned (.tuple #[.int .i64 (mulm a (invm b p) p), .int .i64 0]) ∧ w = w' := by
  have Hp := Lib.hid ((isPrime_iff p).1 hp)
  have hp1 : 2 ≤ p := Hp.out.two
  have hp2 : p ≤ 65521 := Hp.out.max
  obtain ⟨hv1, hv2⟩ := invm_bd b Hp.out
  have c := rinv_yes b p w h3 h4 h5 h6 hp
  rw [invE_ok hb] at c
  have C := Lib.hid c; clear c
  go_enter Try.func22, Try.ntmps22
  go_wp2_with (first
    | (go_at_call 20; refine C.out.mono ?_; rintro e w' ⟨rfl, rfl⟩)
    | (go_at_call 28; refine (rmul_yes _ _ _ _ (by omega) (by omega) (by omega) (by omega) (by omega) (by omega) hp).mono ?_; rintro e w' ⟨rfl, rfl⟩))
  go_ret2
  exact ⟨rfl, rfl⟩
theorem rdiv_zero (a b p : Int) (w : World) (h3 : -9223372036854775808 ≤ b) (h4 : b ≤ 9223372036854775807)
    (h5 : -9223372036854775808 ≤ p) (h6 : p ≤ 9223372036854775807) (hp : isPrime p = true) (hb : Cg p b 0) :
    Calls Try.prog 22 #[.int .i64 a, .int .i64 b, .int .i64 p] w fun e w' => e = .returned (.tuple #[.int .i64 0, .int .i64 3]) ∧ w = w' := by
  have c := rinv_yes b p w h3 h4 h5 h6 hp
  rw [invE_zero hb] at c
  have C := Lib.hid c; clear c
  go_enter Try.func22, Try.ntmps22
  go_wp2_with (go_at_call 20; refine C.out.mono ?_; rintro e w' ⟨rfl, rfl⟩)
  go_ret2
  exact ⟨rfl, rfl⟩

end Go.Proofs.Ythpkpnpkkflfpaa
