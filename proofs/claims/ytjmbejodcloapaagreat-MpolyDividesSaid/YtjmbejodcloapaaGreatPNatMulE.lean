/- Contract: nat.Mul of any factors (under way). -/
import Derived.Test.YtjmbejodcloapaaGreatPNatMul
set_option linter.unusedVariables false
set_option linter.unusedSimpArgs false
namespace Go.Proofs.YtjmbejodcloapaaGreat
open Go.RowKit Cl
attribute [local go_sem ↓] Go.wp_at_zero Go.wp_at_succ
set_option maxRecDepth 100000 in
set_option maxHeartbeats 4000000 in
theorem nat_mulE (A B : Option Addr) (n m c d : Nat) (xs ys : List Int) (w : World) (hx : Limbs w A n xs) (hy : Limbs w B m ys) (hnc : n ≤ c) (hc : c ≤ 9223372036854775807) (hmd : m ≤ d) (hd : d ≤ 9223372036854775807) (hn : n ≤ 10000000) (hm : m ≤ 10000000) (hu : 8 ≤ lmN xs n) (hv : 8 ≤ lmN ys m) (huv : lmN ys m = lmN xs n)
    (ih : ∀ (A B : Option Addr) (n' m' c d : Nat) (xs' ys' : List Int) (w : World), lmN xs' n' + lmN ys' m' < lmN xs n + lmN ys m → Limbs w A n' xs' → Limbs w B m' ys' → n' ≤ c → c ≤ 9223372036854775807 → m' ≤ d → d ≤ 9223372036854775807 → n' ≤ 10000000 → m' ≤ 10000000 → Calls Tryz.prog 64 #[.slice A n' c, .slice B m' d] w (MulGives n' m' xs' ys' w)) :
    Calls Tryz.prog 64 #[.slice A n c, .slice B m d] w (MulGives n m xs ys w) := by
  have hxl := hx.len
  have hyl := hy.len
  have l1 := lmN_le xs n
  have l2 := lmN_le ys m
  obtain ⟨p1, p2⟩ := plainL_take hx.ok hxl
  obtain ⟨q1, q2⟩ := plainL_take hy.ok hyl
  have Hx := Lib.hid (hx.take l1)
  have Hy := Lib.hid (hy.take l2)
  have C1 := Lib.hid (nplain_any A n c xs w hx hnc hc)
  have C2 := Lib.hid (nplain_any B m d ys w hy hmd hd)
  have Ih := Lib.hid ih
  obtain ⟨b, o, rfl, hb, _⟩ := hx.at_ (by omega)
  obtain ⟨b', o', rfl, hb', _⟩ := hy.at_ (by omega)
  have P2 := Lib.hid p2
  have Q2 := Lib.hid q2
  clear hx hy p1 q1 hxl hyl ih p2 q2
  generalize lmN xs n = u at *
  generalize lmN ys m = v at *
  generalize xs.take u = us at *
  generalize ys.take v = vs at *
  subst huv
  go_enter Tryz.func64, Tryz.ntmps64
  go_wp2_with fail
  refine C1.out.mono ?_
  rintro e w' ⟨rfl, rfl⟩
  go_wp2_with fail
  refine C2.out.mono ?_
  rintro e w' ⟨rfl, rfl⟩
  obtain ⟨V, hV⟩ : ∃ V : Int, (v : Int) = V := ⟨_, rfl⟩
  have h1 : ¬ V < V := by omega
  have h2 : V ≤ V := by omega
  have h3 : V ≤ V := by omega
  have h4 : ¬ V < V := by omega
  have h5 : ¬ V < 8 := by omega
  have h6 : 8 ≤ V := by omega
  have h7 : V ≤ 10000000 := by omega
  have h8 : 0 ≤ V := by omega
  go_wp2_with fail
  obtain ⟨h, hh⟩ : ∃ h : Nat, V / 2 = (h : Int) := ⟨v / 2, by omega⟩
  rw [hh]
  have hhu : 2 * h ≤ v ∧ v ≤ 2 * h + 1 := by omega
  obtain ⟨hh1, hh2⟩ := hhu
  clear hh h1 h2 h3 h4 h5 h6 h7 h8
  subst hV
  have Cp : Hid (∀ N, Calls Tryz.prog 83 #[.slice (some ⟨b, o, none⟩) h c] (w'.drewN N) fun e w2 => e = .returned (.slice (some ⟨b, o, none⟩) (lmN (us.take h) h) c) ∧ w2 = w'.drewN N) := fun N => nplain_any _ h c _ _ ((Hx.out.take (by omega)).drewN N) (by omega) hc
  have g1 : (h : Int) < (v : Int) := by omega
  have g2 : (h : Int) ≤ (v : Int) := by omega
  have g3 : ¬ (v : Int) < (h : Int) := by omega
  have g4 : ¬ (v : Int) ≤ (h : Int) := by omega
  have g5 : (0 : Int) ≤ (h : Int) := by omega
  have g6 : (h : Int) ≤ (c : Int) := by omega
  have g7 : (v : Int) ≤ (c : Int) := by omega
  have g8 : (min (h : Int) (v : Int)) = (h : Int) := by omega
  go_quiet ((go_at_call 83; first | exact quiet_add_left ((Cp.out _).mono fun _ _ h => ⟨h.1, h.2.symm⟩) | exact quiet_left ((Cp.out _).mono fun _ _ h => ⟨h.1, h.2.symm⟩)))
  have hbz : Below w'.heap.size w' (w'.drewN nq) := below_drewN (Below.refl _ _) nq
  have Hx2 := Lib.hid (Hx.out.bel hbz)
  have Hy2 := Lib.hid (Hy.out.bel hbz)
  have Hbz := Lib.hid hbz
  clear Cp Hx Hy hbz g1 g2 g3 g4 g5 g6 g7 g8
  generalize w'.drewN nq = wz at *
  have hi0 := lmN_le (us.take h) h
  obtain ⟨pa1, pa2⟩ := plainL_take (Hx2.out.take (k := h) (by omega)).ok (n := h) (by rw [List.length_take, Hx2.out.len]; omega)
  have Ha0 := Lib.hid ((Hx2.out.take (k := h) (by omega)).take hi0)
  have Ha1 := Lib.hid (limbs_dropAt Hx2.out (k := h) (by omega))
  have eU : Hid (limbs us = limbs ((us.take h).take (lmN (us.take h) h)) + 2 ^ (64 * h) * limbs (us.drop h)) := by show _ = _; rw [pa2]; exact limbs_cut us (by rw [Hx2.out.len]; omega)
  have uLt : Hid (limbs us < 2 ^ (64 * v)) := by have := limbs_lt Hx2.out.ok; rwa [Hx2.out.len] at this
  have vLt : Hid (limbs vs < 2 ^ (64 * v)) := by have := limbs_lt Hy2.out.ok; rwa [Hy2.out.len] at this
  have sa := addL_spec (Ha0.out.ok) (Ha1.out.ok)
  rw [Ha0.out.len, Ha1.out.len] at sa
  have saL := sa.2
  clear sa pa1 pa2
  generalize (us.take h).take (lmN (us.take h) h) = a0s at *
  generalize us.drop h = a1s at *
  generalize lmN (us.take h) h = i0 at *
  by_cases hhv : h < v
  · have Cq : Hid (∀ N, Calls Tryz.prog 83 #[.slice (some ⟨b', o', none⟩) h d] (wz.drewN N) fun e w2 => e = .returned (.slice (some ⟨b', o', none⟩) (lmN (vs.take h) h) d) ∧ w2 = wz.drewN N) := fun N => nplain_any _ h d _ _ ((Hy2.out.take (by omega)).drewN N) (by omega) hd
    have g1 : (h : Int) < (v : Int) := by omega
    have g2 : (h : Int) ≤ (v : Int) := by omega
    have g3 : ¬ (v : Int) < (h : Int) := by omega
    have g4 : ¬ (v : Int) ≤ (h : Int) := by omega
    have g5 : (0 : Int) ≤ (h : Int) := by omega
    have g6 : (h : Int) ≤ (d : Int) := by omega
    have g7 : (v : Int) ≤ (d : Int) := by omega
    have g8 : (min (h : Int) (v : Int)) = (h : Int) := by omega
    go_wp2_with fail
    go_quiet ((go_at_call 83; first | exact quiet_add_left ((Cq.out _).mono fun _ _ h => ⟨h.1, h.2.symm⟩) | exact quiet_left ((Cq.out _).mono fun _ _ h => ⟨h.1, h.2.symm⟩)))
    have hbw : Below wz.heap.size wz (wz.drewN nq) := below_drewN (Below.refl _ _) nq
    have hj0 := lmN_le (vs.take h) h
    obtain ⟨pb1, pb2⟩ := plainL_take (Hy2.out.take (k := h) (by omega)).ok (n := h) (by rw [List.length_take, Hy2.out.len]; omega)
    have Hq0 := Lib.hid (((Hy2.out.take (k := h) (by omega)).take hj0).bel hbw)
    have Hq1 := Lib.hid ((limbs_dropAt Hy2.out (k := h) (by omega)).bel hbw)
    have eV : Hid (limbs vs = limbs ((vs.take h).take (lmN (vs.take h) h)) + 2 ^ (64 * h) * limbs (vs.drop h)) := by show _ = _; rw [pb2]; exact limbs_cut vs (by rw [Hy2.out.len]; omega)
    have sb := addL_spec (Hq0.out.ok) (Hq1.out.ok)
    rw [Hq0.out.len, Hq1.out.len] at sb
    have sbL := sb.2
    replace Ha0 := Lib.hid (Ha0.out.bel hbw)
    replace Ha1 := Lib.hid (Ha1.out.bel hbw)
    have Hbw : Hid (Below w'.heap.size w' (wz.drewN nq)) := Hbz.out.trans (hbw.mono Hbz.out.size)
    clear Cq Hx2 Hy2 Hbz hbw sb pb1 pb2 g1 g2 g3 g4 g5 g6 g7 g8
    generalize wz.drewN nq = w2 at *
    generalize (vs.take h).take (lmN (vs.take h) h) = b0s at *
    generalize vs.drop h = b1s at *
    generalize lmN (vs.take h) h = j0 at *
    have Hb0 := Lib.hid (Hq0.out)
    have Hb1 := Lib.hid (Hq1.out)
    have Clo := Lib.hid (Ih.out (some ⟨b, o, none⟩) (some ⟨b', o', none⟩) i0 j0 c d a0s b0s w2 (by have := lmN_le a0s i0; have := lmN_le b0s j0; omega) Ha0.out Hb0.out (by omega) hc (by omega) hd (by omega) (by omega))
    go_wp2_with fail
    refine Clo.out.mono ?_
    rintro e w3 ⟨lo, lo1, lo2, lo3, A3, n3, c3, rfl, r1, r2, r3, _, r5⟩
    clear Clo
    have Ch := Lib.hid (Ih.out (some ⟨b, o + h, none⟩) (some ⟨b', o' + h, none⟩) (v - h) (v - h) (c - h) (d - h) a1s b1s w3 (by have := lmN_le a1s (v - h); have := lmN_le b1s (v - h); omega) (Ha1.out.bel r5) (Hb1.out.bel r5) (by omega) (by omega) (by omega) (by omega) (by omega) (by omega))
    have HA0 := Lib.hid (Ha0.out.bel r5)
    have HA1 := Lib.hid (Ha1.out.bel r5)
    have HB0 := Lib.hid (Hb0.out.bel r5)
    have HB1 := Lib.hid (Hb1.out.bel r5)
    have Hlo := Lib.hid r3
    have Hbel3 : Hid (Below w'.heap.size w' w3) := Hbw.out.trans (r5.mono Hbw.out.size)
    have Elo := Lib.hid lo2
    clear r3 r5 Ha0 Ha1 Hb0 Hb1 Hbw lo2
    go_wp2_with fail
    refine Ch.out.mono ?_
    rintro e w4 ⟨hi, hi1, hi2, hi3, A4, n4, c4, rfl, s1, s2, s3, _, s5⟩
    clear Ch
    have Hlo4 := Lib.hid (Hlo.out.bel s5)
    have Hhi := Lib.hid s3
    have Ehi := Lib.hid hi2
    have Ca := Lib.hid (nat_add (some ⟨b, o, none⟩) (some ⟨b, o + h, none⟩) i0 (v - h) c (c - h) a0s a1s w4 (HA0.out.bel s5) (HA1.out.bel s5) (by omega) (by omega))
    have HB04 := Lib.hid (HB0.out.bel s5)
    have HB14 := Lib.hid (HB1.out.bel s5)
    have Hbel4 : Hid (Below w'.heap.size w' w4) := Hbel3.out.trans (s5.mono Hbel3.out.size)
    clear s3 s5 HA0 HA1 HB0 HB1 Hlo Hbel3 hi2
    go_wp2_with fail
    refine Ca.out.mono ?_
    rintro e w5 ⟨A5, n5, c5, rfl, t1, t2, t3, _, t5⟩
    clear Ca
    have Cb := Lib.hid (nat_add (some ⟨b', o', none⟩) (some ⟨b', o' + h, none⟩) j0 (v - h) d (d - h) b0s b1s w5 (HB04.out.bel t5) (HB14.out.bel t5) (by omega) (by omega))
    have Hsa := Lib.hid t3
    have Hlo5 := Lib.hid (Hlo4.out.bel t5)
    have Hhi5 := Lib.hid (Hhi.out.bel t5)
    have Hbel5 : Hid (Below w'.heap.size w' w5) := Hbel4.out.trans (t5.mono Hbel4.out.size)
    clear t3 t5 HB04 HB14 Hlo4 Hhi Hbel4
    go_wp2_with fail
    refine Cb.out.mono ?_
    rintro e w6 ⟨A6, n6, c6, rfl, x1, x2, x3, _, x5⟩
    clear Cb
    have hl5 : n5 ≤ max i0 (v - h) + 1 := by have := Hsa.out.len; have := saL.2; omega
    have hl6 : n6 ≤ max j0 (v - h) + 1 := by have := x3.len; have := sbL.2; omega
    have Cm := Lib.hid (Ih.out A5 A6 n5 n6 c5 c6 (addL a0s a1s) (addL b0s b1s) w6 (by have := lmN_le (addL a0s a1s) n5; have := lmN_le (addL b0s b1s) n6; omega) (Hsa.out.bel x5) x3 t1 t2 x1 x2 (by omega) (by omega))
    have Hlo6 := Lib.hid (Hlo5.out.bel x5)
    have Hhi6 := Lib.hid (Hhi5.out.bel x5)
    have Hbel6 : Hid (Below w'.heap.size w' w6) := Hbel5.out.trans (x5.mono Hbel5.out.size)
    clear x3 x5 Hsa Hlo5 Hhi5 Hbel5
    go_wp2_with fail
    refine Cm.out.mono ?_
    rintro e w7 ⟨mm, mm1, mm2, mm3, A7, n7, c7, rfl, y1, y2, y3, _, y5⟩
    clear Cm
    have em : limbs mm = (limbs a0s + limbs a1s) * (limbs b0s + limbs b1s) := by rw [mm2, saL.1, sbL.1]
    have hle1 : limbs lo ≤ limbs mm := by rw [em, Elo.out, Nat.add_mul, Nat.mul_add]; omega
    have hln3 := Hlo6.out.len
    have hln4 := Hhi6.out.len
    have hln7 := y3.len
    have Cs := Lib.hid (nat_less A7 A3 n7 n3 c7 c3 mm lo w7 y3 (Hlo6.out.bel y5) (by omega) (by omega) hle1)
    have sp1 := subL_spec mm1.1 lo1.1 hle1
    have Hlo7 := Lib.hid (Hlo6.out.bel y5)
    have Hhi7 := Lib.hid (Hhi6.out.bel y5)
    have Hbel7 : Hid (Below w'.heap.size w' w7) := Hbel6.out.trans (y5.mono Hbel6.out.size)
    have Em := Lib.hid em
    have Sp1 := Lib.hid sp1
    clear y3 y5 Hlo6 Hhi6 Hbel6 em sp1 mm2
    go_wp2_with fail
    refine Cs.out.mono ?_
    rintro e w8 ⟨A8, n8, c8, rfl, z1, z2, z3, _, z5⟩
    clear Cs
    have hle2 : limbs hi ≤ limbs (subL mm lo) := by rw [Sp1.out.2.2.1, Em.out, Elo.out, Ehi.out, Nat.add_mul, Nat.mul_add, Nat.mul_add]; omega
    have hln8 := z3.len
    have hls1 := Sp1.out.2.2.2
    have Cs := Lib.hid (nat_less A8 A4 n8 n4 c8 c4 (subL mm lo) hi w8 z3 (Hhi7.out.bel z5) (by omega) (by omega) hle2)
    have Sp2 := Lib.hid (subL_spec Sp1.out.2.1.1 hi1.1 hle2)
    have Hlo8 := Lib.hid (Hlo7.out.bel z5)
    have Hhi8 := Lib.hid (Hhi7.out.bel z5)
    have Hbel8 : Hid (Below w'.heap.size w' w8) := Hbel7.out.trans (z5.mono Hbel7.out.size)
    clear z3 z5 Hlo7 Hhi7 Hbel7
    go_wp2_with fail
    refine Cs.out.mono ?_
    rintro e w9 ⟨A9, n9, c9, rfl, p1, p2, p3, _, p5⟩
    clear Cs
    have hln9 := p3.len
    have hls2 := Sp2.out.2.2.2
    have Cv := Lib.hid (nat_moved A9 n9 c9 (subL (subL mm lo) hi) h w9 p3 (by omega) (by omega))
    have Hlo9 := Lib.hid (Hlo8.out.bel p5)
    have Hhi9 := Lib.hid (Hhi8.out.bel p5)
    have Hbel9 : Hid (Below w'.heap.size w' w9) := Hbel8.out.trans (p5.mono Hbel8.out.size)
    clear p3 p5 Hlo8 Hhi8 Hbel8
    go_wp2_with fail
    refine Cv.out.mono ?_
    rintro e wA ⟨AA, nA, cA, rfl, a1, a2, a3, _, a5⟩
    clear Cv
    have hlnA := a3.len
    rw [List.length_append, List.length_replicate] at hlnA
    have Cd := Lib.hid (nat_add A3 AA n3 nA c3 cA lo _ wA (Hlo9.out.bel a5) a3 (by omega) (by omega))
    have Spd := Lib.hid (addL_spec lo1.1 (ok_moved (k := h) Sp2.out.2.1.1))
    have HhiA := Lib.hid (Hhi9.out.bel a5)
    have HbelA : Hid (Below w'.heap.size w' wA) := Hbel9.out.trans (a5.mono Hbel9.out.size)
    clear a3 a5 Hlo9 Hhi9 Hbel9
    go_wp2_with fail
    refine Cd.out.mono ?_
    rintro e wB ⟨AB, nB, cB, rfl, b1', b2', b3', _, b5'⟩
    clear Cd
    have hlnB := b3'.len
    have hls3 := Spd.out.2.2
    rw [List.length_append, List.length_replicate] at hls3
    have hh2 : Hid (2 * (h : Int) = ((2 * h : Nat) : Int)) := by show _ = _; omega
    have hh3 : IntKind.i64.wrap (2 * (h : Int)) = 2 * (h : Int) := IntWalk.i64_in _ (by omega)
    have Cv := Lib.hid (nat_moved A4 n4 c4 hi (2 * h) wB (HhiA.out.bel b5') (by omega) (by omega))
    rw [← hh2.out] at Cv
    have HsB := Lib.hid b3'
    have HbelB : Hid (Below w'.heap.size w' wB) := HbelA.out.trans (b5'.mono HbelA.out.size)
    clear b3' b5' HhiA HbelA
    go_wp2_with fail
    refine Cv.out.mono ?_
    rintro e wC ⟨AC, nC, cC, rfl, f1, f2, f3, _, f5⟩
    clear Cv
    have hlnC := f3.len
    rw [List.length_append, List.length_replicate] at hlnC
    have Cd := Lib.hid (nat_add AB AC nB nC cB cC _ _ wC (HsB.out.bel f5) f3 (by omega) (by omega))
    have Spe := Lib.hid (addL_spec Spd.out.1.1 (ok_moved (k := 2 * h) hi1.1))
    have HbelC : Hid (Below w'.heap.size w' wC) := HbelB.out.trans (f5.mono HbelB.out.size)
    clear f3 f5 HsB HbelB hh3
    go_wp2_with fail
    refine Cd.out.mono ?_
    rintro e wD ⟨AD, nD, cD, rfl, h1, h2, h3, h4, h5⟩
    clear Cd
    have Fin : Hid (MulGives n m xs ys w' (.returned (.slice AD nD cD)) wD) := by
      have ev : limbs (addL (addL lo (List.replicate h 0 ++ subL (subL mm lo) hi)) (List.replicate (2 * h) 0 ++ hi)) = limbs us * limbs vs := by
        rw [Spe.out.2.1, Spd.out.2.1, limbs_moved, limbs_moved, Sp2.out.2.2.1, Sp1.out.2.2.1]
        have hk := kara (a0 := limbs a0s) (a1 := limbs a1s) (b0 := limbs b0s) (b1 := limbs b1s) (p := 2 ^ (64 * h)) (l := limbs lo) (h := limbs hi) (m := limbs mm - limbs lo - limbs hi) Elo.out Ehi.out (by rw [Em.out])
        rw [show 2 ^ (64 * (2 * h)) = 2 ^ (64 * h) * 2 ^ (64 * h) by rw [← Nat.pow_add]; congr 1; omega, hk, ← eU.out, ← eV.out]
      refine ⟨_, Spe.out.1, by rw [ev, P2.out, Q2.out], ?_, AD, nD, cD, rfl, h1, h2, h3, fun x hx => ?_, HbelC.out.trans (h5.mono HbelC.out.size)⟩
      · exact short_prod Spe.out.1 (by rw [ev]; exact Nat.mul_lt_mul'' uLt.out vLt.out) (by omega)
      · have := h4 x hx; have := HbelC.out.size; omega
    clear h3 h4 h5 HbelC
    go_wp2_with fail
    go_ret
    exact Fin.out
  · exfalso; omega
end Go.Proofs.YtjmbejodcloapaaGreat
