/- FlinPlain: the statement's walk. -/
import Derived.Test.YthpkpnpkkflfpaaFlinR
import Derived.Test.YthpkpnpkkflfpaaFlinFacts
import Derived.BigQuiet
import Derived.Deep.AppendLies
namespace Go.Proofs.Ythpkpnpkkflfpaa
open Go.RowKit Cl
attribute [local go_sem ↓] Go.wp_at_zero Go.wp_at_succ

/-- What the statement's walk wants of plain rows. -/
structure PlainOf (rows : List (List Int)) (p : Int) (L K : Nat) (O : Nat → List Int) (e : List (List Int)) : Prop where
  rref : Rref L p K O
  e : e = rowsTab K O
  span : ∀ i, i < rows.length → ∀ c, c < L → Cg p (nth (rAt rows i) c) (CRing.sum K (fun k => nth (rAt rows i) (leadN (O k)) * nth (O k) c))
  len : ∀ i, i < rows.length → (rAt rows i).length = L
  l64 : L ≤ 64
theorem IsEch.plainOf {rows : List (List Int)} {p : Int} {e : List (List Int)} (h : IsEch rows p e) (hm : matOk rows p = true) : ∃ L O, PlainOf rows p L e.length O e := by
  obtain ⟨O, K, hr, rfl⟩ := h
  obtain ⟨hp, h64, hrow⟩ := matOk_iff.1 hm
  have h2 := ((isPrime_iff p).1 hp).two
  rw [rowsTab_length]
  refine ⟨(rAt rows 0).length, O, hr.rref, rfl, fun i hi c hc => ?_, fun i hi => (hrow i hi).2, ?_⟩
  · have := hr.rref.expand (hr.into i hi) c hc
    refine (((red_cg (by omega)).symm.trans (Cg.of_eq (nth_redRow c).symm)).trans this).trans (sum_cg fun k _ => ?_)
    rw [nth_redRow]
    exact (red_cg (by omega)).mul (Cg.refl _ _)
  · rcases Nat.eq_zero_or_pos rows.length with h0 | h0
    · rw [rAt_ge (by omega)]; simp
    · exact (hrow 0 h0).1
theorem ech_self {rows : List (List Int)} {p : Int} {L K : Nat} {O : Nat → List Int} {e : List (List Int)} (h : PlainOf rows p L K O e) (hp : isPrime p = true) (hK : K ≤ 64) : matOk e p = true ∧ IsEch e p e := by
  have h2 := ((isPrime_iff p).1 hp).two
  have he := h.e
  have hre : ∀ i, i < K → rAt e i = O i := fun i hi => by rw [he, rAt_rowsTab, if_pos hi]
  have hel : e.length = K := by rw [he, rowsTab_length]
  have h64 := h.l64
  refine ⟨matOk_iff.2 ⟨hp, by omega, fun i hi => ?_⟩, O, K, ⟨?_, fun k hk => ?_, fun k hk => ?_⟩, he⟩
  · rw [hre i (by omega), hre 0 (by omega), h.rref.len i (by omega), h.rref.len 0 (by omega)]
    exact ⟨h.l64, rfl⟩
  · rcases Nat.eq_zero_or_pos K with h0 | h0
    · subst h0
      exact ⟨fun k hk => absurd hk (by omega), fun k hk => absurd hk (by omega), fun k hk => absurd hk (by omega), fun k hk => absurd hk (by omega), fun j k _ hk => absurd hk (by omega), fun j k hk => absurd hk (by omega)⟩
    · rw [hre 0 h0, h.rref.len 0 h0]; exact h.rref
  · have hk' : k < K := by omega
    refine (Sp.mem ⟨k, hk', rfl⟩).cg fun i _ => ?_
    rw [hre k hk', nth_redRow]
    exact (red_cg (by omega)).symm
  · have hk' : k < e.length := by omega
    refine (Sp.mem ⟨k, hk', rfl⟩).cg fun i _ => ?_
    show Cg p (nth (redRow (rAt e k) p) i) _
    rw [hre k hk, nth_redRow]
    exact red_cg (by omega)

theorem pl_prod {p c b : Int} (hp2 : p ≤ 65521) (hc : -p < c ∧ c < p) (hb : 0 ≤ b ∧ b < p) : -(65521 * 65521) ≤ c * b ∧ c * b ≤ 65521 * 65521 := by
  constructor
  · by_cases hc0 : 0 ≤ c
    · have := Int.mul_nonneg hc0 hb.1; omega
    · have : (-c) * b ≤ 65521 * 65521 := Int.mul_le_mul (by omega) (by omega) hb.1 (by omega)
      rw [Int.neg_mul] at this; omega
  · by_cases hc0 : 0 ≤ c
    · exact Int.mul_le_mul (by omega) (by omega) hb.1 (by omega)
    · have : c * b ≤ 0 := Int.mul_nonpos_of_nonpos_of_nonneg (by omega) hb.1
      omega
/-- The lead of the row ahead; -1 ahead of the first. -/
def lastI (O : Nat → List Int) (j : Nat) : Int := if j = 0 then -1 else (leadN (O (j - 1)) : Int)
theorem lastI_bd (O : Nat → List Int) {K L : Nat} {p : Int} (h : Rref L p K O) (hL : L ≤ 64) {j : Nat} (hj : j ≤ K) : -1 ≤ lastI O j ∧ lastI O j ≤ 64 := by
  unfold lastI; split
  · omega
  · have := h.lt (j - 1) (by omega); omega
theorem lastI_lt (O : Nat → List Int) {K L : Nat} {p : Int} (h : Rref L p K O) {j : Nat} (hj : j < K) : ¬ ((leadN (O j) : Int) ≤ lastI O j) := by
  unfold lastI; split
  · omega
  · have := h.mono (j - 1) j (by omega) hj; omega
theorem lastI_succ (O : Nat → List Int) (j : Nat) : lastI O (j + 1) = (leadN (O j) : Int) := by unfold lastI; rw [if_neg (by omega)]; rfl

set_option maxRecDepth 100000 in
set_option maxHeartbeats 4000000 in
theorem law_FlinPlain (A : Option Addr) (m c : Nat) (rows : List (List Int)) (p : Int) (w : World) (hx : Mat w A m rows) (h3 : -9223372036854775808 ≤ p) (h4 : p ≤ 9223372036854775807) :
    Calls Try.prog 10 #[.slice A m c, .int .i64 p] w fun e w' => e = .returned (.bool true) ∧ Below w.heap.size w w' := by
  have hms := hx.small
  cases hok : matOk rows p with
  | false =>
    go_enter Try.func10, Try.ntmps10
    go_wp2_with fail
    refine (awake07 _).mono ?_
    rintro e w1 ⟨rfl, hb1⟩
    go_wp2_with fail
    refine (ech_bad _ _ _ _ _ _ (hx.bel hb1) h3 h4 hok).mono ?_
    rintro e w2 ⟨rfl, hb2⟩
    go_wp2_with fail
    go_ret
    exact ⟨rfl, below_then hb1 hb2⟩
  | true =>
    obtain ⟨i0, hi, hz0, hz1, hz2⟩ := info_parts int_info
    have Hpr := Lib.hid (matOk_iff.1 hok).1
    have Hp := Lib.hid ((isPrime_iff p).1 Hpr.out)
    have hp1 : 2 ≤ p := Hp.out.two
    have hp2 : p ≤ 65521 := Hp.out.max
    have Hok := Lib.hid hok
    have Hrl := Lib.hid hx.len
    have Hm64 := (matOk_iff.1 hok).2.1
    clear hok
    go_enter Try.func10, Try.ntmps10
    go_wp2_with fail
    refine (awake07 _).mono ?_
    rintro e w1 ⟨rfl, hb1⟩
    go_wp2_with fail
    refine (ech_yes _ _ _ _ _ _ (hx.bel hb1) Hok.out).mono ?_
    rintro e w2 ⟨A2, K, c2, r2, rfl, hm2, hE2, hb2⟩
    obtain ⟨L, O, hPl⟩ := hE2.plainOf Hok.out
    rw [hm2.len] at hPl
    have HP := Lib.hid hPl
    have hK64 : K ≤ 64 := by
      have hle : ∀ i, i < K → i ≤ leadN (O i) := by
        intro i
        induction i with
        | zero => intro _; omega
        | succ i ih => intro hi; have := ih (by omega); have := hPl.rref.mono i (i + 1) (by omega) hi; omega
      rcases Nat.eq_zero_or_pos K with h0 | h0
      · omega
      · have := hle (K - 1) (by omega); have := hPl.rref.lt (K - 1) (by omega); have := hPl.l64; omega
    obtain ⟨hmo, hself⟩ := ech_self hPl Hpr.out hK64
    have hL64 := hPl.l64
    clear hPl hE2
    go_wp2_with fail
    refine (ech_yes _ _ _ _ _ _ hm2 hmo).mono ?_
    rintro e w3 ⟨A3, K3, c3, r3, rfl, hm3, hE3, hb3⟩
    have He := Lib.hid (hself.unique Hp.out hE3)
    have hsh := hE3.short hmo
    go_wp2_with fail
    refine (same_rows _ _ _ _ _ _ r2 r3 _ (hm2.bel hb3) hm3 hsh He.out).mono ?_
    rintro e w4 ⟨rfl, hb4⟩
    have hb14 := below_then (below_then (below_then hb1 hb2) hb3) hb4
    have hr4 := (hm2.bel hb3).bel hb4
    have hx4 := hx.bel hb14
    have Hre : Hid (∀ i, i < K → rAt r2 i = O i) := fun i hi => by rw [HP.out.e, rAt_rowsTab, if_pos hi]
    clear hm2 hm3 hE3 hb1 hb2 hb3 hb4 hsh hself hmo
    go_wp2_with fail
    have hL64' : L ≤ 64 := hL64
    have hp0 : ¬ p = 0 := by omega
    go_loopw [10, 11, 12] (fun l v i wr => ∃ j : Nat, j ≤ K ∧ i = .int .i64 j ∧ l = .int .i64 (lastI O j) ∧ wr.ownsRow w4.heap.size 3 1 v j (ints (tab j (fun k => (leadN (O k) : Int)))) ∧ Below w4.heap.size w4 wr) (fun _ _ i _ => K - (intOf i).toNat)
    case atStart => exact ⟨0, by omega, rfl, rfl, World.ownsRow_nil _ _ _ _, Below.refl _ _⟩
    case round =>
      obtain ⟨j, hj, rfl, rfl, hown, hbel⟩ := hrel
      obtain ⟨wo, rfl⟩ : ∃ wo : World, wo = wr := ⟨_, rfl⟩
      by_cases hlt : j < K
      · obtain ⟨b, o, rfl, hb, hc⟩ := (hr4.bel hbel).at_ (by omega)
        obtain ⟨Aj, cj, hcj, hij⟩ := hc j hlt
        have hlen := HP.out.rref.len j hlt
        have hlead := HP.out.rref.lt j hlt
        have hone := HP.out.rref.one j hlt
        have hre := Hre.out j hlt
        rw [hre, hlen] at hcj hij
        obtain ⟨b2, o2, rfl, hb2, hc2⟩ := hij.at_ (by omega)
        have hjb : (j : Int) < (K : Int) := by omega
        have hj0 : (0 : Int) ≤ (j : Int) := by omega
        have hcl := hc2 (leadN (O j)) hlead
        rw [hone] at hcl
        have Hlast := Lib.hid (lastI_lt O HP.out.rref hlt)
        obtain ⟨z1, z2⟩ := lastI_bd O HP.out.rref hL64' hj
        have Hc := Lib.hid hc
        have Hc2 := Lib.hid hc2
        have Hzero : Hid (∀ t, t < leadN (O j) → nth (O j) t = 0) := fun t ht => leadN_before ht
        have hown' := hown
        clear hc hc2 hone hre hlen
        generalize hld : leadN (O j) = ld at *
        have Hld := Lib.hid hld
        have hll : (ld : Int) < (L : Int) := by omega
        have hl0 : (0 : Int) ≤ (ld : Int) := by omega
        have hlne : ((ld : Int) == (L : Int)) = false := beq_eq_false_iff_ne.2 (by omega)
        clear hld
        go_wp2
        go_loop [13] (fun i => ∃ t : Nat, t ≤ ld ∧ i = .int .i64 t) (fun i => ld - (intOf i).toNat)
        case atStart => exact ⟨0, by omega, rfl⟩
        case round =>
          obtain ⟨t, ht, rfl⟩ := hrel
          by_cases htl : t < ld
          · have hct := Hc2.out t (by omega)
            rw [Hzero.out t htl] at hct
            have htb : (t : Int) < (L : Int) := by omega
            go_wp2
            go_round
            case rel => exact ⟨t + 1, by omega, by go_num⟩
            case measure => simp [intOf]; omega
          · obtain rfl : t = ld := by omega
            have hlast : lastI O j < (t : Int) := by have := Hlast.out; omega
            have hlast' : decide ((t : Int) ≤ lastI O j) = false := decide_eq_false (by omega)
            go_wp2
            go_loopw [14] (fun i wr => ∃ s q : Nat, s ≤ K ∧ i = .int .i64 s ∧ wr = wo.drewN q) (fun i _ => K - (intOf i).toNat)
            case atStart => exact ⟨0, 0, by omega, rfl, rfl⟩
            case round =>
              obtain ⟨s, q, hs, rfl, rfl⟩ := hrel
              by_cases hsl : s < K
              · have hsb : (s : Int) < (K : Int) := by omega
                have hs0 : (0 : Int) ≤ (s : Int) := by omega
                by_cases hsj : s = j
                · have hsne : ((s : Int) != (j : Int)) = false := by simp [hsj]
                  have Hsj := Lib.hid hsj
                  clear hsj
                  go_wp2
                  go_quiet (fail)
                  go_wp2
                  go_roundw
                  case rel => exact ⟨s + 1, _, by omega, by go_num, by first | rfl | exact World.drewN_drewN _ _ _⟩
                  case measure => simp [intOf]; omega
                · have hsne : ((s : Int) != (j : Int)) = true := by simp; omega
                  obtain ⟨As, cs, hcs, his⟩ := Hc.out s hsl
                  have hre2 := Hre.out s hsl
                  have hlen2 := HP.out.rref.len s hsl
                  rw [hre2, hlen2] at hcs his
                  obtain ⟨b3, o3, rfl, hb3, hc3⟩ := his.at_ (by omega)
                  have hct := hc3 t (by omega)
                  have halone : nth (O s) t = 0 := by have := HP.out.rref.alone s j hsl hlt hsj; rw [Hld.out] at this; exact this
                  rw [halone] at hct
                  have hLne : ((L : Int) != (L : Int)) = false := by simp
                  clear hc3 halone hre2 hlen2
                  go_wp2
                  go_quiet (fail)
                  go_wp2
                  go_roundw
                  case rel => exact ⟨s + 1, _, by omega, by go_num, by first | rfl | exact World.drewN_drewN _ _ _⟩
                  case measure => simp [intOf]; omega
              · have hbel9 := below_drewN hbel q
                have hown9 := own_drewN hown' q
                have hs9 := hbel9.size
                generalize wo.drewN q = w9 at *
                go_wp2_with (at_builtin; refine wpList_append_lies _ (by rfl) _ _ _ (by rfl) w4.heap.size 3 i0 _ 1 8 Try.underlying39 hi hz0 hz1 hz2 rfl (by omega) u11 j (ints (tab j (fun k => (leadN (O k) : Int)))) (by rfl) (hown9.alloc _) ⟨w9.heap.size, 0, none⟩ 1 1 [.int .i64 (t : Int)] (by rfl) (by rfl) (World.news_of_block (cs := #[.int .i64 (t : Int)]) (t := 3) (fr := (0, 0)) (heap_alloc_new w9 _)) (by simp [Value.oneCell']) (by omega) (by unfold maxLen; omega) (by omega) (by simp; omega) (w9.heap.size + 1) (by simp) ?_; intro gg cap w5 hown5 hgrow hat hlt5)
                have hb10 := below_app' hbel9 hown9 hgrow hs9
                have hown10 : w5.ownsRow w4.heap.size 3 1 (.slice (some ⟨gg, 0, none⟩) (j + 1) cap) (j + 1) (ints (tab (j + 1) (fun k => (leadN (O k) : Int)))) := by
                  rw [← ints_tab_succ j (fun k => (leadN (O k) : Int)), Hld.out]; exact hown5
                have Hls : Hid (lastI O (j + 1) = (t : Int)) := by show _ = _; rw [lastI_succ, Hld.out]
                clear hgrow hat hown5 hown9 hown hown'
                go_wp2
                go_roundw
                case rel => exact ⟨j + 1, by omega, by go_num, by rw [Hls.out], hown10, hb10⟩
                case measure => simp [intOf]; omega
      · obtain rfl : j = K := by omega
        obtain ⟨Al, cl, rfl⟩ := own_slice hown
        have hld := Ints.of_own hown (fun i => by
          rw [nth_tab]
          split
          · next h => have := HP.out.rref.lt i h; exact I64.small (by omega) (by omega)
          · exact I64.zero)
        have hr5 := hr4.bel hbel
        have hx5 := hx4.bel hbel
        have hb15 := below_then hb14 hbel
        clear hown hbel hr4 hx4 hb14
        go_wp2
        go_loopw [15] (fun i wr => ∃ t q : Nat, t ≤ m ∧ i = .int .i64 t ∧ wr = wo.drewN q) (fun i _ => m - (intOf i).toNat)
        case atStart => exact ⟨0, 0, by omega, rfl, rfl⟩
        case round =>
          obtain ⟨t, q, ht, rfl, rfl⟩ := hrel
          by_cases htl : t < m
          · obtain ⟨bm, om, rfl, hbm, hcm⟩ := hx5.at_ (by omega)
            obtain ⟨At, ct, hct, hit⟩ := hcm t htl
            have hlt := HP.out.len t (by have := Hrl.out; omega)
            rw [hlt] at hct hit
            have htb : (t : Int) < (m : Int) := by omega
            have ht0 : (0 : Int) ≤ (t : Int) := by omega
            clear hcm hlt
            go_wp2
            go_loopw [16] (fun i wr => ∃ c q2 : Nat, c ≤ L ∧ i = .int .i64 c ∧ wr = wo.drewN q2) (fun i _ => L - (intOf i).toNat)
            case atStart => exact ⟨0, q, by omega, rfl, rfl⟩
            case round =>
              obtain ⟨c5, q2, hc5, rfl, rfl⟩ := hrel
              by_cases hcl : c5 < L
              · obtain ⟨bt, ot, rfl, hbt, hctt⟩ := hit.at_ (by omega)
                have Hctt := Lib.hid hctt
                have hcc := hctt c5 hcl
                have hcb : (c5 : Int) < (L : Int) := by omega
                have hcb0 : (0 : Int) ≤ (c5 : Int) := by omega
                clear hctt
                go_wp2
                go_loopw [17, 18] (fun s i wr => ∃ k5 q3 : Nat, k5 ≤ j ∧ i = .int .i64 k5 ∧ s = .int .i64 (leadSum (rAt rows t) O c5 p k5) ∧ wr = wo.drewN q3) (fun _ i _ => j - (intOf i).toNat)
                case atStart => exact ⟨0, q2, by omega, rfl, rfl, rfl⟩
                case round =>
                  obtain ⟨k5, q3, hk5, rfl, rfl, rfl⟩ := hrel
                  by_cases hkl : k5 < j
                  · obtain ⟨bl, ol, rfl, hbl, hcl5⟩ := hld.at_ (by omega)
                    obtain ⟨ba, oa, rfl, hba, hca⟩ := hr5.at_ (by omega)
                    obtain ⟨Ak, ck, hck, hik⟩ := hca k5 hkl
                    have hre2 := Hre.out k5 hkl
                    have hlen2 := HP.out.rref.len k5 hkl
                    rw [hre2, hlen2] at hck hik
                    obtain ⟨bk, ok, rfl, hbk, hckk⟩ := hik.at_ (by omega)
                    have hkc := hckk c5 hcl
                    have hll := hcl5 k5 hkl
                    rw [nth_tab, if_pos hkl] at hll
                    have hlead := HP.out.rref.lt k5 hkl
                    have hmc := Hctt.out (leadN (O k5)) hlead
                    have hpl := HP.out.rref.pl k5 hkl c5
                    obtain ⟨y1, y2⟩ := leadSum_bd (rAt rows t) O c5 (p := p) (by omega) k5
                    have Hnext : Hid (Int.tmod (leadSum (rAt rows t) O c5 p k5 + Int.tmod (nth (rAt rows t) (leadN (O k5))) p * nth (O k5) c5) p = leadSum (rAt rows t) O c5 p (k5 + 1)) := rfl
                    obtain ⟨y3, y4⟩ := tmod_bd (nth (rAt rows t) (leadN (O k5))) (p := p) (by omega)
                    obtain ⟨y5, y6⟩ := pl_prod hp2 ⟨y3, y4⟩ hpl
                    have hkb : (k5 : Int) < (j : Int) := by omega
                    have hkb0 : (0 : Int) ≤ (k5 : Int) := by omega
                    clear hca hckk hcl5 hre2 hlen2 hik
                    generalize leadN (O k5) = ld at *
                    have hdb : (ld : Int) < (L : Int) := by omega
                    have hdb0 : (0 : Int) ≤ (ld : Int) := by omega
                    generalize leadSum (rAt rows t) O c5 p k5 = ss at *
                    generalize nth (O k5) c5 = oc at *
                    have e1 : IntKind.i64.wrap (Int.tmod (nth (rAt rows t) ld) p * oc) = Int.tmod (nth (rAt rows t) ld) p * oc := IntWalk.i64_in _ (by omega)
                    have e2 : IntKind.i64.wrap (ss + Int.tmod (nth (rAt rows t) ld) p * oc) = ss + Int.tmod (nth (rAt rows t) ld) p * oc := IntWalk.i64_in _ (by omega)
                    go_wp2
                    go_quiet (fail)
                    go_wp2
                    go_roundw
                    case rel => exact ⟨k5 + 1, _, by omega, by go_num, by rw [← Hnext.out], by first | rfl | exact World.drewN_drewN _ _ _⟩
                    case measure => simp [intOf]; omega
                  · obtain rfl : k5 = j := by omega
                    have hsp := HP.out.span t (by have := Hrl.out; omega) c5 hcl
                    have hz : Int.tmod (leadSum (rAt rows t) O c5 p k5 - Int.tmod (nth (rAt rows t) c5) p) p = 0 :=
                      tmod_zero (((leadSum_cg _ _ _ _ _).trans hsp.symm).sub (tmod_cg _ _) |>.trans (Cg.of_eq (by omega)))
                    obtain ⟨y1, y2⟩ := leadSum_bd (rAt rows t) O c5 (p := p) (by omega) k5
                    obtain ⟨y3, y4⟩ := tmod_bd (nth (rAt rows t) c5) (p := p) (by omega)
                    clear hsp
                    generalize leadSum (rAt rows t) O c5 p k5 = ss at *
                    have hz' : (Int.tmod (ss - Int.tmod (nth (rAt rows t) c5) p) p != 0) = false := by rw [hz]; rfl
                    clear hz
                    go_wp2
                    go_roundw
                    case rel => exact ⟨c5 + 1, _, by omega, by go_num, rfl⟩
                    case measure => simp [intOf]; omega
              · obtain rfl : c5 = L := by omega
                go_wp2
                go_roundw
                case rel => exact ⟨t + 1, _, by omega, by go_num, rfl⟩
                case measure => simp [intOf]; omega
          · obtain rfl : t = m := by omega
            go_wp2
            go_ret
            exact ⟨rfl, below_drewN hb15 _⟩
end Go.Proofs.Ythpkpnpkkflfpaa
