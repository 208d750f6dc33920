/- FlinLinear: the statement's walk. -/
import Derived.Test.YthpkpnpkkflfpaaFlinR
import Derived.Test.YthpkpnpkkflfpaaFlinE
import Derived.Test.YthpkpnpkkflfpaaFlinFacts
import Derived.BigQuiet
import Derived.Deep.RegionHeld3
import Derived.Deep.AppendLies
namespace Go.Proofs.Ythpkpnpkkflfpaa
open Go.RowKit Cl
attribute [local go_sem ↓] Go.wp_at_zero Go.wp_at_succ

/-- So many times one list and another one, by residues as Go takes them. -/
def linS (v u : List Int) (c p : Int) (i : Nat) : Int := Int.tmod (nth v i) p + c * Int.tmod (nth u i) p
theorem linS_bd (v u : List Int) {c p : Int} (hp1 : 2 ≤ p) (hp2 : p ≤ 65521) (hc : -p < c ∧ c < p) (i : Nat) : -9223372036854775808 ≤ linS v u c p i ∧ linS v u c p i ≤ 9223372036854775807 ∧ -9223372036854775808 ≤ c * Int.tmod (nth u i) p ∧ c * Int.tmod (nth u i) p ≤ 9223372036854775807 := by
  have h1 := tmod_bd (nth v i) (p := p) (by omega)
  have h2 := tmod_bd (nth u i) (p := p) (by omega)
  unfold linS
  generalize Int.tmod (nth v i) p = a at *
  generalize Int.tmod (nth u i) p = b at *
  have h3 : c * b ≤ 65521 * 65521 := by
    by_cases hc0 : 0 ≤ c
    · by_cases hb0 : 0 ≤ b
      · exact Int.mul_le_mul (by omega) (by omega) hb0 (by omega)
      · have : c * b ≤ 0 := Int.mul_nonpos_of_nonneg_of_nonpos hc0 (by omega)
        omega
    · by_cases hb0 : 0 ≤ b
      · have : c * b ≤ 0 := Int.mul_nonpos_of_nonpos_of_nonneg (by omega) hb0
        omega
      · have : (-c) * (-b) ≤ 65521 * 65521 := Int.mul_le_mul (by omega) (by omega) (by omega) (by omega)
        rwa [Int.neg_mul_neg] at this
  have h4 : -(65521 * 65521) ≤ c * b := by
    have : (-c) * b ≤ 65521 * 65521 := by
      by_cases hc0 : 0 ≤ -c
      · by_cases hb0 : 0 ≤ b
        · exact Int.mul_le_mul (by omega) (by omega) hb0 (by omega)
        · have : (-c) * b ≤ 0 := Int.mul_nonpos_of_nonneg_of_nonpos hc0 (by omega)
          omega
      · by_cases hb0 : 0 ≤ b
        · have : (-c) * b ≤ 0 := Int.mul_nonpos_of_nonpos_of_nonneg (by omega) hb0
          omega
        · have : (- -c) * (-b) ≤ 65521 * 65521 := Int.mul_le_mul (by omega) (by omega) (by omega) (by omega)
          rwa [Int.neg_mul_neg] at this
    rw [Int.neg_mul] at this
    omega
  omega

theorem lin_prod {p c b : Int} (hp2 : p ≤ 65521) (hc : -p < c ∧ c < p) (hb : 0 ≤ b ∧ b < p) : -(65521 * 65521) ≤ c * b ∧ c * b ≤ 65521 * 65521 := by
  constructor
  · by_cases hc0 : 0 ≤ c
    · have := Int.mul_nonneg hc0 hb.1; omega
    · have : (-c) * b ≤ 65521 * 65521 := Int.mul_le_mul (by omega) (by omega) hb.1 (by omega)
      rw [Int.neg_mul] at this; omega
  · by_cases hc0 : 0 ≤ c
    · exact Int.mul_le_mul (by omega) (by omega) hb.1 (by omega)
    · have : c * b ≤ 0 := Int.mul_nonpos_of_nonpos_of_nonneg (by omega) hb.1
      omega
theorem applyM_bd (rows : List (List Int)) (v : List Int) {p : Int} (hp : 1 ≤ p) (i : Nat) : 0 ≤ nth (applyM rows v p) i ∧ nth (applyM rows v p) i < p := by
  unfold applyM
  rw [nth_tab]
  split
  · exact dotTo_bd _ _ hp _
  · omega
/-- What a matrix makes of such a sum. -/
theorem lin_eq {rows : List (List Int)} {v u : List Int} {c p : Int} {n : Nat} (hp : 1 ≤ p) (hv : v.length = n) (hu : u.length = n) (i : Nat) :
    Int.tmod (nth (applyM rows v p) i + c * nth (applyM rows u p) i - nth (applyM rows (tab n (linS v u c p)) p) i) p = 0 := by
  refine tmod_zero ?_
  unfold applyM
  rw [nth_tab, nth_tab, nth_tab, tab_length, hv, hu]
  split
  · refine dot_lin hp fun j hj => ?_
    rw [nth_tab, if_pos hj]
    exact (tmod_cg _ _).add ((Cg.refl _ _).mul (tmod_cg _ _))
  · exact Cg.of_eq (by omega)

set_option maxRecDepth 100000 in
set_option maxHeartbeats 4000000 in
theorem law_FlinLinear (A : Option Addr) (m c : Nat) (rows : List (List Int)) (B : Option Addr) (n d : Nat) (v : List Int) (C : Option Addr) (n2 d2 : Nat) (u : List Int) (k p : Int) (w : World) (hx : Mat w A m rows)
    (hv : Ints w B n v) (hn : n * 8 ≤ 140737488351232) (hu : Ints w C n2 u) (hn2 : n2 * 8 ≤ 140737488351232) (h1 : -9223372036854775808 ≤ k) (h2 : k ≤ 9223372036854775807) (h3 : -9223372036854775808 ≤ p) (h4 : p ≤ 9223372036854775807) :
    Calls Try.prog 13 #[.slice A m c, .slice B n d, .slice C n2 d2, .int .i64 k, .int .i64 p] w fun e w' => e = .returned (.bool true) ∧ Below w.heap.size w w' := by
  have hms := hx.small
  cases hok : appOk rows v p with
  | false =>
    cases hok2 : appOk rows u p with
    | false =>
      go_enter Try.func13, Try.ntmps13
      go_wp2_with fail
      refine (awake07 _).mono ?_
      rintro e w1 ⟨rfl, hb1⟩
      go_wp2_with fail
      refine (apply_no _ _ _ _ _ _ _ _ _ _ (hx.bel hb1) (hv.bel hb1) (by omega) h3 h4 hok).mono ?_
      rintro e w2 ⟨rfl, hb2⟩
      go_wp2_with fail
      refine (apply_no _ _ _ _ _ _ _ _ _ _ ((hx.bel hb1).bel hb2) ((hu.bel hb1).bel hb2) (by omega) h3 h4 hok2).mono ?_
      rintro e w3 ⟨rfl, hb3⟩
      go_wp2_with fail
      go_ret
      exact ⟨rfl, below_then (below_then hb1 hb2) hb3⟩
    | true =>
      go_enter Try.func13, Try.ntmps13
      go_wp2_with fail
      refine (awake07 _).mono ?_
      rintro e w1 ⟨rfl, hb1⟩
      go_wp2_with fail
      refine (apply_no _ _ _ _ _ _ _ _ _ _ (hx.bel hb1) (hv.bel hb1) (by omega) h3 h4 hok).mono ?_
      rintro e w2 ⟨rfl, hb2⟩
      go_wp2_with fail
      refine (apply_yes _ _ _ _ _ _ _ _ _ _ ((hx.bel hb1).bel hb2) ((hu.bel hb1).bel hb2) hn2 h3 h4 hok2).mono ?_
      rintro e w3 ⟨A3, c3, rfl, hn3⟩
      have hb3 := hn3.bel
      go_wp2_with fail
      go_ret
      exact ⟨rfl, below_then (below_then hb1 hb2) hb3⟩
  | true =>
    cases hok2 : appOk rows u p with
    | false =>
      go_enter Try.func13, Try.ntmps13
      go_wp2_with fail
      refine (awake07 _).mono ?_
      rintro e w1 ⟨rfl, hb1⟩
      go_wp2_with fail
      refine (apply_yes _ _ _ _ _ _ _ _ _ _ (hx.bel hb1) (hv.bel hb1) hn h3 h4 hok).mono ?_
      rintro e w2 ⟨A2, c2, rfl, hn2⟩
      have hb2 := hn2.bel
      go_wp2_with fail
      refine (apply_no _ _ _ _ _ _ _ _ _ _ ((hx.bel hb1).bel hb2) ((hu.bel hb1).bel hb2) (by omega) h3 h4 hok2).mono ?_
      rintro e w3 ⟨rfl, hb3⟩
      go_wp2_with fail
      go_ret
      exact ⟨rfl, below_then (below_then hb1 hb2) hb3⟩
    | true =>
      by_cases hg : n = n2 ∧ n ≤ 64
      · obtain ⟨rfl, hn64⟩ := hg
        obtain ⟨i0, hi, hz0, hz1, hz2⟩ := info_parts int_info
        obtain ⟨hmat, hcol⟩ := appOk_iff.1 hok
        have Hp := Lib.hid ((isPrime_iff p).1 (matOk_iff.1 hmat).1)
        have hp1 : 2 ≤ p := Hp.out.two
        have hp2 : p ≤ 65521 := Hp.out.max
        have hcb := tmod_bd k (p := p) (by omega)
        have Hok := Lib.hid hok
        have Hok2 := Lib.hid hok2
        have Hmat := Lib.hid hmat
        have Hcol := Lib.hid hcol
        have Hvl := Lib.hid hv.len
        have Hul := Lib.hid hu.len
        have Hrl := Lib.hid hx.len
        obtain ⟨hc1, hc2⟩ := hcb
        have hp0 : ¬ p = 0 := by omega
        have hne : ((n : Int) != (n : Int)) = false := by simp
        have hne2 : ((m : Int) != (m : Int)) = false := by simp
        have hgt : decide ((64 : Int) < (n : Int)) = false := decide_eq_false (by omega)
        clear hok hok2 hmat hcol
        go_enter Try.func13, Try.ntmps13
        go_wp2_with fail
        refine (awake07 _).mono ?_
        rintro e w1 ⟨rfl, hb1⟩
        go_wp2_with fail
        refine (apply_yes _ _ _ _ _ _ _ _ _ _ (hx.bel hb1) (hv.bel hb1) hn h3 h4 Hok.out).mono ?_
        rintro e w2 ⟨A2, c2, rfl, hn2⟩
        have hb2 := hn2.bel
        go_wp2_with fail
        refine (apply_yes _ _ _ _ _ _ _ _ _ _ ((hx.bel hb1).bel hb2) ((hu.bel hb1).bel hb2) hn h3 h4 Hok2.out).mono ?_
        rintro e w3 ⟨A3, c3, rfl, hn3⟩
        have hb3 := hn3.bel
        have hb13 := below_then (below_then hb1 hb2) hb3
        have hv3 := hv.bel hb13
        have hu3 := hu.bel hb13
        have hx3 := Lib.hid (hx.bel hb13)
        have ha3 := hn2.rd.bel hb3
        have hr3 := hn3.rd
        clear hn2 hn3 hb1 hb2 hb3
        go_wp2_with fail
        go_loopw [17, 18] (fun s i wr => ∃ j : Nat, j ≤ n ∧ i = .int .i64 j ∧ wr.ownsRow w3.heap.size 3 1 s j (ints (tab j (linS v u (Int.tmod k p) p))) ∧ Below w3.heap.size w3 wr) (fun _ i _ => n - (intOf i).toNat)
        case atStart => exact ⟨0, by omega, rfl, World.ownsRow_nil _ _ _ _, Below.refl _ _⟩
        case round =>
          obtain ⟨j, hj, rfl, hown, hbel⟩ := hrel
          by_cases hlt : j < n
          · obtain ⟨b, o, rfl, hb, hcv⟩ := hv3.at_ (by omega)
            obtain ⟨b', o', rfl, hb', hcu⟩ := hu3.at_ (by omega)
            have hck : wr.cell? ⟨b, o + j, none⟩ = some (.int .i64 (nth v j)) := (hbel.cell (p := ⟨b, o + j, none⟩) hb).trans (hcv j hlt)
            have hck' : wr.cell? ⟨b', o' + j, none⟩ = some (.int .i64 (nth u j)) := (hbel.cell (p := ⟨b', o' + j, none⟩) hb').trans (hcu j hlt)
            have hlt' : (j : Int) < (n : Int) := by omega
            obtain ⟨l1, l2⟩ := hv3.ok j
            obtain ⟨l3, l4⟩ := hu3.ok j
            obtain ⟨m1, m2⟩ := tmod_bd (nth v j) (p := p) (by omega)
            obtain ⟨m3, m4⟩ := tmod_bd (nth u j) (p := p) (by omega)
            obtain ⟨y1, y2, y3, y4⟩ := linS_bd v u (c := Int.tmod k p) hp1 hp2 ⟨hc1, hc2⟩ j
            have e3 : IntKind.i64.wrap (Int.tmod k p * Int.tmod (nth u j) p) = Int.tmod k p * Int.tmod (nth u j) p := IntWalk.i64_in _ (by omega)
            have e4 : IntKind.i64.wrap (Int.tmod (nth v j) p + Int.tmod k p * Int.tmod (nth u j) p) = linS v u (Int.tmod k p) p j := IntWalk.i64_in _ ⟨y1, y2⟩
            go_wp2
            go_region_held3 (fun w' => w'.cell? ⟨b, o + j, none⟩ = some (.int .i64 (nth v j)) ∧ w'.cell? ⟨b', o' + j, none⟩ = some (.int .i64 (nth u j)))
              (first | go_keep | (have hb1 := below_app hbel hown hgrow hbel.size; exact ⟨(hb1.cell (p := ⟨b, o + j, none⟩) hb).trans (hcv j hlt), (hb1.cell (p := ⟨b', o' + j, none⟩) hb').trans (hcu j hlt)⟩))
              (first
                | (refine step_append_lies _ (by rfl) _ _ _ (by rfl) w3.heap.size 3 i0 _ 1 8 Try.underlying39 hi hz0 hz1 hz2 rfl (by omega) u17 j (ints (tab j (linS v u (Int.tmod k p) p))) (by rfl) ((hown.alloc _).drew) ⟨wr.heap.size, 0, none⟩ 1 1 [.int .i64 (linS v u (Int.tmod k p) p j)] (by rfl) (by rfl) (World.news_of_block (cs := #[.int .i64 (linS v u (Int.tmod k p) p j)]) (t := 3) (fr := (0, 0)) (heap_alloc_new wr _)) (by simp [Value.oneCell']) (by omega) (by unfold maxLen; omega) (by omega) (by have := hbel.size; simp; omega) (wr.heap.size + 1) (by simp) ?_; intro gg cap w4 hown1 hgrow hat hlt1))
            have hb1 := below_app hbel hown hgrow hbel.size
            have hown2 := hown1
            rw [ints_tab_succ j (linS v u (Int.tmod k p) p)] at hown2
            clear hgrow hat hown1 hown e3 e4
            go_wp2
            go_roundw
            case rel => exact ⟨j + 1, by omega, by go_num, hown2, hb1⟩
            case measure => simp [intOf]; omega
          · obtain rfl : j = n := by omega
            obtain ⟨As, cs, rfl⟩ := own_slice hown
            have Hs := Lib.hid (Ints.of_own hown (tab_i64 fun i => ⟨(linS_bd v u hp1 hp2 ⟨hc1, hc2⟩ i).1, (linS_bd v u hp1 hp2 ⟨hc1, hc2⟩ i).2.1⟩))
            have Hos : Hid (appOk rows (tab j (linS v u (Int.tmod k p) p)) p = true) := appOk_iff.2 ⟨Hmat.out, by
              rw [tab_length]
              rcases Hcol.out with h | h
              · exact .inl h
              · exact .inr (by have := Hvl.out; omega)⟩
            have ha4 := ha3.bel hbel
            have hr4 := hr3.bel hbel
            have hx4 := Lib.hid (hx3.out.bel hbel)
            have hb14 := below_then hb13 hbel
            clear hown
            go_wp2_with fail
            refine (apply_yes _ _ _ _ _ _ _ _ _ _ hx4.out Hs.out hn h3 h4 Hos.out).mono ?_
            rintro e w5 ⟨A5, c5, rfl, hn5⟩
            have hb5 := hn5.bel
            have hx5 := hn5.rd
            have ha5 := ha4.bel hb5
            have hr5 := hr4.bel hb5
            have hb15 := below_then hb14 hb5
            clear hn5
            go_wp2_with fail
            go_loopw [21] (fun i wr => ∃ t q : Nat, t ≤ m ∧ i = .int .i64 t ∧ wr = w5.drewN q) (fun i _ => m - (intOf i).toNat)
            case atStart => exact ⟨0, 0, by omega, rfl, rfl⟩
            case round =>
              obtain ⟨t, q, ht, rfl, rfl⟩ := hrel
              by_cases htl : t < m
              · obtain ⟨ba, oa, rfl, _, hca⟩ := ha5.at_ (by omega)
                obtain ⟨br, or, rfl, _, hcr⟩ := hr5.at_ (by omega)
                obtain ⟨bx, ox, rfl, _, hcx⟩ := hx5.at_ (by omega)
                have hcat := hca t htl
                have hcrt := hcr t htl
                have hcxt := hcx t htl
                have htl' : (t : Int) < (m : Int) := by omega
                obtain ⟨m1, m2⟩ := applyM_bd rows v (p := p) (by omega) t
                obtain ⟨m3, m4⟩ := applyM_bd rows u (p := p) (by omega) t
                obtain ⟨m5, m6⟩ := applyM_bd rows (tab j (linS v u (Int.tmod k p) p)) (p := p) (by omega) t
                obtain ⟨y1, y2⟩ := lin_prod (c := Int.tmod k p) hp2 ⟨hc1, hc2⟩ ⟨m3, m4⟩
                have hz := lin_eq (rows := rows) (c := Int.tmod k p) (p := p) (by omega) Hvl.out Hul.out t
                generalize nth (applyM rows v p) t = xa at *
                generalize nth (applyM rows u p) t = xb at *
                generalize nth (applyM rows (tab j (linS v u (Int.tmod k p) p)) p) t = xc at *
                have e1 : IntKind.i64.wrap (Int.tmod k p * xb) = Int.tmod k p * xb := IntWalk.i64_in _ (by omega)
                have e2 : IntKind.i64.wrap (xa + Int.tmod k p * xb) = xa + Int.tmod k p * xb := IntWalk.i64_in _ (by omega)
                have e3 : IntKind.i64.wrap (xa + Int.tmod k p * xb - xc) = xa + Int.tmod k p * xb - xc := IntWalk.i64_in _ (by omega)
                have hz' : (Int.tmod (xa + Int.tmod k p * xb - xc) p != 0) = false := by rw [hz]; rfl
                clear hca hcr hcx hz
                go_wp2
                go_quiet (fail)
                go_wp2
                go_roundw
                case rel => exact ⟨t + 1, _, by omega, by go_num, by first | rfl | exact World.drewN_drewN _ _ _⟩
                case measure => simp [intOf]; omega
              · obtain rfl : t = m := by omega
                go_wp2
                go_ret
                exact ⟨rfl, below_drewN hb15 _⟩
      · have hg' : ¬ (n = n2) ∨ (n = n2 ∧ 64 < n) := by omega
        rcases hg' with hg' | ⟨rfl, hg'⟩
        · have hne : ((n : Int) != (n2 : Int)) = true := by simp; omega
          clear hg hg'
          go_enter Try.func13, Try.ntmps13
          go_wp2_with fail
          refine (awake07 _).mono ?_
          rintro e w1 ⟨rfl, hb1⟩
          go_wp2_with fail
          refine (apply_yes _ _ _ _ _ _ _ _ _ _ (hx.bel hb1) (hv.bel hb1) hn h3 h4 hok).mono ?_
          rintro e w2 ⟨A2, c2, rfl, hn2'⟩
          have hb2 := hn2'.bel
          go_wp2_with fail
          refine (apply_yes _ _ _ _ _ _ _ _ _ _ ((hx.bel hb1).bel hb2) ((hu.bel hb1).bel hb2) hn2 h3 h4 hok2).mono ?_
          rintro e w3 ⟨A3, c3, rfl, hn3⟩
          have hb3 := hn3.bel
          go_wp2_with fail
          go_ret
          exact ⟨rfl, below_then (below_then hb1 hb2) hb3⟩
        · have hne : ((n : Int) != (n : Int)) = false := by simp
          have hgt : decide ((64 : Int) < (n : Int)) = true := decide_eq_true (by omega)
          have hgt' : (64 : Int) < (n : Int) := by omega
          clear hg hg'
          go_enter Try.func13, Try.ntmps13
          go_wp2_with fail
          refine (awake07 _).mono ?_
          rintro e w1 ⟨rfl, hb1⟩
          go_wp2_with fail
          refine (apply_yes _ _ _ _ _ _ _ _ _ _ (hx.bel hb1) (hv.bel hb1) hn h3 h4 hok).mono ?_
          rintro e w2 ⟨A2, c2, rfl, hn2'⟩
          have hb2 := hn2'.bel
          go_wp2_with fail
          refine (apply_yes _ _ _ _ _ _ _ _ _ _ ((hx.bel hb1).bel hb2) ((hu.bel hb1).bel hb2) hn h3 h4 hok2).mono ?_
          rintro e w3 ⟨A3, c3, rfl, hn3⟩
          have hb3 := hn3.bel
          go_wp2_with fail
          go_ret
          exact ⟨rfl, below_then (below_then hb1 hb2) hb3⟩
end Go.Proofs.Ythpkpnpkkflfpaa
