/- Contracts: the document's sums, products, inverses.
   Contracts: the document's products and inverses.
   Contracts: the document's quotients and rests.
   Contracts by polynomials: the document's plain ones, sums, differences, products, quotients, monic ones, derivatives, values. -/
import Derived.Test.YtpikakapflebkaaGreatLaw6Base
import Derived.Test.YtpikakapflebkaaGreatPolyB
namespace Go.Proofs.YtpikakapflebkaaGreat
open Go.RowKit Cl
attribute [local go_sem ↓] Go.wp_at_zero Go.wp_at_succ

section
variable {q : Prm}
theorem toP_tabsum {xs ys : List Int} {kk : Int} {M : Nat} (hx : xs.length ≤ M) (hy : ys.length ≤ M) : toP q (tab M (fun i => nth xs i + kk * nth ys i)) = toP q xs + Poly.C (Zp.of q kk) * toP q ys := Poly.ext fun i => by
  rw [Poly.co_add, Poly.co_C_mul, co_toP, co_toP, co_toP, nth_tab]
  split
  · rw [of_add_mul]
  · rw [nth_ge (xs := xs) (by omega), nth_ge (xs := ys) (by omega), Zp.of_zero, CRing.mul_zero, CRing.zero_add]
theorem tabsum_bd {p kk : Int} {xs ys : List Int} (hp : Pr p) (hx : Pl p xs) (hy : Pl p ys) (hk : -65521 ≤ kk ∧ kk ≤ 65521) (i : Nat) :
    -65521 * 65521 ≤ kk * nth ys i ∧ kk * nth ys i ≤ 65521 * 65521 ∧ 0 ≤ nth xs i ∧ nth xs i ≤ 65521 := by
  have h1 := hx i
  have h2 := hy i
  have h3 := hp.max
  obtain ⟨h4, h5⟩ := h2
  have h6 : nth ys i ≤ 65521 := by omega
  by_cases h0 : 0 ≤ kk
  · have a1 : 0 ≤ kk * nth ys i := Int.mul_nonneg h0 h4
    have a2 : kk * nth ys i ≤ 65521 * 65521 := Int.mul_le_mul (by omega) h6 h4 (by omega)
    omega
  · have a1 : 0 ≤ (-kk) * nth ys i := Int.mul_nonneg (by omega) h4
    have a2 : (-kk) * nth ys i ≤ 65521 * 65521 := Int.mul_le_mul (by omega) h6 h4 (by omega)
    rw [Int.neg_mul] at a1 a2
    omega
end

set_option maxRecDepth 100000 in
set_option maxHeartbeats 4000000 in
theorem qsum_any (A B : Option Addr) (n m c d : Nat) (xs ys : List Int) (kk p : Int) (w : World) (hp : Pr p) (hx : Ints w A n xs) (hy : Ints w B m ys) (hn : n ≤ 900000000) (hm : m ≤ 900000000) (hk : -65521 ≤ kk ∧ kk ≤ 65521) :
    Calls Tryz.prog 76 #[.slice A n c, .slice B m d, .int .i64 kk, .int .i64 p] w (GivesP w (toP ⟨p, hp⟩ xs + Poly.C (Zp.of ⟨p, hp⟩ kk) * toP ⟨p, hp⟩ ys)) := by
  obtain ⟨i0, hi, hz0, hz1, hz2⟩ := info_parts int_info
  have hp1 := hp.two
  have hp2 := hp.max
  have Ca := Lib.hid (qplain_any A n c xs p w hp hx (by omega))
  have Cb := Lib.hid (fun W (h : Below w.heap.size w W) => qplain_any B m d ys p W hp (hy.bel h) (by omega))
  have hla : (toP ⟨p, hp⟩ xs).len ≤ n := len_le_toP hx.len
  have hlb : (toP ⟨p, hp⟩ ys).len ≤ m := len_le_toP hy.len
  have Hbd := Lib.hid (tabsum_bd hp (fromP_pl (toP ⟨p, hp⟩ xs)).pl (fromP_pl (toP ⟨p, hp⟩ ys)).pl hk)
  have Hfin : Hid (∀ M, (toP ⟨p, hp⟩ xs).len ≤ M → (toP ⟨p, hp⟩ ys).len ≤ M → toP ⟨p, hp⟩ (tab M (fun i => nth (fromP (toP ⟨p, hp⟩ xs)) i + kk * nth (fromP (toP ⟨p, hp⟩ ys)) i)) = toP ⟨p, hp⟩ xs + Poly.C (Zp.of ⟨p, hp⟩ kk) * toP ⟨p, hp⟩ ys) := fun M h1 h2 => by
    have := toP_tabsum (q := ⟨p, hp⟩) (xs := fromP (toP ⟨p, hp⟩ xs)) (ys := fromP (toP ⟨p, hp⟩ ys)) (kk := kk) (M := M) (by rw [fromP_length]; exact h1) (by rw [fromP_length]; exact h2)
    rwa [toP_fromP, toP_fromP] at this
  generalize toP ⟨p, hp⟩ xs = P at *
  generalize toP ⟨p, hp⟩ ys = Q at *
  go_enter Tryz.func76, Tryz.ntmps76
  go_wp2_with fail
  refine Ca.out.mono ?_
  rintro e w1 ⟨A1, c1, rfl, hn1⟩
  have hr1 := hn1.rd
  have hb1 := hn1.bel
  clear hn1
  go_wp2_with fail
  refine (Cb.out _ hb1).mono ?_
  rintro e w2 ⟨A2, c2, rfl, hn2⟩
  have hr2 := hn2.rd
  have hb2 := hn2.bel
  clear hn2
  have hr1' := hr1.bel hb2
  clear hr1
  have hb12 := Lib.hid (below_tr hb1 hb2)
  clear hb1 hb2
  generalize hL : P.len = L at *
  generalize hL' : Q.len = L' at *
  clear hL hL'
  by_cases hcase : (L : Int) < (L' : Int)
  all_goals
    obtain ⟨M, hLM, hLM', hMe⟩ : ∃ M, L ≤ M ∧ L' ≤ M ∧ ((L : Int) < (L' : Int) ∧ M = L' ∨ ¬ (L : Int) < (L' : Int) ∧ M = L) := by
      by_cases h : (L : Int) < (L' : Int)
      · exact ⟨L', by omega, Nat.le_refl _, .inl ⟨h, rfl⟩⟩
      · exact ⟨L, Nat.le_refl _, by omega, .inr ⟨h, rfl⟩⟩
    have hMb : M ≤ 900000000 := by omega
    rcases hMe with ⟨hq, hMe⟩ | ⟨hq, hMe⟩
    all_goals
     first
      | exact absurd hq hcase
      | exact absurd hcase hq
      | skip
    clear hq
    obtain rfl := hMe
    go_wp2
    go_loopw [11, 12] (fun v i wr => ∃ k : Nat, k ≤ M ∧ i = .int .i64 k ∧ wr.ownsRow w2.heap.size 3 1 v k (ints (tab k (fun i => nth (fromP P) i + kk * nth (fromP Q) i))) ∧ Below w2.heap.size w2 wr) (fun _ i _ => M - (intOf i).toNat)
    case atStart => exact ⟨0, by omega, rfl, World.ownsRow_nil _ _ _ _, Below.refl _ _⟩
    case round =>
      obtain ⟨k, hk, rfl, hown, hbel⟩ := hrel
      by_cases hlt : k < M
      · have hsz := hbel.size
        obtain ⟨b1, b2, b3, b4⟩ := Hbd.out k
        have hlt' : (k : Int) < (M : Int) := by omega
        have e1 : IntKind.i64.wrap (kk * nth (fromP Q) k) = kk * nth (fromP Q) k := IntWalk.i64_in _ (by omega)
        have e2 : IntKind.i64.wrap (nth (fromP P) k + kk * nth (fromP Q) k) = nth (fromP P) k + kk * nth (fromP Q) k := IntWalk.i64_in _ (by omega)
        have Cx := Lib.hid (fun W (h : Below w2.heap.size w2 W) => qat_any A1 _ c1 (fromP P) k W (hr1'.bel h) (by omega) (by omega))
        have Cy := Lib.hid (fun W (h : Below w2.heap.size w2 W) => qat_any A2 _ c2 (fromP Q) k W (hr2.bel h) (by omega) (by omega))
        go_wp2_with (first
          | (go_at_call 111; first | ((with_reducible show Calls _ _ #[.slice A1 _ _, _] _ _); refine (Cx.out _ hbel).mono ?_; rintro e w' ⟨rfl, rfl⟩) | ((with_reducible show Calls _ _ #[.slice A2 _ _, _] _ _); refine (Cy.out _ hbel).mono ?_; rintro e w' ⟨rfl, rfl⟩))
          | (at_builtin; refine wpList_append_lies _ (by rfl) _ _ _ (by rfl) w2.heap.size 3 i0 _ 1 8 Tryz.underlying22 hi hz0 hz1 hz2 rfl (by omega) u11 k (ints (tab k (fun i => nth (fromP P) i + kk * nth (fromP Q) i))) (by rfl) (hown.alloc _) ⟨wr.heap.size, 0, none⟩ 1 1 [.int .i64 (nth (fromP P) k + kk * nth (fromP Q) k)] (by rfl) (by rfl) (World.news_of_block (cs := #[.int .i64 (nth (fromP P) k + kk * nth (fromP Q) k)]) (t := 3) (fr := (0, 0)) (heap_alloc_new wr _)) (by simp [Value.oneCell']) (by omega) (by unfold maxLen; omega) (by omega) (by simp; omega) (wr.heap.size + 1) (by simp) ?_; intro gg cap w3 hown3 hgrow hat hlt3))
        have hb3 := below_app' hbel hown hgrow hsz
        rw [ints_tab_succ k (fun i => nth (fromP P) i + kk * nth (fromP Q) i)] at hown3
        clear hgrow hat hown
        go_wp2
        go_roundw
        case rel => exact ⟨k + 1, by omega, by go_num, hown3, hb3⟩
        case measure => simp [intOf]; omega
      · obtain rfl : k = M := by omega
        obtain ⟨A3, c3, rfl⟩ := own_slice hown
        have hin := Ints.of_own hown (tab_i64 fun i => by have := Hbd.out i; constructor <;> omega)
        have hcp := qplain_any A3 k c3 _ p wr hp hin (by omega)
        rw [Hfin.out k (by omega) (by omega)] at hcp
        have Cp := Lib.hid hcp
        clear hcp hin hown
        go_wp2_with fail
        refine Cp.out.mono ?_
        rintro e w3 ⟨A4, c4, rfl, h4⟩
        go_wp2_with fail
        go_ret
        exact ⟨A4, c4, rfl, newInts_sooner h4 (below_tr hb12.out hbel)⟩
end Go.Proofs.YtpikakapflebkaaGreat

namespace Go.Proofs.YtpikakapflebkaaGreat
open Go.RowKit Cl
attribute [local go_sem ↓] Go.wp_at_zero Go.wp_at_succ

set_option maxRecDepth 100000 in
set_option maxHeartbeats 4000000 in
theorem qtimes_any (A B : Option Addr) (n m c d : Nat) (xs ys : List Int) (p : Int) (w : World) (hp : Pr p) (hx : Ints w A n xs) (hy : Ints w B m ys) (hn : n ≤ 400000000) (hm : m ≤ 400000000) :
    Calls Tryz.prog 25 #[.slice A n c, .slice B m d, .int .i64 p] w (GivesP w (toP ⟨p, hp⟩ xs * toP ⟨p, hp⟩ ys)) := by
  have hp1 := hp.two
  have hp2 := hp.max
  have hp0 : ¬ p = 0 := by omega
  have Ca := Lib.hid (qplain_any A n c xs p w hp hx (by omega))
  have Cb := Lib.hid (fun W (h : Below w.heap.size w W) => qplain_any B m d ys p W hp (hy.bel h) (by omega))
  have hla : (toP ⟨p, hp⟩ xs).len ≤ n := len_le_toP hx.len
  have hlb : (toP ⟨p, hp⟩ ys).len ≤ m := len_le_toP hy.len
  generalize toP ⟨p, hp⟩ xs = P at *
  generalize toP ⟨p, hp⟩ ys = Q at *
  have Hpx := Lib.hid (fromP_pl P).pl
  have Hpy := Lib.hid (fromP_pl Q).pl
  have hmk := make_ints (P.len + Q.len) (by omega)
  rw [show ((P.len + Q.len : Nat) : Int) = (P.len : Int) + (Q.len : Int) by omega] at hmk
  have hst0 : Hid (MulSt ⟨p, hp⟩ (fromP P) (fromP Q) 0 0 (List.replicate (P.len + Q.len) 0)) := by
    have := MulSt.start (q := ⟨p, hp⟩) (fromP P) (fromP Q)
    rw [fromP_length, fromP_length] at this; exact this
  have Hdone : Hid (∀ out, MulSt ⟨p, hp⟩ (fromP P) (fromP Q) P.len 0 out → toP ⟨p, hp⟩ out = P * Q) := fun out h => by
    have := MulSt.done (q := ⟨p, hp⟩) (xs := fromP P) (ys := fromP Q) (out := out) (by rw [fromP_length]; exact h)
    rwa [toP_fromP, toP_fromP] at this
  have Hxl := Lib.hid (fromP_length P)
  have Hyl := Lib.hid (fromP_length Q)
  go_enter Tryz.func25, Tryz.ntmps25
  go_wp2_with fail
  refine Ca.out.mono ?_
  rintro e w1 ⟨A1, c1, rfl, hn1⟩
  have hr1 := hn1.rd
  have hb1 := hn1.bel
  clear hn1
  go_wp2_with fail
  refine (Cb.out _ hb1).mono ?_
  rintro e w2 ⟨A2, c2, rfl, hn2⟩
  have hr2 := hn2.rd
  have hb2 := hn2.bel
  clear hn2
  have hr1' := hr1.bel hb2
  clear hr1
  have hb12 := Lib.hid (below_tr hb1 hb2)
  clear hb1 hb2
  generalize P.len = n1 at *
  generalize Q.len = m1 at *
  have hrow0 := Row.new w2 3 (List.replicate (n1 + m1) 0)
  go_wp2
  go_loopw [10] (fun i wr => ∃ (k : Nat) (out : List Int), k ≤ n1 ∧ i = .int .i64 k ∧ Hid (MulSt ⟨p, hp⟩ (fromP P) (fromP Q) k 0 out) ∧ Row wr w2.heap.size 3 out ∧ Below w2.heap.size w2 wr) (fun i _ => n1 - (intOf i).toNat)
  case atStart => exact ⟨0, _, by omega, rfl, hst0, hrow0, (Below.refl _ _).alloc (Nat.le_refl _) _⟩
  case round =>
    obtain ⟨k, out, hk, rfl, hst, hrow, hbel⟩ := hrel
    obtain ⟨wo, rfl⟩ : ∃ wo : World, wo = wr := ⟨_, rfl⟩
    by_cases hlt : k < n1
    · obtain ⟨b, o, rfl, hb, hc⟩ := hr1'.at_ (by omega)
      obtain ⟨l1, l2⟩ := Hpx.out k
      go_wp2
      go_loopw [11] (fun i wr => ∃ (j : Nat) (out : List Int), j ≤ m1 ∧ i = .int .i64 j ∧ Hid (MulSt ⟨p, hp⟩ (fromP P) (fromP Q) k j out) ∧ Row wr w2.heap.size 3 out ∧ Below w2.heap.size w2 wr) (fun i _ => m1 - (intOf i).toNat)
      case atStart => exact ⟨0, out, by omega, rfl, hst, hrow, hbel⟩
      case round =>
        obtain ⟨j, out2, hj, rfl, hst2, hrow2, hbel2⟩ := hrel
        by_cases hjl : j < m1
        · obtain ⟨b2, o2, rfl, hb2, hc2⟩ := hr2.at_ (by omega)
          have hcx : wr.cell? ⟨b, o + k, none⟩ = some (.int .i64 (nth (fromP P) k)) := (hbel2.cell (p := ⟨b, o + k, none⟩) hb).trans (hc k hlt)
          have hcy : wr.cell? ⟨b2, o2 + j, none⟩ = some (.int .i64 (nth (fromP Q) j)) := (hbel2.cell (p := ⟨b2, o2 + j, none⟩) hb2).trans (hc2 j hjl)
          have hol : k + j < out2.length := by have := hst2.out.len; rw [Hxl.out, Hyl.out] at this; omega
          have hco := hrow2.cell (i := k + j) hol
          have hfo := hrow2.frozen (k + j)
          obtain ⟨l3, l4⟩ := Hpy.out j
          obtain ⟨l5, l6⟩ := hst2.out.pl (k + j)
          have l6' : nth out2 (k + j) < p := l6
          have hm1 : 0 ≤ nth (fromP P) k * nth (fromP Q) j := Int.mul_nonneg l1 l3
          have hm2 : nth (fromP P) k * nth (fromP Q) j ≤ 65521 * 65521 := Int.mul_le_mul (by omega) (by omega) l3 (by omega)
          have hset := Lib.hid (hrow2.set (k + j) ((nth out2 (k + j) + nth (fromP P) k * nth (fromP Q) j) % p))
          have hstep := Lib.hid (hst2.out.step (by rw [Hxl.out]; exact hlt) (by rw [Hyl.out]; exact hjl))
          have ea : ((k : Int) + (j : Int)).toNat = k + j := by omega
          have eb : (k : Int) + (j : Int) < (n1 : Int) + (m1 : Int) := by omega
          have ec : (k : Int) < (n1 : Int) := by omega
          have ed : (j : Int) < (m1 : Int) := by omega
          clear hc2 hol l6
          have e1 : IntKind.i64.wrap (nth (fromP P) k * nth (fromP Q) j) = nth (fromP P) k * nth (fromP Q) j := IntWalk.i64_in _ (by omega)
          have e2 : IntKind.i64.wrap (nth out2 (k + j) + nth (fromP P) k * nth (fromP Q) j) = nth out2 (k + j) + nth (fromP P) k * nth (fromP Q) j := IntWalk.i64_in _ (by omega)
          have e3 : IntKind.i64.wrap ((k : Int) + (j : Int)) = (k : Int) + (j : Int) := IntWalk.i64_in _ (by omega)
          have hb9 := hbel2.setCell (p := ⟨w2.heap.size, k + j, none⟩) (Nat.le_refl _) (.int .i64 ((nth out2 (k + j) + nth (fromP P) k * nth (fromP Q) j) % p))
          clear hbel2 hrow2
          go_wp2
          go_region
          go_wp2
          go_roundw
          case rel => exact ⟨j + 1, _, by omega, by go_num, hstep, hset.out.drew, hb9.drew⟩
          case measure => simp [intOf]; omega
        · obtain rfl : m1 = j := by omega
          have hrw : Hid (MulSt ⟨p, hp⟩ (fromP P) (fromP Q) (k + 1) 0 out2) := MulSt.row (by rw [Hyl.out]; exact hst2.out)
          go_wp2
          go_roundw
          case rel => exact ⟨k + 1, out2, by omega, by go_num, hrw, hrow2, hbel2⟩
          case measure => simp [intOf]; omega
    · obtain rfl : n1 = k := by omega
      have hdone := Hdone.out out hst.out
      have hin := hrow.ints (fun i => (Pl.i64 hst.out.pl hp2 i))
      have hol : out.length = n1 + m1 := by rw [hst.out.len, Hxl.out, Hyl.out]
      rw [hol] at hin
      have cp := qplain_any _ (n1 + m1) (n1 + m1) _ p wo hp hin (by omega)
      rw [hdone] at cp
      have Cp := Lib.hid cp
      clear cp hdone hol
      go_wp2_with fail
      refine Cp.out.mono ?_
      rintro e w4 ⟨A4, c4, rfl, h4⟩
      go_wp2_with fail
      go_ret
      exact ⟨A4, c4, rfl, newInts_sooner h4 (below_tr hb12.out hbel)⟩

/-- A residue's inverse, as the document has it. -/
theorem qinv_any (a p : Int) (w : World) (hp : Pr p) (ha : 0 < a ∧ a < p) :
    Calls Tryz.prog 75 #[.int .i64 a, .int .i64 p] w fun e w' => e = .returned (.int .i64 (invm a p)) ∧ w = w' := by
  have hp1 := hp.two
  have hp2 := hp.max
  obtain ⟨ha1, ha2⟩ := ha
  have hw : IntKind.i64.wrap (p - 2) = p - 2 := IntWalk.i64_in _ (by omega)
  have Cp := Lib.hid (rpow_yes a (p - 2) p w (by omega) (by omega) (by omega) (by omega) (by omega) (by omega) ((isPrime_iff p).2 hp))
  by_cases h2 : p = 2
  · have h1 : a = 1 := by omega
    have Hi : Hid (invm a p = 1) := by
      refine (invm_unique hp (t := 1) (by omega) (by omega) ?_).symm
      rw [h1]; exact Cg.refl _ _
    have h2' : (p == 2) = true := by simp [h2]
    clear h2 h1
    go_enter Tryz.func75, Tryz.ntmps75
    go_wp2_with fail
    refine Cp.out.mono ?_
    rintro e w' ⟨rfl, rfl⟩
    go_wp2_with fail
    go_ret
    exact ⟨by rw [Hi.out]; rfl, rfl⟩
  · have Hi : Hid (powm a (p - 2).toNat p = invm a p) := fermat_inv hp ⟨ha1, ha2⟩ (by omega)
    have h2' : (p == 2) = false := by simp [h2]
    clear h2
    go_enter Tryz.func75, Tryz.ntmps75
    go_wp2_with fail
    refine Cp.out.mono ?_
    rintro e w' ⟨rfl, rfl⟩
    go_wp2_with fail
    go_ret
    exact ⟨by rw [Hi.out]; rfl, rfl⟩
end Go.Proofs.YtpikakapflebkaaGreat

namespace Go.Proofs.YtpikakapflebkaaGreat
open Go.RowKit Cl
attribute [local go_sem ↓] Go.wp_at_zero Go.wp_at_succ

/-- What the document takes away in a round, number by number. -/
def partF (ys : List Int) (N : Nat) (c p : Int) (i : Nat) : Int := if i < N then 0 else nth ys (i - N) * c % p
theorem part_tab (ys : List Int) (N : Nat) (c p : Int) : tab (N + ys.length) (partF ys N c p) = movedL N ys c p := rfl
theorem partF_bd (ys : List Int) (N : Nat) (c : Int) {p : Int} (hp : 1 ≤ p) (i : Nat) : 0 ≤ partF ys N c p i ∧ partF ys N c p i < p := by
  unfold partF; split
  · omega
  · exact emod_bd _ hp

/-- As GivesRRE, and the first slice lies in a new block. -/
def GivesRREat {q : Prm} (w : World) (K L : Nat) (a b : Poly (Zp q)) (err : Int) (e : Ending) (w' : World) : Prop :=
  ∃ A c B d, e = .returned (.tuple #[.slice A a.len c, .slice B b.len d, .int .i64 err]) ∧ a.len ≤ K ∧ b.len ≤ L ∧ Ints w' A a.len (fromP a) ∧ Ints w' B b.len (fromP b) ∧ Below w.heap.size w w' ∧ ∀ x, A = some x → w.heap.size ≤ x.block
set_option maxRecDepth 100000 in
set_option maxHeartbeats 8000000 in
theorem qdiv_yes (A B : Option Addr) (n m c d : Nat) (xs ys : List Int) (p : Int) (w : World) (hp : Pr p) (hx : Ints w A n xs) (hy : Ints w B m ys) (hn : n ≤ 400000000) (hm : m ≤ 400000000) (hb0 : toP ⟨p, hp⟩ ys ≠ 0) :
    Calls Tryz.prog 48 #[.slice A n c, .slice B m d, .int .i64 p] w (GivesRREat w n m (Poly.quo (toP ⟨p, hp⟩ xs) (toP ⟨p, hp⟩ ys)) (Poly.rem (toP ⟨p, hp⟩ xs) (toP ⟨p, hp⟩ ys)) 0) := by
  obtain ⟨i0, hi, hz0, hz1, hz2⟩ := info_parts int_info
  have hp1 := hp.two
  have hp2 := hp.max
  have hp0 : ¬ p = 0 := by omega
  have Cb := Lib.hid (qplain_any B m d ys p w hp hy (by omega))
  have Ca := Lib.hid (fun W (h : Below w.heap.size w W) => qplain_any A n c xs p W hp (hx.bel h) (by omega))
  have hla : (toP ⟨p, hp⟩ xs).len ≤ n := len_le_toP hx.len
  have hlb : (toP ⟨p, hp⟩ ys).len ≤ m := len_le_toP hy.len
  generalize toP ⟨p, hp⟩ xs = P at *
  generalize toP ⟨p, hp⟩ ys = Q at *
  have hlp := Poly.len_pos hb0
  have Hlc : Hid (Zp.of ⟨p, hp⟩ (nth (fromP Q) (Q.len - 1)) = Q.lc) := fromP_top hb0
  have hbd := fromP_lt Q (Q.len - 1)
  have htop := (fromP_pl Q).top (by rw [fromP_length]; exact hlp)
  rw [fromP_length] at htop
  have Hbd : Hid (0 < nth (fromP Q) (Q.len - 1) ∧ nth (fromP Q) (Q.len - 1) < p) := ⟨by have := hbd.1; omega, hbd.2⟩
  have Hq0 := Lib.hid hb0
  obtain ⟨M, hM⟩ : ∃ M, Q.len = M + 1 := ⟨Q.len - 1, by omega⟩
  have HM := Lib.hid hM
  rw [hM] at Hlc Hbd hlb
  simp only [Nat.add_sub_cancel] at Hlc Hbd
  have Htop : Hid (Zp.of ⟨p, hp⟩ (invm (nth (fromP Q) M) p) = CField.inv Q.lc) := by
    show _ = _
    rw [← Hlc.out]; exact (Zp.inv_of (q := ⟨p, hp⟩) _).symm
  have Ci := Lib.hid (fun W => qinv_any (nth (fromP Q) M) p W hp Hbd.out)
  have hib := invm_bd (nth (fromP Q) M) hp
  obtain ⟨ht1, ht2⟩ := hib
  clear hbd htop hb0 hM hlp Hbd
  generalize invm (nth (fromP Q) M) p = top at *
  have hmk := make_ints (P.len + 1) (by omega)
  rw [show ((P.len + 1 : Nat) : Int) = (P.len : Int) + 1 by omega] at hmk
  have Hst0 := Lib.hid (RDivSt.start (q := ⟨p, hp⟩) P Q)
  go_enter Tryz.func48, Tryz.ntmps48
  go_wp2_with fail
  refine (rchk_yes _ _ (by omega) (by omega) ((isPrime_iff p).2 hp)).mono ?_
  rintro e w' ⟨rfl, rfl⟩
  go_wp2_with fail
  refine Cb.out.mono ?_
  rintro e w1 ⟨A2, c2, rfl, hn2⟩
  have hr2 := hn2.rd
  have hb1 := hn2.bel
  clear hn2
  rw [HM.out] at hr2 ⊢
  go_wp2_with fail
  refine (Ca.out _ hb1).mono ?_
  rintro e w2 ⟨A1, c1, rfl, hn1⟩
  have hr1 := hn1.rd
  have hr2' := hr2.bel hn1.bel
  have hb2 := below_tr hb1 hn1.bel
  have hA1lt : ∀ x, A1 = some x → 0 < P.len → x.block ≠ w2.heap.size := fun x hx h0 => by
    obtain ⟨b, o, e, hb, _⟩ := hr1.at_ h0
    rw [e] at hx; cases hx; show b ≠ _; omega
  clear hn1 hr2
  obtain ⟨by_, oy, rfl, hby, hcy⟩ := hr2'.at_ (by omega)
  have hcM := hcy M (by omega)
  have hcyl : (w2.alloc (.cells (ints (List.replicate (P.len + 1) 0)).toArray 3)).cell? ⟨by_, oy + M, none⟩ = some (.int .i64 (nth (fromP Q) M)) := by rw [World.cell?_alloc_lt _ _ _ hby]; exact hcM
  go_wp2_with (go_at_call 75; refine (Ci.out _).mono ?_; rintro e w' ⟨rfl, rfl⟩)
  have hrq0 := Row.new w2 3 (List.replicate (P.len + 1) 0)
  have hr3 := hr1.alloc (.cells (ints (List.replicate (P.len + 1) 0)).toArray 3)
  have hb3 : Below w2.heap.size w2 (w2.alloc (.cells (ints (List.replicate (P.len + 1) 0)).toArray 3)) := (Below.refl _ _).alloc (Nat.le_refl _) _
  have hs2 := hb2.size
  have Hcy := Lib.hid hcy
  clear hcM hcyl hcy hr2' hr1
  generalize hL0 : P.len = L0 at *
  have HL0 := Lib.hid hL0
  have hA1 : Hid (0 < L0 → ∀ x, A1 = some x → x.block ≠ w2.heap.size) := fun h0 x hx => hA1lt x hx h0
  clear hL0 hA1lt
  have HB2 := Lib.hid hb2
  clear hb2
  go_loopg [10] (L0 + 1) (fun gk s wr => ∃ (L : Nat) (R : Poly (Zp ⟨p, hp⟩)) (Ar : Option Addr) (cr : Nat) (qs : List Int), L < gk ∧ L ≤ L0 ∧ s = .slice Ar L cr ∧ Hid (R.len = L) ∧ Ints wr Ar L (fromP R) ∧ Hid (0 < L → ∀ x, Ar = some x → x.block ≠ w2.heap.size) ∧ Row wr w2.heap.size 3 qs ∧ Hid (RDivSt ⟨p, hp⟩ P Q qs R) ∧ Below w2.heap.size w2 wr)
  case atStart => exact ⟨L0, P, A1, c1, _, by omega, Nat.le_refl _, rfl, HL0, hr3, hA1, hrq0, Hst0.out, hb3⟩
  case round =>
    obtain ⟨L, R, Ar, cr, qs, hgk, hLL, rfl, hRl, hR, hAr, hrq, hst, hbel⟩ := hrel
    obtain ⟨wo, rfl⟩ : ∃ wo : World, wo = wr := ⟨_, rfl⟩
    clear hrq0 hr3 hb3 hA1 Hst0
    have hql : qs.length = L0 + 1 := by have := hst.out.lq; rw [HL0.out] at this; exact this
    have Hql := Lib.hid hql
    by_cases hlt : M + 1 ≤ L
    · obtain ⟨N, hN⟩ : ∃ N, L = N + (M + 1) := ⟨L - (M + 1), by omega⟩
      obtain ⟨br, or_, rfl, hbr, hcr0⟩ := hR.at_ (by omega)
      have hcr := hcr0 (N + M) (by omega)
      have hbne := hAr.out (by omega) _ rfl
      have hfq := hrq.frozen N
      have hcq := hrq.cell (i := N) (by omega)
      have hNeq : (L : Int) - ((M : Int) + 1) = (N : Int) := by omega
      have ea : ((L : Int) - 1).toNat = N + M := by omega
      have eb : (0 : Int) ≤ (L : Int) - 1 := by omega
      have ec : (L : Int) - 1 < (L : Int) := by omega
      have ed : (M : Int) + 1 ≤ (L : Int) := by omega
      have ef : (N : Int) < (L0 : Int) + 1 := by omega
      obtain ⟨l1, l2⟩ := fromP_lt R (N + M)
      have l2' : nth (fromP R) (N + M) < p := l2
      have hm1 : 0 ≤ nth (fromP R) (N + M) * top := Int.mul_nonneg l1 ht1
      have hm2 : nth (fromP R) (N + M) * top ≤ 65521 * 65521 := Int.mul_le_mul (by omega) (by omega) ht1 (by omega)
      have hcc := emod_bd (nth (fromP R) (N + M) * top) (p := p) (by omega)
      obtain ⟨c1, c2⟩ := hcc
      have hR0 : R ≠ 0 := fun e => by
        have h1 := hRl.out
        rw [e, Poly.len_zero] at h1; omega
      have Hstep : Hid (RDivSt ⟨p, hp⟩ P Q (qs.set N (nth (fromP R) (N + M) * top % p)) (R - Poly.mono N (Zp.of ⟨p, hp⟩ (nth (fromP R) (N + M) * top % p)) * Q) ∧ (R - Poly.mono N (Zp.of ⟨p, hp⟩ (nth (fromP R) (N + M) * top % p)) * Q).len < R.len) := by
        have h1 : Zp.of ⟨p, hp⟩ (nth (fromP R) (N + M) * top % p) = R.lc * CField.inv Q.lc := by
          have e1 : Zp.of ⟨p, hp⟩ (nth (fromP R) (N + M) * top % p) = Zp.of ⟨p, hp⟩ (nth (fromP R) (N + M) * top) := Zp.of_cg (Cg.emod_left _ _)
          have e2 := fromP_top hR0
          rw [hRl.out, show L - 1 = N + M by omega] at e2
          rw [e1, Zp.of_mul, Htop.out, e2]
        have h2 := hst.out.step Hq0.out (by rw [HM.out, hRl.out]; exact hlt) (c := nth (fromP R) (N + M) * top % p) ⟨c1, c2⟩ h1
        rw [hRl.out, HM.out, show L - (M + 1) = N by omega] at h2
        exact ⟨h2.1, by rw [hRl.out]; exact h2.2⟩
      have HN := Lib.hid hN
      have Hlt := Lib.hid hlt
      clear hN hlt l2 hR0 hcr0 hql hst
      go_wp2
      clear hcr hcq hfq ea eb ec ed ef hNeq
      generalize hcc2 : nth (fromP R) (N + M) * top % p = cc at *
      have hrq5 := hrq.set N cc
      have hb5 := hbel.setCell (p := ⟨w2.heap.size, N, none⟩) (Nat.le_refl _) (.int .i64 cc)
      have hR5 := hR.other (p := ⟨w2.heap.size, N, none⟩) (fun x hx => by cases hx; exact hbne) (.int .i64 cc)
      clear hcc2 hrq hbel hR hm1 hm2
      generalize wo.setCell ⟨w2.heap.size, N, none⟩ (.int .i64 cc) = w5 at *
      have hs5 := hb5.size
      have hFb := Lib.hid (partF_bd (fromP Q) N cc (p := p) (by omega))
      go_loopw [15, 16] (fun v i wr => ∃ k : Nat, k ≤ N ∧ i = .int .i64 k ∧ wr.ownsRow w5.heap.size 3 1 v k (ints (tab k (partF (fromP Q) N cc p))) ∧ Below w5.heap.size w5 wr) (fun _ i _ => N - (intOf i).toNat)
      case atStart => exact ⟨0, by omega, rfl, World.ownsRow_nil _ _ _ _, Below.refl _ _⟩
      case round =>
        obtain ⟨k, hk, rfl, hown, hbel⟩ := hrel
        by_cases hlt : k < N
        · have hsz := hbel.size
          have hNN : N ≤ 900000000 := by have := HN.out; omega
          have Hz : Hid (partF (fromP Q) N cc p k = 0) := if_pos hlt
          have hlt' : (k : Int) < (N : Int) := by omega
          go_wp2_with (at_builtin; refine wpList_append_lies _ (by rfl) _ _ _ (by rfl) w5.heap.size 3 i0 _ 1 8 Tryz.underlying22 hi hz0 hz1 hz2 rfl (by omega) u15 k (ints (tab k (partF (fromP Q) N cc p))) (by rfl) (hown.alloc _) ⟨wr.heap.size, 0, none⟩ 1 1 [.int .i64 0] (by rfl) (by rfl) (World.news_of_block (cs := #[.int .i64 0]) (t := 3) (fr := (0, 0)) (heap_alloc_new wr _)) (by simp [Value.oneCell']) (by omega) (by unfold maxLen; omega) (by omega) (by simp; omega) (wr.heap.size + 1) (by simp) ?_; intro gg cap w6 hown6 hgrow hat hlt6)
          have hb6 := below_app' hbel hown hgrow hsz
          have he : ints (tab k (partF (fromP Q) N cc p)) ++ [.int .i64 0] = ints (tab (k + 1) (partF (fromP Q) N cc p)) := by have := ints_tab_succ k (partF (fromP Q) N cc p); rwa [Hz.out] at this
          rw [he] at hown6
          clear hgrow hat hown he
          go_wp2
          go_roundw
          case rel => exact ⟨k + 1, by omega, by go_num, hown6, hb6⟩
          case measure => simp [intOf]; omega
        · obtain rfl : k = N := by omega
          have hown0 := hown
          have hbel0 := hbel
          clear hown hbel hlt
          obtain ⟨w6, rfl⟩ : ∃ wo : World, wo = wr := ⟨_, rfl⟩
          go_wp2
          go_loopw [15, 17] (fun v i wr => ∃ j : Nat, j ≤ M + 1 ∧ i = .int .i64 j ∧ wr.ownsRow w5.heap.size 3 1 v (k + j) (ints (tab (k + j) (partF (fromP Q) k cc p))) ∧ Below w5.heap.size w5 wr) (fun _ i _ => M + 1 - (intOf i).toNat)
          case atStart => exact ⟨0, by omega, rfl, hown0, hbel0⟩
          case round =>
            obtain ⟨j, hj, rfl, hown, hbel⟩ := hrel
            by_cases hlt : j < M + 1
            · have hsz := hbel.size
              have hNN : k + (M + 1) ≤ 900000000 := by have := HN.out; omega
              have hyb := (hb5.trans (hbel.mono hs5)).cell (p := ⟨by_, oy + j, none⟩) hby
              have hcyj := hyb.trans (Hcy.out j hlt)
              have Hz : Hid (partF (fromP Q) k cc p (k + j) = nth (fromP Q) j * cc % p) := by
                show _ = _
                unfold partF
                rw [if_neg (by omega), show k + j - k = j by omega]
              obtain ⟨d1, d2⟩ := fromP_lt Q j
              have d2' : nth (fromP Q) j < p := d2
              have hm1 : 0 ≤ nth (fromP Q) j * cc := Int.mul_nonneg d1 c1
              have hm2 : nth (fromP Q) j * cc ≤ 65521 * 65521 := Int.mul_le_mul (by omega) (by omega) c1 (by omega)
              have hlt' : (j : Int) < (M : Int) + 1 := by omega
              clear d2 hyb
              go_wp2_with (at_builtin; refine wpList_append_lies _ (by rfl) _ _ _ (by rfl) w5.heap.size 3 i0 _ 1 8 Tryz.underlying22 hi hz0 hz1 hz2 rfl (by omega) u15 (k + j) (ints (tab (k + j) (partF (fromP Q) k cc p))) (by rfl) (hown.alloc _) ⟨wr.heap.size, 0, none⟩ 1 1 [.int .i64 (nth (fromP Q) j * cc % p)] (by rfl) (by rfl) (World.news_of_block (cs := #[.int .i64 (nth (fromP Q) j * cc % p)]) (t := 3) (fr := (0, 0)) (heap_alloc_new wr _)) (by simp [Value.oneCell']) (by omega) (by unfold maxLen; omega) (by omega) (by simp; omega) (wr.heap.size + 1) (by simp) ?_; intro gg cap w7 hown7 hgrow hat hlt7)
              have hb7 := below_app' hbel hown hgrow hsz
              have he : ints (tab (k + j) (partF (fromP Q) k cc p)) ++ [.int .i64 (nth (fromP Q) j * cc % p)] = ints (tab (k + (j + 1)) (partF (fromP Q) k cc p)) := by have := ints_tab_succ (k + j) (partF (fromP Q) k cc p); rwa [Hz.out] at this
              rw [he] at hown7
              clear hgrow hat hown he
              go_wp2
              go_roundw
              case rel => exact ⟨j + 1, by omega, by go_num, hown7, hb7⟩
              case measure => simp [intOf]; omega
            · obtain rfl : j = M + 1 := by omega
              obtain ⟨A3, c3, rfl⟩ := own_slice hown
              have hin := Ints.of_own hown (tab_i64 fun i => by have := hFb.out i; exact I64.small this.1 (by omega))
              have hRr := hR5.bel hbel
              have hLb : L ≤ 400000000 := by omega
              have hcs := qsum_any (some ⟨br, or_, none⟩) A3 L (k + (M + 1)) cr c3 (fromP R) _ (-1) p wr hp hRr hin (by omega) (by have := HN.out; omega) (by omega)
              have hQl : (fromP Q).length = M + 1 := by rw [fromP_length]; exact HM.out
              have hmv := toP_movedL (q := ⟨p, hp⟩) k (fromP Q) cc
              rw [toP_fromP] at hmv
              have hpt := part_tab (fromP Q) k cc p
              rw [hQl] at hpt
              rw [hpt, hmv, toP_fromP, neg_times] at hcs
              have Cs := Lib.hid hcs
              have hrq8 := hrq5.bel hbel
              have hb8 := hb5.trans (hbel.mono hs5)
              have hsz8 := hb8.size
              clear hcs hin hown hmv hpt hQl hRr
              go_wp2_with fail
              refine Cs.out.mono ?_
              rintro e w9 ⟨A9, c9, rfl, hn9⟩
              go_wp2_with fail
              have hlt9 : (R - Poly.mono k (Zp.of ⟨p, hp⟩ cc) * Q).len < L := by have := Hstep.out.2; rw [hRl.out] at this; exact this
              have hgq := hrq8.lt
              have hA9 : Hid (0 < (R - Poly.mono k (Zp.of ⟨p, hp⟩ cc) * Q).len → ∀ x, A9 = some x → x.block ≠ w2.heap.size) := fun _ x hx => by have := hn9.blk x hx; omega
              have hst9 := Lib.hid Hstep.out.1
              have hrq9 := hrq8.bel hn9.bel
              have hb9 := hb8.trans (hn9.bel.mono hsz8)
              have hr9 := hn9.rd
              go_roundg L
              case measure => omega
              case rel => exact ⟨_, _, A9, c9, _, hlt9, by omega, rfl, rfl, hr9, hA9, hrq9, hst9, hb9⟩
    · have hfin := hst.out.done (by rw [HM.out, hRl.out]; omega)
      have hin := hrq.ints (fun i => Pl.i64 hst.out.pq hp2 i)
      rw [hql] at hin
      have cp := qplain_any _ (L0 + 1) (L0 + 1) qs p wo hp hin (by omega)
      rw [← hfin.1] at cp
      have Cp := Lib.hid cp
      have Hr : Hid (Poly.rem P Q = R) := hfin.2
      have hlt' : ¬ (M : Int) + 1 ≤ (L : Int) := by omega
      have Hlq : Hid ((Poly.quo P Q).len ≤ n) := by have := Cl.quo_len' P Hq0.out; rw [HL0.out] at this; show _ ≤ _; omega
      have Hb9 := Lib.hid (HB2.out.trans (hbel.mono hs2))
      clear cp hfin hin hql hlt
      go_wp2_with fail
      refine Cp.out.mono ?_
      rintro e w9 ⟨A9, c9, rfl, hn9⟩
      go_wp2_with fail
      go_ret3
      have hr9 := hR.bel hn9.bel
      have hRl' := hRl.out
      subst hRl'
      rw [← Hr.out] at hr9 ⊢
      refine ⟨A9, c9, _, _, rfl, Hlq.out, ?_, hn9.rd, hr9, below_tr Hb9.out hn9.bel, fun x hx => Nat.le_trans Hb9.out.size (hn9.blk x hx)⟩
      have h1 := Cl.rem_len' P Hq0.out
      have h2 := HM.out
      omega
end Go.Proofs.YtpikakapflebkaaGreat

namespace Go.Proofs.YtpikakapflebkaaGreat
open Go.RowKit Cl
attribute [local go_sem ↓] Go.wp_at_zero Go.wp_at_succ

section
variable {A B : Option Addr} {n m c d N M K : Nat} {p : Int} {w : World} {hp : Pr p} {a b : Poly (Zp ⟨p, hp⟩)}
theorem qplainR (ha : Rd w A n a) (hn : n ≤ N) (hN : N ≤ 900000000) : Calls Tryz.prog 24 #[.slice A n c, .int .i64 p] w (GivesR w N a) := by
  obtain ⟨xs, hx, rfl⟩ := ha
  have h2 : (toP ⟨p, hp⟩ xs).len ≤ n := len_le_toP hx.len
  exact (qplain_any A n c xs p w hp hx (by omega)).mono fun e w' h => GivesR.of h (by omega)
theorem qsumR (kk : Int) (hk : -65521 ≤ kk ∧ kk ≤ 65521) (ha : Rd w A n a) (hb : Rd w B m b) (hn : n ≤ N) (hm : m ≤ M) (hK : N + M ≤ K) (hK2 : K ≤ 900000000) :
    Calls Tryz.prog 76 #[.slice A n c, .slice B m d, .int .i64 kk, .int .i64 p] w (GivesR w K (a + Poly.C (Zp.of ⟨p, hp⟩ kk) * b)) := by
  obtain ⟨xs, hx, rfl⟩ := ha
  obtain ⟨ys, hy, rfl⟩ := hb
  have h2 : (toP ⟨p, hp⟩ xs).len ≤ n := len_le_toP hx.len
  have h3 : (toP ⟨p, hp⟩ ys).len ≤ m := len_le_toP hy.len
  have h1 := add_len (toP ⟨p, hp⟩ xs) (Poly.C (Zp.of ⟨p, hp⟩ kk) * toP ⟨p, hp⟩ ys)
  have h4 : (Poly.C (Zp.of ⟨p, hp⟩ kk) * toP ⟨p, hp⟩ ys).len ≤ (toP ⟨p, hp⟩ ys).len := Poly.len_le fun i hi => by rw [Poly.co_C_mul, Poly.len_sh _ i hi, CRing.mul_zero]
  exact (qsum_any A B n m c d xs ys kk p w hp hx hy (by omega) (by omega) hk).mono fun e w' h => GivesR.of h (by omega)
theorem qtimesR (ha : Rd w A n a) (hb : Rd w B m b) (hn : n ≤ N) (hm : m ≤ M) (hK : N + M ≤ K) (hK2 : K ≤ 400000000) :
    Calls Tryz.prog 25 #[.slice A n c, .slice B m d, .int .i64 p] w (GivesR w K (a * b)) := by
  obtain ⟨xs, hx, rfl⟩ := ha
  obtain ⟨ys, hy, rfl⟩ := hb
  have h1 := prod_len' (toP ⟨p, hp⟩ xs) (toP ⟨p, hp⟩ ys)
  have h2 : (toP ⟨p, hp⟩ xs).len ≤ n := len_le_toP hx.len
  have h3 : (toP ⟨p, hp⟩ ys).len ≤ m := len_le_toP hy.len
  exact (qtimes_any A B n m c d xs ys p w hp hx hy (by omega) (by omega)).mono fun e w' h => GivesR.of h (by omega)
theorem qdivR (ha : Rd w A n a) (hb : Rd w B m b) (hn : n ≤ N) (hm : m ≤ M) (hK : N ≤ 400000000) (hK2 : M ≤ 400000000) (h0 : b ≠ 0) :
    Calls Tryz.prog 48 #[.slice A n c, .slice B m d, .int .i64 p] w (GivesRRE w N M (Poly.quo a b) (Poly.rem a b) 0) := by
  obtain ⟨xs, hx, rfl⟩ := ha
  obtain ⟨ys, hy, rfl⟩ := hb
  refine (qdiv_yes A B n m c d xs ys p w hp hx hy (by omega) (by omega) h0).mono ?_
  rintro e w' ⟨A1, c1, B1, d1, rfl, l, k, h1, h2, hb, _⟩
  exact ⟨A1, c1, B1, d1, rfl, by omega, by omega, h1, h2, hb⟩
theorem qdivAt (ha : Rd w A n a) (hb : Rd w B m b) (hn : n ≤ N) (hm : m ≤ M) (hK : N ≤ 400000000) (hK2 : M ≤ 400000000) (h0 : b ≠ 0) :
    Calls Tryz.prog 48 #[.slice A n c, .slice B m d, .int .i64 p] w (GivesRREat w N M (Poly.quo a b) (Poly.rem a b) 0) := by
  obtain ⟨xs, hx, rfl⟩ := ha
  obtain ⟨ys, hy, rfl⟩ := hb
  refine (qdiv_yes A B n m c d xs ys p w hp hx hy (by omega) (by omega) h0).mono ?_
  rintro e w' ⟨A1, c1, B1, d1, rfl, l, k, h1, h2, hb, hl⟩
  exact ⟨A1, c1, B1, d1, rfl, by omega, by omega, h1, h2, hb, hl⟩
theorem qdiv0R (hb : Rd w B m b) (hm : m ≤ M) (hK2 : M ≤ 900000000) (h0 : b = 0) :
    Calls Tryz.prog 48 #[.slice A n c, .slice B m d, .int .i64 p] w fun e w' => e = .returned (.tuple #[.slice none 0 0, .slice none 0 0, .int .i64 3]) ∧ Below w.heap.size w w' := by
  have hp1 := hp.two
  have hp2 := hp.max
  have C0 := qplainR (c := d) hb hm hK2
  rw [h0] at C0
  have C := Lib.hid C0
  have Hz := Lib.hid (Poly.len_zero (F := Zp ⟨p, hp⟩))
  clear C0 hb h0
  go_enter Tryz.func48, Tryz.ntmps48
  go_wp2_with fail
  refine (rchk_yes _ _ (by omega) (by omega) ((isPrime_iff p).2 hp)).mono ?_
  rintro e w' ⟨rfl, rfl⟩
  go_wp2_with fail
  refine C.out.mono ?_
  rintro e w1 ⟨A1, c1, rfl, l1, h1, hb1⟩
  rw [Hz.out]
  go_wp2_with fail
  go_ret3
  exact ⟨rfl, hb1⟩
theorem qmonicR (ha : Rd w A n a) (hn : n ≤ N) (hN : N ≤ 300000000) : Calls Tryz.prog 47 #[.slice A n c, .int .i64 p] w (GivesRE w N a.monic 0) := by
  have hp1 := hp.two
  have hp2 := hp.max
  have C := Lib.hid (qplainR (c := c) ha hn (by omega))
  have hml := monic_len_le a
  have han : a.len ≤ n := by obtain ⟨xs, hx, rfl⟩ := ha; exact len_le_toP hx.len
  clear ha
  by_cases h0 : a = 0
  · have g0 : ((a.len : Int) == 0) = true := by rw [h0, Poly.len_zero]; rfl
    have Hm : Hid (a.monic = 0) := by rw [h0]; exact Poly.monic_zero
    clear h0
    go_enter Tryz.func47, Tryz.ntmps47
    go_wp2_with fail
    refine (rchk_yes _ _ (by omega) (by omega) ((isPrime_iff p).2 hp)).mono ?_
    rintro e w' ⟨rfl, rfl⟩
    go_wp2_with fail
    refine C.out.mono ?_
    rintro e w1 ⟨A1, c1, rfl, l1, h1, hb1⟩
    go_wp2_with fail
    go_ret2
    rw [Hm.out]
    have hz : (0 : Poly (Zp ⟨p, hp⟩)).len = 0 := Poly.len_zero
    refine ⟨none, 0, by rw [hz]; rfl, by omega, ?_, hb1⟩
    rw [fromP_zero, hz]
    exact ⟨rfl, fun h => absurd h (by omega), fun i => by rw [nth_ge (by simp)]; exact I64.zero⟩
  · have hlp := Poly.len_pos h0
    have g0 : ((a.len : Int) == 0) = false := beq_eq_false_iff_ne.2 (by omega)
    have Hlc : Hid (Zp.of ⟨p, hp⟩ (nth (fromP a) (a.len - 1)) = a.lc) := fromP_top h0
    have hbd := fromP_lt a (a.len - 1)
    have htop := (fromP_pl a).top (by rw [fromP_length]; exact hlp)
    rw [fromP_length] at htop
    have Hbd : Hid (0 < nth (fromP a) (a.len - 1) ∧ nth (fromP a) (a.len - 1) < p) := ⟨by have := hbd.1; omega, hbd.2⟩
    have Hinv : Hid (toP ⟨p, hp⟩ [invm (nth (fromP a) (a.len - 1)) p] = Poly.C (CField.inv a.lc)) := by
      show _ = _
      rw [toP_one, ← Hlc.out]
      congr 1
      exact (Zp.inv_of (q := ⟨p, hp⟩) _).symm
    have Ci := Lib.hid (fun W => qinv_any (nth (fromP a) (a.len - 1)) p W hp Hbd.out)
    have hib := invm_bd (nth (fromP a) (a.len - 1)) hp
    have ea : ((a.len : Int) - 1).toNat = a.len - 1 := by omega
    have eb : (0 : Int) ≤ (a.len : Int) - 1 := by omega
    have ec : (a.len : Int) - 1 < (a.len : Int) := by omega
    have Hm : Hid (a * Poly.C (CField.inv a.lc) = a.monic) := CRing.mul_comm _ _
    clear h0 hbd htop
    generalize invm (nth (fromP a) (a.len - 1)) p = top at *
    go_enter Tryz.func47, Tryz.ntmps47
    go_wp2_with fail
    refine (rchk_yes _ _ (by omega) (by omega) ((isPrime_iff p).2 hp)).mono ?_
    rintro e w' ⟨rfl, rfl⟩
    go_wp2_with fail
    refine C.out.mono ?_
    rintro e w1 ⟨A1, c1, rfl, l1, h1, hb1⟩
    obtain ⟨b, o, rfl, hb, hc⟩ := h1.at_ (by omega)
    have hcl := hc (a.len - 1) (by omega)
    clear hc
    go_wp2_with fail
    refine (Ci.out _).mono ?_
    rintro e w' ⟨rfl, rfl⟩
    go_wp2_with fail
    have hrow := Row.new w1 3 [top]
    have hin := hrow.ints (fun i => by
      match i with
      | 0 => show I64 top; exact I64.small hib.1 (by omega)
      | i + 1 => rw [nth_ge (by simp)]; exact I64.zero)
    have h2 := h1.alloc (.cells (ints [top]).toArray 3)
    have ct := qtimesR (hp := hp) (N := N) (M := 1) (K := N + 1) (c := c1) (d := 1) (Rd.of h2) (Rd.of_list hin) l1 (Nat.le_refl _) (Nat.le_refl _) (by omega)
    rw [Hinv.out, Hm.out] at ct
    refine ct.mono ?_
    rintro e w3 ⟨A3, c3, rfl, l3, h3, hb3⟩
    go_wp2_with fail
    go_ret2
    exact ⟨_, _, rfl, by omega, h3, below_tr (below_tr hb1 ((Below.refl _ _).alloc (Nat.le_refl _) _)) hb3⟩
end
theorem qmonic_no (A : Option Addr) (n c : Nat) (p : Int) (w : World) (h3 : -9223372036854775808 ≤ p) (h4 : p ≤ 9223372036854775807) (hp : isPrime p = false) :
    Calls Tryz.prog 47 #[.slice A n c, .int .i64 p] w fun e w' => e = .returned (.tuple #[.slice none 0 0, .int .i64 1]) ∧ w = w' := by
  go_enter Tryz.func47, Tryz.ntmps47
  go_wp2_with fail
  refine (rchk_no _ _ h3 h4 hp).mono ?_
  rintro e w' ⟨rfl, rfl⟩
  go_wp2_with fail
  go_ret2
  exact ⟨rfl, rfl⟩
theorem qderiv_no (A : Option Addr) (n c : Nat) (p : Int) (w : World) (h3 : -9223372036854775808 ≤ p) (h4 : p ≤ 9223372036854775807) (hp : isPrime p = false) :
    Calls Tryz.prog 112 #[.slice A n c, .int .i64 p] w fun e w' => e = .returned (.tuple #[.slice none 0 0, .int .i64 1]) ∧ w = w' := by
  go_enter Tryz.func112, Tryz.ntmps112
  go_wp2_with fail
  refine (rchk_no _ _ h3 h4 hp).mono ?_
  rintro e w' ⟨rfl, rfl⟩
  go_wp2_with fail
  go_ret2
  exact ⟨rfl, rfl⟩
theorem qdiv_no (A B : Option Addr) (n c m d : Nat) (p : Int) (w : World) (h3 : -9223372036854775808 ≤ p) (h4 : p ≤ 9223372036854775807) (hp : isPrime p = false) :
    Calls Tryz.prog 48 #[.slice A n c, .slice B m d, .int .i64 p] w fun e w' => e = .returned (.tuple #[.slice none 0 0, .slice none 0 0, .int .i64 1]) ∧ w = w' := by
  go_enter Tryz.func48, Tryz.ntmps48
  go_wp2_with fail
  refine (rchk_no _ _ h3 h4 hp).mono ?_
  rintro e w' ⟨rfl, rfl⟩
  go_wp2_with fail
  go_ret3
  exact ⟨rfl, rfl⟩
end Go.Proofs.YtpikakapflebkaaGreat
