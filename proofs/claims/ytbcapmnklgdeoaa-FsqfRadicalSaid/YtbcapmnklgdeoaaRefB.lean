/- Contracts: the document's sums, products, inverses. -/
import Derived.Test.YtbcapmnklgdeoaaRefA
import Derived.Test.YtbcapmnklgdeoaaPolyB
namespace Go.Proofs.Ytbcapmnklgdeoaa
open Go.RowKit Cl
attribute [local go_sem ↓] Go.wp_at_zero Go.wp_at_succ

section
variable {q : Prm}
theorem toP_tabsum {xs ys : List Int} {kk : Int} {M : Nat} (hx : xs.length ≤ M) (hy : ys.length ≤ M) : toP q (tab M (fun i => nth xs i + kk * nth ys i)) = toP q xs + Poly.C (Zp.of q kk) * toP q ys := Poly.ext fun i => by
  rw [Poly.co_add, Poly.co_C_mul, co_toP, co_toP, co_toP, nth_tab]
  split
  · rw [of_add_mul]
  · rw [nth_ge (xs := xs) (by omega), nth_ge (xs := ys) (by omega), Zp.of_zero, CRing.mul_zero, CRing.zero_add]
theorem tabsum_bd {p kk : Int} {xs ys : List Int} (hp : Pr p) (hx : Pl p xs) (hy : Pl p ys) (hk : -65521 ≤ kk ∧ kk ≤ 65521) (i : Nat) :
    -65521 * 65521 ≤ kk * nth ys i ∧ kk * nth ys i ≤ 65521 * 65521 ∧ 0 ≤ nth xs i ∧ nth xs i ≤ 65521 := by
  have h1 := hx i
  have h2 := hy i
  have h3 := hp.max
  obtain ⟨h4, h5⟩ := h2
  have h6 : nth ys i ≤ 65521 := by omega
  by_cases h0 : 0 ≤ kk
  · have a1 : 0 ≤ kk * nth ys i := Int.mul_nonneg h0 h4
    have a2 : kk * nth ys i ≤ 65521 * 65521 := Int.mul_le_mul (by omega) h6 h4 (by omega)
    omega
  · have a1 : 0 ≤ (-kk) * nth ys i := Int.mul_nonneg (by omega) h4
    have a2 : (-kk) * nth ys i ≤ 65521 * 65521 := Int.mul_le_mul (by omega) h6 h4 (by omega)
    rw [Int.neg_mul] at a1 a2
    omega
end

set_option maxRecDepth 100000 in
set_option maxHeartbeats 4000000 in
theorem qsum_any (A B : Option Addr) (n m c d : Nat) (xs ys : List Int) (kk p : Int) (w : World) (hp : Pr p) (hx : Ints w A n xs) (hy : Ints w B m ys) (hn : n ≤ 900000000) (hm : m ≤ 900000000) (hk : -65521 ≤ kk ∧ kk ≤ 65521) :
    Calls Try.prog 69 #[.slice A n c, .slice B m d, .int .i64 kk, .int .i64 p] w (GivesP w (toP ⟨p, hp⟩ xs + Poly.C (Zp.of ⟨p, hp⟩ kk) * toP ⟨p, hp⟩ ys)) := by
  obtain ⟨i0, hi, hz0, hz1, hz2⟩ := info_parts int_info
  have hp1 := hp.two
  have hp2 := hp.max
  have Ca := Lib.hid (qplain_any A n c xs p w hp hx (by omega))
  have Cb := Lib.hid (fun W (h : Below w.heap.size w W) => qplain_any B m d ys p W hp (hy.bel h) (by omega))
  have hla : (toP ⟨p, hp⟩ xs).len ≤ n := len_le_toP hx.len
  have hlb : (toP ⟨p, hp⟩ ys).len ≤ m := len_le_toP hy.len
  have Hbd := Lib.hid (tabsum_bd hp (fromP_pl (toP ⟨p, hp⟩ xs)).pl (fromP_pl (toP ⟨p, hp⟩ ys)).pl hk)
  have Hfin : Hid (∀ M, (toP ⟨p, hp⟩ xs).len ≤ M → (toP ⟨p, hp⟩ ys).len ≤ M → toP ⟨p, hp⟩ (tab M (fun i => nth (fromP (toP ⟨p, hp⟩ xs)) i + kk * nth (fromP (toP ⟨p, hp⟩ ys)) i)) = toP ⟨p, hp⟩ xs + Poly.C (Zp.of ⟨p, hp⟩ kk) * toP ⟨p, hp⟩ ys) := fun M h1 h2 => by
    have := toP_tabsum (q := ⟨p, hp⟩) (xs := fromP (toP ⟨p, hp⟩ xs)) (ys := fromP (toP ⟨p, hp⟩ ys)) (kk := kk) (M := M) (by rw [fromP_length]; exact h1) (by rw [fromP_length]; exact h2)
    rwa [toP_fromP, toP_fromP] at this
  generalize toP ⟨p, hp⟩ xs = P at *
  generalize toP ⟨p, hp⟩ ys = Q at *
  go_enter Try.func69, Try.ntmps69
  go_wp2_with fail
  refine Ca.out.mono ?_
  rintro e w1 ⟨A1, c1, rfl, hn1⟩
  have hr1 := hn1.rd
  have hb1 := hn1.bel
  clear hn1
  go_wp2_with fail
  refine (Cb.out _ hb1).mono ?_
  rintro e w2 ⟨A2, c2, rfl, hn2⟩
  have hr2 := hn2.rd
  have hb2 := hn2.bel
  clear hn2
  have hr1' := hr1.bel hb2
  clear hr1
  have hb12 := Lib.hid (below_tr hb1 hb2)
  clear hb1 hb2
  generalize hL : P.len = L at *
  generalize hL' : Q.len = L' at *
  clear hL hL'
  by_cases hcase : (L : Int) < (L' : Int)
  all_goals
    obtain ⟨M, hLM, hLM', hMe⟩ : ∃ M, L ≤ M ∧ L' ≤ M ∧ ((L : Int) < (L' : Int) ∧ M = L' ∨ ¬ (L : Int) < (L' : Int) ∧ M = L) := by
      by_cases h : (L : Int) < (L' : Int)
      · exact ⟨L', by omega, Nat.le_refl _, .inl ⟨h, rfl⟩⟩
      · exact ⟨L, Nat.le_refl _, by omega, .inr ⟨h, rfl⟩⟩
    have hMb : M ≤ 900000000 := by omega
    rcases hMe with ⟨hq, hMe⟩ | ⟨hq, hMe⟩
    all_goals
     first
      | exact absurd hq hcase
      | exact absurd hcase hq
      | skip
    clear hq
    obtain rfl := hMe
    go_wp2
    go_loopw [11, 12] (fun v i wr => ∃ k : Nat, k ≤ M ∧ i = .int .i64 k ∧ wr.ownsRow w2.heap.size 3 1 v k (ints (tab k (fun i => nth (fromP P) i + kk * nth (fromP Q) i))) ∧ Below w2.heap.size w2 wr) (fun _ i _ => M - (intOf i).toNat)
    case atStart => exact ⟨0, by omega, rfl, World.ownsRow_nil _ _ _ _, Below.refl _ _⟩
    case round =>
      obtain ⟨k, hk, rfl, hown, hbel⟩ := hrel
      by_cases hlt : k < M
      · have hsz := hbel.size
        obtain ⟨b1, b2, b3, b4⟩ := Hbd.out k
        have hlt' : (k : Int) < (M : Int) := by omega
        have e1 : IntKind.i64.wrap (kk * nth (fromP Q) k) = kk * nth (fromP Q) k := IntWalk.i64_in _ (by omega)
        have e2 : IntKind.i64.wrap (nth (fromP P) k + kk * nth (fromP Q) k) = nth (fromP P) k + kk * nth (fromP Q) k := IntWalk.i64_in _ (by omega)
        have Cx := Lib.hid (fun W (h : Below w2.heap.size w2 W) => qat_any A1 _ c1 (fromP P) k W (hr1'.bel h) (by omega) (by omega))
        have Cy := Lib.hid (fun W (h : Below w2.heap.size w2 W) => qat_any A2 _ c2 (fromP Q) k W (hr2.bel h) (by omega) (by omega))
        go_wp2_with (first
          | (go_at_call 76; first | ((with_reducible show Calls _ _ #[.slice A1 _ _, _] _ _); refine (Cx.out _ hbel).mono ?_; rintro e w' ⟨rfl, rfl⟩) | ((with_reducible show Calls _ _ #[.slice A2 _ _, _] _ _); refine (Cy.out _ hbel).mono ?_; rintro e w' ⟨rfl, rfl⟩))
          | (at_builtin; refine wpList_append_lies _ (by rfl) _ _ _ (by rfl) w2.heap.size 3 i0 _ 1 8 Try.underlying22 hi hz0 hz1 hz2 rfl (by omega) u11 k (ints (tab k (fun i => nth (fromP P) i + kk * nth (fromP Q) i))) (by rfl) (hown.alloc _) ⟨wr.heap.size, 0, none⟩ 1 1 [.int .i64 (nth (fromP P) k + kk * nth (fromP Q) k)] (by rfl) (by rfl) (World.news_of_block (cs := #[.int .i64 (nth (fromP P) k + kk * nth (fromP Q) k)]) (t := 3) (fr := (0, 0)) (heap_alloc_new wr _)) (by simp [Value.oneCell']) (by omega) (by unfold maxLen; omega) (by omega) (by simp; omega) (wr.heap.size + 1) (by simp) ?_; intro gg cap w3 hown3 hgrow hat hlt3))
        have hb3 := below_app' hbel hown hgrow hsz
        rw [ints_tab_succ k (fun i => nth (fromP P) i + kk * nth (fromP Q) i)] at hown3
        clear hgrow hat hown
        go_wp2
        go_roundw
        case rel => exact ⟨k + 1, by omega, by go_num, hown3, hb3⟩
        case measure => simp [intOf]; omega
      · obtain rfl : k = M := by omega
        obtain ⟨A3, c3, rfl⟩ := own_slice hown
        have hin := Ints.of_own hown (tab_i64 fun i => by have := Hbd.out i; constructor <;> omega)
        have hcp := qplain_any A3 k c3 _ p wr hp hin (by omega)
        rw [Hfin.out k (by omega) (by omega)] at hcp
        have Cp := Lib.hid hcp
        clear hcp hin hown
        go_wp2_with fail
        refine Cp.out.mono ?_
        rintro e w3 ⟨A4, c4, rfl, h4⟩
        go_wp2_with fail
        go_ret
        exact ⟨A4, c4, rfl, newInts_sooner h4 (below_tr hb12.out hbel)⟩
end Go.Proofs.Ytbcapmnklgdeoaa
