/- Contract: what a matrix makes nought: the document's.
   Contract: what a matrix makes nought: the program's.
   Contracts: what a matrix makes nought: where it may not be asked.
   The matrices' example: its plain rows, and what it makes nought. No program in sight.
   The head of the matrices' statements: the document's example holds.
   What the matrices' statements lean on: plain rows are short; equal rows are told so.
   Plain facts for the matrices' statements: plain rows are plain again; what they make nought is made nought, and how many; sums go through. No program in sight. -/
import Derived.Test.YtpikakapflebkaaGreatFlinMid
import Derived.Test.YtpikakapflebkaaGreatSpanAll
import Derived.Deep.RegionWith
import Derived.Deep.DeepCutAuto
import Derived.Deep.CutBlock
namespace Go.Proofs.YtpikakapflebkaaGreat
open Go.RowKit Cl
attribute [local go_sem ↓] Go.wp_at_zero Go.wp_at_succ

/-- The vectors that a matrix makes nought. -/
def IsNull (rows : List (List Int)) (n : Nat) (p : Int) (out : List (List Int)) : Prop :=
  ∃ e, IsEch rows p e ∧ out = nullTo e n p n
theorem IsNull.unique {rows : List (List Int)} {n : Nat} {p : Int} (hp : Pr p) {a b : List (List Int)} (ha : IsNull rows n p a) (hb : IsNull rows n p b) : a = b := by
  obtain ⟨e, h, rfl⟩ := ha
  obtain ⟨e', h', rfl⟩ := hb
  rw [IsEch.unique hp h h']
theorem IsEch.plains {rows : List (List Int)} {p : Int} {e : List (List Int)} (h : IsEch rows p e) {n : Nat} (hn : rows.length = 0 ∨ ((rAt rows 0).length : Int) = n) : Plains e n p := by
  obtain ⟨O, k, hr, rfl⟩ := h
  intro i hi
  rw [rowsTab_length] at hi
  have h0 : (rAt rows 0).length = n := by
    rcases hn with h | h
    · have hl := hr.rref.lt i hi
      rw [rAt_ge (by omega)] at hl
      simp at hl
    · omega
  rw [rAt_rowsTab, if_pos hi]
  have h1 := hr.rref.lt i hi
  have h2 := hr.rref.len i hi
  rw [h0] at h1 h2
  exact ⟨h2, h1, hr.rref.pl i hi⟩
theorem IsEch.few {rows : List (List Int)} {p : Int} {e : List (List Int)} (h : IsEch rows p e) {n : Nat} (hn : rows.length = 0 ∨ ((rAt rows 0).length : Int) = n) : e.length ≤ n := by
  obtain ⟨O, k, hr, rfl⟩ := h
  rw [rowsTab_length]
  have hL : ∀ i, i < k → i ≤ leadN (O i) := by
    intro i
    induction i with
    | zero => intro _; omega
    | succ i ih => intro hi; have := ih (by omega); have := hr.rref.mono i (i + 1) (by omega) hi; omega
  rcases Nat.eq_zero_or_pos k with h0 | h0
  · omega
  · have h1 := hL (k - 1) (by omega)
    have h2 := hr.rref.lt (k - 1) (by omega)
    rcases hn with h | h
    · rw [rAt_ge (by omega)] at h2; simp at h2
    · omega

theorem Grid.bel {w w' : World} {B L m : Nat} {v : Value} {G : Nat → Nat} {R : Nat → List Int} {p : Int} (h : Grid w B v G m L R p) (hb : Below w.heap.size w w') : Grid w' B v G m L R p :=
  ⟨own_bel h.own hb, fun i hi => (h.row i hi).bel hb, h.len, h.pl, h.inj, h.ge⟩
theorem Grid.mat_any {w : World} {B L m : Nat} {v : Value} {G : Nat → Nat} {R : Nat → List Int} {p : Int} (h : Grid w B v G m L R p) (hm : m ≤ 64) (hp : p ≤ 65521) : ∃ A c, v = .slice A m c ∧ Mat w A m (rowsTab m R) := by
  rcases Nat.eq_zero_or_pos m with h0 | h0
  · subst h0
    rcases h.own.2 with ⟨hv, _⟩ | ⟨g, cap, cur, hv, _⟩
    · exact ⟨none, 0, hv, Mat.empty _ _⟩
    · exact ⟨_, _, hv, Mat.empty _ _⟩
  · obtain ⟨g, cap, rfl, _⟩ := h.form h0
    exact ⟨_, _, rfl, h.mat (Nat.le_refl _) hm hp⟩

/-- The same, with what the slice may hold. -/
theorem Grid.mat_cap {w : World} {B L m : Nat} {v : Value} {G : Nat → Nat} {R : Nat → List Int} {p : Int} (h : Grid w B v G m L R p) (hm : m ≤ 64) (hp : p ≤ 65521) : ∃ A c, v = .slice A m c ∧ Mat w A m (rowsTab m R) ∧ m ≤ c ∧ c ≤ 9223372036854775807 := by
  rcases h.own.2 with ⟨hv, h0⟩ | ⟨g, cap, cur, hv, _, _, h1, h2, _⟩
  · subst h0
    exact ⟨none, 0, hv, Mat.empty _ _, by omega, by omega⟩
  · subst hv
    refine ⟨_, cap, rfl, ?_, h1, h2⟩
    rcases Nat.eq_zero_or_pos m with h0 | h0
    · subst h0; exact Mat.empty _ _
    · exact h.mat (Nat.le_refl _) hm hp

end Go.Proofs.YtpikakapflebkaaGreat

namespace Go.Proofs.YtpikakapflebkaaGreat
open Go.RowKit Cl
attribute [local go_sem ↓] Go.wp_at_zero Go.wp_at_succ

theorem null1_any (A : Option Addr) (n c0 gc c : Nat) (xs : List Int) (w : World) (hx : Ints w A n xs) (hn : n ≤ 9223372036854775807) (hgc : w.cell? ⟨gc, 0, none⟩ = some (.int .i64 c)) :
    Calls Tryz.prog 95 #[.slice A n c0, .pointer (some ⟨gc, 0, none⟩)] w fun e w' => e = .returned (.bool (leadI xs == (c : Int))) ∧ ∃ k, w' = w.drewN k := by
  have C := Lib.hid (fun q => lead_any A n c0 xs (w.drewN q) (hx.drewN q) hn)
  go_enter Tryz.func95, Tryz.ntmps95
  go_wp2
  go_quiet ((go_at_call 96; first | exact quiet_add_left (lead_any _ _ _ _ _ (hx.drewN _) hn) | exact quiet_left (lead_any _ _ _ _ _ (hx.drewN _) hn) | exact quiet_left (lead_any _ _ _ _ _ hx hn)))
  go_wp2
  go_ret
  exact ⟨rfl, _, rfl⟩

theorem idx_null (A : Option Addr) (m d : Nat) (c n gc : Nat) (p : Int) (ech : List (List Int)) (w : World) (hx : Mat w A m ech) (hpl : Plains ech n p) (hn : n ≤ 64) (hm : m ≤ 64) (hgc : w.cell? ⟨gc, 0, none⟩ = some (.int .i64 c)) :
    Calls Tryz.prog 132 #[.slice A m d, .func (.func 95) #[] #[.pointer (some ⟨gc, 0, none⟩)]] w fun e w' => (∃ r : Int, e = .returned (.int .i64 r) ∧ -1 ≤ r ∧ r ≤ 64 ∧ decide (0 ≤ r) = !freeTo ech c m) ∧ ∃ k, w' = w.drewN k := by
  have hlen := Lib.hid hx.len
  have Hpl := Lib.hid hpl
  clear hpl
  go_enter Tryz.func132, Tryz.ntmps132
  go_wp2
  go_loopw [8] (fun i wr => ∃ (j q : Nat), j ≤ m ∧ i = .int .i64 j ∧ Hid (freeTo ech c j = true) ∧ wr = w.drewN q) (fun i _ => m - (intOf i).toNat)
  case atStart => exact ⟨0, 0, by omega, rfl, freeTo_zero _ _, rfl⟩
  case round =>
    obtain ⟨j, q, hj, rfl, hfr, rfl⟩ := hrel
    by_cases hlt : j < m
    · obtain ⟨b, o, rfl, hb, hc⟩ := hx.at_ (by omega)
      obtain ⟨Ak, ck, hck, hik⟩ := hc j hlt
      obtain ⟨q1, q2, q3⟩ := Hpl.out j (by have := hlen.out; omega)
      have hcl := null1_any Ak (rAt ech j).length ck gc c (rAt ech j) (w.drewN q) (hik.drewN q) (by omega) hgc
      have hoi := leadI_of (xs := rAt ech j) (by omega)
      by_cases hld : leadN (rAt ech j) = c
      · have hb : (leadI (rAt ech j) == (c : Int)) = true := by rw [hoi, hld]; simp
        rw [hb] at hcl
        have Hcl := Lib.hid hcl
        have Hfm := Lib.hid (freeTo_hit hld)
        have Hff : Hid (freeTo ech c m = false) := by
          apply Bool.eq_false_iff.2; intro h; exact freeTo_iff.1 h j hlt hld
        clear hcl hb hoi hld hc q1 q2 q3
        go_wp2_with (go_at_call 95; refine Hcl.out.mono ?_; rintro e w' ⟨rfl, k2, rfl⟩)
        go_ret
        exact ⟨⟨_, rfl, by omega, by omega, by rw [Hff.out]; exact decide_eq_true (by omega)⟩, _, rfl⟩
      · have hb : (leadI (rAt ech j) == (c : Int)) = false := by rw [hoi]; exact beq_eq_false_iff_ne.2 (by omega)
        rw [hb] at hcl
        have Hcl := Lib.hid hcl
        have Hfm := Lib.hid (freeTo_miss hld)
        clear hcl hb hoi hld hc q1 q2 q3
        go_wp2_with (go_at_call 95; refine Hcl.out.mono ?_; rintro e w' ⟨rfl, k2, rfl⟩)
        go_roundw
        case rel => exact ⟨j + 1, _, by omega, by go_num, by rw [Hfm.out]; exact hfr, rfl⟩
        case measure => simp [intOf]; omega
    · obtain rfl : j = m := by omega
      have Hff := hfr
      go_wp2
      go_ret
      exact ⟨⟨_, rfl, by omega, by omega, by rw [Hff.out]; rfl⟩, _, rfl⟩

theorem contains_any (A : Option Addr) (m d : Nat) (c n gc : Nat) (p : Int) (ech : List (List Int)) (w : World) (hx : Mat w A m ech) (hpl : Plains ech n p) (hn : n ≤ 64) (hm : m ≤ 64) (hgc : w.cell? ⟨gc, 0, none⟩ = some (.int .i64 c)) :
    Calls Tryz.prog 94 #[.slice A m d, .func (.func 95) #[] #[.pointer (some ⟨gc, 0, none⟩)]] w fun e w' => e = .returned (.bool (!freeTo ech c m)) ∧ ∃ k, w' = w.drewN k := by
  have C := Lib.hid (idx_null A m d c n gc p ech w hx hpl hn hm hgc)
  clear hpl hx hgc
  go_enter Tryz.func94, Tryz.ntmps94
  go_wp2_with (go_at_call 132; refine C.out.mono ?_; rintro e w' ⟨⟨r, rfl, hr1, hr2, hr3⟩, k2, rfl⟩; have Hr := Lib.hid hr3; clear hr3)
  go_ret
  exact ⟨ret_bool Hr.out, _, rfl⟩


set_option maxRecDepth 100000 in
set_option maxHeartbeats 4000000 in
theorem null_cap (A0 : Option Addr) (m c0 n : Nat) (rows : List (List Int)) (p : Int) (w : World) (hx : Mat w A0 m rows) (hok : nullOk rows n p = true) :
    Calls Tryz.prog 66 #[.slice A0 m c0, .int .i64 n, .int .i64 p] w fun e w' => ∃ A n' c' rows', e = .returned (.tuple #[.slice A n' c', .int .i64 0]) ∧ Mat w' A n' rows' ∧ IsNull rows n p rows' ∧ Below w.heap.size w w' ∧ n' ≤ c' ∧ c' ≤ 9223372036854775807 := by
  obtain ⟨i0, hi, hz0, hz1, hz2⟩ := info_parts rows_info
  obtain ⟨i1, hi1, hw0, hw1, hw2⟩ := info_parts int_info
  obtain ⟨hmat, hn0, hn64, hcol⟩ := nullOk_iff.1 hok
  obtain ⟨hp, h64, hrow⟩ := matOk_iff.1 hmat
  have Hp := Lib.hid ((isPrime_iff p).1 hp)
  have hp1 : 2 ≤ p := Hp.out.two
  have hp2 : p ≤ 65521 := Hp.out.max
  have hlen := hx.len
  have c1 := right_any A0 m c0 rows p w hx (by omega) (by omega)
  rw [matE_yes hmat] at c1
  have C1 := Lib.hid c1
  have C2 := Lib.hid (fun W (h : Mat W A0 m rows) => ech_yes A0 m c0 rows p W h hmat)
  have Hcol := Lib.hid hcol
  have hnn : n ≤ 64 := by omega
  have hm64 : m ≤ 64 := by omega
  have hnlt : ¬ ((n : Int) < 0) := by omega
  have hgt : ¬ ((64 : Int) < (n : Int)) := by omega
  -- what the first lines see of the matrix
  have hhead : m = 0 ∨ (∃ b o A1 c1, 0 < m ∧ A0 = some ⟨b, o, none⟩ ∧ w.cell? ⟨b, o, none⟩ = some (.slice A1 n c1)) := by
    rcases Nat.eq_zero_or_pos m with h | h
    · exact .inl h
    · obtain ⟨b, o, e, hb, hc⟩ := hx.at_ h
      obtain ⟨A1, c1, hc1, _⟩ := hc 0 h
      rw [Nat.add_zero, show (rAt rows 0).length = n by rcases hcol with h' | h' <;> omega] at hc1
      exact .inr ⟨b, o, A1, c1, h, e, hc1⟩
  clear c1 hcol hrow hmat hok hlen h64
  go_enter Tryz.func66, Tryz.ntmps66
  go_upto_region 1 with fail
  go_cut [39] (fun c wx => c = .bool false ∧ wx = w)
  case first =>
    rcases hhead with rfl | ⟨b, o, A1, c1, hpos, rfl, hc1⟩
    · go_wp2_with (go_at_call 92; refine C1.out.mono ?_; rintro e w' ⟨rfl, rfl⟩)
      go_meet
      exact ⟨by simp; omega, rfl⟩
    · have hd0 : decide ((0 : Int) < (m : Int)) = true := decide_eq_true (by omega)
      have hd1 : ((n : Int) != (n : Int)) = false := by simp
      have hpb : (0 : Int) < (m : Int) := by omega
      go_wp2_with (go_at_call 92; refine C1.out.mono ?_; rintro e w' ⟨rfl, rfl⟩)
      go_meet
      exact ⟨by simp; omega, rfl⟩
  case rest =>
    obtain ⟨rfl, rfl⟩ := hcut
    clear hhead C1
    go_wp2_with (go_at_call 93; refine (C2.out _ hx).mono ?_; rintro e w2 ⟨Ae, ne, ce, ech, rfl, hme, hE, hb2⟩)
    have hpl := hE.plains Hcol.out
    have hfw := hE.few Hcol.out
    have hne := hme.len
    have hne64 : ne ≤ 64 := by omega
    have HE := Lib.hid hE
    have Hpl := Lib.hid hpl
    have Hne := Lib.hid hne
    have hb3 := hb2
    clear hE hpl hb2 hx C2 hne
    go_loopw [10, 47] (fun v i wr => ∃ (c : Nat) (G : Nat → Nat), c ≤ n ∧ i = .int .i64 c ∧ Hid (Grid wr w2.heap.size v G (nullTo ech n p c).length n (rAt (nullTo ech n p n)) p) ∧ Below w2.heap.size w2 wr ∧ Hid (Mat wr Ae ne ech)) (fun _ i _ => n - (intOf i).toNat)
    case atStart => exact ⟨0, fun _ => 0, by omega, rfl, ⟨World.ownsRow_nil _ _ _ _, fun i hi => absurd hi (by simp [nullTo_zero]), fun i hi => absurd hi (by simp [nullTo_zero]), fun i hi => absurd hi (by simp [nullTo_zero]), fun i _ hi => absurd hi (by simp [nullTo_zero]), fun i hi => absurd hi (by simp [nullTo_zero])⟩, Below.refl _ _, hme⟩
    case round =>
      obtain ⟨c, G, hc, rfl, hgrid, hbel, hmr⟩ := hrel
      obtain ⟨wi, rfl⟩ : ∃ wi : World, wi = wr := ⟨_, rfl⟩
      by_cases hlt : c < n
      · have hcb : (c : Int) < (n : Int) := by omega
        have hs2 := hbel.size
        have hcb0 : (0 : Int) ≤ (c : Int) := by omega
        have hmk := make_ints n (by omega)
        have hone := Row.new wi 3 [(c : Int)]
        have hgc : (wi.alloc (.cells #[.int .i64 (c : Int)] 3)).cell? ⟨wi.heap.size, 0, none⟩ = some (.int .i64 (c : Int)) := hone.cell (i := 0) (by simp)
        have Cc := Lib.hid (contains_any Ae ne ce c n wi.heap.size p ech _ (hmr.out.bel ((Below.refl wi.heap.size wi).alloc (Nat.le_refl _) (.cells #[.int .i64 (c : Int)] 3))) Hpl.out hnn hne64 hgc)
        cases hfr : freeTo ech c ne with
        | false =>
          rw [hfr] at Cc
          have Hnu := Lib.hid (nullTo_held (e := ech) (n := n) (p := p) (c := c) (by rw [Hne.out]; exact hfr))
          have hb9 : Below wi.heap.size wi (wi.alloc (.cells #[.int .i64 (c : Int)] 3)) := (Below.refl _ _).alloc (Nat.le_refl _) _
          clear hfr hone hgc
          go_wp2_with (go_at_call 94; refine Cc.out.mono ?_; rintro e w' ⟨rfl, k2, rfl⟩)
          go_roundw
          case rel => exact ⟨c + 1, G, by omega, by go_num, by rw [Hnu.out]; exact hgrid.out.bel (below_drewN hb9 _), hbel.trans ((below_drewN hb9 _).mono hs2), hmr.out.bel (below_drewN hb9 _)⟩
          case measure => simp [intOf]; omega
        | true =>
          rw [hfr] at Cc
          have hsA : wi.heap.size + 1 ≤ (wi.alloc (.cells #[.int .i64 (c : Int)] 3)).heap.size := by simp
          have Cb := Lib.hid (Cc.out.mono (R' := fun e w' => e = .returned (.bool (!true)) ∧ Below (wi.heap.size + 1) (wi.alloc (.cells #[.int .i64 (c : Int)] 3)) w') (by rintro e w' ⟨he, k2, rfl⟩; exact ⟨he, below_drewN (Below.refl _ _) _⟩))
          have Hgr := Lib.hid (fun w4 (h : Below (wi.heap.size + 1) (wi.alloc (.cells #[.int .i64 (c : Int)] 3)) w4) => (show Below wi.heap.size wi w4 from ((Below.refl wi.heap.size wi).alloc (Nat.le_refl _) _).trans (h.mono (by omega))))
          have Hone := Lib.hid hone
          have Hfr := Lib.hid hfr
          clear hone hgc hfr Cc
          go_wp2_with (go_at_call 94; refine Cb.out.mono ?_; rintro e w4 ⟨rfl, hb4⟩; have hs4 := Nat.le_trans hsA hb4.size; have hone4 := Hone.out.below hb4 (Nat.lt_succ_self _); have hg4 : (w4.alloc (.cells (ints (List.replicate n 0)).toArray 3)).cell? ⟨wi.heap.size, 0, none⟩ = some (.int .i64 (c : Int)) := (hone4.alloc (.cells (ints (List.replicate n 0)).toArray 3)).cell (i := 0) (by simp); have hrow0 := Row.new w4 3 (List.replicate n 0); have hcz := hrow0.cell (i := c) (by simp; exact hlt); have hfz := hrow0.frozen c)
          have Hone4 := Lib.hid hone4
          have hgrid4 := hgrid.out.bel (Hgr.out _ hb4)
          have hmr4 := hmr.out.bel (Hgr.out _ hb4)
          have hbel4 := hbel.trans ((Hgr.out _ hb4).mono hs2)
          have hs24 := hbel4.size
          have hset0 : Hid (Row (w4.alloc (.cells ((ints (List.replicate n 0)).set c (.int .i64 1)).toArray 3)) w4.heap.size 3 (putTo ech n p c 0)) := by
            have := Row.new w4 3 ((List.replicate n 0).set c 1)
            rw [← ints_set] at this
            exact this
          have hbel0 : Hid (Below w4.heap.size w4 (w4.alloc (.cells ((ints (List.replicate n 0)).set c (.int .i64 1)).toArray 3))) := (Below.refl w4.heap.size w4).alloc (Nat.le_refl _) _
          have Hgrid4 := Lib.hid hgrid4
          have Hmr4 := Lib.hid hmr4
          have hlw : wi.heap.size < w4.heap.size := by omega
          clear hrow0 hcz hfz hg4 hone4 hgrid4 hmr4 hgrid hmr Hgr Cb Hone hb4 hbel
          go_loopw [60] (fun i wr => ∃ (k : Nat), k ≤ ne ∧ i = .int .i64 k ∧ Hid (Row wr w4.heap.size 3 (putTo ech n p c k)) ∧ Hid (Below w4.heap.size w4 wr)) (fun i _ => ne - (intOf i).toNat)
          case atStart => exact ⟨0, by omega, rfl, hset0, hbel0⟩
          case round =>
            obtain ⟨k, hk, rfl, hrw, hbw⟩ := hrel
            by_cases hkn : k < ne
            · obtain ⟨be, oe, rfl, hbe, hce⟩ := Hmr4.out.at_ (by omega)
              obtain ⟨Ak, ck, hck0, hik0⟩ := hce k hkn
              have hck := (hbw.out.cell (p := ⟨be, oe + k, none⟩) hbe).trans hck0
              obtain ⟨q1, q2, q3⟩ := Hpl.out k (by have := Hne.out; omega)
              rw [q1] at hck hck0 hik0
              have hoi := leadI_of (xs := rAt ech k) (by omega)
              have cf := fun W (h : Ints W Ak n (rAt ech k)) => lead_any Ak n ck (rAt ech k) W h (by omega)
              rw [hoi] at cf
              have Cf := Lib.hid cf
              have Hik := Lib.hid (hik0.bel hbw.out)
              have hkb : (k : Int) < (ne : Int) := by omega
              have hkb0 : (0 : Int) ≤ (k : Int) := by omega
              have hrwl := hrw.out.lt
              obtain ⟨bk, ok, rfl, hbk, hck2⟩ := hik0.at_ (by omega)
              have hcc0 := hck2 c hlt
              have hcc := (hbw.out.cell (p := ⟨bk, ok + c, none⟩) hbk).trans hcc0
              have hgc0 : w4.cell? ⟨wi.heap.size, 0, none⟩ = some (.int .i64 (c : Int)) := Hone4.out.cell (i := 0) (by simp)
              have hgc := (hbw.out.cell (p := ⟨wi.heap.size, 0, none⟩) hlw).trans hgc0
              obtain ⟨z1, z2⟩ := q3.small hp2 c
              have hco := hrw.out.cell (i := leadN (rAt ech k)) (by rw [putTo_length]; exact q2)
              have hfo := hrw.out.frozen (leadN (rAt ech k))
              have hset := Lib.hid (hrw.out.set (leadN (rAt ech k)) (red (-(nth (rAt ech k) c)) p))
              have hbs := Lib.hid (hbw.out.setCell (p := ⟨w4.heap.size, leadN (rAt ech k), none⟩) (Nat.le_refl _) (.int .i64 (red (-(nth (rAt ech k) c)) p)))
              have hccs := (hbs.out.cell (p := ⟨bk, ok + c, none⟩) hbk).trans hcc0
              have hgcs := (hbs.out.cell (p := ⟨wi.heap.size, 0, none⟩) hlw).trans hgc0
              have q2b : (leadN (rAt ech k) : Int) < (n : Int) := by omega
              have q2c : (0 : Int) ≤ (leadN (rAt ech k) : Int) := by omega
              have eneg : IntKind.i64.wrap (-(nth (rAt ech k) c)) = -(nth (rAt ech k) c) := IntWalk.i64_in _ (by omega)
              have Hput : Hid ((putTo ech n p c k).set (leadN (rAt ech k)) (red (-(nth (rAt ech k) c)) p) = putTo ech n p c (k + 1)) := rfl
              clear hoi cf hik0 hck0 hcc0 hgc0 hce q1 q3 hck2
              generalize leadN (rAt ech k) = ld at *
              go_wp2
              go_region_held3 (fun w' => w'.cell? ⟨wi.heap.size, 0, none⟩ = some (.int .i64 (c : Int)) ∧ w'.cell? ⟨bk, ok + c, none⟩ = some (.int .i64 (nth (rAt ech k) c)))
                (first | exact ⟨hgc, hcc⟩ | exact ⟨hgcs, hccs⟩ | go_keep)
                (first
                  | (go_at_call 96; refine (Cf.out _ Hik.out.drew).mono ?_; rintro e w' ⟨rfl, rfl⟩)
                  | (go_at_call 64; refine (red_any _ _ _ (by omega) (by omega) (by omega) (by omega)).mono ?_; rintro e w' ⟨rfl, rfl⟩))
              go_wp2
              go_roundw
              case rel => exact ⟨k + 1, by omega, by go_num, (by rw [← Hput.out]; exact hset.out.drew), hbs.out.drew⟩
              case measure => simp [intOf]; omega
            · obtain rfl : ne = k := by omega
              have hg9 := Hgrid4.out.bel hbw.out
              have hm9 := Hmr4.out.bel hbw.out
              have hb9 := hbel4.trans (hbw.out.mono hs24)
              have hnu := nullTo_free (e := ech) (n := n) (p := p) (c := c) (by rw [Hne.out]; exact Hfr.out)
              have hat := nullTo_at (e := ech) (n := n) (p := p) (c := c) (N := n) hlt (by rw [Hne.out]; exact Hfr.out)
              have hput : putTo ech n p c ne = putTo ech n p c ech.length := by rw [Hne.out]
              have hrw9 := hrw.out
              rw [hput, ← hat] at hrw9
              have hl9 : (rAt (nullTo ech n p n) (nullTo ech n p c).length).length = n := by rw [hat, putTo_length]
              have hp9 : Pl p (rAt (nullTo ech n p n) (nullTo ech n p c).length) := by rw [hat]; exact putTo_pl hp1
              have hlen9 : (nullTo ech n p (c + 1)).length = (nullTo ech n p c).length + 1 := by rw [hnu]; simp
              have hle9 := nullTo_len ech n p c
              have Hlen9 := Lib.hid hlen9
              have hown9 := hg9.own
              have hs9 := hb9.size
              clear hnu hat hput hlen9
              generalize hKK : (nullTo ech n p c).length = K at *
              go_wp2_with (at_builtin; refine wpList_append_lies _ (by rfl) _ _ _ (by rfl) w2.heap.size 22 i0 _ 1 24 Tryz.underlying44 hi hz0 hz1 hz2 rfl (by omega) u10 K (heads G n K) (by rfl) (hown9.alloc _) ⟨wr.heap.size, 0, none⟩ 1 1 [.slice (some ⟨w4.heap.size, 0, none⟩) n n] (by rfl) (by rfl) (World.news_of_block (cs := #[.slice (some ⟨w4.heap.size, 0, none⟩) n n]) (t := 22) (fr := (0, 0)) (heap_alloc_new wr _)) (by simp [Value.oneCell']) (by omega) (by unfold maxLen; omega) (by omega) (by simp; omega) (wr.heap.size + 1) (by simp) ?_; intro gg cap w3 hown3 hgrow hat hlt3)
              have hb10 := below_app' hb9 hown9 hgrow hs9
              have hg10 := Hgrid4.out.push hbw.out hs24 hrw9 hl9 hp9 hown3 hgrow
              have hm10 : Mat w3 Ae ne ech := hme.bel hb10
              clear hgrow hat hown3 hown9 hrw9
              go_wp2
              go_roundw
              case rel => exact ⟨c + 1, _, by omega, by go_num, by rw [Hlen9.out]; exact hg10, hb10, hm10⟩
              case measure => simp [intOf]; omega
      · obtain rfl : c = n := by omega
        go_wp2
        go_ret2
        obtain ⟨Av, cv, rfl, hm9, hv1, hv2⟩ := hgrid.out.mat_cap (by have := nullTo_len ech c p c; omega) hp2
        exact ⟨_, _, _, _, rfl, hm9, ⟨ech, HE.out, rowsTab_rAt _⟩, hb3.trans (hbel.mono hb3.size), hv1, hv2⟩
theorem null_yes (A0 : Option Addr) (m c0 n : Nat) (rows : List (List Int)) (p : Int) (w : World) (hx : Mat w A0 m rows) (hok : nullOk rows n p = true) :
    Calls Tryz.prog 66 #[.slice A0 m c0, .int .i64 n, .int .i64 p] w (GivesRows w 0 (IsNull rows n p)) :=
  (null_cap A0 m c0 n rows p w hx hok).mono fun _ _ ⟨A, n', c', r, h1, h2, h3, h4, _⟩ => ⟨A, n', c', r, h1, h2, h3, h4⟩

end Go.Proofs.YtpikakapflebkaaGreat

namespace Go.Proofs.YtpikakapflebkaaGreat
open Go.RowKit Cl
attribute [local go_sem ↓] Go.wp_at_zero Go.wp_at_succ

theorem nullOk_false {rows : List (List Int)} {n p : Int} (h : nullOk rows n p = false) : matOk rows p = false ∨ (matOk rows p = true ∧ (n < 0 ∨ (0 ≤ n ∧ 64 < n) ∨ (0 ≤ n ∧ n ≤ 64 ∧ 0 < rows.length ∧ ((rAt rows 0).length : Int) ≠ n))) := by
  cases hm : matOk rows p with
  | false => exact .inl rfl
  | true =>
    refine .inr ⟨rfl, ?_⟩
    by_cases h1 : n < 0
    · exact .inl h1
    · by_cases h2 : 64 < n
      · exact .inr (.inl ⟨by omega, h2⟩)
      · refine .inr (.inr ⟨by omega, by omega, ?_⟩)
        have h3 : ¬ (rows.length = 0 ∨ ((rAt rows 0).length : Int) = n) := fun h4 => by
          have := nullOk_iff.2 ⟨hm, by omega, by omega, h4⟩
          rw [h] at this; cases this
        exact ⟨Nat.pos_of_ne_zero fun e => h3 (.inl e), fun e => h3 (.inr e)⟩

set_option maxRecDepth 100000 in
theorem null_no (A : Option Addr) (m c : Nat) (rows : List (List Int)) (n p : Int) (w : World) (hx : Mat w A m rows) (h1 : -9223372036854775808 ≤ n) (h2 : n ≤ 9223372036854775807) (h3 : -9223372036854775808 ≤ p) (h4 : p ≤ 9223372036854775807) (hok : nullOk rows n p = false) :
    Calls Tryz.prog 66 #[.slice A m c, .int .i64 n, .int .i64 p] w fun e w' => e = .returned (.tuple #[.slice none 0 0, .int .i64 1]) ∧ w = w' := by
  have c1 := right_any A m c rows p w hx h3 h4
  rcases nullOk_false hok with h | ⟨h, h5⟩
  · rw [matE_no h] at c1
    have C1 := Lib.hid c1
    clear c1 h hok
    go_enter Tryz.func66, Tryz.ntmps66
    go_wp2_with (go_at_call 92; refine C1.out.mono ?_; rintro e w' ⟨rfl, rfl⟩)
    go_ret2
    exact ⟨rfl, rfl⟩
  · rw [matE_yes h] at c1
    have C1 := Lib.hid c1
    clear c1 hok
    rcases h5 with h5 | ⟨h5, h6⟩ | ⟨h5, h6, h7, h8⟩
    · clear h
      go_enter Tryz.func66, Tryz.ntmps66
      go_wp2_with (go_at_call 92; refine C1.out.mono ?_; rintro e w' ⟨rfl, rfl⟩)
      go_ret2
      exact ⟨rfl, rfl⟩
    · have h5' : ¬ n < 0 := by omega
      clear h
      go_enter Tryz.func66, Tryz.ntmps66
      go_wp2_with (go_at_call 92; refine C1.out.mono ?_; rintro e w' ⟨rfl, rfl⟩)
      go_ret2
      exact ⟨rfl, rfl⟩
    · have hl := hx.len
      obtain ⟨b, o, rfl, hb, hc⟩ := hx.at_ (by omega)
      obtain ⟨A1, c1, hc1, _⟩ := hc 0 (by omega)
      rw [Nat.add_zero] at hc1
      have h5' : ¬ n < 0 := by omega
      have h6' : ¬ (64 : Int) < n := by omega
      have hd0 : decide ((0 : Int) < (m : Int)) = true := decide_eq_true (by omega)
      have hd1 : (((rAt rows 0).length : Int) != n) = true := by simpa using h8
      have hpb : (0 : Int) < (m : Int) := by omega
      clear h hc h8 hl h7
      go_enter Tryz.func66, Tryz.ntmps66
      go_wp2_with (go_at_call 92; refine C1.out.mono ?_; rintro e w' ⟨rfl, rfl⟩)
      go_ret2
      exact ⟨rfl, rfl⟩

end Go.Proofs.YtpikakapflebkaaGreat

namespace Go.Proofs.YtpikakapflebkaaGreat
open Cl

theorem Pl.of_all {p : Int} {xs : List Int} (hp : 1 ≤ p) (h : xs.all (fun x => decide (0 ≤ x) && decide (x < p)) = true) : Pl p xs := fun i => by
  by_cases hi : i < xs.length
  · have := List.all_eq_true.1 h (nth xs i) (nth_mem hi)
    simpa using this
  · rw [nth_ge (by omega)]; omega
theorem sp_two {p : Int} {L m : Nat} {O : Nat → List Int} {v : Nat → Int} (a b : Int) (i j : Nat) (hi : i < m) (hj : j < m) (h : ∀ k, k < L → (a * nth (O i) k + b * nth (O j) k) % p = v k % p) : Sp p L (Rs m O) v :=
  (Sp.add (Sp.smul a (Sp.mem ⟨i, hi, rfl⟩)) (Sp.smul b (Sp.mem ⟨j, hj, rfl⟩))).cg fun k hk => Cg.iff_emod.2 (h k hk)

theorem ech_ex : IsEch [[1, 2], [2, 4], [0, 3]] 5 [[1, 0], [0, 1]] := by
  refine ⟨rAt [[1, 0], [0, 1]], 2, ⟨⟨by decide, fun k hk => ?_, by decide, by decide, fun j k h1 h2 => (by decide : ∀ k, k < 2 → ∀ j, j < k → leadN (rAt [[1, 0], [0, 1]] j) < leadN (rAt [[1, 0], [0, 1]] k)) k h2 j h1, fun j k h1 h2 h3 => (by decide : ∀ k, k < 2 → ∀ j, j < 2 → j ≠ k → nth (rAt [[1, 0], [0, 1]] j) (leadN (rAt [[1, 0], [0, 1]] k)) = 0) k h2 j h1 h3⟩, fun k hk => ?_, fun k hk => ?_⟩, by decide⟩
  · match k, hk with
    | 0, _ => exact Pl.of_all (by omega) (by decide)
    | 1, _ => exact Pl.of_all (by omega) (by decide)
  · match k, hk with
    | 0, _ => exact sp_two 1 2 0 1 (by decide) (by decide) (by decide)
    | 1, _ => exact sp_two 2 4 0 1 (by decide) (by decide) (by decide)
    | 2, _ => exact sp_two 0 3 0 1 (by decide) (by decide) (by decide)
  · match k, hk with
    | 0, _ => exact sp_two 1 1 0 2 (by decide) (by decide) (by decide)
    | 1, _ => exact sp_two 0 2 0 2 (by decide) (by decide) (by decide)
theorem ech_ex2 : IsEch [[1, 2, 3]] 5 [[1, 2, 3]] := by
  refine ⟨rAt [[1, 2, 3]], 1, ⟨⟨by decide, fun k hk => ?_, by decide, by decide, fun j k h1 h2 => by omega, fun j k h1 h2 h3 => by omega⟩, fun k hk => ?_, fun k hk => ?_⟩, by decide⟩
  · match k, hk with
    | 0, _ => exact Pl.of_all (by omega) (by decide)
  · match k, hk with
    | 0, _ => exact sp_two 1 0 0 0 (by decide) (by decide) (by decide)
  · match k, hk with
    | 0, _ => exact sp_two 1 0 0 0 (by decide) (by decide) (by decide)
end Go.Proofs.YtpikakapflebkaaGreat

namespace Go.Proofs.YtpikakapflebkaaGreat
open Go.RowKit Cl
attribute [local go_sem ↓] Go.wp_at_zero Go.wp_at_succ

theorem null_ex : IsNull [[1, 2, 3]] 3 5 [[3, 1, 0], [2, 0, 1]] := ⟨_, ech_ex2, by decide⟩

/-- Slices that are laid row by row read as their rows. -/
theorem Mat.lit {W : World} {b n : Nat} {rows : List (List Int)} (hb : b < W.heap.size) (hn : rows.length = n) (hs : n ≤ 64) (h : ∀ i, i < n → ∃ g, W.cell? ⟨b, i, none⟩ = some (.slice (some ⟨g, 0, none⟩) (rAt rows i).length (rAt rows i).length) ∧ Row W g 3 (rAt rows i)) (hp : ∀ i, i < n → Pl 1000 (rAt rows i)) : Mat W (some ⟨b, 0, none⟩) n rows := by
  refine ⟨hn, by omega, fun _ => ⟨b, 0, rfl, hb, fun i hi => ?_⟩⟩
  obtain ⟨g, h1, h2⟩ := h i hi
  rw [Nat.zero_add]
  exact ⟨_, _, h1, h2.ints (fun j => (hp i hi).i64 (by omega) j)⟩

theorem cell_new (W : World) (cs : Array Value) (t : TypeId) {g i : Nat} (hg : g = W.heap.size) : (W.alloc (.cells cs t)).cell? ⟨g, i, none⟩ = cs[i]? := by
  subst hg; exact cell_of_row _ _ i _ t (0, 0) (heap_alloc_new W _)

theorem mat3 (w : World) (a b c : List Int) (ha : Pl 1000 a) (hb : Pl 1000 b) (hc : Pl 1000 c) :
    Mat ((((w.alloc (.cells (ints a).toArray 3)).alloc (.cells (ints b).toArray 3)).alloc (.cells (ints c).toArray 3)).alloc (.cells #[.slice (some ⟨w.heap.size, 0, none⟩) a.length a.length, .slice (some ⟨w.heap.size + 1, 0, none⟩) b.length b.length, .slice (some ⟨w.heap.size + 1 + 1, 0, none⟩) c.length c.length] 22))
      (some ⟨w.heap.size + 1 + 1 + 1, 0, none⟩) 3 [a, b, c] := by
  have h1 := (((Row.new w 3 a).alloc (.cells (ints b).toArray 3)).alloc (.cells (ints c).toArray 3)).alloc (.cells #[.slice (some ⟨w.heap.size, 0, none⟩) a.length a.length, .slice (some ⟨w.heap.size + 1, 0, none⟩) b.length b.length, .slice (some ⟨w.heap.size + 1 + 1, 0, none⟩) c.length c.length] 22)
  have h2 := ((Row.new (w.alloc (.cells (ints a).toArray 3)) 3 b).alloc (.cells (ints c).toArray 3)).alloc (.cells #[.slice (some ⟨w.heap.size, 0, none⟩) a.length a.length, .slice (some ⟨w.heap.size + 1, 0, none⟩) b.length b.length, .slice (some ⟨w.heap.size + 1 + 1, 0, none⟩) c.length c.length] 22)
  have h3 := (Row.new ((w.alloc (.cells (ints a).toArray 3)).alloc (.cells (ints b).toArray 3)) 3 c).alloc (.cells #[.slice (some ⟨w.heap.size, 0, none⟩) a.length a.length, .slice (some ⟨w.heap.size + 1, 0, none⟩) b.length b.length, .slice (some ⟨w.heap.size + 1 + 1, 0, none⟩) c.length c.length] 22)
  refine Mat.lit (by simp) rfl (by omega) (fun i hi => ?_) (fun i hi => ?_)
  · match i, hi with
    | 0, _ => exact ⟨w.heap.size, by rw [cell_new _ _ _ (by simp)]; rfl, h1⟩
    | 1, _ => exact ⟨w.heap.size + 1, by rw [cell_new _ _ _ (by simp)]; rfl, by rw [World.size_alloc] at h2; exact h2⟩
    | 2, _ => exact ⟨w.heap.size + 1 + 1, by rw [cell_new _ _ _ (by simp)]; rfl, by rw [World.size_alloc, World.size_alloc] at h3; exact h3⟩
  · match i, hi with
    | 0, _ => exact ha
    | 1, _ => exact hb
    | 2, _ => exact hc
theorem mat2 (w : World) (a b : List Int) (ha : Pl 1000 a) (hb : Pl 1000 b) :
    Mat (((w.alloc (.cells (ints a).toArray 3)).alloc (.cells (ints b).toArray 3)).alloc (.cells #[.slice (some ⟨w.heap.size, 0, none⟩) a.length a.length, .slice (some ⟨w.heap.size + 1, 0, none⟩) b.length b.length] 22))
      (some ⟨w.heap.size + 1 + 1, 0, none⟩) 2 [a, b] := by
  have h1 := ((Row.new w 3 a).alloc (.cells (ints b).toArray 3)).alloc (.cells #[.slice (some ⟨w.heap.size, 0, none⟩) a.length a.length, .slice (some ⟨w.heap.size + 1, 0, none⟩) b.length b.length] 22)
  have h2 := (Row.new (w.alloc (.cells (ints a).toArray 3)) 3 b).alloc (.cells #[.slice (some ⟨w.heap.size, 0, none⟩) a.length a.length, .slice (some ⟨w.heap.size + 1, 0, none⟩) b.length b.length] 22)
  refine Mat.lit (by simp) rfl (by omega) (fun i hi => ?_) (fun i hi => ?_)
  · match i, hi with
    | 0, _ => exact ⟨w.heap.size, by rw [cell_new _ _ _ (by simp)]; rfl, h1⟩
    | 1, _ => exact ⟨w.heap.size + 1, by rw [cell_new _ _ _ (by simp)]; rfl, by rw [World.size_alloc] at h2; exact h2⟩
  · match i, hi with
    | 0, _ => exact ha
    | 1, _ => exact hb
theorem mat1 (w : World) (a : List Int) (ha : Pl 1000 a) :
    Mat ((w.alloc (.cells (ints a).toArray 3)).alloc (.cells #[.slice (some ⟨w.heap.size, 0, none⟩) a.length a.length] 22))
      (some ⟨w.heap.size + 1, 0, none⟩) 1 [a] := by
  have h1 := (Row.new w 3 a).alloc (.cells #[.slice (some ⟨w.heap.size, 0, none⟩) a.length a.length] 22)
  refine Mat.lit (by simp) rfl (by omega) (fun i hi => ?_) (fun i hi => ?_)
  · match i, hi with
    | 0, _ => exact ⟨w.heap.size, by rw [cell_new _ _ _ (by simp)]; rfl, h1⟩
  · match i, hi with
    | 0, _ => exact ha

/-- The example's plain rows. -/
theorem ech_call (w : World) : Calls Tryz.prog 93 #[.slice (some ⟨w.heap.size + 1 + 1 + 1, 0, none⟩) 3 3, .int .i64 5]
    ((((w.alloc (.cells #[.int .i64 1, .int .i64 2] 3)).alloc (.cells #[.int .i64 2, .int .i64 4] 3)).alloc (.cells #[.int .i64 0, .int .i64 3] 3)).alloc (.cells #[.slice (some ⟨w.heap.size, 0, none⟩) 2 2, .slice (some ⟨w.heap.size + 1, 0, none⟩) 2 2, .slice (some ⟨w.heap.size + 1 + 1, 0, none⟩) 2 2] 22))
    fun e w' => ∃ A c, e = .returned (.tuple #[.slice A 2 c, .int .i64 0]) ∧ Mat w' A 2 [[1, 0], [0, 1]] ∧ Below w.heap.size w w' := by
  have hm := mat3 w [1, 2] [2, 4] [0, 3] (Pl.of_all (by omega) (by decide)) (Pl.of_all (by omega) (by decide)) (Pl.of_all (by omega) (by decide))
  refine (ech_yes _ 3 3 _ 5 _ hm (by decide)).mono ?_
  rintro e w' ⟨A, n, c, rows', rfl, h1, h2, h3⟩
  obtain rfl := h2.unique ((isPrime_iff 5).1 (by decide)) ech_ex
  obtain rfl : 2 = n := h1.len
  exact ⟨A, c, rfl, h1, ((((((Below.refl _ _).alloc (Nat.le_refl _) _).alloc (by simp) _).alloc (by simp; omega) _).alloc (by simp; omega) _)).trans (h3.mono (by simp; omega))⟩
theorem null_call (w : World) : Calls Tryz.prog 66 #[.slice (some ⟨w.heap.size + 1, 0, none⟩) 1 1, .int .i64 3, .int .i64 5]
    ((w.alloc (.cells #[.int .i64 1, .int .i64 2, .int .i64 3] 3)).alloc (.cells #[.slice (some ⟨w.heap.size, 0, none⟩) 3 3] 22))
    fun e w' => ∃ A c, e = .returned (.tuple #[.slice A 2 c, .int .i64 0]) ∧ Mat w' A 2 [[3, 1, 0], [2, 0, 1]] ∧ Below w.heap.size w w' := by
  have hm := mat1 w [1, 2, 3] (Pl.of_all (by omega) (by decide))
  refine (null_yes _ 1 1 3 _ 5 _ hm (by decide)).mono ?_
  rintro e w' ⟨A, n, c, rows', rfl, h1, h2, h3⟩
  obtain rfl := h2.unique ((isPrime_iff 5).1 (by decide)) null_ex
  obtain rfl : 2 = n := h1.len
  exact ⟨A, c, rfl, h1, ((((Below.refl _ _).alloc (Nat.le_refl _) _).alloc (by simp) _)).trans (h3.mono (by simp; omega))⟩
end Go.Proofs.YtpikakapflebkaaGreat

namespace Go.Proofs.YtpikakapflebkaaGreat
open Go.RowKit Cl
attribute [local go_sem ↓] Go.wp_at_zero Go.wp_at_succ

theorem IsEch.short {rows : List (List Int)} {p : Int} {e : List (List Int)} (h : IsEch rows p e) (hm : matOk rows p = true) (i : Nat) : (rAt e i).length ≤ 64 := by
  obtain ⟨O, k, hr, rfl⟩ := h
  obtain ⟨hp, h64, hrow⟩ := matOk_iff.1 hm
  rw [rAt_rowsTab]
  split
  · next hi =>
    rw [hr.rref.len i hi]
    rcases Nat.eq_zero_or_pos rows.length with h0 | h0
    · rw [rAt_ge (by omega)]; simp
    · exact (hrow 0 h0).1
  · simp
theorem IsNull.short {rows : List (List Int)} {n : Nat} {p : Int} {e : List (List Int)} (h : IsNull rows n p e) (i : Nat) : (rAt e i).length ≤ n := by
  obtain ⟨O, hr, rfl⟩ := h
  by_cases hi : i < (nullTo O n p n).length
  · obtain ⟨c, _, _, h2⟩ := nullTo_row hi
    rw [h2, putTo_length]; omega
  · rw [rAt_ge (by omega)]; simp
theorem ints_none (w : World) (A : Option Addr) : Ints w A 0 [] := ⟨rfl, fun h => absurd h (by omega), fun i => by rw [nth_ge (by simp)]; exact I64.zero⟩
theorem same_ints (A B : Option Addr) (n m c d : Nat) (xs ys : List Int) (w : World) (hx : Ints w A n xs) (hy : Ints w B m ys) (hn : n ≤ 9223372036854775807) (he : xs = ys) :
    Calls Tryz.prog 18 #[.slice A n c, .slice B m d] w fun e w' => e = .returned (.bool true) ∧ Below w.heap.size w w' := by
  have hm : m ≤ 9223372036854775807 := by have := hx.len; have := hy.len; subst he; omega
  refine (same06_any A B n m c d xs ys w hx hy hn hm).mono ?_
  rintro e w' ⟨rfl, k, rfl⟩
  exact ⟨ret_bool (eqI_yes he), below_drewN (Below.refl _ _) _⟩
/-- Both answers of what is no matrix. -/
theorem ech_bad (A : Option Addr) (m c : Nat) (rows : List (List Int)) (p : Int) (w : World) (hx : Mat w A m rows) (h3 : -9223372036854775808 ≤ p) (h4 : p ≤ 9223372036854775807) (hok : matOk rows p = false) :
    Calls Tryz.prog 93 #[.slice A m c, .int .i64 p] w fun e w' => e = .returned (.tuple #[.slice none 0 0, .int .i64 1]) ∧ Below w.heap.size w w' :=
  (ech_no A m c rows p w hx h3 h4 hok).mono fun _ _ ⟨h, e⟩ => ⟨h, e ▸ Below.refl _ _⟩
theorem null_bad (A : Option Addr) (m c : Nat) (rows : List (List Int)) (n p : Int) (w : World) (hx : Mat w A m rows) (h1 : -9223372036854775808 ≤ n) (h2 : n ≤ 9223372036854775807) (h3 : -9223372036854775808 ≤ p) (h4 : p ≤ 9223372036854775807) (hok : nullOk rows n p = false) :
    Calls Tryz.prog 66 #[.slice A m c, .int .i64 n, .int .i64 p] w fun e w' => e = .returned (.tuple #[.slice none 0 0, .int .i64 1]) ∧ Below w.heap.size w w' :=
  (null_no A m c rows n p w hx h1 h2 h3 h4 hok).mono fun _ _ ⟨h, e⟩ => ⟨h, e ▸ Below.refl _ _⟩
/-- Chains of calls that make memory. -/
theorem below_then {w w1 w2 : World} (h : Below w.heap.size w w1) (k : Below w1.heap.size w1 w2) : Below w.heap.size w w2 := h.trans (k.mono h.size)
end Go.Proofs.YtpikakapflebkaaGreat

namespace Cl
open CRing (sum sum_congr sum_add mul_sum sum_mul sum_single sum_succ sum_eq_zero sum_comm)

theorem dotTo_cg (row v : List Int) {p : Int} (hp : 1 ≤ p) (k : Nat) : Cg p (dotTo row v p k) (sum k (fun i => nth row i * nth v i)) := by
  induction k with
  | zero => exact Cg.refl _ _
  | succ k ih =>
    rw [dotTo_succ, sum_succ]
    exact (Cg.emod_left _ _).trans (ih.add ((red_cg hp).mul (red_cg hp)))
theorem dotTo_zero {row v : List Int} {p : Int} (hp : 1 ≤ p) {k : Nat} (h : Cg p (sum k (fun i => nth row i * nth v i)) 0) : dotTo row v p k = 0 := by
  have hb := dotTo_bd row v hp k
  exact ((dotTo_cg row v hp k).trans h).eq_of_lt hb.1 hb.2 (by omega) (by omega)

/-- The numbers of a vector on the way. -/
theorem putTo_at {e : List (List Int)} {n : Nat} {p : Int} {c : Nat} (hc : c < n) (hl : ∀ k, k < e.length → leadN (rAt e k) < n) (hd : ∀ j k, j < k → k < e.length → leadN (rAt e j) < leadN (rAt e k)) {K : Nat} (hK : K ≤ e.length) :
    (∀ i, (∀ k, k < K → leadN (rAt e k) ≠ i) → nth (putTo e n p c K) i = if i = c then 1 else 0) ∧ ∀ k, k < K → nth (putTo e n p c K) (leadN (rAt e k)) = red (-(nth (rAt e k) c)) p := by
  induction K with
  | zero =>
    refine ⟨fun i _ => ?_, fun k hk => absurd hk (by omega)⟩
    unfold putTo
    rw [nth_set (by simpa using hc)]
    split
    · rfl
    · by_cases hi : i < n
      · rw [nth_lt (by simpa using hi)]; simp
      · exact nth_ge (by simp; omega)
  | succ K ih =>
    obtain ⟨h1, h2⟩ := ih (by omega)
    have hlt := hl K (by omega)
    refine ⟨fun i hi => ?_, fun k hk => ?_⟩
    · unfold putTo
      rw [nth_set (by rw [putTo_length]; exact hlt), if_neg (fun e => hi K (by omega) e.symm)]
      exact h1 i fun k hk => hi k (by omega)
    · unfold putTo
      rw [nth_set (by rw [putTo_length]; exact hlt)]
      by_cases e : k = K
      · subst e; rw [if_pos rfl]
      · have := hd k K (by omega) (by omega)
        rw [if_neg (by omega)]
        exact h2 k (by omega)
theorem sum_two {n a b : Nat} {f : Nat → Int} (ha : a < n) (hb : b < n) (hne : a ≠ b) (h : ∀ i, i < n → i ≠ a → i ≠ b → f i = 0) : sum n f = f a + f b := by
  have e : sum n f = sum n (fun i => (if i = a then f a else 0) + (if i = b then f b else 0)) := sum_congr fun i hi => by
    by_cases e1 : i = a
    · subst e1; rw [if_pos rfl, if_neg hne, Int.add_zero]
    · by_cases e2 : i = b
      · subst e2; rw [if_neg e1, if_pos rfl, Int.zero_add]
      · rw [if_neg e1, if_neg e2, h i hi e1 e2]; rfl
  have e1 : sum n (fun i => if i = a then f a else 0) = f a := by rw [sum_single ha (fun i _ hne => if_neg hne), if_pos rfl]
  have e2 : sum n (fun i => if i = b then f b else 0) = f b := by rw [sum_single hb (fun i _ hne => if_neg hne), if_pos rfl]
  rw [e, sum_add, e1, e2]

/-- A plain row makes a vector of its free column nought. -/
theorem row_null {e : List (List Int)} {n : Nat} {p : Int} (hp : 1 ≤ p) {O : Nat → List Int} {K : Nat} (hr : Rref n p K O) (he : e = rowsTab K O) {c : Nat} (hc : c < n) (hf : freeTo e c K = true) {k : Nat} (hk : k < K) :
    Cg p (sum n (fun i => nth (O k) i * nth (putTo e n p c K) i)) 0 := by
  have hel : e.length = K := by rw [he, rowsTab_length]
  have hre : ∀ i, i < K → rAt e i = O i := fun i hi => by rw [he, rAt_rowsTab, if_pos hi]
  have hfr := freeTo_iff.1 hf
  obtain ⟨h1, h2⟩ := putTo_at (e := e) (n := n) (p := p) hc (fun k hk => by rw [hel] at hk; rw [hre k hk]; exact hr.lt k hk) (fun j k hj hk => by rw [hel] at hk; rw [hre j (by omega), hre k hk]; exact hr.mono j k hj hk) (K := K) (by omega)
  have hck : c ≠ leadN (O k) := fun h => hfr k hk (by rw [hre k hk, h])
  rw [sum_two hc (hr.lt k hk) hck]
  · rw [h1 c (fun i hi => hfr i hi), if_pos rfl, hr.one k hk]
    have := h2 k hk
    rw [hre k hk] at this
    rw [this]
    exact ((Cg.refl _ _).add ((Cg.refl p 1).mul (red_cg hp))).trans (Cg.of_eq (by omega))
  · intro i hi hic hil
    by_cases h : ∃ j, j < K ∧ leadN (O j) = i
    · obtain ⟨j, hj, rfl⟩ := h
      have hjk : k ≠ j := fun e => hil (by rw [e])
      show nth (O k) (leadN (O j)) * _ = 0
      rw [hr.alone k j hk hj hjk, Int.zero_mul]
    · show _ * nth (putTo e n p c K) i = 0
      rw [h1 i (fun j hj e2 => h ⟨j, hj, by rw [← hre j hj]; exact e2⟩), if_neg hic, Int.mul_zero]
/-- What rows span makes it nought too. -/
theorem span_null {p : Int} {n K : Nat} {O : Nat → List Int} {v : List Int} (hr : Rref n p K O) (h : ∀ k, k < K → Cg p (sum n (fun i => nth (O k) i * nth v i)) 0) {u : Nat → Int} (hu : Sp p n (Rs K O) u) :
    Cg p (sum n (fun i => u i * nth v i)) 0 := by
  have he := hr.expand hu
  have h1 : Cg p (sum n (fun i => u i * nth v i)) (sum n (fun i => sum K (fun k => u (leadN (O k)) * nth (O k) i) * nth v i)) := sum_cg fun i hi => (he i hi).mul (Cg.refl _ _)
  have h2 : sum n (fun i => sum K (fun k => u (leadN (O k)) * nth (O k) i) * nth v i) = sum K (fun k => u (leadN (O k)) * sum n (fun i => nth (O k) i * nth v i)) := by
    rw [sum_congr (g := fun i => sum K (fun k => u (leadN (O k)) * nth (O k) i * nth v i)) (fun i _ => sum_mul _ _ _), sum_comm]
    refine sum_congr fun k _ => ?_
    rw [mul_sum]
    exact sum_congr fun i _ => Int.mul_assoc _ _ _
  rw [h2] at h1
  refine h1.trans (sum_cg_zero fun k hk => ?_)
  exact ((Cg.refl _ _).mul (h k hk)).trans (Cg.of_eq (Int.mul_zero _))

theorem filter_eq {n : Nat} {P Q : Nat → Bool} (h : ∀ i, i < n → P i = Q i) : ((List.range n).filter P).length = ((List.range n).filter Q).length := by
  congr 1
  refine List.filter_congr fun i hi => ?_
  exact h i (List.mem_range.1 hi)
theorem filter_ne (n : Nat) (P : Nat → Bool) {x : Nat} (hx : x < n) (hP : P x = true) : ((List.range n).filter (fun c => P c && c != x)).length + 1 = ((List.range n).filter P).length := by
  induction n with
  | zero => omega
  | succ n ih =>
    rw [List.range_succ, List.filter_append, List.filter_append, List.length_append, List.length_append]
    by_cases e : x = n
    · subst e
      have h1 : ((List.range x).filter (fun c => P c && c != x)).length = ((List.range x).filter P).length := filter_eq fun i hi => by
        have : (i != x) = true := by simp; omega
        rw [this, Bool.and_true]
      rw [h1]
      simp [List.filter_cons, hP]
    · have h1 := ih (by omega)
      have h2 : (n != x) = true := by simp; omega
      have h3 : [n].filter (fun c => P c && c != x) = [n].filter P := by simp [List.filter_cons, h2]
      rw [h3]
      omega
/-- As many free columns as columns less rows. -/
theorem nullTo_count {e : List (List Int)} {n : Nat} {p : Int} (hl : ∀ k, k < e.length → leadN (rAt e k) < n) (hd : ∀ j k, j < k → k < e.length → leadN (rAt e j) < leadN (rAt e k)) : (nullTo e n p n).length + e.length = n := by
  have key : ∀ K, K ≤ e.length → ((List.range n).filter (fun c => freeTo e c K)).length + K = n := by
    intro K
    induction K with
    | zero =>
      intro _
      rw [List.filter_eq_self.2 (fun i _ => freeTo_zero e i)]
      simp
    | succ K ih =>
      intro hK
      have h1 := ih (by omega)
      have h2 : ∀ c, freeTo e c (K + 1) = (freeTo e c K && c != leadN (rAt e K)) := fun c => by
        by_cases hh : leadN (rAt e K) = c
        · rw [freeTo_hit hh, hh]; simp
        · rw [freeTo_miss hh]
          have : (c != leadN (rAt e K)) = true := by simp; omega
          rw [this, Bool.and_true]
      have h3 := filter_ne n (fun c => freeTo e c K) (hl K (by omega)) (freeTo_iff.2 fun i hi => by have := hd i K hi (by omega); omega)
      rw [filter_eq (fun c _ => h2 c)]
      omega
  have := key e.length (Nat.le_refl _)
  unfold nullTo
  rw [List.length_map]
  exact this

theorem tmod_cg (a p : Int) : Cg p (Int.tmod a p) a := by
  have := Int.mul_tdiv_add_tmod a p
  exact ⟨-(a.tdiv p), by rw [Int.mul_neg]; omega⟩
theorem tmod_zero {a p : Int} (h : Cg p a 0) : Int.tmod a p = 0 := Int.tmod_eq_zero_of_dvd (Cg.zero_iff.1 h)
theorem tmod_bd (a : Int) {p : Int} (hp : 1 ≤ p) : -p < Int.tmod a p ∧ Int.tmod a p < p := by
  constructor
  · have := Int.lt_tmod_of_pos a (b := p) (by omega); omega
  · exact Int.tmod_lt_of_pos a (by omega)
/-- What a row makes of a sum of residues. -/
theorem dot_lin {row v w s : List Int} {p c : Int} (hp : 1 ≤ p) {n : Nat} (h : ∀ i, i < n → Cg p (nth s i) (nth v i + c * nth w i)) : Cg p (dotTo row v p n + c * dotTo row w p n - dotTo row s p n) 0 := by
  have h1 := dotTo_cg row v hp n
  have h2 := dotTo_cg row w hp n
  have h3 := dotTo_cg row s hp n
  have h4 : Cg p (sum n (fun i => nth row i * nth s i)) (sum n (fun i => nth row i * nth v i) + c * sum n (fun i => nth row i * nth w i)) := by
    have e : sum n (fun i => nth row i * nth v i) + c * sum n (fun i => nth row i * nth w i) = sum n (fun i => nth row i * (nth v i + c * nth w i)) := by
      rw [mul_sum, ← sum_add]
      exact sum_congr fun i _ => by grind
    rw [e]
    exact sum_cg fun i hi => (Cg.refl _ _).mul (h i hi)
  exact ((h1.add ((Cg.refl p c).mul h2)).sub (h3.trans h4)).trans (Cg.of_eq (by omega))
/-- The sum of a row's numbers at the leads times the plain rows' numbers, as the program makes it. -/
def leadSum (row : List Int) (O : Nat → List Int) (c : Nat) (p : Int) : Nat → Int
  | 0 => 0
  | k + 1 => Int.tmod (leadSum row O c p k + Int.tmod (nth row (leadN (O k))) p * nth (O k) c) p
theorem leadSum_cg (row : List Int) (O : Nat → List Int) (c : Nat) (p : Int) (k : Nat) : Cg p (leadSum row O c p k) (sum k (fun j => nth row (leadN (O j)) * nth (O j) c)) := by
  induction k with
  | zero => exact Cg.refl _ _
  | succ k ih =>
    rw [sum_succ]
    show Cg p (Int.tmod _ p) _
    exact (tmod_cg _ _).trans (ih.add ((tmod_cg _ _).mul (Cg.refl _ _)))
theorem leadSum_bd (row : List Int) (O : Nat → List Int) (c : Nat) {p : Int} (hp : 1 ≤ p) (k : Nat) : -p < leadSum row O c p k ∧ leadSum row O c p k < p := by
  cases k with
  | zero => show -p < 0 ∧ 0 < p; omega
  | succ k => exact tmod_bd _ hp
end Cl
