/- Contract: what a matrix makes nought: the document's. -/
import Derived.Test.YthpkpnpkkflfpaaFlinL
import Derived.Test.YthpkpnpkkflfpaaNull
import Derived.Deep.RegionWith
import Derived.Deep.DeepCutAuto
import Derived.Deep.CutBlock
namespace Go.Proofs.Ythpkpnpkkflfpaa
open Go.RowKit Cl
attribute [local go_sem ↓] Go.wp_at_zero Go.wp_at_succ

/-- The vectors that a matrix makes nought. -/
def IsNull (rows : List (List Int)) (n : Nat) (p : Int) (out : List (List Int)) : Prop :=
  ∃ e, IsEch rows p e ∧ out = nullTo e n p n
theorem IsNull.unique {rows : List (List Int)} {n : Nat} {p : Int} (hp : Pr p) {a b : List (List Int)} (ha : IsNull rows n p a) (hb : IsNull rows n p b) : a = b := by
  obtain ⟨e, h, rfl⟩ := ha
  obtain ⟨e', h', rfl⟩ := hb
  rw [IsEch.unique hp h h']
theorem IsEch.plains {rows : List (List Int)} {p : Int} {e : List (List Int)} (h : IsEch rows p e) {n : Nat} (hn : rows.length = 0 ∨ ((rAt rows 0).length : Int) = n) : Plains e n p := by
  obtain ⟨O, k, hr, rfl⟩ := h
  intro i hi
  rw [rowsTab_length] at hi
  have h0 : (rAt rows 0).length = n := by
    rcases hn with h | h
    · have hl := hr.rref.lt i hi
      rw [rAt_ge (by omega)] at hl
      simp at hl
    · omega
  rw [rAt_rowsTab, if_pos hi]
  have h1 := hr.rref.lt i hi
  have h2 := hr.rref.len i hi
  rw [h0] at h1 h2
  exact ⟨h2, h1, hr.rref.pl i hi⟩
theorem IsEch.few {rows : List (List Int)} {p : Int} {e : List (List Int)} (h : IsEch rows p e) {n : Nat} (hn : rows.length = 0 ∨ ((rAt rows 0).length : Int) = n) : e.length ≤ n := by
  obtain ⟨O, k, hr, rfl⟩ := h
  rw [rowsTab_length]
  have hL : ∀ i, i < k → i ≤ leadN (O i) := by
    intro i
    induction i with
    | zero => intro _; omega
    | succ i ih => intro hi; have := ih (by omega); have := hr.rref.mono i (i + 1) (by omega) hi; omega
  rcases Nat.eq_zero_or_pos k with h0 | h0
  · omega
  · have h1 := hL (k - 1) (by omega)
    have h2 := hr.rref.lt (k - 1) (by omega)
    rcases hn with h | h
    · rw [rAt_ge (by omega)] at h2; simp at h2
    · omega

theorem Grid.bel {w w' : World} {B L m : Nat} {v : Value} {G : Nat → Nat} {R : Nat → List Int} {p : Int} (h : Grid w B v G m L R p) (hb : Below w.heap.size w w') : Grid w' B v G m L R p :=
  ⟨own_bel h.own hb, fun i hi => (h.row i hi).bel hb, h.len, h.pl, h.inj, h.ge⟩
theorem Grid.mat_any {w : World} {B L m : Nat} {v : Value} {G : Nat → Nat} {R : Nat → List Int} {p : Int} (h : Grid w B v G m L R p) (hm : m ≤ 64) (hp : p ≤ 65521) : ∃ A c, v = .slice A m c ∧ Mat w A m (rowsTab m R) := by
  rcases Nat.eq_zero_or_pos m with h0 | h0
  · subst h0
    rcases h.own.2 with ⟨hv, _⟩ | ⟨g, cap, cur, hv, _⟩
    · exact ⟨none, 0, hv, Mat.empty _ _⟩
    · exact ⟨_, _, hv, Mat.empty _ _⟩
  · obtain ⟨g, cap, rfl, _⟩ := h.form h0
    exact ⟨_, _, rfl, h.mat (Nat.le_refl _) hm hp⟩

set_option maxRecDepth 100000 in
set_option maxHeartbeats 4000000 in
theorem rnull_yes (A0 : Option Addr) (m c0 n : Nat) (rows : List (List Int)) (p : Int) (w : World) (hx : Mat w A0 m rows) (hok : nullOk rows n p = true) :
    Calls Try.prog 36 #[.slice A0 m c0, .int .i64 n, .int .i64 p] w (GivesRows w 0 (IsNull rows n p)) := by
  obtain ⟨i0, hi, hz0, hz1, hz2⟩ := info_parts rows_info
  obtain ⟨i1, hi1, hw0, hw1, hw2⟩ := info_parts int_info
  obtain ⟨hmat, hn0, hn64, hcol⟩ := nullOk_iff.1 hok
  obtain ⟨hp, h64, hrow⟩ := matOk_iff.1 hmat
  have Hp := Lib.hid ((isPrime_iff p).1 hp)
  have hp1 : 2 ≤ p := Hp.out.two
  have hp2 : p ≤ 65521 := Hp.out.max
  have hlen := hx.len
  have c1 := rright_any A0 m c0 rows p w hx (by omega) (by omega)
  rw [hmat] at c1
  have C1 := Lib.hid c1
  have C2 := Lib.hid (fun W (h : Mat W A0 m rows) => rech_any A0 m c0 rows p W h hmat)
  have Hcol := Lib.hid hcol
  have hnn : n ≤ 64 := by omega
  have hnlt : ¬ ((n : Int) < 0) := by omega
  have hgt : ¬ ((64 : Int) < (n : Int)) := by omega
  -- what the first lines see of the matrix
  have hhead : m = 0 ∨ (∃ b o A1 c1, 0 < m ∧ A0 = some ⟨b, o, none⟩ ∧ w.cell? ⟨b, o, none⟩ = some (.slice A1 n c1)) := by
    rcases Nat.eq_zero_or_pos m with h | h
    · exact .inl h
    · obtain ⟨b, o, e, hb, hc⟩ := hx.at_ h
      obtain ⟨A1, c1, hc1, _⟩ := hc 0 h
      rw [Nat.add_zero, show (rAt rows 0).length = n by rcases hcol with h' | h' <;> omega] at hc1
      exact .inr ⟨b, o, A1, c1, h, e, hc1⟩
  clear c1 hcol hrow hmat hok hlen
  have hwalk : Calls Try.prog 36 #[.slice A0 m c0, .int .i64 n, .int .i64 p] w (GivesRows w 0 (IsNull rows n p)) := by
    go_enter Try.func36, Try.ntmps36
    go_upto_region 1 with fail
    go_cut [39] (fun c wx => c = .bool false ∧ ∃ q, wx = w.drewN q)
    case first =>
      rcases hhead with rfl | ⟨b, o, A1, c1, hpos, rfl, hc1⟩
      · go_wp2_with (go_at_call 47; refine C1.out.mono ?_; rintro e w' ⟨rfl, kr, rfl⟩)
        go_meet
        exact ⟨by simp; omega, _, rfl⟩
      · have hd0 : decide ((0 : Int) < (m : Int)) = true := decide_eq_true (by omega)
        have hd1 : ((n : Int) != (n : Int)) = false := by simp
        have hpb : (0 : Int) < (m : Int) := by omega
        go_wp2_with (go_at_call 47; refine C1.out.mono ?_; rintro e w' ⟨rfl, kr, rfl⟩)
        go_meet
        exact ⟨by simp; omega, _, rfl⟩
    case rest =>
      obtain ⟨rfl, q, rfl⟩ := hcut
      have hx1 : Mat (w.drewN q) A0 m rows := hx.bel (below_drewN (Below.refl _ _) _)
      have hb1 : Below w.heap.size w (w.drewN q) := below_drewN (Below.refl _ _) _
      clear hhead C1 hx
      generalize w.drewN q = w1 at hx1 hb1 ⊢
      go_wp2_with (go_at_call 33; refine (C2.out _ hx1).mono ?_; rintro e w2 ⟨Ae, ne, ce, ech, rfl, hme, hE, hb2⟩)
      have hpl := hE.plains Hcol.out
      have hfw := hE.few Hcol.out
      have hne := hme.len
      have HE := Lib.hid hE
      have Hpl := Lib.hid hpl
      have hb3 := hb1.trans (hb2.mono hb1.size)
      clear hE hpl hb1 hb2 hx1 C2
      go_loopw [10, 11] (fun v i wr => ∃ (c : Nat) (G : Nat → Nat), c ≤ n ∧ i = .int .i64 c ∧ Hid (Grid wr w2.heap.size v G (nullTo ech n p c).length n (rAt (nullTo ech n p n)) p) ∧ Below w2.heap.size w2 wr ∧ Hid (Mat wr Ae ne ech)) (fun _ i _ => n - (intOf i).toNat)
      case atStart => exact ⟨0, fun _ => 0, by omega, rfl, ⟨World.ownsRow_nil _ _ _ _, fun i hi => absurd hi (by simp [nullTo_zero]), fun i hi => absurd hi (by simp [nullTo_zero]), fun i hi => absurd hi (by simp [nullTo_zero]), fun i _ hi => absurd hi (by simp [nullTo_zero]), fun i hi => absurd hi (by simp [nullTo_zero])⟩, Below.refl _ _, hme⟩
      case round =>
        obtain ⟨c, G, hc, rfl, hgrid, hbel, hmr⟩ := hrel
        obtain ⟨wi, rfl⟩ : ∃ wi : World, wi = wr := ⟨_, rfl⟩
        by_cases hlt : c < n
        · have hcb : (c : Int) < (n : Int) := by omega
          have hs2 := hbel.size
          have hcb0 : (0 : Int) ≤ (c : Int) := by omega
          have hmk := make_ints n (by omega)
          have hrow0 := Row.new wi 3 (List.replicate n 0)
          have hcz := hrow0.cell (i := c) (by simp; exact hlt)
          have hfz := hrow0.frozen c
          have hset0 : Hid (Row (wi.alloc (.cells ((ints (List.replicate n 0)).set c (.int .i64 1)).toArray 3)) wi.heap.size 3 (putTo' ech n p c 0)) := by
            have := Row.new wi 3 ((List.replicate n 0).set c 1)
            rw [← ints_set] at this
            rw [putTo'_zero]; exact this
          have hbel0 : Hid (Below wi.heap.size wi (wi.alloc (.cells ((ints (List.replicate n 0)).set c (.int .i64 1)).toArray 3))) := (Below.refl wi.heap.size wi).alloc (Nat.le_refl _) _
          clear hrow0
          go_wp2
          clear hcz hfz
          go_loopw [13, 14] (fun f i wr => ∃ (k : Nat), k ≤ ne ∧ i = .int .i64 k ∧ f = .bool (freeTo ech c k) ∧ Hid (Row wr wi.heap.size 3 (putTo' ech n p c k)) ∧ Hid (Below wi.heap.size wi wr)) (fun _ i _ => ne - (intOf i).toNat)
          case atStart => exact ⟨0, by omega, rfl, rfl, hset0, hbel0⟩
          case round =>
            obtain ⟨k, hk, rfl, rfl, hrw, hbw⟩ := hrel
            by_cases hkn : k < ne
            · obtain ⟨be, oe, rfl, hbe, hce⟩ := hmr.out.at_ (by omega)
              obtain ⟨Ak, ck, hck0, hik0⟩ := hce k hkn
              have hck := (hbw.out.cell (p := ⟨be, oe + k, none⟩) hbe).trans hck0
              have hik := hik0.bel hbw.out
              obtain ⟨q1, q2, q3⟩ := Hpl.out k (by omega)
              rw [q1] at hck hik hck0 hik0
              have hoi := leadI_of (xs := rAt ech k) (by omega)
              have cf := fun W (h : Ints W Ak n (rAt ech k)) => first_any Ak n ck (rAt ech k) W h (by omega)
              rw [hoi] at cf
              have Cf := Lib.hid cf
              have Hik := Lib.hid hik
              have hkb : (k : Int) < (ne : Int) := by omega
              have hkb0 : (0 : Int) ≤ (k : Int) := by omega
              have hrwl := hrw.out.lt
              by_cases hld : leadN (rAt ech k) = c
              · have Hld := Lib.hid hld
                have hlb : ((leadN (rAt ech k) : Int) == (c : Int)) = true := by simp [hld]
                have Hput := Lib.hid (putTo'_hit (n := n) (p := p) hld)
                clear hld hoi cf hik hik0 hck0 hce q1 q3
                go_wp2_with (go_at_call 49; refine (Cf.out _ Hik.out).mono ?_; rintro e w' ⟨rfl, rfl⟩)
                go_roundw
                case rel => exact ⟨k + 1, by omega, by go_num, by rw [freeTo_hit Hld.out], (by rw [Hput.out]; exact hrw), hbw⟩
                case measure => simp [intOf]; omega
              · have Hld := Lib.hid hld
                have hlb : ((leadN (rAt ech k) : Int) == (c : Int)) = false := beq_eq_false_iff_ne.2 (by omega)
                have Hfm := Lib.hid (freeTo_miss hld)
                have Hput := Lib.hid (putTo'_miss (n := n) (p := p) hld)
                obtain ⟨bk, ok, rfl, hbk, hck2⟩ := hik0.at_ (by omega)
                have hcc0 := hck2 c hlt
                have hcc := (hbw.out.cell (p := ⟨bk, ok + c, none⟩) hbk).trans hcc0
                obtain ⟨z1, z2⟩ := q3.small hp2 c
                have hput9 := putTo'_pl (e := ech) (n := n) (p := p) (c := c) (k := k) hp1
                have hco := hrw.out.cell (i := leadN (rAt ech k)) (by rw [putTo'_length]; exact q2)
                have hfo := hrw.out.frozen (leadN (rAt ech k))
                have hset := Lib.hid (hrw.out.set (leadN (rAt ech k)) (red (-(nth (rAt ech k) c)) p))
                have hbs := Lib.hid (hbw.out.setCell (p := ⟨wi.heap.size, leadN (rAt ech k), none⟩) (Nat.le_refl _) (.int .i64 (red (-(nth (rAt ech k) c)) p)))
                have hcks := (hbs.out.cell (p := ⟨be, oe + k, none⟩) hbe).trans hck0
                have hccs := (hbs.out.cell (p := ⟨bk, ok + c, none⟩) hbk).trans hcc0
                have q2b : (leadN (rAt ech k) : Int) < (n : Int) := by omega
                have q2c : (0 : Int) ≤ (leadN (rAt ech k) : Int) := by omega
                have eneg : IntKind.i64.wrap (-(nth (rAt ech k) c)) = -(nth (rAt ech k) c) := IntWalk.i64_in _ (by omega)
                clear hld hoi cf hik hik0 hck0 hcc0 hce q1 q3 hck2 hput9
                generalize leadN (rAt ech k) = ld at *
                go_wp2_with (go_at_call 49; refine (Cf.out _ Hik.out).mono ?_; rintro e w' ⟨rfl, rfl⟩)
                go_region_held3 (fun w' => w'.cell? ⟨be, oe + k, none⟩ = some (.slice (some ⟨bk, ok, none⟩) n ck) ∧ w'.cell? ⟨bk, ok + c, none⟩ = some (.int .i64 (nth (rAt ech k) c)))
                  (first | exact ⟨hck, hcc⟩ | exact ⟨hcks, hccs⟩ | go_keep)
                  (first
                    | (go_at_call 49; refine (Cf.out _ Hik.out.drew).mono ?_; rintro e w' ⟨rfl, rfl⟩)
                    | (go_at_call 29; refine (rred_any _ _ _ (by omega) (by omega) (by omega) (by omega)).mono ?_; rintro e w' ⟨rfl, rfl⟩))
                go_wp2
                go_roundw
                case rel => exact ⟨k + 1, by omega, by go_num, by rw [Hfm.out], (by rw [Hput.out]; exact hset.out.drew), hbs.out.drew⟩
                case measure => simp [intOf]; omega
            · obtain rfl : ne = k := by omega
              have hg9 := hgrid.out.bel hbw.out
              have hm9 := hmr.out.bel hbw.out
              have hb9 := hbel.trans (hbw.out.mono hs2)
              cases hfr : freeTo ech c ne with
              | true =>
                have hnu := nullTo_free (e := ech) (n := n) (p := p) (c := c) (by rw [hne]; exact hfr)
                have hat := nullTo_at (e := ech) (n := n) (p := p) (c := c) (N := n) hlt (by rw [hne]; exact hfr)
                have hput : putTo' ech n p c ne = putTo ech n p c ech.length := by rw [putTo_free hfr, hne]
                have hrw9 := hrw.out
                rw [hput, ← hat] at hrw9
                have hl9 : (rAt (nullTo ech n p n) (nullTo ech n p c).length).length = n := by rw [hat, putTo_length]
                have hp9 : Pl p (rAt (nullTo ech n p n) (nullTo ech n p c).length) := by rw [hat]; exact putTo_pl hp1
                have hlen9 : (nullTo ech n p (c + 1)).length = (nullTo ech n p c).length + 1 := by rw [hnu]; simp
                have hle9 := nullTo_len ech n p c
                have Hlen9 := Lib.hid hlen9
                have hown9 := hg9.own
                have hs9 := hb9.size
                clear hnu hat hput hfr hlen9
                generalize hKK : (nullTo ech n p c).length = K at *
                go_wp2_with (at_builtin; refine wpList_append_lies _ (by rfl) _ _ _ (by rfl) w2.heap.size 39 i0 _ 1 24 Try.underlying32 hi hz0 hz1 hz2 rfl (by omega) u10 K (heads G n K) (by rfl) (hown9.alloc _) ⟨wr.heap.size, 0, none⟩ 1 1 [.slice (some ⟨wi.heap.size, 0, none⟩) n n] (by rfl) (by rfl) (World.news_of_block (cs := #[.slice (some ⟨wi.heap.size, 0, none⟩) n n]) (t := 39) (fr := (0, 0)) (heap_alloc_new wr _)) (by simp [Value.oneCell']) (by omega) (by unfold maxLen; omega) (by omega) (by simp; omega) (wr.heap.size + 1) (by simp) ?_; intro gg cap w3 hown3 hgrow hat hlt3)
                have hb10 := below_app' hb9 hown9 hgrow hs9
                have hg10 := hgrid.out.push hbw.out hs2 hrw9 hl9 hp9 hown3 hgrow
                have hm10 : Mat w3 Ae ne ech := hme.bel hb10
                clear hgrow hat hown3 hown9 hrw9
                go_wp2
                go_roundw
                case rel => exact ⟨c + 1, _, by omega, by go_num, by rw [Hlen9.out]; exact hg10, hb10, hm10⟩
                case measure => simp [intOf]; omega
              | false =>
                have Hnu := Lib.hid (nullTo_held (e := ech) (n := n) (p := p) (c := c) (by rw [hne]; exact hfr))
                have Hg9 := Lib.hid hg9
                have Hm9 := Lib.hid hm9
                clear hfr hg9 hm9
                go_wp2
                go_roundw
                case rel => exact ⟨c + 1, G, by omega, by go_num, by rw [Hnu.out]; exact Hg9, hb9, Hm9⟩
                case measure => simp [intOf]; omega
        · obtain rfl : c = n := by omega
          go_wp2
          go_ret2
          obtain ⟨Av, cv, rfl, hm9⟩ := hgrid.out.mat_any (by have := nullTo_len ech c p c; omega) hp2
          exact ⟨_, _, _, _, rfl, hm9, ⟨ech, HE.out, rowsTab_rAt _⟩, hb3.trans (hbel.mono hb3.size)⟩
  exact hwalk
