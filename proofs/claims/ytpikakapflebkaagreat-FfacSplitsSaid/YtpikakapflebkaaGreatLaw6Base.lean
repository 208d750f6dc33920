/- The document's example of layer 6, in plain numbers. No program in sight.
   Layer 6's statements: what they share.
   Layer 6's statements: contracts by polynomials, whatever list tells them.
   Layer 6's statements: contracts of powers and values, by polynomials.
   Contracts: the document's plain polynomials. -/
import Derived.Test.YtpikakapflebkaaGreatPolyB
import Derived.Test.YtpikakapflebkaaGreatNum
import Derived.Test.YtpikakapflebkaaGreatNatAll
import Derived.Test.YtpikakapflebkaaGreatFpolyTop
import Derived.Test.YtpikakapflebkaaGreatFlinBase
import Derived.Laws.BitsLemmas
namespace Cl
open CRing Poly
theorem pr_seven : Pr 7 := by
  rw [← isPrime_iff]; decide
def q7 : Prm := ⟨7, pr_seven⟩
theorem fromP_toP_of {q : Prm} {xs : List Int} (h : canon xs.length (nth xs) q.p = xs) : fromP (toP q xs) = xs := by rw [← canon_toP, h]
theorem len_toP_of {q : Prm} {xs : List Int} (h : canon xs.length (nth xs) q.p = xs) : (toP q xs).len = xs.length := by rw [← fromP_length, fromP_toP_of h]
theorem ne_toP_of {q : Prm} {xs : List Int} (h : canon xs.length (nth xs) q.p = xs) (h0 : 0 < xs.length) : toP q xs ≠ 0 := fun e => by
  have := len_toP_of h
  rw [e, len_zero] at this; omega
theorem ex_div : Poly.quo (toP q7 [1, 0, 0, 1]) (toP q7 [1, 2]) = toP q7 [1, 5, 4] ∧ Poly.rem (toP q7 [1, 0, 0, 1]) (toP q7 [1, 2]) = 0 := by
  refine div_eq ?_ ?_
  · rw [CRing.add_zero, ← toP_mulL, show mulL [1, 5, 4] [1, 2] q7.p = [1, 0, 0, 1] by decide +kernel]
  · rw [len_zero, len_toP_of (by decide +kernel)]; decide
theorem ex_quo : fromP (Poly.quo (toP q7 [1, 0, 0, 1]) (toP q7 [1, 2])) = [1, 5, 4] := by rw [ex_div.1]; exact fromP_toP_of (by decide +kernel)
theorem ex_ne : toP q7 [1, 2] ≠ 0 := ne_toP_of (by decide +kernel) (by decide)
theorem ex_ne2 : toP q7 [1, 0, 1] ≠ 0 := ne_toP_of (by decide +kernel) (by decide)
theorem ex_pow7 : toP q7 [0, 1] ^ 7 = toP q7 [0, 0, 0, 0, 0, 0, 0, 1] := by
  have h1 : toP q7 [0, 1] * toP q7 [0, 1] = toP q7 [0, 0, 1] := by rw [← toP_mulL, show mulL [0, 1] [0, 1] q7.p = [0, 0, 1] by decide +kernel]
  have h2 : toP q7 [0, 0, 1] * toP q7 [0, 1] = toP q7 [0, 0, 0, 1] := by rw [← toP_mulL, show mulL [0, 0, 1] [0, 1] q7.p = [0, 0, 0, 1] by decide +kernel]
  have h3 : toP q7 [0, 0, 0, 1] * toP q7 [0, 0, 0, 1] = toP q7 [0, 0, 0, 0, 0, 0, 1] := by rw [← toP_mulL, show mulL [0, 0, 0, 1] [0, 0, 0, 1] q7.p = [0, 0, 0, 0, 0, 0, 1] by decide +kernel]
  have h4 : toP q7 [0, 0, 0, 0, 0, 0, 1] * toP q7 [0, 1] = toP q7 [0, 0, 0, 0, 0, 0, 0, 1] := by rw [← toP_mulL, show mulL [0, 0, 0, 0, 0, 0, 1] [0, 1] q7.p = [0, 0, 0, 0, 0, 0, 0, 1] by decide +kernel]
  have e3 : toP q7 [0, 1] ^ 3 = toP q7 [0, 0, 0, 1] := by
    rw [CRing.pow_succ, CRing.pow_succ, CRing.pow_succ, CRing.pow_zero, CRing.one_mul, h1, h2]
  rw [show 7 = 3 + 3 + 1 from rfl, CRing.pow_succ, CRing.pow_add, e3, h3, h4]
theorem ex_pow : powR (toP q7 [0, 1]) 7 (toP q7 [1, 0, 1]) = toP q7 [0, 6] := by
  unfold powR
  rw [ex_pow7]
  refine (div_eq (q := toP q7 [0, 1, 0, 6, 0, 1]) ?_ ?_).2
  · have h := toP_addL (q := q7) (mulL [0, 1, 0, 6, 0, 1] [1, 0, 1] q7.p) [0, 6] 1
    rw [Zp.of_one, C_one, CRing.one_mul, toP_mulL] at h
    rw [← h, show addL (mulL [0, 1, 0, 6, 0, 1] [1, 0, 1] q7.p) [0, 6] 1 q7.p = [0, 0, 0, 0, 0, 0, 0, 1] by decide +kernel]
  · rw [len_toP_of (by decide +kernel), len_toP_of (by decide +kernel)]; decide
theorem ex_powl : fromP (powR (toP q7 [0, 1]) 7 (toP q7 [1, 0, 1])) = [0, 6] := by rw [ex_pow]; exact fromP_toP_of (by decide +kernel)
end Cl

namespace Go.Proofs.YtpikakapflebkaaGreat
open Go.RowKit Cl
attribute [local go_sem ↓] Go.wp_at_zero Go.wp_at_succ

theorem Ints.lit {w : World} {xs : List Int} (h : ∀ x ∈ xs, I64 x) : Ints (w.alloc (.cells (ints xs).toArray 3)) (some ⟨w.heap.size, 0, none⟩) xs.length xs :=
  (Row.new w 3 xs).ints (allI64_nth h)
theorem i64_list {xs : List Int} (h : xs.all (fun x => decide (0 ≤ x) && decide (x ≤ 9223372036854775807)) = true) : ∀ x ∈ xs, I64 x := fun x hx => by
  have := List.all_eq_true.1 h x hx
  simp only [Bool.and_eq_true, decide_eq_true_eq] at this
  exact I64.small this.1 this.2

/-- Are rows short? -/
def shortB (N : Nat) (rows : List (List Int)) : Bool := rows.all fun r => decide (r.length ≤ N)
theorem shortB_iff {N : Nat} {rows : List (List Int)} : shortB N rows = true ↔ ∀ i, i < rows.length → (rAt rows i).length ≤ N := by
  unfold shortB
  rw [List.all_eq_true]
  constructor
  · intro h i hi
    have := h _ (rAt_mem hi)
    simpa using this
  · intro h r hr
    obtain ⟨i, hi, rfl⟩ := List.getElem_of_mem hr
    have := h i hi
    rw [rAt_lt hi] at this
    simpa using this
/-- Two and three slices in a new block. -/
theorem mat_two {w : World} {A B : Option Addr} {n m c d : Nat} {xs ys : List Int} (hx : Ints w A n xs) (hy : Ints w B m ys) :
    Mat (w.alloc (.cells #[.slice A n c, .slice B m d] 22)) (some ⟨w.heap.size, 0, none⟩) 2 [xs, ys] :=
  ⟨rfl, by omega, fun _ => ⟨_, 0, rfl, by simp, fun i hi => by
    match i, hi with
    | 0, _ =>
      refine ⟨A, c, ?_, ?_⟩
      · rw [cell_of_row _ _ _ _ _ (0, 0) (heap_alloc_new w _)]
        show _ = some (Value.slice A xs.length c)
        rw [hx.len]; rfl
      · have := hx.alloc (.cells #[.slice A n c, .slice B m d] 22)
        rw [← hx.len] at this ⊢; exact this
    | 1, _ =>
      refine ⟨B, d, ?_, ?_⟩
      · rw [cell_of_row _ _ _ _ _ (0, 0) (heap_alloc_new w _)]
        show _ = some (Value.slice B ys.length d)
        rw [hy.len]; rfl
      · have := hy.alloc (.cells #[.slice A n c, .slice B m d] 22)
        rw [← hy.len] at this ⊢; exact this⟩⟩
theorem mat_three {w : World} {A B C : Option Addr} {n m k c d e : Nat} {xs ys zs : List Int} (hx : Ints w A n xs) (hy : Ints w B m ys) (hz : Ints w C k zs) :
    Mat (w.alloc (.cells #[.slice A n c, .slice B m d, .slice C k e] 22)) (some ⟨w.heap.size, 0, none⟩) 3 [xs, ys, zs] :=
  ⟨rfl, by omega, fun _ => ⟨_, 0, rfl, by simp, fun i hi => by
    match i, hi with
    | 0, _ =>
      refine ⟨A, c, ?_, ?_⟩
      · rw [cell_of_row _ _ _ _ _ (0, 0) (heap_alloc_new w _)]
        show _ = some (Value.slice A xs.length c)
        rw [hx.len]; rfl
      · have := hx.alloc (.cells #[.slice A n c, .slice B m d, .slice C k e] 22)
        rw [← hx.len] at this ⊢; exact this
    | 1, _ =>
      refine ⟨B, d, ?_, ?_⟩
      · rw [cell_of_row _ _ _ _ _ (0, 0) (heap_alloc_new w _)]
        show _ = some (Value.slice B ys.length d)
        rw [hy.len]; rfl
      · have := hy.alloc (.cells #[.slice A n c, .slice B m d, .slice C k e] 22)
        rw [← hy.len] at this ⊢; exact this
    | 2, _ =>
      refine ⟨C, e, ?_, ?_⟩
      · rw [cell_of_row _ _ _ _ _ (0, 0) (heap_alloc_new w _)]
        show _ = some (Value.slice C zs.length e)
        rw [hz.len]; rfl
      · have := hz.alloc (.cells #[.slice A n c, .slice B m d, .slice C k e] 22)
        rw [← hz.len] at this ⊢; exact this⟩⟩

end Go.Proofs.YtpikakapflebkaaGreat

namespace Go.Proofs.YtpikakapflebkaaGreat
open Go.RowKit Cl
attribute [local go_sem ↓] Go.wp_at_zero Go.wp_at_succ

section
variable {A B : Option Addr} {n m c d N M K : Nat} {p : Int} {w : World} {hp : Pr p} {a b : Poly (Zp ⟨p, hp⟩)}
end
end Go.Proofs.YtpikakapflebkaaGreat

namespace Go.Proofs.YtpikakapflebkaaGreat
open Go.RowKit Cl
attribute [local go_sem ↓] Go.wp_at_zero Go.wp_at_succ

theorem and_65535 (n : Int) : bits .and .i64 n 65535 = n % 65536 := by
  have h127 : (BitVec.ofInt 64 65535).toNat = 2 ^ 16 - 1 := by decide
  have key : (BitVec.ofInt 64 n &&& BitVec.ofInt 64 65535).toNat = (n % ((2 ^ 64 : Nat) : Int)).toNat % 2 ^ 16 := by
    rw [BitVec.toNat_and, BitVec.toNat_ofInt, h127, Nat.and_two_pow_sub_one_eq_mod]
  show IntKind.i64.wrap ((BitVec.ofInt 64 n &&& BitVec.ofInt 64 65535).toNat : Nat) = n % 65536
  rw [key, IntKind.wrap_i64]
  omega
section
variable {p : Int} {hp : Pr p} (a b : Poly (Zp ⟨p, hp⟩)) (x : Int)
theorem valR_bd : 0 ≤ valR a x ∧ valR a x < p := ⟨Zp.lo _, Zp.hi _⟩
theorem val_add' (u v : Zp ⟨p, hp⟩) : (u + v).val = (u.val + v.val) % p := by
  have h : Zp.of ⟨p, hp⟩ (u.val + v.val) = u + v := by rw [Zp.of_add, Zp.of_val, Zp.of_val]
  rw [← h, Zp.val_of]
theorem val_mul' (u v : Zp ⟨p, hp⟩) : (u * v).val = (u.val * v.val) % p := by
  have h : Zp.of ⟨p, hp⟩ (u.val * v.val) = u * v := by rw [Zp.of_mul, Zp.of_val, Zp.of_val]
  rw [← h, Zp.val_of]
theorem valR_add : (valR (a + b) x == addm (valR a x) (valR b x) p) = true := by
  refine beq_iff_eq.2 ?_
  unfold valR
  rw [Poly.ev_add hom_id, val_add']; rfl
theorem valR_mul : (valR (a * b) x == mulm (valR a x) (valR b x) p) = true := by
  refine beq_iff_eq.2 ?_
  unfold valR
  rw [Poly.ev_mul hom_id, val_mul']; rfl
theorem frob_rem {f : Poly (Zp ⟨p, hp⟩)} (hf : f ≠ 0) (N : Nat) (hN : p.toNat = N) : powR (a + b) N f = powR a N f + powR b N f := by
  have hpp := hp.two
  unfold powR
  rw [← Poly.rem_add _ _ hf, ← hN, (Poly.charP (q := ⟨p, hp⟩)).add_pow (by show Pr ((p.toNat : Nat) : Int); rw [Int.toNat_of_nonneg (by omega)]; exact hp)]
theorem pow_rem {f : Poly (Zp ⟨p, hp⟩)} (hf : f ≠ 0) (N M : Nat) : Poly.rem (powR a N f * powR a M f) f = powR a (N + M) f := by
  refine Poly.rem_eq_of_eqm hf (((powR_eqm a N hf).mul (powR_eqm a M hf)).trans ?_)
  rw [← CRing.pow_add]; exact Poly.Eqm.refl _ _
end
section
variable {A B C : Option Addr} {n m c d k e N M T : Nat} {p : Int} {w : World} {hp : Pr p} {a f : Poly (Zp ⟨p, hp⟩)} {ls : List Int}
theorem powmR (ha : Rd w A n a) (hf : Rd w C m f) (hl : Limbs w B k ls) (hT : limbs ls = T) (hn : n ≤ N) (hm : m ≤ M) (hk : k ≤ d) (hd : d ≤ 9223372036854775807) (hk2 : k ≤ 900000000) (hN : N ≤ 900000000) (hM : M ≤ 900000000) (h0 : f ≠ 0) :
    Calls Tryz.prog 41 #[.slice A n c, .agg #[.bool false, .slice B k d], .slice C m e, .int .i64 p] w (GivesRE w M (powR a T f) 0) := by
  obtain ⟨xs, hx, rfl⟩ := ha
  obtain ⟨ys, hy, rfl⟩ := hf
  subst hT
  have h1 := Cl.rem_len' (toP ⟨p, hp⟩ xs ^ limbs ls) h0
  have h3 : (toP ⟨p, hp⟩ ys).len ≤ m := len_le_toP hy.len
  have hs : ¬ signN false (lmN ls k) < 0 := by
    cases lmN ls k with
    | zero => exact fun h => absurd h (by decide)
    | succ t => exact fun h => absurd (show (1 : Int) < 0 from h) (by decide)
  exact (ppow_yes A B C n c k d m e false xs ls ys p w hp hx hl hy (by omega) (by omega) hk2 hk hd hs h0).mono fun e w' h => GivesRE.of h (by show (Poly.rem _ _).len ≤ _; omega)
end
end Go.Proofs.YtpikakapflebkaaGreat

namespace Go.Proofs.YtpikakapflebkaaGreat
open Go.RowKit Cl
attribute [local go_sem ↓] Go.wp_at_zero Go.wp_at_succ

theorem _root_.Cl.RowA.pre {w : World} {g cap : Nat} {t : TypeId} {xs : List Int} (h : RowA w g t cap xs) {m : Nat} (hm : m ≤ xs.length) : RowA w g t cap (xs.take m) := by
  obtain ⟨cur, h1, h2, h3, h4, h5⟩ := h
  have hl : (xs.take m).length = m := by rw [List.length_take]; omega
  refine ⟨cur, h1, h2, h3, by rw [hl]; omega, ?_⟩
  rw [hl, show m = min m xs.length by omega, ← List.take_take, h5]
  simp [ints, List.map_take, show min m xs.length = m by omega]

section
variable {q : Prm}
theorem GivesP.later {w0 w w' : World} {a : Poly (Zp q)} {e : Ending} (h : GivesP w a e w') (hb : Below w0.heap.size w0 w) : GivesP w0 a e w' := by
  obtain ⟨A, c, he, hn⟩ := h
  exact ⟨A, c, he, newInts_sooner hn hb⟩
end
theorem _root_.Cl.NewInts.blk {t : TypeId} {w w' : World} {A : Option Addr} {c n : Nat} {ys : List Int} (h : NewInts t w w' A c n ys) (x : Addr) (hx : A = some x) : w.heap.size ≤ x.block := by
  rcases h.own.2 with ⟨hv, _⟩ | ⟨g, cap, cur, hv, hg, _⟩
  · injection hv with h1; rw [h1] at hx; cases hx
  · injection hv with h1; rw [h1] at hx; cases hx; exact hg
theorem _root_.Cl.Ints.other {w : World} {A : Option Addr} {n : Nat} {xs : List Int} (h : Ints w A n xs) {p : Addr} (hp : ∀ x, A = some x → x.block ≠ p.block) (u : Value) : Ints (w.setCell p u) A n xs :=
  ⟨h.len, fun hn => by
    obtain ⟨b, o, e, hb, hc⟩ := h.at_ hn
    refine ⟨b, o, e, by simpa [World.setCell] using hb, fun i hi => ?_⟩
    rw [World.cell?_setCell_other w p ⟨b, o + i, none⟩ u (fun e2 => hp _ e (by rw [e2]))]
    exact hc i hi, h.ok⟩

set_option maxRecDepth 100000 in
theorem qplain_any (A : Option Addr) (n c : Nat) (xs : List Int) (p : Int) (w : World) (hp : Pr p) (hx : Ints w A n xs) (hn : n * 8 ≤ 140737488355328) :
    Calls Tryz.prog 24 #[.slice A n c, .int .i64 p] w (GivesP w (toP ⟨p, hp⟩ xs)) := by
  obtain ⟨i0, hi, hz0, hz1, hz2⟩ := info_parts int_info
  have hp1 := hp.two
  have hp2 := hp.max
  have hcan : Hid (tab (plen (fun i => red (nth xs i) p) n) (fun i => red (nth xs i) p) = fromP (toP ⟨p, hp⟩ xs)) := by
    show _ = _
    rw [← canon_toP (q := ⟨p, hp⟩) xs, hx.len]; rfl
  have hi64 : Hid (∀ i, I64 (red (nth xs i) p)) := fun i => by have := red_bd (nth xs i) (p := p) (by omega); exact I64.small this.1 (by omega)
  go_enter Tryz.func24, Tryz.ntmps24
  go_wp2
  go_loopw [5, 6] (fun v i wr => ∃ k : Nat, k ≤ n ∧ i = .int .i64 k ∧ wr.ownsRow w.heap.size 3 1 v k (ints (tab k (fun i => red (nth xs i) p))) ∧ Below w.heap.size w wr) (fun _ i _ => n - (intOf i).toNat)
  case atStart => exact ⟨0, by omega, rfl, World.ownsRow_nil _ _ _ _, Below.refl _ _⟩
  case round =>
    obtain ⟨k, hk, rfl, hown, hbel⟩ := hrel
    by_cases hlt : k < n
    · obtain ⟨b, o, rfl, hb, hc⟩ := hx.at_ (by omega)
      have hcx : wr.cell? ⟨b, o + k, none⟩ = some (.int .i64 (nth xs k)) := (hbel.cell (p := ⟨b, o + k, none⟩) hb).trans (hc k hlt)
      obtain ⟨l1, l2⟩ := hx.ok k
      have hsz := hbel.size
      clear hc
      go_wp2_with (first
        | (go_at_call 51; refine (rred_any _ _ _ (by omega) (by omega) (by omega) (by omega)).mono ?_; rintro e w' ⟨rfl, rfl⟩)
        | (at_builtin; refine wpList_append_lies _ (by rfl) _ _ _ (by rfl) w.heap.size 3 i0 _ 1 8 Tryz.underlying22 hi hz0 hz1 hz2 rfl (by omega) u5 k (ints (tab k (fun i => red (nth xs i) p))) (by rfl) (hown.alloc _) ⟨wr.heap.size, 0, none⟩ 1 1 [.int .i64 (red (nth xs k) p)] (by rfl) (by rfl) (World.news_of_block (cs := #[.int .i64 (red (nth xs k) p)]) (t := 3) (fr := (0, 0)) (heap_alloc_new wr _)) (by simp [Value.oneCell']) (by omega) (by unfold maxLen; omega) (by omega) (by simp; omega) (wr.heap.size + 1) (by simp) ?_; intro gg cap w3 hown3 hgrow hat hlt3))
      have hb3 := below_app' hbel hown hgrow hsz
      rw [ints_tab_succ k (fun i => red (nth xs i) p)] at hown3
      clear hgrow hat hown
      go_wp2
      go_roundw
      case rel => exact ⟨k + 1, by omega, by go_num, hown3, hb3⟩
      case measure => simp [intOf]; omega
    · obtain rfl : k = n := by omega
      obtain ⟨wo, rfl⟩ : ∃ wo : World, wo = wr := ⟨_, rfl⟩
      rcases hown.2 with ⟨rfl, hk0⟩ | ⟨g, cap, cur, rfl, _⟩
      · have hk0' : k = 0 := hk0
        subst hk0'
        clear hk0
        have hfin : Hid (GivesP w (toP ⟨p, hp⟩ xs) (.returned (.slice none 0 0)) wo) := GivesP.of_own (ys := []) (World.ownsRow_nil _ _ _ _) (by rw [← hcan.out]; rfl) hbel
        go_wp2
        go_loopg [7] 1 (fun gk s wr => gk = 1 ∧ s = .int .i64 0 ∧ wr = wo)
        case atStart => exact ⟨rfl, rfl, rfl⟩
        case round =>
          obtain ⟨rfl, rfl, rfl⟩ := hrel
          go_wp2
          go_ret
          exact hfin.out
      · obtain ⟨g', e, hg, hra⟩ := RowA.of_own hown
        injection e with e
        subst e
        have Hra := Lib.hid hra
        clear hown hra
        have hcapk := Hra.out.le
        rw [tab_length] at hcapk
        have hcap2 : cap ≤ 9223372036854775807 := by have := hcapk.2; unfold maxLen at this; omega
        have hcap1 := hcapk.1
        clear hcapk
        go_wp2
        go_loopg [7] (k + 1) (fun gk s wr => ∃ m : Nat, m ≤ k ∧ m < gk ∧ s = .int .i64 m ∧ Hid (plen (fun i => red (nth xs i) p) k = plen (fun i => red (nth xs i) p) m) ∧ wr = wo)
        case atStart => exact ⟨k, by omega, by omega, rfl, rfl, rfl⟩
        case round =>
          obtain ⟨m, hm, hgk, rfl, hpl, rfl⟩ := hrel
          have hpre := Hra.out.pre (m := m) (by rw [tab_length]; omega)
          rw [tab_take hm] at hpre
          have hpi := hpre.own hg
          rw [tab_length] at hpi
          have hmc : (m : Int) ≤ (cap : Int) := by omega
          cases m with
          | zero =>
            have hfin : Hid (GivesP w (toP ⟨p, hp⟩ xs) (.returned (.slice (some ⟨g, 0, none⟩) 0 cap)) wr) := GivesP.of_own hpi (by rw [← hcan.out, hpl.out]; rfl) hbel
            clear hpi hpre
            go_wp2
            go_ret
            exact hfin.out
          | succ m =>
            have hcy := Hra.out.cell (i := m) (by rw [tab_length]; omega)
            rw [nth_tab, if_pos (by omega)] at hcy
            have hmp : (0 : Int) < (m : Int) + 1 := by omega
            by_cases hz : red (nth xs m) p = 0
            · rw [hz] at hcy
              have Hz := Lib.hid hz
              clear hz hpi hpre
              go_wp2
              go_roundg (gk - 1)
              case measure => omega
              case rel => exact ⟨m, by omega, by omega, by go_num, by show _ = _; rw [hpl.out, plen_drop Hz.out], rfl⟩
            · have hz' : (red (nth xs m) p == 0) = false := beq_eq_false_iff_ne.2 hz
              have hfin : Hid (GivesP w (toP ⟨p, hp⟩ xs) (.returned (.slice (some ⟨g, 0, none⟩) (m + 1) cap)) wr) := GivesP.of_own hpi (by rw [← hcan.out, hpl.out, plen_stop (f := fun i => red (nth xs i) p) hz]) hbel
              clear hz hpi hpre
              go_wp2
              go_ret
              exact hfin.out

/-- A coefficient; 0 beyond the end. -/
theorem qat_any (A : Option Addr) (n c : Nat) (xs : List Int) (i : Nat) (w : World) (hx : Ints w A n xs) (hn : n ≤ 9223372036854775807) (hi : i ≤ 9223372036854775807) :
    Calls Tryz.prog 111 #[.slice A n c, .int .i64 i] w fun e w' => e = .returned (.int .i64 (nth xs i)) ∧ w = w' := by
  have Hl := Lib.hid hx.len
  by_cases hlt : i < n
  · obtain ⟨b, o, rfl, hb, hc⟩ := hx.at_ (by omega)
    have hcx := hc i hlt
    have hlt' : (i : Int) < (n : Int) := by omega
    clear hc
    go_enter Tryz.func111, Tryz.ntmps111
    go_wp2
    go_ret
    exact ⟨rfl, rfl⟩
  · have Hz := Lib.hid (nth_ge (xs := xs) (i := i) (by rw [Hl.out]; omega))
    have hlt' : ¬ (i : Int) < (n : Int) := by omega
    go_enter Tryz.func111, Tryz.ntmps111
    go_wp2
    go_ret
    exact ⟨by rw [Hz.out]; rfl, rfl⟩
end Go.Proofs.YtpikakapflebkaaGreat
