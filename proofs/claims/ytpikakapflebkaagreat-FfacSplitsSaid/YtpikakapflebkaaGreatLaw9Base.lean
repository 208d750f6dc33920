/- Layer 9's laws: equal factors are the same; factors as the document's.
   The document's example of layer 9, in plain numbers. No program in sight.
   Layer 9's laws: the document's example, walked.
   Layer 9's laws: the document's order and its word on what is wrong; what is too great. -/
import Derived.Test.YtpikakapflebkaaGreatFfacTop
import Derived.Test.YtpikakapflebkaaGreatLaw8Base
import Derived.Test.YtpikakapflebkaaGreatPrsAll
import Derived.Test.YtpikakapflebkaaGreatPolyTop
import Derived.Test.YtpikakapflebkaaGreatRefBase
namespace Go.Proofs.YtpikakapflebkaaGreat
open Go.RowKit Cl
attribute [local go_sem ↓] Go.wp_at_zero Go.wp_at_succ

section
variable {q : Prm}
set_option maxRecDepth 100000 in
set_option maxHeartbeats 4000000 in
theorem same9 (A B : Option Addr) (n c d : Nat) (L : List (Poly (Zp q) × Nat)) (w : World) (hx : Prs w A n L) (hy : Prs w B n L) (hn : n ≤ 100000000) (hl : ∀ i (h : i < L.length), (L[i]).1.len ≤ 900000000 ∧ (L[i]).2 ≤ 900000000) :
    Calls Tryz.prog 13 #[.slice A n c, .slice B n d] w fun e w' => e = .returned (.bool true) ∧ ∃ k, w' = w.drewN k := by
  have hne : ((n : Int) != (n : Int)) = false := by simp
  have hL := Lib.hid hx.len
  go_enter Tryz.func13, Tryz.ntmps13
  go_wp2
  go_loopw [5] (fun i wr => ∃ k m : Nat, k ≤ n ∧ i = .int .i64 k ∧ wr = w.drewN m) (fun i _ => n - (intOf i).toNat)
  case atStart => exact ⟨0, 0, by omega, rfl, rfl⟩
  case round =>
    obtain ⟨k, m, hk, rfl, rfl⟩ := hrel
    by_cases hlt : k < n
    · obtain ⟨b, o, rfl, hb, hc⟩ := hx.at_ (by omega)
      obtain ⟨b', o', rfl, hb', hc'⟩ := hy.at_ (by omega)
      have hkl : k < L.length := by rw [hL.out]; exact hlt
      obtain ⟨Ai, ci, e1, e2, e3⟩ := hc k hkl
      obtain ⟨Bi, di, g1, g2, g3⟩ := hc' k hkl
      obtain ⟨hl1, hl2⟩ := hl k hkl
      clear hc hc'
      generalize L[k] = x at *
      obtain ⟨P, kk⟩ := x
      simp only at e1 e2 e3 g1 g2 g3 hl1 hl2
      rw [Nat.mul_comm 2 k] at e1 e2 g1 g2
      rw [← Nat.add_assoc] at e2 g2
      have hz : ((kk : Int) != (kk : Int)) = false := by simp
      have hlt' : (k : Int) < (n : Int) := by omega
      have E3 := Lib.hid e3
      have G3 := Lib.hid g3
      clear e3 g3
      go_wp2
      go_quiet ((go_at_call 18; first | exact quiet_add_ex (same06_true _ _ _ _ _ _ _ (E3.out.drewN _) (G3.out.drewN _) (by omega)) | exact quiet_ex (same06_true _ _ _ _ _ _ _ (E3.out.drewN _) (G3.out.drewN _) (by omega))))
      go_wp2
      go_roundw
      case rel => exact ⟨k + 1, _, by omega, by go_num, by first | rfl | exact World.drewN_drewN _ _ _⟩
      case measure => simp [intOf]; omega
    · go_wp2
      go_ret
      exact ⟨rfl, m, rfl⟩
end

theorem fac9_info : (Tryz.prog.info? 50).map (fun i => (i.zero, i.size, i.bytes)) = some (some (.agg #[.slice none 0 0, .int .i64 0]), 2, 32) := by kernel_rfl
section
variable {q : Prm}
theorem prs_entq {w : World} {A : Option Addr} {n : Nat} {M : List (Poly (Zp q) × Nat)} (h : Prs w A n M) :
    ∃ E : List (EntQ q), E.length = n ∧ E.map (·.2) = M ∧ (∀ x ∈ E, Ints w x.1.1 x.2.1.len (fromP x.2.1)) ∧
      (0 < n → ∃ b o, A = some ⟨b, o, none⟩ ∧ b < w.heap.size ∧ ∀ i (h : i < E.length), w.cell? ⟨b, o + 2 * i, none⟩ = some (.slice (E[i]).1.1 (E[i]).2.1.len (E[i]).1.2) ∧ w.cell? ⟨b, o + (2 * i + 1), none⟩ = some (.int .i64 ((E[i]).2.2 : Int))) := by
  rcases Nat.eq_zero_or_pos n with h0 | h0
  · have h1 := h.len
    rw [h0] at h1
    obtain rfl := List.eq_nil_of_length_eq_zero h1
    exact ⟨[], h0.symm, rfl, (fun x hx => by cases hx), fun h => by omega⟩
  · obtain ⟨b, o, e, hb, hc⟩ := h.at_ h0
    have hch : ∀ i : Fin M.length, ∃ x : EntQ q, x.2 = M[i.val] ∧ w.cell? ⟨b, o + 2 * i.val, none⟩ = some (.slice x.1.1 x.2.1.len x.1.2) ∧ w.cell? ⟨b, o + (2 * i.val + 1), none⟩ = some (.int .i64 (x.2.2 : Int)) ∧ Ints w x.1.1 x.2.1.len (fromP x.2.1) := fun i => by
      obtain ⟨Ai, ci, h1, h2, h3⟩ := hc i.val i.isLt
      exact ⟨((Ai, ci), M[i.val]), rfl, h1, h2, h3⟩
    refine ⟨List.ofFn fun i => Classical.choose (hch i), by rw [List.length_ofFn]; exact h.len, ?_, ?_, fun _ => ⟨b, o, e, hb, fun i hi => ?_⟩⟩
    · refine List.ext_getElem (by rw [List.length_map, List.length_ofFn]) fun i h1 h2 => ?_
      rw [List.getElem_map, List.getElem_ofFn]
      exact (Classical.choose_spec (hch ⟨i, h2⟩)).1
    · intro x hx
      obtain ⟨i, hi⟩ := List.mem_ofFn.1 hx
      have h3 := Classical.choose_spec (hch i)
      rw [hi] at h3
      exact h3.2.2.2
    · rw [List.getElem_ofFn]
      have hi' : i < M.length := by rw [List.length_ofFn] at hi; exact hi
      have h3 := Classical.choose_spec (hch ⟨i, hi'⟩)
      exact ⟨h3.2.1, h3.2.2.1⟩
set_option maxRecDepth 100000 in
set_option maxHeartbeats 4000000 in
/-- Factors as the document's. -/
theorem theirs9 (A : Option Addr) (n c : Nat) (M : List (Poly (Zp q) × Nat)) (w : World) (hx : Prs w A n M) (hn : n ≤ 100000000) (hM : ∀ x ∈ M, 0 < x.1.len ∧ x.1.len ≤ 900000000 ∧ x.2 ≤ 900000000) :
    Calls Tryz.prog 11 #[.slice A n c] w fun e w' => ∃ B d, e = .returned (.slice B n d) ∧ Prs w' B n M ∧ Below w.heap.size w w' := by
  obtain ⟨i0, hi, hz0, hz1, hz2⟩ := info_parts fac9_info
  obtain ⟨E, hEn, hEk, hE, hc⟩ := prs_entq hx
  have HEn := Lib.hid hEn
  have HEk := Lib.hid hEk
  have HE := Lib.hid hE
  have HM : Hid (∀ x ∈ E, 0 < x.2.1.len ∧ x.2.1.len ≤ 900000000 ∧ x.2.2 ≤ 900000000) := fun x hx => hM x.2 (by rw [← hEk]; exact List.mem_map.2 ⟨x, hx, rfl⟩)
  clear hx hEn hEk hE hM
  go_enter Tryz.func11, Tryz.ntmps11
  go_wp2
  go_loopw [3, 4] (fun v i wr => ∃ k : Nat, k ≤ n ∧ i = .int .i64 (k : Int) ∧ wr.ownsRow w.heap.size 50 2 v k (fcells (E.take k)) ∧ Below w.heap.size w wr) (fun _ i _ => n - (intOf i).toNat)
  case atStart => exact ⟨0, by omega, rfl, World.ownsRow_nil _ _ _ _, Below.refl _ _⟩
  case round =>
    obtain ⟨k, hk, rfl, hown, hbel⟩ := hrel
    by_cases hlt : k < n
    · obtain ⟨b, o, rfl, hb, hcc⟩ := hc (by omega)
      have hkE : k < E.length := by rw [HEn.out]; exact hlt
      obtain ⟨e1, e2⟩ := hcc k hkE
      obtain ⟨hm1, hm2, hm3⟩ := HM.out _ (List.getElem_mem hkE)
      have htk := Lib.hid (Poly.take_succ_get hkE)
      clear hcc
      generalize E[k] = x at *
      obtain ⟨⟨Ak, ck⟩, ⟨Q, kk⟩⟩ := x
      simp only at e1 e2 hm1 hm2 hm3
      rw [Nat.mul_comm 2 k] at e1 e2
      rw [← Nat.add_assoc] at e2
      have hcx := (hbel.cell (p := ⟨b, o + k * 2, none⟩) hb).trans e1
      have hcy := (hbel.cell (p := ⟨b, o + k * 2 + 1, none⟩) hb).trans e2
      have hsz := hbel.size
      have hlt' : (k : Int) < (n : Int) := by omega
      go_wp2
      go_region_held3 (fun w' => w'.cell? ⟨b, o + k * 2, none⟩ = some (.slice Ak Q.len ck) ∧ w'.cell? ⟨b, o + k * 2 + 1, none⟩ = some (.int .i64 (kk : Int)))
        (first | go_keep | (have hb3 := below_app hbel hown hgrow hsz; exact ⟨(hb3.cell (p := ⟨b, o + k * 2, none⟩) hb).trans e1, (hb3.cell (p := ⟨b, o + k * 2 + 1, none⟩) hb).trans e2⟩))
        (first
          | (refine step_append_lies _ (by rfl) _ _ _ (by rfl) w.heap.size 50 i0 _ 2 32 Tryz.underlying30 hi hz0 hz1 hz2 rfl (by omega) u3 k (fcells (E.take k)) (by rfl) ((hown.alloc _).drew) ⟨wr.heap.size, 0, none⟩ 1 1 [.slice Ak Q.len ck, .int .i64 (kk : Int)] (by rfl) (by rfl) (World.news_of_block (cs := #[.slice Ak Q.len ck, .int .i64 (kk : Int)]) (t := 50) (fr := (0, 0)) (heap_alloc_new wr _)) (by simp [Value.oneCell']) (by omega) (by unfold maxLen; omega) (by omega) (by simp; omega) (wr.heap.size + 1) (by simp) ?_; intro gg cap w3 hown3 hgrow hat hlt3))
      have hb3 := below_app hbel hown hgrow hsz
      have he : fcells (E.take k) ++ [.slice Ak Q.len ck, .int .i64 (kk : Int)] = fcells (E.take (k + 1)) := by rw [htk.out, fcells_snoc]; rfl
      rw [he] at hown3
      clear hgrow hat hown he
      go_wp2
      go_roundw
      case rel => exact ⟨k + 1, by omega, by go_num, hown3, hb3⟩
      case measure => simp [intOf]; omega
    · obtain rfl : k = n := by omega
      rw [List.take_of_length_le (by rw [HEn.out]; omega)] at hown
      have hown' := hown
      rw [← HEn.out] at hown'
      have hfl : Fls 50 wr w.heap.size u3 E := ⟨hown', fun x hx => by
        have h2 := HE.out x hx
        have h1 := (HM.out x hx).1
        refine ⟨h1, h2.bel hbel, fun y hy e => ?_⟩
        have h3 := h2.blk_lt h1 y hy
        have h4 := (hown'.lt _ e).1
        omega⟩
      obtain ⟨A9, c9, e9⟩ := hfl.slice
      have E9 := Lib.hid e9
      have Hprs : Hid (Prs wr A9 k M) := by
        rw [e9] at hfl
        have := hfl.prs
        rwa [HEk.out, HEn.out] at this
      clear hown hown' hfl e9
      rw [E9.out, HEn.out]
      go_wp2
      go_ret
      exact ⟨A9, c9, rfl, Hprs.out, hbel⟩
end
end Go.Proofs.YtpikakapflebkaaGreat

namespace Cl
open CRing Poly
theorem pr_five9 : Pr 5 := by
  rw [← isPrime_iff]; decide
abbrev q5 : Prm := ⟨5, pr_five9⟩
noncomputable abbrev ex9 : Poly (Zp q5) := toP q5 [1, 0, 1]
theorem y2_lin : toP q5 [2, 1] = lin (Zp.of q5 3) := Poly.ext fun i => by
  rw [co_toP, co_lin]
  match i with
  | 0 => exact Zp.ext (by decide +kernel)
  | 1 => exact Zp.ext (by decide +kernel)
  | i + 2 => rw [nth_ge (by simp), if_neg (by omega), if_neg (by omega)]; rfl
theorem y3_lin : toP q5 [3, 1] = lin (Zp.of q5 2) := Poly.ext fun i => by
  rw [co_toP, co_lin]
  match i with
  | 0 => exact Zp.ext (by decide +kernel)
  | 1 => exact Zp.ext (by decide +kernel)
  | i + 2 => rw [nth_ge (by simp), if_neg (by omega), if_neg (by omega)]; rfl
theorem y2_irr : (toP q5 [2, 1]).Irr := by rw [y2_lin]; exact lin_irr _
theorem y3_irr : (toP q5 [3, 1]).Irr := by rw [y3_lin]; exact lin_irr _
theorem y2_from : fromP (toP q5 [2, 1]) = [2, 1] := fromP_toP_of (by decide +kernel)
theorem y3_from : fromP (toP q5 [3, 1]) = [3, 1] := fromP_toP_of (by decide +kernel)
theorem y2_len : (toP q5 [2, 1]).len = 2 := by rw [← fromP_length, y2_from]; rfl
theorem y3_len : (toP q5 [3, 1]).len = 2 := by rw [← fromP_length, y3_from]; rfl
theorem y2_ne_y3 : toP q5 [2, 1] ≠ toP q5 [3, 1] := fun e => by
  have h := congrArg fromP e
  rw [y2_from, y3_from] at h
  exact absurd h (by decide)
theorem ex9_mul : ex9 = toP q5 [2, 1] * toP q5 [3, 1] := by
  rw [← toP_mulL]
  rw [show mulL [2, 1] [3, 1] q5.p = [1, 0, 1] by decide +kernel]
theorem ex9_ne : ex9 ≠ 0 := ne_toP_of (by decide +kernel) (by decide)
theorem ex9_len : ex9.len = 3 := len_toP_of (by decide +kernel)
theorem ex9_fac : IsFac ex9 [(toP q5 [2, 1], 1), (toP q5 [3, 1], 1)] := by
  have hv : ∀ f : Poly (Zp q5), f.Irr → val f ex9 = val f (toP q5 [2, 1]) + val f (toP q5 [3, 1]) := fun f hf => by
    rw [ex9_mul, hf.val_mul y2_irr.ne y3_irr.ne]
  classical
  refine ⟨?_, fun f n => ?_⟩
  · refine List.pairwise_cons.2 ⟨fun y hy => ?_, List.pairwise_singleton _ _⟩
    rw [List.mem_singleton] at hy
    subst hy
    show cmpI (fromP (toP q5 [2, 1])) (fromP (toP q5 [3, 1])) < 0
    rw [y2_from, y3_from]
    decide
  · constructor
    · intro h
      rcases List.mem_cons.1 h with h | h
      · obtain ⟨rfl, rfl⟩ := Prod.mk.inj h
        refine ⟨y2_irr, Nat.le_refl _, ?_⟩
        rw [hv _ y2_irr, y2_irr.val_irr y2_irr, y2_irr.val_irr y3_irr, if_pos rfl, if_neg y2_ne_y3]
      · obtain ⟨rfl, rfl⟩ := Prod.mk.inj (List.mem_singleton.1 h)
        refine ⟨y3_irr, Nat.le_refl _, ?_⟩
        rw [hv _ y3_irr, y3_irr.val_irr y2_irr, y3_irr.val_irr y3_irr, if_pos rfl, if_neg (fun e => y2_ne_y3 e.symm)]
    · rintro ⟨h1, h2, h3⟩
      rw [hv f h1, h1.val_irr y2_irr, h1.val_irr y3_irr] at h3
      by_cases e2 : f = toP q5 [2, 1]
      · rw [if_pos e2, if_neg (fun e => y2_ne_y3 (e2.symm.trans e))] at h3
        subst e2
        rw [← h3]; exact List.mem_cons_self
      · by_cases e3 : f = toP q5 [3, 1]
        · rw [if_neg e2, if_pos e3] at h3
          subst e3
          rw [← h3]; exact List.mem_cons_of_mem _ (List.mem_singleton.2 rfl)
        · rw [if_neg e2, if_neg e3] at h3; omega
noncomputable abbrev ex93 : Poly (Zp q3) := toP q3 [1, 0, 1]
theorem ex93_from : fromP ex93 = [1, 0, 1] := fromP_toP_of (by decide +kernel)
theorem ex93_len : ex93.len = 3 := by rw [← fromP_length, ex93_from]; rfl
theorem ex93_ne : ex93 ≠ 0 := ne_toP_of (by decide +kernel) (by decide)
theorem ex93_mon : ex93.Mon := by
  show ex93.co (ex93.len - 1) = 1
  rw [ex93_len, co_toP]; rfl
theorem ex93_irr : ex93.monic.Irr := by
  rw [ex93_mon.monic_eq]
  rcases irr_or_split ex93_mon (by rw [ex93_len]; omega) with h | ⟨g, hg, hd, h1, h2⟩
  · exact h
  · exfalso
    rw [ex93_len] at h2
    have hgl : g.len = 2 := by omega
    have he : g = lin (-(g.co 0)) := Poly.ext fun i => by
      rw [co_lin]
      match i with
      | 0 => rw [if_neg (by omega), if_pos rfl, CRing.neg_neg]
      | 1 =>
        rw [if_pos rfl]
        have : g.co (g.len - 1) = 1 := hg
        rwa [hgl] at this
      | i + 2 => rw [if_neg (by omega), if_neg (by omega), len_sh g (i + 2) (by omega)]
    rw [he, lin_dvd, ev_eq hom_id (toP_sh [1, 0, 1])] at hd
    have key : ∀ c : Zp q3, evN (fun a => a) ex93 c 3 ≠ 0 := fun c => by
      have h3 : c = Zp.of q3 0 ∨ c = Zp.of q3 1 ∨ c = Zp.of q3 2 := by
        have h4 := c.lo
        have h5 : c.val < 3 := c.hi
        have h6 : c.val = 0 ∨ c.val = 1 ∨ c.val = 2 := by omega
        rcases h6 with h6 | h6 | h6
        · exact .inl (by rw [← Zp.of_val c, h6])
        · exact .inr (.inl (by rw [← Zp.of_val c, h6]))
        · exact .inr (.inr (by rw [← Zp.of_val c, h6]))
      intro h
      have h7 := congrArg Zp.val h
      rcases h3 with rfl | rfl | rfl
      · exact absurd h7 (by decide +kernel)
      · exact absurd h7 (by decide +kernel)
      · exact absurd h7 (by decide +kernel)
    exact key _ hd
end Cl

namespace Go.Proofs.YtpikakapflebkaaGreat
open Go.RowKit Cl
attribute [local go_sem ↓] Go.wp_at_zero Go.wp_at_succ

/-- The example's factors as the law writes them. -/
theorem lit_fac9 (w : World) (b1 b2 : Nat) (c1 c2 : Nat) (h1 : Ints w (some ⟨b1, 0, none⟩) 2 [2, 1]) (h2 : Ints w (some ⟨b2, 0, none⟩) 2 [3, 1]) :
    Prs (w.alloc (.cells #[.slice (some ⟨b1, 0, none⟩) 2 c1, .int .i64 1, .slice (some ⟨b2, 0, none⟩) 2 c2, .int .i64 1] 50)) (some ⟨w.heap.size, 0, none⟩) 2 [(toP q5 [2, 1], 1), (toP q5 [3, 1], 1)] := by
  have hb := heap_alloc_new w (.cells #[.slice (some ⟨b1, 0, none⟩) 2 c1, .int .i64 1, .slice (some ⟨b2, 0, none⟩) 2 c2, .int .i64 1] 50)
  refine ⟨rfl, fun _ => ⟨w.heap.size, 0, rfl, by simp, fun i hi => ?_⟩⟩
  match i, hi with
  | 0, _ => exact ⟨some ⟨b1, 0, none⟩, c1, by simp only [World.cell?, hb]; show _ = some (Value.slice _ (toP q5 [2, 1]).len _); rw [y2_len]; rfl, by simp only [World.cell?, hb]; rfl, by show Ints _ _ (toP q5 [2, 1]).len (fromP (toP q5 [2, 1])); rw [y2_len, y2_from]; exact h1.alloc _⟩
  | 1, _ => exact ⟨some ⟨b2, 0, none⟩, c2, by simp only [World.cell?, hb]; show _ = some (Value.slice _ (toP q5 [3, 1]).len _); rw [y3_len]; rfl, by simp only [World.cell?, hb]; rfl, by show Ints _ _ (toP q5 [3, 1]).len (fromP (toP q5 [3, 1])); rw [y3_len, y3_from]; exact h2.alloc _⟩
  | i + 2, h => exact absurd h (by simp)
theorem lens9 (i : Nat) (h : i < [(toP q5 [2, 1], 1), (toP q5 [3, 1], 1)].length) : ([(toP q5 [2, 1], 1), (toP q5 [3, 1], 1)][i]).1.len ≤ 900000000 ∧ ([(toP q5 [2, 1], 1), (toP q5 [3, 1], 1)][i]).2 ≤ 900000000 := by
  match i, h with
  | 0, _ => exact ⟨by show (toP q5 [2, 1]).len ≤ _; rw [y2_len]; omega, by show 1 ≤ _; omega⟩
  | 1, _ => exact ⟨by show (toP q5 [3, 1]).len ≤ _; rw [y3_len]; omega, by show 1 ≤ _; omega⟩
  | i + 2, h => exact absurd h (by simp)
/-- Equal factors are the same. -/
theorem same9R {q : Prm} {A B : Option Addr} {n c d : Nat} {w : World} {L : List (Poly (Zp q) × Nat)} (hx : Prs w A n L) (hy : Prs w B n L) (hn : n ≤ 100000000) (hl : ∀ i (h : i < L.length), (L[i]).1.len ≤ 900000000 ∧ (L[i]).2 ≤ 900000000) :
    Calls Tryz.prog 13 #[.slice A n c, .slice B n d] w fun e w' => e = .returned (.bool true) ∧ Below w.heap.size w w' := by
  refine (same9 A B n c d L w hx hy hn hl).mono ?_
  rintro e w' ⟨rfl, k, rfl⟩
  exact ⟨rfl, below_drewN (Below.refl _ _) k⟩
set_option maxRecDepth 100000 in
set_option maxHeartbeats 4000000 in
theorem awake09 (w : World) : Calls Tryz.prog 7 #[] w fun e w' => e = .returned (.bool true) ∧ Below w.heap.size w w' := by
  have Hne := Lib.hid ex9_ne
  have Hl9 : Hid (ex9.len ≤ 65) := by show _ ≤ _; rw [ex9_len]; omega
  have Hf9 := Lib.hid ex9_fac
  have Hne3 := Lib.hid ex93_ne
  have Hl3 : Hid (ex93.len ≤ 65) := by show _ ≤ _; rw [ex93_len]; omega
  have Hi3 := Lib.hid ex93_irr
  go_enter Tryz.func7, Tryz.ntmps7
  go_wp2_with fail
  have hx := Ints.lit (w := w) (xs := [1, 0, 1]) (i64_list (by decide))
  have hal : Below w.heap.size w (w.alloc (.cells (ints [1, 0, 1]).toArray 3)) := (Below.refl _ _).alloc (Nat.le_refl _) _
  refine (ffactorsR (hp := pr_five9) (a := ex9) (D := none) (nd := 0) (cD := 0) (ds := []) (Rd.of_list hx) (by decide) Hne.out Hl9.out (ints_nil8 _) (fun _ => rfl) (by omega) (by omega)).mono ?_
  rintro e w1 ⟨A1, n1, c1, L1, rfl, hp1, hf1, hb1⟩
  have hL1 := hf1.unique Hf9.out
  subst hL1
  obtain rfl : n1 = 2 := hp1.len.symm
  have Hp1 := Lib.hid hp1
  have hbel1 := hal.trans (hb1.mono hal.size)
  clear hp1 hf1 hx hal hb1
  go_wp2_with fail
  have hx := Ints.lit (w := w1) (xs := [1, 0, 1]) (i64_list (by decide))
  have hal : Below w1.heap.size w1 (w1.alloc (.cells (ints [1, 0, 1]).toArray 3)) := (Below.refl _ _).alloc (Nat.le_refl _) _
  refine (firrR (hp := pr_three) (a := ex93) (Rd.of_list hx) (by decide) Hne3.out Hl3.out).mono ?_
  rintro e w2 ⟨r, rfl, hr, hb2⟩
  obtain rfl : r = true := hr.2 Hi3.out
  have hb12 : Below w1.heap.size w1 w2 := hal.trans (hb2.mono hal.size)
  have Hp2 := Lib.hid (Hp1.out.bel hb12)
  have hbel2 := below_tr hbel1 hb12
  clear hr hx hal hb2 hb12 Hp1 hbel1
  go_wp2_with fail
  refine (theirs9 A1 2 c1 _ w2 Hp2.out (by omega) (fun x hx => ?_)).mono ?_
  · rcases List.mem_cons.1 hx with rfl | hx
    · exact ⟨by show 0 < (toP q5 [2, 1]).len; rw [y2_len]; omega, by show (toP q5 [2, 1]).len ≤ _; rw [y2_len]; omega, by show 1 ≤ _; omega⟩
    · rw [List.mem_singleton] at hx
      subst hx
      exact ⟨by show 0 < (toP q5 [3, 1]).len; rw [y3_len]; omega, by show (toP q5 [3, 1]).len ≤ _; rw [y3_len]; omega, by show 1 ≤ _; omega⟩
  rintro e w3 ⟨B3, d3, rfl, hp3, hb3⟩
  have Hp3 := Lib.hid hp3
  have hbel3 := below_tr hbel2 hb3
  clear hp3 hb3 Hp2 hbel2
  go_wp2_with fail
  have g1 := (Ints.lit (w := w3) (xs := [2, 1]) (i64_list (by decide))).alloc (.cells (ints [3, 1]).toArray 3)
  have g2 := Ints.lit (w := w3.alloc (.cells (ints [2, 1]).toArray 3)) (xs := [3, 1]) (i64_list (by decide))
  rw [World.size_alloc] at g2
  have hpy := lit_fac9 ((w3.alloc (.cells (ints [2, 1]).toArray 3)).alloc (.cells (ints [3, 1]).toArray 3)) w3.heap.size (w3.heap.size + 1) 2 2 g1 g2
  have hal : Below w3.heap.size w3 (((w3.alloc (.cells (ints [2, 1]).toArray 3)).alloc (.cells (ints [3, 1]).toArray 3)).alloc (.cells #[.slice (some ⟨w3.heap.size, 0, none⟩) 2 2, .int .i64 1, .slice (some ⟨w3.heap.size + 1, 0, none⟩) 2 2, .int .i64 1] 50)) := (((Below.refl _ w3).alloc (Nat.le_refl _) _).alloc (by simp) _).alloc (by simp; omega) _
  rw [World.size_alloc, World.size_alloc] at hpy
  refine (same9R (q := q5) (A := B3) (B := some ⟨w3.heap.size + 1 + 1, 0, none⟩) (n := 2) (c := d3) (d := 2) (Hp3.out.bel hal) hpy (by omega) lens9).mono ?_
  rintro e w4 ⟨rfl, hb4⟩
  have hbel4 := below_tr hbel3 (hal.trans (hb4.mono hal.size))
  clear hb4 hal hpy g1 g2 Hp3 hbel3
  go_wp2_with fail
  go_ret
  exact ⟨rfl, hbel4⟩
end Go.Proofs.YtpikakapflebkaaGreat

namespace Go.Proofs.YtpikakapflebkaaGreat
open Go.RowKit Cl
attribute [local go_sem ↓] Go.wp_at_zero Go.wp_at_succ

set_option maxHeartbeats 1000000 in
theorem rless_any (A B : Option Addr) (n m c d : Nat) (xs ys : List Int) (w : World) (hx : Ints w A n xs) (hy : Ints w B m ys) (hn : n ≤ 9223372036854775807) (hm : m ≤ 9223372036854775807) :
    Calls Tryz.prog 33 #[.slice A n c, .slice B m d] w fun e w' => e = .returned (.bool (lessI xs ys)) ∧ ∃ k, w' = w.drewN k := by
  by_cases hne : n = m
  · subst hne
    have h1 : ((n : Int) != (n : Int)) = false := by simp
    have hc : Hid (cmpI xs ys = cmpTo xs ys n) := by show _ = _; rw [cmpI_to (by rw [hx.len, hy.len]), hx.len]
    have Hx := Lib.hid hx
    have Hy := Lib.hid hy
    clear hx hy
    go_enter Tryz.func33, Tryz.ntmps33
    go_wp2
    go_loopw [5] (fun i wr => ∃ j k : Nat, j ≤ n ∧ i = .int .i64 ((j : Int) - 1) ∧ Hid (cmpI xs ys = cmpTo xs ys j) ∧ wr = w.drewN k) (fun i _ => (intOf i + 1).toNat)
    case atStart => exact ⟨n, 0, Nat.le_refl _, rfl, hc, rfl⟩
    case round =>
      obtain ⟨j, k, hj, rfl, hcj, rfl⟩ := hrel
      cases j with
      | zero =>
        have e0 : (((0 : Nat) : Int) - 1) = -1 := rfl
        have hf : Hid (lessI xs ys = false) := by show _ = _; unfold lessI; rw [hcj.out]; rfl
        rw [e0]
        go_wp2
        go_ret
        exact ⟨ret_bool hf.out.symm, _, rfl⟩
      | succ j =>
        have e0 : (((j + 1 : Nat) : Int) - 1) = (j : Int) := by omega
        rw [e0]
        obtain ⟨b, o, rfl, hb, hcx⟩ := Hx.out.at_ (by omega)
        obtain ⟨b', o', rfl, hb', hcy⟩ := Hy.out.at_ (by omega)
        have hx1 := hcx j (by omega)
        have hy1 := hcy j (by omega)
        have hj0 : (0 : Int) ≤ (j : Int) := by omega
        have hj1 : (j : Int) < (n : Int) := by omega
        clear hcx hcy e0
        rcases Int.lt_trichotomy (nth xs j) (nth ys j) with h | h | h
        · have hf : Hid (lessI xs ys = true) := by show _ = _; unfold lessI; rw [hcj.out.trans (cmpTo_lt h)]; rfl
          have h2 : (nth xs j != nth ys j) = true := by simp; omega
          have h3 : decide (nth xs j < nth ys j) = true := decide_eq_true h
          clear hcj
          go_wp2
          go_quiet (fail)
          go_wp2
          go_quiet (fail)
          go_wp2
          go_ret
          exact ⟨ret_bool hf.out.symm, _, by first | rfl | exact World.drewN_drewN _ _ _ | (rw [World.drewN_drewN, World.drewN_drewN])⟩
        · have hf : Hid (cmpI xs ys = cmpTo xs ys j) := hcj.out.trans (cmpTo_eq h)
          have h2 : (nth xs j != nth ys j) = false := by simp; omega
          clear h hcj
          go_wp2
          go_quiet (fail)
          go_wp2
          go_roundw
          case rel => exact ⟨j, _, by omega, rfl, hf, by first | rfl | exact World.drewN_drewN _ _ _ | (rw [World.drewN_drewN, World.drewN_drewN])⟩
          case measure => simp [intOf]
        · have hf : Hid (lessI xs ys = false) := by show _ = _; unfold lessI; rw [hcj.out.trans (cmpTo_gt h)]; rfl
          have h2 : (nth xs j != nth ys j) = true := by simp; omega
          have h3 : decide (nth xs j < nth ys j) = false := decide_eq_false (by omega)
          clear hcj
          go_wp2
          go_quiet (fail)
          go_wp2
          go_quiet (fail)
          go_wp2
          go_ret
          exact ⟨ret_bool hf.out.symm, _, by first | rfl | exact World.drewN_drewN _ _ _ | (rw [World.drewN_drewN, World.drewN_drewN])⟩
  · have h1 : ((n : Int) != (m : Int)) = true := by simp; omega
    have hc : Hid (lessI xs ys = decide ((n : Int) < (m : Int))) := by
      show _ = _
      unfold lessI
      rw [cmpI_len (by rw [hx.len, hy.len]; exact hne), hx.len, hy.len]
      by_cases h : (n : Int) < (m : Int)
      · rw [decide_eq_true h, decide_eq_true (by omega)]
      · rw [decide_eq_false h, decide_eq_false (by omega)]
    clear hx hy hne
    go_enter Tryz.func33, Tryz.ntmps33
    go_wp2
    go_ret
    exact ⟨ret_bool (by rw [hc.out]; simp), 0, rfl⟩
theorem rwrong_no (A : Option Addr) (n c : Nat) (p : Int) (w : World) (h3 : -9223372036854775808 ≤ p) (h4 : p ≤ 9223372036854775807) (hp : isPrime p = false) :
    Calls Tryz.prog 8 #[.slice A n c, .int .i64 p] w fun e w' => e = .returned (.int .i64 1) ∧ w = w' := by
  go_enter Tryz.func8, Tryz.ntmps8
  go_wp2_with fail
  refine (rchk_no _ _ h3 h4 hp).mono ?_
  rintro e w' ⟨rfl, rfl⟩
  go_wp2_with fail
  go_ret
  exact ⟨rfl, rfl⟩
section
variable {A B : Option Addr} {n m c d N M : Nat} {p : Int} {w : World} {hp : Pr p} {a b : Poly (Zp ⟨p, hp⟩)}
theorem qplainBig (ha : Rd w A n a) (hn : n * 8 ≤ 140737488355328) : Calls Tryz.prog 24 #[.slice A n c, .int .i64 p] w (GivesR w n a) := by
  obtain ⟨xs, hx, rfl⟩ := ha
  have h2 : (toP ⟨p, hp⟩ xs).len ≤ n := len_le_toP hx.len
  exact (qplain_any A n c xs p w hp hx hn).mono fun e w' h => GivesR.of h h2
/-- What is wrong with a polynomial, by a prime. -/
theorem rwrongR (err : Int) (ha : Rd w A n a) (hn : n * 8 ≤ 140737488355328) (he : (a = 0 ∧ err = 8) ∨ (65 < a.len ∧ err = 6) ∨ (a ≠ 0 ∧ a.len ≤ 65 ∧ err = 0)) :
    Calls Tryz.prog 8 #[.slice A n c, .int .i64 p] w fun e w' => e = .returned (.int .i64 err) ∧ Below w.heap.size w w' := by
  have hp1 := hp.two
  have hp2 := hp.max
  have C := Lib.hid (qplainBig (c := c) ha hn)
  clear ha
  rcases he with ⟨h0, rfl⟩ | ⟨h0, rfl⟩ | ⟨h0, h1, rfl⟩
  · have g0 : ((a.len : Int) == 0) = true := by rw [h0, Poly.len_zero]; rfl
    clear h0
    go_enter Tryz.func8, Tryz.ntmps8
    go_wp2_with fail
    refine (rchk_yes _ _ (by omega) (by omega) ((isPrime_iff p).2 hp)).mono ?_
    rintro e w' ⟨rfl, rfl⟩
    go_wp2_with fail
    refine C.out.mono ?_
    rintro e w1 ⟨A1, c1, rfl, l1, h1, hb1⟩
    go_wp2_with fail
    go_ret
    exact ⟨rfl, hb1⟩
  · have g0 : ((a.len : Int) == 0) = false := beq_eq_false_iff_ne.2 (by omega)
    have g1 : (65 : Int) < (a.len : Int) := by omega
    clear h0
    go_enter Tryz.func8, Tryz.ntmps8
    go_wp2_with fail
    refine (rchk_yes _ _ (by omega) (by omega) ((isPrime_iff p).2 hp)).mono ?_
    rintro e w' ⟨rfl, rfl⟩
    go_wp2_with fail
    refine C.out.mono ?_
    rintro e w1 ⟨A1, c1, rfl, l1, h1, hb1⟩
    go_wp2_with fail
    go_ret
    exact ⟨rfl, hb1⟩
  · have g0 : ((a.len : Int) == 0) = false := beq_eq_false_iff_ne.2 (by have := Poly.len_pos h0; omega)
    have g1 : ¬ (65 : Int) < (a.len : Int) := by omega
    clear h0 h1
    go_enter Tryz.func8, Tryz.ntmps8
    go_wp2_with fail
    refine (rchk_yes _ _ (by omega) (by omega) ((isPrime_iff p).2 hp)).mono ?_
    rintro e w' ⟨rfl, rfl⟩
    go_wp2_with fail
    refine C.out.mono ?_
    rintro e w1 ⟨A1, c1, rfl, l1, h1, hb1⟩
    go_wp2_with fail
    go_ret
    exact ⟨rfl, hb1⟩
/-- Too great, or wrong. -/
theorem great_big (h : 17 < n) : Calls Tryz.prog 14 #[.slice A n c, .int .i64 p] w fun e w' => e = .returned (.bool true) ∧ Below w.heap.size w w' := by
  have h1 : (17 : Int) < (n : Int) := by omega
  have h2 : decide ((17 : Int) < (n : Int)) = true := decide_eq_true h1
  go_enter Tryz.func14, Tryz.ntmps14
  go_wp2_with fail
  go_ret
  exact ⟨rfl, Below.refl _ _⟩
theorem great_no (h : n ≤ 17) (h3 : -9223372036854775808 ≤ p) (h4 : p ≤ 9223372036854775807) (hp : isPrime p = false) : Calls Tryz.prog 14 #[.slice A n c, .int .i64 p] w fun e w' => e = .returned (.bool true) ∧ Below w.heap.size w w' := by
  have h1 : ¬ (17 : Int) < (n : Int) := by omega
  have h2 : decide ((17 : Int) < (n : Int)) = false := decide_eq_false h1
  go_enter Tryz.func14, Tryz.ntmps14
  go_wp2_with fail
  refine (rwrong_no _ _ _ _ _ h3 h4 hp).mono ?_
  rintro e w' ⟨rfl, rfl⟩
  go_wp2_with fail
  go_ret
  exact ⟨rfl, Below.refl _ _⟩
theorem greatR (r : Bool) (h : n ≤ 17) (ha : Rd w A n a) (hr : (a = 0 ∧ r = true) ∨ (a ≠ 0 ∧ r = false)) : Calls Tryz.prog 14 #[.slice A n c, .int .i64 p] w fun e w' => e = .returned (.bool r) ∧ Below w.heap.size w w' := by
  have h1 : ¬ (17 : Int) < (n : Int) := by omega
  have h2 : decide ((17 : Int) < (n : Int)) = false := decide_eq_false h1
  have hal : a.len ≤ 17 := by obtain ⟨xs, hx, rfl⟩ := ha; exact Nat.le_trans (len_le_toP hx.len) h
  rcases hr with ⟨h0, rfl⟩ | ⟨h0, rfl⟩
  · have C := Lib.hid (rwrongR (c := c) 8 ha (by omega) (.inl ⟨h0, rfl⟩))
    clear ha h0
    go_enter Tryz.func14, Tryz.ntmps14
    go_wp2_with fail
    refine C.out.mono ?_
    rintro e w1 ⟨rfl, hb1⟩
    go_wp2_with fail
    go_ret
    exact ⟨rfl, hb1⟩
  · have C := Lib.hid (rwrongR (c := c) 0 ha (by omega) (.inr (.inr ⟨h0, by omega, rfl⟩)))
    clear ha h0
    go_enter Tryz.func14, Tryz.ntmps14
    go_wp2_with fail
    refine C.out.mono ?_
    rintro e w1 ⟨rfl, hb1⟩
    go_wp2_with fail
    go_ret
    exact ⟨rfl, hb1⟩
end
end Go.Proofs.YtpikakapflebkaaGreat
