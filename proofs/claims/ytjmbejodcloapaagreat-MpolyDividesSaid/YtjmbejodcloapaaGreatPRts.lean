/- Contract: the document's Times: all terms of one times all of another one.
   Contract: the document's integer of minus one.
   Contract: the document's Quotient: plain rows divided, or that there is a rest. -/
import Derived.Test.YtjmbejodcloapaaGreatPRss
import Derived.Test.YtjmbejodcloapaaGreatPDxs
import Derived.Test.YtjmbejodcloapaaGreatPRzs
import Derived.Test.YtjmbejodcloapaaGreatPRfs
import Derived.Test.YtjmbejodcloapaaGreatPSumC
set_option linter.unusedVariables false
set_option linter.unusedSimpArgs false
namespace Cl
theorem mulM_more (L : Mv) (t : Trm) (T : Mv) : mulM (L ++ [t]) T = mulM L T ++ mulM [t] T := mulM_append _ _ _
theorem rows_take {L : List TV} {i : Nat} (h : i < L.length) (T : Mv) : mulM (mvT (L.take (i + 1))) T = mulM (mvT (L.take i)) T ++ mulM [valT L[i]] T := by
  rw [List.take_succ_eq_append_getElem h, mvT_append]
  exact mulM_more _ _ _
theorem cols_take {T : List TV} {k : Nat} (h : k < T.length) (t : Trm) : mulM [t] (mvT (T.take (k + 1))) = mulM [t] (mvT (T.take k)) ++ [(addP t.1 (T[k]).2, t.2 * (valT T[k]).2)] := by
  rw [List.take_succ_eq_append_getElem h, mvT_append, mulM_one, mulM_one, List.map_append]
  rfl
theorem i64_addP {a b : Plc} (ha : ∀ x ∈ a, 0 ≤ x ∧ x ≤ 1000000) (hb : ∀ x ∈ b, 0 ≤ x ∧ x ≤ 1000000) (j : Nat) : I64 (nth (addP a b) j) := by
  rcases Nat.lt_or_ge j (addP a b).length with h | h
  · obtain ⟨y, hy, z, hz, e⟩ := mem_addP (nth_mem h)
    have := ha y hy
    have := hb z hz
    rw [e]
    constructor <;> omega
  · rw [nth_ge h]
    constructor <;> omega
end Cl
namespace Go.Proofs.YtjmbejodcloapaaGreat
open Go.RowKit Cl
attribute [local go_sem ↓] Go.wp_at_zero Go.wp_at_succ
set_option maxRecDepth 100000 in
set_option maxHeartbeats 16000000 in
theorem r17times (n C K : Nat) (A B : Option Addr) (ma ca mb cb : Nat) (L T : List TV) (w : World) (hx : Trs w A ma L) (hy : Trs w B mb T) (hl : ∀ t ∈ L, t.2.length = n) (hlT : ∀ t ∈ T, t.2.length = n) (hC : ∀ t ∈ L, t.1.2.length ≤ C) (hCT : ∀ t ∈ T, t.1.2.length ≤ K)
    (hbL : ∀ t ∈ L, ∀ x ∈ t.2, 0 ≤ x ∧ x ≤ 1000000) (hbT : ∀ t ∈ T, ∀ x ∈ t.2, 0 ≤ x ∧ x ≤ 1000000) (hm : ma * mb ≤ 1000000) (hma : ma ≤ 1000000) (hmb : mb ≤ 1000000) (hn : n ≤ 1000000) (hCK : C + K ≤ 800000) :
    Calls Tryz.prog 63 #[.slice A ma ca, .slice B mb cb] w (GivesR w n (mulM (mvT L) (mvT T))) := by
  obtain ⟨i0, hi0, hz0, hz1, hz2⟩ := info_parts term_infoR
  obtain ⟨j0, hj, hy0, hy1, hy2⟩ := info_parts int_infoF
  have Hx := Lib.hid hx
  have Hy := Lib.hid hy
  have HL := Lib.hid hx.len
  have HT := Lib.hid hy.len
  have Hl := Lib.hid hl
  have HlT := Lib.hid hlT
  have HC := Lib.hid hC
  have HCT := Lib.hid hCT
  have HbL := Lib.hid hbL
  have HbT := Lib.hid hbT
  clear hx hy hl hlT hC hCT hbL hbT
  go_enter Tryz.func63, Tryz.ntmps63
  obtain ⟨wo, rfl⟩ : ∃ wo : World, wo = w := ⟨_, rfl⟩
  go_wp2_with fail
  go_loopw [5, 6] (fun v kk wr => ∃ (i : Nat) (E : List EntT), i ≤ ma ∧ kk = .int .i64 (i : Int) ∧ Hid (ROut wo wr n (C + K + 1) v E (mulM (mvT (L.take i)) (mvT T))) ∧ Hid (E.length ≤ i * mb)) (fun _ kk _ => ma - (intOf kk).toNat)
  case atStart => exact ⟨0, [], by omega, rfl, ROut.start _ _ _, by show _ ≤ _; rw [Nat.zero_mul]; exact Nat.le_refl _⟩
  case round =>
    obtain ⟨i, E, hi, rfl, hO, hEl⟩ := hrel
    by_cases hlt : i < ma
    · obtain ⟨b, o, rfl, hb, hc⟩ := Hx.out.at_ (by omega)
      have hkL : i < L.length := by rw [HL.out]; exact hlt
      obtain ⟨Ai, ci, Ei, ei, e1, e2, e3, e4, e5, e6, e7, e8, e9⟩ := hc i hkL
      have hll := Hl.out _ (List.getElem_mem hkL)
      have hlC := HC.out _ (List.getElem_mem hkL)
      have hbd := HbL.out _ (List.getElem_mem hkL)
      have Htk := Lib.hid (rows_take hkL (mvT T))
      clear hc
      generalize L[i] = x at *
      obtain ⟨⟨s, xs⟩, ps⟩ := x
      simp only at e1 e2 e3 e4 e6 e8 e9 hll hlC hbd
      have Hll := Lib.hid hll
      have Hbd := Lib.hid hbd
      rw [Nat.mul_comm 3 i] at e1 e2 e3
      rw [← Nat.add_assoc] at e2 e3
      have hlt' : (i : Int) < (ma : Int) := by omega
      have hk0 : (0 : Int) ≤ (i : Int) := by omega
      have hmul : i * mb + mb ≤ 1000000 := by
        have h1 := Nat.mul_le_mul_right mb (show i + 1 ≤ ma by omega)
        rw [Nat.add_mul, Nat.one_mul] at h1
        omega
      have keepA : Hid (∀ W, Below wo.heap.size wo W → W.cell? ⟨b, o + i * 3, none⟩ = some (.bool s) ∧ W.cell? ⟨b, o + i * 3 + 1, none⟩ = some (.slice Ai xs.length ci) ∧ W.cell? ⟨b, o + i * 3 + 2, none⟩ = some (.slice Ei ps.length ei)) := fun W hW =>
        ⟨(hW.cell (p := ⟨b, o + i * 3, none⟩) hb).trans e1, (hW.cell (p := ⟨b, o + i * 3 + 1, none⟩) hb).trans e2, (hW.cell (p := ⟨b, o + i * 3 + 2, none⟩) hb).trans e3⟩
      have E8 := Lib.hid e8
      have E9 := Lib.hid e9
      have hst : Hid (ROut wo wr n (C + K + 1) u5 E (mulM (mvT (L.take i)) (mvT T) ++ mulM [(ps, intZ s xs)] (mvT (T.take 0)))) := by
        show ROut _ _ _ _ _ _ _
        rw [List.take_zero]
        show ROut _ _ _ _ _ _ (_ ++ [])
        rw [List.append_nil]
        exact hO.out
      have hst2 : Hid (E.length ≤ i * mb + 0) := hEl.out
      clear e8 e9 e1 e2 e3 hll hbd hO hEl
      go_wp2_with fail
      go_loopw [5, 7] (fun v kk wr => ∃ (k : Nat) (E : List EntT), k ≤ mb ∧ kk = .int .i64 (k : Int) ∧ Hid (ROut wo wr n (C + K + 1) v E (mulM (mvT (L.take i)) (mvT T) ++ mulM [(ps, intZ s xs)] (mvT (T.take k)))) ∧ Hid (E.length ≤ i * mb + k)) (fun _ kk _ => mb - (intOf kk).toNat)
      case atStart => exact ⟨0, E, by omega, rfl, hst, hst2⟩
      case round =>
        clear hst hst2
        obtain ⟨k, E, hk, rfl, hO, hEl⟩ := hrel
        obtain ⟨wt, rfl⟩ : ∃ wt : World, wt = wr := ⟨_, rfl⟩
        have hvb := Lib.hid (fun j (h : u5.ownBlock = some j) => hO.out.own.lt j h)
        by_cases hltk : k < mb
        · obtain ⟨b2, o2, rfl, hb2, hc2⟩ := Hy.out.at_ (by omega)
          have hkT : k < T.length := by rw [HT.out]; exact hltk
          obtain ⟨Bi, di, Fi, fi, f1, f2, f3, f4, f5, f6, f7, f8, f9⟩ := hc2 k hkT
          have hllT := HlT.out _ (List.getElem_mem hkT)
          have hlCT := HCT.out _ (List.getElem_mem hkT)
          have hbdT := HbT.out _ (List.getElem_mem hkT)
          have HtkT := Lib.hid (cols_take hkT (ps, intZ s xs))
          clear hc2
          generalize T[k] = y at *
          obtain ⟨⟨s', ys⟩, qs⟩ := y
          simp only at f1 f2 f3 f4 f6 f8 f9 hllT hlCT hbdT
          have HllT := Lib.hid hllT
          have HbdT := Lib.hid hbdT
          rw [Nat.mul_comm 3 k] at f1 f2 f3
          rw [← Nat.add_assoc] at f2 f3
          have hltk' : (k : Int) < (mb : Int) := by omega
          have hkk0 : (0 : Int) ≤ (k : Int) := by omega
          have hwt := Lib.hid hO.out.bel
          have keepB : Hid (∀ W, Below wo.heap.size wo W → W.cell? ⟨b2, o2 + k * 3, none⟩ = some (.bool s') ∧ W.cell? ⟨b2, o2 + k * 3 + 1, none⟩ = some (.slice Bi ys.length di) ∧ W.cell? ⟨b2, o2 + k * 3 + 2, none⟩ = some (.slice Fi qs.length fi)) := fun W hW =>
            ⟨(hW.cell (p := ⟨b2, o2 + k * 3, none⟩) hb2).trans f1, (hW.cell (p := ⟨b2, o2 + k * 3 + 1, none⟩) hb2).trans f2, (hW.cell (p := ⟨b2, o2 + k * 3 + 2, none⟩) hb2).trans f3⟩
          have F8 := Lib.hid f8
          have F9 := Lib.hid f9
          have hEl2 : E.length + 1 ≤ 1000000 := by have := hEl.out; omega
          clear f8 f9 f1 f2 f3 hllT hbdT
          have hsl : Hid ((addP ps qs).length = n) := addP_length Hll.out HllT.out
          go_wp2_with fail
          go_loopw [8, 9] (fun v jj wr => ∃ j : Nat, j ≤ ps.length ∧ jj = .int .i64 (j : Int) ∧ wr.ownsRow wt.heap.size 3 1 v j (ints ((addP ps qs).take j)) ∧ Below wt.heap.size wt wr) (fun _ jj _ => ps.length - (intOf jj).toNat)
          case atStart => exact ⟨0, by omega, rfl, World.ownsRow_nil _ _ _ _, Below.refl _ _⟩
          case round =>
            obtain ⟨j, hj1, rfl, hown, hbel⟩ := hrel
            obtain ⟨a1, a2, a3⟩ := keepA.out _ (hwt.out.trans (hbel.mono hwt.out.size))
            obtain ⟨b1, b2', b3⟩ := keepB.out _ (hwt.out.trans (hbel.mono hwt.out.size))
            by_cases hltj : j < ps.length
            · have hll := Hll.out
              have hllT := HllT.out
              obtain ⟨be, oe, rfl, hbe, hce⟩ := E9.out.at_ (by omega)
              obtain ⟨bf, of, rfl, hbf, hcf⟩ := F9.out.at_ (by omega)
              have ha := ((hwt.out.trans (hbel.mono hwt.out.size)).cell (p := ⟨be, oe + j, none⟩) hbe).trans (hce j (by omega))
              have hb' := ((hwt.out.trans (hbel.mono hwt.out.size)).cell (p := ⟨bf, of + j, none⟩) hbf).trans (hcf j (by omega))
              obtain ⟨p1, p2⟩ := Hbd.out _ (nth_mem (by omega : j < ps.length))
              obtain ⟨q1, q2⟩ := HbdT.out _ (nth_mem (by omega : j < qs.length))
              have ew : IntKind.i64.wrap (nth ps j + nth qs j) = nth ps j + nth qs j := IntWalk.i64_in _ (by omega)
              have Hat := Lib.hid (addP_take (a := ps) (b := qs) (j := j) (by omega) (by omega))
              have hltj' : (j : Int) < (ps.length : Int) := by omega
              have hltj2 : (j : Int) < (qs.length : Int) := by omega
              have hj0 : (0 : Int) ≤ (j : Int) := by omega
              have HO1 := Lib.hid hown
              have z1 : j + 1 ≤ maxLen := by unfold maxLen; omega
              have z2 : (j + 1) * 8 ≤ 140737488355328 := by omega
              have z3 : Hid (∀ (o : Obj), wt.heap.size ≤ (wr.alloc o).heap.size) := fun o => by have := hbel.size; simp; omega
              have keep6 : Hid (∀ W, Below wt.heap.size wt W → W.cell? ⟨b, o + i * 3 + 2, none⟩ = some (.slice (some ⟨be, oe, none⟩) ps.length ei) ∧ W.cell? ⟨b2, o2 + k * 3 + 2, none⟩ = some (.slice (some ⟨bf, of, none⟩) qs.length fi) ∧ W.cell? ⟨be, oe + j, none⟩ = some (.int .i64 (nth ps j)) ∧ W.cell? ⟨bf, of + j, none⟩ = some (.int .i64 (nth qs j))) := fun W hW =>
                ⟨(keepA.out _ (hwt.out.trans (hW.mono hwt.out.size))).2.2, (keepB.out _ (hwt.out.trans (hW.mono hwt.out.size))).2.2, ((hwt.out.trans (hW.mono hwt.out.size)).cell (p := ⟨be, oe + j, none⟩) hbe).trans (hce j (by omega)), ((hwt.out.trans (hW.mono hwt.out.size)).cell (p := ⟨bf, of + j, none⟩) hbf).trans (hcf j (by omega))⟩
              generalize nth ps j = pj at *
              generalize nth qs j = qj at *
              clear hce hcf hll hllT p1 p2 q1 q2
              go_wp2_with fail
              go_region_held3 (fun W => W.cell? ⟨b, o + i * 3 + 2, none⟩ = some (.slice (some ⟨be, oe, none⟩) ps.length ei) ∧ W.cell? ⟨b2, o2 + k * 3 + 2, none⟩ = some (.slice (some ⟨bf, of, none⟩) qs.length fi) ∧ W.cell? ⟨be, oe + j, none⟩ = some (.int .i64 pj) ∧ W.cell? ⟨bf, of + j, none⟩ = some (.int .i64 qj))
                (first | go_keep | exact keep6.out _ hb8)
                (first | (refine step_append_lies _ (by rfl) _ _ _ (by rfl) wt.heap.size 3 j0 _ 1 8 Tryz.underlying43 hj hy0 hy1 hy2 rfl (by omega) u8 j (ints ((addP ps qs).take j)) (by rfl) ((HO1.out.alloc _).drew) ⟨wr.heap.size, 0, none⟩ 1 1 [.int .i64 (pj + qj)] (by rfl) (by rfl) (World.news_of_block (cs := #[.int .i64 (pj + qj)]) (t := 3) (fr := (0, 0)) (heap_alloc_new wr _)) (by simp [Value.oneCell']) (by omega) z1 z2 (z3.out _) (wr.heap.size + 1) (by simp) ?_; intro gg cap w8 hown8 hgrow hat hlt8; have hb8 : Below wt.heap.size wt w8 := below_app hbel HO1.out hgrow hbel.size))
              have hown9 : w8.ownsRow wt.heap.size 3 1 (.slice (some ⟨gg, 0, none⟩) (j + 1) cap) (j + 1) (ints ((addP ps qs).take (j + 1))) := by
                rw [Hat.out, ints_append]; exact hown8
              clear hown8 hgrow hat hlt8 hown HO1
              go_wp2_with fail
              go_roundw
              case rel => exact ⟨j + 1, by omega, by go_num, hown9, hb8⟩
              case measure => simp [intOf]; omega
            · obtain rfl : j = ps.length := by omega
              obtain ⟨wj, rfl⟩ : ∃ wj : World, wj = wr := ⟨_, rfl⟩
              have hla : (addP ps qs).length = ps.length := by rw [hsl.out, Hll.out]
              rw [List.take_of_length_le (by rw [hla]; exact Nat.le_refl _)] at hown
              obtain ⟨A1, c1, rfl⟩ := own_slice hown
              obtain ⟨g1, g2⟩ := own_caps hown
              have hIe : Hid (Ints wj A1 ps.length (addP ps qs)) := Ints.of_own hown (i64_addP Hbd.out HbdT.out)
              have hfarE : Hid (0 < ps.length → ∀ z, A1 = some z → u5.ownBlock ≠ some z.block) := fun _ z hz e => by
                subst hz
                have h1 := (hown.lt z.block rfl).1
                have h2 := (hvb.out _ e).2
                omega
              have hO2 := Lib.hid (hO.out.bel2 hbel)
              have hwj := Lib.hid (hwt.out.trans (hbel.mono hwt.out.size))
              have hszj := hbel.size
              have hltj' : ¬ (ps.length : Int) < (ps.length : Int) := by omega
              have keep8 : Hid (∀ W, Below wo.heap.size wo W → W.cell? ⟨b, o + i * 3, none⟩ = some (.bool s) ∧ W.cell? ⟨b, o + i * 3 + 1, none⟩ = some (.slice Ai xs.length ci) ∧ W.cell? ⟨b2, o2 + k * 3, none⟩ = some (.bool s') ∧ W.cell? ⟨b2, o2 + k * 3 + 1, none⟩ = some (.slice Bi ys.length di)) := fun W hW =>
                ⟨(keepA.out _ hW).1, (keepA.out _ hW).2.1, (keepB.out _ hW).1, (keepB.out _ hW).2.1⟩
              have keep4 : Hid (∀ W, Below wj.heap.size wj W → W.cell? ⟨b, o + i * 3, none⟩ = some (.bool s) ∧ W.cell? ⟨b, o + i * 3 + 1, none⟩ = some (.slice Ai xs.length ci) ∧ W.cell? ⟨b2, o2 + k * 3, none⟩ = some (.bool s') ∧ W.cell? ⟨b2, o2 + k * 3 + 1, none⟩ = some (.slice Bi ys.length di)) := fun W hW =>
                ⟨(keepA.out _ (hwj.out.trans (hW.mono hwj.out.size))).1, (keepA.out _ (hwj.out.trans (hW.mono hwj.out.size))).2.1, (keepB.out _ (hwj.out.trans (hW.mono hwj.out.size))).1, (keepB.out _ (hwj.out.trans (hW.mono hwj.out.size))).2.1⟩
              have Cm : Hid (∀ W, Below wj.heap.size wj W → Calls Tryz.prog 40 #[.agg #[.bool s, .slice Ai xs.length ci], .agg #[.bool s', .slice Bi ys.length di]] W (GivesZF W (intZ s xs * intZ s' ys) (xs.length + ys.length))) := fun W hW =>
                r2mulF s s' Ai Bi xs.length ys.length ci di xs ys W (E8.out.bel (hwj.out.trans (hW.mono hwj.out.size))) (F8.out.bel (hwj.out.trans (hW.mono hwj.out.size))) e4 e5 f4 f5 (by omega) (by omega)
              have q1 : E.length + 1 ≤ maxLen := by unfold maxLen; omega
              have q2 : (E.length + 1) * 56 ≤ 140737488355328 := by omega
              have F : Hid (∀ (w7 w8 : World) (s2 : Bool) (A2 : Option Addr) (k2 c2 : Nat) (ls : List Int) (gg cap : Nat), Below wj.heap.size wj w7 → k2 ≤ c2 → c2 ≤ 9223372036854775807 → k2 ≤ xs.length + ys.length → Limbs w7 A2 k2 ls → ZVal s2 ls (intZ s xs * intZ s' ys) → (0 < k2 → ∀ z, A2 = some z → wj.heap.size ≤ z.block) → w8.ownsRow wo.heap.size 45 3 (.slice (some ⟨gg, 0, none⟩) (E.length + 1) cap) (E.length + 1) (tcells E ++ [.bool s2, .slice A2 k2 c2, .slice A1 ps.length c1]) → (w7.alloc (.cells #[.bool s2, .slice A2 k2 c2, .slice A1 ps.length c1] 45)).grownBy w8 u5.ownBlock → (u5.ownBlock = some gg ∨ gg = w7.heap.size + 1) → ∃ E2 : List EntT, E2.length = E.length + 1 ∧ ROut wo w8 n (C + K + 1) (.slice (some ⟨gg, 0, none⟩) (E.length + 1) cap) E2 (mulM (mvT (L.take i)) (mvT T) ++ mulM [(ps, intZ s xs)] (mvT (T.take (k + 1))))) := fun w7 w8 s2 A2 k2 c2 ls gg cap hb h1 h2 h3 h4 h5 h6 h7 h8 h9 => by
                obtain rfl := h4.len
                have hnx := hO2.out.next (x := (((A2, c2), (A1, c1)), ((s2, ls), addP ps qs))) (o := (.cells #[.bool s2, .slice A2 ls.length c2, .slice A1 ps.length c1] 45)) hb ⟨h1, h2, by show (addP ps qs).length ≤ c1; rw [hla]; exact g1, g2, h4, by show Ints w7 A1 (addP ps qs).length (addP ps qs); rw [hla]; exact hIe.out.bel hb⟩ hsl.out (by show ls.length ≤ C + K + 1; omega)
                  (fun h0 z hz e => by have h10 := h6 h0 z hz; have h11 := hvb.out _ e; omega) (fun h0 z hz e => hfarE.out (by have h0' : 0 < (addP ps qs).length := h0; omega) z hz e)
                  (by show w8.ownsRow _ _ _ _ _ (tcells E ++ [.bool s2, .slice A2 ls.length c2, .slice A1 (addP ps qs).length c1]); rw [hla]; exact h7) h8 h9 rfl
                refine ⟨E ++ [(((A2, c2), (A1, c1)), ((s2, ls), addP ps qs))], by rw [List.length_append]; rfl, ?_⟩
                have e : valT ((s2, ls), addP ps qs) = (addP ps qs, intZ s xs * intZ s' ys) := by
                  show (addP ps qs, intZ s2 ls) = _
                  rw [h5.eq]
                rw [e, List.append_assoc] at hnx
                rw [HtkT.out]
                exact hnx
              have HOW := Lib.hid (fun W (hW : Below wj.heap.size wj W) => own_below hO2.out.own hW)
              have hszo : Hid (∀ (W : World) (ob : Obj), Below wj.heap.size wj W → wo.heap.size ≤ (W.alloc ob).heap.size) := fun W ob hW => by have := hW.size; have := hwj.out.size; simp; omega
              have hBw := Lib.hid (fun W (hW : Below wj.heap.size wj W) => hwj.out.trans (hW.mono hwj.out.size))
              have hEl3 := hEl.out
              have hvb2 := Lib.hid (fun j (h : u5.ownBlock = some j) => hvb.out j h)
              have a9 := a3
              clear hO hO2 hwt E8 E9 F8 F9 a1 a2 a3 b1 b2' b3 hown hbel hIe hfarE keepA keepB hEl
              obtain ⟨a1, a2, a3, a4⟩ := keep4.out _ (Below.refl _ _)
              go_wp2_with fail
              go_region_held3 (fun W => W.cell? ⟨b, o + i * 3, none⟩ = some (.bool s) ∧ W.cell? ⟨b, o + i * 3 + 1, none⟩ = some (.slice Ai xs.length ci) ∧ W.cell? ⟨b2, o2 + k * 3, none⟩ = some (.bool s') ∧ W.cell? ⟨b2, o2 + k * 3 + 1, none⟩ = some (.slice Bi ys.length di))
                (first | go_keep | exact keep4.out _ (Below.refl _ _).drew | exact keep4.out _ hb7 | exact keep4.out _ (hb7.alloc hb7.size _) | exact keep8.out _ hbw8)
                (first
                  | (go_at_call 40; refine (Cm.out _ (by first | exact (Below.refl _ _).drew | exact Below.refl _ _)).mono ?_; rintro e w7 ⟨s2, A2, k2, c2, ls, rfl, p1, p2, p3, p4, p5, pf, hb7'⟩; have hb7 : Below wj.heap.size wj w7 := (by first | exact (Below.refl _ _).drew.trans hb7' | exact hb7'))
                  | ((refine step_append_lies _ (by rfl) _ _ _ (by rfl) wo.heap.size 45 i0 _ 3 56 Tryz.underlying22 hi0 hz0 hz1 hz2 rfl (by omega) u5 E.length (tcells E) (by rfl) ((HOW.out _ hb7).alloc _) ⟨w7.heap.size, 0, none⟩ 1 1 [.bool s2, .slice A2 k2 c2, .slice A1 ps.length c1] (by rfl) (by rfl) (World.news_of_block (cs := #[.bool s2, .slice A2 k2 c2, .slice A1 ps.length c1]) (t := 45) (fr := (0, 0)) (heap_alloc_new w7 _)) (by simp [Value.oneCell']) (Nat.one_pos) q1 q2 (hszo.out _ _ hb7) (w7.heap.size + 1) (by simp) ?_); intro gg cap w8 hown8 hgrow hat hlt8; have hbw8 : Below wo.heap.size wo w8 := ((hBw.out _ hb7).alloc (hBw.out _ hb7).size _).grown hgrow ((hBw.out _ hb7).alloc (hBw.out _ hb7).size _).size (fun j hj => (hvb2.out j hj).1)))
              obtain ⟨E2, hE2, hO3⟩ := F.out w7 w8 s2 A2 k2 c2 ls gg cap hb7 p1 p2 p3 p4 p5 pf hown8 hgrow hat
              have HO3 := Lib.hid hO3
              have hE3 : Hid (E2.length ≤ i * mb + (k + 1)) := by show _ ≤ _; omega
              clear hO3 hE2 hown8 hgrow hat hlt8 hbw8 hb7 hb7' p4 p5 pf F Cm keep4 HOW hszo hBw a1 a2 a3 a4
              go_wp2_with fail
              go_roundw
              case rel => exact ⟨k + 1, E2, by omega, by go_num, HO3, hE3⟩
              case measure => simp [intOf]; omega
        · obtain rfl : k = mb := by omega
          have hltk' : ¬ (k : Int) < (k : Int) := by omega
          have hO3 : Hid (ROut wo wt n (C + K + 1) u5 E (mulM (mvT (L.take (i + 1))) (mvT T))) := by
            have h := hO.out
            rw [show T.take k = T from List.take_of_length_le (by rw [HT.out]; exact Nat.le_refl _)] at h
            show ROut _ _ _ _ _ _ _
            rw [Htk.out]
            exact h
          have hE3 : Hid (E.length ≤ (i + 1) * k) := by
            have := hEl.out
            show _ ≤ _
            rw [Nat.add_mul, Nat.one_mul]
            exact this
          clear hO hEl
          go_wp2_with fail
          go_roundw
          case rel => exact ⟨i + 1, E, by omega, by go_num, hO3, hE3⟩
          case measure => simp [intOf]; omega
    · obtain rfl : i = ma := by omega
      have hall : L.take i = L := List.take_of_length_le (by rw [HL.out]; omega)
      have hO2 := hO.out
      rw [hall] at hO2
      have hEl2 := hEl.out
      obtain ⟨D, d, rfl, Cp⟩ := hO2.out (by omega) (by omega) (by omega)
      have HCp := Lib.hid Cp
      have Hb := Lib.hid hO2.bel
      have hlt' : ¬ (i : Int) < (i : Int) := by omega
      clear hall hO2 Cp hO
      go_wp2_with fail
      refine HCp.out.mono ?_
      intro e w9 h9
      obtain ⟨A9, c9, T9, rfl, t1, t2, t3, t4, t5, t6⟩ := h9.from_ Hb.out
      have F : Hid (GivesR wo n (mulM (mvT L) (mvT T)) (.returned (.slice A9 T9.length c9)) w9) := ⟨A9, c9, T9, rfl, t1, t2, t3, t4, t5, t6⟩
      clear h9 t3 t4 t5 t6
      go_wp2_with fail
      go_ret
      exact F.out
end Go.Proofs.YtjmbejodcloapaaGreat
namespace Go.Proofs.YtjmbejodcloapaaGreat
open Go.RowKit Cl
attribute [local go_sem ↓] Go.wp_at_zero Go.wp_at_succ
set_option maxRecDepth 100000 in
theorem r2ofn (w : World) :
    Calls Tryz.prog 41 #[.int .i64 (-1)] w (GivesZ w (-1) 1) := by
  have Cn := Lib.hid (fun W (h : Limbs W (some ⟨w.heap.size + 1, 0, none⟩) 1 [1]) => r2norm true (some ⟨w.heap.size + 1, 0, none⟩) 1 1 [1] W h (by omega) (by omega) (by omega))
  have hv : Hid (intZ true [1] = -1) := by
    show -((limbs [1] : Nat) : Int) = -1
    rfl
  rw [hv.out] at Cn
  have hd := (Duo.new w (.bool false) (.slice none 0 0)).bel ((Below.refl _ _).alloc (Nat.le_refl _) (.cells #[.int .u64 1] 81))
  have hlm := Limbs.one (w.alloc (.cells #[.bool false, .slice none 0 0] 32)) 81 (x := 1) (by omega) (by omega)
  rw [World.size_alloc] at hlm
  have Hlm := Lib.hid hlm
  have Hd := Lib.hid hd
  clear hd hlm
  go_enter Tryz.func41, Tryz.ntmps41
  go_wp2_with fail
  refine (Cn.out _ (by exact Hlm.out)).mono ?_
  rintro e w1 ⟨s1, A1, k1, c1, ls, rfl, g1, g2, g3, g4, g5, hb⟩
  have hd1 := Hd.out.bel hb
  have k0 := hd1.cell0
  have k1' := hd1.cell1
  have f0 := hd1.frozen 0
  have f1 := hd1.frozen 1
  have hb2 : Below w.heap.size w w1 := (((Below.refl _ w).alloc (Nat.le_refl _) _).alloc (by simp) _).trans (hb.mono (by simp; omega))
  have Hd1 := Lib.hid hd1
  have G5 := Lib.hid g5
  clear hd1 hb g5
  go_wp2
  exact bodyPost_ret (results_cell_row (fn := Tryz.f41) rfl _ _ _ _ _ _ _ rfl (Hd1.out.set _ _) Tryz.underlying32 rfl aint_size) rfl
    ⟨s1, A1, k1, c1, ls, rfl, g1, g2, g3, Hd1.out.limbs _ _ rfl rfl g4, G5.out, (hb2.setCell (p := ⟨w.heap.size, 0, none⟩) (Nat.le_refl _) _).setCell (p := ⟨w.heap.size, 1, none⟩) (Nat.le_refl _) _⟩
end Go.Proofs.YtjmbejodcloapaaGreat
namespace Go.Proofs.YtjmbejodcloapaaGreat
open Go.RowKit Cl
attribute [local go_sem ↓] Go.wp_at_zero Go.wp_at_succ
def GivesQ (w : World) (n : Nat) (o : Option Mv) (e : Ending) (w' : World) : Prop :=
  match o with
  | some Q => ∃ A c T, e = .returned (.tuple #[.slice A T.length c, .bool true]) ∧ T.length ≤ c ∧ c ≤ 9223372036854775807 ∧ Trs w' A T.length T ∧ PlainT n T ∧ EqM n (mvT T) Q ∧ Below w.heap.size w w'
  | none => e = .returned (.tuple #[.slice none 0 0, .bool false]) ∧ Below w.heap.size w w'
theorem bel_duoQ {w : World} {B : Nat} {w0 : World} (h : Below B w0 w) {g : Nat} (hg : B ≤ g) (u v : Value) : Below B w0 ((w.setCell ⟨g, 0, none⟩ u).setCell ⟨g, 1, none⟩ v) := (h.setCell (p := ⟨g, 0, none⟩) hg _).setCell (p := ⟨g, 1, none⟩) hg _
theorem trs_one {w : World} {g c d : Nat} {s : Bool} {A E : Option Addr} {ls : List Int} {ps : Plc} (h0 : w.cell? ⟨g, 0, none⟩ = some (.bool s)) (h1 : w.cell? ⟨g, 1, none⟩ = some (.slice A ls.length c)) (h2 : w.cell? ⟨g, 2, none⟩ = some (.slice E ps.length d)) (hg : g < w.heap.size)
    (k1 : ls.length ≤ c) (k2 : c ≤ 9223372036854775807) (k3 : ps.length ≤ d) (k4 : d ≤ 9223372036854775807) (hL : Limbs w A ls.length ls) (hE : Ints w E ps.length ps) : Trs w (some ⟨g, 0, none⟩) 1 [((s, ls), ps)] :=
  ⟨rfl, fun _ => ⟨g, 0, rfl, hg, fun i hi => by
    have hi2 : i < 1 := hi
    obtain rfl : i = 0 := by omega
    exact ⟨A, c, E, d, h0, h1, h2, k1, k2, k3, k4, hL, hE⟩⟩⟩
theorem row_caps {n F K : Nat} {R : List TV} (h : PlainT n R) (hF : ∀ t ∈ mvT R, t.2.natAbs ≤ F) (hK : F < 2 ^ (64 * K)) : ∀ t ∈ R, t.1.2.length ≤ K := fun t ht =>
  (h.co t ht).cap (Nat.lt_of_le_of_lt (hF (valT t) (List.mem_map.2 ⟨t, ht, rfl⟩)) hK)
theorem row_abs {n : Nat} {R : List TV} (h : PlainT n R) : ∀ t ∈ mvT R, t.2.natAbs ≤ absM (mvT R) := fun t ht => h.mv.small (EqM.refl n _) ht
theorem lead0 {n : Nat} {R : List TV} (h : PlainT n R) (h0 : 0 < R.length) : LeadM n (mvT R) (R[0]).2 ∧ coM (mvT R) (R[0]).2 = intZ (R[0]).1.1 (R[0]).1.2 := by
  match R, h, h0 with
  | x :: R, h, _ =>
    have h1 : PlainM n (valT x :: mvT R) := h.mv
    exact ⟨h1.lead, h1.co_head⟩
set_option maxRecDepth 100000 in
set_option maxHeartbeats 32000000 in
theorem r17quotient (n K F G W C : Nat) (ws vs : List Nat) (A B : Option Addr) (ma ca mb cb : Nat) (L T : List TV) (P' : Mv) (pl : Plc) (cl : Int) (w : World)
    (hx : Trs w A ma L) (hy : Trs w B mb T) (hL : PlainT n L) (hT : PlainT n T) (hTe : mvT T = (pl, cl) :: P')
    (hD : DivT n ws vs G (mvT T) P' pl cl) (hS : DvS n ws vs G F W (mvT T) P' pl cl (mvT L) (mvT L) [])
    (hv : vs.length = n) (hva : ∀ a ∈ vs, 0 < a) (hC : (W + vs.sum) ^ vs.length < facP vs * (C + 1)) (hC2 : C ≤ 2100000000000) (hW : W ≤ 1000000)
    (hK : F * (1 + absM (mvT T)) < 2 ^ (64 * K)) (hKb : K ≤ 100000) (hmb : mb ≤ 1000) (hTC : ∀ t ∈ T, t.1.2.length ≤ 1000) (hTb : ∀ t ∈ T, ∀ x ∈ t.2, 0 ≤ x ∧ x ≤ 1000) (hn : n ≤ 6)
    (hQ : ∀ Q, PlainM n Q → (∀ t ∈ Q, NonNeg t.1 ∧ wP vs t.1 ≤ W) → EqM n (mulM Q (mvT T)) (mvT L) → BdM 1000 Q ∧ Q.length ≤ 1000000) :
    Calls Tryz.prog 33 #[.slice A ma ca, .slice B mb cb] w (fun e w' => ∃ o, Dv n (mvT T) pl cl (mvT L) o ∧ (∀ Q, o = some Q → PlainM n Q ∧ EqM n (mulM Q (mvT T)) (mvT L) ∧ (∀ t ∈ Q, t.2.natAbs ≤ F) ∧ BdM 1000 Q ∧ Q.length ≤ 1000000) ∧ GivesQ w n o e w') := by
  obtain ⟨i0, hi0, hz0, hz1, hz2⟩ := info_parts term_infoR
  obtain ⟨j0, hj, hy0, hy1, hy2⟩ := info_parts int_infoF
  obtain ⟨hF1, hF2, hF3⟩ := step_caps hK hC2
  have hT0 : 0 < T.length := by
    rcases Nat.eq_zero_or_pos T.length with h | h
    · rw [List.eq_nil_of_length_eq_zero h] at hTe; cases hTe
    · exact h
  have hlp : valT T[0] = (pl, cl) := by
    match T, hTe with
    | y :: T, e => exact (List.cons.inj e).1
  have hlen0 := hT.mv.len _ (List.mem_map.2 ⟨_, List.getElem_mem hT0, rfl⟩)
  have hma : ma = L.length := hx.len.symm
  have hmbT : mb = T.length := hy.len.symm
  have hmbp : 0 < mb := by omega
  subst hma
  obtain ⟨bb, ob, rfl, hbb, hcb⟩ := hy.at_ (by omega)
  obtain ⟨Bi, di, Fi, fi, f1, f2, f3, f4, f5, f6, f7, f8, f9⟩ := hcb 0 hT0
  have hysC := hTC _ (List.getElem_mem hT0)
  have hqb := hTb _ (List.getElem_mem hT0)
  have hlT : ∀ t ∈ T, t.2.length = n := fun t ht => hT.mv.len (valT t) (List.mem_map.2 ⟨t, ht, rfl⟩)
  have hcl0 : cl ≠ 0 := hD.pln.ne (pl, cl) List.mem_cons_self
  clear hcb hTe
  generalize T[0] = y at *
  obtain ⟨⟨sb, ys⟩, qs⟩ := y
  obtain ⟨rfl, rfl⟩ : qs = pl ∧ intZ sb ys = cl := by injection hlp with e1 e2; exact ⟨e1, e2⟩
  simp only [Nat.mul_zero, Nat.add_zero, Nat.zero_add] at f1 f2 f3 f4 f6 f8 f9 hysC hqb hlen0
  have hlq : qs.length = n := hlen0
  have hys0 : 0 < limbs ys := by
    rcases Nat.eq_zero_or_pos (limbs ys) with h | h
    · exfalso
      apply hcl0
      unfold intZ
      cases sb <;> simp [h]
    · exact h
  have keepB : Hid (∀ V, Below w.heap.size w V → V.cell? ⟨bb, ob, none⟩ = some (.bool sb) ∧ V.cell? ⟨bb, ob + 1, none⟩ = some (.slice Bi ys.length di) ∧ V.cell? ⟨bb, ob + 2, none⟩ = some (.slice Fi qs.length fi)) := fun V hV =>
    ⟨(hV.cell (p := ⟨bb, ob, none⟩) hbb).trans f1, (hV.cell (p := ⟨bb, ob + 1, none⟩) hbb).trans f2, (hV.cell (p := ⟨bb, ob + 2, none⟩) hbb).trans f3⟩
  have F8 := Lib.hid f8
  have F9 := Lib.hid f9
  have Hy := Lib.hid hy
  have HD := Lib.hid hD
  have HTm := Lib.hid hT.mv.len
  have HlT := Lib.hid hlT
  have HTC := Lib.hid hTC
  have HTb := Lib.hid hTb
  have Hqb := Lib.hid hqb
  have Hlq := Lib.hid hlq
  have HQ := Lib.hid hQ
  have HC := Lib.hid hC
  have Hv := Lib.hid hv
  have Hva := Lib.hid hva
  have HF1 := Lib.hid hF1
  have HF2 := Lib.hid hF2
  have HF3 := Lib.hid hF3
  have Hys0 := Lib.hid hys0
  have hS0 := Lib.hid hS
  have hLP := Lib.hid hL
  have hst0 : Hid (∀ V, Only (fun k => (Value.slice none 0 0).ownBlock = some k) w V → Trs V A L.length L) := fun V hV => hx.bel (hV.below (Nat.le_refl _) (fun k hk => by cases hk))
  clear hx hy hL hT hD hS hv hva hC hK hTC hTb hQ hF1 hF2 hF3 f1 f2 f3 f8 f9 hlen0 hlp hys0 hlT hcl0 hqb hlq hT0 hmbT
  go_enter Tryz.func33, Tryz.ntmps33
  obtain ⟨wo, rfl⟩ : ∃ wo : World, wo = w := ⟨_, rfl⟩
  go_wp2_with fail
  go_loopg [6, 7] (C + 1) (fun gk v6 v7 wr => ∃ (Ar : Option Addr) (cr : Nat) (R : List TV) (Qs : Mv) (E : List EntT), Qs.length ≤ C ∧ C - Qs.length < gk ∧ v6 = .slice Ar R.length cr ∧ Hid (E.length = Qs.length) ∧ Hid (∀ V, Only (fun k => v7.ownBlock = some k) wr V → Trs V Ar R.length R) ∧ Hid (PlainT n R) ∧ Hid (DvS n ws vs G F W (mvT T) P' qs (intZ sb ys) (mvT L) (mvT R) Qs) ∧ Hid (ROut wo wr n K v7 E Qs))
  case atStart => exact ⟨A, ca, L, [], [], Nat.zero_le _, Nat.lt_succ_self _, rfl, rfl, hst0, hLP, hS0, ROut.start _ _ _⟩
  case round =>
    clear hst0 hLP hS0
    obtain ⟨Ar, cr, R, Qs, E, hQC, hgk, rfl, hEl, hSta, hPR, hSt, hO⟩ := hrel
    obtain ⟨wp, rfl⟩ : ∃ wp : World, wp = wr := ⟨_, rfl⟩
    have hRC : R.length ≤ C := by have := hSt.out.rows hPR.out.mv Hv.out Hva.out HC.out; rwa [mvT_length] at this
    by_cases h0 : 0 < R.length
    · have hRt := hSta.out wp (Only.refl _ _)
      obtain ⟨b, o, rfl, hb, hc⟩ := hRt.at_ h0
      obtain ⟨Ai, ci, Ei, ei, e1, e2, e3, e4, e5, e6, e7, e8, e9⟩ := hc 0 h0
      obtain ⟨hld, hco⟩ := lead0 hPR.out h0
      have hxsC := row_caps hPR.out (hSt.out.small HD.out.pos hPR.out.mv) HF1.out _ (List.getElem_mem h0)
      clear hc hRt
      generalize R[0] = x at *
      obtain ⟨⟨s, xs⟩, ps⟩ := x
      simp only [Nat.mul_zero, Nat.add_zero, Nat.zero_add] at e1 e2 e3 e4 e6 e8 e9 hxsC hld hco
      have hlp : ps.length = n := hld.len
      have hnn := hSt.out.nn hlp hld.ne
      have hpb : ∀ x ∈ ps, x ≤ 1000000 := fun x hx => by
        have h1 := wP_entry0 (ws := vs) (p := ps) (by rw [Hv.out, hlp]; exact Nat.le_refl _) Hva.out x hx
        have h2 := hnn.2
        omega
      have Hpb := Lib.hid hpb
      have Hnn := Lib.hid hnn.1
      have Hlp := Lib.hid hlp
      have Hld := Lib.hid hld
      have Hco := Lib.hid hco
      have E8 := Lib.hid e8
      have E9 := Lib.hid e9
      have hvb := Lib.hid (fun j (h : u7.ownBlock = some j) => hO.out.own.lt j h)
      have hbw := Lib.hid hO.out.bel
      have hR0 : (0 : Int) < (R.length : Int) := by omega
      have hmb0 : (0 : Int) < (mb : Int) := by omega
      have hRs := hRC
      have keepA : Hid (∀ V, Below wp.heap.size wp V → V.cell? ⟨b, o, none⟩ = some (.bool s) ∧ V.cell? ⟨b, o + 1, none⟩ = some (.slice Ai xs.length ci) ∧ V.cell? ⟨b, o + 2, none⟩ = some (.slice Ei ps.length ei) ∧ V.cell? ⟨bb, ob, none⟩ = some (.bool sb) ∧ V.cell? ⟨bb, ob + 1, none⟩ = some (.slice Bi ys.length di) ∧ V.cell? ⟨bb, ob + 2, none⟩ = some (.slice Fi qs.length fi)) := fun V hV =>
        have k := keepB.out V (hbw.out.trans (hV.mono hbw.out.size))
        ⟨(hV.cell (p := ⟨b, o, none⟩) hb).trans e1, (hV.cell (p := ⟨b, o + 1, none⟩) hb).trans e2, (hV.cell (p := ⟨b, o + 2, none⟩) hb).trans e3, k.1, k.2.1, k.2.2⟩
      obtain ⟨cd, hcd, hcq⟩ : ∃ cd : Int, ((cd = 0 ∧ intZ s xs % intZ sb ys = 0) ∨ (cd = 4 ∧ ¬ intZ s xs % intZ sb ys = 0)) ∧ (if intZ s xs % intZ sb ys = 0 then (0 : Int) else 4) = cd := by
        by_cases h : intZ s xs % intZ sb ys = 0
        · exact ⟨0, .inl ⟨rfl, h⟩, if_pos h⟩
        · exact ⟨4, .inr ⟨rfl, h⟩, if_neg h⟩
      have Ce : Hid (∀ V, Below wp.heap.size wp V → Calls Tryz.prog 49 #[.agg #[.bool s, .slice Ai xs.length ci], .agg #[.bool sb, .slice Bi ys.length di]] V (fun e V' => ∃ s1 A1 k1 c1 l1, e = .returned (.tuple #[.agg #[.bool s1, .slice A1 k1 c1], .int .i64 cd]) ∧ k1 ≤ c1 ∧ c1 ≤ 9223372036854775807 ∧ Limbs V' A1 k1 l1 ∧ (intZ s xs % intZ sb ys = 0 → ZVal s1 l1 (intZ s xs / intZ sb ys)) ∧ (0 < k1 → ∀ y, A1 = some y → V.heap.size ≤ y.block) ∧ Below V.heap.size V V')) := fun V hV => by
        refine (r2exactF s sb Ai Bi xs.length ys.length ci di xs ys V (E8.out.bel hV) (F8.out.bel (hbw.out.trans (hV.mono hbw.out.size))) e4 e5 f4 f5 (by omega) (by omega) Hys0.out).mono ?_
        rintro e V' ⟨s1, A1, k1, c1, l1, h1, _, h2, h3, h4, h5, h6, h7⟩
        rw [hcq] at h1
        exact ⟨s1, A1, k1, c1, l1, h1, h2, h3, h4, h5, h6, h7⟩
      have Hcd := Lib.hid hcd
      clear hcd hcq e1 e2 e3 e8 e9 hnn hpb hld hco hlp
      obtain ⟨a1, a2, a3, a4, a5, a6⟩ := keepA.out _ (Below.refl _ _)
      go_wp2_with fail
      go_cut [8, 9] (fun s8 s9 wx => ∃ (gd : Nat) (s1 : Bool) (A1 : Option Addr) (k1 c1 : Nat) (l1 : List Int), s8 = .pointer (some ⟨gd, 0, none⟩) ∧ s9 = .int .i64 cd ∧ wp.heap.size ≤ gd ∧ Hid (Duo wx gd (.bool s1) (.slice A1 k1 c1)) ∧ k1 ≤ c1 ∧ c1 ≤ 9223372036854775807 ∧ Hid (Limbs wx A1 k1 l1) ∧ Hid (intZ s xs % intZ sb ys = 0 → ZVal s1 l1 (intZ s xs / intZ sb ys)) ∧ Hid (0 < k1 → ∀ y, A1 = some y → wp.heap.size ≤ y.block) ∧ Hid (Below wp.heap.size wp wx))
      case first =>
        go_region_held3 (fun V => V.cell? ⟨b, o, none⟩ = some (.bool s) ∧ V.cell? ⟨b, o + 1, none⟩ = some (.slice Ai xs.length ci) ∧ V.cell? ⟨b, o + 2, none⟩ = some (.slice Ei ps.length ei) ∧ V.cell? ⟨bb, ob, none⟩ = some (.bool sb) ∧ V.cell? ⟨bb, ob + 1, none⟩ = some (.slice Bi ys.length di) ∧ V.cell? ⟨bb, ob + 2, none⟩ = some (.slice Fi qs.length fi))
          (first | go_keep | exact keepA.out _ (Below.refl _ _).drew | exact keepA.out _ ((Below.refl _ _).alloc (Nat.le_refl _) _).drew | exact keepA.out _ hbe | exact keepA.out _ (hbe.alloc hbe.size _) | exact keepA.out _ (bel_duoQ hbe (Nat.le_refl _) _ _))
          (first | (go_at_call 49; refine (Ce.out _ (by first | exact (Below.refl _ _).drew | exact ((Below.refl _ _).alloc (Nat.le_refl _) _).drew)).mono ?_; rintro e we ⟨s1, A1, k1', c1', l1, rfl, z2, z3, z4, z5, z6, hbe'⟩; have hbe : Below wp.heap.size wp we := (by first | exact (Below.refl _ _).drew.trans hbe' | exact ((Below.refl _ _).alloc (Nat.le_refl _) _).drew.trans (hbe'.mono (by simp))); (first | (have tD := (Duo.new wp (.bool false) (.slice none 0 0)); have tE := Duo.bel (w := (World.alloc wp _).drew) tD hbe'; have u0 := tE.cell0; have u1 := tE.cell1; have v0 := tE.frozen 0; have v1 := tE.frozen 1) | skip)))
        all_goals
          go_wp2_with fail
          go_meet
          first
            | exact ⟨wp.heap.size, s1, A1, k1', c1', l1, rfl, rfl, Nat.le_refl _, tE.set _ _, z2, z3, tE.limbs _ _ rfl rfl z4, z5, (fun h0 y hy => by first | exact z6 h0 y hy | (have h := z6 h0 y hy; simp at h; omega)), bel_duoQ hbe (Nat.le_refl _) _ _⟩
            | exact ⟨we.heap.size, s1, A1, k1', c1', l1, rfl, rfl, hbe.size, Duo.new we _ _, z2, z3, z4.alloc _, z5, (fun h0 y hy => by first | exact z6 h0 y hy | (have h := z6 h0 y hy; simp at h; omega)), hbe.alloc hbe.size _⟩
      case rest =>
        obtain ⟨gd, s1, A1, k1, d1, l1, rfl, rfl, hgd, hDd, p2, p3, hLd, hZd, hFd, hBd⟩ := hcut
        obtain ⟨w7, rfl⟩ : ∃ V : World, V = wc := ⟨_, rfl⟩
        clear a1 a2 a3 a4 a5 a6 Ce
        have hgd7 := hDd.out.lt
        rcases Hcd.out with ⟨rfl, hdiv⟩ | ⟨rfl, hnd⟩
        case inr =>
          have Fin : Hid (∃ o, Dv n (mvT T) qs (intZ sb ys) (mvT L) o ∧ (∀ Q, o = some Q → PlainM n Q ∧ EqM n (mulM Q (mvT T)) (mvT L) ∧ (∀ t ∈ Q, t.2.natAbs ≤ F) ∧ BdM 1000 Q ∧ Q.length ≤ 1000000) ∧ GivesQ wo n o (.returned (.tuple #[.slice none 0 0, .bool false])) w7) :=
            ⟨none, hSt.out.no Hld.out (fun h => hnd (by rw [← Hco.out]; exact h.1)), fun Q e => (by cases e), rfl, hbw.out.trans (hBd.out.mono hbw.out.size)⟩
          clear hnd Hcd
          go_wp2_with fail
          go_ret2
          exact Fin.out
        case inl =>
          have Hdiv := Lib.hid hdiv
          clear hdiv Hcd
          have hb70 := Lib.hid (hbw.out.trans (hBd.out.mono hbw.out.size))
          go_wp2_with fail
          go_loopw [10, 11] (fun v jj wj => ∃ j : Nat, j ≤ ps.length ∧ jj = .int .i64 (j : Int) ∧ wj.ownsRow w7.heap.size 3 1 v j (ints ((subP ps qs).take j)) ∧ Below w7.heap.size w7 wj ∧ Hid (∀ i, i < j → nth qs i ≤ nth ps i)) (fun _ jj _ => ps.length - (intOf jj).toNat)
          case atStart => exact ⟨0, by omega, rfl, World.ownsRow_nil _ _ _ _, Below.refl _ _, fun i hi => absurd hi (Nat.not_lt_zero i)⟩
          case round =>
            obtain ⟨j, hj1, rfl, hown, hbel, hle⟩ := hrel
            obtain ⟨wj, rfl⟩ : ∃ wj : World, wj = wr := ⟨_, rfl⟩
            obtain ⟨a1, a2, a3, a4, a5, a6⟩ := keepA.out _ (hBd.out.trans (hbel.mono hBd.out.size))
            by_cases hltj : j < ps.length
            · have hll := Hlp.out
              have hllT := Hlq.out
              obtain ⟨be, oe, rfl, hbe, hce⟩ := E9.out.at_ (by omega)
              obtain ⟨bf, of, rfl, hbf, hcf⟩ := F9.out.at_ (by omega)
              obtain ⟨p1, p4⟩ : 0 ≤ nth ps j ∧ nth ps j ≤ 1000000 := ⟨Hnn.out _ (nth_mem hltj), Hpb.out _ (nth_mem hltj)⟩
              obtain ⟨q1, q2⟩ := Hqb.out _ (nth_mem (by omega : j < qs.length))
              have hltj' : (j : Int) < (ps.length : Int) := by omega
              have hltj2 : (j : Int) < (qs.length : Int) := by omega
              have hj0 : (0 : Int) ≤ (j : Int) := by omega
              have keep6 : Hid (∀ V, Below wj.heap.size wj V → V.cell? ⟨b, o + 2, none⟩ = some (.slice (some ⟨be, oe, none⟩) ps.length ei) ∧ V.cell? ⟨bb, ob + 2, none⟩ = some (.slice (some ⟨bf, of, none⟩) qs.length fi) ∧ V.cell? ⟨be, oe + j, none⟩ = some (.int .i64 (nth ps j)) ∧ V.cell? ⟨bf, of + j, none⟩ = some (.int .i64 (nth qs j))) := fun V hV =>
                have hV7 := hBd.out.trans ((hbel.trans (hV.mono hbel.size)).mono hBd.out.size)
                have k := keepA.out _ hV7
                ⟨k.2.2.1, k.2.2.2.2.2, (hV7.cell (p := ⟨be, oe + j, none⟩) hbe).trans (hce j (by omega)), ((hbw.out.trans (hV7.mono hbw.out.size)).cell (p := ⟨bf, of + j, none⟩) hbf).trans (hcf j (by omega))⟩
              obtain ⟨c1, c2, c3, c4⟩ := keep6.out _ (Below.refl _ _)
              by_cases hlt2 : nth ps j < nth qs j
              · have Fin : Hid (∀ k, ∃ o, Dv n (mvT T) qs (intZ sb ys) (mvT L) o ∧ (∀ Q, o = some Q → PlainM n Q ∧ EqM n (mulM Q (mvT T)) (mvT L) ∧ (∀ t ∈ Q, t.2.natAbs ≤ F) ∧ BdM 1000 Q ∧ Q.length ≤ 1000000) ∧ GivesQ wo n o (.returned (.tuple #[.slice none 0 0, .bool false])) (wj.drewN k)) := fun k =>
                  ⟨none, hSt.out.no Hld.out (fun h => by obtain ⟨s', h1, h2, h3⟩ := h.2; exact sub_none Hlp.out Hlq.out (by omega) hlt2 h1 h2 h3), fun Q e => (by cases e), rfl, below_drewN (hb70.out.trans (hbel.mono hb70.out.size)) k⟩
                generalize nth ps j = pj at *
                generalize nth qs j = qj at *
                clear hce hcf hll hllT p1 p4 q1 q2 hown hle
                go_wp2_with fail
                go_region
                go_wp2_with fail
                go_ret2
                exact Fin.out 1
              · have ew : IntKind.i64.wrap (nth ps j - nth qs j) = nth ps j - nth qs j := IntWalk.i64_in _ (by omega)
                have Hat := Lib.hid (subP_take (a := ps) (b := qs) (j := j) (by omega) (by omega))
                have hle2 : Hid (∀ i, i < j + 1 → nth qs i ≤ nth ps i) := fun i hi => by
                  rcases Nat.lt_or_ge i j with h | h
                  · exact hle.out i h
                  · obtain rfl : i = j := by omega
                    omega
                have HO1 : Hid (wj.drew.ownsRow w7.heap.size 3 1 u10 j (ints ((subP ps qs).take j))) := own_drew hown
                have hbelk : Below w7.heap.size w7 wj.drew := hbel.drew
                have keepK : Hid (∀ V, Below wj.drew.heap.size wj.drew V → V.cell? ⟨b, o + 2, none⟩ = some (.slice (some ⟨be, oe, none⟩) ps.length ei) ∧ V.cell? ⟨bb, ob + 2, none⟩ = some (.slice (some ⟨bf, of, none⟩) qs.length fi) ∧ V.cell? ⟨be, oe + j, none⟩ = some (.int .i64 (nth ps j)) ∧ V.cell? ⟨bf, of + j, none⟩ = some (.int .i64 (nth qs j))) := fun V hV => keep6.out V ((Below.refl wj.heap.size wj).drew.trans hV)
                have keep7 : Hid (∀ V, Below w7.heap.size w7 V → V.cell? ⟨b, o + 2, none⟩ = some (.slice (some ⟨be, oe, none⟩) ps.length ei) ∧ V.cell? ⟨bb, ob + 2, none⟩ = some (.slice (some ⟨bf, of, none⟩) qs.length fi) ∧ V.cell? ⟨be, oe + j, none⟩ = some (.int .i64 (nth ps j)) ∧ V.cell? ⟨bf, of + j, none⟩ = some (.int .i64 (nth qs j))) := fun V hV =>
                  have hV7 := hBd.out.trans (hV.mono hBd.out.size)
                  have k := keepA.out _ hV7
                  ⟨k.2.2.1, k.2.2.2.2.2, (hV7.cell (p := ⟨be, oe + j, none⟩) hbe).trans (hce j (by omega)), ((hbw.out.trans (hV7.mono hbw.out.size)).cell (p := ⟨bf, of + j, none⟩) hbf).trans (hcf j (by omega))⟩
                have z1 : j + 1 ≤ maxLen := by unfold maxLen; omega
                have z2 : (j + 1) * 8 ≤ 140737488355328 := by omega
                have z3 : Hid (∀ (ob : Obj), w7.heap.size ≤ (wj.drew.alloc ob).heap.size) := fun ob => by have := hbel.size; simp; omega
                generalize nth ps j = pj at *
                generalize nth qs j = qj at *
                clear hce hcf hll hllT p1 p4 q1 q2 hle
                go_wp2_with fail
                go_region
                clear hown hbel keep6 c1 c2 c3 c4 a1 a2 a3 a4 a5 a6
                generalize wj.drew = wk at *
                obtain ⟨c1, c2, c3, c4⟩ := keepK.out _ (Below.refl _ _)
                have hdec : decide (pj < qj) = false := decide_eq_false (by omega)
                rw [hdec]
                clear hlt2 hdec
                go_wp2_with fail
                go_region_held3 (fun V => V.cell? ⟨b, o + 2, none⟩ = some (.slice (some ⟨be, oe, none⟩) ps.length ei) ∧ V.cell? ⟨bb, ob + 2, none⟩ = some (.slice (some ⟨bf, of, none⟩) qs.length fi) ∧ V.cell? ⟨be, oe + j, none⟩ = some (.int .i64 pj) ∧ V.cell? ⟨bf, of + j, none⟩ = some (.int .i64 qj))
                  (first | go_keep | exact keep7.out _ hb8)
                  (first | (refine step_append_lies _ (by rfl) _ _ _ (by rfl) w7.heap.size 3 j0 _ 1 8 Tryz.underlying43 hj hy0 hy1 hy2 rfl (by omega) u10 j (ints ((subP ps qs).take j)) (by rfl) ((HO1.out.alloc _).drew) ⟨wk.heap.size, 0, none⟩ 1 1 [.int .i64 (pj - qj)] (by rfl) (by rfl) (World.news_of_block (cs := #[.int .i64 (pj - qj)]) (t := 3) (fr := (0, 0)) (heap_alloc_new wk _)) (by simp [Value.oneCell']) (by omega) z1 z2 (z3.out _) (wk.heap.size + 1) (by simp) ?_; intro gg cap w8 hown8 hgrow hat hlt8; have hb8 : Below w7.heap.size w7 w8 := below_app hbelk HO1.out hgrow hbelk.size))
                have hown9 : w8.ownsRow w7.heap.size 3 1 (.slice (some ⟨gg, 0, none⟩) (j + 1) cap) (j + 1) (ints ((subP ps qs).take (j + 1))) := by
                  rw [Hat.out, ints_append]; exact hown8
                clear hown8 hgrow hat hlt8 HO1
                go_wp2_with fail
                go_roundw
                case rel => exact ⟨j + 1, by omega, by go_num, hown9, hb8, hle2⟩
                case measure => simp [intOf]; omega
            · obtain rfl : j = ps.length := by omega
              have hll := Hlp.out
              have hllT := Hlq.out
              have hla : (subP ps qs).length = ps.length := by rw [hll]; exact subP_length hll hllT
              rw [List.take_of_length_le (by rw [hla]; exact Nat.le_refl _)] at hown
              obtain ⟨X, cx, rfl⟩ := own_slice hown
              obtain ⟨g1, g2⟩ := own_caps hown
              obtain ⟨hadd, hnn0⟩ := sub_yes hll hllT (fun i hi => hle.out i (by rw [hll]; exact hi))
              have hstep := hSt.out.step HD.out Hld.out (by rw [Hco.out]; exact Hdiv.out) (subP_length hll hllT) hadd hnn0
              rw [Hco.out] at hstep
              have hz := hZd.out Hdiv.out
              have hub := sub_bd (B := 1000000) (by omega : ps.length = qs.length) Hpb.out (fun x hx => (Hqb.out x hx).1)
              have hsok : ∀ i, I64 (nth (subP ps qs) i) := fun i => by
                rcases Nat.lt_or_ge i (subP ps qs).length with h | h
                · have h1 := hnn0 _ (nth_mem h)
                  have h2 := hub _ (nth_mem h)
                  constructor <;> omega
                · rw [nth_ge h]; constructor <;> omega
              have hIe : Ints wj X ps.length (subP ps qs) := Ints.of_own hown hsok
              have hfarX : 0 < ps.length → ∀ z, X = some z → w7.heap.size ≤ z.block := fun _ z hz => (hown.lt z.block (by subst hz; rfl)).1
              have Hsb := Lib.hid (fun x (hx : x ∈ subP ps qs) => And.intro (hnn0 x hx) (hub x hx))
              have hsl := subP_length hll hllT
              obtain ⟨sp, hsp⟩ : ∃ sp, subP ps qs = sp := ⟨_, rfl⟩
              obtain ⟨z, hzz⟩ : ∃ z, intZ s xs / intZ sb ys = z := ⟨_, rfl⟩
              rw [hsp] at hla hstep hIe Hsb hsl
              rw [hzz] at hstep hz
              clear hsp hzz hown hsok hub hnn0 hadd hle hZd Hco Hdiv
              have hzF : z.natAbs ≤ F := hstep.abQ (sp, z) (by simp)
              have hl1 : l1.length ≤ K := hz.cap (Nat.lt_of_le_of_lt hzF HF1.out)
              have hQC2 : (Qs ++ [(sp, z)]).length ≤ C := hstep.count Hv.out Hva.out HC.out
              rw [List.length_append] at hQC2
              have hQC3 : Qs.length + 1 ≤ C := hQC2
              have hk1 : l1.length = k1 := hLd.out.len
              subst hk1
              have hDj := hDd.out.bel hbel
              have hb1 : Below wp.heap.size wp wj := hBd.out.trans (hbel.mono hBd.out.size)
              have hsz1 := hb1.size
              have hsz2 := hbel.size
              have hltj' : ¬ (ps.length : Int) < (ps.length : Int) := by omega
              have m0 := hDj.cell0
              have m1 := hDj.cell1
              have hlj : wj.heap.size < (wj.alloc (.cells #[.bool s1, .slice A1 l1.length d1, .slice X ps.length cx] 45)).heap.size := by simp
              have hxE : EntOk (wj.alloc (.cells #[.bool s1, .slice A1 l1.length d1, .slice X ps.length cx] 45)) (((A1, d1), (X, cx)), ((s1, l1), sp)) :=
                ⟨p2, p3, by show sp.length ≤ cx; rw [hla]; exact g1, g2, (hLd.out.bel hbel).alloc _, by show Ints _ X sp.length sp; rw [hla]; exact hIe.bel ((Below.refl _ _).alloc (Nat.le_refl _) _)⟩
              obtain ⟨h0c, h1c, h2c⟩ := cells_new3 wj (.bool s1) (.slice A1 l1.length d1) (.slice X ps.length cx) 45
              have hb9 : Below wp.heap.size wp (wj.alloc (.cells #[.bool s1, .slice A1 l1.length d1, .slice X ps.length cx] 45)) := hb1.alloc hsz1 _
              have hfr1 : 0 < l1.length → ∀ y, A1 = some y → wp.heap.size ≤ y.block := hFd.out
              have q1 : E.length + 1 ≤ maxLen := by have h1 := hEl.out; unfold maxLen; omega
              have q2 : (E.length + 1) * 56 ≤ 140737488355328 := by have h1 := hEl.out; omega
              have q3 : Hid (wo.heap.size ≤ ((wj.alloc (.cells #[.bool s1, .slice A1 l1.length d1, .slice X ps.length cx] 45)).alloc (.cells #[.bool s1, .slice A1 l1.length d1, .slice X ps.length cx] 45)).heap.size) := by have := hbw.out.size; show _ ≤ _; simp; omega
              have HOW : Hid (((wj.alloc (.cells #[.bool s1, .slice A1 l1.length d1, .slice X ps.length cx] 45)).alloc (.cells #[.bool s1, .slice A1 l1.length d1, .slice X ps.length cx] 45)).ownsRow wo.heap.size 45 3 u7 E.length (tcells E)) := (own_below hO.out.own hb9).alloc _
              have F : Hid (∀ (w8 : World) (gg cap : Nat), w8.ownsRow wo.heap.size 45 3 (.slice (some ⟨gg, 0, none⟩) (E.length + 1) cap) (E.length + 1) (tcells E ++ [.bool s1, .slice A1 l1.length d1, .slice X ps.length cx]) → ((wj.alloc (.cells #[.bool s1, .slice A1 l1.length d1, .slice X ps.length cx] 45)).alloc (.cells #[.bool s1, .slice A1 l1.length d1, .slice X ps.length cx] 45)).grownBy w8 u7.ownBlock → (u7.ownBlock = some gg ∨ gg = wj.heap.size + 1 + 1) →
                  ROut wo w8 n K (.slice (some ⟨gg, 0, none⟩) (E.length + 1) cap) (E ++ [(((A1, d1), (X, cx)), ((s1, l1), sp))]) (Qs ++ [(sp, z)]) ∧ Trs w8 (some ⟨b, o, none⟩) R.length R ∧ Trs w8 (some ⟨wj.heap.size, 0, none⟩) 1 [((s1, l1), sp)]) := fun w8 gg cap h7 h8 h9 => by
                have hnx := hO.out.next (x := (((A1, d1), (X, cx)), ((s1, l1), sp))) (o := (.cells #[.bool s1, .slice A1 l1.length d1, .slice X ps.length cx] 45)) (H := wj.heap.size + 1 + 1) hb9 hxE hsl hl1
                  (fun h0 y hy e => by have h10 := hfr1 h0 y hy; have h11 := (hvb.out _ e).2; omega) (fun h0 y hy e => by have h10 := hfarX (by have h0' : 0 < sp.length := h0; omega) y hy; have h11 := (hvb.out _ e).2; have h12 := hBd.out.size; omega)
                  (by show w8.ownsRow _ _ _ _ _ (tcells E ++ [.bool s1, .slice A1 l1.length d1, .slice X sp.length cx]); rw [hla]; exact h7) h8 h9 (by simp)
                have e : valT ((s1, l1), sp) = (sp, z) := by
                  show (sp, intZ s1 l1) = _
                  rw [hz.eq]
                rw [e] at hnx
                have ho : Only (fun k => u7.ownBlock = some k) (wj.alloc (.cells #[.bool s1, .slice A1 l1.length d1, .slice X ps.length cx] 45)) w8 := (only_of_bel ((Below.refl _ _).alloc (Nat.le_refl _) _)).trans (Only.of_grown h8)
                have hoP : Only (fun k => u7.ownBlock = some k) wp w8 := (only_of_bel hb9).trans ho
                refine ⟨hnx, hSta.out _ hoP, ?_⟩
                have hnot : ¬ u7.ownBlock = some wj.heap.size := fun e => by have := (hvb.out _ e).2; omega
                have hxe := entOk_only hxE ho (fun h0 y hy e => by have h10 := hfr1 h0 y hy; have h11 := (hvb.out _ e).2; omega) (fun h0 y hy e => by have h10 := hfarX (by have h0' : 0 < sp.length := h0; omega) y hy; have h11 := (hvb.out _ e).2; have h12 := hBd.out.size; omega)
                exact trs_one ((ho.cell (p := ⟨wj.heap.size, 0, none⟩) hlj hnot).trans h0c) ((ho.cell (p := ⟨wj.heap.size, 1, none⟩) hlj hnot).trans h1c) (by rw [hla]; exact (ho.cell (p := ⟨wj.heap.size, 2, none⟩) hlj hnot).trans h2c) (Nat.lt_of_lt_of_le hlj ho.size) p2 p3 hxe.2.2.1 g2 hxe.2.2.2.2.1 hxe.2.2.2.2.2
              have HSmR := Lib.hid (hSt.out.small HD.out.pos hPR.out.mv)
              have HabR := Lib.hid (hSt.out.abs HD.out.pos hPR.out.mv (by rw [mvT_length]; exact hRC))
              have HSt := Lib.hid hstep
              have Hz := Lib.hid hz
              have HzF := Lib.hid hzF
              have Hsl := Lib.hid hsl
              have a9 := a3
              clear hstep hz hzF hO hSta hxE hIe hfarX hfr1 hLd hFd hDj hDd hBd hbel keepA keepB a1 a2 a3 a4 a5 a6 E8 E9 F8 F9 hSt hsl hla hll hllT
              go_wp2_with (at_builtin; refine wpList_append_lies (w := (wj.alloc (.cells #[.bool s1, .slice A1 l1.length d1, .slice X ps.length cx] 45)).alloc (.cells #[.bool s1, .slice A1 l1.length d1, .slice X ps.length cx] 45)) (by rfl) _ _ _ (by rfl) wo.heap.size 45 i0 _ 3 56 Tryz.underlying22 hi0 hz0 hz1 hz2 rfl (by omega) u7 E.length (tcells E) (by rfl) HOW.out ⟨wj.heap.size + 1, 0, none⟩ 1 1 [.bool s1, .slice A1 l1.length d1, .slice X ps.length cx] (by rfl) (by rfl) (World.news_of_block (cs := #[.bool s1, .slice A1 l1.length d1, .slice X ps.length cx]) (t := 45) (fr := (0, 0)) (by have := heap_alloc_new (wj.alloc (.cells #[.bool s1, .slice A1 l1.length d1, .slice X ps.length cx] 45)) (.cells #[.bool s1, .slice A1 l1.length d1, .slice X ps.length cx] 45); rwa [World.size_alloc] at this)) (by simp [Value.oneCell']) (Nat.one_pos) q1 q2 q3.out (wj.heap.size + 1 + 1) (by simp) ?_; intro gg cap w8 hown8 hgrow hat hlt8)
              obtain ⟨hO8, hR8, hT8⟩ := F.out w8 gg cap hown8 hgrow hat
              have hbw8 := hO8.bel
              obtain ⟨gt, hgt⟩ : ∃ g, wj.heap.size = g := ⟨_, rfl⟩
              rw [hgt] at hT8 ⊢
              have Ct : Hid (Calls Tryz.prog 63 #[.slice (some ⟨gt, 0, none⟩) 1 1, .slice (some ⟨bb, ob, none⟩) mb cb] w8 (GivesR w8 n (mulM [(sp, z)] (mvT T)))) := by
                have h := r17times n K 1000 (some ⟨gt, 0, none⟩) (some ⟨bb, ob, none⟩) 1 1 mb cb [((s1, l1), sp)] T w8 hT8 (Hy.out.bel hbw8) (fun t ht => by rw [List.mem_singleton.1 ht]; exact Hsl.out) HlT.out (fun t ht => by rw [List.mem_singleton.1 ht]; exact hl1) HTC.out (fun t ht x hx => by rw [List.mem_singleton.1 ht] at hx; exact Hsb.out x hx) (fun t ht x hx => by have := HTb.out t ht x hx; omega) (by omega) (by omega) (by omega) (by omega) (by omega)
                have e : mvT [((s1, l1), sp)] = [(sp, z)] := by
                  show [(sp, intZ s1 l1)] = _
                  rw [Hz.out.eq]
                rw [e] at h
                exact h
              have HO8 := Lib.hid hO8
              have HR8 := Lib.hid hR8
              clear F hO8 hR8 hT8 hown8 hgrow hat HOW q3 h0c h1c h2c m0 m1 hgt hb1 hb9 hlj Hsb
              go_wp2_with fail
              refine Ct.out.mono ?_
              rintro e w9 ⟨A9, c9, T9, rfl, t1, t2, t3, t4, t5, t6⟩
              have hm9 : T9.length ≤ mb := by
                have h := t4.mv.count t5
                rw [mvT_length, mulM_length, mvT_length] at h
                have h2 := Hy.out.len
                simp only [List.length_singleton, Nat.one_mul] at h
                omega
              have hlen1 : LenM n [(sp, z)] := fun t ht => by rw [List.mem_singleton.1 ht]; exact Hsl.out
              have hab9 : absM (mvT T9) ≤ F * absM (mvT T) := by
                refine Nat.le_trans (t4.mv.abs_le t5 (hlen1.mul HTm.out)) ?_
                rw [absM_one]
                exact Nat.mul_le_mul_right _ HzF.out
              have hC9 := row_caps t4 (row_abs t4) (Nat.lt_of_le_of_lt hab9 HF2.out)
              have hl9 : ∀ t ∈ T9, t.2.length = n := fun t ht => t4.mv.len (valT t) (List.mem_map.2 ⟨t, ht, rfl⟩)
              have H9 := Lib.hid t3
              have HP9 := Lib.hid t4
              have HE9 := Lib.hid t5
              have HB9 := Lib.hid t6
              have HC9 := Lib.hid hC9
              have Hl9 := Lib.hid hl9
              have Hab9 := Lib.hid hab9
              clear t3 t4 t5 t6 Ct hC9 hl9 hab9
              go_wp2_with fail
              refine (r2ofn w9).mono ?_
              rintro e w10 ⟨s3, A3, k3, c3, l3, rfl, o1, o2, o3, o4, o5, o6⟩
              have Cs := Lib.hid (r17scale n K 1 A9 T9.length c9 T9 s3 A3 k3 c3 l3 w10 (H9.out.bel o6) Hl9.out HC9.out o4 o3 o1 o2 (by omega) (by omega) (by omega))
              rw [o5.eq] at Cs
              have HB10 := Lib.hid (HB9.out.trans (o6.mono HB9.out.size))
              clear o4 o5 o6
              go_wp2_with fail
              refine Cs.out.mono ?_
              rintro e w11 ⟨A11, c11, T11, rfl, y1, y2, y3, y4, y5, y6⟩
              have hm11 : T11.length ≤ mb := by
                have h := y4.mv.count y5
                unfold scaleM at h
                rw [List.length_map, mvT_length, mvT_length] at h
                omega
              have hab11 : absM (mvT T11) ≤ F * absM (mvT T) := by
                refine Nat.le_trans (y4.mv.abs_le y5 (fun t ht => ?_)) ?_
                · obtain ⟨u, hu, rfl⟩ := List.mem_map.1 ht
                  exact HP9.out.mv.len u hu
                · rw [absM_scale1]; exact Hab9.out
              have hC11 := row_caps y4 (row_abs y4) (Nat.lt_of_le_of_lt hab11 HF2.out)
              have hl11 : ∀ t ∈ T11, t.2.length = n := fun t ht => y4.mv.len (valT t) (List.mem_map.2 ⟨t, ht, rfl⟩)
              have hlR : ∀ t ∈ R, t.2.length = n := fun t ht => hPR.out.mv.len (valT t) (List.mem_map.2 ⟨t, ht, rfl⟩)
              have hCR := row_caps hPR.out HSmR.out HF1.out
              have hB11 := HB10.out.trans (y6.mono HB10.out.size)
              have Csum := Lib.hid (r17sumF n K (K + 1) (some ⟨b, o, none⟩) A11 R.length cr T11.length c11 R T11 w11 (HR8.out.bel hB11) y3 hlR hl11 hCR hC11 (by omega) (by omega) (by have h1 := HabR.out; have h2 := HF3.out; omega) (by omega) (by omega))
              have HB11 := Lib.hid hB11
              have HE11 := Lib.hid y5
              have hgg := (HO8.out.own.lt gg rfl).2
              have hsz11 := hB11.size
              clear y3 y4 y5 y6 hab11 hC11 hl11 hlR hCR hB11 Cs H9 HP9 HC9 Hl9 Hab9 HB9 HB10
              go_wp2_with fail
              refine Csum.out.mono ?_
              rintro e w12 ⟨A12, c12, T12, rfl, x1, x2, x3, x4, x5, x6, x7⟩
              have hSta2 : Hid (∀ V, Only (fun k => (Value.slice (some ⟨gg, 0, none⟩) (E.length + 1) cap).ownBlock = some k) w12 V → Trs V A12 T12.length T12) := fun V hV => x6 V (hV.mono fun k hk => by
                have hk2 : gg = k := by injection hk
                show k < _
                omega)
              have hPR2 := Lib.hid x4
              have hSt2 := Lib.hid (HSt.out.eq (x5.trans ((EqM.refl n (mvT R)).add ((HE11.out.trans (HE9.out.scale (-1))).trans (neg_mul n)))).symm x4.mv.len HTm.out)
              have hO2 := Lib.hid (HO8.out.bel2 (HB11.out.trans (x7.mono HB11.out.size)))
              clear x3 x4 x5 x6 x7 Csum HSt HE11 HE9 HB11 HO8 HR8
              go_wp2_with fail
              go_roundg (gk - 1)
              case measure => omega
              case rel => exact ⟨A12, c12, T12, Qs ++ [(sp, z)], E ++ [(((A1, d1), (X, cx)), ((s1, l1), sp))], by rw [List.length_append]; exact hQC2, by rw [List.length_append]; show C - (Qs.length + 1) < gk - 1; omega, rfl, by show _ = _; rw [List.length_append, List.length_append, hEl.out]; rfl, hSta2, hPR2, hSt2, hO2⟩
    · have hRe : R = [] := List.eq_nil_of_length_eq_zero (by omega)
      subst hRe
      have hdv := hSt.out.done (fun _ _ => rfl)
      have hpl := hSt.out.plain
      have hwh := hdv.whole Qs rfl hpl.len
      obtain ⟨hbdQ, hql⟩ := HQ.out Qs hpl hSt.out.nnQ hwh
      have HbdQ := Lib.hid hbdQ
      have HabQ := Lib.hid hSt.out.abQ
      clear hbdQ
      have hb := hO.out.bel
      obtain ⟨D, d, rfl, Cp⟩ := hO.out.out (by omega) (by omega) (by have h1 := hEl.out; omega)
      have HCp := Lib.hid Cp
      have Hdv := Lib.hid hdv
      have Hpl := Lib.hid hpl
      have Hwh := Lib.hid hwh
      have Hb := Lib.hid hb
      have hR0 : ¬ (0 : Int) < ((([] : List TV).length : Nat) : Int) := by simp
      clear Cp hdv hpl hwh hb hO hSt
      go_wp2_with fail
      refine HCp.out.mono ?_
      intro e w9 h9
      obtain ⟨A9, c9, T9, rfl, t1, t2, t3, t4, t5, t6⟩ := h9.from_ Hb.out
      have Fin : Hid (∃ o, Dv n (mvT T) qs (intZ sb ys) (mvT L) o ∧ (∀ Q, o = some Q → PlainM n Q ∧ EqM n (mulM Q (mvT T)) (mvT L) ∧ (∀ t ∈ Q, t.2.natAbs ≤ F) ∧ BdM 1000 Q ∧ Q.length ≤ 1000000) ∧ GivesQ wo n o (.returned (.tuple #[.slice A9 T9.length c9, .bool true])) w9) :=
        ⟨some Qs, Hdv.out, fun Q e => by injection e with e; subst e; exact ⟨Hpl.out, Hwh.out, HabQ.out, HbdQ.out, hql⟩, A9, c9, T9, rfl, t1, t2, t3, t4, t5, t6⟩
      clear h9 t3 t4 t5 t6
      go_wp2_with fail
      go_ret2
      exact Fin.out
end Go.Proofs.YtjmbejodcloapaaGreat
