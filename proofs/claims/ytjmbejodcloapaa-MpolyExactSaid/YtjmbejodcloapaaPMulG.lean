/- Contract: mpoly.Mul where what comes out is known to be few terms, of numbers as great as a division makes them. (Printed by gen/mmulg.py from XJoinK.) -/
import Derived.Test.YtjmbejodcloapaaPTj
set_option linter.unusedVariables false
set_option linter.unusedSimpArgs false
namespace Go.Proofs.Ytjmbejodcloapaa
open Go.RowKit Cl
attribute [local go_sem ↓] Go.wp_at_zero Go.wp_at_succ
set_option maxRecDepth 1000000 in
set_option maxHeartbeats 8000000 in
theorem mmulG (n Ca Cb : Nat) (A B : Option Addr) (ma ca mb cb : Nat) (L T : List TV) (M : Mv) (w : World) (hx : Trs w A ma L) (hy : Trs w B mb T) (hL : Arg n Ca L) (hT : Arg n Cb T) (hn : n ≤ 6) (hCa : Ca ≤ 260000) (hCb : Cb ≤ 10000) (hl : ma * mb ≤ 100000) (hMe : EqM n (mulM (mvT L) (mvT T)) M) (lM : LenM n M) (bM : BdM 1000 M) (cM : M.length ≤ 4096) :
    Calls Try.prog 25 #[.int .i64 (n : Int), .slice A ma ca, .slice B mb cb] w (GivesP w n M) := by
  have hml := hx.len
  have hmt := hy.len
  have hma : ma ≤ 4096 := by have := hL.cnt; omega
  have hmb : mb ≤ 4096 := by have := hT.cnt; omega
  have Call2 := Lib.hid (fun g cc W (hg : g < W.heap.size) (q1 : W.cell? ⟨g, 0, none⟩ = some (.slice A ma ca)) (q2 : W.cell? ⟨g, 1, none⟩ = some (.slice B mb cb)) (hW : Below w.heap.size w W) => mall2 (n : Int) g cc A B ma mb ca cb L T W hg q1 q2 (hx.bel hW) (hy.bel hW) (arg_ok hL hn) (arg_ok hT hn))
  have Cg1 := Lib.hid (fun W (h : Below w.heap.size w W) => mgathered n Ca A ma ca L W (hx.bel h) (by omega) hn (by omega) (arg_terms hL))
  have HL := Lib.hid hL
  have HT := Lib.hid hT
  have Hml := Lib.hid hml
  have Hmt := Lib.hid hmt
  have Hy := Lib.hid hy
  have HMe := Lib.hid hMe
  have HlM := Lib.hid lM
  have HbM := Lib.hid bM
  have HcM := Lib.hid cM
  have hmm := @run_makeMap Try.prog
  have Hl := Lib.hid hl
  clear hx hy hL hT hml hmt hMe lM bM cM hl
  go_enter Try.func25, Try.ntmps25
  go_wp2_with fail
  refine (Call2.out w.heap.size 2 _ (by simp) (by simp) (by simp) ((Below.refl _ _).alloc (Nat.le_refl _) _)).mono ?_
  rintro e w1 ⟨rfl, hb1'⟩
  have hb1 : Below w.heap.size w w1 := ((Below.refl _ w).alloc (Nat.le_refl _) _).trans (hb1'.mono (by simp))
  clear hb1' Call2
  go_wp2_with fail
  have hs1 : SumM (w1.alloc (.map #[] 0)) w1.heap.size 0 n 0 [] := ⟨.map [], World.ownsMap_made _ _ _ _, SumD.start _ _ _⟩
  have hb2 : Below w.heap.size w (w1.alloc (.map #[] 0)) := hb1.alloc hb1.size (.map #[] 0)
  have hb1w2 : w1.heap.size < (w1.alloc (.map #[] 0)).heap.size := by simp
  have hwb1 := hb1.size
  clear hb1
  generalize w1.alloc (.map #[] 0) = w2 at *
  generalize w1.heap.size = b1 at *
  have Hs1 := Lib.hid hs1
  clear hs1
  refine (Cg1.out w2 hb2).mono ?_
  rintro e wo ⟨b2, rfl, hbb2, hs2, hb3'⟩
  have Hb3 : Hid (Below w.heap.size w wo) := hb2.trans (hb3'.mono hb2.size)
  have Hs1o := Lib.hid (sumM_bel Hs1.out hb3')
  obtain ⟨D, hm, hd'⟩ := hs2
  obtain ⟨D1, hm1, _⟩ := Hs1o.out
  have Hd := Lib.hid hd'
  have Hm1 := Lib.hid hm1
  have hb2lt := hm.lt
  have hsz := map_size hm
  have hb3s := hb3'.size
  have hbne : b1 < b2 := by omega
  clear Hs1 Cg1 hd' hm1 hb3' hb2 hmm
  go_wp2_with (at_range; go_must (refine wpList_range_own _ rfl _ 55 rfl 64 34 plc_law Try.underlying55 intEl b2 ma D rfl hm ?_); intro w0 hrg0 hg0 hs0)
  go_frame
  have hLen := Lib.hid HL.out.lenM
  go_loopw [24] (fun v wr => ∃ (left : Lit → Bool) (cnt : Nat) (E : Mv), wr.ranges Try.prog 64 intEl b2 wo.heap.size ma D left cnt ∧ Hid (Seen D n (liftM n (mvT L)) left E) ∧ Hid (SumM wr b1 (E.length * mb) n (Ca + ma + Cb + 1 + E.length * mb) (mulM E (liftM n (mvT T)))) ∧ Hid (Only (fun x => x = b1) wo wr) ∧ wo.heap.size + 1 ≤ wr.heap.size ∧ E.length + cnt ≤ ma) (fun _ wr => wr.rangeLeft b2 wo.heap.size)
  case atStart =>
    have hbel0 : Below wo.heap.size wo w0 := (Below.refl _ _).grown hg0 (Nat.le_refl _) (by simp)
    refine ⟨_, _, [], hrg0, Seen.start _ _ _, ?_, only_of_bel hbel0, by omega, by simpa using hsz⟩
    show SumM _ _ (0 * mb) _ (_ + 0 * mb) []
    rw [Nat.zero_mul]
    exact sumM_mono (sumM_bel Hs1o.out hbel0) (by omega)
  case round =>
    obtain ⟨left, cnt, E, hrg, hS, hsum, ho, hlow, hlen⟩ := hrel
    clear hrg0 hg0 hs0 hm
    have hEm : Hid (E.length * mb ≤ 100000) := Nat.le_trans (Nat.mul_le_mul_right mb (show E.length ≤ ma by omega)) Hl.out
    go_wp2_with (at_next; go_must (refine wpList_next_ranges _ rfl _ rfl 64 plc_law intEl plcV mkZ plcV_inv mkZ_inv b2 wo.heap.size ma D left cnt rfl hrg ?_ ?_))
    · intro hc0 hl0
      have hgood : ∀ t ∈ liftM n (mvT L), GoodP n t.1 := lift_good hn hLen.out (HL.out.bdM.mono (by omega))
      have hdone := hS.out.done hl0 Hd.out hgood
      have hML : LenM n (mulM (mvT L) (mvT T)) := hLen.out.mul HT.out.lenM
      have heq : EqM 6 (mulM E (liftM n (mvT T))) (liftM n (mulM (mvT L) (mvT T))) := by
        rw [lift_mul hLen.out HT.out.lenM]
        exact hdone.mulL hS.out.len6 (lift_len6 hn hLen.out) (lift_len6 hn HT.out.lenM)
      have hEm' := hEm.out
      have C := Lib.hid (manswer b1 (E.length * mb) n (Ca + ma + Cb + 1 + E.length * mb) _ _ wr hsum.out hn (by omega) (by omega) HlM.out HbM.out HcM.out (fun p hp => (lift_eq hn heq hML p hp).trans (HMe.out p hp)))
      have Hb4 : Hid (Below w.heap.size w wr) := Hb3.out.trans (ho.out.below Hb3.out.size (fun x hx => by omega))
      clear hrg hl0 hgood hdone hML heq hS hsum ho hEm'
      go_wp2_with fail
      refine C.out.mono ?_
      intro e w5 h5
      obtain ⟨A3, c3, L3, rfl, g1, g2, g3, g4, g5, g6⟩ := h5.from_ Hb4.out
      have F := Lib.hid (show GivesP w n M (.returned (.tuple #[.slice A3 L3.length c3, .int .i64 0])) w5 from ⟨A3, c3, L3, rfl, g1, g2, g3, g4, g5, g6⟩)
      clear h5 g3 g4 g5 g6
      go_wp2_with fail
      go_ret2
      exact F.out
    · intro p zc kl y1 y2 w10 cnt' hkey hlk hR hat hrg1 hlt hg1 hs1 hen
      have ho10 : Only (fun x => x = b1) wo w10 := only_iter ho.out hg1 (Nat.le_refl _)
      obtain ⟨rfl, hgood, hin, hhas, h1, h2, h3, ls, hLm, hz⟩ := entry_in (sumD_map Hd.out Hm1.out ho10) hkey hR hat
      obtain ⟨cs, cA, ck, cc⟩ := zc
      simp only at h1 h2 h3 hLm hz
      have hm0 : wr.rangeLeft b2 wo.heap.size = cnt := hrg.left_eq
      have hpb : Hid (∀ x ∈ p, 0 ≤ x ∧ x ≤ 1000) := by
        obtain ⟨t, ht, e⟩ := hin
        show ∀ x ∈ p, _
        rw [← e]
        exact lift_bd (by omega) HL.out.bdM t ht
      have Hgood := Lib.hid hgood
      have HLm := Lib.hid hLm
      have Hz := Lib.hid hz
      have Hr1 := Lib.hid hrg1
      have HS2 := Lib.hid (hS.out.step hgood hhas hlk)
      have Ho10 := Lib.hid ho10
      have hb1r : b1 < wr.heap.size := by have := hlow; omega
      have hs10 := hg1.size
      have hb10 : Below w.heap.size w w10 := Hb3.out.trans (ho10.below Hb3.out.size (fun x hx => by omega))
      have Hb10 := Lib.hid hb10
      have hsum10 : Hid (SumM w10 b1 (E.length * mb) n (Ca + ma + Cb + 1 + E.length * mb) (mulM E (liftM n (mvT T)))) := by
        obtain ⟨D', m1, m2⟩ := hsum.out
        exact ⟨D', m1.kept hg1 (fun e => by injection e; omega), sumD_iter m2 hrg hg1⟩
      obtain ⟨x0, x1, x2, x3, x4, x5, hpe⟩ : ∃ x0 x1 x2 x3 x4 x5, p = [x0, x1, x2, x3, x4, x5] := by
        match p, hgood.len with
        | [x0, x1, x2, x3, x4, x5], _ => exact ⟨_, _, _, _, _, _, rfl⟩
      have hpv : plcV p = .agg #[.int .i64 x0, .int .i64 x1, .int .i64 x2, .int .i64 x3, .int .i64 x4, .int .i64 x5] := by rw [hpe]; rfl
      have hzv : mkZ ⟨cs, cA, ck, cc⟩ = .agg #[.bool cs, .slice cA ck cc] := rfl
      rw [hpv, hzv] at hen ⊢
      have Hpe := Lib.hid hpe
      clear hpv hzv hpe hgood hin hhas hlk hLm hz hkey hR hat hrg1 hg1 hs1 hrg ho10 hS hsum ho hb10
      go_wp2_with fail
      have b2' : Below w10.heap.size w10 ((w10.alloc (.cells #[.int .i64 x0, .int .i64 x1, .int .i64 x2, .int .i64 x3, .int .i64 x4, .int .i64 x5] 64)).alloc (.cells #[.bool cs, .slice cA ck cc] 34)) := ((Below.refl _ _).alloc (Nat.le_refl _) _).alloc (by simp) _
      generalize ((w10.alloc (.cells #[.int .i64 x0, .int .i64 x1, .int .i64 x2, .int .i64 x3, .int .i64 x4, .int .i64 x5] 64)).alloc (.cells #[.bool cs, .slice cA ck cc] 34)) = wt at *
      have hEm' := hEm.out
      have Ct : Hid (Calls Try.prog 39 #[.map (some b1), .agg #[.int .i64 x0, .int .i64 x1, .int .i64 x2, .int .i64 x3, .int .i64 x4, .int .i64 x5], .agg #[.bool cs, .slice cA ck cc], .slice B mb cb] wt _) :=
        mtimes b1 (E.length * mb) n (Ca + ma + Cb + 1 + E.length * mb) (Ca + ma) Cb _ [x0, x1, x2, x3, x4, x5] cs cA ck cc ls B mb cb T wt (sumM_bel hsum10.out b2') rfl
          (fun x hx => by have := hpb.out x (by rw [Hpe.out]; exact hx); omega) (fun i hi => by have := Hgood.out.zero i hi; rwa [Hpe.out] at this) (arg_terms HT.out) (fun t ht x hx => by have := HT.out.bd t ht x hx; omega) (by unfold maxLen; omega) (HLm.out.bel b2') h1 h2 (by omega) (by omega) (by omega) (by omega) (Hy.out.bel (Hb10.out.trans (b2'.mono Hb10.out.size))) (by omega) hn
      have Hb2 := Lib.hid b2'
      clear b2' hEm' hsum10
      refine Ct.out.mono ?_
      rintro e w3 ⟨rfl, hs3, ho3⟩
      have hl2 : (E ++ [(p, coM (liftM n (mvT L)) p)]).length = E.length + 1 := by simp
      have Hs3 : Hid (SumM w3 b1 ((E.length + 1) * mb) n (Ca + ma + Cb + 1 + (E.length + 1) * mb) (mulM (E ++ [(p, coM (liftM n (mvT L)) p)]) (liftM n (mvT T)))) := by
        have q0 : (E.length + 1) * mb = E.length * mb + mb := by rw [Nat.add_mul, Nat.one_mul]
        have q1 : max (Ca + ma + Cb + 1 + E.length * mb) (Ca + ma + Cb + 1) + mb = Ca + ma + Cb + 1 + (E.length * mb + mb) := by omega
        rw [q1] at hs3
        show SumM _ _ _ _ _ _
        rw [mulM_times, q0, ← Hz.out, Hpe.out]
        exact hs3
      have Ho3 : Hid (Only (fun x => x = b1) wo w3) := (Ho10.out.trans (only_of_bel Hb2.out)).trans ho3
      have hb10s := Hb2.out.size
      have Hr3 : Hid (w3.ranges Try.prog 64 intEl b2 wo.heap.size ma D (fun z => left z && !z.sameKey (plcLit p)) cnt') :=
        (Hr1.out.kept (grown_of_below Hb2.out) (by simp) (by simp)).kept (grown_of_only ho3) (fun e => by injection e; omega) (fun e => by injection e; omega)
      have hlow3 : wo.heap.size + 1 ≤ w3.heap.size := by have := ho3.size; omega
      clear hs3 ho3 hen
      go_wp2_with fail
      go_roundw
      case rel =>
        refine ⟨_, cnt', E ++ [(p, coM (liftM n (mvT L)) p)], Hr3.out, HS2, ?_, Ho3, hlow3, by rw [hl2]; omega⟩
        rw [hl2]; exact Hs3
      case measure => rw [Hr3.out.left_eq, hm0]; omega
end Go.Proofs.Ytjmbejodcloapaa
