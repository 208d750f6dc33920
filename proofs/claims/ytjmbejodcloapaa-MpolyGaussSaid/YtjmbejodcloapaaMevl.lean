/- Contracts: mpoly.Eval, Deriv, Degree of polynomials that may be. -/
import Derived.Test.YtjmbejodcloapaaMtrn
namespace Cl
/-- The greatest exponent of a variable. -/
def degL (i : Nat) (L : Mv) : Int := L.foldl (fun d t => max d (nth t.1 i)) (-1)
theorem degL_snoc (i : Nat) (L : Mv) (t : Trm) : degL i (L ++ [t]) = max (degL i L) (nth t.1 i) := by unfold degL; rw [List.foldl_append]; rfl
theorem degL_bd {i : Nat} {L : Mv} (h : ∀ t ∈ L, 0 ≤ nth t.1 i ∧ nth t.1 i ≤ 1000) : -1 ≤ degL i L ∧ degL i L ≤ 1000 := by
  have : ∀ (M : Mv) (d : Int), (∀ t ∈ M, 0 ≤ nth t.1 i ∧ nth t.1 i ≤ 1000) → -1 ≤ d → d ≤ 1000 → -1 ≤ M.foldl (fun d t => max d (nth t.1 i)) d ∧ M.foldl (fun d t => max d (nth t.1 i)) d ≤ 1000 := fun M => by
    induction M with
    | nil => intro d _ h1 h2; exact ⟨h1, h2⟩
    | cons a M ih =>
      intro d hM h1 h2
      have ha := hM a List.mem_cons_self
      exact ih (max d (nth a.1 i)) (fun t ht => hM t (List.mem_cons_of_mem _ ht)) (by omega) (by omega)
  exact this L (-1) h (by omega) (by omega)
end Cl
namespace Go.Proofs.Ytjmbejodcloapaa
open Go.RowKit Cl
attribute [local go_sem ↓] Go.wp_at_zero Go.wp_at_succ
set_option maxRecDepth 100000 in
theorem pEval (n Ca : Nat) (A : Option Addr) (ma ca : Nat) (L : List TV) (i : Nat) (sx : Bool) (Ax : Option Addr) (kx cx : Nat) (xs : List Int) (w : World) (hx : Trs w A ma L) (hL : Arg n Ca L) (hn : n ≤ 6) (hi : i < n) (hCa : Ca ≤ 10000) (hbd : BdM 1000 (mapM (fun p => p.set i (0 : Int)) (fun p => intZ sx xs ^ (nth p i).toNat) (mvT L)))
    (hX : Limbs w Ax kx xs) (hxc : kx ≤ cx) (hcx : cx ≤ 9223372036854775807) (hkx : kx ≤ 1) :
    Calls Try.prog 18 #[.int .i64 (n : Int), .slice A ma ca, .int .i64 (i : Int), .agg #[.bool sx, .slice Ax kx cx]] w (GivesP w n (mapM (fun p => p.set i (0 : Int)) (fun p => intZ sx xs ^ (nth p i).toNat) (mvT L))) := by
  have hb : Below w.heap.size w (w.alloc (.cells #[.bool sx, .slice Ax kx cx] 34)) := (Below.refl _ _).alloc (Nat.le_refl _) _
  have C := Lib.hid (turnedE n Ca A ma ca L i w.heap.size sx Ax kx cx xs (w.alloc (.cells #[.bool sx, .slice Ax kx cx] 34)) (hx.bel hb) hL hn hi hCa hbd (Duo.new w _ _) (hX.alloc _) hxc hcx hkx)
  have Hb := Lib.hid hb
  clear hx hL hbd hX hb
  go_enter Try.func18, Try.ntmps18
  go_wp2_with fail
  refine C.out.mono ?_
  intro e w5 h5
  obtain ⟨A3, c3, L3, rfl, g1, g2, g3, g4, g5, g6⟩ := h5.from_ Hb.out
  have F := Lib.hid (show GivesP w n (mapM (fun p => p.set i (0 : Int)) (fun p => intZ sx xs ^ (nth p i).toNat) (mvT L)) (.returned (.tuple #[.slice A3 L3.length c3, .int .i64 0])) w5 from ⟨A3, c3, L3, rfl, g1, g2, g3, g4, g5, g6⟩)
  clear h5 g3 g4 g5 g6
  go_wp2_with fail
  go_ret2
  exact F.out
set_option maxRecDepth 100000 in
theorem pDeriv (n Ca : Nat) (A : Option Addr) (ma ca : Nat) (L : List TV) (i : Nat) (w : World) (hx : Trs w A ma L) (hL : Arg n Ca L) (hn : n ≤ 6) (hi : i < n) (hCa : Ca ≤ 10000) (hbd : BdM 1000 (mapM (fun p => p.set i (max (nth p i - 1) 0)) (fun p => nth p i) (mvT L))) :
    Calls Try.prog 19 #[.int .i64 (n : Int), .slice A ma ca, .int .i64 (i : Int)] w (GivesP w n (mapM (fun p => p.set i (max (nth p i - 1) 0)) (fun p => nth p i) (mvT L))) := by
  have C := Lib.hid (turnedD n Ca A ma ca L i w hx hL hn hi hCa hbd)
  clear hx hL hbd
  go_enter Try.func19, Try.ntmps19
  go_wp2_with fail
  refine C.out.mono ?_
  rintro e w5 ⟨A3, c3, L3, rfl, g1, g2, g3, g4, g5, g6⟩
  have F := Lib.hid (show GivesP w n (mapM (fun p => p.set i (max (nth p i - 1) 0)) (fun p => nth p i) (mvT L)) (.returned (.tuple #[.slice A3 L3.length c3, .int .i64 0])) w5 from ⟨A3, c3, L3, rfl, g1, g2, g3, g4, g5, g6⟩)
  clear g3 g4 g5 g6
  go_wp2_with fail
  go_ret2
  exact F.out
/-- A call that tells a degree: that of the plain terms. -/
def GivesD (w : World) (n i : Nat) (M : Mv) (e : Ending) (w' : World) : Prop :=
  ∃ T : List TV, PlainT n T ∧ EqM n (mvT T) M ∧ e = .returned (.tuple #[.int .i64 (degL i (mvT T)), .int .i64 0]) ∧ Below w.heap.size w w'
set_option maxRecDepth 100000 in
set_option maxHeartbeats 4000000 in
theorem mdegree (n Ca : Nat) (A : Option Addr) (ma ca : Nat) (L : List TV) (i : Nat) (w : World) (hx : Trs w A ma L) (hL : Arg n Ca L) (hn : n ≤ 6) (hi : i < n) (hCa : Ca ≤ 10000) :
    Calls Try.prog 20 #[.int .i64 (n : Int), .slice A ma ca, .int .i64 (i : Int)] w (GivesD w n i (mvT L)) := by
  have hml := hx.len
  have hcnt := hL.cnt
  have hm : ma ≤ 4096 := by omega
  have Cc := Lib.hid (mcheck_ok (n : Int) A ma ca L w hx (arg_ok hL hn))
  have Cg := Lib.hid (fun W (h : Below w.heap.size w W) => mgathered n Ca A ma ca L W (hx.bel h) (by omega) hn (by omega) (arg_terms hL))
  have Ct := Lib.hid (fun b W (h : SumM W b ma n (Ca + ma) (liftM n (mvT L))) => mterms b ma n (Ca + ma) _ (mvT L) W h hn (by omega) (by omega) hL.lenM (hL.bdM.mono (by omega)) (fun p hp => coM_lift hL.lenM hp))
  have HL := Lib.hid hL
  have hi0 : ¬ (i : Int) < 0 := by omega
  have hi1 : (i : Int) < (n : Int) := by omega
  have hi1' : ¬ (n : Int) ≤ (i : Int) := by omega
  have hi2 : (0 : Int) ≤ (i : Int) := by omega
  clear hx hL hml
  go_enter Try.func20, Try.ntmps20
  go_wp2_with fail
  refine Cc.out.mono ?_
  rintro e w1 ⟨rfl, hb1⟩
  go_wp2_with fail
  refine (Cg.out w1 hb1).mono ?_
  rintro e w2 ⟨b, rfl, hbb, hs2, hb2⟩
  have C2 := Lib.hid (Ct.out b w2 hs2)
  have Hb2 := Lib.hid (hb1.trans (hb2.mono hb1.size))
  clear hs2 hb1 hb2 hbb
  go_wp2_with fail
  refine C2.out.mono ?_
  rintro e wo ⟨B, cB, T, rfl, t1, t2, t3, t4, t5, t6⟩
  have HT := Lib.hid t3
  have HP := Lib.hid t4
  have HE := Lib.hid t5
  have Hbo := Lib.hid (Hb2.out.trans (t6.mono Hb2.out.size))
  have htl : T.length ≤ 4096 := by
    have := t4.mv.count t5
    rw [mvT_length, mvT_length] at this
    omega
  have hbd : Hid (∀ t ∈ mvT T, 0 ≤ nth t.1 i ∧ nth t.1 i ≤ 1000) := fun t ht => t4.mv.bd t5 HL.out.bdM t ht _ (nth_mem (by rw [t4.mv.len t ht]; exact hi))
  have htn : Hid (∀ t ∈ T, t.2.length = n) := fun t ht => t4.mv.len (valT t) (List.mem_map.2 ⟨t, ht, rfl⟩)
  obtain ⟨m, hTm⟩ : ∃ m, T.length = m := ⟨_, rfl⟩
  rw [hTm] at htl t1 ⊢
  have HTm := Lib.hid hTm
  clear t3 t4 t5 t6 C2 Hb2 hTm
  go_wp2_with fail
  go_loopw [8, 29] (fun v8 v29 wr => ∃ k : Nat, k ≤ m ∧ v29 = .int .i64 k ∧ v8 = .int .i64 (degL i (mvT (T.take k))) ∧ Hid (Below wo.heap.size wo wr)) (fun _ v29 _ => m - (intOf v29).toNat)
  case atStart => exact ⟨0, by omega, rfl, rfl, Below.refl _ _⟩
  case round =>
    obtain ⟨k, hk, rfl, rfl, hbr⟩ := hrel
    by_cases hkm : k < m
    · have hTr := HT.out
      rw [HTm.out] at hTr
      obtain ⟨b', o, rfl, hb', hc⟩ := hTr.at_ (by omega)
      have hkl : k < T.length := by rw [HTm.out]; exact hkm
      obtain ⟨Ai, ci, Ei, ei, e1, e2, e3, e4, e5, e6, e7, e8, e9⟩ := hc k hkl
      have hmem : T[k] ∈ T := List.getElem_mem hkl
      have htk : Hid (T.take (k + 1) = T.take k ++ [T[k]]) := by show _ = _; rw [List.take_succ_eq_append_getElem hkl]
      have hln := htn.out _ hmem
      have hb0 := hbd.out (valT T[k]) (List.mem_map.2 ⟨_, hmem, rfl⟩)
      have hdd := degL_bd (i := i) (L := mvT (T.take k)) fun t ht => hbd.out t (List.mem_map.2 (by obtain ⟨u, hu, e⟩ := List.mem_map.1 ht; exact ⟨u, List.mem_of_mem_take hu, e⟩))
      have k1 := (hbr.out.cell (p := ⟨b', o + 3 * k, none⟩) hb').trans e1
      have k2 := (hbr.out.cell (p := ⟨b', o + (3 * k + 1), none⟩) hb').trans e2
      have k3 := (hbr.out.cell (p := ⟨b', o + (3 * k + 2), none⟩) hb').trans e3
      rw [Nat.mul_comm 3 k] at k1 k2 k3
      rw [← Nat.add_assoc] at k2 k3
      have hkm' : (k : Int) < (m : Int) := by omega
      have hk0 : (0 : Int) ≤ (k : Int) := by omega
      have hstep : Hid (degL i (mvT (T.take (k + 1))) = max (degL i (mvT (T.take k))) (nth (T[k]).2 i)) := by
        show _ = _
        rw [htk.out, mvT_append]
        exact degL_snoc i _ (valT T[k])
      obtain ⟨be, oe, rfl, hbe, hce⟩ := e9.at_ (by omega)
      have hcx := (hbr.out.cell (p := ⟨be, oe + i, none⟩) hbe).trans (hce i (by omega))
      obtain ⟨q1, q2⟩ : 0 ≤ nth (T[k]).2 i ∧ nth (T[k]).2 i ≤ 1000 := hb0
      obtain ⟨q3, q4⟩ := hdd
      have hbes : be < wr.heap.size := Nat.lt_of_lt_of_le hbe hbr.out.size
      rw [hln] at k3 e6
      clear hc hmem hce e1 e2 e3 e8 e9 htk hln hTr
      generalize degL i (mvT (T.take k)) = d at *
      generalize nth (T[k]).2 i = y at *
      generalize T[k] = x at *
      obtain ⟨⟨s, xs⟩, ps⟩ := x
      simp only at k1 k2 k3 e4
      have hbq : Hid (Below wo.heap.size wo (wr.alloc (.cells #[.bool s, .slice Ai xs.length ci, .slice (some ⟨be, oe, none⟩) n ei] 37))) := hbr.out.alloc hbr.out.size _
      by_cases hdy : d < y
      · have hst2 : Hid (degL i (mvT (T.take (k + 1))) = y) := by show _ = _; rw [hstep.out]; omega
        have hmx : max d y = y := by omega
        clear hstep
        go_wp2_with fail
        go_roundw
        case rel => exact ⟨k + 1, by omega, by go_num, by rw [hst2.out], hbq⟩
        case measure => simp [intOf]; omega
      · have hst2 : Hid (degL i (mvT (T.take (k + 1))) = d) := by show _ = _; rw [hstep.out]; omega
        have hmx : max d y = d := by omega
        clear hstep
        go_wp2_with fail
        go_roundw
        case rel => exact ⟨k + 1, by omega, by go_num, by rw [hst2.out], hbq⟩
        case measure => simp [intOf]; omega
    · obtain rfl : m = k := by omega
      have hkm' : ¬ (m : Int) < (m : Int) := by omega
      have hall : T.take m = T := List.take_of_length_le (by rw [HTm.out]; exact Nat.le_refl _)
      have F : Hid (GivesD w n i (mvT L) (.returned (.tuple #[.int .i64 (degL i (mvT (T.take m))), .int .i64 0])) wr) := by
        rw [hall]
        exact ⟨T, HP.out, HE.out, rfl, Hbo.out.trans (hbr.out.mono Hbo.out.size)⟩
      clear hall
      go_wp2_with fail
      go_ret2
      exact F.out
end Go.Proofs.Ytjmbejodcloapaa
