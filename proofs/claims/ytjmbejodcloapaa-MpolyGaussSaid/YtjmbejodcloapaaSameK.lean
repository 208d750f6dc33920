/- Contracts: whether limbs, integers, exponents, terms are the same (the document's).
   Contracts: terms that differ in a coefficient alone. -/
import Derived.Test.YtjmbejodcloapaaZK
import Derived.Test.YtjmbejodcloapaaTrmS
namespace Go.Proofs.Ytjmbejodcloapaa
open Go.RowKit Cl
attribute [local go_sem ↓] Go.wp_at_zero Go.wp_at_succ
set_option maxRecDepth 100000 in
set_option maxHeartbeats 1000000 in
theorem same01_any (A B : Option Addr) (n m c d : Nat) (xs ys : List Int) (w : World) (hx : Limbs w A n xs) (hy : Limbs w B m ys) (hn : n ≤ 9223372036854775807) (hm : m ≤ 9223372036854775807) (r : Bool) (hr : (xs = ys) ↔ r = true) :
    Calls Try.prog 31 #[.slice A n c, .slice B m d] w fun e w' => e = .returned (.bool r) ∧ ∃ k, w' = w.drewN k := by
  have Hl := Lib.hid hx.len
  have Hm := Lib.hid hy.len
  have Hr := Lib.hid hr
  clear hr
  by_cases hnm : n = m
  · subst hnm
    have hne : ((n : Int) != (n : Int)) = false := by simp
    go_enter Try.func31, Try.ntmps31
    go_wp2
    go_loopw [5] (fun i wr => ∃ k q : Nat, k ≤ n ∧ i = .int .i64 k ∧ Hid (∀ j, j < k → nth xs j = nth ys j) ∧ wr = w.drewN q) (fun i _ => n - (intOf i).toNat)
    case atStart => exact ⟨0, 0, by omega, rfl, (fun j hj => absurd hj (by omega)), rfl⟩
    case round =>
      obtain ⟨k, q, hk, rfl, hall, rfl⟩ := hrel
      by_cases hlt : k < n
      · obtain ⟨b, o, rfl, hb, hc⟩ := hx.at_ (by omega)
        obtain ⟨b', o', rfl, hb', hc'⟩ := hy.at_ (by omega)
        have hck := hc k hlt
        have hck' := hc' k hlt
        have hlt' : (k : Int) < (n : Int) := by omega
        by_cases hz : nth xs k = nth ys k
        · have hz' : (nth xs k != nth ys k) = false := by simp [hz]
          have Hz := Lib.hid hz; clear hz
          go_wp2
          go_quiet (fail)
          go_wp2
          go_roundw
          case rel => exact ⟨k + 1, _, by omega, by go_num, (fun j hj => if e : j = k then e ▸ Hz.out else hall.out j (by omega)), rfl⟩
          case measure => simp [intOf]; omega
        · have hz' : (nth xs k != nth ys k) = true := by simp [hz]
          have Hz : Hid (r = false) := by
            show r = false
            cases hrr : r with
            | false => rfl
            | true => exact absurd (Hr.out.2 hrr) (fun e => hz (by rw [e]))
          clear hz
          go_wp2
          go_quiet (fail)
          go_wp2
          go_ret
          exact ⟨ret_bool Hz.out.symm, _, World.drewN_drewN _ _ _⟩
      · have Hz := Lib.hid (Hr.out.1 (list_ext (xs := xs) (ys := ys) (by rw [Hl.out, Hm.out]) (fun i hi => hall.out i (by have := Hl.out; omega))))
        go_wp2
        go_ret
        exact ⟨ret_bool Hz.out.symm, _, rfl⟩
  · have hne : ((n : Int) != (m : Int)) = true := by simp; omega
    have Hz : Hid (r = false) := by
      show r = false
      cases hrr : r with
      | false => rfl
      | true => exact absurd (Hr.out.2 hrr) (fun e => hnm (by rw [← Hl.out, ← Hm.out, e]))
    go_enter Try.func31, Try.ntmps31
    go_wp2
    go_ret
    exact ⟨ret_bool Hz.out.symm, 0, rfl⟩
/-- Boxes of two integers. -/
theorem duo2 (w : World) (u0 v0 u1 v1 : Value) :
    Duo ((w.alloc (.cells #[u0, v0] 34)).alloc (.cells #[u1, v1] 34)) w.heap.size u0 v0 ∧
    Duo ((w.alloc (.cells #[u0, v0] 34)).alloc (.cells #[u1, v1] 34)) (w.heap.size + 1) u1 v1 ∧
    Below w.heap.size w ((w.alloc (.cells #[u0, v0] 34)).alloc (.cells #[u1, v1] 34)) := by
  have al : ∀ (W : World) (o : Obj), Below W.heap.size W (W.alloc o) := fun W o => (Below.refl _ _).alloc (Nat.le_refl _) o
  refine ⟨(Duo.new w u0 v0).bel (al _ _), ?_, (al w _).alloc (by simp) _⟩
  have := Duo.new (w.alloc (.cells #[u0, v0] 34)) u1 v1
  rw [World.size_alloc] at this
  exact this
set_option maxRecDepth 100000 in
set_option maxHeartbeats 1000000 in
theorem same02_any (s t : Bool) (A B : Option Addr) (n m c d : Nat) (xs ys : List Int) (w : World) (hx : Limbs w A n xs) (hy : Limbs w B m ys) (hn : n ≤ 9223372036854775807) (hm : m ≤ 9223372036854775807) (r : Bool) (hr : (s = t ∧ xs = ys) ↔ r = true) :
    Calls Try.prog 14 #[.agg #[.bool s, .slice A n c], .agg #[.bool t, .slice B m d]] w fun e w' => e = .returned (.bool r) ∧ Below w.heap.size w w' := by
  obtain ⟨da, db, b2⟩ := duo2 w (.bool s) (.slice A n c) (.bool t) (.slice B m d)
  have a0 := da.cell0
  have a1 := da.cell1
  have e0 := db.cell0
  have e1 := db.cell1
  by_cases hst : s = t
  · have hst' : (s == t) = true := by simp [hst]
    have Cs := Lib.hid (fun W (h : Below w.heap.size w W) => same01_any A B n m c d xs ys W (hx.bel h) (hy.bel h) hn hm r ⟨fun e => hr.1 ⟨hst, e⟩, fun e => (hr.2 e).2⟩)
    clear hr hx hy hst da db
    go_enter Try.func14, Try.ntmps14
    go_wp2_with fail
    refine (Cs.out _ (by exact b2)).mono ?_
    rintro e w1 ⟨rfl, k, hk⟩
    have hb := below_drewN b2 k
    rw [← hk] at hb
    clear hk
    go_wp2_with fail
    go_ret
    exact ⟨rfl, hb⟩
  · have hst' : (s == t) = false := by simp [hst]
    have Hz : Hid (r = false) := by
      show r = false
      cases hrr : r with
      | false => rfl
      | true => exact absurd (hr.2 hrr).1 hst
    clear hr hx hy hst da db
    go_enter Try.func14, Try.ntmps14
    go_wp2_with fail
    go_ret
    exact ⟨ret_bool Hz.out.symm, b2⟩
set_option maxRecDepth 100000 in
set_option maxHeartbeats 1000000 in
theorem compare17 (A B : Option Addr) (n c d : Nat) (xs ys : List Int) (w : World) (hx : Ints w A n xs) (hy : Ints w B n ys) (hn : n ≤ 9223372036854775807) :
    Calls Try.prog 54 #[.slice A n c, .slice B n d] w fun e w' => e = .returned (.int .i64 (cmpP xs ys)) ∧ ∃ k, w' = w.drewN k := by
  have Hl := Lib.hid hx.len
  have Hm := Lib.hid hy.len
  go_enter Try.func54, Try.ntmps54
  go_wp2
  go_loopw [5] (fun i wr => ∃ k q : Nat, k ≤ n ∧ i = .int .i64 k ∧ Hid (∀ j, j < k → nth xs j = nth ys j) ∧ wr = w.drewN q) (fun i _ => n - (intOf i).toNat)
  case atStart => exact ⟨0, 0, by omega, rfl, (fun j hj => absurd hj (by omega)), rfl⟩
  case round =>
    obtain ⟨k, q, hk, rfl, hall, rfl⟩ := hrel
    by_cases hlt : k < n
    · obtain ⟨b, o, rfl, hb, hc⟩ := hx.at_ (by omega)
      obtain ⟨b', o', rfl, hb', hc'⟩ := hy.at_ (by omega)
      have hck := hc k hlt
      have hck' := hc' k hlt
      have hlt' : (k : Int) < (n : Int) := by omega
      rcases Int.lt_trichotomy (nth xs k) (nth ys k) with h | h | h
      · have Hz : Hid (cmpP xs ys = -1) := cmpP_lt (ltP_of (i := k) (by rw [Hl.out, Hm.out]) hall.out (by rw [Hl.out]; exact hlt) h)
        go_wp2
        go_quiet (fail)
        go_wp2
        go_ret
        exact ⟨ret_int Hz.out.symm, _, World.drewN_drewN _ _ _⟩
      · have hz1 : ¬ nth xs k < nth ys k := by omega
        have hz2 : ¬ nth ys k < nth xs k := by omega
        have Hz := Lib.hid h; clear h
        go_wp2
        go_quiet (fail)
        go_wp2
        go_quiet (fail)
        go_wp2
        go_roundw
        case rel => exact ⟨k + 1, _, by omega, by go_num, (fun j hj => if e : j = k then e ▸ Hz.out else hall.out j (by omega)), by first | rfl | exact World.drewN_drewN _ _ _ | (rw [World.drewN_drewN, World.drewN_drewN])⟩
        case measure => simp [intOf]; omega
      · have hz1 : ¬ nth xs k < nth ys k := by omega
        have Hz : Hid (cmpP xs ys = 1) := cmpP_gt (ltP_of (i := k) (by rw [Hl.out, Hm.out]) (fun j hj => (hall.out j hj).symm) (by rw [Hm.out]; exact hlt) h)
        go_wp2
        go_quiet (fail)
        go_wp2
        go_quiet (fail)
        go_wp2
        go_ret
        exact ⟨ret_int Hz.out.symm, _, by first | rfl | exact World.drewN_drewN _ _ _ | (rw [World.drewN_drewN, World.drewN_drewN])⟩
    · have Hz : Hid (cmpP xs ys = 0) := by
        have : xs = ys := list_ext (xs := xs) (ys := ys) (by rw [Hl.out, Hm.out]) (fun i hi => hall.out i (by have := Hl.out; omega))
        rw [this]
        exact cmpP_eq ys
      go_wp2
      go_ret
      exact ⟨ret_int Hz.out.symm, _, rfl⟩
set_option maxRecDepth 100000 in
set_option maxHeartbeats 4000000 in
theorem same17_true (A B : Option Addr) (n c d : Nat) (L : List TV) (w : World) (hx : Trs w A n L) (hy : Trs w B n L) (hn : n ≤ 100000000) :
    Calls Try.prog 34 #[.slice A n c, .slice B n d] w fun e w' => e = .returned (.bool true) ∧ Below w.heap.size w w' := by
  have hne : ((n : Int) != (n : Int)) = false := by simp
  have hL := Lib.hid hx.len
  go_enter Try.func34, Try.ntmps34
  go_wp2
  go_loopw [5] (fun i wr => ∃ k : Nat, k ≤ n ∧ i = .int .i64 k ∧ Below w.heap.size w wr) (fun i _ => n - (intOf i).toNat)
  case atStart => exact ⟨0, by omega, rfl, Below.refl _ _⟩
  case round =>
    obtain ⟨k, hk, rfl, hbel⟩ := hrel
    obtain ⟨wo, rfl⟩ : ∃ wo : World, wo = wr := ⟨_, rfl⟩
    by_cases hlt : k < n
    · obtain ⟨b, o, rfl, hb, hc⟩ := hx.at_ (by omega)
      obtain ⟨b', o', rfl, hb', hc'⟩ := hy.at_ (by omega)
      have hkl : k < L.length := by rw [hL.out]; exact hlt
      obtain ⟨Ai, ci, Ei, ei, e1, e2, e3, e4, e5, e6, e7, e8, e9⟩ := hc k hkl
      obtain ⟨Bi, di, Fi, fi, g1, g2, g3, g4, g5, g6, g7, g8, g9⟩ := hc' k hkl
      clear hc hc'
      generalize L[k] = x at *
      obtain ⟨⟨s, xs⟩, ps⟩ := x
      simp only at e1 e2 e3 e4 e6 e8 e9 g1 g2 g3 g4 g6 g8 g9
      have hlt' : (k : Int) < (n : Int) := by omega
      have hk0 : (0 : Int) ≤ (k : Int) := by omega
      have hz : ((ps.length : Int) != (ps.length : Int)) = false := by simp
      rw [Nat.mul_comm 3 k] at e1 e2 e3 g1 g2 g3
      rw [← Nat.add_assoc] at e2 e3 g2 g3
      have Cc := Lib.hid (fun W (h : Below w.heap.size w W) => compare17 Ei Fi ps.length ei fi ps ps W (e9.bel h) (g9.bel h) (by omega))
      have Cs := Lib.hid (fun W (h : Below w.heap.size w W) => same02_any s s Ai Bi xs.length xs.length ci di xs xs W (e8.bel h) (g8.bel h) (by omega) (by omega) true ⟨fun _ => rfl, fun _ => ⟨rfl, rfl⟩⟩)
      rw [cmpP_eq] at Cc
      clear e8 e9 g8 g9 hx hy
      have keep : Hid (∀ W, Below w.heap.size w W → W.cell? ⟨b, o + k * 3, none⟩ = some (.bool s) ∧ W.cell? ⟨b, o + k * 3 + 1, none⟩ = some (.slice Ai xs.length ci) ∧ W.cell? ⟨b, o + k * 3 + 2, none⟩ = some (.slice Ei ps.length ei) ∧ W.cell? ⟨b', o' + k * 3, none⟩ = some (.bool s) ∧ W.cell? ⟨b', o' + k * 3 + 1, none⟩ = some (.slice Bi xs.length di) ∧ W.cell? ⟨b', o' + k * 3 + 2, none⟩ = some (.slice Fi ps.length fi)) := fun W hW =>
        ⟨(hW.cell (p := ⟨b, o + k * 3, none⟩) hb).trans e1, (hW.cell (p := ⟨b, o + k * 3 + 1, none⟩) hb).trans e2, (hW.cell (p := ⟨b, o + k * 3 + 2, none⟩) hb).trans e3, (hW.cell (p := ⟨b', o' + k * 3, none⟩) hb').trans g1, (hW.cell (p := ⟨b', o' + k * 3 + 1, none⟩) hb').trans g2, (hW.cell (p := ⟨b', o' + k * 3 + 2, none⟩) hb').trans g3⟩
      obtain ⟨k1, k2, k3, k4, k5, k6⟩ := keep.out wo hbel
      clear e1 e2 e3 g1 g2 g3
      go_wp2
      go_region_held3 (fun W => W.cell? ⟨b, o + k * 3, none⟩ = some (.bool s) ∧ W.cell? ⟨b, o + k * 3 + 1, none⟩ = some (.slice Ai xs.length ci) ∧ W.cell? ⟨b, o + k * 3 + 2, none⟩ = some (.slice Ei ps.length ei) ∧ W.cell? ⟨b', o' + k * 3, none⟩ = some (.bool s) ∧ W.cell? ⟨b', o' + k * 3 + 1, none⟩ = some (.slice Bi xs.length di) ∧ W.cell? ⟨b', o' + k * 3 + 2, none⟩ = some (.slice Fi ps.length fi))
        (first | go_keep | exact keep.out _ hbel.drew | exact keep.out _ hbw1 | exact keep.out _ hbw2)
        (first
          | (go_at_call 54; refine (Cc.out _ hbel.drew).mono ?_; rintro e w1 ⟨rfl, kk, hkk⟩; have hbw1 : Below w.heap.size w w1 := (by rw [hkk]; exact below_drewN hbel.drew kk); clear hkk)
          | (go_at_call 14; refine (Cs.out _ hbw1).mono ?_; rintro e w2 ⟨rfl, hbw2'⟩; have hbw2 : Below w.heap.size w w2 := hbw1.trans (hbw2'.mono hbw1.size)))
      go_wp2
      go_roundw
      case rel => exact ⟨k + 1, by omega, by go_num, hbw2⟩
      case measure => simp [intOf]; omega
    · go_wp2
      go_ret
      exact ⟨rfl, hbel⟩
end Go.Proofs.Ytjmbejodcloapaa

namespace Go.Proofs.Ytjmbejodcloapaa
open Go.RowKit Cl
attribute [local go_sem ↓] Go.wp_at_zero Go.wp_at_succ
set_option maxRecDepth 100000 in
set_option maxHeartbeats 4000000 in
theorem same17_no (A B : Option Addr) (n c d : Nat) (L M : List TV) (w : World) (hx : Trs w A n L) (hy : Trs w B n M) (hn : n ≤ 100000000) (hp : ∀ i (h : i < L.length) (h' : i < M.length), (L[i]).2 = (M[i]).2) (hd : L ≠ M) :
    Calls Try.prog 34 #[.slice A n c, .slice B n d] w fun e w' => e = .returned (.bool false) ∧ Below w.heap.size w w' := by
  have hne : ((n : Int) != (n : Int)) = false := by simp
  have hL := Lib.hid hx.len
  have hM := Lib.hid hy.len
  have HP := Lib.hid hp
  have HDiff := Lib.hid hd
  clear hp hd
  go_enter Try.func34, Try.ntmps34
  go_wp2
  go_loopw [5] (fun i wr => ∃ k : Nat, k ≤ n ∧ i = .int .i64 k ∧ Hid (∀ j, j < k → L[j]? = M[j]?) ∧ Below w.heap.size w wr) (fun i _ => n - (intOf i).toNat)
  case atStart => exact ⟨0, by omega, rfl, (fun j hj => absurd hj (by omega)), Below.refl _ _⟩
  case round =>
    obtain ⟨k, hk, rfl, hall, hbel⟩ := hrel
    obtain ⟨wo, rfl⟩ : ∃ wo : World, wo = wr := ⟨_, rfl⟩
    by_cases hlt : k < n
    · obtain ⟨b, o, rfl, hb, hc⟩ := hx.at_ (by omega)
      obtain ⟨b', o', rfl, hb', hc'⟩ := hy.at_ (by omega)
      have hkl : k < L.length := by rw [hL.out]; exact hlt
      have hkm : k < M.length := by rw [hM.out]; exact hlt
      have hpp := HP.out k hkl hkm
      have hxe : L[k]? = some L[k] := List.getElem?_eq_getElem hkl
      have hye : M[k]? = some M[k] := List.getElem?_eq_getElem hkm
      obtain ⟨Ai, ci, Ei, ei, e1, e2, e3, e4, e5, e6, e7, e8, e9⟩ := hc k hkl
      obtain ⟨Bi, di, Fi, fi, g1, g2, g3, g4, g5, g6, g7, g8, g9⟩ := hc' k hkm
      clear hc hc'
      generalize L[k] = x at *
      generalize M[k] = y at *
      obtain ⟨⟨s, xs⟩, ps⟩ := x
      obtain ⟨⟨t, ys⟩, qs⟩ := y
      simp only at e1 e2 e3 e4 e6 e8 e9 g1 g2 g3 g4 g6 g8 g9 hpp
      subst hpp
      have Hxe := Lib.hid hxe
      have Hye := Lib.hid hye
      clear hxe hye
      have hlt' : (k : Int) < (n : Int) := by omega
      have hk0 : (0 : Int) ≤ (k : Int) := by omega
      have hz : ((ps.length : Int) != (ps.length : Int)) = false := by simp
      rw [Nat.mul_comm 3 k] at e1 e2 e3 g1 g2 g3
      rw [← Nat.add_assoc] at e2 e3 g2 g3
      have Cc := Lib.hid (fun W (h : Below w.heap.size w W) => compare17 Ei Fi ps.length ei fi ps ps W (e9.bel h) (g9.bel h) (by omega))
      have Cs := Lib.hid (fun W (h : Below w.heap.size w W) => same02_any s t Ai Bi xs.length ys.length ci di xs ys W (e8.bel h) (g8.bel h) (by omega) (by omega) (decide (s = t ∧ xs = ys)) ⟨fun h => decide_eq_true h, fun h => of_decide_eq_true h⟩)
      rw [cmpP_eq] at Cc
      clear e8 e9 g8 g9 hx hy
      have keep : Hid (∀ W, Below w.heap.size w W → W.cell? ⟨b, o + k * 3, none⟩ = some (.bool s) ∧ W.cell? ⟨b, o + k * 3 + 1, none⟩ = some (.slice Ai xs.length ci) ∧ W.cell? ⟨b, o + k * 3 + 2, none⟩ = some (.slice Ei ps.length ei) ∧ W.cell? ⟨b', o' + k * 3, none⟩ = some (.bool t) ∧ W.cell? ⟨b', o' + k * 3 + 1, none⟩ = some (.slice Bi ys.length di) ∧ W.cell? ⟨b', o' + k * 3 + 2, none⟩ = some (.slice Fi ps.length fi)) := fun W hW =>
        ⟨(hW.cell (p := ⟨b, o + k * 3, none⟩) hb).trans e1, (hW.cell (p := ⟨b, o + k * 3 + 1, none⟩) hb).trans e2, (hW.cell (p := ⟨b, o + k * 3 + 2, none⟩) hb).trans e3, (hW.cell (p := ⟨b', o' + k * 3, none⟩) hb').trans g1, (hW.cell (p := ⟨b', o' + k * 3 + 1, none⟩) hb').trans g2, (hW.cell (p := ⟨b', o' + k * 3 + 2, none⟩) hb').trans g3⟩
      obtain ⟨k1, k2, k3, k4, k5, k6⟩ := keep.out wo hbel
      clear e1 e2 e3 g1 g2 g3
      by_cases hq' : s = t ∧ xs = ys
      · rw [decide_eq_true hq'] at Cs
        have hq := Lib.hid hq'
        clear hq'
        go_wp2
        go_region_held3 (fun W => W.cell? ⟨b, o + k * 3, none⟩ = some (.bool s) ∧ W.cell? ⟨b, o + k * 3 + 1, none⟩ = some (.slice Ai xs.length ci) ∧ W.cell? ⟨b, o + k * 3 + 2, none⟩ = some (.slice Ei ps.length ei) ∧ W.cell? ⟨b', o' + k * 3, none⟩ = some (.bool t) ∧ W.cell? ⟨b', o' + k * 3 + 1, none⟩ = some (.slice Bi ys.length di) ∧ W.cell? ⟨b', o' + k * 3 + 2, none⟩ = some (.slice Fi ps.length fi))
          (first | go_keep | exact keep.out _ hbel.drew | exact keep.out _ hbw1 | exact keep.out _ hbw2)
          (first
            | (go_at_call 54; refine (Cc.out _ hbel.drew).mono ?_; rintro e w1 ⟨rfl, kk, hkk⟩; have hbw1 : Below w.heap.size w w1 := (by rw [hkk]; exact below_drewN hbel.drew kk); clear hkk)
            | (go_at_call 14; refine (Cs.out _ hbw1).mono ?_; rintro e w2 ⟨rfl, hbw2'⟩; have hbw2 : Below w.heap.size w w2 := hbw1.trans (hbw2'.mono hbw1.size)))
        go_wp2
        go_roundw
        case rel => exact ⟨k + 1, by omega, by go_num, (fun j hj => if e : j = k then by rw [e, Hxe.out, Hye.out, hq.out.1, hq.out.2] else hall.out j (by omega)), hbw2⟩
        case measure => simp [intOf]; omega
      · rw [decide_eq_false hq'] at Cs
        clear hq'
        go_wp2
        go_region_held3 (fun W => W.cell? ⟨b, o + k * 3, none⟩ = some (.bool s) ∧ W.cell? ⟨b, o + k * 3 + 1, none⟩ = some (.slice Ai xs.length ci) ∧ W.cell? ⟨b, o + k * 3 + 2, none⟩ = some (.slice Ei ps.length ei) ∧ W.cell? ⟨b', o' + k * 3, none⟩ = some (.bool t) ∧ W.cell? ⟨b', o' + k * 3 + 1, none⟩ = some (.slice Bi ys.length di) ∧ W.cell? ⟨b', o' + k * 3 + 2, none⟩ = some (.slice Fi ps.length fi))
          (first | go_keep | exact keep.out _ hbel.drew | exact keep.out _ hbw1 | exact keep.out _ hbw2)
          (first
            | (go_at_call 54; refine (Cc.out _ hbel.drew).mono ?_; rintro e w1 ⟨rfl, kk, hkk⟩; have hbw1 : Below w.heap.size w w1 := (by rw [hkk]; exact below_drewN hbel.drew kk); clear hkk)
            | (go_at_call 14; refine (Cs.out _ hbw1).mono ?_; rintro e w2 ⟨rfl, hbw2'⟩; have hbw2 : Below w.heap.size w w2 := hbw1.trans (hbw2'.mono hbw1.size)))
        go_wp2
        go_ret
        exact ⟨rfl, hbw2⟩
    · exact absurd (List.ext_getElem? fun j => by
        rcases Nat.lt_or_ge j k with h | h
        · exact hall.out j h
        · rw [List.getElem?_eq_none (by rw [hL.out]; omega), List.getElem?_eq_none (by rw [hM.out]; omega)]) HDiff.out
end Go.Proofs.Ytjmbejodcloapaa
