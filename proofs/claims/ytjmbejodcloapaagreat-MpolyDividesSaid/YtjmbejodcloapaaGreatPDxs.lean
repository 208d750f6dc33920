/- A division in the statement's domain: plain lists exist, weights, bounds. No program in sight.
   A division's steps: only what the lists come to matters; plain rows that a division is at. No program in sight. -/
import Derived.Test.YtjmbejodcloapaaGreatPPlains
import Derived.Test.YtjmbejodcloapaaGreatPLaws
set_option linter.unusedVariables false
set_option linter.unusedSimpArgs false
namespace Cl
theorem wP_entry0 : ∀ {ws : List Nat} {p : Plc}, p.length ≤ ws.length → (∀ a ∈ ws, 0 < a) → ∀ x ∈ p, x ≤ (wP ws p : Int)
  | [], [], _, _, x, hx => by cases hx
  | [], _ :: _, h, _, _, _ => absurd h (by simp)
  | _ :: _, [], _, _, x, hx => by cases hx
  | a :: ws, y :: p, hl, ha, x, hx => by
    have ih := wP_entry0 (ws := ws) (p := p) (by simpa using hl) fun z hz => ha z (List.mem_cons_of_mem _ hz)
    have h1 := ha a List.mem_cons_self
    have h2 : 1 * y.toNat ≤ a * y.toNat := Nat.mul_le_mul_right _ h1
    have h3 : wP (a :: ws) (y :: p) = a * y.toNat + wP ws p := rfl
    rcases List.mem_cons.1 hx with rfl | hx
    · omega
    · have := ih x hx
      omega
def boxP : Nat → List Plc
  | 0 => [[]]
  | n + 1 => (List.range 5).flatMap fun (x : Nat) => (boxP n).map fun p => (x : Int) :: p
theorem boxP_length : ∀ n : Nat, (boxP n).length = 5 ^ n
  | 0 => rfl
  | n + 1 => by
    have ih := boxP_length n
    have e : (List.range 5) = [0, 1, 2, 3, 4] := rfl
    unfold boxP
    rw [e]
    simp only [List.flatMap_cons, List.flatMap_nil, List.length_append, List.length_map, List.length_nil, ih, Nat.pow_succ]
    omega
theorem mem_boxP : ∀ {n : Nat} {p : Plc}, p.length = n → (∀ x ∈ p, 0 ≤ x ∧ x ≤ 4) → p ∈ boxP n
  | 0, [], _, _ => List.mem_singleton.2 rfl
  | n + 1, x :: p, hl, h => by
    have hx := h x List.mem_cons_self
    refine List.mem_flatMap.2 ⟨x.toNat, List.mem_range.2 (by omega), List.mem_map.2 ⟨p, mem_boxP (by simpa using hl) fun y hy => h y (List.mem_cons_of_mem _ hy), ?_⟩⟩
    rw [Int.toNat_of_nonneg hx.1]
theorem mem_nthI {l : List Int} {x : Int} (h : x ∈ l) : ∃ j, j < l.length ∧ nth l j = x := by
  obtain ⟨i, hi, rfl⟩ := List.getElem_of_mem h
  exact ⟨i, hi, nth_lt hi⟩
theorem quo_box {n : Nat} {Q N T L : Mv} {D : Int} (hn : n ≤ 6) (hQ : PlainM n Q) (bQ : BdM D Q) (hN : PlainM n N) (hN0 : N ≠ []) (bN : BdM 4 N) (hNT : EqM n N T) (hT : LenM n T) (hL : LenM n L) (bL : BdM 4 L) (e : EqM n (mulM Q T) L) : BdM 1000 Q ∧ Q.length ≤ 1000000 := by
  obtain ⟨P, p1, p2, _⟩ := plain_ex L hL
  have bP := p1.bd p2 bL
  have he : EqM n P (mulM Q N) := (p2.trans e.symm).trans ((EqM.refl n Q).mul hNT.symm hQ.len hQ.len hT hN.len)
  have key : BdM 4 Q := fun t ht x hx => by
    have hne : Q ≠ [] := List.ne_nil_of_mem ht
    have h0 := (bQ t ht x hx).1
    obtain ⟨i, hi, rfl⟩ := mem_nthI hx
    rw [hQ.len t ht] at hi
    obtain ⟨d1, d2, d3⟩ := deg_mul (i := i) hi hQ hN p1 bQ bN he hne hN0
    have nQ : ∀ t ∈ Q, 0 ≤ nth t.1 i := fun t ht => (bQ t ht _ (nth_mem (by rw [hQ.len t ht]; exact hi))).1
    have nP : ∀ t ∈ P, 0 ≤ nth t.1 i := fun t ht => (bP t ht _ (nth_mem (by rw [p1.len t ht]; exact hi))).1
    have h4 : degL i P ≤ 4 := by
      rcases degL_spec i P nP with ⟨_, h⟩ | ⟨_, _, u, hu, h⟩
      · omega
      · rw [← h]; exact (bP u hu _ (nth_mem (by rw [p1.len u hu]; exact hi))).2
    rcases degL_spec i Q nQ with ⟨h, _⟩ | ⟨_, h, _⟩
    · exact absurd h hne
    · have := h t ht
      exact ⟨h0, by omega⟩
  refine ⟨key.mono (by omega), ?_⟩
  have h1 := nodup_le (m := boxP n) hQ.nodup fun p hp => by
    obtain ⟨t, ht, rfl⟩ := List.mem_map.1 hp
    exact mem_boxP (hQ.len t ht) (key t ht)
  rw [List.length_map, boxP_length] at h1
  have h2 : 5 ^ n ≤ 5 ^ 6 := Nat.pow_le_pow_right (by omega) hn
  have h3 : (5 : Nat) ^ 6 = 15625 := by decide
  omega
def wsD (n : Nat) : List Nat := [3125, 625, 125, 25, 5, 1].drop (6 - n)
def vsD (n : Nat) : List Nat := [2500, 500, 100, 20, 4, 1].drop (6 - n)
theorem weights {n : Nat} (hn : n ≤ 6) : (wsD n).length = n ∧ (vsD n).length = n ∧ Falls 1 4 (wsD n) ∧ Falls 0 4 (vsD n) ∧ (∀ a ∈ vsD n, 0 < a) ∧ (wsD n).sum ≤ 3906 ∧ (vsD n).sum ≤ 3125 ∧ (4 * (vsD n).sum + (vsD n).sum) ^ (vsD n).length < facP (vsD n) * (2100000000000 + 1) := by
  match n, hn with
  | 0, _ => exact ⟨rfl, rfl, trivial, trivial, by decide, by decide, by decide, by decide⟩
  | 1, _ => exact ⟨rfl, rfl, ⟨by decide, trivial⟩, ⟨by decide, trivial⟩, by decide, by decide, by decide, by decide⟩
  | 2, _ => exact ⟨rfl, rfl, ⟨by decide, by decide, trivial⟩, ⟨by decide, by decide, trivial⟩, by decide, by decide, by decide, by decide⟩
  | 3, _ => exact ⟨rfl, rfl, ⟨by decide, by decide, by decide, trivial⟩, ⟨by decide, by decide, by decide, trivial⟩, by decide, by decide, by decide, by decide⟩
  | 4, _ => exact ⟨rfl, rfl, ⟨by decide, by decide, by decide, by decide, trivial⟩, ⟨by decide, by decide, by decide, by decide, trivial⟩, by decide, by decide, by decide, by decide⟩
  | 5, _ => exact ⟨rfl, rfl, ⟨by decide, by decide, by decide, by decide, by decide, trivial⟩, ⟨by decide, by decide, by decide, by decide, by decide, trivial⟩, by decide, by decide, by decide, by decide⟩
  | 6, _ => exact ⟨rfl, rfl, ⟨by decide, by decide, by decide, by decide, by decide, by decide, trivial⟩, ⟨by decide, by decide, by decide, by decide, by decide, by decide, trivial⟩, by decide, by decide, by decide, by decide⟩
  | n + 7, h => omega
theorem pot_le {ws : List Nat} {G M : Nat} (hG : 1 ≤ G) : ∀ {L : Mv}, (∀ t ∈ L, wP ws t.1 ≤ M) → pot ws G L ≤ absM L * G ^ M
  | [], _ => Nat.zero_le _
  | t :: L, h => by
    have ih := pot_le hG (L := L) fun u hu => h u (List.mem_cons_of_mem _ hu)
    have h1 : G ^ wP ws t.1 ≤ G ^ M := Nat.pow_le_pow_right hG (h t List.mem_cons_self)
    have h2 := Nat.mul_le_mul_left t.2.natAbs h1
    rw [pot_cons]
    have e : absM (t :: L) = t.2.natAbs + absM L := rfl
    rw [e, Nat.add_mul]
    omega
section
variable {n : Nat} {L T : Mv}
theorem div_dom (hn : n ≤ 6) (hT : LenM n T) (bT : BdM 4 T) (aT : absM T ≤ 2 ^ 131) : (∀ p, p.length = n → coM T p = 0) ∨ ∃ P' pl cl, DivT n (wsD n) (vsD n) (2 ^ 131) T P' pl cl := by
  obtain ⟨N, h1, h2, h3⟩ := plain_ex T hT
  obtain ⟨w1, w2, w3, w4, w5, w6, w7, w8⟩ := weights hn
  match N, h1, h2, h3 with
  | [], _, h2, _ => exact .inl fun p hp => (h2 p hp).symm
  | (pl, cl) :: P', h1, h2, h3 =>
    have hb := h1.bd h2 bT
    have ab : absM ((pl, cl) :: P') = cl.natAbs + absM P' := rfl
    have hlp : pl.length = n := h1.len (pl, cl) List.mem_cons_self
    have hb0 : ∀ x ∈ pl, 0 ≤ x ∧ x ≤ 4 := hb (pl, cl) List.mem_cons_self
    refine .inr ⟨P', pl, cl, h1, h2, hT, by omega, Nat.two_pow_pos _, ⟨fun x hx => (hb0 x hx).1, fun t ht x hx => (hb t (List.mem_cons_of_mem _ ht) x hx).1⟩, fun t ht => ?_, fun t ht => ?_⟩
    · have hbt := hb t (List.mem_cons_of_mem _ ht)
      rcases wP_lt (ws := wsD n) (e := 1) (D := 4) (p := pl) (q := t.1) w3 (fun _ => by omega) (fun x hx => (hbt x hx).1) (fun x hx => (hbt x hx).2) ((List.pairwise_cons.1 h1.ord).1 t ht) with h | ⟨h, _⟩ | h
      · exact h
      · cases h
      · omega
    · have hbt := hb t (List.mem_cons_of_mem _ ht)
      rcases wP_lt (ws := vsD n) (e := 0) (D := 4) (p := pl) (q := t.1) w4 (fun _ => by omega) (fun x hx => (hbt x hx).1) (fun x hx => (hbt x hx).2) ((List.pairwise_cons.1 h1.ord).1 t ht) with h | ⟨_, h⟩ | h
      · omega
      · exact h
      · omega
theorem quo_dom {P' Q : Mv} {pl : Plc} {cl : Int} {G : Nat} {ws vs : List Nat} (hn : n ≤ 6) (hD : DivT n ws vs G T P' pl cl) (bT : BdM 4 T) (hL : LenM n L) (bL : BdM 4 L) (hv : vs.length = n) (ha : ∀ a ∈ vs, 0 < a) {W : Nat} (hQ : PlainM n Q) (hQn : ∀ t ∈ Q, NonNeg t.1 ∧ wP vs t.1 ≤ W) (e : EqM n (mulM Q T) L) : BdM 1000 Q ∧ Q.length ≤ 1000000 :=
  quo_box (D := (W : Int)) hn hQ (fun t ht x hx => ⟨(hQn t ht).1 x hx, by
    have h1 := wP_entry0 (ws := vs) (p := t.1) (by rw [hv, hQ.len t ht]; exact Nat.le_refl _) ha x hx
    have h2 := (hQn t ht).2
    omega⟩) hD.pln (by simp) (hD.pln.bd hD.eq bT) hD.eq hD.lenT hL bL e
theorem start_dom {P' : Mv} {pl : Plc} {cl : Int} {E : Nat} (hE : E = 15624) (hn : n ≤ 6) (hL : LenM n L) (bL : BdM 4 L) (aL : absM L ≤ 2 ^ 131) : DvS n (wsD n) (vsD n) (2 ^ 131) (2 ^ 131 * (2 ^ 131) ^ E) (4 * (vsD n).sum) T P' pl cl L L [] := by
  obtain ⟨w1, w2, w3, w4, w5, w6, w7, w8⟩ := weights hn
  refine DvS.start hL (fun t ht => ⟨fun x hx => (bL t ht x hx).1, wP_le 4 _ fun x hx => (bL t ht x hx).2⟩) ?_
  refine Nat.le_trans (pot_le (M := E) (Nat.two_pow_pos _) fun t ht => ?_) (Nat.mul_le_mul_right _ aL)
  have := wP_le 4 (wsD n) (p := t.1) fun x hx => (bL t ht x hx).2
  omega
theorem cap_dom {E K : Nat} (hE : E = 15624) (hK : K = 32000) (aT : absM T ≤ 2 ^ 131) : 2 ^ 131 * (2 ^ 131) ^ E * (1 + absM T) < 2 ^ (64 * K) := by
  have h1 : 1 + absM T ≤ 2 ^ 132 := by
    have : (2 : Nat) ^ 132 = 2 ^ 131 + 2 ^ 131 := by decide
    have h2 := Nat.two_pow_pos 131
    omega
  rw [← Nat.pow_mul, ← Nat.pow_add]
  refine Nat.lt_of_le_of_lt (Nat.mul_le_mul_left _ h1) ?_
  rw [← Nat.pow_add]
  exact Nat.pow_lt_pow_right (by omega) (by omega)
end
end Cl
namespace Cl
section
variable {n : Nat} {T T' L R R' Qs P' M : Mv} {pl : Plc} {cl : Int} {ws vs : List Nat} {G F W C : Nat}
theorem Dv.eq (hT : EqM n T T') (lT : LenM n T) (lT' : LenM n T') {o : Option Mv} (h : Dv n T pl cl R o) : ∀ {R' : Mv}, EqM n R R' → Dv n T' pl cl R' o := by
  induction h with
  | stop h => intro R' e; exact .stop fun q hq => (e q hq).symm.trans (h q hq)
  | rest h hno => intro R' e; exact .rest (h.eq e) (by rw [← e _ h.len]; exact hno)
  | @step R p s o h hc hs hp hs0 hd ih =>
    intro R' e
    have h1 : LenM n [(s, -(coM R p / cl))] := fun t ht => by rw [List.mem_singleton.1 ht]; exact hs
    have h2 := ih (R' := R' ++ mulM [(s, -(coM R p / cl))] T') (e.add ((EqM.refl n _).mul hT h1 h1 lT lT'))
    have h3 := e _ h.len
    rw [h3] at h2 hc ⊢
    exact .step (h.eq e) hc hs hp hs0 h2
theorem DvS.eq (h : DvS n ws vs G F W T P' pl cl L R Qs) (e : EqM n R R') (l : LenM n R') (lT : LenM n T) : DvS n ws vs G F W T P' pl cl L R' Qs :=
  ⟨by obtain ⟨N, hN⟩ := h.sm; exact ⟨N, hN.nod, hN.eq.trans e, hN.pt, hN.nn, hN.wt⟩, l, h.lenQ, h.nnQ, h.pair, h.neQ, h.abQ, fun q hq h0 => h.low q hq (by rw [e q hq]; exact h0), fun o ho => h.run o (ho.eq (EqM.refl n T) lT lT e.symm)⟩
theorem PlainM.lead {t : Trm} (h : PlainM n (t :: M)) : LeadM n (t :: M) t.1 :=
  ⟨h.len t List.mem_cons_self, by rw [h.co_head]; exact h.ne t List.mem_cons_self, fun q hq h0 hlt => h0 (h.co_above hlt)⟩
theorem DvS.rows (h : DvS n ws vs G F W T P' pl cl L R Qs) (hR : PlainM n R) (hv : vs.length = n) (ha : ∀ a ∈ vs, 0 < a) (hC : (W + vs.sum) ^ vs.length < facP vs * (C + 1)) : R.length ≤ C := by
  have h1 := places_count (l := R.map (·.1)) ha hC hR.nodup fun p hp => by
    obtain ⟨t, ht, rfl⟩ := List.mem_map.1 hp
    have h2 := h.nn (hR.len t ht) (by rw [hR.co_mem t ht]; exact hR.ne t ht)
    exact ⟨by rw [hv]; exact hR.len t ht, h2.1, h2.2⟩
  rwa [List.length_map] at h1
theorem DvS.small (h : DvS n ws vs G F W T P' pl cl L R Qs) (hG : 1 ≤ G) (hR : PlainM n R) : ∀ t ∈ R, t.2.natAbs ≤ F := fun t ht => by
  rw [← hR.co_mem t ht]
  exact h.co hG (hR.len t ht)
theorem DvS.abs (h : DvS n ws vs G F W T P' pl cl L R Qs) (hG : 1 ≤ G) (hR : PlainM n R) (hl : R.length ≤ C) : absM R ≤ C * F := by
  refine Nat.le_trans (absM_le (h.small hG hR)) (Nat.mul_le_mul_right _ hl)
theorem PlainM.abs_le {N X : Mv} (h : PlainM n N) (e : EqM n N X) (hX : LenM n X) : absM N ≤ absM X := by
  obtain ⟨N', h1, h2, h3⟩ := plain_ex X hX
  rw [h.unique h1 (e.trans h2.symm)]
  exact h3
theorem absM_scale1 : ∀ L : Mv, absM (scaleM (-1) L) = absM L
  | [] => rfl
  | t :: L => by
    have ih := absM_scale1 L
    show (-1 * t.2).natAbs + absM (scaleM (-1) L) = t.2.natAbs + absM L
    rw [ih, Int.neg_mul, Int.one_mul, Int.natAbs_neg]
theorem absM_one (t : Trm) : ∀ T : Mv, absM (mulM [t] T) = t.2.natAbs * absM T := fun T => by
  rw [mulM_one]
  induction T with
  | nil => show 0 = _ * 0; rw [Nat.mul_zero]
  | cons u T ih =>
    show (t.2 * u.2).natAbs + absM (T.map _) = t.2.natAbs * (u.2.natAbs + absM T)
    rw [Nat.mul_add, ← ih, Int.natAbs_mul]
theorem neg_mul (n : Nat) {s : Plc} {c : Int} : EqM n (scaleM (-1) (mulM [(s, c)] T)) (mulM [(s, -c)] T) := fun q _ => by
  rw [coM_scale, mulM_neg1, Int.neg_mul, Int.one_mul]
theorem addP_take {a b : Plc} {j : Nat} (ha : j < a.length) (hb : j < b.length) : (addP a b).take (j + 1) = (addP a b).take j ++ [nth a j + nth b j] := by
  have hl : j < (addP a b).length := by unfold addP; rw [List.length_zipWith]; omega
  have e : (addP a b)[j] = a[j] + b[j] := List.getElem_zipWith
  rw [List.take_succ_eq_append_getElem hl, nth_lt ha, nth_lt hb, e]
theorem subP_take {a b : Plc} {j : Nat} (ha : j < a.length) (hb : j < b.length) : (subP a b).take (j + 1) = (subP a b).take j ++ [nth a j - nth b j] := by
  have hl : j < (subP a b).length := by unfold subP; rw [List.length_zipWith]; omega
  have e : (subP a b)[j] = a[j] - b[j] := List.getElem_zipWith
  rw [List.take_succ_eq_append_getElem hl, nth_lt ha, nth_lt hb, e]
theorem sub_yes {a b : Plc} (ha : a.length = n) (hb : b.length = n) (h : ∀ j, j < n → nth b j ≤ nth a j) : addP (subP a b) b = a ∧ ∀ x ∈ subP a b, 0 ≤ x := by
  have hs := subP_length ha hb
  refine ⟨(addP_iff (by omega) (by omega)).2 rfl, fun x hx => ?_⟩
  obtain ⟨j, hj, rfl⟩ := List.getElem_of_mem hx
  have hj2 : j < n := by rw [subP_length ha hb] at hj; exact hj
  have h1 := h j hj2
  rw [nth_lt (by omega), nth_lt (by omega)] at h1
  have e : (subP a b)[j] = a[j] - b[j] := List.getElem_zipWith
  rw [e]
  omega
theorem sub_none {a b s : Plc} {j : Nat} (ha : a.length = n) (hb : b.length = n) (hj : j < n) (h : nth a j < nth b j) (hs : s.length = n) (e : addP s b = a) (h0 : ∀ x ∈ s, 0 ≤ x) : False := by
  have h1 : nth a j = nth s j + nth b j := by
    have e2 : (addP s b)[j]'(by rw [addP_length hs hb]; exact hj) = s[j] + b[j] := List.getElem_zipWith
    rw [← e, nth_lt (by rw [addP_length hs hb]; exact hj), nth_lt (by omega : j < s.length), nth_lt (by omega : j < b.length), e2]
  have h2 : 0 ≤ nth s j := by
    rw [nth_lt (by omega)]
    exact h0 _ (List.getElem_mem _)
  omega
theorem sub_bd {a b : Plc} {B : Int} (hl : a.length = b.length) (ha : ∀ x ∈ a, x ≤ B) (hb : ∀ x ∈ b, 0 ≤ x) : ∀ x ∈ subP a b, x ≤ B := fun x hx => by
  obtain ⟨j, hj, rfl⟩ := List.getElem_of_mem hx
  have hj' : j < a.length := by rw [subP_length (n := a.length) rfl hl.symm] at hj; exact hj
  have h1 := ha _ (List.getElem_mem hj')
  have h2 := hb _ (List.getElem_mem (by omega : j < b.length))
  have e : (subP a b)[j] = a[j] - b[j] := List.getElem_zipWith
  rw [e]
  omega
theorem step_caps {F K C aT : Nat} (hK : F * (1 + aT) < 2 ^ (64 * K)) (hC : C ≤ 2100000000000) : F < 2 ^ (64 * K) ∧ F * aT < 2 ^ (64 * K) ∧ C * F + F * aT < 2 ^ (64 * (K + 1)) := by
  rw [Nat.mul_add, Nat.mul_one] at hK
  have h1 : (2 : Nat) ^ (64 * (K + 1)) = 2 ^ (64 * K) * 18446744073709551616 := by
    rw [Nat.mul_add, Nat.pow_add]
  have h2 : C * F ≤ 2100000000000 * F := Nat.mul_le_mul_right _ hC
  rw [h1]
  omega
end
end Cl
