/- A division in the statement's domain: plain lists exist, weights, bounds. No program in sight.
   A division in the domain of MpolyExact: exponents up to six; bounds. No program in sight. -/
import Derived.Test.YtjmbejodcloapaaPPlains
import Derived.Test.YtjmbejodcloapaaPValQ
set_option linter.unusedVariables false
set_option linter.unusedSimpArgs false
namespace Cl
theorem wP_entry0 : ∀ {ws : List Nat} {p : Plc}, p.length ≤ ws.length → (∀ a ∈ ws, 0 < a) → ∀ x ∈ p, x ≤ (wP ws p : Int)
  | [], [], _, _, x, hx => by cases hx
  | [], _ :: _, h, _, _, _ => absurd h (by simp)
  | _ :: _, [], _, _, x, hx => by cases hx
  | a :: ws, y :: p, hl, ha, x, hx => by
    have ih := wP_entry0 (ws := ws) (p := p) (by simpa using hl) fun z hz => ha z (List.mem_cons_of_mem _ hz)
    have h1 := ha a List.mem_cons_self
    have h2 : 1 * y.toNat ≤ a * y.toNat := Nat.mul_le_mul_right _ h1
    have h3 : wP (a :: ws) (y :: p) = a * y.toNat + wP ws p := rfl
    rcases List.mem_cons.1 hx with rfl | hx
    · omega
    · have := ih x hx
      omega
theorem mem_nthI {l : List Int} {x : Int} (h : x ∈ l) : ∃ j, j < l.length ∧ nth l j = x := by
  obtain ⟨i, hi, rfl⟩ := List.getElem_of_mem h
  exact ⟨i, hi, nth_lt hi⟩
theorem pot_le {ws : List Nat} {G M : Nat} (hG : 1 ≤ G) : ∀ {L : Mv}, (∀ t ∈ L, wP ws t.1 ≤ M) → pot ws G L ≤ absM L * G ^ M
  | [], _ => Nat.zero_le _
  | t :: L, h => by
    have ih := pot_le hG (L := L) fun u hu => h u (List.mem_cons_of_mem _ hu)
    have h1 : G ^ wP ws t.1 ≤ G ^ M := Nat.pow_le_pow_right hG (h t List.mem_cons_self)
    have h2 := Nat.mul_le_mul_left t.2.natAbs h1
    rw [pot_cons]
    have e : absM (t :: L) = t.2.natAbs + absM L := rfl
    rw [e, Nat.add_mul]
    omega
end Cl
namespace Cl
theorem quo_deg {n : Nat} {Q N T L : Mv} {D E : Int} (hQ : PlainM n Q) (bQ : BdM D Q) (hN : PlainM n N) (hN0 : N ≠ []) (bN : BdM E N) (hE : 0 ≤ E) (hNT : EqM n N T) (hT : LenM n T) (hL : LenM n L) (bL : BdM E L) (e : EqM n (mulM Q T) L) : BdM E Q := by
  obtain ⟨P, p1, p2, _⟩ := plain_ex L hL
  have bP := p1.bd p2 bL
  have he : EqM n P (mulM Q N) := (p2.trans e.symm).trans ((EqM.refl n Q).mul hNT.symm hQ.len hQ.len hT hN.len)
  intro t ht x hx
  have hne : Q ≠ [] := List.ne_nil_of_mem ht
  have h0 := (bQ t ht x hx).1
  obtain ⟨i, hi, rfl⟩ := mem_nthI hx
  rw [hQ.len t ht] at hi
  obtain ⟨d1, d2, d3⟩ := deg_mul (i := i) hi hQ hN p1 bQ bN he hne hN0
  have nQ : ∀ t ∈ Q, 0 ≤ nth t.1 i := fun t ht => (bQ t ht _ (nth_mem (by rw [hQ.len t ht]; exact hi))).1
  have nP : ∀ t ∈ P, 0 ≤ nth t.1 i := fun t ht => (bP t ht _ (nth_mem (by rw [p1.len t ht]; exact hi))).1
  have h4 : degL i P ≤ E := by
    rcases degL_spec i P nP with ⟨_, h⟩ | ⟨_, _, u, hu, h⟩
    · omega
    · rw [← h]; exact (bP u hu _ (nth_mem (by rw [p1.len u hu]; exact hi))).2
  rcases degL_spec i Q nQ with ⟨h, _⟩ | ⟨_, h, _⟩
  · exact absurd h hne
  · have := h t ht
    exact ⟨h0, by omega⟩
def wsE (n : Nat) : List Nat := [16807, 2401, 343, 49, 7, 1].drop (6 - n)
def vsE (n : Nat) : List Nat := [14406, 2058, 294, 42, 6, 1].drop (6 - n)
theorem weightsE {n : Nat} (hn : n ≤ 6) : (wsE n).length = n ∧ (vsE n).length = n ∧ Falls 1 6 (wsE n) ∧ Falls 0 6 (vsE n) ∧ (∀ a ∈ vsE n, 0 < a) ∧ (wsE n).sum ≤ 19608 ∧ (vsE n).sum ≤ 16807 ∧ (6 * (vsE n).sum + (vsE n).sum) ^ (vsE n).length < facP (vsE n) * (1700000000000000 + 1) := by
  match n, hn with
  | 0, _ => exact ⟨rfl, rfl, trivial, trivial, by decide, by decide, by decide, by decide⟩
  | 1, _ => exact ⟨rfl, rfl, ⟨by decide, trivial⟩, ⟨by decide, trivial⟩, by decide, by decide, by decide, by decide⟩
  | 2, _ => exact ⟨rfl, rfl, ⟨by decide, by decide, trivial⟩, ⟨by decide, by decide, trivial⟩, by decide, by decide, by decide, by decide⟩
  | 3, _ => exact ⟨rfl, rfl, ⟨by decide, by decide, by decide, trivial⟩, ⟨by decide, by decide, by decide, trivial⟩, by decide, by decide, by decide, by decide⟩
  | 4, _ => exact ⟨rfl, rfl, ⟨by decide, by decide, by decide, by decide, trivial⟩, ⟨by decide, by decide, by decide, by decide, trivial⟩, by decide, by decide, by decide, by decide⟩
  | 5, _ => exact ⟨rfl, rfl, ⟨by decide, by decide, by decide, by decide, by decide, trivial⟩, ⟨by decide, by decide, by decide, by decide, by decide, trivial⟩, by decide, by decide, by decide, by decide⟩
  | 6, _ => exact ⟨rfl, rfl, ⟨by decide, by decide, by decide, by decide, by decide, by decide, trivial⟩, ⟨by decide, by decide, by decide, by decide, by decide, by decide, trivial⟩, by decide, by decide, by decide, by decide⟩
  | n + 7, h => omega
section
variable {n : Nat} {L T : Mv}
theorem div_domE (hn : n ≤ 6) (hT : LenM n T) (bT : BdM 6 T) (aT : absM T ≤ 2 ^ 131) : (∀ p, p.length = n → coM T p = 0) ∨ ∃ P' pl cl, DivT n (wsE n) (vsE n) (2 ^ 131) T P' pl cl := by
  obtain ⟨N, h1, h2, h3⟩ := plain_ex T hT
  obtain ⟨w1, w2, w3, w4, w5, w6, w7, w8⟩ := weightsE hn
  match N, h1, h2, h3 with
  | [], _, h2, _ => exact .inl fun p hp => (h2 p hp).symm
  | (pl, cl) :: P', h1, h2, h3 =>
    have hb := h1.bd h2 bT
    have ab : absM ((pl, cl) :: P') = cl.natAbs + absM P' := rfl
    have hlp : pl.length = n := h1.len (pl, cl) List.mem_cons_self
    have hb0 : ∀ x ∈ pl, 0 ≤ x ∧ x ≤ 6 := hb (pl, cl) List.mem_cons_self
    refine .inr ⟨P', pl, cl, h1, h2, hT, by omega, Nat.two_pow_pos _, ⟨fun x hx => (hb0 x hx).1, fun t ht x hx => (hb t (List.mem_cons_of_mem _ ht) x hx).1⟩, fun t ht => ?_, fun t ht => ?_⟩
    · have hbt := hb t (List.mem_cons_of_mem _ ht)
      rcases wP_lt (ws := wsE n) (e := 1) (D := 6) (p := pl) (q := t.1) w3 (fun _ => by omega) (fun x hx => (hbt x hx).1) (fun x hx => (hbt x hx).2) ((List.pairwise_cons.1 h1.ord).1 t ht) with h | ⟨h, _⟩ | h
      · exact h
      · cases h
      · omega
    · have hbt := hb t (List.mem_cons_of_mem _ ht)
      rcases wP_lt (ws := vsE n) (e := 0) (D := 6) (p := pl) (q := t.1) w4 (fun _ => by omega) (fun x hx => (hbt x hx).1) (fun x hx => (hbt x hx).2) ((List.pairwise_cons.1 h1.ord).1 t ht) with h | ⟨_, h⟩ | h
      · omega
      · exact h
      · omega
theorem quo_domE {P' Q : Mv} {pl : Plc} {cl : Int} {G : Nat} {ws vs : List Nat} (hD : DivT n ws vs G T P' pl cl) (bT : BdM 6 T) (hL : LenM n L) (bL : BdM 6 L) (cL : L.length ≤ 8) (hv : vs.length = n) (ha : ∀ a ∈ vs, 0 < a) {W : Nat} (hQ : PlainM n Q) (hQn : ∀ t ∈ Q, NonNeg t.1 ∧ wP vs t.1 ≤ W) (e : EqM n (mulM Q T) L) : BdM 6 Q ∧ Q.length ≤ 2409 := by
  have key : BdM 6 Q := quo_deg (D := (W : Int)) hQ (fun t ht x hx => ⟨(hQn t ht).1 x hx, by
    have h1 := wP_entry0 (ws := vs) (p := t.1) (by rw [hv, hQ.len t ht]; exact Nat.le_refl _) ha x hx
    have h2 := (hQn t ht).2
    omega⟩) hD.pln (by simp) (hD.pln.bd hD.eq bT) (by omega) hD.eq hD.lenT hL bL e
  refine ⟨key, ?_⟩
  by_cases h0 : Q = []
  · rw [h0]; exact Nat.zero_le _
  · obtain ⟨P, p1, p2, _⟩ := plain_ex L hL
    have hP : Prd n Q ((pl, cl) :: P') P := ⟨hQ, hD.pln, p1, (((EqM.refl n Q).mul hD.eq hQ.len hQ.len hD.pln.len hD.lenT).trans e).trans p2.symm, h0, by simp⟩
    have hc := p1.count p2
    have h1 := few hP (by omega) (B := 7) (by omega) fun p hp i => by
      obtain ⟨t, ht, rfl⟩ := mem_pts.1 hp
      rcases Nat.lt_or_ge i t.1.length with h | h
      · rw [cn_lt h]
        have := key t ht _ (List.getElem_mem h)
        omega
      · have e0 : cn t.1 i = 0 := by unfold cn; simp [List.getD, h]
        rw [e0]; omega
    have e7 : (7 : Nat) ^ 4 = 2401 := by decide
    omega
theorem start_domE {P' : Mv} {pl : Plc} {cl : Int} {E : Nat} (hE : E = 117648) (hn : n ≤ 6) (hL : LenM n L) (bL : BdM 6 L) (aL : absM L ≤ 2 ^ 131) : DvS n (wsE n) (vsE n) (2 ^ 131) (2 ^ 131 * (2 ^ 131) ^ E) (6 * (vsE n).sum) T P' pl cl L L [] := by
  obtain ⟨w1, w2, w3, w4, w5, w6, w7, w8⟩ := weightsE hn
  refine DvS.start hL (fun t ht => ⟨fun x hx => (bL t ht x hx).1, wP_le 6 _ fun x hx => (bL t ht x hx).2⟩) ?_
  refine Nat.le_trans (pot_le (M := E) (Nat.two_pow_pos _) fun t ht => ?_) (Nat.mul_le_mul_right _ aL)
  have := wP_le 6 (wsE n) (p := t.1) fun x hx => (bL t ht x hx).2
  omega
theorem cap_domE {E K : Nat} (hE : E = 117648) (hK : K = 240900) (aT : absM T ≤ 2 ^ 131) : 2 ^ 131 * (2 ^ 131) ^ E * (1 + absM T) < 2 ^ (64 * K) := by
  have h1 : 1 + absM T ≤ 2 ^ 132 := by
    have : (2 : Nat) ^ 132 = 2 ^ 131 + 2 ^ 131 := by decide
    have h2 := Nat.two_pow_pos 131
    omega
  rw [← Nat.pow_mul, ← Nat.pow_add]
  refine Nat.lt_of_le_of_lt (Nat.mul_le_mul_left _ h1) ?_
  rw [← Nat.pow_add]
  exact Nat.pow_lt_pow_right (by omega) (by omega)
theorem Dv.abs {ws vs : List Nat} {G F W : Nat} {P' L0 R : Mv} {pl : Plc} {cl : Int} (hT : DivT n ws vs G T P' pl cl) {o : Option Mv} (h : Dv n T pl cl R o) : ∀ {Qs : Mv}, DvS n ws vs G F W T P' pl cl L0 R Qs → ∀ Q, o = some Q → ∀ t ∈ Q, t.2.natAbs ≤ F := by
  induction h with
  | stop h => intro Qs _ Q e t ht; injection e with e; subst e; cases ht
  | rest h hno => intro Qs _ Q e; cases e
  | @step R p s o h hc hs hp hs0 hd ih =>
    intro Qs hS Q e t ht
    have h1 := hS.step hT h hc hs hp hs0
    cases o with
    | none => cases e
    | some Q0 =>
      have e2 : (s, coM R p / cl) :: Q0 = Q := by injection e
      subst e2
      rcases List.mem_cons.1 ht with rfl | ht
      · exact h1.abQ _ (by simp)
      · exact ih h1 Q0 rfl t ht
theorem Dv.box {ws vs : List Nat} {G F W : Nat} {P' L0 R : Mv} {pl : Plc} {cl : Int} (hT : DivT n ws vs G T P' pl cl) {o : Option Mv} (h : Dv n T pl cl R o) : ∀ {Qs : Mv}, DvS n ws vs G F W T P' pl cl L0 R Qs → ∀ Q, o = some Q → ∀ t ∈ Q, NonNeg t.1 ∧ wP vs t.1 ≤ W := by
  induction h with
  | stop h => intro Qs _ Q e t ht; injection e with e; subst e; cases ht
  | rest h hno => intro Qs _ Q e; cases e
  | @step R p s o h hc hs hp hs0 hd ih =>
    intro Qs hS Q e t ht
    have h1 := hS.step hT h hc hs hp hs0
    cases o with
    | none => cases e
    | some Q0 =>
      have e2 : (s, coM R p / cl) :: Q0 = Q := by injection e
      subst e2
      rcases List.mem_cons.1 ht with rfl | ht
      · exact h1.nnQ _ (by simp)
      · exact ih h1 Q0 rfl t ht
theorem DivT.cl_ne {ws vs : List Nat} {G : Nat} {P' : Mv} {pl : Plc} {cl : Int} (h : DivT n ws vs G T P' pl cl) : cl ≠ 0 := h.pln.ne (pl, cl) List.mem_cons_self
end
end Cl
