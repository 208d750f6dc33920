/- Plain facts for the long division of naturals: one digit after the other.
   Limbs at the head of a block with spare cells; steps of regions: noughts appended, limbs copied.
   Contract: nat.row with its capacity told (nat_row of XNatK turned; printed by gen/subo.py).
   Contract step: noughts appended to what is owned, the head read again. -/
import Derived.Test.YtjmbejodcloapaaDvTwo
namespace Cl
theorem limbs_two (a b : Int) : limbs [a, b] = a.toNat + 18446744073709551616 * b.toNat := by
  show a.toNat + 2 ^ 64 * (b.toNat + 2 ^ 64 * 0) = _
  omega
theorem limbs_three (a b c : Int) : limbs [a, b, c] = a.toNat + 18446744073709551616 * (b.toNat + 18446744073709551616 * c.toNat) := by
  show a.toNat + 2 ^ 64 * (b.toNat + 2 ^ 64 * (c.toNat + 2 ^ 64 * 0)) = _
  omega
theorem drop_two {xs : List Int} {n : Nat} (h : xs.length = n + 2) : xs.drop n = [nth xs n, nth xs (n + 1)] := by
  rw [List.drop_eq_getElem_cons (by omega), List.drop_eq_getElem_cons (by omega), List.drop_eq_nil_of_le (by omega), nth_lt (by omega), nth_lt (by omega)]
theorem drop_three {xs : List Int} {n : Nat} (h : xs.length = n + 3) : xs.drop n = [nth xs n, nth xs (n + 1), nth xs (n + 2)] := by
  rw [List.drop_eq_getElem_cons (by omega), List.drop_eq_getElem_cons (by omega), List.drop_eq_getElem_cons (by omega), List.drop_eq_nil_of_le (by omega), nth_lt (by omega), nth_lt (by omega), nth_lt (by omega)]
/-- The two highest limbs are no more than the whole. -/
theorem top_two {xs : List Int} {n : Nat} (h : xs.length = n + 2) : ((nth xs (n + 1)).toNat * 18446744073709551616 + (nth xs n).toNat) * 2 ^ (64 * n) ≤ limbs xs := by
  have h1 := limbs_cut xs (k := n) (by omega)
  rw [drop_two h, limbs_two] at h1
  rw [h1, Nat.mul_comm ((nth xs (n + 1)).toNat)]
  have : (18446744073709551616 * (nth xs (n + 1)).toNat + (nth xs n).toNat) * 2 ^ (64 * n) = 2 ^ (64 * n) * ((nth xs n).toNat + 18446744073709551616 * (nth xs (n + 1)).toNat) := by rw [Nat.mul_comm, Nat.add_comm]
  omega
/-- The three highest limbs, and one more, are above the whole. -/
theorem top_three {xs : List Int} (ok : IsLimbs xs) {n : Nat} (h : xs.length = n + 3) : limbs xs < (((nth xs (n + 2)).toNat * 18446744073709551616 + (nth xs (n + 1)).toNat) * 18446744073709551616 + (nth xs n).toNat + 1) * 2 ^ (64 * n) := by
  have h1 := limbs_cut xs (k := n) (by omega)
  rw [drop_three h, limbs_three] at h1
  have h2 := limbs_lt (ok.take n)
  rw [List.length_take, Nat.min_eq_left (by omega)] at h2
  have h3 : (nth xs n).toNat + 18446744073709551616 * ((nth xs (n + 1)).toNat + 18446744073709551616 * (nth xs (n + 2)).toNat) = ((nth xs (n + 2)).toNat * 18446744073709551616 + (nth xs (n + 1)).toNat) * 18446744073709551616 + (nth xs n).toNat := by omega
  rw [h1, h3]
  have : ∀ T, limbs (xs.take n) + 2 ^ (64 * n) * T < (T + 1) * 2 ^ (64 * n) := fun T => by
    clear h1 h3
    generalize (2 : Nat) ^ (64 * n) = E at *
    rw [Nat.succ_mul, Nat.mul_comm]
    omega
  exact this _
/-- A guess by the highest limbs is no less than the digit. -/
theorem guess_ge {vs ps : List Int} {n g x : Nat} (hv : vs.length = n + 2) (hp : ps.length = n + 3) (ok : IsLimbs ps) (hx : x < 18446744073709551616) (h : x * limbs vs ≤ limbs ps)
    (hg : GuOk (nth ps (n + 2)).toNat (nth ps (n + 1)).toNat (nth ps n).toNat (nth vs (n + 1)).toNat (nth vs n).toNat g) : x ≤ g := by
  refine hg.2 x hx ?_
  exact guess_top (top_two hv) (top_three ok hp) h
/-- Under way: the digits from the k-th on, and what is left. -/
structure DivAt (N V k : Nat) (us qs : List Int) : Prop where
  uok : IsLimbs us
  qok : IsLimbs qs
  eq : N = limbs (qs.drop k) * V * 2 ^ (64 * k) + limbs us
  lt : limbs us < V * 2 ^ (64 * k)
theorem DivAt.split {N V k n : Nat} {us qs : List Int} (h : DivAt N V (k + 1) us qs) (hV : V < 2 ^ (64 * n)) (hk : k + n + 1 ≤ us.length) : limbs us = limbs (us.take k) + 2 ^ (64 * k) * limbs ((us.drop k).take (n + 1)) ∧ limbs ((us.drop k).take (n + 1)) < V * 18446744073709551616 := by
  have h1 := limbs_cut us (k := k) (by omega)
  have h2 := limbs_cut (us.drop k) (k := n + 1) (by rw [List.length_drop]; omega)
  have h3 := h.lt
  have e1 : (2 : Nat) ^ (64 * (k + 1)) = 2 ^ (64 * k) * 18446744073709551616 := by rw [show 64 * (k + 1) = 64 * k + 64 by omega, Nat.pow_add]
  have hz : limbs ((us.drop k).drop (n + 1)) = 0 := by
    rcases Nat.eq_zero_or_pos (limbs ((us.drop k).drop (n + 1))) with h0 | h0
    · exact h0
    · exfalso
      have h4 : V * 2 ^ (64 * (k + 1)) ≤ 2 ^ (64 * n) * 2 ^ (64 * (k + 1)) := Nat.mul_le_mul_right _ (Nat.le_of_lt hV)
      rw [← Nat.pow_add] at h4
      have h5 : 2 ^ (64 * k) * (2 ^ (64 * (n + 1)) * 1) ≤ 2 ^ (64 * k) * (2 ^ (64 * (n + 1)) * limbs ((us.drop k).drop (n + 1))) := Nat.mul_le_mul_left _ (Nat.mul_le_mul_left _ h0)
      rw [Nat.mul_one, ← Nat.pow_add, show 64 * k + 64 * (n + 1) = 64 * n + 64 * (k + 1) by omega] at h5
      have h6 : 2 ^ (64 * k) * limbs (us.drop k) = 2 ^ (64 * k) * limbs ((us.drop k).take (n + 1)) + 2 ^ (64 * k) * (2 ^ (64 * (n + 1)) * limbs ((us.drop k).drop (n + 1))) := by rw [h2, Nat.mul_add]
      omega
  rw [hz, Nat.mul_zero, Nat.add_zero] at h2
  rw [h2] at h1
  refine ⟨h1, ?_⟩
  have h7 : 2 ^ (64 * k) * limbs ((us.drop k).take (n + 1)) < 2 ^ (64 * k) * (V * 18446744073709551616) := by
    have e2 : V * 2 ^ (64 * (k + 1)) = 2 ^ (64 * k) * (V * 18446744073709551616) := by rw [e1]; ac_rfl
    omega
  exact Nat.lt_of_mul_lt_mul_left h7
theorem take_splice {us rs : List Int} {k : Nat} (hk : k ≤ us.length) : (Go.splice us k rs).take k = us.take k := by
  unfold Go.splice
  rw [List.take_append_of_le_length (by rw [List.length_take]; omega), List.take_take, Nat.min_self]
theorem limbs_splice {us rs : List Int} {k : Nat} (hk : k + rs.length ≤ us.length) (hz : limbs (us.drop (k + rs.length)) = 0) : limbs (Go.splice us k rs) = limbs (us.take k) + 2 ^ (64 * k) * limbs rs := by
  unfold Go.splice
  rw [limbs_append, limbs_append, hz, Nat.mul_zero, Nat.add_zero, List.length_take, Nat.min_eq_left (by omega)]
theorem nth_appD (xs ys : List Int) (i : Nat) : nth (xs ++ ys) i = if i < xs.length then nth xs i else nth ys (i - xs.length) := by
  unfold nth
  simp only [List.getD, List.getElem?_append]
  split <;> rfl
theorem ok_append {xs ys : List Int} (hx : IsLimbs xs) (hy : IsLimbs ys) : IsLimbs (xs ++ ys) := fun i => by
  rw [nth_appD]
  split
  · exact hx i
  · exact hy _
theorem ok_drop {xs : List Int} (hx : IsLimbs xs) (k : Nat) : IsLimbs (xs.drop k) := fun i => by
  have h := hx (k + i)
  have e : nth (xs.drop k) i = nth xs (k + i) := by unfold nth; simp [List.getD]
  rw [e]; exact h
theorem ok_splice {us rs : List Int} (hu : IsLimbs us) (hr : IsLimbs rs) (k : Nat) : IsLimbs (Go.splice us k rs) := ok_append (hu.take k) (ok_append hr (ok_drop hu _))
theorem DivAt.next {N V k n x : Nat} {us qs rs : List Int} (h : DivAt N V (k + 1) us qs) (hV : V < 2 ^ (64 * n)) (hk : k + n + 1 ≤ us.length) (hq : k < qs.length) (hx : x < 18446744073709551616)
    (h1 : x * V ≤ limbs ((us.drop k).take (n + 1))) (h2 : limbs ((us.drop k).take (n + 1)) < (x + 1) * V) (hrl : rs.length = n + 1) (hro : IsLimbs rs) (hr : limbs rs = limbs ((us.drop k).take (n + 1)) - x * V) :
    DivAt N V k (Go.splice us k rs) (qs.set k (x : Int)) := by
  obtain ⟨s1, s2⟩ := h.split hV hk
  have e1 : (2 : Nat) ^ (64 * (k + 1)) = 2 ^ (64 * k) * 18446744073709551616 := by rw [show 64 * (k + 1) = 64 * k + 64 by omega, Nat.pow_add]
  have hz : limbs (us.drop (k + (n + 1))) = 0 := by
    have h3 := limbs_cut us (k := k + (n + 1)) (by omega)
    rw [List.take_add, limbs_append, List.length_take, Nat.min_eq_left (by omega)] at h3
    have h4 : 0 < 2 ^ (64 * (k + (n + 1))) := Nat.two_pow_pos _
    rcases Nat.eq_zero_or_pos (limbs (us.drop (k + (n + 1)))) with h0 | h0
    · exact h0
    · have := Nat.mul_pos h4 h0
      omega
  have e2 := limbs_splice (us := us) (rs := rs) (k := k) (by omega) (by rw [hrl]; exact hz)
  have e3 : limbs ((qs.set k (x : Int)).drop k) = x + 18446744073709551616 * limbs (qs.drop (k + 1)) := by
    rw [limbs_drop (by rw [List.length_set]; exact hq), drop_set_eq, nth_set hq, if_pos rfl, Int.toNat_natCast]
  refine ⟨ok_splice h.uok hro k, h.qok.set k (by omega) (by omega), ?_, ?_⟩
  · rw [e3, e2, hr, h.eq, s1, e1]
    generalize limbs ((us.drop k).take (n + 1)) = P at *
    generalize limbs (qs.drop (k + 1)) = Q at *
    generalize (2 : Nat) ^ (64 * k) = E at *
    obtain ⟨r, rfl⟩ : ∃ r, P = x * V + r := ⟨P - x * V, by omega⟩
    rw [Nat.add_sub_cancel_left, Nat.mul_add, Nat.add_mul, Nat.add_mul]
    have a1 : Q * V * (E * 18446744073709551616) = 18446744073709551616 * Q * V * E := by ac_rfl
    have a2 : E * (x * V) = x * V * E := Nat.mul_comm _ _
    omega
  · rw [e2, hr]
    have h5 := limbs_lt (h.uok.take k)
    rw [List.length_take, Nat.min_eq_left (by omega)] at h5
    generalize limbs ((us.drop k).take (n + 1)) = P at *
    generalize (2 : Nat) ^ (64 * k) = E at *
    have h6 : P - x * V + 1 ≤ V := by rw [Nat.add_mul] at h2; omega
    have h7 : E * (P - x * V + 1) ≤ E * V := Nat.mul_le_mul_left _ h6
    rw [Nat.mul_add, Nat.mul_comm E V] at h7
    omega
/-- All digits are there. -/
theorem DivAt.done {X Y s : Nat} {us qs : List Int} (h : DivAt (X * 2 ^ s) (Y * 2 ^ s) 0 us qs) : limbs qs = X / Y ∧ limbs us / 2 ^ s = X % Y := by
  have h1 := h.eq
  have h2 := h.lt
  rw [Nat.mul_zero, Nat.pow_zero, Nat.mul_one, List.drop_zero] at h1
  rw [Nat.mul_zero, Nat.pow_zero, Nat.mul_one] at h2
  have hP : 0 < 2 ^ s := Nat.two_pow_pos s
  have h3 : limbs qs * (Y * 2 ^ s) ≤ X * 2 ^ s := by omega
  have h4 : X * 2 ^ s < (limbs qs + 1) * (Y * 2 ^ s) := by rw [Nat.add_mul]; omega
  obtain ⟨h5, h6⟩ := dig_done h3 h4
  obtain ⟨h7, h8⟩ := div_moved X Y hP
  rw [← h7, ← h8, h5]
  refine ⟨rfl, ?_⟩
  rw [← h6]
  congr 1
  omega
/-- At the start. -/
theorem DivAt.start {X Y s la n : Nat} {us qs : List Int} (uok : IsLimbs us) (qok : IsLimbs qs) (hu : limbs us = X * 2 ^ s) (hX : X < 2 ^ (64 * la)) (hY : 2 ^ (64 * (n - 1)) ≤ Y) (hn : 0 < n) (hla : n ≤ la + 1) (hq : qs.length = la + 1 - n) : DivAt (X * 2 ^ s) (Y * 2 ^ s) (la + 1 - n) us qs := by
  have hP : 0 < 2 ^ s := Nat.two_pow_pos s
  refine ⟨uok, qok, ?_, ?_⟩
  · rw [List.drop_eq_nil_of_le (by omega), hu]
    show _ = 0 * _ * _ + _
    omega
  · rw [hu]
    have h1 : 2 ^ (64 * (n - 1)) * 2 ^ (64 * (la + 1 - n)) ≤ Y * 2 ^ (64 * (la + 1 - n)) := Nat.mul_le_mul_right _ hY
    rw [← Nat.pow_add, show 64 * (n - 1) + 64 * (la + 1 - n) = 64 * la by omega] at h1
    rw [Nat.mul_right_comm]
    exact Nat.mul_lt_mul_of_pos_right (by omega) hP
end Cl

namespace Cl
open Go Go.RowKit
theorem own_form {w : World} {base : Nat} {e : TypeId} {A : Option Addr} {n c : Nat} {xs : List Value} (h : w.ownsRow base e 1 (.slice A n c) n xs) (hn : 0 < n) : ∃ g, A = some ⟨g, 0, none⟩ ∧ base ≤ g ∧ g < w.heap.size ∧ n ≤ c ∧ c ≤ maxLen ∧ ∃ ex, w.heap[g]? = some (.cells (xs ++ ex).toArray e (0, 0)) ∧ n + ex.length = c := by
  rcases h.2 with ⟨_, h0⟩ | ⟨g, cap, cur, hv, hb, hg, hnc, hcm, hcs, ht⟩
  · omega
  · injection hv with h1 h2 h3
    subst h1; subst h3
    refine ⟨g, rfl, hb, (Array.getElem?_eq_some_iff.1 hg).1, hnc, hcm, cur.toList.drop n, ?_, ?_⟩
    · rw [hg, ← ht, Nat.mul_one, List.take_append_drop]
    · rw [List.length_drop, Array.length_toList]; omega
/-- What an own row's block holds: copied out. -/
theorem own_cells {w : World} {base : Nat} {e : TypeId} {g n c : Nat} {xs : List Value} (h : w.ownsRow base e 1 (.slice (some ⟨g, 0, none⟩) n c) n xs) : ∀ j u, xs[j]? = some u → w.cell? ((⟨g, 0, none⟩ : Addr).add j) = some u := h.cells rfl
theorem step_append_run {P : Program} (w : World) {ops : Array Oper} {o : Oper} {a : Act} {K : Act → World → Prop} {Q : Exit → Act → World → Prop} {E : Prop} (hgd : o.guard = none) (s x : Operand) (t tn : TypeId)
    (ho : o.op = .call { callee := .builtin .append, args := #[s, x], argTypes := #[t, tn] }) (vs vx : Value) (hs : a.eval s = vs) (hx : a.eval x = vx)
    (v' : Value) (w' : World) (hr : (Builtin.append_ #[t, tn] o.type #[vs, vx]).run P w = .ok v' w') (h : K (a.put o.dst v') w') : if Region.wanted o (yielded ops a.tmps) = true then Oper.wp P o a w K Q else E := by
  have hw : Region.wanted o (yielded ops a.tmps) = true := by simp [Region.wanted, hgd]
  rw [if_pos hw]
  exact Lib.wp_append_run w s x t tn ho vs vx hs hx v' w' hr h
theorem step_copy_own {P : Program} {w : World} {ops : Array Oper} {o : Oper} {a : Act} {K : Act → World → Prop} {Q : Exit → Act → World → Prop} {E : Prop} (hgd : o.guard = none) (d s : Operand) (dT sT : TypeId)
    (ho : o.op = .call { callee := .builtin .copy, args := #[d, s], argTypes := #[dT, sT] }) (elem : TypeId) (hu : P.underlying dT = some (.slice elem)) (hsz : (P.info? elem).map (·.size) = some 1)
    (g off dLen dCap : Nat) (ad : Addr) (sLen sCap : Nat) (hd : a.eval d = .slice (some ⟨g, off, none⟩) dLen dCap) (hs : a.eval s = .slice (some ad) sLen sCap)
    (cur : List Value) (t : TypeId) (hg : w.heap[g]? = some (.cells cur.toArray t (0, 0))) (cs : List Value) (hn : cs.length = Nat.min sLen dLen)
    (hsrc : ∀ j v, cs[j]? = some v → w.cell? (ad.add j) = some v) (hfit : off + cs.length ≤ cur.length) (h1 : ∀ v ∈ cs, v.oneCell' = true)
    (h : K (a.put o.dst (goInt cs.length)) (w.setRow g (splice cur off cs).toArray)) : if Region.wanted o (yielded ops a.tmps) = true then Oper.wp P o a w K Q else E := by
  have hw : Region.wanted o (yielded ops a.tmps) = true := by simp [Region.wanted, hgd]
  rw [if_pos hw]
  have hrun := run_copy_row (P := P) w dT sT o.type elem g off dLen dCap ad sLen sCap cur.toArray t cs hu hsz hg hn hsrc (by simpa using hfit) h1
  have e : (cur.toArray.toList.take off ++ cs ++ cur.toArray.toList.drop (off + cs.length)) = splice cur off cs := by unfold splice; simp
  rw [e] at hrun
  unfold Oper.wp
  simp [execOp, ho, resolve, invoke, builtin, hd, hs, hrun, Result.andThen]
  exact h
/-- Digits padded with noughts. -/
def padL (ds : List Int) (m : Nat) : List Int := (ds ++ List.replicate m 0).take m
theorem padL_spec {ds : List Int} (ok : IsLimbs ds) {m : Nat} (h : ds.length ≤ m) : (padL ds m).length = m ∧ IsLimbs (padL ds m) ∧ limbs (padL ds m) = limbs ds := by
  have hz : IsLimbs (List.replicate m (0 : Int)) := fun i => by
    by_cases hi : i < (List.replicate m (0 : Int)).length
    · rw [nth_lt hi, List.getElem_replicate]; omega
    · rw [nth_ge (by omega)]; omega
  have ho := ok_append ok hz
  refine ⟨by unfold padL; rw [List.length_take, List.length_append, List.length_replicate]; omega, ho.take m, ?_⟩
  have h1 : padL ds m = ds ++ List.replicate (m - ds.length) 0 := by
    unfold padL
    rw [List.take_append, List.take_of_length_le h, List.take_replicate]
    congr 2
    omega
  rw [h1, limbs_append, limbs_replicate, Nat.mul_zero, Nat.add_zero]
end Cl
namespace Go.Proofs.Ytjmbejodcloapaa
open Go.RowKit Cl
/-- Limbs at the head of a block. -/
def RowX (w : World) (g : Nat) (xs : List Int) (ex : List Value) : Prop := w.heap[g]? = some (.cells (lmbs xs ++ ex).toArray 77 (0, 0))
section
variable {w w' : World} {g : Nat} {xs : List Int} {ex : List Value}
theorem RowX.lt (h : RowX w g xs ex) : g < w.heap.size := (Array.getElem?_eq_some_iff.1 h).1
theorem RowX.cell (h : RowX w g xs ex) {i : Nat} (hi : i < xs.length) : w.cell? ⟨g, i, none⟩ = some (.int .u64 (nth xs i)) := by
  rw [cell_of_row w g i _ _ (0, 0) h]
  simp only [List.getElem?_toArray]
  rw [List.getElem?_append_left (by rw [lmbs_length]; exact hi)]
  exact lmbs_get hi
theorem RowX.drewN (h : RowX w g xs ex) (n : Nat) : RowX (w.drewN n) g xs ex := h
theorem RowX.bel (h : RowX w g xs ex) (hb : Below w.heap.size w w') : RowX w' g xs ex := (hb.block g h.lt).trans h
theorem RowX.far (h : RowX w g xs ex) {p : Addr} (hp : g ≠ p.block) (u : Value) : RowX (w.setCell p u) g xs ex := (Below.heap_setCell w p u g hp).trans h
theorem RowX.only {S : Nat → Prop} (h : RowX w g xs ex) (ho : Only S w w') (hs : ¬ S g) : RowX w' g xs ex := (ho.block g h.lt hs).trans h
theorem RowX.limbs (h : RowX w g xs ex) (ok : IsLimbs xs) {k m : Nat} (hk : k + m ≤ xs.length) : Limbs w (some ⟨g, k, none⟩) m ((xs.drop k).take m) :=
  ⟨by rw [List.length_take, List.length_drop]; omega, fun _ => ⟨g, k, rfl, h.lt, fun i hi => by
    rw [h.cell (i := k + i) (by omega), nth_take hi]
    congr 2
    unfold nth
    simp [List.getD]⟩, (ok_drop ok k).take m⟩
theorem RowX.splice (h : RowX w g xs ex) {k : Nat} {rs : List Int} (hk : k + rs.length ≤ xs.length) : RowX (w.setRow g (Go.splice (lmbs xs ++ ex) k (lmbs rs)).toArray) g (Go.splice xs k rs) ex := by
  unfold RowX
  have e : Go.splice (lmbs xs ++ ex) k (lmbs rs) = lmbs (Go.splice xs k rs) ++ ex := by
    unfold Go.splice
    rw [List.take_append_of_le_length (by rw [lmbs_length]; omega), List.drop_append_of_le_length (by rw [lmbs_length, lmbs_length]; omega), lmbs_append, lmbs_append, lmbs_length]
    simp [lmbs, List.map_take, List.map_drop]
  rw [e]
  exact setRow_heap w g _ _ _ _ h
theorem only_setRow {S : Nat → Prop} (h : Only S w w') (hg : S g) (cs : Array Value) : Only S w (w'.setRow g cs) :=
  ⟨h.os, h.tape, h.output, by simp [World.setRow]; exact h.size, fun j hj hs => (setRow_other w' g j cs (fun e => hs (e ▸ hg))).trans (h.block j hj hs)⟩
theorem RowL.setRow_far {t : TypeId} {g' : Nat} (h : RowL w g t xs) (hg : g ≠ g') (cs : Array Value) : RowL (w.setRow g' cs) g t xs := (setRow_other w g' g cs hg).trans h
end
end Go.Proofs.Ytjmbejodcloapaa

namespace Go.Proofs.Ytjmbejodcloapaa
open Go.RowKit Cl
attribute [local go_sem ↓] Go.wp_at_zero Go.wp_at_succ
set_option maxRecDepth 100000 in
set_option maxHeartbeats 1000000 in
theorem nat_rowO (A : Option Addr) (n c : Nat) (xs : List Int) (x : Nat) (w : World) (hx : Limbs w A n xs) (hn : n ≤ 100000000) (hxl : x < 18446744073709551616) :
    Calls Try.prog 65 #[.slice A n c, .int .u64 (x : Int)] w fun e w' => ∃ g cap, e = .returned (.slice (some ⟨g, 0, none⟩) (n + 1) cap) ∧ w.heap.size ≤ g ∧ n + 1 ≤ cap ∧ cap ≤ 9223372036854775807 ∧ Limbs w' (some ⟨g, 0, none⟩) (n + 1) (rowL xs x) ∧ Below w.heap.size w w' := by
  obtain ⟨i0, hi, hz0, hz1, hz2⟩ := info_parts uint_info
  obtain rfl := hx.len
  have hrl := Lib.hid (rowL_spec hx.ok hxl)
  have hval := Lib.hid (rowF_val hx.ok hxl xs.length)
  have hok := Lib.hid (carL_ok (rowF_lt xs x) xs.length)
  have hlen := Lib.hid (carL_length (rowF xs x) xs.length)
  have hres : Hid (rowL xs x = (carL (rowF xs x) xs.length).1 ++ [((carL (rowF xs x) xs.length).2 : Int)]) := rfl
  have hal0 : Below w.heap.size w ((w.alloc (.cells #[.slice A xs.length c] 32)).alloc (.cells #[.int .u64 (x : Int)] 77)) := ((Below.refl _ _).alloc (Nat.le_refl _) _).alloc (by simp) _
  have Hca : Hid (((w.alloc (.cells #[.slice A xs.length c] 32)).alloc (.cells #[.int .u64 (x : Int)] 77)).cell? ⟨w.heap.size, 0, none⟩ = some (.slice A xs.length c)) := cell_old0 _ _ _ _
  have Hcb : Hid (((w.alloc (.cells #[.slice A xs.length c] 32)).alloc (.cells #[.int .u64 (x : Int)] 77)).cell? ⟨w.heap.size + 1, 0, none⟩ = some (.int .u64 (x : Int))) := cell_new1 _ _ _ _
  have Hx := Lib.hid (hx.bel hal0)
  obtain ⟨k, hk⟩ : ∃ k, xs.length = k := ⟨_, rfl⟩
  have C : Hid (Calls Try.prog 68 #[.int .i64 (xs.length : Int), .func (.func 80) #[] #[.pointer (some ⟨w.heap.size, 0, none⟩), .pointer (some ⟨w.heap.size + 1, 0, none⟩)]] ((w.alloc (.cells #[.slice A xs.length c] 32)).alloc (.cells #[.int .u64 (x : Int)] 77)) fun e w' => e = .returned (.tuple #[.slice (some ⟨w.heap.size + 1 + 1, 0, none⟩) xs.length xs.length, .int .u64 ((carL (rowF xs x) xs.length).2 : Int)]) ∧ RowL w' (w.heap.size + 1 + 1) 77 (carL (rowF xs x) xs.length).1 ∧ Below (w.heap.size + 1 + 1) ((w.alloc (.cells #[.slice A xs.length c] 32)).alloc (.cells #[.int .u64 (x : Int)] 77)) w') := by
    have h := nat_carriedR (some ⟨w.heap.size, 0, none⟩) (some ⟨w.heap.size + 1, 0, none⟩) (rowF xs x) xs.length 18446744073709551616 ((w.alloc (.cells #[.slice A xs.length c] 32)).alloc (.cells #[.int .u64 (x : Int)] 77)) (by omega) (fun j hj => (rowF_val hx.ok hxl j).1) (fun j q W hj hq hW => ?_)
    · simp only [World.size_alloc] at h
      exact h
    · have hs := hW.size
      simp only [World.size_alloc] at hs hW
      exact nat_row1 A xs.length c w.heap.size (w.heap.size + 1) xs x j q W ((hW.cell (p := ⟨w.heap.size, 0, none⟩) (by show w.heap.size < _; omega)).trans Hca.out) ((hW.cell (p := ⟨w.heap.size + 1, 0, none⟩) (by show w.heap.size + 1 < _; omega)).trans Hcb.out) (Hx.out.below hW (by simp)) hj hn hxl hq
  have hq : (carL (rowF xs x) xs.length).2 < 18446744073709551616 := hval.out.1
  clear hx hval Hca Hcb Hx hxl
  rw [hk] at C hok hlen hres hal0 hrl hn hq ⊢
  clear hk
  go_enter Try.func65, Try.ntmps65
  go_wp2_with fail
  refine C.out.mono ?_
  rintro e w1 ⟨rfl, hrow, hb1⟩
  have hb01 : Below w.heap.size w w1 := hal0.trans (hb1.mono (by omega))
  have hs1 : w.heap.size + 1 + 1 < w1.heap.size := hrow.lt
  have hown0 : Hid (w1.ownsRow (w.heap.size + 1 + 1) 77 1 (.slice (some ⟨w.heap.size + 1 + 1, 0, none⟩) k k) k (lmbs (carL (rowF xs x) k).1)) := by
    have h := hrow.own (Nat.le_refl _) (n := k) (by rw [hlen.out]; exact Nat.le_refl _) (by rw [hlen.out]; unfold maxLen; omega)
    rw [hlen.out, List.take_of_length_le (by rw [hlen.out]; exact Nat.le_refl _)] at h
    exact h
  clear C hrow
  generalize (carL (rowF xs x) k).2 = q at *
  generalize (carL (rowF xs x) k).1 = us at *
  go_wp2_with (at_builtin; refine wpList_append_lies _ (by rfl) _ _ _ (by rfl) (w.heap.size + 1 + 1) 77 i0 _ 1 8 Try.underlying32 hi hz0 hz1 hz2 rfl (by omega) (.slice (some ⟨w.heap.size + 1 + 1, 0, none⟩) k k) k (lmbs us) (by rfl) (hown0.out.alloc _) ⟨w1.heap.size, 0, none⟩ 1 1 [.int .u64 (q : Int)] (by rfl) (by rfl) (World.news_of_block (cs := #[.int .u64 (q : Int)]) (t := 77) (fr := (0, 0)) (heap_alloc_new w1 _)) (by simp [Value.oneCell']) (by omega) (by unfold maxLen; omega) (by omega) (by simp; omega) (w1.heap.size + 1) (by simp) ?_; intro gg cap w2 hown2 hgrow hat hlt2)
  have hb02 : Below w.heap.size w w2 := ((hb01.alloc hb01.size _)).grown hgrow (by simp; omega) (fun j hj => by have := (hown0.out.lt j hj).1; omega)
  have hzz : lmbs us ++ [.int .u64 (q : Int)] = lmbs (us ++ [(q : Int)]) := by rw [lmbs_append]; rfl
  rw [hzz] at hown2
  have hL2 : Limbs w2 (some ⟨gg, 0, none⟩) (k + 1) (us ++ [(q : Int)]) := Limbs.of_own hown2 (hok.out.snoc (by omega) (by omega))
  have hgge := (hown2.lt gg rfl).1
  obtain ⟨_, _, _, _, hcap1, hcap2, _⟩ := own_form hown2 (by omega)
  unfold maxLen at hcap2
  rw [← hres.out] at hL2
  have HL2 := Lib.hid hL2
  clear hown2 hgrow hat hlt2 hzz hL2
  go_wp2_with fail
  go_ret
  exact ⟨gg, cap, rfl, by omega, hcap1, by omega, HL2.out, hb02⟩
end Go.Proofs.Ytjmbejodcloapaa

namespace Go.Proofs.Ytjmbejodcloapaa
open Go.RowKit Cl
theorem lmbs_pad (ds : List Int) (m : Nat) : lmbs (padL ds m) = (lmbs ds ++ List.replicate m (Value.int .u64 0)).take m := by
  unfold padL
  rw [lmbs_take, lmbs_append]
  congr 2
  simp [lmbs]
theorem pad_append (wl : World) (base : Nat) (Ad : Option Addr) (kd cd : Nat) (ds : List Int) (m : Nat) (hm : 0 < m) (hb : kd + m ≤ 17592186044416) (own : wl.ownsRow base 77 1 (.slice Ad kd cd) kd (lmbs ds)) (hbase : base ≤ wl.heap.size) :
    ∃ gz cz wz, (Builtin.append_ #[32, 3] 32 #[.slice Ad kd cd, .int .i64 (m : Int)]).run Try.prog wl = .ok (.slice (some ⟨gz, 0, none⟩) (kd + m) cz) wz ∧ (∀ j v, (lmbs (padL ds m))[j]? = some v → wz.cell? ((⟨gz, 0, none⟩ : Addr).add j) = some v) ∧ m ≤ cz ∧ cz ≤ maxLen ∧ Below base wl wz := by
  obtain ⟨i0, hi, hz0, hz1, hz2⟩ := info_parts uint_info
  have hzv : (Value.int .u64 0).cells = #[Value.int .u64 0] := rfl
  obtain ⟨va, wz, z1, z2, z3, z4⟩ := run_append_zeros_own (P := Try.prog) wl base 32 3 32 77 i0 (.int .u64 0) .i64 .i64 Try.underlying32 Try.underlying3 hi hz0 hz1 hz2 hzv rfl (.slice Ad kd cd) kd (lmbs ds) own m hb hbase
  obtain ⟨Az, cz, rfl⟩ := own_slice z2
  obtain ⟨gz, rfl, _, _, hc1, hc2, _⟩ := own_form z2 (by omega)
  refine ⟨gz, cz, wz, z1, fun j v hj => ?_, by omega, hc2, ?_⟩
  · rw [lmbs_pad, List.getElem?_take] at hj
    split at hj
    · exact own_cells z2 j v hj
    · cases hj
  · exact (Below.refl base wl).grown z3 hbase (fun j hj => (own.lt j hj).1)
end Go.Proofs.Ytjmbejodcloapaa
