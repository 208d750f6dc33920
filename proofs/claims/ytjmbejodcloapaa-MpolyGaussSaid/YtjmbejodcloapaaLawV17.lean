/- Polynomials with bounds told in bits, and the calls of the laws of layer 17 on them: sums, products, values, derivatives, degrees. -/
import Derived.Test.YtjmbejodcloapaaLawK17
import Derived.Test.YtjmbejodcloapaaMevl
import Derived.Test.YtjmbejodcloapaaValQ
namespace Cl
/-- A polynomial with a number in the place of a variable. -/
def evM (i : Nat) (x : Int) (L : Mv) : Mv := mapM (fun p => p.set i (0 : Int)) (fun p => x ^ (nth p i).toNat) L
theorem ev_len {n i : Nat} {x : Int} {L : Mv} (h : LenM n L) : LenM n (evM i x L) := mapM_len h fun p hp => by rw [List.length_set]; exact hp
theorem mapM_length (f : Plc → Plc) (g : Plc → Int) (L : Mv) : (mapM f g L).length = L.length := List.length_map ..
theorem absM_map {f : Plc → Plc} {g : Plc → Int} {B : Nat} : ∀ {L : Mv}, (∀ t ∈ L, (g t.1).natAbs ≤ B) → absM (mapM f g L) ≤ absM L * B
  | [], _ => by show 0 ≤ _; omega
  | t :: L, h => by
    have ih := absM_map (f := f) (L := L) fun s hs => h s (List.mem_cons_of_mem _ hs)
    show (t.2 * g t.1).natAbs + absM (mapM f g L) ≤ (t.2.natAbs + absM L) * B
    rw [Int.natAbs_mul, Nat.add_mul]
    have := Nat.mul_le_mul_left t.2.natAbs (h t List.mem_cons_self)
    omega
theorem set_bd {d : Int} {p : Plc} {i : Nat} {u : Int} (h : ∀ x ∈ p, 0 ≤ x ∧ x ≤ d) (h0 : 0 ≤ u) (h1 : u ≤ d) : ∀ x ∈ p.set i u, 0 ≤ x ∧ x ≤ d := fun x hx => by
  rcases List.mem_or_eq_of_mem_set hx with h2 | h2
  · exact h x h2
  · omega
theorem nth_bd {d : Int} {p : Plc} (h : ∀ x ∈ p, 0 ≤ x ∧ x ≤ d) (hd : 0 ≤ d) (i : Nat) : 0 ≤ nth p i ∧ nth p i ≤ d := by
  by_cases hi : i < p.length
  · exact h _ (nth_mem hi)
  · rw [nth_ge (by omega)]; omega
theorem ev_bd {d : Int} {i : Nat} {x : Int} {L : Mv} (h : BdM d L) (hd : 0 ≤ d) : BdM d (evM i x L) := fun t ht => by
  obtain ⟨s, hs, rfl⟩ := List.mem_map.1 ht
  exact set_bd (h s hs) (by omega) hd
theorem der_bd {d : Int} {i : Nat} {L : Mv} (h : BdM d L) (hd : 0 ≤ d) : BdM d (derM i L) := fun t ht => by
  obtain ⟨s, hs, rfl⟩ := List.mem_map.1 ht
  have := nth_bd (h s hs) hd i
  exact set_bd (h s hs) (by omega) (by omega)
theorem ev_abs {d i : Nat} {x : Int} {L : Mv} {b : Nat} (h : BdM d L) (hx : x.natAbs ≤ 2 ^ 64) (hb : absM L ≤ 2 ^ b) : absM (evM i x L) ≤ 2 ^ (b + 64 * d) := by
  have h1 : absM (evM i x L) ≤ absM L * 2 ^ (64 * d) := absM_map fun t ht => by
    have := nth_bd (h t ht) (by omega) i
    rw [Int.natAbs_pow, Nat.pow_mul]
    refine Nat.le_trans (Nat.pow_le_pow_left hx _) (Nat.pow_le_pow_right (by decide) (by omega))
  rw [Nat.pow_add]
  exact Nat.le_trans h1 (Nat.mul_le_mul_right _ hb)
theorem der_abs {i : Nat} {L : Mv} {b : Nat} (h : BdM 1000 L) (hb : absM L ≤ 2 ^ b) : absM (derM i L) ≤ 2 ^ (b + 10) := by
  have h1 : absM (derM i L) ≤ absM L * 2 ^ 10 := absM_map fun t ht => by
    have := nth_bd (h t ht) (by omega) i
    omega
  rw [Nat.pow_add]
  exact Nat.le_trans h1 (Nat.mul_le_mul_right _ hb)
end Cl
namespace Go.Proofs.Ytjmbejodcloapaa
open Go.RowKit Cl
attribute [local go_sem ↓] Go.wp_at_zero Go.wp_at_succ
/-- A polynomial's bounds: bits of its numbers, exponents, terms. -/
structure Has (n b : Nat) (d : Nat) (k : Nat) (L : List TV) : Prop where
  arg : Arg n (b / 64 + 1) L
  bd : BdM d (mvT L)
  cnt : L.length ≤ k
  ab : absM (mvT L) ≤ 2 ^ b
theorem Has.bd1 {n b d k : Nat} {L : List TV} (h : Has n b d k L) (hd : d ≤ 1000) : BdM 1000 (mvT L) := h.bd.mono (by omega)
theorem has_in {n : Nat} {d : Nat} {L : List TV} (h : In n d L) : Has n 144 d 8 L := by
  refine ⟨⟨h.arg.len, h.arg.bd, fun t ht => Nat.le_trans (h.arg.co t ht) (by decide), h.arg.cnt⟩, h.bd, h.cnt, Nat.le_trans h.ab (by decide)⟩
theorem has_plain {n b b' d k : Nat} {Z : List TV} {M : Mv} (hp : PlainT n Z) (e : EqM n (mvT Z) M) (hb : BdM d M) (hab : absM M ≤ 2 ^ b') (hl : M.length ≤ k) (hd : d ≤ 1000) (hk : k ≤ 4096) (hbb : b' + 12 ≤ b) : Has n b d k Z := by
  have hc := hp.mv.count e
  rw [mvT_length] at hc
  have h1 : 2 ^ b' < 2 ^ (64 * (b / 64 + 1)) := Nat.pow_lt_pow_right (by decide) (by omega)
  have h2 : absM (mvT Z) ≤ (mvT Z).length * 2 ^ b' := absM_le fun t ht => Nat.le_trans (hp.mv.small e ht) hab
  rw [mvT_length] at h2
  have h3 : Z.length * 2 ^ b' ≤ 2 ^ 12 * 2 ^ b' := Nat.mul_le_mul_right _ (by omega)
  rw [← Nat.pow_add] at h3
  have h4 : 2 ^ (12 + b') ≤ 2 ^ b := Nat.pow_le_pow_right (by decide) (by omega)
  exact ⟨arg_plain hp e (hb.mono (by omega)) (Nat.lt_of_le_of_lt hab h1) (by omega), hp.mv.bd e hb, by omega, by omega⟩
section
variable {n b1 d1 k1 b2 d2 k2 : Nat} {L T Z : List TV}
theorem has_sum (ha : Has n b1 d1 k1 L) (hb : Has n b2 d2 k2 T) (hp : PlainT n Z) (e : EqM n (mvT Z) (mvT L ++ mvT T)) {b d k : Nat} (h1 : d1 ≤ d) (h2 : d2 ≤ d) (hd : d ≤ 1000) (h3 : k1 + k2 ≤ k) (hk : k ≤ 4096) (h4 : b1 + 13 ≤ b) (h5 : b2 + 13 ≤ b) : Has n b d k Z := by
  refine has_plain (b' := b - 12) hp e ((ha.bd.mono (by omega)).append (hb.bd.mono (by omega))) ?_ ?_ hd hk (by omega)
  · rw [absM_append]
    have k1 := Nat.le_trans ha.ab (Nat.pow_le_pow_right (show 0 < 2 by decide) (show b1 ≤ b - 13 by omega))
    have k2 := Nat.le_trans hb.ab (Nat.pow_le_pow_right (show 0 < 2 by decide) (show b2 ≤ b - 13 by omega))
    have k3 : 2 ^ (b - 12) = 2 ^ (b - 13) + 2 ^ (b - 13) := by rw [show b - 12 = (b - 13) + 1 by omega, Nat.pow_succ]; omega
    omega
  · rw [List.length_append, mvT_length, mvT_length]
    have := ha.cnt
    have := hb.cnt
    omega
theorem has_mul (ha : Has n b1 d1 k1 L) (hb : Has n b2 d2 k2 T) (hp : PlainT n Z) (e : EqM n (mvT Z) (mulM (mvT L) (mvT T))) {b d k : Nat} (hd1 : d1 + d2 ≤ d) (hd : d ≤ 1000) (h3 : k1 * k2 ≤ k) (hk : k ≤ 4096) (h4 : b1 + b2 + 12 ≤ b) : Has n b d k Z := by
  refine has_plain (b' := b1 + b2) hp e ((ha.bd.mul hb.bd).mono (by omega)) ?_ ?_ hd hk h4
  · rw [absM_mul, Nat.pow_add]
    exact Nat.mul_le_mul ha.ab hb.ab
  · rw [mulM_length, mvT_length, mvT_length]
    exact Nat.le_trans (Nat.mul_le_mul ha.cnt hb.cnt) h3
theorem has_ev (ha : Has n b1 d1 k1 L) {i : Nat} {x : Int} (hx : x.natAbs ≤ 2 ^ 64) (hp : PlainT n Z) (e : EqM n (mvT Z) (evM i x (mvT L))) {b : Nat} (hd : d1 ≤ 1000) (hk : k1 ≤ 4096) (h4 : b1 + 64 * d1 + 12 ≤ b) : Has n b d1 k1 Z :=
  has_plain (b' := b1 + 64 * d1) hp e (ev_bd ha.bd (by omega)) (ev_abs ha.bd hx ha.ab) (by unfold evM; rw [mapM_length, mvT_length]; exact ha.cnt) hd hk h4
theorem has_der (ha : Has n b1 d1 k1 L) {i : Nat} (hp : PlainT n Z) (e : EqM n (mvT Z) (derM i (mvT L))) {b : Nat} (hd : d1 ≤ 1000) (hk : k1 ≤ 4096) (h4 : b1 + 22 ≤ b) : Has n b d1 k1 Z :=
  has_plain (b' := b1 + 10) hp e (der_bd ha.bd (by omega)) (der_abs (ha.bd1 hd) ha.ab) (by unfold derM; rw [mapM_length, mvT_length]; exact ha.cnt) hd hk (by omega)
end
section
variable {n b1 d1 k1 b2 d2 k2 : Nat} {A B : Option Addr} {ma ca mb cb : Nat} {L T : List TV} {w : World} (hx : Trs w A ma L) (ha : Has n b1 d1 k1 L) (hn : n ≤ 6)
include hx ha hn
theorem hsum (hy : Trs w B mb T) (hb : Has n b2 d2 k2 T) (h1 : b1 ≤ 600000) (h2 : b2 ≤ 600000) (hk : k1 + k2 ≤ 4096) : Calls Try.prog 13 #[.int .i64 (n : Int), .slice A ma ca, .slice B mb cb] w (Gives4 w n (mvT L ++ mvT T) (fun A k c => .slice A k c)) :=
  lsum4 n _ _ A B ma ca mb cb L T w hx hy ha.arg hb.arg hn (by omega) (by omega) (by rw [← hx.len, ← hy.len]; have := ha.cnt; have := hb.cnt; omega)
theorem htimes (hy : Trs w B mb T) (hb : Has n b2 d2 k2 T) (h1 : b1 ≤ 600000) (h2 : b2 ≤ 600000) (hk : k1 * k2 ≤ 4096) (hd : d1 + d2 ≤ 1000) : Calls Try.prog 11 #[.int .i64 (n : Int), .slice A ma ca, .slice B mb cb] w (Gives4 w n (mulM (mvT L) (mvT T)) (fun A k c => .slice A k c)) :=
  ltimes4 n _ _ A B ma ca mb cb L T w hx hy ha.arg hb.arg hn d1 d2 (by omega) (by omega) (by rw [← hx.len, ← hy.len]; exact Nat.le_trans (Nat.mul_le_mul ha.cnt hb.cnt) hk) ha.bd hb.bd (by omega)
theorem heval {i : Nat} {sx : Bool} {Ax : Option Addr} {kx cx : Nat} {xs : List Int} (hi : i < n) (hX : Limbs w Ax kx xs) (hxc : kx ≤ cx) (hcx : cx ≤ 9223372036854775807) (hkx : kx ≤ 1) (h1 : b1 ≤ 600000) (hk : k1 ≤ 4096) (hd : d1 ≤ 1000) :
    Calls Try.prog 18 #[.int .i64 (n : Int), .slice A ma ca, .int .i64 (i : Int), .agg #[.bool sx, .slice Ax kx cx]] w (Gives4 w n (evM i (intZ sx xs) (mvT L)) (fun A k c => .tuple #[.slice A k c, .int .i64 0])) :=
  (pEval n _ A ma ca L i sx Ax kx cx xs w hx ha.arg hn hi (by omega) (ev_bd (ha.bd1 hd) (by omega)) hX hxc hcx hkx).mono fun _ _ h => gives4_P h (by unfold evM; rw [mapM_length, mvT_length]; have := ha.cnt; omega)
theorem hderiv {i : Nat} (hi : i < n) (h1 : b1 ≤ 600000) (hk : k1 ≤ 4096) (hd : d1 ≤ 1000) :
    Calls Try.prog 19 #[.int .i64 (n : Int), .slice A ma ca, .int .i64 (i : Int)] w (Gives4 w n (derM i (mvT L)) (fun A k c => .tuple #[.slice A k c, .int .i64 0])) :=
  (pDeriv n _ A ma ca L i w hx ha.arg hn hi (by omega) (der_bd (ha.bd1 hd) (by omega))).mono fun _ _ h => gives4_P h (by unfold derM; rw [mapM_length, mvT_length]; have := ha.cnt; omega)
theorem hdegree {i : Nat} (hi : i < n) (h1 : b1 ≤ 600000) : Calls Try.prog 20 #[.int .i64 (n : Int), .slice A ma ca, .int .i64 (i : Int)] w (GivesD w n i (mvT L)) :=
  mdegree n _ A ma ca L i w hx ha.arg hn hi (by omega)
end
end Go.Proofs.Ytjmbejodcloapaa
namespace Cl
theorem len_append {n : Nat} {L M : Mv} (h : LenM n L) (k : LenM n M) : LenM n (L ++ M) := fun t ht => (List.mem_append.1 ht).elim (h t) (k t)
end Cl
namespace Go.Proofs.Ytjmbejodcloapaa
open Cl
section
variable {n b1 d1 k1 b2 d2 k2 b3 d3 k3 i : Nat} {x : Int} {L1 L2 Ls Lva Lvb Lvs Lf Lda Ldb Ldp F3 F4 : List TV}
theorem val_sum_eq (ha : Has n b1 d1 k1 L1) (hb : Has n b2 d2 k2 L2) (hs : Has n b3 d3 k3 Ls) (es : EqM n (mvT Ls) (mvT L1 ++ mvT L2)) (evs : EqM n (mvT Lvs) (evM i x (mvT Ls))) (eva : EqM n (mvT Lva) (evM i x (mvT L1))) (evb : EqM n (mvT Lvb) (evM i x (mvT L2))) (ef : EqM n (mvT Lf) (mvT Lva ++ mvT Lvb)) : EqM n (mvT Lvs) (mvT Lf) := by
  refine evs.trans ((mapM_eq _ _ hs.arg.lenM (len_append ha.arg.lenM hb.arg.lenM) es).trans ?_)
  rw [mapM_append]
  exact (eva.symm.add evb.symm).trans ef.symm
theorem val_mul_eq (hin : i < n) (hd1 : d1 ≤ 1000) (hd2 : d2 ≤ 1000) (ha : Has n b1 d1 k1 L1) (hb : Has n b2 d2 k2 L2) (hs : Has n b3 d3 k3 Ls) (pa : PlainT n Lva) (pb : PlainT n Lvb) (es : EqM n (mvT Ls) (mulM (mvT L1) (mvT L2))) (evs : EqM n (mvT Lvs) (evM i x (mvT Ls))) (eva : EqM n (mvT Lva) (evM i x (mvT L1))) (evb : EqM n (mvT Lvb) (evM i x (mvT L2))) (ef : EqM n (mvT Lf) (mulM (mvT Lva) (mvT Lvb))) : EqM n (mvT Lvs) (mvT Lf) := by
  refine evs.trans ((mapM_eq _ _ hs.arg.lenM (ha.arg.lenM.mul hb.arg.lenM) es).trans ?_)
  rw [val_mul hin ha.arg.lenM hb.arg.lenM (ha.bd1 hd1) (hb.bd1 hd2)]
  exact (eva.symm.mul evb.symm (ev_len ha.arg.lenM) pa.mv.len (ev_len hb.arg.lenM) pb.mv.len).trans ef.symm
theorem der_mul_eq (hin : i < n) (hd1 : d1 ≤ 1000) (hd2 : d2 ≤ 1000) (ha : Has n b1 d1 k1 L1) (hb : Has n b2 d2 k2 L2) (hs : Has n b3 d3 k3 Ls) (pa : PlainT n Lda) (pb : PlainT n Ldb) (es : EqM n (mvT Ls) (mulM (mvT L1) (mvT L2))) (evs : EqM n (mvT Ldp) (derM i (mvT Ls))) (eva : EqM n (mvT Lda) (derM i (mvT L1))) (evb : EqM n (mvT Ldb) (derM i (mvT L2)))
    (e3 : EqM n (mvT F3) (mulM (mvT Lda) (mvT L2))) (e4 : EqM n (mvT F4) (mulM (mvT L1) (mvT Ldb))) (ef : EqM n (mvT Lf) (mvT F3 ++ mvT F4)) : EqM n (mvT Ldp) (mvT Lf) := by
  refine evs.trans ((mapM_eq _ _ hs.arg.lenM (ha.arg.lenM.mul hb.arg.lenM) es).trans ?_)
  refine (der_mul hin ha.arg.lenM hb.arg.lenM (ha.bd1 hd1) (hb.bd1 hd2)).trans (EqM.trans ?_ ef.symm)
  refine EqM.add ?_ ?_
  · exact (eva.symm.mul (EqM.refl n _) (der_len ha.arg.lenM) pa.mv.len hb.arg.lenM hb.arg.lenM).trans e3.symm
  · exact ((EqM.refl n _).mul evb.symm ha.arg.lenM ha.arg.lenM (der_len hb.arg.lenM) pb.mv.len).trans e4.symm
/-- The degrees of two polynomials and of their product, case by case. -/
def DegCases (ka kb kp : Int) : Prop :=
  (-1 ≤ ka ∧ ka ≤ 1000 ∧ -1 ≤ kb ∧ kb ≤ 1000) ∧ ((kp = ka + kb ∧ 0 ≤ ka ∧ 0 ≤ kb) ∨ (kp = -1 ∧ ka = -1 ∧ kb = 0) ∨ (kp = -1 ∧ ka = -1 ∧ kb ≠ 0) ∨ (kp = -1 ∧ ka = 0 ∧ kb = -1) ∨ (kp = -1 ∧ 0 < ka ∧ kb = -1))
theorem deg_cases {G1 G2 G3 Lr : List TV} (hin : i < n) (hd1 : d1 ≤ 1000) (hd2 : d2 ≤ 1000) (ha : Has n b1 d1 k1 L1) (hb : Has n b2 d2 k2 L2) (p1 : PlainT n G1) (e1 : EqM n (mvT G1) (mvT L1)) (p2 : PlainT n G2) (e2 : EqM n (mvT G2) (mvT L2)) (p3 : PlainT n G3) (e3 : EqM n (mvT G3) (mvT Lr)) (er : EqM n (mvT Lr) (mulM (mvT L1) (mvT L2))) : DegCases (degL i (mvT G1)) (degL i (mvT G2)) (degL i (mvT G3)) := by
  have bA : BdM 1000 (mvT G1) := p1.mv.bd e1 (ha.bd1 hd1)
  have bB : BdM 1000 (mvT G2) := p2.mv.bd e2 (hb.bd1 hd2)
  have dA := degL_bd (i := i) (L := mvT G1) fun t ht => bA t ht _ (nth_mem (by rw [p1.mv.len t ht]; exact hin))
  have dB := degL_bd (i := i) (L := mvT G2) fun t ht => bB t ht _ (nth_mem (by rw [p2.mv.len t ht]; exact hin))
  have e : EqM n (mvT G3) (mulM (mvT G1) (mvT G2)) := (e3.trans er).trans (e1.symm.mul e2.symm ha.arg.lenM p1.mv.len hb.arg.lenM p2.mv.len)
  refine ⟨⟨dA.1, dA.2, dB.1, dB.2⟩, ?_⟩
  by_cases hA : mvT G1 = []
  · have h3 : mvT G3 = [] := p3.mv.mul_nil (by rw [hA] at e; exact e)
    have k3 : degL i (mvT G3) = -1 := by rw [h3]; rfl
    have k1 : degL i (mvT G1) = -1 := by rw [hA]; rfl
    by_cases h0 : degL i (mvT G2) = 0
    · exact .inr (.inl ⟨k3, k1, h0⟩)
    · exact .inr (.inr (.inl ⟨k3, k1, h0⟩))
  · by_cases hB : mvT G2 = []
    · have h3 : mvT G3 = [] := p3.mv.mul_nil (by rw [hB] at e; exact e.trans (fun p hp => by rw [mulM_comm]; rfl))
      have k3 : degL i (mvT G3) = -1 := by rw [h3]; rfl
      have k1 : degL i (mvT G2) = -1 := by rw [hB]; rfl
      have hz : 0 ≤ degL i (mvT G1) := by
        rcases degL_spec i (mvT G1) (fun t ht => (bA t ht _ (nth_mem (by rw [p1.mv.len t ht]; exact hin))).1) with ⟨h, _⟩ | ⟨h, _⟩
        · exact absurd h hA
        · exact h
      by_cases h0 : degL i (mvT G1) = 0
      · exact .inr (.inr (.inr (.inl ⟨k3, h0, k1⟩)))
      · exact .inr (.inr (.inr (.inr ⟨k3, by omega, k1⟩)))
    · exact .inl (deg_mul hin p1.mv p2.mv p3.mv bA bB e hA hB)
end
end Go.Proofs.Ytjmbejodcloapaa
