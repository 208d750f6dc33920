/- Terms in memory: a slice of coefficients beside exponents; what they tell.
   What a map by places holds: the sum of a list of terms.
   Places of n exponents and of six; what is collected out of a map, place by place. No program in sight but what a map reads as.
   What is gone through of a map by places, each place once. No program in sight but what a map reads as.
   The laws of a ring, of lists of terms, as the statement of layer 17 asks for them. No program in sight.
   Terms put in their places one by one: what is held. Terms' cells cut and put together; entries where a term is written anew. -/
import Derived.Test.YtjmbejodcloapaaGreatPLims
import Derived.Test.YtjmbejodcloapaaGreatPPlains
import Derived.Maps.RangeWalk
import Derived.ChangeKeys
set_option linter.unusedVariables false
set_option linter.unusedSimpArgs false
namespace Cl
open Go Go.RowKit
abbrev TV := (Bool × List Int) × Plc
def valT (t : TV) : Trm := (t.2, intZ t.1.1 t.1.2)
def mvT (L : List TV) : Mv := L.map valT
theorem mvT_append (L M : List TV) : mvT (L ++ M) = mvT L ++ mvT M := List.map_append
theorem mvT_length (L : List TV) : (mvT L).length = L.length := List.length_map _
structure PlainT (n : Nat) (L : List TV) : Prop where
  mv : PlainM n (mvT L)
  co : ∀ t ∈ L, ZVal t.1.1 t.1.2 (intZ t.1.1 t.1.2)
theorem PlainT.nil (n : Nat) : PlainT n [] := ⟨PlainM.nil n, fun t h => by cases h⟩
theorem mvT_inj : ∀ {L M : List TV}, (∀ t ∈ L, ZVal t.1.1 t.1.2 (intZ t.1.1 t.1.2)) → (∀ t ∈ M, ZVal t.1.1 t.1.2 (intZ t.1.1 t.1.2)) → mvT L = mvT M → L = M
  | [], [], _, _, _ => rfl
  | s :: L, t :: M, h, k, e => by
    injection e with e1 e2
    have h1 := h s List.mem_cons_self
    have k1 := k t List.mem_cons_self
    have e3 : s.2 = t.2 := congrArg Prod.fst e1
    have e4 : intZ s.1.1 s.1.2 = intZ t.1.1 t.1.2 := congrArg Prod.snd e1
    rw [← e4] at k1
    obtain ⟨u1, u2⟩ := h1.unique k1
    rw [show s = t from Prod.ext (Prod.ext u1 u2) e3, mvT_inj (fun x hx => h x (List.mem_cons_of_mem _ hx)) (fun x hx => k x (List.mem_cons_of_mem _ hx)) e2]
theorem PlainT.unique {n : Nat} {L M : List TV} (h : PlainT n L) (k : PlainT n M) (e : EqM n (mvT L) (mvT M)) : L = M :=
  mvT_inj h.co k.co (h.mv.unique k.mv e)
structure Trs (w : World) (A : Option Addr) (m : Nat) (L : List TV) : Prop where
  len : L.length = m
  at_ : 0 < m → ∃ b o, A = some ⟨b, o, none⟩ ∧ b < w.heap.size ∧ ∀ i (h : i < L.length), ∃ Ai ci Ei ei,
    w.cell? ⟨b, o + 3 * i, none⟩ = some (.bool (L[i]).1.1) ∧ w.cell? ⟨b, o + (3 * i + 1), none⟩ = some (.slice Ai (L[i]).1.2.length ci) ∧ w.cell? ⟨b, o + (3 * i + 2), none⟩ = some (.slice Ei (L[i]).2.length ei) ∧
    (L[i]).1.2.length ≤ ci ∧ ci ≤ 9223372036854775807 ∧ (L[i]).2.length ≤ ei ∧ ei ≤ 9223372036854775807 ∧ Limbs w Ai (L[i]).1.2.length (L[i]).1.2 ∧ Ints w Ei (L[i]).2.length (L[i]).2
section
variable {w w' : World} {A : Option Addr} {m : Nat} {L : List TV}
theorem Trs.bel (h : Trs w A m L) (hb : Below w.heap.size w w') : Trs w' A m L :=
  ⟨h.len, fun hm => by
    obtain ⟨b, o, e, hlt, hc⟩ := h.at_ hm
    refine ⟨b, o, e, Nat.lt_of_lt_of_le hlt hb.size, fun i hi => ?_⟩
    obtain ⟨Ai, ci, Ei, ei, h1, h2, h3, h4, h5, h8, h9, h6, h7⟩ := hc i hi
    exact ⟨Ai, ci, Ei, ei, (hb.cell (p := ⟨b, o + 3 * i, none⟩) hlt).trans h1, (hb.cell (p := ⟨b, o + (3 * i + 1), none⟩) hlt).trans h2, (hb.cell (p := ⟨b, o + (3 * i + 2), none⟩) hlt).trans h3, h4, h5, h8, h9, h6.bel hb, h7.bel hb⟩⟩
theorem Trs.nil (w : World) (A : Option Addr) : Trs w A 0 [] := ⟨rfl, fun h => absurd h (by omega)⟩
end
abbrev EntT := ((Option Addr × Nat) × (Option Addr × Nat)) × TV
def tcell (x : EntT) : List Value := [.bool x.2.1.1, .slice x.1.1.1 x.2.1.2.length x.1.1.2, .slice x.1.2.1 x.2.2.length x.1.2.2]
def tcells (L : List EntT) : List Value := L.flatMap tcell
theorem tcells_cons (x : EntT) (L : List EntT) : tcells (x :: L) = tcell x ++ tcells L := by simp [tcells]
theorem tcells_append (L M : List EntT) : tcells (L ++ M) = tcells L ++ tcells M := by simp [tcells, List.flatMap_append]
theorem tcells_snoc (L : List EntT) (x : EntT) : tcells (L ++ [x]) = tcells L ++ tcell x := by simp [tcells, List.flatMap_append]
theorem tcells_length (L : List EntT) : (tcells L).length = L.length * 3 := by
  induction L with
  | nil => rfl
  | cons x L ih => rw [tcells_cons, List.length_append, ih, List.length_cons]; show 3 + _ = _; omega
theorem tcells_get : ∀ {L : List EntT} {i : Nat} (h : i < L.length), (tcells L)[3 * i]? = some (.bool (L[i]).2.1.1) ∧ (tcells L)[3 * i + 1]? = some (.slice (L[i]).1.1.1 (L[i]).2.1.2.length (L[i]).1.1.2) ∧ (tcells L)[3 * i + 2]? = some (.slice (L[i]).1.2.1 (L[i]).2.2.length (L[i]).1.2.2)
  | x :: L, 0, _ => by rw [tcells_cons]; exact ⟨rfl, rfl, rfl⟩
  | x :: L, i + 1, h => by
    have ih := tcells_get (L := L) (i := i) (Nat.lt_of_succ_lt_succ h)
    rw [tcells_cons]
    have hl : (tcell x).length = 3 := rfl
    rw [List.getElem?_append_right (by rw [hl]; omega), List.getElem?_append_right (by rw [hl]; omega), List.getElem?_append_right (by rw [hl]; omega), hl, show 3 * (i + 1) - 3 = 3 * i by omega, show 3 * (i + 1) + 1 - 3 = 3 * i + 1 by omega, show 3 * (i + 1) + 2 - 3 = 3 * i + 2 by omega]
    exact ih
theorem tcells_oneCell (L : List EntT) : ∀ u ∈ tcells L, u.oneCell' = true := by
  intro u hu
  obtain ⟨x, _, hx⟩ := List.mem_flatMap.1 hu
  simp only [tcell, List.mem_cons, List.not_mem_nil, or_false] at hx
  rcases hx with rfl | rfl | rfl <;> rfl
def EntOk (w : World) (x : EntT) : Prop := x.2.1.2.length ≤ x.1.1.2 ∧ x.1.1.2 ≤ 9223372036854775807 ∧ x.2.2.length ≤ x.1.2.2 ∧ x.1.2.2 ≤ 9223372036854775807 ∧ Limbs w x.1.1.1 x.2.1.2.length x.2.1.2 ∧ Ints w x.1.2.1 x.2.2.length x.2.2
theorem EntOk.bel {w w' : World} {x : EntT} (h : EntOk w x) (hb : Below w.heap.size w w') : EntOk w' x := ⟨h.1, h.2.1, h.2.2.1, h.2.2.2.1, h.2.2.2.2.1.bel hb, h.2.2.2.2.2.bel hb⟩
theorem trs_of_own {t : TypeId} {w : World} {base m : Nat} {v : Value} {E : List EntT} (h : w.ownsRow base t 3 v m (tcells E)) (hm : E.length = m) (hi : ∀ x ∈ E, EntOk w x) :
    ∃ B d, v = .slice B m d ∧ m ≤ d ∧ d ≤ maxLen ∧ Trs w B m (E.map (·.2)) := by
  rcases h.2 with ⟨hv, h0⟩ | ⟨g, cap, cur, hv, hg, hh, hc, hmx, hrest⟩
  · subst h0
    obtain rfl := List.eq_nil_of_length_eq_zero hm
    exact ⟨none, 0, hv, Nat.le_refl _, Nat.zero_le _, Trs.nil _ _⟩
  · refine ⟨_, cap, hv, by omega, by omega, by rw [List.length_map, hm], fun h0 => ⟨g, 0, rfl, (Array.getElem?_eq_some_iff.1 hh).1, fun i hi2 => ?_⟩⟩
    have hi' : i < E.length := by simpa using hi2
    have e : (E.map (·.2))[i] = (E[i]).2 := by simp
    subst hv
    obtain ⟨t0, t1, t2⟩ := tcells_get hi'
    have c0 := h.cells (g := g) rfl (3 * i) _ t0
    have c1 := h.cells (g := g) rfl (3 * i + 1) _ t1
    have c2 := h.cells (g := g) rfl (3 * i + 2) _ t2
    rw [Go.WideShapes.add_plain] at c0 c1 c2
    obtain ⟨k1, k2, k3, k4, k5, k6⟩ := hi _ (List.getElem_mem hi')
    rw [e]
    exact ⟨_, _, _, _, c0, c1, c2, k1, k2, k3, k4, k5, k6⟩
end Cl
namespace Cl
open Go Go.RowKit
def plcLit (p : Plc) : Lit := .string (keyBytes (p.map (Lit.int .i64)))
theorem keyBytes_cons (l : Lit) (ls : List Lit) : keyBytes (l :: ls) = l.keyBytes ++ keyBytes ls := rfl
theorem int_keyBytes_inj {a b : Int} (ha : I64 a) (hb : I64 b) (h : (Lit.int .i64 a).keyBytes = (Lit.int .i64 b).keyBytes) : a = b := by
  have h1 : bytesBE 8 (a % 2 ^ 64).toNat = bytesBE 8 (b % 2 ^ 64).toNat := h
  have h2 := bytesBE_inj (by have : (256 : Nat) ^ 8 = 18446744073709551616 := by decide
                             omega) (by have : (256 : Nat) ^ 8 = 18446744073709551616 := by decide
                                        omega) h1
  obtain ⟨a1, a2⟩ := ha
  obtain ⟨b1, b2⟩ := hb
  omega
theorem keyBytes_inj : ∀ {p q : Plc}, p.length = q.length → (∀ x ∈ p, I64 x) → (∀ x ∈ q, I64 x) → keyBytes (p.map (Lit.int .i64)) = keyBytes (q.map (Lit.int .i64)) → p = q
  | [], [], _, _, _, _ => rfl
  | x :: p, y :: q, hl, hp, hq, h => by
    rw [List.map_cons, List.map_cons, keyBytes_cons, keyBytes_cons] at h
    obtain ⟨h1, h2⟩ := List.append_inj h (by
      show (bytesBE 8 _).length = (bytesBE 8 _).length
      rw [length_bytesBE, length_bytesBE])
    rw [int_keyBytes_inj (hp x List.mem_cons_self) (hq y List.mem_cons_self) h1, keyBytes_inj (by simpa using hl) (fun z hz => hp z (List.mem_cons_of_mem _ hz)) (fun z hz => hq z (List.mem_cons_of_mem _ hz)) h2]
structure GoodP (n : Nat) (p : Plc) : Prop where
  len : p.length = 6
  bd : ∀ x ∈ p, 0 ≤ x ∧ x ≤ 4611686018427387904
  zero : ∀ i, n ≤ i → nth p i = 0
theorem GoodP.i64 {n : Nat} {p : Plc} (h : GoodP n p) : ∀ x ∈ p, I64 x := fun x hx => by have := h.bd x hx; constructor <;> omega
theorem GoodP.inj {n : Nat} {p q : Plc} (h : GoodP n p) (k : GoodP n q) (e : plcLit p = plcLit q) : p = q := by
  unfold plcLit at e
  injection e with e
  exact keyBytes_inj (h.len.trans k.len.symm) h.i64 k.i64 e
def intEl (v : Value) : Option (DataW Value × List MemPlace) :=
  match v with
  | .agg cs =>
    match cs.toList with
    | [.bool _, .slice _ _ _] => some (.held (.agg cs), [])
    | _ => none
  | _ => none
theorem intEl_mk (s : Bool) (A : Option Addr) (k c : Nat) : intEl (.agg #[.bool s, .slice A k c]) = some (.held (.agg #[.bool s, .slice A k c]), []) := rfl
theorem intEl_inv {v : Value} {y : DataW Value × List MemPlace} (h : intEl v = some y) : ∃ s A k c, v = .agg #[.bool s, .slice A k c] ∧ y = (.held v, []) := by
  cases v <;> simp only [intEl] at h <;> try (cases h; done)
  rename_i cs
  obtain ⟨l⟩ := cs
  split at h
  · rename_i e
    injection h with h
    simp only at e
    subst e
    exact ⟨_, _, _, _, rfl, h.symm⟩
  · cases h
structure ZAt (w : World) (v : Value) (B : Nat) (z : Int) : Prop where
  ex : ∃ s A k c ls, v = .agg #[.bool s, .slice A k c] ∧ k ≤ c ∧ c ≤ 9223372036854775807 ∧ k ≤ B ∧ Limbs w A k ls ∧ intZ s ls = z
theorem ZAt.bel {w w' : World} {v : Value} {B : Nat} {z : Int} (h : ZAt w v B z) (hb : Below w.heap.size w w') : ZAt w' v B z := by
  obtain ⟨s, A, k, c, ls, e, h1, h2, h3, h4, h5⟩ := h.ex
  exact ⟨s, A, k, c, ls, e, h1, h2, h3, h4.bel hb, h5⟩
theorem ZAt.mono {w : World} {v : Value} {B C : Nat} {z : Int} (h : ZAt w v B z) (hb : B ≤ C) : ZAt w v C z := by
  obtain ⟨s, A, k, c, ls, e, h1, h2, h3, h4, h5⟩ := h.ex
  exact ⟨s, A, k, c, ls, e, h1, h2, by omega, h4, h5⟩
structure SumD (w : World) (D : DataW Value) (n B : Nat) (L : Mv) : Prop where
  key : ∀ kl, Maps.has D kl = true → ∃ p, kl = plcLit p ∧ GoodP n p ∧ ∃ t ∈ L, t.1 = p
  at_ : ∀ p, GoodP n p → Maps.has D (plcLit p) = true → ∃ v, (∀ zd, D.atKey (plcLit p) zd = .held v) ∧ ZAt w v B (coM L p)
  none : ∀ p, GoodP n p → Maps.has D (plcLit p) = false → coM L p = 0
  isMap : Maps.IsMap D
section
variable {w w' : World} {D : DataW Value} {n B C : Nat} {L M : Mv}
theorem SumD.bel (h : SumD w D n B L) (hb : Below w.heap.size w w') : SumD w' D n B L :=
  ⟨h.key, fun p hp hh => by obtain ⟨v, h1, h2⟩ := h.at_ p hp hh; exact ⟨v, h1, h2.bel hb⟩, h.none, h.isMap⟩
theorem SumD.mono (h : SumD w D n B L) (hb : B ≤ C) : SumD w D n C L :=
  ⟨h.key, fun p hp hh => by obtain ⟨v, h1, h2⟩ := h.at_ p hp hh; exact ⟨v, h1, h2.mono hb⟩, h.none, h.isMap⟩
theorem SumD.start (w : World) (n B : Nat) : SumD w (.map []) n B [] :=
  ⟨fun kl hk => by simp [Maps.has] at hk, fun p _ hk => by simp [Maps.has] at hk, fun _ _ _ => rfl, Maps.isMap_empty⟩
theorem SumD.put (h : SumD w D n B L) {p : Plc} (hp : GoodP n p) {v : Value} {t : Int} (hv : ZAt w v B (coM L p + t)) : SumD w (D.put (plcLit p) (.held v)) n B (L ++ [(p, t)]) := by
  have hk : WideAt.IsKeyLit (plcLit p) := trivial
  have hco : ∀ q, coM (L ++ [(p, t)]) q = coM L q + (if p = q then t else 0) := fun q => by
    rw [coM_append, coM_cons, coM_nil]; show _ + ((if p = q then t else 0) + 0) = _; omega
  refine ⟨fun kl hkl => ?_, fun q hq hh => ?_, fun q hq hh => ?_, h.isMap.put _ _⟩
  · by_cases e : kl = plcLit p
    · exact ⟨p, e, hp, (p, t), List.mem_append_right _ (List.mem_singleton.2 rfl), rfl⟩
    · rw [Maps.has_put_other e] at hkl
      obtain ⟨q, h1, h2, u, h3, h4⟩ := h.key kl hkl
      exact ⟨q, h1, h2, u, List.mem_append_left _ h3, h4⟩
  · rw [hco]
    by_cases e : p = q
    · subst e
      rw [if_pos rfl]
      exact ⟨v, fun zd => Maps.atKey_put_same h.isMap hk _ zd, hv⟩
    · have hne : plcLit q ≠ plcLit p := fun e2 => e (hp.inj hq e2.symm)
      rw [Maps.has_put_other hne] at hh
      obtain ⟨v', h1, h2⟩ := h.at_ q hq hh
      rw [if_neg e, Int.add_zero]
      exact ⟨v', fun zd => by rw [Maps.atKey_put_other hne]; exact h1 zd, h2⟩
  · rw [hco]
    by_cases e : p = q
    · subst e
      rw [Maps.has_put_same h.isMap hk] at hh
      cases hh
    · have hne : plcLit q ≠ plcLit p := fun e2 => e (hp.inj hq e2.symm)
      rw [Maps.has_put_other hne] at hh
      rw [if_neg e, h.none q hq hh]; rfl
end
end Cl
namespace Cl
open Go Go.RowKit
def padP (n : Nat) (p : Plc) : Plc := p ++ List.replicate (6 - n) 0
theorem padP_length {n : Nat} {p : Plc} (hn : n ≤ 6) (hp : p.length = n) : (padP n p).length = 6 := by
  unfold padP; rw [List.length_append, List.length_replicate]; omega
theorem padP_take {n : Nat} {p : Plc} (hp : p.length = n) : (padP n p).take n = p := by
  unfold padP; rw [← hp, List.take_left']; rfl
theorem padP_inj {n : Nat} {p q : Plc} (hp : p.length = n) (hq : q.length = n) (h : padP n p = padP n q) : p = q := by
  rw [← padP_take hp, ← padP_take hq, h]
theorem nth_replicate0 (n i : Nat) : nth (List.replicate n 0) i = 0 := by
  unfold nth; by_cases h : i < n <;> simp [List.getD, h]
theorem padP_good {n : Nat} {p : Plc} (hn : n ≤ 6) (hp : p.length = n) (hb : ∀ x ∈ p, 0 ≤ x ∧ x ≤ 4611686018427387904) : GoodP n (padP n p) := by
  refine ⟨padP_length hn hp, fun x hx => ?_, fun i hi => ?_⟩
  · rcases List.mem_append.1 hx with hx | hx
    · exact hb x hx
    · rw [(List.mem_replicate.1 hx).2]; omega
  · unfold padP
    rw [nth_append_ge (by omega), nth_replicate0]
theorem GoodP.pad {n : Nat} {p : Plc} (hn : n ≤ 6) (h : GoodP n p) : p = padP n (p.take n) := by
  refine list_ext ?_ fun i hi => ?_
  · rw [padP_length hn (by rw [List.length_take, h.len]; omega), h.len]
  · by_cases hin : i < n
    · unfold padP
      rw [nth_append_lt (by rw [List.length_take, h.len]; omega)]
      unfold nth; simp [List.getD, hin]
    · unfold padP
      rw [nth_append_ge (by rw [List.length_take, h.len]; omega), nth_replicate0, h.zero i (by omega)]
theorem GoodP.take_length {n : Nat} {p : Plc} (hn : n ≤ 6) (h : GoodP n p) : (p.take n).length = n := by rw [List.length_take, h.len]; omega
theorem addP_append : ∀ {a b c d : Plc}, a.length = b.length → addP (a ++ c) (b ++ d) = addP a b ++ addP c d
  | [], [], c, d, _ => rfl
  | x :: a, y :: b, c, d, h => by
    show (x + y) :: addP (a ++ c) (b ++ d) = (x + y) :: (addP a b ++ addP c d)
    rw [addP_append (by simpa using h)]
theorem addP_zeros (k : Nat) : addP (List.replicate k 0) (List.replicate k 0) = List.replicate k 0 := by
  induction k with
  | zero => rfl
  | succ k ih => rw [List.replicate_succ]; show (0 + 0) :: addP _ _ = 0 :: _; rw [ih]; rfl
theorem padP_add {n : Nat} {p q : Plc} (hp : p.length = n) (hq : q.length = n) : addP (padP n p) (padP n q) = padP n (addP p q) := by
  unfold padP
  rw [addP_append (by omega), addP_zeros]
def liftM (n : Nat) (L : Mv) : Mv := L.map fun t => (padP n t.1, t.2)
theorem liftM_append (n : Nat) (L M : Mv) : liftM n (L ++ M) = liftM n L ++ liftM n M := List.map_append
theorem coM_lift {n : Nat} : ∀ {L : Mv}, LenM n L → ∀ {p : Plc}, p.length = n → coM (liftM n L) (padP n p) = coM L p
  | [], _, _, _ => rfl
  | t :: L, h, p, hp => by
    have ih := coM_lift (L := L) (fun s hs => h s (List.mem_cons_of_mem _ hs)) hp
    show (if padP n t.1 = padP n p then t.2 else 0) + coM (liftM n L) (padP n p) = (if t.1 = p then t.2 else 0) + coM L p
    rw [ih]
    congr 1
    by_cases e : t.1 = p
    · rw [if_pos e, if_pos (by rw [e])]
    · rw [if_neg e, if_neg fun e2 => e (padP_inj (h t List.mem_cons_self) hp e2)]
structure Took (D : DataW Value) (n : Nat) (L : Mv) (left : Lit → Bool) (E : Mv) : Prop where
  len : LenM n E
  ne : ∀ t ∈ E, t.2 ≠ 0
  nodup : (E.map (·.1)).Pairwise (· ≠ ·)
  from_ : ∀ t ∈ E, GoodP n (padP n t.1) ∧ Maps.has D (plcLit (padP n t.1)) = true ∧ left (plcLit (padP n t.1)) = false ∧ t.2 = coM L (padP n t.1)
  all : ∀ p, GoodP n p → Maps.has D (plcLit p) = true → left (plcLit p) = false → coM L p ≠ 0 → ∃ t ∈ E, padP n t.1 = p
section
variable {D : DataW Value} {n : Nat} {L E : Mv} {left : Lit → Bool}
theorem Took.start (D : DataW Value) (n : Nat) (L : Mv) : Took D n L (Maps.has D) [] :=
  ⟨fun t h => (by cases h), fun t h => (by cases h), List.Pairwise.nil, fun t h => (by cases h), fun p _ h1 h2 => by rw [h1] at h2; cases h2⟩
theorem Took.skip (h : Took D n L left E) {p : Plc} (hp : GoodP n p) (h0 : coM L p = 0) : Took D n L (fun z => left z && !z.sameKey (plcLit p)) E where
  len := h.len
  ne := h.ne
  nodup := h.nodup
  from_ t ht := by
    obtain ⟨h1, h2, h3, h4⟩ := h.from_ t ht
    exact ⟨h1, h2, by rw [h3]; rfl, h4⟩
  all q hq h1 h2 h3 := by
    by_cases e : left (plcLit q) = false
    · exact h.all q hq h1 e h3
    · have h4 : (plcLit q).sameKey (plcLit p) = true := by
        cases hl : left (plcLit q) with
        | false => exact absurd hl e
        | true => rw [hl] at h2; simpa using h2
      have h5 := hq.inj hp (WideAt.sameKey_eq h4)
      rw [h5] at h3
      exact absurd h0 h3
theorem Took.take (hn : n ≤ 6) (h : Took D n L left E) {p : Plc} (hp : GoodP n p) (hh : Maps.has D (plcLit p) = true) (hl : left (plcLit p) = true) (h0 : coM L p ≠ 0) :
    Took D n L (fun z => left z && !z.sameKey (plcLit p)) (E ++ [(p.take n, coM L p)]) where
  len := h.len.append fun t ht => by rw [List.mem_singleton.1 ht]; exact hp.take_length hn
  ne t ht := by
    rcases List.mem_append.1 ht with ht | ht
    · exact h.ne t ht
    · rw [List.mem_singleton.1 ht]; exact h0
  nodup := by
    rw [List.map_append, List.pairwise_append]
    refine ⟨h.nodup, List.pairwise_singleton _ _, fun q hq r hr e => ?_⟩
    obtain ⟨t, ht, rfl⟩ := List.mem_map.1 hq
    have hr' : r = p.take n := by simpa using hr
    have h3 := (h.from_ t ht).2.2.1
    rw [e, hr', ← hp.pad hn, hl] at h3
    cases h3
  from_ t ht := by
    rcases List.mem_append.1 ht with ht | ht
    · obtain ⟨h1, h2, h3, h4⟩ := h.from_ t ht
      exact ⟨h1, h2, by rw [h3]; rfl, h4⟩
    · rw [List.mem_singleton.1 ht]
      show GoodP n (padP n (p.take n)) ∧ _ ∧ _ ∧ coM L p = coM L (padP n (p.take n))
      rw [← hp.pad hn]
      exact ⟨hp, hh, by rw [WideAt.sameKey_self (show WideAt.IsKeyLit (plcLit p) from trivial)]; simp, rfl⟩
  all q hq h1 h2 h3 := by
    by_cases e : left (plcLit q) = false
    · obtain ⟨t, ht, e2⟩ := h.all q hq h1 e h3
      exact ⟨t, List.mem_append_left _ ht, e2⟩
    · have h4 : (plcLit q).sameKey (plcLit p) = true := by
        cases hl : left (plcLit q) with
        | false => exact absurd hl e
        | true => rw [hl] at h2; simpa using h2
      have h5 := hq.inj hp (WideAt.sameKey_eq h4)
      exact ⟨_, List.mem_append_right _ (List.mem_singleton.2 rfl), by show padP n (p.take n) = q; rw [← hp.pad hn, h5]⟩
theorem Took.done {w : World} {B : Nat} {M : Mv} (hn : n ≤ 6) (h : Took D n L left E) (hl : ∀ k, left k = false) (hs : SumD w D n B L) (_hM : LenM n M) (hb : BdM 4611686018427387904 M) (hLM : ∀ p, p.length = n → coM L (padP n p) = coM M p) : EqM n E M := fun p hp => by
  by_cases hx : ∃ t ∈ E, t.1 = p
  · obtain ⟨t, ht, rfl⟩ := hx
    rw [coM_mem_of_nodup h.nodup t ht, (h.from_ t ht).2.2.2, hLM _ hp]
  · rw [coM_none fun t ht e => hx ⟨t, ht, e⟩]
    by_cases h0 : coM M p = 0
    · exact h0.symm
    · exfalso
      obtain ⟨s, hs1, hs2⟩ := coM_ne h0
      have hg : GoodP n (padP n p) := padP_good hn hp fun x hx => hb s hs1 x (by rw [hs2]; exact hx)
      rw [← hLM p hp] at h0
      cases hh : Maps.has D (plcLit (padP n p)) with
      | false => exact h0 (hs.none _ hg hh)
      | true =>
        obtain ⟨t, ht, e⟩ := h.all _ hg hh (hl _) h0
        exact hx ⟨t, ht, padP_inj (h.len t ht) hp e⟩
end
end Cl
namespace Cl
open Go Go.RowKit
structure Seen (D : DataW Value) (n : Nat) (L : Mv) (left : Lit → Bool) (E : Mv) : Prop where
  nodup : (E.map (·.1)).Pairwise (· ≠ ·)
  from_ : ∀ t ∈ E, GoodP n t.1 ∧ Maps.has D (plcLit t.1) = true ∧ left (plcLit t.1) = false ∧ t.2 = coM L t.1
  all : ∀ p, GoodP n p → Maps.has D (plcLit p) = true → left (plcLit p) = false → ∃ t ∈ E, t.1 = p
section
variable {D : DataW Value} {n : Nat} {L E : Mv} {left : Lit → Bool}
theorem Seen.start (D : DataW Value) (n : Nat) (L : Mv) : Seen D n L (Maps.has D) [] :=
  ⟨List.Pairwise.nil, fun t h => (by cases h), fun p _ h1 h2 => by rw [h1] at h2; cases h2⟩
theorem Seen.step (h : Seen D n L left E) {p : Plc} (hp : GoodP n p) (hh : Maps.has D (plcLit p) = true) (hl : left (plcLit p) = true) :
    Seen D n L (fun z => left z && !z.sameKey (plcLit p)) (E ++ [(p, coM L p)]) where
  nodup := by
    rw [List.map_append, List.pairwise_append]
    refine ⟨h.nodup, List.pairwise_singleton _ _, fun q hq r hr e => ?_⟩
    obtain ⟨t, ht, rfl⟩ := List.mem_map.1 hq
    have hr' : r = p := by simpa using hr
    have h3 := (h.from_ t ht).2.2.1
    rw [e, hr', hl] at h3
    cases h3
  from_ t ht := by
    rcases List.mem_append.1 ht with ht | ht
    · obtain ⟨h1, h2, h3, h4⟩ := h.from_ t ht
      exact ⟨h1, h2, by rw [h3]; rfl, h4⟩
    · rw [List.mem_singleton.1 ht]
      exact ⟨hp, hh, by rw [WideAt.sameKey_self (show WideAt.IsKeyLit (plcLit p) from trivial)]; simp, rfl⟩
  all q hq h1 h2 := by
    by_cases e : left (plcLit q) = false
    · obtain ⟨t, ht, e2⟩ := h.all q hq h1 e
      exact ⟨t, List.mem_append_left _ ht, e2⟩
    · have h4 : (plcLit q).sameKey (plcLit p) = true := by
        cases hl : left (plcLit q) with
        | false => exact absurd hl e
        | true => rw [hl] at h2; simpa using h2
      have h5 := hq.inj hp (WideAt.sameKey_eq h4)
      exact ⟨_, List.mem_append_right _ (List.mem_singleton.2 rfl), h5.symm⟩
theorem Seen.done {w : World} {B : Nat} (h : Seen D n L left E) (hl : ∀ k, left k = false) (hs : SumD w D n B L) (hg : ∀ t ∈ L, GoodP n t.1) : EqM 6 E L := fun p _ => by
  by_cases hx : ∃ t ∈ E, t.1 = p
  · obtain ⟨t, ht, rfl⟩ := hx
    rw [coM_mem_of_nodup h.nodup t ht, (h.from_ t ht).2.2.2]
  · rw [coM_none fun t ht e => hx ⟨t, ht, e⟩]
    by_cases h0 : coM L p = 0
    · exact h0.symm
    · exfalso
      obtain ⟨s, hs1, hs2⟩ := coM_ne h0
      have hgp : GoodP n p := by rw [← hs2]; exact hg s hs1
      cases hh : Maps.has D (plcLit p) with
      | false => exact h0 (hs.none _ hgp hh)
      | true =>
        obtain ⟨t, ht, e⟩ := h.all _ hgp hh (hl _)
        exact hx ⟨t, ht, e⟩
theorem Seen.len6 (h : Seen D n L left E) : LenM 6 E := fun t ht => (h.from_ t ht).1.len
end
theorem lift_len6 {n : Nat} (hn : n ≤ 6) {L : Mv} (h : LenM n L) : LenM 6 (liftM n L) := fun t ht => by
  obtain ⟨s, hs, rfl⟩ := List.mem_map.1 ht
  exact padP_length hn (h s hs)
theorem lift_good {n : Nat} (hn : n ≤ 6) {L : Mv} (h : LenM n L) (hb : BdM 4611686018427387904 L) : ∀ t ∈ liftM n L, GoodP n t.1 := fun t ht => by
  obtain ⟨s, hs, rfl⟩ := List.mem_map.1 ht
  exact padP_good hn (h s hs) (hb s hs)
theorem lift_scale (n : Nat) (c : Int) (L : Mv) : liftM n (scaleM c L) = scaleM c (liftM n L) := by
  unfold liftM scaleM
  rw [List.map_map, List.map_map]
  rfl
theorem lift_mul {n : Nat} {L M : Mv} (h : LenM n L) (k : LenM n M) : liftM n (mulM L M) = mulM (liftM n L) (liftM n M) := by
  unfold liftM mulM
  rw [List.map_flatMap, List.flatMap_map]
  refine flat_congr fun a ha => ?_
  rw [List.map_map, List.map_map]
  refine List.map_congr_left fun b hb => ?_
  show (padP n (addP a.1 b.1), a.2 * b.2) = (addP (padP n a.1) (padP n b.1), a.2 * b.2)
  rw [padP_add (h a ha) (k b hb)]
theorem lift_eq {n : Nat} (hn : n ≤ 6) {L M : Mv} (h : EqM 6 L (liftM n M)) (hM : LenM n M) : ∀ p, p.length = n → coM L (padP n p) = coM M p := fun p hp => by
  rw [h _ (padP_length hn hp), coM_lift hM hp]
theorem mulM_snoc (E : Mv) (t : Trm) (M : Mv) : mulM (E ++ [t]) M = mulM E M ++ M.map fun b => (addP t.1 b.1, t.2 * b.2) := by
  rw [mulM_append]
  show _ ++ ((M.map fun b => (addP t.1 b.1, t.2 * b.2)) ++ []) = _
  rw [List.append_nil]
theorem scaleM_append (c : Int) (L M : Mv) : scaleM c (L ++ M) = scaleM c L ++ scaleM c M := List.map_append
end Cl
namespace Cl
theorem ltP_of : ∀ {a b : Plc} {i : Nat}, a.length = b.length → (∀ j, j < i → nth a j = nth b j) → i < a.length → nth a i < nth b i → ltP a b
  | x :: a, y :: b, 0, _, _, _, h => .inl h
  | x :: a, y :: b, i + 1, hl, he, hi, h => by
    have e0 := he 0 (by omega)
    refine .inr ⟨e0, ltP_of (i := i) (by simpa using hl) (fun j hj => he (j + 1) (by omega)) (by simpa using hi) h⟩
def cmpP (a b : Plc) : Int := if ltP a b then -1 else if ltP b a then 1 else 0
theorem cmpP_lt {a b : Plc} (h : ltP a b) : cmpP a b = -1 := if_pos h
theorem cmpP_gt {a b : Plc} (h : ltP b a) : cmpP a b = 1 := by
  unfold cmpP
  rw [if_neg fun h2 => ltP.irrefl a (ltP.trans h2 h), if_pos h]
theorem cmpP_eq (a : Plc) : cmpP a a = 0 := by
  unfold cmpP
  rw [if_neg (ltP.irrefl a), if_neg (ltP.irrefl a)]
theorem cmpP_neg {a b : Plc} : cmpP a b < 0 ↔ ltP a b := by
  unfold cmpP
  by_cases h : ltP a b
  · rw [if_pos h]; exact ⟨fun _ => h, fun _ => by omega⟩
  · rw [if_neg h]
    refine ⟨fun h2 => ?_, fun h2 => absurd h2 h⟩
    split at h2 <;> omega
end Cl
namespace Cl
open Go Go.RowKit
theorem tcells_take : ∀ (L : List EntT) (k : Nat), (tcells L).take (k * 3) = tcells (L.take k)
  | [], k => by simp [tcells]
  | x :: L, 0 => by simp [tcells]
  | x :: L, k + 1 => by
    rw [List.take_succ_cons, tcells_cons, tcells_cons, ← tcells_take L k]
    rw [List.take_append, show (tcell x).length = 3 from rfl, List.take_of_length_le (by show (3 : Nat) ≤ _; omega), show (k + 1) * 3 - 3 = k * 3 by omega]
theorem tcells_drop : ∀ (L : List EntT) (k : Nat), (tcells L).drop (k * 3) = tcells (L.drop k)
  | [], k => by simp [tcells]
  | x :: L, 0 => by simp [tcells]
  | x :: L, k + 1 => by
    rw [List.drop_succ_cons, tcells_cons, ← tcells_drop L k]
    rw [List.drop_append, show (tcell x).length = 3 from rfl, List.drop_of_length_le (by show (3 : Nat) ≤ _; omega), show (k + 1) * 3 - 3 = k * 3 by omega, List.nil_append]
def putT (x : EntT) (s : Bool) (A : Option Addr) (c : Nat) (ls : List Int) : EntT := (((A, c), x.1.2), ((s, ls), x.2.2))
theorem tcells_put : ∀ (L : List EntT) (k : Nat) (h : k < L.length) (s : Bool) (A : Option Addr) (c : Nat) (ls : List Int), ((tcells L).set (3 * k) (.bool s)).set (3 * k + 1) (.slice A ls.length c) = tcells (L.set k (putT L[k] s A c ls))
  | x :: L, 0, _, s, A, c, ls => by rw [List.set_cons_zero, tcells_cons, tcells_cons]; rfl
  | x :: L, k + 1, h, s, A, c, ls => by
    rw [List.set_cons_succ, tcells_cons, tcells_cons, List.set_append_right _ _ (by show (3 : Nat) ≤ _; omega), List.set_append_right _ _ (by show (3 : Nat) ≤ _; omega), show 3 * (k + 1) - (tcell x).length = 3 * k from by show 3 * (k + 1) - 3 = _; omega, show 3 * (k + 1) + 1 - (tcell x).length = 3 * k + 1 from by show 3 * (k + 1) + 1 - 3 = _; omega, tcells_put L k (Nat.lt_of_succ_lt_succ h) s A c ls]
    rfl
section
variable {E : List EntT} {n k : Nat}
def FallE (E : List EntT) : Prop := E.Pairwise fun x y => ltP y.2.2 x.2.2
theorem FallE.put (h : FallE E) (hk : k < E.length) (s : Bool) (A : Option Addr) (c : Nat) (ls : List Int) : FallE (E.set k (putT E[k] s A c ls)) := by
  unfold FallE at h ⊢
  have e : (E.set k (putT E[k] s A c ls)).map (fun x => x.2.2) = E.map (fun x => x.2.2) := by
    rw [List.map_set]
    refine List.ext_getElem (by simp) fun i h1 h2 => ?_
    rw [List.getElem_set]
    split
    · rename_i e; subst e; simp [putT]
    · simp
  have h2 : (E.map (fun x : EntT => x.2.2)).Pairwise (fun p q => ltP q p) := List.pairwise_map.2 h
  rw [← e] at h2
  exact List.pairwise_map.1 h2
theorem FallE.insert (h : FallE E) {x : EntT} (h1 : ∀ j (hj : j < E.length), j < k → ltP x.2.2 (E[j]).2.2) (h2 : ∀ (hk : k < E.length), ltP (E[k]).2.2 x.2.2) : FallE (E.take k ++ x :: E.drop k) := by
  unfold FallE at h ⊢
  have hd : ∀ y ∈ E.drop k, ltP y.2.2 x.2.2 := fun y hy => by
    obtain ⟨i, hi, rfl⟩ := List.mem_iff_getElem.1 hy
    rw [List.length_drop] at hi
    rw [List.getElem_drop]
    rcases Nat.eq_zero_or_pos i with rfl | h0
    · exact h2 (by omega)
    · exact ltP.trans (List.pairwise_iff_getElem.1 h k (k + i) (by omega) (by omega) (by omega)) (h2 (by omega))
  have ht : ∀ y ∈ E.take k, ltP x.2.2 y.2.2 := fun y hy => by
    obtain ⟨i, hi, rfl⟩ := List.mem_iff_getElem.1 hy
    rw [List.length_take] at hi
    rw [List.getElem_take]
    exact h1 i (by omega) (by omega)
  rw [List.pairwise_append, List.pairwise_cons]
  have h3 := h
  rw [← List.take_append_drop k E, List.pairwise_append] at h3
  refine ⟨h3.1, ⟨hd, h3.2.1⟩, fun a ha b hb => ?_⟩
  rcases List.mem_cons.1 hb with rfl | hb
  · exact ht a ha
  · exact h3.2.2 a ha b hb
theorem insert_eq {x : EntT} {M : Mv} (h : EqM n (mvT (E.map (·.2))) M) : EqM n (mvT ((E.take k ++ x :: E.drop k).map (·.2))) (M ++ [valT x.2]) := by
  have h1 : (mvT ((E.take k ++ x :: E.drop k).map (·.2))).Perm (valT x.2 :: mvT (E.map (·.2))) := by
    have h2 : (E.take k ++ x :: E.drop k).Perm (x :: E) := by
      have := List.perm_middle (a := x) (l₁ := E.take k) (l₂ := E.drop k)
      rwa [List.take_append_drop] at this
    exact (h2.map (·.2)).map valT
  refine (EqM.perm h1).trans fun p hp => ?_
  rw [coM_cons, h p hp, coM_append, coM_cons, coM_nil]
  omega
theorem coM_put : ∀ {E : List EntT} {k : Nat} (hk : k < E.length) {s : Bool} {A : Option Addr} {c : Nat} {ls : List Int} {z : Int} (_ : intZ s ls = intZ (E[k]).2.1.1 (E[k]).2.1.2 + z) (p : Plc), coM (mvT ((E.set k (putT E[k] s A c ls)).map (·.2))) p = coM (mvT (E.map (·.2))) p + if (E[k]).2.2 = p then z else 0
  | x :: E, 0, _, s, A, c, ls, z, h, p => by
    show coM ((x.2.2, intZ s ls) :: mvT (E.map (·.2))) p = coM ((x.2.2, intZ x.2.1.1 x.2.1.2) :: mvT (E.map (·.2))) p + if x.2.2 = p then z else 0
    have h' : intZ s ls = intZ x.2.1.1 x.2.1.2 + z := h
    rw [coM_cons, coM_cons]
    show (if x.2.2 = p then intZ s ls else 0) + _ = (if x.2.2 = p then intZ x.2.1.1 x.2.1.2 else 0) + _ + _
    split <;> omega
  | x :: E, k + 1, hk, s, A, c, ls, z, h, p => by
    have hk' : k < E.length := Nat.lt_of_succ_lt_succ hk
    have ih := coM_put (E := E) (k := k) hk' (A := A) (c := c) h p
    show coM (valT x.2 :: mvT ((E.set k (putT E[k] s A c ls)).map (·.2))) p = coM (valT x.2 :: mvT (E.map (·.2))) p + if (E[k]).2.2 = p then z else 0
    rw [coM_cons, coM_cons, ih]
    omega
theorem put_eq {M : Mv} (h : EqM n (mvT (E.map (·.2))) M) (hk : k < E.length) {s : Bool} {A : Option Addr} {c : Nat} {ls : List Int} {t : Trm} (hp : (E[k]).2.2 = t.1) (hz : intZ s ls = intZ (E[k]).2.1.1 (E[k]).2.1.2 + t.2) : EqM n (mvT ((E.set k (putT E[k] s A c ls)).map (·.2))) (M ++ [t]) := fun p hp' => by
  rw [coM_put hk hz, h p hp', coM_append, coM_cons, coM_nil, hp]
  omega
def fullE (E : List EntT) : List EntT := E.filter fun x => intZ x.2.1.1 x.2.1.2 != 0
theorem fullE_yes {E : List EntT} {j : Nat} (hj : j < E.length) (h : intZ (E[j]).2.1.1 (E[j]).2.1.2 ≠ 0) : fullE (E.take (j + 1)) = fullE (E.take j) ++ [E[j]] := by
  unfold fullE
  rw [List.take_succ_eq_append_getElem hj, List.filter_append, List.filter_cons_of_pos (by simpa using h)]
  rfl
theorem fullE_no {E : List EntT} {j : Nat} (hj : j < E.length) (h : intZ (E[j]).2.1.1 (E[j]).2.1.2 = 0) : fullE (E.take (j + 1)) = fullE (E.take j) := by
  unfold fullE
  rw [List.take_succ_eq_append_getElem hj, List.filter_append, List.filter_cons_of_neg (by simp [h])]
  simp
theorem fullE_mem {E : List EntT} {x : EntT} (h : x ∈ fullE E) : x ∈ E ∧ intZ x.2.1.1 x.2.1.2 ≠ 0 := by
  obtain ⟨h1, h2⟩ := List.mem_filter.1 h
  exact ⟨h1, by simpa using h2⟩
theorem fullE_le (E : List EntT) : (fullE E).length ≤ E.length := List.length_filter_le _ _
theorem fullE_eq (n : Nat) : ∀ E : List EntT, EqM n (mvT ((fullE E).map (·.2))) (mvT (E.map (·.2)))
  | [], p, _ => rfl
  | x :: E, p, hp => by
    have ih := fullE_eq n E p hp
    show _ = coM (valT x.2 :: mvT (E.map (·.2))) p
    rw [coM_cons, ← ih]
    by_cases h : intZ x.2.1.1 x.2.1.2 = 0
    · rw [show fullE (x :: E) = fullE E from List.filter_cons_of_neg (by simp [h])]
      show _ = (if x.2.2 = p then intZ x.2.1.1 x.2.1.2 else 0) + _
      rw [h]; split <;> omega
    · rw [show fullE (x :: E) = x :: fullE E from List.filter_cons_of_pos (by simpa using h)]
      show coM (valT x.2 :: mvT ((fullE E).map (·.2))) p = _
      rw [coM_cons]
theorem full_plain (h : FallE E) (hl : ∀ x ∈ E, x.2.2.length = n) (hz : ∀ x ∈ E, ZVal x.2.1.1 x.2.1.2 (intZ x.2.1.1 x.2.1.2)) : PlainT n ((fullE E).map (·.2)) := by
  refine ⟨⟨fun t ht => ?_, ?_, fun t ht => ?_⟩, fun t ht => ?_⟩
  · obtain ⟨u, hu, rfl⟩ := List.mem_map.1 ht
    obtain ⟨x, hx, rfl⟩ := List.mem_map.1 hu
    exact hl x (fullE_mem hx).1
  · unfold mvT
    rw [List.map_map, List.pairwise_map]
    exact h.sublist List.filter_sublist
  · obtain ⟨u, hu, rfl⟩ := List.mem_map.1 ht
    obtain ⟨x, hx, rfl⟩ := List.mem_map.1 hu
    exact (fullE_mem hx).2
  · obtain ⟨x, hx, rfl⟩ := List.mem_map.1 ht
    exact hz x (fullE_mem hx).1
theorem fall_abs (h : FallE E) (hl : ∀ x ∈ E, x.2.2.length = n) {M : Mv} (e : EqM n (mvT (E.map (·.2))) M) : ∀ x ∈ E, (intZ x.2.1.1 x.2.1.2).natAbs ≤ absM M := fun x hx => by
  have hd : ((mvT (E.map (·.2))).map (·.1)).Pairwise (· ≠ ·) := by
    unfold mvT
    rw [List.map_map, List.map_map, List.pairwise_map]
    refine List.Pairwise.imp ?_ (show List.Pairwise (fun x y : EntT => ltP y.2.2 x.2.2) E from h)
    intro a b hab e
    have e : a.2.2 = b.2.2 := e
    rw [← e] at hab
    exact ltP.irrefl _ hab
  have h1 := coM_mem_of_nodup hd (valT x.2) (List.mem_map.2 ⟨x.2, List.mem_map.2 ⟨x, hx, rfl⟩, rfl⟩)
  have h2 : coM (mvT (E.map (·.2))) x.2.2 = intZ x.2.1.1 x.2.1.2 := h1
  rw [← h2, e x.2.2 (hl x hx)]
  exact coM_abs M _
theorem absM_take (M : Mv) (i : Nat) : absM (M.take i) ≤ absM M := by
  have h : absM M = absM (M.take i) + absM (M.drop i) := by rw [← absM_append, List.take_append_drop]
  omega
end
theorem Limbs.cells2 {w : World} {A : Option Addr} {n : Nat} {xs : List Int} (h : Limbs w A n xs) {p q : Addr} {u v a b : Value} (hp : w.cell? p = some u) (hq : w.cell? q = some v) (hu : ∀ i, u ≠ .int .u64 i) (hv : ∀ i, v ≠ .int .u64 i) : Limbs ((w.setCell p a).setCell q b) A n xs := by
  refine ⟨h.len, fun hm => ?_, h.ok⟩
  obtain ⟨bb, o, e, hb, hc⟩ := h.at_ hm
  refine ⟨bb, o, e, by simpa using hb, fun i hi => ?_⟩
  have := hc i hi
  rw [World.cell?_setCell_other _ _ _ _ (fun e => ?_), World.cell?_setCell_other _ _ _ _ (fun e => ?_)]
  · exact this
  · rw [← e, hp] at this; injection this with this; exact hu _ this
  · rw [← e, hq] at this; injection this with this; exact hv _ this
theorem Ints.cells2 {w : World} {A : Option Addr} {n : Nat} {xs : List Int} (h : Ints w A n xs) {p q : Addr} {u v a b : Value} (hp : w.cell? p = some u) (hq : w.cell? q = some v) (hu : ∀ i, u ≠ .int .i64 i) (hv : ∀ i, v ≠ .int .i64 i) : Ints ((w.setCell p a).setCell q b) A n xs := by
  refine ⟨h.len, fun hm => ?_, h.ok⟩
  obtain ⟨bb, o, e, hb, hc⟩ := h.at_ hm
  refine ⟨bb, o, e, by simpa using hb, fun i hi => ?_⟩
  have := hc i hi
  rw [World.cell?_setCell_other _ _ _ _ (fun e => ?_), World.cell?_setCell_other _ _ _ _ (fun e => ?_)]
  · exact this
  · rw [← e, hp] at this; injection this with this; exact hu _ this
  · rw [← e, hq] at this; injection this with this; exact hv _ this
theorem EntOk.cells2 {w : World} {x : EntT} (h : EntOk w x) {p q : Addr} {s : Bool} {A : Option Addr} {m c : Nat} (a b : Value) (hp : w.cell? p = some (.bool s)) (hq : w.cell? q = some (.slice A m c)) : EntOk ((w.setCell p a).setCell q b) x :=
  ⟨h.1, h.2.1, h.2.2.1, h.2.2.2.1, h.2.2.2.2.1.cells2 hp hq (fun _ e => by cases e) (fun _ e => by cases e), h.2.2.2.2.2.cells2 hp hq (fun _ e => by cases e) (fun _ e => by cases e)⟩
theorem reads_tcells {w : World} {A : Option Addr} {n : Nat} {E : List EntT} (hE : E.length = n)
    (h : 0 < n → ∃ b o, A = some ⟨b, o, none⟩ ∧ b < w.heap.size ∧ ∀ i (h : i < E.length), w.cell? ⟨b, o + 3 * i, none⟩ = some (.bool (E[i]).2.1.1) ∧ w.cell? ⟨b, o + (3 * i + 1), none⟩ = some (.slice (E[i]).1.1.1 (E[i]).2.1.2.length (E[i]).1.1.2) ∧ w.cell? ⟨b, o + (3 * i + 2), none⟩ = some (.slice (E[i]).1.2.1 (E[i]).2.2.length (E[i]).1.2.2)) :
    Reads w w.heap.size 3 A n (tcells E) := by
  refine ⟨by rw [tcells_length, hE], fun hn => ?_⟩
  obtain ⟨b, o, rfl, hb, hc⟩ := h hn
  refine ⟨_, rfl, hb, fun j u hu => ?_⟩
  rw [Go.WideShapes.add_plain]
  have hj : j < (tcells E).length := (List.getElem?_eq_some_iff.1 hu).1
  rw [tcells_length] at hj
  have h3 : j % 3 < 3 := Nat.mod_lt _ (by omega)
  have hd := Nat.div_add_mod j 3
  have hi : j / 3 < E.length := by omega
  obtain ⟨g0, g1, g2⟩ := tcells_get hi
  obtain ⟨c0, c1, c2⟩ := hc (j / 3) hi
  rcases (by omega : j % 3 = 0 ∨ j % 3 = 1 ∨ j % 3 = 2) with e | e | e
  · rw [show j = 3 * (j / 3) by omega] at hu ⊢
    rw [g0] at hu; rw [← hu]; exact c0
  · rw [show j = 3 * (j / 3) + 1 by omega] at hu ⊢
    rw [g1] at hu; rw [← hu]; exact c1
  · rw [show j = 3 * (j / 3) + 2 by omega] at hu ⊢
    rw [g2] at hu; rw [← hu]; exact c2
theorem reads_own3 {t : TypeId} {w : World} {base n : Nat} {A : Option Addr} {cap : Nat} {E : List EntT} (h : w.ownsRow base t 3 (.slice A n cap) n (tcells E)) (hE : E.length = n) : Reads w w.heap.size 3 A n (tcells E) :=
  reads_tcells hE fun h0 => by
    obtain ⟨g, cap', hv, hg, hl⟩ := h.form h0
    injection hv with hv1 _ hv3
    subst hv1 hv3
    refine ⟨g, 0, rfl, (h.lt g rfl).2, fun i hi => ?_⟩
    obtain ⟨t0, t1, t2⟩ := tcells_get hi
    have c0 := h.cells (g := g) rfl (3 * i) _ t0
    have c1 := h.cells (g := g) rfl (3 * i + 1) _ t1
    have c2 := h.cells (g := g) rfl (3 * i + 2) _ t2
    rw [Go.WideShapes.add_plain] at c0 c1 c2
    exact ⟨c0, c1, c2⟩
end Cl
