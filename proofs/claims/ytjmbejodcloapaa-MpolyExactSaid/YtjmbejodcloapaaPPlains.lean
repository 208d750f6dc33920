/- Commutative rings, their powers and sums, the binomial theorem, and the p-th power of a sum. No program in sight.
   Plain facts on residues: rests, primes, inverses. No program in sight.
   Where p times anything is nought, the p-th power of a sum is the sum of p-th powers; Fermat's theorem.
   The field of residues by a prime, as a type. No program in sight.
   Polynomials of several variables as lists of terms: what each place holds; sums, products; plain lists are one. No program in sight.
   Plain lists of terms: how many, which places, how great; sorting; sums kept place by place. No program in sight.
   Division of lists of terms, step by step: what comes out is determined; how far it goes; how great its numbers are. No program in sight.
   How far a division of lists of terms goes, and how great its numbers are: weights of places, a potential that never grows. No program in sight.
   How many places of bounded weight there are; what a division has done so far. No program in sight.
   Weights on places: where they are greatest, of which rank a set of places is, which of them stand alone. No program in sight.
   Faces of products; weights under which one factor stays one term. No program in sight.
   A product of three terms that stand alone: one factor is one term. No program in sight.
   A product of few terms in many directions has a factor of one term; a quotient of few terms by few has few. No program in sight. -/
set_option linter.unusedVariables false
set_option linter.unusedSimpArgs false
namespace Cl
class CRing (R : Type) extends Add R, Mul R, Neg R, Sub R, Zero R, One R, NatPow R where
  add_assoc : ∀ a b c : R, a + b + c = a + (b + c)
  add_comm : ∀ a b : R, a + b = b + a
  add_zero : ∀ a : R, a + 0 = a
  add_neg : ∀ a : R, a + -a = 0
  mul_assoc : ∀ a b c : R, a * b * c = a * (b * c)
  mul_comm : ∀ a b : R, a * b = b * a
  mul_one : ∀ a : R, a * 1 = a
  mul_add : ∀ a b c : R, a * (b + c) = a * b + a * c
  sub_def : ∀ a b : R, a - b = a + -b
  pow_zero : ∀ a : R, a ^ 0 = 1
  pow_succ : ∀ (a : R) (n : Nat), a ^ (n + 1) = a ^ n * a
namespace CRing
variable {R : Type} [CRing R]
theorem zero_add (a : R) : 0 + a = a := by rw [add_comm, add_zero]
theorem neg_add (a : R) : -a + a = 0 := by rw [add_comm, add_neg]
theorem add_mul (a b c : R) : (a + b) * c = a * c + b * c := by rw [mul_comm, mul_add, mul_comm c a, mul_comm c b]
theorem add_left_cancel {a b c : R} (h : a + b = a + c) : b = c := by
  have : -a + (a + b) = -a + (a + c) := by rw [h]
  rwa [← add_assoc, ← add_assoc, neg_add, zero_add, zero_add] at this
theorem mul_zero (a : R) : a * 0 = 0 := by
  have h : a * 0 + a * 0 = a * 0 + 0 := by rw [← mul_add, add_zero, add_zero]
  exact add_left_cancel h
theorem zero_mul (a : R) : 0 * a = 0 := by rw [mul_comm, mul_zero]
theorem eq_neg_of_add {a b : R} (h : a + b = 0) : b = -a := by
  apply add_left_cancel (a := a); rw [h, add_neg]
theorem neg_mul (a b : R) : -a * b = -(a * b) := by
  apply eq_neg_of_add; rw [← add_mul, add_neg, zero_mul]
theorem mul_neg (a b : R) : a * -b = -(a * b) := by rw [mul_comm, neg_mul, mul_comm]
instance : Std.Associative (α := R) (· + ·) := ⟨add_assoc⟩
instance : Std.Commutative (α := R) (· + ·) := ⟨add_comm⟩
instance : Std.Associative (α := R) (· * ·) := ⟨mul_assoc⟩
instance : Std.Commutative (α := R) (· * ·) := ⟨mul_comm⟩
end CRing
instance : CRing Int where
  add_assoc := Int.add_assoc
  add_comm := Int.add_comm
  add_zero := Int.add_zero
  add_neg := Int.add_right_neg
  mul_assoc := Int.mul_assoc
  mul_comm := Int.mul_comm
  mul_one := Int.mul_one
  mul_add := Int.mul_add
  sub_def := fun _ _ => Int.sub_eq_add_neg
  pow_zero := Int.pow_zero
  pow_succ := Int.pow_succ
end Cl
namespace Cl
abbrev Plc := List Int
abbrev Trm := Plc × Int
abbrev Mv := List Trm
def sumL {α : Type} (f : α → Int) : List α → Int
  | [] => 0
  | a :: L => f a + sumL f L
section
variable {α β : Type}
theorem sumL_append (f : α → Int) : ∀ L M : List α, sumL f (L ++ M) = sumL f L + sumL f M
  | [], M => by show sumL f M = 0 + _; omega
  | a :: L, M => by show f a + sumL f (L ++ M) = f a + sumL f L + _; rw [sumL_append f L M]; omega
theorem sumL_congr {f g : α → Int} : ∀ {L : List α}, (∀ a ∈ L, f a = g a) → sumL f L = sumL g L
  | [], _ => rfl
  | a :: L, h => by show f a + _ = g a + _; rw [h a List.mem_cons_self, sumL_congr fun b hb => h b (List.mem_cons_of_mem _ hb)]
theorem sumL_zero : ∀ L : List α, sumL (fun _ => (0 : Int)) L = 0
  | [] => rfl
  | a :: L => by show 0 + sumL _ L = 0; rw [sumL_zero L]; rfl
theorem sumL_add (f g : α → Int) : ∀ L : List α, sumL (fun a => f a + g a) L = sumL f L + sumL g L
  | [] => rfl
  | a :: L => by show f a + g a + sumL _ L = f a + _ + (g a + _); rw [sumL_add f g L]; omega
theorem sumL_mul (c : Int) (f : α → Int) : ∀ L : List α, sumL (fun a => c * f a) L = c * sumL f L
  | [] => by show 0 = c * 0; rw [Int.mul_zero]
  | a :: L => by show c * f a + sumL _ L = c * (f a + _); rw [sumL_mul c f L, Int.mul_add]
theorem sumL_mulr (c : Int) (f : α → Int) (L : List α) : sumL (fun a => f a * c) L = sumL f L * c := by
  rw [Int.mul_comm, ← sumL_mul]; exact sumL_congr fun a _ => Int.mul_comm _ _
theorem sumL_map (g : β → α) (f : α → Int) : ∀ L : List β, sumL f (L.map g) = sumL (fun b => f (g b)) L
  | [] => rfl
  | b :: L => by show f (g b) + sumL f (L.map g) = _; rw [sumL_map g f L]; rfl
theorem sumL_flat (g : β → List α) (f : α → Int) : ∀ L : List β, sumL f (L.flatMap g) = sumL (fun b => sumL f (g b)) L
  | [] => rfl
  | b :: L => by rw [List.flatMap_cons, sumL_append, sumL_flat g f L]; rfl
theorem sumL_swap (f : α → β → Int) : ∀ (L : List α) (M : List β), sumL (fun a => sumL (f a) M) L = sumL (fun b => sumL (fun a => f a b) L) M
  | [], M => (sumL_zero M).symm
  | a :: L, M => by
    show sumL (f a) M + sumL _ L = _
    rw [sumL_swap f L M, ← sumL_add]
    rfl
theorem sumL_perm (f : α → Int) {L M : List α} (h : L.Perm M) : sumL f L = sumL f M := by
  induction h with
  | nil => rfl
  | cons a _ ih => show f a + _ = f a + _; rw [ih]
  | swap a b L => show f b + (f a + _) = f a + (f b + _); omega
  | trans _ _ ih1 ih2 => rw [ih1, ih2]
theorem sumL_only [DecidableEq α] {f : α → Int} : ∀ {L : List α} {a : α}, L.Pairwise (· ≠ ·) → a ∈ L → (∀ b ∈ L, b ≠ a → f b = 0) → sumL f L = f a
  | b :: L, a, hp, ha, h0 => by
    obtain ⟨h1, h2⟩ := List.pairwise_cons.1 hp
    show f b + sumL f L = f a
    rcases List.mem_cons.1 ha with rfl | ha
    · rw [sumL_congr (g := fun _ => 0) fun c hc => h0 c (List.mem_cons_of_mem _ hc) (fun e => h1 c hc e.symm), sumL_zero]; omega
    · rw [h0 b List.mem_cons_self (h1 a ha), sumL_only h2 ha fun c hc => h0 c (List.mem_cons_of_mem _ hc)]; omega
end
def coM (L : Mv) (p : Plc) : Int := sumL (fun t : Trm => if t.1 = p then t.2 else 0) L
theorem coM_append (L M : Mv) (p : Plc) : coM (L ++ M) p = coM L p + coM M p := sumL_append _ _ _
theorem coM_cons (t : Trm) (L : Mv) (p : Plc) : coM (t :: L) p = (if t.1 = p then t.2 else 0) + coM L p := rfl
theorem coM_nil (p : Plc) : coM [] p = 0 := rfl
theorem coM_perm {L M : Mv} (h : L.Perm M) (p : Plc) : coM L p = coM M p := sumL_perm _ h
theorem coM_none {L : Mv} {p : Plc} (h : ∀ t ∈ L, t.1 ≠ p) : coM L p = 0 := by
  unfold coM
  rw [sumL_congr (g := fun _ => 0) fun t ht => if_neg (h t ht), sumL_zero]
def scaleM (c : Int) (L : Mv) : Mv := L.map fun t => (t.1, c * t.2)
theorem coM_scale (c : Int) (L : Mv) (p : Plc) : coM (scaleM c L) p = c * coM L p := by
  unfold coM scaleM
  rw [sumL_map, ← sumL_mul]
  refine sumL_congr fun t _ => ?_
  show (if t.1 = p then c * t.2 else 0) = c * (if t.1 = p then t.2 else 0)
  split
  · rfl
  · rw [Int.mul_zero]
def addP (a b : Plc) : Plc := List.zipWith (· + ·) a b
def subP (a b : Plc) : Plc := List.zipWith (· - ·) a b
theorem addP_length {a b : Plc} {n : Nat} (ha : a.length = n) (hb : b.length = n) : (addP a b).length = n := by unfold addP; rw [List.length_zipWith]; omega
theorem subP_length {a b : Plc} {n : Nat} (ha : a.length = n) (hb : b.length = n) : (subP a b).length = n := by unfold subP; rw [List.length_zipWith]; omega
theorem addP_comm : ∀ a b : Plc, addP a b = addP b a
  | [], b => by cases b <;> rfl
  | x :: a, [] => rfl
  | x :: a, y :: b => by
    show (x + y) :: addP a b = (y + x) :: addP b a
    rw [addP_comm a b, Int.add_comm]
theorem addP_assoc : ∀ a b c : Plc, addP (addP a b) c = addP a (addP b c)
  | [], b, c => by cases b <;> rfl
  | x :: a, [], c => by cases c <;> rfl
  | x :: a, y :: b, [] => rfl
  | x :: a, y :: b, z :: c => by
    show (x + y + z) :: addP (addP a b) c = (x + (y + z)) :: addP a (addP b c)
    rw [addP_assoc a b c, Int.add_assoc]
theorem addP_iff : ∀ {a b p : Plc}, a.length = b.length → a.length = p.length → (addP a b = p ↔ a = subP p b)
  | [], [], [], _, _ => ⟨fun _ => rfl, fun _ => rfl⟩
  | x :: a, y :: b, z :: p, h1, h2 => by
    have ih := addP_iff (a := a) (b := b) (p := p) (by simpa using h1) (by simpa using h2)
    show (x + y) :: addP a b = z :: p ↔ x :: a = (z - y) :: subP p b
    constructor
    · intro h
      injection h with h3 h4
      rw [← ih.1 h4, show x = z - y by omega]
    · intro h
      injection h with h3 h4
      rw [ih.2 h4, show x + y = z by omega]
def mulM (L M : Mv) : Mv := L.flatMap fun a => M.map fun b => (addP a.1 b.1, a.2 * b.2)
theorem coM_mul (L M : Mv) (p : Plc) : coM (mulM L M) p = sumL (fun a : Trm => sumL (fun b : Trm => if addP a.1 b.1 = p then a.2 * b.2 else 0) M) L := by
  unfold coM mulM
  rw [sumL_flat]
  exact sumL_congr fun a _ => sumL_map _ _ _
theorem mulM_comm (L M : Mv) (p : Plc) : coM (mulM L M) p = coM (mulM M L) p := by
  rw [coM_mul, coM_mul, sumL_swap]
  exact sumL_congr fun b _ => sumL_congr fun a _ => by rw [addP_comm, Int.mul_comm]
theorem mulM_append (L M N : Mv) : mulM (L ++ M) N = mulM L N ++ mulM M N := by unfold mulM; rw [List.flatMap_append]
theorem flat_congr {α β : Type} {f g : α → List β} : ∀ {L : List α}, (∀ a ∈ L, f a = g a) → L.flatMap f = L.flatMap g
  | [], _ => rfl
  | a :: L, h => by rw [List.flatMap_cons, List.flatMap_cons, h a List.mem_cons_self, flat_congr fun b hb => h b (List.mem_cons_of_mem _ hb)]
theorem mulM_assoc (L M N : Mv) : mulM (mulM L M) N = mulM L (mulM M N) := by
  unfold mulM
  rw [List.flatMap_assoc]
  refine flat_congr fun a _ => ?_
  rw [List.flatMap_map, List.map_flatMap]
  refine flat_congr fun b _ => ?_
  rw [List.map_map]
  refine List.map_congr_left fun c _ => ?_
  show (addP (addP a.1 b.1) c.1, a.2 * b.2 * c.2) = (addP a.1 (addP b.1 c.1), a.2 * (b.2 * c.2))
  rw [addP_assoc, Int.mul_assoc]
def LenM (n : Nat) (L : Mv) : Prop := ∀ t ∈ L, t.1.length = n
theorem LenM.append {n : Nat} {L M : Mv} (h : LenM n L) (k : LenM n M) : LenM n (L ++ M) := fun t ht => (List.mem_append.1 ht).elim (h t) (k t)
theorem LenM.scale {n : Nat} {L : Mv} (h : LenM n L) (c : Int) : LenM n (scaleM c L) := fun t ht => by
  obtain ⟨x, hx, rfl⟩ := List.mem_map.1 ht
  exact h x hx
theorem LenM.mul {n : Nat} {L M : Mv} (h : LenM n L) (k : LenM n M) : LenM n (mulM L M) := fun t ht => by
  obtain ⟨a, ha, ht⟩ := List.mem_flatMap.1 ht
  obtain ⟨b, hb, rfl⟩ := List.mem_map.1 ht
  exact addP_length (h a ha) (k b hb)
def EqM (n : Nat) (L M : Mv) : Prop := ∀ p : Plc, p.length = n → coM L p = coM M p
section
variable {n : Nat} {L L' M M' N : Mv}
theorem EqM.refl (n : Nat) (L : Mv) : EqM n L L := fun _ _ => rfl
theorem EqM.symm (h : EqM n L M) : EqM n M L := fun p hp => (h p hp).symm
theorem EqM.trans (h : EqM n L M) (k : EqM n M N) : EqM n L N := fun p hp => (h p hp).trans (k p hp)
theorem EqM.add (h : EqM n L L') (k : EqM n M M') : EqM n (L ++ M) (L' ++ M') := fun p hp => by rw [coM_append, coM_append, h p hp, k p hp]
theorem EqM.scale (h : EqM n L L') (c : Int) : EqM n (scaleM c L) (scaleM c L') := fun p hp => by rw [coM_scale, coM_scale, h p hp]
theorem EqM.perm (h : L.Perm M) : EqM n L M := fun p _ => coM_perm h p
theorem addM_comm (n : Nat) (L M : Mv) : EqM n (L ++ M) (M ++ L) := fun p _ => by rw [coM_append, coM_append, Int.add_comm]
theorem coM_mulR (hL : LenM n L) (hM : LenM n M) {p : Plc} (hp : p.length = n) : coM (mulM L M) p = sumL (fun b : Trm => coM L (subP p b.1) * b.2) M := by
  rw [coM_mul, sumL_swap]
  refine sumL_congr fun b hb => ?_
  unfold coM
  rw [← sumL_mulr]
  refine sumL_congr fun a ha => ?_
  have h := addP_iff (a := a.1) (b := b.1) (p := p) ((hL a ha).trans (hM b hb).symm) ((hL a ha).trans hp.symm)
  by_cases e : addP a.1 b.1 = p
  · rw [if_pos e, if_pos (h.1 e)]
  · rw [if_neg e, if_neg (fun e2 => e (h.2 e2)), Int.zero_mul]
theorem EqM.mulL (h : EqM n L L') (hL : LenM n L) (hL' : LenM n L') (hM : LenM n M) : EqM n (mulM L M) (mulM L' M) := fun p hp => by
  rw [coM_mulR hL hM hp, coM_mulR hL' hM hp]
  exact sumL_congr fun b hb => by rw [h _ (subP_length hp (hM b hb))]
theorem EqM.mul (h : EqM n L L') (k : EqM n M M') (hL : LenM n L) (hL' : LenM n L') (hM : LenM n M) (hM' : LenM n M') : EqM n (mulM L M) (mulM L' M') :=
  (h.mulL hL hL' hM).trans fun p hp => by rw [mulM_comm, mulM_comm L']; exact k.mulL hM hM' hL' p hp
theorem mulM_add (n : Nat) (L M N : Mv) : EqM n (mulM L (M ++ N)) (mulM L M ++ mulM L N) := fun p _ => by
  rw [mulM_comm, mulM_append, coM_append, coM_append, mulM_comm M, mulM_comm N]
end
def ltP : Plc → Plc → Prop
  | x :: a, y :: b => x < y ∨ (x = y ∧ ltP a b)
  | _, _ => False
instance decLtP : ∀ a b : Plc, Decidable (ltP a b)
  | [], _ => .isFalse id
  | _ :: _, [] => .isFalse id
  | _x :: a, _y :: b => @instDecidableOr _ _ _ (@instDecidableAnd _ _ _ (decLtP a b))
theorem ltP.irrefl : ∀ a : Plc, ¬ ltP a a
  | [], h => h
  | x :: a, h => by
    rcases h with h | ⟨_, h⟩
    · omega
    · exact ltP.irrefl a h
theorem ltP.trans : ∀ {a b c : Plc}, ltP a b → ltP b c → ltP a c
  | x :: a, y :: b, z :: c, h, k => by
    rcases h with h | ⟨rfl, h⟩
    · rcases k with k | ⟨rfl, k⟩
      · exact .inl (by omega)
      · exact .inl h
    · rcases k with k | ⟨rfl, k⟩
      · exact .inl k
      · exact .inr ⟨rfl, ltP.trans h k⟩
theorem ltP.tri : ∀ {a b : Plc}, a.length = b.length → ltP a b ∨ a = b ∨ ltP b a
  | [], [], _ => .inr (.inl rfl)
  | x :: a, y :: b, h => by
    rcases Int.lt_trichotomy x y with h1 | rfl | h1
    · exact .inl (.inl h1)
    · rcases ltP.tri (a := a) (b := b) (by simpa using h) with h2 | rfl | h2
      · exact .inl (.inr ⟨rfl, h2⟩)
      · exact .inr (.inl rfl)
      · exact .inr (.inr (.inr ⟨rfl, h2⟩))
    · exact .inr (.inr (.inl h1))
theorem ltP.add : ∀ {a b c d : Plc}, a.length = c.length → b.length = d.length → a.length = b.length → ltP a b → (ltP c d ∨ c = d) → ltP (addP a c) (addP b d)
  | x :: a, y :: b, z :: c, u :: d, h1, h2, h3, h, k => by
    have ih := ltP.add (a := a) (b := b) (c := c) (d := d) (by simpa using h1) (by simpa using h2) (by simpa using h3)
    show x + z < y + u ∨ (x + z = y + u ∧ ltP (addP a c) (addP b d))
    rcases k with k | k
    · rcases h with h | ⟨rfl, h⟩ <;> rcases k with k | ⟨rfl, k⟩
      · exact .inl (by omega)
      · exact .inl (by omega)
      · exact .inl (by omega)
      · exact .inr ⟨rfl, ih h (.inl k)⟩
    · injection k with k1 k2
      subst k1
      rcases h with h | ⟨rfl, h⟩
      · exact .inl (by omega)
      · exact .inr ⟨rfl, ih h (.inr k2)⟩
structure PlainM (n : Nat) (L : Mv) : Prop where
  len : LenM n L
  ord : L.Pairwise fun s t => ltP t.1 s.1
  ne : ∀ t ∈ L, t.2 ≠ 0
section
variable {n : Nat} {L M : Mv}
theorem PlainM.nil (n : Nat) : PlainM n [] := ⟨fun t h => (by cases h), List.Pairwise.nil, fun t h => (by cases h)⟩
theorem PlainM.tail {t : Trm} (h : PlainM n (t :: L)) : PlainM n L := ⟨fun s hs => h.len s (List.mem_cons_of_mem _ hs), (List.pairwise_cons.1 h.ord).2, fun s hs => h.ne s (List.mem_cons_of_mem _ hs)⟩
theorem PlainM.co_head {t : Trm} (h : PlainM n (t :: L)) : coM (t :: L) t.1 = t.2 := by
  rw [coM_cons, if_pos rfl, coM_none fun s hs e => ltP.irrefl t.1 (by have := (List.pairwise_cons.1 h.ord).1 s hs; rwa [e] at this)]; omega
theorem PlainM.co_above {t : Trm} (h : PlainM n (t :: L)) {p : Plc} (hp : ltP t.1 p) : coM (t :: L) p = 0 := by
  refine coM_none fun s hs e => ?_
  subst e
  rcases List.mem_cons.1 hs with rfl | hs
  · exact ltP.irrefl _ hp
  · exact ltP.irrefl _ (ltP.trans hp ((List.pairwise_cons.1 h.ord).1 s hs))
theorem PlainM.co_mem : ∀ {L : Mv}, PlainM n L → ∀ t ∈ L, coM L t.1 = t.2
  | s :: L, h, t, ht => by
    rcases List.mem_cons.1 ht with rfl | ht
    · exact h.co_head
    · rw [coM_cons, if_neg fun e => ltP.irrefl s.1 (by have := (List.pairwise_cons.1 h.ord).1 t ht; rwa [← e] at this), h.tail.co_mem t ht]; omega
theorem PlainM.mem_of_co (_h : PlainM n L) {p : Plc} (hp : coM L p ≠ 0) : ∃ t ∈ L, t.1 = p := by
  by_cases hx : ∃ t ∈ L, t.1 = p
  · exact hx
  · exact absurd (coM_none fun t ht e => hx ⟨t, ht, e⟩) hp
theorem PlainM.unique : ∀ {L M : Mv}, PlainM n L → PlainM n M → EqM n L M → L = M
  | [], [], _, _, _ => rfl
  | [], t :: M, _, k, e => by
    have h := e t.1 (k.len t List.mem_cons_self)
    rw [k.co_head, coM_nil] at h
    exact absurd h.symm (k.ne t List.mem_cons_self)
  | s :: L, [], h, _, e => by
    have h' := e s.1 (h.len s List.mem_cons_self)
    rw [h.co_head, coM_nil] at h'
    exact absurd h' (h.ne s List.mem_cons_self)
  | s :: L, t :: M, h, k, e => by
    have e1 : s.1 = t.1 := by
      rcases ltP.tri ((h.len s List.mem_cons_self).trans (k.len t List.mem_cons_self).symm) with h1 | h1 | h1
      · have h2 := e t.1 (k.len t List.mem_cons_self)
        rw [k.co_head, h.co_above h1] at h2
        exact absurd h2.symm (k.ne t List.mem_cons_self)
      · exact h1
      · have h2 := e s.1 (h.len s List.mem_cons_self)
        rw [h.co_head, k.co_above h1] at h2
        exact absurd h2 (h.ne s List.mem_cons_self)
    have e2 : s.2 = t.2 := by
      have h2 := e s.1 (h.len s List.mem_cons_self)
      rw [h.co_head, e1, k.co_head] at h2
      exact h2
    have e3 : s = t := Prod.ext e1 e2
    subst e3
    rw [PlainM.unique h.tail k.tail fun p hp => by have := e p hp; rw [coM_cons, coM_cons] at this; omega]
theorem PlainM.mul_head {s t : Trm} {L M N : Mv} (h : PlainM n (s :: L)) (k : PlainM n (t :: M)) (hN : PlainM n N) (e : EqM n N (mulM (s :: L) (t :: M))) : ∃ N', N = (addP s.1 t.1, s.2 * t.2) :: N' := by
  have hs := h.len s List.mem_cons_self
  have ht := k.len t List.mem_cons_self
  have hle : ∀ a ∈ s :: L, ∀ b ∈ t :: M, (a = s ∧ b = t) ∨ ltP (addP a.1 b.1) (addP s.1 t.1) := fun a ha b hb => by
    have la := h.len a ha
    have lb := k.len b hb
    rcases List.mem_cons.1 ha with rfl | ha'
    · rcases List.mem_cons.1 hb with rfl | hb'
      · exact .inl ⟨rfl, rfl⟩
      · refine .inr ?_
        rw [addP_comm, addP_comm a.1]
        exact ltP.add (by omega) (by omega) (by omega) ((List.pairwise_cons.1 k.ord).1 b hb') (.inr rfl)
    · refine .inr (ltP.add (by omega) (by omega) (by omega) ((List.pairwise_cons.1 h.ord).1 a ha') ?_)
      rcases List.mem_cons.1 hb with rfl | hb'
      · exact .inr rfl
      · exact .inl ((List.pairwise_cons.1 k.ord).1 b hb')
  have hpl := addP_length hs ht
  have hco : coM (mulM (s :: L) (t :: M)) (addP s.1 t.1) = s.2 * t.2 := by
    rw [coM_mulR h.len k.len hpl]
    show coM (s :: L) (subP (addP s.1 t.1) t.1) * t.2 + sumL _ M = _
    have e1 : s.1 = subP (addP s.1 t.1) t.1 := (addP_iff (by omega) (by omega)).1 rfl
    rw [← e1, h.co_head, sumL_congr (g := fun _ => 0) fun b hb => ?_, sumL_zero]
    · omega
    · have lb := k.len b (List.mem_cons_of_mem _ hb)
      rw [coM_none, Int.zero_mul]
      intro a ha e2
      have la := h.len a ha
      have e3 := (addP_iff (a := a.1) (b := b.1) (p := addP s.1 t.1) (by omega) (by omega)).2 e2
      rcases hle a ha b (List.mem_cons_of_mem _ hb) with ⟨_, h2⟩ | h2
      · subst h2
        exact ltP.irrefl _ ((List.pairwise_cons.1 k.ord).1 b hb)
      · rw [e3] at h2; exact ltP.irrefl _ h2
  have hne : s.2 * t.2 ≠ 0 := Int.mul_ne_zero (h.ne s List.mem_cons_self) (k.ne t List.mem_cons_self)
  obtain ⟨u, hu, hup⟩ := hN.mem_of_co (p := addP s.1 t.1) (by rw [e _ hpl, hco]; exact hne)
  match N, hN, e, hu with
  | v :: N', hN, e, hu =>
    have hv : v.1 = addP s.1 t.1 := by
      rcases List.mem_cons.1 hu with rfl | hu
      · exact hup
      · have h1 := (List.pairwise_cons.1 hN.ord).1 u hu
        rw [hup] at h1
        exfalso
        have h2 := e v.1 (hN.len v List.mem_cons_self)
        rw [hN.co_head, coM_none] at h2
        · exact hN.ne v List.mem_cons_self h2
        · intro x hx e3
          obtain ⟨a, ha, hx⟩ := List.mem_flatMap.1 hx
          obtain ⟨b, hb, rfl⟩ := List.mem_map.1 hx
          have e4 : addP a.1 b.1 = v.1 := e3
          rcases hle a ha b hb with ⟨rfl, rfl⟩ | h3
          · rw [e4] at h1; exact ltP.irrefl _ h1
          · rw [e4] at h3; exact ltP.irrefl _ (ltP.trans h1 h3)
    have hc : v.2 = s.2 * t.2 := by
      have h2 := e v.1 (hN.len v List.mem_cons_self)
      rw [hN.co_head, hv, hco] at h2
      exact h2
    exact ⟨N', by rw [← hv, ← hc]⟩
end
end Cl
namespace Cl
section
variable {n : Nat} {L M N : Mv}
theorem coM_ne {L : Mv} {p : Plc} (h : coM L p ≠ 0) : ∃ t ∈ L, t.1 = p := by
  by_cases hx : ∃ t ∈ L, t.1 = p
  · exact hx
  · exact absurd (coM_none fun t ht e => hx ⟨t, ht, e⟩) h
theorem PlainM.from_ (h : PlainM n L) (e : EqM n L M) {t : Trm} (ht : t ∈ L) : ∃ s ∈ M, s.1 = t.1 := by
  refine coM_ne (L := M) ?_
  rw [← e t.1 (h.len t ht), h.co_mem t ht]
  exact h.ne t ht
theorem PlainM.nodup (h : PlainM n L) : (L.map (·.1)).Pairwise (· ≠ ·) :=
  List.pairwise_map.2 (h.ord.imp fun {s t} (hlt : ltP t.1 s.1) (e : s.1 = t.1) => ltP.irrefl t.1 (by rw [e] at hlt; exact hlt))
theorem nodup_le {α : Type} [DecidableEq α] : ∀ {l m : List α}, l.Pairwise (· ≠ ·) → (∀ x ∈ l, x ∈ m) → l.length ≤ m.length
  | [], _, _, _ => Nat.zero_le _
  | x :: l, m, h, hs => by
    obtain ⟨h1, h2⟩ := List.pairwise_cons.1 h
    have hx := hs x List.mem_cons_self
    have h3 := nodup_le (l := l) (m := m.erase x) h2 fun y hy => by
      have hne : y ≠ x := fun e => h1 y hy e.symm
      exact (List.mem_erase_of_ne hne).2 (hs y (List.mem_cons_of_mem _ hy))
    have h4 := List.length_erase_of_mem hx
    have h5 := List.length_pos_of_mem hx
    show l.length + 1 ≤ _
    omega
theorem PlainM.count (h : PlainM n L) (e : EqM n L M) : L.length ≤ M.length := by
  have h1 := nodup_le (l := L.map (·.1)) (m := M.map (·.1)) h.nodup fun p hp => by
    obtain ⟨t, ht, rfl⟩ := List.mem_map.1 hp
    obtain ⟨s, hs, e2⟩ := h.from_ e ht
    exact List.mem_map.2 ⟨s, hs, e2⟩
  simpa using h1
def absM (L : Mv) : Nat := (L.map fun t => t.2.natAbs).sum
theorem coM_abs : ∀ (L : Mv) (p : Plc), (coM L p).natAbs ≤ absM L
  | [], _ => by show (0 : Int).natAbs ≤ 0; omega
  | t :: L, p => by
    have ih := coM_abs L p
    rw [coM_cons]
    show _ ≤ t.2.natAbs + absM L
    split <;> omega
theorem absM_append (L M : Mv) : absM (L ++ M) = absM L + absM M := by unfold absM; rw [List.map_append, List.sum_append]
theorem absM_le {B : Nat} : ∀ {L : Mv}, (∀ t ∈ L, t.2.natAbs ≤ B) → absM L ≤ L.length * B
  | [], _ => Nat.zero_le _
  | t :: L, h => by
    have ih := absM_le (L := L) fun s hs => h s (List.mem_cons_of_mem _ hs)
    have h1 := h t List.mem_cons_self
    show t.2.natAbs + absM L ≤ (L.length + 1) * B
    rw [Nat.add_mul, Nat.one_mul]; omega
theorem absM_mulOne (a : Trm) : ∀ M : Mv, absM (M.map fun b => (addP a.1 b.1, a.2 * b.2)) = a.2.natAbs * absM M
  | [] => by show 0 = _ * 0; rw [Nat.mul_zero]
  | b :: M => by
    show (a.2 * b.2).natAbs + absM (M.map _) = a.2.natAbs * (b.2.natAbs + absM M)
    rw [absM_mulOne a M, Int.natAbs_mul, Nat.mul_add]
theorem absM_mul : ∀ L M : Mv, absM (mulM L M) = absM L * absM M
  | [], M => by show 0 = 0 * _; rw [Nat.zero_mul]
  | a :: L, M => by
    show absM ((M.map fun b => (addP a.1 b.1, a.2 * b.2)) ++ mulM L M) = (a.2.natAbs + absM L) * absM M
    rw [absM_append, absM_mulOne, absM_mul L M, Nat.add_mul]
theorem PlainM.small (h : PlainM n L) (e : EqM n L M) {t : Trm} (ht : t ∈ L) : t.2.natAbs ≤ absM M := by
  rw [← h.co_mem t ht, e t.1 (h.len t ht)]
  exact coM_abs M t.1
theorem mulM_length (L M : Mv) : (mulM L M).length = L.length * M.length := by
  induction L with
  | nil => show 0 = 0 * _; rw [Nat.zero_mul]
  | cons a L ih =>
    show ((M.map fun b => (addP a.1 b.1, a.2 * b.2)) ++ mulM L M).length = _
    rw [List.length_append, List.length_map, ih, List.length_cons, Nat.add_mul, Nat.one_mul]; omega
def BdM (d : Int) (L : Mv) : Prop := ∀ t ∈ L, ∀ x ∈ t.1, 0 ≤ x ∧ x ≤ d
theorem BdM.append {d : Int} (h : BdM d L) (k : BdM d M) : BdM d (L ++ M) := fun t ht => (List.mem_append.1 ht).elim (h t) (k t)
theorem BdM.mono {d e : Int} (h : BdM d L) (hd : d ≤ e) : BdM e L := fun t ht x hx => by have := h t ht x hx; omega
theorem mem_addP : ∀ {a b : Plc} {x : Int}, x ∈ addP a b → ∃ y ∈ a, ∃ z ∈ b, x = y + z
  | [], b, x, h => by cases b <;> cases h
  | y :: a, [], x, h => by cases h
  | y :: a, z :: b, x, h => by
    rcases List.mem_cons.1 (show x ∈ (y + z) :: addP a b from h) with rfl | h
    · exact ⟨y, List.mem_cons_self, z, List.mem_cons_self, rfl⟩
    · obtain ⟨u, hu, v, hv, e⟩ := mem_addP h
      exact ⟨u, List.mem_cons_of_mem _ hu, v, List.mem_cons_of_mem _ hv, e⟩
theorem BdM.mul {d e : Int} (h : BdM d L) (k : BdM e M) : BdM (d + e) (mulM L M) := fun t ht x hx => by
  obtain ⟨a, ha, ht⟩ := List.mem_flatMap.1 ht
  obtain ⟨b, hb, rfl⟩ := List.mem_map.1 ht
  obtain ⟨y, hy, z, hz, rfl⟩ := mem_addP hx
  have h1 := h a ha y hy
  have h2 := k b hb z hz
  omega
theorem PlainM.bd {d : Int} (h : PlainM n L) (e : EqM n L M) (hb : BdM d M) : BdM d L := fun t ht x hx => by
  obtain ⟨s, hs, e2⟩ := h.from_ e ht
  exact hb s hs x (by rw [e2]; exact hx)
theorem plain_of_sorted (hl : LenM n L) (hd : (L.map (·.1)).Pairwise (· ≠ ·)) (hz : ∀ t ∈ L, t.2 ≠ 0) (hs : L.Pairwise fun s t => ¬ ltP s.1 t.1) : PlainM n L := by
  refine ⟨hl, ?_, hz⟩
  have hd' := List.pairwise_map.1 hd
  have h3 : L.Pairwise fun s t => ¬ ltP s.1 t.1 ∧ s.1 ≠ t.1 := by
    clear hl hz hd
    induction L with
    | nil => exact List.Pairwise.nil
    | cons a L ih =>
      obtain ⟨h1, h2⟩ := List.pairwise_cons.1 hs
      obtain ⟨k1, k2⟩ := List.pairwise_cons.1 hd'
      exact List.pairwise_cons.2 ⟨fun b hb => ⟨h1 b hb, k1 b hb⟩, ih h2 k2⟩
  refine h3.imp_of_mem fun {s t} hs ht ⟨h1, h2⟩ => ?_
  rcases ltP.tri ((hl s hs).trans (hl t ht).symm) with h | h | h
  · exact absurd h h1
  · exact absurd h h2
  · exact h
end
theorem coM_mem_of_nodup : ∀ {L : Mv}, (L.map (·.1)).Pairwise (· ≠ ·) → ∀ t ∈ L, coM L t.1 = t.2
  | s :: L, h, t, ht => by
    obtain ⟨h1, h2⟩ := List.pairwise_cons.1 (show (s.1 :: L.map (·.1)).Pairwise (· ≠ ·) from h)
    rcases List.mem_cons.1 ht with rfl | ht
    · rw [coM_cons, if_pos rfl, coM_none fun u hu e => h1 u.1 (List.mem_map.2 ⟨u, hu, rfl⟩) e.symm]; omega
    · rw [coM_cons, if_neg fun e => h1 t.1 (List.mem_map.2 ⟨t, ht, rfl⟩) e, coM_mem_of_nodup h2 t ht]; omega
end Cl
namespace Cl
theorem mulM_one (s : Plc) (z : Int) (T : Mv) : mulM [(s, z)] T = T.map fun t => (addP s t.1, z * t.2) := by
  unfold mulM
  simp
theorem mulM_neg1 (s : Plc) (z : Int) (q : Plc) : ∀ T : Mv, coM (mulM [(s, -z)] T) q = -coM (mulM [(s, z)] T) q := fun T => by
  rw [mulM_one, mulM_one]
  induction T with
  | nil => rfl
  | cons t T ih =>
    rw [List.map_cons, List.map_cons, coM_cons, coM_cons, ih]
    show (if addP s t.1 = q then -z * t.2 else 0) + _ = -((if addP s t.1 = q then z * t.2 else 0) + _)
    rw [Int.neg_mul]
    split <;> omega
structure LeadM (n : Nat) (R : Mv) (p : Plc) : Prop where
  len : p.length = n
  ne : coM R p ≠ 0
  top : ∀ q, q.length = n → coM R q ≠ 0 → ¬ ltP p q
section
variable {n : Nat} {R R' T : Mv} {p q s pl : Plc} {cl : Int}
theorem addP_cancel {a b c : Plc} (ha : a.length = n) (hb : b.length = n) (hc : c.length = n) (h : addP a c = addP b c) : a = b := by
  have h1 := (addP_iff (a := a) (b := c) (p := addP a c) (by omega) (by rw [addP_length ha hc]; omega)).1 rfl
  have h2 := (addP_iff (a := b) (b := c) (p := addP b c) (by omega) (by rw [addP_length hb hc]; omega)).1 rfl
  rw [h1, h2, h]
inductive Dv (n : Nat) (T : Mv) (pl : Plc) (cl : Int) : Mv → Option Mv → Prop
  | stop {R : Mv} (h : ∀ q, q.length = n → coM R q = 0) : Dv n T pl cl R (some [])
  | rest {R : Mv} {p : Plc} (h : LeadM n R p) (hno : ¬ (coM R p % cl = 0 ∧ ∃ s : Plc, s.length = n ∧ addP s pl = p ∧ ∀ x ∈ s, 0 ≤ x)) : Dv n T pl cl R none
  | step {R : Mv} {p s : Plc} {o : Option Mv} (h : LeadM n R p) (hc : coM R p % cl = 0) (hs : s.length = n) (hp : addP s pl = p) (hs0 : ∀ x ∈ s, 0 ≤ x) (hd : Dv n T pl cl (R ++ mulM [(s, -(coM R p / cl))] T) o) : Dv n T pl cl R (o.map ((s, coM R p / cl) :: ·))
theorem Dv.whole {o : Option Mv} (h : Dv n T pl cl R o) : ∀ Q, o = some Q → LenM n Q → EqM n (mulM Q T) R := by
  induction h with
  | stop h => intro Q e _ q hq; injection e with e; subst e; exact (h q hq).symm
  | rest _ _ => intro Q e; cases e
  | @step R p s o h hc hs hp hs0 hd ih =>
    intro Q e hQ q hq
    cases o with
    | none => cases e
    | some Q' =>
      injection e with e
      subst e
      have h1 := ih Q' rfl (fun t ht => hQ t (List.mem_cons_of_mem _ ht)) q hq
      rw [coM_append] at h1
      have h2 : mulM ((s, coM R p / cl) :: Q') T = mulM [(s, coM R p / cl)] T ++ mulM Q' T := by rw [← mulM_append]; rfl
      rw [h2, coM_append, h1]
      have h3 : coM (mulM [(s, -(coM R p / cl))] T) q = -coM (mulM [(s, coM R p / cl)] T) q := by
        exact mulM_neg1 _ _ _ _
      omega
end
theorem plain_ins {n : Nat} (t : Trm) (ht : t.1.length = n) : ∀ N : Mv, PlainM n N → ∃ N', PlainM n N' ∧ EqM n N' (t :: N) ∧ absM N' ≤ absM (t :: N) ∧ ∀ u ∈ N', u.1 = t.1 ∨ ∃ s ∈ N, s.1 = u.1
  | [], _ => by
    by_cases h0 : t.2 = 0
    · exact ⟨[], PlainM.nil n, fun q _ => by rw [coM_cons, h0]; simp, Nat.zero_le _, fun u hu => by cases hu⟩
    · exact ⟨[t], ⟨fun u hu => by rw [List.mem_singleton.1 hu]; exact ht, List.pairwise_singleton _ _, fun u hu => by rw [List.mem_singleton.1 hu]; exact h0⟩, EqM.refl _ _, Nat.le_refl _, fun u hu => .inl (by rw [List.mem_singleton.1 hu])⟩
  | s :: L, h => by
    have hs := h.len s List.mem_cons_self
    obtain ⟨o1, o2⟩ := List.pairwise_cons.1 h.ord
    have ab : ∀ (a : Trm) (X : Mv), absM (a :: X) = a.2.natAbs + absM X := fun _ _ => rfl
    rcases ltP.tri (a := s.1) (b := t.1) (hs.trans ht.symm) with h1 | h1 | h1
    · by_cases h0 : t.2 = 0
      · exact ⟨s :: L, h, fun q _ => by rw [coM_cons t, h0]; simp, by rw [ab t]; omega, fun u hu => .inr ⟨u, hu, rfl⟩⟩
      · refine ⟨t :: s :: L, ⟨fun u hu => ?_, List.pairwise_cons.2 ⟨fun u hu => ?_, h.ord⟩, fun u hu => ?_⟩, EqM.refl _ _, Nat.le_refl _, fun u hu => ?_⟩
        · rcases List.mem_cons.1 hu with rfl | hu
          · exact ht
          · exact h.len u hu
        · rcases List.mem_cons.1 hu with rfl | hu
          · exact h1
          · exact ltP.trans (o1 u hu) h1
        · rcases List.mem_cons.1 hu with rfl | hu
          · exact h0
          · exact h.ne u hu
        · rcases List.mem_cons.1 hu with rfl | hu
          · exact .inl rfl
          · exact .inr ⟨u, hu, rfl⟩
    · by_cases h0 : s.2 + t.2 = 0
      · refine ⟨L, h.tail, fun q _ => ?_, by rw [ab t, ab s]; omega, fun u hu => .inr ⟨u, List.mem_cons_of_mem _ hu, rfl⟩⟩
        rw [coM_cons, coM_cons, h1]
        split <;> omega
      · refine ⟨(s.1, s.2 + t.2) :: L, ⟨fun u hu => ?_, List.pairwise_cons.2 ⟨o1, o2⟩, fun u hu => ?_⟩, fun q _ => ?_, ?_, fun u hu => ?_⟩
        · rcases List.mem_cons.1 hu with rfl | hu
          · exact hs
          · exact h.len u (List.mem_cons_of_mem _ hu)
        · rcases List.mem_cons.1 hu with rfl | hu
          · exact h0
          · exact h.ne u (List.mem_cons_of_mem _ hu)
        · rw [coM_cons, coM_cons, coM_cons, h1]
          split <;> omega
        · rw [ab t, ab s, ab]
          have := Int.natAbs_add_le s.2 t.2
          show (s.2 + t.2).natAbs + _ ≤ _
          omega
        · rcases List.mem_cons.1 hu with rfl | hu
          · exact .inl h1
          · exact .inr ⟨u, List.mem_cons_of_mem _ hu, rfl⟩
    · obtain ⟨N', k1, k2, k3, k4⟩ := plain_ins t ht L h.tail
      refine ⟨s :: N', ⟨fun u hu => ?_, List.pairwise_cons.2 ⟨fun u hu => ?_, k1.ord⟩, fun u hu => ?_⟩, fun q hq => ?_, ?_, fun u hu => ?_⟩
      · rcases List.mem_cons.1 hu with rfl | hu
        · exact hs
        · exact k1.len u hu
      · rcases k4 u hu with e | ⟨v, hv, e⟩
        · rw [e]; exact h1
        · rw [← e]; exact o1 v hv
      · rcases List.mem_cons.1 hu with rfl | hu
        · exact h.ne _ List.mem_cons_self
        · exact k1.ne u hu
      · rw [coM_cons, k2 q hq, coM_cons, coM_cons, coM_cons]; omega
      · rw [ab, ab t, ab s]
        rw [ab t] at k3
        omega
      · rcases List.mem_cons.1 hu with rfl | hu
        · exact .inr ⟨_, List.mem_cons_self, rfl⟩
        · rcases k4 u hu with e | ⟨v, hv, e⟩
          · exact .inl e
          · exact .inr ⟨v, List.mem_cons_of_mem _ hv, e⟩
theorem plain_ex {n : Nat} : ∀ X : Mv, LenM n X → ∃ N, PlainM n N ∧ EqM n N X ∧ absM N ≤ absM X
  | [], _ => ⟨[], PlainM.nil n, EqM.refl _ _, Nat.le_refl _⟩
  | t :: X, h => by
    obtain ⟨N, h1, h2, h3⟩ := plain_ex X fun u hu => h u (List.mem_cons_of_mem _ hu)
    obtain ⟨N', k1, k2, k3, _⟩ := plain_ins t (h t List.mem_cons_self) N h1
    refine ⟨N', k1, fun q hq => by rw [k2 q hq, coM_cons, coM_cons, h2 q hq], ?_⟩
    have e1 : absM (t :: N) = t.2.natAbs + absM N := rfl
    have e2 : absM (t :: X) = t.2.natAbs + absM X := rfl
    omega
end Cl
namespace Cl
def wP : List Nat → Plc → Nat
  | a :: ws, x :: p => a * x.toNat + wP ws p
  | _, _ => 0
def NonNeg (p : Plc) : Prop := ∀ x ∈ p, 0 ≤ x
theorem NonNeg.add : ∀ {a b : Plc}, NonNeg a → NonNeg b → NonNeg (addP a b) := fun {a b} h k x hx => by
  obtain ⟨y, hy, z, hz, rfl⟩ := mem_addP hx
  have := h y hy
  have := k z hz
  omega
theorem wP_add : ∀ (ws : List Nat) {a b : Plc}, a.length = b.length → NonNeg a → NonNeg b → wP ws (addP a b) = wP ws a + wP ws b
  | [], _, _, _, _, _ => rfl
  | _ :: _, [], [], _, _, _ => rfl
  | c :: ws, x :: a, y :: b, hl, ha, hb => by
    have ih := wP_add ws (a := a) (b := b) (by simpa using hl) (fun z hz => ha z (List.mem_cons_of_mem _ hz)) (fun z hz => hb z (List.mem_cons_of_mem _ hz))
    have h1 := ha x List.mem_cons_self
    have h2 := hb y List.mem_cons_self
    show c * (x + y).toNat + wP ws (addP a b) = c * x.toNat + wP ws a + (c * y.toNat + wP ws b)
    rw [ih, Int.toNat_add h1 h2, Nat.mul_add]
    omega
def Falls (e D : Nat) : List Nat → Prop
  | [] => True
  | a :: ws => D * ws.sum + e ≤ a ∧ Falls e D ws
theorem wP_le (D : Nat) : ∀ (ws : List Nat) {p : Plc}, (∀ x ∈ p, x ≤ (D : Int)) → wP ws p ≤ D * ws.sum
  | [], _, _ => Nat.zero_le _
  | _ :: _, [], _ => Nat.zero_le _
  | a :: ws, x :: p, h => by
    have ih := wP_le D ws (p := p) fun z hz => h z (List.mem_cons_of_mem _ hz)
    have h1 := h x List.mem_cons_self
    have h2 : a * x.toNat ≤ a * D := Nat.mul_le_mul_left _ (by omega)
    show a * x.toNat + wP ws p ≤ D * (a + ws.sum)
    rw [Nat.mul_add, Nat.mul_comm D a]
    omega
theorem wP_lt {e D : Nat} : ∀ {ws : List Nat} {p q : Plc}, Falls e D ws → (he : e = 1 → p.length ≤ ws.length) → NonNeg q → (∀ x ∈ q, x ≤ (D : Int)) → ltP q p → wP ws q + e ≤ wP ws p ∨ (e = 0 ∧ wP ws q ≤ wP ws p) ∨ (ws.length < p.length)
  | [], [], q, _, _, _, _, h => by cases q <;> exact False.elim h
  | _ :: _, [], q, _, _, _, _, h => by cases q <;> exact False.elim h
  | [], _ :: _, [], _, _, _, _, h => False.elim h
  | _ :: _, _ :: _, [], _, _, _, _, h => False.elim h
  | [], x :: p, y :: q, _, _, _, _, _ => .inr (.inr (by simp))
  | a :: ws, x :: p, y :: q, hF, he, h0, hD, hlt => by
    have hy := h0 y List.mem_cons_self
    rcases hlt with h | ⟨rfl, h⟩
    · have h1 := wP_le D ws (p := q) fun z hz => hD z (List.mem_cons_of_mem _ hz)
      have h2 : a * (y.toNat + 1) ≤ a * x.toNat := Nat.mul_le_mul_left _ (by omega)
      rw [Nat.mul_add, Nat.mul_one] at h2
      have h3 := hF.1
      refine .inl ?_
      show a * y.toNat + wP ws q + e ≤ a * x.toNat + wP ws p
      omega
    · rcases wP_lt (ws := ws) hF.2 (fun e1 => by have := he e1; simp at this; omega) (fun z hz => h0 z (List.mem_cons_of_mem _ hz)) (fun z hz => hD z (List.mem_cons_of_mem _ hz)) h with h1 | ⟨h1, h2⟩ | h1
      · refine .inl ?_
        show a * y.toNat + wP ws q + e ≤ a * y.toNat + wP ws p
        omega
      · refine .inr (.inl ⟨h1, ?_⟩)
        show a * y.toNat + wP ws q ≤ a * y.toNat + wP ws p
        omega
      · exact .inr (.inr (by simp; omega))
structure NodM (n : Nat) (N : Mv) : Prop where
  len : LenM n N
  nod : (N.map (·.1)).Pairwise (· ≠ ·)
def insM (t : Trm) : Mv → Mv
  | [] => [t]
  | s :: L => if s.1 = t.1 then (s.1, s.2 + t.2) :: L else s :: insM t L
theorem coM_ins (t : Trm) (p : Plc) : ∀ L : Mv, coM (insM t L) p = coM (t :: L) p
  | [] => rfl
  | s :: L => by
    have ih := coM_ins t p L
    unfold insM
    split
    · next h =>
      rw [coM_cons, coM_cons, coM_cons, h]
      split <;> omega
    · rw [coM_cons, ih, coM_cons, coM_cons, coM_cons]
      omega
theorem mem_ins {t : Trm} : ∀ {L : Mv} {s : Trm}, s ∈ insM t L → s.1 = t.1 ∨ s ∈ L
  | [], s, h => .inl (by rw [List.mem_singleton.1 h])
  | u :: L, s, h => by
    unfold insM at h
    split at h
    · next e =>
      rcases List.mem_cons.1 h with h | h
      · exact .inl (by rw [h]; exact e)
      · exact .inr (List.mem_cons_of_mem _ h)
    · rcases List.mem_cons.1 h with h | h
      · exact .inr (by rw [h]; exact List.mem_cons_self)
      · exact (mem_ins h).imp id (List.mem_cons_of_mem _)
theorem ins_nod {t : Trm} : ∀ {L : Mv}, (L.map (·.1)).Pairwise (· ≠ ·) → ((insM t L).map (·.1)).Pairwise (· ≠ ·)
  | [], _ => List.pairwise_singleton _ _
  | s :: L, h => by
    obtain ⟨h1, h2⟩ := List.pairwise_cons.1 h
    unfold insM
    split
    · exact List.pairwise_cons.2 ⟨h1, h2⟩
    · next hne =>
      refine List.pairwise_cons.2 ⟨fun p hp => ?_, ins_nod h2⟩
      obtain ⟨u, hu, rfl⟩ := List.mem_map.1 hp
      rcases mem_ins hu with e | e
      · rw [e]; exact hne
      · exact h1 _ (List.mem_map.2 ⟨u, e, rfl⟩)
def pot (ws : List Nat) (G : Nat) (N : Mv) : Nat := (N.map fun t => t.2.natAbs * G ^ wP ws t.1).sum
theorem pot_cons (ws : List Nat) (G : Nat) (t : Trm) (N : Mv) : pot ws G (t :: N) = t.2.natAbs * G ^ wP ws t.1 + pot ws G N := rfl
theorem pot_append (ws : List Nat) (G : Nat) (M N : Mv) : pot ws G (M ++ N) = pot ws G M + pot ws G N := by
  unfold pot; rw [List.map_append, List.sum_append]
theorem pot_perm {ws : List Nat} {G : Nat} {M N : Mv} (h : M.Perm N) : pot ws G M = pot ws G N := (h.map _).sum_nat
theorem pot_ins (ws : List Nat) (G : Nat) (t : Trm) : ∀ L : Mv, pot ws G (insM t L) ≤ pot ws G (t :: L)
  | [] => Nat.le_refl _
  | s :: L => by
    have ih := pot_ins ws G t L
    unfold insM
    split
    · next h =>
      rw [pot_cons, pot_cons, pot_cons, ← h]
      have h1 : (s.2 + t.2).natAbs ≤ s.2.natAbs + t.2.natAbs := Int.natAbs_add_le _ _
      have h2 := Nat.mul_le_mul_right (G ^ wP ws s.1) h1
      rw [Nat.add_mul] at h2
      show (s.2 + t.2).natAbs * G ^ wP ws s.1 + _ ≤ _
      omega
    · rw [pot_cons, pot_cons, pot_cons]
      rw [pot_cons] at ih
      omega
theorem nf_ex {n : Nat} (ws : List Nat) (G : Nat) {C : Plc → Prop} : ∀ X : Mv, LenM n X → (∀ t ∈ X, C t.1) → ∃ N, NodM n N ∧ EqM n N X ∧ pot ws G N ≤ pot ws G X ∧ ∀ t ∈ N, C t.1
  | [], _, _ => ⟨[], ⟨fun t h => (by cases h), List.Pairwise.nil⟩, EqM.refl _ _, Nat.le_refl _, fun t h => (by cases h)⟩
  | t :: X, hl, hC => by
    obtain ⟨N, h1, h2, h3, h4⟩ := nf_ex ws G X (fun s hs => hl s (List.mem_cons_of_mem _ hs)) (fun s hs => hC s (List.mem_cons_of_mem _ hs))
    refine ⟨insM t N, ⟨fun s hs => ?_, ins_nod h1.nod⟩, fun p hp => ?_, ?_, fun s hs => ?_⟩
    · rcases mem_ins hs with e | e
      · rw [e]; exact hl t List.mem_cons_self
      · exact h1.len s e
    · rw [coM_ins, coM_cons, coM_cons, h2 p hp]
    · have := pot_ins ws G t N
      rw [pot_cons] at this ⊢
      omega
    · rcases mem_ins hs with e | e
      · rw [e]; exact hC t List.mem_cons_self
      · exact h4 s e
theorem pot_co {ws : List Nat} {G : Nat} (hG : 1 ≤ G) : ∀ {N : Mv} {p : Plc}, (coM N p).natAbs ≤ pot ws G N
  | [], _ => Nat.zero_le _
  | t :: N, p => by
    have ih := pot_co (ws := ws) hG (N := N) (p := p)
    rw [coM_cons, pot_cons]
    have h1 : 1 ≤ G ^ wP ws t.1 := Nat.pow_pos hG
    have h2 : t.2.natAbs * 1 ≤ t.2.natAbs * G ^ wP ws t.1 := Nat.mul_le_mul_left _ h1
    split <;> omega
structure Sm (n : Nat) (ws vs : List Nat) (G F W : Nat) (R N : Mv) : Prop where
  nod : NodM n N
  eq : EqM n N R
  pt : pot ws G N ≤ F
  nn : ∀ t ∈ N, NonNeg t.1
  wt : ∀ t ∈ N, wP vs t.1 ≤ W
section
variable {n : Nat} {ws vs : List Nat} {G F W D : Nat} {R N T P' : Mv} {pl p s : Plc} {cl : Int}
theorem Sm.co (h : Sm n ws vs G F W R N) (hG : 1 ≤ G) {p : Plc} (hp : p.length = n) : (coM R p).natAbs ≤ F := by
  rw [← h.eq p hp]
  exact Nat.le_trans (pot_co hG) h.pt
theorem Sm.mem (h : Sm n ws vs G F W R N) {p : Plc} (hp : p.length = n) (h0 : coM R p ≠ 0) : (p, coM R p) ∈ N := by
  rw [← h.eq p hp] at h0 ⊢
  obtain ⟨t, ht, rfl⟩ := coM_ne h0
  rw [coM_mem_of_nodup h.nod.nod t ht]
  exact ht
theorem pot_times (hG1 : 1 ≤ G) (hG : absM P' ≤ G) (hs : s.length = n) (hs0 : NonNeg s) (z : Int) (hP : LenM n P') {w : Nat} (hw : ∀ t ∈ P', NonNeg t.1 ∧ wP ws s + wP ws t.1 + 1 ≤ w) : pot ws G (mulM [(s, z)] P') ≤ z.natAbs * G ^ w := by
  have key : ∀ L : Mv, LenM n L → (∀ t ∈ L, NonNeg t.1 ∧ wP ws s + wP ws t.1 + 1 ≤ w) → pot ws G (mulM [(s, z)] L) ≤ z.natAbs * (absM L * G ^ (w - 1)) := by
    intro L hL hw
    rw [mulM_one]
    induction L with
    | nil => exact Nat.zero_le _
    | cons t L ih =>
      have h1 := ih (fun u hu => hL u (List.mem_cons_of_mem _ hu)) (fun u hu => hw u (List.mem_cons_of_mem _ hu))
      obtain ⟨h2, h3⟩ := hw t List.mem_cons_self
      rw [List.map_cons, pot_cons]
      have h4 : (z * t.2).natAbs * G ^ wP ws (addP s t.1) ≤ z.natAbs * (t.2.natAbs * G ^ (w - 1)) := by
        rw [wP_add ws (hs.trans (hL t List.mem_cons_self).symm) hs0 h2, Int.natAbs_mul, Nat.mul_assoc]
        refine Nat.mul_le_mul_left _ (Nat.mul_le_mul_left _ ?_)
        exact Nat.pow_le_pow_right hG1 (by omega)
      have h5 : absM (t :: L) = t.2.natAbs + absM L := rfl
      rw [h5, Nat.add_mul, Nat.mul_add]
      exact Nat.add_le_add h4 h1
  have h1 := key P' hP hw
  cases P' with
  | nil => exact Nat.zero_le _
  | cons t L =>
    obtain ⟨_, h3⟩ := hw t List.mem_cons_self
    have h4 : absM (t :: L) * G ^ (w - 1) ≤ G * G ^ (w - 1) := Nat.mul_le_mul_right _ hG
    have h5 : G * G ^ (w - 1) = G ^ w := by
      rw [Nat.mul_comm, ← Nat.pow_succ]
      congr 1
      omega
    rw [h5] at h4
    exact Nat.le_trans h1 (Nat.mul_le_mul_left _ h4)
structure DivT (n : Nat) (ws vs : List Nat) (G : Nat) (T P' : Mv) (pl : Plc) (cl : Int) : Prop where
  pln : PlainM n ((pl, cl) :: P')
  eq : EqM n ((pl, cl) :: P') T
  lenT : LenM n T
  ab : absM P' ≤ G
  pos : 1 ≤ G
  nn : NonNeg pl ∧ ∀ t ∈ P', NonNeg t.1
  str : ∀ t ∈ P', wP ws t.1 + 1 ≤ wP ws pl
  weak : ∀ t ∈ P', wP vs t.1 ≤ wP vs pl
theorem Sm.step (h : Sm n ws vs G F W R N) (hT : DivT n ws vs G T P' pl cl) (hp : p.length = n) (h0 : coM R p ≠ 0) (hc : coM R p % cl = 0) (hs : s.length = n) (hsp : addP s pl = p) (hs0 : NonNeg s) :
    ∃ N', Sm n ws vs G F W (R ++ mulM [(s, -(coM R p / cl))] T) N' := by
  have hpm := h.mem hp h0
  have hperm := List.perm_cons_erase hpm
  have hpl : pl.length = n := hT.pln.len (pl, cl) List.mem_cons_self
  have hlP : LenM n P' := hT.pln.tail.len
  have hw := h.wt _ hpm
  have hwp : wP vs p = wP vs s + wP vs pl := by rw [← hsp, wP_add vs (hs.trans hpl.symm) hs0 hT.nn.1]
  have hwq : wP ws p = wP ws s + wP ws pl := by rw [← hsp, wP_add ws (hs.trans hpl.symm) hs0 hT.nn.1]
  have hmlen : LenM n (mulM [(s, -(coM R p / cl))] P') := LenM.mul (fun t ht => by rw [List.mem_singleton.1 ht]; exact hs) hlP
  have hme : ∀ t ∈ N.erase (p, coM R p), t ∈ N := fun t ht => List.mem_of_mem_erase ht
  have hin : ∀ t ∈ N.erase (p, coM R p) ++ mulM [(s, -(coM R p / cl))] P', NonNeg t.1 ∧ wP vs t.1 ≤ W := fun t ht => by
    rcases List.mem_append.1 ht with ht | ht
    · exact ⟨h.nn t (hme t ht), h.wt t (hme t ht)⟩
    · rw [mulM_one] at ht
      obtain ⟨u, hu, rfl⟩ := List.mem_map.1 ht
      have h1 := hT.nn.2 u hu
      refine ⟨hs0.add h1, ?_⟩
      show wP vs (addP s u.1) ≤ W
      rw [wP_add vs (hs.trans (hlP u hu).symm) hs0 h1]
      have h2 := hT.weak u hu
      have h3 : wP vs p ≤ W := hw
      omega
  obtain ⟨N', e1, e2, e3, e4⟩ := nf_ex ws G (C := fun q => NonNeg q ∧ wP vs q ≤ W) (N.erase (p, coM R p) ++ mulM [(s, -(coM R p / cl))] P') (LenM.append (fun t ht => h.nod.len t (hme t ht)) hmlen) hin
  refine ⟨N', e1, fun q hq => ?_, ?_, fun t ht => (e4 t ht).1, fun t ht => (e4 t ht).2⟩
  · have h1 : coM R q = (if p = q then coM R p else 0) + coM (N.erase (p, coM R p)) q := by
      rw [← h.eq q hq, coM_perm hperm q, coM_cons]
    have h2 : coM (mulM [(s, -(coM R p / cl))] T) q = (if p = q then -coM R p else 0) + coM (mulM [(s, -(coM R p / cl))] P') q := by
      have h3 : EqM n (mulM [(s, -(coM R p / cl))] ((pl, cl) :: P')) (mulM [(s, -(coM R p / cl))] T) := (EqM.refl n [(s, -(coM R p / cl))]).mul hT.eq (fun t ht => by rw [List.mem_singleton.1 ht]; exact hs) (fun t ht => by rw [List.mem_singleton.1 ht]; exact hs) hT.pln.len hT.lenT
      rw [← h3 q hq, mulM_one, mulM_one, List.map_cons, coM_cons]
      show (if addP s pl = q then -(coM R p / cl) * cl else 0) + _ = _
      rw [hsp, Int.neg_mul, Int.ediv_mul_cancel (Int.dvd_of_emod_eq_zero hc)]
    rw [e2 q hq, coM_append, coM_append, h1, h2]
    split <;> omega
  · have h1 : pot ws G N = (coM R p).natAbs * G ^ wP ws p + pot ws G (N.erase (p, coM R p)) := by rw [pot_perm hperm, pot_cons]
    have h2 := pot_times (ws := ws) (s := s) hT.pos hT.ab hs hs0 (-(coM R p / cl)) hlP (w := wP ws p) fun t ht => ⟨hT.nn.2 t ht, by have := hT.str t ht; omega⟩
    have h3 : (-(coM R p / cl)).natAbs ≤ (coM R p).natAbs := by
      rw [Int.natAbs_neg]
      have h4 : coM R p / cl * cl = coM R p := Int.ediv_mul_cancel (Int.dvd_of_emod_eq_zero hc)
      have h5 : (coM R p / cl).natAbs * cl.natAbs = (coM R p).natAbs := by rw [← Int.natAbs_mul, h4]
      have h6 : 1 ≤ cl.natAbs := by
        rcases Nat.eq_zero_or_pos cl.natAbs with h7 | h7
        · rw [h7] at h5; omega
        · exact h7
      have h7 : (coM R p / cl).natAbs * 1 ≤ (coM R p / cl).natAbs * cl.natAbs := Nat.mul_le_mul_left _ h6
      omega
    have h4 := Nat.mul_le_mul_right (G ^ wP ws p) h3
    have h5 := h.pt
    rw [pot_append] at e3
    omega
end
end Cl
namespace Cl
theorem bern (a y : Nat) : ∀ k : Nat, (k + 1) * a * y ^ k + y ^ (k + 1) ≤ (y + a) ^ (k + 1)
  | 0 => by
    rw [Nat.pow_zero, Nat.zero_add, Nat.pow_one, Nat.pow_one]
    omega
  | k + 1 => by
    have ih := Nat.mul_le_mul_right (y + a) (bern a y k)
    rw [← Nat.pow_succ] at ih
    have h1 : ((k + 1) * a * y ^ k + y ^ (k + 1)) * (y + a) = ((k + 1) * a * y ^ (k + 1) + a * y ^ (k + 1) + y ^ (k + 1 + 1)) + (k + 1) * a * y ^ k * a := by
      have e1 : y ^ (k + 1 + 1) = y ^ (k + 1) * y := Nat.pow_succ ..
      have e2 : (k + 1) * a * y ^ (k + 1) = (k + 1) * a * y ^ k * y := by rw [Nat.pow_succ, ← Nat.mul_assoc]
      rw [Nat.add_mul, Nat.mul_add, Nat.mul_add, e1, e2, Nat.mul_comm a (y ^ (k + 1))]
      omega
    have h2 : (k + 1 + 1) * a * y ^ (k + 1) = (k + 1) * a * y ^ (k + 1) + a * y ^ (k + 1) := by
      rw [Nat.add_mul (k + 1) 1 a, Nat.one_mul, Nat.add_mul]
    rw [h1] at ih
    rw [h2]
    have h3 : (y + a) ^ (k + 1).succ = (y + a) ^ (k + 1 + 1) := rfl
    rw [h3] at ih
    omega
def allP : List Nat → Nat → List Plc
  | [], _ => [[]]
  | a :: ws, W => (List.range (W / a + 1)).flatMap fun x => (allP ws (W - a * x)).map fun p => (x : Int) :: p
theorem mem_allP : ∀ {ws : List Nat} {W : Nat} {p : Plc}, p.length = ws.length → NonNeg p → (∀ a ∈ ws, 0 < a) → wP ws p ≤ W → p ∈ allP ws W
  | [], _, [], _, _, _, _ => List.mem_singleton.2 rfl
  | a :: ws, W, x :: p, hl, h0, ha, hw => by
    have hx := h0 x List.mem_cons_self
    have h1 : a * x.toNat + wP ws p ≤ W := hw
    have h2 : x.toNat * a ≤ W := by rw [Nat.mul_comm]; omega
    have ih := mem_allP (ws := ws) (W := W - a * x.toNat) (p := p) (by simpa using hl) (fun z hz => h0 z (List.mem_cons_of_mem _ hz)) (fun z hz => ha z (List.mem_cons_of_mem _ hz)) (by omega)
    refine List.mem_flatMap.2 ⟨x.toNat, List.mem_range.2 ?_, List.mem_map.2 ⟨p, ih, ?_⟩⟩
    · have := (Nat.le_div_iff_mul_le (ha a List.mem_cons_self)).2 h2
      omega
    · rw [Int.toNat_of_nonneg hx]
def facP : List Nat → Nat
  | [] => 1
  | a :: ws => (ws.length + 1) * a * facP ws
theorem allP_count : ∀ (ws : List Nat) (W : Nat), (∀ a ∈ ws, 0 < a) → facP ws * (allP ws W).length ≤ (W + ws.sum) ^ ws.length
  | [], W, _ => by show 1 * 1 ≤ _ ^ 0; rw [Nat.pow_zero]; omega
  | a :: ws, W, ha => by
    have ih := fun V => allP_count ws V fun z hz => ha z (List.mem_cons_of_mem _ hz)
    have key : ∀ j, j ≤ W / a + 1 → facP (a :: ws) * ((List.range j).flatMap fun x => (allP ws (W - a * x)).map fun p => (x : Int) :: p).length + (W + ws.sum + a - a * j) ^ (ws.length + 1) ≤ (W + ws.sum + a) ^ (ws.length + 1) := by
      intro j
      induction j with
      | zero => intro _; rw [List.range_zero]; show facP (a :: ws) * 0 + (W + ws.sum + a - a * 0) ^ _ ≤ _; rw [Nat.mul_zero, Nat.mul_zero, Nat.sub_zero, Nat.zero_add]; exact Nat.le_refl _
      | succ j ihj =>
        intro hj
        have h1 := ihj (by omega)
        have h2 : j * a ≤ W := (Nat.le_div_iff_mul_le (ha a List.mem_cons_self)).1 (by omega)
        rw [Nat.mul_comm] at h2
        have h3 := ih (W - a * j)
        have h4 := bern a (W + ws.sum - a * j) ws.length
        have h5 : W + ws.sum - a * j + a = W + ws.sum + a - a * j := by omega
        have h6 : W + ws.sum + a - a * (j + 1) = W + ws.sum - a * j := by rw [Nat.mul_add, Nat.mul_one]; omega
        have h7 : W - a * j + ws.sum = W + ws.sum - a * j := by omega
        rw [h5] at h4
        rw [h7] at h3
        rw [List.range_succ, List.flatMap_append, List.length_append, h6, Nat.mul_add]
        have h8 : facP (a :: ws) * (((fun x : Nat => (allP ws (W - a * x)).map fun p => (x : Int) :: p) j)).length ≤ (ws.length + 1) * a * (W + ws.sum - a * j) ^ ws.length := by
          rw [List.length_map]
          show (ws.length + 1) * a * facP ws * _ ≤ _
          rw [Nat.mul_assoc]
          exact Nat.mul_le_mul_left _ h3
        have h9 : ([j].flatMap fun x : Nat => (allP ws (W - a * x)).map fun p => (x : Int) :: p) = ((fun x : Nat => (allP ws (W - a * x)).map fun p => (x : Int) :: p) j) := by
          rw [List.flatMap_cons, List.flatMap_nil, List.append_nil]
        rw [h9]
        omega
    have h1 := key (W / a + 1) (Nat.le_refl _)
    have h2 : W + (a :: ws).sum = W + ws.sum + a := by rw [List.sum_cons]; omega
    rw [h2]
    exact Nat.le_trans (Nat.le_add_right _ _) h1
theorem places_count {ws : List Nat} {W C : Nat} {l : List Plc} (ha : ∀ a ∈ ws, 0 < a) (hC : (W + ws.sum) ^ ws.length < facP ws * (C + 1)) (hd : l.Pairwise (· ≠ ·)) (hl : ∀ p ∈ l, p.length = ws.length ∧ NonNeg p ∧ wP ws p ≤ W) : l.length ≤ C := by
  have h1 := nodup_le (m := allP ws W) hd fun p hp => mem_allP (hl p hp).1 (hl p hp).2.1 ha (hl p hp).2.2
  have h2 := allP_count ws W ha
  rcases Nat.lt_or_ge C l.length with h | h
  · have h3 : facP ws * (C + 1) ≤ facP ws * (allP ws W).length := Nat.mul_le_mul_left _ (by omega)
    omega
  · exact h
theorem ltP_cancel {n : Nat} {a b c : Plc} (ha : a.length = n) (hb : b.length = n) (hc : c.length = n) (h : ltP (addP a c) (addP b c)) : ltP a b := by
  rcases ltP.tri (ha.trans hb.symm) with h1 | rfl | h1
  · exact h1
  · exact absurd h (ltP.irrefl _)
  · exact absurd (ltP.trans h (ltP.add (by omega) (by omega) (by omega) h1 (.inr rfl))) (ltP.irrefl _)
structure DvS (n : Nat) (ws vs : List Nat) (G F W : Nat) (T P' : Mv) (pl : Plc) (cl : Int) (L R Qs : Mv) : Prop where
  sm : ∃ N, Sm n ws vs G F W R N
  lenR : LenM n R
  lenQ : LenM n Qs
  nnQ : ∀ t ∈ Qs, NonNeg t.1 ∧ wP vs t.1 ≤ W
  pair : Qs.Pairwise fun s t => ltP t.1 s.1
  neQ : ∀ t ∈ Qs, t.2 ≠ 0
  abQ : ∀ t ∈ Qs, t.2.natAbs ≤ F
  low : ∀ q, q.length = n → coM R q ≠ 0 → ∀ t ∈ Qs, ltP q (addP t.1 pl)
  run : ∀ o, Dv n T pl cl R o → Dv n T pl cl L (o.map (Qs ++ ·))
section
variable {n : Nat} {ws vs : List Nat} {G F W C : Nat} {T P' L R Qs : Mv} {pl p s : Plc} {cl : Int}
theorem DvS.start (hL : LenM n L) (hn : ∀ t ∈ L, NonNeg t.1 ∧ wP vs t.1 ≤ W) (hF : pot ws G L ≤ F) : DvS n ws vs G F W T P' pl cl L L [] := by
  obtain ⟨N, e1, e2, e3, e4⟩ := nf_ex ws G (C := fun q => NonNeg q ∧ wP vs q ≤ W) L hL hn
  exact ⟨⟨N, e1, e2, Nat.le_trans e3 hF, fun t ht => (e4 t ht).1, fun t ht => (e4 t ht).2⟩, hL, fun t h => (by cases h), fun t h => (by cases h), List.Pairwise.nil, fun t h => (by cases h), fun t h => (by cases h), fun _ _ _ t h => (by cases h), fun o h => by cases o <;> exact h⟩
theorem DvS.co (h : DvS n ws vs G F W T P' pl cl L R Qs) (hG : 1 ≤ G) {q : Plc} (hq : q.length = n) : (coM R q).natAbs ≤ F := by
  obtain ⟨N, hN⟩ := h.sm
  exact hN.co hG hq
theorem DvS.nn (h : DvS n ws vs G F W T P' pl cl L R Qs) {q : Plc} (hq : q.length = n) (h0 : coM R q ≠ 0) : NonNeg q ∧ wP vs q ≤ W := by
  obtain ⟨N, hN⟩ := h.sm
  have := hN.mem hq h0
  exact ⟨hN.nn _ this, hN.wt _ this⟩
theorem DvS.step (h : DvS n ws vs G F W T P' pl cl L R Qs) (hT : DivT n ws vs G T P' pl cl) (hp : LeadM n R p) (hc : coM R p % cl = 0) (hs : s.length = n) (hsp : addP s pl = p) (hs0 : NonNeg s) :
    DvS n ws vs G F W T P' pl cl L (R ++ mulM [(s, -(coM R p / cl))] T) (Qs ++ [(s, coM R p / cl)]) := by
  obtain ⟨N, hN⟩ := h.sm
  have hpl : pl.length = n := hT.pln.len (pl, cl) List.mem_cons_self
  obtain ⟨hp0, hpW⟩ := h.nn hp.len hp.ne
  have hcl : coM R p / cl * cl = coM R p := Int.ediv_mul_cancel (Int.dvd_of_emod_eq_zero hc)
  have hq0 : coM R p / cl ≠ 0 := fun e => hp.ne (by rw [← hcl, e, Int.zero_mul])
  have hone : LenM n [(s, coM R p / cl)] := fun t ht => by rw [List.mem_singleton.1 ht]; exact hs
  have hone' : LenM n [(s, -(coM R p / cl))] := fun t ht => by rw [List.mem_singleton.1 ht]; exact hs
  have hnew : ∀ q, q.length = n → coM (R ++ mulM [(s, -(coM R p / cl))] T) q ≠ 0 → ltP q p := fun q hq h0 => by
    rcases ltP.tri (hq.trans hp.len.symm) with h1 | h1 | h1
    · exact h1
    · exfalso
      subst h1
      apply h0
      have h3 : EqM n (mulM [(s, -(coM R q / cl))] ((pl, cl) :: P')) (mulM [(s, -(coM R q / cl))] T) := (EqM.refl n _).mul hT.eq hone' hone' hT.pln.len hT.lenT
      rw [coM_append, ← h3 q hq, mulM_one, List.map_cons, coM_cons]
      show coM R q + ((if addP s pl = q then -(coM R q / cl) * cl else 0) + _) = 0
      rw [if_pos hsp, Int.neg_mul, hcl, coM_none (L := P'.map _) fun t ht e => ?_]
      · omega
      · obtain ⟨u, hu, rfl⟩ := List.mem_map.1 ht
        have h4 := (List.pairwise_cons.1 hT.pln.ord).1 u hu
        have h5 : ltP (addP u.1 s) (addP pl s) := ltP.add (by rw [hT.pln.tail.len u hu, hs]) (by omega) (by rw [hT.pln.tail.len u hu, hpl]) h4 (.inr rfl)
        rw [addP_comm u.1, addP_comm pl, hsp] at h5
        have e' : addP s u.1 = q := e
        rw [e'] at h5
        exact ltP.irrefl _ h5
    · exfalso
      apply h0
      have h3 : EqM n (mulM [(s, -(coM R p / cl))] ((pl, cl) :: P')) (mulM [(s, -(coM R p / cl))] T) := (EqM.refl n _).mul hT.eq hone' hone' hT.pln.len hT.lenT
      have h4 : coM R q = 0 := Decidable.byContradiction fun h5 => hp.top q hq h5 h1
      rw [coM_append, ← h3 q hq, mulM_one, h4, coM_none (L := List.map _ ((pl, cl) :: P')) fun t ht e => ?_]
      · omega
      · obtain ⟨u, hu, rfl⟩ := List.mem_map.1 ht
        have e' : addP s u.1 = q := e
        rcases List.mem_cons.1 hu with rfl | hu
        · rw [hsp] at e'; subst e'; exact ltP.irrefl _ h1
        · have h4 := (List.pairwise_cons.1 hT.pln.ord).1 u hu
          have h5 : ltP (addP u.1 s) (addP pl s) := ltP.add (by rw [hT.pln.tail.len u hu, hs]) (by omega) (by rw [hT.pln.tail.len u hu, hpl]) h4 (.inr rfl)
          rw [addP_comm u.1, addP_comm pl, hsp, e'] at h5
          exact ltP.irrefl _ (ltP.trans h1 h5)
  refine ⟨hN.step hT hp.len hp.ne hc hs hsp hs0, h.lenR.append (hone'.mul hT.lenT), h.lenQ.append hone, fun t ht => ?_, ?_, fun t ht => ?_, fun t ht => ?_, fun q hq h0 t ht => ?_, fun o ho => ?_⟩
  · rcases List.mem_append.1 ht with ht | ht
    · exact h.nnQ t ht
    · rw [List.mem_singleton.1 ht]
      refine ⟨hs0, ?_⟩
      rw [← hsp, wP_add vs (hs.trans hpl.symm) hs0 hT.nn.1] at hpW
      show wP vs s ≤ W
      omega
  · refine List.pairwise_append.2 ⟨h.pair, List.pairwise_singleton _ _, fun t ht u hu => ?_⟩
    rw [List.mem_singleton.1 hu]
    have h1 := h.low p hp.len hp.ne t ht
    rw [← hsp] at h1
    exact ltP_cancel hs (h.lenQ t ht) hpl h1
  · rcases List.mem_append.1 ht with ht | ht
    · exact h.neQ t ht
    · rw [List.mem_singleton.1 ht]; exact hq0
  · rcases List.mem_append.1 ht with ht | ht
    · exact h.abQ t ht
    · rw [List.mem_singleton.1 ht]
      have h1 := hN.co hT.pos hp.len
      have h5 : (coM R p / cl).natAbs * cl.natAbs = (coM R p).natAbs := by rw [← Int.natAbs_mul, hcl]
      have h6 : 1 ≤ cl.natAbs := by
        have := hT.pln.ne (pl, cl) List.mem_cons_self
        have h7 : cl ≠ 0 := this
        omega
      have h7 : (coM R p / cl).natAbs * 1 ≤ (coM R p / cl).natAbs * cl.natAbs := Nat.mul_le_mul_left _ h6
      show (coM R p / cl).natAbs ≤ F
      omega
  · have h1 := hnew q hq h0
    rcases List.mem_append.1 ht with ht | ht
    · exact ltP.trans h1 (h.low p hp.len hp.ne t ht)
    · rw [List.mem_singleton.1 ht, hsp]; exact h1
  · have h1 := h.run _ (Dv.step hp hc hs hsp hs0 ho)
    rw [Option.map_map] at h1
    have h2 : ((Qs ++ ·) ∘ ((s, coM R p / cl) :: ·)) = ((Qs ++ [(s, coM R p / cl)]) ++ ·) := by
      funext X
      show Qs ++ ((s, coM R p / cl) :: X) = (Qs ++ [(s, coM R p / cl)]) ++ X
      rw [List.append_assoc]
      rfl
    rw [h2] at h1
    exact h1
theorem DvS.count (h : DvS n ws vs G F W T P' pl cl L R Qs) (hv : vs.length = n) (ha : ∀ a ∈ vs, 0 < a) (hC : (W + vs.sum) ^ vs.length < facP vs * (C + 1)) : Qs.length ≤ C := by
  have h1 := places_count (l := Qs.map (·.1)) ha hC (List.pairwise_map.2 (h.pair.imp fun {s t} (hlt : ltP t.1 s.1) (e : s.1 = t.1) => ltP.irrefl t.1 (by rw [e] at hlt; exact hlt))) fun p hp => by
    obtain ⟨t, ht, rfl⟩ := List.mem_map.1 hp
    exact ⟨by rw [hv]; exact h.lenQ t ht, (h.nnQ t ht).1, (h.nnQ t ht).2⟩
  rw [List.length_map] at h1
  exact h1
theorem DvS.plain (h : DvS n ws vs G F W T P' pl cl L R Qs) : PlainM n Qs := ⟨h.lenQ, h.pair, h.neQ⟩
theorem DvS.done (h : DvS n ws vs G F W T P' pl cl L R Qs) (h0 : ∀ q, q.length = n → coM R q = 0) : Dv n T pl cl L (some Qs) := by
  have := h.run _ (.stop h0)
  simpa using this
theorem DvS.no (h : DvS n ws vs G F W T P' pl cl L R Qs) (hp : LeadM n R p) (hno : ¬ (coM R p % cl = 0 ∧ ∃ s : Plc, s.length = n ∧ addP s pl = p ∧ ∀ x ∈ s, 0 ≤ x)) : Dv n T pl cl L none := h.run _ (.rest hp hno)
end
end Cl
namespace Cl
def cn (p : Plc) (i : Nat) : Int := p.getD i 0
theorem cn_lt {p : Plc} {i : Nat} (h : i < p.length) : cn p i = p[i] := by unfold cn; simp [List.getD, h]
theorem cn_ext {p q : Plc} {n : Nat} (hp : p.length = n) (hq : q.length = n) (h : ∀ i, i < n → cn p i = cn q i) : p = q := by
  refine List.ext_getElem (by omega) fun i h1 h2 => ?_
  have := h i (by omega)
  rwa [cn_lt h1, cn_lt h2] at this
theorem cn_add {p q : Plc} {n i : Nat} (hp : p.length = n) (hq : q.length = n) (hi : i < n) : cn (addP p q) i = cn p i + cn q i := by
  have hl := addP_length hp hq
  have e : (addP p q)[i]'(by omega) = p[i]'(by omega) + q[i]'(by omega) := List.getElem_zipWith
  rw [cn_lt (by omega), cn_lt (by omega), cn_lt (by omega), e]
def dot (n : Nat) (w : Nat → Int) (p : Plc) : Int := sumL (fun i => w i * cn p i) (List.range n)
section
variable {n : Nat}
theorem dot_add {w : Nat → Int} {p q : Plc} (hp : p.length = n) (hq : q.length = n) : dot n w (addP p q) = dot n w p + dot n w q := by
  unfold dot
  rw [← sumL_add]
  exact sumL_congr fun i hi => by rw [cn_add hp hq (List.mem_range.1 hi), Int.mul_add]
theorem dot_lin (c d : Int) (w v : Nat → Int) (p : Plc) : dot n (fun i => c * w i + d * v i) p = c * dot n w p + d * dot n v p := by
  unfold dot
  rw [← sumL_mul, ← sumL_mul, ← sumL_add]
  exact sumL_congr fun i _ => by rw [Int.add_mul, Int.mul_assoc, Int.mul_assoc]
theorem range_nodup (n : Nat) : (List.range n).Pairwise (· ≠ ·) := List.pairwise_lt_range.imp fun h e => by omega
theorem dot_unit {i : Nat} (hi : i < n) (p : Plc) : dot n (fun j => if j = i then 1 else 0) p = cn p i := by
  unfold dot
  rw [sumL_only (range_nodup n) (List.mem_range.2 hi) fun j _ hj => by show (if j = i then (1 : Int) else 0) * cn p j = 0; rw [if_neg hj, Int.zero_mul]]
  show (if i = i then (1 : Int) else 0) * cn p i = cn p i
  rw [if_pos rfl, Int.one_mul]
theorem dot_one {R : Nat → Int} {p q : Plc} {i : Nat} (hi : i < n) (h : ∀ j, j < n → j ≠ i → R j = 0 ∨ cn p j = cn q j) : dot n R p - dot n R q = R i * (cn p i - cn q i) := by
  have h1 : dot n R p - dot n R q = sumL (fun j => R j * (cn p j - cn q j)) (List.range n) := by
    have h2 : sumL (fun j => R j * (cn p j - cn q j) + R j * cn q j) (List.range n) = dot n R p := sumL_congr fun j _ => by rw [Int.mul_sub]; omega
    rw [sumL_add] at h2
    unfold dot at *
    omega
  rw [h1]
  exact sumL_only (range_nodup n) (List.mem_range.2 hi) fun j hj hji => by
    rcases h j (List.mem_range.1 hj) hji with h | h
    · rw [h, Int.zero_mul]
    · rw [h, Int.sub_self, Int.mul_zero]
def Cst (n : Nat) (w : Nat → Int) (S : List Plc) : Prop := ∀ p ∈ S, ∀ q ∈ S, dot n w p = dot n w q
theorem Cst.sub {w : Nat → Int} {S A : List Plc} (h : Cst n w S) (hA : ∀ p ∈ A, p ∈ S) : Cst n w A := fun p hp q hq => h p (hA p hp) q (hA q hq)
theorem Cst.lin {w v : Nat → Int} {S : List Plc} (h : Cst n w S) (k : Cst n v S) (c d : Int) : Cst n (fun i => c * w i + d * v i) S := fun p hp q hq => by
  rw [dot_lin, dot_lin, h p hp q hq, k p hp q hq]
def Fix (n : Nat) (S : List Plc) (J : List Nat) : Prop := ∀ i, i < n → i ∉ J → ∃ R : Nat → Int, R i ≠ 0 ∧ (∀ j, j < n → j ∉ J → j ≠ i → R j = 0) ∧ Cst n R S
def Big (n : Nat) (S : List Plc) (d : Nat) : Prop := ∀ J : List Nat, J.length < d → ¬ Fix n S J
theorem fix_few : ∀ S : List Plc, S ≠ [] → ∃ J : List Nat, J.length + 1 ≤ S.length ∧ Fix n S J
  | [], h => absurd rfl h
  | [p], _ => ⟨[], by simp, fun i _ _ => ⟨fun j => if j = i then 1 else 0, by simp, fun j _ _ h => if_neg h, fun a ha b hb => by rw [List.mem_singleton.1 ha, List.mem_singleton.1 hb]⟩⟩
  | p :: s :: S, _ => by
    obtain ⟨J, hJ, hF⟩ := fix_few (s :: S) (by simp)
    by_cases hx : ∃ (i0 : Nat) (R0 : Nat → Int), i0 < n ∧ i0 ∉ J ∧ R0 i0 ≠ 0 ∧ (∀ j, j < n → j ∉ J → j ≠ i0 → R0 j = 0) ∧ Cst n R0 (s :: S) ∧ dot n R0 p ≠ dot n R0 s
    · obtain ⟨i0, R0, h0, h1, h2, h3, h4, h5⟩ := hx
      refine ⟨i0 :: J, by simp only [List.length_cons] at hJ ⊢; omega, fun i hi hiJ => ?_⟩
      have hi1 : i ≠ i0 := fun e => hiJ (by rw [e]; exact List.mem_cons_self)
      have hi2 : i ∉ J := fun e => hiJ (List.mem_cons_of_mem _ e)
      obtain ⟨R, r1, r2, r3⟩ := hF i hi hi2
      refine ⟨fun j => (dot n R0 p - dot n R0 s) * R j + (-(dot n R p - dot n R s)) * R0 j, ?_, fun j hj hjJ hji => ?_, ?_⟩
      · show (dot n R0 p - dot n R0 s) * R i + (-(dot n R p - dot n R s)) * R0 i ≠ 0
        rw [h3 i hi hi2 hi1, Int.mul_zero, Int.add_zero]
        exact Int.mul_ne_zero (by omega) r1
      · show (dot n R0 p - dot n R0 s) * R j + (-(dot n R p - dot n R s)) * R0 j = 0
        have hj1 : j ≠ i0 := fun e => hjJ (by rw [e]; exact List.mem_cons_self)
        have hj2 : j ∉ J := fun e => hjJ (List.mem_cons_of_mem _ e)
        rw [h3 j hj hj2 hj1, r2 j hj hj2 hji, Int.mul_zero, Int.mul_zero, Int.add_zero]
      · have e : ∀ a ∈ p :: s :: S, dot n (fun j => (dot n R0 p - dot n R0 s) * R j + (-(dot n R p - dot n R s)) * R0 j) a = (dot n R0 p - dot n R0 s) * dot n R s + (-(dot n R p - dot n R s)) * dot n R0 s := fun a ha => by
          rw [dot_lin]
          rcases List.mem_cons.1 ha with rfl | ha
          · generalize dot n R0 a = x, dot n R0 s = y, dot n R a = z, dot n R s = t
            rw [Int.sub_mul, Int.sub_mul, Int.neg_mul, Int.neg_mul, Int.sub_mul, Int.sub_mul, Int.mul_comm z x, Int.mul_comm t x, Int.mul_comm z y, Int.mul_comm t y]
            omega
          · rw [r3 a ha s List.mem_cons_self, h4 a ha s List.mem_cons_self]
        exact fun a ha b hb => (e a ha).trans (e b hb).symm
    · refine ⟨J, by simp only [List.length_cons] at hJ ⊢; omega, fun i hi hiJ => ?_⟩
      obtain ⟨R, r1, r2, r3⟩ := hF i hi hiJ
      refine ⟨R, r1, r2, ?_⟩
      have hp : dot n R p = dot n R s := Classical.byContradiction fun h => hx ⟨i, R, hi, hiJ, r1, r2, r3, h⟩
      have e : ∀ a ∈ p :: s :: S, dot n R a = dot n R s := fun a ha => by
        rcases List.mem_cons.1 ha with rfl | ha
        · exact hp
        · exact r3 a ha s List.mem_cons_self
      exact fun a ha b hb => (e a ha).trans (e b hb).symm
theorem Big.le {S : List Plc} {d : Nat} (h : Big n S d) (hS : S ≠ []) : d + 1 ≤ S.length := by
  obtain ⟨J, h1, h2⟩ := fix_few (n := n) S hS
  have h3 : ¬ J.length < d := fun h3 => h J h3 h2
  omega
def isTop (n : Nat) (w : Nat → Int) (S : List Plc) (p : Plc) : Prop := p ∈ S ∧ ∀ q ∈ S, dot n w q ≤ dot n w p
theorem top_ex (w : Nat → Int) : ∀ S : List Plc, S ≠ [] → ∃ p, isTop n w S p
  | [], h => absurd rfl h
  | [p], _ => ⟨p, List.mem_cons_self, fun q hq => by rw [List.mem_singleton.1 hq]; exact Int.le_refl _⟩
  | p :: s :: S, _ => by
    obtain ⟨t, h1, h2⟩ := top_ex w (s :: S) (by simp)
    by_cases hle : dot n w p ≤ dot n w t
    · exact ⟨t, List.mem_cons_of_mem _ h1, fun q hq => (List.mem_cons.1 hq).elim (fun e => by rw [e]; exact hle) (h2 q)⟩
    · exact ⟨p, List.mem_cons_self, fun q hq => (List.mem_cons.1 hq).elim (fun e => by rw [e]; exact Int.le_refl _) fun hq => by have := h2 q hq; omega⟩
theorem isTop.eq {w : Nat → Int} {S : List Plc} {p q : Plc} (h : isTop n w S p) (k : isTop n w S q) : dot n w p = dot n w q := Int.le_antisymm (k.2 p h.1) (h.2 q k.1)
theorem isTop.of_eq {w : Nat → Int} {S : List Plc} {p q : Plc} (h : isTop n w S p) (hq : q ∈ S) (e : dot n w q = dot n w p) : isTop n w S q := ⟨hq, fun r hr => by rw [e]; exact h.2 r hr⟩
def face (n : Nat) (w : Nat → Int) (S : List Plc) : List Plc := S.filter fun p => decide (∀ q ∈ S, dot n w q ≤ dot n w p)
theorem mem_face {w : Nat → Int} {S : List Plc} {p : Plc} : p ∈ face n w S ↔ isTop n w S p := by
  unfold face isTop
  rw [List.mem_filter, decide_eq_true_iff]
theorem filter_lt {α : Type} {P Q : α → Bool} : ∀ {L : List α}, (∀ a ∈ L, P a = true → Q a = true) → (∃ a ∈ L, Q a = true ∧ ¬ P a = true) → (L.filter P).length + 1 ≤ (L.filter Q).length
  | [], _, ⟨a, ha, _⟩ => (by cases ha)
  | x :: L, h, ⟨a, ha, hQ, hP⟩ => by
    have hL : ∀ a ∈ L, P a = true → Q a = true := fun a ha => h a (List.mem_cons_of_mem _ ha)
    have hle : (L.filter P).length ≤ (L.filter Q).length := by
      clear ha h
      induction L with
      | nil => exact Nat.le_refl _
      | cons y L ih =>
        have h1 := ih fun a ha => hL a (List.mem_cons_of_mem _ ha)
        have h2 := hL y List.mem_cons_self
        by_cases hy : P y = true
        · rw [List.filter_cons_of_pos hy, List.filter_cons_of_pos (h2 hy)]; simpa using h1
        · rw [List.filter_cons_of_neg hy]
          by_cases hy2 : Q y = true
          · rw [List.filter_cons_of_pos hy2]; simp only [List.length_cons]; omega
          · rw [List.filter_cons_of_neg hy2]; exact h1
    rcases List.mem_cons.1 ha with rfl | ha
    · rw [List.filter_cons_of_neg hP, List.filter_cons_of_pos hQ]
      simp only [List.length_cons]; omega
    · have h1 := filter_lt hL ⟨a, ha, hQ, hP⟩
      by_cases hx : P x = true
      · rw [List.filter_cons_of_pos hx, List.filter_cons_of_pos (h x List.mem_cons_self hx)]; simp only [List.length_cons]; omega
      · rw [List.filter_cons_of_neg hx]
        by_cases hx2 : Q x = true
        · rw [List.filter_cons_of_pos hx2]; simp only [List.length_cons]; omega
        · rw [List.filter_cons_of_neg hx2]; exact h1
theorem face_lt {u v : Nat → Int} {S : List Plc} (h : ∀ p, isTop n u S p → isTop n v S p) {s : Plc} (hs : isTop n v S s) (hn : ¬ isTop n u S s) : (face n u S).length + 1 ≤ (face n v S).length := by
  refine filter_lt (fun a ha h1 => ?_) ⟨s, hs.1, decide_eq_true_iff.2 hs.2, fun h1 => hn ⟨hs.1, decide_eq_true_iff.1 h1⟩⟩
  exact decide_eq_true_iff.2 (h a ⟨ha, decide_eq_true_iff.1 h1⟩).2
theorem face_le (u : Nat → Int) (S : List Plc) : (face n u S).length ≤ S.length := List.length_filter_le _ _
theorem ratio {α : Type} (g h : α → Int) : ∀ L : List α, L ≠ [] → (∀ s ∈ L, 0 < h s) → ∃ s ∈ L, ∀ t ∈ L, g t * h s ≤ g s * h t
  | [], h, _ => absurd rfl h
  | [x], _, _ => ⟨x, List.mem_cons_self, fun t ht => by rw [List.mem_singleton.1 ht]; exact Int.le_refl _⟩
  | x :: y :: L, _, hp => by
    obtain ⟨s, h1, h2⟩ := ratio g h (y :: L) (by simp) fun s hs => hp s (List.mem_cons_of_mem _ hs)
    have hs := hp s (List.mem_cons_of_mem _ h1)
    have hx := hp x List.mem_cons_self
    by_cases hle : g x * h s ≤ g s * h x
    · exact ⟨s, List.mem_cons_of_mem _ h1, fun t ht => (List.mem_cons.1 ht).elim (fun e => by rw [e]; exact hle) (h2 t)⟩
    · refine ⟨x, List.mem_cons_self, fun t ht => (List.mem_cons.1 ht).elim (fun e => by rw [e]; exact Int.le_refl _) fun ht => ?_⟩
      have ht0 := hp t (List.mem_cons_of_mem _ ht)
      have k1 := Int.mul_le_mul_of_nonneg_right (h2 t ht) (Int.le_of_lt hx)
      have k2 := Int.mul_le_mul_of_nonneg_right (Int.le_of_lt (Int.not_le.1 hle)) (Int.le_of_lt ht0)
      refine Int.le_of_mul_le_mul_right (a := h s) ?_ hs
      have e1 : g t * h x * h s = g t * h s * h x := by rw [Int.mul_assoc, Int.mul_comm (h x), ← Int.mul_assoc]
      have e2 : g s * h t * h x = g s * h x * h t := by rw [Int.mul_assoc, Int.mul_comm (h t), ← Int.mul_assoc]
      have e3 : g x * h s * h t = g x * h t * h s := by rw [Int.mul_assoc, Int.mul_comm (h s), ← Int.mul_assoc]
      rw [e1]
      rw [e2] at k1
      rw [e3] at k2
      omega
theorem rot {S : List Plc} {u : Nat → Int} {p0 : Plc} (h0 : isTop n u S p0) (G : Plc → Int) (hG : ∀ t, isTop n u S t → G t = 0) (hu : ¬ Cst n u S) : ∃ s ∈ S, 0 < dot n u p0 - dot n u s ∧ (∀ t ∈ S, G t * (dot n u p0 - dot n u s) ≤ G s * (dot n u p0 - dot n u t)) := by
  have hL : (S.filter fun s => decide (dot n u s < dot n u p0)) ≠ [] := fun e => hu (by
    have h1 : ∀ s ∈ S, dot n u s = dot n u p0 := fun s hs => by
      have h2 : ¬ dot n u s < dot n u p0 := fun h => by
        have h3 : s ∈ S.filter fun s => decide (dot n u s < dot n u p0) := List.mem_filter.2 ⟨hs, decide_eq_true_iff.2 h⟩
        rw [e] at h3
        cases h3
      have := h0.2 s hs
      omega
    exact fun a ha b hb => (h1 a ha).trans (h1 b hb).symm)
  obtain ⟨s, h1, h2⟩ := ratio G (fun s => dot n u p0 - dot n u s) _ hL fun s hs => by
    have := decide_eq_true_iff.1 (List.mem_filter.1 hs).2
    omega
  have hs := decide_eq_true_iff.1 (List.mem_filter.1 h1).2
  refine ⟨s, (List.mem_filter.1 h1).1, by omega, fun t ht => ?_⟩
  by_cases hlt : dot n u t < dot n u p0
  · exact h2 t (List.mem_filter.2 ⟨ht, decide_eq_true_iff.2 hlt⟩)
  · have h3 := h0.2 t ht
    have h4 : isTop n u S t := h0.of_eq ht (by omega)
    rw [hG t h4, Int.zero_mul, show dot n u p0 - dot n u t = 0 by omega, Int.mul_zero]
    exact Int.le_refl _
theorem rot_top {S : List Plc} {u R : Nat → Int} {p0 s : Plc} {c d : Int} (h0 : isTop n u S p0) (hR : ∀ t, isTop n u S t → dot n R t = dot n R p0) (hs : s ∈ S) (h1 : 0 < dot n u p0 - dot n u s)
    (h2 : ∀ t ∈ S, d * (dot n R t - dot n R p0) ≤ c * (dot n u p0 - dot n u t)) (h3 : d * (dot n R s - dot n R p0) = c * (dot n u p0 - dot n u s)) :
    (∀ p, isTop n u S p → isTop n (fun i => c * u i + d * R i) S p) ∧ isTop n (fun i => c * u i + d * R i) S s ∧ ¬ isTop n u S s := by
  have h0V : isTop n (fun i => c * u i + d * R i) S p0 := ⟨h0.1, fun t ht => by
    rw [dot_lin, dot_lin]
    have h4 := h2 t ht
    rw [Int.mul_sub, Int.mul_sub] at h4
    omega⟩
  refine ⟨fun p hp => h0V.of_eq hp.1 ?_, h0V.of_eq hs ?_, fun h => by have := h.eq h0; omega⟩
  · rw [dot_lin, dot_lin, hp.eq h0, hR p hp]
  · rw [dot_lin, dot_lin]
    rw [Int.mul_sub, Int.mul_sub] at h3
    omega
theorem nl1 {c1 c2 H1 H2 U R : Int} (h1 : c1 * U + H1 * R = 0) (h2 : c2 * U + -H2 * R = 0) : (c1 * H2 + c2 * H1) * U = 0 := by grind
theorem nl2 {g g1 g2 h h1 h2 : Int} (e : g1 * h2 = g2 * h1) (k1 : 0 < h1) (k2 : 0 < h2) (a : g * h1 ≤ g1 * h) (b : -g * h2 ≤ -g2 * h) : h1 * g = g1 * h := by
  have b2 : g2 * h ≤ g * h2 := by rw [Int.neg_mul, Int.neg_mul] at b; omega
  have b3 := Int.mul_le_mul_of_nonneg_right b2 (Int.le_of_lt k1)
  have e2 : g2 * h * h1 = g1 * h * h2 := by grind
  have e3 : g * h2 * h1 = h1 * g * h2 := by grind
  rw [e2, e3] at b3
  have b4 := Int.le_of_mul_le_mul_right b3 k2
  rw [Int.mul_comm g] at a
  omega
theorem rot2 {S A : List Plc} {u R : Nat → Int} (hA : ∀ p ∈ A, p ∈ S) (hS : S ≠ []) (hu : ¬ Cst n u A) (hR : Cst n R (face n u S)) (hno : ∀ c d : Int, d ≠ 0 → ¬ Cst n (fun i => c * u i + d * R i) S) :
    ∃ v, ¬ Cst n v A ∧ (∀ p, isTop n u S p → isTop n v S p) ∧ ∃ s, isTop n v S s ∧ ¬ isTop n u S s := by
  obtain ⟨p0, h0⟩ := top_ex (n := n) u S hS
  have huS : ¬ Cst n u S := fun h => hu (h.sub hA)
  have hR0 : ∀ t, isTop n u S t → dot n R t = dot n R p0 := fun t ht => hR t (mem_face.2 ht) p0 (mem_face.2 h0)
  obtain ⟨s1, a1, a2, a3⟩ := rot h0 (fun t => dot n R t - dot n R p0) (fun t ht => by have := hR0 t ht; show _ - _ = (0 : Int); omega) huS
  obtain ⟨s2, b1, b2, b3⟩ := rot h0 (fun t => -(dot n R t - dot n R p0)) (fun t ht => by have := hR0 t ht; show -(_ - _) = (0 : Int); omega) huS
  obtain ⟨x1, x2, x3⟩ := rot_top (c := dot n R s1 - dot n R p0) (d := dot n u p0 - dot n u s1) h0 hR0 a1 a2 (fun t ht => by rw [Int.mul_comm]; exact a3 t ht) (Int.mul_comm _ _)
  obtain ⟨y1, y2, y3⟩ := rot_top (c := -(dot n R s2 - dot n R p0)) (d := -(dot n u p0 - dot n u s2)) h0 hR0 b1 b2 (fun t ht => by have h : -(dot n R t - dot n R p0) * (dot n u p0 - dot n u s2) ≤ -(dot n R s2 - dot n R p0) * (dot n u p0 - dot n u t) := b3 t ht; rw [Int.neg_mul, Int.mul_comm, ← Int.neg_mul] at h; exact h) (by rw [Int.neg_mul, Int.neg_mul, Int.mul_comm])
  by_cases hc1 : Cst n (fun i => (dot n R s1 - dot n R p0) * u i + (dot n u p0 - dot n u s1) * R i) A
  · refine ⟨_, fun hc2 => ?_, y1, s2, y2, y3⟩
    have hk : ∀ p ∈ A, ∀ q ∈ A, ((dot n R s1 - dot n R p0) * (dot n u p0 - dot n u s2) + -(dot n R s2 - dot n R p0) * (dot n u p0 - dot n u s1)) * (dot n u p - dot n u q) = 0 := fun p hp q hq => by
      have k1 := hc1 p hp q hq
      have k2 := hc2 p hp q hq
      rw [dot_lin, dot_lin] at k1 k2
      refine nl1 (R := dot n R p - dot n R q) ?_ ?_
      · rw [Int.mul_sub, Int.mul_sub]; omega
      · rw [Int.mul_sub, Int.mul_sub]; omega
    have hz : (dot n R s1 - dot n R p0) * (dot n u p0 - dot n u s2) + -(dot n R s2 - dot n R p0) * (dot n u p0 - dot n u s1) = 0 := Classical.byContradiction fun h => hu fun p hp q hq => by
      rcases Int.mul_eq_zero.1 (hk p hp q hq) with h2 | h2
      · exact absurd h2 h
      · omega
    rw [Int.neg_mul] at hz
    refine hno (dot n R s1 - dot n R p0) (dot n u p0 - dot n u s1) (by omega) ?_
    have e : ∀ t ∈ S, dot n (fun i => (dot n R s1 - dot n R p0) * u i + (dot n u p0 - dot n u s1) * R i) t = (dot n R s1 - dot n R p0) * dot n u p0 + (dot n u p0 - dot n u s1) * dot n R p0 := fun t ht => by
      rw [dot_lin]
      have h := nl2 (by omega) a2 b2 (a3 t ht) (b3 t ht)
      rw [Int.mul_sub, Int.mul_sub] at h
      omega
    exact fun a ha b hb => (e a ha).trans (e b hb).symm
  · exact ⟨_, hc1, x1, s1, x2, x3⟩
theorem rel_ex {S : List Plc} {u : Nat → Int} {d : Nat} {J : List Nat} (hB : Big n S (d + 1)) (hJ : J.length < d) (hF : Fix n (face n u S) J) : ∃ R : Nat → Int, Cst n R (face n u S) ∧ ∀ c e : Int, e ≠ 0 → ¬ Cst n (fun i => c * u i + e * R i) S := by
  refine Classical.byContradiction fun hx => ?_
  have hall : ∀ R : Nat → Int, Cst n R (face n u S) → ∃ c e : Int, e ≠ 0 ∧ Cst n (fun i => c * u i + e * R i) S := fun R hR => Classical.byContradiction fun h => hx ⟨R, hR, fun c e he hc => h ⟨c, e, he, hc⟩⟩
  by_cases h0 : ∃ (i0 : Nat) (R0 : Nat → Int) (c0 e0 : Int), i0 < n ∧ i0 ∉ J ∧ R0 i0 ≠ 0 ∧ (∀ j, j < n → j ∉ J → j ≠ i0 → R0 j = 0) ∧ e0 ≠ 0 ∧ c0 ≠ 0 ∧ Cst n (fun i => c0 * u i + e0 * R0 i) S
  · obtain ⟨i0, R0, c0, e0, k0, k1, k2, k3, k4, k5, k6⟩ := h0
    refine hB (i0 :: J) (by simp only [List.length_cons]; omega) fun i hi hiJ => ?_
    have hi1 : i ≠ i0 := fun e => hiJ (by rw [e]; exact List.mem_cons_self)
    have hi2 : i ∉ J := fun e => hiJ (List.mem_cons_of_mem _ e)
    obtain ⟨R, r1, r2, r3⟩ := hF i hi hi2
    obtain ⟨c, e, he, hc⟩ := hall R r3
    refine ⟨fun j => c0 * (c * u j + e * R j) + (-c) * (c0 * u j + e0 * R0 j), ?_, fun j hj hjJ hji => ?_, hc.lin k6 c0 (-c)⟩
    · show c0 * (c * u i + e * R i) + (-c) * (c0 * u i + e0 * R0 i) ≠ 0
      rw [k3 i hi hi2 hi1, show c0 * (c * u i + e * R i) + -c * (c0 * u i + e0 * 0) = c0 * (e * R i) by grind]
      exact Int.mul_ne_zero k5 (Int.mul_ne_zero he r1)
    · show c0 * (c * u j + e * R j) + (-c) * (c0 * u j + e0 * R0 j) = 0
      have hj1 : j ≠ i0 := fun e => hjJ (by rw [e]; exact List.mem_cons_self)
      have hj2 : j ∉ J := fun e => hjJ (List.mem_cons_of_mem _ e)
      rw [k3 j hj hj2 hj1, r2 j hj hj2 hji]
      grind
  · refine hB J (by omega) fun i hi hiJ => ?_
    obtain ⟨R, r1, r2, r3⟩ := hF i hi hiJ
    obtain ⟨c, e, he, hc⟩ := hall R r3
    refine ⟨R, r1, r2, ?_⟩
    have hc0 : c = 0 := Classical.byContradiction fun h => h0 ⟨i, R, c, e, hi, hiJ, r1, r2, he, h, hc⟩
    subst hc0
    intro p hp q hq
    have h := hc p hp q hq
    rw [dot_lin, dot_lin, Int.zero_mul, Int.zero_mul, Int.zero_add, Int.zero_add] at h
    exact Int.eq_of_mul_eq_mul_left he h
theorem facet {S A : List Plc} {d : Nat} (hA : ∀ p ∈ A, p ∈ S) (hS : S ≠ []) (hB : Big n S (d + 1)) : ∀ (k : Nat) (u : Nat → Int), ¬ Cst n u A → S.length ≤ (face n u S).length + k → ∃ v, ¬ Cst n v A ∧ (∀ p, isTop n u S p → isTop n v S p) ∧ Big n (face n v S) d := by
  intro k
  induction k with
  | zero =>
    intro u hu hk
    by_cases hb : Big n (face n u S) d
    · exact ⟨u, hu, fun p hp => hp, hb⟩
    · exfalso
      obtain ⟨J, hJ, hF⟩ : ∃ J : List Nat, J.length < d ∧ Fix n (face n u S) J := Classical.byContradiction fun h => hb fun J hJ hF => h ⟨J, hJ, hF⟩
      obtain ⟨R, hR, hno⟩ := rel_ex hB hJ hF
      obtain ⟨v, _, v2, s, v3, v4⟩ := rot2 hA hS hu hR hno
      have h1 := face_lt v2 v3 v4
      have h2 := face_le (n := n) v S
      omega
  | succ k ih =>
    intro u hu hk
    by_cases hb : Big n (face n u S) d
    · exact ⟨u, hu, fun p hp => hp, hb⟩
    · obtain ⟨J, hJ, hF⟩ : ∃ J : List Nat, J.length < d ∧ Fix n (face n u S) J := Classical.byContradiction fun h => hb fun J hJ hF => h ⟨J, hJ, hF⟩
      obtain ⟨R, hR, hno⟩ := rel_ex hB hJ hF
      obtain ⟨v, v1, v2, s, v3, v4⟩ := rot2 hA hS hu hR hno
      have h1 := face_lt v2 v3 v4
      obtain ⟨x, x1, x2, x3⟩ := ih v v1 (by omega)
      exact ⟨x, x1, fun p hp => x2 p (v2 p hp), x3⟩
def Coloop (n : Nat) (S : List Plc) (t : Plc) : Prop := ∃ f : Nat → Int, (∀ p ∈ S, p ≠ t → ∀ q ∈ S, q ≠ t → dot n f p = dot n f q) ∧ ∃ p ∈ S, p ≠ t ∧ dot n f p ≠ dot n f t
end
end Cl
namespace Cl
section
variable {n : Nat}
def levM (n : Nat) (w : Nat → Int) (c : Int) (M : Mv) : Mv := M.filter fun t => decide (dot n w t.1 = c)
theorem mem_lev {w : Nat → Int} {c : Int} {M : Mv} {t : Trm} : t ∈ levM n w c M ↔ t ∈ M ∧ dot n w t.1 = c := by
  unfold levM
  rw [List.mem_filter, decide_eq_true_iff]
theorem sumL_fil {α : Type} (f : α → Int) (P : α → Bool) : ∀ L : List α, sumL f (L.filter P) = sumL (fun a => if P a = true then f a else 0) L
  | [] => rfl
  | a :: L => by
    show _ = (if P a = true then f a else 0) + sumL _ L
    rw [← sumL_fil f P L]
    by_cases h : P a = true
    · rw [List.filter_cons_of_pos h, if_pos h]; rfl
    · rw [List.filter_cons_of_neg h, if_neg h]; omega
theorem coM_lev (w : Nat → Int) (c : Int) (M : Mv) (p : Plc) : coM (levM n w c M) p = if dot n w p = c then coM M p else 0 := by
  unfold coM levM
  rw [sumL_fil]
  by_cases h : dot n w p = c
  · rw [if_pos h]
    refine sumL_congr fun t _ => ?_
    by_cases e : t.1 = p
    · rw [if_pos e, e, h, if_pos (decide_eq_true rfl)]
    · rw [if_neg e]; split <;> rfl
  · rw [if_neg h]
    refine (sumL_congr (g := fun _ => 0) fun t _ => ?_).trans (sumL_zero M)
    by_cases e : t.1 = p
    · rw [if_pos e, e, if_neg (fun h2 => h (decide_eq_true_iff.1 h2))]
    · rw [if_neg e]; split <;> rfl
theorem PlainM.filter {M : Mv} (h : PlainM n M) (P : Trm → Bool) : PlainM n (M.filter P) :=
  ⟨fun t ht => h.len t (List.mem_filter.1 ht).1, h.ord.filter _, fun t ht => h.ne t (List.mem_filter.1 ht).1⟩
theorem PlainM.lev {M : Mv} (h : PlainM n M) (w : Nat → Int) (c : Int) : PlainM n (levM n w c M) := h.filter _
theorem LenM.lev {M : Mv} (h : LenM n M) (w : Nat → Int) (c : Int) : LenM n (levM n w c M) := fun t ht => h t (mem_lev.1 ht).1
theorem EqM.lev {L M : Mv} (h : EqM n L M) (w : Nat → Int) (c : Int) : EqM n (levM n w c L) (levM n w c M) := fun p hp => by
  rw [coM_lev, coM_lev, h p hp]
theorem lev_mul_top {w : Nat → Int} {c d : Int} {q b : Mv} (lq : LenM n q) (lb : LenM n b) (hq : ∀ t ∈ q, dot n w t.1 ≤ c) (hb : ∀ t ∈ b, dot n w t.1 ≤ d) : EqM n (mulM (levM n w c q) (levM n w d b)) (levM n w (c + d) (mulM q b)) := fun p _ => by
  rw [coM_lev, coM_mul, coM_mul]
  unfold levM
  rw [sumL_fil]
  have e : ∀ s ∈ q, (if decide (dot n w s.1 = c) = true then sumL (fun t : Trm => if addP s.1 t.1 = p then s.2 * t.2 else 0) (b.filter fun t => decide (dot n w t.1 = d)) else 0) = if dot n w p = c + d then sumL (fun t : Trm => if addP s.1 t.1 = p then s.2 * t.2 else 0) b else 0 := fun s hs => by
    rw [sumL_fil]
    have k1 := hq s hs
    by_cases hp : dot n w p = c + d
    · rw [if_pos hp]
      by_cases h1 : dot n w s.1 = c
      · rw [if_pos (decide_eq_true h1)]
        refine sumL_congr fun t ht => ?_
        by_cases h2 : addP s.1 t.1 = p
        · have h3 := dot_add (w := w) (lq s hs) (lb t ht)
          rw [h2] at h3
          rw [if_pos h2, if_pos (decide_eq_true (by omega))]
        · rw [if_neg h2]; split <;> rfl
      · rw [if_neg fun h => h1 (decide_eq_true_iff.1 h), sumL_congr (g := fun _ => 0) fun t ht => ?_, sumL_zero]
        by_cases h2 : addP s.1 t.1 = p
        · have h3 := dot_add (w := w) (lq s hs) (lb t ht)
          have k2 := hb t ht
          rw [h2] at h3
          exfalso
          omega
        · rw [if_neg h2]
    · rw [if_neg hp]
      by_cases h1 : dot n w s.1 = c
      · rw [if_pos (decide_eq_true h1), sumL_congr (g := fun _ => 0) fun t ht => ?_, sumL_zero]
        by_cases h2 : addP s.1 t.1 = p
        · have h3 := dot_add (w := w) (lq s hs) (lb t ht)
          rw [h2] at h3
          rw [if_neg fun h => hp (by have := decide_eq_true_iff.1 h; omega)]
        · rw [if_neg h2]; split <;> rfl
      · rw [if_neg fun h => h1 (decide_eq_true_iff.1 h)]
  rw [sumL_congr e]
  by_cases hp : dot n w p = c + d
  · rw [if_pos hp]; exact sumL_congr fun s _ => if_pos hp
  · rw [if_neg hp]; exact (sumL_congr (g := fun _ => 0) fun s _ => if_neg hp).trans (sumL_zero q)
theorem lev_mul_hom {w : Nat → Int} {c d : Int} {x y : Mv} (lx : LenM n x) (ly : LenM n y) (hx : ∀ t ∈ x, dot n w t.1 = c) : levM n w (c + d) (mulM x y) = mulM x (levM n w d y) := by
  unfold levM mulM
  rw [List.filter_flatMap]
  refine flat_congr fun s hs => ?_
  rw [List.filter_map]
  refine congrArg _ (List.filter_congr fun t ht => ?_)
  show decide (dot n w (addP s.1 t.1) = c + d) = decide (dot n w t.1 = d)
  rw [dot_add (lx s hs) (ly t ht), hx s hs]
  exact decide_eq_decide.2 (by omega)
def pts (M : Mv) : List Plc := M.map (·.1)
theorem mem_pts {M : Mv} {p : Plc} : p ∈ pts M ↔ ∃ t ∈ M, t.1 = p := List.mem_map
theorem pts_len {M : Mv} (h : LenM n M) {p : Plc} (hp : p ∈ pts M) : p.length = n := by
  obtain ⟨t, ht, rfl⟩ := mem_pts.1 hp
  exact h t ht
structure Prd (n : Nat) (q b a : Mv) : Prop where
  pq : PlainM n q
  pb : PlainM n b
  pa : PlainM n a
  eq : EqM n (mulM q b) a
  nq : q ≠ []
  nb : b ≠ []
variable {q b a : Mv}
theorem Prd.symm (h : Prd n q b a) : Prd n b q a := ⟨h.pb, h.pq, h.pa, fun p hp => by rw [mulM_comm]; exact h.eq p hp, h.nb, h.nq⟩
theorem Prd.na (h : Prd n q b a) : a ≠ [] := by
  obtain ⟨pq, pb, pa, eq, nq, nb⟩ := h
  match q, b, pq, pb, eq, nq, nb with
  | s :: q, t :: b, pq, pb, eq, _, _ =>
    obtain ⟨N, e⟩ := pq.mul_head pb pa eq.symm
    rw [e]
    simp
def topM (n : Nat) (w : Nat → Int) (M : Mv) : Mv := M.filter fun t => decide (∀ q ∈ pts M, dot n w q ≤ dot n w t.1)
theorem topM_pts (w : Nat → Int) (M : Mv) : pts (topM n w M) = face n w (pts M) := by
  unfold topM face pts
  rw [List.filter_map]
  rfl
theorem topM_lev {w : Nat → Int} {M : Mv} {p : Plc} (h : isTop n w (pts M) p) : topM n w M = levM n w (dot n w p) M := by
  unfold topM levM
  refine List.filter_congr fun t ht => decide_eq_decide.2 ⟨fun k => ?_, fun k => ?_⟩
  · exact (isTop.eq ⟨mem_pts.2 ⟨t, ht, rfl⟩, k⟩ h)
  · exact fun r hr => by rw [k]; exact h.2 r hr
theorem pts_ne {M : Mv} (h : M ≠ []) : pts M ≠ [] := fun e => h (List.map_eq_nil_iff.1 e)
theorem Prd.face (h : Prd n q b a) (w : Nat → Int) : Prd n (topM n w q) (topM n w b) (topM n w a) ∧ (∀ s t, isTop n w (pts q) s → isTop n w (pts b) t → ∃ p, isTop n w (pts a) p ∧ dot n w p = dot n w s + dot n w t) := by
  obtain ⟨s, hs⟩ := top_ex (n := n) w _ (pts_ne h.nq)
  obtain ⟨t, ht⟩ := top_ex (n := n) w _ (pts_ne h.nb)
  have e1 := topM_lev hs
  have e2 := topM_lev ht
  have h1 := lev_mul_top (w := w) h.pq.len h.pb.len (fun x hx => hs.2 _ (mem_pts.2 ⟨x, hx, rfl⟩)) (fun x hx => ht.2 _ (mem_pts.2 ⟨x, hx, rfl⟩))
  have nq : topM n w q ≠ [] := fun e => by
    obtain ⟨x, hx, ex⟩ := mem_pts.1 hs.1
    have h2 : x ∈ topM n w q := by rw [e1]; exact mem_lev.2 ⟨hx, by rw [ex]⟩
    rw [e] at h2
    cases h2
  have nb : topM n w b ≠ [] := fun e => by
    obtain ⟨x, hx, ex⟩ := mem_pts.1 ht.1
    have h2 : x ∈ topM n w b := by rw [e2]; exact mem_lev.2 ⟨hx, by rw [ex]⟩
    rw [e] at h2
    cases h2
  have h3 : Prd n (topM n w q) (topM n w b) (levM n w (dot n w s + dot n w t) a) := ⟨h.pq.filter _, h.pb.filter _, h.pa.lev _ _, by rw [e1, e2]; exact h1.trans (h.eq.lev _ _), nq, nb⟩
  obtain ⟨r, hr⟩ := List.exists_mem_of_ne_nil _ h3.na
  obtain ⟨hr1, hr2⟩ := mem_lev.1 hr
  have hle : ∀ x ∈ pts a, dot n w x ≤ dot n w r.1 := fun x hx => by
    obtain ⟨y, hy, rfl⟩ := mem_pts.1 hx
    obtain ⟨z, hz, e⟩ := h.pa.from_ h.eq.symm hy
    obtain ⟨u, hu, hz⟩ := List.mem_flatMap.1 hz
    obtain ⟨v, hv, rfl⟩ := List.mem_map.1 hz
    have e3 : addP u.1 v.1 = y.1 := e
    rw [← e3, dot_add (h.pq.len u hu) (h.pb.len v hv), hr2]
    have := hs.2 _ (mem_pts.2 ⟨u, hu, rfl⟩)
    have := ht.2 _ (mem_pts.2 ⟨v, hv, rfl⟩)
    omega
  have hrt : isTop n w (pts a) r.1 := ⟨mem_pts.2 ⟨r, hr1, rfl⟩, hle⟩
  refine ⟨by rw [topM_lev hrt, hr2]; exact h3, fun s' t' hs' ht' => ⟨r.1, hrt, ?_⟩⟩
  rw [hr2, hs'.eq hs, ht'.eq ht]
theorem Prd.split (h : Prd n q b a) {p : Plc} (hp : p ∈ pts a) : ∃ s ∈ pts q, ∃ t ∈ pts b, addP s t = p := by
  obtain ⟨y, hy, rfl⟩ := mem_pts.1 hp
  obtain ⟨z, hz, e⟩ := h.pa.from_ h.eq.symm hy
  obtain ⟨u, hu, hz⟩ := List.mem_flatMap.1 hz
  obtain ⟨v, hv, rfl⟩ := List.mem_map.1 hz
  exact ⟨u.1, mem_pts.2 ⟨u, hu, rfl⟩, v.1, mem_pts.2 ⟨v, hv, rfl⟩, e⟩
theorem Prd.tops (h : Prd n q b a) {w : Nat → Int} {p s t : Plc} (hp : isTop n w (pts a) p) (hs : s ∈ pts q) (ht : t ∈ pts b) (e : addP s t = p) : isTop n w (pts q) s ∧ isTop n w (pts b) t := by
  obtain ⟨x, hx⟩ := top_ex (n := n) w _ (pts_ne h.nq)
  obtain ⟨y, hy⟩ := top_ex (n := n) w _ (pts_ne h.nb)
  obtain ⟨r, hr, er⟩ := (h.face w).2 x y hx hy
  have e1 := hp.eq hr
  rw [← e, dot_add (pts_len h.pq.len hs) (pts_len h.pb.len ht)] at e1
  have h1 := hx.2 s hs
  have h2 := hy.2 t ht
  exact ⟨hx.of_eq hs (by omega), hy.of_eq ht (by omega)⟩
theorem neg_dot (w : Nat → Int) (p : Plc) : dot n (fun i => (-1) * w i + 0 * w i) p = -dot n w p := by
  rw [dot_lin]; omega
theorem Prd.cst (h : Prd n q b a) {w : Nat → Int} (hc : Cst n w (pts a)) : Cst n w (pts q) := by
  obtain ⟨x, hx⟩ := top_ex (n := n) w _ (pts_ne h.nq)
  obtain ⟨y, hy⟩ := top_ex (n := n) w _ (pts_ne h.nb)
  obtain ⟨r, hr, er⟩ := (h.face w).2 x y hx hy
  obtain ⟨x', hx'⟩ := top_ex (n := n) (fun i => (-1) * w i + 0 * w i) _ (pts_ne h.nq)
  obtain ⟨y', hy'⟩ := top_ex (n := n) (fun i => (-1) * w i + 0 * w i) _ (pts_ne h.nb)
  obtain ⟨r', hr', er'⟩ := (h.face (fun i => (-1) * w i + 0 * w i)).2 x' y' hx' hy'
  rw [neg_dot, neg_dot, neg_dot] at er'
  have e := hc r hr.1 r' hr'.1
  have h1 := hx.2 x' hx'.1
  have h2 := hy.2 y' hy'.1
  have e2 : ∀ s ∈ pts q, dot n w s = dot n w x := fun s hs => by
    have h3 := hx.2 s hs
    have h4 := hx'.2 s hs
    rw [neg_dot, neg_dot] at h4
    omega
  exact fun s hs t ht => (e2 s hs).trans (e2 t ht).symm
def One (n : Nat) (w : Nat → Int) (S : List Plc) : Prop := ∀ s t, isTop n w S s → isTop n w S t → s = t
theorem top_len1 {w : Nat → Int} {M : Mv} (h : (topM n w M).length = 1) : One n w (pts M) := fun s t hs ht => by
  have h1 : (face n w (pts M)).length = 1 := by rw [← topM_pts]; unfold pts; rw [List.length_map]; exact h
  obtain ⟨x, hx⟩ := List.length_eq_one_iff.1 h1
  have h2 : s ∈ face n w (pts M) := mem_face.2 hs
  have h3 : t ∈ face n w (pts M) := mem_face.2 ht
  rw [hx] at h2 h3
  rw [List.mem_singleton.1 h2, List.mem_singleton.1 h3]
theorem len1_of {M : Mv} (h : PlainM n M) (h0 : M ≠ []) {x : Plc} (hx : ∀ p ∈ pts M, p = x) : M.length = 1 := by
  match M, h, h0, hx with
  | [t], _, _, _ => rfl
  | s :: t :: M, h, _, hx =>
    exfalso
    have h1 := (List.pairwise_cons.1 h.nodup).1 t.1 (List.mem_cons_self)
    exact h1 ((hx s.1 List.mem_cons_self).trans (hx t.1 (List.mem_cons_of_mem _ List.mem_cons_self)).symm)
theorem grow {x y u v : Int} (h : ∀ N : Nat, (N : Int) * x + 1 * u ≤ (N : Int) * y + 1 * v) : x ≤ y := by
  refine Int.not_lt.1 fun hlt => ?_
  have h1 := h ((v - u).toNat + 1)
  obtain ⟨d, hd⟩ : ∃ d : Int, x = y + 1 + d ∧ 0 ≤ d := ⟨x - y - 1, by omega, by omega⟩
  obtain ⟨rfl, hd⟩ := hd
  have h2 : ((((v - u).toNat + 1 : Nat) : Int)) * (y + 1 + d) = (((v - u).toNat + 1 : Nat) : Int) * y + (((v - u).toNat + 1 : Nat) : Int) + (((v - u).toNat + 1 : Nat) : Int) * d := by grind
  have h3 := Int.mul_nonneg (show (0 : Int) ≤ (((v - u).toNat + 1 : Nat) : Int) by omega) hd
  omega
theorem join {A : List Plc} {U : (Nat → Int) → Prop} (h : Prd n q b a) (hw0 : ∃ w0, ¬ Cst n w0 A)
    (hcov : ∀ w, ¬ Cst n w A → ∃ u, U u ∧ ∀ p, isTop n w (pts a) p → isTop n u (pts a) p)
    (hsh : ∀ u u', U u → U u' → ∃ p p', p ≠ p' ∧ isTop n u (pts a) p ∧ isTop n u' (pts a) p ∧ isTop n u (pts a) p' ∧ isTop n u' (pts a) p')
    (hp : ∀ u, U u → One n u (pts q) ∨ One n u (pts b)) : q.length = 1 ∨ b.length = 1 := by
  have main : ∀ {q b : Mv}, Prd n q b a → (∃ u0, U u0 ∧ One n u0 (pts b)) → (∀ u, U u → One n u (pts q) ∨ One n u (pts b)) → b.length = 1 := fun {q b} h hu0 hp => by
    obtain ⟨u0, k0, k1⟩ := hu0
    obtain ⟨w0, hw0⟩ := hw0
    have hall : ∀ u, U u → One n u (pts b) := fun u hu => by
      rcases hp u hu with h1 | h1
      · exfalso
        obtain ⟨p, p', hne, a1, a2, a3, a4⟩ := hsh u u0 hu k0
        obtain ⟨s, hs, t, ht, e⟩ := h.split a1.1
        obtain ⟨s', hs', t', ht', e'⟩ := h.split a3.1
        have b1 := h1 s s' (h.tops a1 hs ht e).1 (h.tops a3 hs' ht' e').1
        have b2 := k1 t t' (h.tops a2 hs ht e).2 (h.tops a4 hs' ht' e').2
        exact hne (by rw [← e, ← e', b1, b2])
      · exact h1
    obtain ⟨β, hβ⟩ := top_ex (n := n) u0 _ (pts_ne h.nb)
    have hβu : ∀ u, U u → ∀ t, isTop n u (pts b) t → t = β := fun u hu t ht => by
      obtain ⟨p, p', _, a1, a2, _, _⟩ := hsh u u0 hu k0
      obtain ⟨x, hx, y, hy, e⟩ := h.split a1.1
      rw [hall u hu t y ht (h.tops a1 hx hy e).2]
      exact k1 y β (h.tops a2 hx hy e).2 hβ
    have hA : ∀ w, ¬ Cst n w A → isTop n w (pts b) β := fun w hw => by
      obtain ⟨u, hu, hsub⟩ := hcov w hw
      obtain ⟨p, hp⟩ := top_ex (n := n) w _ (pts_ne h.na)
      obtain ⟨x, hx, y, hy, e⟩ := h.split hp.1
      have h1 := (h.tops hp hx hy e).2
      have h2 := (h.tops (hsub p hp) hx hy e).2
      rw [← hβu u hu y h2]
      exact h1
    have hev : ∀ w, ∀ r ∈ pts b, dot n w r ≤ dot n w β := fun w r hr => by
      by_cases hw : Cst n w A
      · refine grow (u := dot n w0 r) (v := dot n w0 β) fun N => ?_
        have h1 := (hA (fun i => (N : Int) * w i + 1 * w0 i) (fun hc => hw0 fun p hp q hq => by
          have h2 := hc p hp q hq
          rw [dot_lin, dot_lin, hw p hp q hq] at h2
          omega)).2 r hr
        rwa [dot_lin, dot_lin] at h1
      · exact (hA w hw).2 r hr
    refine len1_of h.pb h.nb (x := β) fun r hr => ?_
    refine cn_ext (pts_len h.pb.len hr) (pts_len h.pb.len hβ.1) fun i hi => ?_
    have h1 := hev (fun j => if j = i then 1 else 0) r hr
    have h2 := hev (fun k => (-1) * (fun j => if j = i then 1 else 0) k + 0 * (fun j => if j = i then 1 else 0) k) r hr
    rw [neg_dot, neg_dot] at h2
    rw [dot_unit hi, dot_unit hi] at h1 h2
    omega
  obtain ⟨w0, hw0'⟩ := hw0
  obtain ⟨u0, k0, _⟩ := hcov w0 hw0'
  rcases hp u0 k0 with h1 | h1
  · exact .inl (main h.symm ⟨u0, k0, h1⟩ fun u hu => (hp u hu).symm)
  · exact .inr (main h ⟨u0, k0, h1⟩ hp)
end
end Cl
namespace Cl
def MS (n : Nat) : Setoid {L : Mv // LenM n L} := ⟨fun a b => EqM n a.1 b.1, fun _ => EqM.refl _ _, fun h => h.symm, fun h k => h.trans k⟩
def MP (n : Nat) : Type := Quotient (MS n)
def mkP {n : Nat} (L : Mv) (h : LenM n L) : MP n := Quotient.mk (MS n) ⟨L, h⟩
theorem mkP_eq {n : Nat} {L M : Mv} {h : LenM n L} {k : LenM n M} : mkP L h = mkP M k ↔ EqM n L M := ⟨fun e => Quotient.exact (s := MS n) e, fun e => Quotient.sound (s := MS n) e⟩
def zerP (n : Nat) : Plc := List.replicate n 0
theorem addP_zer : ∀ {n : Nat} {p : Plc}, p.length = n → addP p (zerP n) = p
  | 0, [], _ => rfl
  | n + 1, x :: p, h => by
    have ih := addP_zer (n := n) (p := p) (by simpa using h)
    show (x + 0) :: addP p (zerP n) = x :: p
    rw [ih, Int.add_zero]
theorem one_len (n : Nat) : LenM n [(zerP n, 1)] := fun t ht => by rw [List.mem_singleton.1 ht]; exact List.length_replicate
theorem mul_oneM {n : Nat} : ∀ {L : Mv}, LenM n L → mulM L [(zerP n, 1)] = L
  | [], _ => rfl
  | t :: L, h => by
    have ih := mul_oneM (n := n) (L := L) fun u hu => h u (List.mem_cons_of_mem _ hu)
    show (addP t.1 (zerP n), t.2 * 1) :: mulM L [(zerP n, 1)] = t :: L
    rw [ih, addP_zer (h t List.mem_cons_self), Int.mul_one]
def negP {n : Nat} : MP n → MP n := Quotient.lift (s := MS n) (fun a => mkP (scaleM (-1) a.1) (a.2.scale _)) fun _ _ e => mkP_eq.2 (EqM.scale e _)
def addMP {n : Nat} : MP n → MP n → MP n := Quotient.lift₂ (s₁ := MS n) (s₂ := MS n) (fun a b => mkP (a.1 ++ b.1) (a.2.append b.2)) fun _ _ _ _ e f => mkP_eq.2 (EqM.add e f)
def mulMP {n : Nat} : MP n → MP n → MP n := Quotient.lift₂ (s₁ := MS n) (s₂ := MS n) (fun a b => mkP (mulM a.1 b.1) (a.2.mul b.2)) fun a b c d e f => mkP_eq.2 (EqM.mul e f a.2 c.2 b.2 d.2)
def powP {n : Nat} (a : MP n) : Nat → MP n
  | 0 => mkP [(zerP n, 1)] (one_len n)
  | k + 1 => mulMP (powP a k) a
theorem exPX {n : Nat} (x : MP n) : ∃ (L : Mv) (l : LenM n L), x = mkP L l := Quotient.ind (s := MS n) (motive := fun x => ∃ (L : Mv) (l : LenM n L), x = mkP L l) (fun a => ⟨a.1, a.2, rfl⟩) x
theorem nilP (n : Nat) : LenM n [] := fun t h => by cases h
instance instMP (n : Nat) : CRing (MP n) where
  add := addMP
  mul := mulMP
  neg := negP
  sub a b := addMP a (negP b)
  zero := mkP [] (nilP n)
  one := mkP [(zerP n, 1)] (one_len n)
  pow := powP
  add_assoc a b c := by
    obtain ⟨A, lA, rfl⟩ := exPX a
    obtain ⟨B, lB, rfl⟩ := exPX b
    obtain ⟨C, lC, rfl⟩ := exPX c
    show mkP (A ++ B ++ C) _ = mkP (A ++ (B ++ C)) _
    exact mkP_eq.2 fun p _ => by rw [List.append_assoc]
  add_comm a b := by
    obtain ⟨A, lA, rfl⟩ := exPX a
    obtain ⟨B, lB, rfl⟩ := exPX b
    show mkP (A ++ B) _ = mkP (B ++ A) _
    exact mkP_eq.2 (addM_comm n A B)
  add_zero a := by
    obtain ⟨A, lA, rfl⟩ := exPX a
    show mkP (A ++ []) _ = mkP A _
    exact mkP_eq.2 fun p _ => by rw [List.append_nil]
  add_neg a := by
    obtain ⟨A, lA, rfl⟩ := exPX a
    show mkP (A ++ scaleM (-1) A) _ = mkP [] _
    exact mkP_eq.2 fun p _ => by rw [coM_append, coM_scale, coM_nil]; omega
  mul_assoc a b c := by
    obtain ⟨A, lA, rfl⟩ := exPX a
    obtain ⟨B, lB, rfl⟩ := exPX b
    obtain ⟨C, lC, rfl⟩ := exPX c
    show mkP (mulM (mulM A B) C) _ = mkP (mulM A (mulM B C)) _
    exact mkP_eq.2 fun p _ => by rw [mulM_assoc]
  mul_comm a b := by
    obtain ⟨A, lA, rfl⟩ := exPX a
    obtain ⟨B, lB, rfl⟩ := exPX b
    show mkP (mulM A B) _ = mkP (mulM B A) _
    exact mkP_eq.2 fun p _ => mulM_comm A B p
  mul_one a := by
    obtain ⟨A, lA, rfl⟩ := exPX a
    show mkP (mulM A [(zerP n, 1)]) _ = mkP A _
    exact mkP_eq.2 fun p _ => by rw [mul_oneM lA]
  mul_add a b c := by
    obtain ⟨A, lA, rfl⟩ := exPX a
    obtain ⟨B, lB, rfl⟩ := exPX b
    obtain ⟨C, lC, rfl⟩ := exPX c
    show mkP (mulM A (B ++ C)) _ = mkP (mulM A B ++ mulM A C) _
    exact mkP_eq.2 (mulM_add n A B C)
  sub_def _ _ := rfl
  pow_zero _ := rfl
  pow_succ _ _ := rfl
theorem mkP_add {n : Nat} {L M : Mv} {h : LenM n L} {k : LenM n M} : mkP L h + mkP M k = mkP (L ++ M) (h.append k) := rfl
theorem mkP_mul {n : Nat} {L M : Mv} {h : LenM n L} {k : LenM n M} : mkP L h * mkP M k = mkP (mulM L M) (h.mul k) := rfl
theorem mkP_neg {n : Nat} {L : Mv} {h : LenM n L} : -mkP L h = mkP (scaleM (-1) L) (h.scale _) := rfl
section
variable {n : Nat} {q b a : Mv}
def ltM (n : Nat) (w : Nat → Int) (c : Int) (M : Mv) : Mv := M.filter fun t => decide (dot n w t.1 < c)
theorem coM_fil (P : Plc → Bool) (M : Mv) (p : Plc) : coM (M.filter fun t => P t.1) p = if P p = true then coM M p else 0 := by
  unfold coM
  rw [sumL_fil]
  by_cases h : P p = true
  · rw [if_pos h]
    refine sumL_congr fun t _ => ?_
    by_cases e : t.1 = p
    · rw [if_pos e, e, if_pos h]
    · rw [if_neg e]; split <;> rfl
  · rw [if_neg h]
    refine (sumL_congr (g := fun _ => 0) fun t _ => ?_).trans (sumL_zero M)
    by_cases e : t.1 = p
    · rw [if_pos e, e, if_neg h]
    · rw [if_neg e]; split <;> rfl
theorem coM_lt (w : Nat → Int) (c : Int) (M : Mv) (p : Plc) : coM (ltM n w c M) p = if dot n w p < c then coM M p else 0 := by
  have h := coM_fil (fun p => decide (dot n w p < c)) M p
  unfold ltM
  rw [h]
  by_cases h2 : dot n w p < c
  · rw [if_pos h2, if_pos (decide_eq_true h2)]
  · rw [if_neg h2, if_neg fun h3 => h2 (decide_eq_true_iff.1 h3)]
theorem LenM.fil {M : Mv} (h : LenM n M) (P : Trm → Bool) : LenM n (M.filter P) := fun t ht => h t (List.mem_filter.1 ht).1
theorem LenM.lt {M : Mv} (h : LenM n M) (w : Nat → Int) (c : Int) : LenM n (ltM n w c M) := h.fil _
theorem lt_succ (w : Nat → Int) (c : Int) (M : Mv) : EqM n (ltM n w (c + 1) M) (ltM n w c M ++ levM n w c M) := fun p _ => by
  rw [coM_append, coM_lt, coM_lt, coM_lev]
  by_cases h1 : dot n w p < c
  · rw [if_pos h1, if_pos (by omega), if_neg (by omega)]; omega
  · by_cases h2 : dot n w p = c
    · rw [if_neg h1, if_pos (by omega), if_pos h2]; omega
    · rw [if_neg h1, if_neg (by omega), if_neg h2]; omega
theorem lev_append (w : Nat → Int) (c : Int) (L M : Mv) : levM n w c (L ++ M) = levM n w c L ++ levM n w c M := List.filter_append _ _
theorem lev_none {w : Nat → Int} {c : Int} {M : Mv} (h : ∀ t ∈ M, dot n w t.1 ≠ c) : levM n w c M = [] :=
  List.filter_eq_nil_iff.2 fun t ht h2 => h t ht (decide_eq_true_iff.1 h2)
theorem mem_mulM {L M : Mv} {t : Trm} (h : t ∈ mulM L M) : ∃ u ∈ L, ∃ v ∈ M, addP u.1 v.1 = t.1 := by
  obtain ⟨u, hu, hz⟩ := List.mem_flatMap.1 h
  obtain ⟨v, hv, rfl⟩ := List.mem_map.1 hz
  exact ⟨u, hu, v, hv, rfl⟩
theorem lev_step {w : Nat → Int} {fq fb : Int} {i : Nat} (lq : LenM n q) (lb : LenM n b) (hb : ∀ t ∈ b, fb ≤ dot n w t.1) :
    EqM n (levM n w (fq + i + fb) (mulM q b)) (levM n w (fq + i + fb) (mulM (ltM n w (fq + i) q) b) ++ mulM (levM n w (fq + i) q) (levM n w fb b)) := by
  have h1 : EqM n q (ltM n w (fq + i) q ++ levM n w (fq + i) q ++ q.filter fun t => decide (fq + i < dot n w t.1)) := fun p _ => by
    rw [coM_append, coM_append, coM_lt, coM_lev, coM_fil (fun p => decide (fq + i < dot n w p))]
    by_cases h1 : dot n w p < fq + i
    · rw [if_pos h1, if_neg (by omega), if_neg (fun h => by have := decide_eq_true_iff.1 h; omega)]; omega
    · by_cases h2 : dot n w p = fq + i
      · rw [if_neg h1, if_pos h2, if_neg (fun h => by have := decide_eq_true_iff.1 h; omega)]; omega
      · rw [if_neg h1, if_neg h2, if_pos (decide_eq_true (by omega))]; omega
  have l1 : LenM n (ltM n w (fq + i) q ++ levM n w (fq + i) q ++ q.filter fun t => decide (fq + i < dot n w t.1)) := ((lq.lt _ _).append (lq.lev _ _)).append (lq.fil _)
  refine ((h1.mul (EqM.refl n b) lq l1 lb lb).lev w _).trans ?_
  rw [mulM_append, mulM_append, lev_append, lev_append]
  have e3 : levM n w (fq + i + fb) (mulM (q.filter fun t => decide (fq + i < dot n w t.1)) b) = [] := lev_none fun t ht => by
    obtain ⟨u, hu, v, hv, e⟩ := mem_mulM ht
    obtain ⟨hu1, hu2⟩ := List.mem_filter.1 hu
    have h2 := decide_eq_true_iff.1 hu2
    have h3 := hb v hv
    rw [← e, dot_add (lq u hu1) (lb v hv)]
    omega
  rw [e3, List.append_nil, lev_mul_hom (lq.lev _ _) lb fun t ht => (mem_lev.1 ht).2]
  exact EqM.refl _ _
theorem prd_one (h : Prd n q b a) (ha : a.length = 1) : q.length = 1 := by
  obtain ⟨t, ht⟩ := List.length_eq_one_iff.1 ha
  have hc : ∀ w, Cst n w (pts q) := fun w => h.cst fun p hp r hr => by
    rw [ht] at hp hr
    rw [List.mem_singleton.1 hp, List.mem_singleton.1 hr]
  obtain ⟨x, hx⟩ := List.exists_mem_of_ne_nil _ (pts_ne h.nq)
  refine len1_of h.pq h.nq (x := x) fun p hp => cn_ext (pts_len h.pq.len hp) (pts_len h.pq.len hx) fun i hi => ?_
  have h1 := hc (fun j => if j = i then 1 else 0) p hp x hx
  rwa [dot_unit hi, dot_unit hi] at h1
theorem div_one {y : Mv} {m : Plc} {k : Int} (pq : PlainM n q) (ly : LenM n y) (hm : m.length = n) (hk : k ≠ 0) (e : EqM n [(m, k)] (mulM q y)) : q.length = 1 := by
  obtain ⟨y', p1, p2, _⟩ := plain_ex y ly
  have e2 : EqM n (mulM q y') [(m, k)] := ((EqM.refl n q).mul p2 pq.len pq.len p1.len ly).trans e.symm
  have pm : PlainM n [(m, k)] := ⟨fun t ht => by rw [List.mem_singleton.1 ht]; exact hm, List.pairwise_singleton _ _, fun t ht => by rw [List.mem_singleton.1 ht]; exact hk⟩
  have no : ∀ {x z : Mv}, (∀ p, coM (mulM x z) p = 0) → ¬ EqM n (mulM x z) [(m, k)] := fun {x z} h0 he => by
    have h1 := he m hm
    rw [h0, coM_cons, if_pos rfl, coM_nil] at h1
    omega
  refine prd_one (b := y') (a := [(m, k)]) ⟨pq, p1, pm, e2, fun h0 => ?_, fun h0 => ?_⟩ rfl
  · subst h0
    exact no (x := []) (z := y') (fun p => rfl) e2
  · subst h0
    exact no (x := q) (z := []) (fun p => by rw [mulM_comm]; rfl) e2
def pwM (n : Nat) (m : Plc) (k : Int) : Nat → Mv
  | 0 => [(zerP n, 1)]
  | e + 1 => mulM [(m, k)] (pwM n m k e)
theorem single_len {m : Plc} (hm : m.length = n) (k : Int) : LenM n [(m, k)] := fun t ht => by rw [List.mem_singleton.1 ht]; exact hm
theorem pwM_ex {m : Plc} {k : Int} (hm : m.length = n) (hk : k ≠ 0) : ∀ e : Nat, ∃ x z, pwM n m k e = [(x, z)] ∧ x.length = n ∧ z ≠ 0
  | 0 => ⟨zerP n, 1, rfl, List.length_replicate, by omega⟩
  | e + 1 => by
    obtain ⟨x, z, h1, h2, h3⟩ := pwM_ex hm hk e
    refine ⟨addP m x, k * z, ?_, addP_length hm h2, Int.mul_ne_zero hk h3⟩
    show mulM [(m, k)] (pwM n m k e) = _
    rw [h1]
    rfl
theorem pwM_len {m : Plc} {k : Int} (hm : m.length = n) (hk : k ≠ 0) (e : Nat) : LenM n (pwM n m k e) := by
  obtain ⟨x, z, h1, h2, _⟩ := pwM_ex hm hk e
  rw [h1]
  exact single_len h2 z
theorem side_ring {R : Type} [CRing R] {P M X Z Q0 B0 Y L S T K : R} (h1 : P * X = Q0 * Y) (h2 : K + Z * B0 = 0) (h3 : P * K = Q0 * L) (h4 : M = Q0 * S + B0 * T) : M * P * (X + Z) = Q0 * (M * Y + (P * S * Z + -(T * L))) := by
  have e1 : Z * B0 = -K := CRing.eq_neg_of_add h2
  have e2 : P * (Z * B0) = -(Q0 * L) := by rw [e1, CRing.mul_neg, h3]
  have e3 : M * P * Z = Q0 * (P * S * Z) + T * (P * (Z * B0)) := by
    rw [h4, CRing.add_mul, CRing.add_mul]
    congr 1 <;> ac_rfl
  rw [CRing.mul_add, e3, e2, CRing.mul_add, CRing.mul_add, CRing.mul_neg, CRing.mul_neg]
  have e4 : M * P * X = Q0 * (M * Y) := by
    rw [CRing.mul_assoc, h1]
    ac_rfl
  rw [e4]
  congr 3
  ac_rfl
theorem side {w : Nat → Int} {fq fb : Int} {al : Nat} {m : Plc} {k : Int} {s t : Mv} (h : Prd n q b a) (hq : ∀ t ∈ q, fq ≤ dot n w t.1) (hb : ∀ t ∈ b, fb ≤ dot n w t.1) (hal : ∀ t ∈ q, dot n w t.1 ≤ fq + al) (htop : (levM n w (fq + al) q).length = 1)
    (hz : ∀ i : Nat, 0 < i → i ≤ al → ∀ t ∈ a, dot n w t.1 ≠ fq + i + fb) (hm : m.length = n) (hk : k ≠ 0) (ls : LenM n s) (lt : LenM n t) (bez : EqM n [(m, k)] (mulM (levM n w fq q) s ++ mulM (levM n w fb b) t)) : (levM n w fq q).length = 1 := by
  have lq := h.pq.len
  have lb := h.pb.len
  have l0 := lq.lev w fq
  have lb0 := lb.lev w fb
  have claim : ∀ i : Nat, i ≤ al → ∃ e y, ∃ ly : LenM n y, EqM n (mulM (pwM n m k e) (ltM n w (fq + (i : Int) + 1) q)) (mulM (levM n w fq q) y) := by
    intro i
    induction i with
    | zero =>
      intro _
      refine ⟨0, [(zerP n, 1)], one_len n, ?_⟩
      have e1 : ltM n w (fq + ((0 : Nat) : Int) + 1) q = levM n w fq q := by
        unfold ltM levM
        refine List.filter_congr fun t ht => decide_eq_decide.2 ?_
        have := hq t ht
        omega
      rw [e1]
      exact fun p _ => mulM_comm _ _ p
    | succ i ih =>
      intro hi
      obtain ⟨e, y, ly, hy⟩ := ih (by omega)
      have hx := lev_step (w := w) (fq := fq) (fb := fb) (i := i + 1) lq lb hb
      have h0 : EqM n (levM n w (fq + ((i + 1 : Nat) : Int) + fb) (mulM q b)) [] := by
        have h1 := (h.eq.lev w (fq + ((i + 1 : Nat) : Int) + fb))
        rw [lev_none (hz (i + 1) (by omega) hi)] at h1
        exact h1
      have e1 : fq + ((i + 1 : Nat) : Int) = fq + (i : Int) + 1 := by omega
      rw [e1] at hx h0
      obtain ⟨x, z, g1, g2, g3⟩ := pwM_ex hm hk e
      have lp := pwM_len (n := n) hm hk e
      have lx := lq.lt w (fq + (i : Int) + 1)
      have lz := lq.lev w (fq + (i : Int) + 1)
      have hom : ∀ t ∈ pwM n m k e, dot n w t.1 = dot n w x := fun t ht => by rw [g1] at ht; rw [List.mem_singleton.1 ht]
      have k3 : EqM n (mulM (pwM n m k e) (levM n w (fq + (i : Int) + 1 + fb) (mulM (ltM n w (fq + (i : Int) + 1) q) b))) (mulM (levM n w fq q) (levM n w (dot n w x + ((i : Int) + 1 + fb)) (mulM y b))) := by
        rw [← lev_mul_hom (c := dot n w x) (d := fq + (i : Int) + 1 + fb) lp (lx.mul lb) hom, ← lev_mul_hom (c := fq) (d := dot n w x + ((i : Int) + 1 + fb)) l0 (ly.mul lb) fun t ht => (mem_lev.1 ht).2, ← mulM_assoc, ← mulM_assoc, show fq + (dot n w x + ((i : Int) + 1 + fb)) = dot n w x + (fq + (i : Int) + 1 + fb) by omega]
        exact (hy.mul (EqM.refl n b) (lp.mul lx) (l0.mul ly) lb lb).lev w _
      have lL := (ly.mul lb).lev w (dot n w x + ((i : Int) + 1 + fb))
      have lK := (lx.mul lb).lev w (fq + (i : Int) + 1 + fb)
      have r1 : mkP (pwM n m k e) lp * mkP (ltM n w (fq + (i : Int) + 1) q) lx = mkP (levM n w fq q) l0 * mkP y ly := mkP_eq.2 hy
      have r2 : mkP (levM n w (fq + (i : Int) + 1 + fb) (mulM (ltM n w (fq + (i : Int) + 1) q) b)) lK + mkP (levM n w (fq + (i : Int) + 1) q) lz * mkP (levM n w fb b) lb0 = 0 := mkP_eq.2 (hx.symm.trans h0)
      have r3 : mkP (pwM n m k e) lp * mkP (levM n w (fq + (i : Int) + 1 + fb) (mulM (ltM n w (fq + (i : Int) + 1) q) b)) lK = mkP (levM n w fq q) l0 * mkP _ lL := mkP_eq.2 k3
      have r4 : mkP [(m, k)] (single_len hm k) = mkP (levM n w fq q) l0 * mkP s ls + mkP (levM n w fb b) lb0 * mkP t lt := mkP_eq.2 bez
      have r5 := side_ring r1 r2 r3 r4
      rw [mkP_mul, mkP_add, mkP_mul, mkP_mul, mkP_mul, mkP_mul, mkP_mul, mkP_neg, mkP_add, mkP_add, mkP_mul] at r5
      refine ⟨e + 1, mulM [(m, k)] y ++ (mulM (mulM (pwM n m k e) s) (levM n w (fq + (i : Int) + 1) q) ++ scaleM (-1) (mulM t (levM n w (dot n w x + ((i : Int) + 1 + fb)) (mulM y b)))), ?_, ?_⟩
      rotate_left
      · refine EqM.trans ?_ (mkP_eq.1 r5)
        show EqM n (mulM (mulM [(m, k)] (pwM n m k e)) (ltM n w (fq + ((i + 1 : Nat) : Int) + 1) q)) _
        rw [e1]
        exact (EqM.refl n _).mul (lt_succ w _ q) ((single_len hm k).mul lp) ((single_len hm k).mul lp) (lq.lt _ _) (lx.append lz)
      · exact ((single_len hm k).mul ly).append (((lp.mul ls).mul lz).append ((lt.mul lL).scale _))
  obtain ⟨e, y, ly, hy⟩ := claim al (Nat.le_refl _)
  have e1 : ltM n w (fq + (al : Int) + 1) q = q := by
    unfold ltM
    exact List.filter_eq_self.2 fun t ht => decide_eq_true (by have := hal t ht; omega)
  rw [e1] at hy
  obtain ⟨x, z, g1, g2, g3⟩ := pwM_ex hm hk e
  obtain ⟨u, hu⟩ := List.length_eq_one_iff.1 htop
  have hu1 : u ∈ levM n w (fq + al) q := by rw [hu]; exact List.mem_cons_self
  have lp := pwM_len (n := n) hm hk e
  have hom : ∀ t ∈ pwM n m k e, dot n w t.1 = dot n w x := fun t ht => by rw [g1] at ht; rw [List.mem_singleton.1 ht]
  have h1 := hy.lev w (dot n w x + (fq + al))
  rw [lev_mul_hom lp lq hom, hu, g1, show dot n w x + (fq + (al : Int)) = fq + (dot n w x + al) by omega, lev_mul_hom l0 ly fun t ht => (mem_lev.1 ht).2] at h1
  exact div_one (m := addP x u.1) (k := z * u.2) (h.pq.lev w fq) (ly.lev w _) (addP_length g2 (lq u (mem_lev.1 hu1).1)) (Int.mul_ne_zero g3 (h.pq.ne u (mem_lev.1 hu1).1)) h1
end
end Cl
namespace Cl
section
variable {n : Nat} {q b a : Mv}
def dwM (n : Nat) (w : Nat → Int) (L : Mv) : Mv := L.map fun t => (t.1, dot n w t.1 * t.2)
theorem LenM.dw {L : Mv} (h : LenM n L) (w : Nat → Int) : LenM n (dwM n w L) := fun t ht => by
  obtain ⟨u, hu, rfl⟩ := List.mem_map.1 ht
  exact h u hu
theorem coM_mul_scale (L M : Mv) (c : Int) (p : Plc) : coM (mulM L (scaleM c M)) p = c * coM (mulM L M) p := by
  rw [coM_mul, coM_mul, ← sumL_mul]
  refine sumL_congr fun s _ => ?_
  unfold scaleM
  rw [sumL_map, ← sumL_mul]
  refine sumL_congr fun t _ => ?_
  show (if addP s.1 t.1 = p then s.2 * (c * t.2) else 0) = c * (if addP s.1 t.1 = p then s.2 * t.2 else 0)
  split
  · grind
  · rw [Int.mul_zero]
theorem dw_mul {w : Nat → Int} (lq : LenM n q) (lb : LenM n b) (p : Plc) : dot n w p * coM (mulM q b) p = coM (mulM (dwM n w q) b) p + coM (mulM q (dwM n w b)) p := by
  rw [coM_mul, coM_mul, coM_mul, ← sumL_mul]
  unfold dwM
  rw [sumL_map, ← sumL_add]
  refine sumL_congr fun s hs => ?_
  rw [sumL_map, ← sumL_mul, ← sumL_add]
  refine sumL_congr fun t ht => ?_
  show dot n w p * (if addP s.1 t.1 = p then s.2 * t.2 else 0) = (if addP s.1 t.1 = p then dot n w s.1 * s.2 * t.2 else 0) + (if addP s.1 t.1 = p then s.2 * (dot n w t.1 * t.2) else 0)
  by_cases e : addP s.1 t.1 = p
  · rw [if_pos e, if_pos e, if_pos e, ← e, dot_add (lq s hs) (lb t ht)]
    grind
  · rw [if_neg e, if_neg e, if_neg e, Int.mul_zero]; rfl
theorem bez0 {g : Nat → Int} {p1 p2 : Plc} (h : Prd n q b a) (h12 : ∀ p ∈ pts a, p = p1 ∨ p = p2) (hne : p1 ≠ p2) (h1 : p1 ∈ pts a) (hg : dot n g p1 ≠ dot n g p2) : ∃ (k : Int) (s t : Mv), k ≠ 0 ∧ LenM n s ∧ LenM n t ∧ EqM n [(p1, k)] (mulM q s ++ mulM b t) := by
  have hl1 := pts_len h.pa.len h1
  refine ⟨(dot n g p2 - dot n g p1) * coM a p1, scaleM (-1) (dwM n g b), scaleM (dot n g p2) q ++ scaleM (-1) (dwM n g q), Int.mul_ne_zero (by omega) ?_, (h.pb.len.dw g).scale _, (h.pq.len.scale _).append ((h.pq.len.dw g).scale _), fun p hp => ?_⟩
  · obtain ⟨t, ht, e⟩ := mem_pts.1 h1
    rw [← e, h.pa.co_mem t ht]
    exact h.pa.ne t ht
  · have e1 : coM (mulM q (scaleM (-1) (dwM n g b)) ++ mulM b (scaleM (dot n g p2) q ++ scaleM (-1) (dwM n g q))) p = (dot n g p2 - dot n g p) * coM (mulM q b) p := by
      rw [coM_append, mulM_add n b _ _ p hp, coM_append, coM_mul_scale, coM_mul_scale, coM_mul_scale, mulM_comm b q, mulM_comm b (dwM n g q), Int.sub_mul, dw_mul h.pq.len h.pb.len]
      omega
    rw [e1, h.eq p hp, coM_cons, coM_nil]
    by_cases c1 : p1 = p
    · rw [if_pos c1, ← c1]; omega
    · rw [if_neg c1]
      by_cases c2 : p2 = p
      · rw [← c2, Int.sub_self, Int.zero_mul]; omega
      · rw [coM_none (L := a) fun t ht e => ?_, Int.mul_zero]
        · omega
        · rcases h12 t.1 (mem_pts.2 ⟨t, ht, rfl⟩) with h3 | h3
          · exact c1 (h3.symm.trans e)
          · exact c2 (h3.symm.trans e)
theorem Coloop.high {S : List Plc} {t : Plc} (h : Coloop n S t) : ∃ (f : Nat → Int) (c : Int), (∀ p ∈ S, p ≠ t → dot n f p = c) ∧ c < dot n f t ∧ ∃ p ∈ S, p ≠ t := by
  obtain ⟨f, h1, p, hp, h2, h3⟩ := h
  by_cases hlt : dot n f p < dot n f t
  · exact ⟨f, dot n f p, fun r hr hr2 => h1 r hr hr2 p hp h2, hlt, p, hp, h2⟩
  · refine ⟨fun i => (-1) * f i + 0 * f i, -dot n f p, fun r hr hr2 => by rw [neg_dot, h1 r hr hr2 p hp h2], by rw [neg_dot]; omega, p, hp, h2⟩
theorem Coloop.low {S : List Plc} {t : Plc} (h : Coloop n S t) : ∃ (f : Nat → Int) (c : Int), (∀ p ∈ S, p ≠ t → dot n f p = c) ∧ dot n f t < c ∧ ∃ p ∈ S, p ≠ t := by
  obtain ⟨f, c, h1, h2, h3⟩ := h.high
  exact ⟨fun i => (-1) * f i + 0 * f i, -c, fun r hr hr2 => by rw [neg_dot, h1 r hr hr2], by rw [neg_dot]; omega, h3⟩
theorem topM_neg {w : Nat → Int} {M : Mv} {x : Plc} (h : isTop n (fun i => (-1) * w i + 0 * w i) (pts M) x) : topM n (fun i => (-1) * w i + 0 * w i) M = levM n w (dot n w x) M := by
  rw [topM_lev h]
  unfold levM
  refine List.filter_congr fun t _ => decide_eq_decide.2 ?_
  rw [neg_dot, neg_dot]
  omega
theorem three {S : List Plc} (hd : S.Pairwise (· ≠ ·)) (hl : S.length = 3) {x y : Plc} (hx : x ∈ S) (hy : y ∈ S) (hxy : x ≠ y) : ∃ z ∈ S, z ≠ x ∧ z ≠ y ∧ ∀ p ∈ S, p = x ∨ p = y ∨ p = z := by
  have h1 : ∃ z ∈ S, z ≠ x ∧ z ≠ y := Classical.byContradiction fun hn => by
    have h2 := nodup_le (m := [x, y]) hd fun p hp => by
      by_cases e1 : p = x
      · rw [e1]; exact List.mem_cons_self
      · by_cases e2 : p = y
        · rw [e2]; exact List.mem_cons_of_mem _ List.mem_cons_self
        · exact absurd ⟨p, hp, e1, e2⟩ hn
    simp at h2
    omega
  obtain ⟨z, hz, e1, e2⟩ := h1
  refine ⟨z, hz, e1, e2, fun p hp => Classical.byContradiction fun hn => ?_⟩
  have h3 : ([p, x, y, z] : List Plc).Pairwise (· ≠ ·) := by
    have n1 : p ≠ x := fun e => hn (.inl e)
    have n2 : p ≠ y := fun e => hn (.inr (.inl e))
    have n3 : p ≠ z := fun e => hn (.inr (.inr e))
    simp [n1, n2, n3, hxy, Ne.symm e1, Ne.symm e2]
  have h4 := nodup_le (m := S) h3 fun r hr => by
    simp only [List.mem_cons, List.not_mem_nil, or_false] at hr
    rcases hr with rfl | rfl | rfl | rfl <;> assumption
  simp at h4
  omega
theorem tri (h : Prd n q b a) (hl : a.length = 3) {t0 t1 : Plc} (h0 : t0 ∈ pts a) (h1 : t1 ∈ pts a) (h01 : t0 ≠ t1) (c0 : Coloop n (pts a) t0) (c1 : Coloop n (pts a) t1) : q.length = 1 ∨ b.length = 1 := by
  obtain ⟨f, c, f1, f2, _⟩ := c0.high
  obtain ⟨t2, h2, e20, e21, hall⟩ := three h.pa.nodup (by rw [List.length_map]; exact hl) h0 h1 h01
  obtain ⟨g, d, g1, g2, _⟩ := c1.high
  have ga := g1 t2 h2 e21
  obtain ⟨s, hs⟩ := top_ex (n := n) f _ (pts_ne h.nq)
  obtain ⟨t, ht⟩ := top_ex (n := n) f _ (pts_ne h.nb)
  obtain ⟨hF, hF2⟩ := h.face f
  obtain ⟨r, hr, er⟩ := hF2 s t hs ht
  have htop0 : ∀ p, isTop n f (pts a) p → p = t0 := fun p hp => Classical.byContradiction fun hn => by
    have k1 := f1 p hp.1 hn
    have k2 := hp.2 t0 h0
    omega
  have er0 := htop0 r hr
  subst er0
  have hta : (topM n f a).length = 1 := len1_of hF.pa hF.na (x := r) fun p hp => by
    rw [topM_pts] at hp
    exact htop0 p (mem_face.1 hp)
  have htq := prd_one hF hta
  have htb := prd_one hF.symm hta
  obtain ⟨x, hx⟩ := top_ex (n := n) (fun i => (-1) * f i + 0 * f i) _ (pts_ne h.nq)
  obtain ⟨y, hy⟩ := top_ex (n := n) (fun i => (-1) * f i + 0 * f i) _ (pts_ne h.nb)
  obtain ⟨hG, hG2⟩ := h.face (fun i => (-1) * f i + 0 * f i)
  obtain ⟨z, hz, ez⟩ := hG2 x y hx hy
  rw [neg_dot, neg_dot, neg_dot] at ez
  have hzc : dot n f z = c := by
    have k1 := hz.2 t1 h1
    rw [neg_dot, neg_dot, f1 t1 h1 (Ne.symm h01)] at k1
    exact f1 z hz.1 fun e => by rw [e] at k1; omega
  rw [topM_neg hx, topM_neg hy, topM_neg hz, hzc] at hG
  have hq : ∀ u ∈ q, dot n f x ≤ dot n f u.1 := fun u hu => by
    have := hx.2 u.1 (mem_pts.2 ⟨u, hu, rfl⟩)
    rw [neg_dot, neg_dot] at this
    omega
  have hb : ∀ u ∈ b, dot n f y ≤ dot n f u.1 := fun u hu => by
    have := hy.2 u.1 (mem_pts.2 ⟨u, hu, rfl⟩)
    rw [neg_dot, neg_dot] at this
    omega
  have hq2 : ∀ u ∈ q, dot n f u.1 ≤ dot n f s := fun u hu => hs.2 u.1 (mem_pts.2 ⟨u, hu, rfl⟩)
  have hb2 : ∀ u ∈ b, dot n f u.1 ≤ dot n f t := fun u hu => ht.2 u.1 (mem_pts.2 ⟨u, hu, rfl⟩)
  have hxs := hs.2 x hx.1
  have hyt := ht.2 y hy.1
  rw [topM_lev hs] at htq
  rw [topM_lev ht] at htb
  by_cases z1 : dot n f s = dot n f x
  · left
    have e : levM n f (dot n f s) q = q := List.filter_eq_self.2 fun u hu => decide_eq_true (by have := hq u hu; have := hq2 u hu; omega)
    rwa [e] at htq
  · by_cases z2 : dot n f t = dot n f y
    · right
      have e : levM n f (dot n f t) b = b := List.filter_eq_self.2 fun u hu => decide_eq_true (by have := hb u hu; have := hb2 u hu; omega)
      rwa [e] at htb
    · exfalso
      have lev : ∀ u ∈ a, dot n f u.1 = c ∨ dot n f u.1 = dot n f r := fun u hu => by
        by_cases e : u.1 = r
        · right; rw [e]
        · left; exact f1 u.1 (mem_pts.2 ⟨u, hu, rfl⟩) e
      have m1 : t1 ∈ pts (levM n f c a) := by
        obtain ⟨u, hu, e⟩ := mem_pts.1 h1
        exact mem_pts.2 ⟨u, mem_lev.2 ⟨hu, by rw [e]; exact f1 t1 h1 (Ne.symm h01)⟩, e⟩
      have m2 : t2 ∈ pts (levM n f c a) := by
        obtain ⟨u, hu, e⟩ := mem_pts.1 h2
        exact mem_pts.2 ⟨u, mem_lev.2 ⟨hu, by rw [e]; exact f1 t2 h2 e20⟩, e⟩
      have m12 : ∀ p ∈ pts (levM n f c a), p = t1 ∨ p = t2 := fun p hp => by
        obtain ⟨u, hu, e⟩ := mem_pts.1 hp
        obtain ⟨hu1, hu2⟩ := mem_lev.1 hu
        rcases hall p (mem_pts.2 ⟨u, hu1, e⟩) with e1 | e1 | e1
        · rw [e, e1] at hu2; omega
        · exact .inl e1
        · exact .inr e1
      obtain ⟨k, S, T, hk, lS, lT, bez⟩ := bez0 (g := g) hG m12 (Ne.symm e21) m1 (by omega)
      have hl1 := pts_len h.pa.len h1
      have r1 := side (w := f) (fq := dot n f x) (fb := dot n f y) (al := (dot n f s - dot n f x).toNat) h hq hb (fun u hu => by have := hq2 u hu; omega) (by rw [show dot n f x + ((dot n f s - dot n f x).toNat : Int) = dot n f s by omega]; exact htq) (fun i i0 i1 u hu e => by rcases lev u hu with e2 | e2 <;> omega) hl1 hk lS lT bez
      have r2 := side (w := f) (fq := dot n f y) (fb := dot n f x) (al := (dot n f t - dot n f y).toNat) h.symm hb hq (fun u hu => by have := hb2 u hu; omega) (by rw [show dot n f y + ((dot n f t - dot n f y).toNat : Int) = dot n f t by omega]; exact htb) (fun i i0 i1 u hu e => by rcases lev u hu with e2 | e2 <;> omega) hl1 hk lT lS (bez.trans (addM_comm n _ _))
      have r3 := hG.pa.count hG.eq.symm
      rw [mulM_length, r1, r2] at r3
      have r4 : ([t1, t2] : List Plc).Pairwise (· ≠ ·) := by simp [Ne.symm e21]
      have r5 := nodup_le (m := pts (levM n f c a)) r4 fun p hp => by
        simp only [List.mem_cons, List.not_mem_nil, or_false] at hp
        rcases hp with rfl | rfl <;> assumption
      unfold pts at r5
      rw [List.length_map] at r5
      simp at r5
      omega
theorem ncst_ex {S : List Plc} {p r : Plc} (hp : p ∈ S) (hr : r ∈ S) (h1 : p.length = n) (h2 : r.length = n) (hne : p ≠ r) : ∃ w, ¬ Cst n w S := Classical.byContradiction fun h => hne (cn_ext h1 h2 fun i hi => by
  have hc : Cst n (fun j => if j = i then 1 else 0) S := Classical.byContradiction fun hc => h ⟨_, hc⟩
  have := hc p hp r hr
  rwa [dot_unit hi, dot_unit hi] at this)
theorem two_of {S : List Plc} {P : Plc → Bool} (hd : S.Pairwise (· ≠ ·)) (h : 2 ≤ (S.filter P).length) : ∃ p r, p ≠ r ∧ p ∈ S ∧ r ∈ S ∧ P p = true ∧ P r = true := by
  have hd2 := hd.filter (p := P)
  have hm : ∀ x ∈ S.filter P, x ∈ S ∧ P x = true := fun x hx => List.mem_filter.1 hx
  match hf : S.filter P, hd2, hm, h with
  | x :: y :: L, hd2, hm, _ => exact ⟨x, y, (List.pairwise_cons.1 hd2).1 y List.mem_cons_self, (hm x List.mem_cons_self).1, (hm y (List.mem_cons_of_mem _ List.mem_cons_self)).1, (hm x List.mem_cons_self).2, (hm y (List.mem_cons_of_mem _ List.mem_cons_self)).2⟩
theorem two_off {S : List Plc} (hd : S.Pairwise (· ≠ ·)) (hl : 4 ≤ S.length) (x y : Plc) : ∃ p r, p ≠ r ∧ p ∈ S ∧ r ∈ S ∧ (p ≠ x ∧ p ≠ y) ∧ (r ≠ x ∧ r ≠ y) := by
  have h1 := nodup_le (m := (S.filter fun p => decide (p ≠ x ∧ p ≠ y)) ++ [x, y]) hd fun p hp => by
    by_cases e1 : p = x
    · rw [e1]; simp
    · by_cases e2 : p = y
      · rw [e2]; simp
      · exact List.mem_append_left _ (List.mem_filter.2 ⟨hp, decide_eq_true ⟨e1, e2⟩⟩)
  rw [List.length_append] at h1
  obtain ⟨p, r, k1, k2, k3, k4, k5⟩ := two_of (P := fun p => decide (p ≠ x ∧ p ≠ y)) hd (by simp only [List.length_cons, List.length_nil] at h1; omega)
  exact ⟨p, r, k1, k2, k3, decide_eq_true_iff.1 k4, decide_eq_true_iff.1 k5⟩
theorem topM_lt {w : Nat → Int} {M : Mv} {t : Plc} (h : t ∈ pts M) (hn : ¬ isTop n w (pts M) t) : (topM n w M).length < M.length := by
  obtain ⟨u, hu, rfl⟩ := mem_pts.1 h
  unfold topM
  exact List.length_filter_lt_length_iff_exists.2 ⟨u, hu, fun e => hn ⟨h, decide_eq_true_iff.1 e⟩⟩
theorem simplex : ∀ (N : Nat) {q b a : Mv}, Prd n q b a → a.length ≤ N → 3 ≤ a.length → (∀ p ∈ pts a, ∀ r ∈ pts a, p ≠ r → Coloop n (pts a) p ∨ Coloop n (pts a) r) → q.length = 1 ∨ b.length = 1 := by
  intro N
  induction N with
  | zero => intro q b a _ h1 h2 _; omega
  | succ N ih =>
    intro q b a h hN h3 hc
    have hd : (pts a).Pairwise (· ≠ ·) := h.pa.nodup
    have hlp : (pts a).length = a.length := List.length_map _
    rcases Nat.lt_or_ge a.length 4 with h4 | h4
    · have hl : a.length = 3 := by omega
      have hex : ∃ t0 t1, t0 ∈ pts a ∧ t1 ∈ pts a ∧ t0 ≠ t1 ∧ Coloop n (pts a) t0 ∧ Coloop n (pts a) t1 := by
        match hS : pts a, hd, hlp with
        | x :: y :: z :: S, hd, _ =>
          obtain ⟨d1, d2⟩ := List.pairwise_cons.1 hd
          obtain ⟨d3, _⟩ := List.pairwise_cons.1 d2
          have exy : x ≠ y := d1 y List.mem_cons_self
          have exz : x ≠ z := d1 z (List.mem_cons_of_mem _ List.mem_cons_self)
          have eyz : y ≠ z := d3 z List.mem_cons_self
          have mx : x ∈ pts a := by rw [hS]; simp
          have my : y ∈ pts a := by rw [hS]; simp
          have mz : z ∈ pts a := by rw [hS]; simp
          rw [← hS]
          by_cases cx : Coloop n (pts a) x
          · rcases hc y my z mz eyz with k | k
            · exact ⟨x, y, mx, my, exy, cx, k⟩
            · exact ⟨x, z, mx, mz, exz, cx, k⟩
          · exact ⟨y, z, my, mz, eyz, (hc x mx y my exy).resolve_left cx, (hc x mx z mz exz).resolve_left cx⟩
        | [], _, e => simp at e; omega
        | [x], _, e => simp at e; omega
        | [x, y], _, e => simp at e; omega
      obtain ⟨t0, t1, m0, m1, e01, k0, k1⟩ := hex
      exact tri h hl m0 m1 e01 k0 k1
    · obtain ⟨x, y, exy, mx, my, _, _⟩ := two_off hd (by omega) [] []
      refine join (A := pts a) (U := fun u => ∃ t ∈ pts a, ∃ c, (∀ p ∈ pts a, p ≠ t → dot n u p = c) ∧ dot n u t < c) h (ncst_ex mx my (pts_len h.pa.len mx) (pts_len h.pa.len my) exy) ?_ ?_ ?_
      · intro w hw
        by_cases hx : ∃ t ∈ pts a, ¬ isTop n w (pts a) t ∧ Coloop n (pts a) t
        · obtain ⟨t, ht, k1, k2⟩ := hx
          obtain ⟨f, c, f1, f2, _⟩ := k2.low
          refine ⟨f, ⟨t, ht, c, f1, f2⟩, fun p hp => ⟨hp.1, fun r hr => ?_⟩⟩
          have hpt : p ≠ t := fun e => k1 (by rw [← e]; exact hp)
          rw [f1 p hp.1 hpt]
          by_cases e : r = t
          · rw [e]; omega
          · rw [f1 r hr e]; exact Int.le_refl _
        · exfalso
          obtain ⟨p0, hp0⟩ := top_ex (n := n) w _ (pts_ne h.na)
          have ht : ∃ t ∈ pts a, ¬ isTop n w (pts a) t := Classical.byContradiction fun hn => hw fun p hp r hr => by
            have k1 : isTop n w (pts a) p := Classical.byContradiction fun k => hn ⟨p, hp, k⟩
            have k2 : isTop n w (pts a) r := Classical.byContradiction fun k => hn ⟨r, hr, k⟩
            exact k1.eq k2
          obtain ⟨t, ht, k1⟩ := ht
          have hoth : ∀ p ∈ pts a, p ≠ t → isTop n w (pts a) p := fun p hp hpt => Classical.byContradiction fun k => by
            rcases hc p hp t ht hpt with k2 | k2
            · exact hx ⟨p, hp, k, k2⟩
            · exact hx ⟨t, ht, k1, k2⟩
          have hp0t : p0 ≠ t := fun e => k1 (by rw [← e]; exact hp0)
          refine hx ⟨t, ht, k1, w, fun p hp hpt r hr hrt => (hoth p hp hpt).eq (hoth r hr hrt), p0, hp0.1, hp0t, fun e => k1 (hp0.of_eq ht e.symm)⟩
      · rintro u u' ⟨t, ht, c, f1, f2⟩ ⟨t', ht', c', f1', f2'⟩
        obtain ⟨p, r, epr, mp, mr, ⟨e1, e2⟩, e3, e4⟩ := two_off hd (by omega) t t'
        have top1 : ∀ s ∈ pts a, s ≠ t → isTop n u (pts a) s := fun s hs hst => ⟨hs, fun z hz => by
          rw [f1 s hs hst]
          by_cases e : z = t
          · rw [e]; omega
          · rw [f1 z hz e]; exact Int.le_refl _⟩
        have top2 : ∀ s ∈ pts a, s ≠ t' → isTop n u' (pts a) s := fun s hs hst => ⟨hs, fun z hz => by
          rw [f1' s hs hst]
          by_cases e : z = t'
          · rw [e]; omega
          · rw [f1' z hz e]; exact Int.le_refl _⟩
        exact ⟨p, r, epr, top1 p mp e1, top2 p mp e2, top1 r mr e3, top2 r mr e4⟩
      · rintro u ⟨t, ht, c, f1, f2⟩
        have top1 : ∀ s ∈ pts a, s ≠ t → isTop n u (pts a) s := fun s hs hst => ⟨hs, fun z hz => by
          rw [f1 s hs hst]
          by_cases e : z = t
          · rw [e]; omega
          · rw [f1 z hz e]; exact Int.le_refl _⟩
        obtain ⟨p, r, epr, mp, mr, ⟨e1, e2⟩, e3, e4⟩ := two_off hd (by omega) t t
        have nt : ¬ isTop n u (pts a) t := fun k => by
          have := k.2 p mp
          rw [f1 p mp e1] at this
          omega
        have hlt := topM_lt ht nt
        have hge := nodup_le (m := pts (topM n u a) ++ [t]) hd fun p hp => by
          by_cases e : p = t
          · rw [e]; simp
          · rw [topM_pts]; exact List.mem_append_left _ (mem_face.2 (top1 p hp e))
        rw [List.length_append, hlp] at hge
        have hl2 : (pts (topM n u a)).length = (topM n u a).length := List.length_map _
        have hsub : ∀ s, s ∈ pts (topM n u a) → s ∈ pts a ∧ s ≠ t := fun s hs => by
          rw [topM_pts] at hs
          have := mem_face.1 hs
          exact ⟨this.1, fun e => nt (by rw [← e]; exact this)⟩
        have hco : ∀ s ∈ pts (topM n u a), Coloop n (pts a) s → Coloop n (pts (topM n u a)) s := fun s hs ⟨f, k1, z, hz, k2, k3⟩ => by
          obtain ⟨p', _, _, mp', _, ⟨e1', e2'⟩, _, _⟩ := two_off hd (by omega) s t
          refine ⟨f, fun x hx hxs y hy hys => k1 x (hsub x hx).1 hxs y (hsub y hy).1 hys, p', ?_, e1', ?_⟩
          · rw [topM_pts]; exact mem_face.2 (top1 p' mp' e2')
          · rw [k1 p' mp' e1' z hz k2]; exact k3
        rcases ih (h.face u).1 (by omega) (by simp only [List.length_cons, List.length_nil] at hge; omega) (fun s hs z hz hsz => by
          rcases hc s (hsub s hs).1 z (hsub z hz).1 hsz with k | k
          · exact .inl (hco s hs k)
          · exact .inr (hco z hz k)) with k | k
        · exact .inl (top_len1 k)
        · exact .inr (top_len1 k)
theorem inter {S : List Plc} (P Q : Plc → Bool) : (S.filter P).length + (S.filter Q).length ≤ S.length + (S.filter fun p => P p && Q p).length := by
  induction S with
  | nil => simp
  | cons x S ih =>
    simp only [List.filter_cons]
    cases P x <;> cases Q x <;> simp <;> omega
theorem thin : ∀ (N : Nat) {q b a : Mv} (d : Nat), Prd n q b a → a.length ≤ N → Big n (pts a) (d + 1) → a.length ≤ 2 * d → q.length = 1 ∨ b.length = 1 := by
  intro N
  induction N with
  | zero => intro q b a d h h1; exact absurd (List.eq_nil_of_length_eq_zero (by omega)) h.na
  | succ N ih =>
    intro q b a d h hN hB h2
    have hd : (pts a).Pairwise (· ≠ ·) := h.pa.nodup
    have hlp : (pts a).length = a.length := List.length_map _
    have hle := hB.le (pts_ne h.na)
    by_cases hc : ∀ p ∈ pts a, ∀ r ∈ pts a, p ≠ r → Coloop n (pts a) p ∨ Coloop n (pts a) r
    · exact simplex (N + 1) h hN (by omega) hc
    · obtain ⟨p, r, mp, mr, epr, np, nr⟩ : ∃ p r, p ∈ pts a ∧ r ∈ pts a ∧ p ≠ r ∧ ¬ Coloop n (pts a) p ∧ ¬ Coloop n (pts a) r := Classical.byContradiction fun hn => hc fun p hp r hr hpr => Classical.byContradiction fun k => hn ⟨p, r, hp, hr, hpr, fun k1 => k (.inl k1), fun k1 => k (.inr k1)⟩
      have hA : ∀ s ∈ [p, r], s ∈ pts a := fun s hs => by
        simp only [List.mem_cons, List.not_mem_nil, or_false] at hs
        rcases hs with rfl | rfl <;> assumption
      refine join (A := [p, r]) (U := fun u => ¬ Cst n u [p, r] ∧ Big n (face n u (pts a)) d) h (ncst_ex (by simp) (by simp) (pts_len h.pa.len mp) (pts_len h.pa.len mr) epr) ?_ ?_ ?_
      · intro w hw
        obtain ⟨v, v1, v2, v3⟩ := facet hA (pts_ne h.na) hB (pts a).length w hw (by omega)
        exact ⟨v, ⟨v1, v3⟩, v2⟩
      · rintro u u' ⟨_, k1⟩ ⟨_, k2⟩
        have fne : ∀ w, face n w (pts a) ≠ [] := fun w e => by
          obtain ⟨x, hx⟩ := top_ex (n := n) w _ (pts_ne h.na)
          have := mem_face.2 hx
          rw [e] at this
          cases this
        have l1 := k1.le (fne u)
        have l2 := k2.le (fne u')
        have l3 := inter (S := pts a) (fun p => decide (∀ q ∈ pts a, dot n u q ≤ dot n u p)) (fun p => decide (∀ q ∈ pts a, dot n u' q ≤ dot n u' p))
        unfold face at l1 l2
        obtain ⟨x, y, exy, mx, my, tx, ty⟩ := two_of (P := fun p => decide (∀ q ∈ pts a, dot n u q ≤ dot n u p) && decide (∀ q ∈ pts a, dot n u' q ≤ dot n u' p)) hd (by omega)
        rw [Bool.and_eq_true, decide_eq_true_iff, decide_eq_true_iff] at tx ty
        exact ⟨x, y, exy, ⟨mx, tx.1⟩, ⟨mx, tx.2⟩, ⟨my, ty.1⟩, ⟨my, ty.2⟩⟩
      · rintro u ⟨k0, k1⟩
        obtain ⟨t, ht, nt, nct⟩ : ∃ t ∈ pts a, ¬ isTop n u (pts a) t ∧ ¬ Coloop n (pts a) t := by
          by_cases tp : isTop n u (pts a) p
          · refine ⟨r, mr, fun tr => k0 fun x hx y hy => ?_, nr⟩
            have e := tp.eq tr
            simp only [List.mem_cons, List.not_mem_nil, or_false] at hx hy
            rcases hx with rfl | rfl <;> rcases hy with rfl | rfl <;> omega
          · exact ⟨p, mp, tp, np⟩
        obtain ⟨p0, hp0⟩ := top_ex (n := n) u _ (pts_ne h.na)
        obtain ⟨t', ht', ett, nt'⟩ : ∃ t' ∈ pts a, t' ≠ t ∧ ¬ isTop n u (pts a) t' := Classical.byContradiction fun hn => by
          have hoth : ∀ s ∈ pts a, s ≠ t → isTop n u (pts a) s := fun s hs hst => Classical.byContradiction fun k => hn ⟨s, hs, hst, k⟩
          have hp0t : p0 ≠ t := fun e => nt (by rw [← e]; exact hp0)
          exact nct ⟨u, fun x hx hxt y hy hyt => (hoth x hx hxt).eq (hoth y hy hyt), p0, hp0.1, hp0t, fun e => nt (hp0.of_eq ht e.symm)⟩
        have hnd : (t :: t' :: face n u (pts a)).Pairwise (· ≠ ·) := by
          refine List.pairwise_cons.2 ⟨fun s hs => ?_, List.pairwise_cons.2 ⟨fun s hs e => nt' (by rw [e]; exact mem_face.1 hs), hd.filter _⟩⟩
          rcases List.mem_cons.1 hs with rfl | hs
          · exact Ne.symm ett
          · exact fun e => nt (by rw [e]; exact mem_face.1 hs)
        have hcnt := nodup_le (m := pts a) hnd fun s hs => by
          rcases List.mem_cons.1 hs with rfl | hs
          · exact ht
          · rcases List.mem_cons.1 hs with rfl | hs
            · exact ht'
            · exact (mem_face.1 hs).1
        have hl2 : (topM n u a).length = (face n u (pts a)).length := by rw [← topM_pts]; exact (List.length_map _).symm
        simp only [List.length_cons] at hcnt
        obtain ⟨e, rfl⟩ : ∃ e, d = e + 1 := ⟨d - 1, by omega⟩
        rcases ih e (h.face u).1 (by omega) (by rw [topM_pts]; exact k1) (by omega) with k | k
        · exact .inl (top_len1 k)
        · exact .inr (top_len1 k)
def boxK (B : Nat) : Nat → List (List Int)
  | 0 => [[]]
  | k + 1 => (boxK B k).flatMap fun l => (List.range B).map fun (x : Nat) => (x : Int) :: l
theorem boxK_length (B : Nat) : ∀ k, (boxK B k).length = B ^ k
  | 0 => rfl
  | k + 1 => by
    show ((boxK B k).flatMap _).length = _
    rw [List.length_flatMap]
    have : ∀ l : List (List Int), (l.map fun a => ((List.range B).map fun (x : Nat) => (x : Int) :: a).length).sum = l.length * B := fun l => by
      induction l with
      | nil => simp
      | cons a l ih => rw [List.map_cons, List.sum_cons, ih, List.length_map, List.length_range, List.length_cons, Nat.add_mul]; omega
    rw [this, boxK_length B k, Nat.pow_succ]
theorem mem_boxK {B : Nat} : ∀ {l : List Int}, (∀ x ∈ l, 0 ≤ x ∧ x < (B : Int)) → l ∈ boxK B l.length
  | [], _ => List.mem_cons_self
  | x :: l, h => by
    have ih := mem_boxK (B := B) (l := l) fun y hy => h y (List.mem_cons_of_mem _ hy)
    have hx := h x List.mem_cons_self
    refine List.mem_flatMap.2 ⟨l, ih, List.mem_map.2 ⟨x.toNat, List.mem_range.2 (by omega), ?_⟩⟩
    show ((x.toNat : Nat) : Int) :: l = x :: l
    rw [show ((x.toNat : Nat) : Int) = x by omega]
theorem few (h : Prd n q b a) (ha : a.length ≤ 8) {B : Nat} (hB : 1 ≤ B) (hq : ∀ p ∈ pts q, ∀ i, 0 ≤ cn p i ∧ cn p i < (B : Int)) : q.length ≤ 8 + B ^ 4 := by
  by_cases hx : ∃ J : List Nat, J.length < 5 ∧ Fix n (pts a) J
  · obtain ⟨J, h1, h2⟩ := hx
    have h3 : Fix n (pts q) J := fun i hi hiJ => by
      obtain ⟨R, r1, r2, r3⟩ := h2 i hi hiJ
      exact ⟨R, r1, r2, h.cst r3⟩
    have hnd : ((pts q).map fun p => J.map (cn p)).Pairwise (· ≠ ·) := by
      refine List.pairwise_map.2 (h.pq.nodup.imp_of_mem fun {p r} hp hr hne e => hne ?_)
      have lp := pts_len h.pq.len hp
      have lr := pts_len h.pq.len hr
      have eJ : ∀ j ∈ J, cn p j = cn r j := fun j hj => by
        have := List.map_inj_left.1 e j hj
        exact this
      refine cn_ext lp lr fun i hi => ?_
      by_cases hiJ : i ∈ J
      · exact eJ i hiJ
      · obtain ⟨R, r1, r2, r3⟩ := h3 i hi hiJ
        have k1 := r3 p hp r hr
        have k2 := dot_one (R := R) (p := p) (q := r) hi fun j hj hji => by
          by_cases hjJ : j ∈ J
          · exact .inr (eJ j hjJ)
          · exact .inl (r2 j hj hjJ hji)
        rw [k1, Int.sub_self] at k2
        rcases Int.mul_eq_zero.1 k2.symm with k3 | k3
        · exact absurd k3 r1
        · omega
    have hcnt := nodup_le (m := boxK B J.length) hnd fun l hl => by
      obtain ⟨p, hp, rfl⟩ := List.mem_map.1 hl
      have := mem_boxK (B := B) (l := J.map (cn p)) fun x hx => by
        obtain ⟨j, _, rfl⟩ := List.mem_map.1 hx
        exact hq p hp j
      rwa [List.length_map] at this
    rw [boxK_length, List.length_map] at hcnt
    have hp : B ^ J.length ≤ B ^ 4 := Nat.pow_le_pow_right hB (by omega)
    have hl : (pts q).length = q.length := List.length_map _
    omega
  · have hBig : Big n (pts a) (4 + 1) := fun J hJ hF => hx ⟨J, hJ, hF⟩
    rcases thin a.length 4 h (Nat.le_refl _) hBig (by omega) with k | k
    · omega
    · obtain ⟨t, ht⟩ := List.length_eq_one_iff.1 k
      subst ht
      have hnd : ((pts q).map fun p => addP p t.1).Pairwise (· ≠ ·) := by
        refine List.pairwise_map.2 (h.pq.nodup.imp_of_mem fun {p r} hp hr hne e => hne ?_)
        exact addP_cancel (pts_len h.pq.len hp) (pts_len h.pq.len hr) (h.pb.len t List.mem_cons_self) e
      have hcnt := nodup_le (m := pts a) hnd fun l hl => by
        obtain ⟨p, hp, rfl⟩ := List.mem_map.1 hl
        obtain ⟨s, hs, rfl⟩ := mem_pts.1 hp
        have lt := h.pb.len t List.mem_cons_self
        have ls := h.pq.len s hs
        have lp := addP_length ls lt
        have h1 : coM a (addP s.1 t.1) = s.2 * t.2 := by
          rw [← h.eq _ lp, coM_mulR h.pq.len h.pb.len lp]
          show coM q (subP (addP s.1 t.1) t.1) * t.2 + 0 = _
          rw [← (addP_iff (a := s.1) (b := t.1) (p := addP s.1 t.1) (by omega) (by omega)).1 rfl, h.pq.co_mem s hs, Int.add_zero]
        obtain ⟨z, hz, e⟩ := coM_ne (L := a) (p := addP s.1 t.1) (by rw [h1]; exact Int.mul_ne_zero (h.pq.ne s hs) (h.pb.ne t List.mem_cons_self))
        exact mem_pts.2 ⟨z, hz, e⟩
      have e1 : ((pts q).map fun p => addP p t.1).length = q.length := by rw [List.length_map]; exact List.length_map _
      have e2 : (pts a).length = a.length := List.length_map _
      omega
end
end Cl
