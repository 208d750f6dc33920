/- Polynomials of several variables as lists of terms: what each place holds; sums, products; plain lists are one. No program in sight.
   Plain lists of terms: how many, which places, how great; sorting; sums kept place by place. No program in sight.
   Values and derivatives of lists of terms: they go by what stands at each place; sums and products. No program in sight.
   Plain facts: what all coefficients have in common.
   Gauss's lemma: what the coefficients of a product have in common. No program in sight. -/
set_option linter.unusedVariables false
set_option linter.unusedSimpArgs false
namespace Cl
abbrev Plc := List Int
abbrev Trm := Plc × Int
abbrev Mv := List Trm
def sumL {α : Type} (f : α → Int) : List α → Int
  | [] => 0
  | a :: L => f a + sumL f L
section
variable {α β : Type}
theorem sumL_append (f : α → Int) : ∀ L M : List α, sumL f (L ++ M) = sumL f L + sumL f M
  | [], M => by show sumL f M = 0 + _; omega
  | a :: L, M => by show f a + sumL f (L ++ M) = f a + sumL f L + _; rw [sumL_append f L M]; omega
theorem sumL_congr {f g : α → Int} : ∀ {L : List α}, (∀ a ∈ L, f a = g a) → sumL f L = sumL g L
  | [], _ => rfl
  | a :: L, h => by show f a + _ = g a + _; rw [h a List.mem_cons_self, sumL_congr fun b hb => h b (List.mem_cons_of_mem _ hb)]
theorem sumL_zero : ∀ L : List α, sumL (fun _ => (0 : Int)) L = 0
  | [] => rfl
  | a :: L => by show 0 + sumL _ L = 0; rw [sumL_zero L]; rfl
theorem sumL_add (f g : α → Int) : ∀ L : List α, sumL (fun a => f a + g a) L = sumL f L + sumL g L
  | [] => rfl
  | a :: L => by show f a + g a + sumL _ L = f a + _ + (g a + _); rw [sumL_add f g L]; omega
theorem sumL_mul (c : Int) (f : α → Int) : ∀ L : List α, sumL (fun a => c * f a) L = c * sumL f L
  | [] => by show 0 = c * 0; rw [Int.mul_zero]
  | a :: L => by show c * f a + sumL _ L = c * (f a + _); rw [sumL_mul c f L, Int.mul_add]
theorem sumL_mulr (c : Int) (f : α → Int) (L : List α) : sumL (fun a => f a * c) L = sumL f L * c := by
  rw [Int.mul_comm, ← sumL_mul]; exact sumL_congr fun a _ => Int.mul_comm _ _
theorem sumL_map (g : β → α) (f : α → Int) : ∀ L : List β, sumL f (L.map g) = sumL (fun b => f (g b)) L
  | [] => rfl
  | b :: L => by show f (g b) + sumL f (L.map g) = _; rw [sumL_map g f L]; rfl
theorem sumL_flat (g : β → List α) (f : α → Int) : ∀ L : List β, sumL f (L.flatMap g) = sumL (fun b => sumL f (g b)) L
  | [] => rfl
  | b :: L => by rw [List.flatMap_cons, sumL_append, sumL_flat g f L]; rfl
theorem sumL_swap (f : α → β → Int) : ∀ (L : List α) (M : List β), sumL (fun a => sumL (f a) M) L = sumL (fun b => sumL (fun a => f a b) L) M
  | [], M => (sumL_zero M).symm
  | a :: L, M => by
    show sumL (f a) M + sumL _ L = _
    rw [sumL_swap f L M, ← sumL_add]
    rfl
theorem sumL_perm (f : α → Int) {L M : List α} (h : L.Perm M) : sumL f L = sumL f M := by
  induction h with
  | nil => rfl
  | cons a _ ih => show f a + _ = f a + _; rw [ih]
  | swap a b L => show f b + (f a + _) = f a + (f b + _); omega
  | trans _ _ ih1 ih2 => rw [ih1, ih2]
end
def coM (L : Mv) (p : Plc) : Int := sumL (fun t : Trm => if t.1 = p then t.2 else 0) L
theorem coM_append (L M : Mv) (p : Plc) : coM (L ++ M) p = coM L p + coM M p := sumL_append _ _ _
theorem coM_cons (t : Trm) (L : Mv) (p : Plc) : coM (t :: L) p = (if t.1 = p then t.2 else 0) + coM L p := rfl
theorem coM_nil (p : Plc) : coM [] p = 0 := rfl
theorem coM_perm {L M : Mv} (h : L.Perm M) (p : Plc) : coM L p = coM M p := sumL_perm _ h
theorem coM_none {L : Mv} {p : Plc} (h : ∀ t ∈ L, t.1 ≠ p) : coM L p = 0 := by
  unfold coM
  rw [sumL_congr (g := fun _ => 0) fun t ht => if_neg (h t ht), sumL_zero]
def scaleM (c : Int) (L : Mv) : Mv := L.map fun t => (t.1, c * t.2)
theorem coM_scale (c : Int) (L : Mv) (p : Plc) : coM (scaleM c L) p = c * coM L p := by
  unfold coM scaleM
  rw [sumL_map, ← sumL_mul]
  refine sumL_congr fun t _ => ?_
  show (if t.1 = p then c * t.2 else 0) = c * (if t.1 = p then t.2 else 0)
  split
  · rfl
  · rw [Int.mul_zero]
def addP (a b : Plc) : Plc := List.zipWith (· + ·) a b
def subP (a b : Plc) : Plc := List.zipWith (· - ·) a b
theorem addP_length {a b : Plc} {n : Nat} (ha : a.length = n) (hb : b.length = n) : (addP a b).length = n := by unfold addP; rw [List.length_zipWith]; omega
theorem subP_length {a b : Plc} {n : Nat} (ha : a.length = n) (hb : b.length = n) : (subP a b).length = n := by unfold subP; rw [List.length_zipWith]; omega
theorem addP_comm : ∀ a b : Plc, addP a b = addP b a
  | [], b => by cases b <;> rfl
  | x :: a, [] => rfl
  | x :: a, y :: b => by
    show (x + y) :: addP a b = (y + x) :: addP b a
    rw [addP_comm a b, Int.add_comm]
theorem addP_iff : ∀ {a b p : Plc}, a.length = b.length → a.length = p.length → (addP a b = p ↔ a = subP p b)
  | [], [], [], _, _ => ⟨fun _ => rfl, fun _ => rfl⟩
  | x :: a, y :: b, z :: p, h1, h2 => by
    have ih := addP_iff (a := a) (b := b) (p := p) (by simpa using h1) (by simpa using h2)
    show (x + y) :: addP a b = z :: p ↔ x :: a = (z - y) :: subP p b
    constructor
    · intro h
      injection h with h3 h4
      rw [← ih.1 h4, show x = z - y by omega]
    · intro h
      injection h with h3 h4
      rw [ih.2 h4, show x + y = z by omega]
def mulM (L M : Mv) : Mv := L.flatMap fun a => M.map fun b => (addP a.1 b.1, a.2 * b.2)
theorem coM_mul (L M : Mv) (p : Plc) : coM (mulM L M) p = sumL (fun a : Trm => sumL (fun b : Trm => if addP a.1 b.1 = p then a.2 * b.2 else 0) M) L := by
  unfold coM mulM
  rw [sumL_flat]
  exact sumL_congr fun a _ => sumL_map _ _ _
theorem mulM_comm (L M : Mv) (p : Plc) : coM (mulM L M) p = coM (mulM M L) p := by
  rw [coM_mul, coM_mul, sumL_swap]
  exact sumL_congr fun b _ => sumL_congr fun a _ => by rw [addP_comm, Int.mul_comm]
theorem mulM_append (L M N : Mv) : mulM (L ++ M) N = mulM L N ++ mulM M N := by unfold mulM; rw [List.flatMap_append]
theorem flat_congr {α β : Type} {f g : α → List β} : ∀ {L : List α}, (∀ a ∈ L, f a = g a) → L.flatMap f = L.flatMap g
  | [], _ => rfl
  | a :: L, h => by rw [List.flatMap_cons, List.flatMap_cons, h a List.mem_cons_self, flat_congr fun b hb => h b (List.mem_cons_of_mem _ hb)]
def LenM (n : Nat) (L : Mv) : Prop := ∀ t ∈ L, t.1.length = n
theorem LenM.append {n : Nat} {L M : Mv} (h : LenM n L) (k : LenM n M) : LenM n (L ++ M) := fun t ht => (List.mem_append.1 ht).elim (h t) (k t)
theorem LenM.scale {n : Nat} {L : Mv} (h : LenM n L) (c : Int) : LenM n (scaleM c L) := fun t ht => by
  obtain ⟨x, hx, rfl⟩ := List.mem_map.1 ht
  exact h x hx
theorem LenM.mul {n : Nat} {L M : Mv} (h : LenM n L) (k : LenM n M) : LenM n (mulM L M) := fun t ht => by
  obtain ⟨a, ha, ht⟩ := List.mem_flatMap.1 ht
  obtain ⟨b, hb, rfl⟩ := List.mem_map.1 ht
  exact addP_length (h a ha) (k b hb)
def EqM (n : Nat) (L M : Mv) : Prop := ∀ p : Plc, p.length = n → coM L p = coM M p
section
variable {n : Nat} {L L' M M' N : Mv}
theorem EqM.refl (n : Nat) (L : Mv) : EqM n L L := fun _ _ => rfl
theorem EqM.symm (h : EqM n L M) : EqM n M L := fun p hp => (h p hp).symm
theorem EqM.trans (h : EqM n L M) (k : EqM n M N) : EqM n L N := fun p hp => (h p hp).trans (k p hp)
theorem EqM.add (h : EqM n L L') (k : EqM n M M') : EqM n (L ++ M) (L' ++ M') := fun p hp => by rw [coM_append, coM_append, h p hp, k p hp]
theorem EqM.scale (h : EqM n L L') (c : Int) : EqM n (scaleM c L) (scaleM c L') := fun p hp => by rw [coM_scale, coM_scale, h p hp]
theorem EqM.perm (h : L.Perm M) : EqM n L M := fun p _ => coM_perm h p
theorem coM_mulR (hL : LenM n L) (hM : LenM n M) {p : Plc} (hp : p.length = n) : coM (mulM L M) p = sumL (fun b : Trm => coM L (subP p b.1) * b.2) M := by
  rw [coM_mul, sumL_swap]
  refine sumL_congr fun b hb => ?_
  unfold coM
  rw [← sumL_mulr]
  refine sumL_congr fun a ha => ?_
  have h := addP_iff (a := a.1) (b := b.1) (p := p) ((hL a ha).trans (hM b hb).symm) ((hL a ha).trans hp.symm)
  by_cases e : addP a.1 b.1 = p
  · rw [if_pos e, if_pos (h.1 e)]
  · rw [if_neg e, if_neg (fun e2 => e (h.2 e2)), Int.zero_mul]
theorem EqM.mulL (h : EqM n L L') (hL : LenM n L) (hL' : LenM n L') (hM : LenM n M) : EqM n (mulM L M) (mulM L' M) := fun p hp => by
  rw [coM_mulR hL hM hp, coM_mulR hL' hM hp]
  exact sumL_congr fun b hb => by rw [h _ (subP_length hp (hM b hb))]
theorem EqM.mul (h : EqM n L L') (k : EqM n M M') (hL : LenM n L) (hL' : LenM n L') (hM : LenM n M) (hM' : LenM n M') : EqM n (mulM L M) (mulM L' M') :=
  (h.mulL hL hL' hM).trans fun p hp => by rw [mulM_comm, mulM_comm L']; exact k.mulL hM hM' hL' p hp
end
def ltP : Plc → Plc → Prop
  | x :: a, y :: b => x < y ∨ (x = y ∧ ltP a b)
  | _, _ => False
instance decLtP : ∀ a b : Plc, Decidable (ltP a b)
  | [], _ => .isFalse id
  | _ :: _, [] => .isFalse id
  | _x :: a, _y :: b => @instDecidableOr _ _ _ (@instDecidableAnd _ _ _ (decLtP a b))
theorem ltP.irrefl : ∀ a : Plc, ¬ ltP a a
  | [], h => h
  | x :: a, h => by
    rcases h with h | ⟨_, h⟩
    · omega
    · exact ltP.irrefl a h
theorem ltP.trans : ∀ {a b c : Plc}, ltP a b → ltP b c → ltP a c
  | x :: a, y :: b, z :: c, h, k => by
    rcases h with h | ⟨rfl, h⟩
    · rcases k with k | ⟨rfl, k⟩
      · exact .inl (by omega)
      · exact .inl h
    · rcases k with k | ⟨rfl, k⟩
      · exact .inl k
      · exact .inr ⟨rfl, ltP.trans h k⟩
theorem ltP.tri : ∀ {a b : Plc}, a.length = b.length → ltP a b ∨ a = b ∨ ltP b a
  | [], [], _ => .inr (.inl rfl)
  | x :: a, y :: b, h => by
    rcases Int.lt_trichotomy x y with h1 | rfl | h1
    · exact .inl (.inl h1)
    · rcases ltP.tri (a := a) (b := b) (by simpa using h) with h2 | rfl | h2
      · exact .inl (.inr ⟨rfl, h2⟩)
      · exact .inr (.inl rfl)
      · exact .inr (.inr (.inr ⟨rfl, h2⟩))
    · exact .inr (.inr (.inl h1))
theorem ltP.add : ∀ {a b c d : Plc}, a.length = c.length → b.length = d.length → a.length = b.length → ltP a b → (ltP c d ∨ c = d) → ltP (addP a c) (addP b d)
  | x :: a, y :: b, z :: c, u :: d, h1, h2, h3, h, k => by
    have ih := ltP.add (a := a) (b := b) (c := c) (d := d) (by simpa using h1) (by simpa using h2) (by simpa using h3)
    show x + z < y + u ∨ (x + z = y + u ∧ ltP (addP a c) (addP b d))
    rcases k with k | k
    · rcases h with h | ⟨rfl, h⟩ <;> rcases k with k | ⟨rfl, k⟩
      · exact .inl (by omega)
      · exact .inl (by omega)
      · exact .inl (by omega)
      · exact .inr ⟨rfl, ih h (.inl k)⟩
    · injection k with k1 k2
      subst k1
      rcases h with h | ⟨rfl, h⟩
      · exact .inl (by omega)
      · exact .inr ⟨rfl, ih h (.inr k2)⟩
structure PlainM (n : Nat) (L : Mv) : Prop where
  len : LenM n L
  ord : L.Pairwise fun s t => ltP t.1 s.1
  ne : ∀ t ∈ L, t.2 ≠ 0
section
variable {n : Nat} {L M : Mv}
theorem PlainM.nil (n : Nat) : PlainM n [] := ⟨fun t h => (by cases h), List.Pairwise.nil, fun t h => (by cases h)⟩
theorem PlainM.tail {t : Trm} (h : PlainM n (t :: L)) : PlainM n L := ⟨fun s hs => h.len s (List.mem_cons_of_mem _ hs), (List.pairwise_cons.1 h.ord).2, fun s hs => h.ne s (List.mem_cons_of_mem _ hs)⟩
theorem PlainM.co_head {t : Trm} (h : PlainM n (t :: L)) : coM (t :: L) t.1 = t.2 := by
  rw [coM_cons, if_pos rfl, coM_none fun s hs e => ltP.irrefl t.1 (by have := (List.pairwise_cons.1 h.ord).1 s hs; rwa [e] at this)]; omega
theorem PlainM.co_above {t : Trm} (h : PlainM n (t :: L)) {p : Plc} (hp : ltP t.1 p) : coM (t :: L) p = 0 := by
  refine coM_none fun s hs e => ?_
  subst e
  rcases List.mem_cons.1 hs with rfl | hs
  · exact ltP.irrefl _ hp
  · exact ltP.irrefl _ (ltP.trans hp ((List.pairwise_cons.1 h.ord).1 s hs))
theorem PlainM.co_mem : ∀ {L : Mv}, PlainM n L → ∀ t ∈ L, coM L t.1 = t.2
  | s :: L, h, t, ht => by
    rcases List.mem_cons.1 ht with rfl | ht
    · exact h.co_head
    · rw [coM_cons, if_neg fun e => ltP.irrefl s.1 (by have := (List.pairwise_cons.1 h.ord).1 t ht; rwa [← e] at this), h.tail.co_mem t ht]; omega
theorem PlainM.unique : ∀ {L M : Mv}, PlainM n L → PlainM n M → EqM n L M → L = M
  | [], [], _, _, _ => rfl
  | [], t :: M, _, k, e => by
    have h := e t.1 (k.len t List.mem_cons_self)
    rw [k.co_head, coM_nil] at h
    exact absurd h.symm (k.ne t List.mem_cons_self)
  | s :: L, [], h, _, e => by
    have h' := e s.1 (h.len s List.mem_cons_self)
    rw [h.co_head, coM_nil] at h'
    exact absurd h' (h.ne s List.mem_cons_self)
  | s :: L, t :: M, h, k, e => by
    have e1 : s.1 = t.1 := by
      rcases ltP.tri ((h.len s List.mem_cons_self).trans (k.len t List.mem_cons_self).symm) with h1 | h1 | h1
      · have h2 := e t.1 (k.len t List.mem_cons_self)
        rw [k.co_head, h.co_above h1] at h2
        exact absurd h2.symm (k.ne t List.mem_cons_self)
      · exact h1
      · have h2 := e s.1 (h.len s List.mem_cons_self)
        rw [h.co_head, k.co_above h1] at h2
        exact absurd h2 (h.ne s List.mem_cons_self)
    have e2 : s.2 = t.2 := by
      have h2 := e s.1 (h.len s List.mem_cons_self)
      rw [h.co_head, e1, k.co_head] at h2
      exact h2
    have e3 : s = t := Prod.ext e1 e2
    subst e3
    rw [PlainM.unique h.tail k.tail fun p hp => by have := e p hp; rw [coM_cons, coM_cons] at this; omega]
end
end Cl
namespace Cl
section
variable {n : Nat} {L M N : Mv}
theorem coM_ne {L : Mv} {p : Plc} (h : coM L p ≠ 0) : ∃ t ∈ L, t.1 = p := by
  by_cases hx : ∃ t ∈ L, t.1 = p
  · exact hx
  · exact absurd (coM_none fun t ht e => hx ⟨t, ht, e⟩) h
theorem PlainM.from_ (h : PlainM n L) (e : EqM n L M) {t : Trm} (ht : t ∈ L) : ∃ s ∈ M, s.1 = t.1 := by
  refine coM_ne (L := M) ?_
  rw [← e t.1 (h.len t ht), h.co_mem t ht]
  exact h.ne t ht
theorem PlainM.nodup (h : PlainM n L) : (L.map (·.1)).Pairwise (· ≠ ·) :=
  List.pairwise_map.2 (h.ord.imp fun {s t} (hlt : ltP t.1 s.1) (e : s.1 = t.1) => ltP.irrefl t.1 (by rw [e] at hlt; exact hlt))
theorem nodup_le {α : Type} [DecidableEq α] : ∀ {l m : List α}, l.Pairwise (· ≠ ·) → (∀ x ∈ l, x ∈ m) → l.length ≤ m.length
  | [], _, _, _ => Nat.zero_le _
  | x :: l, m, h, hs => by
    obtain ⟨h1, h2⟩ := List.pairwise_cons.1 h
    have hx := hs x List.mem_cons_self
    have h3 := nodup_le (l := l) (m := m.erase x) h2 fun y hy => by
      have hne : y ≠ x := fun e => h1 y hy e.symm
      exact (List.mem_erase_of_ne hne).2 (hs y (List.mem_cons_of_mem _ hy))
    have h4 := List.length_erase_of_mem hx
    have h5 := List.length_pos_of_mem hx
    show l.length + 1 ≤ _
    omega
theorem PlainM.count (h : PlainM n L) (e : EqM n L M) : L.length ≤ M.length := by
  have h1 := nodup_le (l := L.map (·.1)) (m := M.map (·.1)) h.nodup fun p hp => by
    obtain ⟨t, ht, rfl⟩ := List.mem_map.1 hp
    obtain ⟨s, hs, e2⟩ := h.from_ e ht
    exact List.mem_map.2 ⟨s, hs, e2⟩
  simpa using h1
def absM (L : Mv) : Nat := (L.map fun t => t.2.natAbs).sum
theorem coM_abs : ∀ (L : Mv) (p : Plc), (coM L p).natAbs ≤ absM L
  | [], _ => by show (0 : Int).natAbs ≤ 0; omega
  | t :: L, p => by
    have ih := coM_abs L p
    rw [coM_cons]
    show _ ≤ t.2.natAbs + absM L
    split <;> omega
theorem absM_append (L M : Mv) : absM (L ++ M) = absM L + absM M := by unfold absM; rw [List.map_append, List.sum_append]
theorem absM_le {B : Nat} : ∀ {L : Mv}, (∀ t ∈ L, t.2.natAbs ≤ B) → absM L ≤ L.length * B
  | [], _ => Nat.zero_le _
  | t :: L, h => by
    have ih := absM_le (L := L) fun s hs => h s (List.mem_cons_of_mem _ hs)
    have h1 := h t List.mem_cons_self
    show t.2.natAbs + absM L ≤ (L.length + 1) * B
    rw [Nat.add_mul, Nat.one_mul]; omega
theorem PlainM.small (h : PlainM n L) (e : EqM n L M) {t : Trm} (ht : t ∈ L) : t.2.natAbs ≤ absM M := by
  rw [← h.co_mem t ht, e t.1 (h.len t ht)]
  exact coM_abs M t.1
theorem mulM_length (L M : Mv) : (mulM L M).length = L.length * M.length := by
  induction L with
  | nil => show 0 = 0 * _; rw [Nat.zero_mul]
  | cons a L ih =>
    show ((M.map fun b => (addP a.1 b.1, a.2 * b.2)) ++ mulM L M).length = _
    rw [List.length_append, List.length_map, ih, List.length_cons, Nat.add_mul, Nat.one_mul]; omega
def BdM (d : Int) (L : Mv) : Prop := ∀ t ∈ L, ∀ x ∈ t.1, 0 ≤ x ∧ x ≤ d
theorem BdM.append {d : Int} (h : BdM d L) (k : BdM d M) : BdM d (L ++ M) := fun t ht => (List.mem_append.1 ht).elim (h t) (k t)
theorem BdM.mono {d e : Int} (h : BdM d L) (hd : d ≤ e) : BdM e L := fun t ht x hx => by have := h t ht x hx; omega
theorem mem_addP : ∀ {a b : Plc} {x : Int}, x ∈ addP a b → ∃ y ∈ a, ∃ z ∈ b, x = y + z
  | [], b, x, h => by cases b <;> cases h
  | y :: a, [], x, h => by cases h
  | y :: a, z :: b, x, h => by
    rcases List.mem_cons.1 (show x ∈ (y + z) :: addP a b from h) with rfl | h
    · exact ⟨y, List.mem_cons_self, z, List.mem_cons_self, rfl⟩
    · obtain ⟨u, hu, v, hv, e⟩ := mem_addP h
      exact ⟨u, List.mem_cons_of_mem _ hu, v, List.mem_cons_of_mem _ hv, e⟩
theorem BdM.mul {d e : Int} (h : BdM d L) (k : BdM e M) : BdM (d + e) (mulM L M) := fun t ht x hx => by
  obtain ⟨a, ha, ht⟩ := List.mem_flatMap.1 ht
  obtain ⟨b, hb, rfl⟩ := List.mem_map.1 ht
  obtain ⟨y, hy, z, hz, rfl⟩ := mem_addP hx
  have h1 := h a ha y hy
  have h2 := k b hb z hz
  omega
theorem PlainM.bd {d : Int} (h : PlainM n L) (e : EqM n L M) (hb : BdM d M) : BdM d L := fun t ht x hx => by
  obtain ⟨s, hs, e2⟩ := h.from_ e ht
  exact hb s hs x (by rw [e2]; exact hx)
theorem plain_of_sorted (hl : LenM n L) (hd : (L.map (·.1)).Pairwise (· ≠ ·)) (hz : ∀ t ∈ L, t.2 ≠ 0) (hs : L.Pairwise fun s t => ¬ ltP s.1 t.1) : PlainM n L := by
  refine ⟨hl, ?_, hz⟩
  have hd' := List.pairwise_map.1 hd
  have h3 : L.Pairwise fun s t => ¬ ltP s.1 t.1 ∧ s.1 ≠ t.1 := by
    clear hl hz hd
    induction L with
    | nil => exact List.Pairwise.nil
    | cons a L ih =>
      obtain ⟨h1, h2⟩ := List.pairwise_cons.1 hs
      obtain ⟨k1, k2⟩ := List.pairwise_cons.1 hd'
      exact List.pairwise_cons.2 ⟨fun b hb => ⟨h1 b hb, k1 b hb⟩, ih h2 k2⟩
  refine h3.imp_of_mem fun {s t} hs ht ⟨h1, h2⟩ => ?_
  rcases ltP.tri ((hl s hs).trans (hl t ht).symm) with h | h | h
  · exact absurd h h1
  · exact absurd h h2
  · exact h
end
theorem coM_mem_of_nodup : ∀ {L : Mv}, (L.map (·.1)).Pairwise (· ≠ ·) → ∀ t ∈ L, coM L t.1 = t.2
  | s :: L, h, t, ht => by
    obtain ⟨h1, h2⟩ := List.pairwise_cons.1 (show (s.1 :: L.map (·.1)).Pairwise (· ≠ ·) from h)
    rcases List.mem_cons.1 ht with rfl | ht
    · rw [coM_cons, if_pos rfl, coM_none fun u hu e => h1 u.1 (List.mem_map.2 ⟨u, hu, rfl⟩) e.symm]; omega
    · rw [coM_cons, if_neg fun e => h1 t.1 (List.mem_map.2 ⟨t, ht, rfl⟩) e, coM_mem_of_nodup h2 t ht]; omega
end Cl
namespace Cl
theorem func_zero {n : Nat} (g : Plc → Int) : ∀ (k : Nat) (L : Mv), L.length ≤ k → LenM n L → (∀ p, p.length = n → coM L p = 0) → sumL (fun t : Trm => t.2 * g t.1) L = 0
  | _, [], _, _, _ => rfl
  | 0, t :: L, hk, _, _ => by simp at hk
  | k + 1, t :: L, hk, hl, h0 => by
    have split : ∀ M : Mv, sumL (fun s : Trm => s.2 * g s.1) M = sumL (fun s : Trm => s.2 * g s.1) (M.filter fun s => decide (s.1 = t.1)) + sumL (fun s : Trm => s.2 * g s.1) (M.filter fun s => !decide (s.1 = t.1)) := fun M => by
      induction M with
      | nil => rfl
      | cons a M ih =>
        by_cases e : a.1 = t.1
        · rw [List.filter_cons_of_pos (by simp [e]), List.filter_cons_of_neg (by simp [e])]
          show a.2 * g a.1 + sumL _ M = a.2 * g a.1 + sumL _ _ + _
          rw [ih]; omega
        · rw [List.filter_cons_of_neg (by simp [e]), List.filter_cons_of_pos (by simp [e])]
          show a.2 * g a.1 + sumL _ M = _ + (a.2 * g a.1 + sumL _ _)
          rw [ih]; omega
    have same : ∀ M : Mv, sumL (fun s : Trm => s.2 * g s.1) (M.filter fun s => decide (s.1 = t.1)) = coM M t.1 * g t.1 := fun M => by
      induction M with
      | nil => show 0 = 0 * _; rw [Int.zero_mul]
      | cons a M ih =>
        rw [coM_cons]
        by_cases e : a.1 = t.1
        · rw [List.filter_cons_of_pos (by simp [e]), if_pos e, Int.add_mul]
          show a.2 * g a.1 + sumL _ _ = _
          rw [ih, e]
        · rw [List.filter_cons_of_neg (by simp [e]), if_neg e, ih]; rw [Int.zero_add]
    have rest : ∀ (M : Mv) (p : Plc), coM (M.filter fun s => !decide (s.1 = t.1)) p = if p = t.1 then 0 else coM M p := fun M p => by
      induction M with
      | nil => show 0 = _; split <;> rfl
      | cons a M ih =>
        by_cases e : a.1 = t.1
        · rw [List.filter_cons_of_neg (by simp [e]), ih, coM_cons]
          by_cases ep : p = t.1
          · rw [if_pos ep, if_pos ep]
          · rw [if_neg ep, if_neg ep, if_neg (fun h => ep (h.symm.trans e))]; omega
        · rw [List.filter_cons_of_pos (by simp [e]), coM_cons, ih, coM_cons]
          by_cases ep : p = t.1
          · rw [if_pos ep, if_pos ep, if_neg (fun h => e (h.trans ep))]; rfl
          · rw [if_neg ep, if_neg ep]
    rw [split, same, h0 t.1 (hl t List.mem_cons_self), Int.zero_mul, Int.zero_add]
    refine func_zero g k _ ?_ (fun s hs => hl s (List.mem_filter.1 hs).1) fun p hp => ?_
    · have h1 : ((t :: L).filter fun s => !decide (s.1 = t.1)) = L.filter fun s => !decide (s.1 = t.1) := List.filter_cons_of_neg (by simp)
      rw [h1]
      have := List.length_filter_le (fun s : Trm => !decide (s.1 = t.1)) L
      simp at hk
      omega
    · rw [rest]
      split
      · rfl
      · exact h0 p hp
theorem func_eq {n : Nat} (g : Plc → Int) {L M : Mv} (hL : LenM n L) (hM : LenM n M) (h : EqM n L M) : sumL (fun t : Trm => t.2 * g t.1) L = sumL (fun t : Trm => t.2 * g t.1) M := by
  have h1 := func_zero (n := n) g _ (L ++ scaleM (-1) M) (Nat.le_refl _) (hL.append (hM.scale _)) fun p hp => by
    rw [coM_append, coM_scale, h p hp]; omega
  rw [sumL_append] at h1
  have h2 : sumL (fun t : Trm => t.2 * g t.1) (scaleM (-1) M) = -1 * sumL (fun t : Trm => t.2 * g t.1) M := by
    unfold scaleM
    rw [sumL_map, ← sumL_mul]
    exact sumL_congr fun t _ => Int.mul_assoc _ _ _
  rw [h2] at h1
  omega
def mapM (f : Plc → Plc) (g : Plc → Int) (L : Mv) : Mv := L.map fun t => (f t.1, t.2 * g t.1)
theorem mapM_append (f : Plc → Plc) (g : Plc → Int) (L M : Mv) : mapM f g (L ++ M) = mapM f g L ++ mapM f g M := List.map_append
theorem coM_map (f : Plc → Plc) (g : Plc → Int) (L : Mv) (p : Plc) : coM (mapM f g L) p = sumL (fun t : Trm => t.2 * (if f t.1 = p then g t.1 else 0)) L := by
  unfold coM mapM
  rw [sumL_map]
  refine sumL_congr fun t _ => ?_
  show (if f t.1 = p then t.2 * g t.1 else 0) = _
  split
  · rfl
  · rw [Int.mul_zero]
theorem mapM_eq {n : Nat} (f : Plc → Plc) (g : Plc → Int) {L M : Mv} (hL : LenM n L) (hM : LenM n M) (h : EqM n L M) : EqM n (mapM f g L) (mapM f g M) := fun p _ => by
  rw [coM_map, coM_map, func_eq (fun q => if f q = p then g q else 0) hL hM h]
theorem mapM_len {n : Nat} {f : Plc → Plc} {g : Plc → Int} {L : Mv} (h : LenM n L) (hf : ∀ p, p.length = n → (f p).length = n) : LenM n (mapM f g L) := fun t ht => by
  obtain ⟨s, hs, rfl⟩ := List.mem_map.1 ht
  exact hf _ (h s hs)
end Cl
namespace Cl
def cntM (L : Mv) : Nat := L.foldl (fun g t => Nat.gcd g t.2.natAbs) 0
def czM : Mv → Int
  | [] => 0
  | t :: L => if t.2 < 0 then -(cntM (t :: L) : Int) else (cntM (t :: L) : Int)
def prM (L : Mv) : Mv := L.map fun t => (t.1, t.2 / czM L)
theorem cntM_snoc (L : Mv) (t : Trm) : cntM (L ++ [t]) = Nat.gcd (cntM L) t.2.natAbs := by unfold cntM; rw [List.foldl_append]; rfl
theorem cntM_foldl : ∀ (L : Mv) (g : Nat), L.foldl (fun g t => Nat.gcd g t.2.natAbs) g = Nat.gcd g (cntM L)
  | [], g => by show g = Nat.gcd g 0; rw [Nat.gcd_zero_right]
  | t :: L, g => by
    show L.foldl _ (Nat.gcd g t.2.natAbs) = Nat.gcd g (L.foldl _ (Nat.gcd 0 t.2.natAbs))
    rw [cntM_foldl L, cntM_foldl L, Nat.gcd_zero_left, Nat.gcd_assoc]
theorem cntM_cons (t : Trm) (L : Mv) : cntM (t :: L) = Nat.gcd t.2.natAbs (cntM L) := by
  show L.foldl _ (Nat.gcd 0 t.2.natAbs) = _
  rw [cntM_foldl, Nat.gcd_zero_left]
theorem cntM_dvd : ∀ {L : Mv} {t : Trm}, t ∈ L → cntM L ∣ t.2.natAbs
  | s :: L, t, h => by
    rw [cntM_cons]
    rcases List.mem_cons.1 h with rfl | h1
    · exact Nat.gcd_dvd_left _ _
    · exact Nat.dvd_trans (Nat.gcd_dvd_right _ _) (cntM_dvd h1)
theorem cntM_pos {t : Trm} {L : Mv} (ht : t ∈ L) (h : t.2 ≠ 0) : 0 < cntM L := by
  rcases Nat.eq_zero_or_pos (cntM L) with h0 | h0
  · have := cntM_dvd ht
    rw [h0] at this
    have := Nat.eq_zero_of_zero_dvd this
    omega
  · exact h0
theorem czM_abs (L : Mv) : (czM L).natAbs = cntM L := by
  cases L with
  | nil => rfl
  | cons t L =>
    show (if t.2 < 0 then -(cntM (t :: L) : Int) else (cntM (t :: L) : Int)).natAbs = _
    split
    · rw [Int.natAbs_neg, Int.natAbs_natCast]
    · rw [Int.natAbs_natCast]
theorem czM_dvd {L : Mv} {t : Trm} (ht : t ∈ L) : t.2 % czM L = 0 := by
  have h := cntM_dvd ht
  rw [← czM_abs] at h
  exact Int.emod_eq_zero_of_dvd (Int.natAbs_dvd_natAbs.1 h)
end Cl
namespace Cl
section
variable {n : Nat} {A B N : Mv}
theorem cntM_eq_zero {L : Mv} (h : PlainM n L) (hL : L ≠ []) : 0 < cntM L := by
  match L, hL with
  | t :: L', _ => exact cntM_pos List.mem_cons_self (h.ne t List.mem_cons_self)
end
end Cl
