/- Polynomials of several variables as lists of terms: what each place holds; sums, products; plain lists are one. No program in sight.
   Plain lists of terms: how many, which places, how great; sorting; sums kept place by place. No program in sight.
   Division of lists of terms, step by step: what comes out is determined; how far it goes; how great its numbers are. No program in sight.
   How far a division of lists of terms goes, and how great its numbers are: weights of places, a potential that never grows. No program in sight.
   How many places of bounded weight there are; what a division has done so far. No program in sight. -/
set_option linter.unusedVariables false
set_option linter.unusedSimpArgs false
namespace Cl
abbrev Plc := List Int
abbrev Trm := Plc × Int
abbrev Mv := List Trm
def sumL {α : Type} (f : α → Int) : List α → Int
  | [] => 0
  | a :: L => f a + sumL f L
section
variable {α β : Type}
theorem sumL_append (f : α → Int) : ∀ L M : List α, sumL f (L ++ M) = sumL f L + sumL f M
  | [], M => by show sumL f M = 0 + _; omega
  | a :: L, M => by show f a + sumL f (L ++ M) = f a + sumL f L + _; rw [sumL_append f L M]; omega
theorem sumL_congr {f g : α → Int} : ∀ {L : List α}, (∀ a ∈ L, f a = g a) → sumL f L = sumL g L
  | [], _ => rfl
  | a :: L, h => by show f a + _ = g a + _; rw [h a List.mem_cons_self, sumL_congr fun b hb => h b (List.mem_cons_of_mem _ hb)]
theorem sumL_zero : ∀ L : List α, sumL (fun _ => (0 : Int)) L = 0
  | [] => rfl
  | a :: L => by show 0 + sumL _ L = 0; rw [sumL_zero L]; rfl
theorem sumL_add (f g : α → Int) : ∀ L : List α, sumL (fun a => f a + g a) L = sumL f L + sumL g L
  | [] => rfl
  | a :: L => by show f a + g a + sumL _ L = f a + _ + (g a + _); rw [sumL_add f g L]; omega
theorem sumL_mul (c : Int) (f : α → Int) : ∀ L : List α, sumL (fun a => c * f a) L = c * sumL f L
  | [] => by show 0 = c * 0; rw [Int.mul_zero]
  | a :: L => by show c * f a + sumL _ L = c * (f a + _); rw [sumL_mul c f L, Int.mul_add]
theorem sumL_mulr (c : Int) (f : α → Int) (L : List α) : sumL (fun a => f a * c) L = sumL f L * c := by
  rw [Int.mul_comm, ← sumL_mul]; exact sumL_congr fun a _ => Int.mul_comm _ _
theorem sumL_map (g : β → α) (f : α → Int) : ∀ L : List β, sumL f (L.map g) = sumL (fun b => f (g b)) L
  | [] => rfl
  | b :: L => by show f (g b) + sumL f (L.map g) = _; rw [sumL_map g f L]; rfl
theorem sumL_flat (g : β → List α) (f : α → Int) : ∀ L : List β, sumL f (L.flatMap g) = sumL (fun b => sumL f (g b)) L
  | [] => rfl
  | b :: L => by rw [List.flatMap_cons, sumL_append, sumL_flat g f L]; rfl
theorem sumL_swap (f : α → β → Int) : ∀ (L : List α) (M : List β), sumL (fun a => sumL (f a) M) L = sumL (fun b => sumL (fun a => f a b) L) M
  | [], M => (sumL_zero M).symm
  | a :: L, M => by
    show sumL (f a) M + sumL _ L = _
    rw [sumL_swap f L M, ← sumL_add]
    rfl
theorem sumL_perm (f : α → Int) {L M : List α} (h : L.Perm M) : sumL f L = sumL f M := by
  induction h with
  | nil => rfl
  | cons a _ ih => show f a + _ = f a + _; rw [ih]
  | swap a b L => show f b + (f a + _) = f a + (f b + _); omega
  | trans _ _ ih1 ih2 => rw [ih1, ih2]
end
def coM (L : Mv) (p : Plc) : Int := sumL (fun t : Trm => if t.1 = p then t.2 else 0) L
theorem coM_append (L M : Mv) (p : Plc) : coM (L ++ M) p = coM L p + coM M p := sumL_append _ _ _
theorem coM_cons (t : Trm) (L : Mv) (p : Plc) : coM (t :: L) p = (if t.1 = p then t.2 else 0) + coM L p := rfl
theorem coM_nil (p : Plc) : coM [] p = 0 := rfl
theorem coM_perm {L M : Mv} (h : L.Perm M) (p : Plc) : coM L p = coM M p := sumL_perm _ h
theorem coM_none {L : Mv} {p : Plc} (h : ∀ t ∈ L, t.1 ≠ p) : coM L p = 0 := by
  unfold coM
  rw [sumL_congr (g := fun _ => 0) fun t ht => if_neg (h t ht), sumL_zero]
def scaleM (c : Int) (L : Mv) : Mv := L.map fun t => (t.1, c * t.2)
theorem coM_scale (c : Int) (L : Mv) (p : Plc) : coM (scaleM c L) p = c * coM L p := by
  unfold coM scaleM
  rw [sumL_map, ← sumL_mul]
  refine sumL_congr fun t _ => ?_
  show (if t.1 = p then c * t.2 else 0) = c * (if t.1 = p then t.2 else 0)
  split
  · rfl
  · rw [Int.mul_zero]
def addP (a b : Plc) : Plc := List.zipWith (· + ·) a b
def subP (a b : Plc) : Plc := List.zipWith (· - ·) a b
theorem addP_length {a b : Plc} {n : Nat} (ha : a.length = n) (hb : b.length = n) : (addP a b).length = n := by unfold addP; rw [List.length_zipWith]; omega
theorem subP_length {a b : Plc} {n : Nat} (ha : a.length = n) (hb : b.length = n) : (subP a b).length = n := by unfold subP; rw [List.length_zipWith]; omega
theorem addP_comm : ∀ a b : Plc, addP a b = addP b a
  | [], b => by cases b <;> rfl
  | x :: a, [] => rfl
  | x :: a, y :: b => by
    show (x + y) :: addP a b = (y + x) :: addP b a
    rw [addP_comm a b, Int.add_comm]
theorem addP_iff : ∀ {a b p : Plc}, a.length = b.length → a.length = p.length → (addP a b = p ↔ a = subP p b)
  | [], [], [], _, _ => ⟨fun _ => rfl, fun _ => rfl⟩
  | x :: a, y :: b, z :: p, h1, h2 => by
    have ih := addP_iff (a := a) (b := b) (p := p) (by simpa using h1) (by simpa using h2)
    show (x + y) :: addP a b = z :: p ↔ x :: a = (z - y) :: subP p b
    constructor
    · intro h
      injection h with h3 h4
      rw [← ih.1 h4, show x = z - y by omega]
    · intro h
      injection h with h3 h4
      rw [ih.2 h4, show x + y = z by omega]
def mulM (L M : Mv) : Mv := L.flatMap fun a => M.map fun b => (addP a.1 b.1, a.2 * b.2)
theorem coM_mul (L M : Mv) (p : Plc) : coM (mulM L M) p = sumL (fun a : Trm => sumL (fun b : Trm => if addP a.1 b.1 = p then a.2 * b.2 else 0) M) L := by
  unfold coM mulM
  rw [sumL_flat]
  exact sumL_congr fun a _ => sumL_map _ _ _
theorem mulM_comm (L M : Mv) (p : Plc) : coM (mulM L M) p = coM (mulM M L) p := by
  rw [coM_mul, coM_mul, sumL_swap]
  exact sumL_congr fun b _ => sumL_congr fun a _ => by rw [addP_comm, Int.mul_comm]
theorem mulM_append (L M N : Mv) : mulM (L ++ M) N = mulM L N ++ mulM M N := by unfold mulM; rw [List.flatMap_append]
theorem flat_congr {α β : Type} {f g : α → List β} : ∀ {L : List α}, (∀ a ∈ L, f a = g a) → L.flatMap f = L.flatMap g
  | [], _ => rfl
  | a :: L, h => by rw [List.flatMap_cons, List.flatMap_cons, h a List.mem_cons_self, flat_congr fun b hb => h b (List.mem_cons_of_mem _ hb)]
def LenM (n : Nat) (L : Mv) : Prop := ∀ t ∈ L, t.1.length = n
theorem LenM.append {n : Nat} {L M : Mv} (h : LenM n L) (k : LenM n M) : LenM n (L ++ M) := fun t ht => (List.mem_append.1 ht).elim (h t) (k t)
theorem LenM.scale {n : Nat} {L : Mv} (h : LenM n L) (c : Int) : LenM n (scaleM c L) := fun t ht => by
  obtain ⟨x, hx, rfl⟩ := List.mem_map.1 ht
  exact h x hx
theorem LenM.mul {n : Nat} {L M : Mv} (h : LenM n L) (k : LenM n M) : LenM n (mulM L M) := fun t ht => by
  obtain ⟨a, ha, ht⟩ := List.mem_flatMap.1 ht
  obtain ⟨b, hb, rfl⟩ := List.mem_map.1 ht
  exact addP_length (h a ha) (k b hb)
def EqM (n : Nat) (L M : Mv) : Prop := ∀ p : Plc, p.length = n → coM L p = coM M p
section
variable {n : Nat} {L L' M M' N : Mv}
theorem EqM.refl (n : Nat) (L : Mv) : EqM n L L := fun _ _ => rfl
theorem EqM.symm (h : EqM n L M) : EqM n M L := fun p hp => (h p hp).symm
theorem EqM.trans (h : EqM n L M) (k : EqM n M N) : EqM n L N := fun p hp => (h p hp).trans (k p hp)
theorem EqM.add (h : EqM n L L') (k : EqM n M M') : EqM n (L ++ M) (L' ++ M') := fun p hp => by rw [coM_append, coM_append, h p hp, k p hp]
theorem EqM.scale (h : EqM n L L') (c : Int) : EqM n (scaleM c L) (scaleM c L') := fun p hp => by rw [coM_scale, coM_scale, h p hp]
theorem EqM.perm (h : L.Perm M) : EqM n L M := fun p _ => coM_perm h p
theorem coM_mulR (hL : LenM n L) (hM : LenM n M) {p : Plc} (hp : p.length = n) : coM (mulM L M) p = sumL (fun b : Trm => coM L (subP p b.1) * b.2) M := by
  rw [coM_mul, sumL_swap]
  refine sumL_congr fun b hb => ?_
  unfold coM
  rw [← sumL_mulr]
  refine sumL_congr fun a ha => ?_
  have h := addP_iff (a := a.1) (b := b.1) (p := p) ((hL a ha).trans (hM b hb).symm) ((hL a ha).trans hp.symm)
  by_cases e : addP a.1 b.1 = p
  · rw [if_pos e, if_pos (h.1 e)]
  · rw [if_neg e, if_neg (fun e2 => e (h.2 e2)), Int.zero_mul]
theorem EqM.mulL (h : EqM n L L') (hL : LenM n L) (hL' : LenM n L') (hM : LenM n M) : EqM n (mulM L M) (mulM L' M) := fun p hp => by
  rw [coM_mulR hL hM hp, coM_mulR hL' hM hp]
  exact sumL_congr fun b hb => by rw [h _ (subP_length hp (hM b hb))]
theorem EqM.mul (h : EqM n L L') (k : EqM n M M') (hL : LenM n L) (hL' : LenM n L') (hM : LenM n M) (hM' : LenM n M') : EqM n (mulM L M) (mulM L' M') :=
  (h.mulL hL hL' hM).trans fun p hp => by rw [mulM_comm, mulM_comm L']; exact k.mulL hM hM' hL' p hp
end
def ltP : Plc → Plc → Prop
  | x :: a, y :: b => x < y ∨ (x = y ∧ ltP a b)
  | _, _ => False
instance decLtP : ∀ a b : Plc, Decidable (ltP a b)
  | [], _ => .isFalse id
  | _ :: _, [] => .isFalse id
  | _x :: a, _y :: b => @instDecidableOr _ _ _ (@instDecidableAnd _ _ _ (decLtP a b))
theorem ltP.irrefl : ∀ a : Plc, ¬ ltP a a
  | [], h => h
  | x :: a, h => by
    rcases h with h | ⟨_, h⟩
    · omega
    · exact ltP.irrefl a h
theorem ltP.trans : ∀ {a b c : Plc}, ltP a b → ltP b c → ltP a c
  | x :: a, y :: b, z :: c, h, k => by
    rcases h with h | ⟨rfl, h⟩
    · rcases k with k | ⟨rfl, k⟩
      · exact .inl (by omega)
      · exact .inl h
    · rcases k with k | ⟨rfl, k⟩
      · exact .inl k
      · exact .inr ⟨rfl, ltP.trans h k⟩
theorem ltP.tri : ∀ {a b : Plc}, a.length = b.length → ltP a b ∨ a = b ∨ ltP b a
  | [], [], _ => .inr (.inl rfl)
  | x :: a, y :: b, h => by
    rcases Int.lt_trichotomy x y with h1 | rfl | h1
    · exact .inl (.inl h1)
    · rcases ltP.tri (a := a) (b := b) (by simpa using h) with h2 | rfl | h2
      · exact .inl (.inr ⟨rfl, h2⟩)
      · exact .inr (.inl rfl)
      · exact .inr (.inr (.inr ⟨rfl, h2⟩))
    · exact .inr (.inr (.inl h1))
theorem ltP.add : ∀ {a b c d : Plc}, a.length = c.length → b.length = d.length → a.length = b.length → ltP a b → (ltP c d ∨ c = d) → ltP (addP a c) (addP b d)
  | x :: a, y :: b, z :: c, u :: d, h1, h2, h3, h, k => by
    have ih := ltP.add (a := a) (b := b) (c := c) (d := d) (by simpa using h1) (by simpa using h2) (by simpa using h3)
    show x + z < y + u ∨ (x + z = y + u ∧ ltP (addP a c) (addP b d))
    rcases k with k | k
    · rcases h with h | ⟨rfl, h⟩ <;> rcases k with k | ⟨rfl, k⟩
      · exact .inl (by omega)
      · exact .inl (by omega)
      · exact .inl (by omega)
      · exact .inr ⟨rfl, ih h (.inl k)⟩
    · injection k with k1 k2
      subst k1
      rcases h with h | ⟨rfl, h⟩
      · exact .inl (by omega)
      · exact .inr ⟨rfl, ih h (.inr k2)⟩
structure PlainM (n : Nat) (L : Mv) : Prop where
  len : LenM n L
  ord : L.Pairwise fun s t => ltP t.1 s.1
  ne : ∀ t ∈ L, t.2 ≠ 0
section
variable {n : Nat} {L M : Mv}
theorem PlainM.nil (n : Nat) : PlainM n [] := ⟨fun t h => (by cases h), List.Pairwise.nil, fun t h => (by cases h)⟩
theorem PlainM.tail {t : Trm} (h : PlainM n (t :: L)) : PlainM n L := ⟨fun s hs => h.len s (List.mem_cons_of_mem _ hs), (List.pairwise_cons.1 h.ord).2, fun s hs => h.ne s (List.mem_cons_of_mem _ hs)⟩
theorem PlainM.co_head {t : Trm} (h : PlainM n (t :: L)) : coM (t :: L) t.1 = t.2 := by
  rw [coM_cons, if_pos rfl, coM_none fun s hs e => ltP.irrefl t.1 (by have := (List.pairwise_cons.1 h.ord).1 s hs; rwa [e] at this)]; omega
theorem PlainM.co_above {t : Trm} (h : PlainM n (t :: L)) {p : Plc} (hp : ltP t.1 p) : coM (t :: L) p = 0 := by
  refine coM_none fun s hs e => ?_
  subst e
  rcases List.mem_cons.1 hs with rfl | hs
  · exact ltP.irrefl _ hp
  · exact ltP.irrefl _ (ltP.trans hp ((List.pairwise_cons.1 h.ord).1 s hs))
theorem PlainM.co_mem : ∀ {L : Mv}, PlainM n L → ∀ t ∈ L, coM L t.1 = t.2
  | s :: L, h, t, ht => by
    rcases List.mem_cons.1 ht with rfl | ht
    · exact h.co_head
    · rw [coM_cons, if_neg fun e => ltP.irrefl s.1 (by have := (List.pairwise_cons.1 h.ord).1 t ht; rwa [← e] at this), h.tail.co_mem t ht]; omega
theorem PlainM.mem_of_co (_h : PlainM n L) {p : Plc} (hp : coM L p ≠ 0) : ∃ t ∈ L, t.1 = p := by
  by_cases hx : ∃ t ∈ L, t.1 = p
  · exact hx
  · exact absurd (coM_none fun t ht e => hx ⟨t, ht, e⟩) hp
theorem PlainM.unique : ∀ {L M : Mv}, PlainM n L → PlainM n M → EqM n L M → L = M
  | [], [], _, _, _ => rfl
  | [], t :: M, _, k, e => by
    have h := e t.1 (k.len t List.mem_cons_self)
    rw [k.co_head, coM_nil] at h
    exact absurd h.symm (k.ne t List.mem_cons_self)
  | s :: L, [], h, _, e => by
    have h' := e s.1 (h.len s List.mem_cons_self)
    rw [h.co_head, coM_nil] at h'
    exact absurd h' (h.ne s List.mem_cons_self)
  | s :: L, t :: M, h, k, e => by
    have e1 : s.1 = t.1 := by
      rcases ltP.tri ((h.len s List.mem_cons_self).trans (k.len t List.mem_cons_self).symm) with h1 | h1 | h1
      · have h2 := e t.1 (k.len t List.mem_cons_self)
        rw [k.co_head, h.co_above h1] at h2
        exact absurd h2.symm (k.ne t List.mem_cons_self)
      · exact h1
      · have h2 := e s.1 (h.len s List.mem_cons_self)
        rw [h.co_head, k.co_above h1] at h2
        exact absurd h2 (h.ne s List.mem_cons_self)
    have e2 : s.2 = t.2 := by
      have h2 := e s.1 (h.len s List.mem_cons_self)
      rw [h.co_head, e1, k.co_head] at h2
      exact h2
    have e3 : s = t := Prod.ext e1 e2
    subst e3
    rw [PlainM.unique h.tail k.tail fun p hp => by have := e p hp; rw [coM_cons, coM_cons] at this; omega]
end
end Cl
namespace Cl
section
variable {n : Nat} {L M N : Mv}
theorem coM_ne {L : Mv} {p : Plc} (h : coM L p ≠ 0) : ∃ t ∈ L, t.1 = p := by
  by_cases hx : ∃ t ∈ L, t.1 = p
  · exact hx
  · exact absurd (coM_none fun t ht e => hx ⟨t, ht, e⟩) h
theorem PlainM.from_ (h : PlainM n L) (e : EqM n L M) {t : Trm} (ht : t ∈ L) : ∃ s ∈ M, s.1 = t.1 := by
  refine coM_ne (L := M) ?_
  rw [← e t.1 (h.len t ht), h.co_mem t ht]
  exact h.ne t ht
theorem PlainM.nodup (h : PlainM n L) : (L.map (·.1)).Pairwise (· ≠ ·) :=
  List.pairwise_map.2 (h.ord.imp fun {s t} (hlt : ltP t.1 s.1) (e : s.1 = t.1) => ltP.irrefl t.1 (by rw [e] at hlt; exact hlt))
theorem nodup_le {α : Type} [DecidableEq α] : ∀ {l m : List α}, l.Pairwise (· ≠ ·) → (∀ x ∈ l, x ∈ m) → l.length ≤ m.length
  | [], _, _, _ => Nat.zero_le _
  | x :: l, m, h, hs => by
    obtain ⟨h1, h2⟩ := List.pairwise_cons.1 h
    have hx := hs x List.mem_cons_self
    have h3 := nodup_le (l := l) (m := m.erase x) h2 fun y hy => by
      have hne : y ≠ x := fun e => h1 y hy e.symm
      exact (List.mem_erase_of_ne hne).2 (hs y (List.mem_cons_of_mem _ hy))
    have h4 := List.length_erase_of_mem hx
    have h5 := List.length_pos_of_mem hx
    show l.length + 1 ≤ _
    omega
theorem PlainM.count (h : PlainM n L) (e : EqM n L M) : L.length ≤ M.length := by
  have h1 := nodup_le (l := L.map (·.1)) (m := M.map (·.1)) h.nodup fun p hp => by
    obtain ⟨t, ht, rfl⟩ := List.mem_map.1 hp
    obtain ⟨s, hs, e2⟩ := h.from_ e ht
    exact List.mem_map.2 ⟨s, hs, e2⟩
  simpa using h1
def absM (L : Mv) : Nat := (L.map fun t => t.2.natAbs).sum
theorem coM_abs : ∀ (L : Mv) (p : Plc), (coM L p).natAbs ≤ absM L
  | [], _ => by show (0 : Int).natAbs ≤ 0; omega
  | t :: L, p => by
    have ih := coM_abs L p
    rw [coM_cons]
    show _ ≤ t.2.natAbs + absM L
    split <;> omega
theorem absM_append (L M : Mv) : absM (L ++ M) = absM L + absM M := by unfold absM; rw [List.map_append, List.sum_append]
theorem absM_le {B : Nat} : ∀ {L : Mv}, (∀ t ∈ L, t.2.natAbs ≤ B) → absM L ≤ L.length * B
  | [], _ => Nat.zero_le _
  | t :: L, h => by
    have ih := absM_le (L := L) fun s hs => h s (List.mem_cons_of_mem _ hs)
    have h1 := h t List.mem_cons_self
    show t.2.natAbs + absM L ≤ (L.length + 1) * B
    rw [Nat.add_mul, Nat.one_mul]; omega
theorem PlainM.small (h : PlainM n L) (e : EqM n L M) {t : Trm} (ht : t ∈ L) : t.2.natAbs ≤ absM M := by
  rw [← h.co_mem t ht, e t.1 (h.len t ht)]
  exact coM_abs M t.1
theorem mulM_length (L M : Mv) : (mulM L M).length = L.length * M.length := by
  induction L with
  | nil => show 0 = 0 * _; rw [Nat.zero_mul]
  | cons a L ih =>
    show ((M.map fun b => (addP a.1 b.1, a.2 * b.2)) ++ mulM L M).length = _
    rw [List.length_append, List.length_map, ih, List.length_cons, Nat.add_mul, Nat.one_mul]; omega
def BdM (d : Int) (L : Mv) : Prop := ∀ t ∈ L, ∀ x ∈ t.1, 0 ≤ x ∧ x ≤ d
theorem BdM.append {d : Int} (h : BdM d L) (k : BdM d M) : BdM d (L ++ M) := fun t ht => (List.mem_append.1 ht).elim (h t) (k t)
theorem BdM.mono {d e : Int} (h : BdM d L) (hd : d ≤ e) : BdM e L := fun t ht x hx => by have := h t ht x hx; omega
theorem mem_addP : ∀ {a b : Plc} {x : Int}, x ∈ addP a b → ∃ y ∈ a, ∃ z ∈ b, x = y + z
  | [], b, x, h => by cases b <;> cases h
  | y :: a, [], x, h => by cases h
  | y :: a, z :: b, x, h => by
    rcases List.mem_cons.1 (show x ∈ (y + z) :: addP a b from h) with rfl | h
    · exact ⟨y, List.mem_cons_self, z, List.mem_cons_self, rfl⟩
    · obtain ⟨u, hu, v, hv, e⟩ := mem_addP h
      exact ⟨u, List.mem_cons_of_mem _ hu, v, List.mem_cons_of_mem _ hv, e⟩
theorem BdM.mul {d e : Int} (h : BdM d L) (k : BdM e M) : BdM (d + e) (mulM L M) := fun t ht x hx => by
  obtain ⟨a, ha, ht⟩ := List.mem_flatMap.1 ht
  obtain ⟨b, hb, rfl⟩ := List.mem_map.1 ht
  obtain ⟨y, hy, z, hz, rfl⟩ := mem_addP hx
  have h1 := h a ha y hy
  have h2 := k b hb z hz
  omega
theorem PlainM.bd {d : Int} (h : PlainM n L) (e : EqM n L M) (hb : BdM d M) : BdM d L := fun t ht x hx => by
  obtain ⟨s, hs, e2⟩ := h.from_ e ht
  exact hb s hs x (by rw [e2]; exact hx)
theorem plain_of_sorted (hl : LenM n L) (hd : (L.map (·.1)).Pairwise (· ≠ ·)) (hz : ∀ t ∈ L, t.2 ≠ 0) (hs : L.Pairwise fun s t => ¬ ltP s.1 t.1) : PlainM n L := by
  refine ⟨hl, ?_, hz⟩
  have hd' := List.pairwise_map.1 hd
  have h3 : L.Pairwise fun s t => ¬ ltP s.1 t.1 ∧ s.1 ≠ t.1 := by
    clear hl hz hd
    induction L with
    | nil => exact List.Pairwise.nil
    | cons a L ih =>
      obtain ⟨h1, h2⟩ := List.pairwise_cons.1 hs
      obtain ⟨k1, k2⟩ := List.pairwise_cons.1 hd'
      exact List.pairwise_cons.2 ⟨fun b hb => ⟨h1 b hb, k1 b hb⟩, ih h2 k2⟩
  refine h3.imp_of_mem fun {s t} hs ht ⟨h1, h2⟩ => ?_
  rcases ltP.tri ((hl s hs).trans (hl t ht).symm) with h | h | h
  · exact absurd h h1
  · exact absurd h h2
  · exact h
end
theorem coM_mem_of_nodup : ∀ {L : Mv}, (L.map (·.1)).Pairwise (· ≠ ·) → ∀ t ∈ L, coM L t.1 = t.2
  | s :: L, h, t, ht => by
    obtain ⟨h1, h2⟩ := List.pairwise_cons.1 (show (s.1 :: L.map (·.1)).Pairwise (· ≠ ·) from h)
    rcases List.mem_cons.1 ht with rfl | ht
    · rw [coM_cons, if_pos rfl, coM_none fun u hu e => h1 u.1 (List.mem_map.2 ⟨u, hu, rfl⟩) e.symm]; omega
    · rw [coM_cons, if_neg fun e => h1 t.1 (List.mem_map.2 ⟨t, ht, rfl⟩) e, coM_mem_of_nodup h2 t ht]; omega
end Cl
namespace Cl
theorem mulM_one (s : Plc) (z : Int) (T : Mv) : mulM [(s, z)] T = T.map fun t => (addP s t.1, z * t.2) := by
  unfold mulM
  simp
theorem mulM_neg1 (s : Plc) (z : Int) (q : Plc) : ∀ T : Mv, coM (mulM [(s, -z)] T) q = -coM (mulM [(s, z)] T) q := fun T => by
  rw [mulM_one, mulM_one]
  induction T with
  | nil => rfl
  | cons t T ih =>
    rw [List.map_cons, List.map_cons, coM_cons, coM_cons, ih]
    show (if addP s t.1 = q then -z * t.2 else 0) + _ = -((if addP s t.1 = q then z * t.2 else 0) + _)
    rw [Int.neg_mul]
    split <;> omega
structure LeadM (n : Nat) (R : Mv) (p : Plc) : Prop where
  len : p.length = n
  ne : coM R p ≠ 0
  top : ∀ q, q.length = n → coM R q ≠ 0 → ¬ ltP p q
section
variable {n : Nat} {R R' T : Mv} {p q s pl : Plc} {cl : Int}
theorem LeadM.eq (h : LeadM n R p) (e : EqM n R R') : LeadM n R' p :=
  ⟨h.len, by rw [← e p h.len]; exact h.ne, fun q hq h0 => h.top q hq (by rw [e q hq]; exact h0)⟩
theorem LeadM.unique (h : LeadM n R p) (k : LeadM n R q) : p = q := by
  rcases ltP.tri (h.len.trans k.len.symm) with h1 | h1 | h1
  · exact absurd h1 (h.top q k.len k.ne)
  · exact h1
  · exact absurd h1 (k.top p h.len h.ne)
theorem addP_cancel {a b c : Plc} (ha : a.length = n) (hb : b.length = n) (hc : c.length = n) (h : addP a c = addP b c) : a = b := by
  have h1 := (addP_iff (a := a) (b := c) (p := addP a c) (by omega) (by rw [addP_length ha hc]; omega)).1 rfl
  have h2 := (addP_iff (a := b) (b := c) (p := addP b c) (by omega) (by rw [addP_length hb hc]; omega)).1 rfl
  rw [h1, h2, h]
inductive Dv (n : Nat) (T : Mv) (pl : Plc) (cl : Int) : Mv → Option Mv → Prop
  | stop {R : Mv} (h : ∀ q, q.length = n → coM R q = 0) : Dv n T pl cl R (some [])
  | rest {R : Mv} {p : Plc} (h : LeadM n R p) (hno : ¬ (coM R p % cl = 0 ∧ ∃ s : Plc, s.length = n ∧ addP s pl = p ∧ ∀ x ∈ s, 0 ≤ x)) : Dv n T pl cl R none
  | step {R : Mv} {p s : Plc} {o : Option Mv} (h : LeadM n R p) (hc : coM R p % cl = 0) (hs : s.length = n) (hp : addP s pl = p) (hs0 : ∀ x ∈ s, 0 ≤ x) (hd : Dv n T pl cl (R ++ mulM [(s, -(coM R p / cl))] T) o) : Dv n T pl cl R (o.map ((s, coM R p / cl) :: ·))
theorem Dv.unique (hpl : pl.length = n) {o : Option Mv} (h : Dv n T pl cl R o) : ∀ {R' : Mv} {o' : Option Mv}, EqM n R R' → Dv n T pl cl R' o' → o = o' := by
  induction h with
  | stop h =>
    intro R' o' e k
    cases k with
    | stop _ => rfl
    | rest k _ => exact absurd ((e _ k.len).symm.trans (h _ k.len)) k.ne
    | step k _ _ _ _ _ => exact absurd ((e _ k.len).symm.trans (h _ k.len)) k.ne
  | rest h hno =>
    intro R' o' e k
    cases k with
    | stop k => exact absurd ((e _ h.len).trans (k _ h.len)) h.ne
    | rest _ _ => rfl
    | step k kc ks kp ks0 _ =>
      have e1 := (h.eq e).unique k
      subst e1
      exact absurd ⟨by rw [e _ h.len]; exact kc, _, ks, kp, ks0⟩ hno
  | step h hc hs hp hs0 _ ih =>
    intro R' o' e k
    cases k with
    | stop k => exact absurd ((e _ h.len).trans (k _ h.len)) h.ne
    | rest k kno =>
      have e1 := (h.eq e).unique k
      subst e1
      exact absurd ⟨by rw [← e _ h.len]; exact hc, _, hs, hp, hs0⟩ kno
    | step k kc ks kp ks0 kd =>
      have e1 := (h.eq e).unique k
      subst e1
      have e2 := addP_cancel hs ks hpl (hp.trans kp.symm)
      subst e2
      have e3 := e _ h.len
      rw [e3] at ih ⊢
      rw [ih (fun q hq => by rw [coM_append, coM_append, e q hq]) kd]
theorem Dv.whole {o : Option Mv} (h : Dv n T pl cl R o) : ∀ Q, o = some Q → LenM n Q → EqM n (mulM Q T) R := by
  induction h with
  | stop h => intro Q e _ q hq; injection e with e; subst e; exact (h q hq).symm
  | rest _ _ => intro Q e; cases e
  | @step R p s o h hc hs hp hs0 hd ih =>
    intro Q e hQ q hq
    cases o with
    | none => cases e
    | some Q' =>
      injection e with e
      subst e
      have h1 := ih Q' rfl (fun t ht => hQ t (List.mem_cons_of_mem _ ht)) q hq
      rw [coM_append] at h1
      have h2 : mulM ((s, coM R p / cl) :: Q') T = mulM [(s, coM R p / cl)] T ++ mulM Q' T := by rw [← mulM_append]; rfl
      rw [h2, coM_append, h1]
      have h3 : coM (mulM [(s, -(coM R p / cl))] T) q = -coM (mulM [(s, coM R p / cl)] T) q := by
        exact mulM_neg1 _ _ _ _
      omega
end
theorem plain_ins {n : Nat} (t : Trm) (ht : t.1.length = n) : ∀ N : Mv, PlainM n N → ∃ N', PlainM n N' ∧ EqM n N' (t :: N) ∧ absM N' ≤ absM (t :: N) ∧ ∀ u ∈ N', u.1 = t.1 ∨ ∃ s ∈ N, s.1 = u.1
  | [], _ => by
    by_cases h0 : t.2 = 0
    · exact ⟨[], PlainM.nil n, fun q _ => by rw [coM_cons, h0]; simp, Nat.zero_le _, fun u hu => by cases hu⟩
    · exact ⟨[t], ⟨fun u hu => by rw [List.mem_singleton.1 hu]; exact ht, List.pairwise_singleton _ _, fun u hu => by rw [List.mem_singleton.1 hu]; exact h0⟩, EqM.refl _ _, Nat.le_refl _, fun u hu => .inl (by rw [List.mem_singleton.1 hu])⟩
  | s :: L, h => by
    have hs := h.len s List.mem_cons_self
    obtain ⟨o1, o2⟩ := List.pairwise_cons.1 h.ord
    have ab : ∀ (a : Trm) (X : Mv), absM (a :: X) = a.2.natAbs + absM X := fun _ _ => rfl
    rcases ltP.tri (a := s.1) (b := t.1) (hs.trans ht.symm) with h1 | h1 | h1
    · by_cases h0 : t.2 = 0
      · exact ⟨s :: L, h, fun q _ => by rw [coM_cons t, h0]; simp, by rw [ab t]; omega, fun u hu => .inr ⟨u, hu, rfl⟩⟩
      · refine ⟨t :: s :: L, ⟨fun u hu => ?_, List.pairwise_cons.2 ⟨fun u hu => ?_, h.ord⟩, fun u hu => ?_⟩, EqM.refl _ _, Nat.le_refl _, fun u hu => ?_⟩
        · rcases List.mem_cons.1 hu with rfl | hu
          · exact ht
          · exact h.len u hu
        · rcases List.mem_cons.1 hu with rfl | hu
          · exact h1
          · exact ltP.trans (o1 u hu) h1
        · rcases List.mem_cons.1 hu with rfl | hu
          · exact h0
          · exact h.ne u hu
        · rcases List.mem_cons.1 hu with rfl | hu
          · exact .inl rfl
          · exact .inr ⟨u, hu, rfl⟩
    · by_cases h0 : s.2 + t.2 = 0
      · refine ⟨L, h.tail, fun q _ => ?_, by rw [ab t, ab s]; omega, fun u hu => .inr ⟨u, List.mem_cons_of_mem _ hu, rfl⟩⟩
        rw [coM_cons, coM_cons, h1]
        split <;> omega
      · refine ⟨(s.1, s.2 + t.2) :: L, ⟨fun u hu => ?_, List.pairwise_cons.2 ⟨o1, o2⟩, fun u hu => ?_⟩, fun q _ => ?_, ?_, fun u hu => ?_⟩
        · rcases List.mem_cons.1 hu with rfl | hu
          · exact hs
          · exact h.len u (List.mem_cons_of_mem _ hu)
        · rcases List.mem_cons.1 hu with rfl | hu
          · exact h0
          · exact h.ne u (List.mem_cons_of_mem _ hu)
        · rw [coM_cons, coM_cons, coM_cons, h1]
          split <;> omega
        · rw [ab t, ab s, ab]
          have := Int.natAbs_add_le s.2 t.2
          show (s.2 + t.2).natAbs + _ ≤ _
          omega
        · rcases List.mem_cons.1 hu with rfl | hu
          · exact .inl h1
          · exact .inr ⟨u, List.mem_cons_of_mem _ hu, rfl⟩
    · obtain ⟨N', k1, k2, k3, k4⟩ := plain_ins t ht L h.tail
      refine ⟨s :: N', ⟨fun u hu => ?_, List.pairwise_cons.2 ⟨fun u hu => ?_, k1.ord⟩, fun u hu => ?_⟩, fun q hq => ?_, ?_, fun u hu => ?_⟩
      · rcases List.mem_cons.1 hu with rfl | hu
        · exact hs
        · exact k1.len u hu
      · rcases k4 u hu with e | ⟨v, hv, e⟩
        · rw [e]; exact h1
        · rw [← e]; exact o1 v hv
      · rcases List.mem_cons.1 hu with rfl | hu
        · exact h.ne _ List.mem_cons_self
        · exact k1.ne u hu
      · rw [coM_cons, k2 q hq, coM_cons, coM_cons, coM_cons]; omega
      · rw [ab, ab t, ab s]
        rw [ab t] at k3
        omega
      · rcases List.mem_cons.1 hu with rfl | hu
        · exact .inr ⟨_, List.mem_cons_self, rfl⟩
        · rcases k4 u hu with e | ⟨v, hv, e⟩
          · exact .inl e
          · exact .inr ⟨v, List.mem_cons_of_mem _ hv, e⟩
theorem plain_ex {n : Nat} : ∀ X : Mv, LenM n X → ∃ N, PlainM n N ∧ EqM n N X ∧ absM N ≤ absM X
  | [], _ => ⟨[], PlainM.nil n, EqM.refl _ _, Nat.le_refl _⟩
  | t :: X, h => by
    obtain ⟨N, h1, h2, h3⟩ := plain_ex X fun u hu => h u (List.mem_cons_of_mem _ hu)
    obtain ⟨N', k1, k2, k3, _⟩ := plain_ins t (h t List.mem_cons_self) N h1
    refine ⟨N', k1, fun q hq => by rw [k2 q hq, coM_cons, coM_cons, h2 q hq], ?_⟩
    have e1 : absM (t :: N) = t.2.natAbs + absM N := rfl
    have e2 : absM (t :: X) = t.2.natAbs + absM X := rfl
    omega
end Cl
namespace Cl
def wP : List Nat → Plc → Nat
  | a :: ws, x :: p => a * x.toNat + wP ws p
  | _, _ => 0
def NonNeg (p : Plc) : Prop := ∀ x ∈ p, 0 ≤ x
theorem NonNeg.add : ∀ {a b : Plc}, NonNeg a → NonNeg b → NonNeg (addP a b) := fun {a b} h k x hx => by
  obtain ⟨y, hy, z, hz, rfl⟩ := mem_addP hx
  have := h y hy
  have := k z hz
  omega
theorem wP_add : ∀ (ws : List Nat) {a b : Plc}, a.length = b.length → NonNeg a → NonNeg b → wP ws (addP a b) = wP ws a + wP ws b
  | [], _, _, _, _, _ => rfl
  | _ :: _, [], [], _, _, _ => rfl
  | c :: ws, x :: a, y :: b, hl, ha, hb => by
    have ih := wP_add ws (a := a) (b := b) (by simpa using hl) (fun z hz => ha z (List.mem_cons_of_mem _ hz)) (fun z hz => hb z (List.mem_cons_of_mem _ hz))
    have h1 := ha x List.mem_cons_self
    have h2 := hb y List.mem_cons_self
    show c * (x + y).toNat + wP ws (addP a b) = c * x.toNat + wP ws a + (c * y.toNat + wP ws b)
    rw [ih, Int.toNat_add h1 h2, Nat.mul_add]
    omega
def Falls (e D : Nat) : List Nat → Prop
  | [] => True
  | a :: ws => D * ws.sum + e ≤ a ∧ Falls e D ws
theorem wP_le (D : Nat) : ∀ (ws : List Nat) {p : Plc}, (∀ x ∈ p, x ≤ (D : Int)) → wP ws p ≤ D * ws.sum
  | [], _, _ => Nat.zero_le _
  | _ :: _, [], _ => Nat.zero_le _
  | a :: ws, x :: p, h => by
    have ih := wP_le D ws (p := p) fun z hz => h z (List.mem_cons_of_mem _ hz)
    have h1 := h x List.mem_cons_self
    have h2 : a * x.toNat ≤ a * D := Nat.mul_le_mul_left _ (by omega)
    show a * x.toNat + wP ws p ≤ D * (a + ws.sum)
    rw [Nat.mul_add, Nat.mul_comm D a]
    omega
theorem wP_lt {e D : Nat} : ∀ {ws : List Nat} {p q : Plc}, Falls e D ws → (he : e = 1 → p.length ≤ ws.length) → NonNeg q → (∀ x ∈ q, x ≤ (D : Int)) → ltP q p → wP ws q + e ≤ wP ws p ∨ (e = 0 ∧ wP ws q ≤ wP ws p) ∨ (ws.length < p.length)
  | [], [], q, _, _, _, _, h => by cases q <;> exact False.elim h
  | _ :: _, [], q, _, _, _, _, h => by cases q <;> exact False.elim h
  | [], _ :: _, [], _, _, _, _, h => False.elim h
  | _ :: _, _ :: _, [], _, _, _, _, h => False.elim h
  | [], x :: p, y :: q, _, _, _, _, _ => .inr (.inr (by simp))
  | a :: ws, x :: p, y :: q, hF, he, h0, hD, hlt => by
    have hy := h0 y List.mem_cons_self
    rcases hlt with h | ⟨rfl, h⟩
    · have h1 := wP_le D ws (p := q) fun z hz => hD z (List.mem_cons_of_mem _ hz)
      have h2 : a * (y.toNat + 1) ≤ a * x.toNat := Nat.mul_le_mul_left _ (by omega)
      rw [Nat.mul_add, Nat.mul_one] at h2
      have h3 := hF.1
      refine .inl ?_
      show a * y.toNat + wP ws q + e ≤ a * x.toNat + wP ws p
      omega
    · rcases wP_lt (ws := ws) hF.2 (fun e1 => by have := he e1; simp at this; omega) (fun z hz => h0 z (List.mem_cons_of_mem _ hz)) (fun z hz => hD z (List.mem_cons_of_mem _ hz)) h with h1 | ⟨h1, h2⟩ | h1
      · refine .inl ?_
        show a * y.toNat + wP ws q + e ≤ a * y.toNat + wP ws p
        omega
      · refine .inr (.inl ⟨h1, ?_⟩)
        show a * y.toNat + wP ws q ≤ a * y.toNat + wP ws p
        omega
      · exact .inr (.inr (by simp; omega))
structure NodM (n : Nat) (N : Mv) : Prop where
  len : LenM n N
  nod : (N.map (·.1)).Pairwise (· ≠ ·)
def insM (t : Trm) : Mv → Mv
  | [] => [t]
  | s :: L => if s.1 = t.1 then (s.1, s.2 + t.2) :: L else s :: insM t L
theorem coM_ins (t : Trm) (p : Plc) : ∀ L : Mv, coM (insM t L) p = coM (t :: L) p
  | [] => rfl
  | s :: L => by
    have ih := coM_ins t p L
    unfold insM
    split
    · next h =>
      rw [coM_cons, coM_cons, coM_cons, h]
      split <;> omega
    · rw [coM_cons, ih, coM_cons, coM_cons, coM_cons]
      omega
theorem mem_ins {t : Trm} : ∀ {L : Mv} {s : Trm}, s ∈ insM t L → s.1 = t.1 ∨ s ∈ L
  | [], s, h => .inl (by rw [List.mem_singleton.1 h])
  | u :: L, s, h => by
    unfold insM at h
    split at h
    · next e =>
      rcases List.mem_cons.1 h with h | h
      · exact .inl (by rw [h]; exact e)
      · exact .inr (List.mem_cons_of_mem _ h)
    · rcases List.mem_cons.1 h with h | h
      · exact .inr (by rw [h]; exact List.mem_cons_self)
      · exact (mem_ins h).imp id (List.mem_cons_of_mem _)
theorem ins_nod {t : Trm} : ∀ {L : Mv}, (L.map (·.1)).Pairwise (· ≠ ·) → ((insM t L).map (·.1)).Pairwise (· ≠ ·)
  | [], _ => List.pairwise_singleton _ _
  | s :: L, h => by
    obtain ⟨h1, h2⟩ := List.pairwise_cons.1 h
    unfold insM
    split
    · exact List.pairwise_cons.2 ⟨h1, h2⟩
    · next hne =>
      refine List.pairwise_cons.2 ⟨fun p hp => ?_, ins_nod h2⟩
      obtain ⟨u, hu, rfl⟩ := List.mem_map.1 hp
      rcases mem_ins hu with e | e
      · rw [e]; exact hne
      · exact h1 _ (List.mem_map.2 ⟨u, e, rfl⟩)
def pot (ws : List Nat) (G : Nat) (N : Mv) : Nat := (N.map fun t => t.2.natAbs * G ^ wP ws t.1).sum
theorem pot_cons (ws : List Nat) (G : Nat) (t : Trm) (N : Mv) : pot ws G (t :: N) = t.2.natAbs * G ^ wP ws t.1 + pot ws G N := rfl
theorem pot_append (ws : List Nat) (G : Nat) (M N : Mv) : pot ws G (M ++ N) = pot ws G M + pot ws G N := by
  unfold pot; rw [List.map_append, List.sum_append]
theorem pot_perm {ws : List Nat} {G : Nat} {M N : Mv} (h : M.Perm N) : pot ws G M = pot ws G N := (h.map _).sum_nat
theorem pot_ins (ws : List Nat) (G : Nat) (t : Trm) : ∀ L : Mv, pot ws G (insM t L) ≤ pot ws G (t :: L)
  | [] => Nat.le_refl _
  | s :: L => by
    have ih := pot_ins ws G t L
    unfold insM
    split
    · next h =>
      rw [pot_cons, pot_cons, pot_cons, ← h]
      have h1 : (s.2 + t.2).natAbs ≤ s.2.natAbs + t.2.natAbs := Int.natAbs_add_le _ _
      have h2 := Nat.mul_le_mul_right (G ^ wP ws s.1) h1
      rw [Nat.add_mul] at h2
      show (s.2 + t.2).natAbs * G ^ wP ws s.1 + _ ≤ _
      omega
    · rw [pot_cons, pot_cons, pot_cons]
      rw [pot_cons] at ih
      omega
theorem nf_ex {n : Nat} (ws : List Nat) (G : Nat) {C : Plc → Prop} : ∀ X : Mv, LenM n X → (∀ t ∈ X, C t.1) → ∃ N, NodM n N ∧ EqM n N X ∧ pot ws G N ≤ pot ws G X ∧ ∀ t ∈ N, C t.1
  | [], _, _ => ⟨[], ⟨fun t h => (by cases h), List.Pairwise.nil⟩, EqM.refl _ _, Nat.le_refl _, fun t h => (by cases h)⟩
  | t :: X, hl, hC => by
    obtain ⟨N, h1, h2, h3, h4⟩ := nf_ex ws G X (fun s hs => hl s (List.mem_cons_of_mem _ hs)) (fun s hs => hC s (List.mem_cons_of_mem _ hs))
    refine ⟨insM t N, ⟨fun s hs => ?_, ins_nod h1.nod⟩, fun p hp => ?_, ?_, fun s hs => ?_⟩
    · rcases mem_ins hs with e | e
      · rw [e]; exact hl t List.mem_cons_self
      · exact h1.len s e
    · rw [coM_ins, coM_cons, coM_cons, h2 p hp]
    · have := pot_ins ws G t N
      rw [pot_cons] at this ⊢
      omega
    · rcases mem_ins hs with e | e
      · rw [e]; exact hC t List.mem_cons_self
      · exact h4 s e
theorem pot_co {ws : List Nat} {G : Nat} (hG : 1 ≤ G) : ∀ {N : Mv} {p : Plc}, (coM N p).natAbs ≤ pot ws G N
  | [], _ => Nat.zero_le _
  | t :: N, p => by
    have ih := pot_co (ws := ws) hG (N := N) (p := p)
    rw [coM_cons, pot_cons]
    have h1 : 1 ≤ G ^ wP ws t.1 := Nat.pow_pos hG
    have h2 : t.2.natAbs * 1 ≤ t.2.natAbs * G ^ wP ws t.1 := Nat.mul_le_mul_left _ h1
    split <;> omega
structure Sm (n : Nat) (ws vs : List Nat) (G F W : Nat) (R N : Mv) : Prop where
  nod : NodM n N
  eq : EqM n N R
  pt : pot ws G N ≤ F
  nn : ∀ t ∈ N, NonNeg t.1
  wt : ∀ t ∈ N, wP vs t.1 ≤ W
section
variable {n : Nat} {ws vs : List Nat} {G F W D : Nat} {R N T P' : Mv} {pl p s : Plc} {cl : Int}
theorem Sm.co (h : Sm n ws vs G F W R N) (hG : 1 ≤ G) {p : Plc} (hp : p.length = n) : (coM R p).natAbs ≤ F := by
  rw [← h.eq p hp]
  exact Nat.le_trans (pot_co hG) h.pt
theorem Sm.mem (h : Sm n ws vs G F W R N) {p : Plc} (hp : p.length = n) (h0 : coM R p ≠ 0) : (p, coM R p) ∈ N := by
  rw [← h.eq p hp] at h0 ⊢
  obtain ⟨t, ht, rfl⟩ := coM_ne h0
  rw [coM_mem_of_nodup h.nod.nod t ht]
  exact ht
theorem pot_times (hG1 : 1 ≤ G) (hG : absM P' ≤ G) (hs : s.length = n) (hs0 : NonNeg s) (z : Int) (hP : LenM n P') {w : Nat} (hw : ∀ t ∈ P', NonNeg t.1 ∧ wP ws s + wP ws t.1 + 1 ≤ w) : pot ws G (mulM [(s, z)] P') ≤ z.natAbs * G ^ w := by
  have key : ∀ L : Mv, LenM n L → (∀ t ∈ L, NonNeg t.1 ∧ wP ws s + wP ws t.1 + 1 ≤ w) → pot ws G (mulM [(s, z)] L) ≤ z.natAbs * (absM L * G ^ (w - 1)) := by
    intro L hL hw
    rw [mulM_one]
    induction L with
    | nil => exact Nat.zero_le _
    | cons t L ih =>
      have h1 := ih (fun u hu => hL u (List.mem_cons_of_mem _ hu)) (fun u hu => hw u (List.mem_cons_of_mem _ hu))
      obtain ⟨h2, h3⟩ := hw t List.mem_cons_self
      rw [List.map_cons, pot_cons]
      have h4 : (z * t.2).natAbs * G ^ wP ws (addP s t.1) ≤ z.natAbs * (t.2.natAbs * G ^ (w - 1)) := by
        rw [wP_add ws (hs.trans (hL t List.mem_cons_self).symm) hs0 h2, Int.natAbs_mul, Nat.mul_assoc]
        refine Nat.mul_le_mul_left _ (Nat.mul_le_mul_left _ ?_)
        exact Nat.pow_le_pow_right hG1 (by omega)
      have h5 : absM (t :: L) = t.2.natAbs + absM L := rfl
      rw [h5, Nat.add_mul, Nat.mul_add]
      exact Nat.add_le_add h4 h1
  have h1 := key P' hP hw
  cases P' with
  | nil => exact Nat.zero_le _
  | cons t L =>
    obtain ⟨_, h3⟩ := hw t List.mem_cons_self
    have h4 : absM (t :: L) * G ^ (w - 1) ≤ G * G ^ (w - 1) := Nat.mul_le_mul_right _ hG
    have h5 : G * G ^ (w - 1) = G ^ w := by
      rw [Nat.mul_comm, ← Nat.pow_succ]
      congr 1
      omega
    rw [h5] at h4
    exact Nat.le_trans h1 (Nat.mul_le_mul_left _ h4)
structure DivT (n : Nat) (ws vs : List Nat) (G : Nat) (T P' : Mv) (pl : Plc) (cl : Int) : Prop where
  pln : PlainM n ((pl, cl) :: P')
  eq : EqM n ((pl, cl) :: P') T
  lenT : LenM n T
  ab : absM P' ≤ G
  pos : 1 ≤ G
  nn : NonNeg pl ∧ ∀ t ∈ P', NonNeg t.1
  str : ∀ t ∈ P', wP ws t.1 + 1 ≤ wP ws pl
  weak : ∀ t ∈ P', wP vs t.1 ≤ wP vs pl
theorem Sm.step (h : Sm n ws vs G F W R N) (hT : DivT n ws vs G T P' pl cl) (hp : p.length = n) (h0 : coM R p ≠ 0) (hc : coM R p % cl = 0) (hs : s.length = n) (hsp : addP s pl = p) (hs0 : NonNeg s) :
    ∃ N', Sm n ws vs G F W (R ++ mulM [(s, -(coM R p / cl))] T) N' := by
  have hpm := h.mem hp h0
  have hperm := List.perm_cons_erase hpm
  have hpl : pl.length = n := hT.pln.len (pl, cl) List.mem_cons_self
  have hlP : LenM n P' := hT.pln.tail.len
  have hw := h.wt _ hpm
  have hwp : wP vs p = wP vs s + wP vs pl := by rw [← hsp, wP_add vs (hs.trans hpl.symm) hs0 hT.nn.1]
  have hwq : wP ws p = wP ws s + wP ws pl := by rw [← hsp, wP_add ws (hs.trans hpl.symm) hs0 hT.nn.1]
  have hmlen : LenM n (mulM [(s, -(coM R p / cl))] P') := LenM.mul (fun t ht => by rw [List.mem_singleton.1 ht]; exact hs) hlP
  have hme : ∀ t ∈ N.erase (p, coM R p), t ∈ N := fun t ht => List.mem_of_mem_erase ht
  have hin : ∀ t ∈ N.erase (p, coM R p) ++ mulM [(s, -(coM R p / cl))] P', NonNeg t.1 ∧ wP vs t.1 ≤ W := fun t ht => by
    rcases List.mem_append.1 ht with ht | ht
    · exact ⟨h.nn t (hme t ht), h.wt t (hme t ht)⟩
    · rw [mulM_one] at ht
      obtain ⟨u, hu, rfl⟩ := List.mem_map.1 ht
      have h1 := hT.nn.2 u hu
      refine ⟨hs0.add h1, ?_⟩
      show wP vs (addP s u.1) ≤ W
      rw [wP_add vs (hs.trans (hlP u hu).symm) hs0 h1]
      have h2 := hT.weak u hu
      have h3 : wP vs p ≤ W := hw
      omega
  obtain ⟨N', e1, e2, e3, e4⟩ := nf_ex ws G (C := fun q => NonNeg q ∧ wP vs q ≤ W) (N.erase (p, coM R p) ++ mulM [(s, -(coM R p / cl))] P') (LenM.append (fun t ht => h.nod.len t (hme t ht)) hmlen) hin
  refine ⟨N', e1, fun q hq => ?_, ?_, fun t ht => (e4 t ht).1, fun t ht => (e4 t ht).2⟩
  · have h1 : coM R q = (if p = q then coM R p else 0) + coM (N.erase (p, coM R p)) q := by
      rw [← h.eq q hq, coM_perm hperm q, coM_cons]
    have h2 : coM (mulM [(s, -(coM R p / cl))] T) q = (if p = q then -coM R p else 0) + coM (mulM [(s, -(coM R p / cl))] P') q := by
      have h3 : EqM n (mulM [(s, -(coM R p / cl))] ((pl, cl) :: P')) (mulM [(s, -(coM R p / cl))] T) := (EqM.refl n [(s, -(coM R p / cl))]).mul hT.eq (fun t ht => by rw [List.mem_singleton.1 ht]; exact hs) (fun t ht => by rw [List.mem_singleton.1 ht]; exact hs) hT.pln.len hT.lenT
      rw [← h3 q hq, mulM_one, mulM_one, List.map_cons, coM_cons]
      show (if addP s pl = q then -(coM R p / cl) * cl else 0) + _ = _
      rw [hsp, Int.neg_mul, Int.ediv_mul_cancel (Int.dvd_of_emod_eq_zero hc)]
    rw [e2 q hq, coM_append, coM_append, h1, h2]
    split <;> omega
  · have h1 : pot ws G N = (coM R p).natAbs * G ^ wP ws p + pot ws G (N.erase (p, coM R p)) := by rw [pot_perm hperm, pot_cons]
    have h2 := pot_times (ws := ws) (s := s) hT.pos hT.ab hs hs0 (-(coM R p / cl)) hlP (w := wP ws p) fun t ht => ⟨hT.nn.2 t ht, by have := hT.str t ht; omega⟩
    have h3 : (-(coM R p / cl)).natAbs ≤ (coM R p).natAbs := by
      rw [Int.natAbs_neg]
      have h4 : coM R p / cl * cl = coM R p := Int.ediv_mul_cancel (Int.dvd_of_emod_eq_zero hc)
      have h5 : (coM R p / cl).natAbs * cl.natAbs = (coM R p).natAbs := by rw [← Int.natAbs_mul, h4]
      have h6 : 1 ≤ cl.natAbs := by
        rcases Nat.eq_zero_or_pos cl.natAbs with h7 | h7
        · rw [h7] at h5; omega
        · exact h7
      have h7 : (coM R p / cl).natAbs * 1 ≤ (coM R p / cl).natAbs * cl.natAbs := Nat.mul_le_mul_left _ h6
      omega
    have h4 := Nat.mul_le_mul_right (G ^ wP ws p) h3
    have h5 := h.pt
    rw [pot_append] at e3
    omega
end
end Cl
namespace Cl
theorem bern (a y : Nat) : ∀ k : Nat, (k + 1) * a * y ^ k + y ^ (k + 1) ≤ (y + a) ^ (k + 1)
  | 0 => by
    rw [Nat.pow_zero, Nat.zero_add, Nat.pow_one, Nat.pow_one]
    omega
  | k + 1 => by
    have ih := Nat.mul_le_mul_right (y + a) (bern a y k)
    rw [← Nat.pow_succ] at ih
    have h1 : ((k + 1) * a * y ^ k + y ^ (k + 1)) * (y + a) = ((k + 1) * a * y ^ (k + 1) + a * y ^ (k + 1) + y ^ (k + 1 + 1)) + (k + 1) * a * y ^ k * a := by
      have e1 : y ^ (k + 1 + 1) = y ^ (k + 1) * y := Nat.pow_succ ..
      have e2 : (k + 1) * a * y ^ (k + 1) = (k + 1) * a * y ^ k * y := by rw [Nat.pow_succ, ← Nat.mul_assoc]
      rw [Nat.add_mul, Nat.mul_add, Nat.mul_add, e1, e2, Nat.mul_comm a (y ^ (k + 1))]
      omega
    have h2 : (k + 1 + 1) * a * y ^ (k + 1) = (k + 1) * a * y ^ (k + 1) + a * y ^ (k + 1) := by
      rw [Nat.add_mul (k + 1) 1 a, Nat.one_mul, Nat.add_mul]
    rw [h1] at ih
    rw [h2]
    have h3 : (y + a) ^ (k + 1).succ = (y + a) ^ (k + 1 + 1) := rfl
    rw [h3] at ih
    omega
def allP : List Nat → Nat → List Plc
  | [], _ => [[]]
  | a :: ws, W => (List.range (W / a + 1)).flatMap fun x => (allP ws (W - a * x)).map fun p => (x : Int) :: p
theorem mem_allP : ∀ {ws : List Nat} {W : Nat} {p : Plc}, p.length = ws.length → NonNeg p → (∀ a ∈ ws, 0 < a) → wP ws p ≤ W → p ∈ allP ws W
  | [], _, [], _, _, _, _ => List.mem_singleton.2 rfl
  | a :: ws, W, x :: p, hl, h0, ha, hw => by
    have hx := h0 x List.mem_cons_self
    have h1 : a * x.toNat + wP ws p ≤ W := hw
    have h2 : x.toNat * a ≤ W := by rw [Nat.mul_comm]; omega
    have ih := mem_allP (ws := ws) (W := W - a * x.toNat) (p := p) (by simpa using hl) (fun z hz => h0 z (List.mem_cons_of_mem _ hz)) (fun z hz => ha z (List.mem_cons_of_mem _ hz)) (by omega)
    refine List.mem_flatMap.2 ⟨x.toNat, List.mem_range.2 ?_, List.mem_map.2 ⟨p, ih, ?_⟩⟩
    · have := (Nat.le_div_iff_mul_le (ha a List.mem_cons_self)).2 h2
      omega
    · rw [Int.toNat_of_nonneg hx]
def facP : List Nat → Nat
  | [] => 1
  | a :: ws => (ws.length + 1) * a * facP ws
theorem allP_count : ∀ (ws : List Nat) (W : Nat), (∀ a ∈ ws, 0 < a) → facP ws * (allP ws W).length ≤ (W + ws.sum) ^ ws.length
  | [], W, _ => by show 1 * 1 ≤ _ ^ 0; rw [Nat.pow_zero]; omega
  | a :: ws, W, ha => by
    have ih := fun V => allP_count ws V fun z hz => ha z (List.mem_cons_of_mem _ hz)
    have key : ∀ j, j ≤ W / a + 1 → facP (a :: ws) * ((List.range j).flatMap fun x => (allP ws (W - a * x)).map fun p => (x : Int) :: p).length + (W + ws.sum + a - a * j) ^ (ws.length + 1) ≤ (W + ws.sum + a) ^ (ws.length + 1) := by
      intro j
      induction j with
      | zero => intro _; rw [List.range_zero]; show facP (a :: ws) * 0 + (W + ws.sum + a - a * 0) ^ _ ≤ _; rw [Nat.mul_zero, Nat.mul_zero, Nat.sub_zero, Nat.zero_add]; exact Nat.le_refl _
      | succ j ihj =>
        intro hj
        have h1 := ihj (by omega)
        have h2 : j * a ≤ W := (Nat.le_div_iff_mul_le (ha a List.mem_cons_self)).1 (by omega)
        rw [Nat.mul_comm] at h2
        have h3 := ih (W - a * j)
        have h4 := bern a (W + ws.sum - a * j) ws.length
        have h5 : W + ws.sum - a * j + a = W + ws.sum + a - a * j := by omega
        have h6 : W + ws.sum + a - a * (j + 1) = W + ws.sum - a * j := by rw [Nat.mul_add, Nat.mul_one]; omega
        have h7 : W - a * j + ws.sum = W + ws.sum - a * j := by omega
        rw [h5] at h4
        rw [h7] at h3
        rw [List.range_succ, List.flatMap_append, List.length_append, h6, Nat.mul_add]
        have h8 : facP (a :: ws) * (((fun x : Nat => (allP ws (W - a * x)).map fun p => (x : Int) :: p) j)).length ≤ (ws.length + 1) * a * (W + ws.sum - a * j) ^ ws.length := by
          rw [List.length_map]
          show (ws.length + 1) * a * facP ws * _ ≤ _
          rw [Nat.mul_assoc]
          exact Nat.mul_le_mul_left _ h3
        have h9 : ([j].flatMap fun x : Nat => (allP ws (W - a * x)).map fun p => (x : Int) :: p) = ((fun x : Nat => (allP ws (W - a * x)).map fun p => (x : Int) :: p) j) := by
          rw [List.flatMap_cons, List.flatMap_nil, List.append_nil]
        rw [h9]
        omega
    have h1 := key (W / a + 1) (Nat.le_refl _)
    have h2 : W + (a :: ws).sum = W + ws.sum + a := by rw [List.sum_cons]; omega
    rw [h2]
    exact Nat.le_trans (Nat.le_add_right _ _) h1
theorem places_count {ws : List Nat} {W C : Nat} {l : List Plc} (ha : ∀ a ∈ ws, 0 < a) (hC : (W + ws.sum) ^ ws.length < facP ws * (C + 1)) (hd : l.Pairwise (· ≠ ·)) (hl : ∀ p ∈ l, p.length = ws.length ∧ NonNeg p ∧ wP ws p ≤ W) : l.length ≤ C := by
  have h1 := nodup_le (m := allP ws W) hd fun p hp => mem_allP (hl p hp).1 (hl p hp).2.1 ha (hl p hp).2.2
  have h2 := allP_count ws W ha
  rcases Nat.lt_or_ge C l.length with h | h
  · have h3 : facP ws * (C + 1) ≤ facP ws * (allP ws W).length := Nat.mul_le_mul_left _ (by omega)
    omega
  · exact h
theorem ltP_cancel {n : Nat} {a b c : Plc} (ha : a.length = n) (hb : b.length = n) (hc : c.length = n) (h : ltP (addP a c) (addP b c)) : ltP a b := by
  rcases ltP.tri (ha.trans hb.symm) with h1 | rfl | h1
  · exact h1
  · exact absurd h (ltP.irrefl _)
  · exact absurd (ltP.trans h (ltP.add (by omega) (by omega) (by omega) h1 (.inr rfl))) (ltP.irrefl _)
structure DvS (n : Nat) (ws vs : List Nat) (G F W : Nat) (T P' : Mv) (pl : Plc) (cl : Int) (L R Qs : Mv) : Prop where
  sm : ∃ N, Sm n ws vs G F W R N
  lenR : LenM n R
  lenQ : LenM n Qs
  nnQ : ∀ t ∈ Qs, NonNeg t.1 ∧ wP vs t.1 ≤ W
  pair : Qs.Pairwise fun s t => ltP t.1 s.1
  neQ : ∀ t ∈ Qs, t.2 ≠ 0
  abQ : ∀ t ∈ Qs, t.2.natAbs ≤ F
  low : ∀ q, q.length = n → coM R q ≠ 0 → ∀ t ∈ Qs, ltP q (addP t.1 pl)
  run : ∀ o, Dv n T pl cl R o → Dv n T pl cl L (o.map (Qs ++ ·))
section
variable {n : Nat} {ws vs : List Nat} {G F W C : Nat} {T P' L R Qs : Mv} {pl p s : Plc} {cl : Int}
theorem DvS.start (hL : LenM n L) (hn : ∀ t ∈ L, NonNeg t.1 ∧ wP vs t.1 ≤ W) (hF : pot ws G L ≤ F) : DvS n ws vs G F W T P' pl cl L L [] := by
  obtain ⟨N, e1, e2, e3, e4⟩ := nf_ex ws G (C := fun q => NonNeg q ∧ wP vs q ≤ W) L hL hn
  exact ⟨⟨N, e1, e2, Nat.le_trans e3 hF, fun t ht => (e4 t ht).1, fun t ht => (e4 t ht).2⟩, hL, fun t h => (by cases h), fun t h => (by cases h), List.Pairwise.nil, fun t h => (by cases h), fun t h => (by cases h), fun _ _ _ t h => (by cases h), fun o h => by cases o <;> exact h⟩
theorem DvS.co (h : DvS n ws vs G F W T P' pl cl L R Qs) (hG : 1 ≤ G) {q : Plc} (hq : q.length = n) : (coM R q).natAbs ≤ F := by
  obtain ⟨N, hN⟩ := h.sm
  exact hN.co hG hq
theorem DvS.nn (h : DvS n ws vs G F W T P' pl cl L R Qs) {q : Plc} (hq : q.length = n) (h0 : coM R q ≠ 0) : NonNeg q ∧ wP vs q ≤ W := by
  obtain ⟨N, hN⟩ := h.sm
  have := hN.mem hq h0
  exact ⟨hN.nn _ this, hN.wt _ this⟩
theorem DvS.step (h : DvS n ws vs G F W T P' pl cl L R Qs) (hT : DivT n ws vs G T P' pl cl) (hp : LeadM n R p) (hc : coM R p % cl = 0) (hs : s.length = n) (hsp : addP s pl = p) (hs0 : NonNeg s) :
    DvS n ws vs G F W T P' pl cl L (R ++ mulM [(s, -(coM R p / cl))] T) (Qs ++ [(s, coM R p / cl)]) := by
  obtain ⟨N, hN⟩ := h.sm
  have hpl : pl.length = n := hT.pln.len (pl, cl) List.mem_cons_self
  obtain ⟨hp0, hpW⟩ := h.nn hp.len hp.ne
  have hcl : coM R p / cl * cl = coM R p := Int.ediv_mul_cancel (Int.dvd_of_emod_eq_zero hc)
  have hq0 : coM R p / cl ≠ 0 := fun e => hp.ne (by rw [← hcl, e, Int.zero_mul])
  have hone : LenM n [(s, coM R p / cl)] := fun t ht => by rw [List.mem_singleton.1 ht]; exact hs
  have hone' : LenM n [(s, -(coM R p / cl))] := fun t ht => by rw [List.mem_singleton.1 ht]; exact hs
  have hnew : ∀ q, q.length = n → coM (R ++ mulM [(s, -(coM R p / cl))] T) q ≠ 0 → ltP q p := fun q hq h0 => by
    rcases ltP.tri (hq.trans hp.len.symm) with h1 | h1 | h1
    · exact h1
    · exfalso
      subst h1
      apply h0
      have h3 : EqM n (mulM [(s, -(coM R q / cl))] ((pl, cl) :: P')) (mulM [(s, -(coM R q / cl))] T) := (EqM.refl n _).mul hT.eq hone' hone' hT.pln.len hT.lenT
      rw [coM_append, ← h3 q hq, mulM_one, List.map_cons, coM_cons]
      show coM R q + ((if addP s pl = q then -(coM R q / cl) * cl else 0) + _) = 0
      rw [if_pos hsp, Int.neg_mul, hcl, coM_none (L := P'.map _) fun t ht e => ?_]
      · omega
      · obtain ⟨u, hu, rfl⟩ := List.mem_map.1 ht
        have h4 := (List.pairwise_cons.1 hT.pln.ord).1 u hu
        have h5 : ltP (addP u.1 s) (addP pl s) := ltP.add (by rw [hT.pln.tail.len u hu, hs]) (by omega) (by rw [hT.pln.tail.len u hu, hpl]) h4 (.inr rfl)
        rw [addP_comm u.1, addP_comm pl, hsp] at h5
        have e' : addP s u.1 = q := e
        rw [e'] at h5
        exact ltP.irrefl _ h5
    · exfalso
      apply h0
      have h3 : EqM n (mulM [(s, -(coM R p / cl))] ((pl, cl) :: P')) (mulM [(s, -(coM R p / cl))] T) := (EqM.refl n _).mul hT.eq hone' hone' hT.pln.len hT.lenT
      have h4 : coM R q = 0 := Decidable.byContradiction fun h5 => hp.top q hq h5 h1
      rw [coM_append, ← h3 q hq, mulM_one, h4, coM_none (L := List.map _ ((pl, cl) :: P')) fun t ht e => ?_]
      · omega
      · obtain ⟨u, hu, rfl⟩ := List.mem_map.1 ht
        have e' : addP s u.1 = q := e
        rcases List.mem_cons.1 hu with rfl | hu
        · rw [hsp] at e'; subst e'; exact ltP.irrefl _ h1
        · have h4 := (List.pairwise_cons.1 hT.pln.ord).1 u hu
          have h5 : ltP (addP u.1 s) (addP pl s) := ltP.add (by rw [hT.pln.tail.len u hu, hs]) (by omega) (by rw [hT.pln.tail.len u hu, hpl]) h4 (.inr rfl)
          rw [addP_comm u.1, addP_comm pl, hsp, e'] at h5
          exact ltP.irrefl _ (ltP.trans h1 h5)
  refine ⟨hN.step hT hp.len hp.ne hc hs hsp hs0, h.lenR.append (hone'.mul hT.lenT), h.lenQ.append hone, fun t ht => ?_, ?_, fun t ht => ?_, fun t ht => ?_, fun q hq h0 t ht => ?_, fun o ho => ?_⟩
  · rcases List.mem_append.1 ht with ht | ht
    · exact h.nnQ t ht
    · rw [List.mem_singleton.1 ht]
      refine ⟨hs0, ?_⟩
      rw [← hsp, wP_add vs (hs.trans hpl.symm) hs0 hT.nn.1] at hpW
      show wP vs s ≤ W
      omega
  · refine List.pairwise_append.2 ⟨h.pair, List.pairwise_singleton _ _, fun t ht u hu => ?_⟩
    rw [List.mem_singleton.1 hu]
    have h1 := h.low p hp.len hp.ne t ht
    rw [← hsp] at h1
    exact ltP_cancel hs (h.lenQ t ht) hpl h1
  · rcases List.mem_append.1 ht with ht | ht
    · exact h.neQ t ht
    · rw [List.mem_singleton.1 ht]; exact hq0
  · rcases List.mem_append.1 ht with ht | ht
    · exact h.abQ t ht
    · rw [List.mem_singleton.1 ht]
      have h1 := hN.co hT.pos hp.len
      have h5 : (coM R p / cl).natAbs * cl.natAbs = (coM R p).natAbs := by rw [← Int.natAbs_mul, hcl]
      have h6 : 1 ≤ cl.natAbs := by
        have := hT.pln.ne (pl, cl) List.mem_cons_self
        have h7 : cl ≠ 0 := this
        omega
      have h7 : (coM R p / cl).natAbs * 1 ≤ (coM R p / cl).natAbs * cl.natAbs := Nat.mul_le_mul_left _ h6
      show (coM R p / cl).natAbs ≤ F
      omega
  · have h1 := hnew q hq h0
    rcases List.mem_append.1 ht with ht | ht
    · exact ltP.trans h1 (h.low p hp.len hp.ne t ht)
    · rw [List.mem_singleton.1 ht, hsp]; exact h1
  · have h1 := h.run _ (Dv.step hp hc hs hsp hs0 ho)
    rw [Option.map_map] at h1
    have h2 : ((Qs ++ ·) ∘ ((s, coM R p / cl) :: ·)) = ((Qs ++ [(s, coM R p / cl)]) ++ ·) := by
      funext X
      show Qs ++ ((s, coM R p / cl) :: X) = (Qs ++ [(s, coM R p / cl)]) ++ X
      rw [List.append_assoc]
      rfl
    rw [h2] at h1
    exact h1
theorem DvS.count (h : DvS n ws vs G F W T P' pl cl L R Qs) (hv : vs.length = n) (ha : ∀ a ∈ vs, 0 < a) (hC : (W + vs.sum) ^ vs.length < facP vs * (C + 1)) : Qs.length ≤ C := by
  have h1 := places_count (l := Qs.map (·.1)) ha hC (List.pairwise_map.2 (h.pair.imp fun {s t} (hlt : ltP t.1 s.1) (e : s.1 = t.1) => ltP.irrefl t.1 (by rw [e] at hlt; exact hlt))) fun p hp => by
    obtain ⟨t, ht, rfl⟩ := List.mem_map.1 hp
    exact ⟨by rw [hv]; exact h.lenQ t ht, (h.nnQ t ht).1, (h.nnQ t ht).2⟩
  rw [List.length_map] at h1
  exact h1
theorem DvS.plain (h : DvS n ws vs G F W T P' pl cl L R Qs) : PlainM n Qs := ⟨h.lenQ, h.pair, h.neQ⟩
theorem DvS.done (h : DvS n ws vs G F W T P' pl cl L R Qs) (h0 : ∀ q, q.length = n → coM R q = 0) : Dv n T pl cl L (some Qs) := by
  have := h.run _ (.stop h0)
  simpa using this
theorem DvS.no (h : DvS n ws vs G F W T P' pl cl L R Qs) (hp : LeadM n R p) (hno : ¬ (coM R p % cl = 0 ∧ ∃ s : Plc, s.length = n ∧ addP s pl = p ∧ ∀ x ∈ s, 0 ≤ x)) : Dv n T pl cl L none := h.run _ (.rest hp hno)
end
end Cl
