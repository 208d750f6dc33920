/- Plain facts on levels: their product is the radical; how a polynomial is made of them. No program in sight. -/
import Derived.Test.YtbcapmnklgdeoaaPrs
namespace Cl
namespace Poly
section
variable {F : Type} [CField F]
/-- The product of the levels of a list of numbers. -/
noncomputable def prodL (a : Poly F) (l : List Nat) : Poly F := l.foldl (fun P k => P * lvl a k) 1
theorem prodL_snoc (a : Poly F) (l : List Nat) (k : Nat) : prodL a (l ++ [k]) = prodL a l * lvl a k := by simp [prodL, List.foldl_append]
theorem one_mon : (1 : Poly F).Mon := by
  have := Poly.len_one (F := F)
  show (1 : Poly F).lc = 1
  unfold lc
  rw [this]
  show (1 : Poly F).co 0 = 1
  rw [co_one, if_pos rfl]
theorem list_snoc {α : Type} {P : List α → Prop} (h0 : P []) (h1 : ∀ l x, P l → P (l ++ [x])) : ∀ l, P l := by
  intro l
  have : ∀ n (l : List α), l.length = n → P l := by
    intro n
    induction n with
    | zero => intro l h; rw [List.eq_nil_of_length_eq_zero h]; exact h0
    | succ n ih =>
      intro l h
      have hne : l ≠ [] := fun e => by rw [e] at h; simp at h
      rw [← List.dropLast_concat_getLast hne]
      exact h1 _ _ (ih _ (by rw [List.length_dropLast]; omega))
  exact this _ l rfl
theorem prodL_mon {a : Poly F} (ha : a ≠ 0) : ∀ l : List Nat, (prodL a l).Mon :=
  list_snoc one_mon fun l k h => by rw [prodL_snoc]; exact h.mul (lvl_mon ha k)
theorem val_prodL {a : Poly F} (ha : a ≠ 0) {f : Poly F} (hf : f.Irr) : ∀ l : List Nat, l.Pairwise (· < ·) → (∀ k ∈ l, 1 ≤ k) → val f (prodL a l) = if val f a ∈ l then 1 else 0 :=
  list_snoc (fun _ _ => by simp [prodL, val_one hf]) fun l k ih hp h1 => by
    rw [List.pairwise_append] at hp
    rw [prodL_snoc, hf.val_mul (prodL_mon ha l).ne (lvl_mon ha k).ne, ih hp.1 fun j hj => h1 j (List.mem_append_left _ hj), val_lvl ha (h1 k (List.mem_append_right _ (List.mem_singleton.2 rfl))) hf]
    by_cases e : val f a = k
    · have hn : ¬ val f a ∈ l := fun hm => by have := hp.2.2 _ hm k (List.mem_singleton.2 rfl); omega
      rw [if_neg hn, if_pos e, if_pos (List.mem_append_right _ (List.mem_singleton.2 e))]
    · rw [if_neg e]
      by_cases hm : val f a ∈ l
      · rw [if_pos hm, if_pos (List.mem_append_left _ hm)]
      · rw [if_neg hm, if_neg fun h => (List.mem_append.1 h).elim hm fun h2 => e (List.mem_singleton.1 h2)]
theorem prodL_rad {a : Poly F} (ha : a ≠ 0) : prodL a (lvls a) = rad a :=
  (prodL_mon ha _).eq_rad ha fun f hf => by
    rw [val_prodL ha hf _ (lvls_rising a) fun k hk => ((mem_lvls ha).1 hk).1]
    by_cases h : 1 ≤ val f a
    · rw [if_pos h, if_pos ((mem_lvls ha).2 ⟨h, fun e => (lvl_one_iff ha h).1 e f hf rfl⟩)]
    · rw [if_neg h, if_neg fun hm => h ((mem_lvls ha).1 hm).1]
theorem len_of_val {a P : Poly F} (ha : a ≠ 0) (hP : P ≠ 0) (h : ∀ f, f.Irr → val f P ≤ val f a) : P.len ≤ a.len := len_le_of_dvd (dvd_of_val hP ha h) ha
theorem lvl_len {a : Poly F} (ha : a ≠ 0) {k : Nat} (hk : 1 ≤ k) : (lvl a k).len ≤ a.len :=
  len_of_val ha (lvl_mon ha k).ne fun f hf => by rw [val_lvl ha hk hf]; split <;> omega
theorem rad_len {a : Poly F} (ha : a ≠ 0) : (rad a).len ≤ a.len :=
  len_of_val ha (rad_mon ha).ne fun f hf => by rw [val_rad ha hf]; split <;> omega
theorem prodL_len {a : Poly F} (ha : a ≠ 0) {l : List Nat} (hp : l.Pairwise (· < ·)) (h1 : ∀ k ∈ l, 1 ≤ k) : (prodL a l).len ≤ a.len :=
  len_of_val ha (prodL_mon ha l).ne fun f hf => by
    rw [val_prodL ha hf l hp h1]
    split
    · next h => exact h1 _ h
    · omega
theorem prodL_take_len {a : Poly F} (ha : a ≠ 0) (i : Nat) : (prodL a ((lvls a).take i)).len ≤ a.len :=
  prodL_len ha ((lvls_rising a).sublist (List.take_sublist _ _)) fun _ hk => ((mem_lvls ha).1 (List.mem_of_mem_take hk)).1
theorem take_succ_get {α : Type} {l : List α} {i : Nat} (h : i < l.length) : l.take (i + 1) = l.take i ++ [l[i]] := by rw [List.take_add_one, List.getElem?_eq_getElem h]; rfl
theorem partsL_length (a : Poly F) : (partsL a).length = (lvls a).length := by simp [partsL]
theorem partsL_get (a : Poly F) (i : Nat) (h : i < (partsL a).length) : (partsL a)[i] = (lvl a ((lvls a)[i]'(by rwa [partsL_length] at h)), (lvls a)[i]'(by rwa [partsL_length] at h)) := by
  simp [partsL]
end
end Poly
end Cl
