/- Rows of factors as cells; the program's factors as the document's, with room. -/
import Derived.Test.YtpikakapflebkaaGreatLaw9Base
import Derived.Test.YtpikakapflebkaaGreatFacQ
namespace Go.Proofs.YtpikakapflebkaaGreat
open Go.RowKit Cl
attribute [local go_sem ↓] Go.wp_at_zero Go.wp_at_succ

theorem own_empty2 (w : World) {base : Nat} (e : TypeId) (hb : base ≤ w.heap.size) : (w.alloc (.cells #[] e)).ownsRow base e 2 (.slice (some ⟨w.heap.size, 0, none⟩) 0 0) 0 [] := by
  have := World.ownsRow_lit (e := e) (size := 2) w #[] 0 hb (by unfold maxLen; omega) (by simp)
  simpa using this
theorem cells_new2 (w : World) (u v : Value) (t : TypeId) : (w.alloc (.cells #[u, v] t)).cell? ⟨w.heap.size, 0, none⟩ = some u ∧ (w.alloc (.cells #[u, v] t)).cell? ⟨w.heap.size, 1, none⟩ = some v := by
  have hb := heap_alloc_new w (.cells #[u, v] t)
  constructor <;> simp only [World.cell?, hb] <;> rfl
theorem reads_two {w : World} {g B : Nat} {u v : Value} (h0 : w.cell? ⟨g, 0, none⟩ = some u) (h1 : w.cell? ⟨g, 1, none⟩ = some v) (hg : g < B) : Reads w B 2 (some ⟨g, 0, none⟩) 1 [u, v] := by
  refine ⟨rfl, fun _ => ⟨_, rfl, hg, fun j x hx => ?_⟩⟩
  rw [Go.WideShapes.add_plain]
  match j, hx with
  | 0, hx => rw [h0]; simpa using hx
  | 1, hx => rw [h1]; simpa using hx
  | j + 2, hx => exact absurd hx (by simp)
theorem reads_new0 (w : World) (u v : Value) (t : TypeId) : Reads (w.alloc (.cells #[u, v] t)) (w.heap.size + 1) 2 (some ⟨w.heap.size, 0, none⟩) 1 [u, v] := by
  refine ⟨rfl, fun _ => ⟨_, rfl, Nat.lt_succ_self _, fun j x hx => ?_⟩⟩
  have hb := heap_alloc_new w (.cells #[u, v] t)
  match j, hx with
  | 0, hx => rw [Go.WideShapes.add_plain]; simp only [World.cell?, hb]; simpa using hx
  | 1, hx => rw [Go.WideShapes.add_plain]; simp only [World.cell?, hb]; simpa using hx
  | j + 2, hx => exact absurd hx (by simp)

section
variable {q : Prm}
theorem reads_fcells {w : World} {A : Option Addr} {n : Nat} {E : List (EntQ q)} (hE : E.length = n)
    (h : 0 < n → ∃ b o, A = some ⟨b, o, none⟩ ∧ b < w.heap.size ∧ ∀ i (h : i < E.length), w.cell? ⟨b, o + 2 * i, none⟩ = some (.slice (E[i]).1.1 (E[i]).2.1.len (E[i]).1.2) ∧ w.cell? ⟨b, o + (2 * i + 1), none⟩ = some (.int .i64 ((E[i]).2.2 : Int))) :
    Reads w w.heap.size 2 A n (fcells E) := by
  refine ⟨by rw [fcells_length, hE], fun hn => ?_⟩
  obtain ⟨b, o, rfl, hb, hc⟩ := h hn
  refine ⟨_, rfl, hb, fun j u hu => ?_⟩
  rw [Go.WideShapes.add_plain]
  have hj : j < (fcells E).length := (List.getElem?_eq_some_iff.1 hu).1
  rw [fcells_length] at hj
  rcases Nat.mod_two_eq_zero_or_one j with h2 | h2
  · obtain ⟨i, rfl⟩ : ∃ i, j = 2 * i := ⟨j / 2, by omega⟩
    rw [fcells_get0 (by omega)] at hu
    rw [← hu]
    exact (hc i (by omega)).1
  · obtain ⟨i, rfl⟩ : ∃ i, j = 2 * i + 1 := ⟨j / 2, by omega⟩
    rw [fcells_get1 (by omega)] at hu
    rw [← hu]
    exact (hc i (by omega)).2
theorem fcells_cons (x : EntQ q) (L : List (EntQ q)) : fcells (x :: L) = fcell x ++ fcells L := by simp [fcells]
theorem fcells_append (L M : List (EntQ q)) : fcells (L ++ M) = fcells L ++ fcells M := by simp [fcells, List.flatMap_append]
theorem fcells_take : ∀ (L : List (EntQ q)) (k : Nat), (fcells L).take (k * 2) = fcells (L.take k)
  | [], k => by simp [fcells]
  | x :: L, 0 => by simp [fcells]
  | x :: L, k + 1 => by
    rw [List.take_succ_cons, fcells_cons, fcells_cons, ← fcells_take L k]
    rw [List.take_append, show (fcell x).length = 2 from rfl, List.take_of_length_le (by show (2 : Nat) ≤ _; omega), show (k + 1) * 2 - 2 = k * 2 by omega]
theorem fcells_drop : ∀ (L : List (EntQ q)) (k : Nat), (fcells L).drop (k * 2) = fcells (L.drop k)
  | [], k => by simp [fcells]
  | x :: L, 0 => by simp [fcells]
  | x :: L, k + 1 => by
    rw [List.drop_succ_cons, fcells_cons, ← fcells_drop L k]
    rw [List.drop_append, show (fcell x).length = 2 from rfl, List.drop_of_length_le (by show (2 : Nat) ≤ _; omega), show (k + 1) * 2 - 2 = k * 2 by omega, List.nil_append]
theorem fcells_set1 : ∀ (L : List (EntQ q)) (i : Nat) (h : i < L.length) (m : Nat), (fcells L).set (2 * i + 1) (.int .i64 (m : Int)) = fcells (L.set i (L[i].1, (L[i].2.1, m)))
  | x :: L, 0, _, m => by rw [List.set_cons_zero, fcells_cons, fcells_cons]; rfl
  | x :: L, i + 1, h, m => by
    rw [List.set_cons_succ, fcells_cons, fcells_cons, List.set_append_right _ _ (by show (2 : Nat) ≤ _; omega), show 2 * (i + 1) + 1 - (fcell x).length = 2 * i + 1 from by show 2 * (i + 1) + 1 - 2 = _; omega, fcells_set1 L i (Nat.lt_of_succ_lt_succ h) m]
    rfl
theorem reads_take2 {w : World} {B n k : Nat} {A : Option Addr} {xs : List Value} (h : Reads w B 2 A n xs) (hk : k ≤ n) : Reads w B 2 A k (xs.take (k * 2)) :=
  ⟨by rw [List.length_take, h.1]; omega, fun h0 => by
    obtain ⟨ad, e, hb, hc⟩ := h.2 (by omega)
    refine ⟨ad, e, hb, fun j u hu => hc j u ?_⟩
    rw [List.getElem?_take] at hu
    split at hu
    · exact hu
    · cases hu⟩
theorem prs_of_own {t : TypeId} {w : World} {base m : Nat} {v : Value} {E : List (EntQ q)} (h : w.ownsRow base t 2 v m (fcells E)) (hm : E.length = m) (hi : ∀ x ∈ E, Ints w x.1.1 x.2.1.len (fromP x.2.1)) :
    ∃ B d, v = .slice B m d ∧ m ≤ d ∧ d ≤ maxLen ∧ (B = none → d = 0) ∧ Prs w B m (E.map (·.2)) := by
  rcases h.2 with ⟨hv, h0⟩ | ⟨g, cap, cur, hv, hg, hh, hc, hmx, hrest⟩
  · subst h0
    obtain rfl := List.eq_nil_of_length_eq_zero hm
    exact ⟨none, 0, hv, Nat.le_refl _, Nat.zero_le _, fun _ => rfl, rfl, fun h => absurd h (by omega)⟩
  · refine ⟨_, cap, hv, by omega, by omega, (by intro e; cases e), by rw [List.length_map, hm], fun h0 => ⟨g, 0, rfl, (Array.getElem?_eq_some_iff.1 hh).1, fun i hi2 => ?_⟩⟩
    have hi' : i < E.length := by simpa using hi2
    have e : (E.map (·.2))[i] = (E[i]).2 := by simp
    subst hv
    have c0 := h.cells (g := g) rfl (2 * i) _ (fcells_get0 hi')
    have c1 := h.cells (g := g) rfl (2 * i + 1) _ (fcells_get1 hi')
    rw [Go.WideShapes.add_plain] at c0 c1
    rw [e]
    exact ⟨_, _, c0, c1, hi _ (List.getElem_mem hi')⟩
set_option maxRecDepth 100000 in
set_option maxHeartbeats 4000000 in
/-- Factors as the document's. -/
theorem theirs9C (A : Option Addr) (n c : Nat) (M : List (Poly (Zp q) × Nat)) (w : World) (hx : Prs w A n M) (hn : n ≤ 100000000) (hM : ∀ x ∈ M, 0 < x.1.len ∧ x.1.len ≤ 900000000 ∧ x.2 ≤ 900000000) :
    Calls Tryz.prog 11 #[.slice A n c] w fun e w' => ∃ B d, e = .returned (.slice B n d) ∧ n ≤ d ∧ d ≤ maxLen ∧ (B = none → d = 0) ∧ Prs w' B n M ∧ Below w.heap.size w w' := by
  obtain ⟨i0, hi, hz0, hz1, hz2⟩ := info_parts fac9_info
  obtain ⟨E, hEn, hEk, hE, hc⟩ := prs_entq hx
  have HEn := Lib.hid hEn
  have HEk := Lib.hid hEk
  have HE := Lib.hid hE
  have HM : Hid (∀ x ∈ E, 0 < x.2.1.len ∧ x.2.1.len ≤ 900000000 ∧ x.2.2 ≤ 900000000) := fun x hx => hM x.2 (by rw [← hEk]; exact List.mem_map.2 ⟨x, hx, rfl⟩)
  clear hx hEn hEk hE hM
  go_enter Tryz.func11, Tryz.ntmps11
  go_wp2
  go_loopw [3, 4] (fun v i wr => ∃ k : Nat, k ≤ n ∧ i = .int .i64 (k : Int) ∧ wr.ownsRow w.heap.size 50 2 v k (fcells (E.take k)) ∧ Below w.heap.size w wr) (fun _ i _ => n - (intOf i).toNat)
  case atStart => exact ⟨0, by omega, rfl, World.ownsRow_nil _ _ _ _, Below.refl _ _⟩
  case round =>
    obtain ⟨k, hk, rfl, hown, hbel⟩ := hrel
    by_cases hlt : k < n
    · obtain ⟨b, o, rfl, hb, hcc⟩ := hc (by omega)
      have hkE : k < E.length := by rw [HEn.out]; exact hlt
      obtain ⟨e1, e2⟩ := hcc k hkE
      obtain ⟨hm1, hm2, hm3⟩ := HM.out _ (List.getElem_mem hkE)
      have htk := Lib.hid (Poly.take_succ_get hkE)
      clear hcc
      generalize E[k] = x at *
      obtain ⟨⟨Ak, ck⟩, ⟨Q, kk⟩⟩ := x
      simp only at e1 e2 hm1 hm2 hm3
      rw [Nat.mul_comm 2 k] at e1 e2
      rw [← Nat.add_assoc] at e2
      have hcx := (hbel.cell (p := ⟨b, o + k * 2, none⟩) hb).trans e1
      have hcy := (hbel.cell (p := ⟨b, o + k * 2 + 1, none⟩) hb).trans e2
      have hsz := hbel.size
      have hlt' : (k : Int) < (n : Int) := by omega
      go_wp2
      go_region_held3 (fun w' => w'.cell? ⟨b, o + k * 2, none⟩ = some (.slice Ak Q.len ck) ∧ w'.cell? ⟨b, o + k * 2 + 1, none⟩ = some (.int .i64 (kk : Int)))
        (first | go_keep | (have hb3 := below_app hbel hown hgrow hsz; exact ⟨(hb3.cell (p := ⟨b, o + k * 2, none⟩) hb).trans e1, (hb3.cell (p := ⟨b, o + k * 2 + 1, none⟩) hb).trans e2⟩))
        (first
          | (refine step_append_lies _ (by rfl) _ _ _ (by rfl) w.heap.size 50 i0 _ 2 32 Tryz.underlying30 hi hz0 hz1 hz2 rfl (by omega) u3 k (fcells (E.take k)) (by rfl) ((hown.alloc _).drew) ⟨wr.heap.size, 0, none⟩ 1 1 [.slice Ak Q.len ck, .int .i64 (kk : Int)] (by rfl) (by rfl) (World.news_of_block (cs := #[.slice Ak Q.len ck, .int .i64 (kk : Int)]) (t := 50) (fr := (0, 0)) (heap_alloc_new wr _)) (by simp [Value.oneCell']) (by omega) (by unfold maxLen; omega) (by omega) (by simp; omega) (wr.heap.size + 1) (by simp) ?_; intro gg cap w3 hown3 hgrow hat hlt3))
      have hb3 := below_app hbel hown hgrow hsz
      have he : fcells (E.take k) ++ [.slice Ak Q.len ck, .int .i64 (kk : Int)] = fcells (E.take (k + 1)) := by rw [htk.out, fcells_snoc]; rfl
      rw [he] at hown3
      clear hgrow hat hown he
      go_wp2
      go_roundw
      case rel => exact ⟨k + 1, by omega, by go_num, hown3, hb3⟩
      case measure => simp [intOf]; omega
    · obtain rfl : k = n := by omega
      rw [List.take_of_length_le (by rw [HEn.out]; omega)] at hown
      have hown' := hown
      rw [← HEn.out] at hown'
      obtain ⟨A9, c9, rfl, hd1, hd2, hd3, hprs⟩ := prs_of_own hown HEn.out (fun x hx => (HE.out x hx).bel hbel)
      rw [HEk.out] at hprs
      have Hprs := Lib.hid hprs
      clear hown hown' hprs
      go_wp2
      go_ret
      exact ⟨A9, c9, rfl, hd1, hd2, hd3, Hprs.out, hbel⟩
/-- A call that hands back a polynomial's factors, in a slice with room. -/
def GivesPut (w : World) (a : Poly (Zp q)) (e : Ending) (w' : World) : Prop :=
  ∃ B m d L, e = .returned (.slice B m d) ∧ m ≤ d ∧ d ≤ maxLen ∧ (B = none → d = 0) ∧ Prs w' B m L ∧ Poly.IsFac a L ∧ Below w.heap.size w w'
end
end Go.Proofs.YtpikakapflebkaaGreat
