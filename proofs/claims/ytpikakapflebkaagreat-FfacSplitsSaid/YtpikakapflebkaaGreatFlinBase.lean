/- Contracts: is it a matrix? The program's and the document's.
   Contracts: a row's first residue that is not 0; are lists the same?
   Contracts: a row less so many times another one.
   What the program makes of a matrix, as a function on lists: column by column. No program in sight.
   Contract: a row is taken away from others, in their own memory.
   Contract: a matrix's plain rows: the program's. -/
import Derived.Test.YtpikakapflebkaaGreatFlinA
import Derived.Test.YtpikakapflebkaaGreatPolyB
import Derived.BigQuiet
import Derived.Deep.QuietTactic
import Derived.Deep.RegionHeld3
import Derived.Deep.AppendLies
import Derived.Deep.DrawnRows
import Derived.BigRegion
import Derived.Deep.LoopGhost
namespace Go.Proofs.YtpikakapflebkaaGreat
open Go.RowKit Cl

theorem right_any (A : Option Addr) (n c : Nat) (rows : List (List Int)) (p : Int) (w : World) (hx : Mat w A n rows) (h3 : -9223372036854775808 ≤ p) (h4 : p ≤ 9223372036854775807) :
    Calls Tryz.prog 92 #[.slice A n c, .int .i64 p] w fun e w' => e = .returned (.int .i64 (matE rows p)) ∧ w = w' := by
  have hlen := hx.len
  have hsm := hx.small
  have Hl := Lib.hid hlen
  cases hp : isPrime p with
  | false =>
    have Hm := Lib.hid (matE_no (matOk_no_prime (rows := rows) hp))
    go_enter Tryz.func92, Tryz.ntmps92
    go_wp2_with (go_at_call 34; refine (chk_no _ _ (by omega) (by omega) hp).mono ?_; rintro e w' ⟨rfl, rfl⟩)
    go_ret
    exact ⟨ret_int Hm.out.symm, rfl⟩
  | true =>
    by_cases hn : 64 < n
    · have Hm := Lib.hid (matE_no (matOk_no_many (rows := rows) (p := p) (by omega)))
      have hn' : decide ((64 : Int) < (n : Int)) = true := decide_eq_true (by omega)
      clear hlen
      go_enter Tryz.func92, Tryz.ntmps92
      go_wp2_with (go_at_call 34; refine (chk_yes _ _ (by omega) (by omega) hp).mono ?_; rintro e w' ⟨rfl, rfl⟩)
      go_ret
      exact ⟨ret_int Hm.out.symm, rfl⟩
    · have hn' : decide ((64 : Int) < (n : Int)) = false := decide_eq_false (by omega)
      clear hlen
      go_enter Tryz.func92, Tryz.ntmps92
      go_wp2_with (go_at_call 34; refine (chk_yes _ _ (by omega) (by omega) hp).mono ?_; rintro e w' ⟨rfl, rfl⟩)
      go_loop [19] (fun i => ∃ k : Nat, k ≤ n ∧ i = .int .i64 k ∧ Hid (∀ j, j < k → (rAt rows j).length ≤ 64 ∧ (rAt rows j).length = (rAt rows 0).length)) (fun i => n - (intOf i).toNat)
      case atStart => exact ⟨0, by omega, rfl, fun j hj => absurd hj (by omega)⟩
      case round =>
        obtain ⟨k, hk, rfl, hall⟩ := hrel
        by_cases hlt : k < n
        · obtain ⟨b, o, rfl, hb, hc⟩ := hx.at_ (by omega)
          obtain ⟨Ak, ck, hck, hik⟩ := hc k hlt
          obtain ⟨A0, c0, hc0, hi0⟩ := hc 0 (by omega)
          rw [Nat.add_zero] at hc0
          have hpos : (0 : Int) < (n : Int) := by omega
          by_cases h64 : (rAt rows k).length ≤ 64
          · have hd1 : decide ((64 : Int) < ((rAt rows k).length : Int)) = false := decide_eq_false (by omega)
            by_cases heq : (rAt rows k).length = (rAt rows 0).length
            · have hd2 : (((rAt rows k).length : Int) != ((rAt rows 0).length : Int)) = false := by simp [heq]
              have Heq := Lib.hid heq; clear heq
              go_wp2
              go_round
              case rel => exact ⟨k + 1, by omega, by go_num, fun j hj => if e : j = k then e ▸ ⟨h64, Heq.out⟩ else hall.out j (by omega)⟩
              case measure => simp [intOf]; omega
            · have hd2 : (((rAt rows k).length : Int) != ((rAt rows 0).length : Int)) = true := by simp; omega
              have Hm := Lib.hid (matE_no (matOk_no_row (rows := rows) (p := p) (i := k) (by have := Hl.out; omega) (fun h => heq h.2)))
              clear heq
              go_wp2
              go_ret
              exact ⟨ret_int Hm.out.symm, rfl⟩
          · have hd1 : decide ((64 : Int) < ((rAt rows k).length : Int)) = true := decide_eq_true (by omega)
            have Hm := Lib.hid (matE_no (matOk_no_row (rows := rows) (p := p) (i := k) (by have := Hl.out; omega) (fun h => h64 h.1)))
            go_wp2
            go_ret
            exact ⟨ret_int Hm.out.symm, rfl⟩
        · have Hm : Hid (matE rows p = 0) := matE_yes (matOk_iff.2 ⟨hp, by have := Hl.out; omega, fun i hi => hall.out i (by have := Hl.out; omega)⟩)
          go_wp2
          go_ret
          exact ⟨ret_int Hm.out.symm, rfl⟩

end Go.Proofs.YtpikakapflebkaaGreat

namespace Go.Proofs.YtpikakapflebkaaGreat
open Go.RowKit Cl

theorem idx_lead (A : Option Addr) (n c : Nat) (xs : List Int) (w : World) (hx : Ints w A n xs) (hn : n ≤ 9223372036854775807) :
    Calls Tryz.prog 135 #[.slice A n c, .func (.func 136) #[] #[]] w fun e w' => e = .returned (.int .i64 (leadI xs)) ∧ w = w' := by
  have Hl := Lib.hid hx.len
  go_enter Tryz.func135, Tryz.ntmps135
  go_wp2
  go_loop [8] (fun i => ∃ k : Nat, k ≤ n ∧ i = .int .i64 k ∧ Hid (∀ j, j < k → nth xs j = 0)) (fun i => n - (intOf i).toNat)
  case atStart => exact ⟨0, by omega, rfl, fun j hj => absurd hj (by omega)⟩
  case round =>
    obtain ⟨k, hk, rfl, hall⟩ := hrel
    by_cases hlt : k < n
    · obtain ⟨b, o, rfl, hb, hc⟩ := hx.at_ (by omega)
      have hck := hc k hlt
      obtain ⟨l1, l2⟩ := hx.ok k
      by_cases hz : nth xs k = 0
      · have hz' : (nth xs k != 0) = false := by simp [hz]
        have Hz := Lib.hid hz; clear hz
        go_wp2_with go_in
        go_round
        case rel => exact ⟨k + 1, by omega, by go_num, fun j hj => if e : j = k then e ▸ Hz.out else hall.out j (by omega)⟩
        case measure => simp [intOf]; omega
      · have hz' : (nth xs k != 0) = true := by simp [hz]
        have Hz := Lib.hid (leadI_some (by have := Hl.out; omega) hall.out hz)
        clear hz
        go_wp2_with go_in
        go_ret
        exact ⟨ret_int Hz.out.symm, rfl⟩
    · have Hz := Lib.hid (leadI_none (fun i hi => hall.out i (by have := Hl.out; omega)))
      go_wp2
      go_ret
      exact ⟨ret_int Hz.out.symm, rfl⟩

theorem lead_any (A : Option Addr) (n c : Nat) (xs : List Int) (w : World) (hx : Ints w A n xs) (hn : n ≤ 9223372036854775807) :
    Calls Tryz.prog 96 #[.slice A n c] w fun e w' => e = .returned (.int .i64 (leadI xs)) ∧ w = w' := by
  go_enter Tryz.func96, Tryz.ntmps96
  go_wp2_with (go_at_call 135; refine (idx_lead _ _ _ _ _ hx hn).mono ?_; rintro e w' ⟨rfl, rfl⟩)
  go_ret
  exact ⟨rfl, rfl⟩

theorem same06_any (A B : Option Addr) (n m c d : Nat) (xs ys : List Int) (w : World) (hx : Ints w A n xs) (hy : Ints w B m ys) (hn : n ≤ 9223372036854775807) (hm : m ≤ 9223372036854775807) :
    Calls Tryz.prog 18 #[.slice A n c, .slice B m d] w fun e w' => e = .returned (.bool (eqI xs ys)) ∧ ∃ k, w' = w.drewN k := by
  have Hl := Lib.hid hx.len
  have Hm := Lib.hid hy.len
  by_cases hnm : n = m
  · subst hnm
    have hne : ((n : Int) != (n : Int)) = false := by simp
    go_enter Tryz.func18, Tryz.ntmps18
    go_wp2
    go_loopw [5] (fun i wr => ∃ k q : Nat, k ≤ n ∧ i = .int .i64 k ∧ Hid (∀ j, j < k → nth xs j = nth ys j) ∧ wr = w.drewN q) (fun i _ => n - (intOf i).toNat)
    case atStart => exact ⟨0, 0, by omega, rfl, (fun j hj => absurd hj (by omega)), rfl⟩
    case round =>
      obtain ⟨k, q, hk, rfl, hall, rfl⟩ := hrel
      by_cases hlt : k < n
      · obtain ⟨b, o, rfl, hb, hc⟩ := hx.at_ (by omega)
        obtain ⟨b', o', rfl, hb', hc'⟩ := hy.at_ (by omega)
        have hck := hc k hlt
        have hck' := hc' k hlt
        have hlt' : (k : Int) < (n : Int) := by omega
        by_cases hz : nth xs k = nth ys k
        · have hz' : (nth xs k != nth ys k) = false := by simp [hz]
          have Hz := Lib.hid hz; clear hz
          go_wp2
          go_quiet (fail)
          go_wp2
          go_roundw
          case rel => exact ⟨k + 1, _, by omega, by go_num, (fun j hj => if e : j = k then e ▸ Hz.out else hall.out j (by omega)), rfl⟩
          case measure => simp [intOf]; omega
        · have hz' : (nth xs k != nth ys k) = true := by simp [hz]
          have Hz := Lib.hid (eqI_no (a := xs) (b := ys) (fun e => hz (by rw [e])))
          clear hz
          go_wp2
          go_quiet (fail)
          go_wp2
          go_ret
          exact ⟨ret_bool Hz.out.symm, _, World.drewN_drewN _ _ _⟩
      · have Hz := Lib.hid (eqI_yes (list_ext (xs := xs) (ys := ys) (by rw [Hl.out, Hm.out]) (fun i hi => hall.out i (by have := Hl.out; omega))))
        go_wp2
        go_ret
        exact ⟨ret_bool Hz.out.symm, _, rfl⟩
  · have hne : ((n : Int) != (m : Int)) = true := by simp; omega
    have Hz := Lib.hid (eqI_no (a := xs) (b := ys) (fun e => hnm (by rw [← Hl.out, ← Hm.out, e])))
    go_enter Tryz.func18, Tryz.ntmps18
    go_wp2
    go_ret
    exact ⟨ret_bool Hz.out.symm, 0, rfl⟩

end Go.Proofs.YtpikakapflebkaaGreat

namespace Go.Proofs.YtpikakapflebkaaGreat
open Go.RowKit Cl
attribute [local go_sem ↓] Go.wp_at_zero Go.wp_at_succ

end Go.Proofs.YtpikakapflebkaaGreat

namespace Cl

/-- The list of f's first m rows. -/
def rowsTab (m : Nat) (f : Nat → List Int) : List (List Int) := (List.range m).map f
@[simp] theorem rowsTab_length (m : Nat) (f : Nat → List Int) : (rowsTab m f).length = m := by simp [rowsTab]
theorem rAt_rowsTab (m : Nat) (f : Nat → List Int) (i : Nat) : rAt (rowsTab m f) i = if i < m then f i else [] := by
  unfold rAt rowsTab
  by_cases h : i < m <;> simp [List.getD, h]
theorem rowsTab_congr {m : Nat} {f g : Nat → List Int} (h : ∀ i, i < m → f i = g i) : rowsTab m f = rowsTab m g := by
  refine rows_ext (by rw [rowsTab_length, rowsTab_length]) fun i hi => ?_
  rw [rowsTab_length] at hi
  rw [rAt_rowsTab, rAt_rowsTab, if_pos hi, if_pos hi, h i hi]
theorem eq_rowsTab (rows : List (List Int)) : rows = rowsTab rows.length (rAt rows) := by
  refine rows_ext (by rw [rowsTab_length]) fun i hi => ?_
  rw [rAt_rowsTab, if_pos hi]
theorem rowsTab_take {m n : Nat} (h : n ≤ m) (f : Nat → List Int) : (rowsTab m f).take n = rowsTab n f := by
  refine rows_ext (by rw [List.length_take, rowsTab_length, rowsTab_length]; omega) fun i hi => ?_
  have hin : i < n := by rw [List.length_take] at hi; omega
  rw [rAt_rowsTab, if_pos hin]
  unfold rAt rowsTab
  simp [List.getD, hin, show i < m by omega]

/-- Two rows changed about. -/
def swapR (R : Nat → List Int) (a b : Nat) : Nat → List Int := fun i => if i = a then R b else if i = b then R a else R i
/-- A row times a residue. -/
def scaleRow (x p : Int) (row : List Int) : List Int := tab row.length (fun i => nth row i * x % p)
@[simp] theorem scaleRow_length (x p : Int) (row : List Int) : (scaleRow x p row).length = row.length := tab_length _ _
theorem scaleRow_pl (x : Int) {p : Int} (hp : 1 ≤ p) (row : List Int) : Pl p (scaleRow x p row) := Pl.of_tab hp (fun _ _ => emod_bd _ hp)
/-- The rows behind a pivot: row n stands for the pivot, times what makes it 1 in column c; the others are struck. -/
def pivotR (R : Nat → List Int) (n k c : Nat) (p : Int) : Nat → List Int := fun i =>
  if i = n then scaleRow (invm (nth (R k) c) p) p (R k) else strikeRow (scaleRow (invm (nth (R k) c) p) p (R k)) c p (swapR R n k i)

/-- Row k is the first one from n on that is not nought in column c. -/
structure Hit (R : Nat → List Int) (m n k c : Nat) : Prop where
  ge : n ≤ k
  lt : k < m
  no : ∀ i, n ≤ i → i < k → nth (R i) c = 0
  yes : nth (R k) c ≠ 0
def Miss (R : Nat → List Int) (m n c : Nat) : Prop := ∀ i, n ≤ i → i < m → nth (R i) c = 0
theorem hit_or_miss (R : Nat → List Int) (m n c : Nat) : (∃ k, Hit R m n k c) ∨ Miss R m n c := by
  classical
  by_cases h : ∃ i, n ≤ i ∧ i < m ∧ nth (R i) c ≠ 0
  · left
    have : ∀ b : Nat, (∃ i, n ≤ i ∧ i < m ∧ i ≤ b ∧ nth (R i) c ≠ 0) → ∃ k, Hit R m n k c := by
      intro b
      induction b with
      | zero =>
        rintro ⟨i, h1, h2, h3, h4⟩
        exact ⟨i, h1, h2, fun j hj hji => by omega, h4⟩
      | succ b ih =>
        rintro ⟨i, h1, h2, h3, h4⟩
        by_cases hb : ∃ i, n ≤ i ∧ i < m ∧ i ≤ b ∧ nth (R i) c ≠ 0
        · exact ih hb
        · refine ⟨i, h1, h2, fun j hj hji => ?_, h4⟩
          apply Classical.byContradiction
          intro hne
          exact hb ⟨j, hj, by omega, by omega, hne⟩
    obtain ⟨i, h1, h2, h3⟩ := h
    exact this i ⟨i, h1, h2, Nat.le_refl _, h3⟩
  · right
    intro i h1 h2
    apply Classical.byContradiction
    intro hne
    exact h ⟨i, h1, h2, hne⟩
theorem Hit.unique {R : Nat → List Int} {m n k k' c : Nat} (h : Hit R m n k c) (h' : Hit R m n k' c) : k = k' := by
  rcases Nat.lt_trichotomy k k' with hl | he | hg
  · exact absurd (h'.no k h.ge hl) h.yes
  · exact he
  · exact absurd (h.no k' h'.ge hg) h'.yes

/-- What the program's rows are behind c columns, and how many pivots there are: as a relation. -/
inductive Ech (m L : Nat) (R0 : Nat → List Int) (p : Int) : Nat → (Nat → List Int) → Nat → Prop where
  | start : Ech m L R0 p 0 R0 0
  | miss {c R n} : Ech m L R0 p c R n → Miss R m n c → Ech m L R0 p (c + 1) R n
  | hit {c R n k} : Ech m L R0 p c R n → Hit R m n k c → Ech m L R0 p (c + 1) (pivotR R n k c p) (n + 1)
theorem Ech.le {m L : Nat} {R0 : Nat → List Int} {p : Int} {c : Nat} {R : Nat → List Int} {n : Nat} (h : Ech m L R0 p c R n) : n ≤ m := by
  induction h with
  | start => exact Nat.zero_le _
  | miss _ _ ih => exact ih
  | hit _ hh _ => have := hh.ge; have := hh.lt; omega
theorem Ech.full {m L : Nat} {R0 : Nat → List Int} {p : Int} {c : Nat} {R : Nat → List Int} (h : Ech m L R0 p c R m) {d : Nat} (hd : c ≤ d) : Ech m L R0 p d R m := by
  induction d with
  | zero => obtain rfl : c = 0 := by omega
            exact h
  | succ d ih =>
    by_cases e : c = d + 1
    · subst e; exact h
    · exact (ih (by omega)).miss (fun i h1 h2 => by omega)

/-- A row on the way of being multiplied: as far as k. -/
def scaleTo (x p : Int) (row : List Int) (k : Nat) : List Int := tab row.length (fun i => if i < k then nth row i * x % p else nth row i)
@[simp] theorem scaleTo_length (x p : Int) (row : List Int) (k : Nat) : (scaleTo x p row k).length = row.length := tab_length _ _
theorem scaleTo_zero (x p : Int) (row : List Int) : scaleTo x p row 0 = row := by
  conv => rhs; rw [eq_tab row]
  exact tab_congr fun i _ => if_neg (by omega)
theorem scaleTo_full (x p : Int) (row : List Int) : scaleTo x p row row.length = scaleRow x p row := tab_congr fun i hi => if_pos hi
theorem scaleTo_set (x p : Int) (row : List Int) {k : Nat} (hk : k < row.length) : (scaleTo x p row k).set k (nth row k * x % p) = scaleTo x p row (k + 1) := by
  unfold scaleTo
  rw [tab_set hk]
  refine tab_congr fun i _ => ?_
  by_cases e : i = k
  · subst e; rw [if_pos rfl, if_pos (by omega)]
  · rw [if_neg e]
    by_cases h : i < k
    · rw [if_pos h, if_pos (by omega)]
    · rw [if_neg h, if_neg (by omega)]
theorem nth_scaleTo (x p : Int) (row : List Int) {k : Nat} : nth (scaleTo x p row k) k = nth row k := by
  unfold scaleTo
  rw [nth_tab]
  split
  · rw [if_neg (by omega)]
  · rw [nth_ge (by omega)]
theorem swapR_left (R : Nat → List Int) (a b : Nat) : swapR R a b a = R b := if_pos rfl

theorem pivotR_eq {R : Nat → List Int} {n k c m : Nat} {p : Int} (hn : n < m) (own : List Int) (ho : own = scaleRow (invm (nth (R k) c) p) p (R k)) (t : Nat) (ht : t < m) :
    (if n + 1 ≤ t ∧ t < n + 1 + (m - (n + 1)) then strikeRow own c p (if 0 ≤ t ∧ t < 0 + n then strikeRow own c p (if t = n then own else swapR R n k t) else if t = n then own else swapR R n k t)
      else if 0 ≤ t ∧ t < 0 + n then strikeRow own c p (if t = n then own else swapR R n k t) else if t = n then own else swapR R n k t) = pivotR R n k c p t := by
  unfold pivotR
  rw [← ho]
  by_cases e : t = n
  · subst e
    rw [if_neg (by omega), if_neg (by omega), if_pos rfl, if_pos rfl]
  · simp only [if_neg e]
    by_cases h : t < n
    · rw [if_neg (by omega), if_pos (by omega)]
    · rw [if_pos (by omega), if_neg (by omega)]

theorem pivotR_eq0 {R : Nat → List Int} {n k c m : Nat} {p : Int} (hn : m ≤ n + 1) (own : List Int) (ho : own = scaleRow (invm (nth (R k) c) p) p (R k)) (t : Nat) (ht : t < m) :
    (if 0 ≤ t ∧ t < 0 + n then strikeRow own c p (if t = n then own else swapR R n k t) else if t = n then own else swapR R n k t) = pivotR R n k c p t := by
  unfold pivotR
  rw [← ho]
  by_cases e : t = n
  · subst e
    rw [if_neg (by omega), if_pos rfl, if_pos rfl]
  · simp only [if_neg e]
    rw [if_pos (by omega)]

end Cl

namespace Go.Proofs.YtpikakapflebkaaGreat
open Go.RowKit Cl

/-- What strike is told of the others: they lie at o in block b; each in a block of its own. -/
structure Others (w : World) (B : Option Addr) (m : Nat) (H : Nat → Nat) (R : Nat → List Int) (L : Nat) (p : Int) : Prop where
  at_ : 0 < m → ∃ b o, B = some ⟨b, o, none⟩ ∧ b < w.heap.size ∧ ∀ i, i < m → w.cell? ⟨b, o + i, none⟩ = some (.slice (some ⟨H i, 0, none⟩) L L) ∧ H i ≠ b
  row : ∀ i, i < m → Row w (H i) 3 (R i)
  len : ∀ i, i < m → (R i).length = L
  pl : ∀ i, i < m → Pl p (R i)
  inj : ∀ i j, i < m → j < m → H i = H j → i = j
theorem Others.none (w : World) (B : Option Addr) (H : Nat → Nat) (R : Nat → List Int) (L : Nat) (p : Int) : Others w B 0 H R L p :=
  ⟨fun h => absurd h (by omega), fun i hi => absurd hi (by omega), fun i hi => absurd hi (by omega), fun i hi => absurd hi (by omega), fun i j hi => absurd hi (by omega)⟩
theorem Others.none' {w : World} {B : Option Addr} {m : Nat} {H : Nat → Nat} {R : Nat → List Int} {L : Nat} {p : Int} (h : m = 0) : Others w B m H R L p := by subst h; exact Others.none _ _ _ _ _ _
theorem Others.any {w : World} {B B' : Option Addr} {m : Nat} {H : Nat → Nat} {R : Nat → List Int} {L : Nat} {p : Int} (h : Others w B m H R L p) (h0 : m = 0) : Others w B' m H R L p :=
  ⟨fun hm => absurd hm (by omega), h.row, h.len, h.pl, h.inj⟩
/-- What strike leaves. -/
structure Struck (w w' : World) (m : Nat) (H : Nat → Nat) (R : Nat → List Int) (own : List Int) (c : Nat) (p : Int) (k : Nat) : Prop where
  only : Only (fun g => ∃ i, i < m ∧ g = H i) w w'
  size : w'.heap.size = w.heap.size
  done : ∀ i, i < k → Row w' (H i) 3 (strikeRow own c p (R i))
  rest : ∀ i, k ≤ i → i < m → Row w' (H i) 3 (R i)

theorem strike_any (A B : Option Addr) (g0 L m d : Nat) (own : List Int) (c : Nat) (p : Int) (H : Nat → Nat) (R : Nat → List Int) (w : World) (hA : A = some ⟨g0, 0, none⟩) (hown : Row w g0 3 own) (hL : own.length = L)
    (hopl : Pl p own) (hoth : Others w B m H R L p) (hg0 : ∀ i, i < m → H i ≠ g0) (hc : c < L) (hL64 : L ≤ 64) (hm : m ≤ 64) (hp1 : 2 ≤ p) (hp2 : p ≤ 65521) :
    Calls Tryz.prog 134 #[.slice A L L, .int .i64 c, .int .i64 p, .slice B m d] w fun e w' => e = .returned (.tuple #[]) ∧ Struck w w' m H R own c p m := by
  subst hA
  subst hL
  have Hinj := Lib.hid hoth.inj
  have Hrow := Lib.hid hoth.row
  have Hpl := Lib.hid hoth.pl
  have Hlen := Lib.hid hoth.len
  have Hg0 := Lib.hid hg0
  have Hopl := Lib.hid hopl
  have hat := hoth.at_
  clear hoth hg0 hopl
  go_enter Tryz.func134, Tryz.ntmps134
  go_wp2
  go_loopw [15] (fun i wr => ∃ k : Nat, k ≤ m ∧ i = .int .i64 k ∧ Struck w wr m H R own c p k) (fun i _ => m - (intOf i).toNat)
  case atStart => exact ⟨0, by omega, rfl, Only.refl _ _, rfl, (fun i hi => absurd hi (by omega)), (fun i _ hi => Hrow.out i hi)⟩
  case round =>
    obtain ⟨k, hk, rfl, hst⟩ := hrel
    obtain ⟨wo, rfl⟩ : ∃ wo : World, wo = wr := ⟨_, rfl⟩
    by_cases hlt : k < m
    · obtain ⟨b, o, rfl, hb, hcs⟩ := hat (by omega)
      obtain ⟨hck, hkb⟩ := hcs k hlt
      have hnb : ¬ ∃ i, i < m ∧ b = H i := fun ⟨i, hi, e⟩ => (hcs i hi).2 e.symm
      have hng : ¬ ∃ i, i < m ∧ g0 = H i := fun ⟨i, hi, e⟩ => Hg0.out i hi e.symm
      have hck' : wo.cell? ⟨b, o + k, none⟩ = some (.slice (some ⟨H k, 0, none⟩) own.length own.length) := (hst.only.cell (p := ⟨b, o + k, none⟩) hb hnb).trans hck
      have hrk := hst.rest k (Nat.le_refl _) hlt
      have hlk := Hlen.out k hlt
      have hcc := hrk.cell (i := c) (by omega)
      have hpk := Hpl.out k hlt
      obtain ⟨c1, c2⟩ := hpk c
      have Hpk := Lib.hid hpk
      have Hlk := Lib.hid hlk
      have Hst := Lib.hid hst
      have hown' := hown.only hst.only hng
      have hsz := hst.size
      clear hcs hck hnb hlk hpk hst
      go_wp2
      go_loopw [25] (fun i wx => ∃ j : Nat, j ≤ own.length ∧ i = .int .i64 j ∧ Row wx (H k) 3 (strikeTo own c p (R k) j) ∧ Only (fun g => g = H k) wo wx ∧ wx.heap.size = wo.heap.size) (fun i _ => own.length - (intOf i).toNat)
      case atStart => exact ⟨0, by omega, rfl, by rw [strikeTo_zero]; exact hrk, Only.refl _ _, rfl⟩
      case round =>
        obtain ⟨j, hj, rfl, hrow, hon, hsx⟩ := hrel
        by_cases hjl : j < own.length
        · have ho := (hown'.only hon (fun e => Hg0.out k hlt e.symm)).cell (i := j) hjl
          have hjr : j < (strikeTo own c p (R k) j).length := by rw [strikeTo_length, Hlk.out]; exact hjl
          have hr := hrow.cell hjr
          rw [nth_strikeTo] at hr
          have hf := hrow.frozen j
          obtain ⟨d1, d2⟩ := Hpk.out j
          obtain ⟨d3, d4⟩ := Hopl.out j
          have hm1 : 0 ≤ (p - nth (R k) c) * nth own j := Int.mul_nonneg (by omega) d3
          have hm2 : (p - nth (R k) c) * nth own j ≤ 65521 * 65521 := Int.mul_le_mul (by omega) (by omega) d3 (by omega)
          have hset := hrow.set j ((nth (R k) j + (p - nth (R k) c) * nth own j) % p)
          rw [strikeTo_set own c p (R k) (by rw [Hlk.out]; exact hjl)] at hset
          have Hset := Lib.hid hset
          clear hset hjr
          go_wp2
          go_roundw
          case rel => exact ⟨j + 1, by omega, by go_num, Hset.out, hon.setCell rfl _, by simpa [World.setCell] using hsx⟩
          case measure => simp [intOf]; omega
        · obtain rfl : j = own.length := by omega
          have hnew : Struck w wr m H R own c p (k + 1) := by
            have hst := Hst.out
            refine ⟨hst.only.trans (hon.mono (fun g hg => ⟨k, hlt, hg⟩)), by rw [hsx, hst.size], fun i hi => ?_, fun i hi hm => ?_⟩
            · by_cases e : i = k
              · subst e; rw [← strikeTo_full, Hlk.out]; exact hrow
              · exact (hst.done i (by omega)).only hon (fun h => e (Hinj.out i k (by omega) hlt h))
            · exact (hst.rest i (by omega) hm).only hon (fun h => by have := Hinj.out i k hm hlt h; omega)
          clear hrow hon hsx hck' hcc
          go_wp2
          go_roundw
          case rel => exact ⟨k + 1, by omega, by go_num, hnew⟩
          case measure => simp [intOf]; omega
    · obtain rfl : k = m := by omega
      go_wp2
      go_end0
      exact ⟨rfl, hst⟩

/-- The first of some rows whose residue in a column is not 0. -/
theorem idx_hit (B : Option Addr) (m d : Nat) (c L gc : Nat) (p : Int) (H : Nat → Nat) (R : Nat → List Int) (w : World) (hoth : Others w B m H R L p) (hgc : w.cell? ⟨gc, 0, none⟩ = some (.int .i64 c)) (hc : c < L) (hL64 : L ≤ 64) (hm : m ≤ 64) (hp2 : p ≤ 65521)
    (k : Nat) (hk : k < m) (hz : ∀ i, i < k → nth (R i) c = 0) (hnz : nth (R k) c ≠ 0) :
    Calls Tryz.prog 132 #[.slice B m d, .func (.func 133) #[] #[.pointer (some ⟨gc, 0, none⟩)]] w fun e w' => e = .returned (.int .i64 ((k : Int))) ∧ w = w' := by
  have Hrow := Lib.hid hoth.row
  have Hlen := Lib.hid hoth.len
  have Hpl := Lib.hid hoth.pl
  have hat := hoth.at_
  have Hz := Lib.hid hz
  clear hoth hz
  go_enter Tryz.func132, Tryz.ntmps132
  go_wp2
  go_loop [8] (fun i => ∃ j : Nat, j ≤ k ∧ i = .int .i64 j) (fun i => m - (intOf i).toNat)
  case atStart => exact ⟨0, by omega, rfl⟩
  case round =>
    obtain ⟨j, hj, rfl⟩ := hrel
    by_cases hlt : j < k
    · obtain ⟨b, o, rfl, hb, hcs⟩ := hat (by omega)
      obtain ⟨hck, _⟩ := hcs j (by omega)
      have hcell := (Hrow.out j (by omega)).cell (i := c) (by rw [Hlen.out j (by omega)]; exact hc)
      have hne : (nth (R j) c != 0) = false := by rw [Hz.out j (by omega)]; rfl
      obtain ⟨l1, l2⟩ := (Hpl.out j (by omega)) c
      clear hcs
      go_wp2_with go_in
      go_round
      case rel => exact ⟨j + 1, by omega, by go_num⟩
      case measure => simp [intOf]; omega
    · obtain rfl : j = k := by omega
      obtain ⟨b, o, rfl, hb, hcs⟩ := hat (by omega)
      obtain ⟨hck, _⟩ := hcs j (by omega)
      have hcell := (Hrow.out j (by omega)).cell (i := c) (by rw [Hlen.out j (by omega)]; exact hc)
      have hne : (nth (R j) c != 0) = true := by simpa using hnz
      clear hcs hnz
      go_wp2_with go_in
      go_ret
      exact ⟨rfl, rfl⟩

/-- The first of some rows whose residue in a column is not 0. -/
theorem idx_none (B : Option Addr) (m d : Nat) (c L gc : Nat) (p : Int) (H : Nat → Nat) (R : Nat → List Int) (w : World) (hoth : Others w B m H R L p) (hgc : w.cell? ⟨gc, 0, none⟩ = some (.int .i64 c)) (hc : c < L) (hL64 : L ≤ 64) (hm : m ≤ 64) (hp2 : p ≤ 65521)
    (hz : ∀ i, i < m → nth (R i) c = 0) :
    Calls Tryz.prog 132 #[.slice B m d, .func (.func 133) #[] #[.pointer (some ⟨gc, 0, none⟩)]] w fun e w' => e = .returned (.int .i64 ((-1 : Int))) ∧ w = w' := by
  have Hrow := Lib.hid hoth.row
  have Hlen := Lib.hid hoth.len
  have Hpl := Lib.hid hoth.pl
  have hat := hoth.at_
  have Hz := Lib.hid hz
  clear hoth hz
  go_enter Tryz.func132, Tryz.ntmps132
  go_wp2
  go_loop [8] (fun i => ∃ j : Nat, j ≤ m ∧ i = .int .i64 j) (fun i => m - (intOf i).toNat)
  case atStart => exact ⟨0, by omega, rfl⟩
  case round =>
    obtain ⟨j, hj, rfl⟩ := hrel
    by_cases hlt : j < m
    · obtain ⟨b, o, rfl, hb, hcs⟩ := hat (by omega)
      obtain ⟨hck, _⟩ := hcs j (by omega)
      have hcell := (Hrow.out j (by omega)).cell (i := c) (by rw [Hlen.out j (by omega)]; exact hc)
      have hne : (nth (R j) c != 0) = false := by rw [Hz.out j (by omega)]; rfl
      obtain ⟨l1, l2⟩ := (Hpl.out j (by omega)) c
      clear hcs
      go_wp2_with go_in
      go_round
      case rel => exact ⟨j + 1, by omega, by go_num⟩
      case measure => simp [intOf]; omega
    · obtain rfl : j = m := by omega
      go_wp2
      go_ret
      exact ⟨rfl, rfl⟩

end Go.Proofs.YtpikakapflebkaaGreat

namespace Go.Proofs.YtpikakapflebkaaGreat
open Go.RowKit Cl
attribute [local go_sem ↓] Go.wp_at_zero Go.wp_at_succ

theorem rows_info : (Tryz.prog.info? 22).map (fun i => (i.zero, i.size, i.bytes)) = some (some (.slice none 0 0), 1, 24) := by kernel_rfl

/-- The headers of rows in blocks of their own. -/
def heads (G : Nat → Nat) (L m : Nat) : List Value := (List.range m).map fun i => .slice (some ⟨G i, 0, none⟩) L L
theorem heads_length (G : Nat → Nat) (L m : Nat) : (heads G L m).length = m := by simp [heads]
theorem heads_get {G : Nat → Nat} {L m i : Nat} (h : i < m) : (heads G L m)[i]? = some (.slice (some ⟨G i, 0, none⟩) L L) := by simp [heads, h]
theorem heads_congr {G G' : Nat → Nat} {L m : Nat} (h : ∀ i, i < m → G i = G' i) : heads G L m = heads G' L m := by
  unfold heads
  exact List.map_congr_left fun i hi => by rw [h i (List.mem_range.1 hi)]
theorem heads_succ (G : Nat → Nat) (L m : Nat) : heads G L (m + 1) = heads G L m ++ [.slice (some ⟨G m, 0, none⟩) L L] := by simp [heads, List.range_succ]
theorem heads_set {G : Nat → Nat} {L m : Nat} (j g : Nat) : (heads G L m).set j (.slice (some ⟨g, 0, none⟩) L L) = heads (fun i => if i = j then g else G i) L m := by
  apply List.ext_getElem
  · simp [heads]
  · intro i h1 h2
    simp only [List.getElem_set, heads, List.getElem_map, List.getElem_range]
    by_cases e : j = i
    · subst e; simp
    · rw [if_neg e, if_neg (fun h => e h.symm)]
theorem heads_oneCell (G : Nat → Nat) (L m : Nat) : ∀ u ∈ heads G L m, u.oneCell' = true := by
  intro u hu
  simp only [heads, List.mem_map] at hu
  obtain ⟨x, _, rfl⟩ := hu
  rfl

/-- Rows in blocks of their own, under headers in a block of the call's own. -/
structure Grid (w : World) (B : Nat) (v : Value) (G : Nat → Nat) (m L : Nat) (R : Nat → List Int) (p : Int) : Prop where
  own : w.ownsRow B 22 1 v m (heads G L m)
  row : ∀ i, i < m → Row w (G i) 3 (R i)
  len : ∀ i, i < m → (R i).length = L
  pl : ∀ i, i < m → Pl p (R i)
  inj : ∀ i j, i < m → j < m → G i = G j → i = j
  ge : ∀ i, i < m → B ≤ G i

theorem Grid.push {w w2 w3 : World} {B L k : Nat} {v : Value} {G : Nat → Nat} {R : Nat → List Int} {p : Int} {o : Obj} {gg cap : Nat} (h : Grid w B v G k L R p) (hb2 : Below w.heap.size w w2) (hB : B ≤ w.heap.size) (hrow : Row w2 w.heap.size 3 (R k)) (hl : (R k).length = L) (hpl : Pl p (R k))
    (hown : w3.ownsRow B 22 1 (.slice (some ⟨gg, 0, none⟩) (k + 1) cap) (k + 1) (heads G L k ++ [.slice (some ⟨w.heap.size, 0, none⟩) L L])) (hgrow : (w2.alloc o).grownBy w3 v.ownBlock) :
    Grid w3 B (.slice (some ⟨gg, 0, none⟩) (k + 1) cap) (fun i => if i = k then w.heap.size else G i) (k + 1) L R p := by
  have hlt : ∀ i, i < k → G i < w.heap.size := fun i hi => (h.row i hi).lt
  have hown2 := own_bel h.own hb2
  refine ⟨?_, fun i hi => ?_, fun i hi => ?_, fun i hi => ?_, fun i j hi hj e => ?_, fun i hi => ?_⟩
  · have e : heads (fun i => if i = k then w.heap.size else G i) L (k + 1) = heads G L k ++ [.slice (some ⟨w.heap.size, 0, none⟩) L L] := by
      rw [heads_succ, if_pos rfl]
      congr 1
      exact heads_congr fun i hi => if_neg (by omega)
    rw [e]; exact hown
  · by_cases e : i = k
    · subst e; simp only [if_true]; exact rows_app hown2 hrow (by decide) hgrow
    · simp only [if_neg e]
      exact rows_app hown2 ((h.row i (by omega)).bel hb2) (by decide) hgrow
  · by_cases e : i = k
    · subst e; exact hl
    · exact h.len i (by omega)
  · by_cases e : i = k
    · subst e; exact hpl
    · exact h.pl i (by omega)
  · by_cases e1 : i = k <;> by_cases e2 : j = k
    · omega
    · rw [if_pos e1, if_neg e2] at e; have := hlt j (by omega); omega
    · rw [if_neg e1, if_pos e2] at e; have := hlt i (by omega); omega
    · rw [if_neg e1, if_neg e2] at e; exact h.inj i j (by omega) (by omega) e
  · by_cases e : i = k
    · simp only [if_pos e]; exact hB
    · simp only [if_neg e]; exact h.ge i (by omega)

theorem Grid.form {w : World} {B L m : Nat} {v : Value} {G : Nat → Nat} {R : Nat → List Int} {p : Int} (h : Grid w B v G m L R p) (hm : 0 < m) : ∃ g cap, v = .slice (some ⟨g, 0, none⟩) m cap ∧ B ≤ g ∧ m ≤ cap ∧ cap ≤ 9223372036854775807 := by
  rcases h.own.2 with ⟨_, h0⟩ | ⟨g, cap, cur, hv, hg, _, hc, hm2, _⟩
  · omega
  · exact ⟨g, cap, hv, hg, hc, by unfold maxLen at hm2; omega⟩
section
variable {w w' : World} {B L m g cap : Nat} {G : Nat → Nat} {R : Nat → List Int} {p : Int}
theorem Grid.cell (h : Grid w B (.slice (some ⟨g, 0, none⟩) m cap) G m L R p) {i : Nat} (hi : i < m) : w.cell? ⟨g, i, none⟩ = some (.slice (some ⟨G i, 0, none⟩) L L) := by
  rw [h.own.cellAt i (by omega), heads_get hi]
theorem Grid.ne (h : Grid w B (.slice (some ⟨g, 0, none⟩) m cap) G m L R p) {i : Nat} (hi : i < m) : G i ≠ g := by
  intro e
  have := own_row_ne h.own (h.row i hi) (by decide)
  exact this (by rw [e]; rfl)
theorem Grid.lt (h : Grid w B (.slice (some ⟨g, 0, none⟩) m cap) G m L R p) : g < w.heap.size := (h.own.lt g rfl).2
/-- Nothing of it has turned. -/
theorem Grid.only {S : Nat → Prop} (h : Grid w B (.slice (some ⟨g, 0, none⟩) m cap) G m L R p) (ho : Only S w w') (hg : ¬ S g) (hr : ∀ i, i < m → ¬ S (G i)) : Grid w' B (.slice (some ⟨g, 0, none⟩) m cap) G m L R p := by
  refine ⟨⟨h.own.1, ?_⟩, fun i hi => (h.row i hi).only ho (hr i hi), h.len, h.pl, h.inj, h.ge⟩
  rcases h.own.2 with h2 | ⟨g', cap', cur, hv, hg', hh, r⟩
  · exact .inl h2
  · have : g' = g := by simp only [Value.slice.injEq, Option.some.injEq, Addr.mk.injEq] at hv; exact hv.1.1.symm
    subst this
    exact .inr ⟨g', cap', cur, hv, hg', (ho.block g' (Array.getElem?_eq_some_iff.1 hh).1 hg).trans hh, r⟩
end

theorem Grid.drewN {w : World} {B L m g cap : Nat} {G : Nat → Nat} {R : Nat → List Int} {p : Int} (h : Grid w B (.slice (some ⟨g, 0, none⟩) m cap) G m L R p) (q : Nat) : Grid (w.drewN q) B (.slice (some ⟨g, 0, none⟩) m cap) G m L R p :=
  h.only ((Only.refl (fun _ => False) _).drewN q) (fun h => h) (fun _ _ h => h)
theorem Grid.others {w : World} {B L m g cap : Nat} {G : Nat → Nat} {R : Nat → List Int} {p : Int} (h : Grid w B (.slice (some ⟨g, 0, none⟩) m cap) G m L R p) {a k : Nat} (hk : a + k ≤ m) :
    Others w (some ⟨g, a, none⟩) k (fun i => G (a + i)) (fun i => R (a + i)) L p :=
  ⟨fun _ => ⟨g, a, rfl, h.lt, fun i hi => ⟨h.cell (by omega), h.ne (by omega)⟩⟩, fun i hi => h.row _ (by omega), fun i hi => h.len _ (by omega), fun i hi => h.pl _ (by omega), fun i j hi hj e => by have := h.inj _ _ (by omega) (by omega) e; omega⟩

theorem Grid.alloc {w : World} {B L m g cap : Nat} {G : Nat → Nat} {R : Nat → List Int} {p : Int} (h : Grid w B (.slice (some ⟨g, 0, none⟩) m cap) G m L R p) (o : Obj) : Grid (w.alloc o) B (.slice (some ⟨g, 0, none⟩) m cap) G m L R p :=
  h.only ((Only.refl (fun _ => False) _).alloc o) (fun h => h) (fun _ _ h => h)
theorem row_one (w : World) (t : TypeId) (c : Nat) : Row (w.alloc (.cells #[.int .i64 ((c : Int) + 1)] t)) w.heap.size t [((c + 1 : Nat) : Int)] := by
  have := Row.new w t [(c : Int) + 1]
  exact this

theorem Grid.mat {w : World} {B L m g cap n : Nat} {G : Nat → Nat} {R : Nat → List Int} {p : Int} (h : Grid w B (.slice (some ⟨g, 0, none⟩) m cap) G m L R p) (hn : n ≤ m) (hm : m ≤ 64) (hp : p ≤ 65521) : Mat w (some ⟨g, 0, none⟩) n (rowsTab n R) := by
  refine ⟨rowsTab_length _ _, by omega, fun _ => ⟨g, 0, rfl, h.lt, fun i hi => ?_⟩⟩
  rw [rAt_rowsTab, if_pos hi, Nat.zero_add, h.len i (by omega)]
  refine ⟨some ⟨G i, 0, none⟩, L, h.cell (by omega), ?_⟩
  have := (h.row i (by omega)).ints (fun j => (h.pl i (by omega)).i64 hp j)
  rwa [h.len i (by omega)] at this

theorem Grid.drew {w : World} {B L m g cap : Nat} {G : Nat → Nat} {R : Nat → List Int} {p : Int} (h : Grid w B (.slice (some ⟨g, 0, none⟩) m cap) G m L R p) : Grid w.drew B (.slice (some ⟨g, 0, none⟩) m cap) G m L R p :=
  h.only (Only.refl (fun _ => False) _).drew (fun h => h) (fun _ _ h => h)
theorem Grid.congr {w : World} {B L m : Nat} {v : Value} {G : Nat → Nat} {R R' : Nat → List Int} {p : Int} (h : Grid w B v G m L R p) (hr : ∀ i, i < m → R i = R' i) : Grid w B v G m L R' p :=
  ⟨h.own, fun i hi => hr i hi ▸ h.row i hi, fun i hi => hr i hi ▸ h.len i hi, fun i hi => hr i hi ▸ h.pl i hi, h.inj, h.ge⟩
/-- Two headers changed about. -/
def swapG (G : Nat → Nat) (a b : Nat) : Nat → Nat := fun i => if i = a then G b else if i = b then G a else G i
theorem swapG_ne {G : Nat → Nat} {a b m x : Nat} (h : ∀ i, i < m → G i ≠ x) (ha : a < m) (hb : b < m) (i : Nat) (hi : i < m) : swapG G a b i ≠ x := by
  unfold swapG; split
  · exact h b hb
  · split
    · exact h a ha
    · exact h i hi
theorem swapG_left (G : Nat → Nat) (a b : Nat) : swapG G a b a = G b := if_pos rfl
theorem Grid.swap {w : World} {B L m g cap : Nat} {G : Nat → Nat} {R : Nat → List Int} {p : Int} (h : Grid w B (.slice (some ⟨g, 0, none⟩) m cap) G m L R p) {a b : Nat} (ha : a < m) (hb : b < m) :
    Grid ((w.setCell ⟨g, a, none⟩ (.slice (some ⟨G b, 0, none⟩) L L)).setCell ⟨g, b, none⟩ (.slice (some ⟨G a, 0, none⟩) L L)) B (.slice (some ⟨g, 0, none⟩) m cap) (swapG G a b) m L (swapR R a b) p := by
  have h1 := (h.own.stored a (.slice (some ⟨G b, 0, none⟩) L L)).1
  have h2 := (h1.stored b (.slice (some ⟨G a, 0, none⟩) L L)).1
  have hrow : ∀ i, i < m → Row ((w.setCell ⟨g, a, none⟩ (.slice (some ⟨G b, 0, none⟩) L L)).setCell ⟨g, b, none⟩ (.slice (some ⟨G a, 0, none⟩) L L)) (G i) 3 (R i) := fun i hi => ((h.row i hi).far (h.ne hi) _).far (h.ne hi) _
  have hs : ∀ (P : Nat → Prop), P (G a) → P (G b) → (∀ i, i < m → P (G i)) → ∀ i, i < m → P (swapG G a b i) := by
    intro P _ _ h3 i hi
    unfold swapG; split
    · exact h3 b hb
    · split
      · exact h3 a ha
      · exact h3 i hi
  refine ⟨?_, fun i hi => ?_, fun i hi => ?_, fun i hi => ?_, fun i j hi hj e => ?_, fun i hi => hs _ (h.ge a ha) (h.ge b hb) h.ge i hi⟩
  · rw [heads_set, heads_set] at h2
    have e : heads (swapG G a b) L m = heads (fun i => if i = b then G a else if i = a then G b else G i) L m := heads_congr fun i _ => by
      unfold swapG
      by_cases e1 : i = a <;> by_cases e2 : i = b
      · subst e1; subst e2; simp
      · rw [if_pos e1, if_neg e2, if_pos e1]
      · rw [if_neg e1, if_pos e2, if_pos e2]
      · rw [if_neg e1, if_neg e2, if_neg e2, if_neg e1]
    rw [e]; exact h2
  · unfold swapG swapR; split
    · exact hrow b hb
    · split
      · exact hrow a ha
      · exact hrow i hi
  · unfold swapR; split
    · exact h.len b hb
    · split
      · exact h.len a ha
      · exact h.len i hi
  · unfold swapR; split
    · exact h.pl b hb
    · split
      · exact h.pl a ha
      · exact h.pl i hi
  · unfold swapG at e
    have inj := h.inj
    by_cases e1 : i = a <;> by_cases e2 : j = a <;> by_cases e3 : i = b <;> by_cases e4 : j = b <;> simp only [e1, e2, e3, e4, if_true, if_false] at e ⊢ <;> first
      | omega
      | (have := inj _ _ (by omega) (by omega) e; omega)
      | (split at e <;> first | (have := inj _ _ (by omega) (by omega) e; omega) | omega)
section
variable {w w' : World} {B L m g cap : Nat} {G : Nat → Nat} {R : Nat → List Int} {p : Int}
/-- One row has turned. -/
theorem Grid.setRow (h : Grid w B (.slice (some ⟨g, 0, none⟩) m cap) G m L R p) {i : Nat} (hi : i < m) {r : List Int} (hr : Row w' (G i) 3 r) (hl : r.length = L) (hpl : Pl p r) (ho : Only (fun x => x = G i) w w') :
    Grid w' B (.slice (some ⟨g, 0, none⟩) m cap) G m L (fun t => if t = i then r else R t) p := by
  have h1 : Grid w' B (.slice (some ⟨g, 0, none⟩) m cap) G m L (fun t => if t = i then r else R t) p → Grid w' B (.slice (some ⟨g, 0, none⟩) m cap) G m L (fun t => if t = i then r else R t) p := id
  refine ⟨⟨h.own.1, ?_⟩, fun t ht => ?_, fun t ht => ?_, fun t ht => ?_, h.inj, h.ge⟩
  · rcases h.own.2 with h2 | ⟨g', cap', cur, hv, hg', hh, r2⟩
    · exact .inl h2
    · have : g' = g := by simp only [Value.slice.injEq, Option.some.injEq, Addr.mk.injEq] at hv; exact hv.1.1.symm
      subst this
      exact .inr ⟨g', cap', cur, hv, hg', (ho.block g' (Array.getElem?_eq_some_iff.1 hh).1 (fun e => h.ne hi e.symm)).trans hh, r2⟩
  · by_cases e : t = i
    · subst e; simp only [if_true]; exact hr
    · simp only [if_neg e]; exact (h.row t ht).only ho (fun e2 => e (h.inj t i ht hi e2))
  · by_cases e : t = i
    · simp only [if_pos e]; exact hl
    · simp only [if_neg e]; exact h.len t ht
  · by_cases e : t = i
    · simp only [if_pos e]; exact hpl
    · simp only [if_neg e]; exact h.pl t ht
/-- No row is struck. -/
theorem Grid.struck0 (h : Grid w B (.slice (some ⟨g, 0, none⟩) m cap) G m L R p) {H : Nat → Nat} {R' : Nat → List Int} {c : Nat} {own : List Int} (hs : Struck w w' 0 H R' own c p 0) :
    Grid w' B (.slice (some ⟨g, 0, none⟩) m cap) G m L R p :=
  h.only hs.only (fun ⟨i, hi, _⟩ => absurd hi (by omega)) (fun _ _ ⟨i, hi, _⟩ => absurd hi (by omega))
/-- Some rows are struck. -/
theorem Grid.struck (h : Grid w B (.slice (some ⟨g, 0, none⟩) m cap) G m L R p) {a k c : Nat} {own : List Int} (hk : a + k ≤ m) (hp : 1 ≤ p) (hs : Struck w w' k (fun i => G (a + i)) (fun i => R (a + i)) own c p k) :
    Grid w' B (.slice (some ⟨g, 0, none⟩) m cap) G m L (fun t => if a ≤ t ∧ t < a + k then strikeRow own c p (R t) else R t) p := by
  have hno : ∀ x, (∀ i, i < k → x ≠ G (a + i)) → ¬ ∃ i, i < k ∧ x = G (a + i) := fun x hx ⟨i, hi, e⟩ => hx i hi e
  refine ⟨⟨h.own.1, ?_⟩, fun t ht => ?_, fun t ht => ?_, fun t ht => ?_, h.inj, h.ge⟩
  · rcases h.own.2 with h2 | ⟨g', cap', cur, hv, hg', hh, r2⟩
    · exact .inl h2
    · have : g' = g := by simp only [Value.slice.injEq, Option.some.injEq, Addr.mk.injEq] at hv; exact hv.1.1.symm
      subst this
      exact .inr ⟨g', cap', cur, hv, hg', (hs.only.block g' (Array.getElem?_eq_some_iff.1 hh).1 (hno _ (fun i hi e => h.ne (i := a + i) (by omega) e.symm))).trans hh, r2⟩
  · by_cases e : a ≤ t ∧ t < a + k
    · simp only [if_pos e]
      have := hs.done (t - a) (by omega)
      rwa [show a + (t - a) = t by omega] at this
    · simp only [if_neg e]
      refine (h.row t ht).only hs.only (hno _ (fun i hi e2 => ?_))
      have := h.inj t (a + i) ht (by omega) e2
      omega
  · by_cases e : a ≤ t ∧ t < a + k
    · simp only [if_pos e]; rw [strikeRow_length]; exact h.len t ht
    · simp only [if_neg e]; exact h.len t ht
  · by_cases e : a ≤ t ∧ t < a + k
    · simp only [if_pos e]; exact strikeRow_pl hp
    · simp only [if_neg e]; exact h.pl t ht
end

end Go.Proofs.YtpikakapflebkaaGreat
