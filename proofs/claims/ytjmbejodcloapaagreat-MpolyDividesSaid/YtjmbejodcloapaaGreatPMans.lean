/- Contracts: sum.answer whatever the number of terms; what a division hands back. -/
import Derived.Test.YtjmbejodcloapaaGreatPSumC
import Derived.Test.YtjmbejodcloapaaGreatPMdiv
import Derived.Test.YtjmbejodcloapaaGreatPPlains
import Derived.Test.YtjmbejodcloapaaGreatPDvZin
import Derived.Test.YtjmbejodcloapaaGreatPPrs
set_option linter.unusedVariables false
set_option linter.unusedSimpArgs false
namespace Cl
theorem timesT_abs (n : Nat) (p : Plc) (z : Int) : ∀ T : Mv, absM (timesT n p z T) = z.natAbs * absM T
  | [] => by show 0 = _ * 0; rw [Nat.mul_zero]
  | t :: T => by
    show (z * t.2).natAbs + absM (timesT n p z T) = z.natAbs * (t.2.natAbs + absM T)
    rw [timesT_abs n p z T, Int.natAbs_mul, Nat.mul_add]
theorem absM_takeM : ∀ (T : Mv) (j : Nat), absM (T.take j) ≤ absM T
  | _, 0 => by rw [List.take_zero]; exact Nat.zero_le _
  | [], _ + 1 => Nat.le_refl _
  | t :: T, j + 1 => by
    have := absM_takeM T j
    show t.2.natAbs + absM (T.take j) ≤ t.2.natAbs + absM T
    omega
theorem mvT_take (T : List TV) (j : Nat) : mvT (T.take j) = (mvT T).take j := List.map_take
end Cl
namespace Go.Proofs.YtjmbejodcloapaaGreat
open Go.RowKit Cl
attribute [local go_sem ↓] Go.wp_at_zero Go.wp_at_succ
def GivesA (w : World) (n : Nat) (M : Mv) (e : Ending) (w' : World) : Prop :=
  (M.length ≤ 4096 → GivesP w n M e w') ∧ (¬ M.length ≤ 4096 → e = .returned (.tuple #[.slice none 0 0, .int .i64 6]) ∧ Below w.heap.size w w')
set_option maxRecDepth 100000 in
set_option maxHeartbeats 2000000 in
theorem manswerG (bb nc n B : Nat) (Lx M : Mv) (w : World) (hs : SumM w bb nc n B Lx) (hn : n ≤ 6) (hnc : nc ≤ 1000000) (hB : B ≤ 1000000) (hM : PlainM n M) (hb : BdM 1000 M) (hLM : ∀ p, p.length = n → coM Lx (padP n p) = coM M p) :
    Calls Tryz.prog 30 #[.map (some bb), .int .i64 (n : Int)] w (GivesA w n M) := by
  by_cases hl : M.length ≤ 4096
  · exact (manswer bb nc n B Lx M w hs hn hnc hB hM.len hb hl hLM).mono fun e w' h => ⟨fun _ => h, fun h2 => absurd hl h2⟩
  · have Ct := Lib.hid (mterms bb nc n B Lx M w hs hn hnc hB hM.len (hb.mono (by omega)) hLM)
    have HM := Lib.hid hM
    clear hs hM hLM hb
    go_enter Tryz.func30, Tryz.ntmps30
    go_wp2_with fail
    refine Ct.out.mono ?_
    rintro e w1 ⟨A, c, L, rfl, h1, h2, h3, h4, h5, h6⟩
    have hbad : chkN (n : Int) L = 1 := by
      rcases chk_cases (n : Int) L with ⟨_, h⟩ | h
      · exfalso
        have e1 := h4.mv.unique HM.out h5
        have h7 : L.length = M.length := by rw [← e1, mvT_length]
        have h8 := h.2.2.1
        omega
      · exact h
    have Cc := Lib.hid (mcheck (n : Int) A L.length c L w1 h3)
    rw [hbad] at Cc
    have H6 := Lib.hid h6
    clear h3 h4 h5 h6
    go_wp2_with fail
    refine Cc.out.mono ?_
    rintro e w2 ⟨rfl, hb2⟩
    have Hb2 := Lib.hid hb2
    clear hb2
    go_wp2_with fail
    go_ret2
    exact ⟨fun h => absurd h hl, fun _ => ⟨rfl, H6.out.trans (Hb2.out.mono H6.out.size)⟩⟩
def GivesV (w : World) (n : Nat) (o : Option Mv) (e : Ending) (w' : World) : Prop :=
  match o with
  | some Q => GivesA w n Q e w'
  | none => e = .returned (.tuple #[.slice none 0 0, .int .i64 4]) ∧ Below w.heap.size w w'
theorem GivesA.from_ {w0 w : World} {n : Nat} {M : Mv} {e : Ending} {w' : World} (h : GivesA w n M e w') (hb : Below w0.heap.size w0 w) : GivesA w0 n M e w' :=
  ⟨fun hl => (h.1 hl).from_ hb, fun hl => ⟨(h.2 hl).1, hb.trans ((h.2 hl).2.mono hb.size)⟩⟩
structure DivG (w wr : World) (n Kc br bq ga ncr ncq : Nat) (Lr Lq : Mv) (P : Plc) (s : Bool) (A : Option Addr) (k c : Nat) (ls : List Int) (f : Bool) : Prop where
  bel : Below w.heap.size w wr
  r : SumM wr br ncr n Kc Lr
  q : SumM wr bq ncq n Kc Lq
  box : LowR wr ga P s A k c ls
  kc : k ≤ c
  cm : c ≤ 9223372036854775807
  kb : k ≤ Kc
  val : intZ s ls = coM Lr P
  plen : P.length = 6
  some_ : f = true → GoodP n P ∧ coM Lr P ≠ 0 ∧ (∃ t ∈ Lr, t.1 = P) ∧ ∀ q, GoodP n q → coM Lr q ≠ 0 → ¬ ltP P q
  none_ : f = false → ∀ q, GoodP n q → coM Lr q = 0
end Go.Proofs.YtjmbejodcloapaaGreat
namespace Cl
open Go.Proofs.YtjmbejodcloapaaGreat
structure DvB (n : Nat) (Lr R : Mv) : Prop where
  len : LenM n R
  eq : EqM 6 Lr (liftM n R)
section
variable {n : Nat} {Lr R T : Mv} {P s : Plc} {z : Int}
theorem DvB.co (h : DvB n Lr R) (hn : n ≤ 6) {p : Plc} (hp : p.length = n) : coM Lr (padP n p) = coM R p := by
  rw [h.eq _ (padP_length hn hp), coM_lift h.len hp]
theorem DvB.lead (h : DvB n Lr R) (hn : n ≤ 6) (hb : ∀ q, q.length = n → coM R q ≠ 0 → ∀ x ∈ q, 0 ≤ x ∧ x ≤ 4611686018427387904) (hP : GoodP n P) (h0 : coM Lr P ≠ 0) (hg : ∀ q, GoodP n q → coM Lr q ≠ 0 → ¬ ltP P q) : LeadM n R (P.take n) ∧ P = padP n (P.take n) ∧ coM Lr P = coM R (P.take n) := by
  have hpp := hP.pad hn
  have hpl := hP.take_length hn
  have e : coM Lr P = coM R (P.take n) := (congrArg (coM Lr) hpp).trans (h.co hn hpl)
  refine ⟨⟨hpl, by rw [← e]; exact h0, fun q hq hq0 hlt => ?_⟩, hpp, e⟩
  refine hg (padP n q) (padP_good hn hq (hb q hq hq0)) (by rw [h.co hn hq]; exact hq0) ?_
  rw [hpp]
  exact ltP_append _ hlt
theorem DvB.zero (h : DvB n Lr R) (hn : n ≤ 6) (hb : ∀ q, q.length = n → coM R q ≠ 0 → ∀ x ∈ q, 0 ≤ x ∧ x ≤ 4611686018427387904) (hz : ∀ q, GoodP n q → coM Lr q = 0) : ∀ q, q.length = n → coM R q = 0 := fun q hq =>
  Decidable.byContradiction fun h0 => h0 (by rw [← h.co hn hq]; exact hz _ (padP_good hn hq (hb q hq h0)))
theorem lift_one (hT : LenM n T) (hs : s.length = n) (z : Int) : liftM n (mulM [(s, z)] T) = timesT n (padP n s) z T := by
  have h1 := lift_cons_mul (n := n) (t := (s, z)) (Q := []) (T := T) hs hT
  rw [h1]
  show _ ++ liftM n [] = _
  exact List.append_nil _
theorem DvB.step (h : DvB n Lr R) (hT : LenM n T) (hs : s.length = n) (z : Int) : DvB n (Lr ++ timesT n (padP n s) z T) (R ++ mulM [(s, z)] T) :=
  ⟨h.len.append (LenM.mul (fun t ht => by rw [List.mem_singleton.1 ht]; exact hs) hT), fun q hq => by
    rw [liftM_append, coM_append, coM_append, lift_one hT hs, h.eq q hq]⟩
theorem DvB.cap (h : DvB n Lr R) (hn : n ≤ 6) {F K : Nat} (hF : ∀ q, q.length = n → (coM R q).natAbs ≤ F) (hz : z.natAbs ≤ F) (hK : F * (1 + absM T) < 2 ^ (64 * K)) (p : Plc) (j : Nat) {q : Plc} (hq : GoodP n q) : (coM (Lr ++ timesT n p z (T.take j)) q).natAbs < 2 ^ (64 * K) := by
  have h1 : (coM Lr q).natAbs ≤ F := by
    rw [hq.pad hn, h.co hn (hq.take_length hn)]
    exact hF _ (hq.take_length hn)
  have h2 : (coM (timesT n p z (T.take j)) q).natAbs ≤ F * absM T := by
    refine Nat.le_trans (coM_abs _ q) ?_
    rw [timesT_abs]
    exact Nat.mul_le_mul hz (absM_takeM T j)
  have h3 := Int.natAbs_add_le (coM Lr q) (coM (timesT n p z (T.take j)) q)
  rw [coM_append]
  rw [Nat.mul_add, Nat.mul_one] at hK
  omega
end
end Cl
