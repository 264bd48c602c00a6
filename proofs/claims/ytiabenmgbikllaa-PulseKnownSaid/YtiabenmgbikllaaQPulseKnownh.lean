/- Contracts of the program's functions and plain laws for the law PulseKnown, several texts in one (part 8); the program's functions as Lean functions came out of the kit's print. Conditions: each theorem's own. -/
import Derived.Test.YtiabenmgbikllaaQPulseKnowng
-- R0
namespace Go.Proofs.Ytiabenmgbikllaa.M
set_option linter.unusedVariables false
open Go.RowKit Go.Proofs.YtiabenmgbikllaaW.PrintWords Go.Proofs.YtiabenmgbikllaaW.PrintLast Go.Proofs.YtiabenmgbikllaaW.PrintMore Go.Proofs.Ytiabenmgbikllaa.PAll

theorem p256 : ∀ n : Nat, (0 : Int) < 256 ^ n
  | 0 => by decide
  | n + 1 => by rw [Int.pow_succ]; have := p256 n; omega
theorem p2 (n : Nat) : (0 : Int) < 2 ^ n := by exact_mod_cast Nat.two_pow_pos n
/-- The number that bytes are, the first the highest. -/
def num : List Int → Int
  | [] => 0
  | x :: l => x * 256 ^ l.length + num l
theorem num_append (a b : List Int) : num (a ++ b) = num a * 256 ^ b.length + num b := by
  induction a with
  | nil => simp [num]
  | cons x a ih => simp only [List.cons_append, num, ih, List.length_append, Int.pow_add, Int.add_mul, Int.mul_assoc, Int.add_assoc]
theorem num_range (l : List Int) (h : Bytes l) : 0 ≤ num l ∧ num l < 256 ^ l.length := by
  induction l with
  | nil => simp [num]
  | cons x l ih =>
    obtain ⟨i0, i1⟩ := ih (fun y hy => h y (List.mem_cons_of_mem _ hy))
    have hx := h x List.mem_cons_self
    have hp := p256 l.length
    have h1 : x * 256 ^ l.length ≤ 255 * 256 ^ l.length := Int.mul_le_mul_of_nonneg_right (by omega) (by omega)
    have h2 : 0 ≤ x * 256 ^ l.length := Int.mul_nonneg hx.1 (by omega)
    simp only [num, List.length_cons, Int.pow_succ]
    omega
theorem num_set (l : List Int) : ∀ (i : Nat) (y : Int), i < l.length → num (l.set i y) = num l + (y - rd l i) * 256 ^ (l.length - 1 - i) := by
  induction l with
  | nil => intro i y h; simp at h
  | cons x l ih =>
    intro i y h
    cases i with
    | zero =>
      have e : rd (x :: l) ((0 : Nat) : Int) = x := by simp [rd]
      rw [e]
      simp only [List.set_cons_zero, num, List.length_cons, Int.sub_mul]
      rw [show l.length + 1 - 1 - 0 = l.length by omega]
      omega
    | succ i =>
      have := ih i y (by simpa using h)
      have e : rd (x :: l) ((i + 1 : Nat) : Int) = rd l (i : Int) := by simp [rd]
      rw [e]
      simp only [List.set_cons_succ, num, List.length_set, List.length_cons]
      rw [this, show l.length + 1 - 1 - (i + 1) = l.length - 1 - i by omega]
      omega
theorem rd_eq (l : List Int) (i : Nat) : l.getD i 0 = rd l i := by simp [rd]
theorem incN_num (k : Nat) : ∀ (l : List Int) (c : Int), 0 ≤ c → Bytes l → k ≤ l.length → Bytes (incN l c k) ∧ ∃ j : Int, num (incN l c k) = num l + c * 256 ^ (l.length - k) - j * 256 ^ l.length := by
  induction k with
  | zero => intro l c hc hb hk; exact ⟨hb, c, by rw [Nat.sub_zero]; show num l = _; omega⟩
  | succ k ih =>
    intro l c hc hb hk
    by_cases h : 0 < c
    · have hx := hb.at_ (k : Int) (by omega) (by omega)
      rw [incN_go l c k h]
      obtain ⟨b1, j, hj⟩ := ih (l.set k ((c + rd l k) % 256)) ((c + rd l k) / 256) (by omega) (hb.set k _ (by omega)) (by rw [List.length_set]; omega)
      refine ⟨b1, j, ?_⟩
      rw [hj, num_set l k _ (by omega), List.length_set, show l.length - k = (l.length - (k + 1)) + 1 by omega, show l.length - 1 - k = l.length - (k + 1) by omega, Int.pow_succ]
      generalize (256 : Int) ^ (l.length - (k + 1)) = P
      generalize (256 : Int) ^ l.length = Q
      have e1 : (c + rd l k) / 256 * (P * 256) = ((c + rd l k) / 256 * 256) * P := by rw [Int.mul_comm P 256, Int.mul_assoc]
      have e2 : ((c + rd l k) % 256 - rd l k) * P + ((c + rd l k) / 256 * 256) * P = c * P := by
        rw [← Int.add_mul]; congr 1; omega
      omega
    · rw [incN_stop l c _ h]
      exact ⟨hb, 0, by rw [show c = 0 by omega]; simp⟩
theorem incN_fit (k : Nat) (l : List Int) (c : Int) (hc : 0 ≤ c) (hb : Bytes l) (hk : k ≤ l.length) (hf : num l + c * 256 ^ (l.length - k) < 256 ^ l.length) : Bytes (incN l c k) ∧ num (incN l c k) = num l + c * 256 ^ (l.length - k) := by
  obtain ⟨b1, j, hj⟩ := incN_num k l c hc hb hk
  obtain ⟨n0, n1⟩ := num_range _ b1
  obtain ⟨m0, m1⟩ := num_range l hb
  rw [incN_length] at n1
  have hP := p256 l.length
  have hM : 0 ≤ c * 256 ^ (l.length - k) := Int.mul_nonneg hc (by have := p256 (l.length - k); omega)
  refine ⟨b1, ?_⟩
  have hj0 : j = 0 := by
    have h1 : ¬ 1 ≤ j := fun h => by
      have : 1 * 256 ^ l.length ≤ j * 256 ^ l.length := Int.mul_le_mul_of_nonneg_right h (by omega)
      omega
    have h2 : ¬ j ≤ -1 := fun h => by
      have : j * 256 ^ l.length ≤ (-1) * 256 ^ l.length := Int.mul_le_mul_of_nonneg_right h (by omega)
      omega
    omega
  rw [hj, hj0]; simp
theorem carryN_inc (k : Nat) : ∀ (l : List Int), Bytes l → k ≤ l.length → carryN l k = incN l 1 k := by
  induction k with
  | zero => intro l _ _; rfl
  | succ k ih =>
    intro l hb hk
    have hx := hb.at_ (k : Int) (by omega) (by omega)
    rw [incN_go l 1 k (by omega)]
    by_cases h : (rd l k + 1) % 256 = 0
    · rw [carry_next l k h, show (1 + rd l k) % 256 = 0 by omega, show (1 + rd l k) / 256 = 1 by omega]
      exact ih _ (hb.set k 0 (by omega)) (by rw [List.length_set]; omega)
    · rw [carry_stop l k h, show (1 + rd l k) / 256 = 0 by omega, incN_stop _ 0 _ (by omega), Int.add_comm]
theorem carry_num (l : List Int) (hb : Bytes l) (hf : num l + 1 < 256 ^ l.length) : Bytes (carryN l l.length) ∧ num (carryN l l.length) = num l + 1 := by
  rw [carryN_inc _ l hb (Nat.le_refl _)]
  have := incN_fit l.length l 1 (by omega) hb (Nat.le_refl _) (by simpa using hf)
  simpa using this
theorem cmpL_num : ∀ (a b : List Int), Bytes a → Bytes b → a.length = b.length → (cmpL a b < 0 ↔ num a < num b)
  | [], [], _, _, _ => by simp [cmpL, num]
  | [], _ :: _, _, _, h => by simp at h
  | _ :: _, [], _, _, h => by simp at h
  | x :: a, y :: b, ha, hb, hl => by
    have hl' : a.length = b.length := by simpa using hl
    have ha' : Bytes a := fun z hz => ha z (List.mem_cons_of_mem _ hz)
    have hb' : Bytes b := fun z hz => hb z (List.mem_cons_of_mem _ hz)
    have ih := cmpL_num a b ha' hb' hl'
    obtain ⟨a0, a1⟩ := num_range a ha'
    obtain ⟨b0, b1⟩ := num_range b hb'
    simp only [cmpL, num]
    rw [hl'] at a1 ⊢
    have hP := p256 b.length
    generalize (256 : Int) ^ b.length = P at *
    by_cases h1 : x < y
    · rw [if_pos h1]
      have : (x + 1) * P ≤ y * P := Int.mul_le_mul_of_nonneg_right (by omega) (by omega)
      rw [Int.add_mul] at this
      constructor
      · intro _; omega
      · intro _; decide
    · rw [if_neg h1]
      by_cases h2 : x > y
      · rw [if_pos h2]
        have : (y + 1) * P ≤ x * P := Int.mul_le_mul_of_nonneg_right (by omega) (by omega)
        rw [Int.add_mul] at this
        constructor
        · intro h; exact absurd h (by decide)
        · intro h; omega
      · rw [if_neg h2, ih, show x = y by omega]
        omega
theorem increase_fit (l : List Int) (p : Nat) (hb : Bytes l) (hp : p / 8 ≤ l.length) (hf : num l + 2 ^ p < 256 ^ l.length) : Bytes (increase l p) ∧ num (increase l p) = num l + 2 ^ p := by
  have e : (2 : Int) ^ (p % 8) * 256 ^ (l.length - (l.length - p / 8)) = 2 ^ p := by
    rw [show l.length - (l.length - p / 8) = p / 8 by omega, show (256 : Int) = 2 ^ 8 by decide, ← Int.pow_mul, ← Int.pow_add]
    congr 1; omega
  have := incN_fit (l.length - p / 8) l (2 ^ (p % 8)) (by have := p2 (p % 8); omega) hb (by omega) (by rw [e]; exact hf)
  rw [e] at this
  exact this
theorem increase_length (l : List Int) (p : Nat) : (increase l p).length = l.length := incN_length _ _ _
/-- A byte of a number. -/
theorem num_byte (l : List Int) (hb : Bytes l) : ∀ q : Nat, q < l.length → rd l ((l.length - 1 - q : Nat) : Int) = num l / 256 ^ q % 256 := by
  induction l with
  | nil => intro q h; simp at h
  | cons x l ih =>
    intro q hq
    have hb' : Bytes l := fun z hz => hb z (List.mem_cons_of_mem _ hz)
    obtain ⟨n0, n1⟩ := num_range l hb'
    have hx := hb x List.mem_cons_self
    simp only [List.length_cons] at hq ⊢
    simp only [num]
    by_cases h : q = l.length
    · subst h
      rw [show l.length + 1 - 1 - l.length = 0 by omega]
      have e : rd (x :: l) ((0 : Nat) : Int) = x := by simp [rd]
      rw [e, Int.add_comm, Int.add_mul_ediv_right _ _ (by have := p256 l.length; omega), Int.ediv_eq_zero_of_lt n0 n1]
      omega
    · rw [show l.length + 1 - 1 - q = (l.length - 1 - q) + 1 by omega]
      have e : rd (x :: l) (((l.length - 1 - q) + 1 : Nat) : Int) = rd l ((l.length - 1 - q : Nat) : Int) := by simp [rd]
      rw [e, ih hb' q (by omega)]
      have e2 : (256 : Int) ^ l.length = 256 ^ (l.length - q - 1) * 256 * 256 ^ q := by
        rw [← Int.pow_succ, ← Int.pow_add]; congr 1; omega
      rw [e2, ← Int.mul_assoc, Int.add_comm, Int.add_mul_ediv_right _ _ (by have := p256 q; omega), ← Int.mul_assoc, Int.add_mul_emod_self_right]
/-- The first p bytes, noughts behind them. -/
def pre (b : List Int) : Nat → Int
  | 0 => 0
  | p + 1 => 256 * pre b p + b.getD p 0
theorem pre_take (b : List Int) : ∀ p, p ≤ b.length → pre b p = num (b.take p)
  | 0, _ => by simp [pre, num]
  | p + 1, h => by
    rw [List.take_succ_eq_append_getElem (by omega), num_append]
    simp only [pre, num, List.length_cons, List.length_nil, pre_take b p (by omega)]
    have : b.getD p 0 = b[p] := by simp [show p < b.length by omega]
    rw [this]; simp; omega
theorem pre_far (b : List Int) : ∀ k, pre b (b.length + k) = num b * 256 ^ k
  | 0 => by rw [Nat.add_zero, pre_take b _ (Nat.le_refl _)]; simp
  | k + 1 => by
    show 256 * pre b (b.length + k) + b.getD (b.length + k) 0 = _
    rw [pre_far b k, Int.pow_succ]
    have : b.getD (b.length + k) 0 = 0 := by simp [List.getD]
    rw [this, Int.add_zero, Int.mul_left_comm, Int.mul_comm 256 (256 ^ k)]
theorem getD_range (b : List Int) (hb : Bytes b) (p : Nat) : 0 ≤ b.getD p 0 ∧ b.getD p 0 < 256 := by
  by_cases h : p < b.length
  · have : b.getD p 0 = b[p] := by simp [h]
    rw [this]; exact hb _ (List.getElem_mem _)
  · have : b.getD p 0 = 0 := by simp [List.getD, show b.length ≤ p by omega]
    rw [this]; omega
theorem pre_div (b : List Int) (hb : Bytes b) (p : Nat) : ∀ k, pre b (p + k) / 256 ^ k = pre b p
  | 0 => by simp
  | k + 1 => by
    show (256 * pre b (p + k) + b.getD (p + k) 0) / _ = _
    have hr := getD_range b hb (p + k)
    rw [Int.pow_succ, Int.mul_comm (256 ^ k) 256, ← Int.ediv_ediv_of_nonneg (by omega)]
    rw [show (256 * pre b (p + k) + b.getD (p + k) 0) / 256 = pre b (p + k) by omega]
    exact pre_div b hb p k
theorem pre_num (b : List Int) (hb : Bytes b) (p : Nat) (h : p ≤ b.length) : pre b p = num b / 256 ^ (b.length - p) := by
  rw [← pre_div b hb p (b.length - p), show p + (b.length - p) = b.length + 0 by omega, pre_far]
  simp
end Go.Proofs.Ytiabenmgbikllaa.M

-- R1
namespace Go.Proofs.Ytiabenmgbikllaa.M
set_option linter.unusedVariables false
open Go.RowKit Go.Proofs.YtiabenmgbikllaaW.PrintWords Go.Proofs.YtiabenmgbikllaaW.PrintLast Go.Proofs.YtiabenmgbikllaaW.PrintMore Go.Proofs.Ytiabenmgbikllaa.PAll

/-- The interval's lower end. -/
def E.low (e : E) : Int := num e.told * 2147483648 + e.val
structure EW (e : E) : Prop where
  tb : Bytes e.told
  top : e.low + e.rng ≤ 2147483648 * 256 ^ e.told.length
/-- The code that bytes are, as far as the writer told. -/
def X (b : List Int) (e : E) : Int := pre b (e.told.length + 4) / 2
def In (b : List Int) (e : E) : Prop := e.low ≤ X b e ∧ X b e < e.low + e.rng
/-- One round of the writer. -/
def E.step (e : E) : E := { e with told := e.told ++ [e.val / 8388608 % 256], val := e.val * 256 % 2147483648, rng := e.rng * 256, count := e.count + 8 }
theorem E.step_low (e : E) (v0 : 0 ≤ e.val) (v1 : e.val < 2147483648) : e.step.low = e.low * 256 := by
  show num (e.told ++ [e.val / 8388608 % 256]) * 2147483648 + e.val * 256 % 2147483648 = (num e.told * 2147483648 + e.val) * 256
  rw [num_append]
  simp only [num, List.length_cons, List.length_nil]
  omega
theorem E.step_len (e : E) : e.step.told.length = e.told.length + 1 := by simp [E.step]
theorem E.step_ew (e : E) (v0 : 0 ≤ e.val) (v1 : e.val < 2147483648) (h : EW e) : EW e.step := by
  refine ⟨h.tb.app (fun x hx => by simp at hx; omega), ?_⟩
  rw [E.step_low e v0 v1, E.step_len, Int.pow_succ, ← Int.mul_assoc]
  show e.low * 256 + e.rng * 256 ≤ _
  rw [← Int.add_mul]
  exact Int.mul_le_mul_of_nonneg_right h.top (by omega)
theorem X_step (b : List Int) (hb : Bytes b) (e : E) : X b e.step / 256 = X b e := by
  unfold X
  rw [E.step_len]
  show (256 * pre b (e.told.length + 4) + b.getD (e.told.length + 4) 0) / 2 / 256 = _
  have := getD_range b hb (e.told.length + 4)
  omega
theorem in_step (b : List Int) (hb : Bytes b) (e : E) (v0 : 0 ≤ e.val) (v1 : e.val < 2147483648) : In b e.step ↔ In b e := by
  have hx := X_step b hb e
  unfold In
  rw [E.step_low e v0 v1]
  have er : e.step.rng = e.rng * 256 := rfl
  rw [er]
  constructor <;> intro h <;> omega
/-- How many rounds there are. -/
def steps : Nat → Int → Nat
  | 0, _ => 0
  | k + 1, r => if r ≤ 8388608 then steps k (r * 256) + 1 else 0
theorem normL_step (k : Nat) (e : E) : normL (k + 1) e = if e.rng ≤ 8388608 then normL k e.step else e := rfl
/-- All that is kept while the writer goes on. -/
structure Went (e e' : E) (s : Nat) : Prop where
  low : e'.low = e.low * 256 ^ s
  rng : e'.rng = e.rng * 256 ^ s
  len : e'.told.length = e.told.length + s
  ew : EW e → EW e'
  v0 : 0 ≤ e'.val
  v1 : e'.val < 2147483648
  cnt : e'.count = e.count + 8 * s
  raw : e'.raw = e.raw
  rb : e'.rawBits = e.rawBits
  inn : ∀ b, Bytes b → (In b e' ↔ In b e)
theorem normL_went : ∀ (k : Nat) (e : E), 0 ≤ e.val → e.val < 2147483648 → Went e (normL k e) (steps k e.rng)
  | 0, e, v0, v1 => ⟨by simp [normL, steps], by simp [normL, steps], by simp [normL, steps], fun h => h, v0, v1, by simp [normL, steps], rfl, rfl, fun b hb => Iff.rfl⟩
  | k + 1, e, v0, v1 => by
    rw [normL_step]
    unfold steps
    by_cases h : e.rng ≤ 8388608
    · rw [if_pos h, if_pos h]
      have hv : 0 ≤ e.step.val ∧ e.step.val < 2147483648 := by
        show 0 ≤ e.val * 256 % 2147483648 ∧ e.val * 256 % 2147483648 < 2147483648
        omega
      obtain ⟨a1, a2, a3, a4, a5, a6, a7, a8, a9, a10⟩ := normL_went k e.step hv.1 hv.2
      have er : e.step.rng = e.rng * 256 := rfl
      have ec : e.step.count = e.count + 8 := rfl
      rw [er] at a1 a2 a3 a7
      refine ⟨?_, ?_, ?_, fun hw => a4 (E.step_ew e v0 v1 hw), a5, a6, by rw [a7, ec]; omega, a8, a9, fun b hb => (a10 b hb).trans (in_step b hb e v0 v1)⟩
      · rw [a1, E.step_low e v0 v1, Int.mul_assoc, ← Int.pow_succ']
      · rw [a2, Int.mul_assoc, ← Int.pow_succ']
      · rw [a3, E.step_len]; omega
    · rw [if_neg h, if_neg h]
      exact ⟨by simp, by simp, by simp, fun h => h, v0, v1, by simp, rfl, rfl, fun b hb => Iff.rfl⟩
theorem steps_le : ∀ (k : Nat) (r : Int), steps k r ≤ k
  | 0, _ => Nat.le_refl _
  | k + 1, r => by
    unfold steps
    have := steps_le k (r * 256)
    split <;> omega
theorem steps_big : ∀ (k : Nat) (r : Int), r ≤ 2147483648 → 8388608 < r * 256 ^ k → 8388608 < r * 256 ^ steps k r ∧ r * 256 ^ steps k r ≤ 2147483648
  | 0, r, h, h1 => by simpa [steps] using ⟨by simpa using h1, h⟩
  | k + 1, r, h, h1 => by
    unfold steps
    by_cases hr : r ≤ 8388608
    · rw [if_pos hr]
      have := steps_big k (r * 256) (by omega) (by rw [Int.mul_assoc, ← Int.pow_succ']; exact h1)
      rw [Int.mul_assoc, ← Int.pow_succ'] at this
      exact this
    · rw [if_neg hr]
      simp; omega
/-- The carry. -/
theorem norm0_went (e : E) (hw : Bytes e.told) (ht : e.low + e.rng ≤ 2147483648 * 256 ^ e.told.length) (hr : 1 ≤ e.rng) (v0 : 0 ≤ e.val) (v1 : e.val < 4294967296) : Went e (norm0 e) 0 ∧ EW (norm0 e) := by
  unfold norm0
  by_cases h : e.val ≤ 2147483647
  · rw [if_pos h]
    exact ⟨⟨by simp, by simp, by simp, fun h => h, v0, by omega, by simp, rfl, rfl, fun b hb => Iff.rfl⟩, hw, ht⟩
  · rw [if_neg h]
    obtain ⟨t0, t1⟩ := num_range e.told hw
    have hl : e.low = num e.told * 2147483648 + e.val := rfl
    have hf : num e.told + 1 < 256 ^ e.told.length := by
      rw [hl] at ht
      omega
    obtain ⟨c1, c2⟩ := carry_num e.told hw hf
    have e1 : E.low { e with told := carryN e.told e.told.length, val := e.val % 2147483648 } = e.low := by
      show num (carryN e.told e.told.length) * 2147483648 + e.val % 2147483648 = _
      rw [c2, hl]
      omega
    have e2 : (carryN e.told e.told.length).length = e.told.length := carryN_length _ _
    have hW : EW { e with told := carryN e.told e.told.length, val := e.val % 2147483648 } := ⟨c1, by rw [e1]; show _ ≤ 2147483648 * 256 ^ (carryN e.told e.told.length).length; rw [e2]; exact ht⟩
    refine ⟨⟨by rw [e1]; simp, by simp, by simpa using e2, fun _ => hW, ?_, ?_, by simp, rfl, rfl, fun b hb => ?_⟩, hW⟩
    · show 0 ≤ e.val % 2147483648; omega
    · show e.val % 2147483648 < _; omega
    · unfold In X
      rw [e1]
      show (_ ≤ pre b ((carryN e.told e.told.length).length + 4) / 2 ∧ pre b ((carryN e.told e.told.length).length + 4) / 2 < _ + e.rng) ↔ _
      rw [e2]
theorem Went.trans {e e1 e2 : E} {s t : Nat} (h : Went e e1 s) (k : Went e1 e2 t) : Went e e2 (s + t) :=
  ⟨by rw [k.low, h.low, Int.pow_add, Int.mul_assoc], by rw [k.rng, h.rng, Int.pow_add, Int.mul_assoc], by rw [k.len, h.len]; omega, fun hw => k.ew (h.ew hw), k.v0, k.v1, by rw [k.cnt, h.cnt]; omega, by rw [k.raw, h.raw], by rw [k.rb, h.rb], fun b hb => (k.inn b hb).trans (h.inn b hb)⟩
/-- What a place that is taken makes of the interval. -/
theorem take0_low (e : E) (fl fh ft : Int) : (take0 e fl fh ft).low + (take0 e fl fh ft).rng = e.low + e.rng - e.rng / ft * (ft - fh) ∧ (take0 e fl fh ft).low = (if 0 < fl then e.low + (e.rng - e.rng / ft * (ft - fl)) else e.low) ∧ (take0 e fl fh ft).told = e.told ∧ (take0 e fl fh ft).count = e.count ∧ (take0 e fl fh ft).raw = e.raw ∧ (take0 e fl fh ft).rawBits = e.rawBits := by
  unfold take0
  by_cases h : 0 < fl
  · simp only [if_pos h]
    refine ⟨?_, ?_, by simp, by simp, by simp, by simp⟩
    · show num e.told * 2147483648 + (e.val + (e.rng - e.rng / ft * (ft - fl))) + e.rng / ft * (fh - fl) = num e.told * 2147483648 + e.val + e.rng - e.rng / ft * (ft - fh)
      have : e.rng / ft * (ft - fl) = e.rng / ft * (ft - fh) + e.rng / ft * (fh - fl) := by rw [← Int.mul_add]; congr 1; omega
      omega
    · show num e.told * 2147483648 + (e.val + (e.rng - e.rng / ft * (ft - fl))) = num e.told * 2147483648 + e.val + _
      omega
  · simp only [if_neg h]
    refine ⟨?_, rfl, by simp, by simp, by simp, by simp⟩
    show num e.told * 2147483648 + e.val + (e.rng - e.rng / ft * (ft - fh)) = num e.told * 2147483648 + e.val + e.rng - e.rng / ft * (ft - fh)
    omega
structure TakeFacts (e : E) (fl fh ft : Int) : Prop where
  went : Went (take0 e fl fh ft) (e.take fl fh ft) (steps 3 (take0 e fl fh ft).rng)
  ew : EW (e.take fl fh ft)
  r1 : 8388608 < (e.take fl fh ft).rng
  r2 : (e.take fl fh ft).rng ≤ 2147483648
theorem etake_facts (e : E) (h : EOk e) (hw : EW e) (fl fh ft : Int) (h0 : 0 ≤ fl) (h1 : fl < fh) (h2 : fh ≤ ft) (h3 : ft ≤ 32768) : TakeFacts e fl fh ft := by
  obtain ⟨p1, p2, p3, p4, p5, p6, p7, p8, p9⟩ := take_facts e.rng ft fl fh h.r1 h.r2 h0 h1 h2 h3
  obtain ⟨q1, q2, q3, q4, q5, q6⟩ := take0_low e fl fh ft
  obtain ⟨r1, r2, v0, v1, _, _, _⟩ := h
  have hr : 1 ≤ (take0 e fl fh ft).rng ∧ (take0 e fl fh ft).rng ≤ 2147483648 ∧ 0 ≤ (take0 e fl fh ft).val ∧ (take0 e fl fh ft).val < 4294967296 := by
    unfold take0
    split
    · refine ⟨p5, by show e.rng / ft * (fh - fl) ≤ _; omega, ?_, ?_⟩
      · show 0 ≤ e.val + (e.rng - e.rng / ft * (ft - fl)); omega
      · show e.val + (e.rng - e.rng / ft * (ft - fl)) < _; omega
    · refine ⟨by show 1 ≤ e.rng - e.rng / ft * (ft - fh); omega, by show e.rng - e.rng / ft * (ft - fh) ≤ _; omega, v0, by show e.val < _; omega⟩
  have ht : (take0 e fl fh ft).low + (take0 e fl fh ft).rng ≤ 2147483648 * 256 ^ (take0 e fl fh ft).told.length := by
    rw [q1, q3]; have := hw.top; omega
  obtain ⟨w1, w2⟩ := norm0_went (take0 e fl fh ft) (by rw [q3]; exact hw.tb) ht hr.1 hr.2.2.1 hr.2.2.2
  have w3 := normL_went 3 (norm0 (take0 e fl fh ft)) w1.v0 w1.v1
  have er : (norm0 (take0 e fl fh ft)).rng = (take0 e fl fh ft).rng := by have := w1.rng; simpa using this
  have w4 := w1.trans w3
  rw [er, Nat.zero_add] at w4
  have hb := steps_big 3 (take0 e fl fh ft).rng hr.2.1 (by have := hr.1; omega)
  refine ⟨w4, w3.ew w2, ?_, ?_⟩
  · have := w4.rng
    show 8388608 < (normL 3 (norm0 (take0 e fl fh ft))).rng
    rw [this]; exact hb.1
  · have := w4.rng
    show (normL 3 (norm0 (take0 e fl fh ft))).rng ≤ _
    rw [this]; exact hb.2
end Go.Proofs.Ytiabenmgbikllaa.M

-- R2
namespace Go.Proofs.Ytiabenmgbikllaa.M
set_option linter.unusedVariables false
open Go.RowKit Go.Proofs.YtiabenmgbikllaaW.PrintWords Go.Proofs.YtiabenmgbikllaaW.PrintLast Go.Proofs.YtiabenmgbikllaaW.PrintMore Go.Proofs.Ytiabenmgbikllaa.PAll

/-- The number that the bits for the end are. -/
def numR (l : List Int) : Int := num l.reverse
theorem numR_byte (l : List Int) (hb : Bytes l) (q : Nat) (h : q < l.length) : rd l (q : Int) = numR l / 256 ^ q % 256 := by
  have := num_byte l.reverse (fun x hx => hb x (List.mem_reverse.1 hx)) q (by simpa using h)
  rw [List.length_reverse] at this
  unfold numR
  rw [← this]
  simp [rd, List.getD, show l.length - 1 - (l.length - 1 - q) = q by omega, List.getElem?_reverse (show l.length - 1 - q < l.length by omega)]
theorem fin8 (j : Nat) (h : j < 8) : ∃ f : Fin 8, (f : Nat) = j := ⟨⟨j, h⟩, rfl⟩
theorem fin256 (x : Int) (h0 : 0 ≤ x) (h1 : x < 256) : ∃ f : Fin 256, ((f : Nat) : Int) = x := ⟨⟨x.toNat, by omega⟩, by simp; omega⟩
theorem byte_and : ∀ y : Fin 256, ∀ j : Fin 8, bits .and .u8 ((y : Nat) : Int) (2 ^ (j : Nat)) = ((y : Nat) : Int) / 2 ^ (j : Nat) % 2 * 2 ^ (j : Nat) := by decide +kernel
theorem byte_not : ∀ y : Fin 256, ∀ j : Fin 8, bits .andNot .u8 ((y : Nat) : Int) (2 ^ (j : Nat)) = ((y : Nat) : Int) - ((y : Nat) : Int) / 2 ^ (j : Nat) % 2 * 2 ^ (j : Nat) := by decide +kernel
theorem byte_or : ∀ y : Fin 256, ∀ j : Fin 8, ∀ c : Fin 2, bits .or .u8 (((y : Nat) : Int) - ((y : Nat) : Int) / 2 ^ (j : Nat) % 2 * 2 ^ (j : Nat)) (((c : Nat) : Int) * 2 ^ (j : Nat)) = ((y : Nat) : Int) - ((y : Nat) : Int) / 2 ^ (j : Nat) % 2 * 2 ^ (j : Nat) + ((c : Nat) : Int) * 2 ^ (j : Nat) := by decide +kernel
theorem lay_byte (x y : Int) (j : Nat) (x0 : 0 ≤ x) (x1 : x < 256) (y0 : 0 ≤ y) (y1 : y < 256) (hj : j < 8) :
    bits .or .u8 (bits .andNot .u8 x (2 ^ j)) (bits .and .u8 y (2 ^ j)) = x + (y / 2 ^ j % 2 - x / 2 ^ j % 2) * 2 ^ j := by
  obtain ⟨fx, rfl⟩ := fin256 x x0 x1
  obtain ⟨fy, rfl⟩ := fin256 y y0 y1
  obtain ⟨fj, rfl⟩ := fin8 j hj
  rw [byte_and fy fj, byte_not fx fj]
  obtain ⟨c, hc⟩ : ∃ c : Fin 2, ((c : Nat) : Int) = ((fy : Nat) : Int) / 2 ^ (fj : Nat) % 2 := ⟨⟨(((fy : Nat) : Int) / 2 ^ (fj : Nat) % 2).toNat, by omega⟩, by simp; omega⟩
  rw [← hc, byte_or fx fj c, Int.sub_mul]
  omega
theorem bit_of (N : Int) (q j : Nat) (hj : j < 8) : N / 256 ^ q % 256 / 2 ^ j % 2 = N / 2 ^ (8 * q + j) % 2 := by
  have e : (2 : Int) ^ (8 * q + j) = 256 ^ q * 2 ^ j := by rw [Int.pow_add, Int.pow_mul]; congr 1
  rw [e, ← Int.ediv_ediv_of_nonneg (by have := p256 q; omega)]
  generalize N / 256 ^ q = M
  have : j = 0 ∨ j = 1 ∨ j = 2 ∨ j = 3 ∨ j = 4 ∨ j = 5 ∨ j = 6 ∨ j = 7 := by omega
  rcases this with rfl | rfl | rfl | rfl | rfl | rfl | rfl | rfl <;> omega
theorem layBit_num (raw : List Int) (n : Nat) (out : List Int) (i : Nat) (hb : Bytes out) (hl : out.length = n) (hr : Bytes raw) (hi : i < 8 * n) (hri : i < 8 * raw.length) :
    num (layBit raw n out i) = num out + (numR raw / 2 ^ i % 2 - num out / 2 ^ i % 2) * 2 ^ i := by
  have hx := hb.at_ ((n - 1 - i / 8 : Nat) : Int) (by omega) (by omega)
  have hy := hr.at_ ((i / 8 : Nat) : Int) (by omega) (by omega)
  unfold layBit
  rw [num_set _ _ _ (by omega), lay_byte _ _ _ hx.1 hx.2 hy.1 hy.2 (by omega)]
  have e1 := num_byte out hb (i / 8) (by omega)
  rw [hl] at e1
  rw [numR_byte raw hr (i / 8) (by omega), e1, bit_of _ _ _ (by omega), bit_of _ _ _ (by omega), show 8 * (i / 8) + i % 8 = i by omega, hl, show n - 1 - (n - 1 - i / 8) = i / 8 by omega]
  have e2 : (2 : Int) ^ i = 2 ^ (i % 8) * 256 ^ (i / 8) := by
    rw [show (256 : Int) = 2 ^ 8 by decide, ← Int.pow_mul, ← Int.pow_add]; congr 1; omega
  rw [show ∀ a c : Int, a + c - a = c from fun a c => by omega, Int.mul_assoc, ← e2]
theorem emod_succ (x : Int) (i : Nat) : x % 2 ^ (i + 1) = x % 2 ^ i + x / 2 ^ i % 2 * 2 ^ i := by
  have hp := p2 i
  rw [Int.pow_succ]
  generalize (2 : Int) ^ i = m at *
  have h0 := Int.emod_nonneg x (show m ≠ 0 by omega)
  have h1 := Int.emod_lt_of_pos x hp
  have h2 : x = m * (x / m) + x % m := (Int.mul_ediv_add_emod x m).symm
  have h3 : x / m = 2 * (x / m / 2) + x / m % 2 := (Int.mul_ediv_add_emod _ 2).symm
  have hc : x / m % 2 = 0 ∨ x / m % 2 = 1 := by omega
  have h4 : x = (x % m + x / m % 2 * m) + (m * 2) * (x / m / 2) := by
    have e1 : m * (x / m) = m * 2 * (x / m / 2) + x / m % 2 * m := by
      rw [Int.mul_assoc, Int.mul_comm (x / m % 2) m, ← Int.mul_add, ← h3]
    omega
  have h5 : x % (m * 2) = (x % m + x / m % 2 * m) % (m * 2) := by
    conv => lhs; rw [h4]
    exact Int.add_mul_emod_self_left _ _ _
  rw [h5]
  refine Int.emod_eq_of_lt ?_ ?_
  · rcases hc with hc | hc <;> rw [hc] <;> omega
  · rcases hc with hc | hc <;> rw [hc] <;> omega
theorem layBits_length (raw : List Int) (n : Nat) (out : List Int) : ∀ i, (layBits raw n out i).length = out.length
  | 0 => rfl
  | i + 1 => by show (List.set _ _ _).length = _; rw [List.length_set]; exact layBits_length raw n out i
theorem layBits_num (raw : List Int) (n : Nat) (out : List Int) (hb : Bytes out) (hl : out.length = n) (hr : Bytes raw) : ∀ i : Nat, i ≤ 8 * n → i ≤ 8 * raw.length → num (layBits raw n out i) = num out - num out % 2 ^ i + numR raw % 2 ^ i
  | 0, _, _ => by
    show num out = _
    simp [Int.emod_one]
  | i + 1, h1, h2 => by
    show num (layBit raw n (layBits raw n out i) i) = _
    have hp := p2 i
    rw [layBit_num raw n _ i (layBits_bytes _ _ _ hb i) (by rw [layBits_length]; exact hl) hr (by omega) (by omega), layBits_num raw n out hb hl hr i (by omega) (by omega), emod_succ, emod_succ]
    have e : (num out - num out % 2 ^ i + numR raw % 2 ^ i) / 2 ^ i = num out / 2 ^ i := by
      have h3 : num out - num out % 2 ^ i = num out / 2 ^ i * 2 ^ i := by have := Int.mul_ediv_add_emod (num out) (2 ^ i); rw [Int.mul_comm]; omega
      rw [h3, Int.add_comm, Int.add_mul_ediv_right _ _ (by omega), Int.ediv_eq_zero_of_lt (Int.emod_nonneg _ (by omega)) (Int.emod_lt_of_pos _ hp)]
      omega
    rw [e, Int.sub_mul]
    omega
theorem all_num (e : E) (v0 : 0 ≤ e.val) (v1 : e.val ≤ 2147483647) : num e.all = 2 * e.low := by
  unfold E.all E.low
  rw [num_append]
  simp only [num, List.length_cons, List.length_nil]
  omega
theorem all_length (e : E) : e.all.length = e.told.length + 4 := by simp [E.all]
theorem num_zero (l : List Int) (hb : Bytes l) : anyNZ l = true ↔ num l ≠ 0 := by
  induction l with
  | nil => simp [anyNZ, num]
  | cons x l ih =>
    have hb' : Bytes l := fun z hz => hb z (List.mem_cons_of_mem _ hz)
    have hx := hb x List.mem_cons_self
    obtain ⟨n0, n1⟩ := num_range l hb'
    have hp := p256 l.length
    have ih' := ih hb'
    have e : anyNZ (x :: l) = ((x != 0) || anyNZ l) := rfl
    rw [e]
    simp only [num]
    by_cases h : x = 0
    · subst h
      simpa using ih'
    · have h1 : 1 * 256 ^ l.length ≤ x * 256 ^ l.length := Int.mul_le_mul_of_nonneg_right (by omega) (by omega)
      have h2 : (x != 0) = true := by simpa using h
      rw [h2]
      simp only [Bool.true_or, true_iff]
      omega
theorem rep_num : ∀ n, num (List.replicate n 0) = 0
  | 0 => rfl
  | n + 1 => by simp [List.replicate_succ, num, rep_num n]
/-- What is rounded up. -/
theorem out0_long (e : E) (n : Nat) (h : n ≤ e.all.length) : e.out0 n = e.all.take n := by
  unfold E.out0
  rw [List.drop_eq_nil_of_le (by simp; omega), List.append_nil]
theorem out0_short (e : E) (n : Nat) (h : e.all.length ≤ n) : e.out0 n = e.all ++ List.replicate (n - e.all.length) 0 := by
  unfold E.out0
  rw [List.take_of_length_le h]
  congr 1
  simp
structure Rounded (A : Int) (a n : Nat) (o : List Int) : Prop where
  by_ : Bytes o
  len : o.length = n
  ge : A * 256 ^ (n - a) ≤ num o * 256 ^ (a - n)
  lt : num o * 256 ^ (a - n) < A * 256 ^ (n - a) + 256 ^ (a - n)
theorem out1_rounded (e : E) (hr : EOkR e) (hw : EW e) (v0 : 0 ≤ e.val) (v1 : e.val ≤ 2147483647) (n : Nat) (hfit : (256 : Int) ^ (e.all.length - n) ≤ 2 * e.rng) : Rounded (2 * e.low) e.all.length n (e.out1 n) := by
  have hA := all_num e v0 v1
  have hab := e.all_bytes hr
  by_cases h : n < e.all.length
  · have hsplit : e.all = e.all.take n ++ e.all.drop n := (List.take_append_drop n _).symm
    have hdl : (e.all.drop n).length = e.all.length - n := by simp
    have htl : (e.all.take n).length = n := by simp; omega
    have hnum : num e.all = num (e.all.take n) * 256 ^ (e.all.length - n) + num (e.all.drop n) := by
      conv => lhs; rw [hsplit]
      rw [num_append, hdl]
    obtain ⟨d0, d1⟩ := num_range _ (hab.drop n)
    rw [hdl] at d1
    have hz := num_zero _ (hab.drop n)
    have e0 : n - e.all.length = 0 := by omega
    unfold E.out1
    rw [out0_long e n (by omega)]
    by_cases hc : n < e.all.length ∧ anyNZ (e.all.drop n) = true
    · rw [if_pos hc]
      have hd := hz.1 hc.2
      have htop := hw.top
      have hlen := all_length e
      have e4 : (2147483648 : Int) * 2 * 256 ^ e.told.length = 256 ^ n * 256 ^ (e.all.length - n) := by
        rw [← Int.pow_add, show n + (e.all.length - n) = e.told.length + 4 by omega, Int.pow_add]
        omega
      have hfit2 : (num (e.all.take n) + 1) * 256 ^ (e.all.length - n) < 256 ^ n * 256 ^ (e.all.length - n) := by
        rw [Int.add_mul, ← e4]
        omega
      have hfit3 : num (e.all.take n) + 2 ^ 0 < 256 ^ (e.all.take n).length := by
        rw [htl]
        exact Int.lt_of_mul_lt_mul_right hfit2 (by have := p256 (e.all.length - n); omega)
      obtain ⟨b1, b2⟩ := increase_fit (e.all.take n) 0 (hab.take n) (by omega) hfit3
      refine ⟨b1, by rw [increase_length]; exact htl, ?_, ?_⟩
      · rw [b2, e0, ← hA, hnum, Int.add_mul (num (e.all.take n)) (2 ^ 0)]; simp only [Int.pow_zero, Int.mul_one, Int.one_mul]; omega
      · rw [b2, e0, ← hA, hnum, Int.add_mul (num (e.all.take n)) (2 ^ 0)]; simp only [Int.pow_zero, Int.mul_one, Int.one_mul]; omega
    · rw [if_neg hc]
      have hd : num (e.all.drop n) = 0 := by
        by_cases hd : num (e.all.drop n) = 0
        · exact hd
        · exact absurd ⟨h, hz.2 hd⟩ hc
      refine ⟨hab.take n, htl, ?_, ?_⟩
      · rw [e0, ← hA, hnum, hd]; simp only [Int.pow_zero, Int.mul_one]; omega
      · rw [e0, ← hA, hnum, hd]; have := p256 (e.all.length - n); simp only [Int.pow_zero, Int.mul_one]; omega
  · have e0 : e.all.length - n = 0 := by omega
    have h1 : e.out1 n = e.out0 n := by unfold E.out1; rw [if_neg (by omega)]
    have h2 : num (e.out0 n) = 2 * e.low * 256 ^ (n - e.all.length) := by
      rw [out0_short e n (by omega), num_append, rep_num, List.length_replicate, hA]
      simp
    rw [h1]
    refine ⟨e.out0_bytes n hr, by rw [out0_short e n (by omega)]; simp; omega, ?_, ?_⟩
    · rw [e0, h2]; simp only [Int.pow_zero, Int.mul_one]; omega
    · rw [e0, h2]; simp only [Int.pow_zero, Int.mul_one]; omega
/-- What is told fits. -/
structure Fits (e : E) (n r : Nat) : Prop where
  lt : r < 8 * n
  pow : (2 : Int) ^ r * 256 ^ (e.all.length - n) ≤ e.rng * 256 ^ (n - e.all.length)
theorem fits (e : E) (h : EOk e) (hr : EOkR e) (n : Nat) (hfit : e.tell ≤ 8 * n) : Fits e n e.rawBits.toNat := by
  have r1 := h.r1
  have r2 := h.r2
  have hb0 := hr.b0
  have hcnt := hr.cnt
  have hlen := all_length e
  obtain ⟨s1, s2⟩ := bitLenAux_spec 64 e.rng.toNat (by omega)
  have s2' := s2 (by omega)
  have hL : Lib.bitLen e.rng.toNat = Lib.bitLenAux 64 e.rng.toNat := rfl
  have h32 := bitLen_le32 e.rng.toNat (by omega)
  rw [← hL] at s2'
  unfold E.tell at hfit
  generalize Lib.bitLen e.rng.toNat = L at *
  refine ⟨by omega, ?_⟩
  have hL2 : (2 : Int) ^ L ≤ 2 * e.rng := by
    have : ((2 ^ L : Nat) : Int) ≤ ((2 * e.rng.toNat : Nat) : Int) := by exact_mod_cast s2'
    have e1 : ((2 ^ L : Nat) : Int) = 2 ^ L := by push_cast; rfl
    omega
  have h3 : (2 : Int) ^ (1 + e.rawBits.toNat + 8 * (e.all.length - n)) ≤ 2 ^ (L + 8 * (n - e.all.length)) := by
    exact_mod_cast Nat.pow_le_pow_right (by decide) (by omega)
  rw [Int.pow_add, Int.pow_add, Int.pow_add, Int.pow_mul, Int.pow_mul, show (2 : Int) ^ 8 = 256 by decide, show (2 : Int) ^ 1 = 2 by decide] at h3
  have h4 : (2 : Int) ^ L * 256 ^ (n - e.all.length) ≤ 2 * e.rng * 256 ^ (n - e.all.length) := Int.mul_le_mul_of_nonneg_right hL2 (by have := p256 (n - e.all.length); omega)
  rw [Int.mul_assoc] at h3 h4
  omega
structure DoneOk (e : E) (n : Nat) : Prop where
  by_ : Bytes (e.done n)
  len : (e.done n).length = n
  inn : In (e.done n) e
  raw : num (e.done n) % 2 ^ e.rawBits.toNat = numR e.raw % 2 ^ e.rawBits.toNat
theorem done_ok (e : E) (h : EOk e) (hr : EOkR e) (hw : EW e) (n : Nat) (hfit : e.tell ≤ 8 * n) : DoneOk e n := by
  obtain ⟨f1, f2⟩ := fits e h hr n hfit
  have hb0 := hr.b0
  have hrl := hr.len
  have r1 := h.r1
  have v0 := h.v0
  have v1 := h.v1
  have hlen := all_length e
  have htop := hw.top
  obtain ⟨r, hrd⟩ : ∃ r, r = e.rawBits.toNat := ⟨_, rfl⟩
  rw [← hrd] at f1 f2
  have hP := p256 (e.all.length - n)
  have hQ := p256 (n - e.all.length)
  have hR := p2 r
  have h256 : (256 : Int) ^ (e.all.length - n) ≤ 2 * e.rng := by
    by_cases hc : n < e.all.length
    · have e0 : n - e.all.length = 0 := by omega
      rw [e0] at f2
      have : 1 * (256 : Int) ^ (e.all.length - n) ≤ 2 ^ r * 256 ^ (e.all.length - n) := Int.mul_le_mul_of_nonneg_right (by omega) (by omega)
      simp at f2
      omega
    · rw [show e.all.length - n = 0 by omega]
      simp; omega
  obtain ⟨o1, o2, o3, o4⟩ := out1_rounded e hr hw v0 v1 n h256
  have hn2 : num (e.out2 n) = num (e.out1 n) - num (e.out1 n) % 2 ^ r + numR e.raw % 2 ^ r := by
    unfold E.out2
    rw [← hrd]
    exact layBits_num e.raw n (e.out1 n) o1 o2 hr.rb r (by omega) (by omega)
  have b2 : Bytes (e.out2 n) := layBits_bytes _ _ _ o1 _
  have l2 : (e.out2 n).length = n := by unfold E.out2; rw [layBits_length]; exact o2
  have m0 := Int.emod_nonneg (num (e.out1 n)) (show (2 : Int) ^ r ≠ 0 by omega)
  have m1 := Int.emod_lt_of_pos (num (e.out1 n)) hR
  have k0 := Int.emod_nonneg (numR e.raw) (show (2 : Int) ^ r ≠ 0 by omega)
  have k1 := Int.emod_lt_of_pos (numR e.raw) hR
  -- the top: the number and less than 2^r more are below all bytes
  have e4 : 2 * (2147483648 * (256 : Int) ^ e.told.length) * 256 ^ (n - e.all.length) = 256 ^ n * 256 ^ (e.all.length - n) := by
    rw [← Int.pow_add, show n + (e.all.length - n) = e.told.length + 4 + (n - e.all.length) by omega, Int.pow_add, Int.pow_add]
    congr 1
    omega
  have e5 : (num (e.out1 n) + 2 ^ r - 1) * 256 ^ (e.all.length - n) < (2 * e.low + e.rng) * 256 ^ (n - e.all.length) := by
    rw [Int.sub_mul, Int.add_mul, Int.add_mul]
    omega
  have e6 : (num (e.out1 n) + 2 ^ r - 1) < 256 ^ n := by
    have h1 : (2 * e.low + e.rng) * 256 ^ (n - e.all.length) ≤ 2 * (2147483648 * (256 : Int) ^ e.told.length) * 256 ^ (n - e.all.length) := Int.mul_le_mul_of_nonneg_right (by omega) (by omega)
    exact Int.lt_of_mul_lt_mul_right (a := 256 ^ (e.all.length - n)) (by omega) (by omega)
  have hcmp := cmpL_num (e.out2 n) (e.out1 n) b2 o1 (by omega)
  have hdone : Bytes (e.done n) ∧ (e.done n).length = n ∧ num (e.out1 n) ≤ num (e.done n) ∧ num (e.done n) ≤ num (e.out1 n) + 2 ^ r - 1 ∧ num (e.done n) % 2 ^ r = numR e.raw % 2 ^ r := by
    have hmod : ∀ j : Int, (num (e.out1 n) - num (e.out1 n) % 2 ^ r + numR e.raw % 2 ^ r + j * 2 ^ r) % 2 ^ r = numR e.raw % 2 ^ r := by
      intro j
      have h3 : num (e.out1 n) - num (e.out1 n) % 2 ^ r = num (e.out1 n) / 2 ^ r * 2 ^ r := by have := Int.mul_ediv_add_emod (num (e.out1 n)) (2 ^ r); rw [Int.mul_comm]; omega
      rw [h3, Int.add_mul_emod_self_right, Int.add_comm, Int.add_mul_emod_self_right, Int.emod_emod]
    by_cases hc : cmpL (e.out2 n) (e.out1 n) < 0
    · have hd : e.done n = increase (e.out2 n) r := by unfold E.done; rw [if_pos hc, hrd]
      have hlt := hcmp.1 hc
      obtain ⟨c1, c2⟩ := increase_fit (e.out2 n) r b2 (by omega) (by rw [l2]; omega)
      rw [hd]
      refine ⟨c1, by rw [increase_length]; exact l2, by omega, by omega, ?_⟩
      rw [c2, hn2]
      have := hmod 1
      rw [Int.one_mul] at this
      exact this
    · have hd : e.done n = e.out2 n := by unfold E.done; rw [if_neg hc]
      have hge : ¬ num (e.out2 n) < num (e.out1 n) := fun hh => hc (hcmp.2 hh)
      rw [hd]
      refine ⟨b2, l2, by omega, by omega, ?_⟩
      rw [hn2]
      have := hmod 0
      rw [Int.zero_mul, Int.add_zero] at this
      exact this
  obtain ⟨q1, q2, q3, q4, q5⟩ := hdone
  refine ⟨q1, q2, ?_, by rw [← hrd]; exact q5⟩
  have hge : num (e.out1 n) * 256 ^ (e.all.length - n) ≤ num (e.done n) * 256 ^ (e.all.length - n) := Int.mul_le_mul_of_nonneg_right q3 (by omega)
  have hle : num (e.done n) * 256 ^ (e.all.length - n) ≤ (num (e.out1 n) + 2 ^ r - 1) * 256 ^ (e.all.length - n) := Int.mul_le_mul_of_nonneg_right q4 (by omega)
  unfold In X
  rw [← hlen]
  by_cases hc : n ≤ e.all.length
  · have e0 : n - e.all.length = 0 := by omega
    rw [e0] at o3 e5
    have hp : pre (e.done n) e.all.length = num (e.done n) * 256 ^ (e.all.length - n) := by
      have := pre_far (e.done n) (e.all.length - n)
      rw [q2, show n + (e.all.length - n) = e.all.length by omega] at this
      exact this
    rw [hp]
    simp at o3 e5
    omega
  · have e0 : e.all.length - n = 0 := by omega
    rw [e0] at o3 e5 hge hle
    have hp : pre (e.done n) e.all.length = num (e.done n) / 256 ^ (n - e.all.length) := by
      have := pre_num (e.done n) q1 e.all.length (by omega)
      rw [q2] at this
      exact this
    rw [hp]
    simp at o3 e5 hge hle
    have g1 : 2 * e.low ≤ num (e.done n) / 256 ^ (n - e.all.length) := by
      rw [Int.le_ediv_iff_mul_le hQ]; omega
    have g2 : num (e.done n) / 256 ^ (n - e.all.length) < 2 * e.low + e.rng := by
      rw [Int.ediv_lt_iff_lt_mul hQ]; omega
    omega
end Go.Proofs.Ytiabenmgbikllaa.M

-- P0
namespace Go.Proofs.Ytiabenmgbikllaa.M
set_option linter.unusedVariables false
open Go.RowKit Go.Proofs.YtiabenmgbikllaaW.PrintWords Go.Proofs.YtiabenmgbikllaaW.PrintLast Go.Proofs.YtiabenmgbikllaaW.PrintMore Go.Proofs.Ytiabenmgbikllaa.PAll
attribute [local go_sem] max2_int min2_int max_two min_two max_three min_three max_four min_four

/-- A number below ft; below one there is none to read. -/
def D.ui (d : D) (ft : Int) : Int := if ft ≤ 1 then 0 else d.uintV ft
def D.uiD (d : D) (ft : Int) : D := if ft ≤ 1 then d else d.uintD ft
theorem ui_ok (d : D) (h : DOk d) (hr : DRaw d) (ft : Int) (f0 : 1 ≤ ft) (f1 : ft ≤ 4294967295) (hk : d.count ≤ 800000000000000000) :
    DOk (d.uiD ft) ∧ DRaw (d.uiD ft) ∧ (d.uiD ft).b = d.b ∧ (d.uiD ft).count ≤ d.count + 48 ∧ 0 ≤ d.ui ft ∧ d.ui ft < ft := by
  unfold D.ui D.uiD
  by_cases h1 : ft ≤ 1
  · rw [if_pos h1, if_pos h1]
    exact ⟨h, hr, rfl, by omega, by omega, by omega⟩
  · rw [if_neg h1, if_neg h1]
    obtain ⟨a, b, c, d, e, f⟩ := uint_ok d h hr ft (by omega) f1 hk
    exact ⟨a, f, c, b, d, e⟩
/-- k pulses over 2^n places. -/
def shareR : Nat → D → Int → List Int × D
  | 0, d, k => ([k], d)
  | n + 1, d, k =>
    ((shareR n (d.uiD (k + 1)) (d.ui (k + 1))).1 ++ (shareR n (shareR n (d.uiD (k + 1)) (d.ui (k + 1))).2 (k - d.ui (k + 1))).1,
      (shareR n (shareR n (d.uiD (k + 1)) (d.ui (k + 1))).2 (k - d.ui (k + 1))).2)
structure ShareOk (n : Nat) (d : D) (k : Int) (r : List Int × D) : Prop where
  ok : DOk r.2
  raw : DRaw r.2
  b : r.2.b = d.b
  cnt : r.2.count + 48 ≤ d.count + 48 * 2 ^ n
  len : r.1.length = 2 ^ n
  pos : ∀ x ∈ r.1, 0 ≤ x ∧ x ≤ k
  sum : r.1.sum = k
theorem share_ok : ∀ (n : Nat) (d : D) (k : Int), DOk d → DRaw d → 0 ≤ k → k ≤ 64 → d.count + 48 * 2 ^ n ≤ 800000000000000000 → ShareOk n d k (shareR n d k)
  | 0, d, k, h, hr, k0, k1, hc => ⟨h, hr, rfl, by show d.count + 48 ≤ _; simp, rfl, fun x hx => by simp [shareR] at hx; omega, by simp [shareR]⟩
  | n + 1, d, k, h, hr, k0, k1, hc => by
    have hp := p2 n
    rw [Int.pow_succ] at hc
    obtain ⟨u1, u2, u3, u4, u5, u6⟩ := ui_ok d h hr (k + 1) (by omega) (by omega) (by omega)
    obtain ⟨a1, a2, a3, a4, a5, a6, a7⟩ := share_ok n (d.uiD (k + 1)) (d.ui (k + 1)) u1 u2 u5 (by omega) (by omega)
    obtain ⟨b1, b2, b3, b4, b5, b6, b7⟩ := share_ok n _ (k - d.ui (k + 1)) a1 a2 (by omega) (by omega) (by omega)
    refine ⟨b1, b2, (b3.trans a3).trans u3, ?_, ?_, ?_, ?_⟩
    · show (shareR n (shareR n (d.uiD (k + 1)) (d.ui (k + 1))).2 (k - d.ui (k + 1))).2.count + 48 ≤ d.count + 48 * 2 ^ (n + 1)
      rw [Int.pow_succ]
      omega
    · show (_ ++ _ : List Int).length = _
      rw [List.length_append, a5, b5, Nat.pow_succ]; omega
    · intro x hx
      rcases List.mem_append.1 hx with hx | hx
      · have := a6 x hx; omega
      · have := b6 x hx; omega
    · show (_ ++ _ : List Int).sum = _
      rw [List.sum_append, a7, b7]; omega
/-- A row of whole numbers is a whole block. -/
def Blk (w : World) (b : Nat) (xs : List Int) : Prop := w.heap[b]? = some (.cells (nums .i64 xs).toArray 2 (0, 0))
theorem Blk.lt {w : World} {b : Nat} {xs : List Int} (h : Blk w b xs) : b < w.heap.size := blk_lt h
theorem Blk.chg {w w1 : World} {S : Nat → Prop} {b : Nat} {xs : List Int} (h : Blk w b xs) (k : Chg w w1 S) (hb : ¬ S b) : Blk w1 b xs := k.blk h hb
theorem Blk.cell {w : World} {b : Nat} {xs : List Int} (h : Blk w b xs) (i : Nat) (hi : i < xs.length) : w.cell? ⟨b, i, none⟩ = some (.int .i64 (rd xs i)) := by
  rw [blk_cell h i]
  simp [nums, rd, hi]
theorem Blk.frozen {w : World} {b : Nat} {xs : List Int} (h : Blk w b xs) (i : Nat) : w.frozen? ⟨b, i, none⟩ = false := blk_frozen h i
theorem Blk.set {w : World} {b : Nat} {xs : List Int} (h : Blk w b xs) (i : Nat) (x : Int) : Blk (w.setCell ⟨b, i, none⟩ (.int .i64 x)) b (xs.set i x) := by
  refine blk_put h i _ ?_
  simp [nums]
theorem Blk.reads {w : World} {b : Nat} {xs : List Int} (h : Blk w b xs) (off m : Nat) (hm : off + m ≤ xs.length) (hb : m ≤ 9223372036854775807) : ReadsInt w .i64 (some ⟨b, off, none⟩) m ((xs.drop off).take m) := by
  refine ⟨by simp; omega, hb, fun _ => ⟨_, rfl, fun j hj => ?_⟩⟩
  have := h.cell (off + j) (by omega)
  have e : (Addr.add ⟨b, off, none⟩ j) = ⟨b, off + j, none⟩ := by simp [Addr.add]
  rw [e, this, ← rd_eq]
  simp [List.getD, hj, List.getElem?_drop]
/-- The numbers ys are laid into xs from off on. -/
def lay (xs : List Int) (off : Nat) (ys : List Int) : List Int := xs.take off ++ (ys ++ xs.drop (off + ys.length))
theorem lay_length (xs : List Int) (off : Nat) (ys : List Int) (h : off + ys.length ≤ xs.length) : (lay xs off ys).length = xs.length := by
  simp [lay]; omega
theorem lay_lay (xs : List Int) (off : Nat) (ys zs : List Int) (h : off + ys.length + zs.length ≤ xs.length) : lay (lay xs off ys) (off + ys.length) zs = lay xs off (ys ++ zs) := by
  unfold lay
  have h1 : (xs.take off).length = off := by simp; omega
  have e1 : (xs.take off ++ (ys ++ xs.drop (off + ys.length))).take (off + ys.length) = xs.take off ++ ys := by
    rw [← List.append_assoc]
    exact List.take_left' (by rw [List.length_append, h1])
  have e2 : (xs.take off ++ (ys ++ xs.drop (off + ys.length))).drop (off + ys.length + zs.length) = xs.drop (off + (ys ++ zs).length) := by
    rw [← List.append_assoc, List.drop_append, List.length_append, h1, List.drop_eq_nil_of_le (by simp; omega), List.nil_append, List.drop_drop, List.length_append]
    congr 1; omega
  rw [e1, e2]
  simp
theorem set_lay (xs : List Int) (off : Nat) (x : Int) (h : off < xs.length) : xs.set off x = lay xs off [x] := by
  unfold lay
  rw [List.set_eq_take_append_cons_drop, if_pos h]
  simp
end Go.Proofs.Ytiabenmgbikllaa.M

-- P1
namespace Go.Proofs.Ytiabenmgbikllaa.M
set_option linter.unusedVariables false
open Go.RowKit Go.Proofs.YtiabenmgbikllaaW.PrintWords Go.Proofs.YtiabenmgbikllaaW.PrintLast Go.Proofs.YtiabenmgbikllaaW.PrintMore Go.Proofs.Ytiabenmgbikllaa.PAll
attribute [local go_sem] max2_int min2_int max_two min_two max_three min_three max_four min_four

set_option maxHeartbeats 1000000 in
set_option maxRecDepth 100000 in
theorem dui1_calls (w : World) (g : Nat) (ft : Int) (f1 : ft ≤ 1) : Calls Try.prog 81 #[.pointer (some ⟨g, 0, none⟩), .int .i64 ft] w fun r w' => r = .returned (.int .i64 0) ∧ Chg w w' No := by
  go_enter Try.func81, Try.ntmps81
  go_wp2_with fail
  go_returns
  exact ⟨rfl, (by repeat (first | exact Chg.refl _ _ | apply Chg.drew | apply Chg.drewN))⟩
theorem dui_calls (w0 w : World) (g : Nat) (d : D) (ft : Int) (h : DecAt w0 w g d) (hd : DOk d) (hr : DRaw d) (f0 : 1 ≤ ft) (f1 : ft ≤ 4294967295) (hk : d.count ≤ 800000000000000000) :
    Calls Try.prog 81 #[.pointer (some ⟨g, 0, none⟩), .int .i64 ft] w fun r w' => r = .returned (.int .i64 (d.ui ft)) ∧ DecAt w0 w' g (d.uiD ft) ∧ Chg w w' (One g) := by
  unfold D.ui D.uiD
  by_cases h1 : ft ≤ 1
  · rw [if_pos h1, if_pos h1]
    exact (dui1_calls w g ft h1).mono fun r w' ⟨a, b⟩ => ⟨a, h.chg b (fun h => h) (fun _ h => False.elim h), b.mono (fun _ h => False.elim h)⟩
  · rw [if_neg h1, if_neg h1]
    exact duint_calls w0 w g d ft h hd hr (by omega) f1 hk
/-- The two blocks g and b. -/
def Pair (g b : Nat) : Nat → Prop := fun k => k = g ∨ k = b
theorem Chg.inl {w w1 : World} {g b : Nat} (h : Chg w w1 (One g)) : Chg w w1 (Pair g b) := h.mono (fun _ h => .inl h)
theorem Chg.inr {w w1 : World} {g b : Nat} (h : Chg w w1 (One b)) : Chg w w1 (Pair g b) := h.mono (fun _ h => .inr h)
/-- A run of m places is shared out. -/
def ShareAt (w0 : World) (g b n m : Nat) : Prop := ∀ (w : World) (d : D) (xs : List Int) (off cap : Nat) (k : Int), DecAt w0 w g d → Blk w b xs → DOk d → DRaw d → 0 ≤ k → k ≤ 16 → d.count + 48 * m ≤ 800000000000000000 → off + m ≤ xs.length → m ≤ cap →
  Calls Try.prog 86 #[.pointer (some ⟨g, 0, none⟩), .slice (some ⟨b, off, none⟩) m cap, .int .i64 k] w fun r w' => r = .returned (.tuple #[]) ∧ DecAt w0 w' g (shareR n d k).2 ∧ Blk w' b (lay xs off (shareR n d k).1) ∧ Chg w w' (Pair g b)

set_option maxHeartbeats 1000000 in
set_option maxRecDepth 100000 in
theorem share_one (w0 : World) (g b : Nat) (hne : g ≠ b) (hb : w0.heap.size ≤ b) : ShareAt w0 g b 0 1 := by
  intro w d xs off cap k h hx hd hr k0 k1 hc ho hcap
  have y0 := hx.cell off (by omega)
  have z0 := hx.frozen off
  have HH := Aside0.mk (And.intro h hx)
  clear h hx hd hr
  go_enter Try.func86, Try.ntmps86
  go_wp2_with fail
  go_returns
  have kc : Chg w (w.setCell ⟨b, off, none⟩ (.int .i64 k)) (One b) := (Chg.refl w (One b)).setCell (p := ⟨b, off, none⟩) (.inl rfl) _
  exact ⟨rfl, HH.out.1.chg kc (fun hh => hne hh) (fun i hi => by rw [show i = b from hi]; exact hb), by show Blk _ b (lay xs off [k]); rw [← set_lay xs off k (by omega)]; exact HH.out.2.set off k, kc.inr⟩

set_option maxHeartbeats 4000000 in
set_option maxRecDepth 100000 in
theorem share_step (w0 : World) (g b n m : Nat) (hm : m = 1 ∨ m = 2 ∨ m = 4 ∨ m = 8) (hn : m = 2 ^ n) (hne : g ≠ b) (hb : w0.heap.size ≤ b) (ih : ShareAt w0 g b n m) : ShareAt w0 g b (n + 1) (2 * m) := by
  intro w d xs off cap k h hx hd hr k0 k1 hc ho hcap
  obtain ⟨u1, u2, u3, u4, u5, u6⟩ := ui_ok d hd hr (k + 1) (by omega) (by omega) (by omega)
  have hpn : ((2 : Int) ^ n) = m := by rw [hn]; push_cast; rfl
  have S := share_ok n (d.uiD (k + 1)) (d.ui (k + 1)) u1 u2 u5 (by omega) (by rw [hpn]; omega)
  have hcA := S.cnt
  have hlA := S.len
  rw [hpn] at hcA
  rw [← hn] at hlA
  have SS := share_ok n _ (k - d.ui (k + 1)) S.ok S.raw (by omega) (by omega) (by rw [hpn]; omega)
  have hlB := SS.len
  rw [← hn] at hlB
  obtain ⟨f, hf⟩ : ∃ f, f = d.ui (k + 1) := ⟨_, rfl⟩
  obtain ⟨d1, hd1⟩ : ∃ d1, d1 = d.uiD (k + 1) := ⟨_, rfl⟩
  rw [← hf, ← hd1] at S hcA hlA hlB
  rw [← hf] at u5 u6
  obtain ⟨A, hA⟩ : ∃ A, A = shareR n d1 f := ⟨_, rfl⟩
  obtain ⟨B, hB⟩ : ∃ B, B = shareR n A.2 (k - f) := ⟨_, rfl⟩
  rw [← hA] at S hcA hlA hlB
  rw [← hB] at hlB
  have E : Aside0 (shareR (n + 1) d k = (A.1 ++ B.1, B.2)) := ⟨by rw [hB, hA, hd1, hf]; rfl⟩
  have HA := Aside0.mk (And.intro hA hB)
  have HD := Aside0.mk (And.intro hf hd1)
  have hc1 : d1.count ≤ d.count + 48 := by rw [hd1]; exact u4
  have HO : Aside0 (DOk d1 ∧ DRaw d1 ∧ DOk A.2 ∧ DRaw A.2) := ⟨by rw [hd1]; exact ⟨u1, u2, S.ok, S.raw⟩⟩
  have HH := Aside0.mk (And.intro h (And.intro hx (And.intro hd hr)))
  have HI := Aside0.mk ih
  have HL := Aside0.mk (And.intro hlA hlB)
  clear h hx hd hr S SS hA hB hf hd1 ih u1 u2 u3 u4 hn hpn hlA hlB
  rcases hm with rfl | rfl | rfl | rfl
  all_goals
    simp only [Nat.reduceMul] at ho hcap hc ⊢
    go_enter Try.func86, Try.ntmps86
    go_wp2_with fail
    refine (dui_calls w0 w g d (k + 1) HH.out.1 HH.out.2.2.1 HH.out.2.2.2 (by omega) (by omega) (by omega)).mono ?_
    rintro r w1 ⟨rfl, h1, c1⟩
    rw [← HD.out.2] at h1
    rw [← HD.out.1]
    have H1 := Aside0.mk (And.intro h1 (And.intro c1 (HH.out.2.1.chg c1 (fun hh => hne (Eq.symm hh)))))
    clear h1 c1
    go_wp2_with fail
    refine (HI.out w1 d1 xs off _ f H1.out.1 H1.out.2.2 HO.out.1 HO.out.2.1 u5 (by omega) (by omega) (by omega) (by omega)).mono ?_
    rintro r w2 ⟨rfl, h2, x2, c2⟩
    rw [← HA.out.1] at h2 x2
    have H2 := Aside0.mk (And.intro h2 (And.intro x2 c2))
    clear h2 x2 c2
    go_wp2_with fail
    refine (HI.out w2 A.2 (lay xs off A.1) _ _ (k - f) H2.out.1 H2.out.2.1 HO.out.2.2.1 HO.out.2.2.2 (by omega) (by omega) (by omega) (by rw [lay_length _ _ _ (by have := HL.out.1; omega)]; omega) (by omega)).mono ?_
    rintro r w3 ⟨rfl, h3, x3, c3⟩
    rw [← HA.out.2] at h3 x3
    have e := lay_lay xs off A.1 B.1 (by have := HL.out.1; have := HL.out.2; omega)
    rw [HL.out.1] at e
    rw [e] at x3
    have H3 := Aside0.mk (And.intro h3 (And.intro x3 c3))
    clear h3 x3 c3 e
    go_wp2_with fail
    go_returns
    refine ⟨rfl, ?_, ?_, (H1.out.2.1.inl.trans H2.out.2.2 (Ext.refl _ _)).trans H3.out.2.2 (Ext.refl _ _)⟩
    · rw [E.out]; exact H3.out.1
    · rw [E.out]; exact H3.out.2.1
theorem share16 (w0 : World) (g b : Nat) (hne : g ≠ b) (hb : w0.heap.size ≤ b) : ShareAt w0 g b 4 16 :=
  share_step w0 g b 3 8 (by omega) (by decide) hne hb (share_step w0 g b 2 4 (by omega) (by decide) hne hb (share_step w0 g b 1 2 (by omega) (by decide) hne hb (share_step w0 g b 0 1 (by omega) (by decide) hne hb (share_one w0 g b hne hb))))
end Go.Proofs.Ytiabenmgbikllaa.M

-- P3
namespace Go.Proofs.Ytiabenmgbikllaa.M
set_option linter.unusedVariables false
open Go.RowKit Go.Proofs.YtiabenmgbikllaaW.PrintWords Go.Proofs.YtiabenmgbikllaaW.PrintLast Go.Proofs.YtiabenmgbikllaaW.PrintMore Go.Proofs.Ytiabenmgbikllaa.PAll
attribute [local go_sem] max2_int min2_int max_two min_two max_three min_three max_four min_four

/-- A sign. -/
def sgnV (d : D) (x : Int) : Int := if 0 < x then (if d.bitsV 1 = 1 then -x else x) else x
def sgnD (d : D) (x : Int) : D := if 0 < x then d.bits 1 else d
/-- Signs, up to place i. -/
def signsR : List Int → D → List Int × D
  | [], d => ([], d)
  | x :: l, d => (sgnV d x :: (signsR l (sgnD d x)).1, (signsR l (sgnD d x)).2)
theorem signsR_snoc (l : List Int) (x : Int) : ∀ d, signsR (l ++ [x]) d = ((signsR l d).1 ++ [sgnV (signsR l d).2 x], sgnD (signsR l d).2 x) := by
  induction l with
  | nil => intro d; rfl
  | cons y l ih => intro d; simp only [List.cons_append, signsR, ih]
theorem signsR_length (l : List Int) : ∀ d, (signsR l d).1.length = l.length := by
  induction l with
  | nil => intro d; rfl
  | cons y l ih => intro d; simp [signsR, ih]
structure SignsOk (l : List Int) (d : D) (r : List Int × D) : Prop where
  ok : DOk r.2
  raw : DRaw r.2
  b : r.2.b = d.b
  cnt : r.2.count ≤ d.count + l.length
theorem sgn_ok (d : D) (x : Int) (h : DOk d) (hr : DRaw d) (hc : d.count ≤ 900000000000000000) : DOk (sgnD d x) ∧ DRaw (sgnD d x) ∧ (sgnD d x).b = d.b ∧ (sgnD d x).count ≤ d.count + 1 := by
  unfold sgnD
  split
  · obtain ⟨a, b, c, e, _⟩ := bits_ok d h hr 1 (by omega) (by omega) hc
    exact ⟨a, b, e, by omega⟩
  · exact ⟨h, hr, rfl, by omega⟩
theorem signs_ok : ∀ (l : List Int) (d : D), DOk d → DRaw d → d.count + l.length ≤ 900000000000000000 → SignsOk l d (signsR l d)
  | [], d, h, hr, hc => ⟨h, hr, rfl, by simp [signsR]⟩
  | x :: l, d, h, hr, hc => by
    simp only [List.length_cons] at hc
    obtain ⟨a, b, c, e⟩ := sgn_ok d x h hr (by omega)
    obtain ⟨p, q, r, s⟩ := signs_ok l (sgnD d x) a b (by omega)
    exact ⟨p, q, r.trans c, by simp only [List.length_cons]; show (signsR l (sgnD d x)).2.count ≤ _; omega⟩
/-- A block. -/
def shareB (d : D) : List Int × D := shareR 4 (d.sym (icdf 5)) (d.symV (icdf 5))
def blockR (d : D) : List Int × D := signsR (shareB d).1 (shareB d).2
def pulsesR : Nat → D → List Int × D
  | 0, d => ([], d)
  | n + 1, d => ((pulsesR n d).1 ++ (blockR (pulsesR n d).2).1, (blockR (pulsesR n d).2).2)
theorem icdf5_len : (icdf 5).length = 17 := by decide +kernel
structure BlockOk (d : D) (r : List Int × D) : Prop where
  ok : DOk r.2
  raw : DRaw r.2
  b : r.2.b = d.b
  cnt : r.2.count ≤ d.count + 1000
  len : r.1.length = 16
theorem shareB_ok (d : D) (h : DOk d) (hr : DRaw d) (hc : d.count ≤ 700000000000000000) : DOk (d.sym (icdf 5)) ∧ DRaw (d.sym (icdf 5)) ∧ (d.sym (icdf 5)).count ≤ d.count + 24 ∧ 0 ≤ d.symV (icdf 5) ∧ d.symV (icdf 5) ≤ 16 ∧ ShareOk 4 (d.sym (icdf 5)) (d.symV (icdf 5)) (shareB d) := by
  obtain ⟨s1, s2, s3, s4, s5⟩ := sym_ok d h (icdf 5) (icdf_ok 5 (by omega)) (icdf_pos 5) (by omega)
  rw [icdf5_len] at s5
  exact ⟨s1, sym_raw d hr _, s2, s4, by omega, share_ok 4 _ _ s1 (sym_raw d hr _) s4 (by omega) (by omega)⟩
theorem block_ok (d : D) (h : DOk d) (hr : DRaw d) (hc : d.count ≤ 700000000000000000) : BlockOk d (blockR d) := by
  obtain ⟨s1, s2, s3, s4, s5, S⟩ := shareB_ok d h hr hc
  have hcn := S.cnt
  have hl := S.len
  obtain ⟨a1, a2, a3, a4⟩ := signs_ok (shareB d).1 (shareB d).2 S.ok S.raw (by omega)
  refine ⟨a1, a2, (a3.trans S.b).trans (sym_ok d h (icdf 5) (icdf_ok 5 (by omega)) (icdf_pos 5) (by omega)).2.2.1, ?_, ?_⟩
  · show (signsR _ _).2.count ≤ _
    omega
  · show (signsR _ _).1.length = 16
    rw [signsR_length, hl]
structure PulsesOk (n : Nat) (d : D) (r : List Int × D) : Prop where
  ok : DOk r.2
  raw : DRaw r.2
  b : r.2.b = d.b
  cnt : r.2.count ≤ d.count + 1000 * n
  len : r.1.length = 16 * n
theorem pulses_ok (d : D) (h : DOk d) (hr : DRaw d) : ∀ n : Nat, d.count + 1000 * n ≤ 700000000000000000 → PulsesOk n d (pulsesR n d)
  | 0, hc => ⟨h, hr, rfl, by show d.count ≤ _; omega, rfl⟩
  | n + 1, hc => by
    obtain ⟨a1, a2, a3, a4, a5⟩ := pulses_ok d h hr n (by omega)
    obtain ⟨b1, b2, b3, b4, b5⟩ := block_ok (pulsesR n d).2 a1 a2 (by omega)
    have e1 : (pulsesR (n + 1) d).2 = (blockR (pulsesR n d).2).2 := rfl
    have e2 : (pulsesR (n + 1) d).1 = (pulsesR n d).1 ++ (blockR (pulsesR n d).2).1 := rfl
    refine ⟨?_, ?_, ?_, ?_, ?_⟩
    · rw [e1]; exact b1
    · rw [e1]; exact b2
    · rw [e1]; exact b3.trans a3
    · rw [e1]; omega
    · rw [e2, List.length_append, a5, b5]; omega
/-- A slice of a row from a to e. -/
theorem slice_mid (t e : TypeId) {i : TypeInfo} (ht : Try.prog.underlying t = some (.slice e)) (hi : Try.prog.info? e = some i) (hsz : i.size = 1) (b n c : Nat) (lo hi' : Int) (h0 : 0 ≤ lo) (h1 : lo ≤ hi') (h2 : hi' ≤ c) (h3 : lo < c) (W : World) (hc : c ≤ 9223372036854775807) :
    (Instr.slice t (.slice (some ⟨b, 0, none⟩) n c) (some (.int .i64 lo)) (some (.int .i64 hi')) none).run Try.prog W = .ok (.slice (some ⟨b, lo.toNat, none⟩) (hi' - lo).toNat (c - lo.toNat)) W := by
  have hel : Try.prog.elem t = e := by simp [Program.elem, ht]
  have hu : Try.prog.underlying t = some (.slice (Try.prog.elem t)) := by rw [hel]; exact ht
  rw [run_slice_lh W t _ n c hu .i64 .i64 lo hi' h0 h1 (by omega), hel]
  have hne : c ≠ lo.toNat := by omega
  simp [sizeOf, typeInfo, hi, hsz, sliced, Result.andThen, hne, Addr.add]
  omega
end Go.Proofs.Ytiabenmgbikllaa.M
