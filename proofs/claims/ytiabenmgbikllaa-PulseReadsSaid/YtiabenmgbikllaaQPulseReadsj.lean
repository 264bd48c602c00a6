/- Contracts of the program's functions and plain laws for the law PulseReads, several texts in one (part 10); the program's functions as Lean functions came out of the kit's print. Conditions: each theorem's own. -/
import Derived.Test.YtiabenmgbikllaaQPulseReadsi
-- R2
namespace Go.Proofs.Ytiabenmgbikllaa.M
set_option linter.unusedVariables false
open Go.RowKit Go.Proofs.YtiabenmgbikllaaW.PrintWords Go.Proofs.YtiabenmgbikllaaW.PrintLast Go.Proofs.YtiabenmgbikllaaW.PrintMore Go.Proofs.Ytiabenmgbikllaa.PAll

/-- The number that the bits for the end are. -/
def numR (l : List Int) : Int := num l.reverse
theorem numR_byte (l : List Int) (hb : Bytes l) (q : Nat) (h : q < l.length) : rd l (q : Int) = numR l / 256 ^ q % 256 := by
  have := num_byte l.reverse (fun x hx => hb x (List.mem_reverse.1 hx)) q (by simpa using h)
  rw [List.length_reverse] at this
  unfold numR
  rw [← this]
  simp [rd, List.getD, show l.length - 1 - (l.length - 1 - q) = q by omega, List.getElem?_reverse (show l.length - 1 - q < l.length by omega)]
theorem fin8 (j : Nat) (h : j < 8) : ∃ f : Fin 8, (f : Nat) = j := ⟨⟨j, h⟩, rfl⟩
theorem fin256 (x : Int) (h0 : 0 ≤ x) (h1 : x < 256) : ∃ f : Fin 256, ((f : Nat) : Int) = x := ⟨⟨x.toNat, by omega⟩, by simp; omega⟩
theorem byte_and : ∀ y : Fin 256, ∀ j : Fin 8, bits .and .u8 ((y : Nat) : Int) (2 ^ (j : Nat)) = ((y : Nat) : Int) / 2 ^ (j : Nat) % 2 * 2 ^ (j : Nat) := by decide +kernel
theorem byte_not : ∀ y : Fin 256, ∀ j : Fin 8, bits .andNot .u8 ((y : Nat) : Int) (2 ^ (j : Nat)) = ((y : Nat) : Int) - ((y : Nat) : Int) / 2 ^ (j : Nat) % 2 * 2 ^ (j : Nat) := by decide +kernel
theorem byte_or : ∀ y : Fin 256, ∀ j : Fin 8, ∀ c : Fin 2, bits .or .u8 (((y : Nat) : Int) - ((y : Nat) : Int) / 2 ^ (j : Nat) % 2 * 2 ^ (j : Nat)) (((c : Nat) : Int) * 2 ^ (j : Nat)) = ((y : Nat) : Int) - ((y : Nat) : Int) / 2 ^ (j : Nat) % 2 * 2 ^ (j : Nat) + ((c : Nat) : Int) * 2 ^ (j : Nat) := by decide +kernel
theorem lay_byte (x y : Int) (j : Nat) (x0 : 0 ≤ x) (x1 : x < 256) (y0 : 0 ≤ y) (y1 : y < 256) (hj : j < 8) :
    bits .or .u8 (bits .andNot .u8 x (2 ^ j)) (bits .and .u8 y (2 ^ j)) = x + (y / 2 ^ j % 2 - x / 2 ^ j % 2) * 2 ^ j := by
  obtain ⟨fx, rfl⟩ := fin256 x x0 x1
  obtain ⟨fy, rfl⟩ := fin256 y y0 y1
  obtain ⟨fj, rfl⟩ := fin8 j hj
  rw [byte_and fy fj, byte_not fx fj]
  obtain ⟨c, hc⟩ : ∃ c : Fin 2, ((c : Nat) : Int) = ((fy : Nat) : Int) / 2 ^ (fj : Nat) % 2 := ⟨⟨(((fy : Nat) : Int) / 2 ^ (fj : Nat) % 2).toNat, by omega⟩, by simp; omega⟩
  rw [← hc, byte_or fx fj c, Int.sub_mul]
  omega
theorem bit_of (N : Int) (q j : Nat) (hj : j < 8) : N / 256 ^ q % 256 / 2 ^ j % 2 = N / 2 ^ (8 * q + j) % 2 := by
  have e : (2 : Int) ^ (8 * q + j) = 256 ^ q * 2 ^ j := by rw [Int.pow_add, Int.pow_mul]; congr 1
  rw [e, ← Int.ediv_ediv_of_nonneg (by have := p256 q; omega)]
  generalize N / 256 ^ q = M
  have : j = 0 ∨ j = 1 ∨ j = 2 ∨ j = 3 ∨ j = 4 ∨ j = 5 ∨ j = 6 ∨ j = 7 := by omega
  rcases this with rfl | rfl | rfl | rfl | rfl | rfl | rfl | rfl <;> omega
theorem layBit_num (raw : List Int) (n : Nat) (out : List Int) (i : Nat) (hb : Bytes out) (hl : out.length = n) (hr : Bytes raw) (hi : i < 8 * n) (hri : i < 8 * raw.length) :
    num (layBit raw n out i) = num out + (numR raw / 2 ^ i % 2 - num out / 2 ^ i % 2) * 2 ^ i := by
  have hx := hb.at_ ((n - 1 - i / 8 : Nat) : Int) (by omega) (by omega)
  have hy := hr.at_ ((i / 8 : Nat) : Int) (by omega) (by omega)
  unfold layBit
  rw [num_set _ _ _ (by omega), lay_byte _ _ _ hx.1 hx.2 hy.1 hy.2 (by omega)]
  have e1 := num_byte out hb (i / 8) (by omega)
  rw [hl] at e1
  rw [numR_byte raw hr (i / 8) (by omega), e1, bit_of _ _ _ (by omega), bit_of _ _ _ (by omega), show 8 * (i / 8) + i % 8 = i by omega, hl, show n - 1 - (n - 1 - i / 8) = i / 8 by omega]
  have e2 : (2 : Int) ^ i = 2 ^ (i % 8) * 256 ^ (i / 8) := by
    rw [show (256 : Int) = 2 ^ 8 by decide, ← Int.pow_mul, ← Int.pow_add]; congr 1; omega
  rw [show ∀ a c : Int, a + c - a = c from fun a c => by omega, Int.mul_assoc, ← e2]
theorem emod_succ (x : Int) (i : Nat) : x % 2 ^ (i + 1) = x % 2 ^ i + x / 2 ^ i % 2 * 2 ^ i := by
  have hp := p2 i
  rw [Int.pow_succ]
  generalize (2 : Int) ^ i = m at *
  have h0 := Int.emod_nonneg x (show m ≠ 0 by omega)
  have h1 := Int.emod_lt_of_pos x hp
  have h2 : x = m * (x / m) + x % m := (Int.mul_ediv_add_emod x m).symm
  have h3 : x / m = 2 * (x / m / 2) + x / m % 2 := (Int.mul_ediv_add_emod _ 2).symm
  have hc : x / m % 2 = 0 ∨ x / m % 2 = 1 := by omega
  have h4 : x = (x % m + x / m % 2 * m) + (m * 2) * (x / m / 2) := by
    have e1 : m * (x / m) = m * 2 * (x / m / 2) + x / m % 2 * m := by
      rw [Int.mul_assoc, Int.mul_comm (x / m % 2) m, ← Int.mul_add, ← h3]
    omega
  have h5 : x % (m * 2) = (x % m + x / m % 2 * m) % (m * 2) := by
    conv => lhs; rw [h4]
    exact Int.add_mul_emod_self_left _ _ _
  rw [h5]
  refine Int.emod_eq_of_lt ?_ ?_
  · rcases hc with hc | hc <;> rw [hc] <;> omega
  · rcases hc with hc | hc <;> rw [hc] <;> omega
theorem layBits_length (raw : List Int) (n : Nat) (out : List Int) : ∀ i, (layBits raw n out i).length = out.length
  | 0 => rfl
  | i + 1 => by show (List.set _ _ _).length = _; rw [List.length_set]; exact layBits_length raw n out i
theorem layBits_num (raw : List Int) (n : Nat) (out : List Int) (hb : Bytes out) (hl : out.length = n) (hr : Bytes raw) : ∀ i : Nat, i ≤ 8 * n → i ≤ 8 * raw.length → num (layBits raw n out i) = num out - num out % 2 ^ i + numR raw % 2 ^ i
  | 0, _, _ => by
    show num out = _
    simp [Int.emod_one]
  | i + 1, h1, h2 => by
    show num (layBit raw n (layBits raw n out i) i) = _
    have hp := p2 i
    rw [layBit_num raw n _ i (layBits_bytes _ _ _ hb i) (by rw [layBits_length]; exact hl) hr (by omega) (by omega), layBits_num raw n out hb hl hr i (by omega) (by omega), emod_succ, emod_succ]
    have e : (num out - num out % 2 ^ i + numR raw % 2 ^ i) / 2 ^ i = num out / 2 ^ i := by
      have h3 : num out - num out % 2 ^ i = num out / 2 ^ i * 2 ^ i := by have := Int.mul_ediv_add_emod (num out) (2 ^ i); rw [Int.mul_comm]; omega
      rw [h3, Int.add_comm, Int.add_mul_ediv_right _ _ (by omega), Int.ediv_eq_zero_of_lt (Int.emod_nonneg _ (by omega)) (Int.emod_lt_of_pos _ hp)]
      omega
    rw [e, Int.sub_mul]
    omega
theorem all_num (e : E) (v0 : 0 ≤ e.val) (v1 : e.val ≤ 2147483647) : num e.all = 2 * e.low := by
  unfold E.all E.low
  rw [num_append]
  simp only [num, List.length_cons, List.length_nil]
  omega
theorem all_length (e : E) : e.all.length = e.told.length + 4 := by simp [E.all]
theorem num_zero (l : List Int) (hb : Bytes l) : anyNZ l = true ↔ num l ≠ 0 := by
  induction l with
  | nil => simp [anyNZ, num]
  | cons x l ih =>
    have hb' : Bytes l := fun z hz => hb z (List.mem_cons_of_mem _ hz)
    have hx := hb x List.mem_cons_self
    obtain ⟨n0, n1⟩ := num_range l hb'
    have hp := p256 l.length
    have ih' := ih hb'
    have e : anyNZ (x :: l) = ((x != 0) || anyNZ l) := rfl
    rw [e]
    simp only [num]
    by_cases h : x = 0
    · subst h
      simpa using ih'
    · have h1 : 1 * 256 ^ l.length ≤ x * 256 ^ l.length := Int.mul_le_mul_of_nonneg_right (by omega) (by omega)
      have h2 : (x != 0) = true := by simpa using h
      rw [h2]
      simp only [Bool.true_or, true_iff]
      omega
theorem rep_num : ∀ n, num (List.replicate n 0) = 0
  | 0 => rfl
  | n + 1 => by simp [List.replicate_succ, num, rep_num n]
/-- What is rounded up. -/
theorem out0_long (e : E) (n : Nat) (h : n ≤ e.all.length) : e.out0 n = e.all.take n := by
  unfold E.out0
  rw [List.drop_eq_nil_of_le (by simp; omega), List.append_nil]
theorem out0_short (e : E) (n : Nat) (h : e.all.length ≤ n) : e.out0 n = e.all ++ List.replicate (n - e.all.length) 0 := by
  unfold E.out0
  rw [List.take_of_length_le h]
  congr 1
  simp
structure Rounded (A : Int) (a n : Nat) (o : List Int) : Prop where
  by_ : Bytes o
  len : o.length = n
  ge : A * 256 ^ (n - a) ≤ num o * 256 ^ (a - n)
  lt : num o * 256 ^ (a - n) < A * 256 ^ (n - a) + 256 ^ (a - n)
theorem out1_rounded (e : E) (hr : EOkR e) (hw : EW e) (v0 : 0 ≤ e.val) (v1 : e.val ≤ 2147483647) (n : Nat) (hfit : (256 : Int) ^ (e.all.length - n) ≤ 2 * e.rng) : Rounded (2 * e.low) e.all.length n (e.out1 n) := by
  have hA := all_num e v0 v1
  have hab := e.all_bytes hr
  by_cases h : n < e.all.length
  · have hsplit : e.all = e.all.take n ++ e.all.drop n := (List.take_append_drop n _).symm
    have hdl : (e.all.drop n).length = e.all.length - n := by simp
    have htl : (e.all.take n).length = n := by simp; omega
    have hnum : num e.all = num (e.all.take n) * 256 ^ (e.all.length - n) + num (e.all.drop n) := by
      conv => lhs; rw [hsplit]
      rw [num_append, hdl]
    obtain ⟨d0, d1⟩ := num_range _ (hab.drop n)
    rw [hdl] at d1
    have hz := num_zero _ (hab.drop n)
    have e0 : n - e.all.length = 0 := by omega
    unfold E.out1
    rw [out0_long e n (by omega)]
    by_cases hc : n < e.all.length ∧ anyNZ (e.all.drop n) = true
    · rw [if_pos hc]
      have hd := hz.1 hc.2
      have htop := hw.top
      have hlen := all_length e
      have e4 : (2147483648 : Int) * 2 * 256 ^ e.told.length = 256 ^ n * 256 ^ (e.all.length - n) := by
        rw [← Int.pow_add, show n + (e.all.length - n) = e.told.length + 4 by omega, Int.pow_add]
        omega
      have hfit2 : (num (e.all.take n) + 1) * 256 ^ (e.all.length - n) < 256 ^ n * 256 ^ (e.all.length - n) := by
        rw [Int.add_mul, ← e4]
        omega
      have hfit3 : num (e.all.take n) + 2 ^ 0 < 256 ^ (e.all.take n).length := by
        rw [htl]
        exact Int.lt_of_mul_lt_mul_right hfit2 (by have := p256 (e.all.length - n); omega)
      obtain ⟨b1, b2⟩ := increase_fit (e.all.take n) 0 (hab.take n) (by omega) hfit3
      refine ⟨b1, by rw [increase_length]; exact htl, ?_, ?_⟩
      · rw [b2, e0, ← hA, hnum, Int.add_mul (num (e.all.take n)) (2 ^ 0)]; simp only [Int.pow_zero, Int.mul_one, Int.one_mul]; omega
      · rw [b2, e0, ← hA, hnum, Int.add_mul (num (e.all.take n)) (2 ^ 0)]; simp only [Int.pow_zero, Int.mul_one, Int.one_mul]; omega
    · rw [if_neg hc]
      have hd : num (e.all.drop n) = 0 := by
        by_cases hd : num (e.all.drop n) = 0
        · exact hd
        · exact absurd ⟨h, hz.2 hd⟩ hc
      refine ⟨hab.take n, htl, ?_, ?_⟩
      · rw [e0, ← hA, hnum, hd]; simp only [Int.pow_zero, Int.mul_one]; omega
      · rw [e0, ← hA, hnum, hd]; have := p256 (e.all.length - n); simp only [Int.pow_zero, Int.mul_one]; omega
  · have e0 : e.all.length - n = 0 := by omega
    have h1 : e.out1 n = e.out0 n := by unfold E.out1; rw [if_neg (by omega)]
    have h2 : num (e.out0 n) = 2 * e.low * 256 ^ (n - e.all.length) := by
      rw [out0_short e n (by omega), num_append, rep_num, List.length_replicate, hA]
      simp
    rw [h1]
    refine ⟨e.out0_bytes n hr, by rw [out0_short e n (by omega)]; simp; omega, ?_, ?_⟩
    · rw [e0, h2]; simp only [Int.pow_zero, Int.mul_one]; omega
    · rw [e0, h2]; simp only [Int.pow_zero, Int.mul_one]; omega
/-- What is told fits. -/
structure Fits (e : E) (n r : Nat) : Prop where
  lt : r < 8 * n
  pow : (2 : Int) ^ r * 256 ^ (e.all.length - n) ≤ e.rng * 256 ^ (n - e.all.length)
theorem fits (e : E) (h : EOk e) (hr : EOkR e) (n : Nat) (hfit : e.tell ≤ 8 * n) : Fits e n e.rawBits.toNat := by
  have r1 := h.r1
  have r2 := h.r2
  have hb0 := hr.b0
  have hcnt := hr.cnt
  have hlen := all_length e
  obtain ⟨s1, s2⟩ := bitLenAux_spec 64 e.rng.toNat (by omega)
  have s2' := s2 (by omega)
  have hL : Lib.bitLen e.rng.toNat = Lib.bitLenAux 64 e.rng.toNat := rfl
  have h32 := bitLen_le32 e.rng.toNat (by omega)
  rw [← hL] at s2'
  unfold E.tell at hfit
  generalize Lib.bitLen e.rng.toNat = L at *
  refine ⟨by omega, ?_⟩
  have hL2 : (2 : Int) ^ L ≤ 2 * e.rng := by
    have : ((2 ^ L : Nat) : Int) ≤ ((2 * e.rng.toNat : Nat) : Int) := by exact_mod_cast s2'
    have e1 : ((2 ^ L : Nat) : Int) = 2 ^ L := by push_cast; rfl
    omega
  have h3 : (2 : Int) ^ (1 + e.rawBits.toNat + 8 * (e.all.length - n)) ≤ 2 ^ (L + 8 * (n - e.all.length)) := by
    exact_mod_cast Nat.pow_le_pow_right (by decide) (by omega)
  rw [Int.pow_add, Int.pow_add, Int.pow_add, Int.pow_mul, Int.pow_mul, show (2 : Int) ^ 8 = 256 by decide, show (2 : Int) ^ 1 = 2 by decide] at h3
  have h4 : (2 : Int) ^ L * 256 ^ (n - e.all.length) ≤ 2 * e.rng * 256 ^ (n - e.all.length) := Int.mul_le_mul_of_nonneg_right hL2 (by have := p256 (n - e.all.length); omega)
  rw [Int.mul_assoc] at h3 h4
  omega
structure DoneOk (e : E) (n : Nat) : Prop where
  by_ : Bytes (e.done n)
  len : (e.done n).length = n
  inn : In (e.done n) e
  raw : num (e.done n) % 2 ^ e.rawBits.toNat = numR e.raw % 2 ^ e.rawBits.toNat
theorem done_ok (e : E) (h : EOk e) (hr : EOkR e) (hw : EW e) (n : Nat) (hfit : e.tell ≤ 8 * n) : DoneOk e n := by
  obtain ⟨f1, f2⟩ := fits e h hr n hfit
  have hb0 := hr.b0
  have hrl := hr.len
  have r1 := h.r1
  have v0 := h.v0
  have v1 := h.v1
  have hlen := all_length e
  have htop := hw.top
  obtain ⟨r, hrd⟩ : ∃ r, r = e.rawBits.toNat := ⟨_, rfl⟩
  rw [← hrd] at f1 f2
  have hP := p256 (e.all.length - n)
  have hQ := p256 (n - e.all.length)
  have hR := p2 r
  have h256 : (256 : Int) ^ (e.all.length - n) ≤ 2 * e.rng := by
    by_cases hc : n < e.all.length
    · have e0 : n - e.all.length = 0 := by omega
      rw [e0] at f2
      have : 1 * (256 : Int) ^ (e.all.length - n) ≤ 2 ^ r * 256 ^ (e.all.length - n) := Int.mul_le_mul_of_nonneg_right (by omega) (by omega)
      simp at f2
      omega
    · rw [show e.all.length - n = 0 by omega]
      simp; omega
  obtain ⟨o1, o2, o3, o4⟩ := out1_rounded e hr hw v0 v1 n h256
  have hn2 : num (e.out2 n) = num (e.out1 n) - num (e.out1 n) % 2 ^ r + numR e.raw % 2 ^ r := by
    unfold E.out2
    rw [← hrd]
    exact layBits_num e.raw n (e.out1 n) o1 o2 hr.rb r (by omega) (by omega)
  have b2 : Bytes (e.out2 n) := layBits_bytes _ _ _ o1 _
  have l2 : (e.out2 n).length = n := by unfold E.out2; rw [layBits_length]; exact o2
  have m0 := Int.emod_nonneg (num (e.out1 n)) (show (2 : Int) ^ r ≠ 0 by omega)
  have m1 := Int.emod_lt_of_pos (num (e.out1 n)) hR
  have k0 := Int.emod_nonneg (numR e.raw) (show (2 : Int) ^ r ≠ 0 by omega)
  have k1 := Int.emod_lt_of_pos (numR e.raw) hR
  -- the top: the number and less than 2^r more are below all bytes
  have e4 : 2 * (2147483648 * (256 : Int) ^ e.told.length) * 256 ^ (n - e.all.length) = 256 ^ n * 256 ^ (e.all.length - n) := by
    rw [← Int.pow_add, show n + (e.all.length - n) = e.told.length + 4 + (n - e.all.length) by omega, Int.pow_add, Int.pow_add]
    congr 1
    omega
  have e5 : (num (e.out1 n) + 2 ^ r - 1) * 256 ^ (e.all.length - n) < (2 * e.low + e.rng) * 256 ^ (n - e.all.length) := by
    rw [Int.sub_mul, Int.add_mul, Int.add_mul]
    omega
  have e6 : (num (e.out1 n) + 2 ^ r - 1) < 256 ^ n := by
    have h1 : (2 * e.low + e.rng) * 256 ^ (n - e.all.length) ≤ 2 * (2147483648 * (256 : Int) ^ e.told.length) * 256 ^ (n - e.all.length) := Int.mul_le_mul_of_nonneg_right (by omega) (by omega)
    exact Int.lt_of_mul_lt_mul_right (a := 256 ^ (e.all.length - n)) (by omega) (by omega)
  have hcmp := cmpL_num (e.out2 n) (e.out1 n) b2 o1 (by omega)
  have hdone : Bytes (e.done n) ∧ (e.done n).length = n ∧ num (e.out1 n) ≤ num (e.done n) ∧ num (e.done n) ≤ num (e.out1 n) + 2 ^ r - 1 ∧ num (e.done n) % 2 ^ r = numR e.raw % 2 ^ r := by
    have hmod : ∀ j : Int, (num (e.out1 n) - num (e.out1 n) % 2 ^ r + numR e.raw % 2 ^ r + j * 2 ^ r) % 2 ^ r = numR e.raw % 2 ^ r := by
      intro j
      have h3 : num (e.out1 n) - num (e.out1 n) % 2 ^ r = num (e.out1 n) / 2 ^ r * 2 ^ r := by have := Int.mul_ediv_add_emod (num (e.out1 n)) (2 ^ r); rw [Int.mul_comm]; omega
      rw [h3, Int.add_mul_emod_self_right, Int.add_comm, Int.add_mul_emod_self_right, Int.emod_emod]
    by_cases hc : cmpL (e.out2 n) (e.out1 n) < 0
    · have hd : e.done n = increase (e.out2 n) r := by unfold E.done; rw [if_pos hc, hrd]
      have hlt := hcmp.1 hc
      obtain ⟨c1, c2⟩ := increase_fit (e.out2 n) r b2 (by omega) (by rw [l2]; omega)
      rw [hd]
      refine ⟨c1, by rw [increase_length]; exact l2, by omega, by omega, ?_⟩
      rw [c2, hn2]
      have := hmod 1
      rw [Int.one_mul] at this
      exact this
    · have hd : e.done n = e.out2 n := by unfold E.done; rw [if_neg hc]
      have hge : ¬ num (e.out2 n) < num (e.out1 n) := fun hh => hc (hcmp.2 hh)
      rw [hd]
      refine ⟨b2, l2, by omega, by omega, ?_⟩
      rw [hn2]
      have := hmod 0
      rw [Int.zero_mul, Int.add_zero] at this
      exact this
  obtain ⟨q1, q2, q3, q4, q5⟩ := hdone
  refine ⟨q1, q2, ?_, by rw [← hrd]; exact q5⟩
  have hge : num (e.out1 n) * 256 ^ (e.all.length - n) ≤ num (e.done n) * 256 ^ (e.all.length - n) := Int.mul_le_mul_of_nonneg_right q3 (by omega)
  have hle : num (e.done n) * 256 ^ (e.all.length - n) ≤ (num (e.out1 n) + 2 ^ r - 1) * 256 ^ (e.all.length - n) := Int.mul_le_mul_of_nonneg_right q4 (by omega)
  unfold In X
  rw [← hlen]
  by_cases hc : n ≤ e.all.length
  · have e0 : n - e.all.length = 0 := by omega
    rw [e0] at o3 e5
    have hp : pre (e.done n) e.all.length = num (e.done n) * 256 ^ (e.all.length - n) := by
      have := pre_far (e.done n) (e.all.length - n)
      rw [q2, show n + (e.all.length - n) = e.all.length by omega] at this
      exact this
    rw [hp]
    simp at o3 e5
    omega
  · have e0 : e.all.length - n = 0 := by omega
    rw [e0] at o3 e5 hge hle
    have hp : pre (e.done n) e.all.length = num (e.done n) / 256 ^ (n - e.all.length) := by
      have := pre_num (e.done n) q1 e.all.length (by omega)
      rw [q2] at this
      exact this
    rw [hp]
    simp at o3 e5 hge hle
    have g1 : 2 * e.low ≤ num (e.done n) / 256 ^ (n - e.all.length) := by
      rw [Int.le_ediv_iff_mul_le hQ]; omega
    have g2 : num (e.done n) / 256 ^ (n - e.all.length) < 2 * e.low + e.rng := by
      rw [Int.ediv_lt_iff_lt_mul hQ]; omega
    omega
end Go.Proofs.Ytiabenmgbikllaa.M

-- P0
namespace Go.Proofs.Ytiabenmgbikllaa.M
set_option linter.unusedVariables false
open Go.RowKit Go.Proofs.YtiabenmgbikllaaW.PrintWords Go.Proofs.YtiabenmgbikllaaW.PrintLast Go.Proofs.YtiabenmgbikllaaW.PrintMore Go.Proofs.Ytiabenmgbikllaa.PAll
attribute [local go_sem] max2_int min2_int max_two min_two max_three min_three max_four min_four

/-- A number below ft; below one there is none to read. -/
def D.ui (d : D) (ft : Int) : Int := if ft ≤ 1 then 0 else d.uintV ft
def D.uiD (d : D) (ft : Int) : D := if ft ≤ 1 then d else d.uintD ft
theorem ui_ok (d : D) (h : DOk d) (hr : DRaw d) (ft : Int) (f0 : 1 ≤ ft) (f1 : ft ≤ 4294967295) (hk : d.count ≤ 800000000000000000) :
    DOk (d.uiD ft) ∧ DRaw (d.uiD ft) ∧ (d.uiD ft).b = d.b ∧ (d.uiD ft).count ≤ d.count + 48 ∧ 0 ≤ d.ui ft ∧ d.ui ft < ft := by
  unfold D.ui D.uiD
  by_cases h1 : ft ≤ 1
  · rw [if_pos h1, if_pos h1]
    exact ⟨h, hr, rfl, by omega, by omega, by omega⟩
  · rw [if_neg h1, if_neg h1]
    obtain ⟨a, b, c, d, e, f⟩ := uint_ok d h hr ft (by omega) f1 hk
    exact ⟨a, f, c, b, d, e⟩
/-- k pulses over 2^n places. -/
def shareR : Nat → D → Int → List Int × D
  | 0, d, k => ([k], d)
  | n + 1, d, k =>
    ((shareR n (d.uiD (k + 1)) (d.ui (k + 1))).1 ++ (shareR n (shareR n (d.uiD (k + 1)) (d.ui (k + 1))).2 (k - d.ui (k + 1))).1,
      (shareR n (shareR n (d.uiD (k + 1)) (d.ui (k + 1))).2 (k - d.ui (k + 1))).2)
structure ShareOk (n : Nat) (d : D) (k : Int) (r : List Int × D) : Prop where
  ok : DOk r.2
  raw : DRaw r.2
  b : r.2.b = d.b
  cnt : r.2.count + 48 ≤ d.count + 48 * 2 ^ n
  len : r.1.length = 2 ^ n
  pos : ∀ x ∈ r.1, 0 ≤ x ∧ x ≤ k
  sum : r.1.sum = k
theorem share_ok : ∀ (n : Nat) (d : D) (k : Int), DOk d → DRaw d → 0 ≤ k → k ≤ 64 → d.count + 48 * 2 ^ n ≤ 800000000000000000 → ShareOk n d k (shareR n d k)
  | 0, d, k, h, hr, k0, k1, hc => ⟨h, hr, rfl, by show d.count + 48 ≤ _; simp, rfl, fun x hx => by simp [shareR] at hx; omega, by simp [shareR]⟩
  | n + 1, d, k, h, hr, k0, k1, hc => by
    have hp := p2 n
    rw [Int.pow_succ] at hc
    obtain ⟨u1, u2, u3, u4, u5, u6⟩ := ui_ok d h hr (k + 1) (by omega) (by omega) (by omega)
    obtain ⟨a1, a2, a3, a4, a5, a6, a7⟩ := share_ok n (d.uiD (k + 1)) (d.ui (k + 1)) u1 u2 u5 (by omega) (by omega)
    obtain ⟨b1, b2, b3, b4, b5, b6, b7⟩ := share_ok n _ (k - d.ui (k + 1)) a1 a2 (by omega) (by omega) (by omega)
    refine ⟨b1, b2, (b3.trans a3).trans u3, ?_, ?_, ?_, ?_⟩
    · show (shareR n (shareR n (d.uiD (k + 1)) (d.ui (k + 1))).2 (k - d.ui (k + 1))).2.count + 48 ≤ d.count + 48 * 2 ^ (n + 1)
      rw [Int.pow_succ]
      omega
    · show (_ ++ _ : List Int).length = _
      rw [List.length_append, a5, b5, Nat.pow_succ]; omega
    · intro x hx
      rcases List.mem_append.1 hx with hx | hx
      · have := a6 x hx; omega
      · have := b6 x hx; omega
    · show (_ ++ _ : List Int).sum = _
      rw [List.sum_append, a7, b7]; omega
/-- A row of whole numbers is a whole block. -/
def Blk (w : World) (b : Nat) (xs : List Int) : Prop := w.heap[b]? = some (.cells (nums .i64 xs).toArray 2 (0, 0))
theorem Blk.lt {w : World} {b : Nat} {xs : List Int} (h : Blk w b xs) : b < w.heap.size := blk_lt h
theorem Blk.chg {w w1 : World} {S : Nat → Prop} {b : Nat} {xs : List Int} (h : Blk w b xs) (k : Chg w w1 S) (hb : ¬ S b) : Blk w1 b xs := k.blk h hb
theorem Blk.cell {w : World} {b : Nat} {xs : List Int} (h : Blk w b xs) (i : Nat) (hi : i < xs.length) : w.cell? ⟨b, i, none⟩ = some (.int .i64 (rd xs i)) := by
  rw [blk_cell h i]
  simp [nums, rd, hi]
theorem Blk.frozen {w : World} {b : Nat} {xs : List Int} (h : Blk w b xs) (i : Nat) : w.frozen? ⟨b, i, none⟩ = false := blk_frozen h i
theorem Blk.set {w : World} {b : Nat} {xs : List Int} (h : Blk w b xs) (i : Nat) (x : Int) : Blk (w.setCell ⟨b, i, none⟩ (.int .i64 x)) b (xs.set i x) := by
  refine blk_put h i _ ?_
  simp [nums]
theorem Blk.reads {w : World} {b : Nat} {xs : List Int} (h : Blk w b xs) (off m : Nat) (hm : off + m ≤ xs.length) (hb : m ≤ 9223372036854775807) : ReadsInt w .i64 (some ⟨b, off, none⟩) m ((xs.drop off).take m) := by
  refine ⟨by simp; omega, hb, fun _ => ⟨_, rfl, fun j hj => ?_⟩⟩
  have := h.cell (off + j) (by omega)
  have e : (Addr.add ⟨b, off, none⟩ j) = ⟨b, off + j, none⟩ := by simp [Addr.add]
  rw [e, this, ← rd_eq]
  simp [List.getD, hj, List.getElem?_drop]
/-- The numbers ys are laid into xs from off on. -/
def lay (xs : List Int) (off : Nat) (ys : List Int) : List Int := xs.take off ++ (ys ++ xs.drop (off + ys.length))
theorem lay_length (xs : List Int) (off : Nat) (ys : List Int) (h : off + ys.length ≤ xs.length) : (lay xs off ys).length = xs.length := by
  simp [lay]; omega
theorem lay_lay (xs : List Int) (off : Nat) (ys zs : List Int) (h : off + ys.length + zs.length ≤ xs.length) : lay (lay xs off ys) (off + ys.length) zs = lay xs off (ys ++ zs) := by
  unfold lay
  have h1 : (xs.take off).length = off := by simp; omega
  have e1 : (xs.take off ++ (ys ++ xs.drop (off + ys.length))).take (off + ys.length) = xs.take off ++ ys := by
    rw [← List.append_assoc]
    exact List.take_left' (by rw [List.length_append, h1])
  have e2 : (xs.take off ++ (ys ++ xs.drop (off + ys.length))).drop (off + ys.length + zs.length) = xs.drop (off + (ys ++ zs).length) := by
    rw [← List.append_assoc, List.drop_append, List.length_append, h1, List.drop_eq_nil_of_le (by simp; omega), List.nil_append, List.drop_drop, List.length_append]
    congr 1; omega
  rw [e1, e2]
  simp
theorem set_lay (xs : List Int) (off : Nat) (x : Int) (h : off < xs.length) : xs.set off x = lay xs off [x] := by
  unfold lay
  rw [List.set_eq_take_append_cons_drop, if_pos h]
  simp
end Go.Proofs.Ytiabenmgbikllaa.M

-- P1
namespace Go.Proofs.Ytiabenmgbikllaa.M
set_option linter.unusedVariables false
open Go.RowKit Go.Proofs.YtiabenmgbikllaaW.PrintWords Go.Proofs.YtiabenmgbikllaaW.PrintLast Go.Proofs.YtiabenmgbikllaaW.PrintMore Go.Proofs.Ytiabenmgbikllaa.PAll
attribute [local go_sem] max2_int min2_int max_two min_two max_three min_three max_four min_four

set_option maxHeartbeats 1000000 in
set_option maxRecDepth 100000 in
theorem dui1_calls (w : World) (g : Nat) (ft : Int) (f1 : ft ≤ 1) : Calls Try.prog 81 #[.pointer (some ⟨g, 0, none⟩), .int .i64 ft] w fun r w' => r = .returned (.int .i64 0) ∧ Chg w w' No := by
  go_enter Try.func81, Try.ntmps81
  go_wp2_with fail
  go_returns
  exact ⟨rfl, (by repeat (first | exact Chg.refl _ _ | apply Chg.drew | apply Chg.drewN))⟩
set_option maxHeartbeats 1000000 in
set_option maxRecDepth 100000 in
theorem rui1_calls (w : World) (g : Nat) (ft : Int) (f1 : ft = 1) : Calls Try.prog 25 #[.pointer (some ⟨g, 0, none⟩), .int .i64 ft] w fun r w' => r = .returned (.int .i64 0) ∧ Chg w w' No := by
  subst f1
  go_enter Try.func25, Try.ntmps25
  go_wp2_with fail
  go_returns
  exact ⟨rfl, (by repeat (first | exact Chg.refl _ _ | apply Chg.drew | apply Chg.drewN))⟩
theorem dui_calls (w0 w : World) (g : Nat) (d : D) (ft : Int) (h : DecAt w0 w g d) (hd : DOk d) (hr : DRaw d) (f0 : 1 ≤ ft) (f1 : ft ≤ 4294967295) (hk : d.count ≤ 800000000000000000) :
    Calls Try.prog 81 #[.pointer (some ⟨g, 0, none⟩), .int .i64 ft] w fun r w' => r = .returned (.int .i64 (d.ui ft)) ∧ DecAt w0 w' g (d.uiD ft) ∧ Chg w w' (One g) := by
  unfold D.ui D.uiD
  by_cases h1 : ft ≤ 1
  · rw [if_pos h1, if_pos h1]
    exact (dui1_calls w g ft h1).mono fun r w' ⟨a, b⟩ => ⟨a, h.chg b (fun h => h) (fun _ h => False.elim h), b.mono (fun _ h => False.elim h)⟩
  · rw [if_neg h1, if_neg h1]
    exact duint_calls w0 w g d ft h hd hr (by omega) f1 hk
theorem rui_calls (w0 w : World) (g : Nat) (d : D) (ft : Int) (h : RefAt w0 w g d) (hd : DOk d) (hr : DRaw d) (f0 : 1 ≤ ft) (f1 : ft ≤ 4294967295) (hk : d.count ≤ 800000000000000000) :
    Calls Try.prog 25 #[.pointer (some ⟨g, 0, none⟩), .int .i64 ft] w fun r w' => r = .returned (.int .i64 (d.ui ft)) ∧ RefAt w0 w' g (d.uiD ft) ∧ Chg w w' (One g) := by
  unfold D.ui D.uiD
  by_cases h1 : ft ≤ 1
  · rw [if_pos h1, if_pos h1]
    exact (rui1_calls w g ft (by omega)).mono fun r w' ⟨a, b⟩ => ⟨a, h.chg b (fun h => h) (fun _ h => False.elim h), b.mono (fun _ h => False.elim h)⟩
  · rw [if_neg h1, if_neg h1]
    exact ruint_calls w0 w g d ft h hd hr (by omega) f1 hk

/-- The two blocks g and b. -/
def Pair (g b : Nat) : Nat → Prop := fun k => k = g ∨ k = b
theorem Chg.inl {w w1 : World} {g b : Nat} (h : Chg w w1 (One g)) : Chg w w1 (Pair g b) := h.mono (fun _ h => .inl h)
theorem Chg.inr {w w1 : World} {g b : Nat} (h : Chg w w1 (One b)) : Chg w w1 (Pair g b) := h.mono (fun _ h => .inr h)
/-- A run of m places is shared out. -/
def ShareAt (w0 : World) (g b n m : Nat) : Prop := ∀ (w : World) (d : D) (xs : List Int) (off cap : Nat) (k : Int), DecAt w0 w g d → Blk w b xs → DOk d → DRaw d → 0 ≤ k → k ≤ 16 → d.count + 48 * m ≤ 800000000000000000 → off + m ≤ xs.length → m ≤ cap →
  Calls Try.prog 86 #[.pointer (some ⟨g, 0, none⟩), .slice (some ⟨b, off, none⟩) m cap, .int .i64 k] w fun r w' => r = .returned (.tuple #[]) ∧ DecAt w0 w' g (shareR n d k).2 ∧ Blk w' b (lay xs off (shareR n d k).1) ∧ Chg w w' (Pair g b)

set_option maxHeartbeats 1000000 in
set_option maxRecDepth 100000 in
theorem share_one (w0 : World) (g b : Nat) (hne : g ≠ b) (hb : w0.heap.size ≤ b) : ShareAt w0 g b 0 1 := by
  intro w d xs off cap k h hx hd hr k0 k1 hc ho hcap
  have y0 := hx.cell off (by omega)
  have z0 := hx.frozen off
  have HH := Aside0.mk (And.intro h hx)
  clear h hx hd hr
  go_enter Try.func86, Try.ntmps86
  go_wp2_with fail
  go_returns
  have kc : Chg w (w.setCell ⟨b, off, none⟩ (.int .i64 k)) (One b) := (Chg.refl w (One b)).setCell (p := ⟨b, off, none⟩) (.inl rfl) _
  exact ⟨rfl, HH.out.1.chg kc (fun hh => hne hh) (fun i hi => by rw [show i = b from hi]; exact hb), by show Blk _ b (lay xs off [k]); rw [← set_lay xs off k (by omega)]; exact HH.out.2.set off k, kc.inr⟩

set_option maxHeartbeats 4000000 in
set_option maxRecDepth 100000 in
theorem share_step (w0 : World) (g b n m : Nat) (hm : m = 1 ∨ m = 2 ∨ m = 4 ∨ m = 8) (hn : m = 2 ^ n) (hne : g ≠ b) (hb : w0.heap.size ≤ b) (ih : ShareAt w0 g b n m) : ShareAt w0 g b (n + 1) (2 * m) := by
  intro w d xs off cap k h hx hd hr k0 k1 hc ho hcap
  obtain ⟨u1, u2, u3, u4, u5, u6⟩ := ui_ok d hd hr (k + 1) (by omega) (by omega) (by omega)
  have hpn : ((2 : Int) ^ n) = m := by rw [hn]; push_cast; rfl
  have S := share_ok n (d.uiD (k + 1)) (d.ui (k + 1)) u1 u2 u5 (by omega) (by rw [hpn]; omega)
  have hcA := S.cnt
  have hlA := S.len
  rw [hpn] at hcA
  rw [← hn] at hlA
  have SS := share_ok n _ (k - d.ui (k + 1)) S.ok S.raw (by omega) (by omega) (by rw [hpn]; omega)
  have hlB := SS.len
  rw [← hn] at hlB
  obtain ⟨f, hf⟩ : ∃ f, f = d.ui (k + 1) := ⟨_, rfl⟩
  obtain ⟨d1, hd1⟩ : ∃ d1, d1 = d.uiD (k + 1) := ⟨_, rfl⟩
  rw [← hf, ← hd1] at S hcA hlA hlB
  rw [← hf] at u5 u6
  obtain ⟨A, hA⟩ : ∃ A, A = shareR n d1 f := ⟨_, rfl⟩
  obtain ⟨B, hB⟩ : ∃ B, B = shareR n A.2 (k - f) := ⟨_, rfl⟩
  rw [← hA] at S hcA hlA hlB
  rw [← hB] at hlB
  have E : Aside0 (shareR (n + 1) d k = (A.1 ++ B.1, B.2)) := ⟨by rw [hB, hA, hd1, hf]; rfl⟩
  have HA := Aside0.mk (And.intro hA hB)
  have HD := Aside0.mk (And.intro hf hd1)
  have hc1 : d1.count ≤ d.count + 48 := by rw [hd1]; exact u4
  have HO : Aside0 (DOk d1 ∧ DRaw d1 ∧ DOk A.2 ∧ DRaw A.2) := ⟨by rw [hd1]; exact ⟨u1, u2, S.ok, S.raw⟩⟩
  have HH := Aside0.mk (And.intro h (And.intro hx (And.intro hd hr)))
  have HI := Aside0.mk ih
  have HL := Aside0.mk (And.intro hlA hlB)
  clear h hx hd hr S SS hA hB hf hd1 ih u1 u2 u3 u4 hn hpn hlA hlB
  rcases hm with rfl | rfl | rfl | rfl
  all_goals
    simp only [Nat.reduceMul] at ho hcap hc ⊢
    go_enter Try.func86, Try.ntmps86
    go_wp2_with fail
    refine (dui_calls w0 w g d (k + 1) HH.out.1 HH.out.2.2.1 HH.out.2.2.2 (by omega) (by omega) (by omega)).mono ?_
    rintro r w1 ⟨rfl, h1, c1⟩
    rw [← HD.out.2] at h1
    rw [← HD.out.1]
    have H1 := Aside0.mk (And.intro h1 (And.intro c1 (HH.out.2.1.chg c1 (fun hh => hne (Eq.symm hh)))))
    clear h1 c1
    go_wp2_with fail
    refine (HI.out w1 d1 xs off _ f H1.out.1 H1.out.2.2 HO.out.1 HO.out.2.1 u5 (by omega) (by omega) (by omega) (by omega)).mono ?_
    rintro r w2 ⟨rfl, h2, x2, c2⟩
    rw [← HA.out.1] at h2 x2
    have H2 := Aside0.mk (And.intro h2 (And.intro x2 c2))
    clear h2 x2 c2
    go_wp2_with fail
    refine (HI.out w2 A.2 (lay xs off A.1) _ _ (k - f) H2.out.1 H2.out.2.1 HO.out.2.2.1 HO.out.2.2.2 (by omega) (by omega) (by omega) (by rw [lay_length _ _ _ (by have := HL.out.1; omega)]; omega) (by omega)).mono ?_
    rintro r w3 ⟨rfl, h3, x3, c3⟩
    rw [← HA.out.2] at h3 x3
    have e := lay_lay xs off A.1 B.1 (by have := HL.out.1; have := HL.out.2; omega)
    rw [HL.out.1] at e
    rw [e] at x3
    have H3 := Aside0.mk (And.intro h3 (And.intro x3 c3))
    clear h3 x3 c3 e
    go_wp2_with fail
    go_returns
    refine ⟨rfl, ?_, ?_, (H1.out.2.1.inl.trans H2.out.2.2 (Ext.refl _ _)).trans H3.out.2.2 (Ext.refl _ _)⟩
    · rw [E.out]; exact H3.out.1
    · rw [E.out]; exact H3.out.2.1
theorem share16 (w0 : World) (g b : Nat) (hne : g ≠ b) (hb : w0.heap.size ≤ b) : ShareAt w0 g b 4 16 :=
  share_step w0 g b 3 8 (by omega) (by decide) hne hb (share_step w0 g b 2 4 (by omega) (by decide) hne hb (share_step w0 g b 1 2 (by omega) (by decide) hne hb (share_step w0 g b 0 1 (by omega) (by decide) hne hb (share_one w0 g b hne hb))))
end Go.Proofs.Ytiabenmgbikllaa.M

-- P2
namespace Go.Proofs.Ytiabenmgbikllaa.M
set_option linter.unusedVariables false
open Go.RowKit Go.Proofs.YtiabenmgbikllaaW.PrintWords Go.Proofs.YtiabenmgbikllaaW.PrintLast Go.Proofs.YtiabenmgbikllaaW.PrintMore Go.Proofs.Ytiabenmgbikllaa.PAll
attribute [local go_sem] max2_int min2_int max_two min_two max_three min_three max_four min_four

/-- A run of m places is shared out. -/
def RShareAt (w0 : World) (g b n m : Nat) : Prop := ∀ (w : World) (d : D) (xs : List Int) (off cap : Nat) (k : Int), RefAt w0 w g d → Blk w b xs → DOk d → DRaw d → 0 ≤ k → k ≤ 16 → d.count + 48 * m ≤ 800000000000000000 → off + m ≤ xs.length → m ≤ cap →
  Calls Try.prog 100 #[.pointer (some ⟨g, 0, none⟩), .slice (some ⟨b, off, none⟩) m cap, .int .i64 k] w fun r w' => r = .returned (.tuple #[]) ∧ RefAt w0 w' g (shareR n d k).2 ∧ Blk w' b (lay xs off (shareR n d k).1) ∧ Chg w w' (Pair g b)

set_option maxHeartbeats 1000000 in
set_option maxRecDepth 100000 in
theorem rshare_one (w0 : World) (g b : Nat) (hne : g ≠ b) (hb : w0.heap.size ≤ b) : RShareAt w0 g b 0 1 := by
  intro w d xs off cap k h hx hd hr k0 k1 hc ho hcap
  have y0 := hx.cell off (by omega)
  have z0 := hx.frozen off
  have HH := Aside0.mk (And.intro h hx)
  clear h hx hd hr
  go_enter Try.func100, Try.ntmps100
  go_wp2_with fail
  go_returns
  have kc : Chg w (w.setCell ⟨b, off, none⟩ (.int .i64 k)) (One b) := (Chg.refl w (One b)).setCell (p := ⟨b, off, none⟩) (.inl rfl) _
  exact ⟨rfl, HH.out.1.chg kc (fun hh => hne hh) (fun i hi => by rw [show i = b from hi]; exact hb), by show Blk _ b (lay xs off [k]); rw [← set_lay xs off k (by omega)]; exact HH.out.2.set off k, kc.inr⟩

set_option maxHeartbeats 4000000 in
set_option maxRecDepth 100000 in
theorem rshare_step (w0 : World) (g b n m : Nat) (hm : m = 1 ∨ m = 2 ∨ m = 4 ∨ m = 8) (hn : m = 2 ^ n) (hne : g ≠ b) (hb : w0.heap.size ≤ b) (ih : RShareAt w0 g b n m) : RShareAt w0 g b (n + 1) (2 * m) := by
  intro w d xs off cap k h hx hd hr k0 k1 hc ho hcap
  obtain ⟨u1, u2, u3, u4, u5, u6⟩ := ui_ok d hd hr (k + 1) (by omega) (by omega) (by omega)
  have hpn : ((2 : Int) ^ n) = m := by rw [hn]; push_cast; rfl
  have S := share_ok n (d.uiD (k + 1)) (d.ui (k + 1)) u1 u2 u5 (by omega) (by rw [hpn]; omega)
  have hcA := S.cnt
  have hlA := S.len
  rw [hpn] at hcA
  rw [← hn] at hlA
  have SS := share_ok n _ (k - d.ui (k + 1)) S.ok S.raw (by omega) (by omega) (by rw [hpn]; omega)
  have hlB := SS.len
  rw [← hn] at hlB
  obtain ⟨f, hf⟩ : ∃ f, f = d.ui (k + 1) := ⟨_, rfl⟩
  obtain ⟨d1, hd1⟩ : ∃ d1, d1 = d.uiD (k + 1) := ⟨_, rfl⟩
  rw [← hf, ← hd1] at S hcA hlA hlB
  rw [← hf] at u5 u6
  obtain ⟨A, hA⟩ : ∃ A, A = shareR n d1 f := ⟨_, rfl⟩
  obtain ⟨B, hB⟩ : ∃ B, B = shareR n A.2 (k - f) := ⟨_, rfl⟩
  rw [← hA] at S hcA hlA hlB
  rw [← hB] at hlB
  have E : Aside0 (shareR (n + 1) d k = (A.1 ++ B.1, B.2)) := ⟨by rw [hB, hA, hd1, hf]; rfl⟩
  have HA := Aside0.mk (And.intro hA hB)
  have HD := Aside0.mk (And.intro hf hd1)
  have hc1 : d1.count ≤ d.count + 48 := by rw [hd1]; exact u4
  have HO : Aside0 (DOk d1 ∧ DRaw d1 ∧ DOk A.2 ∧ DRaw A.2) := ⟨by rw [hd1]; exact ⟨u1, u2, S.ok, S.raw⟩⟩
  have HH := Aside0.mk (And.intro h (And.intro hx (And.intro hd hr)))
  have HI := Aside0.mk ih
  have HL := Aside0.mk (And.intro hlA hlB)
  clear h hx hd hr S SS hA hB hf hd1 ih u1 u2 u3 u4 hn hpn hlA hlB
  rcases hm with rfl | rfl | rfl | rfl
  all_goals
    simp only [Nat.reduceMul] at ho hcap hc ⊢
    go_enter Try.func100, Try.ntmps100
    go_wp2_with fail
    refine (rui_calls w0 w g d (k + 1) HH.out.1 HH.out.2.2.1 HH.out.2.2.2 (by omega) (by omega) (by omega)).mono ?_
    rintro r w1 ⟨rfl, h1, c1⟩
    rw [← HD.out.2] at h1
    rw [← HD.out.1]
    have H1 := Aside0.mk (And.intro h1 (And.intro c1 (HH.out.2.1.chg c1 (fun hh => hne (Eq.symm hh)))))
    clear h1 c1
    go_wp2_with fail
    refine (HI.out w1 d1 xs off _ f H1.out.1 H1.out.2.2 HO.out.1 HO.out.2.1 u5 (by omega) (by omega) (by omega) (by omega)).mono ?_
    rintro r w2 ⟨rfl, h2, x2, c2⟩
    rw [← HA.out.1] at h2 x2
    have H2 := Aside0.mk (And.intro h2 (And.intro x2 c2))
    clear h2 x2 c2
    go_wp2_with fail
    refine (HI.out w2 A.2 (lay xs off A.1) _ _ (k - f) H2.out.1 H2.out.2.1 HO.out.2.2.1 HO.out.2.2.2 (by omega) (by omega) (by omega) (by rw [lay_length _ _ _ (by have := HL.out.1; omega)]; omega) (by omega)).mono ?_
    rintro r w3 ⟨rfl, h3, x3, c3⟩
    rw [← HA.out.2] at h3 x3
    have e := lay_lay xs off A.1 B.1 (by have := HL.out.1; have := HL.out.2; omega)
    rw [HL.out.1] at e
    rw [e] at x3
    have H3 := Aside0.mk (And.intro h3 (And.intro x3 c3))
    clear h3 x3 c3 e
    go_wp2_with fail
    go_returns
    refine ⟨rfl, ?_, ?_, (H1.out.2.1.inl.trans H2.out.2.2 (Ext.refl _ _)).trans H3.out.2.2 (Ext.refl _ _)⟩
    · rw [E.out]; exact H3.out.1
    · rw [E.out]; exact H3.out.2.1
theorem rshare16 (w0 : World) (g b : Nat) (hne : g ≠ b) (hb : w0.heap.size ≤ b) : RShareAt w0 g b 4 16 :=
  rshare_step w0 g b 3 8 (by omega) (by decide) hne hb (rshare_step w0 g b 2 4 (by omega) (by decide) hne hb (rshare_step w0 g b 1 2 (by omega) (by decide) hne hb (rshare_step w0 g b 0 1 (by omega) (by decide) hne hb (rshare_one w0 g b hne hb))))
end Go.Proofs.Ytiabenmgbikllaa.M

-- P3
namespace Go.Proofs.Ytiabenmgbikllaa.M
set_option linter.unusedVariables false
open Go.RowKit Go.Proofs.YtiabenmgbikllaaW.PrintWords Go.Proofs.YtiabenmgbikllaaW.PrintLast Go.Proofs.YtiabenmgbikllaaW.PrintMore Go.Proofs.Ytiabenmgbikllaa.PAll
attribute [local go_sem] max2_int min2_int max_two min_two max_three min_three max_four min_four

/-- A sign. -/
def sgnV (d : D) (x : Int) : Int := if 0 < x then (if d.bitsV 1 = 1 then -x else x) else x
def sgnD (d : D) (x : Int) : D := if 0 < x then d.bits 1 else d
/-- Signs, up to place i. -/
def signsR : List Int → D → List Int × D
  | [], d => ([], d)
  | x :: l, d => (sgnV d x :: (signsR l (sgnD d x)).1, (signsR l (sgnD d x)).2)
theorem signsR_snoc (l : List Int) (x : Int) : ∀ d, signsR (l ++ [x]) d = ((signsR l d).1 ++ [sgnV (signsR l d).2 x], sgnD (signsR l d).2 x) := by
  induction l with
  | nil => intro d; rfl
  | cons y l ih => intro d; simp only [List.cons_append, signsR, ih]
theorem signsR_length (l : List Int) : ∀ d, (signsR l d).1.length = l.length := by
  induction l with
  | nil => intro d; rfl
  | cons y l ih => intro d; simp [signsR, ih]
structure SignsOk (l : List Int) (d : D) (r : List Int × D) : Prop where
  ok : DOk r.2
  raw : DRaw r.2
  b : r.2.b = d.b
  cnt : r.2.count ≤ d.count + l.length
theorem sgn_ok (d : D) (x : Int) (h : DOk d) (hr : DRaw d) (hc : d.count ≤ 900000000000000000) : DOk (sgnD d x) ∧ DRaw (sgnD d x) ∧ (sgnD d x).b = d.b ∧ (sgnD d x).count ≤ d.count + 1 := by
  unfold sgnD
  split
  · obtain ⟨a, b, c, e, _⟩ := bits_ok d h hr 1 (by omega) (by omega) hc
    exact ⟨a, b, e, by omega⟩
  · exact ⟨h, hr, rfl, by omega⟩
theorem signs_ok : ∀ (l : List Int) (d : D), DOk d → DRaw d → d.count + l.length ≤ 900000000000000000 → SignsOk l d (signsR l d)
  | [], d, h, hr, hc => ⟨h, hr, rfl, by simp [signsR]⟩
  | x :: l, d, h, hr, hc => by
    simp only [List.length_cons] at hc
    obtain ⟨a, b, c, e⟩ := sgn_ok d x h hr (by omega)
    obtain ⟨p, q, r, s⟩ := signs_ok l (sgnD d x) a b (by omega)
    exact ⟨p, q, r.trans c, by simp only [List.length_cons]; show (signsR l (sgnD d x)).2.count ≤ _; omega⟩
/-- A block. -/
def shareB (d : D) : List Int × D := shareR 4 (d.sym (icdf 5)) (d.symV (icdf 5))
def blockR (d : D) : List Int × D := signsR (shareB d).1 (shareB d).2
def pulsesR : Nat → D → List Int × D
  | 0, d => ([], d)
  | n + 1, d => ((pulsesR n d).1 ++ (blockR (pulsesR n d).2).1, (blockR (pulsesR n d).2).2)
theorem icdf5_len : (icdf 5).length = 17 := by decide +kernel
structure BlockOk (d : D) (r : List Int × D) : Prop where
  ok : DOk r.2
  raw : DRaw r.2
  b : r.2.b = d.b
  cnt : r.2.count ≤ d.count + 1000
  len : r.1.length = 16
theorem shareB_ok (d : D) (h : DOk d) (hr : DRaw d) (hc : d.count ≤ 700000000000000000) : DOk (d.sym (icdf 5)) ∧ DRaw (d.sym (icdf 5)) ∧ (d.sym (icdf 5)).count ≤ d.count + 24 ∧ 0 ≤ d.symV (icdf 5) ∧ d.symV (icdf 5) ≤ 16 ∧ ShareOk 4 (d.sym (icdf 5)) (d.symV (icdf 5)) (shareB d) := by
  obtain ⟨s1, s2, s3, s4, s5⟩ := sym_ok d h (icdf 5) (icdf_ok 5 (by omega)) (icdf_pos 5) (by omega)
  rw [icdf5_len] at s5
  exact ⟨s1, sym_raw d hr _, s2, s4, by omega, share_ok 4 _ _ s1 (sym_raw d hr _) s4 (by omega) (by omega)⟩
theorem block_ok (d : D) (h : DOk d) (hr : DRaw d) (hc : d.count ≤ 700000000000000000) : BlockOk d (blockR d) := by
  obtain ⟨s1, s2, s3, s4, s5, S⟩ := shareB_ok d h hr hc
  have hcn := S.cnt
  have hl := S.len
  obtain ⟨a1, a2, a3, a4⟩ := signs_ok (shareB d).1 (shareB d).2 S.ok S.raw (by omega)
  refine ⟨a1, a2, (a3.trans S.b).trans (sym_ok d h (icdf 5) (icdf_ok 5 (by omega)) (icdf_pos 5) (by omega)).2.2.1, ?_, ?_⟩
  · show (signsR _ _).2.count ≤ _
    omega
  · show (signsR _ _).1.length = 16
    rw [signsR_length, hl]
structure PulsesOk (n : Nat) (d : D) (r : List Int × D) : Prop where
  ok : DOk r.2
  raw : DRaw r.2
  b : r.2.b = d.b
  cnt : r.2.count ≤ d.count + 1000 * n
  len : r.1.length = 16 * n
theorem pulses_ok (d : D) (h : DOk d) (hr : DRaw d) : ∀ n : Nat, d.count + 1000 * n ≤ 700000000000000000 → PulsesOk n d (pulsesR n d)
  | 0, hc => ⟨h, hr, rfl, by show d.count ≤ _; omega, rfl⟩
  | n + 1, hc => by
    obtain ⟨a1, a2, a3, a4, a5⟩ := pulses_ok d h hr n (by omega)
    obtain ⟨b1, b2, b3, b4, b5⟩ := block_ok (pulsesR n d).2 a1 a2 (by omega)
    have e1 : (pulsesR (n + 1) d).2 = (blockR (pulsesR n d).2).2 := rfl
    have e2 : (pulsesR (n + 1) d).1 = (pulsesR n d).1 ++ (blockR (pulsesR n d).2).1 := rfl
    refine ⟨?_, ?_, ?_, ?_, ?_⟩
    · rw [e1]; exact b1
    · rw [e1]; exact b2
    · rw [e1]; exact b3.trans a3
    · rw [e1]; omega
    · rw [e2, List.length_append, a5, b5]; omega
/-- A slice of a row from a to e. -/
theorem slice_mid (t e : TypeId) {i : TypeInfo} (ht : Try.prog.underlying t = some (.slice e)) (hi : Try.prog.info? e = some i) (hsz : i.size = 1) (b n c : Nat) (lo hi' : Int) (h0 : 0 ≤ lo) (h1 : lo ≤ hi') (h2 : hi' ≤ c) (h3 : lo < c) (W : World) (hc : c ≤ 9223372036854775807) :
    (Instr.slice t (.slice (some ⟨b, 0, none⟩) n c) (some (.int .i64 lo)) (some (.int .i64 hi')) none).run Try.prog W = .ok (.slice (some ⟨b, lo.toNat, none⟩) (hi' - lo).toNat (c - lo.toNat)) W := by
  have hel : Try.prog.elem t = e := by simp [Program.elem, ht]
  have hu : Try.prog.underlying t = some (.slice (Try.prog.elem t)) := by rw [hel]; exact ht
  rw [run_slice_lh W t _ n c hu .i64 .i64 lo hi' h0 h1 (by omega), hel]
  have hne : c ≠ lo.toNat := by omega
  simp [sizeOf, typeInfo, hi, hsz, sliced, Result.andThen, hne, Addr.add]
  omega
end Go.Proofs.Ytiabenmgbikllaa.M

-- P4
namespace Go.Proofs.Ytiabenmgbikllaa.M
set_option linter.unusedVariables false
open Go.RowKit Go.Proofs.YtiabenmgbikllaaW.PrintWords Go.Proofs.YtiabenmgbikllaaW.PrintLast Go.Proofs.YtiabenmgbikllaaW.PrintMore Go.Proofs.Ytiabenmgbikllaa.PAll
attribute [local go_sem] max2_int min2_int max_two min_two max_three min_three max_four min_four

theorem lay_rd (xs : List Int) (a : Nat) (ys : List Int) (j : Nat) (hj : j < ys.length) (h : a + ys.length ≤ xs.length) : rd (lay xs a ys) ((a + j : Nat) : Int) = rd ys (j : Int) := by
  rw [← rd_eq, ← rd_eq]
  unfold lay
  have h1 : (xs.take a).length = a := by simp; omega
  simp only [List.getD]
  rw [List.getElem?_append_right (by omega), h1, show a + j - a = j by omega, List.getElem?_append_left hj]
theorem lay_set (xs : List Int) (a : Nat) (ys : List Int) (j : Nat) (v : Int) (hj : j < ys.length) (h : a + ys.length ≤ xs.length) : (lay xs a ys).set (a + j) v = lay xs a (ys.set j v) := by
  unfold lay
  have h1 : (xs.take a).length = a := by simp; omega
  rw [List.set_append_right _ _ (by omega), h1, show a + j - a = j by omega, List.set_append_left _ _ hj, List.length_set]
theorem mid_set (A S : List Int) (v : Int) (h : A.length < S.length) : (A ++ S.drop A.length).set A.length v = (A ++ [v]) ++ S.drop (A.length + 1) := by
  rw [List.set_append_right _ _ (Nat.le_refl _), Nat.sub_self, List.drop_eq_getElem_cons h]
  simp only [List.set_cons_zero, List.append_assoc, List.cons_append, List.nil_append]
theorem mid_same (A S : List Int) (h : A.length < S.length) : A ++ S.drop A.length = (A ++ [rd S A.length]) ++ S.drop (A.length + 1) := by
  rw [List.drop_eq_getElem_cons h, ← rd_eq]
  simp [List.getD, h]
theorem mid_rd (A S : List Int) (h : A.length < S.length) : rd (A ++ S.drop A.length) (A.length : Int) = rd S (A.length : Int) := by
  rw [← rd_eq, ← rd_eq, List.getD, List.getD, List.getElem?_append_right (Nat.le_refl _), Nat.sub_self, List.getElem?_drop, Nat.add_zero]
theorem take_snoc_rd (S : List Int) (j : Nat) (h : j < S.length) : S.take (j + 1) = S.take j ++ [rd S j] := by
  rw [List.take_succ_eq_append_getElem h, ← rd_eq]
  simp [List.getD, h]
/-- The signs up to place j are read. -/
structure SgnAt (w w0 wr : World) (g L : Nat) (xs S : List Int) (D0 : D) (a j : Nat) : Prop where
  dec : DecAt w0 wr g (signsR (S.take j) D0).2
  blk : Blk wr L (lay xs a ((signsR (S.take j) D0).1 ++ S.drop j))
  chg : Chg w wr (One g)
theorem SgnAt.cell {w w0 wr : World} {g L : Nat} {xs S : List Int} {D0 : D} {a j : Nat} (h : SgnAt w w0 wr g L xs S D0 a j) (hj : j < S.length) (ha : a + S.length ≤ xs.length) : wr.cell? ⟨L, a + j, none⟩ = some (.int .i64 (rd S j)) := by
  have hl : (signsR (S.take j) D0).1.length = j := by rw [signsR_length]; simp; omega
  have hll : ((signsR (S.take j) D0).1 ++ S.drop j).length = S.length := by rw [List.length_append, hl]; simp; omega
  rw [h.blk.cell (a + j) (by rw [lay_length _ _ _ (by omega)]; omega), lay_rd _ _ _ _ (by omega) (by omega)]
  have := mid_rd (signsR (S.take j) D0).1 S (by omega)
  rw [hl] at this
  rw [this]
theorem SgnAt.keep {w w0 wr w1 : World} {g L : Nat} {xs S : List Int} {D0 : D} {a j : Nat} (h : SgnAt w w0 wr g L xs S D0 a j) (hj : j < S.length) (hd : DecAt w0 w1 g (sgnD (signsR (S.take j) D0).2 (rd S j))) (hv : sgnV (signsR (S.take j) D0).2 (rd S j) = rd S j) (hb : Blk w1 L (lay xs a ((signsR (S.take j) D0).1 ++ S.drop j))) (hc : Chg w w1 (One g)) : SgnAt w w0 w1 g L xs S D0 a (j + 1) := by
  have hl : (signsR (S.take j) D0).1.length = j := by rw [signsR_length]; simp; omega
  have hs := take_snoc_rd S j hj
  have e := signsR_snoc (S.take j) (rd S j) D0
  rw [← hs] at e
  have hm := mid_same (signsR (S.take j) D0).1 S (by omega)
  rw [hl] at hm
  refine ⟨by rw [e]; exact hd, ?_, hc⟩
  rw [e]
  show Blk w1 L (lay xs a (((signsR (S.take j) D0).1 ++ [sgnV (signsR (S.take j) D0).2 (rd S j)]) ++ S.drop (j + 1)))
  rw [hv, ← hm]
  exact hb
theorem SgnAt.turn {w w0 wr w1 : World} {g L : Nat} {xs S : List Int} {D0 : D} {a j : Nat} {v : Int} (h : SgnAt w w0 wr g L xs S D0 a j) (hj : j < S.length) (ha : a + S.length ≤ xs.length) (hne : g ≠ L) (hL : w.heap.size ≤ L) (hL0 : w0.heap.size ≤ L) (hd : DecAt w0 w1 g (sgnD (signsR (S.take j) D0).2 (rd S j))) (hv : sgnV (signsR (S.take j) D0).2 (rd S j) = v) (hb : Blk w1 L (lay xs a ((signsR (S.take j) D0).1 ++ S.drop j))) (hc : Chg w w1 (One g)) :
    SgnAt w w0 (w1.setCell ⟨L, a + j, none⟩ (.int .i64 v)) g L xs S D0 a (j + 1) := by
  have hl : (signsR (S.take j) D0).1.length = j := by rw [signsR_length]; simp; omega
  have hll : ((signsR (S.take j) D0).1 ++ S.drop j).length = S.length := by rw [List.length_append, hl]; simp; omega
  have hs := take_snoc_rd S j hj
  have e := signsR_snoc (S.take j) (rd S j) D0
  rw [← hs] at e
  have hm := mid_set (signsR (S.take j) D0).1 S v (by omega)
  rw [hl] at hm
  have kc : Chg w1 (w1.setCell ⟨L, a + j, none⟩ (.int .i64 v)) (One L) := (Chg.refl w1 (One L)).setCell (p := ⟨L, a + j, none⟩) (.inl rfl) _
  refine ⟨?_, ?_, hc.setCell (p := ⟨L, a + j, none⟩) (.inr hL) _⟩
  · rw [e]; exact hd.chg kc (fun hh => hne hh) (fun i hi => by rw [show i = L from hi]; exact hL0)
  · rw [e]
    show Blk _ L (lay xs a (((signsR (S.take j) D0).1 ++ [sgnV (signsR (S.take j) D0).2 (rd S j)]) ++ S.drop (j + 1)))
    rw [hv, ← hm, ← lay_set _ _ _ _ _ (by omega) (by omega)]
    exact hb.set (a + j) v
theorem may_yes (n : Nat) (N : Nat) (h : n = 16 * N) (h0 : 1 ≤ N) (h1 : N ≤ 30) : pulse_may.f (n : Int) = some true := by
  unfold pulse_may.f
  rw [if_pos (by omega), if_pos (by omega), Int.tmod_eq_emod_of_nonneg (by omega)]
  simp; omega
theorem info2 : (Try.prog.info? 2).map (fun i => (i.zero, i.size, i.bytes)) = some (some (.int .i64 0), 1, 8) := by kernel_rfl
/-- The blocks up to i are read. -/
structure RdAt (w w0 wr : World) (g L : Nat) (d : D) (n i : Nat) : Prop where
  dec : DecAt w0 wr g (pulsesR i d).2
  blk : Blk wr L ((pulsesR i d).1 ++ List.replicate (n - 16 * i) 0)
  chg : Chg w wr (One g)
theorem blk_made (w : World) (n : Nat) : Blk (w.alloc (.cells (madeCells #[.int .i64 0] n) 2)) w.heap.size (List.replicate n 0) := by
  have := heap_alloc_new w (.cells (madeCells #[.int .i64 0] n) 2)
  unfold Blk
  rw [this]
  have e : madeCells #[.int .i64 0] n = (nums .i64 (List.replicate n 0)).toArray := by
    apply Array.toList_inj.1
    rw [toList_madeCells_one]
    simp [nums]
  rw [e]
theorem RdAt.start (w0 w W : World) (g L : Nat) (d : D) (n : Nat) (h : DecAt w0 W g d) (hb : Blk W L (List.replicate n 0)) (hc : Chg w W (One g)) : RdAt w w0 W g L d n 0 := ⟨h, hb, hc⟩
theorem RdAt.next {w w0 wr w1 : World} {g L : Nat} {d : D} {n i : Nat} (h : RdAt w w0 wr g L d n i) (hs : SgnAt w w0 w1 g L ((pulsesR i d).1 ++ List.replicate (n - 16 * i) 0) (shareB (pulsesR i d).2).1 (shareB (pulsesR i d).2).2 (16 * i) 16) (hlen : (shareB (pulsesR i d).2).1.length = 16) (hp : (pulsesR i d).1.length = 16 * i) (hn : 16 * i + 16 ≤ n) : RdAt w w0 w1 g L d n (i + 1) := by
  obtain ⟨s1, s2, s3⟩ := hs
  have e16 : (shareB (pulsesR i d).2).1.take 16 = (shareB (pulsesR i d).2).1 := List.take_of_length_le (by omega)
  have d16 : (shareB (pulsesR i d).2).1.drop 16 = [] := List.drop_eq_nil_of_le (by omega)
  rw [e16] at s1 s2
  rw [d16, List.append_nil] at s2
  have e1 : (pulsesR (i + 1) d).2 = (signsR (shareB (pulsesR i d).2).1 (shareB (pulsesR i d).2).2).2 := rfl
  have e2 : (pulsesR (i + 1) d).1 = (pulsesR i d).1 ++ (signsR (shareB (pulsesR i d).2).1 (shareB (pulsesR i d).2).2).1 := rfl
  have hl : (signsR (shareB (pulsesR i d).2).1 (shareB (pulsesR i d).2).2).1.length = 16 := by rw [signsR_length]; exact hlen
  refine ⟨by rw [e1]; exact s1, ?_, s3⟩
  rw [e2]
  have e3 : lay ((pulsesR i d).1 ++ List.replicate (n - 16 * i) 0) (16 * i) (signsR (shareB (pulsesR i d).2).1 (shareB (pulsesR i d).2).2).1 = ((pulsesR i d).1 ++ (signsR (shareB (pulsesR i d).2).1 (shareB (pulsesR i d).2).2).1) ++ List.replicate (n - 16 * (i + 1)) 0 := by
    unfold lay
    rw [List.take_left' hp, hl, List.drop_append, hp, List.drop_eq_nil_of_le (by omega), List.nil_append, List.drop_replicate, List.append_assoc]
    congr 3
    omega
  rw [← e3]
  exact s2
set_option maxHeartbeats 4000000 in
set_option maxRecDepth 100000 in
theorem dread_calls (w0 w : World) (g : Nat) (d : D) (n N : Nat) (hN : n = 16 * N) (h0 : 1 ≤ N) (h1 : N ≤ 30) (h : DecAt w0 w g d) (hd : DOk d) (hr : DRaw d) (hc : d.count ≤ 1000000) :
    Calls Try.prog 37 #[.pointer (some ⟨g, 0, none⟩), .int .i64 n] w fun r w' => ∃ L, r = .returned (.tuple #[.slice (some ⟨L, 0, none⟩) n n, .int .i64 0]) ∧ Blk w' L (pulsesR N d).1 ∧ DecAt w0 w' g (pulsesR N d).2 ∧ Chg w w' (One g) ∧ w.heap.size ≤ L := by
  have hn1 : n ≤ 480 := by omega
  have hn0 : 16 ≤ n := by omega
  have HH := Aside0.mk (And.intro h (And.intro hd hr))
  have hgl := h.lt
  have hg0 := h.ge
  have HM := Aside0.mk (may_yes n N hN h0 h1)
  have HN := Aside0.mk hN
  clear h hd hr hN
  have hmk := print_make (P := Try.prog) 45 2 .i64 8 Try.underlying45 info2 (by omega) n (by omega)
  go_enter Try.func37, Try.ntmps37
  go_wp2_with (go_at_call 85; refine (pulse_may.calls n true _ HM.out).mono ?_; rintro r w1 ⟨rfl, hd1⟩; obtain ⟨n1, rfl⟩ := hd1.out)
  obtain ⟨W, hW⟩ : ∃ W, W = (w.drewN n1).alloc (.cells (madeCells #[.int .i64 0] n) 2) := ⟨_, rfl⟩
  obtain ⟨L, hL⟩ : ∃ L, L = w.heap.size := ⟨_, rfl⟩
  have hc0 : Chg w W (One g) := by rw [hW]; exact ((Chg.refl w (One g)).drewN n1).alloc _
  have hWs : Aside0 (W.heap.size = w.heap.size + 1) := ⟨by rw [hW]; simp⟩
  have HS : Aside0 (RdAt w w0 W g L d n 0) := ⟨RdAt.start w0 w W g L d n (HH.out.1.chg (by rw [hW]; exact ((Chg.refl w No).drewN n1).alloc _) (fun h => h) (fun _ h => False.elim h)) (by rw [hW, hL]; exact blk_made (w.drewN n1) n) hc0⟩
  have hgL : g ≠ L := by omega
  have hL0 : w0.heap.size ≤ L := by omega
  have hLw : w.heap.size ≤ L := by omega
  rw [show (w.drewN n1).alloc (.cells (madeCells #[.int .i64 0] n) 2) = W from hW.symm]
  rw [show w.heap.size = L from hL.symm]
  clear hmk hc0 hd1 hW hL
  go_loopg [7] N (fun k u7 wr => ∃ i a : Nat, u7 = .int .i64 (a : Int) ∧ k + i = N ∧ Aside0 (a = 16 * i ∧ RdAt w w0 wr g L d n i))
  case atStart => exact ⟨0, 0, rfl, rfl, ⟨rfl, HS.out⟩⟩
  case round =>
    clear HS
    obtain ⟨i, a, rfl, hk, HR⟩ := hrel
    by_cases hi : i < N
    · have ha : a + 16 ≤ n := by have := HR.out.1; have := HN.out; omega
      have P := pulses_ok d HH.out.2.1 HH.out.2.2 i (by omega)
      have hpc := P.cnt
      obtain ⟨s1, s2, s3, s4, s5, S⟩ := shareB_ok (pulsesR i d).2 P.ok P.raw (by omega)
      have hsc := S.cnt
      have HP := Aside0.mk (And.intro P (And.intro s1 (And.intro s2 S)))
      obtain ⟨k5, hk5⟩ : ∃ k5, k5 = (pulsesR i d).2.symV (icdf 5) := ⟨_, rfl⟩
      have HK := Aside0.mk hk5
      rw [← hk5] at s4 s5
      have hmid : ∀ W : World, (Instr.slice 45 (.slice (some ⟨L, 0, none⟩) n n) (some (.int .i64 (a : Int))) (some (.int .i64 ((a : Int) + 16))) none).run Try.prog W = .ok (.slice (some ⟨L, a, none⟩) 16 (n - a)) W := by
        intro W
        obtain ⟨i2, hi2, hz⟩ := Option.map_eq_some_iff.1 info2
        simp only [Prod.mk.injEq] at hz
        have := slice_mid 45 2 Try.underlying45 hi2 hz.2.1 L n n (a : Int) ((a : Int) + 16) (by omega) (by omega) (by omega) (by omega) W (by omega)
        rw [this]
        simp
        omega
      clear P S s1 s2 hk5
      go_wp2_with fail
      refine (icdf_calls wr 5 (by omega)).mono ?_
      rintro r w2 ⟨v2, rfl, h2⟩
      have H2 := Aside0.mk h2
      clear h2
      go_wp2_with fail
      refine (dsym_at w0 wr w2 g (pulsesR i d).2 5 v2 HR.out.2.dec HP.out.1.ok (by omega) H2.out (by omega)).mono ?_
      rintro r w3 ⟨rfl, h3, c3⟩
      have H3 := Aside0.mk (And.intro h3 (And.intro (HR.out.2.blk.chg c3 (fun hh => hgL (Eq.symm hh))) c3))
      rw [← HK.out]
      clear h3 c3
      go_wp2_with fail
      refine (share16 w0 g L hgL hL0 w3 _ _ a _ k5 H3.out.1 H3.out.2.1 HP.out.2.1 HP.out.2.2.1 s4 s5 (by omega) (by rw [List.length_append, List.length_replicate, HP.out.1.len]; have := HR.out.1; omega) (by omega)).mono ?_
      rintro r w4 ⟨rfl, h4, b4, c4⟩
      have c4' : Chg w w4 (One g) := (HR.out.2.chg.trans H3.out.2.2 (Ext.refl _ _)).trans c4 (fun k hk => by
        rcases hk with hk | hk
        · exact .inl hk
        · exact .inr (by omega))
      have hS4 : SgnAt w w0 w4 g L ((pulsesR i d).1 ++ List.replicate (n - 16 * i) 0) (shareB (pulsesR i d).2).1 (shareB (pulsesR i d).2).2 a 0 := ⟨by rw [HK.out] at h4; exact h4, by rw [HK.out] at b4; exact b4, c4'⟩
      have H4 := Aside0.mk hS4
      have hS16 := HP.out.2.2.2.len
      have hS16' : (shareB (pulsesR i d).2).1.length = 16 := hS16
      have hpos := HP.out.2.2.2.pos
      clear h4 b4 c4 c4' hS4 hS16
      obtain ⟨S, hS⟩ : ∃ S, S = (shareB (pulsesR i d).2).1 := ⟨_, rfl⟩
      obtain ⟨D0, hD0⟩ : ∃ D0, D0 = (shareB (pulsesR i d).2).2 := ⟨_, rfl⟩
      obtain ⟨xs, hxs⟩ : ∃ xs, xs = (pulsesR i d).1 ++ List.replicate (n - 16 * i) 0 := ⟨_, rfl⟩
      have hxl : Aside0 (xs.length = n) := ⟨by rw [hxs, List.length_append, List.length_replicate, HP.out.1.len]; have := HR.out.1; omega⟩
      have HD0 : Aside0 (DOk D0 ∧ DRaw D0 ∧ D0.count ≤ 100000 + d.count) := ⟨by rw [hD0]; exact ⟨HP.out.2.2.2.ok, HP.out.2.2.2.raw, by have := HP.out.2.2.2.cnt; omega⟩⟩
      rw [← hS, ← hD0, ← hxs] at H4
      rw [← hS] at hpos hS16'
      rw [← HK.out] at hpos
      have HSS := Aside0.mk (And.intro hS (And.intro hD0 hxs))
      have HPos := Aside0.mk (And.intro hpos hS16')
      clear hS hD0 hxs hpos hS16' hmid hpc hsc
      go_wp2_with fail
      go_loopg [33] 16 (fun k u33 wq => ∃ j : Nat, u33 = .int .i64 (j : Int) ∧ k + j = 16 ∧ Aside0 (SgnAt w w0 wq g L xs S D0 a j))
      case atStart => exact ⟨0, rfl, rfl, H4⟩
      case round =>
        clear H4
        obtain ⟨j, rfl, hkj, HI⟩ := hrel
        by_cases hj : j < 16
        · have y0 := HI.out.cell (by rw [HPos.out.2]; exact hj) (by rw [HPos.out.2, hxl.out]; omega)
          have z0 := HI.out.blk.frozen (a + j)
          have SO := signs_ok (S.take j) D0 HD0.out.1 HD0.out.2.1 (by have := HD0.out.2.2; have : (S.take j).length ≤ j := List.length_take_le _ _; omega)
          have hcq : (signsR (S.take j) D0).2.count ≤ 10000000 := by have := SO.cnt; have := HD0.out.2.2; have : (S.take j).length ≤ j := List.length_take_le _ _; omega
          have hxr : 0 ≤ rd S j ∧ rd S j ≤ k5 := HPos.out.1 _ (by rw [← rd_eq]; simp [List.getD, show j < S.length by rw [HPos.out.2]; exact hj])
          obtain ⟨x, hx⟩ : ∃ x, x = rd S j := ⟨_, rfl⟩
          obtain ⟨dq, hdq⟩ : ∃ dq, dq = (signsR (S.take j) D0).2 := ⟨_, rfl⟩
          rw [← hx] at y0 hxr
          rw [← hdq] at hcq
          have HX := Aside0.mk (And.intro hx hdq)
          have HQ : Aside0 (DOk dq ∧ DRaw dq ∧ DecAt w0 wr g dq) := ⟨by rw [hdq]; exact ⟨SO.ok, SO.raw, HI.out.dec⟩⟩
          clear hx hdq SO
          by_cases hp : 0 < x
          · obtain ⟨bv, hbv⟩ : ∃ bv, bv = dq.bitsV 1 := ⟨_, rfl⟩
            have HB := Aside0.mk hbv
            clear hbv
            go_wp2_with fail
            refine (dbits_calls w0 wr g dq 1 HQ.out.2.2 HQ.out.1 HQ.out.2.1 (by omega) (by omega) (by omega)).mono ?_
            rintro r w5 ⟨rfl, h5, c5⟩
            rw [← HB.out]
            have H5 := Aside0.mk (And.intro h5 (And.intro (HI.out.blk.chg c5 (fun hh => hgL (Eq.symm hh))) (HI.out.chg.trans c5 (Ext.refl _ _))))
            have y5 : w5.cell? ⟨L, a + j, none⟩ = some (.int .i64 x) := by
              have h7 : SgnAt w w0 wr g L xs S D0 a j := HI.out
              have h8 : Blk w5 L (lay xs a ((signsR (S.take j) D0).1 ++ S.drop j)) := H5.out.2.1
              have hl : (signsR (S.take j) D0).1.length = j := by rw [signsR_length]; simp; rw [HPos.out.2]; omega
              have hll : ((signsR (S.take j) D0).1 ++ S.drop j).length = 16 := by rw [List.length_append, hl]; simp; rw [HPos.out.2]; omega
              have hm := mid_rd (signsR (S.take j) D0).1 S (by rw [hl, HPos.out.2]; exact hj)
              rw [hl] at hm
              rw [h8.cell (a + j) (by rw [lay_length _ _ _ (by rw [hll, hxl.out]; omega), hxl.out]; omega), lay_rd _ _ _ _ (by rw [hll]; omega) (by rw [hll, hxl.out]; omega), hm, HX.out.1]
            have z5 := H5.out.2.1.frozen (a + j)
            have hsD : sgnD (signsR (S.take j) D0).2 (rd S j) = dq.bits 1 := by rw [← HX.out.1, ← HX.out.2]; exact if_pos hp
            have hsV : sgnV (signsR (S.take j) D0).2 (rd S j) = if bv = 1 then -x else x := by rw [← HX.out.1, ← HX.out.2, HB.out]; exact if_pos hp
            have HSD := Aside0.mk (And.intro hsD hsV)
            clear h5 c5 hsD hsV y0 z0
            by_cases hb : bv = 1
            · have hT : SgnAt w w0 (w5.setCell ⟨L, a + j, none⟩ (.int .i64 (-x))) g L xs S D0 a (j + 1) :=
                HI.out.turn (by rw [HPos.out.2]; exact hj) (by rw [HPos.out.2, hxl.out]; omega) hgL hLw hL0 (by rw [HSD.out.1]; exact H5.out.1) (by rw [HSD.out.2, if_pos hb]) H5.out.2.1 H5.out.2.2
              have HT := Aside0.mk hT
              clear hT HSD HB
              subst hb
              go_wp2_with fail
              go_roundg (gk - 1)
              case measure => omega
              case rel => exact ⟨j + 1, by go_num, by omega, HT⟩
            · have hT : SgnAt w w0 w5 g L xs S D0 a (j + 1) := HI.out.keep (by rw [HPos.out.2]; exact hj) (by rw [HSD.out.1]; exact H5.out.1) (by rw [HSD.out.2, if_neg hb, HX.out.1]) H5.out.2.1 H5.out.2.2
              have HT := Aside0.mk hT
              have hbb : (bv == 1) = false := by simpa using hb
              clear hT HSD HB hb y5 z5
              go_wp2_with fail
              go_roundg (gk - 1)
              case measure => omega
              case rel => exact ⟨j + 1, by go_num, by omega, HT⟩
          · have hsD : sgnD (signsR (S.take j) D0).2 (rd S j) = dq := by rw [← HX.out.1, ← HX.out.2]; exact if_neg hp
            have hsV : sgnV (signsR (S.take j) D0).2 (rd S j) = rd S j := by rw [← HX.out.1, ← HX.out.2]; exact if_neg hp
            have hT : SgnAt w w0 wr g L xs S D0 a (j + 1) := HI.out.keep (by rw [HPos.out.2]; exact hj) (by rw [hsD]; exact HQ.out.2.2) hsV HI.out.blk HI.out.chg
            have HT := Aside0.mk hT
            have hpb : decide (0 < x) = false := by simpa using hp
            clear hT hsD hsV
            go_wp2_with fail
            go_roundg (gk - 1)
            case measure => omega
            case rel => exact ⟨j + 1, by go_num, by omega, HT⟩
        · have hj16 : j = 16 := by omega
          have hT : RdAt w w0 wr g L d n (i + 1) := by
            have h7 := HI.out
            rw [hj16, HSS.out.1, HSS.out.2.1, HSS.out.2.2, HR.out.1] at h7
            exact HR.out.2.next h7 (by rw [← HSS.out.1]; exact HPos.out.2) HP.out.1.len (by have := HR.out.1; omega)
          have HT := Aside0.mk (And.intro (show a + 16 = 16 * (i + 1) by have := HR.out.1; omega) hT)
          subst hj16
          clear hT
          go_wp2_with fail
          go_roundg (N - i - 1)
          case measure => omega
          case rel => exact ⟨i + 1, a + 16, by go_num, by omega, HT⟩
    · have hiN : i = N := by omega
      have HF : Aside0 (Blk wr L (pulsesR N d).1 ∧ DecAt w0 wr g (pulsesR N d).2 ∧ Chg w wr (One g)) := by
        obtain ⟨q1, q2, q3⟩ := HR.out.2
        rw [hiN] at q1 q2
        rw [show n - 16 * N = 0 by have := HN.out; omega] at q2
        simp only [List.replicate_zero, List.append_nil] at q2
        exact ⟨q2, q1, q3⟩
      have han : n ≤ a := by have := HR.out.1; have := HN.out; omega
      clear HR
      go_wp2_with fail
      go_returns
      exact ⟨L, rfl, HF.out.1, HF.out.2.1, HF.out.2.2, hLw⟩
end Go.Proofs.Ytiabenmgbikllaa.M

-- PAllx5
namespace Go.Proofs.Ytiabenmgbikllaa.PAll
open Go.RowKit Go.Proofs.YtiabenmgbikllaaW.PrintWords Go.Proofs.YtiabenmgbikllaaW.PrintLast Go.Proofs.YtiabenmgbikllaaW.PrintMore
attribute [local go_sem] max2_int min2_int max_two min_two max_three min_three max_four min_four   -- for this text's walks alone
set_option linter.unusedVariables false
set_option linter.unusedSimpArgs false

mutual
def madrigalref17_GoodPulses.j0 : Nat → List Int → Bool → Option (Bool)
  | 0, _, _ => none
  | k + 1, x0, x19 => if x19 = true then (some false) else (madrigalref17_GoodPulses.l0 k x0 0)
def madrigalref17_GoodPulses.l0 : Nat → List Int → Int → Option (Bool)
  | 0, _, _ => none
  | k + 1, x0, x3 => if x3 < (x0.length : Int) then (madrigalref17_GoodPulses.l1 k x0 x3 0 x3) else (some true)
def madrigalref17_GoodPulses.l1 : Nat → List Int → Int → Int → Int → Option (Bool)
  | 0, _, _, _, _ => none
  | k + 1, x0, x3, x4, x5 => if x5 < (wrap64 (x3 + 16)) then (if 0 ≤ x5 then (if x5 < (x0.length : Int) then (if (rd x0 x5) < (-16) then (some false) else (if (rd x0 x5) > 16 then (some false) else ((madrigalref17_size.f (rd x0 x5)).bind fun t542 => (madrigalref17_GoodPulses.l1 k x0 x3 (wrap64 (x4 + t542)) (wrap64 (x5 + 1)))))) else (none)) else (none)) else (if x4 > 16 then (some false) else (madrigalref17_GoodPulses.l0 k x0 (wrap64 (x3 + 16))))
end
def madrigalref17_GoodPulses.f (k : Nat) (l0 : List Int) : Option (Bool) := if (l0.length : Int) < 16 then (madrigalref17_GoodPulses.j0 k l0 true) else (if (l0.length : Int) > 480 then (madrigalref17_GoodPulses.j0 k l0 true) else (madrigalref17_GoodPulses.j0 k l0 (((l0.length : Int) % 16) != 0)))
theorem madrigalref17_GoodPulses.mono_l : ∀ k, (∀ y0 y1, LeO (madrigalref17_GoodPulses.j0 k y0 y1) (madrigalref17_GoodPulses.j0 (k + 1) y0 y1)) ∧ (∀ y0 y1, LeO (madrigalref17_GoodPulses.l0 k y0 y1) (madrigalref17_GoodPulses.l0 (k + 1) y0 y1)) ∧ (∀ y0 y1 y2 y3, LeO (madrigalref17_GoodPulses.l1 k y0 y1 y2 y3) (madrigalref17_GoodPulses.l1 (k + 1) y0 y1 y2 y3))
  | 0 => ⟨fun _ _ r h => by simp [madrigalref17_GoodPulses.j0] at h, fun _ _ r h => by simp [madrigalref17_GoodPulses.l0] at h, fun _ _ _ _ r h => by simp [madrigalref17_GoodPulses.l1] at h⟩
  | k + 1 => by
    obtain ⟨ih0, ih1, ih2⟩ := madrigalref17_GoodPulses.mono_l k
    refine ⟨?_, ?_, ?_⟩
    · intro y0 y1
      unfold madrigalref17_GoodPulses.j0
      repeat' first
      | (with_reducible exact ih0 _ _)
      | (with_reducible exact ih1 _ _)
      | (with_reducible exact ih2 _ _ _ _)
      | (with_reducible exact LeO.refl _)
      | (with_reducible exact LeO.none _)
      | (with_reducible refine LeO.ite ?_ ?_)
      | (with_reducible refine LeO.bind ?_ (fun _ => ?_))
      | exact ih0 _ _
      | exact ih1 _ _
      | exact ih2 _ _ _ _
      | exact LeO.none _
      | refine LeO.ite ?_ ?_
      | refine LeO.bind ?_ (fun _ => ?_)
    · intro y0 y1
      unfold madrigalref17_GoodPulses.l0
      repeat' first
      | (with_reducible exact ih0 _ _)
      | (with_reducible exact ih1 _ _)
      | (with_reducible exact ih2 _ _ _ _)
      | (with_reducible exact LeO.refl _)
      | (with_reducible exact LeO.none _)
      | (with_reducible refine LeO.ite ?_ ?_)
      | (with_reducible refine LeO.bind ?_ (fun _ => ?_))
      | exact ih0 _ _
      | exact ih1 _ _
      | exact ih2 _ _ _ _
      | exact LeO.none _
      | refine LeO.ite ?_ ?_
      | refine LeO.bind ?_ (fun _ => ?_)
    · intro y0 y1 y2 y3
      unfold madrigalref17_GoodPulses.l1
      repeat' first
      | (with_reducible exact ih0 _ _)
      | (with_reducible exact ih1 _ _)
      | (with_reducible exact ih2 _ _ _ _)
      | (with_reducible exact LeO.refl _)
      | (with_reducible exact LeO.none _)
      | (with_reducible refine LeO.ite ?_ ?_)
      | (with_reducible refine LeO.bind ?_ (fun _ => ?_))
      | exact ih0 _ _
      | exact ih1 _ _
      | exact ih2 _ _ _ _
      | exact LeO.none _
      | refine LeO.ite ?_ ?_
      | refine LeO.bind ?_ (fun _ => ?_)
theorem madrigalref17_GoodPulses.mono : ∀ a0 k, LeO (madrigalref17_GoodPulses.f k a0) (madrigalref17_GoodPulses.f (k + 1) a0) := by
  intro a0 k
  obtain ⟨ih0, ih1, ih2⟩ := madrigalref17_GoodPulses.mono_l k
  unfold madrigalref17_GoodPulses.f
  repeat' first
      | (with_reducible exact ih0 _ _)
      | (with_reducible exact ih1 _ _)
      | (with_reducible exact ih2 _ _ _ _)
      | (with_reducible exact LeO.refl _)
      | (with_reducible exact LeO.none _)
      | (with_reducible refine LeO.ite ?_ ?_)
      | (with_reducible refine LeO.bind ?_ (fun _ => ?_))
      | exact ih0 _ _
      | exact ih1 _ _
      | exact ih2 _ _ _ _
      | exact LeO.none _
      | refine LeO.ite ?_ ?_
      | refine LeO.bind ?_ (fun _ => ?_)
-- NOT PRINTED: function 100 (madrigalref17_share)

-- NOT PRINTED: function 46 (madrigalref17_Pulses)

-- NOT PRINTED: function 6 (madrigallaw9_PulseBack)

def fix_Sqrt.l0 : Nat → Int → Int → Int → Option (Int)
  | 0, _, _, _ => none
  | k + 1, x3, x4, x5 => if x5 > 0 then (if x3 ≥ (IntKind.u64.wrap (x4 + x5)) then (fix_Sqrt.l0 k (IntKind.u64.wrap (x3 - (IntKind.u64.wrap (x4 + x5)))) (IntKind.u64.wrap ((x4 / 2) + x5)) (x5 / 4)) else (fix_Sqrt.l0 k x3 (x4 / 2) (x5 / 4))) else (some (wrap64 (x4)))
def fix_Sqrt.f (k : Nat) (a0 : Int) : Option (Int) := if a0 < 0 then (some 0) else (fix_Sqrt.l0 k (IntKind.u64.wrap (a0)) 0 4611686018427387904)
theorem fix_Sqrt.mono_l : ∀ k, (∀ y0 y1 y2, LeO (fix_Sqrt.l0 k y0 y1 y2) (fix_Sqrt.l0 (k + 1) y0 y1 y2))
  | 0 => fun _ _ _ r h => by simp [fix_Sqrt.l0] at h
  | k + 1 => by
    have ih0 := fix_Sqrt.mono_l k
    · intro y0 y1 y2
      unfold fix_Sqrt.l0
      repeat' first
      | (with_reducible exact ih0 _ _ _)
      | (with_reducible exact LeO.refl _)
      | (with_reducible exact LeO.none _)
      | (with_reducible refine LeO.ite ?_ ?_)
      | (with_reducible refine LeO.bind ?_ (fun _ => ?_))
      | exact ih0 _ _ _
      | exact LeO.none _
      | refine LeO.ite ?_ ?_
      | refine LeO.bind ?_ (fun _ => ?_)
theorem fix_Sqrt.mono : ∀ a0 k, LeO (fix_Sqrt.f k a0) (fix_Sqrt.f (k + 1) a0) := by
  intro a0 k
  have ih0 := fix_Sqrt.mono_l k
  unfold fix_Sqrt.f
  repeat' first
      | (with_reducible exact ih0 _ _ _)
      | (with_reducible exact LeO.refl _)
      | (with_reducible exact LeO.none _)
      | (with_reducible refine LeO.ite ?_ ?_)
      | (with_reducible refine LeO.bind ?_ (fun _ => ?_))
      | exact ih0 _ _ _
      | exact LeO.none _
      | refine LeO.ite ?_ ?_
      | refine LeO.bind ?_ (fun _ => ?_)
end Go.Proofs.Ytiabenmgbikllaa.PAll
