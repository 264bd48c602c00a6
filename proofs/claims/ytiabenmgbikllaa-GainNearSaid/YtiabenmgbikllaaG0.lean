/- Whole numbers of chapter 1: clamped, multiplied, powers of two. Conditions: none. -/
import Derived.Test.YtiabenmgbikllaaE4
import Derived.Outline
import Derived.Handy
namespace Go.Proofs.Ytiabenmgbikllaa.M
set_option linter.unusedVariables false
open Go.RowKit Go.Proofs.YtiabenmgbikllaaW.PrintWords Go.Proofs.YtiabenmgbikllaaW.PrintLast Go.Proofs.YtiabenmgbikllaaW.PrintMore Go.Proofs.Ytiabenmgbikllaa.PAll
attribute [local go_sem] max2_int min2_int max_two min_two max_three min_three max_four min_four

def clampI (a lo hi : Int) : Int := if lo > hi then lo else if a < lo then lo else if a > hi then hi else a
theorem clamp_f (a lo hi : Int) : fix_Clamp.f 1 a lo hi = some (clampI a lo hi) := by
  unfold fix_Clamp.f clampI
  by_cases h1 : lo > hi
  · rw [if_pos h1, if_pos h1]; simp [fix_Clamp.j0]
  · rw [if_neg h1, if_neg h1]
    by_cases h2 : a < lo
    · rw [if_pos h2]; simp [fix_Clamp.j0, h2]
    · rw [if_neg h2]; simp only [fix_Clamp.j0, h2, decide_false]
      by_cases h3 : a > hi
      · rw [if_pos h3]; simp [h3]
      · rw [if_neg h3]; simp [h3]
theorem clampI_range (a lo hi : Int) (h : lo ≤ hi) : lo ≤ clampI a lo hi ∧ clampI a lo hi ≤ hi := by
  unfold clampI
  rw [if_neg (by omega)]
  split
  · omega
  · split <;> omega
theorem clampI_id (a lo hi : Int) (h0 : lo ≤ a) (h1 : a ≤ hi) : clampI a lo hi = a := by
  unfold clampI
  rw [if_neg (by omega), if_neg (by omega), if_neg (by omega)]
def mulI (a b : Int) (s : Nat) : Int :=
  if s = 0 then clampI a (-2147483648) 2147483648 * clampI b (-2147483648) 2147483648
  else (clampI a (-2147483648) 2147483648 * clampI b (-2147483648) 2147483648 + 2 ^ (s - 1)) / 2 ^ s
theorem mul_bound (x y : Int) (hx0 : -2147483648 ≤ x) (hx1 : x ≤ 2147483648) (hy0 : -2147483648 ≤ y) (hy1 : y ≤ 2147483648) : -4611686018427387904 ≤ x * y ∧ x * y ≤ 4611686018427387904 := by
  have h1 : x.natAbs ≤ 2147483648 := by omega
  have h2 : y.natAbs ≤ 2147483648 := by omega
  have h3 : (x * y).natAbs ≤ 2147483648 * 2147483648 := by rw [Int.natAbs_mul]; exact Nat.mul_le_mul h1 h2
  omega
theorem mul_f (a b : Int) (s : Nat) (hs : s ≤ 62) : fix_Mul.f 1 a b s = some (mulI a b s) := by
  have ca := clampI_range a (-2147483648) 2147483648 (by decide)
  have cb := clampI_range b (-2147483648) 2147483648 (by decide)
  have hm := mul_bound _ _ ca.1 ca.2 cb.1 cb.2
  unfold fix_Mul.f fix_factor.f mulI
  rw [clamp_f, clamp_f]
  simp only [Option.bind_some]
  generalize clampI a (-2147483648) 2147483648 * clampI b (-2147483648) 2147483648 = p at hm
  have hw : wrap64 p = p := by unfold wrap64; omega
  rw [hw]
  by_cases h0 : s = 0
  · rw [if_pos (by omega), if_pos h0]
  · have h1 : wrap64 ((s : Int) - 1) = ((s - 1 : Nat) : Int) := by unfold wrap64; omega
    rw [if_neg (by omega), if_neg (by omega), if_neg (by omega), h1, if_pos (by omega), if_pos (by omega), if_neg h0]
    have hp : (2 : Int) ^ (s - 1) ≤ 2305843009213693952 ∧ 0 < (2 : Int) ^ (s - 1) := by
      constructor
      · have : (2 : Nat) ^ (s - 1) ≤ 2 ^ 61 := Nat.pow_le_pow_right (by decide) (by omega)
        have h2 : ((2 ^ (s - 1) : Nat) : Int) ≤ ((2 ^ 61 : Nat) : Int) := Int.ofNat_le.2 this
        simpa using h2
      · exact Int.pow_pos (by decide)
    have hsl : shl .i64 1 ((s - 1 : Nat) : Int) = 2 ^ (s - 1) := by
      unfold shl
      rw [Int.toNat_natCast, Nat.min_eq_left (by show s - 1 ≤ 64; omega), Int.one_mul, IntKind.wrap_i64]
      generalize (2 : Int) ^ (s - 1) = q at hp
      omega
    rw [hsl]
    have hw2 : wrap64 (p + 2 ^ (s - 1)) = p + 2 ^ (s - 1) := by
      generalize (2 : Int) ^ (s - 1) = q at hp
      unfold wrap64; omega
    rw [hw2]
    unfold shr
    rw [Int.toNat_natCast, Nat.min_eq_left (by show s ≤ 64; omega)]
theorem mul_calls (w : World) (a b : Int) (s : Nat) (hs : s ≤ 62) : Calls Try.prog 121 #[.int .i64 a, .int .i64 b, .int .i64 s] w fun r w' => r = .returned (.int .i64 (mulI a b s)) ∧ ∃ n, w' = w.drewN n :=
  (fix_Mul.calls 1 a b s _ w (mul_f a b s hs)).mono fun r w' ⟨h1, h2⟩ => ⟨h1, h2.out⟩
theorem clamp_calls (w : World) (a lo hi : Int) : Calls Try.prog 65 #[.int .i64 a, .int .i64 lo, .int .i64 hi] w fun r w' => r = .returned (.int .i64 (clampI a lo hi)) ∧ ∃ n, w' = w.drewN n :=
  (fix_Clamp.calls 1 a lo hi _ w (clamp_f a lo hi)).mono fun r w' ⟨h1, h2⟩ => ⟨h1, h2.out⟩

/-- The factors of a power of two. -/
def expC : List Int := [1518500250, 1276901417, 1170923762, 1121280436, 1097253708, 1085434106, 1079572136, 1076653033]
def expL (f : Int) : Nat → Int
  | 0 => 1073741824
  | k + 1 => if f / 2 ^ (7 - k) % 2 = 1 then mulI (expL f k) (expC.getD k 0) 30 else expL f k
def exp2 (q : Int) : Int := if q / 256 = 30 then expL (q % 256) 8 else mulI (expL (q % 256) 8) 1 (30 - q / 256).toNat

def expAgg : Value := .agg #[.int .i64 1518500250, .int .i64 1276901417, .int .i64 1170923762, .int .i64 1121280436, .int .i64 1097253708, .int .i64 1085434106, .int .i64 1079572136, .int .i64 1076653033]
theorem expIdx (w : World) : ∀ k : Nat, k < 8 → (Instr.index 125 (.agg #[.int .i64 1518500250, .int .i64 1276901417, .int .i64 1170923762, .int .i64 1121280436, .int .i64 1097253708, .int .i64 1085434106, .int .i64 1079572136, .int .i64 1076653033]) (.int .i64 k)).run Try.prog w = .ok (.int .i64 (expC.getD k 0)) w
  | 0, _ => by kernel_rfl
  | 1, _ => by kernel_rfl
  | 2, _ => by kernel_rfl
  | 3, _ => by kernel_rfl
  | 4, _ => by kernel_rfl
  | 5, _ => by kernel_rfl
  | 6, _ => by kernel_rfl
  | 7, _ => by kernel_rfl
  | k + 8, h => absurd h (by omega)

set_option maxHeartbeats 1000000 in
set_option maxRecDepth 100000 in
theorem exp2_calls (w : World) (q : Int) (h0 : 0 ≤ q) (h1 : q ≤ 7935) :
    Calls Try.prog 67 #[.int .i64 q] w fun r w' => r = .returned (.int .i64 (exp2 q)) ∧ ∃ n, w' = w.drewN n := by
  have hcl := Aside0.mk (clampI_id q 0 7935 h0 h1)
  have hand : bits .and .i64 q 255 = q % 256 := bits_mask .i64 63 (by decide) (fun n a b => IntWalk.i64_in _ (by omega)) 8 (by decide) q h0 (by omega)
  go_enter Try.func67, Try.ntmps67
  go_wp2_with (go_at_call 65; refine (clamp_calls _ q 0 7935).mono ?_; rintro r w1 ⟨rfl, nd, rfl⟩; rw [hcl.out])
  obtain ⟨f, hf⟩ : ∃ f : Int, f = q % 256 := ⟨_, rfl⟩
  obtain ⟨n, hn⟩ : ∃ n : Int, n = q / 256 := ⟨_, rfl⟩
  have hf0 : 0 ≤ f := by omega
  have hf1 : f < 256 := by omega
  have hn0 : 0 ≤ n := by omega
  have hn1 : n ≤ 30 := by omega
  have HF := Aside0.mk (And.intro hf hn)
  rw [← hf, ← hn]
  clear hf hn hand hcl h0 h1
  go_loopg [5, 6, 7, 15] 8 (fun k u5 u6 u7 u15 wr => ∃ i : Nat, u15 = .int .i64 i ∧ k + i = 8 ∧ u5 = .int .i64 (expL f i) ∧ ∃ nd, wr = w.drewN nd)
  case atStart => exact ⟨0, rfl, rfl, rfl, _, rfl⟩
  case round =>
    obtain ⟨i, rfl, hk, rfl, nd', rfl⟩ := hrel
    by_cases hi : i < 8
    · have hx := fun w' => expIdx w' i hi
      have hd0 : 0 ≤ f / 2 ^ (7 - i) := Int.ediv_nonneg hf0 (Int.le_of_lt (Int.pow_pos (by decide)))
      have hd1 : f / 2 ^ (7 - i) ≤ f := Int.ediv_le_self _ hf0
      have hand : bits .and .i64 (f / 2 ^ (7 - i)) 1 = f / 2 ^ (7 - i) % 2 := bits_mask .i64 63 (by decide) (fun n a b => IntWalk.i64_in _ (by omega)) 1 (by decide) _ hd0 (by omega)
      by_cases hb : f / 2 ^ (7 - i) % 2 = 1
      · have hbb : (f / 2 ^ (7 - i) % 2 == 1) = true := by rw [hb]; rfl
        have HS : Aside0 (expL f (i + 1) = mulI (expL f i) (expC.getD i 0) 30) := ⟨by show (if _ then _ else _) = _; rw [if_pos hb]⟩
        clear hb
        go_wp2_with (go_at_call 121; refine (mul_calls _ (expL f i) (expC.getD i 0) 30 (by omega)).mono ?_; rintro r w1 ⟨rfl, n1, rfl⟩)
        go_roundg (gk - 1)
        case measure => omega
        case rel => exact ⟨i + 1, by go_num, by omega, by rw [HS.out]; rfl, _, rfl⟩
      · have hbb : (f / 2 ^ (7 - i) % 2 == 1) = false := by simpa using hb
        have HS : Aside0 (expL f (i + 1) = expL f i) := ⟨by show (if _ then _ else _) = _; rw [if_neg hb]⟩
        clear hb
        go_wp2
        go_roundg (gk - 1)
        case measure => omega
        case rel => exact ⟨i + 1, by go_num, by omega, by rw [HS.out], _, rfl⟩
    · have h8 : i = 8 := by omega
      subst h8
      by_cases hn : n = 30
      · have hnb : (n == 30) = true := by rw [hn]; rfl
        have HE : Aside0 (exp2 q = expL f 8) := ⟨by rw [exp2, ← HF.out.1, ← HF.out.2, if_pos hn]⟩
        clear hn
        go_wp2
        go_returns
        exact ⟨by rw [HE.out]; rfl, _, rfl⟩
      · have hnb : (n == 30) = false := by simpa using hn
        obtain ⟨m, hm⟩ : ∃ m : Nat, 30 - n = m := Int.eq_ofNat_of_zero_le (by omega)
        have HE : Aside0 (exp2 q = mulI (expL f 8) 1 m) := ⟨by rw [exp2, ← HF.out.1, ← HF.out.2, if_neg hn, hm]; rfl⟩
        have hm30 : m ≤ 30 := by omega
        clear hn
        go_wp2_with (go_at_call 121; refine (mul_calls _ (expL f 8) 1 m (by omega)).mono ?_; rintro r w1 ⟨rfl, n1, rfl⟩)
        go_returns
        exact ⟨by rw [HE.out]; rfl, _, rfl⟩
end Go.Proofs.Ytiabenmgbikllaa.M
